/- Own texts, merged: ClRef4, P6Val, P6Ref, PaRef, PaRefB, PaRefC, PaAlive, P6Wants, P6Check, ThGood, ThSpec, ThMem, ThFun, ThAct, ThRest. -/
import Derived.Test.YtjlogcfggfmacaaGreatM7
set_option linter.unusedVariables false
set_option linter.unusedSimpArgs false
open Nat (reduceEqDiff reduceAdd reduceLeDiff)
set_option maxRecDepth 100000
set_option maxHeartbeats 4000000
namespace Go.Proofs.YtjlogcfggfmacaaGreat
section
open Go.Abs
theorem bslI {e:TypeId} {by_:Nat} {z v:AV} (hv:v.zdy=true) (h:z00) (K:AV->z00->Prop):z0j true { e:=e,sz:=1,by_:=by_ } [z] 1 [(0,v)] h K=K (.isl 1 [[v]]) h:=by
 have hc:v.cells=[v]:=by cases v <;> simp_all [AV.cells,AV.zdy]
 have hf:v.fits=true:=by cases v <;> simp_all [AV.fits,AV.zdy]
 simp [z0j,z90,hc,hf]
def Noughts (h hh:z00) (k:Nat) (v:AV):Prop:=(k=0/\v=.nils)\/(0<k/\∃ id,v=.sl id 0 k 1/\hh.objs id=some (.row 3 (nsAV (List.replicate k 0)))/\h.next<=id/\id<hh.next)
theorem app_nought {h hh:z00} {k:Nat} (hk:k<=1000) {v:AV} (hv:Noughts h hh k v) (kp:Keeps h hh (λ_=>False)) (K:AV->z00->Prop) (hK:∀ v2 h2,Noughts h h2 (k+1) v2->Keeps h h2 (λ_=>False)->K v2 h2):z0z false { e:=3,sz:=1,by_:=8 } v (.isl 1 [[.int .i64 0]]) hh K:=by
 rcases hv with ⟨rfl,rfl⟩ | ⟨h0,id,rfl,ho,h1,h2⟩
 ·have:=hK (.sl hh.next 0 1 1) (hh.push (.row 3 [.int .i64 0])) (Or.inr ⟨by omega,_,rfl,z0w _ _,kp.next,by simp⟩) (kp.zg9 _);simp [z0z,z10,zac,bounded,maxLen];exact this
 ·have:=hK (.sl hh.next 0 (k+1) 1) ((hh.kill id).push (.row 3 (nsAV (List.replicate (k+1) 0)))) (Or.inr ⟨by omega,_,rfl,z0w _ _,kp.next,by simp⟩) ((kp.zbe h1).zg9 _);have e:(nsAV (List.replicate k 0)).take (k*1)++[AV.int .i64 0]=nsAV (List.replicate (k+1) 0):=by
   rw [Nat.mul_one];have:(nsAV (List.replicate k 0)).take k=nsAV (List.replicate k 0):=List.take_of_length_le (by simp [nsAV]);rw [this,List.replicate_succ'];simp [nsAV]
  simp only [z0z,z10,ho];refine ⟨trivial,trivial,by simp [nsAV],by simp [bounded,maxLen];omega,?_⟩;simp only [List.flatten_cons,List.flatten_nil,List.append_nil,List.length_cons,List.length_nil];rw [e];exact this
theorem zqe (n:Int) (s:St) (hn:n<=1000) (fw:Few n.toNat s) (h:z00) :
  z01 Tryz.prog 57 [.int .i64 n,.agg s.cells] h (λv h2=>∃ out,ztc n.toNat (z2x s) out/\Keeps h h2 (λ_=>False)/\((n.toNat=0/\v=.nils)\/(0<n.toNat/\∃ id,v=.sl id 0 out.length 1/\h2.objs id=some (.row 3 (nsAV out))/\h.next<=id/\id<h2.next))):=by
 obtain ⟨m,hm⟩:∃ m,m=n.toNat:=⟨_,rfl⟩;rw [<-hm] at fw ⊢;obtain ⟨f,hs,hfl⟩:=zzh fw.bits;apply zg2
 (repeat simp -dsimp -implicitDefEqProofs (disch:=omega) only [↓rP,rA,↓reduceIte,reduceEqDiff,reduceAdd,reduceLeDiff,↓tyr])
 obtain ⟨I,hI⟩:∃ I:Nat->Fr->z00->Prop,I=(λr fr hh=>∃ (k:Nat) (v:AV),r=m-k/\k<=m/\Noughts h hh k v/\Keeps h hh (λ_=>False)/\fr=frOf [(0,.int .i64 n),(3,.iptr s.cells),(5,v),(6,.int .i64 0),(7,.int .i64 k)]):=⟨_,rfl⟩;refine z14 z07 (by kernel_rfl) I m (by rw [hI];exact ⟨0,.nils,rfl,Nat.zero_le _,Or.inl ⟨rfl,rfl⟩,Keeps.refl _ _,rfl⟩) ?_;intro r fr hh hi;rw [hI] at hi;obtain ⟨k,v,rfl,hk,hno,kp,rfl⟩:=hi;apply zd7
 (repeat simp -dsimp -implicitDefEqProofs (disch:=omega) only [↓rP,rA,↓reduceIte,reduceEqDiff,reduceAdd,reduceLeDiff,↓tyr])
 refine z0c (λhkn=>?_) (λhkn=>?_)
 ·(repeat simp -dsimp -implicitDefEqProofs (disch:=omega) only [↓rP,rA,↓reduceIte,reduceEqDiff,reduceAdd,reduceLeDiff,↓tyr])
  rw [bslI (by rfl)]
  (repeat simp -dsimp -implicitDefEqProofs (disch:=omega) only [↓rP,rA,↓reduceIte,reduceEqDiff,reduceAdd,reduceLeDiff,↓tyr])
  refine app_nought (by omega) hno kp _ (λv2 h2 q1 q2=>?_)
  (repeat simp -dsimp -implicitDefEqProofs (disch:=omega) only [↓rP,rA,↓reduceIte,reduceEqDiff,reduceAdd,reduceLeDiff,↓tyr,wk1 k (by omega)])
  rw [z05,hI];exact ⟨m-(k+1),by omega,k+1,v2,rfl,by omega,q1,q2,rfl⟩
 have hkm:k=m:=by omega
 subst hkm
 (repeat simp -dsimp -implicitDefEqProofs (disch:=omega) only [↓rP,rA,↓reduceIte,reduceEqDiff,reduceAdd,reduceLeDiff,↓tyr])
 clear hI I;rcases hno with ⟨hk0,rfl⟩ | ⟨hk0,id,rfl,ho,h1,h2⟩
 ·
  have hz:k=0:=hk0;obtain ⟨I,hI⟩:∃ I:Nat->Fr->z00->Prop,I=(λr fr h3=>h3=hh/\fr=frOf [(0,.int .i64 n),(3,.iptr s.cells),(5,.nils),(6,.int .i64 0),(8,.int .i64 0)]):=⟨_,rfl⟩;refine z14 z07 (by kernel_rfl) I 0 (by rw [hI];exact ⟨rfl,rfl⟩) ?_;intro r fr h3 hi;rw [hI] at hi;obtain ⟨rfl,rfl⟩:=hi;apply z7p
  (repeat simp -dsimp -implicitDefEqProofs (disch:=omega) only [↓rP,rA,↓reduceIte,reduceEqDiff,reduceAdd,reduceLeDiff,↓tyr])
  refine ⟨[],⟨f,hs,hfl,by rw [hz];rfl⟩,kp,Or.inl hz⟩
 have hnk:n=(k:Int):=by omega
 subst hnk;have hm1000:k<=1000:=by omega
 have hrep:nsAV (List.replicate k 0)=nsAV ((List.range k).map λj=>if root f j<0 then zat f j else 0):=by
  congr 1
  apply List.ext_getElem?;intro i;rw [List.getElem?_replicate,List.getElem?_map];by_cases hi:i<k
  ·rw [if_pos hi,List.getElem?_range hi];simp
  ·rw [if_neg hi,List.getElem?_eq_none (by simpa using hi)];rfl
 obtain ⟨I,hI⟩:∃ I:Nat->Fr->z00->Prop,I=(λr fr h3=>∃ (i:Nat),r=k-i/\i<=k/\h3.objs id=some (.row 3 (nsAV ((List.range k).map λj=>if root f j<i then zat f j else 0)))/\Keeps hh h3 (λi=>i=id)/\fr=frOf [(0,.int .i64 k),(3,.iptr s.cells),(5,.sl id 0 k 1),(6,.int .i64 (z2z f i:Nat)),(8,.int .i64 i)]):=⟨_,rfl⟩;refine z14 z07 (by kernel_rfl) I k (by rw [hI];exact ⟨0,rfl,Nat.zero_le _,by rw [ho,hrep],Keeps.refl _ _,rfl⟩) ?_;intro r fr h3 hi;rw [hI] at hi;obtain ⟨i,rfl,hik,ho3,kp3,rfl⟩:=hi;apply z7p
 (repeat simp -dsimp -implicitDefEqProofs (disch:=omega) only [↓rP,rA,↓reduceIte,reduceEqDiff,reduceAdd,reduceLeDiff,↓tyr])
 refine z0c (λhil=>?_) (λhil=>?_)
 ·have hi2:i<k:=by omega
  have hri:root f i<=i:=zp8 i;have hle:z2z f i<=1000:=by
   have h1:=zon f (Nat.le_of_lt hi2);have h2:z2z f k<=(List.range k).length:=List.countP_le_length;simp at h2;omega
  have hget:=z7y (m:=k) (λj=>if root f j<i then zat f j else 0) hi2
  (repeat simp -dsimp -implicitDefEqProofs (disch:=omega) only [↓rP,rA,↓reduceIte,reduceEqDiff,reduceAdd,reduceLeDiff,↓tyr,zuu hi2,ld_ns ho3 hget])
  by_cases hlt:root f i<i
  ·have hc:(((if root f i<i then zat f i else 0:Nat):Int) != 0)=true:=by rw [if_pos hlt];simp [zat];omega
   (repeat simp -dsimp -implicitDefEqProofs (disch:=omega) only [↓rP,rA,↓reduceIte,reduceEqDiff,reduceAdd,reduceLeDiff,↓tyr,hc,wk1 i (by omega)])
   rw [z05,hI];refine ⟨k-(i+1),by omega,i+1,rfl,by omega,?_,kp3,?_⟩
   ·rw [ho3]
    congr 3
    apply List.map_congr_left;intro j _;by_cases h1:root f j<i
    ·rw [if_pos h1,if_pos (by omega)]
    ·rw [if_neg h1];by_cases h2:root f j=i
     ·have:=zan (f:=f) j;rw [h2] at this;omega
     ·rw [if_neg (by omega)]
   ·rw [zdx,if_neg (by omega)];rfl
  ·have hroot:root f i=i:=by omega
   have hc:(((if root f i<i then zat f i else 0:Nat):Int) != 0)=false:=by rw [if_neg hlt];rfl
   have hset:((List.range k).map λj=>if root f j<i then zat f j else 0).set i (z2z f i+1)=(List.range k).map (mkO f i λj=>decide (j=i)):=by
    rw [zk8]
    congr 1
    funext j;unfold mkO;by_cases e:j=i
    ·subst e;rw [if_pos rfl,if_neg hlt];simp
    ·rw [if_neg e];simp [e]
   (repeat simp -dsimp -implicitDefEqProofs (disch:=omega) only [↓rP,rA,↓reduceIte,reduceEqDiff,reduceAdd,reduceLeDiff,↓tyr,hc,wk1 (z2z f i) (by omega),zuu hi2,st_ns ho3 (show i<((List.range k).map λj=>if root f j<i then zat f j else 0).length by simpa using hi2)])
   refine ref_rounds fw hm1000 hs hi2 hroot (by rw [z2w,hset]) _ _ ?_;intro h4 q1 q2
   (repeat simp -dsimp -implicitDefEqProofs (disch:=omega) only [↓rP,rA,↓reduceIte,reduceEqDiff,reduceAdd,reduceLeDiff,↓tyr,wk1 i (by omega)])
   rw [z05,hI];refine ⟨k-(i+1),by omega,i+1,rfl,by omega,q1,(kp3.putS rfl _).trans q2 (λ_ _ e=>e),?_⟩;rw [zdx,if_pos hroot]
 ·(repeat simp -dsimp -implicitDefEqProofs (disch:=omega) only [↓rP,rA,↓reduceIte,reduceEqDiff,reduceAdd,reduceLeDiff,↓tyr])
  have e:i=k:=by omega
  subst e;refine ⟨_,⟨f,hs,hfl,rfl⟩,?_,Or.inr ⟨hk0,id,by simp,?_,h1,Nat.lt_of_lt_of_le h2 kp3.next⟩⟩
  ·refine ⟨Nat.le_trans kp.next kp3.next,λj hj _=>?_⟩;rw [kp3.objs j (by have:=kp.next;omega) (by omega),kp.objs j hj (by simp)]
  ·rw [ho3]
   congr 3
   apply List.map_congr_left;intro j hj;have:=zp8 (f:=f) j;have:=List.mem_range.1 hj;rw [if_pos (by omega)]
end
section
open Go.Abs
open Classical in
noncomputable def z6h (c:Cd):Sg:=if h:∃ σ,Cl c σ/\Lw c σ then h.choose else λ_ _=>0
theorem leastS_eq {c:Cd} {σ:Sg} (h1:Cl c σ) (h2:Lw c σ):σ=z6h c:=by
 have h:∃ σ,Cl c σ/\Lw c σ:=⟨σ,h1,h2⟩;unfold z6h;rw [dif_pos h];exact least_eq h1 h2 h.choose_spec.1 h.choose_spec.2
def SolvV (c:Cd) (s:z1a):Prop:=(okC c=false/\s=⟨none,none,none⟩)\/(okC c=true/\∃ N,s=z9z c (z6h c) N/\(∀ r,N r=true->lenR c r=0)/\Bd2 c (z6h c)/\Rg c (z6h c))
theorem solvV_of {c:Cd} {s:z1a} (h:SolvedV c s):SolvV c s:=by
 rcases h with h | ⟨h,σ,N,rfl,h1,h2,h3,h4,h5⟩
 ·exact Or.inl h
 ·obtain rfl:=leastS_eq h2 h3;exact Or.inr ⟨h,N,rfl,h1,h4,h5⟩
theorem zy7 (c:Cd) (hc:c.ok) (sm:Small c) (h:z00):z01 Tryz.prog 58 [.agg c.cells] h (λv h2=>(∃ s:z1a,v=.agg s.cells/\SolvV c s)/\h2=h):=by
 refine (z01.result (enc:=λs:z1a=>.agg s.cells) (Q:=SolvedV c) (λs _=>ids_sets _ s) ((zwq c hc sm h).mono ?_)).mono (λv h2 ⟨⟨s,e1,e2⟩,e3⟩=>⟨⟨s,e1,solvV_of e2⟩,e3⟩);rintro v h2 (⟨h1,rfl,kp⟩ | ⟨h1,σ,A,i1,i2,rfl,S,own,l1,l2,l3,l4,kp⟩)
 ·exact ⟨λ_=>False,⟨none,none,none⟩,Or.inl ⟨h1,rfl⟩,RzV.same _,λ_ h=>h.elim,kp⟩
 ·refine ⟨λi=>∃ r,A r=.sl i 0 (lenR c r) 1,z9z c σ (nilR A),Or.inr ⟨h1,σ,nilR A,rfl,λr hr=>?_,l1,l2,l3,l4⟩,?_,?_,kp⟩
  ·rcases S.row r with ⟨_,e⟩ | ⟨id,e,_⟩
   ·exact e
   ·simp [nilR,e] at hr
  ·have hD:∀ r id,A r=.sl id 0 (lenR c r) 1->∃ r,A r=.sl id 0 (lenR c r) 1:=λr id e=>⟨r,e⟩;have hr:=λr=>rz_row S hD r (by have:=lenR_le sm r;omega);have:=sm.threads;have:=sm.sites;exact RzV.agg (RzL.cons (rz_out (by omega) λk _=>hr _) (RzL.cons (hr _) (RzL.cons (rz_out (by omega) λk _=>hr _) RzL.nil)))
  ·rintro i ⟨r,e⟩;refine ⟨own r i e,?_⟩;rcases S.row r with ⟨e2,_⟩ | ⟨id,e2,_,ho⟩
   ·rw [e2] at e;cases e
   ·rw [e] at e2;cases e2;rw [ho];simp
theorem zns {c:Cd} {σ:Sg} {N:Rw->Bool} (hN:∀ r,N r=true->lenR c r=0) (r:Rw):slL (rowO c σ N r)=(List.range (lenR c r)).map (σ r):=by
 unfold rowO;split
 ·rename_i e;rw [hN r e];rfl
 ·rfl
theorem zgf (n:Nat) (f:Nat->Option (List Nat)):slL (rowsO n f)=(List.range n).map f:=by
 unfold rowsO;split
 ·rename_i e;rw [e];rfl
 ·rfl
theorem setsOf_V {c:Cd} {σ:Sg} {N:Rw->Bool} (hN:∀ r,N r=true->lenR c r=0):z2x (z9z c σ N)=z2x (z9z c σ λ_=>false):=by
 have hF:∀ r,(λ_:Rw=>false) r=true->lenR c r=0:=λr h=>by cases h
 unfold z2x zep rowsOf z9z;simp only [List.flatMap_cons,List.flatMap_append,zgf,List.flatMap_map,zns hN,zns hF]
open Classical in
noncomputable def clsN (m:Nat) (S:List Nat):List Nat:=if h:∃ out,ztc m S out then h.choose else []
theorem isCls_one {S a b:List Nat} {m:Nat} (ha:ztc m S a) (hb:ztc m S b):a=b:=by
 obtain ⟨f,hf,-,rfl⟩:=ha;exact (isCls_of hf hb).symm
theorem clsN_eq {m:Nat} {S out:List Nat} (h:ztc m S out):out=clsN m S:=by
 have h2:∃ out,ztc m S out:=⟨out,h⟩;unfold clsN;rw [dif_pos h2];exact isCls_one h h2.choose_spec
noncomputable def clsL (c:Cd):List Int:=(clsN (slL c.Sites).length (z2x (z9z c (z6h c) λ_=>false))).map λn:Nat=>(n:Int)
theorem zze {c:Cd} (sm:Small c) {σ:Sg} {N:Rw->Bool} (hN:∀ r,N r=true->lenR c r=0) {o:Option (List Nat)} (h:o∈rowsOf (z9z c σ N)):(slL o).length<=100000/\∀ x∈slL o,∃ r n,x=σ r n:=by
 have key:∀ (r:Rw),(slL (rowO c σ N r)).length<=100000/\∀ x∈slL (rowO c σ N r),∃ r n,x=σ r n:=λr=>by
  rw [zns hN];have:=lenR_le sm r;refine ⟨by simp;omega,λx hx=>?_⟩;obtain ⟨n,_,rfl⟩:=List.mem_map.1 hx;exact ⟨r,n,rfl⟩
 unfold rowsOf z9z at h;simp only [zgf,List.mem_cons,List.mem_append,List.mem_map] at h;rcases h with rfl | ⟨k,_,rfl⟩ | ⟨k,_,rfl⟩
 ·exact key _
 ·exact key _
 ·exact key _
theorem few_V {c:Cd} (hok:okC c=true) (sm:Small c) {N:Rw->Bool} (hN:∀ r,N r=true->lenR c r=0) {σ:Sg} (a3:Bd2 c σ):Few (slL c.Sites).length (z9z c σ N):=by
 have wc:=zf7 hok;have hsit:=wc.sit;have hx:∀ x∈z2x (z9z c σ N),∃ r n,x=σ r n:=λx hx=>by
  obtain ⟨o,h1,h2⟩:=List.mem_flatMap.1 hx;exact (zze sm hN h1).2 x h2
 refine ⟨?_,?_,λo ho=>(zze sm hN ho).1,λx h=>?_,λx h k hk=>?_⟩
 ·have:=sm.threads;unfold z9z;simp only [zgf,List.length_map,List.length_range];omega
 ·have:=sm.sites;unfold z9z;simp only [zgf,List.length_map,List.length_range];omega
 ·obtain ⟨r,n,rfl⟩:=hx x h;exact Nat.lt_of_lt_of_le (a3.lt r n) (Nat.le_trans (Nat.pow_le_pow_right (by decide) hsit) (by decide))
 ·obtain ⟨r,n,rfl⟩:=hx x h;exact a3 r n k (z7a.1 hk).2
theorem chunk_ints (l:List Nat):chunk 1 l.length (nsAV l)=(l.map λn:Nat=>(n:Int)).map encI:=by
 induction l with
 | nil=>rfl
 | cons a l ih=>
  simp only [nsAV,List.map_cons,List.length_cons,chunk,List.take_succ_cons,List.take_zero,List.drop_succ_cons,List.drop_zero] at ih ⊢;rw [ih];rfl
theorem rz_ints {H:z00} {D:Nat->Prop} {id:Nat} {out:List Nat} (hD:D id) (ho:H.objs id=some (.row 3 (nsAV out))) (hl:out.length<=1000000):RzV H D (.sl id 0 out.length 1) (slAV 1 encI (some (out.map λn:Nat=>(n:Int)))):=by
 have e2:slAV 1 encI (some (out.map λn:Nat=>(n:Int)))=.isl 1 (chunk 1 out.length (nsAV out)):=by rw [chunk_ints];rfl
 rw [e2];exact RzV.row hD ho (by simp [nsAV]) hl rfl (λi a a' h1 h2=>by rw [h1] at h2;cases h2;exact RzV.same _)
theorem zy8 {c:Cd} (hok:okC c=true) (sm:Small c) {N:Rw->Bool} (hN:∀ r,N r=true->lenR c r=0) (a3:Bd2 c (z6h c)) (h:z00) :
  z01 Tryz.prog 57 [.int .i64 (slL c.Sites).length,.agg (z9z c (z6h c) N).cells] h (λv h2=>(∃ o,v=slAV 1 encI o/\slL o=clsL c)/\h2=h):=by
 have fw:=few_V hok sm hN a3;have hs:=sm.sites;refine z01.result (enc:=λo:Option (List Int)=>slAV 1 encI o) (Q:=λo=>slL o=clsL c) (λo _=>zgv _ o) ((zqe ((slL c.Sites).length:Nat) _ (by omega) (by simpa using fw) h).mono ?_);rintro v h2 ⟨out,hc,kp,hv⟩;rw [Int.toNat_natCast,setsOf_V hN] at hc;have hcl:(out.map λn:Nat=>(n:Int))=clsL c:=by unfold clsL;rw [<-clsN_eq hc]
 have hlen:out.length=(slL c.Sites).length:=by obtain ⟨f,_,_,rfl⟩:=hc;simp
 rcases hv with ⟨h0,rfl⟩ | ⟨h0,id,rfl,ho,h1,h3⟩
 ·refine ⟨λ_=>False,none,?_,RzV.same _,λ_ h=>h.elim,kp⟩;have e0:out=[]:=List.eq_nil_of_length_eq_zero (by rw [hlen];simpa using h0);rw [<-hcl,e0];rfl
 ·refine ⟨λi=>i=id,some (out.map λn:Nat=>(n:Int)),hcl,rz_ints rfl ho (by omega),?_,kp⟩;rintro i rfl;exact ⟨h1,by rw [ho];simp⟩
theorem zyg {c:Cd} (hok:okC c=true) (sm:Small c) (a3:Bd2 c (z6h c)):(clsL c).length=(slL c.Sites).length:=by
 have fw:=few_V hok sm (N:=λ_=>false) (λr h=>by cases h) a3;obtain ⟨f,hf,hl⟩:=zzh fw.bits;have:ztc (slL c.Sites).length (z2x (z9z c (z6h c) λ_=>false)) ((List.range (slL c.Sites).length).map (zat f)):=⟨f,hf,hl,rfl⟩;unfold clsL;rw [<-clsN_eq this];simp
end
section
open Go.Abs
def zmo (p:z0f):Prop:=(slL p.Fields).length<=1000
theorem zi7 (a b:Cm) (h1:zmo a.Path) (h2:zmo a.Index) (h:z00):z01 Tryz.prog 85 [.agg a.cells,.agg b.cells] h (λv h2=>v=.bool (tgB a b)/\h2=h):=by
 obtain ⟨r,hr⟩:∃ r,r=tgB a b:=⟨_,rfl⟩;rw [<-hr];apply zf2;have eb:binA CmpK.bool .eql (.bool a.Const) (.bool b.Const)=some (.bool (a.Const == b.Const)):=rfl;rcases Decidable.em (¬ (a.Op=b.Op)) with c1 | c1
 ·have e1:(a.Op == b.Op)=false:=by simpa using c1
  (repeat simp -dsimp -implicitDefEqProofs (disch:=omega) only [↓rP,rA,↓reduceIte,reduceEqDiff,reduceAdd,reduceLeDiff,↓tyr,e1])
  rw [hr];simp [tgB,c1]
 replace c1:=Decidable.of_not_not c1;have e1:(a.Op == b.Op)=true:=by simpa using c1
 rcases Decidable.em (¬ (a.N=b.N)) with c2 | c2
 ·have e2:(a.N == b.N)=false:=by simpa using c2
  (repeat simp -dsimp -implicitDefEqProofs (disch:=omega) only [↓rP,rA,↓reduceIte,reduceEqDiff,reduceAdd,reduceLeDiff,↓tyr,e1,e2])
  rw [hr];simp [tgB,c2]
 replace c2:=Decidable.of_not_not c2;have e2:(a.N == b.N)=true:=by simpa using c2
 cases c3:(a.Const == b.Const) with
 | false=>
  (repeat simp -dsimp -implicitDefEqProofs (disch:=omega) only [↓rP,rA,↓reduceIte,reduceEqDiff,reduceAdd,reduceLeDiff,↓tyr,e1,e2,eb,c3])
  rw [hr];simp only [tgB,c3,Bool.false_and,Bool.and_false]
 | true=>
 rcases Decidable.em (¬ (a.At=b.At)) with c4 | c4
 ·have e4:(a.At == b.At)=false:=by simpa using c4
  (repeat simp -dsimp -implicitDefEqProofs (disch:=omega) only [↓rP,rA,↓reduceIte,reduceEqDiff,reduceAdd,reduceLeDiff,↓tyr,e1,e2,eb,c3,e4])
  rw [hr];simp [tgB,c4]
 replace c4:=Decidable.of_not_not c4;have e4:(a.At == b.At)=true:=by simpa using c4
 rcases Decidable.em (¬ (a.Class=b.Class)) with c5 | c5
 ·have e5:(a.Class == b.Class)=false:=by simpa using c5
  (repeat simp -dsimp -implicitDefEqProofs (disch:=omega) only [↓rP,rA,↓reduceIte,reduceEqDiff,reduceAdd,reduceLeDiff,↓tyr,e1,e2,eb,c3,e4,e5])
  rw [hr];simp [tgB,c5]
 replace c5:=Decidable.of_not_not c5;have e5:(a.Class == b.Class)=true:=by simpa using c5
 have hr2:r=(zxw a.Path b.Path&&zxw a.Index b.Index):=by rw [hr];simp [tgB,c1,c2,c3,c4,c5]
 (repeat simp -dsimp -implicitDefEqProofs (disch:=omega) only [↓rP,rA,↓reduceIte,reduceEqDiff,reduceAdd,reduceLeDiff,↓tyr,e1,e2,eb,c3,e4,e5])
 refine z01.go (zj6 a.Path b.Path h1 _) ?_
 cases c6:zxw a.Path b.Path with
 | false=>
  (repeat simp -dsimp -implicitDefEqProofs (disch:=omega) only [↓rP,rA,↓reduceIte,reduceEqDiff,reduceAdd,reduceLeDiff,↓tyr])
  rw [hr2];simp [c6]
 | true=>
  (repeat simp -dsimp -implicitDefEqProofs (disch:=omega) only [↓rP,rA,↓reduceIte,reduceEqDiff,reduceAdd,reduceLeDiff,↓tyr])
  refine z01.go (zj6 a.Index b.Index h2 _) ?_
  (repeat simp -dsimp -implicitDefEqProofs (disch:=omega) only [↓rP,rA,↓reduceIte,reduceEqDiff,reduceAdd,reduceLeDiff,↓tyr])
  rw [hr2];simp [c6]
theorem cm_all (c:Cm) (h:z00) (J:AV->Prop):z0r (some 12) (.iptr c.cells) h J=J (.agg c.cells):=by rw [z0y];exact z06.call c J
theorem covers_2 (l:Option (List Cm)) (w:Cm) (hl:(slL l).length<=100000) (hp:∀ c∈slL l,zmo c.Path/\zmo c.Index) (h:z00) (Q:z1p->Fr->z00->Prop)
  (h1:∀ hh,Keeps h hh (λ_=>False)->covB (slL l) w=false->Q (.exit 0) (frOf []) hh) (h2:∀ hh,Keeps h hh (λ_=>False)->covB (slL l) w=true->Q .ret (frOf [(4,.bool true)]) hh) :
  WP Tryz.prog 46 (.loop z4x) (frOf [(3,.iptr w.cells),(7,slAV 12 z06.cells l),(8,.int .i64 (slL l).length),(9,.int .i64 0)]) h Q:=by
 obtain ⟨I,hI⟩:∃ I:Nat->Fr->z00->Prop,I=(λm fr hh=>∃ j:Nat,m=(slL l).length-j/\j<=(slL l).length/\covB ((slL l).take j) w=false/\Keeps h hh (λ_=>False)/\fr=frOf [(3,.iptr w.cells),(7,slAV 12 z06.cells l),(8,.int .i64 (slL l).length),(9,.int .i64 (j:Nat))]):=⟨_,rfl⟩;refine z14 z07 (by kernel_rfl) I (slL l).length (by rw [hI];exact ⟨0,rfl,Nat.zero_le _,rfl,.refl _ _,rfl⟩) ?_;intro m fr hh hi;rw [hI] at hi;obtain ⟨j,rfl,hj,ht,kp,rfl⟩:=hi;apply zc3
 (repeat simp -dsimp -implicitDefEqProofs (disch:=omega) only [↓rP,rA,↓reduceIte,reduceEqDiff,reduceAdd,reduceLeDiff,↓tyr])
 refine z0c (λhjl=>?_) (λhjl=>?_)
 ·obtain ⟨c,hx⟩:∃ c,(slL l)[j]?=some c:=⟨_,List.getElem?_eq_getElem (by omega)⟩;have hmem:=List.mem_of_getElem? hx;obtain ⟨H,hH⟩:∃ H,H=hh.push (.row 109 c.cells):=⟨_,rfl⟩;have kpH:Keeps h H (λ_=>False):=by rw [hH];exact kp.zg9 _
  have ob:H.objs hh.next=some (.row 109 c.cells):=by rw [hH];exact z0w _ _
  have f0:∀ J:AV->Prop,z0r none (.ptr hh.next 0) H J=J (.int .i64 c.Op):=λJ=>by rw [z02 ob];rfl
  have f10:∀ J:AV->Prop,z0r none (.ptr hh.next 10) H J=J (.int .i64 c.Class):=λJ=>by rw [z02 ob];rfl
  have f11:∀ J:AV->Prop,z0r none (.ptr hh.next 11) H J=J (.int .i64 c.Mode):=λJ=>by rw [z02 ob];rfl
  have fa:∀ J:AV->Prop,z0r (some 12) (.ptr hh.next 0) H J=J (.agg c.cells):=λJ=>by rw [z02 ob];exact z06.call c J
  have yes:cov1 w c=true->∀ hh2,Keeps h hh2 (λ_=>False)->Q .ret (frOf [(4,.bool true)]) hh2:=λhp hh2 k2=>h2 hh2 k2 (List.any_eq_true.2 ⟨c,hmem,hp⟩);have no:cov1 w c=false->∀ hh2,Keeps h hh2 (λ_=>False)->I ((slL l).length-(j+1)) (frOf [(3,.iptr w.cells),(7,slAV 12 z06.cells l),(8,.int .i64 (slL l).length),(9,.int .i64 ((j+1:Nat):Int))]) hh2:=λhp hh2 k2=>by
   rw [hI];refine ⟨j+1,rfl,by omega,?_,k2,rfl⟩;unfold covB at ht ⊢;rw [List.take_add_one,hx,List.any_append,ht];simpa using hp
  have nx:cov1 w c=false->∀ hh2,Keeps h hh2 (λ_=>False)->z3d I ((slL l).length-j) Q .normal (frOf [(3,.iptr w.cells),(7,slAV 12 z06.cells l),(8,.int .i64 (slL l).length),(9,.int .i64 ((j+1:Nat):Int))]) hh2:=λhp hh2 k2=>by
   rw [z05];exact ⟨_,by omega,no hp hh2 k2⟩
  (repeat simp -dsimp -implicitDefEqProofs (disch:=omega) only [↓rP,rA,↓reduceIte,reduceEqDiff,reduceAdd,reduceLeDiff,↓tyr,z03 hx])
  rw [<-hH];rcases Decidable.em (¬ (w.Mode<=c.Mode)) with m1 | m1
  ·have e1:decide (w.Mode<=c.Mode)=false:=decide_eq_false m1
   (repeat simp -dsimp -implicitDefEqProofs (disch:=omega) only [↓rP,rA,↓reduceIte,reduceEqDiff,reduceAdd,reduceLeDiff,↓tyr,f11,e1,wkP j (by omega)])
   exact nx (by simp [cov1,m1]) _ kpH
  replace m1:=Decidable.of_not_not m1;have e1:decide (w.Mode<=c.Mode)=true:=decide_eq_true m1;by_cases o5:c.Op=5
  ·have e5:(c.Op == 5)=true:=by simpa using o5
   (repeat simp -dsimp -implicitDefEqProofs (disch:=omega) only [↓rP,rA,↓reduceIte,reduceEqDiff,reduceAdd,reduceLeDiff,↓tyr,f11,f0,e1,e5])
   exact yes (by simp [cov1,m1,o5]) _ kpH
  have e5:(c.Op == 5)=false:=by simpa using o5
  by_cases o4:c.Op=4
  ·have e4:(c.Op == 4)=true:=by simpa using o4
   by_cases w1:w.Op=1
   ·have ew:(w.Op != 1)=false:=by simpa using w1
    have ec:cov1 w c=tgB c w:=by simp [cov1,m1,o4,w1]
    (repeat simp -dsimp -implicitDefEqProofs (disch:=omega) only [↓rP,rA,↓reduceIte,reduceEqDiff,reduceAdd,reduceLeDiff,↓tyr,f11,f0,e1,e5,e4,ew,↓fa,↓cm_all])
    refine z01.go (zi7 c w (hp c hmem).1 (hp c hmem).2 H) ?_
    cases ct:tgB c w with
    | true=>
     (repeat simp -dsimp -implicitDefEqProofs (disch:=omega) only [↓rP,rA,↓reduceIte,reduceEqDiff,reduceAdd,reduceLeDiff,↓tyr])
     exact yes (ec.trans ct) _ kpH
    | false=>
     (repeat simp -dsimp -implicitDefEqProofs (disch:=omega) only [↓rP,rA,↓reduceIte,reduceEqDiff,reduceAdd,reduceLeDiff,↓tyr,wkP j (by omega)])
     exact nx (ec.trans ct) _ kpH
   ·have ew:(w.Op != 1)=true:=by simpa using w1
    by_cases k1:c.Class=w.Class
    ·have ek:(c.Class == w.Class)=true:=by simpa using k1
     (repeat simp -dsimp -implicitDefEqProofs (disch:=omega) only [↓rP,rA,↓reduceIte,reduceEqDiff,reduceAdd,reduceLeDiff,↓tyr,f11,f0,f10,e1,e5,e4,ew,ek])
     exact yes (by simp [cov1,m1,o4,w1,k1]) _ kpH
    ·have ek:(c.Class == w.Class)=false:=by simpa using k1
     have ec:cov1 w c=tgB c w:=by simp [cov1,m1,o4,w1,k1]
     (repeat simp -dsimp -implicitDefEqProofs (disch:=omega) only [↓rP,rA,↓reduceIte,reduceEqDiff,reduceAdd,reduceLeDiff,↓tyr,f11,f0,f10,e1,e5,e4,ew,ek,↓fa,↓cm_all])
     refine z01.go (zi7 c w (hp c hmem).1 (hp c hmem).2 H) ?_
     cases ct:tgB c w with
     | true=>
      (repeat simp -dsimp -implicitDefEqProofs (disch:=omega) only [↓rP,rA,↓reduceIte,reduceEqDiff,reduceAdd,reduceLeDiff,↓tyr])
      exact yes (ec.trans ct) _ kpH
     | false=>
      (repeat simp -dsimp -implicitDefEqProofs (disch:=omega) only [↓rP,rA,↓reduceIte,reduceEqDiff,reduceAdd,reduceLeDiff,↓tyr,wkP j (by omega)])
      exact nx (ec.trans ct) _ kpH
  ·have e4:(c.Op == 4)=false:=by simpa using o4
   have ec:cov1 w c=tgB c w:=by simp [cov1,m1,o4,o5]
   (repeat simp -dsimp -implicitDefEqProofs (disch:=omega) only [↓rP,rA,↓reduceIte,reduceEqDiff,reduceAdd,reduceLeDiff,↓tyr,f11,f0,e1,e5,e4,↓fa,↓cm_all])
   refine z01.go (zi7 c w (hp c hmem).1 (hp c hmem).2 H) ?_
   cases ct:tgB c w with
   | true=>
    (repeat simp -dsimp -implicitDefEqProofs (disch:=omega) only [↓rP,rA,↓reduceIte,reduceEqDiff,reduceAdd,reduceLeDiff,↓tyr])
    exact yes (ec.trans ct) _ kpH
   | false=>
    (repeat simp -dsimp -implicitDefEqProofs (disch:=omega) only [↓rP,rA,↓reduceIte,reduceEqDiff,reduceAdd,reduceLeDiff,↓tyr,wkP j (by omega)])
    exact nx (ec.trans ct) _ kpH
 ·(repeat simp -dsimp -implicitDefEqProofs (disch:=omega) only [↓rP,rA,↓reduceIte,reduceEqDiff,reduceAdd,reduceLeDiff,↓tyr])
  have e:j=(slL l).length:=by omega
  subst e;rw [List.take_length] at ht;exact h1 hh kp ht
theorem zwk (l:Option (List Cm)) (w:Cm) (hl:(slL l).length<=100000) (hp:∀ c∈slL l,zmo c.Path/\zmo c.Index) (h:z00) :
  z01 Tryz.prog 60 [slAV 12 z06.cells l,.agg w.cells] h (λv h2=>v=.bool (covB (slL l) w)/\h2=h):=by
 refine z01.forget (by simp [z1x]) ?_;apply zf1
 (repeat simp -dsimp -implicitDefEqProofs (disch:=omega) only [↓rP,rA,↓reduceIte,reduceEqDiff,reduceAdd,reduceLeDiff,↓tyr])
 refine covers_2 l w hl hp h _ (λhh k e=>?_) (λhh k e=>?_)
 ·(repeat simp -dsimp -implicitDefEqProofs (disch:=omega) only [↓rP,rA,↓reduceIte,reduceEqDiff,reduceAdd,reduceLeDiff,↓tyr])
  exact ⟨by rw [e],k⟩
 ·(repeat simp -dsimp -implicitDefEqProofs (disch:=omega) only [↓rP,rA,↓reduceIte,reduceEqDiff,reduceAdd,reduceLeDiff,↓tyr])
  exact ⟨by rw [e],k⟩
end
section
open Go.Abs
def GvAt {α:Type} (T:TypeId) (sz:Nat) (enc:α->List AV) (lo:Nat) (hh:z00) (av:AV) (l:List α):Prop:=(l=[]/\av=.nils)\/(l≠[]/\∃ id,av=.gsl id sz (l.map enc)/\hh.objs id=some (.tok T (l.length*sz))/\lo<=id/\id<hh.next)
section
variable {α:Type} {T:TypeId} {sz:Nat} {enc:α->List AV} {hh:z00} {av:AV} {l:List α}
theorem GvAt.len {lo:Nat} (g:GvAt T sz enc lo hh av l) (J:AV->Prop):pLen .slice av J=J (.int .i64 l.length):=by
 rcases g with ⟨rfl,rfl⟩ | ⟨_,id,rfl,_,_,_⟩
 ·rfl
 ·simp [pLen]
theorem GvAt.ix {lo:Nat} (g:GvAt T sz enc lo hh av l) {k:Nat} {x:α} (hx:l[k]?=some x) (kk:IntKind) (J:AV->Prop):z0d (.slice sz) av (.int kk (k:Int)) J=J (.iptr (enc x)):=by
 rcases g with ⟨rfl,rfl⟩ | ⟨_,id,rfl,_,_,_⟩
 ·simp at hx
 ·simp [z0d,hx]
theorem GvAt.keep {lo:Nat} {h2:z00} {S:Nat->Prop} (g:GvAt T sz enc lo hh av l) (k:Keeps hh h2 S) (hs:∀ i,lo<=i->¬ S i):GvAt T sz enc lo h2 av l:=by
 rcases g with ⟨h1,h3⟩ | ⟨h1,id,h3,h4,h5,h6⟩
 ·exact Or.inl ⟨h1,h3⟩
 ·exact Or.inr ⟨h1,id,h3,by rw [k.objs id h6 (hs id h5)];exact h4,h5,Nat.lt_of_lt_of_le h6 k.next⟩
theorem GvAt.app {h:z00} (g:GvAt T sz enc h.next hh av l) (kp:Keeps h hh (λ_=>False)) {b:Nat} (hl:l.length<=10000) (hb:b<=1000) (x:α) (J:AV->z00->Prop) (hJ:∀ av2 h2,GvAt T sz enc h.next h2 av2 (l++[x])->Keeps h h2 (λ_=>False)->J av2 h2):z0z true { e:=T,sz:=sz,by_:=b } av (.isl sz [enc x]) hh J:=by
 have hkn:=kp.next;have hbd:∀ n,n<=10001->bounded { e:=T,sz:=sz,by_:=b } n:=λn hn=>by
  have:n*b<=10001*1000:=Nat.mul_le_mul hn hb;simp only [bounded,maxLen];omega
 rcases g with ⟨rfl,rfl⟩ | ⟨hne,id,rfl,ho,h1,h2⟩
 ·have:=hJ (.gsl hh.next sz [enc x]) (hh.push (.tok T (1*sz))) (Or.inr ⟨by simp,hh.next,rfl,z0w _ _,hkn,by simp⟩) (kp.zg9 _);simp only [z0z,z10,if_true,zac];exact ⟨hbd _ (by simp),this⟩
 ·have:=hJ (.gsl hh.next sz (l.map enc++[enc x])) ((hh.kill id).push (.tok T ((l++[x]).length*sz))) (Or.inr ⟨by simp,hh.next,by simp,z0w (hh.kill id) _,hkn,Nat.lt_succ_self _⟩) ((kp.zbe h1).zg9 _);simp only [z0z,z10,if_true,ho,List.length_map,List.length_cons,List.length_nil,true_and];refine ⟨hbd _ (by omega),?_⟩;simpa using this
theorem GvAt.rz {lo:Nat} {D:Nat->Prop} (g:GvAt T sz enc lo hh av l) (hl:l.length<=1000000):RzV hh D av (.isl sz (l.map enc)):=by
 rcases g with ⟨rfl,rfl⟩ | ⟨_,id,rfl,_,_,_⟩
 ·exact rz_nils sz
 ·exact RzV.gsl (by simpa using hl) (RzE.same _ _)
end
theorem VDst_does (x:In) (h:z00):z01 Tryz.prog 111 [.agg x.cells] h (λv h2=>v=.int .i64 (dstI x)/\h2=h):=by
 apply ziy;have ed:dstI x=if x.Op=1\/x.Op=2\/x.Op=3\/x.Op=4\/x.Op=8\/x.Op=9\/x.Op=10 then x.Dst else -1:=rfl
 by_cases ho:x.Op=1\/x.Op=2\/x.Op=3\/x.Op=4\/x.Op=8\/x.Op=9\/x.Op=10
 ·rw [ed,if_pos ho];rcases ho with e | e | e | e | e | e | e
  all_goals
   (repeat (first | simp -dsimp -implicitDefEqProofs (disch:=omega) only [↓rP,rA,↓reduceIte,reduceEqDiff,reduceAdd,reduceLeDiff,↓tyr,e,Int.reduceBEq] | refine Cut.go ?_))
 ·have n1:(x.Op == 1)=false:=by rw [beqI];exact decide_eq_false (by omega)
  have n2:(x.Op == 2)=false:=by rw [beqI];exact decide_eq_false (by omega)
  have n3:(x.Op == 3)=false:=by rw [beqI];exact decide_eq_false (by omega)
  have n4:(x.Op == 4)=false:=by rw [beqI];exact decide_eq_false (by omega)
  have n8:(x.Op == 8)=false:=by rw [beqI];exact decide_eq_false (by omega)
  have n9:(x.Op == 9)=false:=by rw [beqI];exact decide_eq_false (by omega)
  have n10:(x.Op == 10)=false:=by rw [beqI];exact decide_eq_false (by omega)
  rw [ed,if_neg ho]
  (repeat (first | simp -dsimp -implicitDefEqProofs (disch:=omega) only [↓rP,rA,↓reduceIte,reduceEqDiff,reduceAdd,reduceLeDiff,↓tyr,n1,n2,n3,n4,n8,n9,n10] | refine Cut.go ?_))
def zee (L:List In) (r n:Int):Bool:=if r<0 then zrn L n else zrm L r n
theorem stores_2 (L:List In) (hL:L.length<=1000) (r n:Int) (h:z00) (Q:z1p->Fr->z00->Prop)
  (h1:∀ hh,Keeps h hh (λ_=>False)->zee L r n=false->Q (.exit 0) (frOf []) hh) (h2:∀ hh,Keeps h hh (λ_=>False)->zee L r n=true->Q .ret (frOf [(6,.bool true)]) hh) :
  WP Tryz.prog 50 (.loop z4u) (frOf [(1,.int .i64 r),(2,.int .i64 n),(9,slAV 8 z0a.cells (some L)),(10,.int .i64 L.length),(11,.int .i64 0)]) h Q:=by
 obtain ⟨P,hP⟩:∃ P:In->Bool,P=λx=>if r<0 then decide (x.Op=5)&&decide (x.N=n) else decide (x.Op=6)&&decide (x.Rec=r)&&decide (x.N=n):=⟨_,rfl⟩
 have hs:zee L r n=L.any P:=by
  unfold zee zrn zrm;rw [hP];by_cases e:r<0 <;> simp [e]
 obtain ⟨I,hI⟩:∃ I:Nat->Fr->z00->Prop,I=(λm fr hh=>∃ j:Nat,m=L.length-j/\j<=L.length/\(L.take j).any P=false/\Keeps h hh (λ_=>False)/\fr=frOf [(1,.int .i64 r),(2,.int .i64 n),(9,slAV 8 z0a.cells (some L)),(10,.int .i64 L.length),(11,.int .i64 j)]):=⟨_,rfl⟩;refine z14 z07 (by kernel_rfl) I L.length (by rw [hI];exact ⟨0,rfl,Nat.zero_le _,by simp,.refl _ _,rfl⟩) ?_;intro m fr hh hi;rw [hI] at hi;obtain ⟨j,rfl,hj,ht,kp,rfl⟩:=hi;apply zc0
 (repeat (first | simp -dsimp -implicitDefEqProofs (disch:=omega) only [↓rP,rA,↓reduceIte,reduceEqDiff,reduceAdd,reduceLeDiff,↓tyr] | refine Cut.go ?_))
 refine z0c (λhjl=>?_) (λhjl=>?_)
 ·obtain ⟨x,hx⟩:∃ x,L[j]?=some x:=⟨_,List.getElem?_eq_getElem (by omega)⟩;have hx':(slL (some L))[j]?=some x:=hx;obtain ⟨H,hH⟩:∃ H,H=hh.push (.row 56 x.cells):=⟨_,rfl⟩;have kpH:Keeps h H (λ_=>False):=by rw [hH];exact kp.zg9 _
  have ob:H.objs hh.next=some (.row 56 x.cells):=by rw [hH];exact z0w _ _
  have f0:∀ J:AV->Prop,z0r none (.ptr hh.next 0) H J=J (.int .i64 x.Op):=λJ=>by rw [z02 ob];rfl
  have f3:∀ J:AV->Prop,z0r none (.ptr hh.next 3) H J=J (.int .i64 x.Rec):=λJ=>by rw [z02 ob];rfl
  have f4:∀ J:AV->Prop,z0r none (.ptr hh.next 4) H J=J (.int .i64 x.N):=λJ=>by rw [z02 ob];rfl
  have yes:P x=true->∀ hh2,Keeps h hh2 (λ_=>False)->Q .ret (frOf [(6,.bool true)]) hh2:=λhp hh2 k2=>h2 hh2 k2 (by rw [hs];exact List.any_eq_true.2 ⟨x,List.mem_of_getElem? hx,hp⟩);have no:P x=false->I (L.length-(j+1)) (frOf [(1,.int .i64 r),(2,.int .i64 n),(9,slAV 8 z0a.cells (some L)),(10,.int .i64 L.length),(11,.int .i64 ((j+1:Nat):Int))]) H:=λhp=>by
   rw [hI];refine ⟨j+1,rfl,by omega,?_,kpH,rfl⟩;rw [List.take_add_one,hx,List.any_append,ht];simpa using hp
  (repeat (first | simp -dsimp -implicitDefEqProofs (disch:=omega) only [↓rP,rA,↓reduceIte,reduceEqDiff,reduceAdd,reduceLeDiff,↓tyr,z03 hx'] | refine Cut.go ?_))
  rw [<-hH];by_cases hr:r<0
  ·have er:decide (r<0)=true:=decide_eq_true hr;have er2:decide ((0:Int)<=r)=false:=decide_eq_false (by omega);have pe:P x=(decide (x.Op=5)&&decide (x.N=n)):=by rw [hP];simp [hr]
   by_cases h5:x.Op=5
   ·have e5:(x.Op == 5)=true:=by simpa using h5
    by_cases hN:x.N=n
    ·have eN:(x.N == n)=true:=by simpa using hN
     (repeat (first | simp -dsimp -implicitDefEqProofs (disch:=omega) only [↓rP,rA,↓reduceIte,reduceEqDiff,reduceAdd,reduceLeDiff,↓tyr,er,er2,f0,f3,f4,e5,eN] | refine Cut.go ?_))
     exact yes (by rw [pe];simp [h5,hN]) _ kpH
    ·have eN:(x.N == n)=false:=by simpa using hN
     (repeat (first | simp -dsimp -implicitDefEqProofs (disch:=omega) only [↓rP,rA,↓reduceIte,reduceEqDiff,reduceAdd,reduceLeDiff,↓tyr,er,er2,f0,f3,f4,e5,eN,wkP j (by omega)] | refine Cut.go ?_))
     rw [z05];exact ⟨_,by omega,no (by rw [pe];simp [hN])⟩
   ·have e5:(x.Op == 5)=false:=by simpa using h5
    (repeat (first | simp -dsimp -implicitDefEqProofs (disch:=omega) only [↓rP,rA,↓reduceIte,reduceEqDiff,reduceAdd,reduceLeDiff,↓tyr,er,er2,f0,f3,f4,e5,wkP j (by omega)] | refine Cut.go ?_))
    rw [z05];exact ⟨_,by omega,no (by rw [pe];simp [h5])⟩
  ·have er:decide (r<0)=false:=decide_eq_false hr;have er2:decide ((0:Int)<=r)=true:=decide_eq_true (by omega);have pe:P x=(decide (x.Op=6)&&decide (x.Rec=r)&&decide (x.N=n)):=by rw [hP];simp [hr]
   by_cases h6:x.Op=6
   ·have e6:(x.Op == 6)=true:=by simpa using h6
    by_cases hR:x.Rec=r
    ·have eR:(x.Rec == r)=true:=by simpa using hR
     by_cases hN:x.N=n
     ·have eN:(x.N == n)=true:=by simpa using hN
      (repeat (first | simp -dsimp -implicitDefEqProofs (disch:=omega) only [↓rP,rA,↓reduceIte,reduceEqDiff,reduceAdd,reduceLeDiff,↓tyr,er,er2,f0,f3,f4,e6,eR,eN] | refine Cut.go ?_))
      exact yes (by rw [pe];simp [h6,hR,hN]) _ kpH
     ·have eN:(x.N == n)=false:=by simpa using hN
      (repeat (first | simp -dsimp -implicitDefEqProofs (disch:=omega) only [↓rP,rA,↓reduceIte,reduceEqDiff,reduceAdd,reduceLeDiff,↓tyr,er,er2,f0,f3,f4,e6,eR,eN,wkP j (by omega)] | refine Cut.go ?_))
      rw [z05];exact ⟨_,by omega,no (by rw [pe];simp [hN])⟩
    ·have eR:(x.Rec == r)=false:=by simpa using hR
     (repeat (first | simp -dsimp -implicitDefEqProofs (disch:=omega) only [↓rP,rA,↓reduceIte,reduceEqDiff,reduceAdd,reduceLeDiff,↓tyr,er,er2,f0,f3,f4,e6,eR,wkP j (by omega)] | refine Cut.go ?_))
     rw [z05];exact ⟨_,by omega,no (by rw [pe];simp [hR])⟩
   ·have e6:(x.Op == 6)=false:=by simpa using h6
    (repeat (first | simp -dsimp -implicitDefEqProofs (disch:=omega) only [↓rP,rA,↓reduceIte,reduceEqDiff,reduceAdd,reduceLeDiff,↓tyr,er,er2,f0,f3,f4,e6,wkP j (by omega)] | refine Cut.go ?_))
    rw [z05];exact ⟨_,by omega,no (by rw [pe];simp [h6])⟩
 ·(repeat (first | simp -dsimp -implicitDefEqProofs (disch:=omega) only [↓rP,rA,↓reduceIte,reduceEqDiff,reduceAdd,reduceLeDiff,↓tyr] | refine Cut.go ?_))
  have e:j=L.length:=by omega
  subst e;rw [List.take_length] at ht;exact h1 _ kp (by rw [hs];exact ht)
theorem znx (L:List In) (hL:L.length<=1000) (r n:Int) (h:z00):z01 Tryz.prog 112 [slAV 8 z0a.cells (some L),.int .i64 r,.int .i64 n] h (λv h2=>v=.bool (zee L r n)/\h2=h):=by
 refine z01.forget trivial ?_;apply zf0;have lL:∀ (J:AV->Prop),pLen .slice (slAV 8 z0a.cells (some L)) J=J (.int .i64 L.length):=λJ=>by simp
 (repeat (first | simp -dsimp -implicitDefEqProofs (disch:=omega) only [↓rP,rA,↓reduceIte,reduceEqDiff,reduceAdd,reduceLeDiff,↓tyr,↓lL] | refine Cut.go ?_))
 refine stores_2 L hL r n h _ (λhh kp e=>?_) (λhh kp e=>?_)
 ·(repeat (first | simp -dsimp -implicitDefEqProofs (disch:=omega) only [↓rP,rA,↓reduceIte,reduceEqDiff,reduceAdd,reduceLeDiff,↓tyr] | refine Cut.go ?_))
  exact ⟨by rw [e],kp⟩
 ·(repeat (first | simp -dsimp -implicitDefEqProofs (disch:=omega) only [↓rP,rA,↓reduceIte,reduceEqDiff,reduceAdd,reduceLeDiff,↓tyr] | refine Cut.go ?_))
  exact ⟨by rw [e],kp⟩
end
section
open Go.Abs
theorem zni {α:Type} {D:Nat->Prop} {sz:Nat} {enc:α->List AV} (he:∀ x,z7x D (enc x)) (o:Option (List α)):z1x D (slAV sz enc o):=by
 cases o with
 | none=>exact trivial
 | some l=>
  show zb1 D (l.map enc)
  induction l with
  | nil=>exact trivial
  | cons a l ih=>exact ⟨he a,ih⟩
theorem zol (D:Nat->Prop) (x:In):z7x D x.cells:=⟨trivial,trivial,trivial,trivial,trivial,trivial,zni (enc:=z09.cells) (λ_=>⟨trivial,trivial,trivial,trivial⟩) _,zni (enc:=z09.cells) (λ_=>⟨trivial,trivial,trivial,trivial⟩) _,trivial⟩
theorem sl_code {b:Bd} {fr to:Nat} (hlt:fr<to) (hle:to<(slL b.Code).length) (J:AV->Prop):z7b 8 (slAV 8 z0a.cells b.Code) (some (.int .i64 (fr:Nat))) (some (.int .i64 ((to+1:Nat):Int))) J=J (slAV 8 z0a.cells (some (secL b fr to))):=by
 obtain ⟨l,el⟩:∃ l,b.Code=some l:=by
  cases hc:b.Code with
  | none=>rw [hc] at hle;simp at hle
  | some l=>exact ⟨l,rfl⟩
 have e1:slAV 8 z0a.cells (some (secL b fr to))=.isl 8 (((l.map z0a.cells).take (to+1)).drop fr):=by unfold secL;rw [el];exact sl_slAV l fr (to+1)
 rw [e1,el];rw [el] at hle;simp only [zzm] at hle;simp only [z7b,slAV,bnd,Int.toNat_natCast,List.length_map];apply propext;constructor
 ·rintro ⟨-,-,-,-,hk⟩;exact hk
 ·intro hk;exact ⟨trivial,by omega,by omega,by omega,hk⟩
theorem ztd {c:Cd} (wc:WfC c) {s:Nat} {sec:z08} (hs:(slL c.Sections)[s]?=some sec) {t fr to:Nat} {b:Bd} (S:zru c sec t b fr to) (h:z00) :
  z01 Tryz.prog 83 [.agg c.cells,.int .i64 (s:Nat)] h (λv h2=>v=slAV 8 z0a.cells (some (secL b fr to))/\h2=h):=by
 refine z01.forget (zni (zol _) _) ?_;have hsl:=wc.slo t b S.bd;have hlt:=S.lt;have hle:=S.le;apply zhq
 (repeat simp -dsimp -implicitDefEqProofs (disch:=omega) only [↓rP,rA,↓reduceIte,reduceEqDiff,reduceAdd,reduceLeDiff,↓tyr,z03 hs,S.thr,z03 S.bd])
 rw [S.frm,S.to_,wkP to (by omega),sl_code hlt hle]
 (repeat simp -dsimp -implicitDefEqProofs (disch:=omega) only [↓rP,rA,↓reduceIte,reduceEqDiff,reduceAdd,reduceLeDiff,↓tyr])
 exact Keeps.one _ _
section
variable {G:z00} {id:Nat} {Z:List AV}
theorem st41 (ob:G.objs id=some (.row 160 Z)) (hZ:Z.length=4) (a b c d:AV) (J:z00->Prop):z1d 4 (.ptr id 0) (.agg [a,b,c,d]) G J=J (G.put id (.row 160 [a,b,c,d])):=by
 have e:Z.drop 4=[]:=List.drop_of_length_le (by omega);simp only [z1d,ob];simp [hZ,e]
theorem ld41 (a b c d:AV) (J:AV->Prop):z0r (some 4) (.ptr id 0) (G.put id (.row 160 [a,b,c,d])) J=J (.agg [a,b,c,d]):=by rw [z02 (z2w _ _ _)];simp [z04]
theorem stc41 (ob:G.objs id=some (.row 160 Z)) (hZ:Z.length=4) (v:Vl) (J:z00->Prop):z1d 4 (.ptr id 0) (.agg v.cells) G J=J (G.put id (.row 160 v.cells)):=st41 ob hZ _ _ _ _ J
theorem ldc41 (v:Vl) (J:AV->Prop):z0r (some 4) (.ptr id 0) (G.put id (.row 160 v.cells)) J=J (.agg v.cells):=ld41 _ _ _ _ J
end
theorem of_4 {L:List In} (hL:L.length<=1000) (k:Int) {h1 h:z00} (kp1:Keeps h1 h (λ_=>False)) (A1 A3 A4 A8:AV) (Q:z1p->Fr->z00->Prop)
  (hQ:∀ hh av,Keeps h1 hh (λ_=>False)->Keeps h hh (λ_=>False)->GvAt 56 8 z0a.cells h.next hh av (byS L k)->Q (.exit 0) (frOf [(1,A1),(2,.int .i64 k),(3,A3),(4,A4),(8,A8),(9,slAV 8 z0a.cells (some L)),(10,av)]) hh) :
  WP Tryz.prog 151 (.loop z7d) (frOf [(1,A1),(2,.int .i64 k),(3,A3),(4,A4),(8,A8),(9,slAV 8 z0a.cells (some L)),(10,.nils),(18,slAV 8 z0a.cells (some L)),(19,.int .i64 L.length),(20,.int .i64 0)]) h Q:=by
 obtain ⟨I,hI⟩:∃ I:Nat->Fr->z00->Prop,I=(λm fr hh=>∃ (j:Nat) (av:AV),m=L.length-j/\j<=L.length/\GvAt 56 8 z0a.cells h.next hh av (byS (L.take j) k)/\Keeps h hh (λ_=>False)/\fr=frOf [(1,A1),(2,.int .i64 k),(3,A3),(4,A4),(8,A8),(9,slAV 8 z0a.cells (some L)),(10,av),(18,slAV 8 z0a.cells (some L)),(19,.int .i64 L.length),(20,.int .i64 j)]):=⟨_,rfl⟩;refine z14 z07 (by kernel_rfl) I L.length (by rw [hI];exact ⟨0,.nils,rfl,Nat.zero_le _,Or.inl ⟨rfl,rfl⟩,.refl _ _,rfl⟩) ?_;intro m fr hh hi;rw [hI] at hi;obtain ⟨j,av,rfl,hj,gv,kp,rfl⟩:=hi;apply zg4
 (repeat simp -dsimp -implicitDefEqProofs (disch:=omega) only [↓rP,rA,↓reduceIte,reduceEqDiff,reduceAdd,reduceLeDiff,↓tyr])
 refine z0c (λhjl=>?_) (λhjl=>?_)
 ·obtain ⟨x,hx⟩:∃ x,L[j]?=some x:=⟨_,List.getElem?_eq_getElem (by omega)⟩;have hx':(slL (some L))[j]?=some x:=hx;have tk:L.take (j+1)=L.take j++[x]:=by rw [List.take_add_one,hx];rfl
  have bs:=byS_snoc (L.take j) x k;rw [<-tk] at bs;have bl:(byS (L.take j) k).length<=1000:=Nat.le_trans (wrW_le (L.take j) k) (by rw [List.length_take];omega);obtain ⟨H,hH⟩:∃ H,H=hh.push (.row 56 x.cells):=⟨_,rfl⟩;have kH:Keeps hh H (λ_=>False):=by rw [hH];exact Keeps.one _ _
  have kpH:Keeps h H (λ_=>False):=kp.go kH;have gvH:=gv.keep kH (λ_ _ e=>e);have ob:H.objs hh.next=some (.row 56 x.cells):=by rw [hH];exact z0w _ _
  have lc:∀ J:AV->Prop,z0r (some 8) (.ptr hh.next 0) H J=J (.agg x.cells):=λJ=>by rw [z02 ob];exact z0a.call x J
  have b1:∀ (G:z00) (J:AV->z00->Prop),z0j true { e:=56,sz:=8,by_:=96 } [AV.int .i64 0,AV.int .i64 0,AV.int .i64 0,AV.int .i64 0,AV.int .i64 0,AV.int .i64 0,AV.nils,AV.nils] 1 [(0,.agg x.cells)] G J=J (.isl 8 [x.cells]) G:=λG J=>by
   have hc:(AV.agg x.cells).cells=x.cells:=rfl;simp [z0j,z90,z0a.cells,AV.fits,AV.cells,List.replicate]
  (repeat simp -dsimp -implicitDefEqProofs (disch:=omega) only [↓rP,rA,↓reduceIte,reduceEqDiff,reduceAdd,reduceLeDiff,↓tyr,z03 hx'])
  refine z01.go (VDst_does x _) ?_;rw [<-hH];by_cases hd:dstI x=k
  ·have ed:(dstI x == k)=true:=by simpa using hd
   rw [if_pos hd] at bs
   (repeat simp -dsimp -implicitDefEqProofs (disch:=omega) only [↓rP,rA,↓reduceIte,reduceEqDiff,reduceAdd,reduceLeDiff,↓tyr,ed,↓lc,↓b1])
   refine gvH.app kpH (by omega) (by omega) x _ λav2 h2 g2 k2=>?_
   (repeat simp -dsimp -implicitDefEqProofs (disch:=omega) only [↓rP,rA,↓reduceIte,reduceEqDiff,reduceAdd,reduceLeDiff,↓tyr,wkP j (by omega)])
   rw [z05,hI];exact ⟨_,by omega,j+1,av2,rfl,by omega,bs▸g2,k2,rfl⟩
  ·have ed:(dstI x == k)=false:=by simpa using hd
   rw [if_neg hd,List.append_nil] at bs
   (repeat simp -dsimp -implicitDefEqProofs (disch:=omega) only [↓rP,rA,↓reduceIte,reduceEqDiff,reduceAdd,reduceLeDiff,↓tyr,ed,wkP j (by omega)])
   rw [z05,hI];exact ⟨_,by omega,j+1,av,rfl,by omega,bs▸gvH,kpH,rfl⟩
 ·(repeat simp -dsimp -implicitDefEqProofs (disch:=omega) only [↓rP,rA,↓reduceIte,reduceEqDiff,reduceAdd,reduceLeDiff,↓tyr])
  have e:j=L.length:=by omega
  subst e;rw [List.take_length] at gv;exact hQ hh av (kp1.go kp) kp gv
end
section
open Go.Abs
theorem clone_slAV (o:Option (List Int)) (hb:(slL o).length<=1000) (h:z00) (K:AV->z00->Prop) (hK:∀ v h2,znt (slL o) h v h2->K v h2):z0z true { e:=3,sz:=1,by_:=8 } .eml (slAV 1 encI o) h K:=by
 cases o with
 | none=>exact hK _ _ (Or.inl ⟨rfl,Or.inr rfl,rfl⟩)
 | some l=>exact zu5 l hb h K hK
def AnsQ (h:z00) (w:Vl) (v:AV) (h2:z00):Prop:=RzV h2 (λ_=>False) v (.agg w.cells)/\Keeps h h2 (λ_=>False)
theorem ofV_FL (L:List In) (on:Int->Bool):∀ f,FL (ofV L on f):=by
 have st:∀ G:In->Vl,(∀ x,(slL (G x).Path.Fields).length<=3)->FL (zn9 L on G):=λG hG k=>by
  unfold zn9;split
  ·simp [vWay]
  ·split
   ·exact hG _
   ·simp [vUnk]
  ·simp [vUnk]
 intro f
 induction f with
 | zero=>exact st _ (λx=>by simp [vUnk])
 | succ f ih=>exact st _ (λx=>ih.gives x)
theorem ans_done {c:Cd} {s slot fuel:Int} {h:z00} {w:Vl} (H:z01 Tryz.prog 101 [.agg c.cells,.int .i64 s,.int .i64 slot,.int .i64 fuel] h (λv h2=>AnsQ h w v h2)):z01 Tryz.prog 101 [.agg c.cells,.int .i64 s,.int .i64 slot,.int .i64 fuel] h (λv h2=>v=.agg w.cells/\h2=h):=by
 refine (z01.result (enc:=λq:Vl=>.agg q.cells) (Q:=λq=>q=w) (λq _=>vl_ids _ q) (H.mono ?_)).mono ?_
 ·rintro v h2 ⟨rz,kp⟩;exact ⟨λ_=>False,w,rfl,rz,λ_ h=>h.elim,kp⟩
 ·rintro v h2 ⟨⟨q,rfl,rfl⟩,rfl⟩;exact ⟨rfl,rfl⟩
theorem of_does {c:Cd} (hok:okC c=true) {s:Nat} {sec:z08} (hs:(slL c.Sections)[s]?=some sec) {t fr to:Nat} {b:Bd} (S:zru c sec t b fr to):∀ (fuel:Nat),fuel<=1000->∀ (k:Nat),k<(slL b.Slots).length->∀ (h:z00),
  z01 Tryz.prog 101 [.agg c.cells,.int .i64 (s:Nat),.int .i64 (k:Nat),.int .i64 (fuel:Nat)] h (λv h2=>v=.agg (ofV (secL b fr to) (onB b) fuel (k:Nat)).cells/\h2=h):=by
 have wc:=zf7 hok;have hsl:=wc.slo t b S.bd;have wf:=sec_wf wc S;have hL:=zt3 b fr to;have lc:∀ (H:z00) (K:AV->Prop),z0r (some 5) (.iptr c.cells) H K=K (.agg c.cells):=λH K=>by rw [z0y];exact z0g.call c K
 intro fuel
 induction fuel using Nat.strongRecOn with
 | _ fuel ih=>
 intro hfu k hk h;refine ans_done ?_;obtain ⟨L,eL⟩:∃ L,L=secL b fr to:=⟨_,rfl⟩;obtain ⟨W,eW⟩:∃ W,W=ofV (secL b fr to) (onB b) fuel (k:Nat):=⟨_,rfl⟩;rw [<-eW];apply zkl
 (repeat (first | simp -dsimp -implicitDefEqProofs (disch:=omega) only [↓rP,rA,↓reduceIte,reduceEqDiff,reduceAdd,reduceLeDiff,↓tyr,↓lc] | refine Cut.go ?_))
 refine z01.go (ztd wc hs S _) ?_;obtain ⟨H,hH⟩:∃ H,H=h.push (.row 160 [AV.int .i64 0,AV.bool false,AV.int .i64 0,AV.nils]):=⟨_,rfl⟩;have kH:Keeps h H (λ_=>False):=by rw [hH];exact Keeps.one _ _
 have ob:H.objs h.next=some (.row 160 [AV.int .i64 0,AV.bool false,AV.int .i64 0,AV.nils]):=by rw [hH];exact z0w _ _
 have hlt:h.next<H.next:=by rw [hH];exact Nat.lt_succ_self _
 have lL:∀ (J:AV->Prop),pLen .slice (slAV 8 z0a.cells (some L)) J=J (.int .i64 L.length):=λJ=>by simp
 rw [<-hH,<-eL];rw [<-eL] at hL wf eW
 (repeat (first | simp -dsimp -implicitDefEqProofs (disch:=omega) only [↓rP,rA,↓reduceIte,reduceEqDiff,reduceAdd,reduceLeDiff,↓tyr,↓lL] | refine Cut.go ?_))
 refine of_4 (h1:=h) (by omega) (k:Nat) kH _ _ _ _ _ ?_;intro hh av kp kpH gv;have obh:hh.objs h.next=some (.row 160 [AV.int .i64 0,AV.bool false,AV.int .i64 0,AV.nils]):=by rw [kpH.objs _ hlt (by simp)];exact ob
 have kq:∀ {G:z00} (kG:Keeps h G (λ_=>False)) (o:AObj),Keeps h (G.put h.next o) (λ_=>False):=λkG o=>kG.zi2 (Nat.le_refl _) o;have unkE:∀ (G:z00),Keeps h G (λ_=>False)->W=vUnk->AnsQ h W (.agg [AV.int .i64 0,AV.bool false,AV.int .i64 0,AV.nils]) G:=λG kG e=>by
  rw [e];exact ⟨RzV.same _,kG⟩
 have b0:∀ (J:AV->Prop),z3w [(0,1),(1,3)] [AV.int .i64 0,AV.bool false,AV.int .i64 0,AV.nils] [] J=J (.agg [AV.int .i64 0,AV.bool false,AV.int .i64 0,AV.nils]):=λJ=>rfl;have sE:∀ G,W=zn9 L (onB b) G (k:Nat)->byS L (k:Nat)=[]->W=vWay false (k:Nat):=λG e hb=>by rw [e];unfold zn9;rw [hb]
 have eW0:∃ G,W=zn9 L (onB b) G (k:Nat):=by
  cases fuel with
  | zero=>exact ⟨_,eW⟩
  | succ f=>exact ⟨_,eW⟩
 cases hb:byS L (k:Nat) with
 | nil=>
  rw [hb] at gv;have hW:W=vWay false (k:Nat):=by obtain ⟨G,e⟩:=eW0;exact sE G e hb
  have b1:∀ J:AV->Prop,z3w [(0,1),(1,1),(2,1)] [AV.bool false,AV.int .i64 0,AV.nils] [(1,.int .i64 (k:Nat))] J=J (.agg [.bool false,.int .i64 (k:Nat),.nils]):=λJ=>rfl;have b2:∀ J:AV->Prop,z3w [(0,1),(1,3)] [AV.int .i64 0,AV.bool false,AV.int .i64 0,AV.nils] [(0,.int .i64 2),(1,.agg [.bool false,.int .i64 (k:Nat),.nils])] J=J (.agg (vWay false (k:Nat)).cells):=λJ=>rfl;have gl:=gv.len;simp only [List.length_nil] at gl
  (repeat (first | simp -dsimp -implicitDefEqProofs (disch:=omega) only [↓rP,rA,↓reduceIte,reduceEqDiff,reduceAdd,reduceLeDiff,↓tyr,↓gl,↓b1,↓b2,↓stc41 obh rfl,↓ldc41] | refine Cut.go ?_))
  rw [hW];exact ⟨RzV.same _,kq kp _⟩
 | cons x l=>
  rw [hb] at gv;have gl:=gv.len;have hbl:(x::l).length<=1000:=by rw [<-hb];exact Nat.le_trans (wrW_le L (k:Nat)) (by omega)
  have el0:((((x::l).length:Nat):Int) == 0)=false:=by simp;omega
  cases hl:l with
  | cons y l2=>
   subst hl;have hW:W=vUnk:=by obtain ⟨G,e⟩:=eW0;rw [e];unfold zn9;rw [hb]
   have el1:decide ((1:Int)<(((x::y::l2).length:Nat):Int))=true:=by simp;omega
   (repeat (first | simp -dsimp -implicitDefEqProofs (disch:=omega) only [↓rP,rA,↓reduceIte,reduceEqDiff,reduceAdd,reduceLeDiff,↓tyr,↓gl,el0,el1] | refine Cut.go ?_))
   unfold z2k
   (repeat (first | simp -dsimp -implicitDefEqProofs (disch:=omega) only [↓rP,rA,↓reduceIte,reduceEqDiff,reduceAdd,reduceLeDiff,↓tyr,↓b0,↓st41 obh rfl,↓ld41] | refine Cut.go ?_))
   exact unkE _ (kq kp _) hW
  | nil=>
   subst hl;have el1:decide ((1:Int)<((([x]:List In).length:Nat):Int))=false:=by simp
   by_cases hf0:fuel=0
   ·subst hf0;have hW:W=vUnk:=by rw [eW];show zn9 L (onB b) (λ_=>vUnk) (k:Nat)=_;unfold zn9;rw [hb];simp only;split <;> rfl
    (repeat (first | simp -dsimp -implicitDefEqProofs (disch:=omega) only [↓rP,rA,↓reduceIte,reduceEqDiff,reduceAdd,reduceLeDiff,↓tyr,↓gl,el0,el1] | refine Cut.go ?_))
    unfold z2k
    (repeat (first | simp -dsimp -implicitDefEqProofs (disch:=omega) only [↓rP,rA,↓reduceIte,reduceEqDiff,reduceAdd,reduceLeDiff,↓tyr,↓b0,↓st41 obh rfl,↓ld41] | refine Cut.go ?_))
    exact unkE _ (kq kp _) hW
   obtain ⟨f,rfl⟩:∃ f,fuel=f+1:=⟨fuel-1,by omega⟩;have ef0:((((f+1:Nat):Int)) == 0)=false:=by simp;omega
   have hWs:W=if onB b (k:Nat)=true then zhx L (ofV L (onB b) f) x else vUnk:=by
    rw [eW];show zn9 L (onB b) (λx=>zhx L (ofV L (onB b) f) x) (k:Nat)=_;unfold zn9;rw [hb]
   obtain ⟨lo,hlo⟩:∃ lo,(slL b.Slots)[k]?=some lo:=⟨_,List.getElem?_eq_getElem hk⟩;have eon:=on_at hlo;rw [eon] at hWs
   (repeat (first | simp -dsimp -implicitDefEqProofs (disch:=omega) only [↓rP,rA,↓reduceIte,reduceEqDiff,reduceAdd,reduceLeDiff,↓tyr,↓gl,el0,el1,ef0,z03 hs,S.thr,z03 S.bd,z03 hlo] | refine Cut.go ?_))
   cases hon:lo.Once with
   | false=>
    rw [hon] at hWs;unfold z2k
    (repeat (first | simp -dsimp -implicitDefEqProofs (disch:=omega) only [↓rP,rA,↓reduceIte,reduceEqDiff,reduceAdd,reduceLeDiff,↓tyr,↓b0,↓st41 obh rfl,↓ld41] | refine Cut.go ?_))
    exact unkE _ (kq kp _) hWs
   | true=>
   rw [hon,if_pos rfl] at hWs;have gi:∀ J:AV->Prop,z0d (.slice 8) av (.int .i64 0) J=J (.iptr x.cells):=λJ=>gv.ix (k:=0) rfl .i64 J;have hxL:x∈L:=by
    have:x∈byS L (k:Nat):=by rw [hb];simp
    exact (List.mem_filter.1 this).1
   have wx:=wf x hxL;obtain ⟨X,hX⟩:∃ X,X=hh.push (.row 56 x.cells):=⟨_,rfl⟩;have kX:Keeps hh X (λ_=>False):=by rw [hX];exact Keeps.one _ _
   have kpX:Keeps h X (λ_=>False):=kp.go kX;have hlt2:h.next<hh.next:=Nat.lt_of_lt_of_le hlt kpH.next;have obX:X.objs h.next=some (.row 160 [AV.int .i64 0,AV.bool false,AV.int .i64 0,AV.nils]):=by rw [kX.objs _ hlt2 (by simp)];exact obh
   have oI:X.objs hh.next=some (.row 56 x.cells):=by rw [hX];exact z0w _ _
   have f2:∀ {G:z00} (hG:G.objs hh.next=some (.row 56 x.cells)) (J:AV->Prop),z0r none (.ptr hh.next 2) G J=J (.int .i64 x.Src):=λhG J=>by rw [z02 hG];rfl
   have f3:∀ {G:z00} (hG:G.objs hh.next=some (.row 56 x.cells)) (J:AV->Prop),z0r none (.ptr hh.next 3) G J=J (.int .i64 x.Rec):=λhG J=>by rw [z02 hG];rfl
   have f4:∀ {G:z00} (hG:G.objs hh.next=some (.row 56 x.cells)) (J:AV->Prop),z0r none (.ptr hh.next 4) G J=J (.int .i64 x.N):=λhG J=>by rw [z02 hG];rfl
   have f6:∀ (J:AV->Prop),z0r none (.ptr hh.next 6) X J=J (slAV 3 z09.cells x.Items):=λJ=>by rw [z02 oI];rfl
   have es:IntKind.i64.wrap (((f+1:Nat):Int)-1)=(f:Nat):=by rw [z2f (by omega) (by omega)];omega
   have b1:∀ (J:AV->Prop),z3w [(0,1),(1,3)] [AV.int .i64 0,AV.bool false,AV.int .i64 0,AV.nils] [(0,AV.int .i64 1)] J=J (.agg [AV.int .i64 1,AV.bool false,AV.int .i64 0,AV.nils]):=λJ=>rfl;have b2:∀ (n:Int) (J:AV->Prop),z3w [(0,1),(1,1),(2,1)] [AV.bool false,AV.int .i64 0,AV.nils] [(0,AV.bool true),(1,AV.int .i64 n)] J=J (.agg [AV.bool true,AV.int .i64 n,AV.nils]):=λn J=>rfl;have b3:∀ (a b c:AV) (J:AV->Prop),z3w [(0,1),(1,3)] [AV.int .i64 0,AV.bool false,AV.int .i64 0,AV.nils] [(0,AV.int .i64 2),(1,.agg [a,b,c])] J=J (.agg [AV.int .i64 2,a,b,c]):=λa b c J=>rfl;have ihf:=ih f (by omega) (by omega);rw [<-eL] at ihf;unfold z2k
   (repeat (first | simp -dsimp -implicitDefEqProofs (disch:=omega) only [↓rP,rA,↓reduceIte,reduceEqDiff,reduceAdd,reduceLeDiff,↓tyr,↓gi] | refine Cut.go ?_))
   rw [<-hX];by_cases h8:x.Op=8\/x.Op=9
   ·have hW:W=vFresh:=by rw [hWs];unfold zhx;rw [if_pos h8]
    rw [hW];rcases h8 with h8 | h8
    ·refine z0i (λh2=>?_) (λh2=>absurd h8 h2)
     (repeat (first | simp -dsimp -implicitDefEqProofs (disch:=omega) only [↓rP,rA,↓reduceIte,reduceEqDiff,reduceAdd,reduceLeDiff,↓tyr,↓b1,↓st41 obX rfl,↓ld41] | refine Cut.go ?_))
     exact ⟨RzV.same _,kq kpX _⟩
    ·refine z0i (λh2=>absurd h2 (by omega)) (λh2=>?_);have e9:(x.Op == 9)=true:=by simpa using h8
     (repeat (first | simp -dsimp -implicitDefEqProofs (disch:=omega) only [↓rP,rA,↓reduceIte,reduceEqDiff,reduceAdd,reduceLeDiff,↓tyr,e9,↓b1,↓st41 obX rfl,↓ld41] | refine Cut.go ?_))
     exact ⟨RzV.same _,kq kpX _⟩
   refine z0i (λh2=>absurd (Or.inl h2) h8) (λ_=>?_);have e9:(x.Op == 9)=false:=by simp;omega
   (repeat (first | simp -dsimp -implicitDefEqProofs (disch:=omega) only [↓rP,rA,↓reduceIte,reduceEqDiff,reduceAdd,reduceLeDiff,↓tyr,e9] | refine Cut.go ?_))
   refine z0i (λh1=>?_) (λh1=>?_)
   ·
    have ev:W=zsi (ofV L (onB b) f) (slL x.Items):=by rw [hWs];unfold zhx;rw [if_neg h8,if_pos h1]
    rw [ev] at unkE ⊢
    (repeat (first | simp -dsimp -implicitDefEqProofs (disch:=omega) only [↓rP,rA,↓reduceIte,reduceEqDiff,reduceAdd,reduceLeDiff,↓tyr,f6] | refine Cut.go ?_))
    refine z0i (λh2=>?_) (λh2=>?_)
    ·obtain ⟨y,hy⟩:∃ y,slL x.Items=[y]:=List.length_eq_one_iff.1 (by omega);have hx0:(slL x.Items)[((0:Nat))]?=some y:=by rw [hy];rfl
     have ix0:∀ J:AV->Prop,z0d (.slice 3) (slAV 3 z09.cells x.Items) (.int .i64 0) J=J (.iptr y.cells):=λJ=>z03 hx0 .i64 J;have hitem:=(wx.items (Or.inl h1)).1 y (by rw [hy];simp)
     (repeat (first | simp -dsimp -implicitDefEqProofs (disch:=omega) only [↓rP,rA,↓reduceIte,reduceEqDiff,reduceAdd,reduceLeDiff,↓tyr,↓ix0,f6] | refine Cut.go ?_))
     by_cases h3:y.Op=2
     ·have e3:(y.Op == 2)=true:=by simpa using h3
      have hyl:=hitem h3;have iv:zsi (ofV L (onB b) f) (slL x.Items)=ofV L (onB b) f (y.N:Nat):=by rw [hy];simp [zsi,h3]
      have cv:∀ (J:AV->Prop),z1o (.int .i64) (.int .u64 (y.N:Int)) X J=J (.int .i64 (y.N:Nat)):=λJ=>by
       have:IntKind.i64.wrap (y.N:Int)=y.N:=z2f (by omega) (by omega);simp [z1o,this]
      rw [iv]
      (repeat (first | simp -dsimp -implicitDefEqProofs (disch:=omega) only [↓rP,rA,↓reduceIte,reduceEqDiff,reduceAdd,reduceLeDiff,↓tyr,e3,↓ix0,f6,↓lc,↓cv,es] | refine Cut.go ?_))
      refine z01.go (ihf y.N hyl X) ?_
      (repeat (first | simp -dsimp -implicitDefEqProofs (disch:=omega) only [↓rP,rA,↓reduceIte,reduceEqDiff,reduceAdd,reduceLeDiff,↓tyr,↓stc41 obX rfl,↓ldc41] | refine Cut.go ?_))
      exact ⟨RzV.same _,kq kpX _⟩
     ·have e3:(y.Op == 2)=false:=by simpa using h3
      have iv:zsi (ofV L (onB b) f) (slL x.Items)=vUnk:=by rw [hy];simp [zsi,h3]
      (repeat (first | simp -dsimp -implicitDefEqProofs (disch:=omega) only [↓rP,rA,↓reduceIte,reduceEqDiff,reduceAdd,reduceLeDiff,↓tyr,e3,↓b0,↓st41 obX rfl,↓ld41] | refine Cut.go ?_))
      exact unkE _ (kq kpX _) iv
    ·have iv:zsi (ofV L (onB b) f) (slL x.Items)=vUnk:=by
      unfold zsi;split
      ·rename_i y hy;rw [hy] at h2;exact absurd rfl h2
      ·rfl
     (repeat (first | simp -dsimp -implicitDefEqProofs (disch:=omega) only [↓rP,rA,↓reduceIte,reduceEqDiff,reduceAdd,reduceLeDiff,↓tyr,↓b0,↓st41 obX rfl,↓ld41] | refine Cut.go ?_))
     exact unkE _ (kq kpX _) iv
   (repeat (first | simp -dsimp -implicitDefEqProofs (disch:=omega) only [↓rP,rA,↓reduceIte,reduceEqDiff,reduceAdd,reduceLeDiff,↓tyr] | refine Cut.go ?_))
   refine z0i (λh2=>?_) (λh2=>?_)
   ·
    have ev:W=if zrn L x.N then vUnk else vWay true x.N:=by rw [hWs];unfold zhx;rw [if_neg h8,if_neg h1,if_pos h2]
    (repeat (first | simp -dsimp -implicitDefEqProofs (disch:=omega) only [↓rP,rA,↓reduceIte,reduceEqDiff,reduceAdd,reduceLeDiff,↓tyr,f4 oI] | refine Cut.go ?_))
    refine z01.go (znx L (by omega) (-1) x.N _) ?_;have er:zee L (-1) x.N=zrn L x.N:=by unfold zee;rw [if_pos (by omega)]
    rw [er]
    cases hsg:zrn L x.N with
    | true=>
     rw [hsg] at ev
     (repeat (first | simp -dsimp -implicitDefEqProofs (disch:=omega) only [↓rP,rA,↓reduceIte,reduceEqDiff,reduceAdd,reduceLeDiff,↓tyr,↓b0,↓st41 obX rfl,↓ld41] | refine Cut.go ?_))
     exact unkE _ (kq kpX _) ev
    | false=>
     rw [hsg] at ev;rw [ev]
     (repeat (first | simp -dsimp -implicitDefEqProofs (disch:=omega) only [↓rP,rA,↓reduceIte,reduceEqDiff,reduceAdd,reduceLeDiff,↓tyr,f4 oI,↓b2,↓b3,↓st41 obX rfl,↓ld41] | refine Cut.go ?_))
     exact ⟨RzV.same _,kq kpX _⟩
   (repeat (first | simp -dsimp -implicitDefEqProofs (disch:=omega) only [↓rP,rA,↓reduceIte,reduceEqDiff,reduceAdd,reduceLeDiff,↓tyr] | refine Cut.go ?_))
   refine z0i (λh3=>?_) (λh3=>?_)
   ·
    obtain ⟨r,hr,-,hsrc⟩:=wx.fld (Or.inl h3);have hr0:=(zsc hr).1;obtain ⟨m,em,hm⟩:=vbtw_nat hsrc;obtain ⟨V,eV⟩:∃ V,V=ofV L (onB b) f (m:Nat):=⟨_,rfl⟩;have hV3:(slL V.Path.Fields).length<=3:=by rw [eV];exact ofV_FL L (onB b) f _
    have ev:W=if V.Kind=2/\(slL V.Path.Fields).length<=2/\zrm L x.Rec x.N=false then longV V x.N else vUnk:=by
     rw [hWs];unfold zhx;rw [if_neg h8,if_neg h1,if_neg h2,if_pos h3,em,<-eV]
    have er:zee L x.Rec x.N=zrm L x.Rec x.N:=by unfold zee;rw [if_neg (by omega)]
    obtain ⟨Y,hY⟩:∃ Y,Y=X.push (.row 160 V.cells):=⟨_,rfl⟩;have kY:Keeps X Y (λ_=>False):=by rw [hY];exact Keeps.one _ _
    have hltX:h.next<X.next:=Nat.lt_of_lt_of_le hlt2 kX.next;have hltX2:hh.next<X.next:=by rw [hX];exact Nat.lt_succ_self _
    have obY:Y.objs h.next=some (.row 160 [AV.int .i64 0,AV.bool false,AV.int .i64 0,AV.nils]):=by rw [kY.objs _ hltX (by simp)];exact obX
    have oIY:Y.objs hh.next=some (.row 56 x.cells):=by rw [kY.objs _ hltX2 (by simp)];exact oI
    have oV:Y.objs X.next=some (.row 160 V.cells):=by rw [hY];exact z0w _ _
    have g0:∀ J:AV->Prop,z0r none (.ptr X.next 0) Y J=J (.int .i64 V.Kind):=λJ=>by rw [z02 oV];rfl
    have g3:∀ J:AV->Prop,z0r none (.ptr X.next 3) Y J=J (slAV 1 encI V.Path.Fields):=λJ=>by rw [z02 oV];rfl
    (repeat (first | simp -dsimp -implicitDefEqProofs (disch:=omega) only [↓rP,rA,↓reduceIte,reduceEqDiff,reduceAdd,reduceLeDiff,↓tyr,↓lc,f2 oI,em,es] | refine Cut.go ?_))
    refine z01.go (ihf m hm X) ?_;rw [<-eV]
    (repeat (first | simp -dsimp -implicitDefEqProofs (disch:=omega) only [↓rP,rA,↓reduceIte,reduceEqDiff,reduceAdd,reduceLeDiff,↓tyr] | refine Cut.go ?_))
    rw [<-hY];by_cases hk2:V.Kind=2
    ·have ek:(V.Kind == 2)=true:=by simpa using hk2
     (repeat (first | simp -dsimp -implicitDefEqProofs (disch:=omega) only [↓rP,rA,↓reduceIte,reduceEqDiff,reduceAdd,reduceLeDiff,↓tyr,g0,ek,g3] | refine Cut.go ?_))
     by_cases hl3:(slL V.Path.Fields).length<=2
     ·have el:decide (((slL V.Path.Fields).length:Int)<=2)=true:=by simp;omega
      (repeat (first | simp -dsimp -implicitDefEqProofs (disch:=omega) only [↓rP,rA,↓reduceIte,reduceEqDiff,reduceAdd,reduceLeDiff,↓tyr,el,f3 oIY,f4 oIY] | refine Cut.go ?_))
      refine z01.go (znx L (by omega) x.Rec x.N _) ?_;rw [er];rcases Bool.eq_false_or_eq_true (zrm L x.Rec x.N) with hs2 | hs2
      ·rw [if_neg (λh=>by rw [hs2] at h;cases h.2.2)] at ev
       (repeat (first | simp -dsimp -implicitDefEqProofs (disch:=omega) only [↓rP,rA,↓reduceIte,reduceEqDiff,reduceAdd,reduceLeDiff,↓tyr,hs2,↓b0,↓st41 obY rfl,↓ld41] | refine Cut.go ?_))
       exact unkE _ (kq (kpX.go kY) _) ev
      ·rw [if_pos ⟨hk2,hl3,hs2⟩] at ev;have be:∀ (G:z00) (K:AV->z00->Prop),z0j false { e:=3,sz:=1,by_:=8 } [AV.int .i64 0] 0 [] G K=K .eml G:=λG K=>rfl;have bn:∀ (G:z00) (K:AV->z00->Prop),z0j true { e:=3,sz:=1,by_:=8 } [AV.int .i64 0] 1 [(0,.int .i64 x.N)] G K=K (.isl 1 [[.int .i64 x.N]]) G:=λG K=>by
        simp [z0j,z90,AV.fits,AV.cells,List.replicate]
       (repeat (first | simp -dsimp -implicitDefEqProofs (disch:=omega) only [↓rP,rA,↓reduceIte,reduceEqDiff,reduceAdd,reduceLeDiff,↓tyr,hs2,↓be,g3,f4 oIY] | refine Cut.go ?_))
       unfold z9d
       (repeat (first | simp -dsimp -implicitDefEqProofs (disch:=omega) only [↓rP,rA,↓reduceIte,reduceEqDiff,reduceAdd,reduceLeDiff,↓tyr,↓bn] | refine Cut.go ?_))
       refine clone_slAV V.Path.Fields (by omega) _ _ λv1 Z1 hq=>?_;have kZ1:Keeps Y Z1 (λ_=>False):=by
        rcases hq with ⟨_,_,rfl⟩ | ⟨_,_,rfl⟩
        ·exact Keeps.refl _ _
        ·exact Keeps.one _ _
       have hXY:X.next<Y.next:=by rw [hY];exact Nat.lt_succ_self _
       have oI1:Z1.objs hh.next=some (.row 56 x.cells):=by rw [kZ1.objs _ (Nat.lt_trans hltX2 hXY) (by simp)];exact oIY
       (repeat (first | simp -dsimp -implicitDefEqProofs (disch:=omega) only [↓rP,rA,↓reduceIte,reduceEqDiff,reduceAdd,reduceLeDiff,↓tyr,f4 oI1] | refine Cut.go ?_))
       refine app_one hq (by omega) x.N _ λid Z2 kZ2=>?_;have oV2:Z2.objs X.next=some (.row 160 V.cells):=by rw [kZ2.objs _ hXY (by simp)];exact oV
       have ob2:Z2.objs h.next=some (.row 160 [AV.int .i64 0,AV.bool false,AV.int .i64 0,AV.nils]):=by rw [kZ2.objs _ (Nat.lt_trans hltX hXY) (by simp)];exact obY
       obtain ⟨Z3,hZ3⟩:∃ Z3,Z3=Z2.put X.next (.row 160 [.int .i64 V.Kind,.bool V.Path.Global,.int .i64 V.Path.N,.gsl id 1 ((slL V.Path.Fields++[x.N]).map encI)]):=⟨_,rfl⟩;have st3:∀ J:z00->Prop,z1d 1 (.ptr X.next 3) (.gsl id 1 ((slL V.Path.Fields++[x.N]).map encI)) Z2 J=J Z3:=λJ=>by
        rw [hZ3,z1g oV2 rfl (by simp [z0q.cells])];rfl
       have ld3:∀ J:AV->Prop,z0r (some 4) (.ptr X.next 0) Z3 J=J (.agg [.int .i64 V.Kind,.bool V.Path.Global,.int .i64 V.Path.N,.gsl id 1 ((slL V.Path.Fields++[x.N]).map encI)]):=λJ=>by rw [hZ3];exact ld41 _ _ _ _ J
       have ob3:Z3.objs h.next=some (.row 160 [AV.int .i64 0,AV.bool false,AV.int .i64 0,AV.nils]):=by rw [hZ3,z1i (by omega)];exact ob2
       have kp3:Keeps h Z3 (λ_=>False):=by rw [hZ3];exact ((kpX.go kY).go kZ2).zi2 (by omega) _
       (repeat (first | simp -dsimp -implicitDefEqProofs (disch:=omega) only [↓rP,rA,↓reduceIte,reduceEqDiff,reduceAdd,reduceLeDiff,↓tyr,↓st3,↓ld3,↓st41 ob3 rfl,↓ld41] | refine Cut.go ?_))
       rw [ev,hk2];exact ⟨RzV.agg (RzL.cons (RzV.same _) (RzL.cons (RzV.same _) (RzL.cons (RzV.same _) (RzL.cons (RzV.gsl (by simp;omega) (RzE.same _ _)) RzL.nil)))),kq kp3 _⟩
     ·have el:decide (((slL V.Path.Fields).length:Int)<=2)=false:=by simp;omega
      rw [if_neg (λh=>hl3 h.2.1)] at ev
      (repeat (first | simp -dsimp -implicitDefEqProofs (disch:=omega) only [↓rP,rA,↓reduceIte,reduceEqDiff,reduceAdd,reduceLeDiff,↓tyr,el,↓b0,↓st41 obY rfl,↓ld41] | refine Cut.go ?_))
      exact unkE _ (kq (kpX.go kY) _) ev
    ·have ek:(V.Kind == 2)=false:=by simpa using hk2
     rw [if_neg (λh=>hk2 h.1)] at ev
     (repeat (first | simp -dsimp -implicitDefEqProofs (disch:=omega) only [↓rP,rA,↓reduceIte,reduceEqDiff,reduceAdd,reduceLeDiff,↓tyr,g0,ek,↓b0,↓st41 obY rfl,↓ld41] | refine Cut.go ?_))
     exact unkE _ (kq (kpX.go kY) _) ev
   ·have ev:W=vUnk:=by rw [hWs];unfold zhx;rw [if_neg h8,if_neg h1,if_neg h2,if_neg h3]
    (repeat (first | simp -dsimp -implicitDefEqProofs (disch:=omega) only [↓rP,rA,↓reduceIte,reduceEqDiff,reduceAdd,reduceLeDiff,↓tyr,↓b0,↓st41 obX rfl,↓ld41] | refine Cut.go ?_))
    exact unkE _ (kq kpX _) ev
end
section
open Go.Abs
theorem bslV (x:Vl) (G:z00) (J:AV->z00->Prop):z0j true { e:=160,sz:=4,by_:=48 } [AV.int .i64 0,AV.bool false,AV.int .i64 0,AV.nils] 1 [(0,.agg x.cells)] G J=J (.isl 4 [x.cells]) G:=by
 simp [z0j,z90,z0q.cells,AV.fits,AV.cells,List.replicate]
theorem rof_6 {c:Cd} (hok:okC c=true) {s:Nat} {sec:z08} (hs:(slL c.Sections)[s]?=some sec) {t fr to:Nat} {b:Bd} (S:zru c sec t b fr to) (hn:(slL b.Slots).length<=100) (h:z00) (Q:z1p->Fr->z00->Prop)
  (hQ:∀ hh av,Keeps h hh (λ_=>False)->GvAt 160 4 z0q.cells h.next hh av (zq9 b (secL b fr to))->Q (.exit 0) (frOf [(5,av)]) hh) :
  WP Tryz.prog 48 (.loop z7c) (frOf [(1,.int .i64 (s:Nat)),(2,.iptr c.cells),(5,.nils),(6,.int .i64 (slL b.Slots).length),(7,.int .i64 0)]) h Q:=by
 have lc:∀ (H:z00) (K:AV->Prop),z0r (some 5) (.iptr c.cells) H K=K (.agg c.cells):=λH K=>by rw [z0y];exact z0g.call c K
 obtain ⟨n,en⟩:∃ n,n=(slL b.Slots).length:=⟨_,rfl⟩;obtain ⟨F,eF⟩:∃ F:Nat->Vl,F=λk=>ofV (secL b fr to) (onB b) n (k:Nat):=⟨_,rfl⟩;have eP:zq9 b (secL b fr to)=(List.range n).map F:=by unfold zq9;rw [<-en,eF]
 rw [eP] at hQ;rw [<-en];obtain ⟨I,hI⟩:∃ I:Nat->Fr->z00->Prop,I=(λm fr hh=>∃ (j:Nat) (av:AV),m=n-j/\j<=n/\GvAt 160 4 z0q.cells h.next hh av ((List.range j).map F)/\Keeps h hh (λ_=>False)/\fr=frOf [(1,.int .i64 (s:Nat)),(2,.iptr c.cells),(5,av),(6,.int .i64 n),(7,.int .i64 j)]):=⟨_,rfl⟩;refine z14 z07 (by kernel_rfl) I n (by rw [hI];exact ⟨0,.nils,rfl,Nat.zero_le _,Or.inl ⟨rfl,rfl⟩,.refl _ _,rfl⟩) ?_;intro m fr' hh hi;rw [hI] at hi;obtain ⟨j,av,rfl,hj,gv,kp,rfl⟩:=hi;apply zg3
 (repeat simp -dsimp -implicitDefEqProofs (disch:=omega) only [↓rP,rA,↓reduceIte,reduceEqDiff,reduceAdd,reduceLeDiff,↓tyr])
 refine z0c (λhjl=>?_) (λhjl=>?_)
 ·(repeat simp -dsimp -implicitDefEqProofs (disch:=omega) only [↓rP,rA,↓reduceIte,reduceEqDiff,reduceAdd,reduceLeDiff,↓tyr,↓lc])
  refine z01.go (of_does hok hs S n (by omega) j (by omega) hh) ?_;have ej:ofV (secL b fr to) (onB b) n (j:Nat)=F j:=by rw [eF]
  rw [ej]
  (repeat simp -dsimp -implicitDefEqProofs (disch:=omega) only [↓rP,rA,↓reduceIte,reduceEqDiff,reduceAdd,reduceLeDiff,↓tyr,↓bslV])
  refine gv.app kp (by simp;omega) (by omega) (F j) _ λav2 h2 g2 k2=>?_
  (repeat simp -dsimp -implicitDefEqProofs (disch:=omega) only [↓rP,rA,↓reduceIte,reduceEqDiff,reduceAdd,reduceLeDiff,↓tyr,wkP j (by omega)])
  rw [z05,hI];refine ⟨_,by omega,j+1,av2,rfl,by omega,?_,k2,rfl⟩;rw [List.range_succ,List.map_append];exact g2
 ·(repeat simp -dsimp -implicitDefEqProofs (disch:=omega) only [↓rP,rA,↓reduceIte,reduceEqDiff,reduceAdd,reduceLeDiff,↓tyr])
  have e:j=n:=by omega
  subst e;exact hQ hh av kp gv
theorem rOf_does (c:Cd) (hc:c.ok) (sm:Small c) (s:Int) (h:z00):z01 Tryz.prog 82 [.agg c.cells,.int .i64 s] h (λv h2=>(∃ o,v=slAV 4 z0q.cells o/\slL o=slL (zn7 c s))/\h2=h):=by
 refine z01.result (enc:=λo:Option (List Vl)=>slAV 4 z0q.cells o) (Q:=λo=>slL o=slL (zn7 c s)) (λo _=>ids_vls _ o) ?_;have lc:∀ (H:z00) (K:AV->Prop),z0r (some 5) (.iptr c.cells) H K=K (.agg c.cells):=λH K=>by rw [z0y];exact z0g.call c K
 have none_:zn7 c s=none->∃ (D:Nat->Prop) (o:Option (List Vl)),slL o=slL (zn7 c s)/\RzV h D .nils (slAV 4 z0q.cells o)/\(∀ i,D i->h.next<=i/\h.objs i≠none)/\Keeps h h (λ_=>False):=λe=>⟨λ_=>False,none,by rw [e],RzV.same _,λ_ h=>h.elim,.refl _ _⟩;apply zkk
 (repeat simp -dsimp -implicitDefEqProofs (disch:=omega) only [↓rP,rA,↓reduceIte,reduceEqDiff,reduceAdd,reduceLeDiff,↓tyr,↓lc])
 refine z01.go (zm1 c hc sm _) ?_
 cases hok:okC c with
 | false=>
  have hn:zn7 c s=none:=by unfold zn7;rw [if_neg (by rw [hok];simp)]
  (repeat simp -dsimp -implicitDefEqProofs (disch:=omega) only [↓rP,rA,↓reduceIte,reduceEqDiff,reduceAdd,reduceLeDiff,↓tyr])
  exact none_ hn
 | true=>
  have wc:=zf7 hok;by_cases h0:s<0
  ·have e0:decide (s<0)=true:=decide_eq_true h0;have hn:zn7 c s=none:=by
    unfold zn7;rw [if_pos hok];have:getI (slL c.Sections) s=none:=by unfold getI;rw [if_neg (by omega)]
    rw [this]
   (repeat simp -dsimp -implicitDefEqProofs (disch:=omega) only [↓rP,rA,↓reduceIte,reduceEqDiff,reduceAdd,reduceLeDiff,↓tyr,e0])
   exact none_ hn
  have e0:decide (s<0)=false:=decide_eq_false h0;by_cases h1:(slL c.Sections).length<=s
  ·have e1:decide (((slL c.Sections).length:Int)<=s)=true:=decide_eq_true h1;have hn:zn7 c s=none:=by
    unfold zn7;rw [if_pos hok];have:getI (slL c.Sections) s=none:=by unfold getI;rw [if_pos (by omega)];exact List.getElem?_eq_none (by omega)
    rw [this]
   (repeat simp -dsimp -implicitDefEqProofs (disch:=omega) only [↓rP,rA,↓reduceIte,reduceEqDiff,reduceAdd,reduceLeDiff,↓tyr,e0,e1])
   exact none_ hn
  have e1:decide (((slL c.Sections).length:Int)<=s)=false:=decide_eq_false h1;obtain ⟨k,rfl⟩:∃ k:Nat,s=k:=⟨s.toNat,by omega⟩;obtain ⟨sec,hs⟩:∃ sec,(slL c.Sections)[k]?=some sec:=⟨_,List.getElem?_eq_getElem (by omega)⟩;obtain ⟨t,b,fr,to,S⟩:=sec_of hok hs;have hsl:=wc.slo t b S.bd
  (repeat simp -dsimp -implicitDefEqProofs (disch:=omega) only [↓rP,rA,↓reduceIte,reduceEqDiff,reduceAdd,reduceLeDiff,↓tyr,e0,e1,z03 hs,S.thr,z03 S.bd])
  refine rof_6 hok hs S (by omega) h _ ?_;intro hh av kp gv
  (repeat simp -dsimp -implicitDefEqProofs (disch:=omega) only [↓rP,rA,↓reduceIte,reduceEqDiff,reduceAdd,reduceLeDiff,↓tyr])
  rw [zrd hok hs S];have hpl:(zq9 b (secL b fr to)).length<=100:=by unfold zq9;simp;omega
  refine ⟨λ_=>False,some (zq9 b (secL b fr to)),rfl,gv.rz (by omega),λ_ h=>h.elim,kp⟩
end
section
open Go.Abs
theorem zxe (n:Nat) (h:z00) (J:AV->Prop):z0r none (.iptr (encN n)) h J=J (.int .u64 (n:Nat)):=by rw [z0y];rfl
theorem ld_row (r:Option (List Nat)) (h:z00) (J:AV->Prop):z0r none (.iptr ((λo=>[slAV 1 encN o]) r)) h J=J (slAV 1 encN r):=by rw [z0y];rfl
theorem site_19 {rows:Option (List (Option (List Nat)))} {row:Option (List Nat)} {t m n:Nat} (hr:(slL rows)[t]?=some row) (hn:(slL row)[m]?=some n) (hlt:n<18446744073709551616) {x:In} (em:x.Src=(m:Nat))
  {h:z00} {sid xid:Nat} {B C:AV} (oS:h.objs sid=some (.row 128 [slAV 1 (λo=>[slAV 1 encN o]) rows,B,C])) (oX:h.objs xid=some (.row 56 x.cells)) (A6 A7 A9 A12 A13 A15 A37 A38 A39:AV) (Q:z1p->Fr->z00->Prop)
  (hQ:Q (.exit 2) (frOf [(5,.ptr sid 0),(6,A6),(7,A7),(8,.int .i64 t),(9,A9),(11,.ptr xid 0),(12,A12),(13,A13),(15,A15),(16,.int .i64 (zht n:Nat)),(37,A37),(38,A38),(39,A39)]) h) :
  WP Tryz.prog 226 (.loop z4y) (frOf [(5,.ptr sid 0),(6,A6),(7,A7),(8,.int .i64 t),(9,A9),(11,.ptr xid 0),(12,A12),(13,A13),(15,A15),(16,.int .i64 0),(37,A37),(38,A38),(39,A39)]) h Q:=by
 obtain ⟨I,hI⟩:∃ I:Nat->Fr->z00->Prop,I=(λm fr hh=>∃ k:Nat,m=32-k/\k<=32/\(∀ i,i<k->n.testBit i=false)/\hh=h/\fr=frOf [(5,.ptr sid 0),(6,A6),(7,A7),(8,.int .i64 t),(9,A9),(11,.ptr xid 0),(12,A12),(13,A13),(15,A15),(16,.int .i64 (k:Nat)),(37,A37),(38,A38),(39,A39)]):=⟨_,rfl⟩;refine z14 z07 (by kernel_rfl) I 32 (by rw [hI];exact ⟨0,rfl,Nat.zero_le _,λi h=>by omega,rfl,rfl⟩) ?_;intro m' fr hh hi;rw [hI] at hi;obtain ⟨k,rfl,hk,hb,rfl,rfl⟩:=hi;have fS:∀ J:AV->Prop,z0r none (.ptr sid 0) hh J=J (slAV 1 (λo=>[slAV 1 encN o]) rows):=λJ=>by rw [z02 oS];rfl
 have fX:∀ J:AV->Prop,z0r none (.ptr xid 2) hh J=J (.int .i64 (m:Nat)):=λJ=>by rw [z02 oX,<-em];rfl
 apply zc4;by_cases hk2:k<32
 ·have e1:decide ((k:Int)<32)=true:=by simp;omega
  (repeat (first | simp -dsimp -implicitDefEqProofs (disch:=omega) only [↓rP,rA,↓reduceIte,reduceEqDiff,reduceAdd,reduceLeDiff,↓tyr,e1,↓fS,↓fX,z03 hr,z03 hn,↓ld_row,↓zxe] | refine Cut.go ?_))
  refine z01.go (zor n hlt k (by omega) hh) ?_
  cases hbk:n.testBit k with
  | true=>
   (repeat (first | simp -dsimp -implicitDefEqProofs (disch:=omega) only [↓rP,rA,↓reduceIte,reduceEqDiff,reduceAdd,reduceLeDiff,↓tyr] | refine Cut.go ?_))
   rw [siteL_here hk2 hb hbk] at hQ;exact hQ
  | false=>
   (repeat (first | simp -dsimp -implicitDefEqProofs (disch:=omega) only [↓rP,rA,↓reduceIte,reduceEqDiff,reduceAdd,reduceLeDiff,↓tyr,wkP k (by omega)] | refine Cut.go ?_))
   rw [z05,hI];refine ⟨_,by omega,k+1,rfl,by omega,λi hi=>?_,rfl,rfl⟩;by_cases e:i=k
   ·rw [e];exact hbk
   ·exact hb i (by omega)
 ·have e1:decide ((k:Int)<32)=false:=by simp;omega
  have e:k=32:=by omega
  subst e
  (repeat (first | simp -dsimp -implicitDefEqProofs (disch:=omega) only [↓rP,rA,↓reduceIte,reduceEqDiff,reduceAdd,reduceLeDiff,↓tyr,e1] | refine Cut.go ?_))
  rw [siteL_none hb] at hQ;exact hQ
theorem bslC (x:Cm) (G:z00) (J:AV->z00->Prop):z0j true { e:=109,sz:=12,by_:=128 } [AV.int .i64 0,.bool false,.int .i64 0,.nils,.int .i64 0,.bool false,.int .i64 0,.bool false,.int .i64 0,.nils,.int .i64 0,.int .i64 0] 1 [(0,.agg x.cells)] G J=J (.isl 12 [x.cells]) G:=by
 simp [z0j,z90,z06.cells,AV.fits,AV.cells,List.replicate]
theorem zzl (o:Option (List Int)):(slAV 1 encI o).fits=true/\(slAV 1 encI o).cells=[slAV 1 encI o]:=by cases o <;> exact ⟨rfl,rfl⟩
theorem sl_no:slAV 1 encI (none:Option (List Int))=.nils:=rfl
theorem blC1 (n m:Int) (J:AV->Prop):z3w [(0,1),(1,3),(4,1),(5,1),(6,1),(7,3),(10,1),(11,1)] [AV.int .i64 0,.bool false,.int .i64 0,.nils,.int .i64 0,.bool false,.int .i64 0,.bool false,.int .i64 0,.nils,.int .i64 0,.int .i64 0] [(0,.int .i64 1),(2,.int .i64 n),(7,.int .i64 m)] J=J (.agg (⟨1,noP,n,false,0,noP,0,m⟩:Cm).cells):=rfl
theorem blC4 (cl m:Int) (J:AV->Prop):z3w [(0,1),(1,3),(4,1),(5,1),(6,1),(7,3),(10,1),(11,1)] [AV.int .i64 0,.bool false,.int .i64 0,.nils,.int .i64 0,.bool false,.int .i64 0,.bool false,.int .i64 0,.nils,.int .i64 0,.int .i64 0] [(0,.int .i64 4),(6,.int .i64 cl),(7,.int .i64 m)] J=J (.agg (zer cl m).cells):=rfl
theorem blC2 (p:z0f) (n cl m:Int) (J:AV->Prop):z3w [(0,1),(1,3),(4,1),(5,1),(6,1),(7,3),(10,1),(11,1)] [AV.int .i64 0,.bool false,.int .i64 0,.nils,.int .i64 0,.bool false,.int .i64 0,.bool false,.int .i64 0,.nils,.int .i64 0,.int .i64 0] [(0,.int .i64 2),(1,.agg p.cells),(2,.int .i64 n),(6,.int .i64 cl),(7,.int .i64 m)] J=J (.agg (⟨2,p,n,false,0,noP,cl,m⟩:Cm).cells):=by
 simp [z3w,zcj,z0f.cells,z06.cells,AV.cells,AV.fits,noP,zzl,sl_no]
theorem blC3 (p:z0f) (cl m:Int) (J:AV->Prop):z3w [(0,1),(1,3),(4,1),(5,1),(6,1),(7,3),(10,1),(11,1)] [AV.int .i64 0,.bool false,.int .i64 0,.nils,.int .i64 0,.bool false,.int .i64 0,.bool false,.int .i64 0,.nils,.int .i64 0,.int .i64 0] [(0,.int .i64 3),(1,.agg p.cells),(6,.int .i64 cl),(7,.int .i64 m)] J=J (.agg (⟨3,p,0,false,0,noP,cl,m⟩:Cm).cells):=by
 simp [z3w,zcj,z0f.cells,z06.cells,AV.cells,AV.fits,noP,zzl,sl_no]
theorem GvAt.app2 {α:Type} {T:TypeId} {sz:Nat} {enc:α->List AV} {hh:z00} {av:AV} {l:List α} {h:z00} (g:GvAt T sz enc h.next hh av l) (kp:Keeps h hh (λ_=>False)) {b:Nat} (hl:l.length<=10000) (hb:b<=1000) (x:α) (J:AV->z00->Prop)
  (hJ:∀ av2 h2,GvAt T sz enc h.next h2 av2 (l++[x])->Keeps h h2 (λ_=>False)->(∀ i ty cs,i<hh.next->hh.objs i=some (.row ty cs)->h2.objs i=some (.row ty cs))->J av2 h2):z0z true { e:=T,sz:=sz,by_:=b } av (.isl sz [enc x]) hh J:=by
 have hkn:=kp.next;have hbd:∀ n,n<=10001->bounded { e:=T,sz:=sz,by_:=b } n:=λn hn=>by
  have:n*b<=10001*1000:=Nat.mul_le_mul hn hb;simp only [bounded,maxLen];omega
 rcases g with ⟨rfl,rfl⟩ | ⟨hne,id,rfl,ho,h1,h2⟩
 ·have:=hJ (.gsl hh.next sz [enc x]) (hh.push (.tok T (1*sz))) (Or.inr ⟨by simp,hh.next,rfl,z0w _ _,hkn,by simp⟩) (kp.zg9 _) (λi ty cs hi e=>by rw [z1h hi];exact e);simp only [z0z,z10,if_true,zac];exact ⟨hbd _ (by simp),this⟩
 ·have:=hJ (.gsl hh.next sz (l.map enc++[enc x])) ((hh.kill id).push (.tok T ((l++[x]).length*sz))) (Or.inr ⟨by simp,hh.next,by simp,z0w (hh.kill id) _,hkn,Nat.lt_succ_self _⟩) ((kp.zbe h1).zg9 _) (λi ty cs hi e=>by
   have hne:i≠id:=λq=>by rw [q,ho] at e;cases e
   rw [z1h (h:=hh.kill id) hi,zsj hne];exact e)
  simp only [z0z,z10,if_true,ho,List.length_map,List.length_cons,List.length_nil,true_and];refine ⟨hbd _ (by omega),?_⟩;simpa using this
section
variable {x:In} {K:Nat->Vl} {o:Option (List Int)} {ko:Option (List Vl)} {s m nS xid vid j:Nat} {mo:Int} {fld:Bool} {A5 A8 A37 A38 av:AV} {l:List Cm} {h0 G:z00} {Q:z1p->Fr->z00->Prop}
def zjg (cl:Int) (K:Nat->Vl) (x:In) (m:Nat) (mo:Int) (fld:Bool):Cm:=
 if (K m).Kind≠2 then zer cl mo else if fld=true then ⟨2,(K m).Path,x.N,false,0,noP,cl,mo⟩ else zu7 K (K m).Path cl mo (slL x.Index)
theorem wants_p2 (g:GvAt 109 12 z06.cells h0.next G av l) (kp:Keeps h0 G (λ_=>False)) (hl:l.length<=1000) (hj:j<=1000) (obX:G.objs xid=some (.row 56 x.cells)) (obV:G.objs vid=some (.row 160 (K m).cells)) (hxn:xid<G.next) (hvn:vid<G.next)
  (hk:∀ i,i<nS->(slL ko)[i]?=some (K i)) (hix:fld=false->∀ y∈slL x.Index,y.Op=2->y.N<nS) (hs:s≠32->s<(slL o).length) (hs2:s<=32)
  (hQ:∀ av2 h2,GvAt 109 12 z06.cells h0.next h2 av2 (l++(if (K m).Kind=1\/s=32 then [] else [zjg ((slL o).getD s 0) K x m mo fld]))->Keeps h0 h2 (λ_=>False)->Q .normal (frOf [(5,A5),(6,slAV 1 encI o),(7,slAV 4 z0q.cells ko),(8,A8),(9,av2),(37,A37),(38,A38),(39,.int .i64 ((j+1:Nat):Int))]) h2) (fr':Fr) (h':z00) (b1:Bool) (hb1:b1=decide ((K m).Kind=1)) :
  z1z Q fr' h' (frOf [(5,A5),(6,slAV 1 encI o),(7,slAV 4 z0q.cells ko),(8,A8),(9,av),(11,.ptr xid 0),(12,.int .i64 mo),(13,.bool fld),(15,.ptr vid 0),(16,.int .i64 s),(37,A37),(38,A38),(39,.int .i64 j)]) G (.bool b1):=by
 unfold z1z;by_cases k1:(K m).Kind=1
 ·rw [if_pos (Or.inl k1),List.append_nil] at hQ;have e1:b1=true:=by rw [hb1];exact decide_eq_true k1
  (repeat (first | simp -dsimp -implicitDefEqProofs (disch:=omega) only [↓rP,rA,↓reduceIte,reduceEqDiff,reduceAdd,reduceLeDiff,↓tyr,e1,wkP j (by omega)] | refine Cut.go ?_))
  exact hQ _ _ g kp
 have e1:b1=false:=by rw [hb1];exact decide_eq_false k1
 by_cases s1:s=32
 ·rw [if_pos (Or.inr s1),List.append_nil] at hQ;have e2:((s:Int) == 32)=true:=by simp;omega
  (repeat (first | simp -dsimp -implicitDefEqProofs (disch:=omega) only [↓rP,rA,↓reduceIte,reduceEqDiff,reduceAdd,reduceLeDiff,↓tyr,e1,e2,wkP j (by omega)] | refine Cut.go ?_))
  exact hQ _ _ g kp
 have e2:((s:Int) == 32)=false:=by simp;omega
 rw [if_neg (by simp [k1,s1])] at hQ;obtain ⟨cl,hcl⟩:∃ cl,(slL o)[s]?=some cl:=⟨_,List.getElem?_eq_getElem (hs s1)⟩;have ecl:(slL o).getD s 0=cl:=by rw [List.getD_eq_getElem?_getD,hcl];rfl
 rw [ecl] at hQ;obtain ⟨H,hH⟩:∃ H,H=G.push (.row 109 (zer cl mo).cells):=⟨_,rfl⟩;have kG:Keeps G H (λ_=>False):=by rw [hH];exact Keeps.one _ _
 have kpH:=kp.go kG;have gH:=g.keep kG (λ_ _ e=>e);have oX:H.objs xid=some (.row 56 x.cells):=by rw [hH,z1h hxn];exact obX
 have hxn2:xid<H.next:=Nat.lt_of_lt_of_le hxn kG.next;have hvn2:vid<H.next:=Nat.lt_of_lt_of_le hvn kG.next;have oV:H.objs vid=some (.row 160 (K m).cells):=by rw [hH,z1h hvn];exact obV
 have oW:H.objs G.next=some (.row 109 (zer cl mo).cells):=by rw [hH];exact z0w _ _
 have lW:∀ J:AV->Prop,z0r (some 12) (.ptr G.next 0) H J=J (.agg (zer cl mo).cells):=λJ=>by rw [z02 oW];exact z06.call _ J
 by_cases k2:(K m).Kind=2
 ·have e3:((K m).Kind != 2)=false:=by simpa using k2
  cases fld with
  | true=>
   have hc:zjg cl K x m mo true=⟨2,(K m).Path,x.N,false,0,noP,cl,mo⟩:=by simp [zjg,k2]
   rw [hc] at hQ
   (repeat (first | simp -dsimp -implicitDefEqProofs (disch:=omega) only [↓rP,rQ,rO,rL,↓reduceIte,reduceEqDiff,reduceAdd,reduceLeDiff,↓tyr,e1,e2,z03 hcl,↓z8i,blC4] | refine Cut.go ?_))
   rw [<-hH]
   (repeat (first | simp -dsimp -implicitDefEqProofs (disch:=omega) only [↓rP,rQ,rO,rL,↓reduceIte,reduceEqDiff,reduceAdd,reduceLeDiff,↓tyr,z02 oV,z02 oX,e3,z03 hcl,↓z8i,blC2,↓bslC] | refine Cut.go ?_))
   refine gH.app2 kpH (by omega) (by omega) _ _ λav2 h2 g2 k2 st=>?_;have oX2:=st _ _ _ hxn2 oX;have oV2:=st _ _ _ hvn2 oV
   (repeat (first | simp -dsimp -implicitDefEqProofs (disch:=omega) only [↓rP,rQ,rO,rL,↓reduceIte,reduceEqDiff,reduceAdd,reduceLeDiff,↓tyr,z02 oV2,z02 oX2,↓z8i,wkP j (by omega)] | refine Cut.go ?_))
   exact hQ _ _ g2 k2
  | false=>
   have hc:zjg cl K x m mo false=zu7 K (K m).Path cl mo (slL x.Index):=by simp [zjg,k2]
   rw [hc] at hQ;obtain ⟨H2,hH2⟩:∃ H2,H2=H.push (.row 109 (⟨3,(K m).Path,0,false,0,noP,cl,mo⟩:Cm).cells):=⟨_,rfl⟩;have kG2:Keeps G H2 (λ_=>False):=by rw [hH2];exact kG.go (Keeps.one _ _)
   have oX2:H2.objs xid=some (.row 56 x.cells):=by rw [hH2,z1h hxn2];exact oX
   have oV2:H2.objs vid=some (.row 160 (K m).cells):=by rw [hH2,z1h hvn2];exact oV
   have oW2:H2.objs G.next=some (.row 109 (zer cl mo).cells):=by rw [hH2,z1h (by rw [hH];exact Nat.lt_succ_self _)];exact oW
   have oO:H2.objs H.next=some (.row 109 (⟨3,(K m).Path,0,false,0,noP,cl,mo⟩:Cm).cells):=by rw [hH2];exact z0w _ _
   have lW2:∀ J:AV->Prop,z0r (some 12) (.ptr G.next 0) H2 J=J (.agg (zer cl mo).cells):=λJ=>by rw [z02 oW2];exact z06.call _ J
   have kn:G.next<=H.next:=kG.next;have fin:∀ (c:Cm) (H4:z00) (J:AV->z00->Prop),Keeps G H4 (λ_=>False)->zu7 K (K m).Path cl mo (slL x.Index)=c->(∀ av2 h2,Q .normal (frOf [(5,A5),(6,slAV 1 encI o),(7,slAV 4 z0q.cells ko),(8,A8),(9,av2),(37,A37),(38,A38),(39,.int .i64 ((j+1:Nat):Int))]) h2->J av2 h2)->z0z true { e:=109,sz:=12,by_:=128 } av (.isl 12 [c.cells]) H4 J:=λc H4 J k4 e hJ=>by
    subst e;exact (g.keep k4 (λ_ _ e=>e)).app (kp.go k4) (by omega) (by omega) _ _ λav2 h2 g2 k2=>hJ _ _ (hQ _ _ g2 k2)
   (repeat (first | simp -dsimp -implicitDefEqProofs (disch:=omega) only [↓rP,rQ,rO,rL,↓reduceIte,reduceEqDiff,reduceAdd,reduceLeDiff,↓tyr,e1,e2,z03 hcl,↓z8i,blC4] | refine Cut.go ?_))
   rw [<-hH];have lV:∀ z k off J,z0r k (.ptr vid off) (H.push z) J=z04 k (K m).cells off J:=λz k off J=>z02 (by rw [z1h hvn2];exact oV) k J
   (repeat (first | simp -dsimp -implicitDefEqProofs (disch:=omega) only [↓rP,rQ,rO,rL,↓reduceIte,reduceEqDiff,reduceAdd,reduceLeDiff,↓tyr,z02 oV,z02 oX,e3,z03 hcl,↓z8i,blC3,lV] | refine Cut.go ?_))
   rw [<-hH2];have whole:(∀ y,slL x.Index=[y]->y.Op≠1/\(y.Op=2->(K y.N).Kind≠2))->zu7 K (K m).Path cl mo (slL x.Index)=zer cl mo:=λhn=>by
    unfold zu7;split
    ·rename_i y e;obtain ⟨n1,n2⟩:=hn y e;rw [if_neg n1,if_neg (λq=>n2 q.1 q.2)]
    ·rfl
   by_cases hl1:(slL x.Index).length=1
   ·obtain ⟨y,hy⟩:∃ y,slL x.Index=[y]:=List.length_eq_one_iff.1 hl1;have el:(((slL x.Index).length:Int) == 1)=true:=by rw [hl1];rfl
    have iy:∀ J:AV->Prop,z0d (.slice 3) (slAV 3 z09.cells x.Index) (.int .i64 0) J=J (.iptr y.cells):=λJ=>z03 (k:=0) (by rw [hy];rfl) .i64 J;by_cases y1:y.Op=1
    ·have ey:(y.Op == 1)=true:=by simpa using y1
     have sA:∀ J:z00->Prop,z1d 1 (.ptr H.next 5) (.bool true) H2 J=J (H2.put H.next (.row 109 (⟨3,(K m).Path,0,true,0,noP,cl,mo⟩:Cm).cells)):=λJ=>z1g oO rfl (by simp [z06.cells]) J;obtain ⟨H3,hH3⟩:∃ H3,H3=H2.put H.next (.row 109 (⟨3,(K m).Path,0,true,0,noP,cl,mo⟩:Cm).cells):=⟨_,rfl⟩;have oX3:H3.objs xid=some (.row 56 x.cells):=by rw [hH3,z1i (by omega)];exact oX2
     have oO3:H3.objs H.next=some (.row 109 (⟨3,(K m).Path,0,true,0,noP,cl,mo⟩:Cm).cells):=by rw [hH3];exact z2w _ _ _
     have sB:∀ J:z00->Prop,z1d 1 (.ptr H.next 6) (.int .i64 (IntKind.i64.wrap y.N)) H3 J=J (H3.put H.next (.row 109 (⟨3,(K m).Path,0,true,sgN y.N,noP,cl,mo⟩:Cm).cells)):=λJ=>z1g oO3 rfl (by simp [z06.cells]) J;have lC:∀ J:AV->Prop,z0r (some 12) (.ptr H.next 0) (H3.put H.next (.row 109 (⟨3,(K m).Path,0,true,sgN y.N,noP,cl,mo⟩:Cm).cells)) J=J (.agg (⟨3,(K m).Path,0,true,sgN y.N,noP,cl,mo⟩:Cm).cells):=λJ=>by rw [z02 (z2w _ _ _)];exact z06.call _ J
     (repeat (first | simp -dsimp -implicitDefEqProofs (disch:=omega) only [↓rP,rQ,rO,rL,↓reduceIte,reduceEqDiff,reduceAdd,reduceLeDiff,↓tyr,z02 oX2,el,iy,ey] | refine Cut.go ?_))
     rw [sA,<-hH3]
     (repeat (first | simp -dsimp -implicitDefEqProofs (disch:=omega) only [↓rP,rQ,rO,rL,↓reduceIte,reduceEqDiff,reduceAdd,reduceLeDiff,↓tyr,z02 oX3,iy,sB,↓lC,↓bslC] | refine Cut.go ?_))
     refine fin _ _ _ ((hH3▸kG2.zi2 kn _:Keeps G H3 _).zi2 kn _) (by rw [hy];simp [zu7,y1]) λav2 h2 q=>?_
     (repeat (first | simp -dsimp -implicitDefEqProofs (disch:=omega) only [↓rP,rQ,rO,rL,↓reduceIte,reduceEqDiff,reduceAdd,reduceLeDiff,↓tyr,wkP j (by omega)] | refine Cut.go ?_))
     exact q
    have ey:(y.Op == 1)=false:=by simpa using y1
    by_cases y2:y.Op=2
    ·have ey2:(y.Op == 2)=true:=by simpa using y2
     have hyn:y.N<nS:=hix rfl y (by rw [hy];simp) y2;have iK:∀ J:AV->Prop,z0d (.slice 4) (slAV 4 z0q.cells ko) (.int .u64 (y.N:Nat)) J=J (.iptr (K y.N).cells):=λJ=>z03 (hk _ hyn) .u64 J;by_cases y3:(K y.N).Kind=2
     ·have ek:((K y.N).Kind == 2)=true:=by simpa using y3
      have sA:∀ J:z00->Prop,z1d 3 (.ptr H.next 7) (.agg (K y.N).Path.cells) H2 J=J (H2.put H.next (.row 109 (⟨3,(K m).Path,0,false,0,(K y.N).Path,cl,mo⟩:Cm).cells)):=λJ=>by
       simp only [z1d,oO];simp [z06.cells,z0f.cells]
      have lC:∀ J:AV->Prop,z0r (some 12) (.ptr H.next 0) (H2.put H.next (.row 109 (⟨3,(K m).Path,0,false,0,(K y.N).Path,cl,mo⟩:Cm).cells)) J=J (.agg (⟨3,(K m).Path,0,false,0,(K y.N).Path,cl,mo⟩:Cm).cells):=λJ=>by rw [z02 (z2w _ _ _)];exact z06.call _ J
      (repeat (first | simp -dsimp -implicitDefEqProofs (disch:=omega) only [↓rP,rQ,rO,rL,↓reduceIte,reduceEqDiff,reduceAdd,reduceLeDiff,↓tyr,z02 oX2,el,iy,ey,ey2,iK,ek,z6i,sA,↓lC,↓bslC] | refine Cut.go ?_))
      refine fin _ _ _ (kG2.zi2 kn _) (by rw [hy];simp [zu7,y1,y2,y3]) λav2 h2 q=>?_
      (repeat (first | simp -dsimp -implicitDefEqProofs (disch:=omega) only [↓rP,rQ,rO,rL,↓reduceIte,reduceEqDiff,reduceAdd,reduceLeDiff,↓tyr,wkP j (by omega)] | refine Cut.go ?_))
      exact q
     ·have ek:((K y.N).Kind == 2)=false:=by simpa using y3
      (repeat (first | simp -dsimp -implicitDefEqProofs (disch:=omega) only [↓rP,rQ,rO,rL,↓reduceIte,reduceEqDiff,reduceAdd,reduceLeDiff,↓tyr,z02 oX2,el,iy,ey,ey2,iK,ek,↓lW2,↓bslC] | refine Cut.go ?_))
      refine fin _ _ _ kG2 (whole λz e=>by rw [hy] at e;cases e;exact ⟨y1,λ_=>y3⟩) λav2 h2 q=>?_
      (repeat (first | simp -dsimp -implicitDefEqProofs (disch:=omega) only [↓rP,rQ,rO,rL,↓reduceIte,reduceEqDiff,reduceAdd,reduceLeDiff,↓tyr,wkP j (by omega)] | refine Cut.go ?_))
      exact q
    ·have ey2:(y.Op == 2)=false:=by simpa using y2
     (repeat (first | simp -dsimp -implicitDefEqProofs (disch:=omega) only [↓rP,rQ,rO,rL,↓reduceIte,reduceEqDiff,reduceAdd,reduceLeDiff,↓tyr,z02 oX2,el,iy,ey,ey2,↓lW2,↓bslC] | refine Cut.go ?_))
     refine fin _ _ _ kG2 (whole λz e=>by rw [hy] at e;cases e;exact ⟨y1,λq=>absurd q y2⟩) λav2 h2 q=>?_
     (repeat (first | simp -dsimp -implicitDefEqProofs (disch:=omega) only [↓rP,rQ,rO,rL,↓reduceIte,reduceEqDiff,reduceAdd,reduceLeDiff,↓tyr,wkP j (by omega)] | refine Cut.go ?_))
     exact q
   ·have el:(((slL x.Index).length:Int) == 1)=false:=by simp;omega
    (repeat (first | simp -dsimp -implicitDefEqProofs (disch:=omega) only [↓rP,rQ,rO,rL,↓reduceIte,reduceEqDiff,reduceAdd,reduceLeDiff,↓tyr,z02 oX2,el,↓lW2,↓bslC] | refine Cut.go ?_))
    refine fin _ _ _ kG2 (whole λy e=>absurd (by rw [e];rfl) hl1) λav2 h2 q=>?_
    (repeat (first | simp -dsimp -implicitDefEqProofs (disch:=omega) only [↓rP,rQ,rO,rL,↓reduceIte,reduceEqDiff,reduceAdd,reduceLeDiff,↓tyr,wkP j (by omega)] | refine Cut.go ?_))
    exact q
 ·have e3:((K m).Kind != 2)=true:=by simpa using k2
  have hc:zjg cl K x m mo fld=zer cl mo:=by simp [zjg,k2]
  rw [hc] at hQ
  (repeat (first | simp -dsimp -implicitDefEqProofs (disch:=omega) only [↓rP,rQ,rO,rL,↓reduceIte,reduceEqDiff,reduceAdd,reduceLeDiff,↓tyr,e1,e2,z03 hcl,↓z8i,blC4] | refine Cut.go ?_))
  rw [<-hH]
  (repeat (first | simp -dsimp -implicitDefEqProofs (disch:=omega) only [↓rP,rA,↓reduceIte,reduceEqDiff,reduceAdd,reduceLeDiff,↓tyr,z02 oV,e3,↓lW,↓bslC] | refine Cut.go ?_))
  refine gH.app kpH (by omega) (by omega) _ _ λav2 h2 g2 k2=>?_
  (repeat (first | simp -dsimp -implicitDefEqProofs (disch:=omega) only [↓rP,rA,↓reduceIte,reduceEqDiff,reduceAdd,reduceLeDiff,↓tyr,wkP j (by omega)] | refine Cut.go ?_))
  exact hQ _ _ g2 k2
end
theorem wants_snoc {σ:Nat->Nat} {cls:List Int} {K:Nat->Vl} {L:List In} {j:Nat} {x:In} (hx:L[j]?=some x):zl5 σ cls K (L.take (j+1))=zl5 σ cls K (L.take j)++(match zt7 σ cls K x with | none=>[] | some c=>[c]):=by
 unfold zl5;rw [List.take_add_one,hx,List.filterMap_append];simp only [Option.toList,List.filterMap_cons,List.filterMap_nil];cases zt7 σ cls K x <;> rfl
theorem wants_7 {L:List In} {K:Nat->Vl} {o:Option (List Int)} {ko:Option (List Vl)} {rows:Option (List (Option (List Nat)))} {row:Option (List Nat)} {t sid:Nat} {b:Bd} {σ:Nat->Nat} {B C:AV} {h:z00} (hL:L.length<=1000) (hr:(slL rows)[t]?=some row) (hrow:∀ i,i<(slL b.Slots).length->(slL row)[i]?=some (σ i))
  (hlt:∀ i,σ i<18446744073709551616) (hbit:∀ i k,(σ i).testBit k=true->k<(slL o).length) (hk:∀ i,i<(slL b.Slots).length->(slL ko)[i]?=some (K i)) (wx:∀ x∈L,Wx b x)
  (oS:h.objs sid=some (.row 128 [slAV 1 (λo=>[slAV 1 encN o]) rows,B,C])) (hsid:sid<h.next) (Q:z1p->Fr->z00->Prop)
  (hQ:∀ hh av,Keeps h hh (λ_=>False)->GvAt 109 12 z06.cells h.next hh av (zl5 σ (slL o) K L)->Q (.exit 0) (frOf [(9,av)]) hh) :
  WP Tryz.prog 226 (.loop z5p) (frOf [(5,.ptr sid 0),(6,slAV 1 encI o),(7,slAV 4 z0q.cells ko),(8,.int .i64 t),(9,.nils),(37,slAV 8 z0a.cells (some L)),(38,.int .i64 L.length),(39,.int .i64 0)]) h Q:=by
 obtain ⟨I,hI⟩:∃ I:Nat->Fr->z00->Prop,I=(λm fr hh=>∃ (j:Nat) (av:AV),m=L.length-j/\j<=L.length/\GvAt 109 12 z06.cells h.next hh av (zl5 σ (slL o) K (L.take j))/\Keeps h hh (λ_=>False)/\fr=frOf [(5,.ptr sid 0),(6,slAV 1 encI o),(7,slAV 4 z0q.cells ko),(8,.int .i64 t),(9,av),(37,slAV 8 z0a.cells (some L)),(38,.int .i64 L.length),(39,.int .i64 j)]):=⟨_,rfl⟩;refine z14 z07 (by kernel_rfl) I L.length (by rw [hI];exact ⟨0,.nils,rfl,Nat.zero_le _,Or.inl ⟨rfl,rfl⟩,.refl _ _,rfl⟩) ?_;intro m fr hh hi;rw [hI] at hi;obtain ⟨j,av,rfl,hj,gv,kp,rfl⟩:=hi;apply zda
 (repeat (first | simp -dsimp -implicitDefEqProofs (disch:=omega) only [↓rP,rA,↓reduceIte,reduceEqDiff,reduceAdd,reduceLeDiff,↓tyr] | refine Cut.go ?_))
 refine z0c (λhjl=>?_) (λhjl=>?_)
 ·obtain ⟨x,hx⟩:∃ x,L[j]?=some x:=⟨_,List.getElem?_eq_getElem (by omega)⟩;have hx':(slL (some L))[j]?=some x:=hx;have sn:=wants_snoc (σ:=σ) (cls:=slL o) (K:=K) hx;have w:=wx x (List.mem_of_getElem? hx);have bl:(zl5 σ (slL o) K (L.take j)).length<=1000:=Nat.le_trans (List.length_filterMap_le _ _) (by rw [List.length_take];omega);obtain ⟨H,hH⟩:∃ H,H=hh.push (.row 56 x.cells):=⟨_,rfl⟩;have kH:Keeps hh H (λ_=>False):=by rw [hH];exact Keeps.one _ _
  have kpH:Keeps h H (λ_=>False):=kp.go kH;have gvH:=gv.keep kH (λ_ _ e=>e);have ob:H.objs hh.next=some (.row 56 x.cells):=by rw [hH];exact z0w _ _
  have hnl:hh.next<H.next:=by rw [hH];exact Nat.lt_succ_self _
  have nx:∀ av2 h2,GvAt 109 12 z06.cells h.next h2 av2 (zl5 σ (slL o) K (L.take (j+1)))->Keeps h h2 (λ_=>False)->z3d I (L.length-j) Q .normal (frOf [(5,.ptr sid 0),(6,slAV 1 encI o),(7,slAV 4 z0q.cells ko),(8,.int .i64 t),(9,av2),(37,slAV 8 z0a.cells (some L)),(38,.int .i64 L.length),(39,.int .i64 ((j+1:Nat):Int))]) h2:=λav2 h2 g2 k2=>by
   rw [z05,hI];exact ⟨_,by omega,j+1,av2,rfl,by omega,g2,k2,rfl⟩
  have hm4:∀ k,x.Op=k->zv6 x=if k=5\/k=6\/k=7 then 4 else 3:=λk e=>by subst e;rfl
  by_cases h25:x.Op=2\/x.Op=5
  ·have hw:zt7 σ (slL o) K x=some ⟨1,noP,x.N,false,0,noP,0,zv6 x⟩:=by unfold zt7;rw [if_pos h25]
   rw [hw] at sn
   (repeat (first | simp -dsimp -implicitDefEqProofs (disch:=omega) only [↓rP,rA,↓reduceIte,reduceEqDiff,reduceAdd,reduceLeDiff,↓tyr,z03 hx'] | refine Cut.go ?_))
   rw [<-hH];rcases h25 with e | e
   all_goals
    have em:=hm4 _ e
    first | rw [if_pos (by decide)] at em | rw [if_neg (by decide)] at em
    (repeat (first | simp -dsimp -implicitDefEqProofs (disch:=omega) only [↓rP,rQ,rO,rL,↓reduceIte,reduceEqDiff,reduceAdd,reduceLeDiff,↓tyr,z02 ob,e,Int.reduceBEq,blC1,↓bslC] | refine Cut.go ?_))
    refine gvH.app2 kpH (by omega) (by omega) _ _ λav2 h2 g2 k2 st=>?_;have ob2:=st _ _ _ hnl ob
    (repeat (first | simp -dsimp -implicitDefEqProofs (disch:=omega) only [↓rP,rQ,rO,rL,↓reduceIte,reduceEqDiff,reduceAdd,reduceLeDiff,↓tyr,z02 ob2,e,Int.reduceBEq,wkP j (by omega)] | refine Cut.go ?_))
    rw [em] at sn;exact nx _ _ (sn▸g2) k2
  by_cases hfe:x.Op=3\/x.Op=4\/x.Op=6\/x.Op=7
  ·have hb:=w.src (by omega);obtain ⟨m,em,hm⟩:∃ m:Nat,x.Src=m/\m<(slL b.Slots).length:=by unfold btw at hb;simp at hb;exact ⟨x.Src.toNat,by omega,by omega⟩
   have em2:x.Src.toNat=m:=by omega
   have iK:∀ J:AV->Prop,z0d (.slice 4) (slAV 4 z0q.cells ko) (.int .i64 (m:Nat)) J=J (.iptr (K m).cells):=λJ=>z03 (hk _ hm) .i64 J;obtain ⟨H2,hH2⟩:∃ H2,H2=H.push (.row 160 (K m).cells):=⟨_,rfl⟩;have kH2:Keeps hh H2 (λ_=>False):=by rw [hH2];exact kH.go (Keeps.one _ _)
   have ob2:H2.objs hh.next=some (.row 56 x.cells):=by rw [hH2,z1h hnl];exact ob
   have oV:H2.objs H.next=some (.row 160 (K m).cells):=by rw [hH2];exact z0w _ _
   have oS2:H2.objs sid=some (.row 128 [slAV 1 (λo=>[slAV 1 encN o]) rows,B,C]):=by rw [(kp.go kH2).objs sid hsid (λe=>e)];exact oS
   have lsv:H.next<H2.next:=by rw [hH2];exact Nat.lt_succ_self _
   (repeat (first | simp -dsimp -implicitDefEqProofs (disch:=omega) only [↓rP,rA,↓reduceIte,reduceEqDiff,reduceAdd,reduceLeDiff,↓tyr,z03 hx'] | refine Cut.go ?_))
   rw [<-hH];have hs32:zht (σ m)<=32:=by
    by_cases q:zht (σ m)=32
    ·omega
    ·have:=(zwa q).2;omega
   have hw:∀ fld,(fld=true↔(x.Op=3\/x.Op=6))->(match zt7 σ (slL o) K x with | none=>[] | some c=>[c])=if (K m).Kind=1\/zht (σ m)=32 then [] else [zjg ((slL o).getD (zht (σ m)) 0) K x m (zv6 x) fld]:=λfld hf=>by
    unfold zt7;rw [if_neg h25,if_pos (by omega),em2];by_cases q:(K m).Kind=1\/zht (σ m)=32
    ·rw [if_pos q,if_pos q]
    ·rw [if_neg q,if_neg q];simp only [cellC,zjg,em2,hf]
   have tail:∀ fld,(fld=true↔(x.Op=3\/x.Op=6))->∀ (fr':Fr) (h':z00),z1z (z3d I (L.length-j) Q) fr' h' (frOf [(5,.ptr sid 0),(6,slAV 1 encI o),(7,slAV 4 z0q.cells ko),(8,.int .i64 t),(9,av),(11,.ptr hh.next 0),(12,.int .i64 (zv6 x)),(13,.bool fld),(15,.ptr H.next 0),(16,.int .i64 (zht (σ m):Nat)),(37,slAV 8 z0a.cells (some L)),(38,.int .i64 L.length),(39,.int .i64 j)]) H2 (.bool (decide ((K m).Kind=1))):=λfld hf fr' h'=>
    wants_p2 (gv.keep kH2 (λ_ _ e=>e)) (kp.go kH2) bl (by omega) ob2 oV (by omega) lsv hk (λe=>(w.idx (Decidable.byContradiction λq=>by have q2:=hf.2 (by omega);rw [q2] at e;cases e)).1) (λq=>hbit m _ (zwa q).1) hs32 (λav2 h2 g2 k2=>nx _ _ (by rw [sn,hw fld hf];exact g2) k2) fr' h' _ rfl
   have ek:((K m).Kind == 1)=decide ((K m).Kind=1):=rfl;rcases hfe with e | e | e | e
   all_goals
    have emo:=hm4 _ e
    first | rw [if_pos (by decide)] at emo | rw [if_neg (by decide)] at emo
    rw [emo] at tail
    (repeat (first | simp -dsimp -implicitDefEqProofs (disch:=omega) only [↓rP,rQ,rO,rL,↓reduceIte,reduceEqDiff,reduceAdd,reduceLeDiff,↓tyr,z02 ob,e,Int.reduceBEq,em,iK] | refine Cut.go ?_))
    rw [<-hH2];refine site_19 hr (hrow m hm) (hlt m) em oS2 ob2 _ _ _ _ _ _ _ _ _ _ ?_
    (repeat (first | simp -dsimp -implicitDefEqProofs (disch:=omega) only [↓rP,rQ,rO,rL,↓reduceIte,reduceEqDiff,reduceAdd,reduceLeDiff,↓tyr,z02 oV,ek] | refine Cut.go ?_))
   ·exact tail true (by simp [e]) _ _
   ·exact tail false (by rw [e];decide) _ _
   ·exact tail true (by simp [e]) _ _
   ·exact tail false (by rw [e];decide) _ _
  ·have hw:zt7 σ (slL o) K x=none:=by unfold zt7;rw [if_neg h25,if_neg (by omega)]
   rw [hw,List.append_nil] at sn
   (repeat (first | simp -dsimp -implicitDefEqProofs (disch:=omega) only [↓rP,rA,↓reduceIte,reduceEqDiff,reduceAdd,reduceLeDiff,↓tyr,z03 hx',wkP j (by omega)] | refine Cut.go ?_))
   rw [<-hH];exact nx _ _ (sn▸gvH) kpH
 ·(repeat (first | simp -dsimp -implicitDefEqProofs (disch:=omega) only [↓rP,rA,↓reduceIte,reduceEqDiff,reduceAdd,reduceLeDiff,↓tyr] | refine Cut.go ?_))
  have e:j=L.length:=by omega
  subst e;rw [List.take_length] at gv;exact hQ hh av kp gv
def knownK (b:Bd) (L:List In):Nat->Vl:=λk=>ofV L (onB b) (slL b.Slots).length (k:Nat)
noncomputable def zwf (c:Cd) (t:Nat) (b:Bd) (L:List In):List Cm:=zl5 (z6h c (.s t)) (clsL c) (knownK b L) L
theorem ids_cm (D:Nat->Prop) (o:Option (List Cm)):z1x D (slAV 12 z06.cells o):=zni (enc:=z06.cells) (λc=>⟨trivial,trivial,trivial,zgv _ _,trivial,trivial,trivial,trivial,trivial,zgv _ _,trivial,trivial,trivial⟩) o
theorem Wants_does {c:Cd} (hc:c.ok) (sm:Small c) (hok:okC c=true) {s:Nat} {sec:z08} (hs:(slL c.Sections)[s]?=some sec) {t fr to:Nat} {b:Bd} (S:zru c sec t b fr to) (h:z00) :
  z01 Tryz.prog 59 [.agg c.cells,.int .i64 (s:Nat)] h (λv h2=>(∃ o,v=slAV 12 z06.cells o/\slL o=zwf c t b (secL b fr to))/\h2=h):=by
 have wc:=zf7 hok;have hsl:=wc.slo t b S.bd;have hL:=zt3 b fr to;refine z01.result (enc:=λo:Option (List Cm)=>slAV 12 z06.cells o) (Q:=λo=>slL o=zwf c t b (secL b fr to)) (λo _=>ids_cm _ o) ?_;have lc:∀ (H:z00) (K:AV->Prop),z0r (some 5) (.iptr c.cells) H K=K (.agg c.cells):=λH K=>by rw [z0y];exact z0g.call c K
 apply zg6
 (repeat (first | simp -dsimp -implicitDefEqProofs (disch:=omega) only [↓rP,rA,↓reduceIte,reduceEqDiff,reduceAdd,reduceLeDiff,↓tyr,↓lc] | refine Cut.go ?_))
 refine (zy7 c hc sm h).mono ?_;rintro _ h ⟨⟨st,rfl,hv⟩,rfl⟩;rcases hv with ⟨hf,_⟩ | ⟨_,N,rfl,hN,h2,hR⟩
 ·rw [hok] at hf;cases hf
 (repeat (first | simp -dsimp -implicitDefEqProofs (disch:=omega) only [↓rP,rA,↓reduceIte,reduceEqDiff,reduceAdd,reduceLeDiff,↓tyr,↓lc] | refine Cut.go ?_))
 have oS:(h.push (.row 128 (z9z c (z6h c) N).cells)).objs h.next=some (.row 128 [slAV 1 (λo=>[slAV 1 encN o]) (z9z c (z6h c) N).Slots,slAV 1 encN (z9z c (z6h c) N).Globals,slAV 1 (λo=>[slAV 1 encN o]) (z9z c (z6h c) N).Fields]):=z0w _ _;have kp:=Keeps.one h (.row 128 (z9z c (z6h c) N).cells);have hsid:h.next<(h.push (.row 128 (z9z c (z6h c) N).cells)).next:=Nat.lt_succ_self _;generalize (h.push (.row 128 (z9z c (z6h c) N).cells))=H at oS kp hsid ⊢;refine (zy8 hok sm hN h2 H).mono ?_;rintro _ H ⟨⟨o,rfl,ho⟩,rfl⟩
 (repeat (first | simp -dsimp -implicitDefEqProofs (disch:=omega) only [↓rP,rA,↓reduceIte,reduceEqDiff,reduceAdd,reduceLeDiff,↓tyr,↓lc] | refine Cut.go ?_))
 refine (rOf_does c hc sm s H).mono ?_;rintro _ H ⟨⟨ko,rfl,hko⟩,rfl⟩
 (repeat (first | simp -dsimp -implicitDefEqProofs (disch:=omega) only [↓rP,rA,↓reduceIte,reduceEqDiff,reduceAdd,reduceLeDiff,↓tyr,↓lc,z03 hs,S.thr] | refine Cut.go ?_))
 refine (ztd wc hs S H).mono ?_;rintro _ H ⟨rfl,rfl⟩
 (repeat (first | simp -dsimp -implicitDefEqProofs (disch:=omega) only [↓rP,rA,↓reduceIte,reduceEqDiff,reduceAdd,reduceLeDiff,↓tyr] | refine Cut.go ?_))
 have hcl:=zyg hok sm h2;have hsit:=wc.sit;have hth:t<(slL c.Threads).length:=(List.getElem?_eq_some_iff.1 S.bd).1;have hlr:lenR c (.s t)=(slL b.Slots).length:=by show (zaq c t).length=_;unfold zaq;rw [S.bd]
 have hb32:∀ i,z6h c (.s t) i<18446744073709551616:=λi=>Nat.lt_of_lt_of_le (h2.lt _ _) (Nat.le_trans (zg8 hsit) (by omega));refine wants_7 (b:=b) (K:=knownK b (secL b fr to)) (σ:=z6h c (.s t)) (row:=rowO c (z6h c) N (.s t)) (rows:=(z9z c (z6h c) N).Slots) (by omega) ?_ ?_ hb32 ?_ ?_ (sec_wx hok S) oS hsid _ ?_
 ·unfold z9z;simp only [zgf];rw [List.getElem?_map,List.getElem?_range hth];rfl
 ·intro i hi;rw [zns hN,List.getElem?_map,List.getElem?_range (by omega)];rfl
 ·intro i k hk;rw [ho,hcl];exact h2 _ _ _ hk
 ·intro i hi;rw [hko,zrd hok hs S]
  show (zq9 b (secL b fr to))[i]?=_
  unfold zq9;rw [List.getElem?_map,List.getElem?_range hi];rfl
 ·intro hh av k2 g2;have hw:(zl5 (z6h c (.s t)) (slL o) (knownK b (secL b fr to)) (secL b fr to)).length<=1000:=Nat.le_trans (List.length_filterMap_le _ _) (by omega)
  (repeat (first | simp -dsimp -implicitDefEqProofs (disch:=omega) only [↓rP,rA,↓reduceIte,reduceEqDiff,reduceAdd,reduceLeDiff,↓tyr] | refine Cut.go ?_))
  exact ⟨λ_=>False,some (zwf c t b (secL b fr to)),rfl,by rw [ho] at g2 hw;exact g2.rz (Nat.le_trans hw (by omega)),λ_ e=>e.elim,kp.go k2⟩
end
section
open Go.Abs
noncomputable def zl6 (c:Cd) (k:Nat):List Cm:=match (slL c.Sections)[k]? with
 | none=>[]
 | some sec=>match getI (slL c.Threads) sec.Thread with
  | none=>[]
  | some b=>zwf c sec.Thread.toNat b (secL b sec.From.toNat sec.To.toNat)
theorem zwg {c:Cd} {s:Nat} {sec:z08} (hs:(slL c.Sections)[s]?=some sec) {t fr to:Nat} {b:Bd} (S:zru c sec t b fr to):zl6 c s=zwf c t b (secL b fr to):=by
 unfold zl6;rw [hs];simp only;rw [S.thr,z1w,S.bd,S.frm,S.to_]
 rfl
noncomputable def zqq (c:Cd) (cl:List Int) (pl:List (Option (List Cm))):Bool:=
 okC c&&(decide (pl.length=(slL c.Sections).length)&&(decide ((clsL c).length=(slL c.Sites).length)&&(decide (clsL c=cl)&&allK (λk l=>(zl6 c k).all (covB (slL l))) pl)))
abbrev plAV (pl:Option (List (Option (List Cm)))):AV:=slAV 1 (λo=>[slAV 12 z06.cells o]) pl
theorem zsk (r:Option (List Cm)) (h:z00) (J:AV->Prop):z0r none (.iptr ((λo=>[slAV 12 z06.cells o]) r)) h J=J (slAV 12 z06.cells r):=by rw [z0y];rfl
theorem check_7 (o u:Option (List Int)) (hl:(slL o).length=(slL u).length) (hb:(slL o).length<=1000) (A2 A3:AV) (h:z00) (Q:z1p->Fr->z00->Prop)
  (h1:slL o=slL u->Q (.exit 0) (frOf [(2,A2),(3,A3)]) h) (h2:slL o≠slL u->Q .ret (frOf [(6,.bool false)]) h) :
  WP Tryz.prog 71 (.loop z5o) (frOf [(1,slAV 1 encI u),(2,A2),(3,A3),(7,slAV 1 encI o),(36,.int .i64 (slL o).length),(37,.int .i64 0)]) h Q:=by
 refine zce z07 (by kernel_rfl) (slL o).length (λj=>frOf [(1,slAV 1 encI u),(2,A2),(3,A3),(7,slAV 1 encI o),(36,.int .i64 (slL o).length),(37,.int .i64 j)]) (λj hh=>(slL o).take j=(slL u).take j/\hh=h) ⟨by simp,rfl⟩ ?_;rintro j hh hj ⟨ht,rfl⟩;apply zd9
 (repeat simp -dsimp -implicitDefEqProofs (disch:=omega) only [↓rP,rA,↓reduceIte,reduceEqDiff,reduceAdd,reduceLeDiff,↓tyr])
 refine z0c (λhjl=>?_) (λhjl=>?_)
 ·obtain ⟨x,hx⟩:∃ x,(slL o)[j]?=some x:=⟨_,List.getElem?_eq_getElem (by omega)⟩;obtain ⟨y,hy⟩:∃ y,(slL u)[j]?=some y:=⟨_,List.getElem?_eq_getElem (by omega)⟩
  (repeat simp -dsimp -implicitDefEqProofs (disch:=omega) only [↓rP,rA,↓reduceIte,reduceEqDiff,reduceAdd,reduceLeDiff,↓tyr,z03 hx,z03 hy,↓z8i])
  refine z16 (λhe=>?_) (λhe=>?_)
  ·(repeat simp -dsimp -implicitDefEqProofs (disch:=omega) only [↓rP,rA,↓reduceIte,reduceEqDiff,reduceAdd,reduceLeDiff,↓tyr])
   exact h2 (λe=>he (by rw [e,hy] at hx;exact Option.some.inj hx.symm))
  ·have he:x=y:=by omega
   subst he
   (repeat simp -dsimp -implicitDefEqProofs (disch:=omega) only [↓rP,rA,↓reduceIte,reduceEqDiff,reduceAdd,reduceLeDiff,↓tyr,wkP j (by omega)])
   exact forN (by omega) ⟨zgj ht hx hy,rfl⟩
 ·(repeat simp -dsimp -implicitDefEqProofs (disch:=omega) only [↓rP,rA,↓reduceIte,reduceEqDiff,reduceAdd,reduceLeDiff,↓tyr])
  exact h1 (zl2 hl ht (by omega))
theorem check_16 (o l:Option (List Cm)) (ho:(slL o).length<=1000) (hl:(slL l).length<=1000) (hp:∀ c∈slL l,zmo c.Path/\zmo c.Index) (A3 A50 A51 A52:AV) (h:z00) (Q:z1p->Fr->z00->Prop)
  (h1:∀ hh,Keeps h hh (λ_=>False)->(slL o).all (covB (slL l))=true->Q (.exit 4) (frOf [(3,A3),(50,A50),(51,A51),(52,A52)]) hh) (h2:∀ hh,Keeps h hh (λ_=>False)->(slL o).all (covB (slL l))=false->Q .ret (frOf [(6,.bool false)]) hh) :
  WP Tryz.prog 71 (.loop z4w) (frOf [(3,A3),(10,slAV 12 z06.cells l),(50,A50),(51,A51),(52,A52),(59,slAV 12 z06.cells o),(60,.int .i64 (slL o).length),(61,.int .i64 0)]) h Q:=by
 obtain ⟨P,hP⟩:∃ P:Nat->Cm->Bool,P=λ_ w=>covB (slL l) w:=⟨_,rfl⟩;have hs:(slL o).all (covB (slL l))=allK P (slL o):=by
  rw [hP,Bool.eq_iff_iff,z1t,List.all_eq_true];exact ⟨λq k x hx=>q x (List.mem_of_getElem? hx),λq x hx=>by obtain ⟨k,hk⟩:=List.getElem?_of_mem hx;exact q k x hk⟩
 refine zce z07 (by kernel_rfl) (slL o).length (λj=>frOf [(3,A3),(10,slAV 12 z06.cells l),(50,A50),(51,A51),(52,A52),(59,slAV 12 z06.cells o),(60,.int .i64 (slL o).length),(61,.int .i64 j)]) (λj hh=>upTo P (slL o) j/\Keeps h hh (λ_=>False)) ⟨z3s _ _,.refl _ _⟩ ?_;rintro j hh hj ⟨ht,kp⟩;apply zc2
 (repeat simp -dsimp -implicitDefEqProofs (disch:=omega) only [↓rP,rA,↓reduceIte,reduceEqDiff,reduceAdd,reduceLeDiff,↓tyr])
 refine z0c (λhjl=>?_) (λhjl=>?_)
 ·obtain ⟨x,hx⟩:∃ x,(slL o)[j]?=some x:=⟨_,List.getElem?_eq_getElem (by omega)⟩
  (repeat simp -dsimp -implicitDefEqProofs (disch:=omega) only [↓rP,rA,↓reduceIte,reduceEqDiff,reduceAdd,reduceLeDiff,↓tyr,z03 hx])
  refine z01.go (zwk l x (by omega) hp _) ?_
  cases hc:covB (slL l) x with
  | true=>
   (repeat simp -dsimp -implicitDefEqProofs (disch:=omega) only [↓rP,rA,↓reduceIte,reduceEqDiff,reduceAdd,reduceLeDiff,↓tyr,wkP j (by omega)])
   exact forN (by omega) ⟨z3c ht hx (by rw [hP];exact hc),kp.go (Keeps.one _ _)⟩
  | false=>
   (repeat simp -dsimp -implicitDefEqProofs (disch:=omega) only [↓rP,rA,↓reduceIte,reduceEqDiff,reduceAdd,reduceLeDiff,↓tyr])
   exact h2 _ (kp.go (Keeps.one _ _)) (by rw [hs,Bool.eq_false_iff];intro q;rw [z1t] at q;have:=q j x hx;simp [hP,hc] at this)
 ·(repeat simp -dsimp -implicitDefEqProofs (disch:=omega) only [↓rP,rA,↓reduceIte,reduceEqDiff,reduceAdd,reduceLeDiff,↓tyr])
  exact h1 hh kp (by rw [hs];have e:j=(slL o).length:=(by omega);rw [e] at ht;exact zb7 ht)
theorem wants_few {c:Cd} (hok:okC c=true) (k:Nat):(zl6 c k).length<=256:=by
 cases hs:(slL c.Sections)[k]? with
 | none=>unfold zl6;rw [hs];simp
 | some sec=>
  obtain ⟨t,b,fr,to,S⟩:=sec_of hok hs;have:=(zf7 hok).slo t b S.bd;rw [zwg hs S];exact Nat.le_trans (List.length_filterMap_le _ _) (Nat.le_trans (zt3 b fr to) this.2)
theorem zy2 {c:Cd} (hc:c.ok) (sm:Small c) (hok:okC c=true) {k:Nat} (hk:k<(slL c.Sections).length) (h:z00):z01 Tryz.prog 59 [.agg c.cells,.int .i64 (k:Nat)] h (λv h2=>(∃ o,v=slAV 12 z06.cells o/\slL o=zl6 c k)/\h2=h):=by
 obtain ⟨sec,hs⟩:∃ sec,(slL c.Sections)[k]?=some sec:=⟨_,List.getElem?_eq_getElem hk⟩;obtain ⟨t,b,fr,to,S⟩:=sec_of hok hs;rw [zwg hs S];exact Wants_does hc sm hok hs S h
structure PlS (pl:List (Option (List Cm))):Prop where
 few:pl.length<=1000
 row:∀ l∈pl,(slL l).length<=1000
 path:∀ l∈pl,∀ c∈slL l,zmo c.Path/\zmo c.Index
theorem check_13 {c:Cd} (hc:c.ok) (sm:Small c) (hok:okC c=true) (pl:Option (List (Option (List Cm)))) (ps:PlS (slL pl)) (hl:(slL pl).length=(slL c.Sections).length) (h:z00) (Q:z1p->Fr->z00->Prop)
  (h1:∀ hh,Keeps h hh (λ_=>False)->allK (λk l=>(zl6 c k).all (covB (slL l))) (slL pl)=true->Q (.exit 2) (frOf []) hh) (h2:∀ hh,Keeps h hh (λ_=>False)->allK (λk l=>(zl6 c k).all (covB (slL l))) (slL pl)=false->Q .ret (frOf [(6,.bool false)]) hh) :
  WP Tryz.prog 71 (.loop z4v) (frOf [(3,.iptr c.cells),(50,plAV pl),(51,.int .i64 (slL pl).length),(52,.int .i64 0)]) h Q:=by
 have hf:=ps.few;have lc:∀ (H:z00) (K:AV->Prop),z0r (some 5) (.iptr c.cells) H K=K (.agg c.cells):=λH K=>by rw [z0y];exact z0g.call c K
 refine zce z07 (by kernel_rfl) (slL pl).length (λj=>frOf [(3,.iptr c.cells),(50,plAV pl),(51,.int .i64 (slL pl).length),(52,.int .i64 j)]) (λj hh=>upTo (λk l=>(zl6 c k).all (covB (slL l))) (slL pl) j/\Keeps h hh (λ_=>False)) ⟨z3s _ _,.refl _ _⟩ ?_;rintro j hh hj ⟨ht,kp⟩;apply zc1
 (repeat simp -dsimp -implicitDefEqProofs (disch:=omega) only [↓rP,rA,↓reduceIte,reduceEqDiff,reduceAdd,reduceLeDiff,↓tyr])
 refine z0c (λhjl=>?_) (λhjl=>?_)
 ·obtain ⟨l,hx⟩:∃ x,(slL pl)[j]?=some x:=⟨_,List.getElem?_eq_getElem (by omega)⟩;have hm:=List.mem_of_getElem? hx
  (repeat simp -dsimp -implicitDefEqProofs (disch:=omega) only [↓rP,rA,↓reduceIte,reduceEqDiff,reduceAdd,reduceLeDiff,↓tyr,z03 hx,↓zsk,↓lc])
  refine (zy2 hc sm hok (by omega) hh).mono ?_;rintro _ hh ⟨⟨o,rfl,ho⟩,rfl⟩
  (repeat simp -dsimp -implicitDefEqProofs (disch:=omega) only [↓rP,rA,↓reduceIte,reduceEqDiff,reduceAdd,reduceLeDiff,↓tyr])
  refine check_16 o l (by rw [ho];have:=wants_few hok j;omega) (ps.row l hm) (ps.path l hm) _ _ _ _ hh _ (λh3 k3 e=>?_) (λh3 k3 e=>?_)
  ·(repeat simp -dsimp -implicitDefEqProofs (disch:=omega) only [↓rP,rA,↓reduceIte,reduceEqDiff,reduceAdd,reduceLeDiff,↓tyr,wkP j (by omega)])
   exact forN (by omega) ⟨z3c ht hx (by rw [<-ho];exact e),kp.go k3⟩
  ·(repeat simp -dsimp -implicitDefEqProofs (disch:=omega) only [↓rP,rA,↓reduceIte,reduceEqDiff,reduceAdd,reduceLeDiff,↓tyr])
   exact h2 _ (kp.go k3) (by rw [Bool.eq_false_iff];intro q;rw [z1t] at q;have:=q j l hx;rw [<-ho,e] at this;cases this)
 ·(repeat simp -dsimp -implicitDefEqProofs (disch:=omega) only [↓rP,rA,↓reduceIte,reduceEqDiff,reduceAdd,reduceLeDiff,↓tyr])
  have e:j=(slL pl).length:=by omega
  rw [e] at ht;exact h1 hh kp (zb7 ht)
theorem Check_does {c:Cd} (hc:c.ok) (sm:Small c) (cl:Option (List Int)) (pl:Option (List (Option (List Cm)))) (ps:PlS (slL pl)) (h:z00) :
  z01 Tryz.prog 45 [.agg c.cells,slAV 1 encI cl,plAV pl] h (λv h2=>v=.bool (zqq c (slL cl) (slL pl))/\h2=h):=by
 refine z01.forget (by simp [z1x]) ?_;have lc:∀ (H:z00) (K:AV->Prop),z0r (some 5) (.iptr c.cells) H K=K (.agg c.cells):=λH K=>by rw [z0y];exact z0g.call c K
 unfold zqq;apply zg5
 (repeat simp -dsimp -implicitDefEqProofs (disch:=omega) only [↓rP,rA,↓reduceIte,reduceEqDiff,reduceAdd,reduceLeDiff,↓tyr,↓lc])
 refine z01.go (zm1 c hc sm _) ?_
 cases hok:okC c with
 | false=>
  (repeat simp -dsimp -implicitDefEqProofs (disch:=omega) only [↓rP,rA,↓reduceIte,reduceEqDiff,reduceAdd,reduceLeDiff,↓tyr])
  (first | (refine And.intro (by simp) ?_;(repeat (first | assumption | with_reducible exact Keeps.refl _ _ | with_reducible refine Keeps.go ?_ (Keeps.one _ _) | with_reducible refine Keeps.go ?_ (by assumption)))) | (repeat (first | assumption | with_reducible exact Keeps.refl _ _ | with_reducible refine Keeps.go ?_ (Keeps.one _ _) | with_reducible refine Keeps.go ?_ (by assumption))))
 | true=>
  by_cases hl:(slL pl).length=(slL c.Sections).length
  ·have el:(((slL pl).length:Int) != ((slL c.Sections).length:Int))=false:=by simp;omega
   (repeat simp -dsimp -implicitDefEqProofs (disch:=omega) only [↓rP,rA,↓reduceIte,reduceEqDiff,reduceAdd,reduceLeDiff,↓tyr,el,↓lc])
   refine (zy7 c hc sm h).mono ?_;rintro _ h ⟨⟨st,rfl,hv⟩,rfl⟩;rcases hv with ⟨hf,_⟩ | ⟨_,N,rfl,hN,h2,hR⟩
   ·rw [hok] at hf;cases hf
   (repeat simp -dsimp -implicitDefEqProofs (disch:=omega) only [↓rP,rA,↓reduceIte,reduceEqDiff,reduceAdd,reduceLeDiff,↓tyr,↓lc])
   refine (zy8 hok sm hN h2 h).mono ?_;rintro _ h ⟨⟨o,rfl,ho⟩,rfl⟩;have hcl:=zyg hok sm h2;have hsit:=(zf7 hok).sit;by_cases hl2:(slL o).length=(slL cl).length
   ·have el2:(((slL o).length:Int) != ((slL cl).length:Int))=false:=by simp;omega
    (repeat simp -dsimp -implicitDefEqProofs (disch:=omega) only [↓rP,rA,↓reduceIte,reduceEqDiff,reduceAdd,reduceLeDiff,↓tyr,el2])
    refine check_7 o cl hl2 (by rw [ho];omega) _ _ h _ (λe=>?_) (λe=>?_)
    ·(repeat simp -dsimp -implicitDefEqProofs (disch:=omega) only [↓rP,rA,↓reduceIte,reduceEqDiff,reduceAdd,reduceLeDiff,↓tyr])
     refine check_13 hc sm hok pl ps hl h _ (λh3 k3 e3=>?_) (λh3 k3 e3=>?_)
     all_goals
      (repeat simp -dsimp -implicitDefEqProofs (disch:=omega) only [↓rP,rA,↓reduceIte,reduceEqDiff,reduceAdd,reduceLeDiff,↓tyr])
      exact ⟨by rw [decide_eq_true hcl,e3,<-ho,e];simp [hl],k3⟩
    ·(repeat simp -dsimp -implicitDefEqProofs (disch:=omega) only [↓rP,rA,↓reduceIte,reduceEqDiff,reduceAdd,reduceLeDiff,↓tyr])
     exact ⟨by rw [<-ho];simp [e],.refl _ _⟩
   ·have el2:(((slL o).length:Int) != ((slL cl).length:Int))=true:=by simp;omega
    have ne:slL o≠slL cl:=λe=>hl2 (by rw [e])
    (repeat simp -dsimp -implicitDefEqProofs (disch:=omega) only [↓rP,rA,↓reduceIte,reduceEqDiff,reduceAdd,reduceLeDiff,↓tyr,el2])
    exact ⟨by rw [<-ho];simp [ne],.refl _ _⟩
  ·have el:(((slL pl).length:Int) != ((slL c.Sections).length:Int))=true:=by simp;omega
   (repeat simp -dsimp -implicitDefEqProofs (disch:=omega) only [↓rP,rA,↓reduceIte,reduceEqDiff,reduceAdd,reduceLeDiff,↓tyr,el])
   (first | (refine And.intro (by simp [hl]) ?_;(repeat (first | assumption | with_reducible exact Keeps.refl _ _ | with_reducible refine Keeps.go ?_ (Keeps.one _ _) | with_reducible refine Keeps.go ?_ (by assumption)))) | (repeat (first | assumption | with_reducible exact Keeps.refl _ _ | with_reducible refine Keeps.go ?_ (Keeps.one _ _) | with_reducible refine Keeps.go ?_ (by assumption))))
end
section
open Go.Abs
abbrev Im:=z0e
structure ImS (x:Im):Prop where
 small:Small x.Code
 cls:(slL x.Classes).length<=100
 pls:(slL x.Plans).length<=100
 row:∀ l∈slL x.Plans,(slL l).length<=300/\∀ c∈slL l,(slL c.Path.Fields).length<=20/\(slL c.Index.Fields).length<=20
theorem ImS.ps {x:Im} (s:ImS x):PlS (slL x.Plans):=⟨by have:=s.pls;omega,λl hl=>by have:=(s.row l hl).1;omega,λl hl c hc=>by have:=(s.row l hl).2 c hc;exact ⟨by unfold zmo;omega,by unfold zmo;omega⟩⟩
abbrev zqr (l:Option (List Cm)) (k:Nat) (j:Nat):Prop:=∀ i c,i<j->(slL l)[i]?=some c->(slL c.Path.Fields).length<=k/\(slL c.Index.Fields).length<=k
theorem zqr.all {l:Option (List Cm)} {k j:Nat} (h:zqr l k j) (e:j=(slL l).length):∀ c∈slL l,(slL c.Path.Fields).length<=k/\(slL c.Index.Fields).length<=k:=λc hc=>by
 obtain ⟨i,hi⟩:=List.getElem?_of_mem hc;exact h i c (by rw [e];exact (List.getElem?_eq_some_iff.1 hi).1) hi
theorem zqr.snoc {l:Option (List Cm)} {k j:Nat} {x:Cm} (h:zqr l k j) (hx:(slL l)[j]?=some x) (h1:(slL x.Path.Fields).length<=k) (h2:(slL x.Index.Fields).length<=k):zqr l k (j+1):=λi c hi hc=>by
 by_cases e:i=j
 ·subst e;rw [hx] at hc;cases hc;exact ⟨h1,h2⟩
 ·exact h i c (by omega) hc
theorem great_9 (l:Option (List Cm)) (hl:(slL l).length<=300) (A B C:AV) (h:z00) (Q:z1p->Fr->z00->Prop)
  (h1:∀ hh,Keeps h hh (λ_=>False)->(∀ c∈slL l,(slL c.Path.Fields).length<=20/\(slL c.Index.Fields).length<=20)->Q (.exit 2) (frOf [(23,A),(24,B),(25,C)]) hh) (h2:∀ hh,Keeps h hh (λ_=>False)->Q .ret (frOf [(2,.bool true)]) hh) :
  WP Tryz.prog 52 (.loop z5r) (frOf [(23,A),(24,B),(25,C),(32,slAV 12 z06.cells l),(33,.int .i64 (slL l).length),(34,.int .i64 0)]) h Q:=by
 refine zce z07 (by kernel_rfl) (slL l).length (λj=>frOf [(23,A),(24,B),(25,C),(32,slAV 12 z06.cells l),(33,.int .i64 (slL l).length),(34,.int .i64 j)]) (λj hh=>zqr l 20 j/\Keeps h hh (λ_=>False)) ⟨λi c hi=>by omega,.refl _ _⟩ ?_;rintro j hh hj ⟨ht,kp⟩;apply zde
 (repeat simp -dsimp -implicitDefEqProofs (disch:=omega) only [↓rP,rA,↓reduceIte,reduceEqDiff,reduceAdd,reduceLeDiff,↓tyr])
 refine z0c (λhjl=>?_) (λhjl=>?_)
 ·obtain ⟨x,hx⟩:∃ x,(slL l)[j]?=some x:=⟨_,List.getElem?_eq_getElem (by omega)⟩;by_cases a1:(slL x.Path.Fields).length<=20
  ·by_cases a2:(slL x.Index.Fields).length<=20
   ·(repeat simp -dsimp -implicitDefEqProofs (disch:=omega) only [↓rP,rA,↓reduceIte,reduceEqDiff,reduceAdd,reduceLeDiff,↓tyr,z03 hx,wkP j (by omega)])
    exact forN (by omega) ⟨ht.snoc hx a1 a2,kp.go (Keeps.one _ _)⟩
   ·(repeat simp -dsimp -implicitDefEqProofs (disch:=omega) only [↓rP,rA,↓reduceIte,reduceEqDiff,reduceAdd,reduceLeDiff,↓tyr,z03 hx])
    exact h2 _ (kp.go (Keeps.one _ _))
  ·(repeat simp -dsimp -implicitDefEqProofs (disch:=omega) only [↓rP,rA,↓reduceIte,reduceEqDiff,reduceAdd,reduceLeDiff,↓tyr,z03 hx])
   exact h2 _ (kp.go (Keeps.one _ _))
 ·(repeat simp -dsimp -implicitDefEqProofs (disch:=omega) only [↓rP,rA,↓reduceIte,reduceEqDiff,reduceAdd,reduceLeDiff,↓tyr])
  exact h1 hh kp (ht.all (by omega))
theorem great_4 (pl:Option (List (Option (List Cm)))) (hl:(slL pl).length<=100) (h:z00) (Q:z1p->Fr->z00->Prop)
  (h1:∀ hh,Keeps h hh (λ_=>False)->(∀ l∈slL pl,(slL l).length<=300/\∀ c∈slL l,(slL c.Path.Fields).length<=20/\(slL c.Index.Fields).length<=20)->Q (.exit 0) (frOf []) hh) (h2:∀ hh,Keeps h hh (λ_=>False)->Q .ret (frOf [(2,.bool true)]) hh) :
  WP Tryz.prog 52 (.loop z5q) (frOf [(23,plAV pl),(24,.int .i64 (slL pl).length),(25,.int .i64 0)]) h Q:=by
 refine zce z07 (by kernel_rfl) (slL pl).length (λj=>frOf [(23,plAV pl),(24,.int .i64 (slL pl).length),(25,.int .i64 j)]) (λj hh=>(∀ (i:Nat) l,i<j->(slL pl)[i]?=some l->(slL l).length<=300/\∀ c∈slL l,(slL c.Path.Fields).length<=20/\(slL c.Index.Fields).length<=20)/\Keeps h hh (λ_=>False)) ⟨λi c hi=>by omega,.refl _ _⟩ ?_;rintro j hh hj ⟨ht,kp⟩;apply zdd
 (repeat simp -dsimp -implicitDefEqProofs (disch:=omega) only [↓rP,rA,↓reduceIte,reduceEqDiff,reduceAdd,reduceLeDiff,↓tyr])
 refine z0c (λhjl=>?_) (λhjl=>?_)
 ·obtain ⟨l,hx⟩:∃ x,(slL pl)[j]?=some x:=⟨_,List.getElem?_eq_getElem (by omega)⟩;by_cases a1:(slL l).length<=300
  ·(repeat simp -dsimp -implicitDefEqProofs (disch:=omega) only [↓rP,rA,↓reduceIte,reduceEqDiff,reduceAdd,reduceLeDiff,↓tyr,z03 hx,↓zsk])
   refine great_9 l a1 _ _ _ hh _ (λh3 k3 e3=>?_) (λh3 k3=>?_)
   ·(repeat simp -dsimp -implicitDefEqProofs (disch:=omega) only [↓rP,rA,↓reduceIte,reduceEqDiff,reduceAdd,reduceLeDiff,↓tyr,wkP j (by omega)])
    refine forN (by omega) ⟨λi c hi hc=>?_,kp.go k3⟩;by_cases e:i=j
    ·subst e;rw [hx] at hc;cases hc;exact ⟨a1,e3⟩
    ·exact ht i c (by omega) hc
   ·(repeat simp -dsimp -implicitDefEqProofs (disch:=omega) only [↓rP,rA,↓reduceIte,reduceEqDiff,reduceAdd,reduceLeDiff,↓tyr])
    exact h2 _ (kp.go k3)
  ·(repeat simp -dsimp -implicitDefEqProofs (disch:=omega) only [↓rP,rA,↓reduceIte,reduceEqDiff,reduceAdd,reduceLeDiff,↓tyr,z03 hx,↓zsk])
   exact h2 _ kp
 ·(repeat simp -dsimp -implicitDefEqProofs (disch:=omega) only [↓rP,rA,↓reduceIte,reduceEqDiff,reduceAdd,reduceLeDiff,↓tyr])
  refine h1 hh kp λl hl=>?_;obtain ⟨i,hi⟩:=List.getElem?_of_mem hl;exact ht i l (by have:=(List.getElem?_eq_some_iff.1 hi).1;omega) hi
theorem zwp (x:Im) (hx:x.ok) (h:z00):z01 Tryz.prog 27 [.agg x.cells] h (λv h2=>(∃ b:Bool,v=.bool b/\(b=false->ImS x))/\h2=h):=by
 refine z01.result (enc:=λb:Bool=>.bool b) (Q:=λb=>b=false->ImS x) (λb _=>trivial) ?_;have lc:∀ (H:z00) (K:AV->Prop),z0r (some 5) (.iptr x.cells) H K=K (.agg x.Code.cells):=λH K=>by rw [z0y];simp [z04,z0e.cells,z0g.cells]
 have ans:∀ (b:Bool) (hh:z00),Keeps h hh (λ_=>False)->(b=false->ImS x)->∃ (D:Nat->Prop) (a:Bool),(a=false->ImS x)/\RzV hh D (.bool b) (.bool a)/\(∀ i,D i->h.next<=i/\hh.objs i≠none)/\Keeps h hh (λ_=>False):=λb hh k q=>⟨λ_=>False,b,q,RzV.same _,λ_ e=>e.elim,k⟩;apply zg7
 (repeat simp -dsimp -implicitDefEqProofs (disch:=omega) only [↓rP,rA,↓reduceIte,reduceEqDiff,reduceAdd,reduceLeDiff,↓tyr,↓lc])
 refine z01.go (zqa x.Code hx.1 _) ?_
 cases hg:zqz x.Code with
 | true=>
  (repeat simp -dsimp -implicitDefEqProofs (disch:=omega) only [↓rP,rA,↓reduceIte,reduceEqDiff,reduceAdd,reduceLeDiff,↓tyr])
  exact ans _ _ (.refl _ _) (λe=>by cases e)
 | false=>
  by_cases a1:(slL x.Classes).length<=100
  ·by_cases a2:(slL x.Plans).length<=100
   ·(repeat simp -dsimp -implicitDefEqProofs (disch:=omega) only [↓rP,rA,↓reduceIte,reduceEqDiff,reduceAdd,reduceLeDiff,↓tyr])
    refine great_4 x.Plans a2 h _ (λh3 k3 e3=>?_) (λh3 k3=>?_)
    ·(repeat simp -dsimp -implicitDefEqProofs (disch:=omega) only [↓rP,rA,↓reduceIte,reduceEqDiff,reduceAdd,reduceLeDiff,↓tyr])
     exact ans _ _ k3 (λ_=>⟨zzn hg,a1,a2,e3⟩)
    ·(repeat simp -dsimp -implicitDefEqProofs (disch:=omega) only [↓rP,rA,↓reduceIte,reduceEqDiff,reduceAdd,reduceLeDiff,↓tyr])
     exact ans _ _ k3 (λe=>by cases e)
   ·(repeat simp -dsimp -implicitDefEqProofs (disch:=omega) only [↓rP,rA,↓reduceIte,reduceEqDiff,reduceAdd,reduceLeDiff,↓tyr])
    exact ans _ _ (.refl _ _) (λe=>by cases e)
  ·(repeat simp -dsimp -implicitDefEqProofs (disch:=omega) only [↓rP,rA,↓reduceIte,reduceEqDiff,reduceAdd,reduceLeDiff,↓tyr])
   exact ans _ _ (.refl _ _) (λe=>by cases e)
theorem good_7 (l:Option (List Cm)) (hl:(slL l).length<=300) (A B C:AV) (h:z00) (Q:z1p->Fr->z00->Prop)
  (h1:∀ hh,Keeps h hh (λ_=>False)->Q (.exit 2) (frOf [(26,A),(27,B),(28,C)]) hh) (h2:∀ hh,Keeps h hh (λ_=>False)->Q .ret (frOf [(2,.bool false)]) hh) :
  WP Tryz.prog 82 (.loop z5w) (frOf [(26,A),(27,B),(28,C),(32,slAV 12 z06.cells l),(33,.int .i64 (slL l).length),(34,.int .i64 0)]) h Q:=by
 refine zce z07 (by kernel_rfl) (slL l).length (λj=>frOf [(26,A),(27,B),(28,C),(32,slAV 12 z06.cells l),(33,.int .i64 (slL l).length),(34,.int .i64 j)]) (λj hh=>Keeps h hh (λ_=>False)) (.refl _ _) ?_;intro j hh hj kp;apply ze9
 (repeat simp -dsimp -implicitDefEqProofs (disch:=omega) only [↓rP,rA,↓reduceIte,reduceEqDiff,reduceAdd,reduceLeDiff,↓tyr])
 refine z0c (λhjl=>?_) (λhjl=>?_)
 ·obtain ⟨x,hx⟩:∃ x,(slL l)[j]?=some x:=⟨_,List.getElem?_eq_getElem (by omega)⟩;have k2:=kp.go (Keeps.one hh (.row 109 x.cells));have b1:=h2 _ k2;have b2:=λ(q:j<(slL l).length)=>forN (F:=λj:Nat=>frOf [(26,A),(27,B),(28,C),(32,slAV 12 z06.cells l),(33,.int .i64 (slL l).length),(34,.int .i64 j)]) (J:=λj hh=>Keeps h hh (λ_=>False)) (Q:=Q) q k2;have w:=wkP j (by omega)
  (repeat simp -dsimp -implicitDefEqProofs (disch:=omega) only [↓rP,rA,↓reduceIte,reduceEqDiff,reduceAdd,reduceLeDiff,↓tyr,z03 hx])
  repeat' (first | (simp -dsimp -implicitDefEqProofs (disch:=omega) only [↓rP,rA,↓reduceIte,reduceEqDiff,reduceAdd,reduceLeDiff,↓tyr,w]) | refine Cut.go ?_ | refine z0i (λ_=>?_) (λ_=>?_) | refine z16 (λ_=>?_) (λ_=>?_) | refine z0c (λ_=>?_) (λ_=>?_) | refine z1b (λ_=>?_) (λ_=>?_) | refine Split.intro (λ_=>?_) (λ_=>?_))
  all_goals first | exact b1 | exact b2 (by omega)
 ·(repeat simp -dsimp -implicitDefEqProofs (disch:=omega) only [↓rP,rA,↓reduceIte,reduceEqDiff,reduceAdd,reduceLeDiff,↓tyr])
  exact h1 hh kp
theorem good_4 (pl:Option (List (Option (List Cm)))) (hl:(slL pl).length<=100) (hr:∀ l∈slL pl,(slL l).length<=300) (h:z00) (Q:z1p->Fr->z00->Prop)
  (h1:∀ hh,Keeps h hh (λ_=>False)->Q (.exit 0) (frOf []) hh) (h2:∀ hh,Keeps h hh (λ_=>False)->Q .ret (frOf [(2,.bool false)]) hh) :
  WP Tryz.prog 82 (.loop z5v) (frOf [(26,plAV pl),(27,.int .i64 (slL pl).length),(28,.int .i64 0)]) h Q:=by
 refine zce z07 (by kernel_rfl) (slL pl).length (λj=>frOf [(26,plAV pl),(27,.int .i64 (slL pl).length),(28,.int .i64 j)]) (λj hh=>Keeps h hh (λ_=>False)) (.refl _ _) ?_;intro j hh hj kp;apply ze8
 (repeat simp -dsimp -implicitDefEqProofs (disch:=omega) only [↓rP,rA,↓reduceIte,reduceEqDiff,reduceAdd,reduceLeDiff,↓tyr])
 refine z0c (λhjl=>?_) (λhjl=>?_)
 ·obtain ⟨l,hx⟩:∃ x,(slL pl)[j]?=some x:=⟨_,List.getElem?_eq_getElem (by omega)⟩
  (repeat simp -dsimp -implicitDefEqProofs (disch:=omega) only [↓rP,rA,↓reduceIte,reduceEqDiff,reduceAdd,reduceLeDiff,↓tyr,z03 hx,↓zsk])
  refine good_7 l (hr l (List.mem_of_getElem? hx)) _ _ _ hh _ (λh3 k3=>?_) (λh3 k3=>?_)
  ·(repeat simp -dsimp -implicitDefEqProofs (disch:=omega) only [↓rP,rA,↓reduceIte,reduceEqDiff,reduceAdd,reduceLeDiff,↓tyr,wkP j (by omega)])
   exact forN (by omega) (kp.go k3)
  ·(repeat simp -dsimp -implicitDefEqProofs (disch:=omega) only [↓rP,rA,↓reduceIte,reduceEqDiff,reduceAdd,reduceLeDiff,↓tyr])
   exact h2 _ (kp.go k3)
 ·(repeat simp -dsimp -implicitDefEqProofs (disch:=omega) only [↓rP,rA,↓reduceIte,reduceEqDiff,reduceAdd,reduceLeDiff,↓tyr])
  exact h1 hh kp
theorem RGood_does (x:Im) (hx:x.ok) (s:ImS x) (h:z00):z01 Tryz.prog 28 [.agg x.cells] h (λv h2=>(∃ b:Bool,v=.bool b/\(b=true->zqq x.Code (slL x.Classes) (slL x.Plans)=true))/\h2=h):=by
 have ck:=λh=>Check_does hx.1 s.small x.Classes x.Plans s.ps h;generalize zqq x.Code (slL x.Classes) (slL x.Plans)=cb at ck ⊢;refine z01.result (enc:=λb:Bool=>.bool b) (Q:=λb=>b=true->cb=true) (λb _=>trivial) ?_;have lc:∀ (H:z00) (K:AV->Prop),z0r (some 5) (.iptr x.cells) H K=K (.agg x.Code.cells):=λH K=>by rw [z0y];simp [z04,z0e.cells,z0g.cells]
 have ans:∀ (b:Bool) (hh:z00),Keeps h hh (λ_=>False)->(b=true->cb=true)->∃ (D:Nat->Prop) (a:Bool),(a=true->cb=true)/\RzV hh D (.bool b) (.bool a)/\(∀ i,D i->h.next<=i/\hh.objs i≠none)/\Keeps h hh (λ_=>False):=λb hh k q=>⟨λ_=>False,b,q,RzV.same _,λ_ e=>e.elim,k⟩;apply zhr;by_cases t:0<=x.Tries/\x.Tries<=8
 ·(repeat simp -dsimp -implicitDefEqProofs (disch:=omega) only [↓rP,rA,↓reduceIte,reduceEqDiff,reduceAdd,reduceLeDiff,↓tyr,↓lc])
  refine z01.go (ck _) ?_
  cases cb with
  | false=>
   (repeat simp -dsimp -implicitDefEqProofs (disch:=omega) only [↓rP,rA,↓reduceIte,reduceEqDiff,reduceAdd,reduceLeDiff,↓tyr])
   exact ans false _ (.refl _ _) (λe=>by cases e)
  | true=>
   (repeat simp -dsimp -implicitDefEqProofs (disch:=omega) only [↓rP,rA,↓reduceIte,reduceEqDiff,reduceAdd,reduceLeDiff,↓tyr])
   refine good_4 x.Plans s.pls (λl hl=>(s.row l hl).1) h _ (λh3 k3=>?_) (λh3 k3=>?_)
   ·(repeat simp -dsimp -implicitDefEqProofs (disch:=omega) only [↓rP,rA,↓reduceIte,reduceEqDiff,reduceAdd,reduceLeDiff,↓tyr])
    simp only [eq_self] at ans;exact ans _ _ k3 (λ_=>trivial)
   ·(repeat simp -dsimp -implicitDefEqProofs (disch:=omega) only [↓rP,rA,↓reduceIte,reduceEqDiff,reduceAdd,reduceLeDiff,↓tyr])
    simp only [eq_self] at ans;exact ans _ _ k3 (λ_=>trivial)
 ·have a1:=ans false h (.refl _ _) (λe=>by cases e)
  repeat' (first | (simp -dsimp -implicitDefEqProofs (disch:=omega) only [↓rP,rA,↓reduceIte,reduceEqDiff,reduceAdd,reduceLeDiff,↓tyr,↓lc]) | refine Cut.go ?_ | refine z0i (λ_=>?_) (λ_=>?_) | refine z16 (λ_=>?_) (λ_=>?_) | refine z0c (λ_=>?_) (λ_=>?_) | refine z1b (λ_=>?_) (λ_=>?_) | refine Split.intro (λ_=>?_) (λ_=>?_))
  all_goals first | exact a1 | omega
structure ImG (x:Im):Prop where
 ok:x.ok
 s:ImS x
 code:okC x.Code=true
 cls:(slL x.Classes).length=(slL x.Code.Sites).length
theorem ImG.of {x:Im} (hx:x.ok) (s:ImS x) (h:zqq x.Code (slL x.Classes) (slL x.Plans)=true):ImG x:=by
 unfold zqq at h;simp only [Bool.and_eq_true,decide_eq_true_eq] at h;exact ⟨hx,s,h.1,by rw [<-h.2.2.2.1];exact h.2.2.1⟩
theorem zur (x:Im) (hx:x.ok) (inp:Option (List Int)) (h:z00):z01 Tryz.prog 6 [.agg x.cells,slAV 1 encI inp] h (λv h2=>(∃ b:Bool,v=.bool b/\(b=true->ImG x/\(slL inp).length<=100))/\h2=h):=by
 refine z01.result (enc:=λb:Bool=>.bool b) (Q:=λb=>b=true->ImG x/\(slL inp).length<=100) (λb _=>trivial) ?_;have lc:∀ (H:z00) (K:AV->Prop),z0r (some 8) (.iptr x.cells) H K=K (.agg x.cells):=λH K=>by rw [z0y];exact z0e.call x K
 have ans:∀ (b:Bool),(b=true->ImG x/\(slL inp).length<=100)->∃ (D:Nat->Prop) (a:Bool),(a=true->ImG x/\(slL inp).length<=100)/\RzV h D (.bool b) (.bool a)/\(∀ i,D i->h.next<=i/\h.objs i≠none)/\Keeps h h (λ_=>False):=λb q=>⟨λ_=>False,b,q,RzV.same _,λ_ e=>e.elim,.refl _ _⟩;apply zhg
 (repeat simp -dsimp -implicitDefEqProofs (disch:=omega) only [↓rP,rA,↓reduceIte,reduceEqDiff,reduceAdd,reduceLeDiff,↓tyr,↓lc])
 refine (zwp x hx h).mono ?_;rintro _ h ⟨⟨g,rfl,hg⟩,rfl⟩
 cases g with
 | true=>
  (repeat simp -dsimp -implicitDefEqProofs (disch:=omega) only [↓rP,rA,↓reduceIte,reduceEqDiff,reduceAdd,reduceLeDiff,↓tyr])
  exact ans _ (λe=>by cases e)
 | false=>
  by_cases hi:(slL inp).length<=100
  ·(repeat simp -dsimp -implicitDefEqProofs (disch:=omega) only [↓rP,rA,↓reduceIte,reduceEqDiff,reduceAdd,reduceLeDiff,↓tyr,↓lc])
   refine (RGood_does x hx (hg rfl) h).mono ?_;rintro _ h ⟨⟨b,rfl,hb⟩,rfl⟩
   (repeat simp -dsimp -implicitDefEqProofs (disch:=omega) only [↓rP,rA,↓reduceIte,reduceEqDiff,reduceAdd,reduceLeDiff,↓tyr])
   exact ans _ (λe=>⟨ImG.of hx (hg rfl) (hb e),hi⟩)
  ·(repeat simp -dsimp -implicitDefEqProofs (disch:=omega) only [↓rP,rA,↓reduceIte,reduceEqDiff,reduceAdd,reduceLeDiff,↓tyr])
   exact ans _ (λe=>by cases e)
end
section
open Go.Abs
structure Ix (c:Cd) (b:Bd) (x:In) (a:Nat):Prop where
 op:1<=x.Op/\x.Op<=17
 its:(x.Op=1\/x.Op=5\/x.Op=6\/x.Op=7\/x.Op=9\/x.Op=11\/x.Op=12\/x.Op=14)->zjy (slL x.Items) (slL b.Slots).length
 nit:¬ (x.Op=1\/x.Op=5\/x.Op=6\/x.Op=7\/x.Op=9\/x.Op=11\/x.Op=12\/x.Op=14)->(slL x.Items).length=0
 idx:(x.Op=4\/x.Op=7)->zjy (slL x.Index) (slL b.Slots).length
 nix:¬ (x.Op=4\/x.Op=7)->(slL x.Index).length=0
 src:(x.Op=3\/x.Op=4\/x.Op=6\/x.Op=7\/x.Op=10)->btw x.Src (slL b.Slots).length=true
 recs:x.Op=8->btw x.Rec (slL c.Records).length=true
 to_:(x.Op=13\/x.Op=14)->btw x.To (slL b.Code).length=true
theorem instr_ix {c:Cd} {t:Int} {a:Nat} {b:Bd} {x:In} (h:z15 c t b x a=true):Ix c b x a:=by
 have wx:=zyv h;have hop:1<=x.Op/\x.Op<=17:=by
  rcases Decidable.em (1<=x.Op/\x.Op<=17) with q | q
  ·exact q
  ·unfold z15 at h;rw [if_neg (by omega),if_neg (by omega),if_neg (by omega),if_neg (by omega),if_neg (by omega),if_neg (by omega),if_neg (by omega),if_neg (by omega)] at h;simp at h;omega
 obtain ⟨k,hk,hk2⟩:∃ k:Nat,x.Op=k/\k<18:=⟨x.Op.toNat,by omega,by omega⟩;have hs:=wx.src;have ht:=wx.to_;unfold z15 z3h z2m z4d z2o z3g zdv at h;refine ⟨hop,?_,?_,?_,?_,hs,?_,ht⟩
 all_goals
  intro q;simp only [hk] at q h
  match k,hk2,q,h with
  | 0,_,q,h=>exact absurd hop (by omega)
  | 1,_,q,h | 2,_,q,h | 3,_,q,h | 4,_,q,h | 5,_,q,h | 6,_,q,h | 7,_,q,h | 8,_,q,h | 9,_,q,h | 10,_,q,h | 11,_,q,h | 12,_,q,h | 13,_,q,h | 14,_,q,h | 15,_,q,h | 16,_,q,h | 17,_,q,h=>
   first
   | exact absurd q (by decide)
   | (simp at h;grind)
  | n+18,hk2,_,_=>omega
theorem ix_of {c:Cd} (h:okC c=true) {t a:Nat} {b:Bd} {x:In} (hb:(slL c.Threads)[t]?=some b) (hx:(slL b.Code)[a]?=some x):Ix c b x a/\Wf c b x/\(x.Op≠17->a+1<(slL b.Code).length)/\b.Most<=4096/\0<=b.Most:=by
 obtain ⟨h1,h2,h3,h4,h5,h6,h7⟩:=zct h;have h8:=z1t.1 h7 t b hb;unfold zcc zil zas at h8;simp only [Bool.and_eq_true,decide_eq_true_eq] at h8;have hi:=z1t.1 h8.2 a x hx;refine ⟨instr_ix hi,zsh hi,λhn=>?_,h8.1.1.1.2,h8.1.1.1.1.2⟩;have hlt:=(List.getElem?_eq_some_iff.1 hx).1;rcases Nat.lt_or_ge (a+1) (slL b.Code).length with q | q
 ·exact q
 ·exfalso;have hl:=h8.1.2;unfold lastB at hl;have e:(((slL b.Code).length:Int)-1)=(a:Nat):=by omega
  rw [e,z1w,hx] at hl;simp at hl;exact hn hl
theorem runN_ok {slots:List Nat} {inputs:List Int} (hs:∀ v∈slots,okN v):∀ (l:List It) (st st2:List Nat),(∀ x∈l,x.ok)->(∀ v∈st,okN v)->runN slots inputs st l=some st2->∀ v∈st2,okN v
 | [],st,st2,_,h,e=>by cases e;exact h
 | x::l,st,st2,hx,h,e=>by
  simp only [runN] at e;split at e
  ·rename_i st1 e1;exact runN_ok hs l st1 st2 (λy hy=>hx y (List.mem_cons_of_mem _ hy)) (stepN_ok hs (hx x (List.mem_cons_self ..)) h e1) e
  ·cases e
theorem zs2 {slots:List Nat} {inputs:List Int} {l:List It} (hs:∀ v∈slots,okN v) (hx:∀ x∈l,x.ok):okN (zdo slots inputs l).1/\((zdo slots inputs l).2=0\/(zdo slots inputs l).2=1/\(zdo slots inputs l).1=0):=by
 have z:okN 0:=by unfold okN;omega
 unfold zdo;split
 ·split
  ·rename_i st e;refine ⟨?_,Or.inl rfl⟩;have:=runN_ok hs l [] st hx (by simp) e
   cases st with
   | nil=>exact z
   | cons a st=>exact this a (List.mem_cons_self ..)
  ·exact ⟨z,Or.inr ⟨rfl,rfl⟩⟩
 ·exact ⟨z,Or.inl rfl⟩
abbrev Td:=z11
structure Ts where
 slots:List Nat
 pc:Nat
 made:Nat
 out:List Td
structure Hs where
 W:HSt
 gs:List Nat
structure Ev where
 im:z0e
 n:Nat
 b:Bd
 inp:List Int
abbrev Pr:=Nat×Int
def prV (p:Pr):AV:=.tup [.int .u64 (p.1:Nat),.int .i64 p.2]
noncomputable def evT (e:Ev) (s:Ts) (l:Option (List It)):Pr:=zdo s.slots e.inp (slL l)
def srcS (s:Ts) (x:In):Nat:=s.slots.getD x.Src.toNat 0
def zfh (gs:List Nat) (n:Int):Pr:=if n<0\/(gs.length:Int)<=n then (0,3) else (gs.getD n.toNat 0,0)
def getN (W:HSt) (r:Nat) (at_:Int):Pr:=match cellW W r at_ with | .inl e=>(0,e) | .inr (t,q)=>(t.vals.getD q 0,0)
def zj1 (W:HSt) (r:Nat):Pr:=match z7e W r with | none=>(0,2) | some t=>(t.vals.length,0)
def zdz (W:HSt) (th c:Int):Pr:=match zm9 W th c with | .inl e=>(0,e) | .inr k=>(k*16+(W k).length+1,0)
def clsT (e:Ev) (x:In):Int:=(slL e.im.Classes).getD x.N.toNat 0
def recT (e:Ev) (x:In):Int:=(((slL e.im.Code.Records).getD x.Rec.toNat none |> slL).length:Nat)
noncomputable def z6p (e:Ev) (s:Ts) (x:In):Int×Int:=if x.Op=8 then (recT e x,0) else (sgN (evT e s x.Items).1,(evT e s x.Items).2)
noncomputable def loadT (e:Ev) (s:Ts) (H:Hs) (x:In):Pr×HSt:=
 if x.Op=2 then (zfh H.gs x.N,H.W)
 else if x.Op=3 then (getN H.W (srcS s x) x.N,H.W)
 else if x.Op=4 then (if (evT e s x.Index).2≠0 then ((0,(evT e s x.Index).2),H.W) else (getN H.W (srcS s x) (sgN (evT e s x.Index).1),H.W))
 else if x.Op=10 then (zj1 H.W (srcS s x),H.W)
 else if x.Op=8\/x.Op=9 then
  (if (z6p e s x).2≠0 then ((0,(z6p e s x).2),H.W) else (zdz H.W e.n (z6p e s x).1,zfj H.W e.n x.N (clsT e x) (z6p e s x).1))
 else (evT e s x.Items,H.W)
noncomputable def storeT (e:Ev) (s:Ts) (H:Hs) (x:In):Int×Hs:=
 if x.Op=7/\(evT e s x.Index).2≠0 then ((evT e s x.Index).2,H)
 else if (evT e s x.Items).2≠0 then ((evT e s x.Items).2,H)
 else if x.Op=5 then ((zfh H.gs x.N).2,⟨H.W,if (zfh H.gs x.N).2=0 then H.gs.set x.N.toNat (evT e s x.Items).1 else H.gs⟩)
 else (setV H.W (srcS s x) (if x.Op=7 then sgN (evT e s x.Index).1 else x.N),⟨setW H.W (srcS s x) (if x.Op=7 then sgN (evT e s x.Index).1 else x.N) (evT e s x.Items).1,H.gs⟩)
noncomputable def actT (e:Ev) (s:Ts) (H:Hs) (x:In):Int×Ts×Hs:=
 if x.Op=5\/x.Op=6\/x.Op=7 then ((storeT e s H x).1,s,(storeT e s H x).2)
 else if x.Op=11\/x.Op=12 then
  (if (evT e s x.Items).2=0 then (0,{ s with out:=s.out++[⟨e.n,decide (x.Op=12),(evT e s x.Items).1⟩] },H) else ((evT e s x.Items).2,s,H))
 else if 0<=dstI x then
  (if (loadT e s H x).1.2=0 then (0,{ s with slots:=s.slots.set (dstI x).toNat (loadT e s H x).1.1 },⟨(loadT e s H x).2,H.gs⟩)
   else ((loadT e s H x).1.2,s,⟨(loadT e s H x).2,H.gs⟩))
 else (0,s,H)
noncomputable def z9i (e:Ev) (s:Ts) (x:In):Int×Int:=
 if x.Op=13 then (x.To,0)
 else if x.Op=14/\(evT e s x.Items).1=0 then (x.To,(evT e s x.Items).2)
 else (((s.pc+1:Nat):Int),0)
noncomputable def doT (e:Ev) (s:Ts) (H:Hs):Int×Ts×Hs:=
 match (slL e.b.Code)[s.pc]? with
 | none=>(0,s,H)
 | some x=>
  if x.Op=17 then (0,s,H)
  else if e.b.Most<=(s.made:Nat) then (6,s,H)
  else if (actT e s H x).1≠0 then actT e s H x
  else if (z9i e (actT e s H x).2.1 x).2≠0 then ((z9i e (actT e s H x).2.1 x).2,(actT e s H x).2)
  else (0,{ (actT e s H x).2.1 with pc:=(z9i e (actT e s H x).2.1 x).1.toNat,made:=s.made+1 },(actT e s H x).2.2)
structure HOk (H:Hs):Prop where
 gs:∀ v∈H.gs,okN v
 few:H.gs.length<=8
 cells:∀ k,∀ t∈H.W k,t.vals.length<=16/\∀ v∈t.vals,okN v
structure EOk (e:Ev):Prop where
 g:ImG e.im
 bd:(slL e.im.Code.Threads)[e.n]?=some e.b
 inp:e.inp.length<=100
structure TOk (e:Ev) (s:Ts):Prop where
 len:s.slots.length=(slL e.b.Slots).length
 vals:∀ v∈s.slots,okN v
 pc:s.pc<(slL e.b.Code).length
 out:s.out.length<=s.made
 made:s.made<=4096
theorem zye {W:HSt} {r:Nat} {at_:Int} {t:Vw} {q:Nat} (h:cellW W r at_=.inr (t,q)):t∈W ((r-1)/16)/\q<t.vals.length/\at_=q:=by
 unfold cellW at h
 cases hf:z7e W r with
 | none=>rw [hf] at h;cases h
 | some u=>
  rw [hf] at h;simp only at h;split at h
  ·cases h
  ·cases h;unfold z7e at hf;split at hf
   ·cases hf
   ·exact ⟨List.mem_of_getElem? hf,by omega,by omega⟩
theorem setW_ok {H:Hs} (ho:HOk H) (r:Nat) (a:Int) {v:Nat} (hv:okN v):HOk ⟨setW H.W r a v,H.gs⟩:=by
 refine ⟨ho.gs,ho.few,?_⟩;unfold setW
 cases hc:cellW H.W r a with
 | inl e=>exact ho.cells
 | inr p=>
  obtain ⟨t,q⟩:=p;have ht:=ho.cells _ t (zye hc).1;intro k u hu;simp only [setL] at hu;split at hu
  ·rcases List.mem_or_eq_of_mem_set hu with hu | rfl
   ·exact ho.cells _ u hu
   ·refine ⟨by simpa using ht.1,λw hw=>?_⟩;rcases List.mem_or_eq_of_mem_set hw with hw | rfl
    ·exact ht.2 w hw
    ·exact hv
  ·exact ho.cells _ u hu
theorem makeW_ok {H:Hs} (ho:HOk H) (th s cl c:Int):HOk ⟨zfj H.W th s cl c,H.gs⟩:=by
 refine ⟨ho.gs,ho.few,?_⟩;unfold zfj zm9;intro k u hu;split at hu
 ·exact ho.cells _ u hu
 ·rename_i m e;split at e
  ·cases e
  split at e
  ·cases e
  cases e;simp only [setL] at hu;split at hu
  ·rcases List.mem_append.1 hu with hu | hu
   ·exact ho.cells _ u hu
   ·simp only [List.mem_singleton] at hu;subst hu;refine ⟨by simp;omega,λw hw=>?_⟩;rw [List.eq_of_mem_replicate hw];unfold okN;omega
  ·exact ho.cells _ u hu
theorem zsb {l:List Nat} (h:∀ v∈l,okN v) (k:Nat):okN (l.getD k 0):=by
 rw [List.getD_eq_getElem?_getD]
 cases e:l[k]? with
 | none=>simp [okN]
 | some v=>simpa using h v (List.mem_of_getElem? e)
theorem loadT_ok {e:Ev} {s:Ts} {H:Hs} {x:In} (hx:x.ok) (hs:∀ v∈s.slots,okN v) (ho:HOk H) (hn:e.n<4):okN (loadT e s H x).1.1/\HOk ⟨(loadT e s H x).2,H.gs⟩:=by
 have z:okN 0:=by unfold okN;omega
 have g:∀ r a,okN (getN H.W r a).1:=λr a=>by
  unfold getN;split
  ·exact z
  ·rename_i t q e;exact zsb (ho.cells _ t (zye e).1).2 q
 have hit:∀ y∈slL x.Items,y.ok:=hx.2.2.2.2.2.2.1.2;have ev:=(zs2 (inputs:=e.inp) hs hit).1;unfold loadT;split
 ·refine ⟨?_,ho⟩;unfold zfh;split
  ·exact z
  ·exact zsb ho.gs _
 split
 ·exact ⟨g _ _,ho⟩
 split
 ·split
  ·exact ⟨z,ho⟩
  ·exact ⟨g _ _,ho⟩
 split
 ·refine ⟨?_,ho⟩;unfold zj1;split
  ·exact z
  ·rename_i t e;unfold z7e at e;split at e
   ·cases e
   ·have:=(ho.cells _ t (List.mem_of_getElem? e)).1;unfold okN;simp only;omega
 split
 ·split
  ·exact ⟨z,ho⟩
  ·refine ⟨?_,makeW_ok ho _ _ _ _⟩;unfold zdz zm9;split
   ·exact z
   ·rename_i k e;split at e
    ·cases e
    split at e
    ·cases e
    cases e;unfold okN;simp only;omega
 ·exact ⟨ev,ho⟩
theorem thr_lt {e:Ev} (eo:EOk e):e.n<4:=by
 have:=(List.getElem?_eq_some_iff.1 eo.bd).1;have:=(zf7 eo.g.code).thr;omega
theorem zzk {W:HSt} {r:Nat} {a:Int} {v:Nat} (h:setV W r a≠0):setW W r a v=W:=by
 unfold setV at h;unfold setW;split at h
 ·rename_i e q;rw [q]
 ·exact absurd rfl h
theorem zv1 {W:HSt} {th s cl c:Int} (h:(zdz W th c).2≠0):zfj W th s cl c=W:=by
 unfold zdz at h;unfold zfj;split at h
 ·rename_i e q;rw [q]
 ·exact absurd rfl h
theorem ztj {e:Ev} {s:Ts} {H:Hs} {x:In} (h:(actT e s H x).1≠0):(actT e s H x).2=(s,H):=by
 unfold actT at h ⊢;split
 ·rename_i q;rw [if_pos q] at h;simp only at h ⊢;unfold storeT at h ⊢;split
  ·rfl
  rename_i q1;rw [if_neg q1] at h;split
  ·rfl
  rename_i q2;rw [if_neg q2] at h;split
  ·rename_i q3;rw [if_pos q3] at h;simp only at h ⊢;rw [if_neg h]
  ·rename_i q3;rw [if_neg q3] at h;simp only at h ⊢;rw [zzk h]
 rename_i q;rw [if_neg q] at h;split
 ·rename_i q1;rw [if_pos q1] at h;split
  ·rename_i q2;rw [if_pos q2] at h;exact absurd rfl h
  ·rfl
 rename_i q1;rw [if_neg q1] at h;split
 ·rename_i q2;rw [if_pos q2] at h;split
  ·rename_i q3;rw [if_pos q3] at h;exact absurd rfl h
  ·rename_i q3;rw [if_neg q3] at h;simp only at h ⊢;have:(loadT e s H x).2=H.W:=by
    unfold loadT at h ⊢;split
    ·rfl
    split
    ·rfl
    split
    ·split <;> rfl
    split
    ·rfl
    split
    ·rename_i a1 a2 a3 a4 a5;rw [if_neg a1,if_neg a2,if_neg a3,if_neg a4,if_pos a5] at h;split
     ·rfl
     ·rename_i a6;rw [if_neg a6] at h;exact zv1 h
    ·rfl
   rw [this]
 ·rfl
theorem goesT_trap {e:Ev} {s:Ts} {x:In} (h:(z9i e s x).2≠0):x.Op=14:=by
 unfold z9i at h;split at h
 ·exact absurd rfl h
 split at h
 ·rename_i q;exact q.1
 ·exact absurd rfl h
theorem znz {e:Ev} {s:Ts} {H:Hs} {x:In} (h:x.Op=14):actT e s H x=(0,s,H):=by
 unfold actT dstI;rw [if_neg (by omega),if_neg (by omega),if_neg (by rw [if_neg (by omega)];decide)]
theorem zyj {e:Ev} {s:Ts} {H:Hs} (h:(doT e s H).1≠0):(doT e s H).2=(s,H):=by
 unfold doT at h ⊢;split
 ·rfl
 rename_i x hx;rw [hx] at h;simp only at h;split
 ·rfl
 rename_i q1;rw [if_neg q1] at h;split
 ·rfl
 rename_i q2;rw [if_neg q2] at h;split
 ·rename_i q3;exact ztj q3
 rename_i q3;rw [if_neg q3] at h;split
 ·rename_i q4;simp only;rw [znz (goesT_trap q4)]
 ·rename_i q4;rw [if_neg q4] at h;exact absurd rfl h
theorem doT_ok {e:Ev} {s:Ts} {H:Hs} (eo:EOk e) (so:TOk e s) (ho:HOk H):TOk e (doT e s H).2.1/\HOk (doT e s H).2.2:=by
 by_cases ht:(doT e s H).1≠0
 ·rw [zyj ht];exact ⟨so,ho⟩
 replace ht:(doT e s H).1=0:=Decidable.of_not_not ht;unfold doT at ht ⊢;obtain ⟨x,hx⟩:∃ x,(slL e.b.Code)[s.pc]?=some x:=⟨_,List.getElem?_eq_getElem so.pc⟩;rw [hx] at ht ⊢;simp only at ht ⊢;obtain ⟨ix,wf,hl,hm,hm0⟩:=ix_of eo.g.code eo.bd hx;have hbo:e.b.ok:=eo.g.ok.1.2.2.1.2 _ (List.mem_of_getElem? eo.bd);have hxo:x.ok:=hbo.2.1.2 _ (List.mem_of_getElem? hx);split
 ·exact ⟨so,ho⟩
 rename_i h17;rw [if_neg h17] at ht;split
 ·exact ⟨so,ho⟩
 rename_i hmo;rw [if_neg hmo] at ht;split
 ·rename_i q;rw [if_pos q] at ht;exact absurd ht q
 rename_i q;rw [if_neg q] at ht;split
 ·rename_i q2;rw [if_pos q2] at ht;exact absurd ht q2
 have hev:=(zs2 (inputs:=e.inp) so.vals hxo.2.2.2.2.2.2.1.2).1;have ac:(actT e s H x).2.1.slots.length=s.slots.length/\(∀ v∈(actT e s H x).2.1.slots,okN v)/\HOk (actT e s H x).2.2/\(actT e s H x).2.1.out.length<=s.out.length+1/\(actT e s H x).2.1.pc=s.pc:=by
  unfold actT;split
  ·refine ⟨rfl,so.vals,?_,Nat.le_succ _,rfl⟩;unfold storeT;split
   ·exact ho
   split
   ·exact ho
   split
   ·refine ⟨?_,?_,ho.cells⟩
    ·split
     ·intro w hw;rcases List.mem_or_eq_of_mem_set hw with hw | rfl
      ·exact ho.gs w hw
      ·exact hev
     ·exact ho.gs
    ·split
     ·simpa using ho.few
     ·exact ho.few
   ·exact setW_ok ho _ _ hev
  split
  ·split
   ·exact ⟨rfl,so.vals,ho,by simp,rfl⟩
   ·exact ⟨rfl,so.vals,ho,Nat.le_succ _,rfl⟩
  split
  ·have lo:=loadT_ok (e:=e) hxo so.vals ho (thr_lt eo);split
   ·refine ⟨by simp,λw hw=>?_,lo.2,Nat.le_succ _,rfl⟩;rcases List.mem_or_eq_of_mem_set hw with hw | rfl
    ·exact so.vals w hw
    ·exact lo.1
   ·exact ⟨rfl,so.vals,lo.2,Nat.le_succ _,rfl⟩
  ·exact ⟨rfl,so.vals,ho,Nat.le_succ _,rfl⟩
 obtain ⟨a1,a2,a3,a4,a5⟩:=ac;have:=so.out;refine ⟨⟨a1.trans so.len,a2,?_,by simp only;omega,by simp only;omega⟩,a3⟩;simp only;unfold z9i;split
 ·have:=ix.to_ (by omega);unfold btw at this;simp at this;simp only;omega
 split
 ·have:=ix.to_ (by omega);unfold btw at this;simp at this;simp only;omega
 ·have:=hl h17;simp only [a5];omega
end
section
open Go.Abs
abbrev z2d:=Nat->Nat
def Agr (h:z00) (o o2:z2d):Prop:=∀ x,x<h.next->o2 x=o x
theorem Agr.refl (h:z00) (o:z2d):Agr h o o:=λ_ _=>rfl
theorem Agr.trans {h h2:z00} {o o2 o3:z2d} (a:Agr h o o2) (hn:h.next<=h2.next) (b:Agr h2 o2 o3):Agr h o o3:=λx hx=>(b x (Nat.lt_of_lt_of_le hx hn)).trans (a x hx)
def newO (h:z00) (o:z2d) (k:Nat):z2d:=λx=>if x<h.next then o x else k
theorem z2h (h:z00) (o:z2d) (k:Nat):Agr h o (newO h o k):=λx hx=>if_pos hx
theorem z3e {h:z00} {o:z2d} {k x:Nat} (hx:h.next<=x):newO h o k x=k:=if_neg (by omega)
def PrAt (h:z00) (o:z2d) (k:Nat) (av:AV) (out:List Td):Prop:=(out=[]/\av=.nils)\/(out≠[]/\∃ g,av=.gsl g 3 (out.map z11.cells)/\h.objs g=some (.tok 72 (out.length*3))/\o g=k/\g<h.next)
theorem PrAt.frame {h h2:z00} {o o2:z2d} {k:Nat} {av:AV} {out:List Td} {S:Nat->Prop} (p:PrAt h o k av out) (kp:Keeps h h2 S) (ag:Agr h o o2) (hS:∀ x,o x=k->¬ S x):PrAt h2 o2 k av out:=by
 rcases p with p | ⟨p1,g,p2,p3,p4,p5⟩
 ·exact Or.inl p
 ·exact Or.inr ⟨p1,g,p2,by rw [kp.objs g p5 (hS g p4)];exact p3,by rw [ag g p5];exact p4,Nat.lt_of_lt_of_le p5 kp.next⟩
def z6x (e:Ev) (io:Option (List Int)) (s:Ts) (sid:Nat) (av:AV):List AV:=[slAV 3 z0b.cells e.b.Slots,slAV 8 z0a.cells e.b.Code,.int .i64 e.b.Most,slAV 1 (λo=>[slAV 3 (z0b.cells) o]) e.im.Code.Records,slAV 3 (z0b.cells) e.im.Code.Globals,slAV 3 (z0t.cells) e.im.Code.Threads,slAV 3 (z0v.cells) e.im.Code.Sites,slAV 3 (z08.cells) e.im.Code.Sections,slAV 1 (encI) e.im.Classes,plAV e.im.Plans,.int .i64 e.im.Tries,.int .i64 (e.n:Nat),slAV 1 encI io,.sl sid 0 s.slots.length 1,.int .i64 (s.pc:Nat),.int .i64 (s.made:Nat),av]
structure ThA (h:z00) (o:z2d) (k i:Nat) (e:Ev) (s:Ts):Prop where
 ex:∃ io sid av,h.objs i=some (.row 83 (z6x e io s sid av))/\slL io=e.inp/\h.objs sid=some (.row 65 (z0u s.slots))/\o sid=k/\sid<h.next/\PrAt h o k av s.out
 own:o i=k
 lt:i<h.next
theorem ThA.frame {h h2:z00} {o o2:z2d} {k i:Nat} {e:Ev} {s:Ts} {S:Nat->Prop} (p:ThA h o k i e s) (kp:Keeps h h2 S) (ag:Agr h o o2) (hS:∀ x,o x=k->¬ S x):ThA h2 o2 k i e s:=by
 obtain ⟨⟨io,sid,av,p1,p2,p3,p4,p5,p6⟩,p7,p8⟩:=p;exact ⟨⟨io,sid,av,by rw [kp.objs i p8 (hS i p7)];exact p1,p2,by rw [kp.objs sid p5 (hS sid p4)];exact p3,by rw [ag sid p5];exact p4,Nat.lt_of_lt_of_le p5 kp.next,p6.frame kp ag hS⟩,by rw [ag i p8];exact p7,Nat.lt_of_lt_of_le p8 kp.next⟩
structure PH (h:z00) (o:z2d) (m j:Nat) (H:Hs):Prop where
 ex:∃ F g,HpW h F j H.W (.sl g 0 H.gs.length 1)/\(∀ x,F x->o x=m)/\h.objs g=some (.row 65 (z0u H.gs))/\o g=m/\g<h.next/\¬ F g
theorem PH.frame {h h2:z00} {o o2:z2d} {m j:Nat} {H:Hs} {S:Nat->Prop} (p:PH h o m j H) (kp:Keeps h h2 S) (ag:Agr h o o2) (hS:∀ x,o x=m->¬ S x):PH h2 o2 m j H:=by
 obtain ⟨F,g,p1,p2,p3,p4,p5,p6⟩:=p;exact ⟨F,g,p1.keeps kp (λx hx=>hS x (p2 x hx)),λx hx=>by rw [ag x (p1.lt x hx)];exact p2 x hx,by rw [kp.objs g p5 (hS g p4)];exact p3,by rw [ag g p5];exact p4,Nat.lt_of_lt_of_le p5 kp.next,p6⟩
section
variable {h:z00} {o:z2d} {m j:Nat} {H:Hs}
theorem zte (p:PH h o m j H) (n:Int):z01 Tryz.prog 33 [.ptr j 0,.int .i64 n] h (λv h2=>v=prV (zfh H.gs n)/\h2=h):=by
 obtain ⟨F,g,p1,p2,p3,p4,p5,p6⟩:=p;refine (zmy p1 p3 n).mono ?_;rintro v h2 ⟨rfl,rfl⟩;refine ⟨?_,rfl⟩;unfold globV zfh prV;split <;> rfl
theorem ztf (p:PH h o m j H) (n:Int) (v:Nat):z01 Tryz.prog 61 [.ptr j 0,.int .i64 n,.int .u64 (v:Int)] h (λw h2=>w=.int .i64 (zfh H.gs n).2/\PH h2 o m j ⟨H.W,if (zfh H.gs n).2=0 then H.gs.set n.toNat v else H.gs⟩/\Keeps h h2 (λx=>o x=m)):=by
 have p0:=p;obtain ⟨F,g,p1,p2,p3,p4,p5,p6⟩:=p;refine (zik p1 p3 n v).mono ?_;intro w h2 hw;unfold zfh;split at hw
 ·rename_i q;obtain ⟨rfl,rfl⟩:=hw;rw [if_pos q];exact ⟨rfl,p0,.refl _ _⟩
 ·rename_i q;obtain ⟨rfl,rfl⟩:=hw;rw [if_neg q];have kp:=Keeps.put h g (.row 65 (z0u (H.gs.set n.toNat v)));refine ⟨rfl,⟨F,g,?_,p2,?_,p4,p5,p6⟩,kp.mono λx e=>by rw [e];exact p4⟩
  ·have:=p1.keeps kp (λx hx e=>p6 (e▸hx));simpa using this
  ·simp
theorem PH_Get (p:PH h o m j H) (r:Nat) (hr:okN r) (a:Int):z01 Tryz.prog 64 [.ptr j 0,.int .u64 r,.int .i64 a] h (λv h2=>v=prV (getN H.W r a)/\h2=h):=by
 obtain ⟨F,g,p1,p2,p3,p4,p5,p6⟩:=p;refine (heap_Get_W p1 r hr a).mono ?_;rintro v h2 ⟨rfl,rfl⟩;refine ⟨?_,rfl⟩;unfold getV getN prV;split <;> rename_i q <;> simp only [q] <;> rfl
theorem PH_Set (p:PH h o m j H) (r:Nat) (hr:okN r) (a:Int) (v:Nat):z01 Tryz.prog 62 [.ptr j 0,.int .u64 r,.int .i64 a,.int .u64 v] h (λw h2=>w=.int .i64 (setV H.W r a)/\PH h2 o m j ⟨setW H.W r a v,H.gs⟩/\Keeps h h2 (λx=>o x=m)):=by
 obtain ⟨F,g,p1,p2,p3,p4,p5,p6⟩:=p;refine (heap_Set_W p1 r hr a v).mono ?_;rintro w h2 ⟨rfl,q1,q2⟩;exact ⟨rfl,⟨F,g,q1,p2,by rw [q2.objs g p5 p6];exact p3,p4,Nat.lt_of_lt_of_le p5 q2.next,p6⟩,q2.mono p2⟩
theorem PH_Size (p:PH h o m j H) (r:Nat) (hr:okN r):z01 Tryz.prog 65 [.ptr j 0,.int .u64 r] h (λv h2=>v=.tup [.int .i64 (zj1 H.W r).1,.int .i64 (zj1 H.W r).2]/\h2=h):=by
 obtain ⟨F,g,p1,p2,p3,p4,p5,p6⟩:=p;refine (zx8 p1 r hr).mono ?_;rintro v h2 ⟨rfl,rfl⟩;refine ⟨?_,rfl⟩;unfold sizeV zj1;split <;> rename_i q <;> simp only [q] <;> rfl
theorem PH_Make (p:PH h o m j H) (th site cls c:Int):z01 Tryz.prog 67 [.ptr j 0,.int .i64 th,.int .i64 site,.int .i64 cls,.int .i64 c] h (λv h2=>v=prV (zdz H.W th c)/\∃ o2,Agr h o o2/\PH h2 o2 m j ⟨zfj H.W th site cls c,H.gs⟩/\Keeps h h2 (λx=>o x=m)):=by
 obtain ⟨F,g,p1,p2,p3,p4,p5,p6⟩:=p;refine (zx6 p1 th site cls c).mono ?_;rintro v h2 ⟨rfl,F2,q1,q2,q3⟩;refine ⟨?_,newO h o m,z2h _ _ _,⟨F2,g,q1,λx hx=>?_,by rw [q2.objs g p5 p6];exact p3,by rw [z2h h o m g p5];exact p4,Nat.lt_of_lt_of_le p5 q2.next,λe=>?_⟩,q2.mono p2⟩
 ·unfold zv2 zdz prV;split <;> rename_i q <;> simp only [q] <;> rfl
 ·rcases q3 x hx with e | e
  ·rw [z2h h o m x (p1.lt x e)];exact p2 x e
  ·exact z3e e
 ·rcases q3 g e with e | e
  ·exact p6 e
  ·omega
end
end
section
open Go.Abs
theorem Ix.few {c:Cd} {b:Bd} {x:In} {a:Nat} (ix:Ix c b x a):(slL x.Items).length<=64/\(slL x.Index).length<=64:=by
 constructor
 ·by_cases q:x.Op=1\/x.Op=5\/x.Op=6\/x.Op=7\/x.Op=9\/x.Op=11\/x.Op=12\/x.Op=14
  ·exact (ix.its q).2.2
  ·have:=ix.nit q;omega
 ·by_cases q:x.Op=4\/x.Op=7
  ·exact (ix.idx q).2.2
  ·have:=ix.nix q;omega
structure At (e:Ev) (s:Ts) (x:In):Prop where
 eo:EOk e
 so:TOk e s
 hx:(slL e.b.Code)[s.pc]?=some x
 ix:Ix e.im.Code e.b x s.pc
 wf:Wf e.im.Code e.b x
 next:x.Op≠17->s.pc+1<(slL e.b.Code).length
 most:e.b.Most<=4096
 ok:x.ok
 slo:s.slots.length<=64
theorem at_of {e:Ev} {s:Ts} (eo:EOk e) (so:TOk e s):∃ x,At e s x:=by
 obtain ⟨x,hx⟩:∃ x,(slL e.b.Code)[s.pc]?=some x:=⟨_,List.getElem?_eq_getElem so.pc⟩;obtain ⟨ix,wf,hl,hm,hm0⟩:=ix_of eo.g.code eo.bd hx;have hbo:e.b.ok:=eo.g.ok.1.2.2.1.2 _ (List.mem_of_getElem? eo.bd);exact ⟨x,eo,so,hx,ix,wf,hl,hm,hbo.2.1.2 _ (List.mem_of_getElem? hx),by rw [so.len];exact ((zf7 eo.g.code).slo _ _ eo.bd).1⟩
theorem z6w {n:Int} {k:Nat} (h:btw n k=true):∃ m:Nat,n=m/\m<k/\n.toNat=m:=by
 unfold btw at h;simp at h;exact ⟨n.toNat,by omega,by omega,rfl⟩
section
variable {h:z00} {o:z2d} {k m i j:Nat} {e:Ev} {s:Ts} {H:Hs} {x:In} {io:Option (List Int)} {sid:Nat} {av:AV}
theorem thC:(∀ J,z04 none (z6x e io s sid av) 1 J=J (slAV 8 z0a.cells e.b.Code))/\(∀ J,z04 none (z6x e io s sid av) 2 J=J (.int .i64 e.b.Most))/\(∀ J,z04 none (z6x e io s sid av) 3 J=J (slAV 1 (λo=>[slAV 3 (z0b.cells) o]) e.im.Code.Records))/\(∀ J,z04 none (z6x e io s sid av) 8 J=J (slAV 1 encI e.im.Classes))/\(∀ J,z04 none (z6x e io s sid av) 11 J=J (.int .i64 (e.n:Nat)))
  /\(∀ J,z04 none (z6x e io s sid av) 12 J=J (slAV 1 encI io))/\(∀ J,z04 none (z6x e io s sid av) 13 J=J (.sl sid 0 s.slots.length 1))/\(∀ J,z04 none (z6x e io s sid av) 14 J=J (.int .i64 (s.pc:Nat)))/\(∀ J,z04 none (z6x e io s sid av) 15 J=J (.int .i64 (s.made:Nat)))/\(∀ J,z04 none (z6x e io s sid av) 16 J=J av):=by
 simp [z04,z6x]
theorem thC5 (J:AV->Prop):z04 (some 5) (z6x e io s sid av) 3 J=J (.agg e.im.Code.cells):=by
 simp [z04,z6x,z0g.cells]
theorem zrs (p:ThA h o k i e s):z01 Tryz.prog 11 [.ptr i 0] h (λv h2=>v=.int .i64 (s.pc:Nat)/\h2=h):=by
 obtain ⟨⟨io,sid,av,p1,-⟩,-,-⟩:=p;apply zj3
 (repeat (first | simp -dsimp -implicitDefEqProofs (disch:=omega) only [↓rP,rA,↓reduceIte,reduceEqDiff,reduceAdd,reduceLeDiff,↓tyr,z02 p1,thC] | refine Cut.go ?_))
theorem znu (p:ThA h o k i e s):z01 Tryz.prog 12 [.ptr i 0] h (λv h2=>v=.int .i64 (s.made:Nat)/\h2=h):=by
 obtain ⟨⟨io,sid,av,p1,-⟩,-,-⟩:=p;apply zgk
 (repeat (first | simp -dsimp -implicitDefEqProofs (disch:=omega) only [↓rP,rA,↓reduceIte,reduceEqDiff,reduceAdd,reduceLeDiff,↓tyr,z02 p1,thC] | refine Cut.go ?_))
theorem znv (p:ThA h o k i e s) (a:At e s x):z01 Tryz.prog 22 [.ptr i 0] h (λv h2=>v=.agg x.cells/\h2=h):=by
 refine z01.forget (zol _ x) ?_;obtain ⟨⟨io,sid,av,p1,-⟩,-,p3⟩:=p;have hpc:=a.so.pc;apply zgl;have p4:=λz off k J=>z02 (off:=off) (show (h.push z).objs i=_ by rw [z1h p3];exact p1) k J
 (repeat (first | simp -dsimp -implicitDefEqProofs (disch:=omega) only [↓rP,rA,↓reduceIte,reduceEqDiff,reduceAdd,reduceLeDiff,↓tyr,p4,thC,z03 a.hx] | refine Cut.go ?_))
 exact Keeps.one _ _
theorem zl9 (p:ThA h o k i e s) (a:At e s x):z01 Tryz.prog 20 [.ptr i 0] h (λv h2=>v=.bool (decide (x.Op=17))/\h2=h):=by
 apply zf3;refine z01.go (znv p a) ?_
 (repeat (first | simp -dsimp -implicitDefEqProofs (disch:=omega) only [↓rP,rA,↓reduceIte,reduceEqDiff,reduceAdd,reduceLeDiff,↓tyr] | refine Cut.go ?_))
 rfl
theorem zu8 (p:ThA h o k i e s) (hi:e.inp.length<=100) (hs:s.slots.length<=64) (so:TOk e s) (l:Option (List It)) (hl:okSl z09.ok l) (hn:(slL l).length<=64):z01 Tryz.prog 47 [.ptr i 0,slAV 3 z09.cells l] h (λv h2=>v=prV (evT e s l)/\h2=h):=by
 obtain ⟨⟨io,sid,av,p1,p2,p3,p4,p5,p6⟩,-,-⟩:=p;have ev:=z01.forget (by exact ⟨trivial,trivial,trivial⟩) (zpo s.slots (.sl sid 0 s.slots.length 1) io l so.vals (by omega) (by rw [p2];omega) hl (by omega) h (Rd.row p3 p5));rw [p2] at ev;apply zgn
 (repeat (first | simp -dsimp -implicitDefEqProofs (disch:=omega) only [↓rP,rA,↓reduceIte,reduceEqDiff,reduceAdd,reduceLeDiff,↓tyr,z02 p1,thC] | refine Cut.go ?_))
 refine z01.go ev ?_
 (repeat (first | simp -dsimp -implicitDefEqProofs (disch:=omega) only [↓rP,rA,↓reduceIte,reduceEqDiff,reduceAdd,reduceLeDiff,↓tyr] | refine Cut.go ?_))
 rfl
theorem At.items (a:At e s x):okSl z09.ok x.Items/\(slL x.Items).length<=64:=⟨a.ok.2.2.2.2.2.2.1,a.ix.few.1⟩
theorem At.index (a:At e s x):okSl z09.ok x.Index/\(slL x.Index).length<=64:=⟨a.ok.2.2.2.2.2.2.2,a.ix.few.2⟩
theorem At.ev1 (a:At e s x) (p:ThA h o k i e s):z01 Tryz.prog 47 [.ptr i 0,slAV 3 z09.cells x.Items] h (λv h2=>v=prV (evT e s x.Items)/\h2=h):=zu8 p a.eo.inp a.slo a.so _ a.items.1 a.items.2
theorem At.ev2 (a:At e s x) (p:ThA h o k i e s):z01 Tryz.prog 47 [.ptr i 0,slAV 3 z09.cells x.Index] h (λv h2=>v=prV (evT e s x.Index)/\h2=h):=zu8 p a.eo.inp a.slo a.so _ a.index.1 a.index.2
theorem zgh (p3:h.objs sid=some (.row 65 (z0u s.slots))) {q:Nat} (hq:q<s.slots.length):(∀ J,z0d (.slice 1) (.sl sid 0 s.slots.length 1) (.int .i64 (q:Nat)) J=J (.ptr sid q))/\(∀ J,z0r none (.ptr sid q) h J=J (.int .u64 (s.slots.getD q 0:Nat))):=by
 refine ⟨λJ=>?_,λJ=>?_⟩
 ·rw [znq (by omega) (by omega)];simp
 ·rw [z02 p3,pCells_none,valCells_get _ _ hq]
theorem At.cells (a:At e s x) (p:ThA h o k i e s) (h89:x.Op=8\/x.Op=9):z01 Tryz.prog 66 [.ptr i 0,.agg x.cells] h (λv h2=>v=.tup [.int .i64 (z6p e s x).1,.int .i64 (z6p e s x).2]/\h2=h):=by
 have p0:=p;obtain ⟨⟨io,sid,av,p1,p2,p3,p4,p5,p6⟩,-,-⟩:=p;apply zf5;unfold z6p;rcases h89 with q | q
 ·rw [if_pos q];obtain ⟨r,hr,hr2,hr3⟩:=z6w (a.ix.recs q);obtain ⟨rc,hrc⟩:∃ y,(slL e.im.Code.Records)[r]?=some y:=⟨_,List.getElem?_eq_getElem hr2⟩;have hrec:recT e x=((slL rc).length:Nat):=by unfold recT;rw [hr3,List.getD_eq_getElem?_getD,hrc];rfl
  have l1:∀ J:AV->Prop,z0r none (.iptr ((λo=>[slAV 3 (z0b.cells) o]) rc)) h J=J (slAV 3 z0b.cells rc):=λJ=>by rw [z0y];rfl
  rw [hrec]
  (repeat (first | simp -dsimp -implicitDefEqProofs (disch:=omega) only [↓rP,rA,↓reduceIte,reduceEqDiff,reduceAdd,reduceLeDiff,↓tyr,q,Int.reduceBEq,z02 p1,thC,hr,z03 hrc,↓l1] | refine Cut.go ?_))
 ·rw [if_neg (by omega)]
  (repeat (first | simp -dsimp -implicitDefEqProofs (disch:=omega) only [↓rP,rA,↓reduceIte,reduceEqDiff,reduceAdd,reduceLeDiff,↓tyr,q,Int.reduceBEq] | refine Cut.go ?_))
  refine z01.go (a.ev1 p0) ?_
  (repeat (first | simp -dsimp -implicitDefEqProofs (disch:=omega) only [↓rP,rA,↓reduceIte,reduceEqDiff,reduceAdd,reduceLeDiff,↓tyr,prV] | refine Cut.go ?_))
  rfl
theorem At.load (a:At e s x) (p:ThA h o k i e s) (q:PH h o m j H) (ho:HOk H) (hop:x.Op=1\/x.Op=2\/x.Op=3\/x.Op=4\/x.Op=8\/x.Op=9\/x.Op=10):z01 Tryz.prog 49 [.ptr i 0,.ptr j 0,.agg x.cells] h (λv h2=>v=prV (loadT e s H x).1/\∃ o2,Agr h o o2/\PH h2 o2 m j ⟨(loadT e s H x).2,H.gs⟩/\Keeps h h2 (λx=>o x=m)):=by
 have p0:=p;obtain ⟨⟨io,sid,av,p1,p2,p3,p4,p5,p6⟩,-,-⟩:=p;have same:∀ (v:AV) (r:Pr),v=prV r->loadT e s H x=(r,H.W)->v=prV (loadT e s H x).1/\∃ o2,Agr h o o2/\PH h o2 m j ⟨(loadT e s H x).2,H.gs⟩/\Keeps h h (λx=>o x=m):=λv r e1 e2=>by
  rw [e2];exact ⟨e1,o,.refl _ _,q,.refl _ _⟩
 have hlen:=a.so.len;have srcV:∀ z:Nat,x.Src=z->z<(slL e.b.Slots).length->srcS s x=s.slots.getD z 0/\okN (s.slots.getD z 0):=λz e1 _=>⟨by unfold srcS;rw [e1];rfl,zsb a.so.vals z⟩;apply zgp;by_cases h89:x.Op=8\/x.Op=9
 ·obtain ⟨z,hz,hz2,hz3⟩:=z6w (a.wf.site h89);obtain ⟨cl,hcl⟩:∃ y,(slL e.im.Classes)[z]?=some y:=⟨_,List.getElem?_eq_getElem (by rw [a.eo.g.cls];exact hz2)⟩;have hc:clsT e x=cl:=by unfold clsT;rw [hz3,List.getD_eq_getElem?_getD,hcl];rfl
  have hlt:((z:Nat):Int)<((slL e.im.Classes).length:Int):=by rw [a.eo.g.cls];omega
  have h1:(x.Op == 2)=false:=by simp;omega
  have h2:(x.Op == 3)=false:=by simp;omega
  have h3:(x.Op == 4)=false:=by simp;omega
  have h4:(x.Op == 10)=false:=by simp;omega
  have l0:∀ J:AV->Prop,z0r none (.iptr (encI cl)) h J=J (.int .i64 cl):=λJ=>z8i _ _ _;by_cases ht:(z6p e s x).2=0
  ·have el:loadT e s H x=(zdz H.W e.n (z6p e s x).1,zfj H.W e.n x.N cl (z6p e s x).1):=by unfold loadT;rw [if_neg (by omega),if_neg (by omega),if_neg (by omega),if_neg (by omega),if_pos h89,if_neg (by omega),hc]
   rcases h89 with e1 | e1
   all_goals
    (repeat (first | simp -dsimp -implicitDefEqProofs (disch:=omega) only [↓rP,rA,↓reduceIte,reduceEqDiff,reduceAdd,reduceLeDiff,↓tyr,h1,h2,h3,h4,e1,Int.reduceBEq] | refine Cut.go ?_))
    refine z01.go (a.cells p0 (by omega)) ?_
    (repeat (first | simp -dsimp -implicitDefEqProofs (disch:=omega) only [↓rP,rA,↓reduceIte,reduceEqDiff,reduceAdd,reduceLeDiff,↓tyr,ht,Int.reduceBNe,hz,z02 p1,thC,z03 hcl,↓l0] | refine Cut.go ?_))
    rw [<-hz];refine (PH_Make q _ _ _ _).mono ?_;rintro _ h2 ⟨rfl,r⟩
    (repeat (first | simp -dsimp -implicitDefEqProofs (disch:=omega) only [↓rP,rA,↓reduceIte,reduceEqDiff,reduceAdd,reduceLeDiff,↓tyr,prV] | refine Cut.go ?_))
    rw [el];exact ⟨rfl,r⟩
  ·have el:loadT e s H x=((0,(z6p e s x).2),H.W):=by unfold loadT;rw [if_neg (by omega),if_neg (by omega),if_neg (by omega),if_neg (by omega),if_pos h89,if_pos ht]
   rcases h89 with e1 | e1
   all_goals
    (repeat (first | simp -dsimp -implicitDefEqProofs (disch:=omega) only [↓rP,rA,↓reduceIte,reduceEqDiff,reduceAdd,reduceLeDiff,↓tyr,h1,h2,h3,h4,e1,Int.reduceBEq] | refine Cut.go ?_))
    refine z01.go (a.cells p0 (by omega)) ?_
    (repeat (first | simp -dsimp -implicitDefEqProofs (disch:=omega) only [↓rP,rA,↓reduceIte,reduceEqDiff,reduceAdd,reduceLeDiff,↓tyr] | refine Cut.go ?_))
    exact same _ _ rfl el
 rcases hop with e1 | e1 | e1 | e1 | e1 | e1 | e1
 ·have el:loadT e s H x=(evT e s x.Items,H.W):=by simp [loadT,e1]
  (repeat (first | simp -dsimp -implicitDefEqProofs (disch:=omega) only [↓rP,rA,↓reduceIte,reduceEqDiff,reduceAdd,reduceLeDiff,↓tyr,e1,Int.reduceBEq] | refine Cut.go ?_))
  refine z01.go (a.ev1 p0) ?_
  (repeat (first | simp -dsimp -implicitDefEqProofs (disch:=omega) only [↓rP,rA,↓reduceIte,reduceEqDiff,reduceAdd,reduceLeDiff,↓tyr,prV] | refine Cut.go ?_))
  exact same _ _ rfl el
 ·have el:loadT e s H x=(zfh H.gs x.N,H.W):=by simp [loadT,e1]
  (repeat (first | simp -dsimp -implicitDefEqProofs (disch:=omega) only [↓rP,rA,↓reduceIte,reduceEqDiff,reduceAdd,reduceLeDiff,↓tyr,e1,Int.reduceBEq] | refine Cut.go ?_))
  refine z01.go (zte q x.N) ?_
  (repeat (first | simp -dsimp -implicitDefEqProofs (disch:=omega) only [↓rP,rA,↓reduceIte,reduceEqDiff,reduceAdd,reduceLeDiff,↓tyr,prV] | refine Cut.go ?_))
  exact same _ _ rfl el
 ·obtain ⟨z,hz,hz2,-⟩:=z6w (a.ix.src (by omega));obtain ⟨s1,s2⟩:=srcV z hz hz2;have el:loadT e s H x=(getN H.W (s.slots.getD z 0) x.N,H.W):=by simp [loadT,e1,s1]
  (repeat (first | simp -dsimp -implicitDefEqProofs (disch:=omega) only [↓rP,rA,↓reduceIte,reduceEqDiff,reduceAdd,reduceLeDiff,↓tyr,e1,Int.reduceBEq,z02 p1,thC,hz,zgh p3 (show z<s.slots.length by omega)] | refine Cut.go ?_))
  refine z01.go (PH_Get q _ s2 x.N) ?_
  (repeat (first | simp -dsimp -implicitDefEqProofs (disch:=omega) only [↓rP,rA,↓reduceIte,reduceEqDiff,reduceAdd,reduceLeDiff,↓tyr,prV] | refine Cut.go ?_))
  exact same _ _ rfl el
 ·obtain ⟨z,hz,hz2,-⟩:=z6w (a.ix.src (by omega));obtain ⟨s1,s2⟩:=srcV z hz hz2
  (repeat (first | simp -dsimp -implicitDefEqProofs (disch:=omega) only [↓rP,rA,↓reduceIte,reduceEqDiff,reduceAdd,reduceLeDiff,↓tyr,e1,Int.reduceBEq] | refine Cut.go ?_))
  refine z01.go (a.ev2 p0) ?_;by_cases ht:(evT e s x.Index).2=0
  ·have el:loadT e s H x=(getN H.W (s.slots.getD z 0) (sgN (evT e s x.Index).1),H.W):=by simp [loadT,e1,s1,ht]
   (repeat (first | simp -dsimp -implicitDefEqProofs (disch:=omega) only [↓rP,rA,↓reduceIte,reduceEqDiff,reduceAdd,reduceLeDiff,↓tyr,prV,ht,Int.reduceBNe,z02 p1,thC,hz,zgh p3 (show z<s.slots.length by omega)] | refine Cut.go ?_))
   refine z01.go (PH_Get q _ s2 _) ?_
   (repeat (first | simp -dsimp -implicitDefEqProofs (disch:=omega) only [↓rP,rA,↓reduceIte,reduceEqDiff,reduceAdd,reduceLeDiff,↓tyr,prV] | refine Cut.go ?_))
   exact same _ _ rfl el
  ·have el:loadT e s H x=((0,(evT e s x.Index).2),H.W):=by simp [loadT,e1,ht]
   (repeat (first | simp -dsimp -implicitDefEqProofs (disch:=omega) only [↓rP,rA,↓reduceIte,reduceEqDiff,reduceAdd,reduceLeDiff,↓tyr,prV] | refine Cut.go ?_))
   exact same _ _ rfl el
 ·exact absurd (Or.inl e1) h89
 ·exact absurd (Or.inr e1) h89
 ·obtain ⟨z,hz,hz2,-⟩:=z6w (a.ix.src (by omega));obtain ⟨s1,s2⟩:=srcV z hz hz2;have el:loadT e s H x=(zj1 H.W (s.slots.getD z 0),H.W):=by simp [loadT,e1,s1]
  (repeat (first | simp -dsimp -implicitDefEqProofs (disch:=omega) only [↓rP,rA,↓reduceIte,reduceEqDiff,reduceAdd,reduceLeDiff,↓tyr,e1,Int.reduceBEq,z02 p1,thC,hz,zgh p3 (show z<s.slots.length by omega)] | refine Cut.go ?_))
  refine z01.go (PH_Size q _ s2) ?_;have hw:IntKind.u64.wrap ((zj1 H.W (s.slots.getD z 0)).1:Nat)=((zj1 H.W (s.slots.getD z 0)).1:Nat):=by
   have:(zj1 H.W (s.slots.getD z 0)).1<=16:=by
    unfold zj1;split
    ·exact Nat.zero_le _
    ·rename_i t e;unfold z7e at e;split at e
     ·cases e
     ·exact (ho.cells _ t (List.mem_of_getElem? e)).1
   exact wrapN (by omega) (by omega)
  (repeat (first | simp -dsimp -implicitDefEqProofs (disch:=omega) only [↓rP,rA,↓reduceIte,reduceEqDiff,reduceAdd,reduceLeDiff,↓tyr,hw] | refine Cut.go ?_))
  exact same _ _ rfl el
theorem At.store (a:At e s x) (p:ThA h o k i e s) (q:PH h o m j H) (hop:x.Op=5\/x.Op=6\/x.Op=7):z01 Tryz.prog 46 [.ptr i 0,.ptr j 0,.agg x.cells] h (λv h2=>v=.int .i64 (storeT e s H x).1/\PH h2 o m j (storeT e s H x).2/\Keeps h h2 (λx=>o x=m)):=by
 have p0:=p;obtain ⟨⟨io,sid,av,p1,p2,p3,p4,p5,p6⟩,-,-⟩:=p;have hlen:=a.so.len;have srcV:∀ z:Nat,x.Src=z->z<(slL e.b.Slots).length->srcS s x=s.slots.getD z 0/\okN (s.slots.getD z 0):=λz e1 _=>⟨by unfold srcS;rw [e1];rfl,zsb a.so.vals z⟩;have ww:IntKind.i64.wrap (IntKind.u64.wrap x.N)=x.N:=by
  have hn:okI x.N:=a.ok.2.2.2.2.1;unfold okI at hn;rw [z9f,IntKind.wrap_i64];omega
 have same:∀ (v:AV) (r:Int),v=.int .i64 r->storeT e s H x=(r,H)->v=.int .i64 (storeT e s H x).1/\PH h o m j (storeT e s H x).2/\Keeps h h (λx=>o x=m):=λv r e1 e2=>by
  rw [e2];exact ⟨e1,q,.refl _ _⟩
 apply zf6;rcases hop with e1 | e1 | e1
 ·(repeat (first | simp -dsimp -implicitDefEqProofs (disch:=omega) only [↓rP,rA,↓reduceIte,reduceEqDiff,reduceAdd,reduceLeDiff,↓tyr,e1,Int.reduceBEq] | refine Cut.go ?_))
  refine z01.go (a.ev1 p0) ?_;by_cases ht:(evT e s x.Items).2=0
  ·have el:storeT e s H x=((zfh H.gs x.N).2,⟨H.W,if (zfh H.gs x.N).2=0 then H.gs.set x.N.toNat (evT e s x.Items).1 else H.gs⟩):=by simp [storeT,e1,ht]
   (repeat (first | simp -dsimp -implicitDefEqProofs (disch:=omega) only [↓rP,rA,↓reduceIte,reduceEqDiff,reduceAdd,reduceLeDiff,↓tyr,prV,ht,Int.reduceBNe,e1,Int.reduceBEq] | refine Cut.go ?_))
   refine (ztf q x.N _).mono ?_;rintro _ h2 ⟨rfl,r⟩
   (repeat (first | simp -dsimp -implicitDefEqProofs (disch:=omega) only [↓rP,rA,↓reduceIte,reduceEqDiff,reduceAdd,reduceLeDiff,↓tyr] | refine Cut.go ?_))
   rw [el];exact ⟨rfl,r⟩
  ·have el:storeT e s H x=((evT e s x.Items).2,H):=by simp [storeT,e1,ht]
   (repeat (first | simp -dsimp -implicitDefEqProofs (disch:=omega) only [↓rP,rA,↓reduceIte,reduceEqDiff,reduceAdd,reduceLeDiff,↓tyr,prV] | refine Cut.go ?_))
   exact same _ _ rfl el
 ·obtain ⟨z,hz,hz2,-⟩:=z6w (a.ix.src (by omega));obtain ⟨s1,s2⟩:=srcV z hz hz2
  (repeat (first | simp -dsimp -implicitDefEqProofs (disch:=omega) only [↓rP,rA,↓reduceIte,reduceEqDiff,reduceAdd,reduceLeDiff,↓tyr,e1,Int.reduceBEq] | refine Cut.go ?_))
  refine z01.go (a.ev1 p0) ?_;by_cases ht:(evT e s x.Items).2=0
  ·have el:storeT e s H x=(setV H.W (s.slots.getD z 0) x.N,⟨setW H.W (s.slots.getD z 0) x.N (evT e s x.Items).1,H.gs⟩):=by simp [storeT,e1,ht,s1]
   (repeat (first | simp -dsimp -implicitDefEqProofs (disch:=omega) only [↓rP,rA,↓reduceIte,reduceEqDiff,reduceAdd,reduceLeDiff,↓tyr,prV,ht,Int.reduceBNe,e1,Int.reduceBEq,z02 p1,thC,hz,zgh p3 (show z<s.slots.length by omega),ww] | refine Cut.go ?_))
   refine (PH_Set q _ s2 x.N _).mono ?_;rintro _ h2 ⟨rfl,r⟩
   (repeat (first | simp -dsimp -implicitDefEqProofs (disch:=omega) only [↓rP,rA,↓reduceIte,reduceEqDiff,reduceAdd,reduceLeDiff,↓tyr] | refine Cut.go ?_))
   rw [el];exact ⟨rfl,r⟩
  ·have el:storeT e s H x=((evT e s x.Items).2,H):=by simp [storeT,e1,ht]
   (repeat (first | simp -dsimp -implicitDefEqProofs (disch:=omega) only [↓rP,rA,↓reduceIte,reduceEqDiff,reduceAdd,reduceLeDiff,↓tyr,prV] | refine Cut.go ?_))
   exact same _ _ rfl el
 ·obtain ⟨z,hz,hz2,-⟩:=z6w (a.ix.src (by omega));obtain ⟨s1,s2⟩:=srcV z hz hz2
  (repeat (first | simp -dsimp -implicitDefEqProofs (disch:=omega) only [↓rP,rA,↓reduceIte,reduceEqDiff,reduceAdd,reduceLeDiff,↓tyr,e1,Int.reduceBEq] | refine Cut.go ?_))
  refine z01.go (a.ev2 p0) ?_;by_cases ht2:(evT e s x.Index).2=0
  ·(repeat (first | simp -dsimp -implicitDefEqProofs (disch:=omega) only [↓rP,rA,↓reduceIte,reduceEqDiff,reduceAdd,reduceLeDiff,↓tyr,prV,ht2,Int.reduceBNe] | refine Cut.go ?_))
   refine z01.go (a.ev1 p0) ?_;by_cases ht:(evT e s x.Items).2=0
   ·have el:storeT e s H x=(setV H.W (s.slots.getD z 0) (sgN (evT e s x.Index).1),⟨setW H.W (s.slots.getD z 0) (sgN (evT e s x.Index).1) (evT e s x.Items).1,H.gs⟩):=by simp [storeT,e1,ht,ht2,s1]
    (repeat (first | simp -dsimp -implicitDefEqProofs (disch:=omega) only [↓rP,rA,↓reduceIte,reduceEqDiff,reduceAdd,reduceLeDiff,↓tyr,prV,ht,Int.reduceBNe,e1,Int.reduceBEq,z02 p1,thC,hz,zgh p3 (show z<s.slots.length by omega)] | refine Cut.go ?_))
    refine (PH_Set q _ s2 _ _).mono ?_;rintro _ h2 ⟨rfl,r⟩
    (repeat (first | simp -dsimp -implicitDefEqProofs (disch:=omega) only [↓rP,rA,↓reduceIte,reduceEqDiff,reduceAdd,reduceLeDiff,↓tyr] | refine Cut.go ?_))
    rw [el];exact ⟨rfl,r⟩
   ·have el:storeT e s H x=((evT e s x.Items).2,H):=by simp [storeT,e1,ht,ht2]
    (repeat (first | simp -dsimp -implicitDefEqProofs (disch:=omega) only [↓rP,rA,↓reduceIte,reduceEqDiff,reduceAdd,reduceLeDiff,↓tyr,prV] | refine Cut.go ?_))
    exact same _ _ rfl el
  ·have el:storeT e s H x=((evT e s x.Index).2,H):=by simp [storeT,e1,ht2]
   (repeat (first | simp -dsimp -implicitDefEqProofs (disch:=omega) only [↓rP,rA,↓reduceIte,reduceEqDiff,reduceAdd,reduceLeDiff,↓tyr,prV] | refine Cut.go ?_))
   exact same _ _ rfl el
theorem At.goes {s':Ts} (a:At e s x) (p:ThA h o k i e s') (h14:x.Op=14->s'=s) (hp:s'.pc=s.pc):z01 Tryz.prog 32 [.ptr i 0,.agg x.cells] h (λv h2=>v=.tup [.int .i64 (z9i e s' x).1,.int .i64 (z9i e s' x).2]/\h2=h):=by
 have p0:=p;obtain ⟨⟨io,sid,av,p1,p2,p3,p4,p5,p6⟩,-,-⟩:=p;have hpc:s'.pc<256:=by rw [hp];exact Nat.lt_of_lt_of_le a.so.pc ((zf7 a.eo.g.code).slo _ _ a.eo.bd).2
 apply zgo;unfold z9i;by_cases e1:x.Op=13
 ·rw [if_pos e1]
  (repeat (first | simp -dsimp -implicitDefEqProofs (disch:=omega) only [↓rP,rA,↓reduceIte,reduceEqDiff,reduceAdd,reduceLeDiff,↓tyr,e1,Int.reduceBEq] | refine Cut.go ?_))
 rw [if_neg e1];by_cases e2:x.Op=14
 ·obtain rfl:=h14 e2
  (repeat (first | simp -dsimp -implicitDefEqProofs (disch:=omega) only [↓rP,rA,↓reduceIte,reduceEqDiff,reduceAdd,reduceLeDiff,↓tyr,e2,Int.reduceBEq] | refine Cut.go ?_))
  refine z01.go (a.ev1 p0) ?_;by_cases hv:(evT e s' x.Items).1=0
  ·have h0:(((evT e s' x.Items).1:Nat):Int)=0:=by omega
   rw [if_pos ⟨e2,hv⟩]
   (repeat (first | simp -dsimp -implicitDefEqProofs (disch:=omega) only [↓rP,rA,↓reduceIte,reduceEqDiff,reduceAdd,reduceLeDiff,↓tyr,prV,h0,Int.reduceBEq] | refine Cut.go ?_))
  ·rw [if_neg (by simp [hv])]
   (repeat (first | simp -dsimp -implicitDefEqProofs (disch:=omega) only [↓rP,rA,↓reduceIte,reduceEqDiff,reduceAdd,reduceLeDiff,↓tyr,prV,z02 p1,thC,wkP s'.pc (by omega)] | refine Cut.go ?_))
 ·rw [if_neg (by simp [e2])]
  (repeat (first | simp -dsimp -implicitDefEqProofs (disch:=omega) only [↓rP,rA,↓reduceIte,reduceEqDiff,reduceAdd,reduceLeDiff,↓tyr,z02 p1,thC,wkP s'.pc (by omega)] | refine Cut.go ?_))
end
end
section
open Go.Abs
section
variable {h:z00} {o:z2d} {k m i j:Nat} {e:Ev} {s:Ts} {H:Hs} {x:In} {io:Option (List Int)} {sid:Nat} {av:AV}
def StepT (h:z00) (o:z2d) (k m i j:Nat) (e:Ev) (r:Ts×Hs) (h2:z00):Prop:=∃ o2,Agr h o o2/\ThA h2 o2 k i e r.1/\PH h2 o2 m j r.2/\Keeps h h2 (λx=>o x=k\/o x=m)
theorem StepT.same (p:ThA h o k i e s) (q:PH h o m j H):StepT h o k m i j e (s,H) h:=⟨o,.refl _ _,p,q,.refl _ _⟩
theorem bslT (a:Int) (b:Bool) (c:Int) (G:z00) (J:AV->z00->Prop):z0j true { e:=72,sz:=3,by_:=24 } [AV.int .i64 0,.bool false,.int .u64 0] 1 [(0,.agg [.int .i64 a,.bool b,.int .u64 c])] G J=J (.isl 3 [[.int .i64 a,.bool b,.int .u64 c]]) G:=by
 simp [z0j,z90,AV.fits,AV.cells,List.replicate]
theorem pr_app {out:List Td} (p:PrAt h o k av out) (hl:out.length<=5000) (t:Td) (J:AV->z00->Prop)
  (hJ:∀ av2 h2,PrAt h2 (newO h o k) k av2 (out++[t])->av2.zdy=true->Keeps h h2 (λx=>o x=k)->(∀ y ty cs,y<h.next->h.objs y=some (.row ty cs)->h2.objs y=some (.row ty cs))->J av2 h2):z0z true { e:=72,sz:=3,by_:=24 } av (.isl 3 [t.cells]) h J:=by
 have hbd:∀ n,n<=5001->bounded { e:=72,sz:=3,by_:=24 } n:=λn hn=>by simp only [bounded,maxLen];omega
 rcases p with ⟨rfl,rfl⟩ | ⟨hne,g,rfl,ho,hk,hg⟩
 ·have:=hJ (.gsl h.next 3 [t.cells]) (h.push (.tok 72 (1*3))) (Or.inr ⟨by simp,h.next,rfl,z0w _ _,z3e (Nat.le_refl _),Nat.lt_succ_self _⟩) rfl ((Keeps.one _ _).mono (λ_ e=>e.elim)) (λy ty cs hy e=>by rw [z1h hy];exact e);simp only [z0z,z10,if_true,zac];exact ⟨hbd _ (by simp),this⟩
 ·have:=hJ (.gsl h.next 3 (out.map z11.cells++[t.cells])) ((h.kill g).push (.tok 72 ((out++[t]).length*3))) (Or.inr ⟨by simp,h.next,by simp,z0w (h.kill g) _,z3e (Nat.le_refl _),Nat.lt_succ_self _⟩) rfl (((Keeps.kill h g).mono (λy e=>by rw [e];exact hk)).zg9 _) (λy ty cs hy e=>by
   have hne:y≠g:=λq=>by rw [q,ho] at e;cases e
   rw [z1h (h:=h.kill g) hy,zsj hne];exact e)
  simp only [z0z,z10,if_true,ho,List.length_map,List.length_cons,List.length_nil,true_and];refine ⟨hbd _ (by omega),?_⟩;simpa using this
theorem At.act (a:At e s x) (p:ThA h o k i e s) (q:PH h o m j H) (ho:HOk H) (km:k≠m):z01 Tryz.prog 31 [.ptr i 0,.ptr j 0,.agg x.cells] h (λv h2=>v=.int .i64 (actT e s H x).1/\StepT h o k m i j e (actT e s H x).2 h2):=by
 have p0:=p;obtain ⟨⟨io,sid,av,p1,p2,p3,p4,p5,p6⟩,p7,p8⟩:=p;have same:∀ (v:AV) (r:Int),v=.int .i64 r->actT e s H x=(r,s,H)->v=.int .i64 (actT e s H x).1/\StepT h o k m i j e (actT e s H x).2 h:=λv r e1 e2=>by
  rw [e2];exact ⟨e1,StepT.same p0 q⟩
 apply zhu;by_cases c1:x.Op=5\/x.Op=6\/x.Op=7
 ·have el:actT e s H x=((storeT e s H x).1,s,(storeT e s H x).2):=by unfold actT;rw [if_pos c1]
  have st:=a.store p0 q c1;rcases c1 with e1 | e1 | e1
  all_goals
   (repeat (first | simp -dsimp -implicitDefEqProofs (disch:=omega) only [↓rP,rA,↓reduceIte,reduceEqDiff,reduceAdd,reduceLeDiff,↓tyr,e1,Int.reduceBEq] | refine Cut.go ?_))
   refine st.mono ?_;rintro _ h2 ⟨rfl,r,kp⟩
   (repeat (first | simp -dsimp -implicitDefEqProofs (disch:=omega) only [↓rP,rA,↓reduceIte,reduceEqDiff,reduceAdd,reduceLeDiff,↓tyr] | refine Cut.go ?_))
   rw [el];exact ⟨rfl,o,.refl _ _,p0.frame kp (.refl _ _) (λy e1 e2=>km (e1.symm.trans e2)),r,kp.mono (λy e=>Or.inr e)⟩
 have n5:(x.Op == 5)=false:=by simp;omega
 have n6:(x.Op == 6)=false:=by simp;omega
 have n7:(x.Op == 7)=false:=by simp;omega
 by_cases c2:x.Op=11\/x.Op=12
 ·have key:∀ b:Bool,decide (x.Op=12)=b->∀ J:AV->z00->Prop,True:=λ_ _ _=>trivial;by_cases ht:(evT e s x.Items).2=0
  ·have el:actT e s H x=(0,{ s with out:=s.out++[⟨e.n,decide (x.Op=12),(evT e s x.Items).1⟩] },H):=by unfold actT;rw [if_neg c1,if_pos c2,if_pos ht]
   have hst:=a.so.out;have hmd:=a.so.made;have fin:∀ av2 h2,PrAt h2 (newO h o k) k av2 (s.out++[⟨e.n,decide (x.Op=12),(evT e s x.Items).1⟩])->Keeps h h2 (λx=>o x=k)->(∀ y ty cs,y<h.next->h.objs y=some (.row ty cs)->h2.objs y=some (.row ty cs))->StepT h o k m i j e (actT e s H x).2 (h2.put i (.row 83 ((z6x e io s sid av).set 16 av2))):=λav2 h2 r1 r2 r3=>by
    have hi2:i<h2.next:=Nat.lt_of_lt_of_le p8 r2.next;have ag:=z2h h o k;have hsi:sid≠i:=λq=>by rw [q,p1] at p3;cases p3
    have kq:Keeps h2 (h2.put i (.row 83 ((z6x e io s sid av).set 16 av2))) (λy=>y=i):=Keeps.put _ _ _;rw [el];refine ⟨newO h o k,ag,⟨⟨io,sid,av2,z2w _ _ _,p2,by rw [z1i hsi];exact r3 _ _ _ p5 p3,by rw [ag _ p5];exact p4,Nat.lt_of_lt_of_le p5 r2.next,?_⟩,by rw [ag _ p8];exact p7,hi2⟩,?_,?_⟩
    ·rcases r1 with r1 | ⟨r1,g,r4,r5,r6,r7⟩
     ·exact Or.inl r1
     ·have hgi:g≠i:=λq=>by rw [q,r3 _ _ _ p8 p1] at r5;cases r5
      exact Or.inr ⟨r1,g,r4,by rw [z1i hgi];exact r5,r6,r7⟩
    ·exact (q.frame r2 ag (λy e1 e2=>km (e2.symm.trans e1))).frame kq (.refl _ _) (λy e1 e2=>km (by rw [e2,ag _ p8] at e1;exact p7.symm.trans e1))
    ·exact (r2.trans kq (λy hy e=>by rw [e];exact p7)).mono (λy e=>Or.inl e)
   have hlen:(z6x e io s sid av).length=17:=rfl;rcases c2 with e1 | e1
   all_goals
    (repeat (first | simp -dsimp -implicitDefEqProofs (disch:=omega) only [↓rP,rA,↓reduceIte,reduceEqDiff,reduceAdd,reduceLeDiff,↓tyr,n5,n6,n7,e1,Int.reduceBEq] | refine Cut.go ?_))
    refine z01.go (a.ev1 p0) ?_
    (repeat (first | simp -dsimp -implicitDefEqProofs (disch:=omega) only [↓rP,rA,↓reduceIte,reduceEqDiff,reduceAdd,reduceLeDiff,↓tyr,prV,ht,Int.reduceBEq,z02 p1,thC,e1,bslT] | refine Cut.go ?_))
    simp only [e1] at fin;refine pr_app p6 (by omega) ⟨e.n,_,(evT e s x.Items).1⟩ _ λav2 h2 r1 r0 r2 r3=>?_;have st:∀ J:z00->Prop,z1d 1 (.ptr i 16) av2 h2 J=J (h2.put i (.row 83 ((z6x e io s sid av).set 16 av2))):=λJ=>z1g (r3 _ _ _ p8 p1) r0 (by rw [hlen];decide) J
    (repeat (first | simp -dsimp -implicitDefEqProofs (disch:=omega) only [↓rP,rA,↓reduceIte,reduceEqDiff,reduceAdd,reduceLeDiff,↓tyr,st] | refine Cut.go ?_))
    rw [show (actT e s H x).1=0 by rw [el]];exact ⟨rfl,fin av2 h2 r1 r2 r3⟩
  ·have el:actT e s H x=((evT e s x.Items).2,s,H):=by unfold actT;rw [if_neg c1,if_pos c2,if_neg ht]
   rcases c2 with e1 | e1
   all_goals
    (repeat (first | simp -dsimp -implicitDefEqProofs (disch:=omega) only [↓rP,rA,↓reduceIte,reduceEqDiff,reduceAdd,reduceLeDiff,↓tyr,n5,n6,n7,e1,Int.reduceBEq] | refine Cut.go ?_))
    refine z01.go (a.ev1 p0) ?_
    (repeat (first | simp -dsimp -implicitDefEqProofs (disch:=omega) only [↓rP,rA,↓reduceIte,reduceEqDiff,reduceAdd,reduceLeDiff,↓tyr,prV] | refine Cut.go ?_))
    exact same _ _ rfl el
 have n11:(x.Op == 11)=false:=by simp;omega
 have n12:(x.Op == 12)=false:=by simp;omega
 have wr:z01 Tryz.prog 48 [.agg x.cells] h (λv h2=>v=.int .i64 (dstI x)/\h2=h):=zms x h
 (repeat (first | simp -dsimp -implicitDefEqProofs (disch:=omega) only [↓rP,rA,↓reduceIte,reduceEqDiff,reduceAdd,reduceLeDiff,↓tyr,n5,n6,n7,n11,n12] | refine Cut.go ?_))
 refine z01.go wr ?_;by_cases c3:0<=dstI x
 ·have hop:x.Op=1\/x.Op=2\/x.Op=3\/x.Op=4\/x.Op=8\/x.Op=9\/x.Op=10:=by
   unfold dstI at c3;split at c3
   ·assumption
   ·omega
  have hd:dstI x=x.Dst:=by unfold dstI;rw [if_pos hop]
  obtain ⟨z,hz,hz2,hz3⟩:=z6w (a.wf.dst hop);have hlen:=a.so.len
  (repeat (first | simp -dsimp -implicitDefEqProofs (disch:=omega) only [↓rP,rA,↓reduceIte,reduceEqDiff,reduceAdd,reduceLeDiff,↓tyr] | refine Cut.go ?_))
  refine (a.load p0 q ho hop).mono ?_;rintro _ h2 ⟨rfl,o2,ag,r,kp⟩;have p9:ThA h2 o2 k i e s:=p0.frame kp ag (λy e1 e2=>km (e1.symm.trans e2));by_cases ht:(loadT e s H x).1.2=0
  ·have el:actT e s H x=(0,{ s with slots:=s.slots.set z (loadT e s H x).1.1 },⟨(loadT e s H x).2,H.gs⟩):=by unfold actT;rw [if_neg c1,if_neg c2,if_pos c3,if_pos ht,hd,hz3]
   obtain ⟨⟨io',sid',av',r1,r2,r3,r4,r5,r6⟩,r7,r8⟩:=p9;obtain ⟨i1,-⟩:=zgh r3 (show z<s.slots.length by omega);have st:∀ J:z00->Prop,z1d 1 (.ptr sid' z) (.int .u64 ((loadT e s H x).1.1:Nat)) h2 J=J (h2.put sid' (.row 65 (z0u (s.slots.set z (loadT e s H x).1.1)))):=λJ=>by
    rw [z1g r3 rfl (by simp [z0u];omega),z7q]
   have hsi:i≠sid':=λq=>by rw [<-q,r1] at r3;cases r3
   (repeat (first | simp -dsimp -implicitDefEqProofs (disch:=omega) only [↓rP,rA,↓reduceIte,reduceEqDiff,reduceAdd,reduceLeDiff,↓tyr,prV,ht,Int.reduceBEq,z02 r1,thC,hd,hz,i1,st] | refine Cut.go ?_))
   rw [el];have kq:Keeps h2 (h2.put sid' (.row 65 (z0u (s.slots.set z (loadT e s H x).1.1)))) (λy=>y=sid'):=Keeps.put _ _ _;refine ⟨rfl,o2,ag,⟨⟨io',sid',av',?_,r2,z2w _ _ _,r4,r5,?_⟩,r7,r8⟩,?_,?_⟩
   ·rw [z1i hsi,r1];simp [z6x]
   ·rcases r6 with r6 | ⟨r6,g,q4,q5,q6,q7⟩
    ·exact Or.inl r6
    ·have hgi:g≠sid':=λq=>by rw [q,r3] at q5;cases q5
     exact Or.inr ⟨r6,g,q4,by rw [z1i hgi];exact q5,q6,q7⟩
   ·exact r.frame kq (.refl _ _) (λy e1 e2=>km (by rw [e2] at e1;exact r4.symm.trans e1))
   ·exact (kp.mono (λy e=>Or.inr e)).trans kq (λy hy e=>Or.inl (by rw [<-ag y hy,e];exact r4))
  ·have el:actT e s H x=((loadT e s H x).1.2,s,⟨(loadT e s H x).2,H.gs⟩):=by unfold actT;rw [if_neg c1,if_neg c2,if_pos c3,if_neg ht]
   (repeat (first | simp -dsimp -implicitDefEqProofs (disch:=omega) only [↓rP,rA,↓reduceIte,reduceEqDiff,reduceAdd,reduceLeDiff,↓tyr,prV] | refine Cut.go ?_))
   rw [el];exact ⟨rfl,o2,ag,p9,r,kp.mono (λy e=>Or.inr e)⟩
 ·have el:actT e s H x=(0,s,H):=by unfold actT;rw [if_neg c1,if_neg c2,if_neg c3]
  (repeat (first | simp -dsimp -implicitDefEqProofs (disch:=omega) only [↓rP,rA,↓reduceIte,reduceEqDiff,reduceAdd,reduceLeDiff,↓tyr] | refine Cut.go ?_))
  exact same _ _ rfl el
theorem actT_pc:(actT e s H x).2.1.pc=s.pc/\(actT e s H x).2.1.made=s.made:=by
 unfold actT;split
 ·exact ⟨rfl,rfl⟩
 split
 ·split <;> exact ⟨rfl,rfl⟩
 split
 ·split <;> exact ⟨rfl,rfl⟩
 ·exact ⟨rfl,rfl⟩
theorem zqt (a:At e s x):doT e s H=if x.Op=17 then (0,s,H) else if e.b.Most<=(s.made:Nat) then (6,s,H) else if (actT e s H x).1≠0 then actT e s H x else if (z9i e (actT e s H x).2.1 x).2≠0 then ((z9i e (actT e s H x).2.1 x).2,(actT e s H x).2) else (0,{ (actT e s H x).2.1 with pc:=(z9i e (actT e s H x).2.1 x).1.toNat,made:=s.made+1 },(actT e s H x).2.2):=by
 unfold doT;rw [a.hx]
theorem zrq (eo:EOk e) (so:TOk e s) (ho:HOk H) (p:ThA h o k i e s) (q:PH h o m j H) (km:k≠m):z01 Tryz.prog 14 [.ptr i 0,.ptr j 0] h (λv h2=>v=.int .i64 (doT e s H).1/\StepT h o k m i j e (doT e s H).2 h2):=by
 obtain ⟨x,a⟩:=at_of eo so;have p0:=p;obtain ⟨⟨io,sid,av,p1,p2,p3,p4,p5,p6⟩,p7,p8⟩:=p;rw [zqt a];apply zj2;refine z01.go (zl9 p0 a) ?_;by_cases h17:x.Op=17
 ·rw [if_pos h17];have e1:decide (x.Op=17)=true:=decide_eq_true h17
  (repeat (first | simp -dsimp -implicitDefEqProofs (disch:=omega) only [↓rP,rA,↓reduceIte,reduceEqDiff,reduceAdd,reduceLeDiff,↓tyr,e1] | refine Cut.go ?_))
  exact StepT.same p0 q
 have e1:decide (x.Op=17)=false:=decide_eq_false h17;rw [if_neg h17];by_cases hm:e.b.Most<=(s.made:Nat)
 ·rw [if_pos hm]
  (repeat (first | simp -dsimp -implicitDefEqProofs (disch:=omega) only [↓rP,rA,↓reduceIte,reduceEqDiff,reduceAdd,reduceLeDiff,↓tyr,e1,z02 p1,thC] | refine Cut.go ?_))
  exact StepT.same p0 q
 rw [if_neg hm];obtain ⟨H1,hH1⟩:∃ H1,H1=h.push (.row 56 x.cells):=⟨_,rfl⟩;have k1:Keeps h H1 (λ_=>False):=by rw [hH1];exact Keeps.one _ _
 obtain ⟨o1,ho1⟩:∃ o1,o1=newO h o (k+m+1):=⟨_,rfl⟩;have ag1:Agr h o o1:=by rw [ho1];exact z2h _ _ _
 have on:o1 h.next=k+m+1:=by rw [ho1];exact z3e (Nat.le_refl _)
 have pa:=p0.frame k1 ag1 (λ_ _ e=>e);have qa:=q.frame k1 ag1 (λ_ _ e=>e);have ob:H1.objs h.next=some (.row 56 x.cells):=by rw [hH1];exact z0w _ _
 have hn:h.next<H1.next:=by rw [hH1];exact Nat.lt_succ_self _
 have lx:∀ J:AV->Prop,z0r (some 8) (.ptr h.next 0) H1 J=J (.agg x.cells):=λJ=>by rw [z02 ob];exact z0a.call x J
 (repeat (first | simp -dsimp -implicitDefEqProofs (disch:=omega) only [↓rP,rA,↓reduceIte,reduceEqDiff,reduceAdd,reduceLeDiff,↓tyr,e1,z02 p1,thC] | refine Cut.go ?_))
 refine z01.go (znv p0 a) ?_
 (repeat (first | simp -dsimp -implicitDefEqProofs (disch:=omega) only [↓rP,rA,↓reduceIte,reduceEqDiff,reduceAdd,reduceLeDiff,↓tyr] | refine Cut.go ?_))
 rw [<-hH1];refine (a.act pa qa ho km).mono ?_;rintro _ h2 ⟨rfl,o2,ag2,r1,r2,k2⟩;have agf:Agr h o o2:=ag1.trans k1.next ag2;have kf:Keeps h h2 (λx=>o x=k\/o x=m):=(k1.mono (λ_ e=>e.elim)).trans k2 (λy hy e=>by rw [ag1 y hy] at e;exact e);by_cases ht:(actT e s H x).1=0
 ·rw [if_neg (by simp [ht])];have ob2:h2.objs h.next=some (.row 56 x.cells):=by rw [k2.objs _ hn (by omega)];exact ob
  have lx2:∀ J:AV->Prop,z0r (some 8) (.ptr h.next 0) h2 J=J (.agg x.cells):=λJ=>by rw [z02 ob2];exact z0a.call x J
  (repeat (first | simp -dsimp -implicitDefEqProofs (disch:=omega) only [↓rP,rA,↓reduceIte,reduceEqDiff,reduceAdd,reduceLeDiff,↓tyr,ht,Int.reduceBNe,↓lx2] | refine Cut.go ?_))
  refine z01.go (a.goes r1 (λq=>by rw [znz q]) actT_pc.1) ?_;by_cases hg:(z9i e (actT e s H x).2.1 x).2=0
  ·rw [if_neg (by simp [hg])];obtain ⟨t,et,et2⟩:∃ t:Nat,(z9i e (actT e s H x).2.1 x).1=t/\(z9i e (actT e s H x).2.1 x).1.toNat=t:=by
    unfold z9i;split
    ·obtain ⟨z,hz,-,hz2⟩:=z6w (a.ix.to_ (by omega));exact ⟨z,hz,hz2⟩
    split
    ·obtain ⟨z,hz,-,hz2⟩:=z6w (a.ix.to_ (by omega));exact ⟨z,hz,hz2⟩
    ·exact ⟨_,rfl,rfl⟩
   have hmd:=(actT_pc (e:=e) (s:=s) (H:=H) (x:=x)).2;have hms:=so.made;rw [et2];generalize (actT e s H x).2.1=s' at *;obtain ⟨⟨io',sid',av',q1,q2,q3,q4,q5,q6⟩,q7,q8⟩:=r1;have hlen:(z6x e io' s' sid' av').length=17:=rfl;obtain ⟨R1,hR1⟩:∃ R,R=AObj.row 83 (z6x e io' { s' with pc:=t } sid' av'):=⟨_,rfl⟩;obtain ⟨R2,hR2⟩:∃ R,R=AObj.row 83 (z6x e io' { s' with pc:=t,made:=s.made+1 } sid' av'):=⟨_,rfl⟩;have st1:∀ J:z00->Prop,z1d 1 (.ptr i 14) (.int .i64 (t:Nat)) h2 J=J (h2.put i R1):=λJ=>by rw [z1g q1 rfl (by rw [hlen];decide),hR1];rfl
   have o1':(h2.put i R1).objs i=some (.row 83 (z6x e io' { s' with pc:=t } sid' av')):=by rw [z2w,hR1]
   have st2:∀ J:z00->Prop,z1d 1 (.ptr i 15) (.int .i64 ((s.made+1:Nat):Int)) (h2.put i R1) J=J ((h2.put i R1).put i R2):=λJ=>by rw [z1g o1' rfl (show (15:Nat)<17 by decide),hR2];rfl
   have kq:Keeps h2 ((h2.put i R1).put i R2) (λy=>y=i):=(Keeps.put _ _ _).trans (Keeps.put _ _ _) (λ_ _ e=>e);have hsi:sid'≠i:=λq=>by rw [q,q1] at q3;cases q3
   (repeat (first | simp -dsimp -implicitDefEqProofs (disch:=omega) only [↓rP,rA,↓reduceIte,reduceEqDiff,reduceAdd,reduceLeDiff,↓tyr,hg,Int.reduceBNe,et,st1,z02 o1',thC,hmd,wkP s.made (by omega),st2] | refine Cut.go ?_))
   refine ⟨o2,agf,⟨⟨io',sid',av',by rw [z2w,hR2],q2,by rw [z1i hsi,z1i hsi];exact q3,q4,q5,?_⟩,q7,q8⟩,?_,?_⟩
   ·rcases q6 with q6 | ⟨q6,g,z4,z5,z6,z7⟩
    ·exact Or.inl q6
    ·have hgi:g≠i:=λq=>by rw [q,q1] at z5;cases z5
     exact Or.inr ⟨q6,g,z4,by rw [z1i hgi,z1i hgi];exact z5,z6,z7⟩
   ·exact r2.frame kq (.refl _ _) (λy e1 e2=>km (by rw [e2] at e1;exact q7.symm.trans e1))
   ·exact kf.trans kq (λy hy e=>Or.inl (by rw [e];exact p7))
  ·rw [if_pos hg]
   (repeat (first | simp -dsimp -implicitDefEqProofs (disch:=omega) only [↓rP,rA,↓reduceIte,reduceEqDiff,reduceAdd,reduceLeDiff,↓tyr] | refine Cut.go ?_))
   exact ⟨o2,agf,r1,r2,kf⟩
 ·rw [if_pos ht]
  (repeat (first | simp -dsimp -implicitDefEqProofs (disch:=omega) only [↓rP,rA,↓reduceIte,reduceEqDiff,reduceAdd,reduceLeDiff,↓tyr] | refine Cut.go ?_))
  exact ⟨o2,agf,r1,r2,kf⟩
end
end
section
open Go.Abs
theorem zrp (u:Option (List Int)) (hb:(slL u).length<=1000) (h:z00):z01 Tryz.prog 29 [slAV 1 encI u] h (λv h2=>(∃ o,v=slAV 1 encI o/\slL o=slL u)/\h2=h):=by
 refine z01.result (enc:=λo:Option (List Int)=>slAV 1 encI o) (Q:=λo=>slL o=slL u) (λo _=>zgv _ o) ((Clone_raw u hb h).mono ?_);rintro v h2 (⟨h0,hv,rfl⟩ | ⟨h0,rfl,rfl⟩)
 ·refine ⟨λ_=>False,some [],h0.symm,?_,λ_ e=>e.elim,.refl _ _⟩;rcases hv with rfl | rfl
  ·exact rz_nils 1
  ·exact rz_eml 1
 ·exact ⟨λ_=>False,some (slL u),rfl,RzV.gsl (by simp;omega) (RzE.same _ _),λ_ e=>e.elim,Keeps.one _ _⟩
theorem zy5 {h:z00} {id:Nat} {vs:List Nat} (ho:h.objs id=some (.row 65 (z0u vs))) (hl:vs.length<=1000):z01 Tryz.prog 30 [.sl id 0 vs.length 1] h (λv h2=>(∃ o,v=slAV 1 encN o/\slL o=vs)/\h2=h):=by
 refine z01.result (enc:=λo:Option (List Nat)=>slAV 1 encN o) (Q:=λo=>slL o=vs) (λo _=>zxa _ o) ?_;have hs:z10 1 (.sl id 0 vs.length 1) h=some (vs.map encN):=by
  simp [z10,ho,chunk_one (z0u vs) vs.length (by simp [z0u])];simp [z0u,encN]
 have e:binA CmpK.slice BinOp.eql (.sl id 0 vs.length 1) AV.nils=some (.bool false):=rfl;have b0:∀ (G:z00) (K:AV->z00->Prop),z0j false { e:=65,sz:=1,by_:=8 } [AV.int .u64 0] 0 [] G K=K .eml G:=λG K=>rfl;apply z9l
 (repeat simp -dsimp -implicitDefEqProofs (disch:=omega) only [↓rP,rA,↓reduceIte,reduceEqDiff,reduceAdd,reduceLeDiff,↓tyr,e,↓b0])
 simp only [z0z,hs]
 cases vs with
 | nil=>exact ⟨λ_=>False,some [],rfl,rz_eml 1,λ_ e=>e.elim,.refl _ _⟩
 | cons a vs=>
  simp only [List.map_cons,zac,if_true];refine ⟨by simp [bounded,maxLen] at hl ⊢;omega,?_⟩
  (repeat simp -dsimp -implicitDefEqProofs (disch:=omega) only [↓rP,rA,↓reduceIte,reduceEqDiff,reduceAdd,reduceLeDiff,↓tyr])
  exact ⟨λ_=>False,some (a::vs),rfl,RzV.gsl (by simp at hl ⊢;omega) (RzE.same _ _),λ_ e=>e.elim,Keeps.one _ _⟩
section
variable {h:z00} {o:z2d} {k m i j:Nat} {e:Ev} {s:Ts} {H:Hs} {x:In}
theorem zlc (p:ThA h o k i e s) (hl:s.slots.length<=64):z01 Tryz.prog 13 [.ptr i 0] h (λv h2=>(∃ o,v=slAV 1 encN o/\slL o=s.slots)/\h2=h):=by
 obtain ⟨⟨io,sid,av,p1,p2,p3,p4,p5,p6⟩,-,-⟩:=p;apply zf4
 (repeat simp -dsimp -implicitDefEqProofs (disch:=omega) only [↓rP,rA,↓reduceIte,reduceEqDiff,reduceAdd,reduceLeDiff,↓tyr,z02 p1,thC])
 refine (zy5 p3 (by omega)).mono ?_;rintro v h2 ⟨q,rfl⟩
 (repeat simp -dsimp -implicitDefEqProofs (disch:=omega) only [↓rP,rA,↓reduceIte,reduceEqDiff,reduceAdd,reduceLeDiff,↓tyr])
 exact q
theorem zwl (p:ThA h o k i e s) (hl:e.inp.length<=100):z01 Tryz.prog 24 [.ptr i 0] h (λv h2=>(∃ o,v=slAV 1 encI o/\slL o=e.inp)/\h2=h):=by
 obtain ⟨⟨io,sid,av,p1,p2,p3,p4,p5,p6⟩,-,-⟩:=p;apply zef
 (repeat simp -dsimp -implicitDefEqProofs (disch:=omega) only [↓rP,rA,↓reduceIte,reduceEqDiff,reduceAdd,reduceLeDiff,↓tyr,z02 p1,thC])
 refine (zrp io (by rw [p2];omega) h).mono ?_;rintro v h2 ⟨q,rfl⟩;rw [p2] at q
 (repeat simp -dsimp -implicitDefEqProofs (disch:=omega) only [↓rP,rA,↓reduceIte,reduceEqDiff,reduceAdd,reduceLeDiff,↓tyr])
 exact q
theorem zth (p:ThA h o k i e s) (g:ImG e.im):z01 Tryz.prog 18 [.ptr i 0] h (λv h2=>v=.int .i64 (insI e.im.Code (e.n:Nat) (s.pc:Nat))/\h2=h):=by
 obtain ⟨⟨io,sid,av,p1,p2,p3,p4,p5,p6⟩,-,-⟩:=p;have hs:=g.s.small.secs;apply zdi
 (repeat simp -dsimp -implicitDefEqProofs (disch:=omega) only [↓rP,rA,↓reduceIte,reduceEqDiff,reduceAdd,reduceLeDiff,↓tyr,z02 p1,thC,↓thC5])
 refine z01.go (zmr e.im.Code g.ok.1 (by omega) _ _ h) ?_
 (repeat simp -dsimp -implicitDefEqProofs (disch:=omega) only [↓rP,rA,↓reduceIte,reduceEqDiff,reduceAdd,reduceLeDiff,↓tyr])
theorem zny (p:ThA h o k i e s):z01 Tryz.prog 26 [.ptr i 0] h (λv h2=>PrAt h2 o k v s.out/\ThA h2 o k i e { s with out:=[] }/\Keeps h h2 (λy=>o y=k)):=by
 obtain ⟨⟨io,sid,av,p1,p2,p3,p4,p5,p6⟩,p7,p8⟩:=p;have hsi:sid≠i:=λq=>by rw [q,p1] at p3;cases p3
 have kp:=Keeps.put h i (.row 83 (z6x e io { s with out:=[] } sid .nils));have st:∀ J:z00->Prop,z1d 1 (.ptr i 16) .nils h J=J (h.put i (.row 83 (z6x e io { s with out:=[] } sid .nils))):=λJ=>by rw [z1g p1 rfl (show (16:Nat)<17 by decide)];rfl
 apply zgm
 (repeat simp -dsimp -implicitDefEqProofs (disch:=omega) only [↓rP,rA,↓reduceIte,reduceEqDiff,reduceAdd,reduceLeDiff,↓tyr,z02 p1,thC,st])
 refine ⟨?_,⟨⟨io,sid,.nils,z2w _ _ _,p2,by rw [z1i hsi];exact p3,p4,p5,Or.inl ⟨rfl,rfl⟩⟩,p7,p8⟩,kp.mono (λy e=>by rw [e];exact p7)⟩;rcases p6 with p6 | ⟨q1,g,q2,q3,q4,q5⟩
 ·exact Or.inl p6
 ·have hgi:g≠i:=λq=>by rw [q,p1] at q3;cases q3
  exact Or.inr ⟨q1,g,q2,by rw [z1i hgi];exact q3,q4,q5⟩
def s0 (b:Bd):Ts:=⟨List.replicate (slL b.Slots).length 0,0,0,[]⟩
theorem New_nil (x:Im) (n:Int) (u:Option (List Int)) (hn:n<0\/((slL x.Code.Threads).length:Int)<=n) (h:z00):z01 Tryz.prog 9 [.agg x.cells,.int .i64 n,slAV 1 encI u] h (λv h2=>v=.nilp/\h2=h):=by
 apply zl3;rcases Decidable.em (n<0) with c | c
 ·have d:decide (n<0)=true:=decide_eq_true c
  (repeat simp -dsimp -implicitDefEqProofs (disch:=omega) only [↓rP,rA,↓reduceIte,reduceEqDiff,reduceAdd,reduceLeDiff,↓tyr,d])
 ·have d:decide (n<0)=false:=decide_eq_false c
  (repeat simp -dsimp -implicitDefEqProofs (disch:=omega) only [↓rP,rA,↓reduceIte,reduceEqDiff,reduceAdd,reduceLeDiff,↓tyr,d])
theorem zrr (x:Im) (g:ImG x) (n:Nat) (b:Bd) (hb:(slL x.Code.Threads)[n]?=some b) (u:Option (List Int)) (hu:(slL u).length<=100) (h:z00) (o:z2d) (k:Nat):z01 Tryz.prog 9 [.agg x.cells,.int .i64 n,slAV 1 encI u] h (λv h2=>∃ i,v=.ptr i 0/\ThA h2 (newO h o k) k i ⟨x,n,b,slL u⟩ (s0 b)/\Keeps h h2 (λ_=>False)):=by
 have hlt:=(List.getElem?_eq_some_iff.1 hb).1;have hth:=(zf7 g.code).thr;have hsl:=((zf7 g.code).slo _ _ hb).1;have d0:decide ((n:Int)<0)=false:=by simp
 have e3:repC (slL b.Slots).length [.int .u64 0]=z0u (s0 b).slots:=by simp [repC,z0u,s0]
 have ls:(s0 b).slots.length=(slL b.Slots).length:=by simp [s0]
 have mk:∀ (h:z00) (K:AV->z00->Prop),z6v ⟨65,1,8⟩ [AV.int .u64 0] (.int .i64 (slL b.Slots).length) (.int .i64 (slL b.Slots).length) h K=K (.sl h.next 0 (slL b.Slots).length 1) (h.push (.row 65 (z0u (s0 b).slots))):=λh K=>by
  simp only [z6v,Int.toNat_natCast,e3];apply propext;constructor
  ·rintro ⟨-,-,-,-,-,hk⟩;exact hk
  ·intro hk;exact ⟨by omega,by omega,by omega,by omega,rfl,hk⟩
 have bl:∀ (io:Option (List Int)) (sid:Nat) (J:AV->Prop),z3w [(0,3),(3,8),(11,1),(12,1),(13,1),(14,1),(15,1),(16,1)] [AV.nils,.nils,.int .i64 0,.nils,.nils,.nils,.nils,.nils,.nils,.nils,.int .i64 0,.int .i64 0,.nils,.nils,.int .i64 0,.int .i64 0,.nils] [(0,.agg b.cells),(1,.agg x.cells),(2,.int .i64 (n:Nat)),(3,slAV 1 encI io),(4,.sl sid 0 (slL b.Slots).length 1)] J=J (.agg (z6x ⟨x,n,b,slL u⟩ io (s0 b) sid .nils)):=λio sid J=>by
  unfold z6x;rw [ls];cases io <;> rfl
 have bx:∀ (io:Option (List Int)) (sid:Nat) (G:z00) (J:AV->z00->Prop),pBox false 83 (.agg (z6x ⟨x,n,b,slL u⟩ io (s0 b) sid .nils)) G J=J (.ptr G.next 0) (G.push (.row 83 (z6x ⟨x,n,b,slL u⟩ io (s0 b) sid .nils))):=λio sid G J=>by
  simp [pBox,AV.cells,AV.fits,z6x,zfa]
 have fin:∀ (G:z00) (sid:Nat) (io:Option (List Int)),slL io=slL u->G.objs sid=some (.row 65 (z0u (s0 b).slots))->sid<G.next->h.next<=sid->Keeps h G (λ_=>False)->∃ i,AV.ptr G.next 0=.ptr i 0/\ThA (G.push (.row 83 (z6x ⟨x,n,b,slL u⟩ io (s0 b) sid .nils))) (newO h o k) k i ⟨x,n,b,slL u⟩ (s0 b)/\Keeps h (G.push (.row 83 (z6x ⟨x,n,b,slL u⟩ io (s0 b) sid .nils))) (λ_=>False):=λG sid io hio hs hlt hn kp=>
  ⟨G.next,rfl,⟨⟨io,sid,.nils,z0w _ _,hio,by rw [z1h hlt];exact hs,z3e hn,Nat.lt_succ_of_lt hlt,Or.inl ⟨rfl,rfl⟩⟩,z3e (Nat.le_trans hn (Nat.le_of_lt hlt)),Nat.lt_succ_self _⟩,kp.go (Keeps.one _ _)⟩
 obtain ⟨H1,hH1⟩:∃ H1,H1=h.push (.row 70 b.cells):=⟨_,rfl⟩;have k1:Keeps h H1 (λ_=>False):=by rw [hH1];exact Keeps.one _ _
 have hn1:h.next<H1.next:=by rw [hH1];exact Nat.lt_succ_self _
 have ob:H1.objs h.next=some (.row 70 b.cells):=by rw [hH1];exact z0w _ _
 have ob2:=λ(z:AObj) (off:Nat) (kk:Option Nat) (J:AV->Prop)=>z02 (off:=off) (show (H1.push z).objs h.next=_ by rw [z1h hn1];exact ob) kk J;have lx:∀ (G:z00) (J:AV->Prop),z0r (some 8) (.iptr x.cells) G J=J (.agg x.cells):=λG J=>by rw [z0y];exact z0e.call x J
 apply zl3
 (repeat simp -dsimp -implicitDefEqProofs (disch:=omega) only [↓rP,rQ,rO,rL,↓reduceIte,reduceEqDiff,reduceAdd,reduceLeDiff,↓tyr,d0,z03 hb,↓lx])
 rw [<-hH1];refine ⟨?_,?_⟩
 ·refine (zrp u (by omega) H1).mono ?_;rintro _ H1 ⟨⟨io,rfl,hio⟩,rfl⟩
  (repeat simp -dsimp -implicitDefEqProofs (disch:=omega) only [↓rP,rQ,rO,rL,↓reduceIte,reduceEqDiff,reduceAdd,reduceLeDiff,↓tyr,z02 ob,ob2,↓lx,mk,bl,bx])
  exact fin _ _ io hio (z0w _ _) (Nat.lt_succ_self _) (Nat.le_of_lt hn1) (k1.go (Keeps.one _ _))
 ·(repeat simp -dsimp -implicitDefEqProofs (disch:=omega) only [↓rP,rQ,rO,rL,↓reduceIte,reduceEqDiff,reduceAdd,reduceLeDiff,↓tyr,z02 ob,ob2,↓lx,mk])
  refine (zrp u (by omega) _).mono ?_;rintro _ _ ⟨⟨io,rfl,hio⟩,rfl⟩
  (repeat simp -dsimp -implicitDefEqProofs (disch:=omega) only [↓rP,rQ,rO,rL,↓reduceIte,reduceEqDiff,reduceAdd,reduceLeDiff,↓tyr,z02 ob,ob2,↓lx,bl,bx])
  exact fin _ _ io hio (z0w _ _) (Nat.lt_succ_self _) (Nat.le_of_lt hn1) (k1.go (Keeps.one _ _))
end
end
end Go.Proofs.YtjlogcfggfmacaaGreat
