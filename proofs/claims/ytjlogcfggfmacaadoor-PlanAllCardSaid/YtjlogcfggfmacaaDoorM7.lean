/- Own texts, merged: PaRead, PaRound, PaLoop, PaRd, PaOf, PaEq, P6Spec, PnSpec, PaRef, PnRow, P6Ref, CdUses, VcN, VcC, ClProg, PtHeap, PtEach, PtLoad, PtStep, PtStepB, PtBuild, PtSolve, PtSolveB, PtSolveC, PtSolveD, PtVal, PtAlive, PtFlat, PtSame, PtMake, PtEmpty, PtRef, PtRound, PtRoundB, PtRoundC, PtRoundD, PtRSolve. -/
import Derived.Test.YtjlogcfggfmacaaDoorM6
set_option linter.unusedVariables false
set_option linter.unusedSimpArgs false
open Nat (reduceEqDiff reduceAdd reduceLeDiff)
set_option maxRecDepth 100000
set_option maxHeartbeats 4000000
namespace Go.Proofs.YtjlogcfggfmacaaDoor
section
open Go.Abs
def cntG (L:List In) (n:Int):Nat:=L.countP λx=>decide (x.Op=5)&&decide (x.N=n)
def cntF (L:List In) (p:Int×Int):Nat:=L.countP λx=>decide (x.Op=6)&&(decide (x.Rec=p.1)&&decide (x.N=p.2))
theorem storeG_cnt (L:List In) (n:Int):znt L n=decide (cntG L n≠0):=by
 unfold znt cntG;rw [Bool.eq_iff_iff,List.any_eq_true,decide_eq_true_eq,ne_eq,List.countP_eq_zero];constructor
 ·rintro ⟨x,hx,h⟩ hn;exact hn x hx h
 ·intro hn;exact Classical.byContradiction λh=>hn λx hx hp=>h ⟨x,hx,hp⟩
theorem storeF_cnt (L:List In) (r n:Int):zim L r n=decide (cntF L (r,n)≠0):=by
 unfold zim cntF;rw [Bool.eq_iff_iff,List.any_eq_true,decide_eq_true_eq,ne_eq,List.countP_eq_zero];constructor
 ·rintro ⟨x,hx,h⟩ hn;refine hn x hx ?_;simpa [Bool.and_assoc] using h
 ·intro hn;exact Classical.byContradiction λh=>hn λx hx hp=>h ⟨x,hx,by simpa [Bool.and_assoc] using hp⟩
def knC (K:Int->Vl):Nat->List AV:=λk=>(K (k:Nat)).cells
theorem zht (K:Int->Vl) (k:Nat):(knC K k).length=4:=rfl
def wrC (W:Int->Nat):Nat->List AV:=λk=>[.int .i64 (W (k:Nat):Nat)]
theorem wrC_len (W:Int->Nat) (k:Nat):(wrC W k).length=1:=rfl
def zmh (b:Bd) (L:List In) (w g f kn n:Nat):List AV:=[slAV 3 z08.cells b.Slots,slAV 8 z0a.cells b.Code,.int .i64 b.Most,slAV 8 z0a.cells (some L),.sl w 0 n 1,.mapv g,.mapv f,.sl kn 0 n 4]
theorem ix_k {kn n:Nat} (kk:IntKind) {k:Nat} (hk:k<n) (J:AV->Prop):z0o (.slice 4) (.sl kn 0 n 4) (.int kk (k:Int)) J=J (.ptr kn (k*4)):=by simp [z0o];omega
theorem ix_w {w n:Nat} (kk:IntKind) {k:Nat} (hk:k<n) (J:AV->Prop):z0o (.slice 1) (.sl w 0 n 1) (.int kk (k:Int)) J=J (.ptr w k):=by simp [z0o];omega
structure RdAt (h:z00) (rid:Nat) (b:Bd) (L:List In) (w g f kn:Nat) (W:Int->Nat) (kG:List Int) (fG:Int->Nat) (kF:List (Int×Int)) (fF:Int×Int->Nat) (K:Int->Vl):Prop where
 obj:h.objs rid=some (.row 120 (zmh b L w g f kn (slL b.Slots).length))
 wr:h.objs w=some (.row 3 (rowN (wrC W) (slL b.Slots).length))
 mg:MapAt h g zst kG fG
 mf:MapAt h f zm1 kF fF
 kv:h.objs kn=some (.row 122 (rowN (knC K) (slL b.Slots).length))
 gf:g≠f
 lr:rid<h.next
 lw:w<h.next
 lg:g<h.next
 lf:f<h.next
 lk:kn<h.next
section
variable {h:z00} {rid w g f kn:Nat} {b:Bd} {L:List In} {W:Int->Nat} {kG:List Int} {fG:Int->Nat} {kF:List (Int×Int)} {fF:Int×Int->Nat} {K:Int->Vl} (R:RdAt h rid b L w g f kn W kG fG kF fF K)
include R
theorem RdAt.keep {h2:z00} (k:Keeps h h2 (λ_=>False)):RdAt h2 rid b L w g f kn W kG fG kF fF K:=
 ⟨by rw [k.objs _ R.lr (by simp)];exact R.obj,by rw [k.objs _ R.lw (by simp)];exact R.wr,R.mg.keep k R.lg (by simp),R.mf.keep k R.lf (by simp),by rw [k.objs _ R.lk (by simp)];exact R.kv,R.gf,
  Nat.lt_of_lt_of_le R.lr k.next,Nat.lt_of_lt_of_le R.lw k.next,Nat.lt_of_lt_of_le R.lg k.next,Nat.lt_of_lt_of_le R.lf k.next,Nat.lt_of_lt_of_le R.lk k.next⟩
theorem RdAt.l0 (J:AV->Prop):z0t none (.ptr rid 0) h J=J (slAV 3 z08.cells b.Slots):=by rw [z0b R.obj];rfl
theorem RdAt.l3 (J:AV->Prop):z0t none (.ptr rid 3) h J=J (slAV 8 z0a.cells (some L)):=by rw [z0b R.obj];rfl
theorem RdAt.l4 (J:AV->Prop):z0t none (.ptr rid 4) h J=J (.sl w 0 (slL b.Slots).length 1):=by rw [z0b R.obj];rfl
theorem RdAt.l5 (J:AV->Prop):z0t none (.ptr rid 5) h J=J (.mapv g):=by rw [z0b R.obj];rfl
theorem RdAt.l6 (J:AV->Prop):z0t none (.ptr rid 6) h J=J (.mapv f):=by rw [z0b R.obj];rfl
theorem RdAt.l7 (J:AV->Prop):z0t none (.ptr rid 7) h J=J (.sl kn 0 (slL b.Slots).length 4):=by rw [z0b R.obj];rfl
theorem RdAt.val {k:Nat} (hk:k<(slL b.Slots).length) (J:AV->Prop):z0t (some 4) (.ptr kn (k*4)) h J=J (.agg (K (k:Nat)).cells):=rowN_load (zht K) R.kv hk J
theorem RdAt.kind {k:Nat} (hk:k<(slL b.Slots).length) (J:AV->Prop):z0t none (.ptr kn (k*4)) h J=J (.int .i64 (K (k:Nat)).Kind):=by
 have:=znn (zht K) R.kv hk (j:=0) (by omega) (a:=.int .i64 (K (k:Nat)).Kind) rfl J;rwa [Nat.add_zero] at this
theorem RdAt.wrt {k:Nat} (hk:k<(slL b.Slots).length) (J:AV->Prop):z0t none (.ptr w k) h J=J (.int .i64 (W (k:Nat):Nat)):=by
 have:=znn (wrC_len W) R.wr hk (j:=0) (by omega) (a:=.int .i64 (W (k:Nat):Nat)) rfl J;rwa [Nat.mul_one,Nat.add_zero] at this
end
theorem vl_ids (D:Nat->Prop) (v:Vl):z1w D (.agg v.cells):=⟨trivial,trivial,trivial,zbk _ _,trivial⟩
theorem zh9 {n:Int} {m:Nat} (h:btw n m=true):∃ k:Nat,n=k/\k<m:=by
 simp only [btw,Bool.and_eq_true,decide_eq_true_eq] at h;exact ⟨n.toNat,by omega,by omega⟩
section
variable {h:z00} {rid w g f kn:Nat} {b:Bd} {L:List In} {W:Int->Nat} {kG:List Int} {fG:Int->Nat} {kF:List (Int×Int)} {fF:Int×Int->Nat} {K:Int->Vl}
theorem gives_k (R:RdAt h rid b L w g f kn W kG fG kF fF K) (hG:fG=cntG L) (hF:fF=cntF L) {c:Cd} {x:In} (wf:Wf c b x) (hfl:∀ k,(slL (K k).Path.Fields).length<=100) :
  z01 Tryd.prog 77 [.ptr rid 0,.agg x.cells] h (λv h2=>v=.agg (z2r L K x).cells/\Keeps h h2 (λ_=>False)):=by
 subst hG hF;apply ze7;obtain ⟨H,hH⟩:∃ H,H=h.push (.row 122 [AV.int .i64 0,AV.bool false,AV.int .i64 0,AV.nils]):=⟨_,rfl⟩;have kp:Keeps h H (λ_=>False):=by rw [hH];exact Keeps.one _ _
 have R1:=R.keep kp;have ob:H.objs h.next=some (.row 122 [AV.int .i64 0,AV.bool false,AV.int .i64 0,AV.nils]):=by rw [hH];exact z19 _ _
 have stc:∀ (v:Vl) (J:z00->Prop),z14 4 (.ptr h.next 0) (.agg v.cells) H J=J (H.put h.next (.row 122 v.cells)):=λv J=>by
  simp only [z14,ob];simp [z0n.cells]
 have st4:∀ (a b c d:AV) (J:z00->Prop),z14 4 (.ptr h.next 0) (.agg [a,b,c,d]) H J=J (H.put h.next (.row 122 [a,b,c,d])):=λa b c d J=>by
  simp only [z14,ob];simp
 have ldc:∀ (v:Vl) (J:AV->Prop),z0t (some 4) (.ptr h.next 0) (H.put h.next (.row 122 v.cells)) J=J (.agg v.cells):=λv J=>by rw [z0b (z1d _ _ _)];simp [z03,z0n.cells]
 have ld4:∀ (a b c d:AV) (J:AV->Prop),z0t (some 4) (.ptr h.next 0) (H.put h.next (.row 122 [a,b,c,d])) J=J (.agg [a,b,c,d]):=λa b c d J=>by rw [z0b (z1d _ _ _)];simp [z03]
 have kq:∀ o,Keeps h (H.put h.next o) (λ_=>False):=λo=>kp.z3a (Nat.le_refl _) o;have b0:∀ (J:AV->Prop),z4b [(0,1),(1,3)] [AV.int .i64 0,AV.bool false,AV.int .i64 0,AV.nils] [] J=J (.agg [AV.int .i64 0,AV.bool false,AV.int .i64 0,AV.nils]):=λJ=>rfl;have b1:∀ (J:AV->Prop),z4b [(0,1),(1,3)] [AV.int .i64 0,AV.bool false,AV.int .i64 0,AV.nils] [(0,AV.int .i64 1)] J=J (.agg [AV.int .i64 1,AV.bool false,AV.int .i64 0,AV.nils]):=λJ=>rfl;have b2:∀ (n:Int) (J:AV->Prop),z4b [(0,1),(1,1),(2,1)] [AV.bool false,AV.int .i64 0,AV.nils] [(0,AV.bool true),(1,AV.int .i64 n)] J=J (.agg [AV.bool true,AV.int .i64 n,AV.nils]):=λn J=>rfl;have b3:∀ (a b c:AV) (J:AV->Prop),z4b [(0,1),(1,3)] [AV.int .i64 0,AV.bool false,AV.int .i64 0,AV.nils] [(0,AV.int .i64 2),(1,.agg [a,b,c])] J=J (.agg [AV.int .i64 2,a,b,c]):=λa b c J=>rfl;have b3':∀ (p:z0l) (J:AV->Prop),z4b [(0,1),(1,3)] [n0,bF,n0,.nils] [(0,n6 2),(1,.agg p.cells)] J=J (.agg (z0n.cells ⟨2,p⟩)):=λp J=>rfl;have eG:∀ n:Int,(((cntG L n:Nat):Int) == 0)=!znt L n:=λn=>by
  rw [storeG_cnt];by_cases e:cntG L n=0 <;> simp [e]
 have eF:∀ p:Int×Int,(((cntF L p:Nat):Int) == 0)=!zim L p.1 p.2:=λp=>by
  rw [storeF_cnt];by_cases e:cntF L p=0 <;> simp [e]
 have lkG:∀ (n:Int) (J:AV->Prop),z3k (some (KeyK.int,.int .i64 0)) (.mapv g) (.int .i64 n) H J=J (.int .i64 (cntG L n:Nat)):=λn J=>R1.mg.lookup zkm n J
 (repeat (first | simp -dsimp -implicitDefEqProofs (disch:=omega) only [↓rP,rA,↓reduceIte,reduceEqDiff,reduceAdd,reduceLeDiff,↓tyr] | refine Cut.go ?_))
 rw [<-hH];refine z0p (λh1=>?_) (λh1=>?_)
 ·
  have ev:z2r L K x=zj2 K (slL x.Items):=by unfold z2r;rw [if_neg (by omega),if_pos h1]
  rw [ev]
  (repeat (first | simp -dsimp -implicitDefEqProofs (disch:=omega) only [↓rP,rA,↓reduceIte,reduceEqDiff,reduceAdd,reduceLeDiff,↓tyr] | refine Cut.go ?_))
  refine z0p (λh2=>?_) (λh2=>?_)
  ·obtain ⟨y,hy⟩:∃ y,slL x.Items=[y]:=List.length_eq_one_iff.1 (by omega);have hx0:(slL x.Items)[((0:Nat))]?=some y:=by rw [hy];rfl
   have ix0:∀ J:AV->Prop,z0o (.slice 3) (slAV 3 z0e.cells x.Items) (.int .i64 0) J=J (.iptr y.cells):=λJ=>z06 hx0 .i64 J;have hitem:=(wf.items (Or.inl h1)).1 y (by rw [hy];simp)
   (repeat (first | simp -dsimp -implicitDefEqProofs (disch:=omega) only [↓rP,rA,↓reduceIte,reduceEqDiff,reduceAdd,reduceLeDiff,↓tyr,↓ix0] | refine Cut.go ?_))
   by_cases h3:y.Op=2
   ·have e3:(y.Op == 2)=true:=by simpa using h3
    have hl:=hitem h3;have iv:zj2 K (slL x.Items)=K (y.N:Nat):=by rw [hy];simp [zj2,h3]
    rw [iv]
    (repeat (first | simp -dsimp -implicitDefEqProofs (disch:=omega) only [↓rP,rA,↓reduceIte,reduceEqDiff,reduceAdd,reduceLeDiff,↓tyr,e3,↓ix0,R1.l7,ix_k .u64 hl,↓R1.val hl,↓stc,↓ldc] | refine Cut.go ?_))
    exact kq _
   ·have e3:(y.Op == 2)=false:=by simpa using h3
    have iv:zj2 K (slL x.Items)=vUnk:=by rw [hy];simp [zj2,h3]
    rw [iv]
    (repeat (first | simp -dsimp -implicitDefEqProofs (disch:=omega) only [↓rP,rA,↓reduceIte,reduceEqDiff,reduceAdd,reduceLeDiff,↓tyr,e3,↓b0,↓st4,↓ld4] | refine Cut.go ?_))
    exact ⟨rfl,kq _⟩
  ·have iv:zj2 K (slL x.Items)=vUnk:=by
    unfold zj2;split
    ·rename_i y hy;rw [hy] at h2;exact absurd rfl h2
    ·rfl
   rw [iv]
   (repeat (first | simp -dsimp -implicitDefEqProofs (disch:=omega) only [↓rP,rA,↓reduceIte,reduceEqDiff,reduceAdd,reduceLeDiff,↓tyr,↓b0,↓st4,↓ld4] | refine Cut.go ?_))
   exact ⟨rfl,kq _⟩
 ·(repeat (first | simp -dsimp -implicitDefEqProofs (disch:=omega) only [↓rP,rA,↓reduceIte,reduceEqDiff,reduceAdd,reduceLeDiff,↓tyr] | refine Cut.go ?_))
  by_cases h8:x.Op=8\/x.Op=9
  ·have ev:z2r L K x=vFresh:=by unfold z2r;rw [if_pos h8]
   rw [ev];rcases h8 with h8 | h8
   ·refine z0p (λh2=>?_) (λh2=>absurd h8 h2)
    (repeat (first | simp -dsimp -implicitDefEqProofs (disch:=omega) only [↓rP,rA,↓reduceIte,reduceEqDiff,reduceAdd,reduceLeDiff,↓tyr,↓b1,↓st4,↓ld4] | refine Cut.go ?_))
    exact ⟨rfl,kq _⟩
   ·refine z0p (λh2=>absurd h2 (by omega)) (λh2=>?_);have e9:(x.Op == 9)=true:=by simpa using h8
    (repeat (first | simp -dsimp -implicitDefEqProofs (disch:=omega) only [↓rP,rA,↓reduceIte,reduceEqDiff,reduceAdd,reduceLeDiff,↓tyr,e9,↓b1,↓st4,↓ld4] | refine Cut.go ?_))
    exact ⟨rfl,kq _⟩
  refine z0p (λh2=>absurd (Or.inl h2) h8) (λ_=>?_);have e9:(x.Op == 9)=false:=by simp;omega
  (repeat (first | simp -dsimp -implicitDefEqProofs (disch:=omega) only [↓rP,rA,↓reduceIte,reduceEqDiff,reduceAdd,reduceLeDiff,↓tyr,e9] | refine Cut.go ?_))
  refine z0p (λh2=>?_) (λh2=>?_)
  ·
   have ev:z2r L K x=if znt L x.N then vUnk else vWay true x.N:=by unfold z2r;rw [if_neg h8,if_neg h1,if_pos h2]
   rw [ev]
   (repeat (first | simp -dsimp -implicitDefEqProofs (disch:=omega) only [↓rP,rA,↓reduceIte,reduceEqDiff,reduceAdd,reduceLeDiff,↓tyr,R1.l5,↓lkG,eG] | refine Cut.go ?_))
   cases hs:znt L x.N with
   | true=>
    (repeat (first | simp -dsimp -implicitDefEqProofs (disch:=omega) only [↓rP,rA,↓reduceIte,reduceEqDiff,reduceAdd,reduceLeDiff,↓tyr,hs,↓b0,↓st4,↓ld4] | refine Cut.go ?_))
    exact ⟨rfl,kq _⟩
   | false=>
    (repeat (first | simp -dsimp -implicitDefEqProofs (disch:=omega) only [↓rP,rA,↓reduceIte,reduceEqDiff,reduceAdd,reduceLeDiff,↓tyr,hs,↓b2,↓b3,↓st4,↓ld4] | refine Cut.go ?_))
    exact ⟨rfl,kq _⟩
  (repeat (first | simp -dsimp -implicitDefEqProofs (disch:=omega) only [↓rP,rA,↓reduceIte,reduceEqDiff,reduceAdd,reduceLeDiff,↓tyr] | refine Cut.go ?_))
  refine z0p (λh3=>?_) (λh3=>?_)
  ·
   obtain ⟨r,-,-,hsrc⟩:=wf.fld (Or.inl h3);obtain ⟨m,em,hm⟩:=zh9 hsrc;obtain ⟨H2,hH2⟩:∃ H2,H2=H.push (.row 122 [AV.int .i64 0,AV.bool false,AV.int .i64 0,AV.nils]):=⟨_,rfl⟩;have kp2:Keeps H H2 (λ_=>False):=by rw [hH2];exact Keeps.one _ _
   have R2:=R1.keep kp2;have hlt:h.next<H.next:=by rw [hH];exact Nat.lt_succ_self _
   have ob2:H2.objs H.next=some (.row 122 [AV.int .i64 0,AV.bool false,AV.int .i64 0,AV.nils]):=by rw [hH2];exact z19 _ _
   obtain ⟨H3,hH3⟩:∃ H3,H3=H.push (.row 122 (K (m:Nat)).cells):=⟨_,rfl⟩;have kp3:Keeps H H3 (λ_=>False):=by rw [hH3];exact Keeps.one _ _
   have R3:=R1.keep kp3;have ob3:H3.objs h.next=some (.row 122 [AV.int .i64 0,AV.bool false,AV.int .i64 0,AV.nils]):=by rw [kp3.objs _ hlt (by simp)];exact ob
   have o3:H3.objs H.next=some (.row 122 (K (m:Nat)).cells):=by rw [hH3];exact z19 _ _
   have stc:∀ (v:Vl) (J:z00->Prop),z14 4 (.ptr h.next 0) (.agg v.cells) H3 J=J (H3.put h.next (.row 122 v.cells)):=λv J=>by
    simp only [z14,ob3];simp [z0n.cells]
   have st4:∀ (a b c d:AV) (J:z00->Prop),z14 4 (.ptr h.next 0) (.agg [a,b,c,d]) H3 J=J (H3.put h.next (.row 122 [a,b,c,d])):=λa b c d J=>by
    simp only [z14,ob3];simp
   have ldc:∀ (v:Vl) (J:AV->Prop),z0t (some 4) (.ptr h.next 0) (H3.put h.next (.row 122 v.cells)) J=J (.agg v.cells):=λv J=>by rw [z0b (z1d _ _ _)];simp [z03,z0n.cells]
   have ld4:∀ (a b c d:AV) (J:AV->Prop),z0t (some 4) (.ptr h.next 0) (H3.put h.next (.row 122 [a,b,c,d])) J=J (.agg [a,b,c,d]):=λa b c d J=>by rw [z0b (z1d _ _ _)];simp [z03]
   have kq:∀ o,Keeps h (H3.put h.next o) (λ_=>False):=λo=>(kp.go kp3).z3a (Nat.le_refl _) o;have f0:∀ J:AV->Prop,z0t none (.ptr H.next 0) H3 J=J (.int .i64 (K (m:Nat)).Kind):=λJ=>by rw [z0b o3];rfl
   have f3:∀ J:AV->Prop,z0t none (.ptr H.next 3) H3 J=J (slAV 1 encI (K (m:Nat)).Path.Fields):=λJ=>by rw [z0b o3];rfl
   have fp:∀ J:AV->Prop,z0t (some 3) (.ptr H.next 1) H3 J=J (.agg (K (m:Nat)).Path.cells):=λJ=>by rw [z0b o3];simp [z03,z0n.cells,z0l.cells]
   have bp:∀ J:AV->Prop,z4b [(0,1),(1,1)] [AV.int .i64 0,AV.int .i64 0] [(0,.int .i64 x.Rec),(1,.int .i64 x.N)] J=J (.agg [.int .i64 x.Rec,.int .i64 x.N]):=λJ=>rfl;have lkF:∀ (J:AV->Prop),z3k (some (KeyK.flat [LK.int,LK.int],.int .i64 0)) (.mapv f) (.agg [.int .i64 x.Rec,.int .i64 x.N]) H3 J=J (.int .i64 (cntF L (x.Rec,x.N):Nat)):=λJ=>R3.mf.lookup zdn (x.Rec,x.N) J;have eF1:=eF (x.Rec,x.N);have ev:z2r L K x=if (K (m:Nat)).Kind=2/\(slL (K (m:Nat)).Path.Fields).length<=2/\zim L x.Rec x.N=false then longV (K (m:Nat)) x.N else vUnk:=by
    unfold z2r;rw [if_neg h8,if_neg h1,if_neg h2,if_pos h3,em]
   rw [ev]
   (repeat (first | simp -dsimp -implicitDefEqProofs (disch:=omega) only [↓rP,rA,↓reduceIte,reduceEqDiff,reduceAdd,reduceLeDiff,↓tyr,R1.l7,em,ix_k .i64 hm,R1.val hm] | refine Cut.go ?_))
   rw [<-hH2,<-hH3]
   (repeat (first | simp -dsimp -implicitDefEqProofs (disch:=omega) only [↓rP,rA,↓reduceIte,reduceEqDiff,reduceAdd,reduceLeDiff,↓tyr,R2.l7,R2.val hm,em,f0] | refine Cut.go ?_))
   have unk:¬ ((K (m:Nat)).Kind=2/\(slL (K (m:Nat)).Path.Fields).length<=2/\zim L x.Rec x.N=false)->(if (K (m:Nat)).Kind=2/\(slL (K (m:Nat)).Path.Fields).length<=2/\zim L x.Rec x.N=false then longV (K (m:Nat)) x.N else vUnk)=vUnk:=λhn=>if_neg hn;by_cases hk2:(K (m:Nat)).Kind=2
   ·have ek:((K (m:Nat)).Kind == 2)=true:=by simpa using hk2
    (repeat (first | simp -dsimp -implicitDefEqProofs (disch:=omega) only [↓rP,rA,↓reduceIte,reduceEqDiff,reduceAdd,reduceLeDiff,↓tyr,ek,f3] | refine Cut.go ?_))
    by_cases hl3:(slL (K (m:Nat)).Path.Fields).length<=2
    ·have el:decide (((slL (K (m:Nat)).Path.Fields).length:Int)<3)=true:=by simp;omega
     (repeat (first | simp -dsimp -implicitDefEqProofs (disch:=omega) only [↓rP,rA,↓reduceIte,reduceEqDiff,reduceAdd,reduceLeDiff,↓tyr,el,R3.l6,↓bp,↓lkF,eF1] | refine Cut.go ?_))
     rcases Bool.eq_false_or_eq_true (zim L x.Rec x.N) with hs | hs
     ·rw [unk (λh=>by rw [hs] at h;cases h.2.2)]
      (repeat (first | simp -dsimp -implicitDefEqProofs (disch:=omega) only [↓rP,rA,↓reduceIte,reduceEqDiff,reduceAdd,reduceLeDiff,↓tyr,hs,↓b0,↓st4,↓ld4] | refine Cut.go ?_))
      exact ⟨rfl,kq _⟩
     ·rw [if_pos ⟨hk2,hl3,hs⟩]
      (repeat (first | simp -dsimp -implicitDefEqProofs (disch:=omega) only [↓rP,rA,↓reduceIte,reduceEqDiff,reduceAdd,reduceLeDiff,↓tyr,hs,↓fp] | refine Cut.go ?_))
      refine z01.go (zti (K (m:Nat)).Path (by omega) x.N _) ?_
      (repeat (first | simp -dsimp -implicitDefEqProofs (disch:=omega) only [↓rP,rA,↓reduceIte,reduceEqDiff,reduceAdd,reduceLeDiff,↓tyr,↓b3',↓stc,↓ldc] | refine Cut.go ?_))
      exact ⟨rfl,kq _⟩
    ·have el:decide (((slL (K (m:Nat)).Path.Fields).length:Int)<3)=false:=by simp;omega
     rw [unk (λh=>hl3 h.2.1)]
     (repeat (first | simp -dsimp -implicitDefEqProofs (disch:=omega) only [↓rP,rA,↓reduceIte,reduceEqDiff,reduceAdd,reduceLeDiff,↓tyr,el,↓b0,↓st4,↓ld4] | refine Cut.go ?_))
     exact ⟨rfl,kq _⟩
   ·have ek:((K (m:Nat)).Kind == 2)=false:=by simpa using hk2
    rw [unk (λh=>hk2 h.1)]
    (repeat (first | simp -dsimp -implicitDefEqProofs (disch:=omega) only [↓rP,rA,↓reduceIte,reduceEqDiff,reduceAdd,reduceLeDiff,↓tyr,ek,↓b0,↓st4,↓ld4] | refine Cut.go ?_))
    exact ⟨rfl,kq _⟩
  ·have ev:z2r L K x=vUnk:=by unfold z2r;rw [if_neg h8,if_neg h1,if_neg h2,if_neg h3]
   rw [ev]
   (repeat (first | simp -dsimp -implicitDefEqProofs (disch:=omega) only [↓rP,rA,↓reduceIte,reduceEqDiff,reduceAdd,reduceLeDiff,↓tyr,↓b0,↓st4,↓ld4] | refine Cut.go ?_))
   exact ⟨rfl,kq _⟩
theorem gives_does (R:RdAt h rid b L w g f kn W kG fG kF fF K) (hG:fG=cntG L) (hF:fF=cntF L) {c:Cd} {x:In} (wf:Wf c b x) (hfl:∀ k,(slL (K k).Path.Fields).length<=100) :
  z01 Tryd.prog 77 [.ptr rid 0,.agg x.cells] h (λv h2=>v=.agg (z2r L K x).cells/\h2=h):=z01.forget (vl_ids _ _) (gives_k R hG hF wf hfl)
end
end
section
open Go.Abs
def onB (b:Bd) (k:Int):Bool:=match getI (slL b.Slots) k with | some l=>l.Once | none=>false
theorem on1 (b:Bd):On1 (onB b):=by unfold On1 onB getI;rw [if_neg (by omega)]
theorem on_at {b:Bd} {k:Nat} {l:Lo} (hl:(slL b.Slots)[k]?=some l):onB b (k:Nat)=l.Once:=by unfold onB;rw [z2e,hl]
theorem on_pos {b:Bd} {k:Int} (h:onB b k=true):∃ m:Nat,k=m/\m<(slL b.Slots).length:=by
 unfold onB at h
 cases hg:getI (slL b.Slots) k with
 | none=>rw [hg] at h;cases h
 | some l=>
  obtain ⟨m,e,hm⟩:=zdm hg;exact ⟨m,e,(List.getElem?_eq_some_iff.1 hm).1⟩
def wrW (L:List In) (k:Int):Nat:=(byS L k).length
def FL (K:Int->Vl):Prop:=∀ k,(slL (K k).Path.Fields).length<=3
theorem FL.gives {L:List In} {K:Int->Vl} (h:FL K) (x:In):(slL (z2r L K x).Path.Fields).length<=3:=by
 unfold z2r;split
 ·simp [vFresh]
 ·split
  ·unfold zj2;split
   ·split
    ·exact h _
    ·simp [vUnk]
   ·simp [vUnk]
  ·split
   ·split <;> simp [vUnk,vWay]
   ·split
    ·split
     ·rename_i hc;simp only [longV,zh4,List.length_append,List.length_cons,List.length_nil];omega
     ·simp [vUnk]
    ·simp [vUnk]
theorem FL.upd {K:Int->Vl} (h:FL K) {d:Int} {v:Vl} (hv:(slL v.Path.Fields).length<=3):FL (updV K d v):=λk=>by
 unfold updV;split
 ·exact hv
 ·exact h k
def cU (n:Nat) (K:Int->Vl):Nat:=(List.range n).countP λk=>decide ((K (k:Nat)).Kind=0)
theorem cU_upd {n m:Nat} {K:Int->Vl} {v:Vl} (hm:m<n) (h0:(K (m:Nat)).Kind=0) (hv:v.Kind≠0):cU n (updV K (m:Nat) v)<cU n K:=by
 refine cnt_lt (b:=m) (λj hj hp=>?_) hm ?_ ?_
 ·simp only [decide_eq_true_eq] at hp ⊢;unfold updV at hp;split at hp
  ·exact absurd hp hv
  ·exact hp
 ·simp [updV,hv]
 ·simp [h0]
section
variable {h:z00} {rid w g f kn:Nat} {b:Bd} {L:List In} {W:Int->Nat} {kG:List Int} {fG:Int->Nat} {kF:List (Int×Int)} {fF:Int×Int->Nat} {K:Int->Vl}
theorem RdAt.upd (R:RdAt h rid b L w g f kn W kG fG kF fF K) (m:Nat) (v:Vl):RdAt (h.put kn (.row 122 (rowN (λi=>if i=m then v.cells else knC K i) (slL b.Slots).length))) rid b L w g f kn W kG fG kF fF (updV K (m:Nat) v):=by
 have n1:rid≠kn:=by rintro rfl;have:=R.obj.symm.trans R.kv;simp at this
 have n2:w≠kn:=by rintro rfl;have:=R.wr.symm.trans R.kv;simp at this
 have n3:g≠kn:=by rintro rfl;have:=R.mg.obj.symm.trans R.kv;simp [mapO] at this
 have n4:f≠kn:=by rintro rfl;have:=R.mf.obj.symm.trans R.kv;simp [mapO] at this
 have ke:rowN (λi=>if i=m then v.cells else knC K i) (slL b.Slots).length=rowN (knC (updV K (m:Nat) v)) (slL b.Slots).length:=z7k λk _=>by
  unfold knC updV;by_cases e:k=m
  ·subst e;simp
  ·rw [if_neg e,if_neg (by omega)]
 rw [ke];exact ⟨by rw [z0x n1];exact R.obj,by rw [z0x n2];exact R.wr,⟨by rw [z0x n3];exact R.mg.obj,R.mg.nd,R.mg.out⟩,⟨by rw [z0x n4];exact R.mf.obj,R.mf.nd,R.mf.out⟩,z1d _ _ _,R.gf,R.lr,R.lw,R.lg,R.lf,R.lk⟩
theorem wkP (k:Nat) (hk:k<=1000000):IntKind.i64.wrap ((k:Int)+1)=((k+1:Nat):Int):=by rw [z7n (by omega) (by omega)];omega
def DoneTo (L:List In) (on:Int->Bool) (K:Int->Vl) (j:Nat):Prop:=∀ i x k,i<j->L[i]?=some x->dstI x=k->byS L k=[x]->on k=true->(K k).Kind=0->(z2r L K x).Kind=0
theorem DoneTo.all {L:List In} {on:Int->Bool} {K:Int->Vl} (h:DoneTo L on K L.length):Done L on K:=λx k hb ho hk=>by
 have hx:x∈byS L k:=by rw [hb];simp
 unfold byS at hx;obtain ⟨h1,h2⟩:=List.mem_filter.1 hx;obtain ⟨i,hi⟩:=List.getElem?_of_mem h1;exact h i x k (List.getElem?_eq_some_iff.1 hi).1 hi (by simpa using h2) hb ho hk
structure RR (h hh:z00) (rid:Nat) (b:Bd) (L:List In) (w g f kn:Nat) (kG:List Int) (kF:List (Int×Int)) (K0 K:Int->Vl) (more:Bool) (j:Nat):Prop where
 rd:RdAt hh rid b L w g f kn (wrW L) kG (cntG L) kF (cntF L) K
 kp:Keeps h hh (λi=>i=kn)
 snd:Snd L (onB b) K
 fl:FL K
 no:more=false->K=K0/\DoneTo L (onB b) K0 j
 yes:more=true->cU (slL b.Slots).length K<cU (slL b.Slots).length K0
theorem RR.skip {hh h2:z00} {K0:Int->Vl} {more:Bool} {j:Nat} {x:In} (r:RR h hh rid b L w g f kn kG kF K0 K more j) (k2:Keeps hh h2 (λ_=>False)) (hx:L[j]?=some x) (hs:K=K0->byS L (dstI x)=[x]->onB b (dstI x)=true->(K (dstI x)).Kind=0->(z2r L K x).Kind=0):RR h h2 rid b L w g f kn kG kF K0 K more (j+1):=
 ⟨r.rd.keep k2,r.kp.trans k2 (λ_ _ e=>e.elim),r.snd,r.fl,λhm=>⟨(r.no hm).1,λi y k hi hy e hb ho hk=>by
  by_cases e2:i=j
  ·subst e2;rw [hx] at hy;cases hy;subst e;have e3:=(r.no hm).1;have:=hs e3;rw [e3] at this;exact this hb ho hk
  ·exact (r.no hm).2 i y k (by omega) hy e hb ho hk⟩,r.yes⟩
theorem vround_3 {c:Cd} (hn:(slL b.Slots).length<=100) (hL:L.length<=1000) (wf:∀ x∈L,Wf c b x) (K0:Int->Vl) (R0:RdAt h rid b L w g f kn (wrW L) kG (cntG L) kF (cntF L) K0) (s0:Snd L (onB b) K0) (f0:FL K0) (Q:z1z->Fr->z00->Prop)
  (hQ:∀ hh K more,RR h hh rid b L w g f kn kG kF K0 K more L.length->Q (.exit 0) (frOf [(3,.bool more)]) hh) :
  WP Tryd.prog 69 (.loop z5g) (frOf [(0,.ptr rid 0),(3,.bool false),(11,slAV 8 z0a.cells (some L)),(12,.int .i64 L.length),(13,.int .i64 0)]) h Q:=by
 obtain ⟨I,hI⟩:∃ I:Nat->Fr->z00->Prop,I=(λm fr hh=>∃ (j:Nat) (K:Int->Vl) (more:Bool),m=L.length-j/\j<=L.length/\RR h hh rid b L w g f kn kG kF K0 K more j/\fr=frOf [(0,.ptr rid 0),(3,.bool more),(11,slAV 8 z0a.cells (some L)),(12,.int .i64 L.length),(13,.int .i64 j)]):=⟨_,rfl⟩;refine z1i z0d (by kernel_rfl) I L.length (by rw [hI];exact ⟨0,K0,false,rfl,Nat.zero_le _,⟨R0,.refl _ _,s0,f0,λ_=>⟨rfl,λi x k hi=>by omega⟩,λh=>by cases h⟩,rfl⟩) ?_;intro m fr hh hi;rw [hI] at hi;obtain ⟨j,K,more,rfl,hj,r,rfl⟩:=hi;apply zbv
 (repeat simp -dsimp -implicitDefEqProofs (disch:=omega) only [↓rP,rA,↓reduceIte,reduceEqDiff,reduceAdd,reduceLeDiff,↓tyr])
 refine z09 (λhjl=>?_) (λhjl=>?_)
 ·obtain ⟨x,hx⟩:∃ x,L[j]?=some x:=⟨_,List.getElem?_eq_getElem (by omega)⟩;have hxL:x∈L:=List.mem_of_getElem? hx;have wx:=wf x hxL;have hx':(slL (some L))[j]?=some x:=hx
  (repeat simp -dsimp -implicitDefEqProofs (disch:=omega) only [↓rP,rA,↓reduceIte,reduceEqDiff,reduceAdd,reduceLeDiff,↓tyr,z06 hx'])
  refine z01.go (z8c x _) ?_;have ed:(if x.Op=1\/x.Op=2\/x.Op=3\/x.Op=4\/x.Op=8\/x.Op=9\/x.Op=10 then x.Dst else -1)=dstI x:=rfl;rw [ed];obtain ⟨H,hH⟩:∃ H,H=hh.push (.row 49 x.cells):=⟨_,rfl⟩;have kp:Keeps hh H (λ_=>False):=by rw [hH];exact Keeps.one _ _
  have R1:=r.rd.keep kp;have ob:H.objs hh.next=some (.row 49 x.cells):=by rw [hH];exact z19 _ _
  rw [<-hH];have skip:∀ (hs:K=K0->byS L (dstI x)=[x]->onB b (dstI x)=true->(K (dstI x)).Kind=0->(z2r L K x).Kind=0) (hh2:z00) (k2:Keeps hh hh2 (λ_=>False)),I (L.length-(j+1)) (frOf [(0,.ptr rid 0),(3,.bool more),(11,slAV 8 z0a.cells (some L)),(12,.int .i64 L.length),(13,.int .i64 ((j+1:Nat):Int))]) hh2:=λhs hh2 k2=>by
   rw [hI];exact ⟨j+1,K,more,rfl,by omega,r.skip k2 hx hs,rfl⟩
  by_cases hd:dstI x<0
  ·have e0:decide (dstI x<0)=true:=decide_eq_true hd
   (repeat simp -dsimp -implicitDefEqProofs (disch:=omega) only [↓rP,rA,↓reduceIte,reduceEqDiff,reduceAdd,reduceLeDiff,↓tyr,e0,wkP j (by omega)])
   rw [z07];exact ⟨_,by omega,skip (λ_ _ ho _=>by obtain ⟨k,e,_⟩:=on_pos ho;omega) _ kp⟩
  have e0:decide (dstI x<0)=false:=decide_eq_false hd;obtain ⟨d,ed2,hdl⟩:∃ d:Nat,dstI x=d/\d<(slL b.Slots).length:=by
   have:dstI x≠-1:=by omega
   unfold dstI at this ⊢;split at this
   ·rename_i hop;rw [if_pos hop];exact zh9 (wx.dst hop)
   ·exact absurd rfl this
  rw [ed2] at e0 skip ⊢;obtain ⟨l,hl⟩:∃ l,(slL b.Slots)[d]?=some l:=⟨_,List.getElem?_eq_getElem hdl⟩;have lc:∀ J:AV->Prop,z0t (some 8) (.ptr hh.next 0) H J=J (.agg x.cells):=λJ=>by rw [z0b ob];exact z0a.call x J
  have eon:=on_at hl;by_cases ho:l.Once=false
  ·(repeat simp -dsimp -implicitDefEqProofs (disch:=omega) only [↓rP,rA,↓reduceIte,reduceEqDiff,reduceAdd,reduceLeDiff,↓tyr,e0,R1.l0,z06 hl,ho,wkP j (by omega)])
   rw [z07];exact ⟨_,by omega,skip (λ_ _ ho2 _=>by rw [eon,ho] at ho2;cases ho2) _ kp⟩
  have ho:l.Once=true:=by simpa using ho
  by_cases hw:wrW L (d:Nat)≠1
  ·have ew:(((wrW L (d:Nat):Nat):Int) != 1)=true:=by simp;omega
   (repeat simp -dsimp -implicitDefEqProofs (disch:=omega) only [↓rP,rA,↓reduceIte,reduceEqDiff,reduceAdd,reduceLeDiff,↓tyr,e0,R1.l0,z06 hl,ho,R1.l4,ix_w .i64 hdl,R1.wrt hdl,ew,wkP j (by omega)])
   rw [z07];exact ⟨_,by omega,skip (λ_ hb _ _=>absurd (by unfold wrW;rw [hb];rfl) hw) _ kp⟩
  have hw:wrW L (d:Nat)=1:=Classical.not_not.1 hw;have ew:(((wrW L (d:Nat):Nat):Int) != 1)=false:=by simp;omega
  by_cases hk:(K (d:Nat)).Kind≠0
  ·have ek:((K (d:Nat)).Kind != 0)=true:=by simpa using hk
   (repeat simp -dsimp -implicitDefEqProofs (disch:=omega) only [↓rP,rA,↓reduceIte,reduceEqDiff,reduceAdd,reduceLeDiff,↓tyr,e0,R1.l0,z06 hl,ho,R1.l4,ix_w .i64 hdl,R1.wrt hdl,ew,R1.l7,ix_k .i64 hdl,R1.kind hdl,ek,wkP j (by omega)])
   rw [z07];exact ⟨_,by omega,skip (λ_ _ _ hk2=>absurd hk2 hk) _ kp⟩
  have hk:(K (d:Nat)).Kind=0:=Classical.not_not.1 hk;have ek:((K (d:Nat)).Kind != 0)=false:=by simpa using hk
  (repeat simp -dsimp -implicitDefEqProofs (disch:=omega) only [↓rP,rA,↓reduceIte,reduceEqDiff,reduceAdd,reduceLeDiff,↓tyr,e0,R1.l0,z06 hl,ho,R1.l4,ix_w .i64 hdl,R1.wrt hdl,ew,R1.l7,ix_k .i64 hdl,R1.kind hdl,ek,↓lc])
  refine z01.go (gives_does R1 rfl rfl wx (λk=>by have:=r.fl k;omega)) ?_;have hb:byS L (d:Nat)=[x]:=by
   obtain ⟨y,hy⟩:=List.length_eq_one_iff.1 hw;have hxy:x∈byS L (d:Nat):=List.mem_filter.2 ⟨hxL,by simp [ed2]⟩;rw [hy] at hxy ⊢;rw [List.mem_singleton.1 hxy]
  obtain ⟨v,ev⟩:∃ v,v=z2r L K x:=⟨_,rfl⟩;rw [<-ev]
  (repeat simp -dsimp -implicitDefEqProofs (disch:=omega) only [↓rP,rA,↓reduceIte,reduceEqDiff,reduceAdd,reduceLeDiff,↓tyr])
  obtain ⟨H2,hH2⟩:∃ H2,H2=H.push (.row 122 v.cells):=⟨_,rfl⟩;have kp2:Keeps H H2 (λ_=>False):=by rw [hH2];exact Keeps.one _ _
  have R2:=R1.keep kp2;have ob2:H2.objs H.next=some (.row 122 v.cells):=by rw [hH2];exact z19 _ _
  rw [<-hH2];have fk:∀ J:AV->Prop,z0t none (.ptr H.next 0) H2 J=J (.int .i64 v.Kind):=λJ=>by rw [z0b ob2];rfl
  have fv:∀ J:AV->Prop,z0t (some 4) (.ptr H.next 0) H2 J=J (.agg v.cells):=λJ=>by rw [z0b ob2];simp [z03,z0n.cells]
  by_cases hv:v.Kind=0
  ·have e:(v.Kind != 0)=false:=by simpa using hv
   (repeat simp -dsimp -implicitDefEqProofs (disch:=omega) only [↓rP,rA,↓reduceIte,reduceEqDiff,reduceAdd,reduceLeDiff,↓tyr,fk,e,wkP j (by omega)])
   rw [z07];exact ⟨_,by omega,skip (λ_ _ _ _=>by rw [<-ev];exact hv) _ (kp.go kp2)⟩
  ·have e:(v.Kind != 0)=true:=by simpa using hv
   have st:∀ J:z00->Prop,z14 4 (.ptr kn (d*4)) (.agg v.cells) H2 J=J (H2.put kn (.row 122 (rowN (λi=>if i=d then v.cells else knC K i) (slL b.Slots).length))):=λJ=>zno (zht K) R2.kv hdl rfl J
   (repeat simp -dsimp -implicitDefEqProofs (disch:=omega) only [↓rP,rA,↓reduceIte,reduceEqDiff,reduceAdd,reduceLeDiff,↓tyr,fk,e,R2.l7,↓fv,ix_k .i64 hdl,↓st,wkP j (by omega)])
   rw [z07,hI];refine ⟨_,by omega,j+1,updV K (d:Nat) v,true,rfl,by omega,⟨R2.upd d v,?_,?_,r.fl.upd (by rw [ev];exact r.fl.gives x),λh=>(by cases h),λ_=>?_⟩,rfl⟩
   ·exact (r.kp.trans (kp.go kp2) (λ_ _ e=>e.elim)).putS rfl _
   ·rw [ev];exact r.snd.upd hb (by rw [eon];exact ho) (by rw [<-ev];exact hv)
   ·have h1:=cU_upd (K:=K) (v:=v) hdl hk hv
    cases more with
    | true=>exact Nat.lt_trans h1 (r.yes rfl)
    | false=>rw [(r.no rfl).1] at h1 ⊢;exact h1
 ·(repeat simp -dsimp -implicitDefEqProofs (disch:=omega) only [↓rP,rA,↓reduceIte,reduceEqDiff,reduceAdd,reduceLeDiff,↓tyr])
  have:j=L.length:=by omega
  subst this;exact hQ hh K more r
end
end
section
open Go.Abs
theorem byS_snoc (L:List In) (x:In) (k:Int):byS (L++[x]) k=byS L k++if dstI x=k then [x] else []:=by
 unfold byS;rw [List.filter_append]
 congr 1
 by_cases e:dstI x=k <;> simp [e]
theorem wrW_snoc (L:List In) (x:In) (k:Int):wrW (L++[x]) k=wrW L k+if dstI x=k then 1 else 0:=by
 unfold wrW;rw [byS_snoc,List.length_append];split <;> rfl
theorem zfs (L:List In) (x:In) (n:Int):cntG (L++[x]) n=if x.Op=5/\x.N=n then cntG L n+1 else cntG L n:=by
 unfold cntG;rw [List.countP_append];by_cases e:x.Op=5/\x.N=n
 ·rw [if_pos e];simp [List.countP_cons,e]
 ·rw [if_neg e];have:(decide (x.Op=5)&&decide (x.N=n))=false:=by
   simp only [Bool.and_eq_false_iff,decide_eq_false_iff_not];exact Classical.byContradiction λh=>e (by
    simp only [not_or,Classical.not_not] at h;exact h)
  simp [List.countP_cons,this]
theorem zfr (L:List In) (x:In) (p:Int×Int):cntF (L++[x]) p=if x.Op=6/\(x.Rec,x.N)=p then cntF L p+1 else cntF L p:=by
 unfold cntF;rw [List.countP_append];obtain ⟨a,b⟩:=p;by_cases e:x.Op=6/\(x.Rec,x.N)=(a,b)
 ·rw [if_pos e];have h1:=e.2;simp only [Prod.mk.injEq] at h1;simp [List.countP_cons,e.1,h1.1,h1.2]
 ·rw [if_neg e];have:(decide (x.Op=6)&&(decide (x.Rec=a)&&decide (x.N=b)))=false:=by
   rw [Bool.eq_false_iff];intro h;simp only [Bool.and_eq_true,decide_eq_true_eq] at h;exact e ⟨h.1,by rw [h.2.1,h.2.2]⟩
  simp [List.countP_cons,this]
theorem wrW_le (L:List In) (k:Int):wrW L k<=L.length:=List.length_filter_le _ _
theorem cntG_le (L:List In) (n:Int):cntG L n<=L.length:=List.countP_le_length
theorem cntF_le (L:List In) (p:Int×Int):cntF L p<=L.length:=List.countP_le_length
section
variable {h:z00} {rid w g f kn:Nat} {b:Bd} {L:List In} {W:Int->Nat} {kG:List Int} {fG:Int->Nat} {kF:List (Int×Int)} {fF:Int×Int->Nat} {K:Int->Vl}
theorem RdAt.ne (R:RdAt h rid b L w g f kn W kG fG kF fF K):rid≠w/\rid≠g/\rid≠f/\w≠g/\w≠f/\w≠kn/\g≠kn/\f≠kn:=by
 refine ⟨?_,?_,?_,?_,?_,?_,?_,?_⟩
 ·rintro rfl;have:=R.obj.symm.trans R.wr;simp at this
 ·rintro rfl;have:=R.obj.symm.trans R.mg.obj;simp [mapO] at this
 ·rintro rfl;have:=R.obj.symm.trans R.mf.obj;simp [mapO] at this
 ·rintro rfl;have:=R.wr.symm.trans R.mg.obj;simp [mapO] at this
 ·rintro rfl;have:=R.wr.symm.trans R.mf.obj;simp [mapO] at this
 ·rintro rfl;have:=R.wr.symm.trans R.kv;simp at this
 ·rintro rfl;have:=R.mg.obj.symm.trans R.kv;simp [mapO] at this
 ·rintro rfl;have:=R.mf.obj.symm.trans R.kv;simp [mapO] at this
theorem MapAt.putO {α:Type} {enc:α->AV} {ks:List α} {f:α->Nat} {id i:Nat} {o:AObj} (M:MapAt h id enc ks f) (hi:id≠i):MapAt (h.put i o) id enc ks f:=⟨by rw [z0x hi];exact M.obj,M.nd,M.out⟩
theorem RdAt.putW (R:RdAt h rid b L w g f kn W kG fG kF fF K) (m:Nat) (v:Nat):RdAt (h.put w (.row 3 (rowN (λi=>if i=m then [.int .i64 (v:Nat)] else wrC W i) (slL b.Slots).length))) rid b L w g f kn (λk=>if k=(m:Nat) then v else W k) kG fG kF fF K:=by
 obtain ⟨n1,n2,n3,n4,n5,n6,n7,n8⟩:=R.ne;have ke:rowN (λi=>if i=m then [AV.int .i64 (v:Nat)] else wrC W i) (slL b.Slots).length=rowN (wrC (λk=>if k=(m:Nat) then v else W k)) (slL b.Slots).length:=z7k λk _=>by
  by_cases e:k=m
  ·subst e;simp [wrC]
  ·rw [if_neg e];have:¬ ((k:Int)=(m:Nat)):=by omega
   simp [wrC,this]
 rw [ke];exact ⟨by rw [z0x n1];exact R.obj,z1d _ _ _,MapAt.putO R.mg n4.symm,MapAt.putO R.mf n5.symm,by rw [z0x n6.symm];exact R.kv,R.gf,R.lr,R.lw,R.lg,R.lf,R.lk⟩
theorem RdAt.cw (R:RdAt h rid b L w g f kn W kG fG kF fF K) {W2:Int->Nat} {fG2:Int->Nat} {fF2:Int×Int->Nat} (hw:∀ k:Nat,W2 k=W k) (hg:fG2=fG) (hf:fF2=fF):RdAt h rid b L w g f kn W2 kG fG2 kF fF2 K:=by
 subst hg hf;exact { R with wr:=by rw [R.wr];congr 2;exact z7k λk _=>by simp [wrC,hw k] }
theorem RdAt.wst (R:RdAt h rid b L w g f kn W kG fG kF fF K) {k:Nat} (hk:k<(slL b.Slots).length) (v:Nat) (J:z00->Prop):z14 1 (.ptr w k) (.int .i64 (v:Int)) h J=J (h.put w (.row 3 (rowN (λi=>if i=k then [.int .i64 (v:Nat)] else wrC W i) (slL b.Slots).length))):=by
 have:=ztw (wrC_len W) R.wr hk (j:=0) (by omega) (x:=.int .i64 (v:Nat)) rfl J;rw [Nat.mul_one,Nat.add_zero] at this;rw [this]
 rfl
theorem RdAt.putG (R:RdAt h rid b L w g f kn W kG fG kF fF K) {kG2:List Int} {fG2:Int->Nat} (M:MapAt (h.put g (mapO zst kG2 fG2)) g zst kG2 fG2):RdAt (h.put g (mapO zst kG2 fG2)) rid b L w g f kn W kG2 fG2 kF fF K:=by
 obtain ⟨n1,n2,n3,n4,n5,n6,n7,n8⟩:=R.ne;exact ⟨by rw [z0x n2];exact R.obj,by rw [z0x n4];exact R.wr,M,MapAt.putO R.mf (Ne.symm R.gf),by rw [z0x n7.symm];exact R.kv,R.gf,R.lr,R.lw,R.lg,R.lf,R.lk⟩
theorem RdAt.putF (R:RdAt h rid b L w g f kn W kG fG kF fF K) {kF2:List (Int×Int)} {fF2:Int×Int->Nat} (M:MapAt (h.put f (mapO zm1 kF2 fF2)) f zm1 kF2 fF2):RdAt (h.put f (mapO zm1 kF2 fF2)) rid b L w g f kn W kG fG kF2 fF2 K:=by
 obtain ⟨n1,n2,n3,n4,n5,n6,n7,n8⟩:=R.ne;exact ⟨by rw [z0x n3];exact R.obj,by rw [z0x n5];exact R.wr,MapAt.putO R.mg R.gf,M,by rw [z0x n8.symm];exact R.kv,R.gf,R.lr,R.lw,R.lg,R.lf,R.lk⟩
def OwnR (rid w g f kn:Nat):Nat->Prop:=λi=>i=rid\/i=w\/i=g\/i=f\/i=kn
theorem read_5 {c:Cd} (hn:(slL b.Slots).length<=100) (hL:L.length<=1000) (wf:∀ x∈L,Wf c b x) (R0:RdAt h rid b L w g f kn (λ_=>0) [] (λ_=>0) [] (λ_=>0) K) (Q:z1z->Fr->z00->Prop)
  (hQ:∀ hh kG kF,RdAt hh rid b L w g f kn (wrW L) kG (cntG L) kF (cntF L) K->Keeps h hh (OwnR rid w g f kn)->Q (.exit 0) (frOf [(7,.ptr rid 0)]) hh) :
  WP Tryd.prog 94 (.loop z0z) (frOf [(7,.ptr rid 0),(46,slAV 8 z0a.cells (some L)),(47,.int .i64 L.length),(48,.int .i64 0)]) h Q:=by
 obtain ⟨I,hI⟩:∃ I:Nat->Fr->z00->Prop,I=(λm fr hh=>∃ (j:Nat) (kG:List Int) (kF:List (Int×Int)),m=L.length-j/\j<=L.length/\RdAt hh rid b L w g f kn (wrW (L.take j)) kG (cntG (L.take j)) kF (cntF (L.take j)) K/\Keeps h hh (OwnR rid w g f kn)/\fr=frOf [(7,.ptr rid 0),(46,slAV 8 z0a.cells (some L)),(47,.int .i64 L.length),(48,.int .i64 j)]):=⟨_,rfl⟩;refine z1i z0d (by kernel_rfl) I L.length (by rw [hI];exact ⟨0,[],[],rfl,Nat.zero_le _,R0,.refl _ _,rfl⟩) ?_;intro m fr hh hi;rw [hI] at hi;obtain ⟨j,kG,kF,rfl,hj,R,kp0,rfl⟩:=hi;apply zl2
 (repeat simp -dsimp -implicitDefEqProofs (disch:=omega) only [↓rP,rA,↓reduceIte,reduceEqDiff,reduceAdd,reduceLeDiff,↓tyr])
 refine z09 (λhjl=>?_) (λhjl=>?_)
 ·obtain ⟨x,hx⟩:∃ x,L[j]?=some x:=⟨_,List.getElem?_eq_getElem (by omega)⟩;have hxL:x∈L:=List.mem_of_getElem? hx;have wx:=wf x hxL;have hx':(slL (some L))[j]?=some x:=hx;have tk:L.take (j+1)=L.take j++[x]:=by rw [List.take_add_one,hx];rfl
  have tl:(L.take j).length=j:=by rw [List.length_take];omega
  (repeat simp -dsimp -implicitDefEqProofs (disch:=omega) only [↓rP,rA,↓reduceIte,reduceEqDiff,reduceAdd,reduceLeDiff,↓tyr,z06 hx'])
  refine z01.go (z8c x _) ?_;have ed:(if x.Op=1\/x.Op=2\/x.Op=3\/x.Op=4\/x.Op=8\/x.Op=9\/x.Op=10 then x.Dst else -1)=dstI x:=rfl;rw [ed];obtain ⟨H,hH⟩:∃ H,H=hh.push (.row 49 x.cells):=⟨_,rfl⟩;have kp:Keeps hh H (λ_=>False):=by rw [hH];exact Keeps.one _ _
  have R1:=R.keep kp;have kpH:Keeps h H (OwnR rid w g f kn):=kp0.trans kp (λ_ _ e=>e.elim);have ob:H.objs hh.next=some (.row 49 x.cells):=by rw [hH];exact z19 _ _
  rw [<-hH];have f0:∀ {G:z00} (hG:G.objs hh.next=some (.row 49 x.cells)) (J:AV->Prop),z0t none (.ptr hh.next 0) G J=J (.int .i64 x.Op):=λhG J=>by rw [z0b hG];rfl
  have f3:∀ J:AV->Prop,z0t none (.ptr hh.next 3) H J=J (.int .i64 x.Rec):=λJ=>by rw [z0b ob];rfl
  have f4:∀ J:AV->Prop,z0t none (.ptr hh.next 4) H J=J (.int .i64 x.N):=λJ=>by rw [z0b ob];rfl
  by_cases hd:0<=dstI x
  ·have hop:x.Op=1\/x.Op=2\/x.Op=3\/x.Op=4\/x.Op=8\/x.Op=9\/x.Op=10:=Classical.byContradiction λhn=>by unfold dstI at hd;rw [if_neg hn] at hd;omega
   obtain ⟨d,ed2,hdl⟩:∃ d:Nat,dstI x=d/\d<(slL b.Slots).length:=by
    unfold dstI;rw [if_pos hop];exact zh9 (wx.dst hop)
   rw [ed2];have eg:decide ((0:Int)<=(d:Int))=true:=by simp
   have e5:(x.Op == 5)=false:=by simp;omega
   have e6:(x.Op == 6)=false:=by simp;omega
   have hwl:=wrW_le (L.take j) (d:Nat);obtain ⟨G,hG⟩:∃ G,G=H.put w (.row 3 (rowN (λi=>if i=d then [.int .i64 ((wrW (L.take j) (d:Nat)+1:Nat):Int)] else wrC (wrW (L.take j)) i) (slL b.Slots).length)):=⟨_,rfl⟩;have hne:hh.next≠w:=by have:=R.lw;omega
   have obG:G.objs hh.next=some (.row 49 x.cells):=by rw [hG,z0x hne];exact ob
   have st:∀ J:z00->Prop,z14 1 (.ptr w d) (.int .i64 ((wrW (L.take j) (d:Nat)+1:Nat):Int)) H J=J G:=λJ=>by rw [hG];exact R1.wst hdl _ J
   (repeat simp -dsimp -implicitDefEqProofs (disch:=omega) only [↓rP,rA,↓reduceIte,reduceEqDiff,reduceAdd,reduceLeDiff,↓tyr,eg,R1.l4,ix_w .i64 hdl,R1.wrt hdl,wkP (wrW (L.take j) (d:Nat)) (by omega),↓st,f0 obG,e5,e6,wkP j (by omega)])
   rw [z07,hI];refine ⟨_,by omega,j+1,kG,kF,rfl,by omega,?_,?_,rfl⟩
   ·have:=R1.putW d (wrW (L.take j) (d:Nat)+1);rw [<-hG] at this;refine this.cw (λk=>?_) (funext λn=>?_) (funext λp=>?_)
    ·rw [tk,wrW_snoc,ed2];by_cases e:(k:Int)=(d:Nat)
     ·rw [if_pos e.symm,if_pos e,e]
     ·rw [if_neg (λh=>e h.symm),if_neg e,Nat.add_zero]
    ·rw [tk,zfs,if_neg (by omega)]
    ·rw [tk,zfr,if_neg (λh=>by omega)]
   ·rw [hG];exact kpH.putS (Or.inr (Or.inl rfl)) _
  ·have eg:decide ((0:Int)<=dstI x)=false:=decide_eq_false hd;have hW:∀ k:Nat,wrW (L.take (j+1)) k=wrW (L.take j) k:=λk=>by rw [tk,wrW_snoc,if_neg (by omega),Nat.add_zero]
   by_cases h5:x.Op=5
   ·have e5:(x.Op == 5)=true:=by simpa using h5
    have hcl:=cntG_le (L.take j) x.N;have lk:∀ J:AV->Prop,z3k (some (KeyK.int,.int .i64 0)) (.mapv g) (.int .i64 x.N) H J=J (.int .i64 (cntG (L.take j) x.N:Nat)):=λJ=>R1.mg.lookup zkm x.N J;have st:∀ J:z00->Prop,zbr (some (KeyK.int,.int .i64 0)) (.mapv g) (.int .i64 x.N) (.int .i64 ((cntG (L.take j) x.N+1:Nat):Int)) H J=J (H.put g (mapO zst (addK kG x.N) (updF (cntG (L.take j)) x.N (cntG (L.take j) x.N+1)))):=λJ=>R1.mg.set zkm _ x.N _ J
    (repeat simp -dsimp -implicitDefEqProofs (disch:=omega) only [↓rP,rA,↓reduceIte,reduceEqDiff,reduceAdd,reduceLeDiff,↓tyr,eg,f0 ob,e5,R1.l5,f4,↓lk,wkP (cntG (L.take j) x.N) (by omega),↓st,wkP j (by omega)])
    rw [z07,hI];refine ⟨_,by omega,j+1,_,kF,rfl,by omega,(R1.putG (R1.mg.upd x.N (cntG (L.take j) x.N+1))).cw hW (funext λn=>?_) (funext λp=>?_),kpH.putS (Or.inr (Or.inr (Or.inl rfl))) _,rfl⟩
    ·rw [tk,zfs];unfold updF;by_cases e:n=x.N
     ·subst e;rw [if_pos ⟨h5,rfl⟩,if_pos rfl]
     ·rw [if_neg (λh=>e h.2.symm),if_neg e]
    ·rw [tk,zfr,if_neg (λh=>by omega)]
   ·have e5:(x.Op == 5)=false:=by simpa using h5
    by_cases h6:x.Op=6
    ·have e6:(x.Op == 6)=true:=by simpa using h6
     have hcl:=cntF_le (L.take j) (x.Rec,x.N);have bp:∀ J:AV->Prop,z4b [(0,1),(1,1)] [AV.int .i64 0,AV.int .i64 0] [(0,.int .i64 x.Rec),(1,.int .i64 x.N)] J=J (.agg [.int .i64 x.Rec,.int .i64 x.N]):=λJ=>rfl;have lk:∀ J:AV->Prop,z3k (some (KeyK.flat [LK.int,LK.int],.int .i64 0)) (.mapv f) (.agg [.int .i64 x.Rec,.int .i64 x.N]) H J=J (.int .i64 (cntF (L.take j) (x.Rec,x.N):Nat)):=λJ=>R1.mf.lookup zdn (x.Rec,x.N) J;obtain ⟨G,hG⟩:∃ G,G=H.put f (mapO zm1 (addK kF (x.Rec,x.N)) (cntF (L.take j))):=⟨_,rfl⟩;have MG:MapAt G f zm1 (addK kF (x.Rec,x.N)) (cntF (L.take j)):=by rw [hG];exact R1.mf.ent (x.Rec,x.N)
     have en:∀ J:AV->z00->Prop,z5x (some (KeyK.flat [LK.int,LK.int],.int .i64 0)) (.mapv f) (.agg [.int .i64 x.Rec,.int .i64 x.N]) H J=J (.tup [.int .i64 (cntF (L.take j) (x.Rec,x.N):Nat),.int .i64 (idxK (addK kF (x.Rec,x.N)) (x.Rec,x.N):Nat)]) G:=λJ=>by rw [hG];exact R1.mf.entry zdn (x.Rec,x.N) J
     have lkG:∀ J:AV->Prop,z3k (some (KeyK.flat [LK.int,LK.int],.int .i64 0)) (.mapv f) (.agg [.int .i64 x.Rec,.int .i64 x.N]) G J=J (.int .i64 (cntF (L.take j) (x.Rec,x.N):Nat)):=λJ=>MG.lookup zdn (x.Rec,x.N) J;obtain ⟨G2,hG2⟩:∃ G2,G2=G.put f (mapO zm1 (addK kF (x.Rec,x.N)) (updF (cntF (L.take j)) (x.Rec,x.N) (cntF (L.take j) (x.Rec,x.N)+1))):=⟨_,rfl⟩;have st:∀ J:z00->Prop,z3q (.mapv f) (.int .i64 (idxK (addK kF (x.Rec,x.N)) (x.Rec,x.N):Nat)) (.int .i64 ((cntF (L.take j) (x.Rec,x.N)+1:Nat):Int)) G J=J G2:=λJ=>by rw [hG2];exact MG.store (addK_mem _ _) _ J
     have ex:∀ (a b:AV) (J:AV->Prop),z6q 1 (.tup [a,b]) J=J b:=λa b J=>rfl;have eG2:G2=H.put f (mapO zm1 (addK kF (x.Rec,x.N)) (updF (cntF (L.take j)) (x.Rec,x.N) (cntF (L.take j) (x.Rec,x.N)+1))):=by rw [hG2,hG,zpj]
     have fin:I (L.length-(j+1)) (frOf [(7,.ptr rid 0),(46,slAV 8 z0a.cells (some L)),(47,.int .i64 L.length),(48,.int .i64 ((j+1:Nat):Int))]) G2:=by
      rw [hI];refine ⟨j+1,kG,addK kF (x.Rec,x.N),rfl,by omega,?_,by rw [eG2];exact kpH.putS (Or.inr (Or.inr (Or.inr (Or.inl rfl)))) _,rfl⟩;rw [eG2];refine (R1.putF (R1.mf.upd (x.Rec,x.N) (cntF (L.take j) (x.Rec,x.N)+1))).cw hW (funext λn=>?_) (funext λp=>?_)
      ·rw [tk,zfs,if_neg (λh=>h5 h.1)]
      ·rw [tk,zfr];unfold updF;by_cases e:p=(x.Rec,x.N)
       ·subst e;rw [if_pos ⟨h6,rfl⟩,if_pos rfl]
       ·rw [if_neg (λh=>e h.2.symm),if_neg e]
     (repeat simp -dsimp -implicitDefEqProofs (disch:=omega) only [↓rP,rA,↓reduceIte,reduceEqDiff,reduceAdd,reduceLeDiff,↓tyr,eg,f0 ob,e5,e6,R1.l6,f3,f4,↓bp,↓lk,↓lkG,↓en,↓ex,wkP (cntF (L.take j) (x.Rec,x.N)) (by omega),↓st,wkP j (by omega)])
     rw [z07];exact ⟨⟨_,by omega,fin⟩,_,by omega,fin⟩
    ·have e6:(x.Op == 6)=false:=by simpa using h6
     (repeat simp -dsimp -implicitDefEqProofs (disch:=omega) only [↓rP,rA,↓reduceIte,reduceEqDiff,reduceAdd,reduceLeDiff,↓tyr,eg,f0 ob,e5,e6,wkP j (by omega)])
     rw [z07,hI];refine ⟨_,by omega,j+1,kG,kF,rfl,by omega,R1.cw hW (funext λn=>?_) (funext λp=>?_),kpH,rfl⟩
     ·rw [tk,zfs,if_neg (λh=>h5 h.1)]
     ·rw [tk,zfr,if_neg (λh=>h6 h.1)]
 ·(repeat simp -dsimp -implicitDefEqProofs (disch:=omega) only [↓rP,rA,↓reduceIte,reduceEqDiff,reduceAdd,reduceLeDiff,↓tyr])
  have e:j=L.length:=by omega
  subst e;rw [List.take_length] at R;exact hQ hh kG kF R kp0
end
end
section
open Go.Abs
structure znz (c:Cd) (sec:z04) (t:Nat) (b:Bd) (fr to:Nat):Prop where
 thr:sec.Thread=t
 bd:(slL c.Threads)[t]?=some b
 frm:sec.From=fr
 to_:sec.To=to
 lt:fr<to
 le:to<(slL b.Code).length
theorem sec_of {c:Cd} (h:okC c=true) {s:Nat} {sec:z04} (hs:(slL c.Sections)[s]?=some sec):∃ t b fr to,znz c sec t b fr to:=by
 obtain ⟨-,-,-,h4,-,-,-⟩:=zgj h;simp only [z5t,Bool.and_eq_true,decide_eq_true_eq] at h4;have h5:=z2h.1 h4.2 s sec hs;simp only [secB,z95,z4a,Bool.and_eq_true,decide_eq_true_eq] at h5;obtain ⟨⟨⟨⟨h0,hlt⟩,-⟩,hto⟩,-⟩:=h5
 cases hb:getI (slL c.Threads) sec.Thread with
 | none=>rw [hb] at hto;simp at hto
 | some b=>
  rw [hb] at hto;simp only at hto
  cases hx:getI (slL b.Code) sec.To with
  | none=>rw [hx] at hto;simp at hto
  | some x=>
   obtain ⟨t,et,hb2⟩:=zdm hb;have h6:=getI_btw hx;exact ⟨t,b,sec.From.toNat,sec.To.toNat,et,hb2,by omega,by omega,by omega,by omega⟩
def secL (b:Bd) (fr to:Nat):List In:=((slL b.Code).take (to+1)).drop fr
theorem secL_mem {b:Bd} {fr to:Nat} {x:In} (h:x∈secL b fr to):∃ a:Nat,(slL b.Code)[a]?=some x:=List.getElem?_of_mem (List.mem_of_mem_take (List.mem_of_mem_drop h))
theorem zh3 (b:Bd) (fr to:Nat):(secL b fr to).length<=(slL b.Code).length:=by
 unfold secL;rw [List.length_drop,List.length_take];omega
theorem sec_wf {c:Cd} (wc:WfC c) {sec:z04} {t fr to:Nat} {b:Bd} (S:znz c sec t b fr to):∀ x∈secL b fr to,Wf c b x:=λx hx=>by
 obtain ⟨a,ha⟩:=secL_mem hx;exact wc.ins t a b x S.bd ha
theorem sec_among {c:Cd} {b:Bd} {L:List In} (wf:∀ x∈L,Wf c b x):Among L (slL b.Slots).length:=λx hx=>by
 unfold dstI;split
 ·rename_i hop
  right
  obtain ⟨k,e,hk⟩:=zh9 ((wf x hx).dst hop);exact ⟨k,e,hk⟩
 ·exact Or.inl rfl
def oW (n:Nat):AObj:=.row 3 (rowN (wrC λ_=>0) n)
def oK (n:Nat):AObj:=.row 122 (rowN (knC λ_=>vUnk) n)
theorem mk_rep (f:Nat->List AV) (z:List AV) (hf:∀ k,f k=z) (n:Nat):repC n z=rowN f n:=by
 rw [ztu];unfold rowN
 congr 1
 apply List.ext_getElem?;intro i;rw [List.getElem?_replicate,List.getElem?_map];by_cases hi:i<n
 ·rw [if_pos hi,List.getElem?_range hi];simp [hf]
 ·rw [if_neg hi,List.getElem?_eq_none (by simp;omega)];rfl
theorem mkW {n:Nat} (hn:n<=1000) (H:z00) (K:AV->z00->Prop):z6r { e:=3,sz:=1,by_:=8 } [.int .i64 0] (.int .i64 (n:Int)) (.int .i64 (n:Int)) H K=K (.sl H.next 0 n 1) (H.push (oW n)):=by
 have e:repC n [AV.int .i64 0]=rowN (wrC λ_=>0) n:=mk_rep _ _ (λ_=>rfl) n;simp only [z6r,Int.toNat_natCast,e];apply propext;constructor
 ·rintro ⟨-,-,-,-,-,hk⟩;exact hk
 ·intro hk;exact ⟨by omega,by omega,by omega,by omega,rfl,hk⟩
theorem mkK {n:Nat} (hn:n<=1000) (H:z00) (K:AV->z00->Prop):z6r { e:=122,sz:=4,by_:=48 } [.int .i64 0,.bool false,.int .i64 0,.nils] (.int .i64 (n:Int)) (.int .i64 (n:Int)) H K=K (.sl H.next 0 n 4) (H.push (oK n)):=by
 have e:repC n [AV.int .i64 0,.bool false,.int .i64 0,.nils]=rowN (knC λ_=>vUnk) n:=mk_rep _ _ (λ_=>rfl) n;simp only [z6r,Int.toNat_natCast,e];apply propext;constructor
 ·rintro ⟨-,-,-,-,-,hk⟩;exact hk
 ·intro hk;exact ⟨by omega,by omega,by omega,by omega,rfl,hk⟩
theorem mkM (H:z00) (K:AV->z00->Prop):zgm H K=K (.mapv H.next) (H.push (.map [] [])):=rfl
theorem mkR0 {h:z00} {rid w g f kn:Nat} {b:Bd} {L:List In} (h1:h.objs rid=some (.row 120 (zmh b L w g f kn (slL b.Slots).length))) (h2:h.objs w=some (oW (slL b.Slots).length)) (h3:h.objs g=some (.map [] [])) (h4:h.objs f=some (.map [] [])) (h5:h.objs kn=some (oK (slL b.Slots).length)) (gf:g≠f) (l1:rid<h.next) (l2:w<h.next) (l3:g<h.next) (l4:f<h.next) (l5:kn<h.next) :
  RdAt h rid b L w g f kn (λ_=>0) [] (λ_=>0) [] (λ_=>0) (λ_=>vUnk):=⟨h1,h2,⟨h3,by simp,λ_ _=>rfl⟩,⟨h4,by simp,λ_ _=>rfl⟩,h5,gf,l1,l2,l3,l4,l5⟩
theorem sl_slAV (l:List In) (fr to:Nat):slAV 8 z0a.cells (some ((l.take to).drop fr))=.isl 8 (((l.map z0a.cells).take to).drop fr):=by simp [slAV,List.map_take,List.map_drop]
def ReadQ (h:z00) (b:Bd) (L:List In) (v:AV) (h2:z00):Prop:=∃ rid w g f kn kG kF,v=.ptr rid 0/\RdAt h2 rid b L w g f kn (wrW L) kG (cntG L) kF (cntF L) (λ_=>vUnk)/\Keeps h h2 (λ_=>False)/\h.next<=kn
theorem read_does {c:Cd} (wc:WfC c) {s:Nat} {sec:z04} (hs:(slL c.Sections)[s]?=some sec) {t fr to:Nat} {b:Bd} (S:znz c sec t b fr to) (h:z00) :
  z01 Tryd.prog 58 [.agg c.cells,.int .i64 (s:Nat)] h (λv h2=>ReadQ h b (secL b fr to) v h2):=by
 have hsl:=wc.slo t b S.bd;have wf:=sec_wf wc S;have hL:=zh3 b fr to;have hlt:=S.lt;have hle:=S.le;obtain ⟨B,hB⟩:∃ B,B=(h.push (.row 54 sec.cells)).push (.row 52 b.cells):=⟨_,rfl⟩;have nB:B.next=h.next+2:=by rw [hB];rfl
 have kB:Keeps h B (λ_=>False):=by rw [hB];exact (Keeps.one _ _).z5e _
 have o1:B.objs h.next=some (.row 54 sec.cells):=by rw [hB,z16 (by simp),z19]
 have o2:B.objs (h.next+1)=some (.row 52 b.cells):=by rw [hB];exact z19 (h.push (.row 54 sec.cells)) _
 apply zro
 (repeat simp -dsimp -implicitDefEqProofs (disch:=omega) only [↓rP,rA,↓reduceIte,reduceEqDiff,reduceAdd,reduceLeDiff,↓tyr,z06 hs,S.thr,z06 S.bd])
 rw [<-hB];have s1:∀ {H:z00} (k:Keeps B H (λ_=>False)) (J:AV->Prop),z0t none (.ptr h.next 1) H J=J (.int .i64 fr):=λk J=>by rw [z0b (by rw [k.objs _ (by omega) (by simp)];exact o1),<-S.frm];rfl
 have s2:∀ {H:z00} (k:Keeps B H (λ_=>False)) (J:AV->Prop),z0t none (.ptr h.next 2) H J=J (.int .i64 to):=λk J=>by rw [z0b (by rw [k.objs _ (by omega) (by simp)];exact o1),<-S.to_];rfl
 have b0:∀ {H:z00} (k:Keeps B H (λ_=>False)) (J:AV->Prop),z0t none (.ptr (h.next+1) 0) H J=J (slAV 3 z08.cells b.Slots):=λk J=>by rw [z0b (by rw [k.objs _ (by omega) (by simp)];exact o2)];rfl
 have b1:∀ {H:z00} (k:Keeps B H (λ_=>False)) (J:AV->Prop),z0t none (.ptr (h.next+1) 1) H J=J (slAV 8 z0a.cells b.Code):=λk J=>by rw [z0b (by rw [k.objs _ (by omega) (by simp)];exact o2)];rfl
 have b3:∀ {H:z00} (k:Keeps B H (λ_=>False)) (J:AV->Prop),z0t (some 3) (.ptr (h.next+1) 0) H J=J (.agg b.cells):=λk J=>by rw [z0b (by rw [k.objs _ (by omega) (by simp)];exact o2)];exact z0m.call b J
 have kr:=Keeps.refl B (λ_=>False);have slc:∀ J:AV->Prop,z4n 8 (slAV 8 z0a.cells b.Code) (some (.int .i64 (fr:Nat))) (some (.int .i64 ((to+1:Nat):Int))) J=J (slAV 8 z0a.cells (some (secL b fr to))):=λJ=>by
  obtain ⟨l,el⟩:∃ l,b.Code=some l:=by
   cases hc:b.Code with
   | none=>rw [hc] at hle;simp at hle
   | some l=>exact ⟨l,rfl⟩
  have e1:slAV 8 z0a.cells (some (secL b fr to))=.isl 8 (((l.map z0a.cells).take (to+1)).drop fr):=by unfold secL;rw [el];exact sl_slAV l fr (to+1)
  rw [e1,el];rw [el] at hle;simp only [zh4] at hle;simp only [z4n,slAV,bnd,Int.toNat_natCast,List.length_map];apply propext;constructor
  ·rintro ⟨-,-,-,-,hk⟩;exact hk
  ·intro hk;exact ⟨trivial,by omega,by omega,by omega,hk⟩
 (repeat simp -dsimp -implicitDefEqProofs (disch:=omega) only [↓rP,rA,↓reduceIte,reduceEqDiff,reduceAdd,reduceLeDiff,↓tyr,s1 kr,s2 kr,wkP to (by omega),↓slc])
 have nx:(h.push (.row 54 sec.cells)).next=h.next+1:=rfl;rw [nx];obtain ⟨n,en⟩:∃ n,n=(slL b.Slots).length:=⟨_,rfl⟩;have hn:n<=1000:=by omega
 obtain ⟨L,eL⟩:∃ L,L=secL b fr to:=⟨_,rfl⟩;have bd:∀ (w g f kn:Nat) (J:AV->Prop),z4b [(0,3),(3,1),(4,1),(5,1),(6,1),(7,1)] [AV.nils,AV.nils,AV.int .i64 0,AV.nils,AV.nils,AV.nilm,AV.nilm,AV.nils] [(0,.agg b.cells),(1,slAV 8 z0a.cells (some L)),(2,.sl w 0 n 1),(3,.mapv g),(4,.mapv f),(5,.sl kn 0 n 4)] J=J (.agg (zmh b L w g f kn n)):=λw g f kn J=>by
  have e:slAV 8 z0a.cells (some L)=.isl 8 (L.map z0a.cells):=rfl;unfold zmh;rw [e];simp [z4b,zez,AV.fits,AV.cells,z0m.cells]
 have bx:∀ (w g f kn:Nat) (H:z00) (J:AV->z00->Prop),pBox false 120 (.agg (zmh b L w g f kn n)) H J=J (.ptr H.next 0) (H.push (.row 120 (zmh b L w g f kn n))):=λw g f kn H J=>by
  simp [pBox,AV.fits,AV.cells,zmh]
 have l3:∀ (w g f kn:Nat) (H:z00) (J:AV->Prop),z0t none (.ptr H.next 3) (H.push (.row 120 (zmh b L w g f kn n))) J=J (slAV 8 z0a.cells (some L)):=λw g f kn H J=>by
  rw [z0b (z19 _ _)];rfl
 have lL:∀ (J:AV->Prop),pLen .slice (slAV 8 z0a.cells (some L)) J=J (.int .i64 L.length):=λJ=>by simp
 rw [<-eL];rw [<-eL] at hL wf;simp -dsimp -implicitDefEqProofs (disch:=first | omega | (repeat (first | exact Keeps.refl _ _ | refine Keeps.z5e ?_ _))) only [↓rP,rQ,rO,rL,↓reduceIte,reduceEqDiff,reduceAdd,reduceLeDiff,↓tyr,s1,s2,b0,b1,b3,<-en,mkW hn,mkK hn,mkM,↓bd,↓bx,l3,↓lL];have leaf:∀ (X:z00) (w g f kn:Nat),Keeps B X (λ_=>False)->X.objs w=some (oW n)->X.objs g=some (.map [] [])->X.objs f=some (.map [] [])->X.objs kn=some (oK n)->g≠f->(B.next<=w/\w<X.next)->(B.next<=g/\g<X.next)->(B.next<=f/\f<X.next)->(B.next<=kn/\kn<X.next)->
   WP Tryd.prog 94 (.loop z0z) (frOf [(7,.ptr X.next 0),(46,slAV 8 z0a.cells (some L)),(47,.int .i64 L.length),(48,.int .i64 0)]) (X.push (.row 120 (zmh b L w g f kn n))) (z7e (later (λfr68 h69=>False) ()) (later (λx70 fr71 h72=>pIdx x70 0 (pIdx 0 0 (ReadQ h b L (fr71 7) h72) False) False) ()) (later (λfr73 h74=>ReadQ h b L (fr73 4) h74) ())):=by
  intro X w g f kn kX ow og of_ ok gf lw lg lf lk;subst en;refine read_5 (rid:=X.next) (w:=w) (g:=g) (f:=f) (kn:=kn) (K:=λ_=>vUnk) (by omega) (by omega) wf (mkR0 (z19 _ _) (by rw [z16 lw.2];exact ow) (by rw [z16 lg.2];exact og) (by rw [z16 lf.2];exact of_) (by rw [z16 lk.2];exact ok) gf (by simp) (by simp;omega) (by simp;omega) (by simp;omega) (by simp;omega)) _ ?_;intro hh kG kF R kp;have k1:=(kB.go kX).z5e (.row 120 (zmh b L w g f kn (slL b.Slots).length));have hX:=kX.next
  (repeat simp -dsimp -implicitDefEqProofs (disch:=omega) only [↓rP,rA,↓reduceIte,reduceEqDiff,reduceAdd,reduceLeDiff,↓tyr])
  refine ⟨X.next,w,g,f,kn,kG,kF,rfl,R,⟨Nat.le_trans k1.next kp.next,λi hi hs=>?_⟩,by omega⟩;rw [kp.objs i (Nat.lt_of_lt_of_le hi k1.next) (by rintro (e | e | e | e | e) <;> omega)];exact k1.objs i hi hs
 repeat' (first | refine And.intro ?_ ?_ | exact leaf _ _ _ _ _ (by repeat (first | exact Keeps.refl _ _ | refine Keeps.z5e ?_ _)) (by simp only [z00.z3l,z00.z2z];repeat (first | rfl | rw [if_pos (by omega)] | rw [if_neg (by omega)])) (by simp only [z00.z3l,z00.z2z];repeat (first | rfl | rw [if_pos (by omega)] | rw [if_neg (by omega)])) (by simp only [z00.z3l,z00.z2z];repeat (first | rfl | rw [if_pos (by omega)] | rw [if_neg (by omega)])) (by simp only [z00.z3l,z00.z2z];repeat (first | rfl | rw [if_pos (by omega)] | rw [if_neg (by omega)])) (by simp only [z00.z2z];omega) (by simp only [z00.z2z];omega) (by simp only [z00.z2z];omega) (by simp only [z00.z2z];omega) (by simp only [z00.z2z];omega))
end
section
open Go.Abs
theorem ids_vls (D:Nat->Prop) (o:Option (List Vl)):z1w D (slAV 4 z0n.cells o):=by
 cases o with
 | none=>exact trivial
 | some l=>
  show z9x D (l.map z0n.cells)
  induction l with
  | nil=>exact trivial
  | cons a l ih=>exact ⟨⟨trivial,trivial,trivial,zbk _ _,trivial⟩,ih⟩
def pathL (b:Bd) (L:List In):List Vl:=(List.range (slL b.Slots).length).map λk=>ofV L (onB b) (slL b.Slots).length (k:Nat)
noncomputable def zbu (c:Cd) (s:Int):Option (List Vl):=if okC c=true then (match getI (slL c.Sections) s with | some sec=>(match getI (slL c.Threads) sec.Thread with | some b=>some (pathL b (secL b sec.From.toNat sec.To.toNat)) | none=>none) | none=>none) else none
theorem zne {c:Cd} (h:okC c=true) {s:Nat} {sec:z04} (hs:(slL c.Sections)[s]?=some sec) {t fr to:Nat} {b:Bd} (S:znz c sec t b fr to):zbu c (s:Nat)=some (pathL b (secL b fr to)):=by
 unfold zbu;rw [if_pos h,z2e,hs];simp only;rw [S.thr,z2e,S.bd,S.frm,S.to_]
 rfl
section
variable {h:z00} {rid w g f kn:Nat} {b:Bd} {L:List In} {W:Int->Nat} {kG:List Int} {fG:Int->Nat} {kF:List (Int×Int)} {fF:Int×Int->Nat} {K:Int->Vl}
theorem round_does {c:Cd} (hn:(slL b.Slots).length<=100) (hL:L.length<=1000) (wf:∀ x∈L,Wf c b x) (R:RdAt h rid b L w g f kn (wrW L) kG (cntG L) kF (cntF L) K) (s0:Snd L (onB b) K) (f0:FL K) :
  z01 Tryd.prog 59 [.ptr rid 0] h (λv h2=>∃ K2 more,v=.bool more/\RR h h2 rid b L w g f kn kG kF K K2 more L.length):=by
 apply ze8;have lL:∀ (J:AV->Prop),pLen .slice (slAV 8 z0a.cells (some L)) J=J (.int .i64 L.length):=λJ=>by simp
 (repeat simp -dsimp -implicitDefEqProofs (disch:=omega) only [↓rP,rA,↓reduceIte,reduceEqDiff,reduceAdd,reduceLeDiff,↓tyr,R.l3,↓lL])
 refine vround_3 hn hL wf K R s0 f0 _ ?_;intro hh K2 more r
 (repeat simp -dsimp -implicitDefEqProofs (disch:=omega) only [↓rP,rA,↓reduceIte,reduceEqDiff,reduceAdd,reduceLeDiff,↓tyr])
 exact ⟨K2,more,rfl,r⟩
theorem RdAt.ck (R:RdAt h rid b L w g f kn W kG fG kF fF K) {K2:Int->Vl} (hk:∀ k:Nat,k<(slL b.Slots).length->K2 k=K k):RdAt h rid b L w g f kn W kG fG kF fF K2:=
 { R with kv:=by rw [R.kv];congr 2;exact z7k λk hk2=>by unfold knC;rw [hk k hk2] }
def uptoV (L:List In) (j:Nat):Int->Vl:=λk=>if k<(j:Nat) then zb6 L k else vUnk
theorem zfg {L:List In} {j k:Nat} (h:k<j):uptoV L j (k:Nat)=zb6 L (k:Nat):=by unfold uptoV;rw [if_pos (by omega)]
theorem zi7 {L:List In} {j k:Nat} (h:j<=k):uptoV L j (k:Nat)=vUnk:=by unfold uptoV;rw [if_neg (by omega)]
theorem of_5 (hn:(slL b.Slots).length<=100) (hL:L.length<=1000) (R0:RdAt h rid b L w g f kn (wrW L) kG (cntG L) kF (cntF L) (λ_=>vUnk)) (Q:z1z->Fr->z00->Prop)
  (hQ:∀ hh,RdAt hh rid b L w g f kn (wrW L) kG (cntG L) kF (cntF L) (zb6 L)->Keeps h hh (λi=>i=kn)->Q (.exit 0) (frOf [(5,.ptr rid 0)]) hh) :
  WP Tryd.prog 53 (.loop zep) (frOf [(5,.ptr rid 0),(28,.sl w 0 (slL b.Slots).length 1),(29,.int .i64 (slL b.Slots).length),(30,.int .i64 0)]) h Q:=by
 obtain ⟨n,en⟩:∃ n,n=(slL b.Slots).length:=⟨_,rfl⟩;obtain ⟨I,hI⟩:∃ I:Nat->Fr->z00->Prop,I=(λm fr hh=>∃ (j:Nat),m=n-j/\j<=n/\RdAt hh rid b L w g f kn (wrW L) kG (cntG L) kF (cntF L) (uptoV L j)/\Keeps h hh (λi=>i=kn)/\fr=frOf [(5,.ptr rid 0),(28,.sl w 0 n 1),(29,.int .i64 n),(30,.int .i64 j)]):=⟨_,rfl⟩;rw [<-en];refine z1i z0d (by kernel_rfl) I n (by rw [hI];exact ⟨0,rfl,Nat.zero_le _,R0.ck (λk _=>zi7 (by omega)),.refl _ _,rfl⟩) ?_;intro m fr hh hi;rw [hI] at hi;obtain ⟨j,rfl,hj,R,kp,rfl⟩:=hi;apply zov
 (repeat simp -dsimp -implicitDefEqProofs (disch:=omega) only [↓rP,rA,↓reduceIte,reduceEqDiff,reduceAdd,reduceLeDiff,↓tyr])
 refine z09 (λhjl=>?_) (λhjl=>?_)
 ·have hjn:j<(slL b.Slots).length:=by omega
  (repeat simp -dsimp -implicitDefEqProofs (disch:=omega) only [↓rP,rA,↓reduceIte,reduceEqDiff,reduceAdd,reduceLeDiff,↓tyr,ix_w .i64 (show j<n by omega),R.wrt hjn])
  cases hb:byS L (j:Nat) with
  | nil=>
   have e0:(((wrW L (j:Nat):Nat):Int) == 0)=true:=by simp [wrW,hb]
   have b1:∀ J:AV->Prop,z4b [(0,1),(1,1),(2,1)] [AV.bool false,AV.int .i64 0,AV.nils] [(1,.int .i64 (j:Nat))] J=J (.agg [.bool false,.int .i64 (j:Nat),.nils]):=λJ=>rfl;have b2:∀ J:AV->Prop,z4b [(0,1),(1,3)] [AV.int .i64 0,AV.bool false,AV.int .i64 0,AV.nils] [(0,.int .i64 2),(1,.agg [.bool false,.int .i64 (j:Nat),.nils])] J=J (.agg (vWay false (j:Nat)).cells):=λJ=>rfl;have st:∀ J:z00->Prop,z14 4 (.ptr kn (j*4)) (.agg (vWay false (j:Nat)).cells) hh J=J (hh.put kn (.row 122 (rowN (λi=>if i=j then (vWay false (j:Nat)).cells else knC (uptoV L j) i) (slL b.Slots).length))):=λJ=>zno (zht _) R.kv hjn rfl J
   (repeat simp -dsimp -implicitDefEqProofs (disch:=omega) only [↓rP,rA,↓reduceIte,reduceEqDiff,reduceAdd,reduceLeDiff,↓tyr,e0,R.l7,↓b1,↓b2,ix_k .i64 hjn,↓st,wkP j (by omega)])
   rw [z07,hI];refine ⟨_,by omega,j+1,rfl,by omega,(R.upd j (vWay false (j:Nat))).ck (λk hk=>?_),kp.putS rfl _,rfl⟩;unfold updV;by_cases e:k=j
   ·subst e;rw [zfg (by omega),if_pos rfl];simp [zb6,hb]
   ·rw [if_neg (show ¬ (k:Int)=j by omega)];by_cases e2:k<j
    ·rw [zfg (by omega),zfg e2]
    ·rw [zi7 (by omega),zi7 (by omega)]
  | cons x l=>
   have e0:(((wrW L (j:Nat):Nat):Int) == 0)=false:=by simp [wrW,hb];omega
   (repeat simp -dsimp -implicitDefEqProofs (disch:=omega) only [↓rP,rA,↓reduceIte,reduceEqDiff,reduceAdd,reduceLeDiff,↓tyr,e0,wkP j (by omega)])
   rw [z07,hI];refine ⟨_,by omega,j+1,rfl,by omega,R.ck (λk hk=>?_),kp,rfl⟩;by_cases e:k=j
   ·subst e;rw [zfg (by omega),zi7 (Nat.le_refl _)];unfold zb6;rw [hb]
   ·by_cases e2:k<j
    ·rw [zfg (by omega),zfg e2]
    ·rw [zi7 (by omega),zi7 (by omega)]
 ·(repeat simp -dsimp -implicitDefEqProofs (disch:=omega) only [↓rP,rA,↓reduceIte,reduceEqDiff,reduceAdd,reduceLeDiff,↓tyr])
  have:j=n:=by omega
  subst this;exact hQ hh (R.ck (λk hk=>(zfg (by omega)).symm)) kp
theorem of_10 {c:Cd} (hn:(slL b.Slots).length<=100) (hL:L.length<=1000) (wf:∀ x∈L,Wf c b x) (R0:RdAt h rid b L w g f kn (wrW L) kG (cntG L) kF (cntF L) K) (s0:Snd L (onB b) K) (f0:FL K) (Q:z1z->Fr->z00->Prop)
  (hQ:∀ hh K2,RdAt hh rid b L w g f kn (wrW L) kG (cntG L) kF (cntF L) K2->Keeps h hh (λi=>i=kn)->Snd L (onB b) K2->Done L (onB b) K2->Q (.exit 2) (frOf [(5,.ptr rid 0)]) hh) :
  WP Tryd.prog 53 (.loop zcq) (frOf [(5,.ptr rid 0)]) h Q:=by
 obtain ⟨I,hI⟩:∃ I:Nat->Fr->z00->Prop,I=(λm fr hh=>∃ K2,m=cU (slL b.Slots).length K2/\RdAt hh rid b L w g f kn (wrW L) kG (cntG L) kF (cntF L) K2/\Keeps h hh (λi=>i=kn)/\Snd L (onB b) K2/\FL K2/\fr=frOf [(5,.ptr rid 0)]):=⟨_,rfl⟩;refine z1i z0d (by kernel_rfl) I (cU (slL b.Slots).length K) (by rw [hI];exact ⟨K,rfl,R0,.refl _ _,s0,f0,rfl⟩) ?_;intro m fr hh hi;rw [hI] at hi;obtain ⟨K2,rfl,R,kp,s,fl,rfl⟩:=hi;apply zmd;refine (round_does hn hL wf R s fl).mono ?_;rintro _ h2 ⟨K3,more,rfl,r⟩
 cases more with
 | true=>
  (repeat simp -dsimp -implicitDefEqProofs (disch:=omega) only [↓rP,rA,↓reduceIte,reduceEqDiff,reduceAdd,reduceLeDiff,↓tyr])
  rw [z07,hI];exact ⟨_,r.yes rfl,K3,rfl,r.rd,kp.trans r.kp (λ_ _ e=>e),r.snd,r.fl,rfl⟩
 | false=>
  (repeat simp -dsimp -implicitDefEqProofs (disch:=omega) only [↓rP,rA,↓reduceIte,reduceEqDiff,reduceAdd,reduceLeDiff,↓tyr])
  obtain ⟨e,d⟩:=r.no rfl;subst e;exact hQ h2 K3 r.rd (kp.trans r.kp (λ_ _ e=>e)) r.snd d.all
end
theorem Of_k (c:Cd) (hc:c.ok) (sm:Small c) (s:Int) (h:z00):z01 Tryd.prog 35 [.agg c.cells,.int .i64 s] h (λv h2=>(v=.nils/\zbu c s=none/\Keeps h h2 (λ_=>False))\/∃ (kn n:Nat) (K:Int->Vl),v=.sl kn 0 n 4/\n<=100/\h2.objs kn=some (.row 122 (rowN (knC K) n))/\h.next<=kn/\Keeps h h2 (λ_=>False)/\zbu c s=some ((List.range n).map λk=>K (k:Nat))):=by
 have lc:∀ (H:z00) (K:AV->Prop),z0t (some 5) (.iptr c.cells) H K=K (.agg c.cells):=λH K=>by rw [z1q];exact z0f.call c K
 apply path_Of_wp
 (repeat simp -dsimp -implicitDefEqProofs (disch:=omega) only [↓rP,rA,↓reduceIte,reduceEqDiff,reduceAdd,reduceLeDiff,↓tyr,↓lc])
 refine z01.go (zbf c hc sm _) ?_
 cases hok:okC c with
 | false=>
  have hn:zbu c s=none:=by unfold zbu;rw [if_neg (by rw [hok];simp)]
  (repeat simp -dsimp -implicitDefEqProofs (disch:=omega) only [↓rP,rA,↓reduceIte,reduceEqDiff,reduceAdd,reduceLeDiff,↓tyr])
  exact Or.inl ⟨hn,.refl _ _⟩
 | true=>
  have wc:=zse hok;by_cases h0:s<0
  ·have e0:decide (s<0)=true:=decide_eq_true h0;have hn:zbu c s=none:=by
    unfold zbu;rw [if_pos hok];have:getI (slL c.Sections) s=none:=by unfold getI;rw [if_neg (by omega)]
    rw [this]
   (repeat simp -dsimp -implicitDefEqProofs (disch:=omega) only [↓rP,rA,↓reduceIte,reduceEqDiff,reduceAdd,reduceLeDiff,↓tyr,e0])
   exact Or.inl ⟨hn,.refl _ _⟩
  have e0:decide (s<0)=false:=decide_eq_false h0;by_cases h1:(slL c.Sections).length<=s
  ·have e1:decide (((slL c.Sections).length:Int)<=s)=true:=decide_eq_true h1;have hn:zbu c s=none:=by
    unfold zbu;rw [if_pos hok];have:getI (slL c.Sections) s=none:=by unfold getI;rw [if_pos (by omega)];exact List.getElem?_eq_none (by omega)
    rw [this]
   (repeat simp -dsimp -implicitDefEqProofs (disch:=omega) only [↓rP,rA,↓reduceIte,reduceEqDiff,reduceAdd,reduceLeDiff,↓tyr,e0,e1])
   exact Or.inl ⟨hn,.refl _ _⟩
  have e1:decide (((slL c.Sections).length:Int)<=s)=false:=decide_eq_false h1;obtain ⟨k,rfl⟩:∃ k:Nat,s=k:=⟨s.toNat,by omega⟩;obtain ⟨sec,hs⟩:∃ sec,(slL c.Sections)[k]?=some sec:=⟨_,List.getElem?_eq_getElem (by omega)⟩;obtain ⟨t,b,fr,to,S⟩:=sec_of hok hs;have hsl:=wc.slo t b S.bd;have wf:=sec_wf wc S;have hL:=zh3 b fr to
  (repeat simp -dsimp -implicitDefEqProofs (disch:=omega) only [↓rP,rA,↓reduceIte,reduceEqDiff,reduceAdd,reduceLeDiff,↓tyr,e0,e1,↓lc])
  refine (read_does wc hs S h).mono ?_;rintro _ h2 ⟨rid,w,g,f,kn,kG,kF,rfl,R,kp,hkn⟩;obtain ⟨L,eL⟩:∃ L,L=secL b fr to:=⟨_,rfl⟩;rw [<-eL] at R wf hL
  (repeat simp -dsimp -implicitDefEqProofs (disch:=omega) only [↓rP,rA,↓reduceIte,reduceEqDiff,reduceAdd,reduceLeDiff,↓tyr,R.l4])
  refine of_5 (by omega) (by omega) R _ ?_;intro h3 R3 k3
  (repeat simp -dsimp -implicitDefEqProofs (disch:=omega) only [↓rP,rA,↓reduceIte,reduceEqDiff,reduceAdd,reduceLeDiff,↓tyr])
  refine of_10 (by omega) (by omega) wf R3 (Snd.start L (onB b)) (λk=>by unfold zb6;split <;> simp [vWay,vUnk]) _ ?_;intro h4 K R4 k4 s4 d4
  (repeat simp -dsimp -implicitDefEqProofs (disch:=omega) only [↓rP,rA,↓reduceIte,reduceEqDiff,reduceAdd,reduceLeDiff,↓tyr,R4.l7])
  refine Or.inr ⟨kn,_,K,rfl,by omega,R4.kv,hkn,⟨Nat.le_trans kp.next (Nat.le_trans k3.next k4.next),λi hi hf=>?_⟩,?_⟩
  ·rw [k4.objs i (Nat.lt_of_lt_of_le hi (Nat.le_trans kp.next k3.next)) (by omega),k3.objs i (Nat.lt_of_lt_of_le hi kp.next) (by omega)];exact kp.objs i hi hf
  ·rw [zne hok hs S,s4.eq d4 (sec_among wf) (on1 b),<-eL]
   rfl
theorem Of_does (c:Cd) (hc:c.ok) (sm:Small c) (s:Int) (h:z00):z01 Tryd.prog 35 [.agg c.cells,.int .i64 s] h (λv h2=>v=slAV 4 z0n.cells (zbu c s)/\h2=h):=by
 refine (z01.result (enc:=λo:Option (List Vl)=>slAV 4 z0n.cells o) (Q:=λo=>o=zbu c s) (λo _=>ids_vls _ o) ((Of_k c hc sm s h).mono ?_)).mono ?_
 ·rintro v h2 (⟨rfl,hn,kp⟩ | ⟨kn,n,K,rfl,hn,ho,hkn,kp,hp⟩)
  ·exact ⟨λ_=>False,none,hn.symm,RzV.same _,λ_ h=>h.elim,kp⟩
  ·refine ⟨λi=>i=kn,_,hp.symm,?_,λi hi=>by subst hi;exact ⟨hkn,by rw [ho];simp⟩,kp⟩;have e:slAV 4 z0n.cells (some ((List.range n).map λk=>K (k:Nat)))=.isl 4 (chunk 4 n (rowN (knC K) n)):=by
    rw [znm (zht K)];simp only [slAV,List.map_map]
    rfl
   show RzV h2 _ (.sl kn 0 n 4) (slAV 4 z0n.cells (some ((List.range n).map λk=>K (k:Nat))))
   rw [e];exact RzV.row rfl ho (by rw [z7q (zht K)];omega) (by omega) rfl (λi a a' h1 h2=>by rw [h1] at h2;cases h2;exact RzV.same _)
 ·rintro v h2 ⟨⟨o,rfl,rfl⟩,rfl⟩;exact ⟨rfl,rfl⟩
end
section
open Go.Abs
def zs4 (p q:z0l):Bool:=(p.Global == q.Global)&&(decide (p.N=q.N)&&decide (slL p.Fields=slL q.Fields))
theorem zte (n:Int) (h:z00) (J:AV->Prop):z0t none (.iptr (encI n)) h J=J (.int .i64 n):=by rw [z1q];rfl
theorem take_all {α:Type} {l m:List α} {j:Nat} (hl:l.length=m.length) (ht:l.take j=m.take j) (hj:j=l.length):l=m:=by
 subst hj;rw [List.take_length,hl,List.take_length] at ht;exact ht
theorem take_more {α:Type} {l m:List α} {j:Nat} {x:α} (ht:l.take j=m.take j) (h1:l[j]?=some x) (h2:m[j]?=some x):l.take (j+1)=m.take (j+1):=by
 rw [List.take_add_one,List.take_add_one,ht,h1,h2]
theorem equal_4 (o u:Option (List Int)) (hl:(slL o).length=(slL u).length) (hb:(slL o).length<=1000) (h:z00) (Q:z1z->Fr->z00->Prop)
  (h1:slL o=slL u->Q (.exit 0) (frOf []) h) (h2:slL o≠slL u->Q .ret (frOf [(4,.bool false)]) h) :
  WP Tryd.prog 26 (.loop z3z) (frOf [(0,slAV 1 encI o),(1,slAV 1 encI u),(12,.int .i64 (slL o).length),(13,.int .i64 0)]) h Q:=by
 obtain ⟨I,hI⟩:∃ I:Nat->Fr->z00->Prop,I=(λm fr hh=>∃ j:Nat,m=(slL o).length-j/\j<=(slL o).length/\(slL o).take j=(slL u).take j/\hh=h/\fr=frOf [(0,slAV 1 encI o),(1,slAV 1 encI u),(12,.int .i64 (slL o).length),(13,.int .i64 j)]):=⟨_,rfl⟩;refine z1i z0d (by kernel_rfl) I (slL o).length (by rw [hI];exact ⟨0,rfl,Nat.zero_le _,by simp,rfl,rfl⟩) ?_;intro m fr hh hi;rw [hI] at hi;obtain ⟨j,rfl,hj,ht,rfl,rfl⟩:=hi;apply z9p
 (repeat simp -dsimp -implicitDefEqProofs (disch:=omega) only [↓rP,rA,↓reduceIte,reduceEqDiff,reduceAdd,reduceLeDiff,↓tyr])
 refine z09 (λhjl=>?_) (λhjl=>?_)
 ·obtain ⟨x,hx⟩:∃ x,(slL o)[j]?=some x:=⟨_,List.getElem?_eq_getElem (by omega)⟩;obtain ⟨y,hy⟩:∃ y,(slL u)[j]?=some y:=⟨_,List.getElem?_eq_getElem (by omega)⟩
  (repeat simp -dsimp -implicitDefEqProofs (disch:=omega) only [↓rP,rA,↓reduceIte,reduceEqDiff,reduceAdd,reduceLeDiff,↓tyr,z06 hx,z06 hy,↓zte])
  refine z0v (λhe=>?_) (λhe=>?_)
  ·(repeat simp -dsimp -implicitDefEqProofs (disch:=omega) only [↓rP,rA,↓reduceIte,reduceEqDiff,reduceAdd,reduceLeDiff,↓tyr])
   exact h2 (λe=>he (by rw [e,hy] at hx;exact Option.some.inj hx.symm))
  ·have he:x=y:=by omega
   subst he
   (repeat simp -dsimp -implicitDefEqProofs (disch:=omega) only [↓rP,rA,↓reduceIte,reduceEqDiff,reduceAdd,reduceLeDiff,↓tyr,wkP j (by omega)])
   rw [z07,hI];exact ⟨_,by omega,j+1,rfl,by omega,take_more ht hx hy,rfl,rfl⟩
 ·(repeat simp -dsimp -implicitDefEqProofs (disch:=omega) only [↓rP,rA,↓reduceIte,reduceEqDiff,reduceAdd,reduceLeDiff,↓tyr])
  exact h1 (take_all hl ht (by omega))
theorem zmo (o u:Option (List Int)) (hb:(slL o).length<=1000) (h:z00):z01 Tryd.prog 20 [slAV 1 encI o,slAV 1 encI u] h (λv h2=>v=.bool (decide (slL o=slL u))/\h2=h):=by
 apply zc0
 (repeat simp -dsimp -implicitDefEqProofs (disch:=omega) only [↓rP,rA,↓reduceIte,reduceEqDiff,reduceAdd,reduceLeDiff,↓tyr])
 by_cases hl:(slL o).length=(slL u).length
 ·have el:(((slL o).length:Int) != ((slL u).length:Int))=false:=by simp;omega
  (repeat simp -dsimp -implicitDefEqProofs (disch:=omega) only [↓rP,rA,↓reduceIte,reduceEqDiff,reduceAdd,reduceLeDiff,↓tyr,el])
  refine equal_4 o u hl hb h _ (λe=>?_) (λe=>?_)
  ·(repeat simp -dsimp -implicitDefEqProofs (disch:=omega) only [↓rP,rA,↓reduceIte,reduceEqDiff,reduceAdd,reduceLeDiff,↓tyr])
   simp [e]
  ·(repeat simp -dsimp -implicitDefEqProofs (disch:=omega) only [↓rP,rA,↓reduceIte,reduceEqDiff,reduceAdd,reduceLeDiff,↓tyr])
   simp [e]
 ·have el:(((slL o).length:Int) != ((slL u).length:Int))=true:=by simp;omega
  have:slL o≠slL u:=λe=>hl (by rw [e])
  (repeat simp -dsimp -implicitDefEqProofs (disch:=omega) only [↓rP,rA,↓reduceIte,reduceEqDiff,reduceAdd,reduceLeDiff,↓tyr,el])
  simp [this]
theorem zgp (p q:z0l) (hb:(slL p.Fields).length<=1000) (h:z00):z01 Tryd.prog 64 [.agg p.cells,.agg q.cells] h (λv h2=>v=.bool (zs4 p q)/\h2=h):=by
 apply zrn;have eb:∀ a b:Bool,binA CmpK.bool .eql (.bool a) (.bool b)=some (.bool (a == b)):=λa b=>rfl
 (repeat simp -dsimp -implicitDefEqProofs (disch:=omega) only [↓rP,rA,↓reduceIte,reduceEqDiff,reduceAdd,reduceLeDiff,↓tyr,eb])
 unfold zs4
 cases hg:(p.Global == q.Global) with
 | false=>(repeat simp -dsimp -implicitDefEqProofs (disch:=omega) only [↓rP,rA,↓reduceIte,reduceEqDiff,reduceAdd,reduceLeDiff,↓tyr])
 | true=>
  by_cases hn:p.N=q.N
  ·have en:(p.N == q.N)=true:=by simpa using hn
   (repeat simp -dsimp -implicitDefEqProofs (disch:=omega) only [↓rP,rA,↓reduceIte,reduceEqDiff,reduceAdd,reduceLeDiff,↓tyr,en])
   refine z01.go (zmo p.Fields q.Fields hb _) ?_
   (repeat simp -dsimp -implicitDefEqProofs (disch:=omega) only [↓rP,rA,↓reduceIte,reduceEqDiff,reduceAdd,reduceLeDiff,↓tyr])
   simp [hn]
  ·have en:(p.N == q.N)=false:=by simpa using hn
   (repeat simp -dsimp -implicitDefEqProofs (disch:=omega) only [↓rP,rA,↓reduceIte,reduceEqDiff,reduceAdd,reduceLeDiff,↓tyr,en])
   simp [hn]
end
section
open Go.Abs
abbrev Cm:=z05
def noP:z0l:=⟨false,0,none⟩
def zqk (n:Nat):List Nat->Nat
 | []=>32
 | k::l=>if n.testBit k then k else zqk n l
def zlh (n:Nat):Nat:=zqk n (List.range 32)
def zbo (x:In):Int:=if x.Op=5\/x.Op=6\/x.Op=7 then 4 else 3
def z2s (cl m:Int):Cm:=⟨4,noP,0,false,0,noP,cl,m⟩
def zk4 (K:Nat->Vl) (p:z0l) (cl m:Int) (ix:List It):Cm:=
 match ix with
 | [y]=>if y.Op=1 then ⟨3,p,0,true,sgN y.N,noP,cl,m⟩ else if y.Op=2/\(K y.N).Kind=2 then ⟨3,p,0,false,0,(K y.N).Path,cl,m⟩ else z2s cl m
 | _=>z2s cl m
def cellC (cls:List Int) (K:Nat->Vl) (x:In) (s:Nat):Cm:=
 if (K x.Src.toNat).Kind≠2 then z2s (cls.getD s 0) (zbo x)
 else if x.Op=3\/x.Op=6 then ⟨2,(K x.Src.toNat).Path,x.N,false,0,noP,cls.getD s 0,zbo x⟩
 else zk4 K (K x.Src.toNat).Path (cls.getD s 0) (zbo x) (slL x.Index)
def z8t (σ:Nat->Nat) (cls:List Int) (K:Nat->Vl) (x:In):Option Cm:=
 if x.Op=2\/x.Op=5 then some ⟨1,noP,x.N,false,0,noP,0,zbo x⟩
 else if x.Op=3\/x.Op=6\/x.Op=4\/x.Op=7 then
  (if (K x.Src.toNat).Kind=1\/zlh (σ x.Src.toNat)=32 then none else some (cellC cls K x (zlh (σ x.Src.toNat))))
 else none
def z4c (σ:Nat->Nat) (cls:List Int) (K:Nat->Vl) (L:List In):List Cm:=L.filterMap (z8t σ cls K)
def tgB (a b:Cm):Bool:=decide (a.Op=b.Op)&&(decide (a.N=b.N)&&((a.Const == b.Const)&&(decide (a.At=b.At)&&(decide (a.Class=b.Class)&&(zs4 a.Path b.Path&&zs4 a.Index b.Index)))))
def cov1 (w c:Cm):Bool:=decide (w.Mode<=c.Mode)&&(decide (c.Op=5)||((decide (c.Op=4)&&(!decide (w.Op=1)&&decide (c.Class=w.Class)))||tgB c w))
def covB (l:List Cm) (w:Cm):Bool:=l.any (cov1 w)
theorem zk8 (n:Nat):∀ (m j:Nat),zqk n ((List.range' j (m+1)))=if n.testBit j then j else zqk n (List.range' (j+1) m):=λm j=>by
 rw [List.range'_succ];rfl
theorem znq {n:Nat}:∀ (j:Nat),j<=32->(∀ k,k<j->n.testBit k=false)->zlh n=zqk n (List.range' j (32-j)):=by
 intro j
 induction j with
 | zero=>intro _ _;unfold zlh;rw [List.range_eq_range']
 | succ j ih=>
  intro hj h;rw [ih (by omega) (λk hk=>h k (by omega)),show 32-j=(32-(j+1))+1 by omega,zk8,h j (by omega)]
  rfl
theorem siteL_here {n j:Nat} (hj:j<32) (h:∀ k,k<j->n.testBit k=false) (hb:n.testBit j=true):zlh n=j:=by
 rw [znq j (by omega) h,show 32-j=(32-(j+1))+1 by omega,zk8,hb];rfl
theorem siteL_none {n:Nat} (h:∀ k,k<32->n.testBit k=false):zlh n=32:=by rw [znq 32 (by omega) h];rfl
structure Wx (b:Bd) (x:In):Prop where
 src:(x.Op=3\/x.Op=4\/x.Op=6\/x.Op=7\/x.Op=10)->btw x.Src (slL b.Slots).length=true
 idx:(x.Op=4\/x.Op=7)->(∀ y∈slL x.Index,y.Op=2->y.N<(slL b.Slots).length)/\(slL x.Index).length<=64
 its:(x.Op=9\/x.Op=11\/x.Op=12\/x.Op=14\/x.Op=7)->(∀ y∈slL x.Items,y.Op=2->y.N<(slL b.Slots).length)/\(slL x.Items).length<=64
 to_:(x.Op=13\/x.Op=14)->btw x.To (slL b.Code).length=true
theorem instr_wx {c:Cd} {t a:Int} {b:Bd} {x:In} (h:z1a c t b x a=true):Wx b x:=by
 have wf:=instr_wf h;refine ⟨?_,?_,?_,?_⟩
 ·rintro (e | e | e | e | e)
  ·obtain ⟨_,_,_,h2⟩:=wf.fld (Or.inl e);exact h2
  ·unfold z1a z3c at h;simp only [e] at h;simp at h;exact zei h.2.1.2
  ·obtain ⟨_,_,_,h2⟩:=wf.fld (Or.inr e);exact h2
  ·unfold z1a z2m at h;simp only [e] at h;simp at h;exact zei h.2.1.1.2
  ·unfold z1a z3c at h;simp only [e] at h;simp at h;exact zei h.2
 ·rintro (e | e)
  ·unfold z1a z3c at h;simp only [e] at h;simp at h;exact z7p h.2.2
  ·unfold z1a z2m at h;simp only [e] at h;simp at h;exact z7p h.2.2
 ·rintro (e | e | e | e | e)
  ·unfold z1a z3c at h;simp only [e] at h;simp at h;exact z7p h.2.1.2
  ·unfold z1a at h;simp only [e] at h;simp at h;exact z7p h.2
  ·unfold z1a at h;simp only [e] at h;simp at h;exact z7p h.2
  ·unfold z1a at h;simp only [e] at h;simp at h;exact z7p h.2
  ·unfold z1a z2m at h;simp only [e] at h;simp at h;exact z7p h.2.1.2
 ·rintro (e | e)
  all_goals (unfold z1a z7h at h;simp only [e] at h;simp at h)
  ·exact h.2.1
  ·exact h.1.2.1
theorem wx_of {c:Cd} (h:okC c=true) {t a:Nat} {b:Bd} {x:In} (hb:(slL c.Threads)[t]?=some b) (hx:(slL b.Code)[a]?=some x):Wx b x:=by
 obtain ⟨h1,h2,h3,h4,h5,h6,h7⟩:=zgj h;have h8:=z2h.1 h7 t b hb;unfold z7m zbl at h8;simp only [Bool.and_eq_true] at h8;exact instr_wx (z2h.1 h8.2 a x hx)
theorem sec_wx {c:Cd} (h:okC c=true) {sec:z04} {t fr to:Nat} {b:Bd} (S:znz c sec t b fr to):∀ x∈secL b fr to,Wx b x:=λx hx=>by
 obtain ⟨a,ha⟩:=secL_mem hx;exact wx_of h S.bd ha
end
section
open Go.Abs
def putL (c:Cm):List Cm->List Cm
 | []=>[c]
 | o::l=>if tgB o c then { o with Mode:=max o.Mode c.Mode }::l else o::putL c l
def z3d (l ws:List Cm):List Cm:=ws.foldl (λl c=>putL c l) l
def zer (c:Cm):Bool:=decide (c.Op=2)||decide (c.Op=3)
def opB (n:Int) (c:Cm):Bool:=decide (c.Op=n)
def z4m (c:Cm):Cm:=if zer c then z2s c.Class c.Mode else c
def zft (l:List Cm):List Cm:=z3d [] (l.map z4m)
def maxM (l:List Cm) (m:Int):Int:=l.foldl (λm c=>max m c.Mode) m
def allC (l:List Cm):Cm:=⟨5,noP,0,false,0,noP,0,maxM l 3⟩
def zau (f:Int) (ws:List Cm):List Cm:=if f<((z3d [] ws).countP zer:Nat) then zft (z3d [] ws) else z3d [] ws
def zks (f co:Int) (ws:List Cm):List Cm:=if co<((zau f ws).countP (opB 4):Nat) then [allC (zau f ws)] else zau f ws
abbrev Tk:=Int×Int×Bool×Int×Int×(Bool×Int×List Int)×(Bool×Int×List Int)
def tk (c:Cm):Tk:=(c.Op,c.N,c.Const,c.At,c.Class,(c.Path.Global,c.Path.N,slL c.Path.Fields),(c.Index.Global,c.Index.N,slL c.Index.Fields))
theorem tgB_iff {a b:Cm}:tgB a b=true↔tk a=tk b:=by
 simp only [tgB,tk,zs4,Bool.and_eq_true,decide_eq_true_eq,beq_iff_eq,Prod.mk.injEq]
def putK (ks:List Tk) (k:Tk):List Tk:=if k∈ks then ks else ks++[k]
theorem keys_put (c:Cm):∀ l,(putL c l).map tk=putK (l.map tk) (tk c)
 | []=>by simp [putL,putK]
 | o::l=>by
  unfold putL putK;by_cases h:tgB o c=true
  ·have e:=tgB_iff.1 h;rw [if_pos h,if_pos (by simp [e])]
   rfl
  ·have ih:=keys_put c l;have hne:¬ tk c=tk o:=λe=>h (tgB_iff.2 e.symm);rw [if_neg h];simp only [List.map_cons,ih,putK,List.mem_cons,hne,false_or];split <;> simp
theorem keys_all:∀ (ws l:List Cm),(z3d l ws).map tk=(ws.map tk).foldl putK (l.map tk)
 | [],l=>rfl
 | c::ws,l=>by
  have:=keys_all ws (putL c l);rw [keys_put] at this;exact this
theorem mem_putK {ks:List Tk} {k x:Tk}:x∈putK ks k↔x∈ks\/x=k:=by
 unfold putK;split
 ·rename_i h;exact ⟨Or.inl,λq=>q.elim id λe=>e▸h⟩
 ·simp
theorem zr1 {x:Tk}:∀ {ws ks:List Tk},x∈ws.foldl putK ks↔x∈ks\/x∈ws
 | [],ks=>by simp
 | w::ws,ks=>by
  rw [List.foldl_cons,zr1,mem_putK,List.mem_cons,or_assoc]
theorem keys_mem {ws:List Cm} {x:Tk}:x∈(z3d [] ws).map tk↔x∈ws.map tk:=by rw [keys_all,zr1];simp
theorem put_from {ws:List Cm} {x:Cm} (h:x∈z3d [] ws):∃ w∈ws,tk x=tk w:=by
 have:=keys_mem.1 (List.mem_map_of_mem (f:=tk) h);obtain ⟨w,h1,h2⟩:=List.mem_map.1 this;exact ⟨w,h1,h2.symm⟩
theorem op_of_tk {a b:Cm} (h:tk a=tk b):a.Op=b.Op:=congrArg Prod.fst h
theorem put_op {ws:List Cm} {x:Cm} {p:Int->Prop} (h:∀ w∈ws,p w.Op) (hx:x∈z3d [] ws):p x.Op:=by
 obtain ⟨w,h1,h2⟩:=put_from hx;rw [op_of_tk h2];exact h w h1
theorem coarse_op (c:Cm) (h:1<=c.Op/\c.Op<=4):(z4m c).Op=1\/(z4m c).Op=4:=by
 unfold z4m zer;split
 ·exact Or.inr rfl
 ·rename_i q;simp only [Bool.or_eq_true,decide_eq_true_eq] at q;omega
theorem fine_op {f:Int} {ws:List Cm} (h:∀ w∈ws,1<=w.Op/\w.Op<=4) {x:Cm} (hx:x∈zau f ws):(1<=x.Op/\x.Op<=4)/\(f<((z3d [] ws).countP zer:Nat)->x.Op=1\/x.Op=4):=by
 unfold zau at hx;split at hx
 ·have:=put_op (p:=λo=>o=1\/o=4) (λw hw=>by
   obtain ⟨y,hy,rfl⟩:=List.mem_map.1 hw;exact coarse_op y (put_op (p:=λo=>1<=o/\o<=4) h hy)) hx
  exact ⟨by omega,λ_=>this⟩
 ·rename_i q;exact ⟨put_op (p:=λo=>1<=o/\o<=4) h hx,λe=>absurd e q⟩
theorem zsq {p:Cm->Bool} {l:List Cm} (h:∀ x∈l,p x=false):l.countP p=0:=by
 rw [List.countP_eq_zero];exact λx hx=>by rw [h x hx];simp
theorem fine_cells {f:Int} {ws:List Cm} (h:∀ w∈ws,1<=w.Op/\w.Op<=4) (hf:0<=f):((zau f ws).countP zer:Nat)<=f:=by
 by_cases q:f<((z3d [] ws).countP zer:Nat)
 ·rw [zsq (λx hx=>?_)]
  ·exact hf
  ·have:=(fine_op h hx).2 q;simp only [zer,Bool.or_eq_false_iff,decide_eq_false_iff_not];omega
 ·unfold zau;rw [if_neg q];omega
theorem make_zero {ws:List Cm} (h:∀ w∈ws,1<=w.Op/\w.Op<=4) {x:Cm} (hx:x∈zks 0 0 ws):x.Op=1\/(x.Op=5/\(zks 0 0 ws).length=1):=by
 have q:zks 0 0 ws=if (0:Int)<((zau 0 ws).countP (opB 4):Nat) then [allC (zau 0 ws)] else zau 0 ws:=rfl
 by_cases e:(0:Int)<((zau 0 ws).countP (opB 4):Nat)
 ·rw [if_pos e] at q;rw [q] at hx ⊢;rw [List.mem_singleton.1 hx];exact Or.inr ⟨rfl,rfl⟩
 ·rw [if_neg e] at q;rw [q] at hx;have h1:=fine_cells h (Int.le_refl 0);have h2:=fine_op h hx;have c1:(zau 0 ws).countP zer=0:=by omega
  have c2:(zau 0 ws).countP (opB 4)=0:=by omega
  have n1:=List.countP_eq_zero.1 c1 x hx;have n2:=List.countP_eq_zero.1 c2 x hx;simp only [zer,opB,Bool.or_eq_true,decide_eq_true_eq] at n1 n2;omega
theorem want_op {σ:Nat->Nat} {cls:List Int} {K:Nat->Vl} {L:List In}:∀ w∈z4c σ cls K L,1<=w.Op/\w.Op<=4:=λw hw=>by
 obtain ⟨x,_,hx⟩:=List.mem_filterMap.1 hw;unfold z8t at hx;split at hx
 ·cases hx;exact ⟨by simp [z2s],by simp [z2s]⟩
 ·split at hx
  ·split at hx
   ·cases hx
   ·cases hx;unfold cellC;split
    ·exact ⟨by simp [z2s],by simp [z2s]⟩
    ·split
     ·exact ⟨by simp [z2s],by simp [z2s]⟩
     ·unfold zk4;split
      ·split
       ·exact ⟨by simp [z2s],by simp [z2s]⟩
       ·split
        ·exact ⟨by simp [z2s],by simp [z2s]⟩
        ·exact ⟨by simp [z2s],by simp [z2s]⟩
      ·exact ⟨by simp [z2s],by simp [z2s]⟩
  ·cases hx
end
section
open Go.Abs
def GvAt {α:Type} (T:TypeId) (sz:Nat) (enc:α->List AV) (lo:Nat) (hh:z00) (av:AV) (l:List α):Prop:=(l=[]/\av=.nils)\/(l≠[]/\∃ id,av=.gsl id sz (l.map enc)/\hh.objs id=some (.tok T (l.length*sz))/\lo<=id/\id<hh.next)
section
variable {α:Type} {T:TypeId} {sz:Nat} {enc:α->List AV} {hh:z00} {av:AV} {l:List α}
theorem GvAt.keep {lo:Nat} {h2:z00} {S:Nat->Prop} (g:GvAt T sz enc lo hh av l) (k:Keeps hh h2 S) (hs:∀ i,lo<=i->¬ S i):GvAt T sz enc lo h2 av l:=by
 rcases g with ⟨h1,h3⟩ | ⟨h1,id,h3,h4,h5,h6⟩
 ·exact Or.inl ⟨h1,h3⟩
 ·exact Or.inr ⟨h1,id,h3,by rw [k.objs id h6 (hs id h5)];exact h4,h5,Nat.lt_of_lt_of_le h6 k.next⟩
theorem GvAt.rz {lo:Nat} {D:Nat->Prop} (g:GvAt T sz enc lo hh av l) (hl:l.length<=1000000):RzV hh D av (.isl sz (l.map enc)):=by
 rcases g with ⟨rfl,rfl⟩ | ⟨_,id,rfl,_,_,_⟩
 ·exact rz_nils sz
 ·exact RzV.gsl (by simpa using hl) (RzE.same _ _)
end
end
section
open Go.Abs
def atF {α:Type} (enc:α->List AV) (d:α) (l:List α):Nat->List AV:=λk=>enc ((l[k]?).getD d)
theorem atF_at {α:Type} {enc:α->List AV} {d:α} {l:List α} {k:Nat} {x:α} (h:l[k]?=some x):atF enc d l k=enc x:=by simp [atF,h]
theorem zb2 {α:Type} {enc:α->List AV} {d:α} (l:List α):rowN (atF enc d l) l.length=(l.map enc).flatten:=by
 unfold rowN
 congr 1
 apply List.ext_getElem?;intro k;by_cases hk:k<l.length
 ·rw [List.getElem?_map,List.getElem?_range hk,List.getElem?_map,List.getElem?_eq_getElem hk];simp [atF,hk]
 ·rw [List.getElem?_eq_none (by simp;omega),List.getElem?_eq_none (by simp;omega)]
def RwAt {α:Type} (T:TypeId) (sz:Nat) (enc:α->List AV) (lo:Nat) (h:z00) (av:AV) (l:List α):Prop:=
 (l=[]/\av=.nils)\/∃ id,l≠[]/\av=.sl id 0 l.length sz/\h.objs id=some (.row T (l.map enc).flatten)/\lo<=id/\id<h.next
section
variable {α:Type} {T:TypeId} {sz:Nat} {enc:α->List AV} {h:z00} {av:AV} {l:List α} {lo:Nat}
theorem RwAt.len (g:RwAt T sz enc lo h av l) (J:AV->Prop):pLen .slice av J=J (.int .i64 l.length):=by
 rcases g with ⟨rfl,rfl⟩ | ⟨id,_,rfl,_⟩
 ·rfl
 ·simp [pLen]
theorem RwAt.keep {h2:z00} {S:Nat->Prop} (g:RwAt T sz enc lo h av l) (k:Keeps h h2 S) (hs:∀ i,lo<=i->¬ S i):RwAt T sz enc lo h2 av l:=by
 rcases g with g | ⟨id,h0,h3,h4,h5,h6⟩
 ·exact Or.inl g
 ·exact Or.inr ⟨id,h0,h3,by rw [k.objs id h6 (hs id h5)];exact h4,h5,Nat.lt_of_lt_of_le h6 k.next⟩
theorem RwAt.push (g:RwAt T sz enc lo h av l) (o:AObj):RwAt T sz enc lo (h.push o) av l:=g.keep (Keeps.one _ _) (λ_ _ e=>e)
theorem RwAt.ix (g:RwAt T sz enc lo h av l) (he:∀ x,(enc x).length=sz) {k:Nat} {x:α} (hx:l[k]?=some x):∃ id,(∀ J:AV->Prop,z0o (.slice sz) av (.int .i64 (k:Int)) J=J (.ptr id (k*sz)))/\h.objs id=some (.row T (l.map enc).flatten)/\lo<=id/\id<h.next:=by
 have hk:k<l.length:=(List.getElem?_eq_some_iff.1 hx).1;rcases g with ⟨rfl,_⟩ | ⟨id,_,rfl,h4,h5,h6⟩
 ·simp at hx
 ·refine ⟨id,λJ=>?_,h4,h5,h6⟩;have e:(0<=(k:Int)/\(k:Int)<l.length)=True:=eq_true ⟨by omega,by omega⟩;simp [z0o,hk]
theorem ztx {enc:α->List AV} (he:∀ x,(enc x).length=sz) {k:Nat} {x:α} {l:List α} (hx:l[k]?=some x):k*sz+sz<=(l.map enc).flatten.length/\((l.map enc).flatten.drop (k*sz)).take sz=enc x/\∀ j,j<sz->(l.map enc).flatten[k*sz+j]?=(enc x)[j]?:=by
 have hk:k<l.length:=(List.getElem?_eq_some_iff.1 hx).1;have hl:∀ i,(atF enc x l i).length=sz:=λi=>he _;have e:=zb2 (enc:=enc) (d:=x) l;have a:=atF_at (enc:=enc) (d:=x) hx;refine ⟨?_,?_,λj hj=>?_⟩
 ·rw [<-e,z7q hl];exact rowN_fit hk
 ·rw [<-e,zla hl hk,a]
 ·rw [<-e,rowN_get hl hk hj,a]
theorem ld_el {id:Nat} (ho:h.objs id=some (.row T (l.map enc).flatten)) (he:∀ x,(enc x).length=sz) {k:Nat} {x:α} (hx:l[k]?=some x) (J:AV->Prop):z0t (some sz) (.ptr id (k*sz)) h J=J (.agg (enc x)):=by
 obtain ⟨h1,h2,_⟩:=ztx he hx;rw [z0b ho];simp only [z03,h2];rw [eq_true h1,true_and]
theorem ld_cell {id:Nat} (ho:h.objs id=some (.row T (l.map enc).flatten)) (he:∀ x,(enc x).length=sz) {k j:Nat} {x:α} (hx:l[k]?=some x) (hj:j<sz) {a:AV} (ha:(enc x)[j]?=some a) (J:AV->Prop):z0t none (.ptr id (k*sz+j)) h J=J a:=by
 obtain ⟨_,_,h3⟩:=ztx he hx;rw [z0b ho];simp only [z03,h3 j hj,ha]
theorem st_cell {id:Nat} (ho:h.objs id=some (.row T (l.map enc).flatten)) (he:∀ x,(enc x).length=sz) {k j:Nat} {x y:α} (hx:l[k]?=some x) (hj:j<sz) {a:AV} (ha:a.zbn=true) (hy:enc y=(enc x).set j a) (J:z00->Prop) :
  z14 1 (.ptr id (k*sz+j)) a h J=J (h.put id (.row T ((l.set k y).map enc).flatten)):=by
 have hk:k<l.length:=(List.getElem?_eq_some_iff.1 hx).1;have hl:∀ i,(atF enc x l i).length=sz:=λi=>he _;have e:=zb2 (enc:=enc) (d:=x) l;obtain ⟨h1,_,_⟩:=ztx he hx;rw [z2w ho ha (by omega),<-e,rowN_set hl hk hj]
 congr 3
 rw [<-zb2 (enc:=enc) (d:=x) (l.set k y),List.length_set];refine z7k λi hi=>?_;by_cases q:i=k
 ·subst q;rw [if_pos rfl,atF_at hx,atF_at (x:=y) (by simp [hk]),hy]
 ·rw [if_neg q];unfold atF;rw [List.getElem?_set_ne (λe=>q e.symm)]
theorem RwAt.app (g:RwAt T sz enc lo h av l) (he:∀ x,(enc x).length=sz) (hlo:lo<=h.next) {b:Nat} (hl:l.length<=10000) (hb:b<=1000) (x:α) (J:AV->z00->Prop)
  (hJ:∀ av2 h2,RwAt T sz enc lo h2 av2 (l++[x])->Keeps h h2 (λi=>lo<=i)->J av2 h2):z1x false { e:=T,sz:=sz,by_:=b } av (.isl sz [enc x]) h J:=by
 have hbd:∀ n,n<=10001->bounded { e:=T,sz:=sz,by_:=b } n:=λn hn=>by
  have:n*b<=10001*1000:=Nat.mul_le_mul hn hb;simp only [bounded,maxLen];omega
 rcases g with ⟨rfl,rfl⟩ | ⟨id,hne,rfl,ho,h1,h2⟩
 ·have:=hJ (.sl h.next 0 1 sz) (h.push (.row T (enc x))) (Or.inr ⟨h.next,by simp,rfl,by simp,hlo,by simp⟩) ((Keeps.one _ _).mono (λ_ e=>e.elim));simp only [z1x,z1v,if_true,zgg];exact ⟨hbd _ (by simp),by simpa using this⟩
 ·have e2:(l.map enc).flatten.length=l.length*sz:=by
   rw [<-zb2 (enc:=enc) (d:=x) l,z7q (f:=atF enc x l) (λi=>he _)]
  have:=hJ (.sl h.next 0 (l.length+1) sz) ((h.kill id).push (.row T ((l++[x]).map enc).flatten)) (Or.inr ⟨h.next,by simp,by simp,z19 (h.kill id) _,hlo,Nat.lt_succ_self _⟩) ⟨Nat.le_succ _,λi hi hn=>by
   have:i≠id:=λq=>hn (q▸h1);rw [z16 (h:=h.kill id) hi,zjj this]⟩
  simp only [z1x,z1v,if_true,ho,List.length_cons,List.length_nil,true_and];refine ⟨by omega,hbd _ (by omega),?_⟩;rw [<-e2,List.take_length];simpa using this
theorem RwAt.rz {D:Nat->Prop} (g:RwAt T sz enc lo h av l) (he:∀ x,(enc x).length=sz) (hD:∀ i,av=.sl i 0 l.length sz->D i) (hl:l.length<=1000000):∃ o,slL o=l/\RzV h D av (slAV sz enc o):=by
 rcases g with ⟨rfl,rfl⟩ | ⟨id,hne,rfl,ho,h1,h2⟩
 ·exact ⟨none,rfl,RzV.same _⟩
 ·refine ⟨some l,rfl,?_⟩;obtain ⟨d,_⟩:=List.exists_mem_of_ne_nil l hne;have hll:∀ i,(atF enc d l i).length=sz:=λi=>he _;have e2:slAV sz enc (some l)=.isl sz (chunk sz l.length (l.map enc).flatten):=by
   rw [<-zb2 (enc:=enc) (d:=d) l,znm hll];simp only [slAV]
   congr 1
   apply List.ext_getElem?;intro k;by_cases hk:k<l.length
   ·rw [List.getElem?_map,List.getElem?_eq_getElem hk,List.getElem?_map,List.getElem?_range hk];simp [atF,hk]
   ·rw [List.getElem?_eq_none (by simp;omega),List.getElem?_eq_none (by simp;omega)]
  rw [e2];exact RzV.row (hD id rfl) ho (by rw [<-zb2 (enc:=enc) (d:=d) l,z7q hll];omega) hl rfl (λi a a' h1 h2=>by rw [h1] at h2;cases h2;exact RzV.same _)
end
end
section
open Go.Abs
def za2 (p:z0l):Prop:=(slL p.Fields).length<=1000
theorem zqc (c:Cm) (h:z00) (J:AV->Prop):z0t (some 12) (.iptr c.cells) h J=J (.agg c.cells):=by rw [z1q];exact z05.call c J
end
section
open Go.Abs
theorem bld1 (e:TypeId) (b:Nat) (kk:IntKind) (n:Int) (h:z00) (z:AV) (K:AV->z00->Prop):z10 true { e:=e,sz:=1,by_:=b } [z] 1 [(0,.int kk n)] h K=K (.isl 1 [[.int kk n]]) h:=by
 simp [z10,zat,AV.fits,AV.cells]
def z8f:List It->List Int
 | []=>[]
 | x::l=>if x.Op=2 then IntKind.i64.wrap x.N::z8f l else z8f l
theorem zio (l m:List It):z8f (l++m)=z8f l++z8f m:=by
 induction l with
 | nil=>rfl
 | cons x l ih=>simp only [List.cons_append,z8f,ih];split <;> simp
theorem zsd (l:List It):(z8f l).length<=l.length:=by
 induction l with
 | nil=>simp [z8f]
 | cons x l ih=>simp only [z8f];split <;> simp <;> omega
def gsI (id:Nat) (l:List Int):AV:=match l with | []=>.nils | _=>.gsl id 1 (l.map encI)
@[simp] theorem gsI_len (id:Nat) (l:List Int) (K:AV->Prop):pLen .slice (gsI id l) K=K (.int .i64 l.length):=by cases l <;> simp [gsI]
theorem gsI_at {id:Nat} {l:List Int} {k:Nat} {v:Int} (hk:l[k]?=some v) (kk:IntKind) (K:AV->Prop):z0o (.slice 1) (gsI id l) (.int kk (k:Int)) K=K (.iptr [.int .i64 v]):=by
 cases l with
 | nil=>simp at hk
 | cons a l=>
  have:((a::l).map encI)[k]?=some [AV.int .i64 v]:=by rw [List.getElem?_map,hk];rfl
  simp only [gsI,z0o,Int.toNat_natCast,this];simp
theorem gsI_push {h:z00} {lo id:Nat} {l:List Int} (hl:lo<=h.next) (hlen:l.length<=100000) (p:l=[]\/(lo<=id/\id<h.next/\h.objs id=some (.tok 3 l.length))) (v:Int) {K:AV->z00->Prop}
  (hK:∀ id2 h2,id2<h2.next->lo<=id2->h2.objs id2=some (.tok 3 (l++[v]).length)->Keeps h h2 (λx=>lo<=x)->K (gsI id2 (l++[v])) h2):z1x true { e:=3,sz:=1,by_:=8 } (gsI id l) (.isl 1 [[.int .i64 v]]) h K:=by
 cases l with
 | nil=>
  simp only [gsI,z1x,z1v,if_true,zgg];refine ⟨by simp [bounded,maxLen],?_⟩;exact hK h.next _ (by simp) hl (by simp) ⟨by simp,λx hx hs=>by simp;omega⟩
 | cons a l=>
  rcases p with p | ⟨p1,p2,p3⟩
  ·cases p
  ·simp only [gsI,z1x,z1v,if_true,p3];refine ⟨trivial,trivial,by simp,by simp [bounded,maxLen] at hlen ⊢;omega,?_⟩;have:=hK h.next ((h.kill id).push (.tok 3 ((((a::l).map encI++[[AV.int .i64 v]]):List (List AV)).length*1))) (by simp) hl (by simp) ⟨by simp,λx hx hs=>by
    simp only [z00.z3l,z00.z5r];rw [if_neg (show ¬ x=(h.kill id).next by simp only [z00.kill_next];omega),if_neg (by omega)]⟩
   simpa [gsI,encI] using this
theorem zlt (items:Option (List It)) (hok:okSl z0e.ok items) (hit:(slL items).length<=1000) (h:z00) :
  z01 Tryd.prog 85 [slAV 3 z0e.cells items] h (λv h2=>(∃ id,v=gsI id (z8f (slL items)))/\Keeps h h2 (λ_=>False)):=by
 apply zq3
 (repeat simp -dsimp -implicitDefEqProofs only [↓rP,rB,↓reduceIte,reduceEqDiff,reduceAdd,reduceLeDiff])
 refine z1i z0d (by kernel_rfl) (λm fr hh=>∃ (k id:Nat),k<=(slL items).length/\m=(slL items).length-k/\Keeps h hh (λ_=>False)/\(z8f ((slL items).take k)=[]\/(h.next<=id/\id<hh.next/\hh.objs id=some (.tok 3 (z8f ((slL items).take k)).length)))/\
  fr=frOf [(3,gsI id (z8f ((slL items).take k))),(6,slAV 3 z0e.cells items),(7,.int .i64 (slL items).length),(8,.int .i64 k)]) (slL items).length ⟨0,0,by omega,by omega,.refl _ _,Or.inl rfl,rfl⟩ ?_
 rintro m fr hh ⟨k,id,hk,rfl,kp,pt,rfl⟩;apply zjw;generalize hI:(λ(m:Nat) (fr:Fr) (hh:z00)=>_)=I;by_cases hkl:k<(slL items).length
 ·have hx:(slL items)[k]?=some (slL items)[k]:=List.getElem?_eq_getElem hkl;have hxok:=hok.2 _ (List.mem_of_getElem? hx);have hsn:(slL items).take (k+1)=(slL items).take k++[(slL items)[k]]:=by rw [List.take_add_one,hx];rfl
  generalize (slL items)[k]=x at *;have d0:decide ((k:Int)<((slL items).length:Int))=true:=decide_eq_true (by omega);have hc:x.cells=[.int .i64 x.Op,.int .i64 x.Bin,.int .u64 (x.N:Nat)]:=rfl;have wk:IntKind.i64.wrap ((k:Int)+1)=((k+1:Nat):Int):=by rw [z7n (by omega) (by omega)];omega
  (repeat simp -dsimp -implicitDefEqProofs only [↓rP,rB,↓reduceIte,reduceEqDiff,reduceAdd,reduceLeDiff,d0,z06 hx,hc])
  rw [z1j (by rfl) (by rfl)];have kA:=Keeps.push hh (.row 103 [.int .i64 x.Op,.int .i64 x.Bin,.int .u64 (x.N:Nat)]);have ul:=zsd ((slL items).take k);have hul:(z8f ((slL items).take k)).length<=1000:=by simp at ul;omega
  have kn:=kp.next;by_cases h2:x.Op=2
  ·have e2:(x.Op == 2)=true:=by simp [h2]
   have hu:z8f ((slL items).take (k+1))=z8f ((slL items).take k)++[IntKind.i64.wrap x.N]:=by rw [hsn,zio];simp [z8f,h2]
   (repeat simp -dsimp -implicitDefEqProofs only [↓rP,rB,↓reduceIte,reduceEqDiff,reduceAdd,reduceLeDiff,e2,bld1])
   refine gsI_push (lo:=h.next) (by simp;omega) (by omega) ?_ (IntKind.i64.wrap x.N) λid2 h3 q1 q2 q3 q4=>?_
   ·rcases pt with pt | ⟨p1,p2,p3⟩
    ·exact Or.inl pt
    ·exact Or.inr ⟨p1,by simp;omega,by rw [kA.objs id p2 (λh=>h)];exact p3⟩
   ·(repeat simp -dsimp -implicitDefEqProofs only [↓rP,rB,↓reduceIte,reduceEqDiff,reduceAdd,reduceLeDiff,wk])
    rw [z07,<-hI];refine ⟨_,?_,k+1,id2,by omega,rfl,?_,Or.inr ⟨q2,q1,by rw [hu];exact q3⟩,by rw [hu]⟩
    ·omega
    ·exact (kp.trans kA (λ_ _ h=>h)).trans q4 (λy hy hl=>absurd hl (by omega))
  ·have e2:(x.Op == 2)=false:=by simp [h2]
   have hu:z8f ((slL items).take (k+1))=z8f ((slL items).take k):=by rw [hsn,zio];simp [z8f,h2]
   (repeat simp -dsimp -implicitDefEqProofs only [↓rP,rB,↓reduceIte,reduceEqDiff,reduceAdd,reduceLeDiff,e2,wk])
   rw [z07,<-hI];refine ⟨_,?_,k+1,id,by omega,rfl,kp.trans kA (λ_ _ h=>h),?_,by rw [hu]⟩
   ·omega
   ·rw [hu];rcases pt with pt | ⟨p1,p2,p3⟩
    ·exact Or.inl pt
    ·exact Or.inr ⟨p1,by simp;omega,by rw [kA.objs id p2 (λh=>h)];exact p3⟩
 ·have hke:k=(slL items).length:=by omega
  subst hke;rw [List.take_length] at *;have d0:decide (((slL items).length:Int)<((slL items).length:Int))=false:=decide_eq_false (by omega)
  (repeat simp -dsimp -implicitDefEqProofs only [↓rP,rB,↓reduceIte,reduceEqDiff,reduceAdd,reduceLeDiff,d0])
  first | exact ⟨⟨id,rfl⟩,kp⟩ | exact ⟨⟨id,trivial⟩,kp⟩
end
section
open Go.Abs
section
variable (a0:AV) (h:z00) (R:AV->z00->Prop) (Q:z1z->Fr->z00->Prop)
def z97:=mkG [] [] [] []
theorem z8o (H:qC .eql a0 (nU 0) (R (n6 64) h) (z8d (unA .neg a0) (later (λa=>qB .and a0 a λa=>qB .mul a (nU 285870213051353865)
 λa=>qB .shr a (nU 58) λa=>z0o (.array 64 1) (.iptr [n8 0,n8 1,n8 56,n8 2,n8 57,n8 49,n8 28,n8 3,n8 61,n8 58,n8 42,n8 50,n8 38,n8 29,n8 17,n8 4,n8 62,n8
 47,n8 59,n8 36,n8 45,n8 43,n8 51,n8 22,n8 53,n8 39,n8 33,n8 30,n8 24,n8 18,n8 12,n8 5,n8 63,n8 55,n8 48,n8 27,n8 60,n8 41,n8 37,n8 16,n8 46,n8 35,n8 44,n8 21,n8 52,n8
 32,n8 23,n8 11,n8 54,n8 26,n8 40,n8 15,n8 34,n8 20,n8 31,n8 10,n8 25,n8 14,n8 19,n8 9,n8 13,n8 8,n8 7,n8 6]) a (later (λa=>qL a h λa=>z9e (.int .i64) a h
 (later (λa=>R a h) ())) ())) ()))):z01 P_ 56 [a0] h R:=cI z97 z0d Tryd.func56 Tryd.ntmps56 Tryd.call56 (by kernel_rfl) (by kernel_rfl)
 H
end
end
end Go.Proofs.YtjlogcfggfmacaaDoor
section

end
namespace Go.Proofs.YtjlogcfggfmacaaDoor
section
open Go.Abs
theorem tab_at (j:Nat) (hj:j<64) (K:AV->Prop):z0o (IxK.array 64 1) (.iptr (zi6.map (.int .u8 ·))) (.int .u64 (j:Int)) K=K (.iptr ((zi6.map (AV.int .u8 ·)).drop j)):=by
 have h1:(0:Int)<=(j:Int)/\(j:Int)<64:=by omega
 simp [z0o,h1]
theorem tab_ld {j k:Nat} (hj:zi6[j]?=some (k:Int)) (H:z00) (K:AV->Prop):z0t none (.iptr ((zi6.map (AV.int .u8 ·)).drop j)) H K=K (.int .u8 (k:Nat)):=by
 rw [z1q];simp [z03,List.getElem?_drop,List.getElem?_map,hj]
theorem tz_does (x:Nat) (hx:x<18446744073709551616) (h:z00):z01 Tryd.prog 56 [.int .u64 x] h (λv h2=>v=.int .i64 (z1b x:Nat)/\h2=h):=by
 apply z8o;by_cases h0:x=0
 ·subst h0
  (repeat simp -dsimp -implicitDefEqProofs (disch:=omega) only [↓rP,rA,↓reduceIte,reduceEqDiff,reduceAdd,reduceLeDiff,↓tyr])
  rw [zsy];rfl
 have e0:((x:Int) == 0)=false:=by simpa using h0
 obtain ⟨h1,h2,h3⟩:=z8v h0 hx;obtain ⟨d1,d2⟩:=debruijn (z1b x) h1;have en:IntKind.u64.wrap (0-(x:Int))=((18446744073709551616-x:Nat):Int):=by rw [zlr];omega
 have ea:iAnd .u64 (x:Int) ((18446744073709551616-x:Nat):Int)=((2 ^ z1b x:Nat):Int):=by rw [iAnd_u64 _ _ hx (by omega),and_neg h0 hx]
 have em:IntKind.u64.wrap (((2 ^ z1b x:Nat):Int)*285870213051353865)=((2 ^ z1b x*285870213051353865%18446744073709551616:Nat):Int):=by rw [zlr];omega
 have es:iShr .u64 ((2 ^ z1b x*285870213051353865%18446744073709551616:Nat):Int) ((58:Nat):Int)=((2 ^ z1b x*285870213051353865%18446744073709551616/2 ^ 58:Nat):Int):=iShr_u64 _ 58 (by decide);have e58:((58:Nat):Int)=58:=rfl;rw [e58] at es;generalize 2 ^ z1b x*285870213051353865%18446744073709551616/2 ^ 58=j at *;generalize 2 ^ z1b x*285870213051353865%18446744073709551616=p at *;generalize 18446744073709551616-x=q at *;generalize 2 ^ z1b x=z at *;have sh:binA CmpK.other BinOp.shr (.int .u64 (p:Int)) (.int .u64 58)=some (.int .u64 (j:Int)):=by rw [binA_shr,if_neg (by decide),es]
 (repeat simp -dsimp -implicitDefEqProofs (disch:=omega) only [↓rP,rA,↓reduceIte,reduceEqDiff,reduceAdd,reduceLeDiff,↓tyr,e0,en,ea,em,sh])
 refine Eq.mpr (tab_at j d2 _) ?_
 (repeat simp -dsimp -implicitDefEqProofs (disch:=omega) only [↓rP,rA,↓reduceIte,reduceEqDiff,reduceAdd,reduceLeDiff,↓tyr,tab_ld d1])
def nsAV (f:List Nat):List AV:=f.map λ(n:Nat)=>AV.int .i64 n
theorem nsAV_len (f:List Nat):(nsAV f).length=f.length:=by simp [nsAV]
theorem nsAV_set (f:List Nat) (i v:Nat):(nsAV f).set i (.int .i64 v)=nsAV (f.set i v):=by simp [nsAV,List.map_set]
theorem nsAV_get (f:List Nat) (i:Nat):(nsAV f)[i]?=f[i]?.map λ(n:Nat)=>AV.int .i64 n:=by simp [nsAV]
theorem zk3 (x:Nat) (h:z00):z01 Tryd.prog 57 [.int .u64 x] h (λv h2=>v=.fn (Fn.func 76) [] [.ptr h.next 0]/\h2=h.push (.row 89 [.int .u64 x])):=by
 apply ztq
 (repeat simp -dsimp -implicitDefEqProofs (disch:=omega) only [↓rP,rA,↓reduceIte,reduceEqDiff,reduceAdd,reduceLeDiff,↓tyr])
theorem zmx {y b:Nat} {x:Nat} (hx:x<18446744073709551616) (J:Nat->z00->Prop) (Jx:z00->Prop) (h:z00) (ho:h.objs b=some (.row 89 [.int .u64 x])) (h0:J 0 h)
  (hput:∀ n hh o,J n hh->J n (hh.put b o))
  (hY:∀ n k hh o,(bitsOf x)[n]?=some k->J n hh->hh.objs b=some o->z9s Tryd.prog y [.int .i64 (k:Nat)] hh (λv h'=>(v=.bool true/\h'.objs b=some o/\J (n+1) h')\/(v=.bool false/\Jx h'))) :
  z01 Tryd.prog 76 [.yld y,.ptr b 0] h (λ_ h'=>J (bitsOf x).length h'\/Jx h'):=by
 apply zpg
 (repeat simp -dsimp -implicitDefEqProofs (disch:=omega) only [↓rP,rA,↓reduceIte,reduceEqDiff,reduceAdd,reduceLeDiff,↓tyr])
 obtain ⟨I,hI⟩:∃ I:Nat->Fr->z00->Prop,I=(λm fr hh=>∃ n r,m=(bitsOf x).length-n/\n<=(bitsOf x).length/\r<18446744073709551616/\bitsOf r=(bitsOf x).drop n/\hh.objs b=some (.row 89 [.int .u64 (r:Nat)])/\J n hh/\fr=frOf [(0,.yld y),(1,.ptr b 0)]):=⟨_,rfl⟩;refine z1i z0d (by kernel_rfl) I (bitsOf x).length (by rw [hI];exact ⟨0,x,rfl,Nat.zero_le _,hx,rfl,ho,h0,rfl⟩) ?_;intro m fr hh hi;rw [hI] at hi;obtain ⟨n,r,rfl,hn,hr,hb,hob,hj,rfl⟩:=hi;apply zja;have ld:∀ {g:z00} (hg:g.objs b=some (.row 89 [.int .u64 (r:Nat)])) (K:AV->Prop),z0t none (.ptr b 0) g K=K (.int .u64 (r:Nat)):=λhg K=>by rw [z0b hg];simp [z03]
 by_cases r0:r=0
 ·subst r0;rw [zq0] at hb;have hnl:n=(bitsOf x).length:=by have:=congrArg List.length hb;simp at this;omega
  (repeat simp -dsimp -implicitDefEqProofs (disch:=omega) only [↓rP,rA,↓reduceIte,reduceEqDiff,reduceAdd,reduceLeDiff,↓tyr,ld hob])
  left
  rw [<-hnl];exact hj
 have e0:((r:Int) != 0)=true:=by simpa using r0
 have hcons:=and_pred r0 hr;have hlow:=z8v r0 hr;rw [hb] at hcons;have hget:(bitsOf x)[n]?=some (z1b r):=by
  have:=congrArg (λl=>l[0]?) hcons;simpa [List.getElem?_drop] using this
 have hlt:n<(bitsOf x).length:=(List.getElem?_eq_some_iff.1 hget).1;have hb2:bitsOf (r &&& (r-1))=(bitsOf x).drop (n+1):=by
  have:=congrArg List.tail hcons;simpa [List.tail_drop] using this.symm
 (repeat simp -dsimp -implicitDefEqProofs (disch:=omega) only [↓rP,rA,↓reduceIte,reduceEqDiff,reduceAdd,reduceLeDiff,↓tyr,ld hob,e0])
 refine z01.go (tz_does r hr _) ?_
 (repeat simp -dsimp -implicitDefEqProofs (disch:=omega) only [↓rP,rA,↓reduceIte,reduceEqDiff,reduceAdd,reduceLeDiff,↓tyr])
 rw [pCallF_yld];refine z9s.mono ?_ (hY n (z1b r) hh _ hget hj hob);rintro v h' (⟨rfl,ho',hj'⟩ | ⟨rfl,hj'⟩)
 ·have es:IntKind.u64.wrap ((r:Int)-1)=((r-1:Nat):Int):=by rw [zlr];omega
  have ea:iAnd .u64 (r:Int) ((r-1:Nat):Int)=((r &&& (r-1):Nat):Int):=iAnd_u64 _ _ hr (by omega);have st:∀ (v:AV) (hv:v.zbn=true) (K:z00->Prop),z14 1 (.ptr b 0) v h' K=K (h'.put b (.row 89 [v])):=λv hv K=>by rw [z2w ho' hv (by simp)];rfl
  (repeat simp -dsimp -implicitDefEqProofs (disch:=omega) only [↓rP,rA,↓reduceIte,reduceEqDiff,reduceAdd,reduceLeDiff,↓tyr,ld ho',es,ea])
  rw [st _ rfl]
  (repeat simp -dsimp -implicitDefEqProofs (disch:=omega) only [↓rP,rA,↓reduceIte,reduceEqDiff,reduceAdd,reduceLeDiff,↓tyr])
  rw [z07,hI];exact ⟨_,by omega,n+1,r &&& (r-1),rfl,hlt,pred_lt hr,hb2,by simp,hput _ _ _ hj',rfl⟩
 ·(repeat simp -dsimp -implicitDefEqProofs (disch:=omega) only [↓rP,rA,↓reduceIte,reduceEqDiff,reduceAdd,reduceLeDiff,↓tyr])
  right
  exact hj'
end
section
open Go.Abs
def rowC (f:Nat->Nat) (n:Nat):List AV:=(List.range n).map λk=>.int .u64 (f k:Nat)
theorem zh0 (f:Nat->Nat) (n:Nat):(rowC f n).length=n:=by simp [rowC]
theorem ztv {f:Nat->Nat} {n k:Nat} (h:k<n):(rowC f n)[k]?=some (.int .u64 (f k:Nat)):=by simp [rowC,h]
theorem rowC_set {f:Nat->Nat} {n k:Nat} (v:Nat):(rowC f n).set k (.int .u64 (v:Nat))=rowC (λj=>if j=k then v else f j) n:=by
 apply List.ext_getElem?;intro i;by_cases hi:i<n
 ·rw [List.getElem?_set,ztv hi,ztv hi,zh0];by_cases e:k=i
  ·subst e;simp [hi]
  ·rw [if_neg e,if_neg (λh=>e h.symm)]
 ·rw [List.getElem?_eq_none (by rw [List.length_set,zh0];omega),List.getElem?_eq_none (by rw [zh0];omega)]
def RowAt (h:z00) (av:AV) (n:Nat) (f:Nat->Nat):Prop:=(av=.nils/\n=0)\/∃ id,av=.sl id 0 n 1/\id<h.next/\h.objs id=some (.row 89 (rowC f n))
theorem RowAt.len {h:z00} {av:AV} {n:Nat} {f:Nat->Nat} (r:RowAt h av n f) (K:AV->Prop):pLen .slice av K=K (.int .i64 n):=by
 rcases r with ⟨rfl,rfl⟩ | ⟨id,rfl,_,_⟩
 ·rfl
 ·rfl
structure z8z (h:z00) (c:Cd) (σ:Sg) (A:Rw->AV):Prop where
 row:∀ r,RowAt h (A r) (lenR c r) (σ r)
 one:∀ r r' id,A r=.sl id 0 (lenR c r) 1->A r'=.sl id 0 (lenR c r') 1->r=r'
theorem z8z.ix {h:z00} {c:Cd} {σ:Sg} {A:Rw->AV} (s:z8z h c σ A) {r:Rw} {n:Nat} (hn:n<lenR c r):∃ id,A r=.sl id 0 (lenR c r) 1/\id<h.next/\h.objs id=some (.row 89 (rowC (σ r) (lenR c r)))/\
  (∀ (kk:IntKind) (K:AV->Prop),z0o (.slice 1) (A r) (.int kk (n:Int)) K=K (.ptr id n))/\(∀ K:AV->Prop,z0t none (.ptr id n) h K=K (.int .u64 (σ r n:Nat))):=by
 rcases s.row r with ⟨_,e⟩ | ⟨id,e,hid,ho⟩
 ·omega
 ·refine ⟨id,e,hid,ho,λkk K=>?_,λK=>?_⟩
  ·rw [e];simp [z0o];omega
  ·rw [z0b ho];simp [z03,ztv hn]
theorem z8z.len {h:z00} {c:Cd} {σ:Sg} {A:Rw->AV} (s:z8z h c σ A) (r:Rw) (K:AV->Prop):pLen .slice (A r) K=K (.int .i64 (lenR c r:Nat)):=(s.row r).len K
theorem z8z.keep {h h2:z00} {c:Cd} {σ:Sg} {A:Rw->AV} {S:Nat->Prop} (s:z8z h c σ A) (k:Keeps h h2 S) (hS:∀ r id,A r=.sl id 0 (lenR c r) 1->¬ S id):z8z h2 c σ A:=by
 refine ⟨λr=>?_,s.one⟩;rcases s.row r with e | ⟨id,e,hid,ho⟩
 ·exact Or.inl e
 ·exact Or.inr ⟨id,e,Nat.lt_of_lt_of_le hid k.next,by rw [k.objs id hid (hS r id e)];exact ho⟩
def updS (σ:Sg) (r:Rw) (n v:Nat):Sg:=λr' n'=>if r'=r/\n'=n then v else σ r' n'
theorem z8z.put {h:z00} {c:Cd} {σ:Sg} {A:Rw->AV} (s:z8z h c σ A) {r:Rw} {n id v:Nat} (hn:n<lenR c r) (e:A r=.sl id 0 (lenR c r) 1):z8z (h.put id (.row 89 (rowC (λj=>if j=n then v else σ r j) (lenR c r)))) c (updS σ r n v) A:=by
 refine ⟨λq=>?_,s.one⟩;rcases s.row q with e2 | ⟨id2,e2,hid,ho⟩
 ·exact Or.inl e2
 ·refine Or.inr ⟨id2,e2,by simpa using hid,?_⟩;by_cases hq:q=r
  ·subst hq;rw [e] at e2;cases e2;rw [z1d]
   congr 3
   funext j;simp [updS]
  ·have hne:id2≠id:=by rintro rfl;exact hq (s.one q r id2 e2 e)
   rw [z0x hne,ho]
   congr 3
   funext j;simp [updS,hq]
def outA (id n:Nat) (f:Nat->AV):AV:=if n=0 then .nils else .gsl id 1 ((List.range n).map λk=>[f k])
theorem zf9 {id n k:Nat} {f:Nat->AV} (hk:k<n) (kk:IntKind) (K:AV->Prop):z0o (.slice 1) (outA id n f) (.int kk (k:Int)) K=K (.iptr [f k]):=by
 unfold outA;rw [if_neg (by omega)];simp [z0o,hk]
theorem ld_one (x:AV) (h:z00) (K:AV->Prop):z0t none (.iptr [x]) h K=K x:=by rw [z1q];rfl
def z7l (c:Cd) (A:Rw->AV) (i1 i2:Nat):List AV:=[outA i1 (slL c.Threads).length (λt=>A (.s t)),A .g,outA i2 (slL c.Sites).length (λk=>A (.f k))]
theorem setsC_0 (c:Cd) (A:Rw->AV) (i1 i2:Nat) (K:AV->Prop):z03 none (z7l c A i1 i2) 0 K=K (outA i1 (slL c.Threads).length (λt=>A (.s t))):=by simp [z03,z7l]
theorem setsC_1 (c:Cd) (A:Rw->AV) (i1 i2:Nat) (K:AV->Prop):z03 none (z7l c A i1 i2) 1 K=K (A .g):=by simp [z03,z7l]
theorem setsC_2 (c:Cd) (A:Rw->AV) (i1 i2:Nat) (K:AV->Prop):z03 none (z7l c A i1 i2) 2 K=K (outA i2 (slL c.Sites).length (λk=>A (.f k))):=by simp [z03,z7l]
theorem zlf (c:Cd) (A:Rw->AV) (i1 i2:Nat) (K:AV->Prop):z03 (some 3) (z7l c A i1 i2) 0 K=K (.agg (z7l c A i1 i2)):=by simp [z03,z7l]
def solC (c:Cd) (A:Rw->AV) (i1 i2:Nat) (gr:Bool):List AV:=c.cells++(z7l c A i1 i2++[.bool gr])
section
variable (c:Cd) (A:Rw->AV) (i1 i2:Nat) (gr:Bool) (K:AV->Prop)
theorem solC_0:z03 none (solC c A i1 i2 gr) 0 K=K (slAV 1 (λo=>[slAV 3 z08.cells o]) c.Records):=by simp [z03,solC,z7l,z0f.cells]
theorem solC_1:z03 none (solC c A i1 i2 gr) 1 K=K (slAV 3 z08.cells c.Globals):=by simp [z03,solC,z7l,z0f.cells]
theorem solC_2:z03 none (solC c A i1 i2 gr) 2 K=K (slAV 3 z0m.cells c.Threads):=by simp [z03,solC,z7l,z0f.cells]
theorem solC_3:z03 none (solC c A i1 i2 gr) 3 K=K (slAV 3 z0s.cells c.Sites):=by simp [z03,solC,z7l,z0f.cells]
theorem solC_5:z03 none (solC c A i1 i2 gr) 5 K=K (outA i1 (slL c.Threads).length (λt=>A (.s t))):=by simp [z03,solC,z7l,z0f.cells]
theorem solC_6:z03 none (solC c A i1 i2 gr) 6 K=K (A .g):=by simp [z03,solC,z7l,z0f.cells]
theorem solC_7:z03 none (solC c A i1 i2 gr) 7 K=K (outA i2 (slL c.Sites).length (λk=>A (.f k))):=by simp [z03,solC,z7l,z0f.cells]
theorem solC_8:z03 none (solC c A i1 i2 gr) 8 K=K (.bool gr):=by simp [z03,solC,z7l,z0f.cells]
theorem zlj:z03 (some 3) (solC c A i1 i2 gr) 5 K=K (.agg (z7l c A i1 i2)):=by simp [z03,solC,z7l,z0f.cells]
end
theorem solC_len (c:Cd) (A:Rw->AV) (i1 i2:Nat) (gr:Bool):(solC c A i1 i2 gr).length=9:=rfl
theorem zs7 (c:Cd) (A:Rw->AV) (i1 i2:Nat) (gr g2:Bool):(solC c A i1 i2 gr).set 8 (.bool g2)=solC c A i1 i2 g2:=rfl
theorem solR:(type_of% @solC_0)/\(type_of% @solC_1)/\(type_of% @solC_2)/\(type_of% @solC_3)/\(type_of% @solC_5)/\(type_of% @solC_6)/\(type_of% @solC_7)/\(type_of% @solC_8)/\(type_of% @zlj)/\(type_of% @setsC_0)/\(type_of% @setsC_1)/\(type_of% @setsC_2)/\(type_of% @zlf)/\(type_of% @ld_one):=
 ⟨@solC_0,@solC_1,@solC_2,@solC_3,@solC_5,@solC_6,@solC_7,@solC_8,@zlj,@setsC_0,@setsC_1,@setsC_2,@zlf,@ld_one⟩
structure z9l (h:z00) (sid:Nat) (c:Cd) (σ:Sg) (A:Rw->AV) (i1 i2:Nat) (gr:Bool):Prop where
 sets:z8z h c σ A
 obj:h.objs sid=some (.row 85 (solC c A i1 i2 gr))
 lt:sid<h.next
 ne:∀ r,A r≠.sl sid 0 (lenR c r) 1
theorem z9l.ld {h:z00} {sid:Nat} {c:Cd} {σ:Sg} {A:Rw->AV} {i1 i2:Nat} {gr:Bool} (s:z9l h sid c σ A i1 i2 gr) (off:Nat) (q:Option Nat) (K:AV->Prop):z0t q (.ptr sid off) h K=z03 q (solC c A i1 i2 gr) off K:=z0b s.obj q K
theorem z9l.keep {h h2:z00} {sid:Nat} {c:Cd} {σ:Sg} {A:Rw->AV} {i1 i2:Nat} {gr:Bool} (s:z9l h sid c σ A i1 i2 gr) (k:Keeps h h2 (λ_=>False)):z9l h2 sid c σ A i1 i2 gr:=
 ⟨s.sets.keep k (λ_ _ _ h=>h),by rw [k.objs sid s.lt (λh=>h)];exact s.obj,Nat.lt_of_lt_of_le s.lt k.next,s.ne⟩
def Own (sid:Nat) (c:Cd) (A:Rw->AV):Nat->Prop:=λi=>i=sid\/∃ r,A r=.sl i 0 (lenR c r) 1
theorem zhu (l:Lo) (h:z00):z01 Tryd.prog 52 [.agg l.cells] h (λv h2=>v=.bool (zcx l)/\h2=h):=by
 apply zrs
 (repeat simp -dsimp -implicitDefEqProofs (disch:=omega) only [↓rP,rA,↓reduceIte,reduceEqDiff,reduceAdd,reduceLeDiff,↓tyr])
 refine z0p (λh1=>?_) (λh1=>?_)
 ·(repeat simp -dsimp -implicitDefEqProofs (disch:=omega) only [↓rP,rA,↓reduceIte,reduceEqDiff,reduceAdd,reduceLeDiff,↓tyr])
  simp [zcx,h1]
 ·(repeat simp -dsimp -implicitDefEqProofs (disch:=omega) only [↓rP,rA,↓reduceIte,reduceEqDiff,reduceAdd,reduceLeDiff,↓tyr])
  simp [zcx,h1,beqI]
theorem zo0 {h:z00} {sid:Nat} {c:Cd} {σ:Sg} {A:Rw->AV} {i1 i2:Nat} {gr:Bool} (s:z9l h sid c σ A i1 i2 gr) {r:Rw} {n id m:Nat} (hn:n<lenR c r) (e:A r=.sl id 0 (lenR c r) 1) (hs:σ r n<18446744073709551616) (hm:m<18446744073709551616) :
  z01 Tryd.prog 53 [.ptr sid 0,.ptr id n,.int .u64 (m:Nat)] h (λv h2=>v=.tup []/\∃ gr',(gr'=true↔gr=true\/updS σ r n (σ r n ||| m)≠σ)/\z9l h2 sid c (updS σ r n (σ r n ||| m)) A i1 i2 gr'/\Keeps h h2 (Own sid c A)):=by
 obtain ⟨id2,e2,hid,ho,-,ld⟩:=s.sets.ix hn;obtain rfl:id2=id:=by rw [e] at e2;cases e2;rfl
 have eo:iOr .u64 (σ r n:Int) (m:Int)=((σ r n ||| m:Nat):Int):=zt9 _ _ hs hm;have hne:id2≠sid:=λh=>s.ne r (by rw [<-h];exact e);apply zi1
 (repeat simp -dsimp -implicitDefEqProofs (disch:=omega) only [↓rP,rA,↓reduceIte,reduceEqDiff,reduceAdd,reduceLeDiff,↓tyr,ld,eo])
 refine z0v (λhc=>?_) (λhc=>?_)
 ·have hc:¬ (σ r n ||| m)=σ r n:=by omega
  have st:∀ K:z00->Prop,z14 1 (.ptr id2 n) (.int .u64 ((σ r n ||| m:Nat):Int)) h K=K (h.put id2 (.row 89 (rowC (λj=>if j=n then (σ r n ||| m) else σ r j) (lenR c r)))):=λK=>by
   rw [z2w ho (by rfl) (by rw [zh0];exact hn),rowC_set]
  (repeat simp -dsimp -implicitDefEqProofs (disch:=omega) only [↓rP,rA,↓reduceIte,reduceEqDiff,reduceAdd,reduceLeDiff,↓tyr,ld,eo,st])
  have ob:(h.put id2 (.row 89 (rowC (λj=>if j=n then (σ r n ||| m) else σ r j) (lenR c r)))).objs sid=some (.row 85 (solC c A i1 i2 gr)):=by rw [z0x (Ne.symm hne)];exact s.obj
  rw [z2w ob (by rfl) (by rw [solC_len];decide),zs7]
  (repeat simp -dsimp -implicitDefEqProofs (disch:=omega) only [↓rP,rA,↓reduceIte,reduceEqDiff,reduceAdd,reduceLeDiff,↓tyr])
  refine ⟨true,⟨λ_=>Or.inr λh=>hc ?_,λ_=>rfl⟩,⟨?_,z1d _ _ _,s.lt,s.ne⟩,?_⟩
  ·have:=congrFun (congrFun h r) n;simpa [updS] using this
  ·refine ((s.sets.put (v:=(σ r n ||| m)) hn e).keep (S:=λi=>i=sid) ⟨by simp,λj hj hs=>z0x hs _⟩ λq id3 h3 h4=>?_);subst h4;exact s.ne q h3
  ·exact ⟨by simp,λj hj hs=>by rw [z0x (λh=>hs (Or.inl h)),z0x (λh=>hs (Or.inr ⟨r,by rw [h];exact e⟩))]⟩
 ·have hc:(σ r n ||| m)=σ r n:=by omega
  (repeat simp -dsimp -implicitDefEqProofs (disch:=omega) only [↓rP,rA,↓reduceIte,reduceEqDiff,reduceAdd,reduceLeDiff,↓tyr])
  have hu:updS σ r n (σ r n ||| m)=σ:=by
   funext q j;unfold updS;split
   ·rename_i hq;rw [hq.1,hq.2,hc]
   ·rfl
  rw [hu];exact ⟨gr,by simp,s,.refl _ _⟩
end
section
open Go.Abs
def Alike (i j:Nat) (h h2:z00):Prop:=h.next<=h2.next/\∀ k,k≠i->k≠j->h2.objs k=h.objs k
theorem zni {N g p b x:Nat} {asn bd:Code} {fr:Fr} {h:z00} {Q:z1z->Fr->z00->Prop} (hx:x<18446744073709551616) (hg:aEv fr (.tmp g)=.fn (.func 76) [] [.ptr b 0]) (ho:h.objs b=some (.row 89 [.int .u64 x])) (hb:b<h.next)
  (hp:Nat.blt p N=true) (hna:noRF asn=true) (hnb:noRF bd=true) (fr1:Nat->Fr) (J:Nat->z00->Prop) (h0:J 0 h) (hJ:∀ n hh h2,J n hh->Alike b h.next hh h2->J n h2)
  (hA:∀ (k:Nat) hh,WP Tryd.prog N asn (zi5 [p] [.int .i64 (k:Nat)] fr) hh (λe f h'=>e=.normal/\f=fr1 k/\h'=hh))
  (hB:∀ (n k:Nat) hh,(bitsOf x)[n]?=some k->J n hh->h.next<hh.next->WP Tryd.prog N bd (fr1 k) hh (λe f h2=>e=.normal/\J (n+1) h2/\hh.next<=h2.next/\h2.objs b=hh.objs b/\h2.objs h.next=hh.objs h.next))
  (hQ:∀ hh,J (bitsOf x).length hh->Q .normal fr hh):WP Tryd.prog N (.rangeFunc (.tmp g) #[p] asn bd) fr h Q:=by
 refine zpu Tryd.call76 (gf:=76) (cap:=[.ptr b 0]) hg ?_;obtain ⟨lp,hlp⟩:∃ lp:LoopState->Option Code->AObj,lp=λst pe=>.loop st pe N #[p] asn bd fr:=⟨_,rfl⟩;have hlo:∀ st pe,(AObj.loop st pe N #[p] asn bd fr)=lp st pe:=λst pe=>by rw [hlp]
 rw [hlo];refine (zmx hx (λn hh=>J n hh/\h.next<hh.next/\hh.objs h.next=some (lp .ready none)) (λ_=>False) _ (by rw [z16 hb];exact ho) ?_ ?_ ?_).mono ?_
 ·refine ⟨hJ 0 h _ h0 ⟨Nat.le_succ _,λk h1 h2=>?_⟩,Nat.lt_succ_self _,z19 _ _⟩;simp only [z00.z3l];rw [if_neg h2]
 ·rintro n hh o ⟨j1,j2,j3⟩;refine ⟨hJ n hh _ j1 ⟨Nat.le_refl _,λk h1 h2=>z0x h1 _⟩,j2,?_⟩;rw [z0x (by omega)];exact j3
 ·rintro n k hh o hk ⟨j1,j2,j3⟩ hob;rw [hlp] at j3;refine z9s.go (fr1:=fr1 k) j3 (by rfl) (by simpa using hp) hna hnb (hA k hh) ?_;obtain ⟨G,hG⟩:∃ G:z00,G=hh.put h.next (.loop .busy none N #[p] asn bd fr):=⟨_,rfl⟩;rw [<-hG];have gJ:J n G:=hJ n hh G j1 (by rw [hG];exact ⟨Nat.le_refl _,λk h1 h2=>z0x h2 _⟩);refine (hB n k G hk gJ (by rw [hG];exact j2)).mono ?_;rintro e f h2 ⟨rfl,q1,q2,q3,q4⟩;refine ⟨by rw [q4,hG,z1d],Or.inl ⟨rfl,?_,?_,?_,?_⟩⟩
  ·rw [z0x (by omega),q3,hG,z0x (by omega)];exact hob
  ·exact hJ _ h2 _ q1 ⟨Nat.le_refl _,λk h1 h3=>z0x h3 _⟩
  ·have:hh.next=G.next:=by rw [hG];rfl
   have e2:(h2.put h.next (AObj.loop .ready none N #[p] asn bd fr)).next=h2.next:=rfl;rw [e2];omega
  ·rw [z1d,hlp]
 ·rintro v h' (⟨j1,j2,j3⟩ | hj)
  ·rw [hlp] at j3;refine ⟨.ready,none,j3,by simp,?_⟩;simp only [zdr];exact hQ _ (hJ _ h' _ j1 ⟨Nat.le_refl _,λk h1 h2=>zjj h2⟩)
  ·exact hj.elim
theorem uses_small {l:List It} {m:Nat} (hm:m<=1000) (hl:∀ y∈l,y.Op=2->y.N<m):∀ k∈z8f l,∃ n:Nat,k=n/\n<m:=by
 induction l with
 | nil=>intro k hk;cases hk
 | cons x l ih=>
  intro k hk;simp only [z8f] at hk;have ih:=ih (λy hy=>hl y (List.mem_cons_of_mem _ hy));split at hk
  ·rename_i h2;rcases List.mem_cons.1 hk with rfl | hk
   ·have:=hl x (by simp) h2;exact ⟨x.N,z7n (by omega) (by omega),this⟩
   ·exact ih k hk
  ·exact ih k hk
theorem uses_or {σ:Sg} {t:Nat} {l:List It} {m:Nat} (hm:m<=1000) (hl:∀ y∈l,y.Op=2->y.N<m):orF (λk:Int=>σ (.s t) k.toNat) (z8f l)=z5z σ t l:=by
 unfold z5z
 induction l with
 | nil=>rfl
 | cons x l ih=>
  have ih:=ih (λy hy=>hl y (List.mem_cons_of_mem _ hy));rw [zom,<-ih];simp only [z8f];by_cases h2:x.Op=2
  ·have:=hl x (by simp) h2;have hw:IntKind.i64.wrap (x.N:Int)=x.N:=z7n (by omega) (by omega);rw [if_pos h2,if_pos h2,zom,hw];simp
  ·rw [if_neg h2,if_neg h2];simp
theorem zon {α:Type} {f:α->Nat} {l:List α} {k:Nat} {x:α} (hx:l[k]?=some x):orF f (l.take (k+1))=orF f (l.take k) ||| f x:=by
 rw [List.take_add_one,hx];exact orF_snoc _ _ _
theorem zr0 {c:Cd} {t:Nat} {b:Bd} (hb:(slL c.Threads)[t]?=some b):lenR c (.s t)=(slL b.Slots).length:=by simp [lenR,zb5,hb]
theorem orF_lt {α:Type} {f:α->Nat} {l:List α} {n:Nat} (h:∀ x∈l,∀ i,(f x).testBit i=true->i<n):orF f l<2 ^ n:=z8x λi hi=>by
 rw [zkt] at hi;obtain ⟨x,hx,hb⟩:=hi;exact h x hx i hb
theorem zqn {h:z00} {sid:Nat} {c:Cd} {σ:Sg} {A:Rw->AV} {i1 i2:Nat} {gr:Bool} (s:z9l h sid c σ A i1 i2 gr) (wc:WfC c) (bd:Bd2 c σ) {t:Nat} {b:Bd} (hb:(slL c.Threads)[t]?=some b) (items:Option (List It)) (hok:okSl z0e.ok items)
  (hin:∀ y∈slL items,y.Op=2->y.N<(slL b.Slots).length) (hlen:(slL items).length<=64) :
  z01 Tryd.prog 75 [.ptr sid 0,.int .i64 t,slAV 3 z0e.cells items] h (λv h2=>v=.int .u64 (z5z σ t (slL items):Nat)/\h2=h):=by
 refine z01.forget (by simp [z1w]) ?_;have hsl:=(wc.slo t b hb).1;have p32:=zb1 wc.sit;apply zgw;refine (zlt items hok (by omega) h).mono ?_;rintro v H ⟨⟨id,rfl⟩,kp⟩;have S:=s.keep kp;have hlu:=zsd (slL items);have hsm:=uses_small (m:=(slL b.Slots).length) (by omega) hin;have hor:=uses_or (σ:=σ) (t:=t) (m:=(slL b.Slots).length) (by omega) hin;generalize z8f (slL items)=us at *
 (repeat simp -dsimp -implicitDefEqProofs (disch:=omega) only [↓rP,rA,↓reduceIte,reduceEqDiff,reduceAdd,reduceLeDiff,↓tyr,gsI_len])
 obtain ⟨I,hI⟩:∃ I:Nat->Fr->z00->Prop,I=(λn fr hh=>∃ k:Nat,n=us.length-k/\k<=us.length/\hh=H/\fr=frOf [(0,.ptr sid 0),(1,.int .i64 t),(7,.int .u64 (orF (λk:Int=>σ (.s t) k.toNat) (us.take k):Nat)),(11,gsI id us),(12,.int .i64 us.length),(13,.int .i64 k)]):=⟨_,rfl⟩;refine z1i z0d (by kernel_rfl) I us.length (by rw [hI];exact ⟨0,rfl,Nat.zero_le _,rfl,by simp [orF]⟩) ?_;intro n fr hh hi;rw [hI] at hi;obtain ⟨k,rfl,hk,rfl,rfl⟩:=hi;apply zd8
 (repeat simp -dsimp -implicitDefEqProofs (disch:=omega) only [↓rP,rA,↓reduceIte,reduceEqDiff,reduceAdd,reduceLeDiff,↓tyr])
 refine z09 (λhkl=>?_) (λhkl=>?_)
 ·obtain ⟨v,hv⟩:∃ v,us[k]?=some v:=⟨_,List.getElem?_eq_getElem (by omega)⟩;obtain ⟨n,rfl,hn⟩:=hsm v (List.mem_of_getElem? hv);have hnl:n<lenR c (.s t):=by rw [zr0 hb];exact hn
  obtain ⟨rid,e1,e2,e3,ix,ld⟩:=S.sets.ix hnl;have htl:t<(slL c.Threads).length:=(List.getElem?_eq_some_iff.1 hb).1;have eo:iOr .u64 ((orF (λk:Int=>σ (.s t) k.toNat) (us.take k):Nat):Int) ((σ (.s t) n:Nat):Int)=((orF (λk:Int=>σ (.s t) k.toNat) (us.take k) ||| σ (.s t) n:Nat):Int):=by
   refine zt9 _ _ ?_ ?_
   ·have:=orF_lt (f:=λk:Int=>σ (.s t) k.toNat) (l:=us.take k) (n:=(slL c.Sites).length) (λx _ i hi=>bd _ _ _ hi);omega
   ·have:=bd.lt (.s t) n;omega
  (repeat simp -dsimp -implicitDefEqProofs (disch:=omega) only [↓rP,rA,↓reduceIte,reduceEqDiff,reduceAdd,reduceLeDiff,↓tyr,gsI_at hv,S.ld,solR,zf9 htl,ix,ld,eo,wkS k (by omega)])
  rw [z07,hI];exact ⟨_,by omega,k+1,rfl,by omega,rfl,by rw [zon hv];simp⟩
 ·(repeat simp -dsimp -implicitDefEqProofs (disch:=omega) only [↓rP,rA,↓reduceIte,reduceEqDiff,reduceAdd,reduceLeDiff,↓tyr])
  have:k=us.length:=by omega
  subst this;rw [List.take_length,hor];exact ⟨rfl,kp⟩
end
section
open Go.Abs
theorem shl_one {ck:CmpK} {kk:IntKind} {n:Nat} (hn:n<64):binA ck .shl (.int .u64 1) (.int kk (n:Int))=some (.int .u64 ((2 ^ n:Nat):Int)):=by
 have h:=iShl_u64 1 n hn;have h1:((1:Nat):Int)=1:=rfl;rw [h1] at h;rw [binA_shl,if_neg (by omega),h,Nat.one_mul,Nat.mod_eq_of_lt];exact Nat.pow_lt_pow_right (by decide) hn
theorem zb9 {n:Int} {m:Nat} (h:btw n m=true):∃ k:Nat,n=k/\k<m:=by
 simp only [btw,Bool.and_eq_true,decide_eq_true_eq] at h;exact ⟨n.toNat,by omega,by omega⟩
theorem lenR_f {c:Cd} {k:Nat} (hk:¬ k<(slL c.Sites).length):lenR c (.f k)=0:=by
 simp only [lenR];rw [List.getElem?_eq_none (by omega)]
theorem zsk {i j:Nat} {h hh h2:z00} (k:Keeps h hh (λ_=>False)) (a:Alike i j hh h2) (hi:h.next<=i) (hj:h.next<=j):Keeps h h2 (λ_=>False):=
 ⟨Nat.le_trans k.next a.1,λy hy hs=>by rw [a.2 y (by omega) (by omega)];exact k.objs y hy hs⟩
theorem zth {h h0:z00} {sid:Nat} {c:Cd} {σ:Sg} {A:Rw->AV} {i1 i2:Nat} {gr:Bool} (s:z9l h sid c σ A i1 i2 gr) (wc:WfC c) (bd:Bd2 c σ) {t:Nat} {x:In} {N:Nat} (e3:x.Op=3) (hN:x.N=N)
  {y o:Nat} (hy:y=σ (.s t) x.Src.toNat) (ho:o=h.next) (hh0:h0=(h.push (.row 89 [.int .u64 0])).push (.row 89 [.int .u64 (y:Nat)])) (Q:z1z->Fr->z00->Prop)
  (hQ:∀ hh fr,Keeps h hh (λ_=>False)->hh.objs h.next=some (.row 89 [.int .u64 (zbg c σ t x:Nat)])->fr 7=.ptr o 0->Q .normal fr hh) :
  WP Tryd.prog 81 (.rangeFunc (.tmp 47) #[48] z3s z3t) (frOf [(3,.iptr [.ptr sid 0]),(5,.iptr x.cells),(6,.int .u64 0),(7,.ptr o 0),(47,.fn (Fn.func 76) [] [.ptr (o+1) 0])]) h0 Q:=by
 subst ho;have p32:=zb1 wc.sit;have hyl:y<18446744073709551616:=by have:=bd.lt (.s t) x.Src.toNat;rw [hy];omega
 obtain ⟨F,hF⟩:∃ F:Nat->Nat,F=λk=>if x.N<lenR c (.f k) then σ (.f k) x.N.toNat else 0:=⟨_,rfl⟩
 have hFf:zbg c σ t x=orF F (bitsOf y):=by rw [hF,hy];rfl
 have hFl:∀ l,orF F l<18446744073709551616:=λl=>by
  have:=orF_lt (f:=F) (l:=l) (n:=(slL c.Sites).length) (λk _ i hi=>by
   rw [hF] at hi;simp only at hi;split at hi
   ·exact bd _ _ _ hi
   ·simp at hi)
  omega
 have n0:h0.next=h.next+2:=by rw [hh0];rfl
 refine zni (h:=h0) (b:=h.next+1) (x:=y) hyl (by rfl) (by rw [hh0];simp) (by omega) (by rfl) (by kernel_rfl) (by kernel_rfl)
  (λk=>frOf [(3,.iptr [.ptr sid 0]),(5,.iptr x.cells),(7,.ptr h.next 0),(8,.int .i64 (k:Nat))])
  (λn hh=>hh.objs h.next=some (.row 89 [.int .u64 (orF F ((bitsOf y).take n):Nat)])/\Keeps h hh (λ_=>False)/\h.next+2<=hh.next) ?_ ?_ ?_ ?_ ?_
 ·refine ⟨?_,?_,by omega⟩
  ·rw [hh0,z16 (by simp)];simp [orF]
  ·rw [hh0];exact (Keeps.one _ _).go (Keeps.one _ _)
 ·rintro n hh h2 ⟨j1,j2,j3⟩ al;refine ⟨by rw [al.2 _ (by omega) (by omega)];exact j1,zsk j2 al (by omega) (by omega),by have:=al.1;omega⟩
 ·intro k hh
  show WP _ _ _ (zi5 [48] [.int .i64 (k:Nat)] (frOf _)) _ _
  simp only [zi5,zpp];refine WP.zbx [3,5,7,48] ?_;apply zcj;exact ⟨rfl,rfl,rfl⟩
 ·rintro n k hh hk ⟨j1,j2,j3⟩ hL;have S:=s.keep j2;have hkm:=z8p.1 (List.mem_of_getElem? hk);have hks:k<(slL c.Sites).length:=bd _ _ _ (by rw [<-hy];exact hkm.2);have ld:∀ K:AV->Prop,z0t none (.ptr h.next 0) hh K=K (.int .u64 (orF F ((bitsOf y).take n):Nat)):=λK=>by rw [z0b j1];simp [z03]
  have eN:((N:Int)).toNat=N:=by simp
  apply zck
  (repeat simp -dsimp -implicitDefEqProofs (disch:=omega) only [↓rP,rA,↓reduceIte,reduceEqDiff,reduceAdd,reduceLeDiff,↓tyr,e3,hN,Int.reduceBEq,S.ld,solR,zf9 hks,S.sets.len])
  by_cases hl:N<lenR c (.f k)
  ·have hFk:F k=σ (.f k) N:=by rw [hF];simp only;rw [hN,if_pos (by omega)];simp
   obtain ⟨rid,q1,q2,q3,ix,ldr⟩:=S.sets.ix hl;have d:decide ((N:Int)<(lenR c (.f k):Int))=true:=decide_eq_true (by omega);have eo:iOr .u64 ((orF F ((bitsOf y).take n):Nat):Int) ((σ (.f k) N:Nat):Int)=((orF F ((bitsOf y).take n) ||| σ (.f k) N:Nat):Int):=zt9 _ _ (hFl _) (by have:=bd.lt (.f k) N;omega);have st:∀ (v:AV) (hv:v.zbn=true) (K:z00->Prop),z14 1 (.ptr h.next 0) v hh K=K (hh.put h.next (.row 89 [v])):=λv hv K=>by rw [z2w j1 hv (by simp)];rfl
   (repeat simp -dsimp -implicitDefEqProofs (disch:=omega) only [↓rP,rA,↓reduceIte,reduceEqDiff,reduceAdd,reduceLeDiff,↓tyr,d,hN,S.ld,solR,zf9 hks,ix,ldr,ld,eo])
   rw [st _ rfl]
   (repeat simp -dsimp -implicitDefEqProofs (disch:=omega) only [↓rP,rA,↓reduceIte,reduceEqDiff,reduceAdd,reduceLeDiff,↓tyr])
   refine ⟨⟨?_,j2.z3a (Nat.le_refl _) _,by simpa using j3⟩,Nat.le_refl _,z0x (by omega) _,z0x (by omega) _⟩;rw [z1d,zon hk,hFk]
  ·have hFk:F k=0:=by rw [hF];simp only;rw [hN,if_neg (by omega)]
   have d:decide ((N:Int)<(lenR c (.f k):Int))=false:=decide_eq_false (by omega)
   (repeat simp -dsimp -implicitDefEqProofs (disch:=omega) only [↓rP,rA,↓reduceIte,reduceEqDiff,reduceAdd,reduceLeDiff,↓tyr,d])
   exact ⟨by rw [zon hk,hFk,Nat.or_zero];exact j1,j2,j3⟩
 ·rintro hh ⟨j1,j2,j3⟩;rw [List.take_length,<-hFf] at j1;exact hQ hh _ j2 j1 rfl
theorem load_does {h:z00} {sid:Nat} {c:Cd} {σ:Sg} {A:Rw->AV} {i1 i2:Nat} {gr:Bool} (s:z9l h sid c σ A i1 i2 gr) (wc:WfC c) (bd:Bd2 c σ) {t:Nat} {b:Bd} {x:In} (hb:(slL c.Threads)[t]?=some b) (w:Wf c b x) (hok:okSl z0e.ok x.Items)
  (hop:x.Op=1\/x.Op=2\/x.Op=3\/x.Op=8\/x.Op=9) :
  z01 Tryd.prog 54 [.ptr sid 0,.int .i64 t,.agg x.cells] h (λv h2=>v=.int .u64 (z3x c σ t x:Nat)/\h2=h):=by
 refine z01.forget (by simp [z1w]) ?_;have htl:t<(slL c.Threads).length:=(List.getElem?_eq_some_iff.1 hb).1;have p32:=zb1 wc.sit;have h32:=wc.sit;apply zgx;rcases hop with e | e | e | e | e
 ·obtain ⟨w1,w2⟩:=w.items (Or.inl e)
  (repeat simp -dsimp -implicitDefEqProofs (disch:=omega) only [↓rP,rA,↓reduceIte,reduceEqDiff,reduceAdd,reduceLeDiff,↓tyr,e,Int.reduceBEq])
  refine z01.go (zqn s wc bd hb x.Items hok w1 w2) ?_;have hbr:z3x c σ t x=z5z σ t (slL x.Items):=by unfold z3x;rw [if_pos e]
  rw [hbr]
  (repeat simp -dsimp -implicitDefEqProofs (disch:=omega) only [↓rP,rA,↓reduceIte,reduceEqDiff,reduceAdd,reduceLeDiff,↓tyr])
  exact .refl _ _
 ·obtain ⟨n,hn,hl⟩:=zb9 (w.glob (Or.inl e));obtain ⟨rid,q1,q2,q3,ix,ld⟩:=s.sets.ix (r:=.g) hl;have hbr:z3x c σ t x=σ .g n:=by unfold z3x;rw [if_neg (by omega),if_pos e,hn];rfl
  rw [hbr]
  (repeat simp -dsimp -implicitDefEqProofs (disch:=omega) only [↓rP,rA,↓reduceIte,reduceEqDiff,reduceAdd,reduceLeDiff,↓tyr,e,hn,Int.reduceBEq,s.ld,solR,ix,ld])
  exact .refl _ _
 ·obtain ⟨rr,hr,hN,hS⟩:=w.fld (Or.inl e);obtain ⟨N,eN,hNl⟩:=zb9 hN;obtain ⟨m,em,hm⟩:=zb9 hS;have hml:m<lenR c (.s t):=by rw [zr0 hb];exact hm
  obtain ⟨rid,q1,q2,q3,ix,ld⟩:=s.sets.ix hml;have S1:=s.keep (Keeps.one h (.row 89 [.int .u64 0]));have ld1:∀ K:AV->Prop,z0t none (.ptr rid m) (h.push (.row 89 [.int .u64 0])) K=K (.int .u64 (σ (.s t) m:Nat)):=λK=>by
   rw [<-ld K,z0b q3,z0b (by rw [z16 q2];exact q3)]
  (repeat simp -dsimp -implicitDefEqProofs (disch:=omega) only [↓rP,rA,↓reduceIte,reduceEqDiff,reduceAdd,reduceLeDiff,↓tyr,e,Int.reduceBEq])
  rw [zdq (by rfl)]
  (repeat simp -dsimp -implicitDefEqProofs (disch:=omega) only [↓rP,rA,↓reduceIte,reduceEqDiff,reduceAdd,reduceLeDiff,↓tyr,em,S1.ld,solR,zf9 htl,ix,ld1])
  refine (zk3 _ _).mono ?_;rintro _ _ ⟨rfl,rfl⟩
  (repeat simp -dsimp -implicitDefEqProofs (disch:=omega) only [↓rP,rA,↓reduceIte,reduceEqDiff,reduceAdd,reduceLeDiff,↓tyr])
  refine zth (h0:=(h.push (.row 89 [.int .u64 0])).push (.row 89 [.int .u64 (σ (.s t) m:Nat)])) (y:=σ (.s t) m) s wc bd e eN (by rw [em];rfl) rfl rfl _ ?_;intro hh fr k1 k2 k3;have ld2:∀ K:AV->Prop,z0t none (.ptr h.next 0) hh K=K (.int .u64 (zbg c σ t x:Nat)):=λK=>by rw [z0b k2];simp [z03]
  have hbr:z3x c σ t x=zbg c σ t x:=by unfold z3x;rw [if_neg (by omega),if_neg (by omega),if_neg (by omega),if_pos e]
  rw [hbr]
  (repeat simp -dsimp -implicitDefEqProofs (disch:=omega) only [↓rP,rA,↓reduceIte,reduceEqDiff,reduceAdd,reduceLeDiff,↓tyr,k3,ld2])
  exact k1
 ·obtain ⟨n,hn,hl⟩:=zb9 (w.site (Or.inl e));have hbr:z3x c σ t x=2 ^ n:=by unfold z3x;rw [if_neg (by omega),if_neg (by omega),if_pos (Or.inl e),hn];rfl
  rw [hbr]
  (repeat simp -dsimp -implicitDefEqProofs (disch:=omega) only [↓rP,rA,↓reduceIte,reduceEqDiff,reduceAdd,reduceLeDiff,↓tyr,e,hn,Int.reduceBEq,shl_one (show n<64 by omega)])
  exact .refl _ _
 ·obtain ⟨n,hn,hl⟩:=zb9 (w.site (Or.inr e));have hbr:z3x c σ t x=2 ^ n:=by unfold z3x;rw [if_neg (by omega),if_neg (by omega),if_pos (Or.inr e),hn];rfl
  rw [hbr]
  (repeat simp -dsimp -implicitDefEqProofs (disch:=omega) only [↓rP,rA,↓reduceIte,reduceEqDiff,reduceAdd,reduceLeDiff,↓tyr,e,hn,Int.reduceBEq,shl_one (show n<64 by omega)])
  exact .refl _ _
end
section
open Go.Abs
theorem z8z.old {h:z00} {c:Cd} {σ:Sg} {A:Rw->AV} (s:z8z h c σ A) {r:Rw} {id:Nat} (e:A r=.sl id 0 (lenR c r) 1):id<h.next:=by
 rcases s.row r with ⟨e2,_⟩ | ⟨id2,e2,hid,_⟩
 ·rw [e] at e2;cases e2
 ·rw [e] at e2;cases e2;exact hid
theorem z9l.alike {h hh h2:z00} {sid:Nat} {c:Cd} {σ τ:Sg} {A:Rw->AV} {i1 i2:Nat} {gr g2:Bool} (s:z9l h sid c σ A i1 i2 gr) {i j:Nat} (S:z9l hh sid c τ A i1 i2 g2) (al:Alike i j hh h2) (hi:h.next<=i) (hj:h.next<=j):z9l h2 sid c τ A i1 i2 g2:=by
 have hs:=s.lt;refine ⟨S.sets.keep (S:=λk=>k=i\/k=j) ⟨al.1,λk _ hk=>al.2 k (λh=>hk (Or.inl h)) (λh=>hk (Or.inr h))⟩ ?_,?_,Nat.lt_of_lt_of_le S.lt al.1,S.ne⟩
 ·intro r id e;have:=s.sets.old e;rintro (h | h) <;> omega
 ·rw [al.2 sid (by omega) (by omega)];exact S.obj
theorem Own.lt {h:z00} {sid:Nat} {c:Cd} {σ:Sg} {A:Rw->AV} {i1 i2:Nat} {gr:Bool} (s:z9l h sid c σ A i1 i2 gr) {i:Nat} (o:Own sid c A i):i<h.next:=by
 rcases o with rfl | ⟨r,e⟩
 ·exact s.lt
 ·exact s.sets.old e
theorem zn5 {σ τ ρ:Sg} (h1:Le σ τ) (h2:Le τ ρ):(τ≠σ\/ρ≠τ)↔ρ≠σ:=by
 constructor
 ·rintro h rfl;have:τ=ρ:=Le.anti h2 h1;subst this;simp at h
 ·intro h;by_cases e:τ=σ
  ·right;rw [e];exact h
  ·left;exact e
def z8e (c:Cd) (rec:Int) (N m:Nat) (L:List Nat) (σ:Sg):Sg:=λr j=>
 match r with
 | .f k=>if k∈L/\zan c k rec=true/\j=N then σ (.f k) j ||| m else σ (.f k) j
 | r=>σ r j
theorem partF_nil (c:Cd) (rec:Int) (N m:Nat) (σ:Sg):z8e c rec N m [] σ=σ:=by
 funext r j;cases r <;> simp [z8e]
theorem zrm {c:Cd} {rec:Int} {N m:Nat} {L:List Nat} {σ:Sg} {k:Nat} (h:zan c k rec=true):z8e c rec N m (L++[k]) σ=updS (z8e c rec N m L σ) (.f k) N (z8e c rec N m L σ (.f k) N ||| m):=by
 funext r j;unfold updS
 cases r with
 | f i=>
  simp only [z8e,List.mem_append,List.mem_singleton];by_cases hi:i=k
  ·subst hi;by_cases hj:j=N
   ·subst hj;simp only [h,or_true,and_self,if_true];by_cases hL:i∈L
    ·simp [hL,Nat.or_assoc]
    ·simp [hL]
   ·simp [hj]
  ·simp [hi]
 | g=>simp [z8e]
 | s t=>simp [z8e]
theorem partF_no {c:Cd} {rec:Int} {N m:Nat} {L:List Nat} {σ:Sg} {k:Nat} (h:zan c k rec=false):z8e c rec N m (L++[k]) σ=z8e c rec N m L σ:=by
 funext r j
 cases r with
 | f i=>
  simp only [z8e,List.mem_append,List.mem_singleton];by_cases hi:i=k
  ·subst hi;simp [h]
  ·simp [hi]
 | g=>simp [z8e]
 | s t=>simp [z8e]
theorem partF_le (c:Cd) (rec:Int) (N m:Nat) (L:List Nat) (σ:Sg):Le σ (z8e c rec N m L σ):=by
 intro r n i h
 cases r with
 | f k=>
  simp only [z8e];split
  ·rw [Nat.testBit_or,h];rfl
  ·exact h
 | g=>exact h
 | s t=>exact h
theorem partF_lt {c:Cd} {rec:Int} {N m:Nat} {L:List Nat} {σ:Sg} (bd:Bd2 c σ) (hm:∀ i,m.testBit i=true->i<(slL c.Sites).length) (r:Rw) (n:Nat):z8e c rec N m L σ r n<2 ^ (slL c.Sites).length:=by
 apply z8x;intro i hi
 cases r with
 | f k=>
  simp only [z8e] at hi;split at hi
  ·rw [Nat.testBit_or,Bool.or_eq_true] at hi;rcases hi with hi | hi
   ·exact bd _ _ _ hi
   ·exact hm i hi
  ·exact bd _ _ _ hi
 | g=>exact bd _ _ _ hi
 | s t=>exact bd _ _ _ hi
theorem step_six {c:Cd} {t:Nat} {x:In} {σ:Sg} {N:Nat} (e:x.Op=6) (hN:x.N=N) (hm:z9z (getI (recL c x.Rec) x.N)=true) (bd:Bd2 c σ) (h32:(slL c.Sites).length<=32):z8e c x.Rec N (z5z σ t (slL x.Items)) (bitsOf (σ (.s t) x.Src.toNat)) σ=z9j c t x σ:=by
 funext r j;have hd:dstB c t x=false:=by simp [dstB,e]
 have e5:¬ (6:Int)=5:=by omega
 rw [hN] at hm;simp only [z9j,zfz,hd,e,e5,hm,hN,Bool.false_eq_true,false_and,if_false,true_and,Int.toNat_natCast]
 cases r with
 | f k=>
  simp only [z8e,toF,Bool.and_eq_true];by_cases hc:k∈bitsOf (σ (.s t) x.Src.toNat)/\zan c k x.Rec=true/\j=N
  ·rw [if_pos hc,if_pos ⟨⟨(z8p.1 hc.1).2,hc.2.1⟩,by have:=hc.2.2;omega⟩]
  ·rw [if_neg hc,if_neg]
   ·simp
   ·rintro ⟨⟨h1,h2⟩,h3⟩;have:=bd _ _ _ h1;exact hc ⟨z8p.2 ⟨by omega,h1⟩,h2,by omega⟩
 | g=>simp [z8e,toF]
 | s t=>simp [z8e,toF]
theorem step_five {c:Cd} {t:Nat} {x:In} {σ:Sg} {N:Nat} (e:x.Op=5) (hN:x.N=N) (hm:z9z (getI (slL c.Globals) x.N)=true):updS σ .g N (σ .g N ||| z5z σ t (slL x.Items))=z9j c t x σ:=by
 funext r j;have hd:dstB c t x=false:=by simp [dstB,e]
 rw [hN] at hm;simp only [z9j,zfz,hd,e,hN,hm,Bool.false_eq_true,false_and,if_false,true_and,updS,Int.toNat_natCast];by_cases hc:r=.g/\j=N
 ·rw [if_pos hc,if_pos hc,hc.1,hc.2]
 ·rw [if_neg hc,if_neg hc,if_neg (by omega)];simp
theorem step_dst {c:Cd} {t:Nat} {x:In} {σ:Sg} {d:Nat} (hd:dstB c t x=true) (e:x.Dst=d):updS σ (.s t) d (σ (.s t) d ||| z3x c σ t x)=z9j c t x σ:=by
 funext r j;have h56:x.Op≠5/\x.Op≠6:=by
  simp only [dstB,Bool.and_eq_true,Bool.or_eq_true,decide_eq_true_eq] at hd;omega
 simp only [z9j,zfz,hd,e,true_and,updS,Int.toNat_natCast];by_cases hc:r=.s t/\j=d
 ·rw [if_pos hc,if_pos hc,hc.1,hc.2]
 ·rw [if_neg hc,if_neg hc,if_neg (by simp [h56.1]),if_neg (by simp [h56.2])];simp
theorem zpn {c:Cd} {t:Nat} {x:In} {σ:Sg} (hd:dstB c t x=false) (h5:x.Op=5->z9z (getI (slL c.Globals) x.N)=false) (h6:x.Op=6->z9z (getI (recL c x.Rec) x.N)=false):z9j c t x σ=σ:=by
 funext r j;simp only [z9j,zfz,hd,Bool.false_eq_true,false_and,if_false];rw [if_neg,if_neg]
 ·simp
 ·rintro ⟨h,h2,_⟩;rw [h6 h] at h2;cases h2
 ·rintro ⟨h,h2,_⟩;rw [h5 h] at h2;cases h2
def ziu (h:z00) (sid:Nat) (c:Cd) (σ τ:Sg) (A:Rw->AV) (i1 i2:Nat) (gr:Bool) (h2:z00):Prop:=∃ gr',(gr'=true↔gr=true\/τ≠σ)/\z9l h2 sid c τ A i1 i2 gr'/\Keeps h h2 (Own sid c A)
theorem ziu.same {h h2:z00} {sid:Nat} {c:Cd} {σ:Sg} {A:Rw->AV} {i1 i2:Nat} {gr:Bool} (s:z9l h sid c σ A i1 i2 gr) (k:Keeps h h2 (λ_=>False)):ziu h sid c σ σ A i1 i2 gr h2:=⟨gr,by simp,s.keep k,k.mono (λ_ h=>h.elim)⟩
theorem znr {c:Cd} {k:Nat} {s:z0s} {n:Int} (hk:(slL c.Sites)[k]?=some s):zan c k n=decide (s.Rec=n):=by simp [zan,hk]
theorem zsa {h h0:z00} {sid:Nat} {c:Cd} {σ:Sg} {A:Rw->AV} {i1 i2:Nat} {gr:Bool} (s:z9l h sid c σ A i1 i2 gr) (wc:WfC c) (bd:Bd2 c σ) {t:Nat} {x:In} {N m y o:Nat} {rr:Option (List Lo)} (hN:x.N=N) (hr:getI (slL c.Records) x.Rec=some rr) (hNl:N<(slL rr).length)
  (hm:m=z5z σ t (slL x.Items)) (hy:y=σ (.s t) x.Src.toNat) (ho:o=h.next) (hh0:h0=(h.push (.row 89 [.int .u64 (m:Nat)])).push (.row 89 [.int .u64 (y:Nat)])) (Q:z1z->Fr->z00->Prop)
  (hQ:∀ hh fr,ziu h sid c σ (z8e c x.Rec N m (bitsOf y) σ) A i1 i2 gr hh->Q .normal fr hh) :
  WP Tryd.prog 92 (.rangeFunc (.tmp 64) #[65] z6b z6c) (frOf [(3,.iptr [.ptr sid 0]),(5,.iptr x.cells),(6,.ptr o 0),(64,.fn (Fn.func 76) [] [.ptr (o+1) 0])]) h0 Q:=by
 subst ho;have p32:=zb1 wc.sit;have hyl:y<18446744073709551616:=by have:=bd.lt (.s t) x.Src.toNat;rw [hy];omega
 have mb:∀ i,m.testBit i=true->i<(slL c.Sites).length:=λi hi=>zgb bd (by rw [<-hm];exact hi);have hml:m<18446744073709551616:=by have:=z8x mb;omega
 have n0:h0.next=h.next+2:=by rw [hh0];rfl
 have kp0:Keeps h h0 (λ_=>False):=by rw [hh0];exact (Keeps.one _ _).go (Keeps.one _ _)
 refine zni (h:=h0) (b:=h.next+1) (x:=y) hyl (by rfl) (by rw [hh0];simp) (by omega) (by rfl) (by kernel_rfl) (by kernel_rfl)
  (λk=>frOf [(3,.iptr [.ptr sid 0]),(5,.iptr x.cells),(6,.ptr h.next 0),(7,.int .i64 (k:Nat))])
  (λn hh=>ziu h sid c σ (z8e c x.Rec N m ((bitsOf y).take n) σ) A i1 i2 gr hh/\hh.objs h.next=some (.row 89 [.int .u64 (m:Nat)])/\h.next+2<=hh.next) ?_ ?_ ?_ ?_ ?_
 ·refine ⟨?_,?_,by omega⟩
  ·rw [List.take_zero,partF_nil];exact ziu.same s kp0
  ·rw [hh0,z16 (by simp)];simp
 ·rintro n hh h2 ⟨⟨g2,q1,q2,q3⟩,j2,j3⟩ al;refine ⟨⟨g2,q1,s.alike q2 al (by omega) (by omega),⟨Nat.le_trans q3.next al.1,λi hi ho=>?_⟩⟩,by rw [al.2 _ (by omega) (by omega)];exact j2,by have:=al.1;omega⟩;rw [al.2 i (by omega) (by omega)];exact q3.objs i hi ho
 ·intro k hh
  show WP _ _ _ (zi5 [65] [.int .i64 (k:Nat)] (frOf _)) _ _
  simp only [zi5,zpp];refine WP.zbx [3,5,6,65] ?_;apply zcl;exact ⟨rfl,rfl,rfl⟩
 ·rintro n k hh hk ⟨⟨g2,q1,S,q3⟩,j2,j3⟩ hL;have hkm:=z8p.1 (List.mem_of_getElem? hk);have hks:k<(slL c.Sites).length:=bd _ _ _ (by rw [<-hy];exact hkm.2);obtain ⟨st,hst⟩:∃ st,(slL c.Sites)[k]?=some st:=⟨_,List.getElem?_eq_getElem hks⟩;have ld:∀ K:AV->Prop,z0t none (.ptr h.next 0) hh K=K (.int .u64 (m:Nat)):=λK=>by rw [z0b j2];simp [z03]
  have htk:(bitsOf y).take (n+1)=(bitsOf y).take n++[k]:=by rw [List.take_add_one,hk];rfl
  apply zcm
  (repeat simp -dsimp -implicitDefEqProofs (disch:=omega) only [↓rP,rA,↓reduceIte,reduceEqDiff,reduceAdd,reduceLeDiff,↓tyr,S.ld,solR,z06 hst])
  refine z0p (λhe=>?_) (λhe=>?_)
  ·have hsr:zan c k x.Rec=true:=by rw [znr hst];exact decide_eq_true he
   have hlen:N<lenR c (.f k):=by simp only [lenR,hst,he,recL,hr];exact hNl
   obtain ⟨rid,r1,r2,r3,ix,ldr⟩:=S.sets.ix hlen
   (repeat simp -dsimp -implicitDefEqProofs (disch:=omega) only [↓rP,rA,↓reduceIte,reduceEqDiff,reduceAdd,reduceLeDiff,↓tyr,S.ld,solR,zf9 hks,hN,ix,ld])
   refine (zo0 S hlen r1 (by have:=partF_lt (L:=(bitsOf y).take n) (rec:=x.Rec) (N:=N) bd mb (.f k) N;omega) hml).mono ?_;rintro _ h2 ⟨rfl,g3,a1,a2,a3⟩;rw [<-zrm hsr,<-htk] at a1 a2;have hno:∀ i,h.next<=i->¬ Own sid c A i:=λi hi ho=>by have:=Own.lt s ho;omega
   (repeat simp -dsimp -implicitDefEqProofs (disch:=omega) only [↓rP,rA,↓reduceIte,reduceEqDiff,reduceAdd,reduceLeDiff,↓tyr])
   refine ⟨⟨⟨g3,?_,a2,?_⟩,?_,?_⟩,a3.next,?_,?_⟩
   ·rw [a1,q1,or_assoc];have hle:Le (z8e c x.Rec N m ((bitsOf y).take n) σ) (z8e c x.Rec N m ((bitsOf y).take (n+1)) σ):=by
     rw [htk,zrm hsr];intro r j i hi;unfold updS;split
     ·rename_i hq;rw [hq.1,hq.2] at hi;rw [Nat.testBit_or,hi];rfl
     ·exact hi
    rw [zn5 (partF_le _ _ _ _ _ _) hle]
   ·exact q3.trans a3 (λ_ _ h=>h)
   ·rw [a3.objs _ (by omega) (hno _ (by omega))];exact j2
   ·have:=a3.next;omega
   ·exact a3.objs _ (by omega) (hno _ (by omega))
   ·exact a3.objs _ (by omega) (hno _ (by omega))
  ·have hsr:zan c k x.Rec=false:=by rw [znr hst];exact decide_eq_false he
   (repeat simp -dsimp -implicitDefEqProofs (disch:=omega) only [↓rP,rA,↓reduceIte,reduceEqDiff,reduceAdd,reduceLeDiff,↓tyr])
   rw [htk,partF_no hsr];exact ⟨⟨g2,q1,S,q3⟩,j2,j3⟩
 ·rintro hh ⟨j1,j2,j3⟩;rw [List.take_length] at j1;exact hQ hh _ j1
theorem znu {h:z00} {sid:Nat} {c:Cd} {σ:Sg} {A:Rw->AV} {i1 i2:Nat} {gr:Bool} (s:z9l h sid c σ A i1 i2 gr) (wc:WfC c) (bd:Bd2 c σ) {t:Nat} {b:Bd} {x:In} (hb:(slL c.Threads)[t]?=some b) (w:Wf c b x) (hok:okSl z0e.ok x.Items)
  (hop:x.Op=5\/x.Op=6) :
  z01 Tryd.prog 55 [.ptr sid 0,.int .i64 t,.agg x.cells] h (λv h2=>v=.tup []/\ziu h sid c σ (z9j c t x σ) A i1 i2 gr h2):=by
 have htl:t<(slL c.Threads).length:=(List.getElem?_eq_some_iff.1 hb).1;have p32:=zb1 wc.sit;have h32:=wc.sit;have hm:z5z σ t (slL x.Items)<18446744073709551616:=by have:=z8x (λi hi=>zgb bd (t:=t) (l:=slL x.Items) (i:=i) hi);omega
 obtain ⟨w1,w2⟩:=w.items (Or.inr hop);have S1:=s.keep (Keeps.one h (.row 89 [.int .u64 (z5z σ t (slL x.Items):Nat)]));have ld1:∀ K:AV->Prop,z0t none (.ptr h.next 0) (h.push (.row 89 [.int .u64 (z5z σ t (slL x.Items):Nat)])) K=K (.int .u64 (z5z σ t (slL x.Items):Nat)):=λK=>by rw [zax];simp [z03]
 apply zfc
 (repeat simp -dsimp -implicitDefEqProofs (disch:=omega) only [↓rP,rA,↓reduceIte,reduceEqDiff,reduceAdd,reduceLeDiff,↓tyr])
 refine z01.go (zqn s wc bd hb x.Items hok w1 w2) ?_;rcases hop with e | e
 ·obtain ⟨N,eN,hl⟩:=zb9 (w.glob (Or.inr e));obtain ⟨g,hg⟩:∃ g,(slL c.Globals)[N]?=some g:=⟨_,List.getElem?_eq_getElem hl⟩;have hgl:N<lenR c .g:=hl
  (repeat simp -dsimp -implicitDefEqProofs (disch:=omega) only [↓rP,rA,↓reduceIte,reduceEqDiff,reduceAdd,reduceLeDiff,↓tyr])
  rw [zdq (by rfl)]
  (repeat simp -dsimp -implicitDefEqProofs (disch:=omega) only [↓rP,rA,↓reduceIte,reduceEqDiff,reduceAdd,reduceLeDiff,↓tyr,e,eN,Int.reduceBEq,S1.ld,solR,z06 hg])
  refine z01.go (zhu g _) ?_;have hmo:z9z (getI (slL c.Globals) x.N)=zcx g:=by rw [eN,z2e,hg];rfl
  cases hmg:zcx g with
  | true=>
   obtain ⟨rid,r1,r2,r3,ix,ldr⟩:=S1.sets.ix hgl
   (repeat simp -dsimp -implicitDefEqProofs (disch:=omega) only [↓rP,rA,↓reduceIte,reduceEqDiff,reduceAdd,reduceLeDiff,↓tyr,e,eN,Int.reduceBEq,S1.ld,solR,ix,ld1])
   refine (zo0 S1 hgl r1 (by have:=bd.lt .g N;omega) hm).mono ?_;rintro _ h2 ⟨rfl,g3,a1,a2,a3⟩;rw [step_five e eN (by rw [hmo,hmg])] at a1 a2
   (repeat simp -dsimp -implicitDefEqProofs (disch:=omega) only [↓rP,rA,↓reduceIte,reduceEqDiff,reduceAdd,reduceLeDiff,↓tyr])
   exact ⟨g3,a1,a2,((Keeps.one _ _).mono (λ_ h=>h.elim)).trans a3 (λ_ _ h=>h)⟩
  | false=>
   (repeat simp -dsimp -implicitDefEqProofs (disch:=omega) only [↓rP,rA,↓reduceIte,reduceEqDiff,reduceAdd,reduceLeDiff,↓tyr])
   rw [zpn (by simp [dstB,e]) (λ_=>by rw [hmo,hmg]) (λh=>by omega)];exact ziu.same s (Keeps.one _ _)
 ·obtain ⟨rr,hr,hN,hS⟩:=w.fld (Or.inr e);obtain ⟨N,eN,hNl⟩:=zb9 hN;obtain ⟨m,em,hml⟩:=zb9 hS;obtain ⟨f,hf⟩:∃ f,(slL rr)[N]?=some f:=⟨_,List.getElem?_eq_getElem hNl⟩;have hsl:m<lenR c (.s t):=by rw [zr0 hb];exact hml
  (repeat simp -dsimp -implicitDefEqProofs (disch:=omega) only [↓rP,rA,↓reduceIte,reduceEqDiff,reduceAdd,reduceLeDiff,↓tyr])
  rw [zdq (by rfl)]
  (repeat simp -dsimp -implicitDefEqProofs (disch:=omega) only [↓rP,rA,↓reduceIte,reduceEqDiff,reduceAdd,reduceLeDiff,↓tyr,e,eN,Int.reduceBEq,S1.ld,solR,ixI hr,z06 hf])
  refine z01.go (zhu f _) ?_;have hmo:z9z (getI (recL c x.Rec) x.N)=zcx f:=by simp only [recL,hr];rw [eN,z2e,hf];rfl
  cases hmg:zcx f with
  | true=>
   obtain ⟨rid,r1,r2,r3,ix,ldr⟩:=S1.sets.ix hsl
   (repeat simp -dsimp -implicitDefEqProofs (disch:=omega) only [↓rP,rA,↓reduceIte,reduceEqDiff,reduceAdd,reduceLeDiff,↓tyr,S1.ld,solR,zf9 htl,em,ix,ldr])
   refine (zk3 _ _).mono ?_;rintro _ _ ⟨rfl,rfl⟩
   (repeat simp -dsimp -implicitDefEqProofs (disch:=omega) only [↓rP,rA,↓reduceIte,reduceEqDiff,reduceAdd,reduceLeDiff,↓tyr])
   refine zsa (h0:=(h.push (.row 89 [.int .u64 (z5z σ t (slL x.Items):Nat)])).push (.row 89 [.int .u64 (σ (.s t) m:Nat)])) (y:=σ (.s t) m) (rr:=rr) s wc bd eN hr hNl rfl (by rw [em];rfl) rfl rfl _ ?_;intro hh fr q;have e6:=step_six (t:=t) e eN (by rw [hmo,hmg]) bd h32;rw [em,Int.toNat_natCast] at e6;rw [e6] at q
   (repeat simp -dsimp -implicitDefEqProofs (disch:=omega) only [↓rP,rA,↓reduceIte,reduceEqDiff,reduceAdd,reduceLeDiff,↓tyr])
   exact q
  | false=>
   (repeat simp -dsimp -implicitDefEqProofs (disch:=omega) only [↓rP,rA,↓reduceIte,reduceEqDiff,reduceAdd,reduceLeDiff,↓tyr])
   rw [zpn (by simp [dstB,e]) (λh=>by omega) (λ_=>by rw [hmo,hmg])];exact ziu.same s (Keeps.one _ _)
end
section
open Go.Abs
theorem step_does {h:z00} {sid:Nat} {c:Cd} {σ:Sg} {A:Rw->AV} {i1 i2:Nat} {gr:Bool} (s:z9l h sid c σ A i1 i2 gr) (wc:WfC c) (bd:Bd2 c σ) {t:Nat} {b:Bd} {x:In} (hb:(slL c.Threads)[t]?=some b) (w:Wf c b x) (hok:okSl z0e.ok x.Items) :
  z01 Tryd.prog 31 [.ptr sid 0,.int .i64 t,.agg x.cells] h (λv h2=>v=.tup []/\ziu h sid c σ (z9j c t x σ) A i1 i2 gr h2):=by
 have htl:t<(slL c.Threads).length:=(List.getElem?_eq_some_iff.1 hb).1;have p32:=zb1 wc.sit;have h32:=wc.sit;have hst:zb5 c t=slL b.Slots:=by unfold zb5;rw [hb]
 apply zgy
 (repeat simp -dsimp -implicitDefEqProofs (disch:=omega) only [↓rP,rA,↓reduceIte,reduceEqDiff,reduceAdd,reduceLeDiff,↓tyr])
 refine z01.go (z8c x _) ?_;by_cases ho:x.Op=1\/x.Op=2\/x.Op=3\/x.Op=4\/x.Op=8\/x.Op=9\/x.Op=10
 ·rw [if_pos ho];obtain ⟨d,ed,hd⟩:=zb9 (w.dst ho);obtain ⟨l,hl⟩:∃ l,(slL b.Slots)[d]?=some l:=⟨_,List.getElem?_eq_getElem hd⟩;have hdl:d<lenR c (.s t):=by rw [zr0 hb];exact hd
  have n5:(x.Op == 5)=false:=by rw [beqI];exact decide_eq_false (by omega)
  have n6:(x.Op == 6)=false:=by rw [beqI];exact decide_eq_false (by omega)
  have hgl:getI (slL b.Slots) x.Dst=some l:=by rw [ed,z2e];exact hl
  have hmo:z9z (getI (zb5 c t) x.Dst)=zcx l:=by rw [hst,hgl];rfl
  (repeat simp -dsimp -implicitDefEqProofs (disch:=omega) only [↓rP,rA,↓reduceIte,reduceEqDiff,reduceAdd,reduceLeDiff,↓tyr,ed,s.ld,solR,z06 hb,z06 hl])
  refine z01.go (zhu l _) ?_
  cases hm:zcx l with
  | true=>
   have hop:x.Op=1\/x.Op=2\/x.Op=3\/x.Op=8\/x.Op=9:=by
    by_cases h4:x.Op=4\/x.Op=10
    ·have hk:=w.ints h4 l hgl;simp [zcx,hk] at hm
    ·omega
   have hds:dstB c t x=true:=by
    simp only [dstB,hmo,hm,Bool.and_true,Bool.or_eq_true,decide_eq_true_eq];omega
   obtain ⟨rid,r1,r2,r3,ix,ldr⟩:=s.sets.ix hdl;have hbr:z3x c σ t x<18446744073709551616:=by have:=z8x (λi hi=>zq1 bd w (t:=t) (i:=i) hi);omega
   (repeat simp -dsimp -implicitDefEqProofs (disch:=omega) only [↓rP,rA,↓reduceIte,reduceEqDiff,reduceAdd,reduceLeDiff,↓tyr,ed,s.ld,solR,zf9 htl,ix])
   refine z01.go (load_does s wc bd hb w hok hop) ?_
   (repeat simp -dsimp -implicitDefEqProofs (disch:=omega) only [↓rP,rA,↓reduceIte,reduceEqDiff,reduceAdd,reduceLeDiff,↓tyr,s.ld,solR])
   refine (zo0 s hdl r1 (by have:=bd.lt (.s t) d;omega) hbr).mono ?_;rintro _ h2 ⟨rfl,g3,a1,a2,a3⟩;rw [step_dst hds ed] at a1 a2
   (repeat simp -dsimp -implicitDefEqProofs (disch:=omega) only [↓rP,rA,↓reduceIte,reduceEqDiff,reduceAdd,reduceLeDiff,↓tyr,n5,n6])
   exact ⟨g3,a1,a2,a3⟩
  | false=>
   (repeat simp -dsimp -implicitDefEqProofs (disch:=omega) only [↓rP,rA,↓reduceIte,reduceEqDiff,reduceAdd,reduceLeDiff,↓tyr,n5,n6])
   rw [zpn (by simp [dstB,hmo,hm]) (λh=>by omega) (λh=>by omega)];exact ziu.same s (.refl _ _)
 ·rw [if_neg ho];have hds:dstB c t x=false:=by
   simp only [dstB,Bool.and_eq_false_iff,Bool.or_eq_false_iff,decide_eq_false_iff_not];left;omega
  by_cases h56:x.Op=5\/x.Op=6
  ·rcases h56 with e | e
   ·(repeat simp -dsimp -implicitDefEqProofs (disch:=omega) only [↓rP,rA,↓reduceIte,reduceEqDiff,reduceAdd,reduceLeDiff,↓tyr,e,Int.reduceBEq])
    refine (znu s wc bd hb w hok (Or.inl e)).mono ?_;rintro _ h2 ⟨rfl,q⟩
    (repeat simp -dsimp -implicitDefEqProofs (disch:=omega) only [↓rP,rA,↓reduceIte,reduceEqDiff,reduceAdd,reduceLeDiff,↓tyr])
    exact q
   ·(repeat simp -dsimp -implicitDefEqProofs (disch:=omega) only [↓rP,rA,↓reduceIte,reduceEqDiff,reduceAdd,reduceLeDiff,↓tyr,e,Int.reduceBEq])
    refine (znu s wc bd hb w hok (Or.inr e)).mono ?_;rintro _ h2 ⟨rfl,q⟩
    (repeat simp -dsimp -implicitDefEqProofs (disch:=omega) only [↓rP,rA,↓reduceIte,reduceEqDiff,reduceAdd,reduceLeDiff,↓tyr])
    exact q
  ·have n5:(x.Op == 5)=false:=by rw [beqI];exact decide_eq_false (by omega)
   have n6:(x.Op == 6)=false:=by rw [beqI];exact decide_eq_false (by omega)
   (repeat simp -dsimp -implicitDefEqProofs (disch:=omega) only [↓rP,rA,↓reduceIte,reduceEqDiff,reduceAdd,reduceLeDiff,↓tyr,n5,n6])
   rw [zpn hds (λh=>by omega) (λh=>by omega)];exact ziu.same s (.refl _ _)
end
section
open Go.Abs
theorem mk_row (n:Nat) (hn:n<=1000000) (h:z00) (K:AV->z00->Prop):z6r { e:=89,sz:=1,by_:=8 } [.int .u64 0] (.int .i64 (n:Int)) (.int .i64 (n:Int)) h K=K (.sl h.next 0 n 1) (h.push (.row 89 (rowC (λ_=>0) n))):=by
 have e:repC n [AV.int .u64 0]=rowC (λ_=>0) n:=by
  simp only [repC,rowC];apply List.ext_getElem?;intro i;simp only [List.getElem?_replicate,List.getElem?_map,List.getElem?_range'];by_cases hi:i<n
  ·simp [hi]
  ·simp [hi,List.getElem?_eq_none]
 simp only [z6r,Int.toNat_natCast,e];apply propext;constructor
 ·rintro ⟨-,-,-,-,-,hk⟩;exact hk
 ·intro hk;exact ⟨by omega,by omega,by omega,by omega,rfl,hk⟩
theorem bsl_sl (id n:Nat) (h:z00) (K:AV->z00->Prop):z10 true { e:=62,sz:=1,by_:=24 } [AV.nils] 1 [(0,.sl id 0 n 1)] h K=K (.isl 1 [[.sl id 0 n 1]]) h:=by
 simp [z10,zat,AV.fits,AV.cells]
theorem zhv {id n:Nat} {f g:Nat->AV} (h:∀ k,k<n->f k=g k):outA id n f=outA id n g:=by
 unfold outA;split
 ·rfl
 ·congr 1
  apply List.map_congr_left;intro k hk;rw [h k (List.mem_range.1 hk)]
theorem outA_push {h:z00} {tok k:Nat} {f:Nat->AV} (hk:k<=1000) (p:k=0\/(tok<h.next/\h.objs tok=some (.tok 62 k))) {K:AV->z00->Prop}
  (hK:∀ h2,h2.objs h.next=some (.tok 62 (k+1))->h2.next=h.next+1->Keeps h h2 (λx=>x=tok/\0<k)->K (outA h.next (k+1) f) h2):z1x true { e:=62,sz:=1,by_:=24 } (outA tok k f) (.isl 1 [[f k]]) h K:=by
 have hnew:outA h.next (k+1) f=.gsl h.next 1 (((List.range k).map λj=>[f j])++[[f k]]):=by
  unfold outA;rw [if_neg (by omega),List.range_succ,List.map_append];rfl
 rw [hnew] at hK;unfold outA;by_cases h0:k=0
 ·subst h0;simp only [if_true,z1x,z1v,zgg];refine ⟨by simp [bounded,maxLen],?_⟩;exact hK _ (by simp) rfl ⟨by simp,λx hx hs=>z16 hx _⟩
 ·rcases p with p | ⟨p1,p2⟩
  ·exact absurd p h0
  ·simp only [if_neg h0,z1x,z1v,p2,if_true];refine ⟨trivial,trivial,by simp,by simp [bounded,maxLen];omega,?_⟩;refine hK _ ?_ rfl ⟨by simp,λx hx hs=>?_⟩
   ·have:(h.kill tok).next=h.next:=rfl;rw [<-this,z19];simp
   ·rw [z16 (by simpa using hx),zjj (λe=>hs ⟨e,by omega⟩)]
def inB (k1 k2:Nat):Rw->Prop
 | .g=>True
 | .s t=>t<k1
 | .f k=>k<k2
def solP (c:Cd) (A:Rw->AV) (i1 k1 i2 k2:Nat):List AV:=c.cells++([outA i1 k1 (λt=>A (.s t)),A .g,outA i2 k2 (λk=>A (.f k))]++[.bool true])
structure z5f (h hh:z00) (sid:Nat) (c:Cd) (A:Rw->AV) (i1 k1 i2 k2:Nat):Prop where
 rows:∀ r,inB k1 k2 r->∃ id,A r=.sl id 0 (lenR c r) 1/\h.next<id/\id<hh.next/\hh.objs id=some (.row 89 (rowC (λ_=>0) (lenR c r)))
 none:∀ r,¬ inB k1 k2 r->A r=.nils
 one:∀ r r' id,A r=.sl id 0 (lenR c r) 1->A r'=.sl id 0 (lenR c r') 1->r=r'
 obj:hh.objs sid=some (.row 85 (solP c A i1 k1 i2 k2))
 gt:h.next<sid
 lt:sid<hh.next
 t1:k1=0\/k1=(slL c.Threads).length\/(h.next<i1/\i1<hh.next/\hh.objs i1=some (.tok 62 k1))
 t2:k2=0\/(h.next<i2/\i2<hh.next/\hh.objs i2=some (.tok 62 k2))
 res:hh.objs h.next=some (.row 64 [.nils,.nils,.nils])
 keep:Keeps h hh (λ_=>False)
theorem z5f.mono {h hh h2:z00} {sid:Nat} {c:Cd} {A:Rw->AV} {i1 k1 i2 k2:Nat} (B:z5f h hh sid c A i1 k1 i2 k2) (k:Keeps hh h2 (λ_=>False)):z5f h h2 sid c A i1 k1 i2 k2:=by
 have kk:∀ {i:Nat},i<hh.next->h2.objs i=hh.objs i:=λhi=>k.objs _ hi (λh=>h);have kn:=k.next;have:=B.gt;have:=B.lt;refine ⟨λr hr=>?_,B.none,B.one,by rw [kk B.lt];exact B.obj,B.gt,by omega,?_,?_,by rw [kk (by omega)];exact B.res,B.keep.go k⟩
 ·obtain ⟨id,e,h1,h2,h3⟩:=B.rows r hr;exact ⟨id,e,h1,by omega,by rw [kk h2];exact h3⟩
 ·rcases B.t1 with e | e | ⟨h1,h2,h3⟩
  ·exact Or.inl e
  ·exact Or.inr (Or.inl e)
  ·exact Or.inr (Or.inr ⟨h1,by omega,by rw [kk h2];exact h3⟩)
 ·rcases B.t2 with e | ⟨h1,h2,h3⟩
  ·exact Or.inl e
  ·exact Or.inr ⟨h1,by omega,by rw [kk h2];exact h3⟩
theorem z5f.more {h hA hC:z00} {sid:Nat} {c:Cd} {A A':Rw->AV} {i1 k1 i2 k2 j1 l1 j2 l2:Nat} (B:z5f h hA sid c A i1 k1 i2 k2) {r0:Rw} (h0:¬ inB k1 k2 r0) (hin:∀ r,inB l1 l2 r↔inB k1 k2 r\/r=r0)
  (hA':A'=λr=>if r=r0 then .sl hA.next 0 (lenR c r0) 1 else A r) {S:Nat->Prop} (kC:Keeps (hA.push (.row 89 (rowC (λ_=>0) (lenR c r0)))) hC S) (hS:∀ x,S x->h.next<x/\x<hA.next/\∃ n,hA.objs x=some (.tok 62 n))
  (t1:l1=0\/l1=(slL c.Threads).length\/(h.next<j1/\j1<hC.next/\hC.objs j1=some (.tok 62 l1))) (t2:l2=0\/(h.next<j2/\j2<hC.next/\hC.objs j2=some (.tok 62 l2))) :
  z5f h (hC.put sid (.row 85 (solP c A' j1 l1 j2 l2))) sid c A' j1 l1 j2 l2:=by
 have hsid:sid<hA.next:=B.lt;have hgt:=B.gt;have hnC:hA.next+1<=hC.next:=kC.next;have old:∀ {x:Nat} {ty:TypeId} {cs:List AV},x<hA.next->hA.objs x=some (.row ty cs)->hC.objs x=some (.row ty cs):=by
  intro x ty cs hx ho;have nS:¬ S x:=λhs=>by
   obtain ⟨_,_,n,hn⟩:=hS x hs;rw [ho] at hn;simp at hn
  rw [kC.objs x (by simp;omega) nS,z16 hx];exact ho
 have oS:hC.objs sid=_:=old hsid B.obj;have new:hC.objs hA.next=some (.row 89 (rowC (λ_=>0) (lenR c r0))):=by
  have nS:¬ S hA.next:=λhs=>by have:=(hS _ hs).2.1;omega
  rw [kC.objs _ (by simp) nS,z19]
 have ne0:∀ {r},inB k1 k2 r->r≠r0:=λh e=>h0 (e▸h);have aold:∀ {r},r≠r0->A' r=A r:=λe=>by rw [hA'];simp only;rw [if_neg e]
 have anew:A' r0=.sl hA.next 0 (lenR c r0) 1:=by rw [hA'];simp
 have rlt:∀ {r id},A r=.sl id 0 (lenR c r) 1->id<hA.next/\inB k1 k2 r:=by
  intro r id e;by_cases hr:inB k1 k2 r
  ·obtain ⟨id2,e2,_,h2,_⟩:=B.rows r hr;rw [e] at e2;cases e2;exact ⟨h2,hr⟩
  ·have:=B.none r hr;rw [e] at this;cases this
 have nsid:∀ {x:Nat} {cs:List AV},x<hA.next->hA.objs x=some (.row 89 cs)->x≠sid:=by
  rintro x cs _ ho rfl;rw [B.obj] at ho;simp at ho
 refine ⟨λr hr=>?_,λr hr=>?_,?_,z1d _ _ _,hgt,by simp;omega,?_,?_,?_,?_⟩
 ·rcases (hin r).1 hr with hr | rfl
  ·obtain ⟨id,e,g1,g2,g3⟩:=B.rows r hr;refine ⟨id,by rw [aold (ne0 hr)];exact e,g1,by simp;omega,?_⟩;rw [z0x (nsid g2 g3)];exact old g2 g3
  ·exact ⟨hA.next,anew,by omega,by simp;omega,by rw [z0x (by omega)];exact new⟩
 ·have h1:¬ inB k1 k2 r:=λh=>hr ((hin r).2 (Or.inl h));have h2:r≠r0:=λh=>hr ((hin r).2 (Or.inr h));rw [aold h2];exact B.none r h1
 ·intro r r' id e e';by_cases h1:r=r0
  ·by_cases h2:r'=r0
   ·rw [h1,h2]
   ·rw [aold h2] at e';rw [h1,anew] at e;cases e;have:=(rlt e').1;omega
  ·rw [aold h1] at e;by_cases h2:r'=r0
   ·rw [h2,anew] at e';cases e';have:=(rlt e).1;omega
   ·rw [aold h2] at e';exact B.one r r' id e e'
 ·rcases t1 with e | e | ⟨g1,g2,g3⟩
  ·exact Or.inl e
  ·exact Or.inr (Or.inl e)
  ·refine Or.inr (Or.inr ⟨g1,by simpa using g2,?_⟩);rw [z0x]
   ·exact g3
   ·rintro rfl;rw [oS] at g3;simp at g3
 ·rcases t2 with e | ⟨g1,g2,g3⟩
  ·exact Or.inl e
  ·refine Or.inr ⟨g1,by simpa using g2,?_⟩;rw [z0x]
   ·exact g3
   ·rintro rfl;rw [oS] at g3;simp at g3
 ·rw [z0x (by omega)];exact old (by omega) B.res
 ·refine ⟨by have:=B.keep.next;simp;omega,λi hi _=>?_⟩;have hi2:=B.keep.next;rw [z0x (by omega),kC.objs i (by simp;omega) (λhs=>by have:=(hS i hs).1;omega),z16 (by omega)];exact B.keep.objs i hi (λh=>h)
theorem z5f.start {h hh:z00} {sid:Nat} {c:Cd} {A:Rw->AV} {i1 i2:Nat} (B:z5f h hh sid c A i1 (slL c.Threads).length i2 (slL c.Sites).length):z9l hh sid c (λ_ _=>0) A i1 i2 true/\∀ i,Own sid c A i->h.next<i:=by
 have hin:∀ r,¬ inB (slL c.Threads).length (slL c.Sites).length r->lenR c r=0:=by
  intro r hr
  cases r with
  | g=>exact absurd trivial hr
  | s t=>simp only [inB] at hr;simp only [lenR,zb5];rw [List.getElem?_eq_none (by omega)];rfl
  | f k=>simp only [inB] at hr;exact lenR_f hr
 have hid:∀ r id,A r=.sl id 0 (lenR c r) 1->h.next<id/\∃ cs,hh.objs id=some (.row 89 cs):=by
  intro r id e;by_cases hr:inB (slL c.Threads).length (slL c.Sites).length r
  ·obtain ⟨id2,e2,g1,g2,g3⟩:=B.rows r hr;rw [e] at e2;cases e2;exact ⟨g1,_,g3⟩
  ·have:=B.none r hr;rw [e] at this;cases this
 refine ⟨⟨⟨λr=>?_,B.one⟩,B.obj,B.lt,λr e=>?_⟩,?_⟩
 ·by_cases hr:inB (slL c.Threads).length (slL c.Sites).length r
  ·obtain ⟨id,e,g1,g2,g3⟩:=B.rows r hr;exact Or.inr ⟨id,e,g2,g3⟩
  ·exact Or.inl ⟨B.none r hr,hin r hr⟩
 ·obtain ⟨_,cs,ho⟩:=hid r sid e;rw [B.obj] at ho;simp at ho
 ·rintro i (rfl | ⟨r,e⟩)
  ·exact B.gt
  ·exact (hid r i e).1
end
section
open Go.Abs
theorem zhw (id n:Nat) (f:Nat->AV):(outA id n f).zbn=true:=by
 unfold outA;split <;> rfl
theorem zr4 {h:z00} {tok k:Nat} {f g:Nat->AV} {a:AV} (hg:∀ j,j<k->g j=f j) (ha:f k=a) (hk:k<=1000) (p:k=0\/(tok<h.next/\h.objs tok=some (.tok 62 k))) {K:AV->z00->Prop}
  (hK:∀ h2,h2.objs h.next=some (.tok 62 (k+1))->h2.next=h.next+1->Keeps h h2 (λx=>x=tok/\0<k)->K (outA h.next (k+1) f) h2):z1x true { e:=62,sz:=1,by_:=24 } (outA tok k g) (.isl 1 [[a]]) h K:=by
 rw [zhv hg,<-ha];exact outA_push hk p hK
section
variable (c:Cd) (A:Rw->AV) (i1 k1 i2 k2:Nat) (K:AV->Prop)
theorem solP_5:z03 none (solP c A i1 k1 i2 k2) 5 K=K (outA i1 k1 (λt=>A (.s t))):=by simp [z03,solP,z0f.cells]
theorem solP_7:z03 none (solP c A i1 k1 i2 k2) 7 K=K (outA i2 k2 (λk=>A (.f k))):=by simp [z03,solP,z0f.cells]
end
theorem solP_set5 {c:Cd} {A A':Rw->AV} {i1 k1 i2 k2 j1 l1:Nat} (hg:A' .g=A .g) (hf:∀ k,k<k2->A' (.f k)=A (.f k)):(solP c A i1 k1 i2 k2).set 5 (outA j1 l1 (λt=>A' (.s t)))=solP c A' j1 l1 i2 k2:=by
 unfold solP;rw [hg,zhv (f:=λk=>A' (.f k)) (g:=λk=>A (.f k)) hf]
 rfl
theorem zs8 {c:Cd} {A A':Rw->AV} {i1 k1 i2 k2 j2 l2:Nat} (hg:A' .g=A .g) (hf:∀ k,k<k1->A' (.s k)=A (.s k)):(solP c A i1 k1 i2 k2).set 7 (outA j2 l2 (λt=>A' (.f t)))=solP c A' i1 k1 j2 l2:=by
 unfold solP;rw [hg,zhv (f:=λk=>A' (.s k)) (g:=λk=>A (.s k)) hf]
 rfl
theorem zjo (c:Cd) (A:Rw->AV) (i1 k1 i2 k2:Nat):(solP c A i1 k1 i2 k2).length=9:=rfl
theorem solve_6 {c:Cd} (wc:WfC c) {h h0:z00} {sid i0 i2:Nat} {A0:Rw->AV} (B0:z5f h h0 sid c A0 i0 0 i2 0) (Q:z1z->Fr->z00->Prop)
  (hQ:∀ hh A i1,z5f h hh sid c A i1 (slL c.Threads).length i2 0->Q (.exit 0) (frOf [(1,.iptr c.cells),(2,.ptr h.next 0),(3,.ptr sid 0)]) hh) :
  WP Tryd.prog 114 (.loop zba) (frOf [(1,.iptr c.cells),(2,.ptr h.next 0),(3,.ptr sid 0),(29,slAV 3 z0m.cells c.Threads),(30,.int .i64 (slL c.Threads).length),(31,.int .i64 0)]) h0 Q:=by
 have ht:=wc.thr;obtain ⟨I,hI⟩:∃ I:Nat->Fr->z00->Prop,I=(λn fr hh=>∃ (k:Nat) (A:Rw->AV) (i1:Nat),n=(slL c.Threads).length-k/\k<=(slL c.Threads).length/\z5f h hh sid c A i1 k i2 0/\fr=frOf [(1,.iptr c.cells),(2,.ptr h.next 0),(3,.ptr sid 0),(29,slAV 3 z0m.cells c.Threads),(30,.int .i64 (slL c.Threads).length),(31,.int .i64 k)]):=⟨_,rfl⟩;refine z1i z0d (by kernel_rfl) I (slL c.Threads).length (by rw [hI];exact ⟨0,A0,i0,rfl,Nat.zero_le _,B0,rfl⟩) ?_;intro n fr hh hi;rw [hI] at hi;obtain ⟨k,A,i1,rfl,hk,B,rfl⟩:=hi;apply zl6
 (repeat simp -dsimp -implicitDefEqProofs (disch:=omega) only [↓rP,rA,↓reduceIte,reduceEqDiff,reduceAdd,reduceLeDiff,↓tyr])
 refine z09 (λhkl=>?_) (λhkl=>?_)
 ·obtain ⟨b,hb⟩:∃ b,(slL c.Threads)[k]?=some b:=⟨_,List.getElem?_eq_getElem (by omega)⟩;have hsl:=(wc.slo k b hb).1;have hlen:lenR c (.s k)=(slL b.Slots).length:=zr0 hb;have B1:=B.mono (Keeps.one hh (.row 52 b.cells));have hln:(hh.push (.row 52 b.cells)).next=hh.next+1:=rfl;obtain ⟨H1,hH1⟩:∃ H1,H1=hh.push (.row 52 b.cells):=⟨_,rfl⟩;have ldb:∀ K:AV->Prop,z0t none (.ptr hh.next 0) H1 K=K (slAV 3 z08.cells b.Slots):=λK=>by rw [hH1,zax,z0m.c0]
  (repeat simp -dsimp -implicitDefEqProofs (disch:=omega) only [↓rP,rA,↓reduceIte,reduceEqDiff,reduceAdd,reduceLeDiff,↓tyr,z06 hb])
  rw [<-hH1] at B1 hln ⊢;have ld1:∀ (off:Nat) (q:Option Nat) (K:AV->Prop),z0t q (.ptr sid off) H1 K=z03 q (solP c A i1 k i2 0) off K:=λoff q K=>z0b B1.obj q K
  (repeat simp -dsimp -implicitDefEqProofs (disch:=omega) only [↓rP,rA,↓reduceIte,reduceEqDiff,reduceAdd,reduceLeDiff,↓tyr,ldb,ld1,solP_5])
  rw [mk_row _ (by omega)];have ld2:∀ (o:AObj) (off:Nat) (q:Option Nat) (K:AV->Prop),z0t q (.ptr sid off) (H1.push o) K=z03 q (solP c A i1 k i2 0) off K:=λo off q K=>z0b (by rw [z16 B1.lt];exact B1.obj) q K
  (repeat simp -dsimp -implicitDefEqProofs (disch:=omega) only [↓rP,rA,↓reduceIte,reduceEqDiff,reduceAdd,reduceLeDiff,↓tyr,ld2,solP_5,bsl_sl])
  obtain ⟨A',hA'⟩:∃ A':Rw->AV,A'=λr=>if r=.s k then .sl H1.next 0 (lenR c (.s k)) 1 else A r:=⟨_,rfl⟩
  have hold:∀ {r},r≠.s k->A' r=A r:=λe=>by rw [hA'];simp only;rw [if_neg e]
  have t1:k=0\/(h.next<i1/\i1<H1.next/\H1.objs i1=some (.tok 62 k)):=by
   rcases B1.t1 with e | e | e
   ·exact Or.inl e
   ·omega
   ·exact Or.inr e
  rw [<-hlen];refine zr4 (f:=λt=>A' (.s t)) (λj hj=>(hold (by simp;omega)).symm) (by rw [hA'];simp) (by omega) ?_ ?_
  ·rcases t1 with e | ⟨g1,g2,g3⟩
   ·exact Or.inl e
   ·exact Or.inr ⟨by simp;omega,by rw [z16 g2];exact g3⟩
  intro hC c1 c2 c3;have oS:hC.objs sid=some (.row 85 (solP c A i1 k i2 0)):=by
   rw [c3.objs sid (by have:=B1.lt;simp;omega) ?_,z16 B1.lt];exact B1.obj;rintro ⟨rfl,h0⟩;rcases t1 with e | ⟨g1,g2,g3⟩
   ·omega
   ·rw [B1.obj] at g3;simp at g3
  (repeat simp -dsimp -implicitDefEqProofs (disch:=omega) only [↓rP,rA,↓reduceIte,reduceEqDiff,reduceAdd,reduceLeDiff,↓tyr])
  rw [z2w oS (zhw _ _ _) (by rw [zjo];decide),solP_set5 (hold (by simp)) (λj hj=>hold (by simp))]
  (repeat simp -dsimp -implicitDefEqProofs (disch:=omega) only [↓rP,rA,↓reduceIte,reduceEqDiff,reduceAdd,reduceLeDiff,↓tyr,wkS k (by omega)])
  have hm:=B1.more (r0:=.s k) (A':=A') (j1:=H1.next+1) (l1:=k+1) (j2:=i2) (l2:=0) (by simp [inB]) (λr=>by
    cases r with
    | g=>simp [inB]
    | s t=>simp [inB];omega
    | f t=>simp [inB]) hA' c3 (by
    rintro x ⟨rfl,h0⟩;rcases t1 with e | ⟨g1,g2,g3⟩
    ·omega
    ·exact ⟨g1,g2,_,g3⟩) (Or.inr (Or.inr ⟨by have:=B1.gt;have:=B1.lt;omega,by rw [c2];simp,c1⟩)) (Or.inl rfl)
  rw [z07,hI];exact ⟨_,by omega,k+1,A',_,rfl,by omega,hm,rfl⟩
 ·(repeat simp -dsimp -implicitDefEqProofs (disch:=omega) only [↓rP,rA,↓reduceIte,reduceEqDiff,reduceAdd,reduceLeDiff,↓tyr])
  have:k=(slL c.Threads).length:=by omega
  subst this;exact hQ hh A i1 B
end
section
open Go.Abs
theorem recL_neg {c:Cd} {n:Int} (h:n<0):recL c n=[]:=by
 unfold recL getI;rw [if_neg (by omega)]
theorem lenR_fk {c:Cd} {k:Nat} {s:z0s} (hk:(slL c.Sites)[k]?=some s):lenR c (.f k)=(recL c s.Rec).length:=by simp [lenR,hk]
theorem mk_row0 (h:z00) (K:AV->z00->Prop):z6r { e:=89,sz:=1,by_:=8 } [.int .u64 0] (.int .i64 0) (.int .i64 0) h K=K (.sl h.next 0 0 1) (h.push (.row 89 (rowC (λ_=>0) 0))):=mk_row 0 (by omega) h K
theorem zn0 {c:Cd} (wc:WfC c) {h H1:z00} {sid i1 i2 k:Nat} {A A':Rw->AV} (hk:k<(slL c.Sites).length) (B1:z5f h H1 sid c A i1 (slL c.Threads).length i2 k) (hA':A'=λr=>if r=.f k then .sl H1.next 0 (lenR c (.f k)) 1 else A r) (K:AV->z00->Prop)
  (hK:∀ hC,hC.objs sid=some (.row 85 (solP c A i1 (slL c.Threads).length i2 k))->
   z5f h (hC.put sid (.row 85 (solP c A' i1 (slL c.Threads).length (H1.next+1) (k+1)))) sid c A' i1 (slL c.Threads).length (H1.next+1) (k+1)->K (outA (H1.next+1) (k+1) (λt=>A' (.f t))) hC) :
  z1x true { e:=62,sz:=1,by_:=24 } (outA i2 k (λt=>A (.f t))) (.isl 1 [[.sl H1.next 0 (lenR c (.f k)) 1]]) (H1.push (.row 89 (rowC (λ_=>0) (lenR c (.f k))))) K:=by
 have hs:=wc.sit;have hold:∀ {r},r≠.f k->A' r=A r:=λe=>by rw [hA'];simp only;rw [if_neg e]
 have t2:=B1.t2;refine zr4 (f:=λt=>A' (.f t)) (λj hj=>(hold (by simp;omega)).symm) (by rw [hA'];simp) (by omega) ?_ ?_
 ·rcases t2 with e | ⟨g1,g2,g3⟩
  ·exact Or.inl e
  ·exact Or.inr ⟨by simp;omega,by rw [z16 g2];exact g3⟩
 intro hC c1 c2 c3;have oS:hC.objs sid=some (.row 85 (solP c A i1 (slL c.Threads).length i2 k)):=by
  rw [c3.objs sid (by have:=B1.lt;simp;omega) ?_,z16 B1.lt];exact B1.obj;rintro ⟨rfl,h0⟩;rcases t2 with e | ⟨g1,g2,g3⟩
  ·omega
  ·rw [B1.obj] at g3;simp at g3
 refine hK hC oS ?_;exact B1.more (r0:=.f k) (A':=A') (j1:=i1) (l1:=(slL c.Threads).length) (j2:=H1.next+1) (l2:=k+1) (by simp [inB]) (λr=>by
   cases r with
   | g=>simp [inB]
   | s t=>simp [inB]
   | f t=>simp [inB];omega) hA' c3 (by
   rintro x ⟨rfl,h0⟩;rcases t2 with e | ⟨g1,g2,g3⟩
   ·omega
   ·exact ⟨g1,g2,_,g3⟩) (Or.inr (Or.inl rfl)) (Or.inr ⟨by have:=B1.gt;have:=B1.lt;omega,by rw [c2];simp,c1⟩)
theorem solve_11 {c:Cd} (wc:WfC c) {h h0:z00} {sid i1 i0:Nat} {A0:Rw->AV} (B0:z5f h h0 sid c A0 i1 (slL c.Threads).length i0 0) (Q:z1z->Fr->z00->Prop)
  (hQ:∀ hh A i2,z5f h hh sid c A i1 (slL c.Threads).length i2 (slL c.Sites).length->Q (.exit 2) (frOf [(1,.iptr c.cells),(2,.ptr h.next 0),(3,.ptr sid 0)]) hh) :
  WP Tryd.prog 114 (.loop za5) (frOf [(1,.iptr c.cells),(2,.ptr h.next 0),(3,.ptr sid 0),(52,slAV 3 z0s.cells c.Sites),(53,.int .i64 (slL c.Sites).length),(54,.int .i64 0)]) h0 Q:=by
 have hs:=wc.sit;obtain ⟨I,hI⟩:∃ I:Nat->Fr->z00->Prop,I=(λn fr hh=>∃ (k:Nat) (A:Rw->AV) (i2:Nat),n=(slL c.Sites).length-k/\k<=(slL c.Sites).length/\z5f h hh sid c A i1 (slL c.Threads).length i2 k/\fr=frOf [(1,.iptr c.cells),(2,.ptr h.next 0),(3,.ptr sid 0),(52,slAV 3 z0s.cells c.Sites),(53,.int .i64 (slL c.Sites).length),(54,.int .i64 k)]):=⟨_,rfl⟩;refine z1i z0d (by kernel_rfl) I (slL c.Sites).length (by rw [hI];exact ⟨0,A0,i0,rfl,Nat.zero_le _,B0,rfl⟩) ?_;intro n fr hh hi;rw [hI] at hi;obtain ⟨k,A,i2,rfl,hk,B,rfl⟩:=hi;apply zjb
 (repeat simp -dsimp -implicitDefEqProofs (disch:=omega) only [↓rP,rA,↓reduceIte,reduceEqDiff,reduceAdd,reduceLeDiff,↓tyr])
 refine z09 (λhkl=>?_) (λhkl=>?_)
 ·obtain ⟨s,hb⟩:∃ s,(slL c.Sites)[k]?=some s:=⟨_,List.getElem?_eq_getElem (by omega)⟩;have hlen:=lenR_fk hb;have B1:=B.mono (Keeps.one hh (.row 59 s.cells));obtain ⟨H1,hH1⟩:∃ H1,H1=hh.push (.row 59 s.cells):=⟨_,rfl⟩;have lds:∀ K:AV->Prop,z0t none (.ptr hh.next 2) H1 K=K (.int .i64 s.Rec):=λK=>by rw [hH1,zax,z0s.c2]
  (repeat simp -dsimp -implicitDefEqProofs (disch:=omega) only [↓rP,rA,↓reduceIte,reduceEqDiff,reduceAdd,reduceLeDiff,↓tyr,z06 hb])
  rw [<-hH1] at B1 ⊢;have ld1:∀ (off:Nat) (q:Option Nat) (K:AV->Prop),z0t q (.ptr sid off) H1 K=z03 q (solP c A i1 (slL c.Threads).length i2 k) off K:=λoff q K=>z0b B1.obj q K;have ld2:∀ (o:AObj) (off:Nat) (q:Option Nat) (K:AV->Prop),z0t q (.ptr sid off) (H1.push o) K=z03 q (solP c A i1 (slL c.Threads).length i2 k) off K:=λo off q K=>z0b (by rw [z16 B1.lt];exact B1.obj) q K;obtain ⟨A',hA'⟩:∃ A':Rw->AV,A'=λr=>if r=.f k then .sl H1.next 0 (lenR c (.f k)) 1 else A r:=⟨_,rfl⟩
  have hold:∀ {r},r≠.f k->A' r=A r:=λe=>by rw [hA'];simp only;rw [if_neg e]
  (repeat simp -dsimp -implicitDefEqProofs (disch:=omega) only [↓rP,rA,↓reduceIte,reduceEqDiff,reduceAdd,reduceLeDiff,↓tyr,lds])
  refine z0y (λhr=>?_) (λhr=>?_)
  ·obtain ⟨rr,hrr⟩:∃ rr,getI (slL c.Records) s.Rec=some rr:=by
    rcases wc.site k s hb with e | e
    ·omega
    ·exact e
   have hl2:lenR c (.f k)=(slL rr).length:=by rw [hlen];simp only [recL,hrr]
   have hr6:=wc.recs rr (z2v hrr)
   (repeat simp -dsimp -implicitDefEqProofs (disch:=omega) only [↓rP,rA,↓reduceIte,reduceEqDiff,reduceAdd,reduceLeDiff,↓tyr,lds,ixI hrr,ld_one,ld1,solP_7])
   rw [mk_row _ (by omega)]
   (repeat simp -dsimp -implicitDefEqProofs (disch:=omega) only [↓rP,rA,↓reduceIte,reduceEqDiff,reduceAdd,reduceLeDiff,↓tyr,ld2,solP_7,bsl_sl])
   rw [<-hl2];refine zn0 wc (by omega) B1 hA' _ ?_;intro hC oS B2
   (repeat simp -dsimp -implicitDefEqProofs (disch:=omega) only [↓rP,rA,↓reduceIte,reduceEqDiff,reduceAdd,reduceLeDiff,↓tyr])
   rw [z2w oS (zhw _ _ _) (by rw [zjo];decide),zs8 (hold (by simp)) (λj hj=>hold (by simp))]
   (repeat simp -dsimp -implicitDefEqProofs (disch:=omega) only [↓rP,rA,↓reduceIte,reduceEqDiff,reduceAdd,reduceLeDiff,↓tyr,wkS k (by omega)])
   rw [z07,hI];exact ⟨_,by omega,k+1,A',_,rfl,by omega,B2,rfl⟩
  ·have hl2:lenR c (.f k)=0:=by rw [hlen,recL_neg (by omega)];rfl
   (repeat simp -dsimp -implicitDefEqProofs (disch:=omega) only [↓rP,rA,↓reduceIte,reduceEqDiff,reduceAdd,reduceLeDiff,↓tyr,ld1,solP_7,mk_row0,ld2,bsl_sl])
   have hfm:=λK hK=>zn0 wc (by omega) B1 hA' K hK;rw [hl2] at hfm;refine hfm _ ?_;intro hC oS B2
   (repeat simp -dsimp -implicitDefEqProofs (disch:=omega) only [↓rP,rA,↓reduceIte,reduceEqDiff,reduceAdd,reduceLeDiff,↓tyr])
   rw [z2w oS (zhw _ _ _) (by rw [zjo];decide),zs8 (hold (by simp)) (λj hj=>hold (by simp))]
   (repeat simp -dsimp -implicitDefEqProofs (disch:=omega) only [↓rP,rA,↓reduceIte,reduceEqDiff,reduceAdd,reduceLeDiff,↓tyr,wkS k (by omega)])
   rw [z07,hI];exact ⟨_,by omega,k+1,A',_,rfl,by omega,B2,rfl⟩
 ·(repeat simp -dsimp -implicitDefEqProofs (disch:=omega) only [↓rP,rA,↓reduceIte,reduceEqDiff,reduceAdd,reduceLeDiff,↓tyr])
  have:k=(slL c.Sites).length:=by omega
  subst this;exact hQ hh A i2 B
end
section
open Go.Abs
structure zjr (c:Cd) (σ0 σ:Sg) (gr:Bool) (done:Nat->Nat->Prop):Prop where
 le:Le σ0 σ
 lw:Lw c σ
 bd:Bd2 c σ
 rg:Rg c σ
 gr:gr=true↔σ≠σ0
 cl:σ=σ0->∀ (t:Nat) (b:Bd) (a:Nat) (x:In),(slL c.Threads)[t]?=some b->(slL b.Code)[a]?=some x->done t a->Le (zfz c t x σ0) σ0
theorem zjr.step {c:Cd} {σ0 σ:Sg} {gr gr':Bool} {done:Nat->Nat->Prop} (P:zjr c σ0 σ gr done) (wc:WfC c) {t a:Nat} {b:Bd} {x:In} (hb:(slL c.Threads)[t]?=some b) (hx:(slL b.Code)[a]?=some x) (hg:gr'=true↔gr=true\/z9j c t x σ≠σ) :
  zjr c σ0 (z9j c t x σ) gr' (λt' a'=>done t' a'\/(t'=t/\a'=a)):=by
 have w:=wc.ins t a b x hb hx;have hle:=le_step c t x σ;refine ⟨P.le.trans hle,P.lw.step hb hx,P.bd.step w t,P.rg.step hb w,?_,?_⟩
 ·rw [hg,P.gr,zn5 P.le hle]
 ·intro e t' b' a' x' hb' hx' hd;have e0:σ=σ0:=Le.anti (by rw [<-e];exact hle) P.le;rcases hd with hd | ⟨rfl,rfl⟩
  ·exact P.cl e0 t' b' a' x' hb' hx' hd
  ·rw [hb] at hb';cases hb';rw [hx] at hx';cases hx';subst e0;exact step_id e
theorem zjr.weak {c:Cd} {σ0 σ:Sg} {gr:Bool} {done d2:Nat->Nat->Prop} (P:zjr c σ0 σ gr done) (h:∀ (t:Nat) (b:Bd) (a:Nat) (x:In),(slL c.Threads)[t]?=some b->(slL b.Code)[a]?=some x->d2 t a->done t a):zjr c σ0 σ gr d2:=
 ⟨P.le,P.lw,P.bd,P.rg,P.gr,λe t b a x hb hx hd=>P.cl e t b a x hb hx (h t b a x hb hx hd)⟩
structure SV (h hh:z00) (sid:Nat) (c:Cd) (σ:Sg) (A:Rw->AV) (i1 i2:Nat) (gr:Bool):Prop where
 sol:z9l hh sid c σ A i1 i2 gr
 own:∀ i,Own sid c A i->h.next<i
 res:hh.objs h.next=some (.row 64 [.nils,.nils,.nils])
 nx:h.next<hh.next
 keep:Keeps h hh (λ_=>False)
theorem SV.mono {h hh h2:z00} {sid:Nat} {c:Cd} {σ:Sg} {A:Rw->AV} {i1 i2:Nat} {gr:Bool} (s:SV h hh sid c σ A i1 i2 gr) (k:Keeps hh h2 (λ_=>False)):SV h h2 sid c σ A i1 i2 gr:=
 ⟨s.sol.keep k,s.own,by rw [k.objs _ s.nx (λh=>h)];exact s.res,Nat.lt_of_lt_of_le s.nx k.next,s.keep.go k⟩
theorem SV.step {h hh h2:z00} {sid:Nat} {c:Cd} {σ τ:Sg} {A:Rw->AV} {i1 i2:Nat} {gr:Bool} (s:SV h hh sid c σ A i1 i2 gr) (q:ziu hh sid c σ τ A i1 i2 gr h2):∃ gr',(gr'=true↔gr=true\/τ≠σ)/\SV h h2 sid c τ A i1 i2 gr':=by
 obtain ⟨gr',q1,q2,q3⟩:=q;refine ⟨gr',q1,q2,s.own,?_,Nat.lt_of_lt_of_le s.nx q3.next,?_⟩
 ·rw [q3.objs _ s.nx (λho=>by have:=s.own _ ho;omega)];exact s.res
 ·refine s.keep.trans (T:=λi=>h.next<i) (q3.mono s.own) (λi hi h=>by omega)
theorem solve_24 {c:Cd} (hc:c.ok) (wc:WfC c) {h h0:z00} {sid i1 i2 k:Nat} {A:Rw->AV} {σ0 σ1:Sg} {g1:Bool} {b:Bd} (hb:(slL c.Threads)[k]?=some b) (S0:SV h h0 sid c σ1 A i1 i2 g1) (P0:zjr c σ0 σ1 g1 (λt _=>t<k)) (Q:z1z->Fr->z00->Prop)
  (hQ:∀ hh σ gr,SV h hh sid c σ A i1 i2 gr->zjr c σ0 σ gr (λt _=>t<k+1)->Q (.exit 8) (frOf [(1,.iptr c.cells),(2,.ptr h.next 0),(3,.ptr sid 0),(90,slAV 3 z0m.cells c.Threads),(91,.int .i64 (slL c.Threads).length),(92,.int .i64 k)]) hh) :
  WP Tryd.prog 114 (.loop za8) (frOf [(1,.iptr c.cells),(2,.ptr h.next 0),(3,.ptr sid 0),(9,.int .i64 k),(90,slAV 3 z0m.cells c.Threads),(91,.int .i64 (slL c.Threads).length),(92,.int .i64 k),(98,slAV 8 z0a.cells b.Code),(99,.int .i64 (slL b.Code).length),(100,.int .i64 0)]) h0 Q:=by
 have hcl:=(wc.slo k b hb).2;obtain ⟨I,hI⟩:∃ I:Nat->Fr->z00->Prop,I=(λn fr hh=>∃ (a:Nat) (σ:Sg) (gr:Bool),n=(slL b.Code).length-a/\a<=(slL b.Code).length/\SV h hh sid c σ A i1 i2 gr/\zjr c σ0 σ gr (λt' a'=>t'<k\/(t'=k/\a'<a))/\fr=frOf [(1,.iptr c.cells),(2,.ptr h.next 0),(3,.ptr sid 0),(9,.int .i64 k),(90,slAV 3 z0m.cells c.Threads),(91,.int .i64 (slL c.Threads).length),(92,.int .i64 k),(98,slAV 8 z0a.cells b.Code),(99,.int .i64 (slL b.Code).length),(100,.int .i64 a)]):=⟨_,rfl⟩;refine z1i z0d (by kernel_rfl) I (slL b.Code).length (by rw [hI];exact ⟨0,σ1,g1,rfl,Nat.zero_le _,S0,P0.weak (λt _ a _ _ _ hd=>by omega),rfl⟩) ?_;intro n fr hh hi;rw [hI] at hi;obtain ⟨a,σ,gr,rfl,ha,S,P,rfl⟩:=hi;apply zje
 (repeat simp -dsimp -implicitDefEqProofs (disch:=omega) only [↓rP,rA,↓reduceIte,reduceEqDiff,reduceAdd,reduceLeDiff,↓tyr])
 refine z09 (λhkl=>?_) (λhkl=>?_)
 ·obtain ⟨x,hx⟩:∃ x,(slL b.Code)[a]?=some x:=⟨_,List.getElem?_eq_getElem (by omega)⟩;have hxo:x.ok:=(hc.2.2.1.2 b (List.mem_of_getElem? hb)).2.1.2 x (List.mem_of_getElem? hx);have S1:=S.mono (Keeps.one hh (.row 49 x.cells))
  (repeat simp -dsimp -implicitDefEqProofs (disch:=omega) only [↓rP,rA,↓reduceIte,reduceEqDiff,reduceAdd,reduceLeDiff,↓tyr,z06 hx])
  refine (step_does S1.sol wc P.bd hb (wc.ins k a b x hb hx) hxo.2.2.2.2.2.2.1).mono ?_;rintro _ h2 ⟨rfl,q⟩;obtain ⟨gr',q1,S2⟩:=S1.step q
  (repeat simp -dsimp -implicitDefEqProofs (disch:=omega) only [↓rP,rA,↓reduceIte,reduceEqDiff,reduceAdd,reduceLeDiff,↓tyr,wkS a (by omega)])
  rw [z07,hI];exact ⟨_,by omega,a+1,_,gr',rfl,by omega,S2,(P.step wc hb hx q1).weak (λt _ a' _ _ _ hd=>by omega),rfl⟩
 ·(repeat simp -dsimp -implicitDefEqProofs (disch:=omega) only [↓rP,rA,↓reduceIte,reduceEqDiff,reduceAdd,reduceLeDiff,↓tyr])
  have:a=(slL b.Code).length:=by omega
  subst this;refine hQ hh σ gr S (P.weak λt b' a' x' hb' hx' hd=>?_);by_cases e:t=k
  ·subst e;rw [hb] at hb';cases hb';exact Or.inr ⟨rfl,(List.getElem?_eq_some_iff.1 hx').1⟩
  ·left;omega
theorem solve_21 {c:Cd} (hc:c.ok) (wc:WfC c) {h h0:z00} {sid i1 i2:Nat} {A:Rw->AV} {σ0:Sg} (S0:SV h h0 sid c σ0 A i1 i2 false) (hl:Lw c σ0) (hbd:Bd2 c σ0) (hrg:Rg c σ0) (Q:z1z->Fr->z00->Prop)
  (hQ:∀ hh σ gr,SV h hh sid c σ A i1 i2 gr->zjr c σ0 σ gr (λ_ _=>True)->Q (.exit 6) (frOf [(1,.iptr c.cells),(2,.ptr h.next 0),(3,.ptr sid 0)]) hh) :
  WP Tryd.prog 114 (.loop za7) (frOf [(1,.iptr c.cells),(2,.ptr h.next 0),(3,.ptr sid 0),(90,slAV 3 z0m.cells c.Threads),(91,.int .i64 (slL c.Threads).length),(92,.int .i64 0)]) h0 Q:=by
 have ht:=wc.thr;obtain ⟨I,hI⟩:∃ I:Nat->Fr->z00->Prop,I=(λn fr hh=>∃ (k:Nat) (σ:Sg) (gr:Bool),n=(slL c.Threads).length-k/\k<=(slL c.Threads).length/\SV h hh sid c σ A i1 i2 gr/\zjr c σ0 σ gr (λt' _=>t'<k)/\fr=frOf [(1,.iptr c.cells),(2,.ptr h.next 0),(3,.ptr sid 0),(90,slAV 3 z0m.cells c.Threads),(91,.int .i64 (slL c.Threads).length),(92,.int .i64 k)]):=⟨_,rfl⟩;refine z1i z0d (by kernel_rfl) I (slL c.Threads).length (by rw [hI];exact ⟨0,σ0,false,rfl,Nat.zero_le _,S0,⟨Le.refl _,hl,hbd,hrg,by simp,λ_ t _ _ _ _ _ hd=>by omega⟩,rfl⟩) ?_;intro n fr hh hi;rw [hI] at hi;obtain ⟨k,σ,gr,rfl,hk,S,P,rfl⟩:=hi;apply zjd
 (repeat simp -dsimp -implicitDefEqProofs (disch:=omega) only [↓rP,rA,↓reduceIte,reduceEqDiff,reduceAdd,reduceLeDiff,↓tyr])
 refine z09 (λhkl=>?_) (λhkl=>?_)
 ·obtain ⟨b,hb⟩:∃ b,(slL c.Threads)[k]?=some b:=⟨_,List.getElem?_eq_getElem (by omega)⟩;have S1:=S.mono (Keeps.one hh (.row 52 b.cells))
  (repeat simp -dsimp -implicitDefEqProofs (disch:=omega) only [↓rP,rA,↓reduceIte,reduceEqDiff,reduceAdd,reduceLeDiff,↓tyr,z06 hb])
  refine solve_24 hc wc hb S1 P _ ?_;intro h2 σ2 g2 S2 P2
  (repeat simp -dsimp -implicitDefEqProofs (disch:=omega) only [↓rP,rA,↓reduceIte,reduceEqDiff,reduceAdd,reduceLeDiff,↓tyr,wkS k (by omega)])
  rw [z07,hI];exact ⟨_,by omega,k+1,σ2,g2,rfl,by omega,S2,P2,rfl⟩
 ·(repeat simp -dsimp -implicitDefEqProofs (disch:=omega) only [↓rP,rA,↓reduceIte,reduceEqDiff,reduceAdd,reduceLeDiff,↓tyr])
  have:k=(slL c.Threads).length:=by omega
  subst this;exact hQ hh σ gr S (P.weak λt b' a' x' hb' _ _=>(List.getElem?_eq_some_iff.1 hb').1)
theorem solve_18 {c:Cd} (hc:c.ok) (wc:WfC c) {h h0:z00} {sid i1 i2:Nat} {A:Rw->AV} {σ0:Sg} (S0:SV h h0 sid c σ0 A i1 i2 true) (hl:Lw c σ0) (hbd:Bd2 c σ0) (hrg:Rg c σ0) (Q:z1z->Fr->z00->Prop)
  (hQ:∀ hh σ,SV h hh sid c σ A i1 i2 false->Cl c σ->Lw c σ->Bd2 c σ->Rg c σ->Q (.exit 4) (frOf [(2,.ptr h.next 0),(3,.ptr sid 0)]) hh) :
  WP Tryd.prog 114 (.loop za6) (frOf [(1,.iptr c.cells),(2,.ptr h.next 0),(3,.ptr sid 0)]) h0 Q:=by
 obtain ⟨I,hI⟩:∃ I:Nat->Fr->z00->Prop,I=(λn fr hh=>∃ (σ:Sg) (gr:Bool),n=leftOf c σ+(if gr=true then 1 else 0)/\SV h hh sid c σ A i1 i2 gr/\Lw c σ/\Bd2 c σ/\Rg c σ/\(gr=false->Cl c σ)/\fr=frOf [(1,.iptr c.cells),(2,.ptr h.next 0),(3,.ptr sid 0)]):=⟨_,rfl⟩;refine z1i z0d (by kernel_rfl) I (leftOf c σ0+1) (by rw [hI];exact ⟨σ0,true,rfl,S0,hl,hbd,hrg,λh=>(by cases h),rfl⟩) ?_;intro n fr hh hi;rw [hI] at hi;obtain ⟨σ,gr,rfl,S,l1,l2,l3,l4,rfl⟩:=hi;apply zjc
 (repeat simp -dsimp -implicitDefEqProofs (disch:=omega) only [↓rP,rA,↓reduceIte,reduceEqDiff,reduceAdd,reduceLeDiff,↓tyr,S.sol.ld,solR])
 cases gr with
 | false=>
  (repeat simp -dsimp -implicitDefEqProofs (disch:=omega) only [↓rP,rA,↓reduceIte,reduceEqDiff,reduceAdd,reduceLeDiff,↓tyr])
  exact hQ hh σ S (l4 rfl) l1 l2 l3
 | true=>
  (repeat simp -dsimp -implicitDefEqProofs (disch:=omega) only [↓rP,rA,↓reduceIte,reduceEqDiff,reduceAdd,reduceLeDiff,↓tyr])
  rw [z2w S.sol.obj (by rfl) (by rw [solC_len];decide),zs7];have hs:=S.sol.lt;have S1:SV h (hh.put sid (.row 85 (solC c A i1 i2 false))) sid c σ A i1 i2 false:=by
   have hsid:=S.own sid (Or.inl rfl);refine ⟨⟨S.sol.sets.keep (S:=λi=>i=sid) ⟨Nat.le_refl _,λi _ hi=>z0x hi _⟩ (λr id e h=>S.sol.ne r (h▸e)),z1d _ _ _,S.sol.lt,S.sol.ne⟩,S.own,?_,S.nx,?_⟩
   ·rw [z0x (by omega)];exact S.res
   ·exact S.keep.z3a (by omega) _
  (repeat simp -dsimp -implicitDefEqProofs (disch:=omega) only [↓rP,rA,↓reduceIte,reduceEqDiff,reduceAdd,reduceLeDiff,↓tyr])
  refine solve_21 hc wc S1 l1 l2 l3 _ ?_;intro h2 σ2 g2 S2 P2
  (repeat simp -dsimp -implicitDefEqProofs (disch:=omega) only [↓rP,rA,↓reduceIte,reduceEqDiff,reduceAdd,reduceLeDiff,↓tyr])
  rw [z07,hI];refine ⟨leftOf c σ2+(if g2=true then 1 else 0),?_,σ2,g2,rfl,S2,P2.lw,P2.bd,P2.rg,?_,rfl⟩
  ·cases g2 with
   | false=>
    have e:σ2=σ:=by
     apply Classical.byContradiction;intro hn;have:=P2.gr.2 hn;cases this
    rw [e];simp
   | true=>
    have:=left_lt P2.le P2.bd P2.rg (P2.gr.1 rfl);simp;omega
  ·rintro rfl;have e:σ2=σ:=by
    apply Classical.byContradiction;intro hn;have:=P2.gr.2 hn;cases this
   intro t b a x hb hx;rw [e];exact P2.cl e t b a x hb hx trivial
end
section
open Go.Abs
def SolvedQ (h:z00) (c:Cd) (v:AV) (h2:z00):Prop:=
 (okC c=false/\v=.agg [.nils,.nils,.nils]/\Keeps h h2 (λ_=>False))\/
 (okC c=true/\∃ σ A i1 i2,v=.agg (z7l c A i1 i2)/\z8z h2 c σ A/\(∀ r id,A r=.sl id 0 (lenR c r) 1->h.next<=id)/\Cl c σ/\Lw c σ/\Bd2 c σ/\Rg c σ/\Keeps h h2 (λ_=>False))
theorem bld_sol (c:Cd) (K:AV->Prop):z4b [(0,5),(5,3),(8,1)] [AV.nils,AV.nils,AV.nils,AV.nils,AV.nils,AV.nils,AV.nils,AV.nils,AV.bool false] [(0,.agg c.cells),(2,.bool true)] K=K (.agg (solP c (λ_=>.nils) 0 0 0 0)):=by
 simp [z4b,zez,z0f.cells,AV.fits,AV.cells,solP,outA]
def A0g (c:Cd) (id:Nat):Rw->AV:=λr=>if r=.g then .sl id 0 (lenR c .g) 1 else .nils
theorem solP_set6 (c:Cd) (id:Nat):(solP c (λ_=>.nils) 0 0 0 0).set 6 (.sl id 0 (lenR c .g) 1)=solP c (A0g c id) 0 0 0 0:=rfl
theorem zsn (c:Cd) (h:z00):z5f h ((((h.push (.row 64 [.nils,.nils,.nils])).push (.row 85 (solP c (λ_=>.nils) 0 0 0 0))).push (.row 89 (rowC (λ_=>0) (lenR c .g)))).put (h.next+1) (.row 85 (solP c (A0g c (h.next+2)) 0 0 0 0))) (h.next+1) c (A0g c (h.next+2)) 0 0 0 0:=by
 have hin:∀ r,inB 0 0 r↔r=.g:=λr=>by cases r <;> simp [inB]
 have ag:A0g c (h.next+2) .g=.sl (h.next+2) 0 (lenR c .g) 1:=by simp [A0g]
 have an:∀ r,r≠.g->A0g c (h.next+2) r=.nils:=λr hr=>by simp [A0g,hr]
 refine ⟨λr hr=>?_,λr hr=>an r (λe=>hr ((hin r).2 e)),λr r' id e e'=>?_,z1d _ _ _,by omega,by simp,Or.inl rfl,Or.inl rfl,?_,?_⟩
 ·obtain rfl:=(hin r).1 hr;refine ⟨h.next+2,ag,by omega,by simp,?_⟩;rw [z0x (by omega)];exact z19 _ _
 ·by_cases h1:r=.g
  ·by_cases h2:r'=.g
   ·rw [h1,h2]
   ·rw [an r' h2] at e';cases e'
  ·rw [an r h1] at e;cases e
 ·rw [z0x (by omega),z16 (by simp;omega),z16 (by simp),z19]
 ·exact (((Keeps.one _ _).go (Keeps.one _ _)).go (Keeps.one _ _)).z3a (by omega) _
theorem Solve_does (c:Cd) (hc:c.ok) (sm:Small c) (h:z00):z01 Tryd.prog 16 [.agg c.cells] h (λv h2=>SolvedQ h c v h2):=by
 apply zrr
 (repeat simp -dsimp -implicitDefEqProofs (disch:=omega) only [↓rP,rA,↓reduceIte,reduceEqDiff,reduceAdd,reduceLeDiff,↓tyr])
 refine z01.go (zbf c hc sm _) ?_
 cases hg:okC c with
 | false=>
  (repeat simp -dsimp -implicitDefEqProofs (disch:=omega) only [↓rP,rA,↓reduceIte,reduceEqDiff,reduceAdd,reduceLeDiff,↓tyr])
  rw [z1j (by rfl) (by rfl)]
  (repeat simp -dsimp -implicitDefEqProofs (disch:=omega) only [↓rP,rA,↓reduceIte,reduceEqDiff,reduceAdd,reduceLeDiff,↓tyr])
  exact Or.inl ⟨hg,rfl,Keeps.one _ _⟩
 | true=>
  have wc:=zse hg;have hgl:=wc.glo
  (repeat simp -dsimp -implicitDefEqProofs (disch:=omega) only [↓rP,rA,↓reduceIte,reduceEqDiff,reduceAdd,reduceLeDiff,↓tyr,↓bld_sol])
  have e1:(h.push (AObj.row 64 [AV.nils,AV.nils,AV.nils])).next=h.next+1:=rfl;rw [e1];rw [mk_row _ (by omega)];have e2:((h.push (AObj.row 64 [AV.nils,AV.nils,AV.nils])).push (AObj.row 85 (solP c (λ_=>.nils) 0 0 0 0))).next=h.next+2:=rfl;rw [e2]
  (repeat simp -dsimp -implicitDefEqProofs (disch:=omega) only [↓rP,rA,↓reduceIte,reduceEqDiff,reduceAdd,reduceLeDiff,↓tyr])
  have hlg:(slL c.Globals).length=lenR c .g:=rfl;rw [hlg];have ob:(((h.push (AObj.row 64 [AV.nils,AV.nils,AV.nils])).push (AObj.row 85 (solP c (λ_=>.nils) 0 0 0 0))).push (AObj.row 89 (rowC (λ_=>0) (lenR c .g)))).objs (h.next+1)=some (AObj.row 85 (solP c (λ_=>.nils) 0 0 0 0)):=by
   rw [z16 (by simp),<-e1,z19]
  rw [z2w ob (by rfl) (by rw [zjo];decide),solP_set6];have B0:=zsn c h;generalize ((((h.push (.row 64 [.nils,.nils,.nils])).push (.row 85 (solP c (λ_=>.nils) 0 0 0 0))).push (.row 89 (rowC (λ_=>0) (lenR c .g)))).put (h.next+1) (.row 85 (solP c (A0g c (h.next+2)) 0 0 0 0)))=H at B0 ⊢
  (repeat simp -dsimp -implicitDefEqProofs (disch:=omega) only [↓rP,rA,↓reduceIte,reduceEqDiff,reduceAdd,reduceLeDiff,↓tyr])
  refine solve_6 wc B0 _ ?_;intro H2 A1 i1 B1
  (repeat simp -dsimp -implicitDefEqProofs (disch:=omega) only [↓rP,rA,↓reduceIte,reduceEqDiff,reduceAdd,reduceLeDiff,↓tyr])
  refine solve_11 wc B1 _ ?_;intro H3 A i2 B2;obtain ⟨S,own⟩:=B2.start;have SV0:SV h H3 (h.next+1) c (λ_ _=>0) A i1 i2 true:=⟨S,own,B2.res,by have:=B2.gt;have:=B2.lt;omega,B2.keep⟩
  (repeat simp -dsimp -implicitDefEqProofs (disch:=omega) only [↓rP,rA,↓reduceIte,reduceEqDiff,reduceAdd,reduceLeDiff,↓tyr])
  refine solve_18 hc wc SV0 (fun τ _ r n i hi=>by simp at hi) (λr n i hi=>by simp at hi) (λr n hn=>absurd rfl hn) _ ?_;intro H4 σ S4 l1 l2 l3 l4;have ls:∀ K:AV->Prop,z0t (some 3) (.ptr (h.next+1) 5) H4 K=K (.agg (z7l c A i1 i2)):=λK=>by rw [S4.sol.ld];exact zlj c A i1 i2 false K
  (repeat simp -dsimp -implicitDefEqProofs (disch:=omega) only [↓rP,rA,↓reduceIte,reduceEqDiff,reduceAdd,reduceLeDiff,↓tyr,↓ls])
  have hst:∀ K:z00->Prop,z14 3 (.ptr h.next 0) (.agg (z7l c A i1 i2)) H4 K=K (H4.put h.next (.row 64 (z7l c A i1 i2))):=λK=>by
   simp only [z14,S4.res];simp [z7l]
  rw [hst];have ldr:∀ K:AV->Prop,z0t (some 3) (.ptr h.next 0) (H4.put h.next (.row 64 (z7l c A i1 i2))) K=K (.agg (z7l c A i1 i2)):=λK=>by
   rw [z0b (z1d _ _ _)];exact zlf c A i1 i2 K
  (repeat simp -dsimp -implicitDefEqProofs (disch:=omega) only [↓rP,rA,↓reduceIte,reduceEqDiff,reduceAdd,reduceLeDiff,↓tyr,↓ldr])
  refine Or.inr ⟨hg,σ,A,i1,i2,rfl,?_,?_,l1,l2,l3,l4,S4.keep.z3a (Nat.le_refl _) _⟩
  ·refine S4.sol.sets.keep (S:=λi=>i=h.next) ⟨Nat.le_refl _,λi _ hi=>z0x hi _⟩ (λr id e h=>?_);have:=own id (Or.inr ⟨r,e⟩);omega
  ·intro r id e;have:=own id (Or.inr ⟨r,e⟩);omega
end
section
open Go.Abs
theorem chunk_row (l:List Nat):chunk 1 l.length (l.map λ(n:Nat)=>AV.int .u64 n)=l.map encN:=by
 induction l with
 | nil=>rfl
 | cons a l ih=>simp only [List.map_cons,List.length_cons,chunk,List.take_succ_cons,List.take_zero,List.drop_succ_cons,List.drop_zero];rw [ih];rfl
def rowO (c:Cd) (σ:Sg) (N:Rw->Bool) (r:Rw):Option (List Nat):=if N r then none else some ((List.range (lenR c r)).map (σ r))
def rowsO (n:Nat) (f:Nat->Option (List Nat)):Option (List (Option (List Nat))):=if n=0 then none else some ((List.range n).map f)
def z6g (c:Cd) (σ:Sg) (N:Rw->Bool):z0u:=⟨rowsO (slL c.Threads).length (λt=>rowO c σ N (.s t)),rowO c σ N .g,rowsO (slL c.Sites).length (λk=>rowO c σ N (.f k))⟩
theorem ids_row (D:Nat->Prop) (o:Option (List Nat)):z1w D (slAV 1 encN o):=by
 cases o with
 | none=>exact trivial
 | some l=>
  show z9x D (l.map encN)
  induction l with
  | nil=>exact trivial
  | cons a l ih=>exact ⟨⟨trivial,trivial⟩,ih⟩
theorem ids_rows (D:Nat->Prop) (o:Option (List (Option (List Nat)))):z1w D (slAV 1 (λo=>[slAV 1 encN o]) o):=by
 cases o with
 | none=>exact trivial
 | some l=>
  show z9x D (l.map λo=>[slAV 1 encN o])
  induction l with
  | nil=>exact trivial
  | cons a l ih=>exact ⟨⟨ids_row D a,trivial⟩,ih⟩
theorem ids_sets (D:Nat->Prop) (s:z0u):z1w D (.agg s.cells):=⟨ids_rows D _,ids_row D _,ids_rows D _,trivial⟩
open Classical in
noncomputable def nilR (A:Rw->AV) (r:Rw):Bool:=decide (A r=.nils)
theorem rz_row {H:z00} {D:Nat->Prop} {c:Cd} {σ:Sg} {A:Rw->AV} (S:z8z H c σ A) (hD:∀ r id,A r=.sl id 0 (lenR c r) 1->D id) (r:Rw) (hl:lenR c r<=1000000):RzV H D (A r) (slAV 1 encN (rowO c σ (nilR A) r)):=by
 rcases S.row r with ⟨e,_⟩ | ⟨id,e,hid,ho⟩
 ·have:nilR A r=true:=by simp [nilR,e]
  simp only [rowO,this,if_true,e];exact RzV.same _
 ·have:nilR A r=false:=by simp [nilR,e]
  have e2:slAV 1 encN (rowO c σ (nilR A) r)=.isl 1 (chunk 1 (lenR c r) (rowC (σ r) (lenR c r))):=by
   simp only [rowO,this,Bool.false_eq_true,if_false,slAV];have:=chunk_row ((List.range (lenR c r)).map (σ r));rw [List.length_map,List.length_range] at this;rw [<-this];simp only [rowC,List.map_map]
   rfl
  rw [e2,e];exact RzV.row (hD r id e) ho (by rw [zh0];omega) hl rfl (λi a a' h1 h2=>by rw [h1] at h2;cases h2;exact RzV.same _)
theorem rz_out {H:z00} {D:Nat->Prop} {id n:Nat} {f:Nat->AV} {g:Nat->Option (List Nat)} (hn:n<=1000000) (h:∀ k,k<n->RzV H D (f k) (slAV 1 encN (g k))):RzV H D (outA id n f) (slAV 1 (λo=>[slAV 1 encN o]) (rowsO n g)):=by
 unfold outA rowsO;by_cases e:n=0
 ·rw [if_pos e,if_pos e];exact RzV.same _
 ·rw [if_neg e,if_neg e];have e2:slAV 1 (λo=>[slAV 1 encN o]) (some ((List.range n).map g))=.isl 1 ((List.range n).map λk=>[slAV 1 encN (g k)]):=by
   simp only [slAV,List.map_map];rfl
  rw [e2];exact RzV.gsl (by simp;omega) (RzE.map λk hk=>RzM.cons (h k (List.mem_range.1 hk)) RzM.nil)
def zsj (c:Cd) (s:z0u):Prop:=(okC c=false/\s=⟨none,none,none⟩)\/(okC c=true/\∃ σ N,s=z6g c σ N/\(∀ r,N r=true->lenR c r=0)/\Cl c σ/\Lw c σ/\Bd2 c σ/\Rg c σ)
theorem lenR_le {c:Cd} (sm:Small c) (r:Rw):lenR c r<=1000:=by
 cases r with
 | g=>have:=sm.globs;simp only [lenR];omega
 | s t=>
  simp only [lenR,zb5];split
  ·rename_i b hb;have:=sm.slots b (List.mem_of_getElem? hb);omega
  ·simp
 | f k=>
  simp only [lenR];split
  ·rename_i x hx;simp only [recL];split
   ·rename_i l hl;have:=sm.fields l (by unfold getI at hl;split at hl <;> first | exact List.mem_of_getElem? hl | cases hl);omega
   ·simp
  ·simp
theorem Solve_v (c:Cd) (hc:c.ok) (sm:Small c) (h:z00):z01 Tryd.prog 16 [.agg c.cells] h (λv h2=>(∃ s:z0u,v=.agg s.cells/\zsj c s)/\h2=h):=by
 refine z01.result (enc:=λs:z0u=>.agg s.cells) (Q:=zsj c) (λs _=>ids_sets _ s) ((Solve_does c hc sm h).mono ?_);rintro v h2 (⟨h1,rfl,kp⟩ | ⟨h1,σ,A,i1,i2,rfl,S,own,l1,l2,l3,l4,kp⟩)
 ·exact ⟨λ_=>False,⟨none,none,none⟩,Or.inl ⟨h1,rfl⟩,RzV.same _,λ_ h=>h.elim,kp⟩
 ·refine ⟨λi=>∃ r,A r=.sl i 0 (lenR c r) 1,z6g c σ (nilR A),Or.inr ⟨h1,σ,nilR A,rfl,λr hr=>?_,l1,l2,l3,l4⟩,?_,?_,kp⟩
  ·rcases S.row r with ⟨_,e⟩ | ⟨id,e,_⟩
   ·exact e
   ·simp [nilR,e] at hr
  ·have hD:∀ r id,A r=.sl id 0 (lenR c r) 1->∃ r,A r=.sl id 0 (lenR c r) 1:=λr id e=>⟨r,e⟩;have hr:=λr=>rz_row S hD r (by have:=lenR_le sm r;omega);have:=sm.threads;have:=sm.sites;exact RzV.agg (RzL.cons (rz_out (by omega) λk _=>hr _) (RzL.cons (hr _) (RzL.cons (rz_out (by omega) λk _=>hr _) RzL.nil)))
  ·rintro i ⟨r,e⟩;refine ⟨own r i e,?_⟩;rcases S.row r with ⟨e2,_⟩ | ⟨id,e2,_,ho⟩
   ·rw [e2] at e;cases e
   ·rw [e] at e2;cases e2;rw [ho];simp
end
section
open Go.Abs
end
section
open Go.Abs
end
section
open Go.Abs
end
section
open Go.Abs
end
section
open Go.Abs
section
variable (A:Rw->AV) (i1 k1 i2 k2:Nat) (K:AV->Prop)
end
end
section
open Go.Abs
end
section
open Go.Abs
end
section
open Go.Abs
end
section
open Go.Abs
end
section
open Go.Abs
end
section
open Go.Abs
end
end Go.Proofs.YtjlogcfggfmacaaDoor
