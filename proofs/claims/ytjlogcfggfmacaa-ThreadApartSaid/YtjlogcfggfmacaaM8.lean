/- Own texts, merged: P6Wants, P6Check, ThGood, ThSpec, ThMem, ThFun, ThAct, ThRest, ThAlive, ThNil, ThreadEndsDoes, ThreadApartDoes. -/
import Derived.Test.YtjlogcfggfmacaaM7
set_option linter.unusedVariables false
set_option linter.unusedSimpArgs false
open Nat (reduceEqDiff reduceAdd reduceLeDiff)
section
set_option maxRecDepth 8000
set_option maxHeartbeats 1000000
namespace Go.Proofs.Ytjlogcfggfmacaa
open Go.Abs
theorem ld_encN (n:Nat) (h:z00) (J:AV→Prop):z0r none (.iptr (encN n)) h J=J (.int .u64 (n:Nat)):=by rw [z0w];rfl
theorem ld_row (r:Option (List Nat)) (h:z00) (J:AV→Prop):z0r none (.iptr ((fun o=>[slAV 1 encN o]) r)) h J=J (slAV 1 encN r):=by rw [z0w];rfl
theorem site_19 {rows:Option (List (Option (List Nat)))} {row:Option (List Nat)} {t m n:Nat} (hr:(slL rows)[t]?=some row) (hn:(slL row)[m]?=some n) (hlt:n<18446744073709551616) {x:In} (em:x.Src=(m:Nat))
  {h:z00} {sid xid:Nat} {B C:AV} (oS:h.objs sid=some (.row 93 [slAV 1 (fun o=>[slAV 1 encN o]) rows,B,C])) (oX:h.objs xid=some (.row 40 x.cells)) (A6 A7 A9 A12 A13 A15 A37 A38 A39:AV) (Q:z1k→Fr→z00→Prop)
  (hQ:Q (.exit 2) (frOf [(5,.ptr sid 0),(6,A6),(7,A7),(8,.int .i64 t),(9,A9),(11,.ptr xid 0),(12,A12),(13,A13),(15,A15),(16,.int .i64 (zfo n:Nat)),(37,A37),(38,A38),(39,A39)]) h) :
  WP Try.prog 226 (.loop z4l) (frOf [(5,.ptr sid 0),(6,A6),(7,A7),(8,.int .i64 t),(9,A9),(11,.ptr xid 0),(12,A12),(13,A13),(15,A15),(16,.int .i64 0),(37,A37),(38,A38),(39,A39)]) h Q:=by
 obtain ⟨I,hI⟩:∃ I:Nat→Fr→z00→Prop,I=(fun m fr hh=>∃ k:Nat,m=32-k∧k≤32∧(∀ i,i<k→n.testBit i=false)∧hh=h∧fr=frOf [(5,.ptr sid 0),(6,A6),(7,A7),(8,.int .i64 t),(9,A9),(11,.ptr xid 0),(12,A12),(13,A13),(15,A15),(16,.int .i64 (k:Nat)),(37,A37),(38,A38),(39,A39)]):=⟨_,rfl⟩
 refine z0x z08 (by kernel_rfl) I 32 (by rw [hI];exact ⟨0,rfl,Nat.zero_le _,fun i h=>by omega,rfl,rfl⟩) ?_
 intro m' fr hh hi
 rw [hI] at hi
 obtain ⟨k,rfl,hk,hb,rfl,rfl⟩:=hi
 have fS:∀ J:AV→Prop,z0r none (.ptr sid 0) hh J=J (slAV 1 (fun o=>[slAV 1 encN o]) rows):=fun J=>by rw [z06 oS];rfl
 have fX:∀ J:AV→Prop,z0r none (.ptr xid 2) hh J=J (.int .i64 (m:Nat)):=fun J=>by rw [z06 oX,←em];rfl
 apply zb2
 by_cases hk2:k<32
 ·have e1:decide ((k:Int)<32)=true:=by simp;omega
  (repeat (first | simp -dsimp -implicitDefEqProofs (disch:=omega) only [↓rP,rA,↓reduceIte,reduceEqDiff,reduceAdd,reduceLeDiff,↓tyr,e1,↓fS,↓fX,z02 hr,z02 hn,↓ld_row,↓ld_encN] | refine Cut.go ?_))
  refine z01.go (zlk n hlt k (by omega) hh) ?_
  cases hbk:n.testBit k with
  | true=>
   (repeat (first | simp -dsimp -implicitDefEqProofs (disch:=omega) only [↓rP,rA,↓reduceIte,reduceEqDiff,reduceAdd,reduceLeDiff,↓tyr] | refine Cut.go ?_))
   rw [siteL_here hk2 hb hbk] at hQ
   exact hQ
  | false=>
   (repeat (first | simp -dsimp -implicitDefEqProofs (disch:=omega) only [↓rP,rA,↓reduceIte,reduceEqDiff,reduceAdd,reduceLeDiff,↓tyr,wkP k (by omega)] | refine Cut.go ?_))
   rw [z04,hI]
   refine ⟨_,by omega,k+1,rfl,by omega,fun i hi=>?_,rfl,rfl⟩
   by_cases e:i=k
   ·rw [e];exact hbk
   ·exact hb i (by omega)
 ·have e1:decide ((k:Int)<32)=false:=by simp;omega
  have e:k=32:=by omega
  subst e
  (repeat (first | simp -dsimp -implicitDefEqProofs (disch:=omega) only [↓rP,rA,↓reduceIte,reduceEqDiff,reduceAdd,reduceLeDiff,↓tyr,e1] | refine Cut.go ?_))
  rw [siteL_none hb] at hQ
  exact hQ
theorem bslC (x:Cm) (G:z00) (J:AV→z00→Prop):z0m true { e:=80,sz:=12,by_:=128 } [AV.int .i64 0,.bool false,.int .i64 0,.nils,.int .i64 0,.bool false,.int .i64 0,.bool false,.int .i64 0,.nils,.int .i64 0,.int .i64 0] 1 [(0,.agg x.cells)] G J=J (.isl 12 [x.cells]) G:=by
 simp [z0m,z8t,z05.cells,AV.fits,AV.cells,List.replicate]
theorem slAV_fit (o:Option (List Int)):(slAV 1 encI o).fits=true∧(slAV 1 encI o).cells=[slAV 1 encI o]:=by cases o <;> exact ⟨rfl,rfl⟩
theorem sl_no:slAV 1 encI (none:Option (List Int))=.nils:=rfl
theorem blC1 (n m:Int) (J:AV→Prop):z5e [(0,1),(1,3),(4,1),(5,1),(6,1),(7,3),(10,1),(11,1)] [AV.int .i64 0,.bool false,.int .i64 0,.nils,.int .i64 0,.bool false,.int .i64 0,.bool false,.int .i64 0,.nils,.int .i64 0,.int .i64 0] [(0,.int .i64 1),(2,.int .i64 n),(7,.int .i64 m)] J=J (.agg (⟨1,noP,n,false,0,noP,0,m⟩:Cm).cells):=rfl
theorem blC4 (cl m:Int) (J:AV→Prop):z5e [(0,1),(1,3),(4,1),(5,1),(6,1),(7,3),(10,1),(11,1)] [AV.int .i64 0,.bool false,.int .i64 0,.nils,.int .i64 0,.bool false,.int .i64 0,.bool false,.int .i64 0,.nils,.int .i64 0,.int .i64 0] [(0,.int .i64 4),(6,.int .i64 cl),(7,.int .i64 m)] J=J (.agg (zcy cl m).cells):=rfl
theorem blC2 (p:z0e) (n cl m:Int) (J:AV→Prop):z5e [(0,1),(1,3),(4,1),(5,1),(6,1),(7,3),(10,1),(11,1)] [AV.int .i64 0,.bool false,.int .i64 0,.nils,.int .i64 0,.bool false,.int .i64 0,.bool false,.int .i64 0,.nils,.int .i64 0,.int .i64 0] [(0,.int .i64 2),(1,.agg p.cells),(2,.int .i64 n),(6,.int .i64 cl),(7,.int .i64 m)] J=J (.agg (⟨2,p,n,false,0,noP,cl,m⟩:Cm).cells):=by
 simp [z5e,zdh,z0e.cells,z05.cells,AV.cells,AV.fits,noP,slAV_fit,sl_no]
theorem blC3 (p:z0e) (cl m:Int) (J:AV→Prop):z5e [(0,1),(1,3),(4,1),(5,1),(6,1),(7,3),(10,1),(11,1)] [AV.int .i64 0,.bool false,.int .i64 0,.nils,.int .i64 0,.bool false,.int .i64 0,.bool false,.int .i64 0,.nils,.int .i64 0,.int .i64 0] [(0,.int .i64 3),(1,.agg p.cells),(6,.int .i64 cl),(7,.int .i64 m)] J=J (.agg (⟨3,p,0,false,0,noP,cl,m⟩:Cm).cells):=by
 simp [z5e,zdh,z0e.cells,z05.cells,AV.cells,AV.fits,noP,slAV_fit,sl_no]
theorem GvAt.app2 {α:Type} {T:TypeId} {sz:Nat} {enc:α→List AV} {hh:z00} {av:AV} {l:List α} {h:z00} (g:GvAt T sz enc h.next hh av l) (kp:Keeps h hh (fun _=>False)) {b:Nat} (hl:l.length≤10000) (hb:b≤1000) (x:α) (J:AV→z00→Prop)
  (hJ:∀ av2 h2,GvAt T sz enc h.next h2 av2 (l++[x])→Keeps h h2 (fun _=>False)→(∀ i ty cs,i<hh.next→hh.objs i=some (.row ty cs)→h2.objs i=some (.row ty cs))→J av2 h2):z11 true { e:=T,sz:=sz,by_:=b } av (.isl sz [enc x]) hh J:=by
 have hkn:=kp.next
 have hbd:∀ n,n≤10001→bounded { e:=T,sz:=sz,by_:=b } n:=fun n hn=>by
  have:n*b≤10001*1000:=Nat.mul_le_mul hn hb
  simp only [bounded,maxLen];omega
 rcases g with ⟨rfl,rfl⟩ | ⟨hne,id,rfl,ho,h1,h2⟩
 ·have:=hJ (.gsl hh.next sz [enc x]) (hh.push (.tok T (1*sz))) (Or.inr ⟨by simp,hh.next,rfl,z0v _ _,hkn,by simp⟩) (kp.zgp _) (fun i ty cs hi e=>by rw [z1j hi];exact e)
  simp only [z11,z13,if_true,zd2]
  exact ⟨hbd _ (by simp),this⟩
 ·have:=hJ (.gsl hh.next sz (l.map enc++[enc x])) ((hh.kill id).push (.tok T ((l++[x]).length*sz))) (Or.inr ⟨by simp,hh.next,by simp,z0v (hh.kill id) _,hkn,Nat.lt_succ_self _⟩) ((kp.zca h1).zgp _) (fun i ty cs hi e=>by
   have hne:i≠id:=fun q=>by rw [q,ho] at e;cases e
   rw [z1j (h:=hh.kill id) hi,zp5 hne];exact e)
  simp only [z11,z13,if_true,ho,List.length_map,List.length_cons,List.length_nil,true_and]
  refine ⟨hbd _ (by omega),?_⟩
  simpa using this
section
variable {x:In} {K:Nat→Vl} {o:Option (List Int)} {ko:Option (List Vl)} {s m nS xid vid j:Nat} {mo:Int} {fld:Bool} {A5 A8 A37 A38 av:AV} {l:List Cm} {h0 G:z00} {Q:z1k→Fr→z00→Prop}
def zh1 (cl:Int) (K:Nat→Vl) (x:In) (m:Nat) (mo:Int) (fld:Bool):Cm:=
 if (K m).Kind≠2 then zcy cl mo else if fld=true then ⟨2,(K m).Path,x.N,false,0,noP,cl,mo⟩ else zqs K (K m).Path cl mo (slL x.Index)
theorem wants_p2 (g:GvAt 80 12 z05.cells h0.next G av l) (kp:Keeps h0 G (fun _=>False)) (hl:l.length≤1000) (hj:j≤1000) (obX:G.objs xid=some (.row 40 x.cells)) (obV:G.objs vid=some (.row 118 (K m).cells)) (hxn:xid<G.next) (hvn:vid<G.next)
  (hk:∀ i,i<nS→(slL ko)[i]?=some (K i)) (hix:fld=false→∀ y∈slL x.Index,y.Op=2→y.N<nS) (hs:s≠32→s<(slL o).length) (hs2:s≤32)
  (hQ:∀ av2 h2,GvAt 80 12 z05.cells h0.next h2 av2 (l++(if (K m).Kind=1∨s=32 then [] else [zh1 ((slL o).getD s 0) K x m mo fld]))→Keeps h0 h2 (fun _=>False)→Q .normal (frOf [(5,A5),(6,slAV 1 encI o),(7,slAV 4 z0n.cells ko),(8,A8),(9,av2),(37,A37),(38,A38),(39,.int .i64 ((j+1:Nat):Int))]) h2) (fr':Fr) (h':z00) (b1:Bool) (hb1:b1=decide ((K m).Kind=1)) :
  z1v Q fr' h' (frOf [(5,A5),(6,slAV 1 encI o),(7,slAV 4 z0n.cells ko),(8,A8),(9,av),(11,.ptr xid 0),(12,.int .i64 mo),(13,.bool fld),(15,.ptr vid 0),(16,.int .i64 s),(37,A37),(38,A38),(39,.int .i64 j)]) G (.bool b1):=by
 unfold z1v
 by_cases k1:(K m).Kind=1
 ·rw [if_pos (Or.inl k1),List.append_nil] at hQ
  have e1:b1=true:=by rw [hb1];exact decide_eq_true k1
  (repeat (first | simp -dsimp -implicitDefEqProofs (disch:=omega) only [↓rP,rA,↓reduceIte,reduceEqDiff,reduceAdd,reduceLeDiff,↓tyr,e1,wkP j (by omega)] | refine Cut.go ?_))
  exact hQ _ _ g kp
 have e1:b1=false:=by rw [hb1];exact decide_eq_false k1
 by_cases s1:s=32
 ·rw [if_pos (Or.inr s1),List.append_nil] at hQ
  have e2:((s:Int) == 32)=true:=by simp;omega
  (repeat (first | simp -dsimp -implicitDefEqProofs (disch:=omega) only [↓rP,rA,↓reduceIte,reduceEqDiff,reduceAdd,reduceLeDiff,↓tyr,e1,e2,wkP j (by omega)] | refine Cut.go ?_))
  exact hQ _ _ g kp
 have e2:((s:Int) == 32)=false:=by simp;omega
 rw [if_neg (by simp [k1,s1])] at hQ
 obtain ⟨cl,hcl⟩:∃ cl,(slL o)[s]?=some cl:=⟨_,List.getElem?_eq_getElem (hs s1)⟩
 have ecl:(slL o).getD s 0=cl:=by rw [List.getD_eq_getElem?_getD,hcl];rfl
 rw [ecl] at hQ
 obtain ⟨H,hH⟩:∃ H,H=G.push (.row 80 (zcy cl mo).cells):=⟨_,rfl⟩
 have kG:Keeps G H (fun _=>False):=by rw [hH];exact Keeps.one _ _
 have kpH:=kp.go kG
 have gH:=g.keep kG (fun _ _ e=>e)
 have oX:H.objs xid=some (.row 40 x.cells):=by rw [hH,z1j hxn];exact obX
 have hxn2:xid<H.next:=Nat.lt_of_lt_of_le hxn kG.next
 have hvn2:vid<H.next:=Nat.lt_of_lt_of_le hvn kG.next
 have oV:H.objs vid=some (.row 118 (K m).cells):=by rw [hH,z1j hvn];exact obV
 have oW:H.objs G.next=some (.row 80 (zcy cl mo).cells):=by rw [hH];exact z0v _ _
 have lW:∀ J:AV→Prop,z0r (some 12) (.ptr G.next 0) H J=J (.agg (zcy cl mo).cells):=fun J=>by rw [z06 oW];exact z05.call _ J
 by_cases k2:(K m).Kind=2
 ·have e3:((K m).Kind != 2)=false:=by simpa using k2
  cases fld with
  | true=>
   have hc:zh1 cl K x m mo true=⟨2,(K m).Path,x.N,false,0,noP,cl,mo⟩:=by simp [zh1,k2]
   rw [hc] at hQ
   (repeat (first | simp -dsimp -implicitDefEqProofs (disch:=omega) only [↓rP,rQ,rO,rL,↓reduceIte,reduceEqDiff,reduceAdd,reduceLeDiff,↓tyr,e1,e2,z02 hcl,↓z8k,blC4] | refine Cut.go ?_))
   rw [←hH]
   (repeat (first | simp -dsimp -implicitDefEqProofs (disch:=omega) only [↓rP,rQ,rO,rL,↓reduceIte,reduceEqDiff,reduceAdd,reduceLeDiff,↓tyr,z06 oV,z06 oX,e3,z02 hcl,↓z8k,blC2,↓bslC] | refine Cut.go ?_))
   refine gH.app2 kpH (by omega) (by omega) _ _ fun av2 h2 g2 k2 st=>?_
   have oX2:=st _ _ _ hxn2 oX
   have oV2:=st _ _ _ hvn2 oV
   (repeat (first | simp -dsimp -implicitDefEqProofs (disch:=omega) only [↓rP,rQ,rO,rL,↓reduceIte,reduceEqDiff,reduceAdd,reduceLeDiff,↓tyr,z06 oV2,z06 oX2,↓z8k,wkP j (by omega)] | refine Cut.go ?_))
   exact hQ _ _ g2 k2
  | false=>
   have hc:zh1 cl K x m mo false=zqs K (K m).Path cl mo (slL x.Index):=by simp [zh1,k2]
   rw [hc] at hQ
   obtain ⟨H2,hH2⟩:∃ H2,H2=H.push (.row 80 (⟨3,(K m).Path,0,false,0,noP,cl,mo⟩:Cm).cells):=⟨_,rfl⟩
   have kG2:Keeps G H2 (fun _=>False):=by rw [hH2];exact kG.go (Keeps.one _ _)
   have oX2:H2.objs xid=some (.row 40 x.cells):=by rw [hH2,z1j hxn2];exact oX
   have oV2:H2.objs vid=some (.row 118 (K m).cells):=by rw [hH2,z1j hvn2];exact oV
   have oW2:H2.objs G.next=some (.row 80 (zcy cl mo).cells):=by rw [hH2,z1j (by rw [hH];exact Nat.lt_succ_self _)];exact oW
   have oO:H2.objs H.next=some (.row 80 (⟨3,(K m).Path,0,false,0,noP,cl,mo⟩:Cm).cells):=by rw [hH2];exact z0v _ _
   have lW2:∀ J:AV→Prop,z0r (some 12) (.ptr G.next 0) H2 J=J (.agg (zcy cl mo).cells):=fun J=>by rw [z06 oW2];exact z05.call _ J
   have kn:G.next≤H.next:=kG.next
   have fin:∀ (c:Cm) (H4:z00) (J:AV→z00→Prop),Keeps G H4 (fun _=>False)→zqs K (K m).Path cl mo (slL x.Index)=c→(∀ av2 h2,Q .normal (frOf [(5,A5),(6,slAV 1 encI o),(7,slAV 4 z0n.cells ko),(8,A8),(9,av2),(37,A37),(38,A38),(39,.int .i64 ((j+1:Nat):Int))]) h2→J av2 h2)→z11 true { e:=80,sz:=12,by_:=128 } av (.isl 12 [c.cells]) H4 J:=fun c H4 J k4 e hJ=>by
    subst e
    exact (g.keep k4 (fun _ _ e=>e)).app (kp.go k4) (by omega) (by omega) _ _ fun av2 h2 g2 k2=>hJ _ _ (hQ _ _ g2 k2)
   (repeat (first | simp -dsimp -implicitDefEqProofs (disch:=omega) only [↓rP,rQ,rO,rL,↓reduceIte,reduceEqDiff,reduceAdd,reduceLeDiff,↓tyr,e1,e2,z02 hcl,↓z8k,blC4] | refine Cut.go ?_))
   rw [←hH]
   have lV:∀ z k off J,z0r k (.ptr vid off) (H.push z) J=z03 k (K m).cells off J:=fun z k off J=>z06 (by rw [z1j hvn2];exact oV) k J
   (repeat (first | simp -dsimp -implicitDefEqProofs (disch:=omega) only [↓rP,rQ,rO,rL,↓reduceIte,reduceEqDiff,reduceAdd,reduceLeDiff,↓tyr,z06 oV,z06 oX,e3,z02 hcl,↓z8k,blC3,lV] | refine Cut.go ?_))
   rw [←hH2]
   have whole:(∀ y,slL x.Index=[y]→y.Op≠1∧(y.Op=2→(K y.N).Kind≠2))→zqs K (K m).Path cl mo (slL x.Index)=zcy cl mo:=fun hn=>by
    unfold zqs
    split
    ·rename_i y e
     obtain ⟨n1,n2⟩:=hn y e
     rw [if_neg n1,if_neg (fun q=>n2 q.1 q.2)]
    ·rfl
   by_cases hl1:(slL x.Index).length=1
   ·obtain ⟨y,hy⟩:∃ y,slL x.Index=[y]:=List.length_eq_one_iff.1 hl1
    have el:(((slL x.Index).length:Int) == 1)=true:=by rw [hl1];rfl
    have iy:∀ J:AV→Prop,z0f (.slice 3) (slAV 3 z09.cells x.Index) (.int .i64 0) J=J (.iptr y.cells):=fun J=>z02 (k:=0) (by rw [hy];rfl) .i64 J
    by_cases y1:y.Op=1
    ·have ey:(y.Op == 1)=true:=by simpa using y1
     have sA:∀ J:z00→Prop,z1f 1 (.ptr H.next 5) (.bool true) H2 J=J (H2.put H.next (.row 80 (⟨3,(K m).Path,0,true,0,noP,cl,mo⟩:Cm).cells)):=fun J=>z1t oO rfl (by simp [z05.cells]) J
     obtain ⟨H3,hH3⟩:∃ H3,H3=H2.put H.next (.row 80 (⟨3,(K m).Path,0,true,0,noP,cl,mo⟩:Cm).cells):=⟨_,rfl⟩
     have oX3:H3.objs xid=some (.row 40 x.cells):=by rw [hH3,z1n (by omega)];exact oX2
     have oO3:H3.objs H.next=some (.row 80 (⟨3,(K m).Path,0,true,0,noP,cl,mo⟩:Cm).cells):=by rw [hH3];exact z5c _ _ _
     have sB:∀ J:z00→Prop,z1f 1 (.ptr H.next 6) (.int .i64 (IntKind.i64.wrap y.N)) H3 J=J (H3.put H.next (.row 80 (⟨3,(K m).Path,0,true,sgN y.N,noP,cl,mo⟩:Cm).cells)):=fun J=>z1t oO3 rfl (by simp [z05.cells]) J
     have lC:∀ J:AV→Prop,z0r (some 12) (.ptr H.next 0) (H3.put H.next (.row 80 (⟨3,(K m).Path,0,true,sgN y.N,noP,cl,mo⟩:Cm).cells)) J=J (.agg (⟨3,(K m).Path,0,true,sgN y.N,noP,cl,mo⟩:Cm).cells):=fun J=>by rw [z06 (z5c _ _ _)];exact z05.call _ J
     (repeat (first | simp -dsimp -implicitDefEqProofs (disch:=omega) only [↓rP,rQ,rO,rL,↓reduceIte,reduceEqDiff,reduceAdd,reduceLeDiff,↓tyr,z06 oX2,el,iy,ey] | refine Cut.go ?_))
     rw [sA,←hH3]
     (repeat (first | simp -dsimp -implicitDefEqProofs (disch:=omega) only [↓rP,rQ,rO,rL,↓reduceIte,reduceEqDiff,reduceAdd,reduceLeDiff,↓tyr,z06 oX3,iy,sB,↓lC,↓bslC] | refine Cut.go ?_))
     refine fin _ _ _ ((hH3▸kG2.zg1 kn _:Keeps G H3 _).zg1 kn _) (by rw [hy];simp [zqs,y1]) fun av2 h2 q=>?_
     (repeat (first | simp -dsimp -implicitDefEqProofs (disch:=omega) only [↓rP,rQ,rO,rL,↓reduceIte,reduceEqDiff,reduceAdd,reduceLeDiff,↓tyr,wkP j (by omega)] | refine Cut.go ?_))
     exact q
    have ey:(y.Op == 1)=false:=by simpa using y1
    by_cases y2:y.Op=2
    ·have ey2:(y.Op == 2)=true:=by simpa using y2
     have hyn:y.N<nS:=hix rfl y (by rw [hy];simp) y2
     have iK:∀ J:AV→Prop,z0f (.slice 4) (slAV 4 z0n.cells ko) (.int .u64 (y.N:Nat)) J=J (.iptr (K y.N).cells):=fun J=>z02 (hk _ hyn) .u64 J
     by_cases y3:(K y.N).Kind=2
     ·have ek:((K y.N).Kind == 2)=true:=by simpa using y3
      have sA:∀ J:z00→Prop,z1f 3 (.ptr H.next 7) (.agg (K y.N).Path.cells) H2 J=J (H2.put H.next (.row 80 (⟨3,(K m).Path,0,false,0,(K y.N).Path,cl,mo⟩:Cm).cells)):=fun J=>by
       simp only [z1f,oO]
       simp [z05.cells,z0e.cells]
      have lC:∀ J:AV→Prop,z0r (some 12) (.ptr H.next 0) (H2.put H.next (.row 80 (⟨3,(K m).Path,0,false,0,(K y.N).Path,cl,mo⟩:Cm).cells)) J=J (.agg (⟨3,(K m).Path,0,false,0,(K y.N).Path,cl,mo⟩:Cm).cells):=fun J=>by rw [z06 (z5c _ _ _)];exact z05.call _ J
      (repeat (first | simp -dsimp -implicitDefEqProofs (disch:=omega) only [↓rP,rQ,rO,rL,↓reduceIte,reduceEqDiff,reduceAdd,reduceLeDiff,↓tyr,z06 oX2,el,iy,ey,ey2,iK,ek,z5v,sA,↓lC,↓bslC] | refine Cut.go ?_))
      refine fin _ _ _ (kG2.zg1 kn _) (by rw [hy];simp [zqs,y1,y2,y3]) fun av2 h2 q=>?_
      (repeat (first | simp -dsimp -implicitDefEqProofs (disch:=omega) only [↓rP,rQ,rO,rL,↓reduceIte,reduceEqDiff,reduceAdd,reduceLeDiff,↓tyr,wkP j (by omega)] | refine Cut.go ?_))
      exact q
     ·have ek:((K y.N).Kind == 2)=false:=by simpa using y3
      (repeat (first | simp -dsimp -implicitDefEqProofs (disch:=omega) only [↓rP,rQ,rO,rL,↓reduceIte,reduceEqDiff,reduceAdd,reduceLeDiff,↓tyr,z06 oX2,el,iy,ey,ey2,iK,ek,↓lW2,↓bslC] | refine Cut.go ?_))
      refine fin _ _ _ kG2 (whole fun z e=>by rw [hy] at e;cases e;exact ⟨y1,fun _=>y3⟩) fun av2 h2 q=>?_
      (repeat (first | simp -dsimp -implicitDefEqProofs (disch:=omega) only [↓rP,rQ,rO,rL,↓reduceIte,reduceEqDiff,reduceAdd,reduceLeDiff,↓tyr,wkP j (by omega)] | refine Cut.go ?_))
      exact q
    ·have ey2:(y.Op == 2)=false:=by simpa using y2
     (repeat (first | simp -dsimp -implicitDefEqProofs (disch:=omega) only [↓rP,rQ,rO,rL,↓reduceIte,reduceEqDiff,reduceAdd,reduceLeDiff,↓tyr,z06 oX2,el,iy,ey,ey2,↓lW2,↓bslC] | refine Cut.go ?_))
     refine fin _ _ _ kG2 (whole fun z e=>by rw [hy] at e;cases e;exact ⟨y1,fun q=>absurd q y2⟩) fun av2 h2 q=>?_
     (repeat (first | simp -dsimp -implicitDefEqProofs (disch:=omega) only [↓rP,rQ,rO,rL,↓reduceIte,reduceEqDiff,reduceAdd,reduceLeDiff,↓tyr,wkP j (by omega)] | refine Cut.go ?_))
     exact q
   ·have el:(((slL x.Index).length:Int) == 1)=false:=by simp;omega
    (repeat (first | simp -dsimp -implicitDefEqProofs (disch:=omega) only [↓rP,rQ,rO,rL,↓reduceIte,reduceEqDiff,reduceAdd,reduceLeDiff,↓tyr,z06 oX2,el,↓lW2,↓bslC] | refine Cut.go ?_))
    refine fin _ _ _ kG2 (whole fun y e=>absurd (by rw [e];rfl) hl1) fun av2 h2 q=>?_
    (repeat (first | simp -dsimp -implicitDefEqProofs (disch:=omega) only [↓rP,rQ,rO,rL,↓reduceIte,reduceEqDiff,reduceAdd,reduceLeDiff,↓tyr,wkP j (by omega)] | refine Cut.go ?_))
    exact q
 ·have e3:((K m).Kind != 2)=true:=by simpa using k2
  have hc:zh1 cl K x m mo fld=zcy cl mo:=by simp [zh1,k2]
  rw [hc] at hQ
  (repeat (first | simp -dsimp -implicitDefEqProofs (disch:=omega) only [↓rP,rQ,rO,rL,↓reduceIte,reduceEqDiff,reduceAdd,reduceLeDiff,↓tyr,e1,e2,z02 hcl,↓z8k,blC4] | refine Cut.go ?_))
  rw [←hH]
  (repeat (first | simp -dsimp -implicitDefEqProofs (disch:=omega) only [↓rP,rA,↓reduceIte,reduceEqDiff,reduceAdd,reduceLeDiff,↓tyr,z06 oV,e3,↓lW,↓bslC] | refine Cut.go ?_))
  refine gH.app kpH (by omega) (by omega) _ _ fun av2 h2 g2 k2=>?_
  (repeat (first | simp -dsimp -implicitDefEqProofs (disch:=omega) only [↓rP,rA,↓reduceIte,reduceEqDiff,reduceAdd,reduceLeDiff,↓tyr,wkP j (by omega)] | refine Cut.go ?_))
  exact hQ _ _ g2 k2
end
theorem wants_snoc {σ:Nat→Nat} {cls:List Int} {K:Nat→Vl} {L:List In} {j:Nat} {x:In} (hx:L[j]?=some x):zib σ cls K (L.take (j+1))=zib σ cls K (L.take j)++(match zpt σ cls K x with | none=>[] | some c=>[c]):=by
 unfold zib
 rw [List.take_add_one,hx,List.filterMap_append]
 simp only [Option.toList,List.filterMap_cons,List.filterMap_nil]
 cases zpt σ cls K x <;> rfl
theorem wants_7 {L:List In} {K:Nat→Vl} {o:Option (List Int)} {ko:Option (List Vl)} {rows:Option (List (Option (List Nat)))} {row:Option (List Nat)} {t sid:Nat} {b:Bd} {σ:Nat→Nat} {B C:AV} {h:z00} (hL:L.length≤1000) (hr:(slL rows)[t]?=some row) (hrow:∀ i,i<(slL b.Slots).length→(slL row)[i]?=some (σ i))
  (hlt:∀ i,σ i<18446744073709551616) (hbit:∀ i k,(σ i).testBit k=true→k<(slL o).length) (hk:∀ i,i<(slL b.Slots).length→(slL ko)[i]?=some (K i)) (wx:∀ x∈L,Wx b x)
  (oS:h.objs sid=some (.row 93 [slAV 1 (fun o=>[slAV 1 encN o]) rows,B,C])) (hsid:sid<h.next) (Q:z1k→Fr→z00→Prop)
  (hQ:∀ hh av,Keeps h hh (fun _=>False)→GvAt 80 12 z05.cells h.next hh av (zib σ (slL o) K L)→Q (.exit 0) (frOf [(9,av)]) hh) :
  WP Try.prog 226 (.loop z4x) (frOf [(5,.ptr sid 0),(6,slAV 1 encI o),(7,slAV 4 z0n.cells ko),(8,.int .i64 t),(9,.nils),(37,slAV 8 z07.cells (some L)),(38,.int .i64 L.length),(39,.int .i64 0)]) h Q:=by
 obtain ⟨I,hI⟩:∃ I:Nat→Fr→z00→Prop,I=(fun m fr hh=>∃ (j:Nat) (av:AV),m=L.length-j∧j≤L.length∧GvAt 80 12 z05.cells h.next hh av (zib σ (slL o) K (L.take j))∧Keeps h hh (fun _=>False)∧fr=frOf [(5,.ptr sid 0),(6,slAV 1 encI o),(7,slAV 4 z0n.cells ko),(8,.int .i64 t),(9,av),(37,slAV 8 z07.cells (some L)),(38,.int .i64 L.length),(39,.int .i64 j)]):=⟨_,rfl⟩
 refine z0x z08 (by kernel_rfl) I L.length (by rw [hI];exact ⟨0,.nils,rfl,Nat.zero_le _,Or.inl ⟨rfl,rfl⟩,.refl _ _,rfl⟩) ?_
 intro m fr hh hi
 rw [hI] at hi
 obtain ⟨j,av,rfl,hj,gv,kp,rfl⟩:=hi
 apply zbx
 (repeat (first | simp -dsimp -implicitDefEqProofs (disch:=omega) only [↓rP,rA,↓reduceIte,reduceEqDiff,reduceAdd,reduceLeDiff,↓tyr] | refine Cut.go ?_))
 refine z0c (fun hjl=>?_) (fun hjl=>?_)
 ·obtain ⟨x,hx⟩:∃ x,L[j]?=some x:=⟨_,List.getElem?_eq_getElem (by omega)⟩
  have hx':(slL (some L))[j]?=some x:=hx
  have sn:=wants_snoc (σ:=σ) (cls:=slL o) (K:=K) hx
  have w:=wx x (List.mem_of_getElem? hx)
  have bl:(zib σ (slL o) K (L.take j)).length≤1000:=Nat.le_trans (List.length_filterMap_le _ _) (by rw [List.length_take];omega)
  obtain ⟨H,hH⟩:∃ H,H=hh.push (.row 40 x.cells):=⟨_,rfl⟩
  have kH:Keeps hh H (fun _=>False):=by rw [hH];exact Keeps.one _ _
  have kpH:Keeps h H (fun _=>False):=kp.go kH
  have gvH:=gv.keep kH (fun _ _ e=>e)
  have ob:H.objs hh.next=some (.row 40 x.cells):=by rw [hH];exact z0v _ _
  have hnl:hh.next<H.next:=by rw [hH];exact Nat.lt_succ_self _
  have nx:∀ av2 h2,GvAt 80 12 z05.cells h.next h2 av2 (zib σ (slL o) K (L.take (j+1)))→Keeps h h2 (fun _=>False)→z2y I (L.length-j) Q .normal (frOf [(5,.ptr sid 0),(6,slAV 1 encI o),(7,slAV 4 z0n.cells ko),(8,.int .i64 t),(9,av2),(37,slAV 8 z07.cells (some L)),(38,.int .i64 L.length),(39,.int .i64 ((j+1:Nat):Int))]) h2:=fun av2 h2 g2 k2=>by
   rw [z04,hI]
   exact ⟨_,by omega,j+1,av2,rfl,by omega,g2,k2,rfl⟩
  have hm4:∀ k,x.Op=k→zrl x=if k=5∨k=6∨k=7 then 4 else 3:=fun k e=>by subst e;rfl
  by_cases h25:x.Op=2∨x.Op=5
  ·have hw:zpt σ (slL o) K x=some ⟨1,noP,x.N,false,0,noP,0,zrl x⟩:=by unfold zpt;rw [if_pos h25]
   rw [hw] at sn
   (repeat (first | simp -dsimp -implicitDefEqProofs (disch:=omega) only [↓rP,rA,↓reduceIte,reduceEqDiff,reduceAdd,reduceLeDiff,↓tyr,z02 hx'] | refine Cut.go ?_))
   rw [←hH]
   rcases h25 with e | e
   all_goals
    have em:=hm4 _ e
    first | rw [if_pos (by decide)] at em | rw [if_neg (by decide)] at em
    (repeat (first | simp -dsimp -implicitDefEqProofs (disch:=omega) only [↓rP,rQ,rO,rL,↓reduceIte,reduceEqDiff,reduceAdd,reduceLeDiff,↓tyr,z06 ob,e,Int.reduceBEq,blC1,↓bslC] | refine Cut.go ?_))
    refine gvH.app2 kpH (by omega) (by omega) _ _ fun av2 h2 g2 k2 st=>?_
    have ob2:=st _ _ _ hnl ob
    (repeat (first | simp -dsimp -implicitDefEqProofs (disch:=omega) only [↓rP,rQ,rO,rL,↓reduceIte,reduceEqDiff,reduceAdd,reduceLeDiff,↓tyr,z06 ob2,e,Int.reduceBEq,wkP j (by omega)] | refine Cut.go ?_))
    rw [em] at sn
    exact nx _ _ (sn▸g2) k2
  by_cases hfe:x.Op=3∨x.Op=4∨x.Op=6∨x.Op=7
  ·have hb:=w.src (by omega)
   obtain ⟨m,em,hm⟩:∃ m:Nat,x.Src=m∧m<(slL b.Slots).length:=by unfold btw at hb;simp at hb;exact ⟨x.Src.toNat,by omega,by omega⟩
   have em2:x.Src.toNat=m:=by omega
   have iK:∀ J:AV→Prop,z0f (.slice 4) (slAV 4 z0n.cells ko) (.int .i64 (m:Nat)) J=J (.iptr (K m).cells):=fun J=>z02 (hk _ hm) .i64 J
   obtain ⟨H2,hH2⟩:∃ H2,H2=H.push (.row 118 (K m).cells):=⟨_,rfl⟩
   have kH2:Keeps hh H2 (fun _=>False):=by rw [hH2];exact kH.go (Keeps.one _ _)
   have ob2:H2.objs hh.next=some (.row 40 x.cells):=by rw [hH2,z1j hnl];exact ob
   have oV:H2.objs H.next=some (.row 118 (K m).cells):=by rw [hH2];exact z0v _ _
   have oS2:H2.objs sid=some (.row 93 [slAV 1 (fun o=>[slAV 1 encN o]) rows,B,C]):=by rw [(kp.go kH2).objs sid hsid (fun e=>e)];exact oS
   have lsv:H.next<H2.next:=by rw [hH2];exact Nat.lt_succ_self _
   (repeat (first | simp -dsimp -implicitDefEqProofs (disch:=omega) only [↓rP,rA,↓reduceIte,reduceEqDiff,reduceAdd,reduceLeDiff,↓tyr,z02 hx'] | refine Cut.go ?_))
   rw [←hH]
   have hs32:zfo (σ m)≤32:=by
    by_cases q:zfo (σ m)=32
    ·omega
    ·have:=(zsl q).2;omega
   have hw:∀ fld,(fld=true↔(x.Op=3∨x.Op=6))→(match zpt σ (slL o) K x with | none=>[] | some c=>[c])=if (K m).Kind=1∨zfo (σ m)=32 then [] else [zh1 ((slL o).getD (zfo (σ m)) 0) K x m (zrl x) fld]:=fun fld hf=>by
    unfold zpt
    rw [if_neg h25,if_pos (by omega),em2]
    by_cases q:(K m).Kind=1∨zfo (σ m)=32
    ·rw [if_pos q,if_pos q]
    ·rw [if_neg q,if_neg q]
     simp only [cellC,zh1,em2,hf]
   have tail:∀ fld,(fld=true↔(x.Op=3∨x.Op=6))→∀ (fr':Fr) (h':z00),z1v (z2y I (L.length-j) Q) fr' h' (frOf [(5,.ptr sid 0),(6,slAV 1 encI o),(7,slAV 4 z0n.cells ko),(8,.int .i64 t),(9,av),(11,.ptr hh.next 0),(12,.int .i64 (zrl x)),(13,.bool fld),(15,.ptr H.next 0),(16,.int .i64 (zfo (σ m):Nat)),(37,slAV 8 z07.cells (some L)),(38,.int .i64 L.length),(39,.int .i64 j)]) H2 (.bool (decide ((K m).Kind=1))):=fun fld hf fr' h'=>
    wants_p2 (gv.keep kH2 (fun _ _ e=>e)) (kp.go kH2) bl (by omega) ob2 oV (by omega) lsv hk (fun e=>(w.idx (Decidable.byContradiction fun q=>by have q2:=hf.2 (by omega);rw [q2] at e;cases e)).1) (fun q=>hbit m _ (zsl q).1) hs32 (fun av2 h2 g2 k2=>nx _ _ (by rw [sn,hw fld hf];exact g2) k2) fr' h' _ rfl
   have ek:((K m).Kind == 1)=decide ((K m).Kind=1):=rfl
   rcases hfe with e | e | e | e
   all_goals
    have emo:=hm4 _ e
    first | rw [if_pos (by decide)] at emo | rw [if_neg (by decide)] at emo
    rw [emo] at tail
    (repeat (first | simp -dsimp -implicitDefEqProofs (disch:=omega) only [↓rP,rQ,rO,rL,↓reduceIte,reduceEqDiff,reduceAdd,reduceLeDiff,↓tyr,z06 ob,e,Int.reduceBEq,em,iK] | refine Cut.go ?_))
    rw [←hH2]
    refine site_19 hr (hrow m hm) (hlt m) em oS2 ob2 _ _ _ _ _ _ _ _ _ _ ?_
    (repeat (first | simp -dsimp -implicitDefEqProofs (disch:=omega) only [↓rP,rQ,rO,rL,↓reduceIte,reduceEqDiff,reduceAdd,reduceLeDiff,↓tyr,z06 oV,ek] | refine Cut.go ?_))
   ·exact tail true (by simp [e]) _ _
   ·exact tail false (by rw [e];decide) _ _
   ·exact tail true (by simp [e]) _ _
   ·exact tail false (by rw [e];decide) _ _
  ·have hw:zpt σ (slL o) K x=none:=by unfold zpt;rw [if_neg h25,if_neg (by omega)]
   rw [hw,List.append_nil] at sn
   (repeat (first | simp -dsimp -implicitDefEqProofs (disch:=omega) only [↓rP,rA,↓reduceIte,reduceEqDiff,reduceAdd,reduceLeDiff,↓tyr,z02 hx',wkP j (by omega)] | refine Cut.go ?_))
   rw [←hH]
   exact nx _ _ (sn▸gvH) kpH
 ·(repeat (first | simp -dsimp -implicitDefEqProofs (disch:=omega) only [↓rP,rA,↓reduceIte,reduceEqDiff,reduceAdd,reduceLeDiff,↓tyr] | refine Cut.go ?_))
  have e:j=L.length:=by omega
  subst e
  rw [List.take_length] at gv
  exact hQ hh av kp gv
def knownK (b:Bd) (L:List In):Nat→Vl:=fun k=>ofV L (onB b) (slL b.Slots).length (k:Nat)
noncomputable def zsq (c:Cd) (t:Nat) (b:Bd) (L:List In):List Cm:=zib (z5u c (.s t)) (clsL c) (knownK b L) L
theorem ids_cm (D:Nat→Prop) (o:Option (List Cm)):z1u D (slAV 12 z05.cells o):=zkg (enc:=z05.cells) (fun c=>⟨trivial,trivial,trivial,zex _ _,trivial,trivial,trivial,trivial,trivial,zex _ _,trivial,trivial,trivial⟩) o
theorem Wants_does {c:Cd} (hc:c.ok) (sm:Small c) (hok:okC c=true) {s:Nat} {sec:z0b} (hs:(slL c.Sections)[s]?=some sec) {t fr to:Nat} {b:Bd} (S:zok c sec t b fr to) (h:z00) :
  z01 Try.prog 37 [.agg c.cells,.int .i64 (s:Nat)] h (fun v h2=>(∃ o,v=slAV 12 z05.cells o∧slL o=zsq c t b (secL b fr to))∧h2=h):=by
 have wc:=zid hok
 have hsl:=wc.slo t b S.bd
 have hL:=zpp b fr to
 refine z01.result (enc:=fun o:Option (List Cm)=>slAV 12 z05.cells o) (Q:=fun o=>slL o=zsq c t b (secL b fr to)) (fun o _=>ids_cm _ o) ?_
 have lc:∀ (H:z00) (K:AV→Prop),z0r (some 5) (.iptr c.cells) H K=K (.agg c.cells):=fun H K=>by rw [z0w];exact z0l.call c K
 apply zec
 (repeat (first | simp -dsimp -implicitDefEqProofs (disch:=omega) only [↓rP,rA,↓reduceIte,reduceEqDiff,reduceAdd,reduceLeDiff,↓tyr,↓lc] | refine Cut.go ?_))
 refine (RSolve_v c hc sm h).mono ?_
 rintro _ h ⟨⟨st,rfl,hv⟩,rfl⟩
 rcases hv with ⟨hf,_⟩ | ⟨_,N,rfl,hN,h2,hR⟩
 ·rw [hok] at hf;cases hf
 (repeat (first | simp -dsimp -implicitDefEqProofs (disch:=omega) only [↓rP,rA,↓reduceIte,reduceEqDiff,reduceAdd,reduceLeDiff,↓tyr,↓lc] | refine Cut.go ?_))
 have oS:(h.push (.row 93 (z8y c (z5u c) N).cells)).objs h.next=some (.row 93 [slAV 1 (fun o=>[slAV 1 encN o]) (z8y c (z5u c) N).Slots,slAV 1 encN (z8y c (z5u c) N).Globals,slAV 1 (fun o=>[slAV 1 encN o]) (z8y c (z5u c) N).Fields]):=z0v _ _
 have kp:=Keeps.one h (.row 93 (z8y c (z5u c) N).cells)
 have hsid:h.next<(h.push (.row 93 (z8y c (z5u c) N).cells)).next:=Nat.lt_succ_self _
 generalize (h.push (.row 93 (z8y c (z5u c) N).cells))=H at oS kp hsid ⊢
 refine (RSplit_v hok sm hN h2 H).mono ?_
 rintro _ H ⟨⟨o,rfl,ho⟩,rfl⟩
 (repeat (first | simp -dsimp -implicitDefEqProofs (disch:=omega) only [↓rP,rA,↓reduceIte,reduceEqDiff,reduceAdd,reduceLeDiff,↓tyr,↓lc] | refine Cut.go ?_))
 refine (rOf_does c hc sm s H).mono ?_
 rintro _ H ⟨⟨ko,rfl,hko⟩,rfl⟩
 (repeat (first | simp -dsimp -implicitDefEqProofs (disch:=omega) only [↓rP,rA,↓reduceIte,reduceEqDiff,reduceAdd,reduceLeDiff,↓tyr,↓lc,z02 hs,S.thr] | refine Cut.go ?_))
 refine (zq0 wc hs S H).mono ?_
 rintro _ H ⟨rfl,rfl⟩
 (repeat (first | simp -dsimp -implicitDefEqProofs (disch:=omega) only [↓rP,rA,↓reduceIte,reduceEqDiff,reduceAdd,reduceLeDiff,↓tyr] | refine Cut.go ?_))
 have hcl:=clsL_len hok sm h2
 have hsit:=wc.sit
 have hth:t<(slL c.Threads).length:=(List.getElem?_eq_some_iff.1 S.bd).1
 have hlr:lenR c (.s t)=(slL b.Slots).length:=by show (z9o c t).length=_;unfold z9o;rw [S.bd]
 have hb32:∀ i,z5u c (.s t) i<18446744073709551616:=fun i=>Nat.lt_of_lt_of_le (h2.lt _ _) (Nat.le_trans (zee hsit) (by omega))
 refine wants_7 (b:=b) (K:=knownK b (secL b fr to)) (σ:=z5u c (.s t)) (row:=rowO c (z5u c) N (.s t)) (rows:=(z8y c (z5u c) N).Slots) (by omega) ?_ ?_ hb32 ?_ ?_ (sec_wx hok S) oS hsid _ ?_
 ·unfold z8y;simp only [zek];rw [List.getElem?_map,List.getElem?_range hth];rfl
 ·intro i hi
  rw [zkp hN,List.getElem?_map,List.getElem?_range (by omega)];rfl
 ·intro i k hk
  rw [ho,hcl]
  exact h2 _ _ _ hk
 ·intro i hi
  rw [hko,zo6 hok hs S]
  show (zn5 b (secL b fr to))[i]?=_
  unfold zn5
  rw [List.getElem?_map,List.getElem?_range hi];rfl
 ·intro hh av k2 g2
  have hw:(zib (z5u c (.s t)) (slL o) (knownK b (secL b fr to)) (secL b fr to)).length≤1000:=Nat.le_trans (List.length_filterMap_le _ _) (by omega)
  (repeat (first | simp -dsimp -implicitDefEqProofs (disch:=omega) only [↓rP,rA,↓reduceIte,reduceEqDiff,reduceAdd,reduceLeDiff,↓tyr] | refine Cut.go ?_))
  exact ⟨fun _=>False,some (zsq c t b (secL b fr to)),rfl,by rw [ho] at g2 hw;exact g2.rz (Nat.le_trans hw (by omega)),fun _ e=>e.elim,kp.go k2⟩
end Go.Proofs.Ytjlogcfggfmacaa
end

section
set_option maxRecDepth 8000
set_option maxHeartbeats 1000000
namespace Go.Proofs.Ytjlogcfggfmacaa
open Go.Abs
noncomputable def zic (c:Cd) (k:Nat):List Cm:=match (slL c.Sections)[k]? with
 | none=>[]
 | some sec=>match getI (slL c.Threads) sec.Thread with
  | none=>[]
  | some b=>zsq c sec.Thread.toNat b (secL b sec.From.toNat sec.To.toNat)
theorem zsr {c:Cd} {s:Nat} {sec:z0b} (hs:(slL c.Sections)[s]?=some sec) {t fr to:Nat} {b:Bd} (S:zok c sec t b fr to):zic c s=zsq c t b (secL b fr to):=by
 unfold zic
 rw [hs]
 simp only
 rw [S.thr,z1s,S.bd,S.frm,S.to_]
 rfl
noncomputable def znj (c:Cd) (cl:List Int) (pl:List (Option (List Cm))):Bool:=
 okC c&&(decide (pl.length=(slL c.Sections).length)&&(decide ((clsL c).length=(slL c.Sites).length)&&(decide (clsL c=cl)&&allK (fun k l=>(zic c k).all (covB (slL l))) pl)))
abbrev plAV (pl:Option (List (Option (List Cm)))):AV:=slAV 1 (fun o=>[slAV 12 z05.cells o]) pl
theorem zp6 (r:Option (List Cm)) (h:z00) (J:AV→Prop):z0r none (.iptr ((fun o=>[slAV 12 z05.cells o]) r)) h J=J (slAV 12 z05.cells r):=by rw [z0w];rfl
theorem check_7 (o u:Option (List Int)) (hl:(slL o).length=(slL u).length) (hb:(slL o).length≤1000) (A2 A3:AV) (h:z00) (Q:z1k→Fr→z00→Prop)
  (h1:slL o=slL u→Q (.exit 0) (frOf [(2,A2),(3,A3)]) h) (h2:slL o≠slL u→Q .ret (frOf [(6,.bool false)]) h) :
  WP Try.prog 71 (.loop z4w) (frOf [(1,slAV 1 encI u),(2,A2),(3,A3),(7,slAV 1 encI o),(36,.int .i64 (slL o).length),(37,.int .i64 0)]) h Q:=by
 refine zdd z08 (by kernel_rfl) (slL o).length (fun j=>frOf [(1,slAV 1 encI u),(2,A2),(3,A3),(7,slAV 1 encI o),(36,.int .i64 (slL o).length),(37,.int .i64 j)]) (fun j hh=>(slL o).take j=(slL u).take j∧hh=h) ⟨by simp,rfl⟩ ?_
 rintro j hh hj ⟨ht,rfl⟩
 apply zbw
 (repeat simp -dsimp -implicitDefEqProofs (disch:=omega) only [↓rP,rA,↓reduceIte,reduceEqDiff,reduceAdd,reduceLeDiff,↓tyr])
 refine z0c (fun hjl=>?_) (fun hjl=>?_)
 ·obtain ⟨x,hx⟩:∃ x,(slL o)[j]?=some x:=⟨_,List.getElem?_eq_getElem (by omega)⟩
  obtain ⟨y,hy⟩:∃ y,(slL u)[j]?=some y:=⟨_,List.getElem?_eq_getElem (by omega)⟩
  (repeat simp -dsimp -implicitDefEqProofs (disch:=omega) only [↓rP,rA,↓reduceIte,reduceEqDiff,reduceAdd,reduceLeDiff,↓tyr,z02 hx,z02 hy,↓z8k])
  refine z16 (fun he=>?_) (fun he=>?_)
  ·(repeat simp -dsimp -implicitDefEqProofs (disch:=omega) only [↓rP,rA,↓reduceIte,reduceEqDiff,reduceAdd,reduceLeDiff,↓tyr])
   exact h2 (fun e=>he (by rw [e,hy] at hx;exact Option.some.inj hx.symm))
  ·have he:x=y:=by omega
   subst he
   (repeat simp -dsimp -implicitDefEqProofs (disch:=omega) only [↓rP,rA,↓reduceIte,reduceEqDiff,reduceAdd,reduceLeDiff,↓tyr,wkP j (by omega)])
   exact forN (by omega) ⟨zi8 ht hx hy,rfl⟩
 ·(repeat simp -dsimp -implicitDefEqProofs (disch:=omega) only [↓rP,rA,↓reduceIte,reduceEqDiff,reduceAdd,reduceLeDiff,↓tyr])
  exact h1 (zkq hl ht (by omega))
theorem check_16 (o l:Option (List Cm)) (ho:(slL o).length≤1000) (hl:(slL l).length≤1000) (hp:∀ c∈slL l,zjr c.Path∧zjr c.Index) (A3 A50 A51 A52:AV) (h:z00) (Q:z1k→Fr→z00→Prop)
  (h1:∀ hh,Keeps h hh (fun _=>False)→(slL o).all (covB (slL l))=true→Q (.exit 4) (frOf [(3,A3),(50,A50),(51,A51),(52,A52)]) hh) (h2:∀ hh,Keeps h hh (fun _=>False)→(slL o).all (covB (slL l))=false→Q .ret (frOf [(6,.bool false)]) hh) :
  WP Try.prog 71 (.loop z4j) (frOf [(3,A3),(10,slAV 12 z05.cells l),(50,A50),(51,A51),(52,A52),(59,slAV 12 z05.cells o),(60,.int .i64 (slL o).length),(61,.int .i64 0)]) h Q:=by
 obtain ⟨P,hP⟩:∃ P:Nat→Cm→Bool,P=fun _ w=>covB (slL l) w:=⟨_,rfl⟩
 have hs:(slL o).all (covB (slL l))=allK P (slL o):=by
  rw [hP,Bool.eq_iff_iff,z1p,List.all_eq_true]
  exact ⟨fun q k x hx=>q x (List.mem_of_getElem? hx),fun q x hx=>by obtain ⟨k,hk⟩:=List.getElem?_of_mem hx;exact q k x hk⟩
 refine zdd z08 (by kernel_rfl) (slL o).length (fun j=>frOf [(3,A3),(10,slAV 12 z05.cells l),(50,A50),(51,A51),(52,A52),(59,slAV 12 z05.cells o),(60,.int .i64 (slL o).length),(61,.int .i64 j)]) (fun j hh=>upTo P (slL o) j∧Keeps h hh (fun _=>False)) ⟨z3h _ _,.refl _ _⟩ ?_
 rintro j hh hj ⟨ht,kp⟩
 apply zb0
 (repeat simp -dsimp -implicitDefEqProofs (disch:=omega) only [↓rP,rA,↓reduceIte,reduceEqDiff,reduceAdd,reduceLeDiff,↓tyr])
 refine z0c (fun hjl=>?_) (fun hjl=>?_)
 ·obtain ⟨x,hx⟩:∃ x,(slL o)[j]?=some x:=⟨_,List.getElem?_eq_getElem (by omega)⟩
  (repeat simp -dsimp -implicitDefEqProofs (disch:=omega) only [↓rP,rA,↓reduceIte,reduceEqDiff,reduceAdd,reduceLeDiff,↓tyr,z02 hx])
  refine z01.go (zsv l x (by omega) hp _) ?_
  cases hc:covB (slL l) x with
  | true=>
   (repeat simp -dsimp -implicitDefEqProofs (disch:=omega) only [↓rP,rA,↓reduceIte,reduceEqDiff,reduceAdd,reduceLeDiff,↓tyr,wkP j (by omega)])
   exact forN (by omega) ⟨z2x ht hx (by rw [hP];exact hc),kp.go (Keeps.one _ _)⟩
  | false=>
   (repeat simp -dsimp -implicitDefEqProofs (disch:=omega) only [↓rP,rA,↓reduceIte,reduceEqDiff,reduceAdd,reduceLeDiff,↓tyr])
   exact h2 _ (kp.go (Keeps.one _ _)) (by rw [hs,Bool.eq_false_iff];intro q;rw [z1p] at q;have:=q j x hx;simp [hP,hc] at this)
 ·(repeat simp -dsimp -implicitDefEqProofs (disch:=omega) only [↓rP,rA,↓reduceIte,reduceEqDiff,reduceAdd,reduceLeDiff,↓tyr])
  exact h1 hh kp (by rw [hs];have e:j=(slL o).length:=(by omega);rw [e] at ht;exact za6 ht)
theorem wants_few {c:Cd} (hok:okC c=true) (k:Nat):(zic c k).length≤256:=by
 cases hs:(slL c.Sections)[k]? with
 | none=>unfold zic;rw [hs];simp
 | some sec=>
  obtain ⟨t,b,fr,to,S⟩:=sec_of hok hs
  have:=(zid hok).slo t b S.bd
  rw [zsr hs S]
  exact Nat.le_trans (List.length_filterMap_le _ _) (Nat.le_trans (zpp b fr to) this.2)
theorem wantsS_does {c:Cd} (hc:c.ok) (sm:Small c) (hok:okC c=true) {k:Nat} (hk:k<(slL c.Sections).length) (h:z00):z01 Try.prog 37 [.agg c.cells,.int .i64 (k:Nat)] h (fun v h2=>(∃ o,v=slAV 12 z05.cells o∧slL o=zic c k)∧h2=h):=by
 obtain ⟨sec,hs⟩:∃ sec,(slL c.Sections)[k]?=some sec:=⟨_,List.getElem?_eq_getElem hk⟩
 obtain ⟨t,b,fr,to,S⟩:=sec_of hok hs
 rw [zsr hs S]
 exact Wants_does hc sm hok hs S h
structure PlS (pl:List (Option (List Cm))):Prop where
 few:pl.length≤1000
 row:∀ l∈pl,(slL l).length≤1000
 path:∀ l∈pl,∀ c∈slL l,zjr c.Path∧zjr c.Index
theorem check_13 {c:Cd} (hc:c.ok) (sm:Small c) (hok:okC c=true) (pl:Option (List (Option (List Cm)))) (ps:PlS (slL pl)) (hl:(slL pl).length=(slL c.Sections).length) (h:z00) (Q:z1k→Fr→z00→Prop)
  (h1:∀ hh,Keeps h hh (fun _=>False)→allK (fun k l=>(zic c k).all (covB (slL l))) (slL pl)=true→Q (.exit 2) (frOf []) hh) (h2:∀ hh,Keeps h hh (fun _=>False)→allK (fun k l=>(zic c k).all (covB (slL l))) (slL pl)=false→Q .ret (frOf [(6,.bool false)]) hh) :
  WP Try.prog 71 (.loop z4i) (frOf [(3,.iptr c.cells),(50,plAV pl),(51,.int .i64 (slL pl).length),(52,.int .i64 0)]) h Q:=by
 have hf:=ps.few
 have lc:∀ (H:z00) (K:AV→Prop),z0r (some 5) (.iptr c.cells) H K=K (.agg c.cells):=fun H K=>by rw [z0w];exact z0l.call c K
 refine zdd z08 (by kernel_rfl) (slL pl).length (fun j=>frOf [(3,.iptr c.cells),(50,plAV pl),(51,.int .i64 (slL pl).length),(52,.int .i64 j)]) (fun j hh=>upTo (fun k l=>(zic c k).all (covB (slL l))) (slL pl) j∧Keeps h hh (fun _=>False)) ⟨z3h _ _,.refl _ _⟩ ?_
 rintro j hh hj ⟨ht,kp⟩
 apply zaz
 (repeat simp -dsimp -implicitDefEqProofs (disch:=omega) only [↓rP,rA,↓reduceIte,reduceEqDiff,reduceAdd,reduceLeDiff,↓tyr])
 refine z0c (fun hjl=>?_) (fun hjl=>?_)
 ·obtain ⟨l,hx⟩:∃ x,(slL pl)[j]?=some x:=⟨_,List.getElem?_eq_getElem (by omega)⟩
  have hm:=List.mem_of_getElem? hx
  (repeat simp -dsimp -implicitDefEqProofs (disch:=omega) only [↓rP,rA,↓reduceIte,reduceEqDiff,reduceAdd,reduceLeDiff,↓tyr,z02 hx,↓zp6,↓lc])
  refine (wantsS_does hc sm hok (by omega) hh).mono ?_
  rintro _ hh ⟨⟨o,rfl,ho⟩,rfl⟩
  (repeat simp -dsimp -implicitDefEqProofs (disch:=omega) only [↓rP,rA,↓reduceIte,reduceEqDiff,reduceAdd,reduceLeDiff,↓tyr])
  refine check_16 o l (by rw [ho];have:=wants_few hok j;omega) (ps.row l hm) (ps.path l hm) _ _ _ _ hh _ (fun h3 k3 e=>?_) (fun h3 k3 e=>?_)
  ·(repeat simp -dsimp -implicitDefEqProofs (disch:=omega) only [↓rP,rA,↓reduceIte,reduceEqDiff,reduceAdd,reduceLeDiff,↓tyr,wkP j (by omega)])
   exact forN (by omega) ⟨z2x ht hx (by rw [←ho];exact e),kp.go k3⟩
  ·(repeat simp -dsimp -implicitDefEqProofs (disch:=omega) only [↓rP,rA,↓reduceIte,reduceEqDiff,reduceAdd,reduceLeDiff,↓tyr])
   exact h2 _ (kp.go k3) (by rw [Bool.eq_false_iff];intro q;rw [z1p] at q;have:=q j l hx;rw [←ho,e] at this;cases this)
 ·(repeat simp -dsimp -implicitDefEqProofs (disch:=omega) only [↓rP,rA,↓reduceIte,reduceEqDiff,reduceAdd,reduceLeDiff,↓tyr])
  have e:j=(slL pl).length:=by omega
  rw [e] at ht
  exact h1 hh kp (za6 ht)
theorem Check_does {c:Cd} (hc:c.ok) (sm:Small c) (cl:Option (List Int)) (pl:Option (List (Option (List Cm)))) (ps:PlS (slL pl)) (h:z00) :
  z01 Try.prog 27 [.agg c.cells,slAV 1 encI cl,plAV pl] h (fun v h2=>v=.bool (znj c (slL cl) (slL pl))∧h2=h):=by
 refine z01.forget (by simp [z1u]) ?_
 have lc:∀ (H:z00) (K:AV→Prop),z0r (some 5) (.iptr c.cells) H K=K (.agg c.cells):=fun H K=>by rw [z0w];exact z0l.call c K
 unfold znj
 apply zeb
 (repeat simp -dsimp -implicitDefEqProofs (disch:=omega) only [↓rP,rA,↓reduceIte,reduceEqDiff,reduceAdd,reduceLeDiff,↓tyr,↓lc])
 refine z01.go (zj4 c hc sm _) ?_
 cases hok:okC c with
 | false=>
  (repeat simp -dsimp -implicitDefEqProofs (disch:=omega) only [↓rP,rA,↓reduceIte,reduceEqDiff,reduceAdd,reduceLeDiff,↓tyr])
  (first | (refine And.intro (by simp) ?_;(repeat (first | assumption | with_reducible exact Keeps.refl _ _ | with_reducible refine Keeps.go ?_ (Keeps.one _ _) | with_reducible refine Keeps.go ?_ (by assumption)))) | (repeat (first | assumption | with_reducible exact Keeps.refl _ _ | with_reducible refine Keeps.go ?_ (Keeps.one _ _) | with_reducible refine Keeps.go ?_ (by assumption))))
 | true=>
  by_cases hl:(slL pl).length=(slL c.Sections).length
  ·have el:(((slL pl).length:Int) != ((slL c.Sections).length:Int))=false:=by simp;omega
   (repeat simp -dsimp -implicitDefEqProofs (disch:=omega) only [↓rP,rA,↓reduceIte,reduceEqDiff,reduceAdd,reduceLeDiff,↓tyr,el,↓lc])
   refine (RSolve_v c hc sm h).mono ?_
   rintro _ h ⟨⟨st,rfl,hv⟩,rfl⟩
   rcases hv with ⟨hf,_⟩ | ⟨_,N,rfl,hN,h2,hR⟩
   ·rw [hok] at hf;cases hf
   (repeat simp -dsimp -implicitDefEqProofs (disch:=omega) only [↓rP,rA,↓reduceIte,reduceEqDiff,reduceAdd,reduceLeDiff,↓tyr,↓lc])
   refine (RSplit_v hok sm hN h2 h).mono ?_
   rintro _ h ⟨⟨o,rfl,ho⟩,rfl⟩
   have hcl:=clsL_len hok sm h2
   have hsit:=(zid hok).sit
   by_cases hl2:(slL o).length=(slL cl).length
   ·have el2:(((slL o).length:Int) != ((slL cl).length:Int))=false:=by simp;omega
    (repeat simp -dsimp -implicitDefEqProofs (disch:=omega) only [↓rP,rA,↓reduceIte,reduceEqDiff,reduceAdd,reduceLeDiff,↓tyr,el2])
    refine check_7 o cl hl2 (by rw [ho];omega) _ _ h _ (fun e=>?_) (fun e=>?_)
    ·(repeat simp -dsimp -implicitDefEqProofs (disch:=omega) only [↓rP,rA,↓reduceIte,reduceEqDiff,reduceAdd,reduceLeDiff,↓tyr])
     refine check_13 hc sm hok pl ps hl h _ (fun h3 k3 e3=>?_) (fun h3 k3 e3=>?_)
     all_goals
      (repeat simp -dsimp -implicitDefEqProofs (disch:=omega) only [↓rP,rA,↓reduceIte,reduceEqDiff,reduceAdd,reduceLeDiff,↓tyr])
      exact ⟨by rw [decide_eq_true hcl,e3,←ho,e];simp [hl],k3⟩
    ·(repeat simp -dsimp -implicitDefEqProofs (disch:=omega) only [↓rP,rA,↓reduceIte,reduceEqDiff,reduceAdd,reduceLeDiff,↓tyr])
     exact ⟨by rw [←ho];simp [e],.refl _ _⟩
   ·have el2:(((slL o).length:Int) != ((slL cl).length:Int))=true:=by simp;omega
    have ne:slL o≠slL cl:=fun e=>hl2 (by rw [e])
    (repeat simp -dsimp -implicitDefEqProofs (disch:=omega) only [↓rP,rA,↓reduceIte,reduceEqDiff,reduceAdd,reduceLeDiff,↓tyr,el2])
    exact ⟨by rw [←ho];simp [ne],.refl _ _⟩
  ·have el:(((slL pl).length:Int) != ((slL c.Sections).length:Int))=true:=by simp;omega
   (repeat simp -dsimp -implicitDefEqProofs (disch:=omega) only [↓rP,rA,↓reduceIte,reduceEqDiff,reduceAdd,reduceLeDiff,↓tyr,el])
   (first | (refine And.intro (by simp [hl]) ?_;(repeat (first | assumption | with_reducible exact Keeps.refl _ _ | with_reducible refine Keeps.go ?_ (Keeps.one _ _) | with_reducible refine Keeps.go ?_ (by assumption)))) | (repeat (first | assumption | with_reducible exact Keeps.refl _ _ | with_reducible refine Keeps.go ?_ (Keeps.one _ _) | with_reducible refine Keeps.go ?_ (by assumption))))
end Go.Proofs.Ytjlogcfggfmacaa
end

section
set_option maxRecDepth 8000
set_option maxHeartbeats 1000000
namespace Go.Proofs.Ytjlogcfggfmacaa
open Go.Abs
abbrev Im:=z0d
structure ImS (x:Im):Prop where
 small:Small x.Code
 cls:(slL x.Classes).length≤100
 pls:(slL x.Plans).length≤100
 row:∀ l∈slL x.Plans,(slL l).length≤300∧∀ c∈slL l,(slL c.Path.Fields).length≤20∧(slL c.Index.Fields).length≤20
theorem ImS.ps {x:Im} (s:ImS x):PlS (slL x.Plans):=⟨by have:=s.pls;omega,fun l hl=>by have:=(s.row l hl).1;omega,fun l hl c hc=>by have:=(s.row l hl).2 c hc;exact ⟨by unfold zjr;omega,by unfold zjr;omega⟩⟩
abbrev znk (l:Option (List Cm)) (k:Nat) (j:Nat):Prop:=∀ i c,i<j→(slL l)[i]?=some c→(slL c.Path.Fields).length≤k∧(slL c.Index.Fields).length≤k
theorem znk.all {l:Option (List Cm)} {k j:Nat} (h:znk l k j) (e:j=(slL l).length):∀ c∈slL l,(slL c.Path.Fields).length≤k∧(slL c.Index.Fields).length≤k:=fun c hc=>by
 obtain ⟨i,hi⟩:=List.getElem?_of_mem hc
 exact h i c (by rw [e];exact (List.getElem?_eq_some_iff.1 hi).1) hi
theorem znk.snoc {l:Option (List Cm)} {k j:Nat} {x:Cm} (h:znk l k j) (hx:(slL l)[j]?=some x) (h1:(slL x.Path.Fields).length≤k) (h2:(slL x.Index.Fields).length≤k):znk l k (j+1):=fun i c hi hc=>by
 by_cases e:i=j
 ·subst e;rw [hx] at hc;cases hc;exact ⟨h1,h2⟩
 ·exact h i c (by omega) hc
theorem great_9 (l:Option (List Cm)) (hl:(slL l).length≤300) (A B C:AV) (h:z00) (Q:z1k→Fr→z00→Prop)
  (h1:∀ hh,Keeps h hh (fun _=>False)→(∀ c∈slL l,(slL c.Path.Fields).length≤20∧(slL c.Index.Fields).length≤20)→Q (.exit 2) (frOf [(23,A),(24,B),(25,C)]) hh) (h2:∀ hh,Keeps h hh (fun _=>False)→Q .ret (frOf [(2,.bool true)]) hh) :
  WP Try.prog 52 (.loop z4z) (frOf [(23,A),(24,B),(25,C),(32,slAV 12 z05.cells l),(33,.int .i64 (slL l).length),(34,.int .i64 0)]) h Q:=by
 refine zdd z08 (by kernel_rfl) (slL l).length (fun j=>frOf [(23,A),(24,B),(25,C),(32,slAV 12 z05.cells l),(33,.int .i64 (slL l).length),(34,.int .i64 j)]) (fun j hh=>znk l 20 j∧Keeps h hh (fun _=>False)) ⟨fun i c hi=>by omega,.refl _ _⟩ ?_
 rintro j hh hj ⟨ht,kp⟩
 apply zbz
 (repeat simp -dsimp -implicitDefEqProofs (disch:=omega) only [↓rP,rA,↓reduceIte,reduceEqDiff,reduceAdd,reduceLeDiff,↓tyr])
 refine z0c (fun hjl=>?_) (fun hjl=>?_)
 ·obtain ⟨x,hx⟩:∃ x,(slL l)[j]?=some x:=⟨_,List.getElem?_eq_getElem (by omega)⟩
  by_cases a1:(slL x.Path.Fields).length≤20
  ·by_cases a2:(slL x.Index.Fields).length≤20
   ·(repeat simp -dsimp -implicitDefEqProofs (disch:=omega) only [↓rP,rA,↓reduceIte,reduceEqDiff,reduceAdd,reduceLeDiff,↓tyr,z02 hx,wkP j (by omega)])
    exact forN (by omega) ⟨ht.snoc hx a1 a2,kp.go (Keeps.one _ _)⟩
   ·(repeat simp -dsimp -implicitDefEqProofs (disch:=omega) only [↓rP,rA,↓reduceIte,reduceEqDiff,reduceAdd,reduceLeDiff,↓tyr,z02 hx])
    exact h2 _ (kp.go (Keeps.one _ _))
  ·(repeat simp -dsimp -implicitDefEqProofs (disch:=omega) only [↓rP,rA,↓reduceIte,reduceEqDiff,reduceAdd,reduceLeDiff,↓tyr,z02 hx])
   exact h2 _ (kp.go (Keeps.one _ _))
 ·(repeat simp -dsimp -implicitDefEqProofs (disch:=omega) only [↓rP,rA,↓reduceIte,reduceEqDiff,reduceAdd,reduceLeDiff,↓tyr])
  exact h1 hh kp (ht.all (by omega))
theorem great_4 (pl:Option (List (Option (List Cm)))) (hl:(slL pl).length≤100) (h:z00) (Q:z1k→Fr→z00→Prop)
  (h1:∀ hh,Keeps h hh (fun _=>False)→(∀ l∈slL pl,(slL l).length≤300∧∀ c∈slL l,(slL c.Path.Fields).length≤20∧(slL c.Index.Fields).length≤20)→Q (.exit 0) (frOf []) hh) (h2:∀ hh,Keeps h hh (fun _=>False)→Q .ret (frOf [(2,.bool true)]) hh) :
  WP Try.prog 52 (.loop z4y) (frOf [(23,plAV pl),(24,.int .i64 (slL pl).length),(25,.int .i64 0)]) h Q:=by
 refine zdd z08 (by kernel_rfl) (slL pl).length (fun j=>frOf [(23,plAV pl),(24,.int .i64 (slL pl).length),(25,.int .i64 j)]) (fun j hh=>(∀ (i:Nat) l,i<j→(slL pl)[i]?=some l→(slL l).length≤300∧∀ c∈slL l,(slL c.Path.Fields).length≤20∧(slL c.Index.Fields).length≤20)∧Keeps h hh (fun _=>False)) ⟨fun i c hi=>by omega,.refl _ _⟩ ?_
 rintro j hh hj ⟨ht,kp⟩
 apply zby
 (repeat simp -dsimp -implicitDefEqProofs (disch:=omega) only [↓rP,rA,↓reduceIte,reduceEqDiff,reduceAdd,reduceLeDiff,↓tyr])
 refine z0c (fun hjl=>?_) (fun hjl=>?_)
 ·obtain ⟨l,hx⟩:∃ x,(slL pl)[j]?=some x:=⟨_,List.getElem?_eq_getElem (by omega)⟩
  by_cases a1:(slL l).length≤300
  ·(repeat simp -dsimp -implicitDefEqProofs (disch:=omega) only [↓rP,rA,↓reduceIte,reduceEqDiff,reduceAdd,reduceLeDiff,↓tyr,z02 hx,↓zp6])
   refine great_9 l a1 _ _ _ hh _ (fun h3 k3 e3=>?_) (fun h3 k3=>?_)
   ·(repeat simp -dsimp -implicitDefEqProofs (disch:=omega) only [↓rP,rA,↓reduceIte,reduceEqDiff,reduceAdd,reduceLeDiff,↓tyr,wkP j (by omega)])
    refine forN (by omega) ⟨fun i c hi hc=>?_,kp.go k3⟩
    by_cases e:i=j
    ·subst e;rw [hx] at hc;cases hc;exact ⟨a1,e3⟩
    ·exact ht i c (by omega) hc
   ·(repeat simp -dsimp -implicitDefEqProofs (disch:=omega) only [↓rP,rA,↓reduceIte,reduceEqDiff,reduceAdd,reduceLeDiff,↓tyr])
    exact h2 _ (kp.go k3)
  ·(repeat simp -dsimp -implicitDefEqProofs (disch:=omega) only [↓rP,rA,↓reduceIte,reduceEqDiff,reduceAdd,reduceLeDiff,↓tyr,z02 hx,↓zp6])
   exact h2 _ kp
 ·(repeat simp -dsimp -implicitDefEqProofs (disch:=omega) only [↓rP,rA,↓reduceIte,reduceEqDiff,reduceAdd,reduceLeDiff,↓tyr])
  refine h1 hh kp fun l hl=>?_
  obtain ⟨i,hi⟩:=List.getElem?_of_mem hl
  exact ht i l (by have:=(List.getElem?_eq_some_iff.1 hi).1;omega) hi
theorem zsy (x:Im) (hx:x.ok) (h:z00):z01 Try.prog 18 [.agg x.cells] h (fun v h2=>(∃ b:Bool,v=.bool b∧(b=false→ImS x))∧h2=h):=by
 refine z01.result (enc:=fun b:Bool=>.bool b) (Q:=fun b=>b=false→ImS x) (fun b _=>trivial) ?_
 have lc:∀ (H:z00) (K:AV→Prop),z0r (some 5) (.iptr x.cells) H K=K (.agg x.Code.cells):=fun H K=>by rw [z0w];simp [z03,z0d.cells,z0l.cells]
 have ans:∀ (b:Bool) (hh:z00),Keeps h hh (fun _=>False)→(b=false→ImS x)→∃ (D:Nat→Prop) (a:Bool),(a=false→ImS x)∧RzV hh D (.bool b) (.bool a)∧(∀ i,D i→h.next≤i∧hh.objs i≠none)∧Keeps h hh (fun _=>False):=fun b hh k q=>⟨fun _=>False,b,q,RzV.same _,fun _ e=>e.elim,k⟩
 apply zed
 (repeat simp -dsimp -implicitDefEqProofs (disch:=omega) only [↓rP,rA,↓reduceIte,reduceEqDiff,reduceAdd,reduceLeDiff,↓tyr,↓lc])
 refine z01.go (zn6 x.Code hx.1 _) ?_
 cases hg:znr x.Code with
 | true=>
  (repeat simp -dsimp -implicitDefEqProofs (disch:=omega) only [↓rP,rA,↓reduceIte,reduceEqDiff,reduceAdd,reduceLeDiff,↓tyr])
  exact ans _ _ (.refl _ _) (fun e=>by cases e)
 | false=>
  by_cases a1:(slL x.Classes).length≤100
  ·by_cases a2:(slL x.Plans).length≤100
   ·(repeat simp -dsimp -implicitDefEqProofs (disch:=omega) only [↓rP,rA,↓reduceIte,reduceEqDiff,reduceAdd,reduceLeDiff,↓tyr])
    refine great_4 x.Plans a2 h _ (fun h3 k3 e3=>?_) (fun h3 k3=>?_)
    ·(repeat simp -dsimp -implicitDefEqProofs (disch:=omega) only [↓rP,rA,↓reduceIte,reduceEqDiff,reduceAdd,reduceLeDiff,↓tyr])
     exact ans _ _ k3 (fun _=>⟨small_of hg,a1,a2,e3⟩)
    ·(repeat simp -dsimp -implicitDefEqProofs (disch:=omega) only [↓rP,rA,↓reduceIte,reduceEqDiff,reduceAdd,reduceLeDiff,↓tyr])
     exact ans _ _ k3 (fun e=>by cases e)
   ·(repeat simp -dsimp -implicitDefEqProofs (disch:=omega) only [↓rP,rA,↓reduceIte,reduceEqDiff,reduceAdd,reduceLeDiff,↓tyr])
    exact ans _ _ (.refl _ _) (fun e=>by cases e)
  ·(repeat simp -dsimp -implicitDefEqProofs (disch:=omega) only [↓rP,rA,↓reduceIte,reduceEqDiff,reduceAdd,reduceLeDiff,↓tyr])
   exact ans _ _ (.refl _ _) (fun e=>by cases e)
theorem good_7 (l:Option (List Cm)) (hl:(slL l).length≤300) (A B C:AV) (h:z00) (Q:z1k→Fr→z00→Prop)
  (h1:∀ hh,Keeps h hh (fun _=>False)→Q (.exit 2) (frOf [(26,A),(27,B),(28,C)]) hh) (h2:∀ hh,Keeps h hh (fun _=>False)→Q .ret (frOf [(2,.bool false)]) hh) :
  WP Try.prog 82 (.loop z5i) (frOf [(26,A),(27,B),(28,C),(32,slAV 12 z05.cells l),(33,.int .i64 (slL l).length),(34,.int .i64 0)]) h Q:=by
 refine zdd z08 (by kernel_rfl) (slL l).length (fun j=>frOf [(26,A),(27,B),(28,C),(32,slAV 12 z05.cells l),(33,.int .i64 (slL l).length),(34,.int .i64 j)]) (fun j hh=>Keeps h hh (fun _=>False)) (.refl _ _) ?_
 intro j hh hj kp
 apply zcj
 (repeat simp -dsimp -implicitDefEqProofs (disch:=omega) only [↓rP,rA,↓reduceIte,reduceEqDiff,reduceAdd,reduceLeDiff,↓tyr])
 refine z0c (fun hjl=>?_) (fun hjl=>?_)
 ·obtain ⟨x,hx⟩:∃ x,(slL l)[j]?=some x:=⟨_,List.getElem?_eq_getElem (by omega)⟩
  have k2:=kp.go (Keeps.one hh (.row 80 x.cells))
  have b1:=h2 _ k2
  have b2:=fun (q:j<(slL l).length)=>forN (F:=fun j:Nat=>frOf [(26,A),(27,B),(28,C),(32,slAV 12 z05.cells l),(33,.int .i64 (slL l).length),(34,.int .i64 j)]) (J:=fun j hh=>Keeps h hh (fun _=>False)) (Q:=Q) q k2
  have w:=wkP j (by omega)
  (repeat simp -dsimp -implicitDefEqProofs (disch:=omega) only [↓rP,rA,↓reduceIte,reduceEqDiff,reduceAdd,reduceLeDiff,↓tyr,z02 hx])
  repeat' (first | (simp -dsimp -implicitDefEqProofs (disch:=omega) only [↓rP,rA,↓reduceIte,reduceEqDiff,reduceAdd,reduceLeDiff,↓tyr,w]) | refine Cut.go ?_ | refine z0t (fun _=>?_) (fun _=>?_) | refine z16 (fun _=>?_) (fun _=>?_) | refine z0c (fun _=>?_) (fun _=>?_) | refine z1d (fun _=>?_) (fun _=>?_) | refine Split.intro (fun _=>?_) (fun _=>?_))
  all_goals first | exact b1 | exact b2 (by omega)
 ·(repeat simp -dsimp -implicitDefEqProofs (disch:=omega) only [↓rP,rA,↓reduceIte,reduceEqDiff,reduceAdd,reduceLeDiff,↓tyr])
  exact h1 hh kp
theorem good_4 (pl:Option (List (Option (List Cm)))) (hl:(slL pl).length≤100) (hr:∀ l∈slL pl,(slL l).length≤300) (h:z00) (Q:z1k→Fr→z00→Prop)
  (h1:∀ hh,Keeps h hh (fun _=>False)→Q (.exit 0) (frOf []) hh) (h2:∀ hh,Keeps h hh (fun _=>False)→Q .ret (frOf [(2,.bool false)]) hh) :
  WP Try.prog 82 (.loop z5h) (frOf [(26,plAV pl),(27,.int .i64 (slL pl).length),(28,.int .i64 0)]) h Q:=by
 refine zdd z08 (by kernel_rfl) (slL pl).length (fun j=>frOf [(26,plAV pl),(27,.int .i64 (slL pl).length),(28,.int .i64 j)]) (fun j hh=>Keeps h hh (fun _=>False)) (.refl _ _) ?_
 intro j hh hj kp
 apply zci
 (repeat simp -dsimp -implicitDefEqProofs (disch:=omega) only [↓rP,rA,↓reduceIte,reduceEqDiff,reduceAdd,reduceLeDiff,↓tyr])
 refine z0c (fun hjl=>?_) (fun hjl=>?_)
 ·obtain ⟨l,hx⟩:∃ x,(slL pl)[j]?=some x:=⟨_,List.getElem?_eq_getElem (by omega)⟩
  (repeat simp -dsimp -implicitDefEqProofs (disch:=omega) only [↓rP,rA,↓reduceIte,reduceEqDiff,reduceAdd,reduceLeDiff,↓tyr,z02 hx,↓zp6])
  refine good_7 l (hr l (List.mem_of_getElem? hx)) _ _ _ hh _ (fun h3 k3=>?_) (fun h3 k3=>?_)
  ·(repeat simp -dsimp -implicitDefEqProofs (disch:=omega) only [↓rP,rA,↓reduceIte,reduceEqDiff,reduceAdd,reduceLeDiff,↓tyr,wkP j (by omega)])
   exact forN (by omega) (kp.go k3)
  ·(repeat simp -dsimp -implicitDefEqProofs (disch:=omega) only [↓rP,rA,↓reduceIte,reduceEqDiff,reduceAdd,reduceLeDiff,↓tyr])
   exact h2 _ (kp.go k3)
 ·(repeat simp -dsimp -implicitDefEqProofs (disch:=omega) only [↓rP,rA,↓reduceIte,reduceEqDiff,reduceAdd,reduceLeDiff,↓tyr])
  exact h1 hh kp
theorem RGood_does (x:Im) (hx:x.ok) (s:ImS x) (h:z00):z01 Try.prog 19 [.agg x.cells] h (fun v h2=>(∃ b:Bool,v=.bool b∧(b=true→znj x.Code (slL x.Classes) (slL x.Plans)=true))∧h2=h):=by
 have ck:=fun h=>Check_does hx.1 s.small x.Classes x.Plans s.ps h
 generalize znj x.Code (slL x.Classes) (slL x.Plans)=cb at ck ⊢
 refine z01.result (enc:=fun b:Bool=>.bool b) (Q:=fun b=>b=true→cb=true) (fun b _=>trivial) ?_
 have lc:∀ (H:z00) (K:AV→Prop),z0r (some 5) (.iptr x.cells) H K=K (.agg x.Code.cells):=fun H K=>by rw [z0w];simp [z03,z0d.cells,z0l.cells]
 have ans:∀ (b:Bool) (hh:z00),Keeps h hh (fun _=>False)→(b=true→cb=true)→∃ (D:Nat→Prop) (a:Bool),(a=true→cb=true)∧RzV hh D (.bool b) (.bool a)∧(∀ i,D i→h.next≤i∧hh.objs i≠none)∧Keeps h hh (fun _=>False):=fun b hh k q=>⟨fun _=>False,b,q,RzV.same _,fun _ e=>e.elim,k⟩
 apply zfm
 by_cases t:0≤x.Tries∧x.Tries≤8
 ·(repeat simp -dsimp -implicitDefEqProofs (disch:=omega) only [↓rP,rA,↓reduceIte,reduceEqDiff,reduceAdd,reduceLeDiff,↓tyr,↓lc])
  refine z01.go (ck _) ?_
  cases cb with
  | false=>
   (repeat simp -dsimp -implicitDefEqProofs (disch:=omega) only [↓rP,rA,↓reduceIte,reduceEqDiff,reduceAdd,reduceLeDiff,↓tyr])
   exact ans false _ (.refl _ _) (fun e=>by cases e)
  | true=>
   (repeat simp -dsimp -implicitDefEqProofs (disch:=omega) only [↓rP,rA,↓reduceIte,reduceEqDiff,reduceAdd,reduceLeDiff,↓tyr])
   refine good_4 x.Plans s.pls (fun l hl=>(s.row l hl).1) h _ (fun h3 k3=>?_) (fun h3 k3=>?_)
   ·(repeat simp -dsimp -implicitDefEqProofs (disch:=omega) only [↓rP,rA,↓reduceIte,reduceEqDiff,reduceAdd,reduceLeDiff,↓tyr])
    simp only [eq_self] at ans
    exact ans _ _ k3 (fun _=>trivial)
   ·(repeat simp -dsimp -implicitDefEqProofs (disch:=omega) only [↓rP,rA,↓reduceIte,reduceEqDiff,reduceAdd,reduceLeDiff,↓tyr])
    simp only [eq_self] at ans
    exact ans _ _ k3 (fun _=>trivial)
 ·have a1:=ans false h (.refl _ _) (fun e=>by cases e)
  repeat' (first | (simp -dsimp -implicitDefEqProofs (disch:=omega) only [↓rP,rA,↓reduceIte,reduceEqDiff,reduceAdd,reduceLeDiff,↓tyr,↓lc]) | refine Cut.go ?_ | refine z0t (fun _=>?_) (fun _=>?_) | refine z16 (fun _=>?_) (fun _=>?_) | refine z0c (fun _=>?_) (fun _=>?_) | refine z1d (fun _=>?_) (fun _=>?_) | refine Split.intro (fun _=>?_) (fun _=>?_))
  all_goals first | exact a1 | omega
structure ImG (x:Im):Prop where
 ok:x.ok
 s:ImS x
 code:okC x.Code=true
 cls:(slL x.Classes).length=(slL x.Code.Sites).length
theorem ImG.of {x:Im} (hx:x.ok) (s:ImS x) (h:znj x.Code (slL x.Classes) (slL x.Plans)=true):ImG x:=by
 unfold znj at h
 simp only [Bool.and_eq_true,decide_eq_true_eq] at h
 exact ⟨hx,s,h.1,by rw [←h.2.2.2.1];exact h.2.2.1⟩
theorem zr7 (x:Im) (hx:x.ok) (inp:Option (List Int)) (h:z00):z01 Try.prog 6 [.agg x.cells,slAV 1 encI inp] h (fun v h2=>(∃ b:Bool,v=.bool b∧(b=true→ImG x∧(slL inp).length≤100))∧h2=h):=by
 refine z01.result (enc:=fun b:Bool=>.bool b) (Q:=fun b=>b=true→ImG x∧(slL inp).length≤100) (fun b _=>trivial) ?_
 have lc:∀ (H:z00) (K:AV→Prop),z0r (some 8) (.iptr x.cells) H K=K (.agg x.cells):=fun H K=>by rw [z0w];exact z0d.call x K
 have ans:∀ (b:Bool),(b=true→ImG x∧(slL inp).length≤100)→∃ (D:Nat→Prop) (a:Bool),(a=true→ImG x∧(slL inp).length≤100)∧RzV h D (.bool b) (.bool a)∧(∀ i,D i→h.next≤i∧h.objs i≠none)∧Keeps h h (fun _=>False):=fun b q=>⟨fun _=>False,b,q,RzV.same _,fun _ e=>e.elim,.refl _ _⟩
 apply zfh
 (repeat simp -dsimp -implicitDefEqProofs (disch:=omega) only [↓rP,rA,↓reduceIte,reduceEqDiff,reduceAdd,reduceLeDiff,↓tyr,↓lc])
 refine (zsy x hx h).mono ?_
 rintro _ h ⟨⟨g,rfl,hg⟩,rfl⟩
 cases g with
 | true=>
  (repeat simp -dsimp -implicitDefEqProofs (disch:=omega) only [↓rP,rA,↓reduceIte,reduceEqDiff,reduceAdd,reduceLeDiff,↓tyr])
  exact ans _ (fun e=>by cases e)
 | false=>
  by_cases hi:(slL inp).length≤100
  ·(repeat simp -dsimp -implicitDefEqProofs (disch:=omega) only [↓rP,rA,↓reduceIte,reduceEqDiff,reduceAdd,reduceLeDiff,↓tyr,↓lc])
   refine (RGood_does x hx (hg rfl) h).mono ?_
   rintro _ h ⟨⟨b,rfl,hb⟩,rfl⟩
   (repeat simp -dsimp -implicitDefEqProofs (disch:=omega) only [↓rP,rA,↓reduceIte,reduceEqDiff,reduceAdd,reduceLeDiff,↓tyr])
   exact ans _ (fun e=>⟨ImG.of hx (hg rfl) (hb e),hi⟩)
  ·(repeat simp -dsimp -implicitDefEqProofs (disch:=omega) only [↓rP,rA,↓reduceIte,reduceEqDiff,reduceAdd,reduceLeDiff,↓tyr])
   exact ans _ (fun e=>by cases e)
end Go.Proofs.Ytjlogcfggfmacaa
end

section
set_option maxRecDepth 8000
set_option maxHeartbeats 1000000
namespace Go.Proofs.Ytjlogcfggfmacaa
open Go.Abs
structure Ix (c:Cd) (b:Bd) (x:In) (a:Nat):Prop where
 op:1≤x.Op∧x.Op≤17
 its:(x.Op=1∨x.Op=5∨x.Op=6∨x.Op=7∨x.Op=9∨x.Op=11∨x.Op=12∨x.Op=14)→zmr (slL x.Items) (slL b.Slots).length
 nit:¬ (x.Op=1∨x.Op=5∨x.Op=6∨x.Op=7∨x.Op=9∨x.Op=11∨x.Op=12∨x.Op=14)→(slL x.Items).length=0
 idx:(x.Op=4∨x.Op=7)→zmr (slL x.Index) (slL b.Slots).length
 nix:¬ (x.Op=4∨x.Op=7)→(slL x.Index).length=0
 src:(x.Op=3∨x.Op=4∨x.Op=6∨x.Op=7∨x.Op=10)→btw x.Src (slL b.Slots).length=true
 recs:x.Op=8→btw x.Rec (slL c.Records).length=true
 to_:(x.Op=13∨x.Op=14)→btw x.To (slL b.Code).length=true
theorem instr_ix {c:Cd} {t:Int} {a:Nat} {b:Bd} {x:In} (h:z0z c t b x a=true):Ix c b x a:=by
 have wx:=instr_wx h
 have hop:1≤x.Op∧x.Op≤17:=by
  rcases Decidable.em (1≤x.Op∧x.Op≤17) with q | q
  ·exact q
  ·unfold z0z at h
   rw [if_neg (by omega),if_neg (by omega),if_neg (by omega),if_neg (by omega),if_neg (by omega),if_neg (by omega),if_neg (by omega),if_neg (by omega)] at h
   simp at h
   omega
 obtain ⟨k,hk,hk2⟩:∃ k:Nat,x.Op=k∧k<18:=⟨x.Op.toNat,by omega,by omega⟩
 have hs:=wx.src
 have ht:=wx.to_
 unfold z0z z3a z2j z3q z2l z2z zff at h
 refine ⟨hop,?_,?_,?_,?_,hs,?_,ht⟩
 all_goals
  intro q
  simp only [hk] at q h
  match k,hk2,q,h with
  | 0,_,q,h=>exact absurd hop (by omega)
  | 1,_,q,h | 2,_,q,h | 3,_,q,h | 4,_,q,h | 5,_,q,h | 6,_,q,h | 7,_,q,h | 8,_,q,h | 9,_,q,h | 10,_,q,h | 11,_,q,h | 12,_,q,h | 13,_,q,h | 14,_,q,h | 15,_,q,h | 16,_,q,h | 17,_,q,h=>
   first
   | exact absurd q (by decide)
   | (simp at h;grind)
  | n+18,hk2,_,_=>omega
theorem ix_of {c:Cd} (h:okC c=true) {t a:Nat} {b:Bd} {x:In} (hb:(slL c.Threads)[t]?=some b) (hx:(slL b.Code)[a]?=some x):Ix c b x a∧Wf c b x∧(x.Op≠17→a+1<(slL b.Code).length)∧b.Most≤4096∧0≤b.Most:=by
 obtain ⟨h1,h2,h3,h4,h5,h6,h7⟩:=zbg h
 have h8:=z1p.1 h7 t b hb
 unfold zb5 zgf z9s at h8
 simp only [Bool.and_eq_true,decide_eq_true_eq] at h8
 have hi:=z1p.1 h8.2 a x hx
 refine ⟨instr_ix hi,zp3 hi,fun hn=>?_,h8.1.1.1.2,h8.1.1.1.1.2⟩
 have hlt:=(List.getElem?_eq_some_iff.1 hx).1
 rcases Nat.lt_or_ge (a+1) (slL b.Code).length with q | q
 ·exact q
 ·exfalso
  have hl:=h8.1.2
  unfold lastB at hl
  have e:(((slL b.Code).length:Int)-1)=(a:Nat):=by omega
  rw [e,z1s,hx] at hl
  simp at hl
  exact hn hl
theorem runN_ok {slots:List Nat} {inputs:List Int} (hs:∀ v∈slots,okN v):∀ (l:List It) (st st2:List Nat),(∀ x∈l,x.ok)→(∀ v∈st,okN v)→runN slots inputs st l=some st2→∀ v∈st2,okN v
 | [],st,st2,_,h,e=>by cases e;exact h
 | x::l,st,st2,hx,h,e=>by
  simp only [runN] at e
  split at e
  ·rename_i st1 e1
   exact runN_ok hs l st1 st2 (fun y hy=>hx y (List.mem_cons_of_mem _ hy)) (stepN_ok hs (hx x (List.mem_cons_self ..)) h e1) e
  ·cases e
theorem evalN_ok {slots:List Nat} {inputs:List Int} {l:List It} (hs:∀ v∈slots,okN v) (hx:∀ x∈l,x.ok):okN (zio slots inputs l).1∧((zio slots inputs l).2=0∨(zio slots inputs l).2=1∧(zio slots inputs l).1=0):=by
 have z:okN 0:=by unfold okN;omega
 unfold zio
 split
 ·split
  ·rename_i st e
   refine ⟨?_,Or.inl rfl⟩
   have:=runN_ok hs l [] st hx (by simp) e
   cases st with
   | nil=>exact z
   | cons a st=>exact this a (List.mem_cons_self ..)
  ·exact ⟨z,Or.inr ⟨rfl,rfl⟩⟩
 ·exact ⟨z,Or.inl rfl⟩
abbrev Td:=z0y
structure Ts where
 slots:List Nat
 pc:Nat
 made:Nat
 out:List Td
structure Hs where
 W:HSt
 gs:List Nat
structure Ev where
 im:z0d
 n:Nat
 b:Bd
 inp:List Int
abbrev Pr:=Nat×Int
def prV (p:Pr):AV:=.tup [.int .u64 (p.1:Nat),.int .i64 p.2]
noncomputable def evT (e:Ev) (s:Ts) (l:Option (List It)):Pr:=zio s.slots e.inp (slL l)
def srcS (s:Ts) (x:In):Nat:=s.slots.getD x.Src.toNat 0
def zjy (gs:List Nat) (n:Int):Pr:=if n<0∨(gs.length:Int)≤n then (0,3) else (gs.getD n.toNat 0,0)
def getN (W:HSt) (r:Nat) (at_:Int):Pr:=match cellW W r at_ with | .inl e=>(0,e) | .inr (t,q)=>(t.vals.getD q 0,0)
def zna (W:HSt) (r:Nat):Pr:=match zor W r with | none=>(0,2) | some t=>(t.vals.length,0)
def zto (W:HSt) (th c:Int):Pr:=match zlj W th c with | .inl e=>(0,e) | .inr k=>(k*16+(W k).length+1,0)
def clsT (e:Ev) (x:In):Int:=(slL e.im.Classes).getD x.N.toNat 0
def recT (e:Ev) (x:In):Int:=(((slL e.im.Code.Records).getD x.Rec.toNat none |> slL).length:Nat)
noncomputable def zdg (e:Ev) (s:Ts) (x:In):Int×Int:=if x.Op=8 then (recT e x,0) else (sgN (evT e s x.Items).1,(evT e s x.Items).2)
noncomputable def loadT (e:Ev) (s:Ts) (H:Hs) (x:In):Pr×HSt:=
 if x.Op=2 then (zjy H.gs x.N,H.W)
 else if x.Op=3 then (getN H.W (srcS s x) x.N,H.W)
 else if x.Op=4 then (if (evT e s x.Index).2≠0 then ((0,(evT e s x.Index).2),H.W) else (getN H.W (srcS s x) (sgN (evT e s x.Index).1),H.W))
 else if x.Op=10 then (zna H.W (srcS s x),H.W)
 else if x.Op=8∨x.Op=9 then
  (if (zdg e s x).2≠0 then ((0,(zdg e s x).2),H.W) else (zto H.W e.n (zdg e s x).1,zp8 H.W e.n x.N (clsT e x) (zdg e s x).1))
 else (evT e s x.Items,H.W)
noncomputable def storeT (e:Ev) (s:Ts) (H:Hs) (x:In):Int×Hs:=
 if x.Op=7∧(evT e s x.Index).2≠0 then ((evT e s x.Index).2,H)
 else if (evT e s x.Items).2≠0 then ((evT e s x.Items).2,H)
 else if x.Op=5 then ((zjy H.gs x.N).2,⟨H.W,if (zjy H.gs x.N).2=0 then H.gs.set x.N.toNat (evT e s x.Items).1 else H.gs⟩)
 else (setV H.W (srcS s x) (if x.Op=7 then sgN (evT e s x.Index).1 else x.N),⟨setW H.W (srcS s x) (if x.Op=7 then sgN (evT e s x.Index).1 else x.N) (evT e s x.Items).1,H.gs⟩)
noncomputable def actT (e:Ev) (s:Ts) (H:Hs) (x:In):Int×Ts×Hs:=
 if x.Op=5∨x.Op=6∨x.Op=7 then ((storeT e s H x).1,s,(storeT e s H x).2)
 else if x.Op=11∨x.Op=12 then
  (if (evT e s x.Items).2=0 then (0,{ s with out:=s.out++[⟨e.n,decide (x.Op=12),(evT e s x.Items).1⟩] },H) else ((evT e s x.Items).2,s,H))
 else if 0≤dstI x then
  (if (loadT e s H x).1.2=0 then (0,{ s with slots:=s.slots.set (dstI x).toNat (loadT e s H x).1.1 },⟨(loadT e s H x).2,H.gs⟩)
   else ((loadT e s H x).1.2,s,⟨(loadT e s H x).2,H.gs⟩))
 else (0,s,H)
noncomputable def zdo (e:Ev) (s:Ts) (x:In):Int×Int:=
 if x.Op=13 then (x.To,0)
 else if x.Op=14∧(evT e s x.Items).1=0 then (x.To,(evT e s x.Items).2)
 else (((s.pc+1:Nat):Int),0)
noncomputable def doT (e:Ev) (s:Ts) (H:Hs):Int×Ts×Hs:=
 match (slL e.b.Code)[s.pc]? with
 | none=>(0,s,H)
 | some x=>
  if x.Op=17 then (0,s,H)
  else if e.b.Most≤(s.made:Nat) then (6,s,H)
  else if (actT e s H x).1≠0 then actT e s H x
  else if (zdo e (actT e s H x).2.1 x).2≠0 then ((zdo e (actT e s H x).2.1 x).2,(actT e s H x).2)
  else (0,{ (actT e s H x).2.1 with pc:=(zdo e (actT e s H x).2.1 x).1.toNat,made:=s.made+1 },(actT e s H x).2.2)
structure HOk (H:Hs):Prop where
 gs:∀ v∈H.gs,okN v
 few:H.gs.length≤8
 cells:∀ k,∀ t∈H.W k,t.vals.length≤16∧∀ v∈t.vals,okN v
structure EOk (e:Ev):Prop where
 g:ImG e.im
 bd:(slL e.im.Code.Threads)[e.n]?=some e.b
 inp:e.inp.length≤100
structure TOk (e:Ev) (s:Ts):Prop where
 len:s.slots.length=(slL e.b.Slots).length
 vals:∀ v∈s.slots,okN v
 pc:s.pc<(slL e.b.Code).length
 out:s.out.length≤s.made
 made:s.made≤4096
theorem cellW_in {W:HSt} {r:Nat} {at_:Int} {t:Vw} {q:Nat} (h:cellW W r at_=.inr (t,q)):t∈W ((r-1)/16)∧q<t.vals.length∧at_=q:=by
 unfold cellW at h
 cases hf:zor W r with
 | none=>rw [hf] at h;cases h
 | some u=>
  rw [hf] at h
  simp only at h
  split at h
  ·cases h
  ·cases h
   unfold zor at hf
   split at hf
   ·cases hf
   ·exact ⟨List.mem_of_getElem? hf,by omega,by omega⟩
theorem setW_ok {H:Hs} (ho:HOk H) (r:Nat) (a:Int) {v:Nat} (hv:okN v):HOk ⟨setW H.W r a v,H.gs⟩:=by
 refine ⟨ho.gs,ho.few,?_⟩
 unfold setW
 cases hc:cellW H.W r a with
 | inl e=>exact ho.cells
 | inr p=>
  obtain ⟨t,q⟩:=p
  have ht:=ho.cells _ t (cellW_in hc).1
  intro k u hu
  simp only [setL] at hu
  split at hu
  ·rcases List.mem_or_eq_of_mem_set hu with hu | rfl
   ·exact ho.cells _ u hu
   ·refine ⟨by simpa using ht.1,fun w hw=>?_⟩
    rcases List.mem_or_eq_of_mem_set hw with hw | rfl
    ·exact ht.2 w hw
    ·exact hv
  ·exact ho.cells _ u hu
theorem makeW_ok {H:Hs} (ho:HOk H) (th s cl c:Int):HOk ⟨zp8 H.W th s cl c,H.gs⟩:=by
 refine ⟨ho.gs,ho.few,?_⟩
 unfold zp8 zlj
 intro k u hu
 split at hu
 ·exact ho.cells _ u hu
 ·rename_i m e
  split at e
  ·cases e
  split at e
  ·cases e
  cases e
  simp only [setL] at hu
  split at hu
  ·rcases List.mem_append.1 hu with hu | hu
   ·exact ho.cells _ u hu
   ·simp only [List.mem_singleton] at hu
    subst hu
    refine ⟨by simp;omega,fun w hw=>?_⟩
    rw [List.eq_of_mem_replicate hw];unfold okN;omega
  ·exact ho.cells _ u hu
theorem zoy {l:List Nat} (h:∀ v∈l,okN v) (k:Nat):okN (l.getD k 0):=by
 rw [List.getD_eq_getElem?_getD]
 cases e:l[k]? with
 | none=>simp [okN]
 | some v=>simpa using h v (List.mem_of_getElem? e)
theorem loadT_ok {e:Ev} {s:Ts} {H:Hs} {x:In} (hx:x.ok) (hs:∀ v∈s.slots,okN v) (ho:HOk H) (hn:e.n<4):okN (loadT e s H x).1.1∧HOk ⟨(loadT e s H x).2,H.gs⟩:=by
 have z:okN 0:=by unfold okN;omega
 have g:∀ r a,okN (getN H.W r a).1:=fun r a=>by
  unfold getN
  split
  ·exact z
  ·rename_i t q e
   exact zoy (ho.cells _ t (cellW_in e).1).2 q
 have hit:∀ y∈slL x.Items,y.ok:=hx.2.2.2.2.2.2.1.2
 have ev:=(evalN_ok (inputs:=e.inp) hs hit).1
 unfold loadT
 split
 ·refine ⟨?_,ho⟩
  unfold zjy
  split
  ·exact z
  ·exact zoy ho.gs _
 split
 ·exact ⟨g _ _,ho⟩
 split
 ·split
  ·exact ⟨z,ho⟩
  ·exact ⟨g _ _,ho⟩
 split
 ·refine ⟨?_,ho⟩
  unfold zna
  split
  ·exact z
  ·rename_i t e
   unfold zor at e
   split at e
   ·cases e
   ·have:=(ho.cells _ t (List.mem_of_getElem? e)).1
    unfold okN;simp only;omega
 split
 ·split
  ·exact ⟨z,ho⟩
  ·refine ⟨?_,makeW_ok ho _ _ _ _⟩
   unfold zto zlj
   split
   ·exact z
   ·rename_i k e
    split at e
    ·cases e
    split at e
    ·cases e
    cases e
    unfold okN;simp only;omega
 ·exact ⟨ev,ho⟩
theorem thr_lt {e:Ev} (eo:EOk e):e.n<4:=by
 have:=(List.getElem?_eq_some_iff.1 eo.bd).1
 have:=(zid eo.g.code).thr
 omega
theorem setV_bad {W:HSt} {r:Nat} {a:Int} {v:Nat} (h:setV W r a≠0):setW W r a v=W:=by
 unfold setV at h
 unfold setW
 split at h
 ·rename_i e q;rw [q]
 ·exact absurd rfl h
theorem makeN_bad {W:HSt} {th s cl c:Int} (h:(zto W th c).2≠0):zp8 W th s cl c=W:=by
 unfold zto at h
 unfold zp8
 split at h
 ·rename_i e q;rw [q]
 ·exact absurd rfl h
theorem actT_trap {e:Ev} {s:Ts} {H:Hs} {x:In} (h:(actT e s H x).1≠0):(actT e s H x).2=(s,H):=by
 unfold actT at h ⊢
 split
 ·rename_i q
  rw [if_pos q] at h
  simp only at h ⊢
  unfold storeT at h ⊢
  split
  ·rfl
  rename_i q1
  rw [if_neg q1] at h
  split
  ·rfl
  rename_i q2
  rw [if_neg q2] at h
  split
  ·rename_i q3
   rw [if_pos q3] at h
   simp only at h ⊢
   rw [if_neg h]
  ·rename_i q3
   rw [if_neg q3] at h
   simp only at h ⊢
   rw [setV_bad h]
 rename_i q
 rw [if_neg q] at h
 split
 ·rename_i q1
  rw [if_pos q1] at h
  split
  ·rename_i q2;rw [if_pos q2] at h;exact absurd rfl h
  ·rfl
 rename_i q1
 rw [if_neg q1] at h
 split
 ·rename_i q2
  rw [if_pos q2] at h
  split
  ·rename_i q3;rw [if_pos q3] at h;exact absurd rfl h
  ·rename_i q3
   rw [if_neg q3] at h
   simp only at h ⊢
   have:(loadT e s H x).2=H.W:=by
    unfold loadT at h ⊢
    split
    ·rfl
    split
    ·rfl
    split
    ·split <;> rfl
    split
    ·rfl
    split
    ·rename_i a1 a2 a3 a4 a5
     rw [if_neg a1,if_neg a2,if_neg a3,if_neg a4,if_pos a5] at h
     split
     ·rfl
     ·rename_i a6
      rw [if_neg a6] at h
      exact makeN_bad h
    ·rfl
   rw [this]
 ·rfl
theorem goesT_trap {e:Ev} {s:Ts} {x:In} (h:(zdo e s x).2≠0):x.Op=14:=by
 unfold zdo at h
 split at h
 ·exact absurd rfl h
 split at h
 ·rename_i q;exact q.1
 ·exact absurd rfl h
theorem actT_14 {e:Ev} {s:Ts} {H:Hs} {x:In} (h:x.Op=14):actT e s H x=(0,s,H):=by
 unfold actT dstI
 rw [if_neg (by omega),if_neg (by omega),if_neg (by rw [if_neg (by omega)];decide)]
theorem doT_trap {e:Ev} {s:Ts} {H:Hs} (h:(doT e s H).1≠0):(doT e s H).2=(s,H):=by
 unfold doT at h ⊢
 split
 ·rfl
 rename_i x hx
 rw [hx] at h
 simp only at h
 split
 ·rfl
 rename_i q1
 rw [if_neg q1] at h
 split
 ·rfl
 rename_i q2
 rw [if_neg q2] at h
 split
 ·rename_i q3;exact actT_trap q3
 rename_i q3
 rw [if_neg q3] at h
 split
 ·rename_i q4;simp only;rw [actT_14 (goesT_trap q4)]
 ·rename_i q4;rw [if_neg q4] at h;exact absurd rfl h
theorem doT_ok {e:Ev} {s:Ts} {H:Hs} (eo:EOk e) (so:TOk e s) (ho:HOk H):TOk e (doT e s H).2.1∧HOk (doT e s H).2.2:=by
 by_cases ht:(doT e s H).1≠0
 ·rw [doT_trap ht];exact ⟨so,ho⟩
 replace ht:(doT e s H).1=0:=Decidable.of_not_not ht
 unfold doT at ht ⊢
 obtain ⟨x,hx⟩:∃ x,(slL e.b.Code)[s.pc]?=some x:=⟨_,List.getElem?_eq_getElem so.pc⟩
 rw [hx] at ht ⊢
 simp only at ht ⊢
 obtain ⟨ix,wf,hl,hm,hm0⟩:=ix_of eo.g.code eo.bd hx
 have hbo:e.b.ok:=eo.g.ok.1.2.2.1.2 _ (List.mem_of_getElem? eo.bd)
 have hxo:x.ok:=hbo.2.1.2 _ (List.mem_of_getElem? hx)
 split
 ·exact ⟨so,ho⟩
 rename_i h17
 rw [if_neg h17] at ht
 split
 ·exact ⟨so,ho⟩
 rename_i hmo
 rw [if_neg hmo] at ht
 split
 ·rename_i q;rw [if_pos q] at ht;exact absurd ht q
 rename_i q
 rw [if_neg q] at ht
 split
 ·rename_i q2;rw [if_pos q2] at ht;exact absurd ht q2
 have hev:=(evalN_ok (inputs:=e.inp) so.vals hxo.2.2.2.2.2.2.1.2).1
 have ac:(actT e s H x).2.1.slots.length=s.slots.length∧(∀ v∈(actT e s H x).2.1.slots,okN v)∧HOk (actT e s H x).2.2∧(actT e s H x).2.1.out.length≤s.out.length+1∧(actT e s H x).2.1.pc=s.pc:=by
  unfold actT
  split
  ·refine ⟨rfl,so.vals,?_,Nat.le_succ _,rfl⟩
   unfold storeT
   split
   ·exact ho
   split
   ·exact ho
   split
   ·refine ⟨?_,?_,ho.cells⟩
    ·split
     ·intro w hw
      rcases List.mem_or_eq_of_mem_set hw with hw | rfl
      ·exact ho.gs w hw
      ·exact hev
     ·exact ho.gs
    ·split
     ·simpa using ho.few
     ·exact ho.few
   ·exact setW_ok ho _ _ hev
  split
  ·split
   ·exact ⟨rfl,so.vals,ho,by simp,rfl⟩
   ·exact ⟨rfl,so.vals,ho,Nat.le_succ _,rfl⟩
  split
  ·have lo:=loadT_ok (e:=e) hxo so.vals ho (thr_lt eo)
   split
   ·refine ⟨by simp,fun w hw=>?_,lo.2,Nat.le_succ _,rfl⟩
    rcases List.mem_or_eq_of_mem_set hw with hw | rfl
    ·exact so.vals w hw
    ·exact lo.1
   ·exact ⟨rfl,so.vals,lo.2,Nat.le_succ _,rfl⟩
  ·exact ⟨rfl,so.vals,ho,Nat.le_succ _,rfl⟩
 obtain ⟨a1,a2,a3,a4,a5⟩:=ac
 have:=so.out
 refine ⟨⟨a1.trans so.len,a2,?_,by simp only;omega,by simp only;omega⟩,a3⟩
 simp only
 unfold zdo
 split
 ·have:=ix.to_ (by omega);unfold btw at this;simp at this;simp only;omega
 split
 ·have:=ix.to_ (by omega);unfold btw at this;simp at this;simp only;omega
 ·have:=hl h17;simp only [a5];omega
end Go.Proofs.Ytjlogcfggfmacaa
end

section
set_option maxRecDepth 8000
set_option maxHeartbeats 1000000
namespace Go.Proofs.Ytjlogcfggfmacaa
open Go.Abs
abbrev z5g:=Nat→Nat
def Agr (h:z00) (o o2:z5g):Prop:=∀ x,x<h.next→o2 x=o x
theorem Agr.refl (h:z00) (o:z5g):Agr h o o:=fun _ _=>rfl
theorem Agr.trans {h h2:z00} {o o2 o3:z5g} (a:Agr h o o2) (hn:h.next≤h2.next) (b:Agr h2 o2 o3):Agr h o o3:=fun x hx=>(b x (Nat.lt_of_lt_of_le hx hn)).trans (a x hx)
def newO (h:z00) (o:z5g) (k:Nat):z5g:=fun x=>if x<h.next then o x else k
theorem z5d (h:z00) (o:z5g) (k:Nat):Agr h o (newO h o k):=fun x hx=>if_pos hx
theorem za3 {h:z00} {o:z5g} {k x:Nat} (hx:h.next≤x):newO h o k x=k:=if_neg (by omega)
def PrAt (h:z00) (o:z5g) (k:Nat) (av:AV) (out:List Td):Prop:=(out=[]∧av=.nils)∨(out≠[]∧∃ g,av=.gsl g 3 (out.map z0y.cells)∧h.objs g=some (.tok 60 (out.length*3))∧o g=k∧g<h.next)
theorem PrAt.frame {h h2:z00} {o o2:z5g} {k:Nat} {av:AV} {out:List Td} {S:Nat→Prop} (p:PrAt h o k av out) (kp:Keeps h h2 S) (ag:Agr h o o2) (hS:∀ x,o x=k→¬ S x):PrAt h2 o2 k av out:=by
 rcases p with p | ⟨p1,g,p2,p3,p4,p5⟩
 ·exact Or.inl p
 ·exact Or.inr ⟨p1,g,p2,by rw [kp.objs g p5 (hS g p4)];exact p3,by rw [ag g p5];exact p4,Nat.lt_of_lt_of_le p5 kp.next⟩
def z6s (e:Ev) (io:Option (List Int)) (s:Ts) (sid:Nat) (av:AV):List AV:=[slAV 3 z0a.cells e.b.Slots,slAV 8 z07.cells e.b.Code,.int .i64 e.b.Most,slAV 1 (fun o=>[slAV 3 (z0a.cells) o]) e.im.Code.Records,slAV 3 (z0a.cells) e.im.Code.Globals,slAV 3 (z0q.cells) e.im.Code.Threads,slAV 3 (z0s.cells) e.im.Code.Sites,slAV 3 (z0b.cells) e.im.Code.Sections,slAV 1 (encI) e.im.Classes,plAV e.im.Plans,.int .i64 e.im.Tries,.int .i64 (e.n:Nat),slAV 1 encI io,.sl sid 0 s.slots.length 1,.int .i64 (s.pc:Nat),.int .i64 (s.made:Nat),av]
structure ThA (h:z00) (o:z5g) (k i:Nat) (e:Ev) (s:Ts):Prop where
 ex:∃ io sid av,h.objs i=some (.row 68 (z6s e io s sid av))∧slL io=e.inp∧h.objs sid=some (.row 56 (z1b s.slots))∧o sid=k∧sid<h.next∧PrAt h o k av s.out
 own:o i=k
 lt:i<h.next
theorem ThA.frame {h h2:z00} {o o2:z5g} {k i:Nat} {e:Ev} {s:Ts} {S:Nat→Prop} (p:ThA h o k i e s) (kp:Keeps h h2 S) (ag:Agr h o o2) (hS:∀ x,o x=k→¬ S x):ThA h2 o2 k i e s:=by
 obtain ⟨⟨io,sid,av,p1,p2,p3,p4,p5,p6⟩,p7,p8⟩:=p
 exact ⟨⟨io,sid,av,by rw [kp.objs i p8 (hS i p7)];exact p1,p2,by rw [kp.objs sid p5 (hS sid p4)];exact p3,by rw [ag sid p5];exact p4,Nat.lt_of_lt_of_le p5 kp.next,p6.frame kp ag hS⟩,by rw [ag i p8];exact p7,Nat.lt_of_lt_of_le p8 kp.next⟩
structure PH (h:z00) (o:z5g) (m j:Nat) (H:Hs):Prop where
 ex:∃ F g,HpW h F j H.W (.sl g 0 H.gs.length 1)∧(∀ x,F x→o x=m)∧h.objs g=some (.row 56 (z1b H.gs))∧o g=m∧g<h.next∧¬ F g
theorem PH.frame {h h2:z00} {o o2:z5g} {m j:Nat} {H:Hs} {S:Nat→Prop} (p:PH h o m j H) (kp:Keeps h h2 S) (ag:Agr h o o2) (hS:∀ x,o x=m→¬ S x):PH h2 o2 m j H:=by
 obtain ⟨F,g,p1,p2,p3,p4,p5,p6⟩:=p
 exact ⟨F,g,p1.keeps kp (fun x hx=>hS x (p2 x hx)),fun x hx=>by rw [ag x (p1.lt x hx)];exact p2 x hx,by rw [kp.objs g p5 (hS g p4)];exact p3,by rw [ag g p5];exact p4,Nat.lt_of_lt_of_le p5 kp.next,p6⟩
section
variable {h:z00} {o:z5g} {m j:Nat} {H:Hs}
theorem PH_Global (p:PH h o m j H) (n:Int):z01 Try.prog 42 [.ptr j 0,.int .i64 n] h (fun v h2=>v=prV (zjy H.gs n)∧h2=h):=by
 obtain ⟨F,g,p1,p2,p3,p4,p5,p6⟩:=p
 refine (zjz p1 p3 n).mono ?_
 rintro v h2 ⟨rfl,rfl⟩
 refine ⟨?_,rfl⟩
 unfold globV zjy prV
 split <;> rfl
theorem zq3 (p:PH h o m j H) (n:Int) (v:Nat):z01 Try.prog 39 [.ptr j 0,.int .i64 n,.int .u64 (v:Int)] h (fun w h2=>w=.int .i64 (zjy H.gs n).2∧PH h2 o m j ⟨H.W,if (zjy H.gs n).2=0 then H.gs.set n.toNat v else H.gs⟩∧Keeps h h2 (fun x=>o x=m)):=by
 have p0:=p
 obtain ⟨F,g,p1,p2,p3,p4,p5,p6⟩:=p
 refine (zge p1 p3 n v).mono ?_
 intro w h2 hw
 unfold zjy
 split at hw
 ·rename_i q
  obtain ⟨rfl,rfl⟩:=hw
  rw [if_pos q]
  exact ⟨rfl,p0,.refl _ _⟩
 ·rename_i q
  obtain ⟨rfl,rfl⟩:=hw
  rw [if_neg q]
  have kp:=Keeps.put h g (.row 56 (z1b (H.gs.set n.toNat v)))
  refine ⟨rfl,⟨F,g,?_,p2,?_,p4,p5,p6⟩,kp.mono fun x e=>by rw [e];exact p4⟩
  ·have:=p1.keeps kp (fun x hx e=>p6 (e▸hx))
   simpa using this
  ·simp
theorem PH_Get (p:PH h o m j H) (r:Nat) (hr:okN r) (a:Int):z01 Try.prog 43 [.ptr j 0,.int .u64 r,.int .i64 a] h (fun v h2=>v=prV (getN H.W r a)∧h2=h):=by
 obtain ⟨F,g,p1,p2,p3,p4,p5,p6⟩:=p
 refine (heap_Get_W p1 r hr a).mono ?_
 rintro v h2 ⟨rfl,rfl⟩
 refine ⟨?_,rfl⟩
 unfold getV getN prV
 split <;> rename_i q <;> simp only [q] <;> rfl
theorem PH_Set (p:PH h o m j H) (r:Nat) (hr:okN r) (a:Int) (v:Nat):z01 Try.prog 40 [.ptr j 0,.int .u64 r,.int .i64 a,.int .u64 v] h (fun w h2=>w=.int .i64 (setV H.W r a)∧PH h2 o m j ⟨setW H.W r a v,H.gs⟩∧Keeps h h2 (fun x=>o x=m)):=by
 obtain ⟨F,g,p1,p2,p3,p4,p5,p6⟩:=p
 refine (heap_Set_W p1 r hr a v).mono ?_
 rintro w h2 ⟨rfl,q1,q2⟩
 exact ⟨rfl,⟨F,g,q1,p2,by rw [q2.objs g p5 p6];exact p3,p4,Nat.lt_of_lt_of_le p5 q2.next,p6⟩,q2.mono p2⟩
theorem PH_Size (p:PH h o m j H) (r:Nat) (hr:okN r):z01 Try.prog 44 [.ptr j 0,.int .u64 r] h (fun v h2=>v=.tup [.int .i64 (zna H.W r).1,.int .i64 (zna H.W r).2]∧h2=h):=by
 obtain ⟨F,g,p1,p2,p3,p4,p5,p6⟩:=p
 refine (zth p1 r hr).mono ?_
 rintro v h2 ⟨rfl,rfl⟩
 refine ⟨?_,rfl⟩
 unfold sizeV zna
 split <;> rename_i q <;> simp only [q] <;> rfl
theorem PH_Make (p:PH h o m j H) (th site cls c:Int):z01 Try.prog 46 [.ptr j 0,.int .i64 th,.int .i64 site,.int .i64 cls,.int .i64 c] h (fun v h2=>v=prV (zto H.W th c)∧∃ o2,Agr h o o2∧PH h2 o2 m j ⟨zp8 H.W th site cls c,H.gs⟩∧Keeps h h2 (fun x=>o x=m)):=by
 obtain ⟨F,g,p1,p2,p3,p4,p5,p6⟩:=p
 refine (ztf p1 th site cls c).mono ?_
 rintro v h2 ⟨rfl,F2,q1,q2,q3⟩
 refine ⟨?_,newO h o m,z5d _ _ _,⟨F2,g,q1,fun x hx=>?_,by rw [q2.objs g p5 p6];exact p3,by rw [z5d h o m g p5];exact p4,Nat.lt_of_lt_of_le p5 q2.next,fun e=>?_⟩,q2.mono p2⟩
 ·unfold makeV zto prV
  split <;> rename_i q <;> simp only [q] <;> rfl
 ·rcases q3 x hx with e | e
  ·rw [z5d h o m x (p1.lt x e)];exact p2 x e
  ·exact za3 e
 ·rcases q3 g e with e | e
  ·exact p6 e
  ·omega
end
end Go.Proofs.Ytjlogcfggfmacaa
end

section
set_option maxRecDepth 8000
set_option maxHeartbeats 1000000
namespace Go.Proofs.Ytjlogcfggfmacaa
open Go.Abs
theorem Ix.few {c:Cd} {b:Bd} {x:In} {a:Nat} (ix:Ix c b x a):(slL x.Items).length≤64∧(slL x.Index).length≤64:=by
 constructor
 ·by_cases q:x.Op=1∨x.Op=5∨x.Op=6∨x.Op=7∨x.Op=9∨x.Op=11∨x.Op=12∨x.Op=14
  ·exact (ix.its q).2.2
  ·have:=ix.nit q;omega
 ·by_cases q:x.Op=4∨x.Op=7
  ·exact (ix.idx q).2.2
  ·have:=ix.nix q;omega
structure At (e:Ev) (s:Ts) (x:In):Prop where
 eo:EOk e
 so:TOk e s
 hx:(slL e.b.Code)[s.pc]?=some x
 ix:Ix e.im.Code e.b x s.pc
 wf:Wf e.im.Code e.b x
 next:x.Op≠17→s.pc+1<(slL e.b.Code).length
 most:e.b.Most≤4096
 ok:x.ok
 slo:s.slots.length≤64
theorem at_of {e:Ev} {s:Ts} (eo:EOk e) (so:TOk e s):∃ x,At e s x:=by
 obtain ⟨x,hx⟩:∃ x,(slL e.b.Code)[s.pc]?=some x:=⟨_,List.getElem?_eq_getElem so.pc⟩
 obtain ⟨ix,wf,hl,hm,hm0⟩:=ix_of eo.g.code eo.bd hx
 have hbo:e.b.ok:=eo.g.ok.1.2.2.1.2 _ (List.mem_of_getElem? eo.bd)
 exact ⟨x,eo,so,hx,ix,wf,hl,hm,hbo.2.1.2 _ (List.mem_of_getElem? hx),by rw [so.len];exact ((zid eo.g.code).slo _ _ eo.bd).1⟩
theorem zfr {n:Int} {k:Nat} (h:btw n k=true):∃ m:Nat,n=m∧m<k∧n.toNat=m:=by
 unfold btw at h;simp at h;exact ⟨n.toNat,by omega,by omega,rfl⟩
section
variable {h:z00} {o:z5g} {k m i j:Nat} {e:Ev} {s:Ts} {H:Hs} {x:In} {io:Option (List Int)} {sid:Nat} {av:AV}
theorem thC:(∀ J,z03 none (z6s e io s sid av) 1 J=J (slAV 8 z07.cells e.b.Code))∧(∀ J,z03 none (z6s e io s sid av) 2 J=J (.int .i64 e.b.Most))∧(∀ J,z03 none (z6s e io s sid av) 3 J=J (slAV 1 (fun o=>[slAV 3 (z0a.cells) o]) e.im.Code.Records))∧(∀ J,z03 none (z6s e io s sid av) 8 J=J (slAV 1 encI e.im.Classes))∧(∀ J,z03 none (z6s e io s sid av) 11 J=J (.int .i64 (e.n:Nat)))
  ∧(∀ J,z03 none (z6s e io s sid av) 12 J=J (slAV 1 encI io))∧(∀ J,z03 none (z6s e io s sid av) 13 J=J (.sl sid 0 s.slots.length 1))∧(∀ J,z03 none (z6s e io s sid av) 14 J=J (.int .i64 (s.pc:Nat)))∧(∀ J,z03 none (z6s e io s sid av) 15 J=J (.int .i64 (s.made:Nat)))∧(∀ J,z03 none (z6s e io s sid av) 16 J=J av):=by
 simp [z03,z6s]
theorem zks (p:ThA h o k i e s):z01 Try.prog 10 [.ptr i 0] h (fun v h2=>v=.int .i64 (s.pc:Nat)∧h2=h):=by
 obtain ⟨⟨io,sid,av,p1,-⟩,-,-⟩:=p
 apply z9q
 (repeat (first | simp -dsimp -implicitDefEqProofs (disch:=omega) only [↓rP,rA,↓reduceIte,reduceEqDiff,reduceAdd,reduceLeDiff,↓tyr,z06 p1,thC] | refine Cut.go ?_))
theorem zq1 (p:ThA h o k i e s):z01 Try.prog 16 [.ptr i 0] h (fun v h2=>v=.int .i64 (s.made:Nat)∧h2=h):=by
 obtain ⟨⟨io,sid,av,p1,-⟩,-,-⟩:=p
 apply z8h
 (repeat (first | simp -dsimp -implicitDefEqProofs (disch:=omega) only [↓rP,rA,↓reduceIte,reduceEqDiff,reduceAdd,reduceLeDiff,↓tyr,z06 p1,thC] | refine Cut.go ?_))
theorem zq2 (p:ThA h o k i e s) (a:At e s x):z01 Try.prog 21 [.ptr i 0] h (fun v h2=>v=.agg x.cells∧h2=h):=by
 refine z01.forget (zle _ x) ?_
 obtain ⟨⟨io,sid,av,p1,-⟩,-,p3⟩:=p
 have hpc:=a.so.pc
 apply z8i
 have p4:=fun z off k J=>z06 (off:=off) (show (h.push z).objs i=_ by rw [z1j p3];exact p1) k J
 (repeat (first | simp -dsimp -implicitDefEqProofs (disch:=omega) only [↓rP,rA,↓reduceIte,reduceEqDiff,reduceAdd,reduceLeDiff,↓tyr,p4,thC,z02 a.hx] | refine Cut.go ?_))
 exact Keeps.one _ _
theorem zih (p:ThA h o k i e s) (a:At e s x):z01 Try.prog 15 [.ptr i 0] h (fun v h2=>v=.bool (decide (x.Op=17))∧h2=h):=by
 apply z7h
 refine z01.go (zq2 p a) ?_
 (repeat (first | simp -dsimp -implicitDefEqProofs (disch:=omega) only [↓rP,rA,↓reduceIte,reduceEqDiff,reduceAdd,reduceLeDiff,↓tyr] | refine Cut.go ?_))
 rfl
theorem zqt (p:ThA h o k i e s) (hi:e.inp.length≤100) (hs:s.slots.length≤64) (so:TOk e s) (l:Option (List It)) (hl:okSl z09.ok l) (hn:(slL l).length≤64):z01 Try.prog 29 [.ptr i 0,slAV 3 z09.cells l] h (fun v h2=>v=prV (evT e s l)∧h2=h):=by
 obtain ⟨⟨io,sid,av,p1,p2,p3,p4,p5,p6⟩,-,-⟩:=p
 have ev:=z01.forget (by exact ⟨trivial,trivial,trivial⟩) (zml s.slots (.sl sid 0 s.slots.length 1) io l so.vals (by omega) (by rw [p2];omega) hl (by omega) h (Rd.row p3 p5))
 rw [p2] at ev
 apply zem
 (repeat (first | simp -dsimp -implicitDefEqProofs (disch:=omega) only [↓rP,rA,↓reduceIte,reduceEqDiff,reduceAdd,reduceLeDiff,↓tyr,z06 p1,thC] | refine Cut.go ?_))
 refine z01.go ev ?_
 (repeat (first | simp -dsimp -implicitDefEqProofs (disch:=omega) only [↓rP,rA,↓reduceIte,reduceEqDiff,reduceAdd,reduceLeDiff,↓tyr] | refine Cut.go ?_))
 rfl
theorem At.items (a:At e s x):okSl z09.ok x.Items∧(slL x.Items).length≤64:=⟨a.ok.2.2.2.2.2.2.1,a.ix.few.1⟩
theorem At.index (a:At e s x):okSl z09.ok x.Index∧(slL x.Index).length≤64:=⟨a.ok.2.2.2.2.2.2.2,a.ix.few.2⟩
theorem At.ev1 (a:At e s x) (p:ThA h o k i e s):z01 Try.prog 29 [.ptr i 0,slAV 3 z09.cells x.Items] h (fun v h2=>v=prV (evT e s x.Items)∧h2=h):=zqt p a.eo.inp a.slo a.so _ a.items.1 a.items.2
theorem At.ev2 (a:At e s x) (p:ThA h o k i e s):z01 Try.prog 29 [.ptr i 0,slAV 3 z09.cells x.Index] h (fun v h2=>v=prV (evT e s x.Index)∧h2=h):=zqt p a.eo.inp a.slo a.so _ a.index.1 a.index.2
theorem zj8 (p3:h.objs sid=some (.row 56 (z1b s.slots))) {q:Nat} (hq:q<s.slots.length):(∀ J,z0f (.slice 1) (.sl sid 0 s.slots.length 1) (.int .i64 (q:Nat)) J=J (.ptr sid q))∧(∀ J,z0r none (.ptr sid q) h J=J (.int .u64 (s.slots.getD q 0:Nat))):=by
 refine ⟨fun J=>?_,fun J=>?_⟩
 ·rw [zpo (by omega) (by omega)];simp
 ·rw [z06 p3,pCells_none,valCells_get _ _ hq]
theorem At.cells (a:At e s x) (p:ThA h o k i e s) (h89:x.Op=8∨x.Op=9):z01 Try.prog 45 [.ptr i 0,.agg x.cells] h (fun v h2=>v=.tup [.int .i64 (zdg e s x).1,.int .i64 (zdg e s x).2]∧h2=h):=by
 have p0:=p
 obtain ⟨⟨io,sid,av,p1,p2,p3,p4,p5,p6⟩,-,-⟩:=p
 apply zda
 unfold zdg
 rcases h89 with q | q
 ·rw [if_pos q]
  obtain ⟨r,hr,hr2,hr3⟩:=zfr (a.ix.recs q)
  obtain ⟨rc,hrc⟩:∃ y,(slL e.im.Code.Records)[r]?=some y:=⟨_,List.getElem?_eq_getElem hr2⟩
  have hrec:recT e x=((slL rc).length:Nat):=by unfold recT;rw [hr3,List.getD_eq_getElem?_getD,hrc];rfl
  have l1:∀ J:AV→Prop,z0r none (.iptr ((fun o=>[slAV 3 (z0a.cells) o]) rc)) h J=J (slAV 3 z0a.cells rc):=fun J=>by rw [z0w];rfl
  rw [hrec]
  (repeat (first | simp -dsimp -implicitDefEqProofs (disch:=omega) only [↓rP,rA,↓reduceIte,reduceEqDiff,reduceAdd,reduceLeDiff,↓tyr,q,Int.reduceBEq,z06 p1,thC,hr,z02 hrc,↓l1] | refine Cut.go ?_))
 ·rw [if_neg (by omega)]
  (repeat (first | simp -dsimp -implicitDefEqProofs (disch:=omega) only [↓rP,rA,↓reduceIte,reduceEqDiff,reduceAdd,reduceLeDiff,↓tyr,q,Int.reduceBEq] | refine Cut.go ?_))
  refine z01.go (a.ev1 p0) ?_
  (repeat (first | simp -dsimp -implicitDefEqProofs (disch:=omega) only [↓rP,rA,↓reduceIte,reduceEqDiff,reduceAdd,reduceLeDiff,↓tyr,prV] | refine Cut.go ?_))
  rfl
theorem At.load (a:At e s x) (p:ThA h o k i e s) (q:PH h o m j H) (ho:HOk H) (hop:x.Op=1∨x.Op=2∨x.Op=3∨x.Op=4∨x.Op=8∨x.Op=9∨x.Op=10):z01 Try.prog 31 [.ptr i 0,.ptr j 0,.agg x.cells] h (fun v h2=>v=prV (loadT e s H x).1∧∃ o2,Agr h o o2∧PH h2 o2 m j ⟨(loadT e s H x).2,H.gs⟩∧Keeps h h2 (fun x=>o x=m)):=by
 have p0:=p
 obtain ⟨⟨io,sid,av,p1,p2,p3,p4,p5,p6⟩,-,-⟩:=p
 have same:∀ (v:AV) (r:Pr),v=prV r→loadT e s H x=(r,H.W)→v=prV (loadT e s H x).1∧∃ o2,Agr h o o2∧PH h o2 m j ⟨(loadT e s H x).2,H.gs⟩∧Keeps h h (fun x=>o x=m):=fun v r e1 e2=>by
  rw [e2];exact ⟨e1,o,.refl _ _,q,.refl _ _⟩
 have hlen:=a.so.len
 have srcV:∀ z:Nat,x.Src=z→z<(slL e.b.Slots).length→srcS s x=s.slots.getD z 0∧okN (s.slots.getD z 0):=fun z e1 _=>⟨by unfold srcS;rw [e1];rfl,zoy a.so.vals z⟩
 apply zeo
 by_cases h89:x.Op=8∨x.Op=9
 ·obtain ⟨z,hz,hz2,hz3⟩:=zfr (a.wf.site h89)
  obtain ⟨cl,hcl⟩:∃ y,(slL e.im.Classes)[z]?=some y:=⟨_,List.getElem?_eq_getElem (by rw [a.eo.g.cls];exact hz2)⟩
  have hc:clsT e x=cl:=by unfold clsT;rw [hz3,List.getD_eq_getElem?_getD,hcl];rfl
  have hlt:((z:Nat):Int)<((slL e.im.Classes).length:Int):=by rw [a.eo.g.cls];omega
  have h1:(x.Op == 2)=false:=by simp;omega
  have h2:(x.Op == 3)=false:=by simp;omega
  have h3:(x.Op == 4)=false:=by simp;omega
  have h4:(x.Op == 10)=false:=by simp;omega
  have l0:∀ J:AV→Prop,z0r none (.iptr (encI cl)) h J=J (.int .i64 cl):=fun J=>z8k _ _ _
  by_cases ht:(zdg e s x).2=0
  ·have el:loadT e s H x=(zto H.W e.n (zdg e s x).1,zp8 H.W e.n x.N cl (zdg e s x).1):=by unfold loadT;rw [if_neg (by omega),if_neg (by omega),if_neg (by omega),if_neg (by omega),if_pos h89,if_neg (by omega),hc]
   rcases h89 with e1 | e1
   all_goals
    (repeat (first | simp -dsimp -implicitDefEqProofs (disch:=omega) only [↓rP,rA,↓reduceIte,reduceEqDiff,reduceAdd,reduceLeDiff,↓tyr,h1,h2,h3,h4,e1,Int.reduceBEq] | refine Cut.go ?_))
    refine z01.go (a.cells p0 (by omega)) ?_
    (repeat (first | simp -dsimp -implicitDefEqProofs (disch:=omega) only [↓rP,rA,↓reduceIte,reduceEqDiff,reduceAdd,reduceLeDiff,↓tyr,ht,Int.reduceBNe,hz,z06 p1,thC,z02 hcl,↓l0] | refine Cut.go ?_))
    rw [←hz]
    refine (PH_Make q _ _ _ _).mono ?_
    rintro _ h2 ⟨rfl,r⟩
    (repeat (first | simp -dsimp -implicitDefEqProofs (disch:=omega) only [↓rP,rA,↓reduceIte,reduceEqDiff,reduceAdd,reduceLeDiff,↓tyr,prV] | refine Cut.go ?_))
    rw [el]
    exact ⟨rfl,r⟩
  ·have el:loadT e s H x=((0,(zdg e s x).2),H.W):=by unfold loadT;rw [if_neg (by omega),if_neg (by omega),if_neg (by omega),if_neg (by omega),if_pos h89,if_pos ht]
   rcases h89 with e1 | e1
   all_goals
    (repeat (first | simp -dsimp -implicitDefEqProofs (disch:=omega) only [↓rP,rA,↓reduceIte,reduceEqDiff,reduceAdd,reduceLeDiff,↓tyr,h1,h2,h3,h4,e1,Int.reduceBEq] | refine Cut.go ?_))
    refine z01.go (a.cells p0 (by omega)) ?_
    (repeat (first | simp -dsimp -implicitDefEqProofs (disch:=omega) only [↓rP,rA,↓reduceIte,reduceEqDiff,reduceAdd,reduceLeDiff,↓tyr] | refine Cut.go ?_))
    exact same _ _ rfl el
 rcases hop with e1 | e1 | e1 | e1 | e1 | e1 | e1
 ·have el:loadT e s H x=(evT e s x.Items,H.W):=by simp [loadT,e1]
  (repeat (first | simp -dsimp -implicitDefEqProofs (disch:=omega) only [↓rP,rA,↓reduceIte,reduceEqDiff,reduceAdd,reduceLeDiff,↓tyr,e1,Int.reduceBEq] | refine Cut.go ?_))
  refine z01.go (a.ev1 p0) ?_
  (repeat (first | simp -dsimp -implicitDefEqProofs (disch:=omega) only [↓rP,rA,↓reduceIte,reduceEqDiff,reduceAdd,reduceLeDiff,↓tyr,prV] | refine Cut.go ?_))
  exact same _ _ rfl el
 ·have el:loadT e s H x=(zjy H.gs x.N,H.W):=by simp [loadT,e1]
  (repeat (first | simp -dsimp -implicitDefEqProofs (disch:=omega) only [↓rP,rA,↓reduceIte,reduceEqDiff,reduceAdd,reduceLeDiff,↓tyr,e1,Int.reduceBEq] | refine Cut.go ?_))
  refine z01.go (PH_Global q x.N) ?_
  (repeat (first | simp -dsimp -implicitDefEqProofs (disch:=omega) only [↓rP,rA,↓reduceIte,reduceEqDiff,reduceAdd,reduceLeDiff,↓tyr,prV] | refine Cut.go ?_))
  exact same _ _ rfl el
 ·obtain ⟨z,hz,hz2,-⟩:=zfr (a.ix.src (by omega))
  obtain ⟨s1,s2⟩:=srcV z hz hz2
  have el:loadT e s H x=(getN H.W (s.slots.getD z 0) x.N,H.W):=by simp [loadT,e1,s1]
  (repeat (first | simp -dsimp -implicitDefEqProofs (disch:=omega) only [↓rP,rA,↓reduceIte,reduceEqDiff,reduceAdd,reduceLeDiff,↓tyr,e1,Int.reduceBEq,z06 p1,thC,hz,zj8 p3 (show z<s.slots.length by omega)] | refine Cut.go ?_))
  refine z01.go (PH_Get q _ s2 x.N) ?_
  (repeat (first | simp -dsimp -implicitDefEqProofs (disch:=omega) only [↓rP,rA,↓reduceIte,reduceEqDiff,reduceAdd,reduceLeDiff,↓tyr,prV] | refine Cut.go ?_))
  exact same _ _ rfl el
 ·obtain ⟨z,hz,hz2,-⟩:=zfr (a.ix.src (by omega))
  obtain ⟨s1,s2⟩:=srcV z hz hz2
  (repeat (first | simp -dsimp -implicitDefEqProofs (disch:=omega) only [↓rP,rA,↓reduceIte,reduceEqDiff,reduceAdd,reduceLeDiff,↓tyr,e1,Int.reduceBEq] | refine Cut.go ?_))
  refine z01.go (a.ev2 p0) ?_
  by_cases ht:(evT e s x.Index).2=0
  ·have el:loadT e s H x=(getN H.W (s.slots.getD z 0) (sgN (evT e s x.Index).1),H.W):=by simp [loadT,e1,s1,ht]
   (repeat (first | simp -dsimp -implicitDefEqProofs (disch:=omega) only [↓rP,rA,↓reduceIte,reduceEqDiff,reduceAdd,reduceLeDiff,↓tyr,prV,ht,Int.reduceBNe,z06 p1,thC,hz,zj8 p3 (show z<s.slots.length by omega)] | refine Cut.go ?_))
   refine z01.go (PH_Get q _ s2 _) ?_
   (repeat (first | simp -dsimp -implicitDefEqProofs (disch:=omega) only [↓rP,rA,↓reduceIte,reduceEqDiff,reduceAdd,reduceLeDiff,↓tyr,prV] | refine Cut.go ?_))
   exact same _ _ rfl el
  ·have el:loadT e s H x=((0,(evT e s x.Index).2),H.W):=by simp [loadT,e1,ht]
   (repeat (first | simp -dsimp -implicitDefEqProofs (disch:=omega) only [↓rP,rA,↓reduceIte,reduceEqDiff,reduceAdd,reduceLeDiff,↓tyr,prV] | refine Cut.go ?_))
   exact same _ _ rfl el
 ·exact absurd (Or.inl e1) h89
 ·exact absurd (Or.inr e1) h89
 ·obtain ⟨z,hz,hz2,-⟩:=zfr (a.ix.src (by omega))
  obtain ⟨s1,s2⟩:=srcV z hz hz2
  have el:loadT e s H x=(zna H.W (s.slots.getD z 0),H.W):=by simp [loadT,e1,s1]
  (repeat (first | simp -dsimp -implicitDefEqProofs (disch:=omega) only [↓rP,rA,↓reduceIte,reduceEqDiff,reduceAdd,reduceLeDiff,↓tyr,e1,Int.reduceBEq,z06 p1,thC,hz,zj8 p3 (show z<s.slots.length by omega)] | refine Cut.go ?_))
  refine z01.go (PH_Size q _ s2) ?_
  have hw:IntKind.u64.wrap ((zna H.W (s.slots.getD z 0)).1:Nat)=((zna H.W (s.slots.getD z 0)).1:Nat):=by
   have:(zna H.W (s.slots.getD z 0)).1≤16:=by
    unfold zna
    split
    ·exact Nat.zero_le _
    ·rename_i t e
     unfold zor at e
     split at e
     ·cases e
     ·exact (ho.cells _ t (List.mem_of_getElem? e)).1
   exact wrapN (by omega) (by omega)
  (repeat (first | simp -dsimp -implicitDefEqProofs (disch:=omega) only [↓rP,rA,↓reduceIte,reduceEqDiff,reduceAdd,reduceLeDiff,↓tyr,hw] | refine Cut.go ?_))
  exact same _ _ rfl el
theorem At.store (a:At e s x) (p:ThA h o k i e s) (q:PH h o m j H) (hop:x.Op=5∨x.Op=6∨x.Op=7):z01 Try.prog 28 [.ptr i 0,.ptr j 0,.agg x.cells] h (fun v h2=>v=.int .i64 (storeT e s H x).1∧PH h2 o m j (storeT e s H x).2∧Keeps h h2 (fun x=>o x=m)):=by
 have p0:=p
 obtain ⟨⟨io,sid,av,p1,p2,p3,p4,p5,p6⟩,-,-⟩:=p
 have hlen:=a.so.len
 have srcV:∀ z:Nat,x.Src=z→z<(slL e.b.Slots).length→srcS s x=s.slots.getD z 0∧okN (s.slots.getD z 0):=fun z e1 _=>⟨by unfold srcS;rw [e1];rfl,zoy a.so.vals z⟩
 have ww:IntKind.i64.wrap (IntKind.u64.wrap x.N)=x.N:=by
  have hn:okI x.N:=a.ok.2.2.2.2.1
  unfold okI at hn
  rw [zes,IntKind.wrap_i64];omega
 have same:∀ (v:AV) (r:Int),v=.int .i64 r→storeT e s H x=(r,H)→v=.int .i64 (storeT e s H x).1∧PH h o m j (storeT e s H x).2∧Keeps h h (fun x=>o x=m):=fun v r e1 e2=>by
  rw [e2];exact ⟨e1,q,.refl _ _⟩
 apply zdb
 rcases hop with e1 | e1 | e1
 ·(repeat (first | simp -dsimp -implicitDefEqProofs (disch:=omega) only [↓rP,rA,↓reduceIte,reduceEqDiff,reduceAdd,reduceLeDiff,↓tyr,e1,Int.reduceBEq] | refine Cut.go ?_))
  refine z01.go (a.ev1 p0) ?_
  by_cases ht:(evT e s x.Items).2=0
  ·have el:storeT e s H x=((zjy H.gs x.N).2,⟨H.W,if (zjy H.gs x.N).2=0 then H.gs.set x.N.toNat (evT e s x.Items).1 else H.gs⟩):=by simp [storeT,e1,ht]
   (repeat (first | simp -dsimp -implicitDefEqProofs (disch:=omega) only [↓rP,rA,↓reduceIte,reduceEqDiff,reduceAdd,reduceLeDiff,↓tyr,prV,ht,Int.reduceBNe,e1,Int.reduceBEq] | refine Cut.go ?_))
   refine (zq3 q x.N _).mono ?_
   rintro _ h2 ⟨rfl,r⟩
   (repeat (first | simp -dsimp -implicitDefEqProofs (disch:=omega) only [↓rP,rA,↓reduceIte,reduceEqDiff,reduceAdd,reduceLeDiff,↓tyr] | refine Cut.go ?_))
   rw [el]
   exact ⟨rfl,r⟩
  ·have el:storeT e s H x=((evT e s x.Items).2,H):=by simp [storeT,e1,ht]
   (repeat (first | simp -dsimp -implicitDefEqProofs (disch:=omega) only [↓rP,rA,↓reduceIte,reduceEqDiff,reduceAdd,reduceLeDiff,↓tyr,prV] | refine Cut.go ?_))
   exact same _ _ rfl el
 ·obtain ⟨z,hz,hz2,-⟩:=zfr (a.ix.src (by omega))
  obtain ⟨s1,s2⟩:=srcV z hz hz2
  (repeat (first | simp -dsimp -implicitDefEqProofs (disch:=omega) only [↓rP,rA,↓reduceIte,reduceEqDiff,reduceAdd,reduceLeDiff,↓tyr,e1,Int.reduceBEq] | refine Cut.go ?_))
  refine z01.go (a.ev1 p0) ?_
  by_cases ht:(evT e s x.Items).2=0
  ·have el:storeT e s H x=(setV H.W (s.slots.getD z 0) x.N,⟨setW H.W (s.slots.getD z 0) x.N (evT e s x.Items).1,H.gs⟩):=by simp [storeT,e1,ht,s1]
   (repeat (first | simp -dsimp -implicitDefEqProofs (disch:=omega) only [↓rP,rA,↓reduceIte,reduceEqDiff,reduceAdd,reduceLeDiff,↓tyr,prV,ht,Int.reduceBNe,e1,Int.reduceBEq,z06 p1,thC,hz,zj8 p3 (show z<s.slots.length by omega),ww] | refine Cut.go ?_))
   refine (PH_Set q _ s2 x.N _).mono ?_
   rintro _ h2 ⟨rfl,r⟩
   (repeat (first | simp -dsimp -implicitDefEqProofs (disch:=omega) only [↓rP,rA,↓reduceIte,reduceEqDiff,reduceAdd,reduceLeDiff,↓tyr] | refine Cut.go ?_))
   rw [el]
   exact ⟨rfl,r⟩
  ·have el:storeT e s H x=((evT e s x.Items).2,H):=by simp [storeT,e1,ht]
   (repeat (first | simp -dsimp -implicitDefEqProofs (disch:=omega) only [↓rP,rA,↓reduceIte,reduceEqDiff,reduceAdd,reduceLeDiff,↓tyr,prV] | refine Cut.go ?_))
   exact same _ _ rfl el
 ·obtain ⟨z,hz,hz2,-⟩:=zfr (a.ix.src (by omega))
  obtain ⟨s1,s2⟩:=srcV z hz hz2
  (repeat (first | simp -dsimp -implicitDefEqProofs (disch:=omega) only [↓rP,rA,↓reduceIte,reduceEqDiff,reduceAdd,reduceLeDiff,↓tyr,e1,Int.reduceBEq] | refine Cut.go ?_))
  refine z01.go (a.ev2 p0) ?_
  by_cases ht2:(evT e s x.Index).2=0
  ·(repeat (first | simp -dsimp -implicitDefEqProofs (disch:=omega) only [↓rP,rA,↓reduceIte,reduceEqDiff,reduceAdd,reduceLeDiff,↓tyr,prV,ht2,Int.reduceBNe] | refine Cut.go ?_))
   refine z01.go (a.ev1 p0) ?_
   by_cases ht:(evT e s x.Items).2=0
   ·have el:storeT e s H x=(setV H.W (s.slots.getD z 0) (sgN (evT e s x.Index).1),⟨setW H.W (s.slots.getD z 0) (sgN (evT e s x.Index).1) (evT e s x.Items).1,H.gs⟩):=by simp [storeT,e1,ht,ht2,s1]
    (repeat (first | simp -dsimp -implicitDefEqProofs (disch:=omega) only [↓rP,rA,↓reduceIte,reduceEqDiff,reduceAdd,reduceLeDiff,↓tyr,prV,ht,Int.reduceBNe,e1,Int.reduceBEq,z06 p1,thC,hz,zj8 p3 (show z<s.slots.length by omega)] | refine Cut.go ?_))
    refine (PH_Set q _ s2 _ _).mono ?_
    rintro _ h2 ⟨rfl,r⟩
    (repeat (first | simp -dsimp -implicitDefEqProofs (disch:=omega) only [↓rP,rA,↓reduceIte,reduceEqDiff,reduceAdd,reduceLeDiff,↓tyr] | refine Cut.go ?_))
    rw [el]
    exact ⟨rfl,r⟩
   ·have el:storeT e s H x=((evT e s x.Items).2,H):=by simp [storeT,e1,ht,ht2]
    (repeat (first | simp -dsimp -implicitDefEqProofs (disch:=omega) only [↓rP,rA,↓reduceIte,reduceEqDiff,reduceAdd,reduceLeDiff,↓tyr,prV] | refine Cut.go ?_))
    exact same _ _ rfl el
  ·have el:storeT e s H x=((evT e s x.Index).2,H):=by simp [storeT,e1,ht2]
   (repeat (first | simp -dsimp -implicitDefEqProofs (disch:=omega) only [↓rP,rA,↓reduceIte,reduceEqDiff,reduceAdd,reduceLeDiff,↓tyr,prV] | refine Cut.go ?_))
   exact same _ _ rfl el
theorem At.goes {s':Ts} (a:At e s x) (p:ThA h o k i e s') (h14:x.Op=14→s'=s) (hp:s'.pc=s.pc):z01 Try.prog 23 [.ptr i 0,.agg x.cells] h (fun v h2=>v=.tup [.int .i64 (zdo e s' x).1,.int .i64 (zdo e s' x).2]∧h2=h):=by
 have p0:=p
 obtain ⟨⟨io,sid,av,p1,p2,p3,p4,p5,p6⟩,-,-⟩:=p
 have hpc:s'.pc<256:=by rw [hp];exact Nat.lt_of_lt_of_le a.so.pc ((zid a.eo.g.code).slo _ _ a.eo.bd).2
 apply zen
 unfold zdo
 by_cases e1:x.Op=13
 ·rw [if_pos e1]
  (repeat (first | simp -dsimp -implicitDefEqProofs (disch:=omega) only [↓rP,rA,↓reduceIte,reduceEqDiff,reduceAdd,reduceLeDiff,↓tyr,e1,Int.reduceBEq] | refine Cut.go ?_))
 rw [if_neg e1]
 by_cases e2:x.Op=14
 ·obtain rfl:=h14 e2
  (repeat (first | simp -dsimp -implicitDefEqProofs (disch:=omega) only [↓rP,rA,↓reduceIte,reduceEqDiff,reduceAdd,reduceLeDiff,↓tyr,e2,Int.reduceBEq] | refine Cut.go ?_))
  refine z01.go (a.ev1 p0) ?_
  by_cases hv:(evT e s' x.Items).1=0
  ·have h0:(((evT e s' x.Items).1:Nat):Int)=0:=by omega
   rw [if_pos ⟨e2,hv⟩]
   (repeat (first | simp -dsimp -implicitDefEqProofs (disch:=omega) only [↓rP,rA,↓reduceIte,reduceEqDiff,reduceAdd,reduceLeDiff,↓tyr,prV,h0,Int.reduceBEq] | refine Cut.go ?_))
  ·rw [if_neg (by simp [hv])]
   (repeat (first | simp -dsimp -implicitDefEqProofs (disch:=omega) only [↓rP,rA,↓reduceIte,reduceEqDiff,reduceAdd,reduceLeDiff,↓tyr,prV,z06 p1,thC,wkP s'.pc (by omega)] | refine Cut.go ?_))
 ·rw [if_neg (by simp [e2])]
  (repeat (first | simp -dsimp -implicitDefEqProofs (disch:=omega) only [↓rP,rA,↓reduceIte,reduceEqDiff,reduceAdd,reduceLeDiff,↓tyr,z06 p1,thC,wkP s'.pc (by omega)] | refine Cut.go ?_))
end
end Go.Proofs.Ytjlogcfggfmacaa
end

section
set_option maxRecDepth 8000
set_option maxHeartbeats 1000000
namespace Go.Proofs.Ytjlogcfggfmacaa
open Go.Abs
section
variable {h:z00} {o:z5g} {k m i j:Nat} {e:Ev} {s:Ts} {H:Hs} {x:In} {io:Option (List Int)} {sid:Nat} {av:AV}
def StepT (h:z00) (o:z5g) (k m i j:Nat) (e:Ev) (r:Ts×Hs) (h2:z00):Prop:=∃ o2,Agr h o o2∧ThA h2 o2 k i e r.1∧PH h2 o2 m j r.2∧Keeps h h2 (fun x=>o x=k∨o x=m)
theorem StepT.same (p:ThA h o k i e s) (q:PH h o m j H):StepT h o k m i j e (s,H) h:=⟨o,.refl _ _,p,q,.refl _ _⟩
theorem bslT (a:Int) (b:Bool) (c:Int) (G:z00) (J:AV→z00→Prop):z0m true { e:=60,sz:=3,by_:=24 } [AV.int .i64 0,.bool false,.int .u64 0] 1 [(0,.agg [.int .i64 a,.bool b,.int .u64 c])] G J=J (.isl 3 [[.int .i64 a,.bool b,.int .u64 c]]) G:=by
 simp [z0m,z8t,AV.fits,AV.cells,List.replicate]
theorem pr_app {out:List Td} (p:PrAt h o k av out) (hl:out.length≤5000) (t:Td) (J:AV→z00→Prop)
  (hJ:∀ av2 h2,PrAt h2 (newO h o k) k av2 (out++[t])→av2.zd1=true→Keeps h h2 (fun x=>o x=k)→(∀ y ty cs,y<h.next→h.objs y=some (.row ty cs)→h2.objs y=some (.row ty cs))→J av2 h2):z11 true { e:=60,sz:=3,by_:=24 } av (.isl 3 [t.cells]) h J:=by
 have hbd:∀ n,n≤5001→bounded { e:=60,sz:=3,by_:=24 } n:=fun n hn=>by simp only [bounded,maxLen];omega
 rcases p with ⟨rfl,rfl⟩ | ⟨hne,g,rfl,ho,hk,hg⟩
 ·have:=hJ (.gsl h.next 3 [t.cells]) (h.push (.tok 60 (1*3))) (Or.inr ⟨by simp,h.next,rfl,z0v _ _,za3 (Nat.le_refl _),Nat.lt_succ_self _⟩) rfl ((Keeps.one _ _).mono (fun _ e=>e.elim)) (fun y ty cs hy e=>by rw [z1j hy];exact e)
  simp only [z11,z13,if_true,zd2]
  exact ⟨hbd _ (by simp),this⟩
 ·have:=hJ (.gsl h.next 3 (out.map z0y.cells++[t.cells])) ((h.kill g).push (.tok 60 ((out++[t]).length*3))) (Or.inr ⟨by simp,h.next,by simp,z0v (h.kill g) _,za3 (Nat.le_refl _),Nat.lt_succ_self _⟩) rfl (((Keeps.kill h g).mono (fun y e=>by rw [e];exact hk)).zgp _) (fun y ty cs hy e=>by
   have hne:y≠g:=fun q=>by rw [q,ho] at e;cases e
   rw [z1j (h:=h.kill g) hy,zp5 hne];exact e)
  simp only [z11,z13,if_true,ho,List.length_map,List.length_cons,List.length_nil,true_and]
  refine ⟨hbd _ (by omega),?_⟩
  simpa using this
theorem At.act (a:At e s x) (p:ThA h o k i e s) (q:PH h o m j H) (ho:HOk H) (km:k≠m):z01 Try.prog 22 [.ptr i 0,.ptr j 0,.agg x.cells] h (fun v h2=>v=.int .i64 (actT e s H x).1∧StepT h o k m i j e (actT e s H x).2 h2):=by
 have p0:=p
 obtain ⟨⟨io,sid,av,p1,p2,p3,p4,p5,p6⟩,p7,p8⟩:=p
 have same:∀ (v:AV) (r:Int),v=.int .i64 r→actT e s H x=(r,s,H)→v=.int .i64 (actT e s H x).1∧StepT h o k m i j e (actT e s H x).2 h:=fun v r e1 e2=>by
  rw [e2];exact ⟨e1,StepT.same p0 q⟩
 apply zfq
 by_cases c1:x.Op=5∨x.Op=6∨x.Op=7
 ·have el:actT e s H x=((storeT e s H x).1,s,(storeT e s H x).2):=by unfold actT;rw [if_pos c1]
  have st:=a.store p0 q c1
  rcases c1 with e1 | e1 | e1
  all_goals
   (repeat (first | simp -dsimp -implicitDefEqProofs (disch:=omega) only [↓rP,rA,↓reduceIte,reduceEqDiff,reduceAdd,reduceLeDiff,↓tyr,e1,Int.reduceBEq] | refine Cut.go ?_))
   refine st.mono ?_
   rintro _ h2 ⟨rfl,r,kp⟩
   (repeat (first | simp -dsimp -implicitDefEqProofs (disch:=omega) only [↓rP,rA,↓reduceIte,reduceEqDiff,reduceAdd,reduceLeDiff,↓tyr] | refine Cut.go ?_))
   rw [el]
   exact ⟨rfl,o,.refl _ _,p0.frame kp (.refl _ _) (fun y e1 e2=>km (e1.symm.trans e2)),r,kp.mono (fun y e=>Or.inr e)⟩
 have n5:(x.Op == 5)=false:=by simp;omega
 have n6:(x.Op == 6)=false:=by simp;omega
 have n7:(x.Op == 7)=false:=by simp;omega
 by_cases c2:x.Op=11∨x.Op=12
 ·have key:∀ b:Bool,decide (x.Op=12)=b→∀ J:AV→z00→Prop,True:=fun _ _ _=>trivial
  by_cases ht:(evT e s x.Items).2=0
  ·have el:actT e s H x=(0,{ s with out:=s.out++[⟨e.n,decide (x.Op=12),(evT e s x.Items).1⟩] },H):=by unfold actT;rw [if_neg c1,if_pos c2,if_pos ht]
   have hst:=a.so.out
   have hmd:=a.so.made
   have fin:∀ av2 h2,PrAt h2 (newO h o k) k av2 (s.out++[⟨e.n,decide (x.Op=12),(evT e s x.Items).1⟩])→Keeps h h2 (fun x=>o x=k)→(∀ y ty cs,y<h.next→h.objs y=some (.row ty cs)→h2.objs y=some (.row ty cs))→StepT h o k m i j e (actT e s H x).2 (h2.put i (.row 68 ((z6s e io s sid av).set 16 av2))):=fun av2 h2 r1 r2 r3=>by
    have hi2:i<h2.next:=Nat.lt_of_lt_of_le p8 r2.next
    have ag:=z5d h o k
    have hsi:sid≠i:=fun q=>by rw [q,p1] at p3;cases p3
    have kq:Keeps h2 (h2.put i (.row 68 ((z6s e io s sid av).set 16 av2))) (fun y=>y=i):=Keeps.put _ _ _
    rw [el]
    refine ⟨newO h o k,ag,⟨⟨io,sid,av2,z5c _ _ _,p2,by rw [z1n hsi];exact r3 _ _ _ p5 p3,by rw [ag _ p5];exact p4,Nat.lt_of_lt_of_le p5 r2.next,?_⟩,by rw [ag _ p8];exact p7,hi2⟩,?_,?_⟩
    ·rcases r1 with r1 | ⟨r1,g,r4,r5,r6,r7⟩
     ·exact Or.inl r1
     ·have hgi:g≠i:=fun q=>by rw [q,r3 _ _ _ p8 p1] at r5;cases r5
      exact Or.inr ⟨r1,g,r4,by rw [z1n hgi];exact r5,r6,r7⟩
    ·exact (q.frame r2 ag (fun y e1 e2=>km (e2.symm.trans e1))).frame kq (.refl _ _) (fun y e1 e2=>km (by rw [e2,ag _ p8] at e1;exact p7.symm.trans e1))
    ·exact (r2.trans kq (fun y hy e=>by rw [e];exact p7)).mono (fun y e=>Or.inl e)
   have hlen:(z6s e io s sid av).length=17:=rfl
   rcases c2 with e1 | e1
   all_goals
    (repeat (first | simp -dsimp -implicitDefEqProofs (disch:=omega) only [↓rP,rA,↓reduceIte,reduceEqDiff,reduceAdd,reduceLeDiff,↓tyr,n5,n6,n7,e1,Int.reduceBEq] | refine Cut.go ?_))
    refine z01.go (a.ev1 p0) ?_
    (repeat (first | simp -dsimp -implicitDefEqProofs (disch:=omega) only [↓rP,rA,↓reduceIte,reduceEqDiff,reduceAdd,reduceLeDiff,↓tyr,prV,ht,Int.reduceBEq,z06 p1,thC,e1,bslT] | refine Cut.go ?_))
    simp only [e1] at fin
    refine pr_app p6 (by omega) ⟨e.n,_,(evT e s x.Items).1⟩ _ fun av2 h2 r1 r0 r2 r3=>?_
    have st:∀ J:z00→Prop,z1f 1 (.ptr i 16) av2 h2 J=J (h2.put i (.row 68 ((z6s e io s sid av).set 16 av2))):=fun J=>z1t (r3 _ _ _ p8 p1) r0 (by rw [hlen];decide) J
    (repeat (first | simp -dsimp -implicitDefEqProofs (disch:=omega) only [↓rP,rA,↓reduceIte,reduceEqDiff,reduceAdd,reduceLeDiff,↓tyr,st] | refine Cut.go ?_))
    rw [show (actT e s H x).1=0 by rw [el]]
    exact ⟨rfl,fin av2 h2 r1 r2 r3⟩
  ·have el:actT e s H x=((evT e s x.Items).2,s,H):=by unfold actT;rw [if_neg c1,if_pos c2,if_neg ht]
   rcases c2 with e1 | e1
   all_goals
    (repeat (first | simp -dsimp -implicitDefEqProofs (disch:=omega) only [↓rP,rA,↓reduceIte,reduceEqDiff,reduceAdd,reduceLeDiff,↓tyr,n5,n6,n7,e1,Int.reduceBEq] | refine Cut.go ?_))
    refine z01.go (a.ev1 p0) ?_
    (repeat (first | simp -dsimp -implicitDefEqProofs (disch:=omega) only [↓rP,rA,↓reduceIte,reduceEqDiff,reduceAdd,reduceLeDiff,↓tyr,prV] | refine Cut.go ?_))
    exact same _ _ rfl el
 have n11:(x.Op == 11)=false:=by simp;omega
 have n12:(x.Op == 12)=false:=by simp;omega
 have wr:z01 Try.prog 30 [.agg x.cells] h (fun v h2=>v=.int .i64 (dstI x)∧h2=h):=zjt x h
 (repeat (first | simp -dsimp -implicitDefEqProofs (disch:=omega) only [↓rP,rA,↓reduceIte,reduceEqDiff,reduceAdd,reduceLeDiff,↓tyr,n5,n6,n7,n11,n12] | refine Cut.go ?_))
 refine z01.go wr ?_
 by_cases c3:0≤dstI x
 ·have hop:x.Op=1∨x.Op=2∨x.Op=3∨x.Op=4∨x.Op=8∨x.Op=9∨x.Op=10:=by
   unfold dstI at c3
   split at c3
   ·assumption
   ·omega
  have hd:dstI x=x.Dst:=by unfold dstI;rw [if_pos hop]
  obtain ⟨z,hz,hz2,hz3⟩:=zfr (a.wf.dst hop)
  have hlen:=a.so.len
  (repeat (first | simp -dsimp -implicitDefEqProofs (disch:=omega) only [↓rP,rA,↓reduceIte,reduceEqDiff,reduceAdd,reduceLeDiff,↓tyr] | refine Cut.go ?_))
  refine (a.load p0 q ho hop).mono ?_
  rintro _ h2 ⟨rfl,o2,ag,r,kp⟩
  have p9:ThA h2 o2 k i e s:=p0.frame kp ag (fun y e1 e2=>km (e1.symm.trans e2))
  by_cases ht:(loadT e s H x).1.2=0
  ·have el:actT e s H x=(0,{ s with slots:=s.slots.set z (loadT e s H x).1.1 },⟨(loadT e s H x).2,H.gs⟩):=by unfold actT;rw [if_neg c1,if_neg c2,if_pos c3,if_pos ht,hd,hz3]
   obtain ⟨⟨io',sid',av',r1,r2,r3,r4,r5,r6⟩,r7,r8⟩:=p9
   obtain ⟨i1,-⟩:=zj8 r3 (show z<s.slots.length by omega)
   have st:∀ J:z00→Prop,z1f 1 (.ptr sid' z) (.int .u64 ((loadT e s H x).1.1:Nat)) h2 J=J (h2.put sid' (.row 56 (z1b (s.slots.set z (loadT e s H x).1.1)))):=fun J=>by
    rw [z1t r3 rfl (by simp [z1b];omega),zep]
   have hsi:i≠sid':=fun q=>by rw [←q,r1] at r3;cases r3
   (repeat (first | simp -dsimp -implicitDefEqProofs (disch:=omega) only [↓rP,rA,↓reduceIte,reduceEqDiff,reduceAdd,reduceLeDiff,↓tyr,prV,ht,Int.reduceBEq,z06 r1,thC,hd,hz,i1,st] | refine Cut.go ?_))
   rw [el]
   have kq:Keeps h2 (h2.put sid' (.row 56 (z1b (s.slots.set z (loadT e s H x).1.1)))) (fun y=>y=sid'):=Keeps.put _ _ _
   refine ⟨rfl,o2,ag,⟨⟨io',sid',av',?_,r2,z5c _ _ _,r4,r5,?_⟩,r7,r8⟩,?_,?_⟩
   ·rw [z1n hsi,r1];simp [z6s]
   ·rcases r6 with r6 | ⟨r6,g,q4,q5,q6,q7⟩
    ·exact Or.inl r6
    ·have hgi:g≠sid':=fun q=>by rw [q,r3] at q5;cases q5
     exact Or.inr ⟨r6,g,q4,by rw [z1n hgi];exact q5,q6,q7⟩
   ·exact r.frame kq (.refl _ _) (fun y e1 e2=>km (by rw [e2] at e1;exact r4.symm.trans e1))
   ·exact (kp.mono (fun y e=>Or.inr e)).trans kq (fun y hy e=>Or.inl (by rw [←ag y hy,e];exact r4))
  ·have el:actT e s H x=((loadT e s H x).1.2,s,⟨(loadT e s H x).2,H.gs⟩):=by unfold actT;rw [if_neg c1,if_neg c2,if_pos c3,if_neg ht]
   (repeat (first | simp -dsimp -implicitDefEqProofs (disch:=omega) only [↓rP,rA,↓reduceIte,reduceEqDiff,reduceAdd,reduceLeDiff,↓tyr,prV] | refine Cut.go ?_))
   rw [el]
   exact ⟨rfl,o2,ag,p9,r,kp.mono (fun y e=>Or.inr e)⟩
 ·have el:actT e s H x=(0,s,H):=by unfold actT;rw [if_neg c1,if_neg c2,if_neg c3]
  (repeat (first | simp -dsimp -implicitDefEqProofs (disch:=omega) only [↓rP,rA,↓reduceIte,reduceEqDiff,reduceAdd,reduceLeDiff,↓tyr] | refine Cut.go ?_))
  exact same _ _ rfl el
theorem actT_pc:(actT e s H x).2.1.pc=s.pc∧(actT e s H x).2.1.made=s.made:=by
 unfold actT
 split
 ·exact ⟨rfl,rfl⟩
 split
 ·split <;> exact ⟨rfl,rfl⟩
 split
 ·split <;> exact ⟨rfl,rfl⟩
 ·exact ⟨rfl,rfl⟩
theorem doT_at (a:At e s x):doT e s H=if x.Op=17 then (0,s,H) else if e.b.Most≤(s.made:Nat) then (6,s,H) else if (actT e s H x).1≠0 then actT e s H x else if (zdo e (actT e s H x).2.1 x).2≠0 then ((zdo e (actT e s H x).2.1 x).2,(actT e s H x).2) else (0,{ (actT e s H x).2.1 with pc:=(zdo e (actT e s H x).2.1 x).1.toNat,made:=s.made+1 },(actT e s H x).2.2):=by
 unfold doT;rw [a.hx]
theorem zg5 (eo:EOk e) (so:TOk e s) (ho:HOk H) (p:ThA h o k i e s) (q:PH h o m j H) (km:k≠m):z01 Try.prog 9 [.ptr i 0,.ptr j 0] h (fun v h2=>v=.int .i64 (doT e s H).1∧StepT h o k m i j e (doT e s H).2 h2):=by
 obtain ⟨x,a⟩:=at_of eo so
 have p0:=p
 obtain ⟨⟨io,sid,av,p1,p2,p3,p4,p5,p6⟩,p7,p8⟩:=p
 rw [doT_at a]
 apply z9p
 refine z01.go (zih p0 a) ?_
 by_cases h17:x.Op=17
 ·rw [if_pos h17]
  have e1:decide (x.Op=17)=true:=decide_eq_true h17
  (repeat (first | simp -dsimp -implicitDefEqProofs (disch:=omega) only [↓rP,rA,↓reduceIte,reduceEqDiff,reduceAdd,reduceLeDiff,↓tyr,e1] | refine Cut.go ?_))
  exact StepT.same p0 q
 have e1:decide (x.Op=17)=false:=decide_eq_false h17
 rw [if_neg h17]
 by_cases hm:e.b.Most≤(s.made:Nat)
 ·rw [if_pos hm]
  (repeat (first | simp -dsimp -implicitDefEqProofs (disch:=omega) only [↓rP,rA,↓reduceIte,reduceEqDiff,reduceAdd,reduceLeDiff,↓tyr,e1,z06 p1,thC] | refine Cut.go ?_))
  exact StepT.same p0 q
 rw [if_neg hm]
 obtain ⟨H1,hH1⟩:∃ H1,H1=h.push (.row 40 x.cells):=⟨_,rfl⟩
 have k1:Keeps h H1 (fun _=>False):=by rw [hH1];exact Keeps.one _ _
 obtain ⟨o1,ho1⟩:∃ o1,o1=newO h o (k+m+1):=⟨_,rfl⟩
 have ag1:Agr h o o1:=by rw [ho1];exact z5d _ _ _
 have on:o1 h.next=k+m+1:=by rw [ho1];exact za3 (Nat.le_refl _)
 have pa:=p0.frame k1 ag1 (fun _ _ e=>e)
 have qa:=q.frame k1 ag1 (fun _ _ e=>e)
 have ob:H1.objs h.next=some (.row 40 x.cells):=by rw [hH1];exact z0v _ _
 have hn:h.next<H1.next:=by rw [hH1];exact Nat.lt_succ_self _
 have lx:∀ J:AV→Prop,z0r (some 8) (.ptr h.next 0) H1 J=J (.agg x.cells):=fun J=>by rw [z06 ob];exact z07.call x J
 (repeat (first | simp -dsimp -implicitDefEqProofs (disch:=omega) only [↓rP,rA,↓reduceIte,reduceEqDiff,reduceAdd,reduceLeDiff,↓tyr,e1,z06 p1,thC] | refine Cut.go ?_))
 refine z01.go (zq2 p0 a) ?_
 (repeat (first | simp -dsimp -implicitDefEqProofs (disch:=omega) only [↓rP,rA,↓reduceIte,reduceEqDiff,reduceAdd,reduceLeDiff,↓tyr] | refine Cut.go ?_))
 rw [←hH1]
 refine (a.act pa qa ho km).mono ?_
 rintro _ h2 ⟨rfl,o2,ag2,r1,r2,k2⟩
 have agf:Agr h o o2:=ag1.trans k1.next ag2
 have kf:Keeps h h2 (fun x=>o x=k∨o x=m):=(k1.mono (fun _ e=>e.elim)).trans k2 (fun y hy e=>by rw [ag1 y hy] at e;exact e)
 by_cases ht:(actT e s H x).1=0
 ·rw [if_neg (by simp [ht])]
  have ob2:h2.objs h.next=some (.row 40 x.cells):=by rw [k2.objs _ hn (by omega)];exact ob
  have lx2:∀ J:AV→Prop,z0r (some 8) (.ptr h.next 0) h2 J=J (.agg x.cells):=fun J=>by rw [z06 ob2];exact z07.call x J
  (repeat (first | simp -dsimp -implicitDefEqProofs (disch:=omega) only [↓rP,rA,↓reduceIte,reduceEqDiff,reduceAdd,reduceLeDiff,↓tyr,ht,Int.reduceBNe,↓lx2] | refine Cut.go ?_))
  refine z01.go (a.goes r1 (fun q=>by rw [actT_14 q]) actT_pc.1) ?_
  by_cases hg:(zdo e (actT e s H x).2.1 x).2=0
  ·rw [if_neg (by simp [hg])]
   obtain ⟨t,et,et2⟩:∃ t:Nat,(zdo e (actT e s H x).2.1 x).1=t∧(zdo e (actT e s H x).2.1 x).1.toNat=t:=by
    unfold zdo
    split
    ·obtain ⟨z,hz,-,hz2⟩:=zfr (a.ix.to_ (by omega));exact ⟨z,hz,hz2⟩
    split
    ·obtain ⟨z,hz,-,hz2⟩:=zfr (a.ix.to_ (by omega));exact ⟨z,hz,hz2⟩
    ·exact ⟨_,rfl,rfl⟩
   have hmd:=(actT_pc (e:=e) (s:=s) (H:=H) (x:=x)).2
   have hms:=so.made
   rw [et2]
   generalize (actT e s H x).2.1=s' at *
   obtain ⟨⟨io',sid',av',q1,q2,q3,q4,q5,q6⟩,q7,q8⟩:=r1
   have hlen:(z6s e io' s' sid' av').length=17:=rfl
   obtain ⟨R1,hR1⟩:∃ R,R=AObj.row 68 (z6s e io' { s' with pc:=t } sid' av'):=⟨_,rfl⟩
   obtain ⟨R2,hR2⟩:∃ R,R=AObj.row 68 (z6s e io' { s' with pc:=t,made:=s.made+1 } sid' av'):=⟨_,rfl⟩
   have st1:∀ J:z00→Prop,z1f 1 (.ptr i 14) (.int .i64 (t:Nat)) h2 J=J (h2.put i R1):=fun J=>by rw [z1t q1 rfl (by rw [hlen];decide),hR1];rfl
   have o1':(h2.put i R1).objs i=some (.row 68 (z6s e io' { s' with pc:=t } sid' av')):=by rw [z5c,hR1]
   have st2:∀ J:z00→Prop,z1f 1 (.ptr i 15) (.int .i64 ((s.made+1:Nat):Int)) (h2.put i R1) J=J ((h2.put i R1).put i R2):=fun J=>by rw [z1t o1' rfl (show (15:Nat)<17 by decide),hR2];rfl
   have kq:Keeps h2 ((h2.put i R1).put i R2) (fun y=>y=i):=(Keeps.put _ _ _).trans (Keeps.put _ _ _) (fun _ _ e=>e)
   have hsi:sid'≠i:=fun q=>by rw [q,q1] at q3;cases q3
   (repeat (first | simp -dsimp -implicitDefEqProofs (disch:=omega) only [↓rP,rA,↓reduceIte,reduceEqDiff,reduceAdd,reduceLeDiff,↓tyr,hg,Int.reduceBNe,et,st1,z06 o1',thC,hmd,wkP s.made (by omega),st2] | refine Cut.go ?_))
   refine ⟨o2,agf,⟨⟨io',sid',av',by rw [z5c,hR2],q2,by rw [z1n hsi,z1n hsi];exact q3,q4,q5,?_⟩,q7,q8⟩,?_,?_⟩
   ·rcases q6 with q6 | ⟨q6,g,z4,z5,z6,z7⟩
    ·exact Or.inl q6
    ·have hgi:g≠i:=fun q=>by rw [q,q1] at z5;cases z5
     exact Or.inr ⟨q6,g,z4,by rw [z1n hgi,z1n hgi];exact z5,z6,z7⟩
   ·exact r2.frame kq (.refl _ _) (fun y e1 e2=>km (by rw [e2] at e1;exact q7.symm.trans e1))
   ·exact kf.trans kq (fun y hy e=>Or.inl (by rw [e];exact p7))
  ·rw [if_pos hg]
   (repeat (first | simp -dsimp -implicitDefEqProofs (disch:=omega) only [↓rP,rA,↓reduceIte,reduceEqDiff,reduceAdd,reduceLeDiff,↓tyr] | refine Cut.go ?_))
   exact ⟨o2,agf,r1,r2,kf⟩
 ·rw [if_pos ht]
  (repeat (first | simp -dsimp -implicitDefEqProofs (disch:=omega) only [↓rP,rA,↓reduceIte,reduceEqDiff,reduceAdd,reduceLeDiff,↓tyr] | refine Cut.go ?_))
  exact ⟨o2,agf,r1,r2,kf⟩
end
end Go.Proofs.Ytjlogcfggfmacaa
end

section
set_option maxRecDepth 8000
set_option maxHeartbeats 1000000
namespace Go.Proofs.Ytjlogcfggfmacaa
open Go.Abs
theorem CloneI_v (u:Option (List Int)) (hb:(slL u).length≤1000) (h:z00):z01 Try.prog 20 [slAV 1 encI u] h (fun v h2=>(∃ o,v=slAV 1 encI o∧slL o=slL u)∧h2=h):=by
 refine z01.result (enc:=fun o:Option (List Int)=>slAV 1 encI o) (Q:=fun o=>slL o=slL u) (fun o _=>zex _ o) ((Clone_raw u hb h).mono ?_)
 rintro v h2 (⟨h0,hv,rfl⟩ | ⟨h0,rfl,rfl⟩)
 ·refine ⟨fun _=>False,some [],h0.symm,?_,fun _ e=>e.elim,.refl _ _⟩
  rcases hv with rfl | rfl
  ·exact rz_nils 1
  ·exact rz_eml 1
 ·exact ⟨fun _=>False,some (slL u),rfl,RzV.gsl (by simp;omega) (RzE.same _ _),fun _ e=>e.elim,Keeps.one _ _⟩
theorem CloneU_v {h:z00} {id:Nat} {vs:List Nat} (ho:h.objs id=some (.row 56 (z1b vs))) (hl:vs.length≤1000):z01 Try.prog 24 [.sl id 0 vs.length 1] h (fun v h2=>(∃ o,v=slAV 1 encN o∧slL o=vs)∧h2=h):=by
 refine z01.result (enc:=fun o:Option (List Nat)=>slAV 1 encN o) (Q:=fun o=>slL o=vs) (fun o _=>ztj _ o) ?_
 have hs:z13 1 (.sl id 0 vs.length 1) h=some (vs.map encN):=by
  simp [z13,ho,chunk_one (z1b vs) vs.length (by simp [z1b])]
  simp [z1b,encN]
 have e:binA CmpK.slice BinOp.eql (.sl id 0 vs.length 1) AV.nils=some (.bool false):=rfl
 have b0:∀ (G:z00) (K:AV→z00→Prop),z0m false { e:=56,sz:=1,by_:=8 } [AV.int .u64 0] 0 [] G K=K .eml G:=fun G K=>rfl
 apply z8m
 (repeat simp -dsimp -implicitDefEqProofs (disch:=omega) only [↓rP,rA,↓reduceIte,reduceEqDiff,reduceAdd,reduceLeDiff,↓tyr,e,↓b0])
 simp only [z11,hs]
 cases vs with
 | nil=>exact ⟨fun _=>False,some [],rfl,rz_eml 1,fun _ e=>e.elim,.refl _ _⟩
 | cons a vs=>
  simp only [List.map_cons,zd2,if_true]
  refine ⟨by simp [bounded,maxLen] at hl ⊢;omega,?_⟩
  (repeat simp -dsimp -implicitDefEqProofs (disch:=omega) only [↓rP,rA,↓reduceIte,reduceEqDiff,reduceAdd,reduceLeDiff,↓tyr])
  exact ⟨fun _=>False,some (a::vs),rfl,RzV.gsl (by simp at hl ⊢;omega) (RzE.same _ _),fun _ e=>e.elim,Keeps.one _ _⟩
section
variable {h:z00} {o:z5g} {k m i j:Nat} {e:Ev} {s:Ts} {H:Hs} {x:In}
theorem zet (p:ThA h o k i e s) (hl:s.slots.length≤64):z01 Try.prog 12 [.ptr i 0] h (fun v h2=>(∃ o,v=slAV 1 encN o∧slL o=s.slots)∧h2=h):=by
 obtain ⟨⟨io,sid,av,p1,p2,p3,p4,p5,p6⟩,-,-⟩:=p
 apply z7i
 (repeat simp -dsimp -implicitDefEqProofs (disch:=omega) only [↓rP,rA,↓reduceIte,reduceEqDiff,reduceAdd,reduceLeDiff,↓tyr,z06 p1,thC])
 refine (CloneU_v p3 (by omega)).mono ?_
 rintro v h2 ⟨q,rfl⟩
 (repeat simp -dsimp -implicitDefEqProofs (disch:=omega) only [↓rP,rA,↓reduceIte,reduceEqDiff,reduceAdd,reduceLeDiff,↓tyr])
 exact q
theorem zdc (p:ThA h o k i e s):z01 Try.prog 14 [.ptr i 0] h (fun v h2=>PrAt h2 o k v s.out∧ThA h2 o k i e { s with out:=[] }∧Keeps h h2 (fun y=>o y=k)):=by
 obtain ⟨⟨io,sid,av,p1,p2,p3,p4,p5,p6⟩,p7,p8⟩:=p
 have hsi:sid≠i:=fun q=>by rw [q,p1] at p3;cases p3
 have kp:=Keeps.put h i (.row 68 (z6s e io { s with out:=[] } sid .nils))
 have st:∀ J:z00→Prop,z1f 1 (.ptr i 16) .nils h J=J (h.put i (.row 68 (z6s e io { s with out:=[] } sid .nils))):=fun J=>by rw [z1t p1 rfl (show (16:Nat)<17 by decide)];rfl
 apply z8j
 (repeat simp -dsimp -implicitDefEqProofs (disch:=omega) only [↓rP,rA,↓reduceIte,reduceEqDiff,reduceAdd,reduceLeDiff,↓tyr,z06 p1,thC,st])
 refine ⟨?_,⟨⟨io,sid,.nils,z5c _ _ _,p2,by rw [z1n hsi];exact p3,p4,p5,Or.inl ⟨rfl,rfl⟩⟩,p7,p8⟩,kp.mono (fun y e=>by rw [e];exact p7)⟩
 rcases p6 with p6 | ⟨q1,g,q2,q3,q4,q5⟩
 ·exact Or.inl p6
 ·have hgi:g≠i:=fun q=>by rw [q,p1] at q3;cases q3
  exact Or.inr ⟨q1,g,q2,by rw [z1n hgi];exact q3,q4,q5⟩
def s0 (b:Bd):Ts:=⟨List.replicate (slL b.Slots).length 0,0,0,[]⟩
theorem zoj (x:Im) (g:ImG x) (n:Nat) (b:Bd) (hb:(slL x.Code.Threads)[n]?=some b) (u:Option (List Int)) (hu:(slL u).length≤100) (h:z00) (o:z5g) (k:Nat):z01 Try.prog 8 [.agg x.cells,.int .i64 n,slAV 1 encI u] h (fun v h2=>∃ i,v=.ptr i 0∧ThA h2 (newO h o k) k i ⟨x,n,b,slL u⟩ (s0 b)∧Keeps h h2 (fun _=>False)):=by
 have hlt:=(List.getElem?_eq_some_iff.1 hb).1
 have hth:=(zid g.code).thr
 have hsl:=((zid g.code).slo _ _ hb).1
 have d0:decide ((n:Int)<0)=false:=by simp
 have e3:repC (slL b.Slots).length [.int .u64 0]=z1b (s0 b).slots:=by simp [repC,z1b,s0]
 have ls:(s0 b).slots.length=(slL b.Slots).length:=by simp [s0]
 have mk:∀ (h:z00) (K:AV→z00→Prop),z9h ⟨56,1,8⟩ [AV.int .u64 0] (.int .i64 (slL b.Slots).length) (.int .i64 (slL b.Slots).length) h K=K (.sl h.next 0 (slL b.Slots).length 1) (h.push (.row 56 (z1b (s0 b).slots))):=fun h K=>by
  simp only [z9h,Int.toNat_natCast,e3]
  apply propext
  constructor
  ·rintro ⟨-,-,-,-,-,hk⟩;exact hk
  ·intro hk;exact ⟨by omega,by omega,by omega,by omega,rfl,hk⟩
 have bl:∀ (io:Option (List Int)) (sid:Nat) (J:AV→Prop),z5e [(0,3),(3,8),(11,1),(12,1),(13,1),(14,1),(15,1),(16,1)] [AV.nils,.nils,.int .i64 0,.nils,.nils,.nils,.nils,.nils,.nils,.nils,.int .i64 0,.int .i64 0,.nils,.nils,.int .i64 0,.int .i64 0,.nils] [(0,.agg b.cells),(1,.agg x.cells),(2,.int .i64 (n:Nat)),(3,slAV 1 encI io),(4,.sl sid 0 (slL b.Slots).length 1)] J=J (.agg (z6s ⟨x,n,b,slL u⟩ io (s0 b) sid .nils)):=fun io sid J=>by
  unfold z6s
  rw [ls]
  cases io <;> rfl
 have bx:∀ (io:Option (List Int)) (sid:Nat) (G:z00) (J:AV→z00→Prop),pBox false 68 (.agg (z6s ⟨x,n,b,slL u⟩ io (s0 b) sid .nils)) G J=J (.ptr G.next 0) (G.push (.row 68 (z6s ⟨x,n,b,slL u⟩ io (s0 b) sid .nils))):=fun io sid G J=>by
  simp [pBox,AV.cells,AV.fits,z6s,zh4]
 have fin:∀ (G:z00) (sid:Nat) (io:Option (List Int)),slL io=slL u→G.objs sid=some (.row 56 (z1b (s0 b).slots))→sid<G.next→h.next≤sid→Keeps h G (fun _=>False)→∃ i,AV.ptr G.next 0=.ptr i 0∧ThA (G.push (.row 68 (z6s ⟨x,n,b,slL u⟩ io (s0 b) sid .nils))) (newO h o k) k i ⟨x,n,b,slL u⟩ (s0 b)∧Keeps h (G.push (.row 68 (z6s ⟨x,n,b,slL u⟩ io (s0 b) sid .nils))) (fun _=>False):=fun G sid io hio hs hlt hn kp=>
  ⟨G.next,rfl,⟨⟨io,sid,.nils,z0v _ _,hio,by rw [z1j hlt];exact hs,za3 hn,Nat.lt_succ_of_lt hlt,Or.inl ⟨rfl,rfl⟩⟩,za3 (Nat.le_trans hn (Nat.le_of_lt hlt)),Nat.lt_succ_self _⟩,kp.go (Keeps.one _ _)⟩
 obtain ⟨H1,hH1⟩:∃ H1,H1=h.push (.row 37 b.cells):=⟨_,rfl⟩
 have k1:Keeps h H1 (fun _=>False):=by rw [hH1];exact Keeps.one _ _
 have hn1:h.next<H1.next:=by rw [hH1];exact Nat.lt_succ_self _
 have ob:H1.objs h.next=some (.row 37 b.cells):=by rw [hH1];exact z0v _ _
 have ob2:=fun (z:AObj) (off:Nat) (kk:Option Nat) (J:AV→Prop)=>z06 (off:=off) (show (H1.push z).objs h.next=_ by rw [z1j hn1];exact ob) kk J
 have lx:∀ (G:z00) (J:AV→Prop),z0r (some 8) (.iptr x.cells) G J=J (.agg x.cells):=fun G J=>by rw [z0w];exact z0d.call x J
 apply zps
 (repeat simp -dsimp -implicitDefEqProofs (disch:=omega) only [↓rP,rQ,rO,rL,↓reduceIte,reduceEqDiff,reduceAdd,reduceLeDiff,↓tyr,d0,z02 hb,↓lx])
 rw [←hH1]
 refine ⟨?_,?_⟩
 ·refine (CloneI_v u (by omega) H1).mono ?_
  rintro _ H1 ⟨⟨io,rfl,hio⟩,rfl⟩
  (repeat simp -dsimp -implicitDefEqProofs (disch:=omega) only [↓rP,rQ,rO,rL,↓reduceIte,reduceEqDiff,reduceAdd,reduceLeDiff,↓tyr,z06 ob,ob2,↓lx,mk,bl,bx])
  exact fin _ _ io hio (z0v _ _) (Nat.lt_succ_self _) (Nat.le_of_lt hn1) (k1.go (Keeps.one _ _))
 ·(repeat simp -dsimp -implicitDefEqProofs (disch:=omega) only [↓rP,rQ,rO,rL,↓reduceIte,reduceEqDiff,reduceAdd,reduceLeDiff,↓tyr,z06 ob,ob2,↓lx,mk])
  refine (CloneI_v u (by omega) _).mono ?_
  rintro _ _ ⟨⟨io,rfl,hio⟩,rfl⟩
  (repeat simp -dsimp -implicitDefEqProofs (disch:=omega) only [↓rP,rQ,rO,rL,↓reduceIte,reduceEqDiff,reduceAdd,reduceLeDiff,↓tyr,z06 ob,ob2,↓lx,bl,bx])
  exact fin _ _ io hio (z0v _ _) (Nat.lt_succ_self _) (Nat.le_of_lt hn1) (k1.go (Keeps.one _ _))
end
end Go.Proofs.Ytjlogcfggfmacaa
end

section
set_option maxRecDepth 8000
set_option maxHeartbeats 1000000
namespace Go.Proofs.Ytjlogcfggfmacaa
open Go.Abs
theorem zoh (o u:Option (List Nat)) (hb:(slL o).length≤1000000) (h:z00):z01 Try.prog 11 [slAV 1 encN o,slAV 1 encN u] h (fun v h2=>v=.bool (decide (slL o=slL u))∧h2=h):=by
 apply zdx
 by_cases hl:(slL o).length=(slL u).length
 ·have el:(((slL o).length:Int) != ((slL u).length:Int))=false:=by simp;omega
  (repeat simp -dsimp -implicitDefEqProofs (disch:=omega) only [↓rP,rA,↓reduceIte,reduceEqDiff,reduceAdd,reduceLeDiff,↓tyr,el])
  refine zdd z08 (by kernel_rfl) (slL o).length (fun j=>frOf [(0,slAV 1 encN o),(1,slAV 1 encN u),(12,.int .i64 (slL o).length),(13,.int .i64 j)]) (fun j hh=>(slL o).take j=(slL u).take j∧hh=h) ⟨by simp,rfl⟩ ?_
  rintro j h hj ⟨ht,rfl⟩
  apply zbj
  (repeat simp -dsimp -implicitDefEqProofs (disch:=omega) only [↓rP,rA,↓reduceIte,reduceEqDiff,reduceAdd,reduceLeDiff,↓tyr])
  refine z0c (fun hjl=>?_) (fun hjl=>?_)
  ·obtain ⟨x,hx⟩:∃ x,(slL o)[j]?=some x:=⟨_,List.getElem?_eq_getElem (by omega)⟩
   obtain ⟨y,hy⟩:∃ y,(slL u)[j]?=some y:=⟨_,List.getElem?_eq_getElem (by omega)⟩
   (repeat simp -dsimp -implicitDefEqProofs (disch:=omega) only [↓rP,rA,↓reduceIte,reduceEqDiff,reduceAdd,reduceLeDiff,↓tyr,z02 hx,z02 hy,↓ld_encN])
   refine z16 (fun he=>?_) (fun he=>?_)
   ·have ne:¬ slL o=slL u:=fun e=>he (by rw [e,hy] at hx;cases hx;rfl)
    (repeat simp -dsimp -implicitDefEqProofs (disch:=omega) only [↓rP,rA,↓reduceIte,reduceEqDiff,reduceAdd,reduceLeDiff,↓tyr])
    simp [ne]
   ·have he:x=y:=by omega
    subst he
    (repeat simp -dsimp -implicitDefEqProofs (disch:=omega) only [↓rP,rA,↓reduceIte,reduceEqDiff,reduceAdd,reduceLeDiff,↓tyr,wkP j (by omega)])
    exact forN (by omega) ⟨zi8 ht hx hy,rfl⟩
  ·have e:slL o=slL u:=zkq hl ht (by omega)
   (repeat simp -dsimp -implicitDefEqProofs (disch:=omega) only [↓rP,rA,↓reduceIte,reduceEqDiff,reduceAdd,reduceLeDiff,↓tyr])
   simp [e]
 ·have el:(((slL o).length:Int) != ((slL u).length:Int))=true:=by simp;omega
  have ne:¬ slL o=slL u:=fun e=>hl (by rw [e])
  (repeat simp -dsimp -implicitDefEqProofs (disch:=omega) only [↓rP,rA,↓reduceIte,reduceEqDiff,reduceAdd,reduceLeDiff,↓tyr,el])
  simp [ne]
theorem neqT (x y:Td):binA (.flat [.int,.bool,.int]) .neq (.agg x.cells) (.agg y.cells)=some (.bool (!decide (x=y))):=by
 obtain ⟨a1,a2,a3⟩:=x
 obtain ⟨b1,b2,b3⟩:=y
 simp only [binA,zq9,z1q,eqn,z0y.cells]
 by_cases q1:a1=b1 <;> by_cases q2:a2=b2 <;> by_cases q3:a3=b3 <;> simp [q1,q2,q3] <;> omega
theorem zly (o u:Option (List Td)) (hb:(slL o).length≤1000000) (h:z00):z01 Try.prog 13 [slAV 3 z0y.cells o,slAV 3 z0y.cells u] h (fun v h2=>v=.bool (decide (slL o=slL u))∧h2=h):=by
 apply zd3
 by_cases hl:(slL o).length=(slL u).length
 ·have el:(((slL o).length:Int) != ((slL u).length:Int))=false:=by simp;omega
  (repeat simp -dsimp -implicitDefEqProofs (disch:=omega) only [↓rP,rA,↓reduceIte,reduceEqDiff,reduceAdd,reduceLeDiff,↓tyr,el])
  refine zdd z08 (by kernel_rfl) (slL o).length (fun j=>frOf [(0,slAV 3 z0y.cells o),(1,slAV 3 z0y.cells u),(12,.int .i64 (slL o).length),(13,.int .i64 j)]) (fun j hh=>(slL o).take j=(slL u).take j∧hh=h) ⟨by simp,rfl⟩ ?_
  rintro j h hj ⟨ht,rfl⟩
  apply zab
  (repeat simp -dsimp -implicitDefEqProofs (disch:=omega) only [↓rP,rA,↓reduceIte,reduceEqDiff,reduceAdd,reduceLeDiff,↓tyr])
  refine z0c (fun hjl=>?_) (fun hjl=>?_)
  ·obtain ⟨x,hx⟩:∃ x,(slL o)[j]?=some x:=⟨_,List.getElem?_eq_getElem (by omega)⟩
   obtain ⟨y,hy⟩:∃ y,(slL u)[j]?=some y:=⟨_,List.getElem?_eq_getElem (by omega)⟩
   by_cases he:x=y
   ·have e1:(!decide (x=y))=false:=by simp [he]
    (repeat simp -dsimp -implicitDefEqProofs (disch:=omega) only [↓rP,rA,↓reduceIte,reduceEqDiff,reduceAdd,reduceLeDiff,↓tyr,z02 hx,z02 hy,neqT,e1,wkP j (by omega)])
    exact forN (by omega) ⟨zi8 ht hx (by rw [he];exact hy),rfl⟩
   ·have e1:(!decide (x=y))=true:=by simp [he]
    have ne:¬ slL o=slL u:=fun e=>he (by rw [e,hy] at hx;cases hx;rfl)
    (repeat simp -dsimp -implicitDefEqProofs (disch:=omega) only [↓rP,rA,↓reduceIte,reduceEqDiff,reduceAdd,reduceLeDiff,↓tyr,z02 hx,z02 hy,neqT,e1])
    simp [ne]
  ·have e:slL o=slL u:=zkq hl ht (by omega)
   (repeat simp -dsimp -implicitDefEqProofs (disch:=omega) only [↓rP,rA,↓reduceIte,reduceEqDiff,reduceAdd,reduceLeDiff,↓tyr])
   simp [e]
 ·have el:(((slL o).length:Int) != ((slL u).length:Int))=true:=by simp;omega
  have ne:¬ slL o=slL u:=fun e=>hl (by rw [e])
  (repeat simp -dsimp -implicitDefEqProofs (disch:=omega) only [↓rP,rA,↓reduceIte,reduceEqDiff,reduceAdd,reduceLeDiff,↓tyr,el])
  simp [ne]
theorem PH_New (n:Nat) (hn:n≤8) (h:z00) (o:z5g) (m:Nat):z01 Try.prog 7 [.int .i64 (n:Nat)] h (fun v h2=>∃ j,v=.ptr j 0∧PH h2 (newO h o m) m j ⟨st0,List.replicate n 0⟩∧Keeps h h2 (fun _=>False)):=by
 refine (zr8 n hn n (Or.inl (by omega)) h).mono ?_
 rintro v h2 ⟨rfl,p1,p2,p3,p4⟩
 refine ⟨_,rfl,⟨_,h.next,by simpa using p1,fun x hx=>za3 (by omega),p2,za3 (Nat.le_refl _),by omega,by omega⟩,p4⟩
theorem hok0 {n:Nat} (hn:n≤8):HOk ⟨st0,List.replicate n 0⟩:=⟨fun v hv=>by rw [List.eq_of_mem_replicate hv];unfold okN;omega,by simpa using hn,fun k t ht=>by simp [st0] at ht⟩
theorem tok0 {e:Ev} (eo:EOk e):TOk e (s0 e.b):=by
 obtain ⟨h1,h2,h3,h4,h5,h6,h7⟩:=zbg eo.g.code
 have h8:=z1p.1 h7 e.n e.b eo.bd
 unfold zb5 z9s at h8
 simp only [Bool.and_eq_true,decide_eq_true_eq] at h8
 exact ⟨by simp [s0],fun v hv=>by rw [List.eq_of_mem_replicate hv];unfold okN;omega,by have:=h8.1.1.1.1.1.1.2;simp only [s0];omega,Nat.zero_le _,Nat.zero_le _⟩
def aB:Bd:=⟨none,some [⟨11,0,0,0,0,0,some [⟨1,0,1⟩],none⟩,⟨17,0,0,0,0,0,none,none⟩],9⟩
def aI:Im:=⟨⟨none,none,some [aB],none,none⟩,none,none,0⟩
theorem aI_g:ImG aI:=by
 refine ⟨?_,⟨small_of (by decide +kernel),by decide,by decide,fun l hl=>by cases hl⟩,?_,rfl⟩
 ·simp [aI,aB,z0d.ok,z0l.ok,z0q.ok,z07.ok,z0a.ok,z09.ok,z0s.ok,z0b.ok,okSl,okI,okT,okN,maxLen]
 have ht:zf0 aI.Code=true:=by
  unfold zf0
  rw [z1p]
  intro t b hb
  have:t=0:=by
   have:=(List.getElem?_eq_some_iff.1 hb).1
   simpa [aI] using this
  subst this
  obtain rfl:aB=b:=by simpa [aI] using hb
  have hi:zgf aI.Code ((0:Nat):Int) aB=true:=by
   unfold zgf
   rw [z1p]
   intro k x hx
   have hk:k<2:=by
    have:=(List.getElem?_eq_some_iff.1 hx).1
    simpa [aB] using this
   rcases (by omega:k=0∨k=1) with rfl | rfl
   all_goals (simp [aB] at hx;subst hx)
   ·have hg:zff [⟨1,0,1⟩] (([]:List Lo).length:Nat)=true:=by
     simp only [zff,decide_eq_true_eq]
     refine ⟨fun k hk x hx=>?_,by decide,by decide⟩
     obtain rfl:k=0:=by simp at hk;exact hk
     cases hx
     exact ⟨by decide,by decide⟩
    unfold z0z z2z
    rw [if_neg (by decide),if_neg (by decide),if_neg (by decide),if_neg (by decide),if_pos (by decide)]
    simp only [slL,aB,Option.getD_some]
    rw [hg]
    decide +kernel
   ·decide +kernel
  have hb:z9s aI.Code aB=true:=by decide +kernel
  have hl:lastB aB=true:=by decide +kernel
  unfold zb5
  rw [hb,hl,hi];rfl
 unfold okC
 rw [ht]
 decide +kernel
def aE:Ev:=⟨aI,0,aB,[]⟩
theorem aE_ok:EOk aE:=⟨aI_g,rfl,by decide⟩
theorem aE_do:doT aE (s0 aB) ⟨st0,[]⟩=(0,⟨[],1,1,[⟨0,false,1⟩]⟩,⟨st0,[]⟩):=by
 have hg:zmr [⟨1,0,1⟩] (([]:List Nat).length:Nat):=by
  refine ⟨fun k hk x hx=>?_,by decide,by decide⟩
  obtain rfl:k=0:=by simp at hk;exact hk
  cases hx
  exact ⟨by decide,by decide⟩
 have ev:evT aE (s0 aB) (some [⟨1,0,1⟩])=(1,0):=by
  unfold evT zio
  split
  ·rfl
  ·rename_i q;exact absurd hg q
 have hx:(slL aE.b.Code)[(s0 aB).pc]?=some ⟨11,0,0,0,0,0,some [⟨1,0,1⟩],none⟩:=rfl
 have ac:actT aE (s0 aB) ⟨st0,[]⟩ ⟨11,0,0,0,0,0,some [⟨1,0,1⟩],none⟩=(0,⟨[],0,0,[⟨0,false,1⟩]⟩,⟨st0,[]⟩):=by
  unfold actT
  simp [ev]
  exact ⟨rfl,rfl,rfl,rfl⟩
 unfold doT
 rw [hx]
 simp only [ac]
 simp [zdo,s0,aE,aB]
theorem alive21_k (h:z00):z01 Try.prog 5 [] h (fun v h2=>v=.bool true∧Keeps h h2 (fun _=>False)):=by
 apply zdw
 (repeat simp -dsimp -implicitDefEqProofs (disch:=omega) only [↓rP,rA,↓reduceIte,reduceEqDiff,reduceAdd,reduceLeDiff,↓tyr,bsl_one,bsl_two,fits_isl,cells_isl])
 refine ⟨by decide,?_⟩
 rw [z1a (by rfl) (by rfl)]
 change @later (z00→Prop) _ _ (h.push (.row 32 aI.cells))
 have k1:=Keeps.one h (.row 32 aI.cells)
 have l1:∀ J:AV→Prop,z0r (some 8) (.ptr h.next 0) (h.push (.row 32 aI.cells)) J=J (.agg aI.cells):=fun J=>by rw [z06 (z0v _ _)];exact z0d.call aI J
 generalize h.push (.row 32 aI.cells)=h1 at k1 l1 ⊢
 (repeat simp -dsimp -implicitDefEqProofs (disch:=omega) only [↓rP,rA,↓reduceIte,reduceEqDiff,reduceAdd,reduceLeDiff,↓tyr,↓l1])
 obtain ⟨o,ho⟩:∃ o:z5g,o=fun _=>0:=⟨_,rfl⟩
 refine (zoj aI aI_g 0 aB rfl none (by decide) h1 o 1).mono ?_
 rintro _ h2 ⟨i,rfl,p,k2⟩
 (repeat simp -dsimp -implicitDefEqProofs (disch:=omega) only [↓rP,rA,↓reduceIte,reduceEqDiff,reduceAdd,reduceLeDiff,↓tyr])
 refine (PH_New 0 (by decide) h2 (newO h1 o 1) 2).mono ?_
 rintro _ h3 ⟨j,rfl,q,k3⟩
 have p3:=p.frame k3 (z5d _ _ 2) (fun _ _ e=>e)
 (repeat simp -dsimp -implicitDefEqProofs (disch:=omega) only [↓rP,rA,↓reduceIte,reduceEqDiff,reduceAdd,reduceLeDiff,↓tyr])
 refine (zg5 aE_ok (tok0 aE_ok) (hok0 (n:=0) (by decide)) p3 q (by decide)).mono ?_
 rintro _ h4 ⟨rfl,o4,ag4,p4,q4,k4⟩
 have e0:doT aE (s0 aE.b) ⟨st0,List.replicate 0 0⟩=(0,⟨[],1,1,[⟨0,false,1⟩]⟩,⟨st0,[]⟩):=aE_do
 rw [e0] at p4 q4 ⊢
 (repeat simp -dsimp -implicitDefEqProofs (disch:=omega) only [↓rP,rA,↓reduceIte,reduceEqDiff,reduceAdd,reduceLeDiff,↓tyr])
 refine (zdc p4).mono ?_
 rintro v h5 ⟨p5,p6,k5⟩
 rcases p5 with ⟨e,-⟩ | ⟨-,g,rfl,-,-,-⟩
 ·cases e
 have at5:At aE ⟨[],1,1,[]⟩ ⟨17,0,0,0,0,0,none,none⟩:=by
  obtain ⟨x,a⟩:=at_of (e:=aE) (s:=⟨[],1,1,[]⟩) aE_ok ⟨rfl,(fun _ e=>nomatch e),by decide,by decide,by decide⟩
  have hx:=a.hx
  cases hx
  exact a
 have d17:decide ((17:Int)=17)=true:=rfl
 have i0:∀ J:AV→Prop,z0f (.slice 3) (.gsl g 3 ([⟨0,false,1⟩].map z0y.cells)) (.int .i64 0) J=J (.iptr (⟨0,false,1⟩:Td).cells):=fun J=>by simp [z0f]
 have i2:∀ J:AV→Prop,pLen .slice (.gsl g 3 ([⟨0,false,1⟩].map z0y.cells)) J=J (.int .i64 1):=fun J=>by simp
 (repeat simp -dsimp -implicitDefEqProofs (disch:=omega) only [↓rP,rA,↓reduceIte,reduceEqDiff,reduceAdd,reduceLeDiff,↓tyr,↓i0,↓i2,Int.reduceBEq])
 refine z01.go (zih p6 at5) ?_
 (repeat simp -dsimp -implicitDefEqProofs (disch:=omega) only [↓rP,rA,↓reduceIte,reduceEqDiff,reduceAdd,reduceLeDiff,↓tyr,d17])
 refine z01.go (zks p6) ?_
 (repeat simp -dsimp -implicitDefEqProofs (disch:=omega) only [↓rP,rA,↓reduceIte,reduceEqDiff,reduceAdd,reduceLeDiff,↓tyr])
 have k13:=(k1.go k2).go k3
 have z:∀ x,x<h.next→newO h2 (newO h1 o 1) 2 x=0:=fun x hx=>by
  rw [z5d _ _ _ x (Nat.lt_of_lt_of_le hx (k1.go k2).next),z5d _ _ _ x (Nat.lt_of_lt_of_le hx k1.next),ho]
 have z4:∀ x,x<h.next→o4 x=0:=fun x hx=>(ag4 x (Nat.lt_of_lt_of_le hx k13.next)).trans (z x hx)
 have k14:Keeps h h4 (fun _=>False):=k13.trans k4 (fun x hx e=>by rw [z x hx] at e;omega)
 exact ⟨rfl,k14.trans k5 (fun x hx e=>by rw [z4 x hx] at e;omega)⟩
theorem zj9 (h:z00):z01 Try.prog 5 [] h (fun v h2=>v=.bool true∧h2=h):=z01.forget (by simp [z1u]) (alive21_k h)
end Go.Proofs.Ytjlogcfggfmacaa
end

section
set_option maxRecDepth 8000
set_option maxHeartbeats 1000000
namespace Go.Proofs.Ytjlogcfggfmacaa
open Go.Abs
def haltI:In:=⟨17,0,0,0,0,0,none,none⟩
theorem Next_nil (h:z00):z01 Try.prog 21 [.nilp] h (fun v h2=>v=.agg haltI.cells∧h2=h):=by
 refine z01.forget (zle _ haltI) ?_
 have st:∀ (G:z00) (a0 a1 a2 a3 a4 a5 a6 a7:AV) (J:z00→Prop),z1f 8 (.ptr G.next 0) (.agg [a0,a1,a2,a3,a4,a5,a6,a7]) (G.push (.row 40 [AV.int .i64 0,.int .i64 0,.int .i64 0,.int .i64 0,.int .i64 0,.int .i64 0,.nils,.nils])) J=J (G.push (.row 40 [a0,a1,a2,a3,a4,a5,a6,a7])):=fun G a0 a1 a2 a3 a4 a5 a6 a7 J=>by rw [z1a (by rfl) (by rfl)]
 apply z8i
 (repeat simp -dsimp -implicitDefEqProofs (disch:=omega) only [↓rP,rA,↓reduceIte,reduceEqDiff,reduceAdd,reduceLeDiff,↓tyr,st])
 exact ⟨rfl,Keeps.one _ _⟩
theorem zpx (h:z00):z01 Try.prog 15 [.nilp] h (fun v h2=>v=.bool true∧h2=h):=by
 apply z7h
 refine z01.go (Next_nil h) ?_
 have e:(haltI.Op == 17)=true:=rfl
 (repeat simp -dsimp -implicitDefEqProofs (disch:=omega) only [↓rP,rA,↓reduceIte,reduceEqDiff,reduceAdd,reduceLeDiff,↓tyr,e])
theorem Do_nil (j:AV) (h:z00):z01 Try.prog 9 [.nilp,j] h (fun v h2=>v=.int .i64 0∧h2=h):=by
 apply z9p
 refine z01.go (zpx h) ?_
 (repeat simp -dsimp -implicitDefEqProofs (disch:=omega) only [↓rP,rA,↓reduceIte,reduceEqDiff,reduceAdd,reduceLeDiff,↓tyr])
theorem Pc_nil (h:z00):z01 Try.prog 10 [.nilp] h (fun v h2=>v=.int .i64 0∧h2=h):=by
 apply z9q
 (repeat simp -dsimp -implicitDefEqProofs (disch:=omega) only [↓rP,rA,↓reduceIte,reduceEqDiff,reduceAdd,reduceLeDiff,↓tyr])
theorem Made_nil (h:z00):z01 Try.prog 16 [.nilp] h (fun v h2=>v=.int .i64 0∧h2=h):=by
 apply z8h
 (repeat simp -dsimp -implicitDefEqProofs (disch:=omega) only [↓rP,rA,↓reduceIte,reduceEqDiff,reduceAdd,reduceLeDiff,↓tyr])
theorem Slots_nil (h:z00):z01 Try.prog 12 [.nilp] h (fun v h2=>v=.nils∧h2=h):=by
 apply z7i
 (repeat simp -dsimp -implicitDefEqProofs (disch:=omega) only [↓rP,rA,↓reduceIte,reduceEqDiff,reduceAdd,reduceLeDiff,↓tyr])
theorem Take_nil (h:z00):z01 Try.prog 14 [.nilp] h (fun v h2=>v=.nils∧h2=h):=by
 apply z8j
 (repeat simp -dsimp -implicitDefEqProofs (disch:=omega) only [↓rP,rA,↓reduceIte,reduceEqDiff,reduceAdd,reduceLeDiff,↓tyr])
theorem zt0 (h:z00):z01 Try.prog 17 [.nilp] h (fun v h2=>v=.int .i64 (-1)∧h2=h):=by
 apply zc2
 (repeat simp -dsimp -implicitDefEqProofs (disch:=omega) only [↓rP,rA,↓reduceIte,reduceEqDiff,reduceAdd,reduceLeDiff,↓tyr])
theorem doT_made {e:Ev} {s:Ts} {H:Hs} {x:In} (a:At e s x) (h17:x.Op≠17) (ht:(doT e s H).1=0):(doT e s H).2.1.made=s.made+1∧(s.made:Int)<e.b.Most:=by
 rw [doT_at a,if_neg h17] at ht ⊢
 split at ht
 ·cases ht
 rename_i q
 rw [if_neg q]
 split at ht
 ·rename_i q2;exact absurd ht q2
 rename_i q2
 rw [if_neg q2]
 split at ht
 ·rename_i q3;exact absurd ht q3
 rename_i q3
 rw [if_neg q3]
 exact ⟨rfl,by omega⟩
end Go.Proofs.Ytjlogcfggfmacaa
end

section
set_option maxRecDepth 8000
set_option maxHeartbeats 1000000
namespace Go.Proofs.Ytjlogcfggfmacaa
open Go.Abs
theorem ends_11 {x:Im} {n:Nat} {b:Bd} (hb:(slL x.Code.Threads)[n]?=some b) {inp:List Int} (eo:EOk ⟨x,n,b,inp⟩) {h:z00} {o:z5g} {i j:Nat} {s:Ts} {H:Hs} (so:TOk ⟨x,n,b,inp⟩ s) (ho:HOk H) (p:ThA h o 1 i ⟨x,n,b,inp⟩ s) (q:PH h o 2 j H) (hm:s.made=0) (hm0:0≤b.Most) (hm1:b.Most≤4096) (Q:z1k→Fr→z00→Prop)
  (hQ:∀ hh,Q .ret (frOf [(6,.bool true)]) hh) :
  WP Try.prog 99 (.loop z2p) (frOf [(1,.int .i64 n),(3,.iptr x.cells),(7,.ptr j 0),(8,.ptr i 0),(10,.int .i64 0)]) h Q:=by
 obtain ⟨e,he⟩:∃ e:Ev,e=⟨x,n,b,inp⟩:=⟨_,rfl⟩
 have eb:e.b=b:=by rw [he]
 rw [←he] at eo so p
 obtain ⟨I,hI⟩:∃ I:Nat→Fr→z00→Prop,I=(fun m fr hh=>∃ (k:Nat) (o:z5g) (s:Ts) (H:Hs),m=5000-k∧(k:Int)≤b.Most∧s.made=k∧TOk e s∧HOk H∧ThA hh o 1 i e s∧PH hh o 2 j H∧fr=frOf [(1,.int .i64 n),(3,.iptr x.cells),(7,.ptr j 0),(8,.ptr i 0),(10,.int .i64 k)]):=⟨_,rfl⟩
 refine z0x z08 (by kernel_rfl) I 5000 (by rw [hI];exact ⟨0,o,s,H,rfl,by omega,hm,so,ho,p,q,rfl⟩) ?_
 intro m fr h hi
 rw [hI] at hi
 obtain ⟨k,o,s,H,rfl,hk,hmk,so,ho,p,q,rfl⟩:=hi
 obtain ⟨x1,a⟩:=at_of eo so
 apply z8f
 have e1:decide ((k:Int)≤b.Most)=true:=decide_eq_true hk
 have ek:(((s.made:Nat):Int) == (k:Nat))=true:=by rw [hmk];simp
 (repeat simp -dsimp -implicitDefEqProofs (disch:=omega) only [↓rP,rA,↓reduceIte,reduceEqDiff,reduceAdd,reduceLeDiff,↓tyr,z02 hb,e1])
 refine z01.go (zih p a) ?_
 by_cases h17:x1.Op=17
 ·have e2:decide (x1.Op=17)=true:=decide_eq_true h17
  have d0:doT e s H=(0,s,H):=by rw [doT_at a,if_pos h17]
  (repeat simp -dsimp -implicitDefEqProofs (disch:=omega) only [↓rP,rA,↓reduceIte,reduceEqDiff,reduceAdd,reduceLeDiff,↓tyr,e2])
  refine (zg5 eo so ho p q (by decide)).mono ?_
  rintro _ h2 ⟨rfl,o2,ag,r1,r2,kp⟩
  rw [d0] at r1 ⊢
  (repeat simp -dsimp -implicitDefEqProofs (disch:=omega) only [↓rP,rA,↓reduceIte,reduceEqDiff,reduceAdd,reduceLeDiff,↓tyr,Int.reduceBEq])
  refine z01.go (zq1 r1) ?_
  (repeat simp -dsimp -implicitDefEqProofs (disch:=omega) only [↓rP,rA,↓reduceIte,reduceEqDiff,reduceAdd,reduceLeDiff,↓tyr,ek])
  exact hQ _
 ·have e2:decide (x1.Op=17)=false:=decide_eq_false h17
  (repeat simp -dsimp -implicitDefEqProofs (disch:=omega) only [↓rP,rA,↓reduceIte,reduceEqDiff,reduceAdd,reduceLeDiff,↓tyr,e2])
  refine (zg5 eo so ho p q (by decide)).mono ?_
  rintro _ h2 ⟨rfl,o2,ag,r1,r2,kp⟩
  by_cases ht:(doT e s H).1=0
  ·obtain ⟨m1,m2⟩:=doT_made a h17 ht
   obtain ⟨t1,t2⟩:=doT_ok eo so ho
   rw [eb] at m2
   (repeat simp -dsimp -implicitDefEqProofs (disch:=omega) only [↓rP,rA,↓reduceIte,reduceEqDiff,reduceAdd,reduceLeDiff,↓tyr,ht,Int.reduceBNe,wkP k (by omega)])
   rw [z04,hI]
   exact ⟨_,by omega,k+1,o2,_,_,rfl,by omega,by rw [m1,hmk],t1,t2,r1,r2,rfl⟩
  ·have d0:=doT_trap ht
   rw [d0] at r1
   (repeat simp -dsimp -implicitDefEqProofs (disch:=omega) only [↓rP,rA,↓reduceIte,reduceEqDiff,reduceAdd,reduceLeDiff,↓tyr])
   refine z01.go (zq1 r1) ?_
   (repeat simp -dsimp -implicitDefEqProofs (disch:=omega) only [↓rP,rA,↓reduceIte,reduceEqDiff,reduceAdd,reduceLeDiff,↓tyr,ek])
   exact hQ _
theorem ThreadEnds_does (x0:Im) (x1:Int) (x2:Option (List Int)) (k0:x0.ok) (h:z00):z01 Try.prog 4 [.agg x0.cells,.int .i64 x1,slAV 1 encI x2] h (fun v _=>v=.bool true):=by
 have lx:∀ (G:z00) (J:AV→Prop),z0r (some 8) (.iptr x0.cells) G J=J (.agg x0.cells):=fun G J=>by rw [z0w];exact z0d.call x0 J
 apply z9u
 (repeat simp -dsimp -implicitDefEqProofs (disch:=omega) only [↓rP,rA,↓reduceIte,reduceEqDiff,reduceAdd,reduceLeDiff,↓tyr])
 refine z01.go (zj9 h) ?_
 (repeat simp -dsimp -implicitDefEqProofs (disch:=omega) only [↓rP,rA,↓reduceIte,reduceEqDiff,reduceAdd,reduceLeDiff,↓tyr,↓lx])
 refine (zr7 x0 k0 x2 h).mono ?_
 rintro _ h ⟨⟨b,rfl,hb⟩,rfl⟩
 cases b with
 | false=>(repeat simp -dsimp -implicitDefEqProofs (disch:=omega) only [↓rP,rA,↓reduceIte,reduceEqDiff,reduceAdd,reduceLeDiff,↓tyr])
 | true=>
  obtain ⟨g,hi⟩:=hb rfl
  by_cases c1:x1<0
  ·have d1:decide (x1<0)=true:=decide_eq_true c1
   (repeat simp -dsimp -implicitDefEqProofs (disch:=omega) only [↓rP,rA,↓reduceIte,reduceEqDiff,reduceAdd,reduceLeDiff,↓tyr,d1])
  have d1:decide (x1<0)=false:=decide_eq_false c1
  by_cases c2:((slL x0.Code.Threads).length:Int)≤x1
  ·have d2:decide (((slL x0.Code.Threads).length:Int)≤x1)=true:=decide_eq_true c2
   (repeat simp -dsimp -implicitDefEqProofs (disch:=omega) only [↓rP,rA,↓reduceIte,reduceEqDiff,reduceAdd,reduceLeDiff,↓tyr,d1,d2])
  have d2:decide (((slL x0.Code.Threads).length:Int)≤x1)=false:=decide_eq_false c2
  obtain ⟨n,rfl⟩:∃ n:Nat,x1=n:=⟨x1.toNat,by omega⟩
  obtain ⟨b,hbd⟩:∃ b,(slL x0.Code.Threads)[n]?=some b:=⟨_,List.getElem?_eq_getElem (by omega)⟩
  have hg:=(zid g.code).glo
  obtain ⟨o,ho⟩:∃ o:z5g,o=fun _=>0:=⟨_,rfl⟩
  have eo:EOk ⟨x0,n,b,slL x2⟩:=⟨g,hbd,hi⟩
  have t0:=tok0 eo
  obtain ⟨x,a⟩:=at_of eo t0
  obtain ⟨-,-,-,hm1,hm0⟩:=ix_of g.code hbd a.hx
  (repeat simp -dsimp -implicitDefEqProofs (disch:=omega) only [↓rP,rA,↓reduceIte,reduceEqDiff,reduceAdd,reduceLeDiff,↓tyr,d1,d2])
  refine (PH_New _ hg h o 2).mono ?_
  rintro _ h2 ⟨j,rfl,q,k2⟩
  (repeat simp -dsimp -implicitDefEqProofs (disch:=omega) only [↓rP,rA,↓reduceIte,reduceEqDiff,reduceAdd,reduceLeDiff,↓tyr,↓lx])
  refine (zoj x0 g n b hbd x2 hi h2 (newO h o 2) 1).mono ?_
  rintro _ h3 ⟨i,rfl,p,k3⟩
  have q3:=q.frame k3 (z5d _ _ 1) (fun _ _ e=>e)
  (repeat simp -dsimp -implicitDefEqProofs (disch:=omega) only [↓rP,rA,↓reduceIte,reduceEqDiff,reduceAdd,reduceLeDiff,↓tyr])
  refine z01.go (Do_nil _ _) ?_
  (repeat simp -dsimp -implicitDefEqProofs (disch:=omega) only [↓rP,rA,↓reduceIte,reduceEqDiff,reduceAdd,reduceLeDiff,↓tyr,Int.reduceBNe])
  refine z01.go (zpx _) ?_
  (repeat simp -dsimp -implicitDefEqProofs (disch:=omega) only [↓rP,rA,↓reduceIte,reduceEqDiff,reduceAdd,reduceLeDiff,↓tyr])
  refine z01.go (Pc_nil _) ?_
  (repeat simp -dsimp -implicitDefEqProofs (disch:=omega) only [↓rP,rA,↓reduceIte,reduceEqDiff,reduceAdd,reduceLeDiff,↓tyr])
  refine z01.go (Made_nil _) ?_
  (repeat simp -dsimp -implicitDefEqProofs (disch:=omega) only [↓rP,rA,↓reduceIte,reduceEqDiff,reduceAdd,reduceLeDiff,↓tyr])
  refine z01.go (Slots_nil _) ?_
  (repeat simp -dsimp -implicitDefEqProofs (disch:=omega) only [↓rP,rA,↓reduceIte,reduceEqDiff,reduceAdd,reduceLeDiff,↓tyr])
  refine z01.go (Take_nil _) ?_
  (repeat simp -dsimp -implicitDefEqProofs (disch:=omega) only [↓rP,rA,↓reduceIte,reduceEqDiff,reduceAdd,reduceLeDiff,↓tyr,Int.reduceBNe])
  refine z01.go (zt0 _) ?_
  (repeat simp -dsimp -implicitDefEqProofs (disch:=omega) only [↓rP,rA,↓reduceIte,reduceEqDiff,reduceAdd,reduceLeDiff,↓tyr,Int.reduceBNe])
  refine ends_11 hbd eo t0 (hok0 hg) p q3 rfl hm0 hm1 _ (fun hh=>?_)
  (repeat simp -dsimp -implicitDefEqProofs (disch:=omega) only [↓rP,rA,↓reduceIte,reduceEqDiff,reduceAdd,reduceLeDiff,↓tyr])
end Go.Proofs.Ytjlogcfggfmacaa
end

section
set_option maxRecDepth 8000
set_option maxHeartbeats 1000000
namespace Go.Proofs.Ytjlogcfggfmacaa
open Go.Abs
def zfg (b:Bd):Prop:=∀ x∈slL b.Code,¬ (2≤x.Op∧x.Op≤10)
def H0:Hs:=⟨st0,[]⟩
noncomputable def goS (e:Ev) (s:Ts):Ts:=(doT e s H0).2.1
noncomputable def itS (e:Ev):Nat→Ts
 | 0=>s0 e.b
 | n+1=>goS e (itS e n)
theorem zkd {e:Ev} (hb:zfg e.b) (s:Ts):(doT e s H0).2=(goS e s,H0):=by
 unfold goS
 have:(doT e s H0).2.2=H0:=by
  unfold doT
  split
  ·rfl
  rename_i x hx
  have hx2:=hb x (List.mem_of_getElem? hx)
  have ha:(actT e s H0 x).2.2=H0:=by
   unfold actT
   rw [if_neg (by omega)]
   split
   ·split <;> rfl
   split
   ·have:loadT e s H0 x=(evT e s x.Items,H0.W):=by
     unfold loadT
     rw [if_neg (by omega),if_neg (by omega),if_neg (by omega),if_neg (by omega),if_neg (by omega)]
    rw [this]
    split <;> rfl
   ·rfl
  split
  ·rfl
  split
  ·rfl
  split
  ·exact ha
  split
  ·exact ha
  ·exact ha
 exact Prod.ext rfl this
theorem zlf {e:Ev} (eo:EOk e):∀ n,TOk e (itS e n)
 | 0=>tok0 eo
 | n+1=>(doT_ok eo (zlf eo n) (hok0 (n:=0) (by decide))).1
theorem PrAt.val {h:z00} {o:z5g} {k:Nat} {av:AV} {out:List Td} (p:PrAt h o k av out) (hl:out.length≤1000000):∃ u:Option (List Td),slL u=out∧∀ (c:Ctx) (w:World) (v:Value),VRel c w av v→VRel c w (slAV 3 z0y.cells u) v:=by
 rcases p with ⟨rfl,rfl⟩ | ⟨-,g,rfl,-,-,-⟩
 ·exact ⟨none,rfl,fun _ _ _ h=>h⟩
 ·exact ⟨some out,rfl,fun c w v h=>gsl_isl g 3 _ (by simpa using hl) c w v h⟩
section
variable {x:Im} {a b:Nat} {ba bb:Bd} {ea eb:Ev} {hp gp ix iy iu iv:Nat}
structure Mem (h:z00) (o:z5g) (ea eb:Ev) (hp gp ix iy iu iv:Nat) (sx sy su sv:Ts):Prop where
 mh:PH h o 1 hp H0
 mg:PH h o 2 gp H0
 mx:ThA h o 3 ix ea sx
 my:ThA h o 4 iy eb sy
 mu:ThA h o 5 iu ea su
 mv:ThA h o 6 iv eb sv
variable {h:z00} {o:z5g} {sx sy su sv:Ts}
theorem Mem.dox (m:Mem h o ea eb hp gp ix iy iu iv sx sy su sv) (eo:EOk ea) (so:TOk ea sx) (ho:zfg ea.b):z01 Try.prog 9 [.ptr ix 0,.ptr hp 0] h (fun v h2=>(∃ t,v=.int .i64 t)∧∃ o2,Mem h2 o2 ea eb hp gp ix iy iu iv (goS ea sx) sy su sv):=by
 refine (zg5 eo so (hok0 (n:=0) (by decide)) m.mx m.mh (by decide)).mono ?_
 rintro _ h2 ⟨rfl,o2,ag,r1,r2,kp⟩
 have e:(doT ea sx ⟨st0,List.replicate 0 0⟩).2=(goS ea sx,H0):=zkd ho sx
 rw [e] at r1 r2
 exact ⟨⟨_,rfl⟩,o2,r2,m.mg.frame kp ag (fun y e1 e2=>by omega),r1,m.my.frame kp ag (fun y e1 e2=>by omega),m.mu.frame kp ag (fun y e1 e2=>by omega),m.mv.frame kp ag (fun y e1 e2=>by omega)⟩
theorem Mem.doy (m:Mem h o ea eb hp gp ix iy iu iv sx sy su sv) (eo:EOk eb) (so:TOk eb sy) (ho:zfg eb.b):z01 Try.prog 9 [.ptr iy 0,.ptr hp 0] h (fun v h2=>(∃ t,v=.int .i64 t)∧∃ o2,Mem h2 o2 ea eb hp gp ix iy iu iv sx (goS eb sy) su sv):=by
 refine (zg5 eo so (hok0 (n:=0) (by decide)) m.my m.mh (by decide)).mono ?_
 rintro _ h2 ⟨rfl,o2,ag,r1,r2,kp⟩
 have e:(doT eb sy ⟨st0,List.replicate 0 0⟩).2=(goS eb sy,H0):=zkd ho sy
 rw [e] at r1 r2
 exact ⟨⟨_,rfl⟩,o2,r2,m.mg.frame kp ag (fun y e1 e2=>by omega),m.mx.frame kp ag (fun y e1 e2=>by omega),r1,m.mu.frame kp ag (fun y e1 e2=>by omega),m.mv.frame kp ag (fun y e1 e2=>by omega)⟩
theorem Mem.dou (m:Mem h o ea eb hp gp ix iy iu iv sx sy su sv) (eo:EOk ea) (so:TOk ea su) (ho:zfg ea.b):z01 Try.prog 9 [.ptr iu 0,.ptr gp 0] h (fun v h2=>(∃ t,v=.int .i64 t)∧∃ o2,Mem h2 o2 ea eb hp gp ix iy iu iv sx sy (goS ea su) sv):=by
 refine (zg5 eo so (hok0 (n:=0) (by decide)) m.mu m.mg (by decide)).mono ?_
 rintro _ h2 ⟨rfl,o2,ag,r1,r2,kp⟩
 have e:(doT ea su ⟨st0,List.replicate 0 0⟩).2=(goS ea su,H0):=zkd ho su
 rw [e] at r1 r2
 exact ⟨⟨_,rfl⟩,o2,m.mh.frame kp ag (fun y e1 e2=>by omega),r2,m.mx.frame kp ag (fun y e1 e2=>by omega),m.my.frame kp ag (fun y e1 e2=>by omega),r1,m.mv.frame kp ag (fun y e1 e2=>by omega)⟩
theorem Mem.dov (m:Mem h o ea eb hp gp ix iy iu iv sx sy su sv) (eo:EOk eb) (so:TOk eb sv) (ho:zfg eb.b):z01 Try.prog 9 [.ptr iv 0,.ptr gp 0] h (fun v h2=>(∃ t,v=.int .i64 t)∧∃ o2,Mem h2 o2 ea eb hp gp ix iy iu iv sx sy su (goS eb sv)):=by
 refine (zg5 eo so (hok0 (n:=0) (by decide)) m.mv m.mg (by decide)).mono ?_
 rintro _ h2 ⟨rfl,o2,ag,r1,r2,kp⟩
 have e:(doT eb sv ⟨st0,List.replicate 0 0⟩).2=(goS eb sv,H0):=zkd ho sv
 rw [e] at r1 r2
 exact ⟨⟨_,rfl⟩,o2,m.mh.frame kp ag (fun y e1 e2=>by omega),r2,m.mx.frame kp ag (fun y e1 e2=>by omega),m.my.frame kp ag (fun y e1 e2=>by omega),m.mu.frame kp ag (fun y e1 e2=>by omega),r1⟩
end
theorem apart_9 (l:Option (List In)) (hl:(slL l).length≤256) (A1 A2 A3 A4 A5 A6 A7:AV) (h:z00) (Q:z1k→Fr→z00→Prop)
  (h1:∀ hh,(∀ x∈slL l,¬ (2≤x.Op∧x.Op≤10))→Q (.exit 2) (frOf [(1,A1),(2,A2),(3,A3),(4,A4),(65,A5),(66,A6),(67,A7)]) hh) (h2:∀ hh,Q .ret (frOf [(8,.bool true)]) hh) :
  WP Try.prog 183 (.loop z2o) (frOf [(1,A1),(2,A2),(3,A3),(4,A4),(65,A5),(66,A6),(67,A7),(77,slAV 8 z07.cells l),(78,.int .i64 (slL l).length),(79,.int .i64 0)]) h Q:=by
 refine zdd z08 (by kernel_rfl) (slL l).length (fun j=>frOf [(1,A1),(2,A2),(3,A3),(4,A4),(65,A5),(66,A6),(67,A7),(77,slAV 8 z07.cells l),(78,.int .i64 (slL l).length),(79,.int .i64 j)]) (fun j hh=>∀ (i:Nat) x,i<j→(slL l)[i]?=some x→¬ (2≤x.Op∧x.Op≤10)) (fun i x hi=>by omega) ?_
 intro j hh hj ht
 apply z8e
 (repeat simp -dsimp -implicitDefEqProofs (disch:=omega) only [↓rP,rA,↓reduceIte,reduceEqDiff,reduceAdd,reduceLeDiff,↓tyr])
 refine z0c (fun hjl=>?_) (fun hjl=>?_)
 ·obtain ⟨x,hx⟩:∃ x,(slL l)[j]?=some x:=⟨_,List.getElem?_eq_getElem (by omega)⟩
  by_cases c1:2≤x.Op
  ·by_cases c2:x.Op≤10
   ·(repeat simp -dsimp -implicitDefEqProofs (disch:=omega) only [↓rP,rA,↓reduceIte,reduceEqDiff,reduceAdd,reduceLeDiff,↓tyr,z02 hx])
    exact h2 _
   ·(repeat simp -dsimp -implicitDefEqProofs (disch:=omega) only [↓rP,rA,↓reduceIte,reduceEqDiff,reduceAdd,reduceLeDiff,↓tyr,z02 hx,wkP j (by omega)])
    refine forN (by omega) fun i y hi hy=>?_
    by_cases e:i=j
    ·subst e;rw [hx] at hy;cases hy;omega
    ·exact ht i y (by omega) hy
  ·(repeat simp -dsimp -implicitDefEqProofs (disch:=omega) only [↓rP,rA,↓reduceIte,reduceEqDiff,reduceAdd,reduceLeDiff,↓tyr,z02 hx,wkP j (by omega)])
   refine forN (by omega) fun i y hi hy=>?_
   by_cases e:i=j
   ·subst e;rw [hx] at hy;cases hy;omega
   ·exact ht i y (by omega) hy
 ·(repeat simp -dsimp -implicitDefEqProofs (disch:=omega) only [↓rP,rA,↓reduceIte,reduceEqDiff,reduceAdd,reduceLeDiff,↓tyr])
  refine h1 hh fun x hx=>?_
  obtain ⟨i,hi⟩:=List.getElem?_of_mem hx
  exact ht i x (by have:=(List.getElem?_eq_some_iff.1 hi).1;omega) hi
theorem apart_6 {x:Im} (g:ImG x) {a b:Nat} {ba bb:Bd} (ha:(slL x.Code.Threads)[a]?=some ba) (hb:(slL x.Code.Threads)[b]?=some bb) (A3:AV) (h:z00) (Q:z1k→Fr→z00→Prop)
  (h1:∀ hh,zfg ba→zfg bb→Q (.exit 0) (frOf [(1,.int .i64 a),(2,.int .i64 b),(3,A3),(4,.iptr x.cells)]) hh) (h2:∀ hh,Q .ret (frOf [(8,.bool true)]) hh) :
  WP Try.prog 183 (.loop z2n) (frOf [(1,.int .i64 a),(2,.int .i64 b),(3,A3),(4,.iptr x.cells),(65,slAV 1 encI (some [(a:Int),(b:Int)])),(66,.int .i64 2),(67,.int .i64 0)]) h Q:=by
 refine zdd z08 (by kernel_rfl) 2 (fun j=>frOf [(1,.int .i64 a),(2,.int .i64 b),(3,A3),(4,.iptr x.cells),(65,slAV 1 encI (some [(a:Int),(b:Int)])),(66,.int .i64 2),(67,.int .i64 j)]) (fun j hh=>(1≤j→zfg ba)∧(2≤j→zfg bb)) ⟨fun _=>by omega,fun _=>by omega⟩ ?_
 rintro j hh hj ⟨t1,t2⟩
 apply z8d
 by_cases hj2:j<2
 ·obtain ⟨n,bd,hn,hbd,hok⟩:∃ (n:Nat) (bd:Bd),[(a:Int),(b:Int)][j]?=some (n:Int)∧(slL x.Code.Threads)[n]?=some bd∧(zfg bd→(1≤j+1→zfg ba)∧(2≤j+1→zfg bb)):=by
   rcases (by omega:j=0∨j=1) with rfl | rfl
   ·exact ⟨a,ba,rfl,ha,fun q=>⟨fun _=>q,fun _=>by omega⟩⟩
   ·exact ⟨b,bb,rfl,hb,fun q=>⟨fun _=>t1 (by omega),fun _=>q⟩⟩
  have hcl:=((zid g.code).slo _ _ hbd).2
  have e1:decide ((j:Int)<2)=true:=decide_eq_true (by omega)
  (repeat simp -dsimp -implicitDefEqProofs (disch:=omega) only [↓rP,rA,↓reduceIte,reduceEqDiff,reduceAdd,reduceLeDiff,↓tyr,e1,z02 (show (slL (some [(a:Int),(b:Int)]))[j]?=_ from hn),↓z8k,z02 hbd])
  refine apart_9 bd.Code hcl _ _ _ _ _ _ _ hh _ (fun h3 e=>?_) (fun h3=>?_)
  ·(repeat simp -dsimp -implicitDefEqProofs (disch:=omega) only [↓rP,rA,↓reduceIte,reduceEqDiff,reduceAdd,reduceLeDiff,↓tyr,wkP j (by omega)])
   exact forN (by omega) (hok e)
  ·(repeat simp -dsimp -implicitDefEqProofs (disch:=omega) only [↓rP,rA,↓reduceIte,reduceEqDiff,reduceAdd,reduceLeDiff,↓tyr])
   exact h2 _
 ·have e1:decide ((j:Int)<2)=false:=decide_eq_false (by omega)
  (repeat simp -dsimp -implicitDefEqProofs (disch:=omega) only [↓rP,rA,↓reduceIte,reduceEqDiff,reduceAdd,reduceLeDiff,↓tyr,e1])
  exact h1 hh (t1 (by omega)) (t2 (by omega))
section
variable {ea eb:Ev} {hp gp ix iy iu iv:Nat}
def evN (l:List Int) (j:Nat):Nat:=(l.take j).countP fun k=>k.tmod 2 == 0
theorem evN_succ {l:List Int} {j:Nat} {k:Int} (h:l[j]?=some k):evN l (j+1)=evN l j+if (k.tmod 2 == 0)=true then 1 else 0:=by
 unfold evN
 rw [List.take_add_one,h,List.countP_append]
 simp [List.countP_cons]
theorem evN_le (l:List Int) (j:Nat):evN l j≤j:=Nat.le_trans List.countP_le_length (by rw [List.length_take];omega)
theorem apart_20 (ts:Option (List Int)) (hl:(slL ts).length≤200) (eoa:EOk ea) (eob:EOk eb) (oa:zfg ea.b) (ob:zfg eb.b) {h:z00} {o:z5g} (m:Mem h o ea eb hp gp ix iy iu iv (itS ea 0) (itS eb 0) (itS ea 0) (itS eb 0)) (Q:z1k→Fr→z00→Prop)
  (hQ:∀ hh o n,n≤(slL ts).length→Mem hh o ea eb hp gp ix iy iu iv (itS ea n) (itS eb ((slL ts).length-n)) (itS ea 0) (itS eb 0)→Q (.exit 4) (frOf [(3,slAV 1 encI ts),(14,.ptr gp 0),(15,.ptr ix 0),(16,.ptr iy 0),(17,.ptr iu 0),(18,.ptr iv 0),(19,.int .i64 n)]) hh) :
  WP Try.prog 183 (.loop z2g) (frOf [(3,slAV 1 encI ts),(13,.ptr hp 0),(14,.ptr gp 0),(15,.ptr ix 0),(16,.ptr iy 0),(17,.ptr iu 0),(18,.ptr iv 0),(19,.int .i64 0),(107,slAV 1 encI ts),(108,.int .i64 (slL ts).length),(109,.int .i64 0)]) h Q:=by
 refine WP_for' (α:=z5g) z08 (by kernel_rfl) (slL ts).length (fun j _=>frOf [(3,slAV 1 encI ts),(13,.ptr hp 0),(14,.ptr gp 0),(15,.ptr ix 0),(16,.ptr iy 0),(17,.ptr iu 0),(18,.ptr iv 0),(19,.int .i64 (evN (slL ts) j:Nat)),(107,slAV 1 encI ts),(108,.int .i64 (slL ts).length),(109,.int .i64 j)]) (fun j o hh=>Mem hh o ea eb hp gp ix iy iu iv (itS ea (evN (slL ts) j)) (itS eb (j-evN (slL ts) j)) (itS ea 0) (itS eb 0)) o m ?_
 intro j o h hj m
 have hev:=evN_le (slL ts) j
 apply z7k
 (repeat simp -dsimp -implicitDefEqProofs (disch:=omega) only [↓rP,rA,↓reduceIte,reduceEqDiff,reduceAdd,reduceLeDiff,↓tyr])
 refine z0c (fun hjl=>?_) (fun hjl=>?_)
 ·obtain ⟨k,hk⟩:∃ x,(slL ts)[j]?=some x:=⟨_,List.getElem?_eq_getElem (by omega)⟩
  have hs:=evN_succ hk
  have rm:∀ ck,binA ck .rem (.int .i64 k) (.int .i64 2)=some (.int .i64 (k.tmod 2)):=fun ck=>by rw [binA_int_rem];rfl
  cases hb:(k.tmod 2 == 0) with
  | true=>
   rw [hb,if_pos rfl] at hs
   (repeat simp -dsimp -implicitDefEqProofs (disch:=omega) only [↓rP,rA,↓reduceIte,reduceEqDiff,reduceAdd,reduceLeDiff,↓tyr,z02 hk,↓z8k,rm,hb])
   refine (m.dox eoa (zlf eoa _) oa).mono ?_
   rintro _ h2 ⟨⟨t,rfl⟩,o2,m2⟩
   have e1:j+1-evN (slL ts) (j+1)=j-evN (slL ts) j:=by omega
   (repeat simp -dsimp -implicitDefEqProofs (disch:=omega) only [↓rP,rA,↓reduceIte,reduceEqDiff,reduceAdd,reduceLeDiff,↓tyr,wkP j (by omega),wkP (evN (slL ts) j) (by omega)])
   rw [←hs]
   exact forN' o2 (by omega) (by rw [e1,hs];exact m2)
  | false=>
   rw [hb,if_neg (by decide)] at hs
   (repeat simp -dsimp -implicitDefEqProofs (disch:=omega) only [↓rP,rA,↓reduceIte,reduceEqDiff,reduceAdd,reduceLeDiff,↓tyr,z02 hk,↓z8k,rm,hb])
   refine (m.doy eob (zlf eob _) ob).mono ?_
   rintro _ h2 ⟨⟨t,rfl⟩,o2,m2⟩
   have e1:j+1-evN (slL ts) (j+1)=(j-evN (slL ts) j)+1:=by omega
   have e2:evN (slL ts) (j+1)=evN (slL ts) j:=by omega
   (repeat simp -dsimp -implicitDefEqProofs (disch:=omega) only [↓rP,rA,↓reduceIte,reduceEqDiff,reduceAdd,reduceLeDiff,↓tyr,wkP j (by omega)])
   rw [←e2]
   exact forN' o2 (by omega) (by rw [e1,e2];exact m2)
 ·have e:j=(slL ts).length:=by omega
  rw [←e] at hQ ⊢
  (repeat simp -dsimp -implicitDefEqProofs (disch:=omega) only [↓rP,rA,↓reduceIte,reduceEqDiff,reduceAdd,reduceLeDiff,↓tyr])
  exact hQ h o _ hev m
theorem apart_28 (ts:AV) {n ny:Nat} (hn:n≤200) (eoa:EOk ea) (oa:zfg ea.b) {h:z00} {o:z5g} (m:Mem h o ea eb hp gp ix iy iu iv (itS ea n) (itS eb ny) (itS ea 0) (itS eb 0)) (Q:z1k→Fr→z00→Prop)
  (hQ:∀ hh o,Mem hh o ea eb hp gp ix iy iu iv (itS ea n) (itS eb ny) (itS ea n) (itS eb 0)→Q (.exit 6) (frOf [(3,ts),(14,.ptr gp 0),(15,.ptr ix 0),(16,.ptr iy 0),(17,.ptr iu 0),(18,.ptr iv 0),(19,.int .i64 n)]) hh) :
  WP Try.prog 183 (.loop z2h) (frOf [(3,ts),(14,.ptr gp 0),(15,.ptr ix 0),(16,.ptr iy 0),(17,.ptr iu 0),(18,.ptr iv 0),(19,.int .i64 n),(22,.int .i64 0)]) h Q:=by
 refine WP_for' (α:=z5g) z08 (by kernel_rfl) n (fun j _=>frOf [(3,ts),(14,.ptr gp 0),(15,.ptr ix 0),(16,.ptr iy 0),(17,.ptr iu 0),(18,.ptr iv 0),(19,.int .i64 n),(22,.int .i64 j)]) (fun j o hh=>Mem hh o ea eb hp gp ix iy iu iv (itS ea n) (itS eb ny) (itS ea j) (itS eb 0)) o m ?_
 intro j o h hj m
 apply z7l
 (repeat simp -dsimp -implicitDefEqProofs (disch:=omega) only [↓rP,rA,↓reduceIte,reduceEqDiff,reduceAdd,reduceLeDiff,↓tyr])
 refine z0c (fun hjl=>?_) (fun hjl=>?_)
 ·(repeat simp -dsimp -implicitDefEqProofs (disch:=omega) only [↓rP,rA,↓reduceIte,reduceEqDiff,reduceAdd,reduceLeDiff,↓tyr])
  refine (m.dou eoa (zlf eoa _) oa).mono ?_
  rintro _ h2 ⟨⟨t,rfl⟩,o2,m2⟩
  (repeat simp -dsimp -implicitDefEqProofs (disch:=omega) only [↓rP,rA,↓reduceIte,reduceEqDiff,reduceAdd,reduceLeDiff,↓tyr,wkP j (by omega)])
  exact forN' o2 (by omega) m2
 ·obtain rfl:j=n:=by omega
  (repeat simp -dsimp -implicitDefEqProofs (disch:=omega) only [↓rP,rA,↓reduceIte,reduceEqDiff,reduceAdd,reduceLeDiff,↓tyr])
  exact hQ h o m
theorem apart_32 (ts:Option (List Int)) {n:Nat} (hl:(slL ts).length≤200) (hn:n≤(slL ts).length) (eob:EOk eb) (ob:zfg eb.b) {h:z00} {o:z5g} {sx sy su:Ts} (m:Mem h o ea eb hp gp ix iy iu iv sx sy su (itS eb 0)) (Q:z1k→Fr→z00→Prop)
  (hQ:∀ hh o,Mem hh o ea eb hp gp ix iy iu iv sx sy su (itS eb ((slL ts).length-n))→Q (.exit 8) (frOf [(15,.ptr ix 0),(16,.ptr iy 0),(17,.ptr iu 0),(18,.ptr iv 0)]) hh) :
  WP Try.prog 183 (.loop z2i) (frOf [(3,slAV 1 encI ts),(14,.ptr gp 0),(15,.ptr ix 0),(16,.ptr iy 0),(17,.ptr iu 0),(18,.ptr iv 0),(23,.int .i64 n)]) h Q:=by
 refine WP_for' (α:=z5g) z08 (by kernel_rfl) ((slL ts).length-n) (fun j _=>frOf [(3,slAV 1 encI ts),(14,.ptr gp 0),(15,.ptr ix 0),(16,.ptr iy 0),(17,.ptr iu 0),(18,.ptr iv 0),(23,.int .i64 ((n+j:Nat):Int))]) (fun j o hh=>Mem hh o ea eb hp gp ix iy iu iv sx sy su (itS eb j)) o m ?_
 intro j o h hj m
 apply z7m
 (repeat simp -dsimp -implicitDefEqProofs (disch:=omega) only [↓rP,rA,↓reduceIte,reduceEqDiff,reduceAdd,reduceLeDiff,↓tyr])
 refine z0c (fun hjl=>?_) (fun hjl=>?_)
 ·(repeat simp -dsimp -implicitDefEqProofs (disch:=omega) only [↓rP,rA,↓reduceIte,reduceEqDiff,reduceAdd,reduceLeDiff,↓tyr])
  refine (m.dov eob (zlf eob _) ob).mono ?_
  rintro _ h2 ⟨⟨t,rfl⟩,o2,m2⟩
  (repeat simp -dsimp -implicitDefEqProofs (disch:=omega) only [↓rP,rA,↓reduceIte,reduceEqDiff,reduceAdd,reduceLeDiff,↓tyr,wkP (n+j) (by omega)])
  exact forN' o2 (by omega) m2
 ·obtain rfl:j=(slL ts).length-n:=by omega
  (repeat simp -dsimp -implicitDefEqProofs (disch:=omega) only [↓rP,rA,↓reduceIte,reduceEqDiff,reduceAdd,reduceLeDiff,↓tyr])
  exact hQ h o m
end
theorem ThreadApart_does (x0:Im) (x1 x2:Int) (x3:Option (List Int)) (k0:x0.ok) (h:z00):z01 Try.prog 3 [.agg x0.cells,.int .i64 x1,.int .i64 x2,slAV 1 encI x3] h (fun v _=>v=.bool true):=by
 have lx:∀ (G:z00) (J:AV→Prop),z0r (some 8) (.iptr x0.cells) G J=J (.agg x0.cells):=fun G J=>by rw [z0w];exact z0d.call x0 J
 apply z9i
 (repeat simp -dsimp -implicitDefEqProofs (disch:=omega) only [↓rP,rA,↓reduceIte,reduceEqDiff,reduceAdd,reduceLeDiff,↓tyr])
 refine z01.go (zj9 h) ?_
 by_cases c0:(slL x3).length≤200
 ·have nn:∀ h,z01 Try.prog 6 [.agg x0.cells,.nils] h (fun v h2=>(∃ b:Bool,v=.bool b∧(b=true→ImG x0∧(slL (none:Option (List Int))).length≤100))∧h2=h):=fun h=>zr7 x0 k0 none h
  (repeat simp -dsimp -implicitDefEqProofs (disch:=omega) only [↓rP,rA,↓reduceIte,reduceEqDiff,reduceAdd,reduceLeDiff,↓tyr,↓lx])
  refine (nn h).mono ?_
  rintro _ h ⟨⟨b,rfl,hb⟩,rfl⟩
  cases b with
  | false=>(repeat simp -dsimp -implicitDefEqProofs (disch:=omega) only [↓rP,rA,↓reduceIte,reduceEqDiff,reduceAdd,reduceLeDiff,↓tyr])
  | true=>
   obtain ⟨g,-⟩:=hb rfl
   by_cases c1:x1<0
   ·(repeat simp -dsimp -implicitDefEqProofs (disch:=omega) only [↓rP,rA,↓reduceIte,reduceEqDiff,reduceAdd,reduceLeDiff,↓tyr])
   by_cases c2:x2<0
   ·(repeat simp -dsimp -implicitDefEqProofs (disch:=omega) only [↓rP,rA,↓reduceIte,reduceEqDiff,reduceAdd,reduceLeDiff,↓tyr])
   by_cases c3:((slL x0.Code.Threads).length:Int)≤x1
   ·(repeat simp -dsimp -implicitDefEqProofs (disch:=omega) only [↓rP,rA,↓reduceIte,reduceEqDiff,reduceAdd,reduceLeDiff,↓tyr])
   by_cases c4:((slL x0.Code.Threads).length:Int)≤x2
   ·(repeat simp -dsimp -implicitDefEqProofs (disch:=omega) only [↓rP,rA,↓reduceIte,reduceEqDiff,reduceAdd,reduceLeDiff,↓tyr])
   obtain ⟨a,rfl⟩:∃ n:Nat,x1=n:=⟨x1.toNat,by omega⟩
   obtain ⟨b,rfl⟩:∃ n:Nat,x2=n:=⟨x2.toNat,by omega⟩
   by_cases c5:(a:Int)=b
   ·(repeat simp -dsimp -implicitDefEqProofs (disch:=omega) only [↓rP,rA,↓reduceIte,reduceEqDiff,reduceAdd,reduceLeDiff,↓tyr])
   obtain ⟨ba,hba⟩:∃ b,(slL x0.Code.Threads)[a]?=some b:=⟨_,List.getElem?_eq_getElem (by omega)⟩
   obtain ⟨bb,hbb⟩:∃ y,(slL x0.Code.Threads)[b]?=some y:=⟨_,List.getElem?_eq_getElem (by omega)⟩
   have eoa:EOk ⟨x0,a,ba,[]⟩:=⟨g,hba,Nat.zero_le _⟩
   have eob:EOk ⟨x0,b,bb,[]⟩:=⟨g,hbb,Nat.zero_le _⟩
   obtain ⟨o,ho⟩:∃ o:z5g,o=fun _=>0:=⟨_,rfl⟩
   have bl:∀ (G:z00) (J:AV→z00→Prop),z0m true ⟨3,1,8⟩ [AV.int .i64 0] 2 [(0,.int .i64 (a:Nat)),(1,.int .i64 (b:Nat))] G J=J (slAV 1 encI (some [(a:Int),(b:Int)])) G:=fun G J=>by
    simp [z0m,z8t,AV.fits,AV.cells,List.replicate,slAV,encI]
   have l2:∀ J:AV→Prop,pLen .slice (slAV 1 encI (some [(a:Int),(b:Int)])) J=J (.int .i64 2):=fun J=>by simp
   have nw:∀ (n:Nat) (bd:Bd) (hb:(slL x0.Code.Threads)[n]?=some bd) (h:z00) (o:z5g) (k:Nat),z01 Try.prog 8 [.agg x0.cells,.int .i64 n,.nils] h (fun v h2=>∃ i,v=.ptr i 0∧ThA h2 (newO h o k) k i ⟨x0,n,bd,[]⟩ (s0 bd)∧Keeps h h2 (fun _=>False)):=fun n bd hb h o k=>zoj x0 g n bd hb none (by decide) h o k
   (repeat simp -dsimp -implicitDefEqProofs (disch:=omega) only [↓rP,rA,↓reduceIte,reduceEqDiff,reduceAdd,reduceLeDiff,↓tyr,↓bl,↓l2])
   refine apart_6 g hba hbb _ h _ (fun h oka okb=>?_) (fun hh=>?_)
   ·(repeat simp -dsimp -implicitDefEqProofs (disch:=omega) only [↓rP,rA,↓reduceIte,reduceEqDiff,reduceAdd,reduceLeDiff,↓tyr])
    refine (PH_New 0 (by decide) h o 1).mono ?_
    rintro _ h1 ⟨hp,rfl,q1,k1⟩
    (repeat simp -dsimp -implicitDefEqProofs (disch:=omega) only [↓rP,rA,↓reduceIte,reduceEqDiff,reduceAdd,reduceLeDiff,↓tyr])
    refine (PH_New 0 (by decide) h1 (newO h o 1) 2).mono ?_
    rintro _ h2 ⟨gp,rfl,q2,k2⟩
    (repeat simp -dsimp -implicitDefEqProofs (disch:=omega) only [↓rP,rA,↓reduceIte,reduceEqDiff,reduceAdd,reduceLeDiff,↓tyr,↓lx])
    refine (nw a ba hba h2 (newO h1 (newO h o 1) 2) 3).mono ?_
    rintro _ h3 ⟨ix,rfl,p3,k3⟩
    (repeat simp -dsimp -implicitDefEqProofs (disch:=omega) only [↓rP,rA,↓reduceIte,reduceEqDiff,reduceAdd,reduceLeDiff,↓tyr,↓lx])
    refine (nw b bb hbb h3 (newO h2 (newO h1 (newO h o 1) 2) 3) 4).mono ?_
    rintro _ h4 ⟨iy,rfl,p4,k4⟩
    (repeat simp -dsimp -implicitDefEqProofs (disch:=omega) only [↓rP,rA,↓reduceIte,reduceEqDiff,reduceAdd,reduceLeDiff,↓tyr,↓lx])
    refine (nw a ba hba h4 (newO h3 (newO h2 (newO h1 (newO h o 1) 2) 3) 4) 5).mono ?_
    rintro _ h5 ⟨iu,rfl,p5,k5⟩
    (repeat simp -dsimp -implicitDefEqProofs (disch:=omega) only [↓rP,rA,↓reduceIte,reduceEqDiff,reduceAdd,reduceLeDiff,↓tyr,↓lx])
    refine (nw b bb hbb h5 (newO h4 (newO h3 (newO h2 (newO h1 (newO h o 1) 2) 3) 4) 5) 6).mono ?_
    rintro _ h6 ⟨iv,rfl,p6,k6⟩
    have m:Mem h6 (newO h5 (newO h4 (newO h3 (newO h2 (newO h1 (newO h o 1) 2) 3) 4) 5) 6) ⟨x0,a,ba,[]⟩ ⟨x0,b,bb,[]⟩ hp gp ix iy iu iv (itS ⟨x0,a,ba,[]⟩ 0) (itS ⟨x0,b,bb,[]⟩ 0) (itS ⟨x0,a,ba,[]⟩ 0) (itS ⟨x0,b,bb,[]⟩ 0):=by
     have f:=fun (_:Nat) (e:False)=>e
     have a2:=z5d h1 (newO h o 1) 2
     have a3:=z5d h2 (newO h1 (newO h o 1) 2) 3
     have a4:=z5d h3 (newO h2 (newO h1 (newO h o 1) 2) 3) 4
     have a5:=z5d h4 (newO h3 (newO h2 (newO h1 (newO h o 1) 2) 3) 4) 5
     have a6:=z5d h5 (newO h4 (newO h3 (newO h2 (newO h1 (newO h o 1) 2) 3) 4) 5) 6
     have no:∀ {x y:Nat},x=y→¬ False:=fun _ e=>e
     exact ⟨((((q1.frame k2 a2 fun _=>no).frame k3 a3 fun _=>no).frame k4 a4 fun _=>no).frame k5 a5 fun _=>no).frame k6 a6 fun _=>no,(((q2.frame k3 a3 fun _=>no).frame k4 a4 fun _=>no).frame k5 a5 fun _=>no).frame k6 a6 fun _=>no,((p3.frame k4 a4 fun _=>no).frame k5 a5 fun _=>no).frame k6 a6 fun _=>no,(p4.frame k5 a5 fun _=>no).frame k6 a6 fun _=>no,p5.frame k6 a6 fun _=>no,p6⟩
    (repeat simp -dsimp -implicitDefEqProofs (disch:=omega) only [↓rP,rA,↓reduceIte,reduceEqDiff,reduceAdd,reduceLeDiff,↓tyr])
    refine apart_20 x3 c0 eoa eob oka okb m _ (fun h o n hn m=>?_)
    (repeat simp -dsimp -implicitDefEqProofs (disch:=omega) only [↓rP,rA,↓reduceIte,reduceEqDiff,reduceAdd,reduceLeDiff,↓tyr])
    refine apart_28 _ (by omega) eoa oka m _ (fun h o m=>?_)
    (repeat simp -dsimp -implicitDefEqProofs (disch:=omega) only [↓rP,rA,↓reduceIte,reduceEqDiff,reduceAdd,reduceLeDiff,↓tyr])
    refine apart_32 x3 c0 hn eob okb m _ (fun h o m=>?_)
    have ta:=zlf eoa n
    have tb:=zlf eob ((slL x3).length-n)
    have la:=(at_of eoa ta).choose_spec.slo
    have lb:=(at_of eob tb).choose_spec.slo
    have oa1:=ta.out
    have oa2:=ta.made
    have ob1:=tb.out
    have ob2:=tb.made
    generalize itS ⟨x0,a,ba,[]⟩ n=sa at *
    generalize itS ⟨x0,b,bb,[]⟩ ((slL x3).length-n)=sb at *
    have pc:∀ n:Nat,((n:Int) == (n:Int))=true:=fun n=>by simp
    (repeat simp -dsimp -implicitDefEqProofs (disch:=omega) only [↓rP,rA,↓reduceIte,reduceEqDiff,reduceAdd,reduceLeDiff,↓tyr])
    refine z01.go (zks m.mx) ?_
    (repeat simp -dsimp -implicitDefEqProofs (disch:=omega) only [↓rP,rA,↓reduceIte,reduceEqDiff,reduceAdd,reduceLeDiff,↓tyr])
    refine z01.go (zks m.mu) ?_
    (repeat simp -dsimp -implicitDefEqProofs (disch:=omega) only [↓rP,rA,↓reduceIte,reduceEqDiff,reduceAdd,reduceLeDiff,↓tyr,pc])
    refine z01.go (zks m.my) ?_
    (repeat simp -dsimp -implicitDefEqProofs (disch:=omega) only [↓rP,rA,↓reduceIte,reduceEqDiff,reduceAdd,reduceLeDiff,↓tyr])
    refine z01.go (zks m.mv) ?_
    (repeat simp -dsimp -implicitDefEqProofs (disch:=omega) only [↓rP,rA,↓reduceIte,reduceEqDiff,reduceAdd,reduceLeDiff,↓tyr,pc])
    refine (zet m.mx la).mono ?_
    rintro _ h ⟨⟨w1,rfl,e1⟩,rfl⟩
    (repeat simp -dsimp -implicitDefEqProofs (disch:=omega) only [↓rP,rA,↓reduceIte,reduceEqDiff,reduceAdd,reduceLeDiff,↓tyr])
    refine (zet m.mu la).mono ?_
    rintro _ h ⟨⟨w2,rfl,e2⟩,rfl⟩
    (repeat simp -dsimp -implicitDefEqProofs (disch:=omega) only [↓rP,rA,↓reduceIte,reduceEqDiff,reduceAdd,reduceLeDiff,↓tyr])
    refine z01.go (zoh w1 w2 (by rw [e1];omega) h) ?_
    have e12:decide (slL w1=slL w2)=true:=by rw [e1,e2];simp
    (repeat simp -dsimp -implicitDefEqProofs (disch:=omega) only [↓rP,rA,↓reduceIte,reduceEqDiff,reduceAdd,reduceLeDiff,↓tyr,e12])
    refine (zet m.my lb).mono ?_
    rintro _ h ⟨⟨w3,rfl,e3⟩,rfl⟩
    (repeat simp -dsimp -implicitDefEqProofs (disch:=omega) only [↓rP,rA,↓reduceIte,reduceEqDiff,reduceAdd,reduceLeDiff,↓tyr])
    refine (zet m.mv lb).mono ?_
    rintro _ h ⟨⟨w4,rfl,e4⟩,rfl⟩
    (repeat simp -dsimp -implicitDefEqProofs (disch:=omega) only [↓rP,rA,↓reduceIte,reduceEqDiff,reduceAdd,reduceLeDiff,↓tyr])
    refine z01.go (zoh w3 w4 (by rw [e3];omega) h) ?_
    have e34:decide (slL w3=slL w4)=true:=by rw [e3,e4];simp
    (repeat simp -dsimp -implicitDefEqProofs (disch:=omega) only [↓rP,rA,↓reduceIte,reduceEqDiff,reduceAdd,reduceLeDiff,↓tyr,e34])
    refine (zdc m.mx).mono ?_
    rintro v1 h1 ⟨r1,r2,r3⟩
    have mu1:=m.mu.frame r3 (.refl _ _) (fun y e1 e2=>by omega)
    have my1:=m.my.frame r3 (.refl _ _) (fun y e1 e2=>by omega)
    have mv1:=m.mv.frame r3 (.refl _ _) (fun y e1 e2=>by omega)
    (repeat simp -dsimp -implicitDefEqProofs (disch:=omega) only [↓rP,rA,↓reduceIte,reduceEqDiff,reduceAdd,reduceLeDiff,↓tyr])
    refine (zdc mu1).mono ?_
    rintro v2 h2 ⟨t1,t2,t3⟩
    have my2:=my1.frame t3 (.refl _ _) (fun y e1 e2=>by omega)
    have mv2:=mv1.frame t3 (.refl _ _) (fun y e1 e2=>by omega)
    obtain ⟨u1,f1,f2⟩:=r1.val (by omega)
    obtain ⟨u2,f3,f4⟩:=t1.val (by omega)
    (repeat simp -dsimp -implicitDefEqProofs (disch:=omega) only [↓rP,rA,↓reduceIte,reduceEqDiff,reduceAdd,reduceLeDiff,↓tyr])
    refine z01.args (Sub.cons f2 (Sub.cons f4 Sub.nil)) ?_
    refine z01.go (zly u1 u2 (by rw [f1];omega) h2) ?_
    have e56:decide (slL u1=slL u2)=true:=by rw [f1,f3];simp
    (repeat simp -dsimp -implicitDefEqProofs (disch:=omega) only [↓rP,rA,↓reduceIte,reduceEqDiff,reduceAdd,reduceLeDiff,↓tyr,e56])
    refine (zdc my2).mono ?_
    rintro v3 h3 ⟨r1,r2,r3⟩
    have mv3:=mv2.frame r3 (.refl _ _) (fun y e1 e2=>by omega)
    (repeat simp -dsimp -implicitDefEqProofs (disch:=omega) only [↓rP,rA,↓reduceIte,reduceEqDiff,reduceAdd,reduceLeDiff,↓tyr])
    refine (zdc mv3).mono ?_
    rintro v4 h4 ⟨t1,t2,t3⟩
    obtain ⟨u3,f5,f6⟩:=r1.val (by omega)
    obtain ⟨u4,f7,f8⟩:=t1.val (by omega)
    (repeat simp -dsimp -implicitDefEqProofs (disch:=omega) only [↓rP,rA,↓reduceIte,reduceEqDiff,reduceAdd,reduceLeDiff,↓tyr])
    refine z01.args (Sub.cons f6 (Sub.cons f8 Sub.nil)) ?_
    refine z01.go (zly u3 u4 (by rw [f5];omega) h4) ?_
    have e78:decide (slL u3=slL u4)=true:=by rw [f5,f7];simp
    (repeat simp -dsimp -implicitDefEqProofs (disch:=omega) only [↓rP,rA,↓reduceIte,reduceEqDiff,reduceAdd,reduceLeDiff,↓tyr,e78])
   ·(repeat simp -dsimp -implicitDefEqProofs (disch:=omega) only [↓rP,rA,↓reduceIte,reduceEqDiff,reduceAdd,reduceLeDiff,↓tyr])
 ·(repeat simp -dsimp -implicitDefEqProofs (disch:=omega) only [↓rP,rA,↓reduceIte,reduceEqDiff,reduceAdd,reduceLeDiff,↓tyr])
end Go.Proofs.Ytjlogcfggfmacaa
end

