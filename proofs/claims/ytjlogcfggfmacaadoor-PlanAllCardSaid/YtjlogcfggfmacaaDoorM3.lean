/- Own texts, merged: AbsPack, AbsFreeze, AbsYield, AbsFrz, AbsRes, AbsMapU, AbsRows, AbsFor. -/
import Derived.Test.YtjlogcfggfmacaaDoorM2
set_option linter.unusedVariables false
set_option linter.unusedSimpArgs false
open Nat (reduceEqDiff reduceAdd reduceLeDiff)
set_option maxRecDepth 100000
set_option maxHeartbeats 4000000
namespace Go.Abs
section
theorem gp0:(type_of% @zmp)/\(type_of% @zjs)/\(type_of% @zs2)/\(type_of% @zen)/\(type_of% @zle)/\(type_of% @zld)/\(type_of% @zdb)/\(type_of% @zil):=⟨@zmp,@zjs,@zs2,@zen,@zle,@zld,@zdb,@zil⟩
theorem gp1:(type_of% @zik)/\(type_of% @znc)/\(type_of% @zky)/\(type_of% @zs3)/\(type_of% @run_pIdx)/\(type_of% @zh1)/\(type_of% @zh2)/\(type_of% @pJoin_eq):=⟨@zik,@znc,@zky,@zs3,@run_pIdx,@zh1,@zh2,@pJoin_eq⟩
theorem gp2:(type_of% @zku)/\(type_of% @zih):=⟨@zku,@zih⟩
theorem gq0:(type_of% @later_1)/\(type_of% @later_2)/\(type_of% @later_3)/\(type_of% @z7j)/\(type_of% @zr9)/\(type_of% @nth_zero)/\(type_of% @nth_cons)/\(type_of% @exitQ_normal):=⟨@later_1,@later_2,@later_3,@z7j,@zr9,@nth_zero,@nth_cons,@exitQ_normal⟩
theorem gq1:(type_of% @zmz)/\(type_of% @zqh)/\(type_of% @zqm)/\(type_of% @zge)/\(type_of% @zie)/\(type_of% @pLen_str)/\(type_of% @pLen_isl)/\(type_of% @pLen_gsl):=⟨@zmz,@zqh,@zqm,@zge,@zie,@pLen_str,@pLen_isl,@pLen_gsl⟩
theorem gq2:(type_of% @pLen_sl)/\(type_of% @zre)/\(type_of% @pLen_eml)/\(type_of% @znd)/\(type_of% @zrf)/\(type_of% @zra)/\(type_of% @zrb)/\(type_of% @zr7):=⟨@pLen_sl,@zre,@pLen_eml,@znd,@zrf,@zra,@zrb,@zr7⟩
theorem gq3:(type_of% @pBox_false)/\(type_of% @pAlloc_eq)/\(type_of% @zq6)/\(type_of% @fits_agg)/\(type_of% @pNil_ptr)/\(type_of% @zrh)/\(type_of% @pNil_fn)/\(type_of% @zek):=⟨@pBox_false,@pAlloc_eq,@zq6,@fits_agg,@pNil_ptr,@zrh,@pNil_fn,@zek⟩
theorem gq4:(type_of% @zcz)/\(type_of% @znb)/\(type_of% @zkw)/\(type_of% @zkv)/\(type_of% @pCells_some)/\(type_of% @z1q)/\(type_of% @zax)/\(type_of% @zi8):=⟨@zcz,@znb,@zkw,@zkv,@pCells_some,@z1q,@zax,@zi8⟩
theorem gq5:(type_of% @binA_int_neq)/\(type_of% @binA_int_lss)/\(type_of% @binA_int_leq)/\(type_of% @binA_int_gtr)/\(type_of% @binA_int_geq)/\(type_of% @binA_int_add)/\(type_of% @binA_int_sub)/\(type_of% @binA_int_mul):=⟨@binA_int_neq,@binA_int_lss,@binA_int_leq,@binA_int_gtr,@binA_int_geq,@binA_int_add,@binA_int_sub,@binA_int_mul⟩
theorem gq6:(type_of% @binA_int_and)/\(type_of% @binA_int_or)/\(type_of% @binA_int_xor)/\(type_of% @binA_str_eql)/\(type_of% @binA_str_neq)/\(type_of% @zfj)/\(type_of% @zfk)/\(type_of% @zc7):=⟨@binA_int_and,@binA_int_or,@binA_int_xor,@binA_str_eql,@binA_str_neq,@zfj,@zfk,@zc7⟩
theorem gq7:(type_of% @zc8)/\(type_of% @zao)/\(type_of% @zaq)/\(type_of% @zc5)/\(type_of% @zc6)/\(type_of% @unA_not)/\(type_of% @zin)/\(type_of% @unA_neg):=⟨@zc8,@zao,@zaq,@zc5,@zc6,@unA_not,@zin,@unA_neg⟩
theorem gq8:(type_of% @fits_int)/\(type_of% @zq7)/\(type_of% @fits_bool)/\(type_of% @zmu)/\(type_of% @fits_str)/\(type_of% @zq9)/\(type_of% @fits_ptr)/\(type_of% @zq8):=⟨@fits_int,@zq7,@fits_bool,@zmu,@fits_str,@zq9,@fits_ptr,@zq8⟩
theorem gq9:(type_of% @zql)/\(type_of% @zmv)/\(type_of% @zg2)/\(type_of% @zhc):=⟨@zql,@zmv,@zg2,@zhc⟩
theorem go0:(type_of% @dT_lt)/\(type_of% @dF_lt)/\(type_of% @dT_le)/\(type_of% @dF_le)/\(type_of% @dT_eq)/\(type_of% @dF_eq)/\(type_of% @dT_ne)/\(type_of% @dF_ne):=⟨@dT_lt,@dF_lt,@dT_le,@dF_le,@dT_eq,@dF_eq,@dT_ne,@dF_ne⟩
theorem go1:(type_of% @z7n)/\(type_of% @wrapN)/\(type_of% @wrapB):=⟨@z7n,@wrapN,@wrapB⟩
theorem gl0:(type_of% @Nat.le_refl)/\(type_of% @Nat.zero_add)/\(type_of% @Nat.add_zero)/\(type_of% @List.drop_zero.{0})/\(type_of% @List.drop_succ_cons.{0})/\(type_of% @List.length_cons.{0})/\(type_of% @List.length_nil.{0})/\(type_of% @List.take_succ_cons.{0}):=⟨@Nat.le_refl,@Nat.zero_add,@Nat.add_zero,@List.drop_zero.{0},@List.drop_succ_cons.{0},@List.length_cons.{0},@List.length_nil.{0},@List.take_succ_cons.{0}⟩
theorem gl1:(type_of% @List.take_zero.{0})/\(type_of% @true_and)/\(type_of% @and_true)/\(type_of% @Bool.not_true)/\(type_of% @Bool.not_false)/\(type_of% @false_implies)/\(type_of% @true_implies)/\(type_of% @eq_self.{1}):=⟨@List.take_zero.{0},@true_and,@and_true,@Bool.not_true,@Bool.not_false,@false_implies,@true_implies,@eq_self.{1}⟩
theorem gl2:(type_of% @List.drop_drop.{0})/\(type_of% @List.getElem?_cons_zero.{0})/\(type_of% @List.getElem?_cons_succ.{0})/\(type_of% @List.nil_append.{0})/\(type_of% @List.cons_append.{0})/\(type_of% @List.append_nil.{0})/\(type_of% @Bool.true_and)/\(type_of% @Bool.false_and):=⟨@List.drop_drop.{0},@List.getElem?_cons_zero.{0},@List.getElem?_cons_succ.{0},@List.nil_append.{0},@List.cons_append.{0},@List.append_nil.{0},@Bool.true_and,@Bool.false_and⟩
theorem gl3:(type_of% @Bool.and_true)/\(type_of% @Bool.and_false)/\(type_of% @Bool.true_or)/\(type_of% @Bool.false_or)/\(type_of% @Bool.or_true)/\(type_of% @Bool.or_false):=⟨@Bool.and_true,@Bool.and_false,@Bool.true_or,@Bool.false_or,@Bool.or_true,@Bool.or_false⟩
theorem rP:(type_of% @gp0)/\(type_of% @gp1)/\(type_of% @gp2)/\(type_of% @qr1)/\(type_of% @qr2)/\(type_of% @qr3)/\(type_of% @qr4):=⟨@gp0,@gp1,@gp2,@qr1,@qr2,@qr3,@qr4⟩
theorem rQ:(type_of% @gq0)/\(type_of% @gq1)/\(type_of% @gq2)/\(type_of% @gq3)/\(type_of% @gq4)/\(type_of% @gq5)/\(type_of% @gq6)/\(type_of% @gq7)/\(type_of% @gq8)/\(type_of% @gq9):=⟨@gq0,@gq1,@gq2,@gq3,@gq4,@gq5,@gq6,@gq7,@gq8,@gq9⟩
theorem rO:(type_of% @go0)/\(type_of% @go1):=⟨@go0,@go1⟩
theorem rL:(type_of% @gl0)/\(type_of% @gl1)/\(type_of% @gl2)/\(type_of% @gl3):=⟨@gl0,@gl1,@gl2,@gl3⟩
theorem pB (places:List (Nat×Nat)) (zero:List AV) (parts:List (Nat×AV)) (K:AV->Prop):z4b places zero parts K=match zez (places[·]?) zero parts with | some cs=>K (.agg cs) | none=>False:=rfl
theorem fA (place:Nat->Option (Nat×Nat)) (cells:List AV):zez place cells []=some cells/\∀ i v rest,zez place cells ((i,v)::rest)=match place i with
  | none=>none
  | some (off,size)=>if v.fits=true/\v.cells.length=size/\off+size<=cells.length then zez place (cells.take off++v.cells++cells.drop (off+size)) rest else none:=⟨rfl,λ_ _ _=>rfl⟩
theorem rB:(type_of% @rQ)/\(type_of% @rL)/\(type_of% @pB)/\(type_of% @fA):=⟨@rQ,@rL,@pB,@fA⟩
theorem rA:(type_of% @rQ)/\(type_of% @rO)/\(type_of% @rL)/\(type_of% @pB)/\(type_of% @fA):=⟨@rQ,@rO,@rL,@pB,@fA⟩
end
section
open Go.RowKit
end
section
open Go.RowKit
theorem zpp (l:List (Nat×AV)) (p:Nat) (v:AV):upd (frOf l) p v=frOf ((p,v)::l):=by
 funext i;rw [zsc]
 rfl
theorem zsz (id o n sz:Nat):(AV.sl id o n sz).fits=true:=rfl
theorem zo3 (id o n sz:Nat):(AV.sl id o n sz).cells=[.sl id o n sz]:=rfl
theorem zpj (h:z00) (i:Nat) (a b:AObj):(h.put i a).put i b=h.put i b:=by
 simp only [z00.put]
 congr 1
 funext j;by_cases e:j=i <;> simp [e]
theorem put_self {h:z00} {i:Nat} {o:AObj} (ho:h.objs i=some o):h.put i o=h:=by
 cases h with
 | mk objs next=>
  simp only [z00.put]
  congr 1
  funext j;by_cases e:j=i
  ·subst e;simp [<-ho]
  ·simp [e]
theorem z16 {h:z00} {i:Nat} (hi:i<h.next) (o:AObj):(h.push o).objs i=h.objs i:=by simp only [z00.z3l];rw [if_neg (by omega)]
theorem z19 (h:z00) (o:AObj):(h.push o).objs h.next=some o:=by simp
theorem z1d (h:z00) (i:Nat) (o:AObj):(h.put i o).objs i=some o:=by simp
theorem z0x {h:z00} {i j:Nat} (hi:i≠j) (o:AObj):(h.put j o).objs i=h.objs i:=by simp only [z00.z2x];rw [if_neg hi]
theorem zjj {h:z00} {i j:Nat} (hi:i≠j):(h.kill j).objs i=h.objs i:=by simp only [z00.z5r];rw [if_neg hi]
theorem Keeps.z5e {h hh:z00} {S:Nat->Prop} (k:Keeps h hh S) (o:AObj):Keeps h (hh.push o) S:=⟨Nat.le_trans k.next (Nat.le_succ _),λj hj hs=>by rw [z16 (Nat.lt_of_lt_of_le hj k.next)];exact k.objs j hj hs⟩
theorem zdo (k:IntKind) (a b:Int):maxA [.int k a,.int k b]=some (.int k (max a b)):=by
 rw [maxA,maxA]
 ·congr 2;rw [Int.max_def];split <;> split <;> omega
theorem minA_two (k:IntKind) (a b:Int):minA [.int k a,.int k b]=some (.int k (min a b)):=by
 rw [minA,minA]
 ·congr 2;rw [Int.min_def];split <;> split <;> omega
theorem zdq {h:z00} {ty:TypeId} {z v:AV} (hv:v.zbn=true) (K:z00->Prop):z14 1 (.ptr h.next 0) v (h.push (.row ty [z])) K=K (h.push (.row ty [v])):=by
 rw [z2w (ty:=ty) (cs:=[z]) (by simp) hv (by simp),zph];rfl
theorem Keeps.z3a {h hh:z00} {S:Nat->Prop} (k:Keeps h hh S) {i:Nat} (hi:h.next<=i) (o:AObj):Keeps h (hh.put i o) S:=⟨k.next,λj hj hs=>by simp only [z00.z2x];rw [if_neg (by omega)];exact k.objs j hj hs⟩
theorem Keeps.putS {h hh:z00} {S:Nat->Prop} (k:Keeps h hh S) {i:Nat} (hi:S i) (o:AObj):Keeps h (hh.put i o) S:=⟨k.next,λj hj hs=>by simp only [z00.z2x];rw [if_neg (by rintro rfl;exact hs hi)];exact k.objs j hj hs⟩
theorem Keeps.zkn {h hh:z00} {S:Nat->Prop} (k:Keeps h hh S) {i:Nat} (hi:h.next<=i):Keeps h (hh.kill i) S:=⟨k.next,λj hj hs=>by simp only [z00.z5r];rw [if_neg (by omega)];exact k.objs j hj hs⟩
section
variable {P:Program}
theorem z9s.mono {id:Nat} {args:List AV} {h:z00} {K K':AV->z00->Prop} (hk:∀ v h,K v h->K' v h) (H:z9s P id args h K):z9s P id args h K':=by
 obtain ⟨N,ps,asn,bd,fr,h1,h2,h3,h4,h5,H⟩:=H;refine ⟨N,ps,asn,bd,fr,h1,h2,h3,h4,h5,H.mono λe fr1 hh hq=>?_⟩
 cases e with
 | exit i=>exact hq
 | ret=>exact hq
 | normal=>
  refine ⟨hq.1,hq.2.mono λe fr2 h2 hq=>?_⟩
  cases e with
  | normal=>exact ⟨hq.1,hk _ _ hq.2⟩
  | exit i=>exact ⟨hq.1,hk _ _ hq.2⟩
  | ret=>exact ⟨hq.1,hk _ _ hq.2⟩
def roundQ (id N:Nat) (ps:Array Tmp) (asn bd:Code) (fr:Fr) (K:AV->z00->Prop):z1z->Fr->z00->Prop:=λe _ h2=>
 h2.objs id=some (.loop .busy none N ps asn bd fr)/\match e with
  | .normal=>K (.bool true) (h2.put id (.loop .ready none N ps asn bd fr))
  | .exit i=>K (.bool false) (h2.put id (.loop .done (some (.exit i)) N ps asn bd fr))
  | .ret=>K (.bool false) (h2.put id (.loop .done (some .ret) N ps asn bd fr))
theorem z9s.go {N id:Nat} {ps:Array Tmp} {asn bd:Code} {fr fr1:Fr} {args:List AV} {hh:z00} {K:AV->z00->Prop} (ho:hh.objs id=some (.loop .ready none N ps asn bd fr)) (hl:args.length=ps.size) (hp:(ps.toList.all λp=>Nat.blt p N)=true) (hna:noRF asn=true) (hnb:noRF bd=true)
  (hA:WP P N asn (zi5 ps.toList args fr) hh (λe f h=>e=.normal/\f=fr1/\h=hh)) (hB:WP P N bd fr1 (hh.put id (.loop .busy none N ps asn bd fr)) (roundQ id N ps asn bd fr K)):z9s P id args hh K:=by
 refine ⟨N,ps,asn,bd,fr,ho,hl,hp,hna,hnb,hA.mono ?_⟩;rintro e f h ⟨rfl,rfl,rfl⟩;refine ⟨ho,hB.mono λe fr2 h2 hq=>?_⟩
 cases e with
 | normal=>exact hq
 | exit i=>exact hq
 | ret=>exact hq
theorem zpu {N:Nat} {g:Operand} {ps:Array Tmp} {asn bd:Code} {fr:Fr} {h:z00} {Q:z1z->Fr->z00->Prop} {gf:FuncId} {cap:List AV} (hcall:∀ as w,(callFunc gf as).run P w=.ok (.enter gf as) w) (hg:aEv fr g=.fn (.func gf) [] cap)
  (H:z01 P gf (.yld h.next::cap) (h.push (.loop .ready none N ps asn bd fr)) (λ_ h'=>∃ st pe,h'.objs h.next=some (.loop st pe N ps asn bd fr)/\st≠.busy/\zdr Q fr (h'.kill h.next) pe)) :
  WP P N (.rangeFunc g ps asn bd) fr h Q:=by
 refine WP_range hg ?_;rcases H with H | H
 ·exact H
 ·refine ⟨hcall,λB c w vs W L=>?_⟩;obtain ⟨c',u,v,h',w',hr,_⟩:=H B c w vs W L;rw [hcall] at hr;cases hr
theorem z01.go {f:FuncId} {args:List AV} {h:z00} {v0:AV} {K:AV->z00->Prop} (H:z01 P f args h (λv h2=>v=v0/\h2=h)) (hk:K v0 h):z01 P f args h K:=H.mono (by rintro _ _ ⟨rfl,rfl⟩;exact hk)
theorem pCallF_yld (id:Nat) (args:List AV) (h:z00) (K:AV->z00->Prop):z7d P (.yld id) args h K=z9s P id args h K:=rfl
end
end
section
open Go.RowKit
section
variable {id n sz:Nat} {es:List (List AV)}
end
end
section
open Go.RowKit
noncomputable def z00.zqx (h:z00) (D:Nat->Prop):z00:={ h with objs:=λi=>@ite _ (D i) (Classical.propDecidable _) none (h.objs i) }
theorem zji {h:z00} {D:Nat->Prop} {i:Nat} (hi:D i):(h.zqx D).objs i=none:=by simp [z00.zqx,hi]
theorem zcw {h:z00} {D:Nat->Prop} {i:Nat} (hi:¬ D i):(h.zqx D).objs i=h.objs i:=by simp [z00.zqx,hi]
theorem zn6 {h:z00} {D:Nat->Prop} {i:Nat} {o:AObj} (hi:(h.zqx D).objs i=some o):¬ D i/\h.objs i=some o:=by
 by_cases d:D i
 ·rw [zji d] at hi;cases hi
 ·rw [zcw d] at hi;exact ⟨d,hi⟩
theorem WRel.zqx {B:Nat} {c:Ctx} {h:z00} {w:World} (W:WRel B c h w) (D:Nat->Prop):WRel B c (h.zqx D) w:=by
 refine ⟨W.mlt,λi j k hi hj h1 h2=>W.inj i j k hi hj ?_ ?_,λi k x hi hio=>W.obj i k x hi (zn6 hio).2,W.im,λi hi=>?_,W.base,W.gl⟩
 ·intro e;apply h1;by_cases d:D i
  ·exact zji d
  ·rw [zcw d];exact e
 ·intro e;apply h2;by_cases d:D j
  ·exact zji d
  ·rw [zcw d];exact e
 ·by_cases d:D i
  ·exact zji d
  ·rw [zcw d];exact W.fresh i hi
def Rz (H:z00) (D:Nat->Prop) (c c':Ctx) (w:World):Prop:=∃ B,WRel B c H w/\Ext B c w c' w/\∀ id b,D id->c.m id=some b->∀ x,c'.im b x
def RzV (H:z00) (D:Nat->Prop) (a b:AV):Prop:=∀ c c' w,Rz H D c c' w->∀ v,VRel c w a v->VRel c' w b v
def RzL (H:z00) (D:Nat->Prop) (xs bs:List AV):Prop:=∀ c c' w,Rz H D c c' w->∀ vs,LRel c w xs vs->LRel c' w bs vs
def RzM (H:z00) (D:Nat->Prop) (xs bs:List AV):Prop:=xs.length=bs.length/\∀ c c' w,Rz H D c c' w->∀ b off,MRel c w xs b off->MRel c' w bs b off
def RzE (H:z00) (D:Nat->Prop) (k:Nat) (xs bs:List (List AV)):Prop:=xs.length=bs.length/\∀ c c' w,Rz H D c c' w->∀ b off,ERel c w k xs b off->ERel c' w k bs b off
section
variable {H:z00} {D:Nat->Prop}
theorem RzV.same (a:AV):RzV H D a a:=λc c' w F v h=>by obtain ⟨B,_,E,_⟩:=F;exact VRel.mono E h
theorem RzL.nil:RzL H D [] []:=λc c' w F vs h=>by simpa [LRel] using h
theorem RzL.cons {a b:AV} {xs bs:List AV} (h1:RzV H D a b) (h2:RzL H D xs bs):RzL H D (a::xs) (b::bs):=λc c' w F vs h=>by
 simp only [LRel] at h ⊢;obtain ⟨v,vs',e,hv,hl⟩:=h;exact ⟨v,vs',e,h1 c c' w F v hv,h2 c c' w F vs' hl⟩
theorem RzM.nil:RzM H D [] []:=⟨rfl,λc c' w F b off h=>by simp [MRel]⟩
theorem RzM.cons {a b:AV} {xs bs:List AV} (h1:RzV H D a b) (h2:RzM H D xs bs):RzM H D (a::xs) (b::bs):=⟨by simp [h2.1],λc c' w F k off h=>by
 have F':=F;obtain ⟨B,_,E,_⟩:=F';simp only [MRel] at h ⊢;obtain ⟨hi,⟨u,hu,ho,hv⟩,hm⟩:=h;exact ⟨E.im _ _ hi,⟨u,hu,ho,h1 c c' w F u hv⟩,h2.2 c c' w F k _ hm⟩⟩
theorem RzE.nil (k:Nat):RzE H D k [] []:=⟨rfl,λc c' w F b off h=>by simp [ERel]⟩
theorem RzE.cons {k:Nat} {a b:List AV} {xs bs:List (List AV)} (h1:RzM H D a b) (h2:RzE H D k xs bs):RzE H D k (a::xs) (b::bs):=⟨by simp [h2.1],λc c' w F o off h=>by
 simp only [ERel] at h ⊢;exact ⟨h1.1▸h.1,h1.2 c c' w F o off h.2.1,h2.2 c c' w F o _ h.2.2⟩⟩
theorem RzE.same (k:Nat) (xs:List (List AV)):RzE H D k xs xs:=⟨rfl,λc c' w F b off h=>by obtain ⟨B,_,E,_⟩:=F;exact ERel.mono E h⟩
theorem RzE.map {α:Type} {k:Nat} {f g:α->List AV} {l:List α} (h:∀ x∈l,RzM H D (f x) (g x)):RzE H D k (l.map f) (l.map g):=by
 induction l with
 | nil=>exact RzE.nil k
 | cons x l ih=>exact RzE.cons (h x (by simp)) (ih λy hy=>h y (by simp [hy]))
theorem RzV.isl {k:Nat} {xs bs:List (List AV)} (h:RzE H D k xs bs):RzV H D (.isl k xs) (.isl k bs):=λc c' w F v hv=>by
 simp only [VRel] at hv ⊢;obtain ⟨a,cap,e1,e2,e3,e4⟩:=hv;refine ⟨a,cap,by rw [<-h.1];exact e1,by rw [<-h.1];exact e2,by rw [<-h.1];exact e3,λhne=>?_⟩;obtain ⟨b,off,e5,e6⟩:=e4 (λe0=>hne (List.length_eq_zero_iff.1 (by rw [<-h.1,e0];rfl)));exact ⟨b,off,e5,h.2 c c' w F b off e6⟩
theorem RzV.gsl {id k:Nat} {xs bs:List (List AV)} (hm:xs.length<=1000000) (h:RzE H D k xs bs):RzV H D (.gsl id k xs) (.isl k bs):=λc c' w F v hv=>
 RzV.isl h c c' w F v (gsl_isl id k xs hm c w v hv)
theorem RzV.agg {xs bs:List AV} (h:RzL H D xs bs):RzV H D (.agg xs) (.agg bs):=λc c' w F v hv=>by
 simp only [VRel] at hv ⊢;obtain ⟨vs,e1,e2,e3⟩:=hv;exact ⟨vs,e1,h c c' w F _ e2,e3⟩
theorem RzV.row {id n sz:Nat} {ty:TypeId} {cs cs':List AV} (hD:D id) (ho:H.objs id=some (.row ty cs)) (hn:n*sz<=cs.length) (hm:n<=1000000) (hl:cs'.length=cs.length) (hc:∀ (i:Nat) (a a':AV),cs[i]?=some a->cs'[i]?=some a'->RzV H D a a'):RzV H D (.sl id 0 n sz) (.isl sz (chunk sz n cs')):=λc c' w F v hv=>by
 have F':=F;obtain ⟨B,W,E,im⟩:=F';simp only [VRel] at hv ⊢;obtain ⟨b,cap,ty',hb,rfl,hc1,hc2,-⟩:=hv;have hcl:(chunk sz n cs').length=n:=z7u sz n cs';refine ⟨some ⟨b,0,none⟩,cap,by rw [hcl],by rw [hcl];exact hc1,by rw [hcl];omega,λ_=>⟨b,0,rfl,?_⟩⟩;refine zmy n cs' 0 (by rw [hl];exact hn) (MRel.ofFn λi a' hi=>⟨im id b hD hb _,?_⟩);obtain ⟨a,ha⟩:∃ a,cs[i]?=some a:=by
  have:=(List.getElem?_eq_some_iff.1 hi).1;exact ⟨_,List.getElem?_eq_getElem (by omega)⟩
 obtain ⟨u,hu,hone,hr⟩:=W.row_get hb ho ha;exact ⟨u,by rw [Nat.zero_add];exact hu,hone,hc i a a' ha hi c c' w F u hr⟩
end
theorem WRel.settle {B:Nat} {c c':Ctx} {h h2:z00} {w w':World} {D:Nat->Prop} {v v':AV} {u:Value} (W:WRel B c h w) (E:Ext B c w c' w') (W':WRel B c' h2 w') (K:Keeps h h2 (λ_=>False)) (hD:∀ i,D i->h.next<=i/\h2.objs i≠none) (V:VRel c' w' v u) (Z:RzV h2 D v v') (hv:z1w (λ_=>False) v') :
  ∃ c2,Ext B c w c2 w'/\WRel B c2 h w'/\VRel c2 w' v' u:=by
 obtain ⟨E2,W2⟩:=(W'.zqx D).freeze (λk _=>∃ id,D id/\c'.m id=some k) (by rintro k x ⟨id,hd,hk⟩;exact (W'.mlt id k hk).2.2) (by
  rintro k x ⟨id,hd,hk⟩ i o hi hio;obtain ⟨h3,h4⟩:=zn6 hio;have:=W'.inj i id k hi hk (by rw [h4];simp) (hD id hd).2;subst this;exact absurd hd h3)
 refine W.forget (E.trans E2) W2 ⟨K.next,λi hi hs=>?_⟩ hv (Z c' _ w' ⟨B,W',E2,λid b hd hb x=>Or.inr ⟨id,hd,hb⟩⟩ u V);rw [zcw (λd=>by have:=(hD i d).1;omega)];exact K.objs i hi hs
theorem z01.result {P:Program} {f:FuncId} {args:List AV} {h:z00} {α:Type} {enc:α->AV} {Q:α->Prop} (hid:∀ a,Q a->z1w (λ_=>False) (enc a))
  (H:z01 P f args h (λv h2=>∃ (D:Nat->Prop) (a:α),Q a/\RzV h2 D v (enc a)/\(∀ i,D i->h.next<=i/\h2.objs i≠none)/\Keeps h h2 (λ_=>False))):z01 P f args h (λv h2=>(∃ a,v=enc a/\Q a)/\h2=h):=by
 rcases H with H | H
 ·refine Or.inl ⟨H.1,λB c w vs W L=>(H.2 B c w vs W L).mono λe w' ⟨c',u,v,h',a,E,W',V,D,q,hq,Z,hD,K⟩=>?_⟩;obtain ⟨c2,E2,W2,V2⟩:=W.settle E W' K hD V Z (hid q hq);exact ⟨c2,u,enc q,h,a,E2,W2,V2,⟨q,rfl,hq⟩,rfl⟩
 ·refine Or.inr λB c w vs W L=>?_;obtain ⟨c',u,v,h',w',a,E,W',V,D,q,hq,Z,hD,K⟩:=H B c w vs W L;obtain ⟨c2,E2,W2,V2⟩:=W.settle E W' K hD V Z (hid q hq);exact ⟨c2,u,enc q,h,w',a,E2,W2,V2,⟨q,rfl,hq⟩,rfl⟩
end
section
section
variable {α:Type} [DecidableEq α]
def addK (ks:List α) (a:α):List α:=if a∈ks then ks else ks++[a]
def idxK (ks:List α) (a:α):Nat:=ks.idxOf a
def updF (f:α->Nat) (a:α) (n:Nat):α->Nat:=λb=>if b=a then n else f b
def mapO (enc:α->AV) (ks:List α) (f:α->Nat):AObj:=.map (ks.map enc) (ks.map λa=>.int .i64 (f a:Nat))
structure KeyOk (kk:KeyK) (enc:α->AV):Prop where
 eq:∀ a b,zcv kk (enc a) (enc b)=some (decide (a=b))
 key:∀ a,isKey kk (enc a)=true
structure MapAt (h:z00) (id:Nat) (enc:α->AV) (ks:List α) (f:α->Nat):Prop where
 obj:h.objs id=some (mapO enc ks f)
 nd:ks.Nodup
 out:∀ a,a∉ks->f a=0
theorem zdj {kk:KeyK} {enc:α->AV} (E:KeyOk kk enc) (a:α):∀ (ks:List α) (i:Nat),z7w kk (enc a) (ks.map enc) i=some (if a∈ks then some (i+ks.idxOf a) else none)
 | [],i=>by simp [z7w]
 | b::ks,i=>by
  simp only [List.map_cons,z7w,E.eq];by_cases e:a=b
  ·subst e;simp
  ·have e2:¬ b=a:=λh=>e h.symm;simp only [decide_eq_false e];rw [zdj E a ks (i+1)];simp only [List.mem_cons,e,false_or,List.idxOf_cons,beq_iff_eq,e2,if_false];split
   ·simp only [Option.some.injEq];have:(b == a)=false:=by simpa using e2
    simp [this];omega
   ·rfl
theorem zta {ks:List α} {a:α} (h:a∈ks):ks[ks.idxOf a]?=some a:=by
 rw [List.getElem?_eq_getElem (List.idxOf_lt_length_of_mem h),List.getElem_idxOf]
theorem addK_nd {ks:List α} {a:α} (h:ks.Nodup):(addK ks a).Nodup:=by
 unfold addK;split
 ·exact h
 ·rename_i hn;rw [List.nodup_append];exact ⟨h,by simp,λx hx y hy e=>by simp at hy;subst hy;subst e;exact hn hx⟩
theorem addK_mem (ks:List α) (a:α):a∈addK ks a:=by
 unfold addK;split <;> simp_all
theorem addK_sub {ks:List α} {a b:α} (h:b∉addK ks a):b∉ks:=λhb=>h (by unfold addK;split <;> simp_all)
theorem upd_map {ks:List α} (hn:ks.Nodup) {a:α} (ha:a∈ks) (f:α->Nat) (n:Nat):(ks.map λb=>AV.int .i64 (f b:Nat)).set (ks.idxOf a) (.int .i64 (n:Nat))=ks.map λb=>AV.int .i64 (updF f a n b:Nat):=by
 apply List.ext_getElem?;intro i;rw [List.getElem?_set,List.getElem?_map,List.getElem?_map];by_cases e:ks.idxOf a=i
 ·subst e;rw [if_pos rfl,if_pos (by simpa using List.idxOf_lt_length_of_mem ha),zta ha];simp [updF]
 ·rw [if_neg e]
  cases hi:ks[i]? with
  | none=>rfl
  | some b=>
   have hb:b≠a:=by
    rintro rfl;have hil:=(List.getElem?_eq_some_iff.1 hi).1;have h1:=(List.getElem?_eq_some_iff.1 hi).2;have:=hn.idxOf_getElem i hil;rw [h1] at this;exact e this
   simp [updF,hb]
variable {h:z00} {id:Nat} {enc:α->AV} {ks:List α} {f:α->Nat} {kk:KeyK}
omit [DecidableEq α] in
theorem MapAt.new (h:z00) (enc:α->AV):MapAt (h.push (.map [] [])) h.next enc ([]:List α) (λ_=>0):=⟨by rw [z19];rfl,by simp,λ_ _=>rfl⟩
theorem MapAt.lookup (M:MapAt h id enc ks f) (E:KeyOk kk enc) (a:α) (K:AV->Prop):z3k (some (kk,.int .i64 0)) (.mapv id) (enc a) h K=K (.int .i64 (f a:Nat)):=by
 simp only [z3k,zop,M.obj,mapO,E.key,true_and,zdj E];by_cases e:a∈ks
 ·rw [if_pos e];simp only [Nat.zero_add,List.getElem?_map,zta e,Option.map_some,Option.getD_some]
 ·rw [if_neg e,M.out a e]
  rfl
theorem MapAt.upd (M:MapAt h id enc ks f) (a:α) (n:Nat):MapAt (h.put id (mapO enc (addK ks a) (updF f a n))) id enc (addK ks a) (updF f a n):=
 ⟨z1d _ _ _,addK_nd M.nd,λb hb=>by
  have:b≠a:=λe=>hb (e▸addK_mem ks a);simp only [updF,this,if_false];exact M.out b (addK_sub hb)⟩
theorem MapAt.set (M:MapAt h id enc ks f) (E:KeyOk kk enc) (z:AV) (a:α) (n:Nat) (K:z00->Prop):zbr (some (kk,z)) (.mapv id) (enc a) (.int .i64 (n:Int)) h K=K (h.put id (mapO enc (addK ks a) (updF f a n))):=by
 simp only [zbr,zos,M.obj,mapO,E.key,true_and,zdj E];by_cases e:a∈ks
 ·rw [if_pos e];simp only [Nat.zero_add,upd_map M.nd e,addK,if_pos e]
 ·rw [if_neg e];simp only [addK,if_neg e,List.map_append,List.map_cons,List.map_nil];have:(ks.map λb=>AV.int .i64 (updF f a n b:Nat))=ks.map λb=>AV.int .i64 (f b:Nat):=List.map_congr_left λb hb=>by
   have:b≠a:=λe2=>e (e2▸hb);simp [updF,this]
  rw [this];simp [updF]
theorem MapAt.ent (M:MapAt h id enc ks f) (a:α):MapAt (h.put id (mapO enc (addK ks a) f)) id enc (addK ks a) f:=⟨z1d _ _ _,addK_nd M.nd,λb hb=>M.out b (addK_sub hb)⟩
theorem MapAt.entry (M:MapAt h id enc ks f) (E:KeyOk kk enc) (a:α) (K:AV->z00->Prop):z5x (some (kk,.int .i64 0)) (.mapv id) (enc a) h K=K (.tup [.int .i64 (f a:Nat),  .int .i64 (idxK (addK ks a) a:Nat)]) (h.put id (mapO enc (addK ks a) f)):=by
 simp only [idxK,z5x,zgn,M.obj,mapO,E.key,true_and,zdj E];by_cases e:a∈ks
 ·rw [if_pos e];have hs:h.put id (.map (ks.map enc) (ks.map λb=>AV.int .i64 (f b:Nat)))=h:=put_self' M.obj;simp only [Nat.zero_add,addK,if_pos e,hs,List.getElem?_map,zta e,Option.map_some,Option.getD_some]
 ·rw [if_neg e];have hi:(ks++[a]).idxOf a=ks.length:=by rw [List.idxOf_append,if_neg e];simp
  simp only [addK,if_neg e,List.map_append,List.map_cons,List.map_nil,M.out a e,hi,List.length_map]
  rfl
theorem MapAt.store (M:MapAt h id enc ks f) {a:α} (ha:a∈ks) (n:Nat) (K:z00->Prop):z3q (.mapv id) (.int .i64 (idxK ks a:Nat)) (.int .i64 (n:Int)) h K=K (h.put id (mapO enc ks (updF f a n))):=by
 unfold idxK;have hl:=List.idxOf_lt_length_of_mem ha;simp only [z3q,M.obj,mapO,Int.toNat_natCast,upd_map M.nd ha,List.length_map];apply propext;constructor
 ·rintro ⟨-,-,hk⟩;exact hk
 ·intro hk;exact ⟨by omega,hl,hk⟩
omit [DecidableEq α] in
theorem MapAt.keep {h2:z00} {S:Nat->Prop} (M:MapAt h id enc ks f) (k:Keeps h h2 S) (hid:id<h.next) (hs:¬ S id):MapAt h2 id enc ks f:=⟨by rw [k.objs id hid hs];exact M.obj,M.nd,M.out⟩
end
def zst (n:Int):AV:=.int .i64 n
def zm1 (p:Int×Int):AV:=.agg [.int .i64 p.1,.int .i64 p.2]
theorem zkm:KeyOk .int zst:=⟨λa b=>by by_cases e:a=b <;> simp [zcv,zst,e],λ_=>rfl⟩
theorem zdn:KeyOk (.flat [.int,.int]) zm1:=⟨λa b=>by
 obtain ⟨a1,a2⟩:=a;obtain ⟨b1,b2⟩:=b;simp only [zcv,zm1,z1u,if_true,Option.map_some,Option.some.injEq,Bool.and_true];by_cases e1:a1=b1 <;> by_cases e2:a2=b2 <;> simp [e1,e2],λ_=>rfl⟩
end
section
def rowN (f:Nat->List AV) (n:Nat):List AV:=((List.range n).map f).flatten
theorem zb3 (f:Nat->List AV) (n:Nat):rowN f (n+1)=rowN f n++f n:=by simp [rowN,List.range_succ]
theorem z7k {f g:Nat->List AV} {n:Nat} (h:∀ k,k<n->f k=g k):rowN f n=rowN g n:=by
 unfold rowN;rw [List.map_congr_left λk hk=>h k (List.mem_range.1 hk)]
section
variable {f:Nat->List AV} {sz:Nat} (hl:∀ k,(f k).length=sz)
include hl
theorem z7q (n:Nat):(rowN f n).length=n*sz:=by
 induction n with
 | zero=>simp [rowN]
 | succ n ih=>rw [zb3,List.length_append,ih,hl,Nat.add_mul,Nat.one_mul]
omit hl in
theorem rowN_fit {n k:Nat} (hk:k<n):k*sz+sz<=n*sz:=by
 have:=Nat.mul_le_mul_right sz (show k+1<=n by omega);rwa [Nat.add_mul,Nat.one_mul] at this
theorem zla {n k:Nat} (hk:k<n):((rowN f n).drop (k*sz)).take sz=f k:=by
 induction n with
 | zero=>omega
 | succ n ih=>
  have hn:=z7q hl n;rw [zb3];by_cases e:k<n
  ·have:=rowN_fit (sz:=sz) e;rw [List.drop_append_of_le_length (by omega),List.take_append_of_le_length (by rw [List.length_drop];omega)];exact ih e
  ·have:k=n:=by omega
   subst this;rw [<-hn,List.drop_left,<-hl k,List.take_length]
theorem rowN_get {n k j:Nat} (hk:k<n) (hj:j<sz):(rowN f n)[k*sz+j]?=(f k)[j]?:=by
 rw [<-zla hl hk,List.getElem?_take_of_lt hj,List.getElem?_drop]
theorem rowN_put {n k:Nat} (hk:k<n) {v:List AV} (hv:v.length=sz):(rowN f n).take (k*sz)++v++(rowN f n).drop (k*sz+sz)=rowN (λi=>if i=k then v else f i) n:=by
 induction n with
 | zero=>omega
 | succ n ih=>
  have hn:=z7q hl n;rw [zb3,zb3];by_cases e:k<n
  ·have:=rowN_fit (sz:=sz) e;rw [List.take_append_of_le_length (by omega),List.drop_append_of_le_length (by omega),<-ih e,if_neg (by omega)];simp
  ·have:k=n:=by omega
   subst this;rw [if_pos rfl,<-hn,List.take_left,List.drop_of_length_le (by rw [List.length_append,hl];omega),List.append_nil]
   congr 1
   exact z7k λi hi=>by rw [if_neg (by omega)]
theorem rowN_set {n k j:Nat} (hk:k<n) (hj:j<sz) (x:AV):(rowN f n).set (k*sz+j) x=rowN (λi=>if i=k then (f k).set j x else f i) n:=by
 induction n with
 | zero=>omega
 | succ n ih=>
  have hn:=z7q hl n;rw [zb3,zb3];by_cases e:k<n
  ·have:=rowN_fit (sz:=sz) e;rw [List.set_append_left _ _ (by omega),ih e,if_neg (by omega)]
  ·have:k=n:=by omega
   subst this;rw [if_pos rfl,List.set_append_right _ _ (by omega),hn,Nat.add_sub_cancel_left]
   congr 1
   exact z7k λi hi=>by rw [if_neg (by omega)]
theorem znm (n:Nat):chunk sz n (rowN f n)=(List.range n).map f:=by
 have key:∀ (m:Nat) (g:Nat->List AV),(∀ k,(g k).length=sz)->chunk sz m (rowN g m)=(List.range m).map g:=by
  intro m
  induction m with
  | zero=>intro g _;rfl
  | succ m ih=>
   intro g hg;have e:rowN g (m+1)=g 0++rowN (λk=>g (k+1)) m:=by
    simp only [rowN,List.range_succ_eq_map,List.map_cons,List.map_map,List.flatten_cons];rfl
   rw [e,chunk];rw [show (g 0++rowN (λk=>g (k+1)) m).take sz=g 0 by rw [<-hg 0,List.take_left],show (g 0++rowN (λk=>g (k+1)) m).drop sz=rowN (λk=>g (k+1)) m by rw [<-hg 0,List.drop_left]];rw [ih _ (λk=>hg (k+1)),List.range_succ_eq_map,List.map_cons,List.map_map];rfl
 exact key n f hl
end
section
variable {f:Nat->List AV} {sz:Nat} (hl:∀ k,(f k).length=sz) {h:z00} {id n:Nat} {ty:TypeId} (ho:h.objs id=some (.row ty (rowN f n)))
include hl ho
theorem rowN_load {k:Nat} (hk:k<n) (K:AV->Prop):z0t (some sz) (.ptr id (k*sz)) h K=K (.agg (f k)):=by
 have:=rowN_fit (sz:=sz) hk;have hn:=z7q hl n;rw [z0b ho];simp only [z03,zla hl hk];rw [eq_true (show k*sz+sz<=(rowN f n).length by omega),true_and]
theorem znn {k j:Nat} (hk:k<n) (hj:j<sz) {a:AV} (ha:(f k)[j]?=some a) (K:AV->Prop):z0t none (.ptr id (k*sz+j)) h K=K a:=by
 rw [z0b ho];simp only [z03,rowN_get hl hk hj,ha]
theorem zno {k:Nat} (hk:k<n) {v:List AV} (hv:v.length=sz) (K:z00->Prop):z14 sz (.ptr id (k*sz)) (.agg v) h K=K (h.put id (.row ty (rowN (λi=>if i=k then v else f i) n))):=by
 have:=rowN_fit (sz:=sz) hk;have hn:=z7q hl n;simp only [z14,ho,rowN_put hl hk hv];rw [eq_true hv,eq_true (show k*sz+sz<=(rowN f n).length by omega),true_and,true_and]
theorem ztw {k j:Nat} (hk:k<n) (hj:j<sz) {x:AV} (hx:x.zbn=true) (K:z00->Prop):z14 1 (.ptr id (k*sz+j)) x h K=K (h.put id (.row ty (rowN (λi=>if i=k then (f k).set j x else f i) n))):=by
 have:=rowN_fit (sz:=sz) hk;have hn:=z7q hl n;rw [z2w ho hx (by omega),rowN_set hl hk hj]
end
end
section
section
variable {P:Program} {N:Nat} {b:Code} {h:z00} {Q:z1z->Fr->z00->Prop} {n j:Nat} {hh:z00} {fr:Fr}
def forI (n:Nat) (F:Nat->Fr) (J:Nat->z00->Prop):Nat->Fr->z00->Prop:=λm fr hh=>∃ j,m=n-j/\j<=n/\fr=F j/\J j hh
theorem zmq (hm:P.follows .mixedOrders=true) (hok:codeOk N b=true) (n:Nat) (F:Nat->Fr) (J:Nat->z00->Prop) (h0:J 0 h) (round:∀ j hh,j<=n->J j hh->WP P N b (F j) hh (z3v (forI n F J) (n-j) Q)):WP P N (.loop b) (F 0) h Q:=
 z1i hm hok (forI n F J) n ⟨0,rfl,Nat.zero_le _,rfl,h0⟩ λm fr hh ⟨j,e1,e2,e3,e4⟩=>by subst e1;subst e3;exact round j hh e2 e4
theorem forN {F:Nat->Fr} {J:Nat->z00->Prop} (hj:j<n) (hJ:J (j+1) hh):z3v (forI n F J) (n-j) Q .normal (F (j+1)) hh:=⟨n-(j+1),by omega,j+1,rfl,hj,rfl,hJ⟩
def forI' {α:Type} (n:Nat) (F:Nat->α->Fr) (J:Nat->α->z00->Prop):Nat->Fr->z00->Prop:=λm fr hh=>∃ j a,m=n-j/\j<=n/\fr=F j a/\J j a hh
theorem WP_for' {α:Type} (hm:P.follows .mixedOrders=true) (hok:codeOk N b=true) (n:Nat) (F:Nat->α->Fr) (J:Nat->α->z00->Prop) (a:α) (h0:J 0 a h) (round:∀ j a hh,j<=n->J j a hh->WP P N b (F j a) hh (z3v (forI' n F J) (n-j) Q)):WP P N (.loop b) (F 0 a) h Q:=
 z1i hm hok (forI' n F J) n ⟨0,a,rfl,Nat.zero_le _,rfl,h0⟩ λm fr hh ⟨j,a,e1,e2,e3,e4⟩=>by subst e1;subst e3;exact round j a hh e2 e4
theorem forN' {α:Type} {F:Nat->α->Fr} {J:Nat->α->z00->Prop} (a:α) (hj:j<n) (hJ:J (j+1) a hh):z3v (forI' n F J) (n-j) Q .normal (F (j+1) a) hh:=⟨n-(j+1),by omega,j+1,a,rfl,hj,rfl,hJ⟩
end
end
end Go.Abs
