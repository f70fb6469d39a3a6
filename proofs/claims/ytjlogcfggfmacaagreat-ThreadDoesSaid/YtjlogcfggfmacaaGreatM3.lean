/- Own texts, merged: AbsInt, AbsDblC, AbsArgs, AbsGhost, AbsForget, AbsPack, AbsFreeze, AbsYield, AbsFrz, AbsRes, AbsMapU, AbsRows, AbsFor. -/
import Derived.Test.YtjlogcfggfmacaaGreatM2
set_option linter.unusedVariables false
set_option linter.unusedSimpArgs false
open Nat (reduceEqDiff reduceAdd reduceLeDiff)
set_option maxRecDepth 100000
set_option maxHeartbeats 4000000
namespace Go.Abs
section
theorem wrap_ex (n:Int):∃ k:Int,IntKind.i64.wrap n=n+k*18446744073709551616:=by
 rw [IntKind.wrap_i64];exact ⟨-((n+9223372036854775808)/18446744073709551616),by omega⟩
theorem wrap_range (n:Int):-9223372036854775808<=IntKind.i64.wrap n/\IntKind.i64.wrap n<=9223372036854775807:=by
 rw [IntKind.wrap_i64];omega
theorem tmod_facts (a:Int) {b:Int} (hb:b≠0):(0<=a->0<=a.tmod b/\a.tmod b<=a)/\(a<=0->a<=a.tmod b/\a.tmod b<=0)/\(0<b->-b<a.tmod b/\a.tmod b<b)/\(b<0->b<a.tmod b/\a.tmod b < -b):=by
 have h1:(a.tmod b).natAbs=a.natAbs%b.natAbs:=Int.natAbs_tmod a b;have h2:a.natAbs%b.natAbs<b.natAbs:=Nat.mod_lt _ (by omega);have h3:a.natAbs%b.natAbs<=a.natAbs:=Nat.mod_le _ _;have h4:0<=a->0<=a.tmod b:=λh=>Int.tmod_nonneg b h;have h5:a<=0->a.tmod b<=0:=λh=>by
  have:=Int.tmod_nonneg b (show 0<=-a by omega);rw [Int.neg_tmod] at this;omega
 refine ⟨λh=>?_,λh=>?_,λh=>?_,λh=>?_⟩
 ·have:=h4 h;omega
 ·have:=h5 h;omega
 ·omega
 ·omega
theorem tdiv_tmod (a b:Int):b*a.tdiv b+a.tmod b=a:=Int.mul_tdiv_add_tmod a b
theorem tdiv_range {a b:Int} (h1:-9223372036854775808<=a) (h2:a<=9223372036854775807) (hb:b≠0) (hm:b≠-1):-9223372036854775808<=a.tdiv b/\a.tdiv b<=9223372036854775807:=by
 by_cases h:b=1
 ·subst h;rw [Int.tdiv_one];omega
 ·have e:(a.tdiv b).natAbs=a.natAbs/b.natAbs:=Int.natAbs_tdiv a b;have hb2:2<=b.natAbs:=by omega
  have:a.natAbs/b.natAbs<=a.natAbs/2:=Nat.div_le_div_left hb2 (by omega);omega
def intR (op a b:Int):Int×Bool:=
 if op=0 then (IntKind.i64.wrap (a+b),true)
 else if op=1 then (IntKind.i64.wrap (a-b),true)
 else if op=2 then (IntKind.i64.wrap (a*b),true)
 else if op=3 then (if b=0 then (0,false) else (IntKind.i64.wrap (a.tdiv b),true))
 else if op=4 then (if b=0 then (0,false) else (a.tmod b,true))
 else if op=5 then (if a=b then 1 else 0,true)
 else if op=6 then (if a≠b then 1 else 0,true)
 else if op=7 then (if a<b then 1 else 0,true)
 else if op=8 then (if a<=b then 1 else 0,true)
 else (0,true)
def intV (op a b:Int):AV:=.tup [.int .i64 (intR op a b).1,.bool (intR op a b).2]
def z8l (op:Int) (a b:Nat):Nat:=
 if op=0 then arN .add a b
 else if op=1 then arN .sub a b
 else if op=2 then arN .mul a b
 else if op=3 then arN .quo a b
 else if op=4 then 9221120237041090560
 else if op=5 then (eqN a b).toNat
 else if op=6 then (!eqN a b).toNat
 else if op=7 then (ltN a b).toNat
 else if op=8 then (ltN a b||eqN a b).toNat
 else 0
def cmpB (op:Int) (l e:Bool):Bool:=if op=5 then e else if op=6 then !e else if op=7 then l else if op=8 then l||e else false
theorem zgx {op:BinOp} {a b:Nat} {h:z00} {K:AV->z00->Prop} (H:∀ r,arN op a b=zdj r->K (.flt .f64 r) h):z81 .f64 op (.flt .f64 a) (.flt .f64 b) h K:=by
 unfold z81;refine ⟨rfl,rfl,?_⟩
 cases hf:floatBits op .f64 a b with
 | some r=>exact H r (by unfold arN;rw [hf])
 | none=>
  intro r hr;refine H r ?_;unfold arN zdj;rw [hf,if_pos (zlw hr).1]
theorem odd_bits {a:Nat} (ha:a<18446744073709551616):z2u a=(decide (a*2%18446744073709551616/9007199254740992=2047)&&decide (a*4096%18446744073709551616≠0)):=by
 rw [Bool.eq_iff_iff,isNan_iff];simp only [Bool.and_eq_true,decide_eq_true_eq];omega
theorem zvv {a:Nat} (ha:a<18446744073709551616):a*2%18446744073709551616/2=rgB a/\(sgB a=decide (a/9223372036854775808=1)):=by
 unfold rgB sgB;refine ⟨by omega,?_⟩;rw [Bool.eq_iff_iff];simp only [beq_iff_eq,decide_eq_true_eq];omega
end
section
def rung (m:Nat):Nat:=if m=0 then 0 else if m.log2<=52 then (m.log2+1022)*4503599627370496+m*2 ^ (52-m.log2) else (m.log2+1022)*4503599627370496+Ieee.Toward.even.cut false m (m.log2-52)
theorem zyi (s:Bool) (n d:Nat) (hd:d<=n.log2+2):Ieee.Toward.even.cut s n d=n/2 ^ d+(decide (2 ^ d<2*(n%2 ^ d))||((2 ^ d == 2*(n%2 ^ d))&&(n/2 ^ d%2 == 1))).toNat:=by
 unfold Ieee.Toward.cut;simp only [Nat.one_shiftLeft,Nat.min_eq_left hd]
theorem zlv {m:Nat} (hm:m≠0):2 ^ m.log2<=m/\m<2 ^ (m.log2+1):=⟨Nat.log2_self_le hm,Nat.lt_log2_self⟩
theorem log2_le {m:Nat} (hm:m≠0) (h:m<=9223372036854775808):m.log2<=63:=by
 have h1:=(zlv hm).1;by_cases hl:m.log2<=63
 ·exact hl
 ·have:2 ^ 64<=2 ^ m.log2:=Nat.pow_le_pow_right (by omega) (by omega);omega
theorem cut_bounds {m:Nat} (hm:m≠0) (hl:52<m.log2):4503599627370496<=Ieee.Toward.even.cut false m (m.log2-52)/\Ieee.Toward.even.cut false m (m.log2-52)<=9007199254740992:=by
 obtain ⟨h1,h2⟩:=zlv hm;rw [zyi _ _ _ (by omega)];have hp:0<2 ^ (m.log2-52):=Nat.pow_pos (by omega);have e1:2 ^ m.log2=4503599627370496*2 ^ (m.log2-52):=by
  have:m.log2=52+(m.log2-52):=by omega
  rw [this,Nat.pow_add];simp
 have e2:2 ^ (m.log2+1)=9007199254740992*2 ^ (m.log2-52):=by rw [Nat.pow_succ,e1];omega
 have a1:4503599627370496<=m/2 ^ (m.log2-52):=by rw [Nat.le_div_iff_mul_le hp,<-e1];exact h1
 have a2:m/2 ^ (m.log2-52)<9007199254740992:=by rw [Nat.div_lt_iff_lt_mul hp,<-e2];exact h2
 have hb:∀ b:Bool,b.toNat<=1:=λb=>by cases b <;> decide
 have:=hb (decide (2 ^ (m.log2-52)<2*(m%2 ^ (m.log2-52)))||((2 ^ (m.log2-52) == 2*(m%2 ^ (m.log2-52)))&&(m/2 ^ (m.log2-52)%2 == 1)));omega
theorem zu9 {m:Nat} (hm:m≠0) (hl:m.log2<=52):4503599627370496<=m*2 ^ (52-m.log2)/\m*2 ^ (52-m.log2)<9007199254740992:=by
 obtain ⟨h1,h2⟩:=zlv hm;have hp:0<2 ^ (52-m.log2):=Nat.pow_pos (by omega);have e1:2 ^ m.log2*2 ^ (52-m.log2)=4503599627370496:=by rw [<-Nat.pow_add,show m.log2+(52-m.log2)=52 by omega]
 have e2:2 ^ (m.log2+1)*2 ^ (52-m.log2)=9007199254740992:=by rw [<-Nat.pow_add,show m.log2+1+(52-m.log2)=53 by omega]
 have a1:=Nat.mul_le_mul_right (2 ^ (52-m.log2)) h1;have a2:=Nat.mul_lt_mul_of_pos_right h2 hp;omega
theorem zpe {m:Nat} (hm:m≠0):(m.log2+1023)*4503599627370496<=rung m/\rung m<=(m.log2+1024)*4503599627370496:=by
 unfold rung;rw [if_neg hm];split
 ·rename_i h;have:=zu9 hm h;generalize m*2 ^ (52-m.log2)=X at *;generalize m.log2=l at *;constructor <;> omega
 ·rename_i h;have:=cut_bounds hm (by omega);generalize Ieee.Toward.even.cut false m (m.log2-52)=X at *;generalize m.log2=l at *;constructor <;> omega
theorem zxg (n:Int) (h1:-9223372036854775808<=n) (h2:n<=9223372036854775807):FloatKind.f64.nearest n=if n<0 then 9223372036854775808+rung n.natAbs else rung n.natAbs:=by
 have b1:Ieee.double.signWeight=9223372036854775808:=by decide
 have b2:Ieee.double.binade=4503599627370496:=by decide
 have b3:Ieee.double.infRung=9218868437227405312:=by decide
 have b4:Ieee.double.leastPlace=-1074:=by decide
 have b5:Ieee.double.fractionBits=52:=rfl
 show Ieee.double.write (.number (decide (n<0)) n.natAbs 0)=_
 unfold Ieee.Format.write Ieee.Format.nearest Ieee.Format.word;simp only [b1,b2,b3,b4,b5];by_cases h0:n.natAbs=0
 ·have:¬ n<0:=by omega
  rw [if_pos h0,if_neg this];simp [this,rung,h0]
 ·rw [if_neg h0];have hl:=log2_le h0 (by omega);have hb:=zpe h0;have key:min ((max ((0:Int)+(n.natAbs.log2:Int)-((52:Nat):Int)) (-1074) - -1074).toNat*4503599627370496+Ieee.Toward.even.cut (decide (n<0)) (n.natAbs <<< ((0:Int)-max ((0:Int)+(n.natAbs.log2:Int)-((52:Nat):Int)) (-1074)).toNat) (max ((0:Int)+(n.natAbs.log2:Int)-((52:Nat):Int)) (-1074)-0).toNat) 9218868437227405312=rung n.natAbs:=by
   have e0:max ((0:Int)+(n.natAbs.log2:Int)-((52:Nat):Int)) (-1074)=(n.natAbs.log2:Int)-52:=by omega
   rw [e0];have e1:((n.natAbs.log2:Int)-52 - -1074).toNat=n.natAbs.log2+1022:=by omega
   rw [e1];have er:(n.natAbs.log2+1022)*4503599627370496+Ieee.Toward.even.cut (decide (n<0)) (n.natAbs <<< ((0:Int)-((n.natAbs.log2:Int)-52)).toNat) ((n.natAbs.log2:Int)-52-0).toNat=rung n.natAbs:=by
    unfold rung;rw [if_neg h0];by_cases hc:n.natAbs.log2<=52
    ·rw [if_pos hc];have e2:((0:Int)-((n.natAbs.log2:Int)-52)).toNat=52-n.natAbs.log2:=by omega
     have e3:((n.natAbs.log2:Int)-52-0).toNat=0:=by omega
     rw [e2,e3,zyi _ _ _ (by omega),Nat.shiftLeft_eq,Nat.pow_zero,Nat.div_one,Nat.mod_one];simp
    ·rw [if_neg hc];have e2:((0:Int)-((n.natAbs.log2:Int)-52)).toNat=0:=by omega
     have e3:((n.natAbs.log2:Int)-52-0).toNat=n.natAbs.log2-52:=by omega
     rw [e2,e3,Nat.shiftLeft_zero]
     rfl
   rw [er];omega
  simp only [key];by_cases hn:n<0
  ·simp [hn]
  ·simp [hn]
theorem rung_lt {n:Int} (h1:-9223372036854775808<=n) (h2:n<=9223372036854775807):rung n.natAbs<9218868437227405312:=by
 by_cases h0:n.natAbs=0
 ·unfold rung;rw [if_pos h0];omega
 ·have hl:=log2_le h0 (by omega);have hb:=(zpe h0).2;omega
end
section
open Go.RowKit
def Sub (as bs:List AV):Prop:=∀ (c:Ctx) (w:World) (vs:List Value),LRel c w as vs->LRel c w bs vs
theorem Sub.nil:Sub [] []:=λ_ _ _ h=>h
theorem Sub.cons {a b:AV} {as bs:List AV} (h1:∀ (c:Ctx) (w:World) (v:Value),VRel c w a v->VRel c w b v) (h2:Sub as bs):Sub (a::as) (b::bs):=by
 intro c w vs h;simp only [LRel] at h ⊢;obtain ⟨v,vs',e,hv,hl⟩:=h;exact ⟨v,vs',e,h1 c w v hv,h2 c w vs' hl⟩
theorem gsl_isl (id sz:Nat) (es:List (List AV)) (hm:es.length<=1000000) (c:Ctx) (w:World) (v:Value) (h:VRel c w (.gsl id sz es) v):VRel c w (.isl sz es) v:=by
 simp only [VRel] at h ⊢;obtain ⟨b,cap,ty,h1,h2,h3,h4,h5,h6⟩:=h;exact ⟨_,cap,h2,h3,by omega,λ_=>⟨b,0,rfl,h6⟩⟩
theorem z01.args {P:Program} {f:FuncId} {as bs:List AV} {h:z00} {R:AV->z00->Prop} (hs:Sub as bs) (H:z01 P f bs h R):z01 P f as h R:=by
 rcases H with H | H
 ·exact Or.inl ⟨H.1,λB c w vs W L=>H.2 B c w vs W (hs c w vs L)⟩
 ·exact Or.inr λB c w vs W L=>H B c w vs W (hs c w vs L)
theorem zqu {c:Ctx} {w:World} {b sz:Nat}:∀ (n:Nat) (cs:List AV) (off:Nat),n*sz<=cs.length->MRel c w cs b off->ERel c w sz (chunk sz n cs) b off
 | 0,cs,off,_,_=>by simp [chunk,ERel]
 | n+1,cs,off,hl,hm=>by
  rw [Nat.add_mul,Nat.one_mul] at hl;simp only [chunk,ERel];exact ⟨by simp;omega,hm.take sz,zqu n _ _ (by simp;omega) (hm.drop sz)⟩
end
section
open Go.RowKit
end
section
open Go.RowKit
mutual
def z1x (D:Nat->Prop):AV->Prop
 | .ptr id _=>D id
 | .iptr cs=>z7x D cs
 | .isl _ es=>zb1 D es
 | .gsl id _ es=>D id/\zb1 D es
 | .sl id _ _ _=>D id
 | .mapv id=>D id
 | .yld id=>D id
 | .fn _ a b=>z7x D a/\z7x D b
 | .ifc _ a=>z1x D a
 | .agg cs=>z7x D cs
 | .tup vs=>z7x D vs
 | _=>True
def z7x (D:Nat->Prop):List AV->Prop
 | []=>True
 | a::as=>z1x D a/\z7x D as
def zb1 (D:Nat->Prop):List (List AV)->Prop
 | []=>True
 | e::es=>z7x D e/\zb1 D es
end
section
variable {c c':Ctx} {w:World} {D:Nat->Prop}
mutual
theorem VRel.move (hm:∀ id,D id->c'.m id=c.m id) (him:∀ b o,c.im b o->c'.im b o):∀ {a:AV} {v:Value},z1x D a->VRel c w a v->VRel c' w a v
 | .und,_,_,_=>by simp [VRel]
 | .int ..,_,_,h=>by simpa [VRel] using h
 | .bool ..,_,_,h=>by simpa [VRel] using h
 | .unkb,_,_,h=>by simpa [VRel] using h
 | .str ..,_,_,h=>by simpa [VRel] using h
 | .flt ..,_,_,h=>by simpa [VRel] using h
 | .nilp,_,_,h=>by simpa [VRel] using h
 | .ptr id off,_,i,h=>by
  simp only [VRel,z1x] at h i ⊢;obtain ⟨b,h1,h2⟩:=h;exact ⟨b,by rw [hm _ i];exact h1,h2⟩
 | .iptr cs,_,i,h=>by
  simp only [VRel,z1x] at h i ⊢;obtain ⟨b,off,h1,h2⟩:=h;exact ⟨b,off,h1,MRel.move hm him i h2⟩
 | .nils,_,_,h=>by simpa [VRel] using h
 | .eml,_,_,h=>by simpa [VRel] using h
 | .isl sz es,_,i,h=>by
  simp only [VRel,z1x] at h i ⊢;obtain ⟨a,cap,h1,h2,h2b,h3⟩:=h;refine ⟨a,cap,h1,h2,h2b,λhne=>?_⟩;obtain ⟨b,off,h4,h5⟩:=h3 hne;exact ⟨b,off,h4,ERel.move hm him i h5⟩
 | .gsl id sz es,_,i,h=>by
  simp only [VRel,z1x] at h i ⊢;obtain ⟨b,cap,ty,h1,h2,h3,h4,h5,h6⟩:=h;exact ⟨b,cap,ty,by rw [hm _ i.1];exact h1,h2,h3,h4,h5,ERel.move hm him i.2 h6⟩
 | .sl ..,_,i,h=>by
  simp only [VRel,z1x] at h i ⊢;obtain ⟨b,cap,ty,h1,h2,h3,h4,h5⟩:=h;exact ⟨b,cap,ty,by rw [hm _ i];exact h1,h2,h3,h4,h5⟩
 | .nilm,_,_,h=>by simpa [VRel] using h
 | .mapv ..,_,i,h=>by
  simp only [VRel,z1x] at h i ⊢;obtain ⟨b,h1,h2⟩:=h;exact ⟨b,by rw [hm _ i];exact h1,h2⟩
 | .yld ..,_,i,h=>by
  simp only [VRel,z1x] at h i ⊢;obtain ⟨b,h1,h2⟩:=h;exact ⟨b,by rw [hm _ i];exact h1,h2⟩
 | .nilf,_,_,h=>by simpa [VRel] using h
 | .fn f first captured,_,i,h=>by
  simp only [VRel,z1x] at h i ⊢;obtain ⟨fs,cs,h1,h2,h3⟩:=h;exact ⟨fs,cs,h1,LRel.move hm him i.1 h2,LRel.move hm him i.2 h3⟩
 | .nili,_,_,h=>by simpa [VRel] using h
 | .ifc t a,_,i,h=>by
  simp only [VRel,z1x] at h i ⊢;obtain ⟨u,h1,h2⟩:=h;exact ⟨u,h1,VRel.move hm him i h2⟩
 | .agg cs,_,i,h=>by
  simp only [VRel,z1x] at h i ⊢;obtain ⟨vs,h1,h2,h3⟩:=h;exact ⟨vs,h1,LRel.move hm him i h2,h3⟩
 | .tup cs,_,i,h=>by
  simp only [VRel,z1x] at h i ⊢;obtain ⟨vs,h1,h2⟩:=h;exact ⟨vs,h1,LRel.move hm him i h2⟩
theorem LRel.move (hm:∀ id,D id->c'.m id=c.m id) (him:∀ b o,c.im b o->c'.im b o):∀ {as:List AV} {vs:List Value},z7x D as->LRel c w as vs->LRel c' w as vs
 | [],_,_,h=>by simpa [LRel] using h
 | a::as,_,i,h=>by
  simp only [LRel,z7x] at h i ⊢;obtain ⟨v,vs',h1,h2,h3⟩:=h;exact ⟨v,vs',h1,VRel.move hm him i.1 h2,LRel.move hm him i.2 h3⟩
theorem MRel.move (hm:∀ id,D id->c'.m id=c.m id) (him:∀ b o,c.im b o->c'.im b o):∀ {as:List AV} {b off:Nat},z7x D as->MRel c w as b off->MRel c' w as b off
 | [],_,_,_,_=>by simp [MRel]
 | a::as,b,off,i,h=>by
  simp only [MRel,z7x] at h i ⊢;obtain ⟨h1,⟨u,h2,h3,h4⟩,h5⟩:=h;exact ⟨him _ _ h1,⟨u,h2,h3,VRel.move hm him i.1 h4⟩,MRel.move hm him i.2 h5⟩
theorem ERel.move (hm:∀ id,D id->c'.m id=c.m id) (him:∀ b o,c.im b o->c'.im b o) {sz:Nat}:∀ {es:List (List AV)} {b off:Nat},zb1 D es->ERel c w sz es b off->ERel c' w sz es b off
 | [],_,_,_,_=>by simp [ERel]
 | e::es,b,off,i,h=>by
  simp only [ERel,zb1] at h i ⊢;exact ⟨h.1,MRel.move hm him i.1 h.2.1,ERel.move hm him i.2 h.2.2⟩
end
mutual
theorem VRel.ids:∀ {a:AV} {v:Value},VRel c w a v->z1x (λid=>c.m id≠none) a
 | .und,_,_=>by simp [z1x]
 | .int ..,_,_=>by simp [z1x]
 | .bool ..,_,_=>by simp [z1x]
 | .unkb,_,_=>by simp [z1x]
 | .str ..,_,_=>by simp [z1x]
 | .flt ..,_,_=>by simp [z1x]
 | .nilp,_,_=>by simp [z1x]
 | .ptr ..,_,h=>by
  simp only [VRel,z1x] at h ⊢;obtain ⟨b,h1,-⟩:=h;rw [h1];simp
 | .iptr cs,_,h=>by
  simp only [VRel,z1x] at h ⊢;obtain ⟨b,off,h1,h2⟩:=h;exact MRel.ids h2
 | .yld ..,_,h=>by
  simp only [VRel,z1x] at h ⊢;obtain ⟨b,h1,-⟩:=h;rw [h1];simp
 | .nils,_,_=>by simp [z1x]
 | .eml,_,_=>by simp [z1x]
 | .isl sz [],_,h=>by simp [z1x,zb1]
 | .isl sz (e::es),_,h=>by
  simp only [VRel,z1x] at h ⊢;obtain ⟨a,cap,h1,h2,h2b,h3⟩:=h;obtain ⟨b,off,h4,h5⟩:=h3 (by simp);exact ERel.ids h5
 | .gsl ..,_,h=>by
  simp only [VRel,z1x] at h ⊢;obtain ⟨b,cap,ty,h1,h2,h3,h4,h5,h6⟩:=h;exact ⟨by rw [h1];simp,ERel.ids h6⟩
 | .sl ..,_,h=>by
  simp only [VRel,z1x] at h ⊢;obtain ⟨b,cap,ty,h1,-⟩:=h;rw [h1];simp
 | .nilm,_,_=>by simp [z1x]
 | .mapv ..,_,h=>by
  simp only [VRel,z1x] at h ⊢;obtain ⟨b,h1,-⟩:=h;rw [h1];simp
 | .nilf,_,_=>by simp [z1x]
 | .fn f first captured,_,h=>by
  simp only [VRel,z1x] at h ⊢;obtain ⟨fs,cs,h1,h2,h3⟩:=h;exact ⟨LRel.ids h2,LRel.ids h3⟩
 | .nili,_,_=>by simp [z1x]
 | .ifc t a,_,h=>by
  simp only [VRel,z1x] at h ⊢;obtain ⟨u,h1,h2⟩:=h;exact VRel.ids h2
 | .agg cs,_,h=>by
  simp only [VRel,z1x] at h ⊢;obtain ⟨vs,h1,h2,h3⟩:=h;exact LRel.ids h2
 | .tup cs,_,h=>by
  simp only [VRel,z1x] at h ⊢;obtain ⟨vs,h1,h2⟩:=h;exact LRel.ids h2
theorem LRel.ids:∀ {as:List AV} {vs:List Value},LRel c w as vs->z7x (λid=>c.m id≠none) as
 | [],_,_=>by simp [z7x]
 | a::as,_,h=>by
  simp only [LRel,z7x] at h ⊢;obtain ⟨v,vs',h1,h2,h3⟩:=h;exact ⟨VRel.ids h2,LRel.ids h3⟩
theorem MRel.ids:∀ {as:List AV} {b off:Nat},MRel c w as b off->z7x (λid=>c.m id≠none) as
 | [],_,_,_=>by simp [z7x]
 | a::as,b,off,h=>by
  simp only [MRel,z7x] at h ⊢;obtain ⟨h1,⟨u,h2,h3,h4⟩,h5⟩:=h;exact ⟨VRel.ids h4,MRel.ids h5⟩
theorem ERel.ids {sz:Nat}:∀ {es:List (List AV)} {b off:Nat},ERel c w sz es b off->zb1 (λid=>c.m id≠none) es
 | [],_,_,_=>by simp [zb1]
 | e::es,b,off,h=>by
  simp only [ERel,zb1] at h ⊢;exact ⟨MRel.ids h.2.1,ERel.ids h.2.2⟩
end
end
theorem WRel.forget {B:Nat} {c c':Ctx} {h h':z00} {w w':World} (W:WRel B c h w) (E:Ext B c w c' w') (W':WRel B c' h' w') (K:Keeps h h' (λ_=>False)) {v:AV} {u:Value} (hv:z1x (λ_=>False) v) (V:VRel c' w' v u) :
  ∃ c2,Ext B c w c2 w'/\WRel B c2 h w'/\VRel c2 w' v u:=by
 refine ⟨⟨c.m,c'.im⟩,⟨⟨λid b hb=>hb,E.im,E.below,E.cells,E.shp⟩,E.oth⟩,⟨λid b hb=>⟨(W.mlt id b hb).1,(W'.mlt id b (E.m id b hb)).2⟩,λi j b hi hj ho1 ho2=>W.inj i j b hi hj ho1 ho2,λid b o hb ho=>?_,W'.im,W.fresh,W'.base,λg=>MRel.move (c:=c') (c':=⟨c.m,c'.im⟩) (D:=λid=>c.m id≠none) (λk hk=>by
   cases hk2:c.m k with
   | none=>exact absurd hk2 hk
   | some bk=>exact (E.m k bk hk2).symm) (λ_ _ h=>h) (W.gl g).ids (W'.gl g)⟩,?_⟩
 ·have hlt:=(W.mlt id b hb).1;have ho':h'.objs id=some o:=by rw [K.objs id hlt (by simp)];exact ho
  have R:=W'.obj id b o (E.m id b hb) ho'
  cases o with
  | tok ty n=>exact R
  | row ty cs=>
   obtain ⟨C,h1,h2,h3,h4,h5⟩:=R;refine ⟨C,h1,h2,?_,h4,h5⟩;obtain ⟨C0,-,-,g3,-⟩:=W.obj id b _ hb ho;refine LRel.move (c:=c') (c':=⟨c.m,c'.im⟩) (D:=λid=>c.m id≠none) (λk hk=>?_) (λ_ _ h=>h) g3.ids h3
   cases hk2:c.m k with
   | none=>exact absurd hk2 hk
   | some bk=>exact (E.m k bk hk2).symm
  | loop st pe N ps asn bd fr=>
   obtain ⟨L,h1,h2,h3,h4,h5,h6,h7,h8⟩:=R;obtain ⟨L0,-,-,-,-,-,-,-,g8⟩:=W.obj id b _ hb ho;refine ⟨L,h1,h2,h3,h4,h5,h6,h7,λi=>?_⟩;refine VRel.move (c:=c') (c':=⟨c.m,c'.im⟩) (D:=λid=>c.m id≠none) (λk hk=>?_) (λ_ _ h=>h) (g8 i).ids (h8 i)
   cases hk2:c.m k with
   | none=>exact absurd hk2 hk
   | some bk=>exact (E.m k bk hk2).symm
  | map ks vs=>
   obtain ⟨es,h1,h2,h3,h4⟩:=R;obtain ⟨es0,-,g2,g3,-⟩:=W.obj id b _ hb ho;have hk:∀ k,c.m k≠none->c.m k=c'.m k:=λk hk=>by
    cases hk2:c.m k with
    | none=>exact absurd hk2 hk
    | some bk=>exact (E.m k bk hk2).symm
   exact ⟨es,h1,LRel.move (c:=c') (c':=⟨c.m,c'.im⟩) (D:=λid=>c.m id≠none) hk (λ_ _ h=>h) g2.ids h2,LRel.move (c:=c') (c':=⟨c.m,c'.im⟩) (D:=λid=>c.m id≠none) hk (λ_ _ h=>h) g3.ids h3,h4⟩
 ·exact VRel.move (c:=c') (c':=⟨c.m,c'.im⟩) (D:=λ_=>False) (λ_ h=>h.elim) (λ_ _ h=>h) hv V
theorem z01.forget {P:Program} {f:FuncId} {args:List AV} {h:z00} {v0:AV} (hv:z1x (λ_=>False) v0) (H:z01 P f args h (λv h2=>v=v0/\Keeps h h2 (λ_=>False))):z01 P f args h (λv h2=>v=v0/\h2=h):=by
 rcases H with H | H
 ·refine Or.inl ⟨H.1,λB c w vs W L=>(H.2 B c w vs W L).mono λe w' ⟨c',u,v,h',a,E,W',V,q,K⟩=>?_⟩;subst q;obtain ⟨c2,E2,W2,V2⟩:=W.forget E W' K hv V;exact ⟨c2,u,v,h,a,E2,W2,V2,rfl,rfl⟩
 ·refine Or.inr λB c w vs W L=>?_;obtain ⟨c',u,v,h',w',a,E,W',V,q,K⟩:=H B c w vs W L;subst q;obtain ⟨c2,E2,W2,V2⟩:=W.forget E W' K hv V;exact ⟨c2,u,v,h,w',a,E2,W2,V2,rfl,rfl⟩
end
section
theorem gp0:(type_of% @zqj)/\(type_of% @znw)/\(type_of% @zdg)/\(type_of% @zi4)/\(type_of% @zpd)/\(type_of% @zpc)/\(type_of% @zgd)/\(type_of% @zmh):=⟨@zqj,@znw,@zdg,@zi4,@zpd,@zpc,@zgd,@zmh⟩
theorem gp1:(type_of% @zmg)/\(type_of% @zra)/\(type_of% @zox)/\(type_of% @zw5)/\(type_of% @zzg)/\(type_of% @zkw)/\(type_of% @zkx)/\(type_of% @znm):=⟨@zmg,@zra,@zox,@zw5,@zzg,@zkw,@zkx,@znm⟩
theorem gp2:(type_of% @zou)/\(type_of% @zmd):=⟨@zou,@zmd⟩
theorem gq0:(type_of% @z5a)/\(type_of% @zxc)/\(type_of% @later_3)/\(type_of% @z1c)/\(type_of% @zvf)/\(type_of% @znl)/\(type_of% @znk)/\(type_of% @exitQ_normal):=⟨@z5a,@zxc,@later_3,@z1c,@zvf,@znl,@znk,@exitQ_normal⟩
theorem gq1:(type_of% @zqv)/\(type_of% @zua)/\(type_of% @zuk)/\(type_of% @zk7)/\(type_of% @zm8)/\(type_of% @zz8)/\(type_of% @zz7)/\(type_of% @zz6):=⟨@zqv,@zua,@zuk,@zk7,@zm8,@zz8,@zz7,@zz6⟩
theorem gq2:(type_of% @pLen_sl)/\(type_of% @zvj)/\(type_of% @zz5)/\(type_of% @zrb)/\(type_of% @zvk)/\(type_of% @zfm)/\(type_of% @zvh)/\(type_of% @zvd):=⟨@pLen_sl,@zvj,@zz5,@zrb,@zvk,@zfm,@zvh,@zvd⟩
theorem gq3:(type_of% @pBox_false)/\(type_of% @pAlloc_eq)/\(type_of% @zu0)/\(type_of% @zyn)/\(type_of% @zno)/\(type_of% @zvm)/\(type_of% @pNil_fn)/\(type_of% @z8q):=⟨@pBox_false,@pAlloc_eq,@zu0,@zyn,@zno,@zvm,@pNil_fn,@z8q⟩
theorem gq4:(type_of% @zfn)/\(type_of% @zr9)/\(type_of% @zow)/\(type_of% @zov)/\(type_of% @pCells_some)/\(type_of% @z0y)/\(type_of% @zcu)/\(type_of% @z8r):=⟨@zfn,@zr9,@zow,@zov,@pCells_some,@z0y,@zcu,@z8r⟩
theorem gq5:(type_of% @binA_int_neq)/\(type_of% @binA_int_lss)/\(type_of% @binA_int_leq)/\(type_of% @binA_int_gtr)/\(type_of% @binA_int_geq)/\(type_of% @binA_int_add)/\(type_of% @binA_int_sub)/\(type_of% @binA_int_mul):=⟨@binA_int_neq,@binA_int_lss,@binA_int_leq,@binA_int_gtr,@binA_int_geq,@binA_int_add,@binA_int_sub,@binA_int_mul⟩
theorem gq6:(type_of% @binA_int_and)/\(type_of% @binA_int_or)/\(type_of% @binA_int_xor)/\(type_of% @binA_str_eql)/\(type_of% @binA_str_neq)/\(type_of% @zj8)/\(type_of% @zj9)/\(type_of% @z6z):=⟨@binA_int_and,@binA_int_or,@binA_int_xor,@binA_str_eql,@binA_str_neq,@zj8,@zj9,@z6z⟩
theorem gq7:(type_of% @zel)/\(type_of% @zcf)/\(type_of% @zcg)/\(type_of% @zej)/\(type_of% @zek)/\(type_of% @unA_not)/\(type_of% @zmj)/\(type_of% @unA_neg):=⟨@zel,@zcf,@zcg,@zej,@zek,@unA_not,@zmj,@unA_neg⟩
theorem gq8:(type_of% @fits_int)/\(type_of% @zu1)/\(type_of% @fits_bool)/\(type_of% @zqo)/\(type_of% @zyp)/\(type_of% @zu4)/\(type_of% @zyo)/\(type_of% @zu3):=⟨@fits_int,@zu1,@fits_bool,@zqo,@zyp,@zu4,@zyo,@zu3⟩
theorem gq9:(type_of% @zui)/\(type_of% @zqp)/\(type_of% @zfa)/\(type_of% @zle):=⟨@zui,@zqp,@zfa,@zle⟩
theorem go0:(type_of% @dT_lt)/\(type_of% @dF_lt)/\(type_of% @dT_le)/\(type_of% @dF_le)/\(type_of% @dT_eq)/\(type_of% @dF_eq)/\(type_of% @dT_ne)/\(type_of% @dF_ne):=⟨@dT_lt,@dF_lt,@dT_le,@dF_le,@dT_eq,@dF_eq,@dT_ne,@dF_ne⟩
theorem go1:(type_of% @z2f)/\(type_of% @wrapN)/\(type_of% @wrapB):=⟨@z2f,@wrapN,@wrapB⟩
theorem gl0:(type_of% @Nat.le_refl)/\(type_of% @Nat.zero_add)/\(type_of% @Nat.add_zero)/\(type_of% @List.drop_zero.{0})/\(type_of% @List.drop_succ_cons.{0})/\(type_of% @List.length_cons.{0})/\(type_of% @List.length_nil.{0})/\(type_of% @List.take_succ_cons.{0}):=⟨@Nat.le_refl,@Nat.zero_add,@Nat.add_zero,@List.drop_zero.{0},@List.drop_succ_cons.{0},@List.length_cons.{0},@List.length_nil.{0},@List.take_succ_cons.{0}⟩
theorem gl1:(type_of% @List.take_zero.{0})/\(type_of% @true_and)/\(type_of% @and_true)/\(type_of% @Bool.not_true)/\(type_of% @Bool.not_false)/\(type_of% @false_implies)/\(type_of% @true_implies)/\(type_of% @eq_self.{1}):=⟨@List.take_zero.{0},@true_and,@and_true,@Bool.not_true,@Bool.not_false,@false_implies,@true_implies,@eq_self.{1}⟩
theorem gl2:(type_of% @List.drop_drop.{0})/\(type_of% @List.getElem?_cons_zero.{0})/\(type_of% @List.getElem?_cons_succ.{0})/\(type_of% @List.nil_append.{0})/\(type_of% @List.cons_append.{0})/\(type_of% @List.append_nil.{0})/\(type_of% @Bool.true_and)/\(type_of% @Bool.false_and):=⟨@List.drop_drop.{0},@List.getElem?_cons_zero.{0},@List.getElem?_cons_succ.{0},@List.nil_append.{0},@List.cons_append.{0},@List.append_nil.{0},@Bool.true_and,@Bool.false_and⟩
theorem gl3:(type_of% @Bool.and_true)/\(type_of% @Bool.and_false)/\(type_of% @Bool.true_or)/\(type_of% @Bool.false_or)/\(type_of% @Bool.or_true)/\(type_of% @Bool.or_false):=⟨@Bool.and_true,@Bool.and_false,@Bool.true_or,@Bool.false_or,@Bool.or_true,@Bool.or_false⟩
theorem rP:(type_of% @gp0)/\(type_of% @gp1)/\(type_of% @gp2)/\(type_of% @qr1)/\(type_of% @qr2)/\(type_of% @qr3)/\(type_of% @qr4):=⟨@gp0,@gp1,@gp2,@qr1,@qr2,@qr3,@qr4⟩
theorem rQ:(type_of% @gq0)/\(type_of% @gq1)/\(type_of% @gq2)/\(type_of% @gq3)/\(type_of% @gq4)/\(type_of% @gq5)/\(type_of% @gq6)/\(type_of% @gq7)/\(type_of% @gq8)/\(type_of% @gq9):=⟨@gq0,@gq1,@gq2,@gq3,@gq4,@gq5,@gq6,@gq7,@gq8,@gq9⟩
theorem rO:(type_of% @go0)/\(type_of% @go1):=⟨@go0,@go1⟩
theorem rL:(type_of% @gl0)/\(type_of% @gl1)/\(type_of% @gl2)/\(type_of% @gl3):=⟨@gl0,@gl1,@gl2,@gl3⟩
theorem pB (places:List (Nat×Nat)) (zero:List AV) (parts:List (Nat×AV)) (K:AV->Prop):z3w places zero parts K=match zcj (places[·]?) zero parts with | some cs=>K (.agg cs) | none=>False:=rfl
theorem fA (place:Nat->Option (Nat×Nat)) (cells:List AV):zcj place cells []=some cells/\∀ i v rest,zcj place cells ((i,v)::rest)=match place i with
  | none=>none
  | some (off,size)=>if v.fits=true/\v.cells.length=size/\off+size<=cells.length then zcj place (cells.take off++v.cells++cells.drop (off+size)) rest else none:=⟨rfl,λ_ _ _=>rfl⟩
theorem rB:(type_of% @rQ)/\(type_of% @rL)/\(type_of% @pB)/\(type_of% @fA):=⟨@rQ,@rL,@pB,@fA⟩
theorem rA:(type_of% @rQ)/\(type_of% @rO)/\(type_of% @rL)/\(type_of% @pB)/\(type_of% @fA):=⟨@rQ,@rO,@rL,@pB,@fA⟩
end
section
open Go.RowKit
end
section
open Go.RowKit
theorem z1h {h:z00} {i:Nat} (hi:i<h.next) (o:AObj):(h.push o).objs i=h.objs i:=by simp only [z00.z4a];rw [if_neg (by omega)]
theorem z0w (h:z00) (o:AObj):(h.push o).objs h.next=some o:=by simp
theorem z2w (h:z00) (i:Nat) (o:AObj):(h.put i o).objs i=some o:=by simp
theorem z1i {h:z00} {i j:Nat} (hi:i≠j) (o:AObj):(h.put j o).objs i=h.objs i:=by simp only [z00.z1u];rw [if_neg hi]
theorem zsj {h:z00} {i j:Nat} (hi:i≠j):(h.kill j).objs i=h.objs i:=by simp only [z00.z5c];rw [if_neg hi]
theorem Keeps.zg9 {h hh:z00} {S:Nat->Prop} (k:Keeps h hh S) (o:AObj):Keeps h (hh.push o) S:=⟨Nat.le_trans k.next (Nat.le_succ _),λj hj hs=>by rw [z1h (Nat.lt_of_lt_of_le hj k.next)];exact k.objs j hj hs⟩
theorem zyz (k:IntKind) (a b:Int):maxA [.int k a,.int k b]=some (.int k (max a b)):=by
 rw [maxA,maxA]
 ·congr 2;rw [Int.max_def];split <;> split <;> omega
theorem Keeps.zi2 {h hh:z00} {S:Nat->Prop} (k:Keeps h hh S) {i:Nat} (hi:h.next<=i) (o:AObj):Keeps h (hh.put i o) S:=⟨k.next,λj hj hs=>by simp only [z00.z1u];rw [if_neg (by omega)];exact k.objs j hj hs⟩
theorem Keeps.putS {h hh:z00} {S:Nat->Prop} (k:Keeps h hh S) {i:Nat} (hi:S i) (o:AObj):Keeps h (hh.put i o) S:=⟨k.next,λj hj hs=>by simp only [z00.z1u];rw [if_neg (by rintro rfl;exact hs hi)];exact k.objs j hj hs⟩
theorem Keeps.zbe {h hh:z00} {S:Nat->Prop} (k:Keeps h hh S) {i:Nat} (hi:h.next<=i):Keeps h (hh.kill i) S:=⟨k.next,λj hj hs=>by simp only [z00.z5c];rw [if_neg (by omega)];exact k.objs j hj hs⟩
section
variable {P:Program}
theorem z01.go {f:FuncId} {args:List AV} {h:z00} {v0:AV} {K:AV->z00->Prop} (H:z01 P f args h (λv h2=>v=v0/\h2=h)) (hk:K v0 h):z01 P f args h K:=H.mono (by rintro _ _ ⟨rfl,rfl⟩;exact hk)
end
end
section
open Go.RowKit
section
variable {id n sz:Nat} {es:List (List AV)}
end
end
section
open Go.RowKit
noncomputable def z00.zuw (h:z00) (D:Nat->Prop):z00:={ h with objs:=λi=>@ite _ (D i) (Classical.propDecidable _) none (h.objs i) }
theorem znj {h:z00} {D:Nat->Prop} {i:Nat} (hi:D i):(h.zuw D).objs i=none:=by simp [z00.zuw,hi]
theorem zfi {h:z00} {D:Nat->Prop} {i:Nat} (hi:¬ D i):(h.zuw D).objs i=h.objs i:=by simp [z00.zuw,hi]
theorem zr1 {h:z00} {D:Nat->Prop} {i:Nat} {o:AObj} (hi:(h.zuw D).objs i=some o):¬ D i/\h.objs i=some o:=by
 by_cases d:D i
 ·rw [znj d] at hi;cases hi
 ·rw [zfi d] at hi;exact ⟨d,hi⟩
theorem WRel.zuw {B:Nat} {c:Ctx} {h:z00} {w:World} (W:WRel B c h w) (D:Nat->Prop):WRel B c (h.zuw D) w:=by
 refine ⟨W.mlt,λi j k hi hj h1 h2=>W.inj i j k hi hj ?_ ?_,λi k x hi hio=>W.obj i k x hi (zr1 hio).2,W.im,λi hi=>?_,W.base,W.gl⟩
 ·intro e;apply h1;by_cases d:D i
  ·exact znj d
  ·rw [zfi d];exact e
 ·intro e;apply h2;by_cases d:D j
  ·exact znj d
  ·rw [zfi d];exact e
 ·by_cases d:D i
  ·exact znj d
  ·rw [zfi d];exact W.fresh i hi
def Rz (H:z00) (D:Nat->Prop) (c c':Ctx) (w:World):Prop:=∃ B,WRel B c H w/\Ext B c w c' w/\∀ id b,D id->c.m id=some b->∀ x,c'.im b x
def RzV (H:z00) (D:Nat->Prop) (a b:AV):Prop:=∀ c c' w,Rz H D c c' w->∀ v,VRel c w a v->VRel c' w b v
def RzL (H:z00) (D:Nat->Prop) (xs bs:List AV):Prop:=∀ c c' w,Rz H D c c' w->∀ vs,LRel c w xs vs->LRel c' w bs vs
def RzM (H:z00) (D:Nat->Prop) (xs bs:List AV):Prop:=xs.length=bs.length/\∀ c c' w,Rz H D c c' w->∀ b off,MRel c w xs b off->MRel c' w bs b off
def RzE (H:z00) (D:Nat->Prop) (k:Nat) (xs bs:List (List AV)):Prop:=xs.length=bs.length/\∀ c c' w,Rz H D c c' w->∀ b off,ERel c w k xs b off->ERel c' w k bs b off
section
variable {H:z00} {D:Nat->Prop}
theorem RzV.same (a:AV):RzV H D a a:=λc c' w F v h=>by obtain ⟨B,_,E,_⟩:=F;exact VRel.mono E h
theorem RzL.nil:RzL H D [] []:=λc c' w F vs h=>by simpa [LRel] using h
theorem RzL.cons {a b:AV} {xs bs:List AV} (h1:RzV H D a b) (h2:RzL H D xs bs):RzL H D (a::xs) (b::bs):=λc c' w F vs h=>by
 simp only [LRel] at h ⊢;obtain ⟨v,vs',e,hv,hl⟩:=h;exact ⟨v,vs',e,h1 c c' w F v hv,h2 c c' w F vs' hl⟩
theorem RzM.nil:RzM H D [] []:=⟨rfl,λc c' w F b off h=>by simp [MRel]⟩
theorem RzM.cons {a b:AV} {xs bs:List AV} (h1:RzV H D a b) (h2:RzM H D xs bs):RzM H D (a::xs) (b::bs):=⟨by simp [h2.1],λc c' w F k off h=>by
 have F':=F;obtain ⟨B,_,E,_⟩:=F';simp only [MRel] at h ⊢;obtain ⟨hi,⟨u,hu,ho,hv⟩,hm⟩:=h;exact ⟨E.im _ _ hi,⟨u,hu,ho,h1 c c' w F u hv⟩,h2.2 c c' w F k _ hm⟩⟩
theorem RzE.nil (k:Nat):RzE H D k [] []:=⟨rfl,λc c' w F b off h=>by simp [ERel]⟩
theorem RzE.cons {k:Nat} {a b:List AV} {xs bs:List (List AV)} (h1:RzM H D a b) (h2:RzE H D k xs bs):RzE H D k (a::xs) (b::bs):=⟨by simp [h2.1],λc c' w F o off h=>by
 simp only [ERel] at h ⊢;exact ⟨h1.1▸h.1,h1.2 c c' w F o off h.2.1,h2.2 c c' w F o _ h.2.2⟩⟩
theorem RzE.same (k:Nat) (xs:List (List AV)):RzE H D k xs xs:=⟨rfl,λc c' w F b off h=>by obtain ⟨B,_,E,_⟩:=F;exact ERel.mono E h⟩
theorem RzE.map {α:Type} {k:Nat} {f g:α->List AV} {l:List α} (h:∀ x∈l,RzM H D (f x) (g x)):RzE H D k (l.map f) (l.map g):=by
 induction l with
 | nil=>exact RzE.nil k
 | cons x l ih=>exact RzE.cons (h x (by simp)) (ih λy hy=>h y (by simp [hy]))
theorem RzV.isl {k:Nat} {xs bs:List (List AV)} (h:RzE H D k xs bs):RzV H D (.isl k xs) (.isl k bs):=λc c' w F v hv=>by
 simp only [VRel] at hv ⊢;obtain ⟨a,cap,e1,e2,e3,e4⟩:=hv;refine ⟨a,cap,by rw [<-h.1];exact e1,by rw [<-h.1];exact e2,by rw [<-h.1];exact e3,λhne=>?_⟩;obtain ⟨b,off,e5,e6⟩:=e4 (λe0=>hne (List.length_eq_zero_iff.1 (by rw [<-h.1,e0];rfl)));exact ⟨b,off,e5,h.2 c c' w F b off e6⟩
theorem RzV.gsl {id k:Nat} {xs bs:List (List AV)} (hm:xs.length<=1000000) (h:RzE H D k xs bs):RzV H D (.gsl id k xs) (.isl k bs):=λc c' w F v hv=>
 RzV.isl h c c' w F v (gsl_isl id k xs hm c w v hv)
theorem RzV.agg {xs bs:List AV} (h:RzL H D xs bs):RzV H D (.agg xs) (.agg bs):=λc c' w F v hv=>by
 simp only [VRel] at hv ⊢;obtain ⟨vs,e1,e2,e3⟩:=hv;exact ⟨vs,e1,h c c' w F _ e2,e3⟩
theorem RzV.row {id n sz:Nat} {ty:TypeId} {cs cs':List AV} (hD:D id) (ho:H.objs id=some (.row ty cs)) (hn:n*sz<=cs.length) (hm:n<=1000000) (hl:cs'.length=cs.length) (hc:∀ (i:Nat) (a a':AV),cs[i]?=some a->cs'[i]?=some a'->RzV H D a a'):RzV H D (.sl id 0 n sz) (.isl sz (chunk sz n cs')):=λc c' w F v hv=>by
 have F':=F;obtain ⟨B,W,E,im⟩:=F';simp only [VRel] at hv ⊢;obtain ⟨b,cap,ty',hb,rfl,hc1,hc2,-⟩:=hv;have hcl:(chunk sz n cs').length=n:=z8z sz n cs';refine ⟨some ⟨b,0,none⟩,cap,by rw [hcl],by rw [hcl];exact hc1,by rw [hcl];omega,λ_=>⟨b,0,rfl,?_⟩⟩;refine zqu n cs' 0 (by rw [hl];exact hn) (MRel.ofFn λi a' hi=>⟨im id b hD hb _,?_⟩);obtain ⟨a,ha⟩:∃ a,cs[i]?=some a:=by
  have:=(List.getElem?_eq_some_iff.1 hi).1;exact ⟨_,List.getElem?_eq_getElem (by omega)⟩
 obtain ⟨u,hu,hone,hr⟩:=W.row_get hb ho ha;exact ⟨u,by rw [Nat.zero_add];exact hu,hone,hc i a a' ha hi c c' w F u hr⟩
end
theorem WRel.settle {B:Nat} {c c':Ctx} {h h2:z00} {w w':World} {D:Nat->Prop} {v v':AV} {u:Value} (W:WRel B c h w) (E:Ext B c w c' w') (W':WRel B c' h2 w') (K:Keeps h h2 (λ_=>False)) (hD:∀ i,D i->h.next<=i/\h2.objs i≠none) (V:VRel c' w' v u) (Z:RzV h2 D v v') (hv:z1x (λ_=>False) v') :
  ∃ c2,Ext B c w c2 w'/\WRel B c2 h w'/\VRel c2 w' v' u:=by
 obtain ⟨E2,W2⟩:=(W'.zuw D).freeze (λk _=>∃ id,D id/\c'.m id=some k) (by rintro k x ⟨id,hd,hk⟩;exact (W'.mlt id k hk).2.2) (by
  rintro k x ⟨id,hd,hk⟩ i o hi hio;obtain ⟨h3,h4⟩:=zr1 hio;have:=W'.inj i id k hi hk (by rw [h4];simp) (hD id hd).2;subst this;exact absurd hd h3)
 refine W.forget (E.trans E2) W2 ⟨K.next,λi hi hs=>?_⟩ hv (Z c' _ w' ⟨B,W',E2,λid b hd hb x=>Or.inr ⟨id,hd,hb⟩⟩ u V);rw [zfi (λd=>by have:=(hD i d).1;omega)];exact K.objs i hi hs
theorem z01.result {P:Program} {f:FuncId} {args:List AV} {h:z00} {α:Type} {enc:α->AV} {Q:α->Prop} (hid:∀ a,Q a->z1x (λ_=>False) (enc a))
  (H:z01 P f args h (λv h2=>∃ (D:Nat->Prop) (a:α),Q a/\RzV h2 D v (enc a)/\(∀ i,D i->h.next<=i/\h2.objs i≠none)/\Keeps h h2 (λ_=>False))):z01 P f args h (λv h2=>(∃ a,v=enc a/\Q a)/\h2=h):=by
 rcases H with H | H
 ·refine Or.inl ⟨H.1,λB c w vs W L=>(H.2 B c w vs W L).mono λe w' ⟨c',u,v,h',a,E,W',V,D,q,hq,Z,hD,K⟩=>?_⟩;obtain ⟨c2,E2,W2,V2⟩:=W.settle E W' K hD V Z (hid q hq);exact ⟨c2,u,enc q,h,a,E2,W2,V2,⟨q,rfl,hq⟩,rfl⟩
 ·refine Or.inr λB c w vs W L=>?_;obtain ⟨c',u,v,h',w',a,E,W',V,D,q,hq,Z,hD,K⟩:=H B c w vs W L;obtain ⟨c2,E2,W2,V2⟩:=W.settle E W' K hD V Z (hid q hq);exact ⟨c2,u,enc q,h,w',a,E2,W2,V2,⟨q,rfl,hq⟩,rfl⟩
end
section
section
variable {α:Type} [DecidableEq α]
def mapO (enc:α->AV) (ks:List α) (f:α->Nat):AObj:=.map (ks.map enc) (ks.map λa=>.int .i64 (f a:Nat))
structure MapAt (h:z00) (id:Nat) (enc:α->AV) (ks:List α) (f:α->Nat):Prop where
 obj:h.objs id=some (mapO enc ks f)
 nd:ks.Nodup
 out:∀ a,a∉ks->f a=0
variable {h:z00} {id:Nat} {enc:α->AV} {ks:List α} {f:α->Nat} {kk:KeyK}
omit [DecidableEq α] in
theorem MapAt.new (h:z00) (enc:α->AV):MapAt (h.push (.map [] [])) h.next enc ([]:List α) (λ_=>0):=⟨by rw [z0w];rfl,by simp,λ_ _=>rfl⟩
omit [DecidableEq α] in
theorem MapAt.keep {h2:z00} {S:Nat->Prop} (M:MapAt h id enc ks f) (k:Keeps h h2 S) (hid:id<h.next) (hs:¬ S id):MapAt h2 id enc ks f:=⟨by rw [k.objs id hid hs];exact M.obj,M.nd,M.out⟩
end
end
section
def rowN (f:Nat->List AV) (n:Nat):List AV:=((List.range n).map f).flatten
section
variable {f:Nat->List AV} {sz:Nat} (hl:∀ k,(f k).length=sz)
include hl
omit hl in
theorem rowN_fit {n k:Nat} (hk:k<n):k*sz+sz<=n*sz:=by
 have:=Nat.mul_le_mul_right sz (show k+1<=n by omega);rwa [Nat.add_mul,Nat.one_mul] at this
end
section
variable {f:Nat->List AV} {sz:Nat} (hl:∀ k,(f k).length=sz) {h:z00} {id n:Nat} {ty:TypeId} (ho:h.objs id=some (.row ty (rowN f n)))
include hl ho
end
end
section
section
variable {P:Program} {N:Nat} {b:Code} {h:z00} {Q:z1p->Fr->z00->Prop} {n j:Nat} {hh:z00} {fr:Fr}
def forI (n:Nat) (F:Nat->Fr) (J:Nat->z00->Prop):Nat->Fr->z00->Prop:=λm fr hh=>∃ j,m=n-j/\j<=n/\fr=F j/\J j hh
theorem zce (hm:P.follows .mixedOrders=true) (hok:codeOk N b=true) (n:Nat) (F:Nat->Fr) (J:Nat->z00->Prop) (h0:J 0 h) (round:∀ j hh,j<=n->J j hh->WP P N b (F j) hh (z3d (forI n F J) (n-j) Q)):WP P N (.loop b) (F 0) h Q:=
 z14 hm hok (forI n F J) n ⟨0,rfl,Nat.zero_le _,rfl,h0⟩ λm fr hh ⟨j,e1,e2,e3,e4⟩=>by subst e1;subst e3;exact round j hh e2 e4
theorem forN {F:Nat->Fr} {J:Nat->z00->Prop} (hj:j<n) (hJ:J (j+1) hh):z3d (forI n F J) (n-j) Q .normal (F (j+1)) hh:=⟨n-(j+1),by omega,j+1,rfl,hj,rfl,hJ⟩
def forI' {α:Type} (n:Nat) (F:Nat->α->Fr) (J:Nat->α->z00->Prop):Nat->Fr->z00->Prop:=λm fr hh=>∃ j a,m=n-j/\j<=n/\fr=F j a/\J j a hh
theorem WP_for' {α:Type} (hm:P.follows .mixedOrders=true) (hok:codeOk N b=true) (n:Nat) (F:Nat->α->Fr) (J:Nat->α->z00->Prop) (a:α) (h0:J 0 a h) (round:∀ j a hh,j<=n->J j a hh->WP P N b (F j a) hh (z3d (forI' n F J) (n-j) Q)):WP P N (.loop b) (F 0 a) h Q:=
 z14 hm hok (forI' n F J) n ⟨0,a,rfl,Nat.zero_le _,rfl,h0⟩ λm fr hh ⟨j,a,e1,e2,e3,e4⟩=>by subst e1;subst e3;exact round j a hh e2 e4
theorem forN' {α:Type} {F:Nat->α->Fr} {J:Nat->α->z00->Prop} (a:α) (hj:j<n) (hJ:J (j+1) a hh):z3d (forI' n F J) (n-j) Q .normal (F (j+1) a) hh:=⟨n-(j+1),by omega,j+1,a,rfl,hj,rfl,hJ⟩
end
end
end Go.Abs
