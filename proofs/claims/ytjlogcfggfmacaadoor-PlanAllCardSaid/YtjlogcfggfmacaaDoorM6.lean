/- Own texts, merged: CdRef, CdRefI0, CdRefI1, CdRefI2, CdRefI3, CdRefI4, CdRefI, CdRefG, CdRefH, CdRefS, CdBoth, CdEqu, PaProg, ClMath, ClBits, PtSpec. -/
import Derived.Test.YtjlogcfggfmacaaDoorM5
set_option linter.unusedVariables false
set_option linter.unusedSimpArgs false
open Nat (reduceEqDiff reduceAdd reduceLeDiff)
set_option maxRecDepth 100000
set_option maxHeartbeats 4000000
namespace Go.Proofs.YtjlogcfggfmacaaDoor
section
open Go.Abs
theorem zem (c:Cd) (l:Lo) (h:z00):z01 Tryd.prog 11 [.agg c.cells,.agg l.cells] h (λv h2=>v=.bool (z18 c l)/\h2=h):=by
 apply zd4;unfold z18
 (repeat simp -dsimp -implicitDefEqProofs (disch:=omega) only [↓rP,rA,↓reduceIte,reduceEqDiff,reduceAdd,reduceLeDiff,↓tyr])
 refine z0p (λh4=>?_) (λh4=>?_)
 ·(repeat simp -dsimp -implicitDefEqProofs (disch:=omega) only [↓rP,rA,↓reduceIte,reduceEqDiff,reduceAdd,reduceLeDiff,↓tyr])
  rw [if_pos h4];exact z1e _ _ _
 ·rw [if_neg h4]
  repeat' (first | (simp -dsimp -implicitDefEqProofs (disch:=omega) only [↓rP,rA,↓reduceIte,reduceEqDiff,reduceAdd,reduceLeDiff,↓tyr]) | refine Cut.go ?_ | refine z0p (λ_=>?_) (λ_=>?_) | refine z0v (λ_=>?_) (λ_=>?_) | refine z09 (λ_=>?_) (λ_=>?_) | refine z0y (λ_=>?_) (λ_=>?_) | refine Split.intro (λ_=>?_) (λ_=>?_))
  all_goals (simp [beqI, *])
  all_goals omega
theorem zl8 (c:Cd) (hl:(slL c.Sections).length<=1000000) (t a:Int) (h:z00):z01 Tryd.prog 26 [.agg c.cells,.int .i64 t,.int .i64 a] h (λv h2=>v=.int .i64 (insI c t a)/\Keeps h h2 (λ_=>False)):=by
 apply zch
 (repeat simp -dsimp -implicitDefEqProofs (disch:=omega) only [↓rP,rA,↓reduceIte,reduceEqDiff,reduceAdd,reduceLeDiff,↓tyr])
 refine z1i z0d (by kernel_rfl) (λn fr hh=>∃ k:Nat,k<=(slL c.Sections).length/\n=(slL c.Sections).length-k/\(∀ j x,j<k->(slL c.Sections)[j]?=some x->secP t a x=false)/\Keeps h hh (λ_=>False)/\fr=frOf [(1,.int .i64 t),(2,.int .i64 a),(10,slAV 3 z04.cells c.Sections),(11,.int .i64 (slL c.Sections).length),(12,.int .i64 k)]) (slL c.Sections).length ⟨0,by omega,by omega,λj x hj=>by omega,.refl _ _,rfl⟩ ?_;rintro n fr hh ⟨k,hk,rfl,hup,kp,rfl⟩;apply zam;generalize hI:(λ(n:Nat) (fr:Fr) (hh:z00)=>_)=I
 (repeat simp -dsimp -implicitDefEqProofs (disch:=omega) only [↓rP,rA,↓reduceIte,reduceEqDiff,reduceAdd,reduceLeDiff,↓tyr])
 refine z09 (λhkl=>?_) (λhkl=>?_)
 ·obtain ⟨s,hx⟩:∃ s,(slL c.Sections)[k]?=some s:=⟨_,List.getElem?_eq_getElem (by omega)⟩;have kp1:Keeps h (hh.push (.row 54 s.cells)) (λ_=>False):=kp.go (Keeps.one _ _);have yes:secP t a s=true->insI c t a=k:=λhp=>zd6 hx hp hup;have on:secP t a s=false->z3v I ((slL c.Sections).length-k) (z7e (λ_ _=>False) (λ_ _ _=>False) (λ_ _=>False)) .normal (frOf [(1,.int .i64 t),(2,.int .i64 a),(10,slAV 3 z04.cells c.Sections),(11,.int .i64 (slL c.Sections).length),(12,.int .i64 (k+1:Nat))]) (hh.push (.row 54 s.cells)):=λhm=>by
   rw [z07,<-hI];refine ⟨_,by omega,k+1,by omega,rfl,λj y hj hy=>?_,kp1,rfl⟩;by_cases e:j=k
   ·subst e;rw [hx] at hy;cases hy;exact hm
   ·exact hup j y (by omega) hy
  simp only [z07] at on
  repeat' (first | (simp -dsimp -implicitDefEqProofs (disch:=omega) only [↓rP,rA,↓reduceIte,reduceEqDiff,reduceAdd,reduceLeDiff,↓tyr,z06 hx,wkS k (by omega),z07]) | refine Cut.go ?_ | refine z0p (λ_=>?_) (λ_=>?_) | refine z0v (λ_=>?_) (λ_=>?_) | refine z09 (λ_=>?_) (λ_=>?_) | refine z0y (λ_=>?_) (λ_=>?_) | refine Split.intro (λ_=>?_) (λ_=>?_))
  all_goals first
   | exact on (by simp [secP, *];try omega)
   | (rw [yes (by simp [secP, *])];exact ⟨rfl,kp1⟩)
 ·have hke:k=(slL c.Sections).length:=by omega
  subst hke
  (repeat simp -dsimp -implicitDefEqProofs (disch:=omega) only [↓rP,rA,↓reduceIte,reduceEqDiff,reduceAdd,reduceLeDiff,↓tyr])
  exact ⟨by unfold insI;rw [zd7 hup],kp⟩
def hasT:List (List UInt8):=[[],[100,105],[100,110],[100,115,114,110],[100,115,120],[110,105],[115,114,110,105],[115,120,105],[100,114,110],[100,105,110],[100,115],[105],[105],[116],[116,105],[110],[110],[]]
def hasS (op:Int):List UInt8:=if op<1\/18<=op then [63] else hasT.getD op.toNat []
theorem z1k (op:Int) (h:z00):z01 Tryd.prog 23 [.int .i64 op] h (λv h2=>v=.str (hasS op)/\h2=h):=by
 apply zfa;refine ⟨by omega,by decide,rfl,?_⟩;have hf:zat 1 (List.replicate 18 [AV.str []]) [(0,AV.str []),(1,AV.str [100,105]),(2,AV.str [100,110]),(3,AV.str [100,115,114,110]),(4,AV.str [100,115,120]),(5,AV.str [110,105]),(6,AV.str [115,114,110,105]),(7,AV.str [115,120,105]),(8,AV.str [100,114,110]),(9,AV.str [100,105,110]),(10,AV.str [100,115]),(11,AV.str [105]),(12,AV.str [105]),(13,AV.str [116]),(14,AV.str [116,105]),(15,AV.str [110]),(16,AV.str [110]),(17,AV.str [])]=some (hasT.map λs=>[AV.str s]):=by
  simp [zat,hasT,List.replicate,AV.fits,AV.cells]
 simp only [reduceAdd];rw [hf];simp only [if_true]
 (repeat simp -dsimp -implicitDefEqProofs (disch:=omega) only [↓rP,rA,↓reduceIte,reduceEqDiff,reduceAdd,reduceLeDiff,↓tyr])
 have hl:(hasT.map λs=>[AV.str s]).length=18:=rfl;unfold hasS;refine z09 (λh1=>?_) (λh1=>?_)
 ·(repeat simp -dsimp -implicitDefEqProofs (disch:=omega) only [↓rP,rA,↓reduceIte,reduceEqDiff,reduceAdd,reduceLeDiff,↓tyr])
  rw [if_pos (Or.inl h1)]
 (repeat simp -dsimp -implicitDefEqProofs (disch:=omega) only [↓rP,rA,↓reduceIte,reduceEqDiff,reduceAdd,reduceLeDiff,↓tyr])
 rw [hl];refine z0y (λh2=>?_) (λh2=>?_)
 ·(repeat simp -dsimp -implicitDefEqProofs (disch:=omega) only [↓rP,rA,↓reduceIte,reduceEqDiff,reduceAdd,reduceLeDiff,↓tyr])
  rw [if_pos (Or.inr (by omega))]
 ·rw [if_neg (by omega)];have hn:op.toNat<18:=by omega
  have hg:(hasT.map λs=>[AV.str s])[op.toNat]?=some [AV.str (hasT.getD op.toNat [])]:=by
   rw [List.getElem?_map,List.getElem?_eq_getElem (by rw [show hasT.length=18 from rfl];exact hn)];simp [List.getD_eq_getElem?_getD,show op.toNat<hasT.length from hn]
  have hix:∀ K:AV->Prop,z0o (.slice 1) (.isl 1 (hasT.map λs=>[AV.str s])) (.int .i64 op) K=K (.iptr [AV.str (hasT.getD op.toNat [])]):=λK=>by
   have h0:0<=op:=by omega
   have h18:op<18:=by omega
   simp only [z0o,hl,hg];simp [h0,h18]
  (repeat simp -dsimp -implicitDefEqProofs (disch:=omega) only [↓rP,rA,↓reduceIte,reduceEqDiff,reduceAdd,reduceLeDiff,↓tyr,hix])
theorem z5s (s:List UInt8) (hs:s.length<=1000) (c:UInt8) (h:z00):z01 Tryd.prog 24 [.str s,.int .u8 (c.toNat:Int)] h (λv h2=>v=.bool (s.contains c)/\h2=h):=by
 apply zfb
 (repeat simp -dsimp -implicitDefEqProofs (disch:=omega) only [↓rP,rA,↓reduceIte,reduceEqDiff,reduceAdd,reduceLeDiff,↓tyr])
 refine z1i z0d (by kernel_rfl) (λn fr hh=>∃ k:Nat,k<=s.length/\n=s.length-k/\(s.take k).contains c=false/\hh=h/\fr=frOf [(0,.str s),(1,.int .u8 (c.toNat:Int)),(5,.int .i64 k)]) s.length ⟨0,by omega,by omega,by simp,rfl,rfl⟩ ?_;rintro n fr hh ⟨k,hk,rfl,hup,rfl,rfl⟩;apply zci;generalize hI:(λ(n:Nat) (fr:Fr) (hh:z00)=>_)=I
 (repeat simp -dsimp -implicitDefEqProofs (disch:=omega) only [↓rP,rA,↓reduceIte,reduceEqDiff,reduceAdd,reduceLeDiff,↓tyr])
 refine z09 (λhkl=>?_) (λhkl=>?_)
 ·obtain ⟨x,hx⟩:∃ x,s[k]?=some x:=⟨_,List.getElem?_eq_getElem (by omega)⟩;have hix:∀ K:AV->Prop,z9g (.str s) (.int .i64 (k:Int)) K=K (.int .u8 (x.toNat:Int)):=λK=>by
   simp [z9g,hx]
  have ht:s.take (k+1)=s.take k++[x]:=by rw [List.take_add_one,hx];rfl
  (repeat simp -dsimp -implicitDefEqProofs (disch:=omega) only [↓rP,rA,↓reduceIte,reduceEqDiff,reduceAdd,reduceLeDiff,↓tyr,hix])
  refine z0p (λe=>?_) (λe=>?_)
  ·(repeat simp -dsimp -implicitDefEqProofs (disch:=omega) only [↓rP,rA,↓reduceIte,reduceEqDiff,reduceAdd,reduceLeDiff,↓tyr])
   have:x=c:=by
    have e':x.toNat=c.toNat:=by omega
    exact UInt8.toNat_inj.1 e'
   subst this;simp [List.mem_of_getElem? hx]
  ·have hne:x≠c:=λe'=>e (by rw [e'])
   (repeat simp -dsimp -implicitDefEqProofs (disch:=omega) only [↓rP,rA,↓reduceIte,reduceEqDiff,reduceAdd,reduceLeDiff,↓tyr,wkS k (by omega)])
   rw [z07,<-hI];refine ⟨_,by omega,k+1,by omega,rfl,?_,rfl,rfl⟩;rw [ht,Bool.eq_false_iff];simp only [ne_eq,List.contains_iff_mem,List.mem_append,List.mem_singleton];rintro (h1 | h1)
   ·rw [List.contains_iff_mem.2 h1] at hup;cases hup
   ·exact hne h1.symm
 ·have hke:k=s.length:=by omega
  subst hke;rw [List.take_length] at hup
  (repeat simp -dsimp -implicitDefEqProofs (disch:=omega) only [↓rP,rA,↓reduceIte,reduceEqDiff,reduceAdd,reduceLeDiff,↓tyr])
  rw [hup]
theorem z01.go {P:Program} {f:FuncId} {args:List AV} {h:z00} {v0:AV} {K:AV->z00->Prop} (H:z01 P f args h (λv h2=>v=v0/\h2=h)) (hk:K v0 h):z01 P f args h K:=H.mono (by rintro _ _ ⟨rfl,rfl⟩;exact hk)
theorem z1n (c:Cd) (hl:(slL c.Sections).length<=1000000) (t a:Int) (h:z00):z01 Tryd.prog 26 [.agg c.cells,.int .i64 t,.int .i64 a] h (λv h2=>v=.int .i64 (insI c t a)/\h2=h):=z01.forget (by simp [z1w]) (zl8 c hl t a h)
theorem z5j (s:List UInt8) (hs:s.length<=1000) (h:z00):z01 Tryd.prog 24 [.str s,.int .u8 100] h (λv h2=>v=.bool (s.contains 100)/\h2=h):=z5s s hs 100 h
theorem z5n (s:List UInt8) (hs:s.length<=1000) (h:z00):z01 Tryd.prog 24 [.str s,.int .u8 115] h (λv h2=>v=.bool (s.contains 115)/\h2=h):=z5s s hs 115 h
theorem z5m (s:List UInt8) (hs:s.length<=1000) (h:z00):z01 Tryd.prog 24 [.str s,.int .u8 114] h (λv h2=>v=.bool (s.contains 114)/\h2=h):=z5s s hs 114 h
theorem z5l (s:List UInt8) (hs:s.length<=1000) (h:z00):z01 Tryd.prog 24 [.str s,.int .u8 110] h (λv h2=>v=.bool (s.contains 110)/\h2=h):=z5s s hs 110 h
theorem z5o (s:List UInt8) (hs:s.length<=1000) (h:z00):z01 Tryd.prog 24 [.str s,.int .u8 116] h (λv h2=>v=.bool (s.contains 116)/\h2=h):=z5s s hs 116 h
theorem z5k (s:List UInt8) (hs:s.length<=1000) (h:z00):z01 Tryd.prog 24 [.str s,.int .u8 105] h (λv h2=>v=.bool (s.contains 105)/\h2=h):=z5s s hs 105 h
theorem z5p (s:List UInt8) (hs:s.length<=1000) (h:z00):z01 Tryd.prog 24 [.str s,.int .u8 120] h (λv h2=>v=.bool (s.contains 120)/\h2=h):=z5s s hs 120 h
theorem zaw {h g:z00} (k:Keeps h g (λ_=>False)) {id:Nat} (hid:h.next<=id) (o:AObj):Keeps h (g.put id o) (λ_=>False):=
 ⟨k.next,λi hi hs=>by simp only [z00.z2x];rw [if_neg (by omega)];exact k.objs i hi hs⟩
def gD {α:Type} [Inhabited α] (o:Option (List α)) (n:Int):α:=(getI (slL o) n).getD default
theorem z1p {α:Type} [Inhabited α] {o:Option (List α)} {n:Int} (hq:btw n (slL o).length=true):getI (slL o) n=some (gD o n):=by
 obtain ⟨x,hx⟩:=z1l.1 hq;unfold gD;rw [hx];rfl
theorem z7y {α:Type} [Inhabited α] {sz:Nat} {enc:α->List AV} {o:Option (List α)} {n:Int} {kk:IntKind} {K:AV->Prop} (hq:btw n (slL o).length=true) (hk:K (.iptr (enc (gD o n)))):z0o (.slice sz) (slAV sz enc o) (.int kk n) K:=by
 rw [ixI (z1p hq)];exact hk
theorem z5b {α:Type} {o:Option (List α)} {n:Int} (hq:btw n (slL o).length=false):getI (slL o) n=none:=z2i.1 hq
theorem z3n (s:z0s) (t a r:Int):s=⟨t,a,r⟩↔s.Thread=t/\s.At=a/\s.Rec=r:=by cases s;simp
theorem z5q {b:Bd} {n:Int} {want:Lo} (hq:btw n (slL b.Slots).length=true):isB b n want=z9n (gD b.Slots n) want:=by unfold isB;rw [z1p hq]
theorem z5c {b:Bd} {n:Int} {want:Lo} (hq:btw n (slL b.Slots).length=false):isB b n want=false:=by unfold isB;rw [z2i.1 hq]
theorem z2q (c:Cd) (b:Bd) (x:In):z8l c b x=if btw x.Rec (slL c.Records).length=true/\btw x.N (slL (gD c.Records x.Rec)).length=true/\isB b x.Src ⟨4,x.Rec,false⟩=true then some (gD (gD c.Records x.Rec) x.N) else none:=by
 unfold z8l
 cases h1:btw x.Rec (slL c.Records).length with
 | false=>rw [z2i.1 h1];simp
 | true=>
  rw [z1p h1];simp only
  cases h2:btw x.N (slL (gD c.Records x.Rec)).length with
  | false=>rw [z2i.1 h2];simp
  | true=>rw [z1p h2];simp
theorem z3j (op:Int):(hasS op).length<=1000:=by
 unfold hasS;split
 ·decide
 ·have:∀ n:Nat,(hasT.getD n []).length<=4:=λn=>by
   by_cases h:n<18
   ·have:∀ m:Fin 18,(hasT.getD m.1 []).length<=4:=by decide
    exact this ⟨n,h⟩
   ·rw [List.getD_eq_getElem?_getD,List.getElem?_eq_none (by rw [show hasT.length=18 from rfl];omega)];simp
  have:=this op.toNat;omega
end
section
open Go.Abs
theorem z3m {h H:z00} {b:Bd} {x:In} (o1:H.objs h.next=some (.row 52 b.cells)) (o2:H.objs (h.next+1)=some (.row 49 x.cells)) (nx:H.next=h.next+2) (kH:Keeps h H (λ_=>False)) :
  (∀ (off:Nat) (q:Option Nat) (K:AV->Prop),z0t q (.ptr h.next off) H K=z03 q b.cells off K)/\
  (∀ (off:Nat) (q:Option Nat) (K:AV->Prop),z0t q (.ptr (h.next+1) off) H K=z03 q x.cells off K)/\
  (∀ (off:Nat) (q:Option Nat) (K:AV->Prop),z0t q (.ptr h.next off) ((H.push (AObj.row 46 [AV.int IntKind.i64 0,AV.int IntKind.i64 0,AV.bool false])).push (AObj.row 46 [AV.int IntKind.i64 0,AV.int IntKind.i64 0,AV.bool false])) K=z03 q b.cells off K)/\
  (∀ (off:Nat) (q:Option Nat) (K:AV->Prop),z0t q (.ptr (h.next+1) off) ((H.push (AObj.row 46 [AV.int IntKind.i64 0,AV.int IntKind.i64 0,AV.bool false])).push (AObj.row 46 [AV.int IntKind.i64 0,AV.int IntKind.i64 0,AV.bool false])) K=z03 q x.cells off K)/\
  (∀ (d:Lo) (K:z00->Prop),z14 3 (.ptr H.next 0) (.agg d.cells) ((H.push (AObj.row 46 [AV.int IntKind.i64 0,AV.int IntKind.i64 0,AV.bool false])).push (AObj.row 46 [AV.int IntKind.i64 0,AV.int IntKind.i64 0,AV.bool false])) K=K (((H.push (AObj.row 46 [AV.int IntKind.i64 0,AV.int IntKind.i64 0,AV.bool false])).push (AObj.row 46 [AV.int IntKind.i64 0,AV.int IntKind.i64 0,AV.bool false])).put H.next (.row 46 d.cells)))/\
  (∀ (d:Lo) (off:Nat) (q:Option Nat) (K:AV->Prop),z0t q (.ptr h.next off) (((H.push (AObj.row 46 [AV.int IntKind.i64 0,AV.int IntKind.i64 0,AV.bool false])).push (AObj.row 46 [AV.int IntKind.i64 0,AV.int IntKind.i64 0,AV.bool false])).put H.next (.row 46 d.cells)) K=z03 q b.cells off K)/\
  (∀ (d:Lo) (off:Nat) (q:Option Nat) (K:AV->Prop),z0t q (.ptr (h.next+1) off) (((H.push (AObj.row 46 [AV.int IntKind.i64 0,AV.int IntKind.i64 0,AV.bool false])).push (AObj.row 46 [AV.int IntKind.i64 0,AV.int IntKind.i64 0,AV.bool false])).put H.next (.row 46 d.cells)) K=z03 q x.cells off K)/\
  (∀ (d:Lo) (off:Nat) (q:Option Nat) (K:AV->Prop),z0t q (.ptr H.next off) (((H.push (AObj.row 46 [AV.int IntKind.i64 0,AV.int IntKind.i64 0,AV.bool false])).push (AObj.row 46 [AV.int IntKind.i64 0,AV.int IntKind.i64 0,AV.bool false])).put H.next (.row 46 d.cells)) K=z03 q d.cells off K)/\
  (∀ (s:Lo) (K:z00->Prop),z14 3 (.ptr (H.push (AObj.row 46 [AV.int IntKind.i64 0,AV.int IntKind.i64 0,AV.bool false])).next 0) (.agg s.cells) ((H.push (AObj.row 46 [AV.int IntKind.i64 0,AV.int IntKind.i64 0,AV.bool false])).push (AObj.row 46 [AV.int IntKind.i64 0,AV.int IntKind.i64 0,AV.bool false])) K=K (((H.push (AObj.row 46 [AV.int IntKind.i64 0,AV.int IntKind.i64 0,AV.bool false])).push (AObj.row 46 [AV.int IntKind.i64 0,AV.int IntKind.i64 0,AV.bool false])).put (H.push (AObj.row 46 [AV.int IntKind.i64 0,AV.int IntKind.i64 0,AV.bool false])).next (.row 46 s.cells)))/\
  (∀ (s:Lo) (off:Nat) (q:Option Nat) (K:AV->Prop),z0t q (.ptr h.next off) (((H.push (AObj.row 46 [AV.int IntKind.i64 0,AV.int IntKind.i64 0,AV.bool false])).push (AObj.row 46 [AV.int IntKind.i64 0,AV.int IntKind.i64 0,AV.bool false])).put (H.push (AObj.row 46 [AV.int IntKind.i64 0,AV.int IntKind.i64 0,AV.bool false])).next (.row 46 s.cells)) K=z03 q b.cells off K)/\
  (∀ (s:Lo) (off:Nat) (q:Option Nat) (K:AV->Prop),z0t q (.ptr (h.next+1) off) (((H.push (AObj.row 46 [AV.int IntKind.i64 0,AV.int IntKind.i64 0,AV.bool false])).push (AObj.row 46 [AV.int IntKind.i64 0,AV.int IntKind.i64 0,AV.bool false])).put (H.push (AObj.row 46 [AV.int IntKind.i64 0,AV.int IntKind.i64 0,AV.bool false])).next (.row 46 s.cells)) K=z03 q x.cells off K)/\
  (∀ (s:Lo) (off:Nat) (q:Option Nat) (K:AV->Prop),z0t q (.ptr (H.push (AObj.row 46 [AV.int IntKind.i64 0,AV.int IntKind.i64 0,AV.bool false])).next off) (((H.push (AObj.row 46 [AV.int IntKind.i64 0,AV.int IntKind.i64 0,AV.bool false])).push (AObj.row 46 [AV.int IntKind.i64 0,AV.int IntKind.i64 0,AV.bool false])).put (H.push (AObj.row 46 [AV.int IntKind.i64 0,AV.int IntKind.i64 0,AV.bool false])).next (.row 46 s.cells)) K=z03 q s.cells off K)/\
  (∀ (d:Lo) (s:Lo) (K:z00->Prop),z14 3 (.ptr (H.push (AObj.row 46 [AV.int IntKind.i64 0,AV.int IntKind.i64 0,AV.bool false])).next 0) (.agg s.cells) (((H.push (AObj.row 46 [AV.int IntKind.i64 0,AV.int IntKind.i64 0,AV.bool false])).push (AObj.row 46 [AV.int IntKind.i64 0,AV.int IntKind.i64 0,AV.bool false])).put H.next (.row 46 d.cells)) K=K ((((H.push (AObj.row 46 [AV.int IntKind.i64 0,AV.int IntKind.i64 0,AV.bool false])).push (AObj.row 46 [AV.int IntKind.i64 0,AV.int IntKind.i64 0,AV.bool false])).put H.next (.row 46 d.cells)).put (H.push (AObj.row 46 [AV.int IntKind.i64 0,AV.int IntKind.i64 0,AV.bool false])).next (.row 46 s.cells)))/\
  (∀ (d:Lo) (s:Lo) (off:Nat) (q:Option Nat) (K:AV->Prop),z0t q (.ptr h.next off) ((((H.push (AObj.row 46 [AV.int IntKind.i64 0,AV.int IntKind.i64 0,AV.bool false])).push (AObj.row 46 [AV.int IntKind.i64 0,AV.int IntKind.i64 0,AV.bool false])).put H.next (.row 46 d.cells)).put (H.push (AObj.row 46 [AV.int IntKind.i64 0,AV.int IntKind.i64 0,AV.bool false])).next (.row 46 s.cells)) K=z03 q b.cells off K)/\
  (∀ (d:Lo) (s:Lo) (off:Nat) (q:Option Nat) (K:AV->Prop),z0t q (.ptr (h.next+1) off) ((((H.push (AObj.row 46 [AV.int IntKind.i64 0,AV.int IntKind.i64 0,AV.bool false])).push (AObj.row 46 [AV.int IntKind.i64 0,AV.int IntKind.i64 0,AV.bool false])).put H.next (.row 46 d.cells)).put (H.push (AObj.row 46 [AV.int IntKind.i64 0,AV.int IntKind.i64 0,AV.bool false])).next (.row 46 s.cells)) K=z03 q x.cells off K)/\
  (∀ (d:Lo) (s:Lo) (off:Nat) (q:Option Nat) (K:AV->Prop),z0t q (.ptr H.next off) ((((H.push (AObj.row 46 [AV.int IntKind.i64 0,AV.int IntKind.i64 0,AV.bool false])).push (AObj.row 46 [AV.int IntKind.i64 0,AV.int IntKind.i64 0,AV.bool false])).put H.next (.row 46 d.cells)).put (H.push (AObj.row 46 [AV.int IntKind.i64 0,AV.int IntKind.i64 0,AV.bool false])).next (.row 46 s.cells)) K=z03 q d.cells off K)/\
  (∀ (d:Lo) (s:Lo) (off:Nat) (q:Option Nat) (K:AV->Prop),z0t q (.ptr (H.push (AObj.row 46 [AV.int IntKind.i64 0,AV.int IntKind.i64 0,AV.bool false])).next off) ((((H.push (AObj.row 46 [AV.int IntKind.i64 0,AV.int IntKind.i64 0,AV.bool false])).push (AObj.row 46 [AV.int IntKind.i64 0,AV.int IntKind.i64 0,AV.bool false])).put H.next (.row 46 d.cells)).put (H.push (AObj.row 46 [AV.int IntKind.i64 0,AV.int IntKind.i64 0,AV.bool false])).next (.row 46 s.cells)) K=z03 q s.cells off K)/\
  (∀ (d:Lo) (s:Lo) (r:AObj) (off:Nat) (q:Option Nat) (K:AV->Prop),z0t q (.ptr (h.next+1) off) (((((H.push (AObj.row 46 [AV.int IntKind.i64 0,AV.int IntKind.i64 0,AV.bool false])).push (AObj.row 46 [AV.int IntKind.i64 0,AV.int IntKind.i64 0,AV.bool false])).put H.next (.row 46 d.cells)).put (H.push (AObj.row 46 [AV.int IntKind.i64 0,AV.int IntKind.i64 0,AV.bool false])).next (.row 46 s.cells)).push r) K=z03 q x.cells off K)/\
  (∀ (d:Lo) (s:Lo) (r:AObj) (off:Nat) (q:Option Nat) (K:AV->Prop),z0t q (.ptr H.next off) (((((H.push (AObj.row 46 [AV.int IntKind.i64 0,AV.int IntKind.i64 0,AV.bool false])).push (AObj.row 46 [AV.int IntKind.i64 0,AV.int IntKind.i64 0,AV.bool false])).put H.next (.row 46 d.cells)).put (H.push (AObj.row 46 [AV.int IntKind.i64 0,AV.int IntKind.i64 0,AV.bool false])).next (.row 46 s.cells)).push r) K=z03 q d.cells off K)/\
  (∀ (s:Lo) (r:AObj) (off:Nat) (q:Option Nat) (K:AV->Prop),z0t q (.ptr (h.next+1) off) ((((H.push (AObj.row 46 [AV.int IntKind.i64 0,AV.int IntKind.i64 0,AV.bool false])).push (AObj.row 46 [AV.int IntKind.i64 0,AV.int IntKind.i64 0,AV.bool false])).put (H.push (AObj.row 46 [AV.int IntKind.i64 0,AV.int IntKind.i64 0,AV.bool false])).next (.row 46 s.cells)).push r) K=z03 q x.cells off K)/\
  (∀ (d s:Lo) (r:AObj),Keeps h (((((H.push (AObj.row 46 [AV.int IntKind.i64 0,AV.int IntKind.i64 0,AV.bool false])).push (AObj.row 46 [AV.int IntKind.i64 0,AV.int IntKind.i64 0,AV.bool false])).put H.next (.row 46 d.cells)).put (H.push (AObj.row 46 [AV.int IntKind.i64 0,AV.int IntKind.i64 0,AV.bool false])).next (.row 46 s.cells)).push r) (λ_=>False))/\
  (∀ (s:Lo) (r:AObj),Keeps h ((((H.push (AObj.row 46 [AV.int IntKind.i64 0,AV.int IntKind.i64 0,AV.bool false])).push (AObj.row 46 [AV.int IntKind.i64 0,AV.int IntKind.i64 0,AV.bool false])).put (H.push (AObj.row 46 [AV.int IntKind.i64 0,AV.int IntKind.i64 0,AV.bool false])).next (.row 46 s.cells)).push r) (λ_=>False))/\
  (Keeps h ((H.push (AObj.row 46 [AV.int IntKind.i64 0,AV.int IntKind.i64 0,AV.bool false])).push (AObj.row 46 [AV.int IntKind.i64 0,AV.int IntKind.i64 0,AV.bool false])) (λ_=>False))/\
  (∀ d:Lo,Keeps h (((H.push (AObj.row 46 [AV.int IntKind.i64 0,AV.int IntKind.i64 0,AV.bool false])).push (AObj.row 46 [AV.int IntKind.i64 0,AV.int IntKind.i64 0,AV.bool false])).put H.next (.row 46 d.cells)) (λ_=>False))/\
  (∀ s:Lo,Keeps h (((H.push (AObj.row 46 [AV.int IntKind.i64 0,AV.int IntKind.i64 0,AV.bool false])).push (AObj.row 46 [AV.int IntKind.i64 0,AV.int IntKind.i64 0,AV.bool false])).put (H.push (AObj.row 46 [AV.int IntKind.i64 0,AV.int IntKind.i64 0,AV.bool false])).next (.row 46 s.cells)) (λ_=>False))/\
  (∀ d s:Lo,Keeps h ((((H.push (AObj.row 46 [AV.int IntKind.i64 0,AV.int IntKind.i64 0,AV.bool false])).push (AObj.row 46 [AV.int IntKind.i64 0,AV.int IntKind.i64 0,AV.bool false])).put H.next (.row 46 d.cells)).put (H.push (AObj.row 46 [AV.int IntKind.i64 0,AV.int IntKind.i64 0,AV.bool false])).next (.row 46 s.cells)) (λ_=>False)):=by
 have l1:∀ (off:Nat) (q:Option Nat) (K:AV->Prop),z0t q (.ptr h.next off) H K=z03 q b.cells off K:=λoff q K=>z0b o1 q K;have l2:∀ (off:Nat) (q:Option Nat) (K:AV->Prop),z0t q (.ptr (h.next+1) off) H K=z03 q x.cells off K:=λoff q K=>z0b o2 q K;have n1:¬ (h.next=h.next+2+1):=by omega
 have n2:¬ (h.next+1=h.next+2+1):=by omega
 have n3:¬ (h.next+2=h.next+2+1):=by omega
 have g0:∀ (off:Nat) (q:Option Nat) (K:AV->Prop),z0t q (.ptr h.next off) ((H.push (AObj.row 46 [AV.int IntKind.i64 0,AV.int IntKind.i64 0,AV.bool false])).push (AObj.row 46 [AV.int IntKind.i64 0,AV.int IntKind.i64 0,AV.bool false])) K=z03 q b.cells off K:=fun  off q K=>z0b (ty:=52) (by simp [o1,o2,nx,n1,n2,n3]) q K;have g1:∀ (off:Nat) (q:Option Nat) (K:AV->Prop),z0t q (.ptr (h.next+1) off) ((H.push (AObj.row 46 [AV.int IntKind.i64 0,AV.int IntKind.i64 0,AV.bool false])).push (AObj.row 46 [AV.int IntKind.i64 0,AV.int IntKind.i64 0,AV.bool false])) K=z03 q x.cells off K:=fun  off q K=>z0b (ty:=49) (by simp [o1,o2,nx,n1,n2,n3]) q K;have std:∀ (d:Lo) (K:z00->Prop),z14 3 (.ptr H.next 0) (.agg d.cells) ((H.push (AObj.row 46 [AV.int IntKind.i64 0,AV.int IntKind.i64 0,AV.bool false])).push (AObj.row 46 [AV.int IntKind.i64 0,AV.int IntKind.i64 0,AV.bool false])) K=K (((H.push (AObj.row 46 [AV.int IntKind.i64 0,AV.int IntKind.i64 0,AV.bool false])).push (AObj.row 46 [AV.int IntKind.i64 0,AV.int IntKind.i64 0,AV.bool false])).put H.next (.row 46 d.cells)):=λd K=>by simp [z14,nx,z08.cells]
 have dd0:∀ (d:Lo) (off:Nat) (q:Option Nat) (K:AV->Prop),z0t q (.ptr h.next off) (((H.push (AObj.row 46 [AV.int IntKind.i64 0,AV.int IntKind.i64 0,AV.bool false])).push (AObj.row 46 [AV.int IntKind.i64 0,AV.int IntKind.i64 0,AV.bool false])).put H.next (.row 46 d.cells)) K=z03 q b.cells off K:=λd off q K=>z0b (ty:=52) (by simp [o1,o2,nx,n1,n2,n3]) q K;have dd1:∀ (d:Lo) (off:Nat) (q:Option Nat) (K:AV->Prop),z0t q (.ptr (h.next+1) off) (((H.push (AObj.row 46 [AV.int IntKind.i64 0,AV.int IntKind.i64 0,AV.bool false])).push (AObj.row 46 [AV.int IntKind.i64 0,AV.int IntKind.i64 0,AV.bool false])).put H.next (.row 46 d.cells)) K=z03 q x.cells off K:=λd off q K=>z0b (ty:=49) (by simp [o1,o2,nx,n1,n2,n3]) q K;have dd3:∀ (d:Lo) (off:Nat) (q:Option Nat) (K:AV->Prop),z0t q (.ptr H.next off) (((H.push (AObj.row 46 [AV.int IntKind.i64 0,AV.int IntKind.i64 0,AV.bool false])).push (AObj.row 46 [AV.int IntKind.i64 0,AV.int IntKind.i64 0,AV.bool false])).put H.next (.row 46 d.cells)) K=z03 q d.cells off K:=λd off q K=>z0b (ty:=46) (by simp [o1,o2,nx,n1,n2,n3]) q K;have sts:∀ (s:Lo) (K:z00->Prop),z14 3 (.ptr (H.push (AObj.row 46 [AV.int IntKind.i64 0,AV.int IntKind.i64 0,AV.bool false])).next 0) (.agg s.cells) ((H.push (AObj.row 46 [AV.int IntKind.i64 0,AV.int IntKind.i64 0,AV.bool false])).push (AObj.row 46 [AV.int IntKind.i64 0,AV.int IntKind.i64 0,AV.bool false])) K=K (((H.push (AObj.row 46 [AV.int IntKind.i64 0,AV.int IntKind.i64 0,AV.bool false])).push (AObj.row 46 [AV.int IntKind.i64 0,AV.int IntKind.i64 0,AV.bool false])).put (H.push (AObj.row 46 [AV.int IntKind.i64 0,AV.int IntKind.i64 0,AV.bool false])).next (.row 46 s.cells)):=λs K=>by simp [z14,nx,z08.cells]
 have ss0:∀ (s:Lo) (off:Nat) (q:Option Nat) (K:AV->Prop),z0t q (.ptr h.next off) (((H.push (AObj.row 46 [AV.int IntKind.i64 0,AV.int IntKind.i64 0,AV.bool false])).push (AObj.row 46 [AV.int IntKind.i64 0,AV.int IntKind.i64 0,AV.bool false])).put (H.push (AObj.row 46 [AV.int IntKind.i64 0,AV.int IntKind.i64 0,AV.bool false])).next (.row 46 s.cells)) K=z03 q b.cells off K:=λs off q K=>z0b (ty:=52) (by simp [o1,o2,nx,n1,n2,n3]) q K;have ss1:∀ (s:Lo) (off:Nat) (q:Option Nat) (K:AV->Prop),z0t q (.ptr (h.next+1) off) (((H.push (AObj.row 46 [AV.int IntKind.i64 0,AV.int IntKind.i64 0,AV.bool false])).push (AObj.row 46 [AV.int IntKind.i64 0,AV.int IntKind.i64 0,AV.bool false])).put (H.push (AObj.row 46 [AV.int IntKind.i64 0,AV.int IntKind.i64 0,AV.bool false])).next (.row 46 s.cells)) K=z03 q x.cells off K:=λs off q K=>z0b (ty:=49) (by simp [o1,o2,nx,n1,n2,n3]) q K;have ss4:∀ (s:Lo) (off:Nat) (q:Option Nat) (K:AV->Prop),z0t q (.ptr (H.push (AObj.row 46 [AV.int IntKind.i64 0,AV.int IntKind.i64 0,AV.bool false])).next off) (((H.push (AObj.row 46 [AV.int IntKind.i64 0,AV.int IntKind.i64 0,AV.bool false])).push (AObj.row 46 [AV.int IntKind.i64 0,AV.int IntKind.i64 0,AV.bool false])).put (H.push (AObj.row 46 [AV.int IntKind.i64 0,AV.int IntKind.i64 0,AV.bool false])).next (.row 46 s.cells)) K=z03 q s.cells off K:=λs off q K=>z0b (ty:=46) (by simp [o1,o2,nx,n1,n2,n3]) q K;have stds:∀ (d:Lo) (s:Lo) (K:z00->Prop),z14 3 (.ptr (H.push (AObj.row 46 [AV.int IntKind.i64 0,AV.int IntKind.i64 0,AV.bool false])).next 0) (.agg s.cells) (((H.push (AObj.row 46 [AV.int IntKind.i64 0,AV.int IntKind.i64 0,AV.bool false])).push (AObj.row 46 [AV.int IntKind.i64 0,AV.int IntKind.i64 0,AV.bool false])).put H.next (.row 46 d.cells)) K=K ((((H.push (AObj.row 46 [AV.int IntKind.i64 0,AV.int IntKind.i64 0,AV.bool false])).push (AObj.row 46 [AV.int IntKind.i64 0,AV.int IntKind.i64 0,AV.bool false])).put H.next (.row 46 d.cells)).put (H.push (AObj.row 46 [AV.int IntKind.i64 0,AV.int IntKind.i64 0,AV.bool false])).next (.row 46 s.cells)):=λd s K=>by simp [z14,nx,z08.cells]
 have ds0:∀ (d:Lo) (s:Lo) (off:Nat) (q:Option Nat) (K:AV->Prop),z0t q (.ptr h.next off) ((((H.push (AObj.row 46 [AV.int IntKind.i64 0,AV.int IntKind.i64 0,AV.bool false])).push (AObj.row 46 [AV.int IntKind.i64 0,AV.int IntKind.i64 0,AV.bool false])).put H.next (.row 46 d.cells)).put (H.push (AObj.row 46 [AV.int IntKind.i64 0,AV.int IntKind.i64 0,AV.bool false])).next (.row 46 s.cells)) K=z03 q b.cells off K:=λd s off q K=>z0b (ty:=52) (by simp [o1,o2,nx,n1,n2,n3]) q K;have ds1:∀ (d:Lo) (s:Lo) (off:Nat) (q:Option Nat) (K:AV->Prop),z0t q (.ptr (h.next+1) off) ((((H.push (AObj.row 46 [AV.int IntKind.i64 0,AV.int IntKind.i64 0,AV.bool false])).push (AObj.row 46 [AV.int IntKind.i64 0,AV.int IntKind.i64 0,AV.bool false])).put H.next (.row 46 d.cells)).put (H.push (AObj.row 46 [AV.int IntKind.i64 0,AV.int IntKind.i64 0,AV.bool false])).next (.row 46 s.cells)) K=z03 q x.cells off K:=λd s off q K=>z0b (ty:=49) (by simp [o1,o2,nx,n1,n2,n3]) q K;have ds3:∀ (d:Lo) (s:Lo) (off:Nat) (q:Option Nat) (K:AV->Prop),z0t q (.ptr H.next off) ((((H.push (AObj.row 46 [AV.int IntKind.i64 0,AV.int IntKind.i64 0,AV.bool false])).push (AObj.row 46 [AV.int IntKind.i64 0,AV.int IntKind.i64 0,AV.bool false])).put H.next (.row 46 d.cells)).put (H.push (AObj.row 46 [AV.int IntKind.i64 0,AV.int IntKind.i64 0,AV.bool false])).next (.row 46 s.cells)) K=z03 q d.cells off K:=λd s off q K=>z0b (ty:=46) (by simp [o1,o2,nx,n1,n2,n3]) q K;have ds4:∀ (d:Lo) (s:Lo) (off:Nat) (q:Option Nat) (K:AV->Prop),z0t q (.ptr (H.push (AObj.row 46 [AV.int IntKind.i64 0,AV.int IntKind.i64 0,AV.bool false])).next off) ((((H.push (AObj.row 46 [AV.int IntKind.i64 0,AV.int IntKind.i64 0,AV.bool false])).push (AObj.row 46 [AV.int IntKind.i64 0,AV.int IntKind.i64 0,AV.bool false])).put H.next (.row 46 d.cells)).put (H.push (AObj.row 46 [AV.int IntKind.i64 0,AV.int IntKind.i64 0,AV.bool false])).next (.row 46 s.cells)) K=z03 q s.cells off K:=λd s off q K=>z0b (ty:=46) (by simp [o1,o2,nx,n1,n2,n3]) q K
 have n4:¬ (h.next+1=h.next+2+2):=by omega
 have n5:¬ (h.next+2=h.next+2+2):=by omega
 have px:∀ (d:Lo) (s:Lo) (r:AObj) (off:Nat) (q:Option Nat) (K:AV->Prop),z0t q (.ptr (h.next+1) off) (((((H.push (AObj.row 46 [AV.int IntKind.i64 0,AV.int IntKind.i64 0,AV.bool false])).push (AObj.row 46 [AV.int IntKind.i64 0,AV.int IntKind.i64 0,AV.bool false])).put H.next (.row 46 d.cells)).put (H.push (AObj.row 46 [AV.int IntKind.i64 0,AV.int IntKind.i64 0,AV.bool false])).next (.row 46 s.cells)).push r) K=z03 q x.cells off K:=λd s r off q K=>z0b (ty:=49) (by simp [o1,o2,nx,n1,n2,n3,n4,n5]) q K;have pd:∀ (d:Lo) (s:Lo) (r:AObj) (off:Nat) (q:Option Nat) (K:AV->Prop),z0t q (.ptr H.next off) (((((H.push (AObj.row 46 [AV.int IntKind.i64 0,AV.int IntKind.i64 0,AV.bool false])).push (AObj.row 46 [AV.int IntKind.i64 0,AV.int IntKind.i64 0,AV.bool false])).put H.next (.row 46 d.cells)).put (H.push (AObj.row 46 [AV.int IntKind.i64 0,AV.int IntKind.i64 0,AV.bool false])).next (.row 46 s.cells)).push r) K=z03 q d.cells off K:=λd s r off q K=>z0b (ty:=46) (by simp [o1,o2,nx,n1,n2,n3,n4,n5]) q K;have qx:∀ (s:Lo) (r:AObj) (off:Nat) (q:Option Nat) (K:AV->Prop),z0t q (.ptr (h.next+1) off) ((((H.push (AObj.row 46 [AV.int IntKind.i64 0,AV.int IntKind.i64 0,AV.bool false])).push (AObj.row 46 [AV.int IntKind.i64 0,AV.int IntKind.i64 0,AV.bool false])).put (H.push (AObj.row 46 [AV.int IntKind.i64 0,AV.int IntKind.i64 0,AV.bool false])).next (.row 46 s.cells)).push r) K=z03 q x.cells off K:=λs r off q K=>z0b (ty:=49) (by simp [o1,o2,nx,n1,n2,n3,n4,n5]) q K;have kDSp:∀ (d s:Lo) (r:AObj),Keeps h (((((H.push (AObj.row 46 [AV.int IntKind.i64 0,AV.int IntKind.i64 0,AV.bool false])).push (AObj.row 46 [AV.int IntKind.i64 0,AV.int IntKind.i64 0,AV.bool false])).put H.next (.row 46 d.cells)).put (H.push (AObj.row 46 [AV.int IntKind.i64 0,AV.int IntKind.i64 0,AV.bool false])).next (.row 46 s.cells)).push r) (λ_=>False):=λd s r=>(zaw (zaw ((kH.go (Keeps.one _ _)).go (Keeps.one _ _)) (by omega) _) (by simp;omega) _).go (Keeps.one _ _)
 have kSp:∀ (s:Lo) (r:AObj),Keeps h ((((H.push (AObj.row 46 [AV.int IntKind.i64 0,AV.int IntKind.i64 0,AV.bool false])).push (AObj.row 46 [AV.int IntKind.i64 0,AV.int IntKind.i64 0,AV.bool false])).put (H.push (AObj.row 46 [AV.int IntKind.i64 0,AV.int IntKind.i64 0,AV.bool false])).next (.row 46 s.cells)).push r) (λ_=>False):=λs r=>(zaw ((kH.go (Keeps.one _ _)).go (Keeps.one _ _)) (by simp;omega) _).go (Keeps.one _ _);have kG:Keeps h ((H.push (AObj.row 46 [AV.int IntKind.i64 0,AV.int IntKind.i64 0,AV.bool false])).push (AObj.row 46 [AV.int IntKind.i64 0,AV.int IntKind.i64 0,AV.bool false])) (λ_=>False):=(kH.go (Keeps.one _ _)).go (Keeps.one _ _);have kD:∀ d:Lo,Keeps h (((H.push (AObj.row 46 [AV.int IntKind.i64 0,AV.int IntKind.i64 0,AV.bool false])).push (AObj.row 46 [AV.int IntKind.i64 0,AV.int IntKind.i64 0,AV.bool false])).put H.next (.row 46 d.cells)) (λ_=>False):=λd=>zaw kG (by omega) _;have kS:∀ s:Lo,Keeps h (((H.push (AObj.row 46 [AV.int IntKind.i64 0,AV.int IntKind.i64 0,AV.bool false])).push (AObj.row 46 [AV.int IntKind.i64 0,AV.int IntKind.i64 0,AV.bool false])).put (H.push (AObj.row 46 [AV.int IntKind.i64 0,AV.int IntKind.i64 0,AV.bool false])).next (.row 46 s.cells)) (λ_=>False):=λs=>zaw kG (by simp;omega) _;have kDS:∀ d s:Lo,Keeps h ((((H.push (AObj.row 46 [AV.int IntKind.i64 0,AV.int IntKind.i64 0,AV.bool false])).push (AObj.row 46 [AV.int IntKind.i64 0,AV.int IntKind.i64 0,AV.bool false])).put H.next (.row 46 d.cells)).put (H.push (AObj.row 46 [AV.int IntKind.i64 0,AV.int IntKind.i64 0,AV.bool false])).next (.row 46 s.cells)) (λ_=>False):=λd s=>zaw (kD d) (by simp;omega) _
 exact ⟨l1,l2,g0,g1,std,dd0,dd1,dd3,sts,ss0,ss1,ss4,stds,ds0,ds1,ds3,ds4,px,pd,qx,kDSp,kSp,kG,kD,kS,kDS⟩
end
section
open Go.Abs
theorem ri_1 (c:Cd) (hc:c.ok) (hs:(slL c.Sections).length<=1000000) (t a:Int) (b:Bd) (x:In) (hb:getI (slL c.Threads) t=some b) (hx:getI (slL b.Code) a=some x) (hsl:∀ l∈slL b.Slots,z18 c l=true)
  (hn:okI (slL b.Slots).length) (hit:okSl z0e.ok x.Items) (hix:okSl z0e.ok x.Index) (hitl:(slL x.Items).length<=1000000) (hixl:(slL x.Index).length<=1000000) (hcl:(slL b.Code).length<=1000000) (hop:x.Op=1) (h:z00) :
  z01 Tryd.prog 13 [.agg c.cells,.int .i64 t,.int .i64 a] h (λv h2=>v=.bool (z1a c t b x a&&(decide (x.Op=17) == decide (a=(slL b.Code).length-1)))/\Keeps h h2 (λ_=>False)):=by
 have kind:∀ n:Int,btw n (slL b.Slots).length=true->((gD b.Slots n).Kind=1\/(gD b.Slots n).Kind=3)->(gD b.Slots n).Rec=0:=λn hq hk=>by
  have:=hsl _ (z2v (z1p hq));unfold z18 at this;rw [if_neg (by omega)] at this;simp only [Bool.and_eq_true,decide_eq_true_eq] at this;exact this.2
 have hl:=z3j 1;have nq:(hasS 1 == [63])=false:=rfl;have f100:(hasS 1).contains 100=true:=rfl;have f115:(hasS 1).contains 115=false:=rfl;have f114:(hasS 1).contains 114=false:=rfl;have f110:(hasS 1).contains 110=false:=rfl;have f116:(hasS 1).contains 116=false:=rfl;have f105:(hasS 1).contains 105=true:=rfl;have f120:(hasS 1).contains 120=false:=rfl;have wl:IntKind.i64.wrap (((slL b.Code).length:Int)-1)=((slL b.Code).length:Int)-1:=z7n (by omega) (by omega);apply z0r
 (repeat (first | simp -dsimp -implicitDefEqProofs (disch:=omega) only [↓rP,rA,↓reduceIte,reduceEqDiff,reduceAdd,reduceLeDiff,↓tyr,ixI hb,ixI hx] | refine Cut.go ?_))
 have e2:(h.push (.row 52 b.cells)).next=h.next+1:=rfl;have o1:((h.push (.row 52 b.cells)).push (.row 49 x.cells)).objs h.next=some (.row 52 b.cells):=by simp
 have o2:((h.push (.row 52 b.cells)).push (.row 49 x.cells)).objs (h.next+1)=some (.row 49 x.cells):=by simp
 have nx:((h.push (.row 52 b.cells)).push (.row 49 x.cells)).next=h.next+2:=rfl;have kH:Keeps h ((h.push (.row 52 b.cells)).push (.row 49 x.cells)) (λ_=>False):=(Keeps.one _ _).go (Keeps.one _ _);rw [e2];generalize ((h.push (.row 52 b.cells)).push (.row 49 x.cells))=H at *;simp only [hop];obtain ⟨l1,l2,g0,g1,std,dd0,dd1,dd3,sts,ss0,ss1,ss4,stds,ds0,ds1,ds3,ds4,px,pd,qx,kDSp,kSp,kG,kD,kS,kDS⟩:=z3m o1 o2 nx kH;refine z01.go (z1k 1 _) ?_
 repeat' (first | (simp -dsimp -implicitDefEqProofs only [↓rP,rB,↓reduceIte,reduceEqDiff,reduceAdd,reduceLeDiff,↓tyr,Int.reduceBEq,Int.reduceBNe,Int.reduceLT,Int.reduceLE,decide_true,decide_false,f100,f115,f114,f110,f116,f105,f120,nq,hop,↓l1,↓l2,wl,ixI hb,ixI hx,↓g0,↓g1,↓std,↓dd0,↓dd1,↓dd3,↓sts,↓ss0,↓ss1,↓ss4,↓stds,↓ds0,↓ds1,↓ds3,↓ds4,↓px,↓pd,↓qx]) | with_reducible refine Cut.go ?_ | with_reducible refine z01.go (z5j _ hl _) ?_ | with_reducible refine z01.go (z5n _ hl _) ?_ | with_reducible refine z01.go (z5m _ hl _) ?_ | with_reducible refine z01.go (z5l _ hl _) ?_ | with_reducible refine z01.go (z5o _ hl _) ?_ | with_reducible refine z01.go (z5k _ hl _) ?_ | with_reducible refine z01.go (z5p _ hl _) ?_ | with_reducible refine z01.go (z1e _ _ _) ?_ | with_reducible refine z01.go (z1n c hs _ _ _) ?_ | with_reducible refine z01.go (z0q _ hn _ hit hitl _) ?_ | with_reducible refine z01.go (z0q _ hn _ hix hixl _) ?_ | with_reducible refine z7y (by assumption) ?_ | unfold z0g | unfold z0h | unfold z0i | unfold z0j | unfold z0k | (with_reducible refine Split.intro (λhq=>?_) (λhq=>?_) <;> (try simp only [Bool.not_eq_true',Bool.not_eq_false'] at hq) <;> (try rw [hq])))
 all_goals clear l1 l2 g0 g1 std dd0 dd1 dd3 sts ss0 ss1 ss4 stds ds0 ds1 ds3 ds4 px pd qx o1 o2
 all_goals refine And.intro (congrArg AV.bool ?_) (by first | exact kH | exact kG | exact kD _ | exact kS _ | exact kDS _ _ | exact kDSp _ _ _ | exact kSp _ _)
 all_goals clear kH kG kD kS kDS kDSp kSp nx wl nq hl f100 f115 f114 f110 f116 f105 f120 e2 hb hx hcl hixl hitl hix hit hn hs hc
 all_goals have kd:=kind x.Dst
 all_goals have ks:=kind x.Src
 all_goals clear kind
 all_goals clear hsl
 all_goals simp_all [z2q,z1a,z3c,z2m,z3o,z11,z7h,z2f,z8q,z9n,z5q,z5c,List.length_pos_iff,z1p,z5b,z3n]
 all_goals try omega
 all_goals try (rw [Bool.eq_iff_iff];simp_all [beqI];try omega)
 all_goals try (split <;> simp_all)
 all_goals try omega
theorem ri_11 (c:Cd) (hc:c.ok) (hs:(slL c.Sections).length<=1000000) (t a:Int) (b:Bd) (x:In) (hb:getI (slL c.Threads) t=some b) (hx:getI (slL b.Code) a=some x) (hsl:∀ l∈slL b.Slots,z18 c l=true)
  (hn:okI (slL b.Slots).length) (hit:okSl z0e.ok x.Items) (hix:okSl z0e.ok x.Index) (hitl:(slL x.Items).length<=1000000) (hixl:(slL x.Index).length<=1000000) (hcl:(slL b.Code).length<=1000000) (hop:x.Op=11) (h:z00) :
  z01 Tryd.prog 13 [.agg c.cells,.int .i64 t,.int .i64 a] h (λv h2=>v=.bool (z1a c t b x a&&(decide (x.Op=17) == decide (a=(slL b.Code).length-1)))/\Keeps h h2 (λ_=>False)):=by
 have kind:∀ n:Int,btw n (slL b.Slots).length=true->((gD b.Slots n).Kind=1\/(gD b.Slots n).Kind=3)->(gD b.Slots n).Rec=0:=λn hq hk=>by
  have:=hsl _ (z2v (z1p hq));unfold z18 at this;rw [if_neg (by omega)] at this;simp only [Bool.and_eq_true,decide_eq_true_eq] at this;exact this.2
 have hl:=z3j 11;have nq:(hasS 11 == [63])=false:=rfl;have f100:(hasS 11).contains 100=false:=rfl;have f115:(hasS 11).contains 115=false:=rfl;have f114:(hasS 11).contains 114=false:=rfl;have f110:(hasS 11).contains 110=false:=rfl;have f116:(hasS 11).contains 116=false:=rfl;have f105:(hasS 11).contains 105=true:=rfl;have f120:(hasS 11).contains 120=false:=rfl;have wl:IntKind.i64.wrap (((slL b.Code).length:Int)-1)=((slL b.Code).length:Int)-1:=z7n (by omega) (by omega);apply z0r
 (repeat (first | simp -dsimp -implicitDefEqProofs (disch:=omega) only [↓rP,rA,↓reduceIte,reduceEqDiff,reduceAdd,reduceLeDiff,↓tyr,ixI hb,ixI hx] | refine Cut.go ?_))
 have e2:(h.push (.row 52 b.cells)).next=h.next+1:=rfl;have o1:((h.push (.row 52 b.cells)).push (.row 49 x.cells)).objs h.next=some (.row 52 b.cells):=by simp
 have o2:((h.push (.row 52 b.cells)).push (.row 49 x.cells)).objs (h.next+1)=some (.row 49 x.cells):=by simp
 have nx:((h.push (.row 52 b.cells)).push (.row 49 x.cells)).next=h.next+2:=rfl;have kH:Keeps h ((h.push (.row 52 b.cells)).push (.row 49 x.cells)) (λ_=>False):=(Keeps.one _ _).go (Keeps.one _ _);rw [e2];generalize ((h.push (.row 52 b.cells)).push (.row 49 x.cells))=H at *;simp only [hop];obtain ⟨l1,l2,g0,g1,std,dd0,dd1,dd3,sts,ss0,ss1,ss4,stds,ds0,ds1,ds3,ds4,px,pd,qx,kDSp,kSp,kG,kD,kS,kDS⟩:=z3m o1 o2 nx kH;refine z01.go (z1k 11 _) ?_
 repeat' (first | (simp -dsimp -implicitDefEqProofs only [↓rP,rB,↓reduceIte,reduceEqDiff,reduceAdd,reduceLeDiff,↓tyr,Int.reduceBEq,Int.reduceBNe,Int.reduceLT,Int.reduceLE,decide_true,decide_false,f100,f115,f114,f110,f116,f105,f120,nq,hop,↓l1,↓l2,wl,ixI hb,ixI hx,↓g0,↓g1,↓std,↓dd0,↓dd1,↓dd3,↓sts,↓ss0,↓ss1,↓ss4,↓stds,↓ds0,↓ds1,↓ds3,↓ds4,↓px,↓pd,↓qx]) | with_reducible refine Cut.go ?_ | with_reducible refine z01.go (z5j _ hl _) ?_ | with_reducible refine z01.go (z5n _ hl _) ?_ | with_reducible refine z01.go (z5m _ hl _) ?_ | with_reducible refine z01.go (z5l _ hl _) ?_ | with_reducible refine z01.go (z5o _ hl _) ?_ | with_reducible refine z01.go (z5k _ hl _) ?_ | with_reducible refine z01.go (z5p _ hl _) ?_ | with_reducible refine z01.go (z1e _ _ _) ?_ | with_reducible refine z01.go (z1n c hs _ _ _) ?_ | with_reducible refine z01.go (z0q _ hn _ hit hitl _) ?_ | with_reducible refine z01.go (z0q _ hn _ hix hixl _) ?_ | with_reducible refine z7y (by assumption) ?_ | unfold z0g | unfold z0h | unfold z0i | unfold z0j | unfold z0k | (with_reducible refine Split.intro (λhq=>?_) (λhq=>?_) <;> (try simp only [Bool.not_eq_true',Bool.not_eq_false'] at hq) <;> (try rw [hq])))
 all_goals clear l1 l2 g0 g1 std dd0 dd1 dd3 sts ss0 ss1 ss4 stds ds0 ds1 ds3 ds4 px pd qx o1 o2
 all_goals refine And.intro (congrArg AV.bool ?_) (by first | exact kH | exact kG | exact kD _ | exact kS _ | exact kDS _ _ | exact kDSp _ _ _ | exact kSp _ _)
 all_goals clear kH kG kD kS kDS kDSp kSp nx wl nq hl f100 f115 f114 f110 f116 f105 f120 e2 hb hx hcl hixl hitl hix hit hn hs hc
 all_goals have kd:=kind x.Dst
 all_goals have ks:=kind x.Src
 all_goals clear kind
 all_goals clear hsl
 all_goals simp_all [z2q,z1a,z3c,z2m,z3o,z11,z7h,z2f,z8q,z9n,z5q,z5c,List.length_pos_iff,z1p,z5b,z3n]
 all_goals try omega
 all_goals try (rw [Bool.eq_iff_iff];simp_all [beqI];try omega)
 all_goals try (split <;> simp_all)
 all_goals try omega
theorem ri_12 (c:Cd) (hc:c.ok) (hs:(slL c.Sections).length<=1000000) (t a:Int) (b:Bd) (x:In) (hb:getI (slL c.Threads) t=some b) (hx:getI (slL b.Code) a=some x) (hsl:∀ l∈slL b.Slots,z18 c l=true)
  (hn:okI (slL b.Slots).length) (hit:okSl z0e.ok x.Items) (hix:okSl z0e.ok x.Index) (hitl:(slL x.Items).length<=1000000) (hixl:(slL x.Index).length<=1000000) (hcl:(slL b.Code).length<=1000000) (hop:x.Op=12) (h:z00) :
  z01 Tryd.prog 13 [.agg c.cells,.int .i64 t,.int .i64 a] h (λv h2=>v=.bool (z1a c t b x a&&(decide (x.Op=17) == decide (a=(slL b.Code).length-1)))/\Keeps h h2 (λ_=>False)):=by
 have kind:∀ n:Int,btw n (slL b.Slots).length=true->((gD b.Slots n).Kind=1\/(gD b.Slots n).Kind=3)->(gD b.Slots n).Rec=0:=λn hq hk=>by
  have:=hsl _ (z2v (z1p hq));unfold z18 at this;rw [if_neg (by omega)] at this;simp only [Bool.and_eq_true,decide_eq_true_eq] at this;exact this.2
 have hl:=z3j 12;have nq:(hasS 12 == [63])=false:=rfl;have f100:(hasS 12).contains 100=false:=rfl;have f115:(hasS 12).contains 115=false:=rfl;have f114:(hasS 12).contains 114=false:=rfl;have f110:(hasS 12).contains 110=false:=rfl;have f116:(hasS 12).contains 116=false:=rfl;have f105:(hasS 12).contains 105=true:=rfl;have f120:(hasS 12).contains 120=false:=rfl;have wl:IntKind.i64.wrap (((slL b.Code).length:Int)-1)=((slL b.Code).length:Int)-1:=z7n (by omega) (by omega);apply z0r
 (repeat (first | simp -dsimp -implicitDefEqProofs (disch:=omega) only [↓rP,rA,↓reduceIte,reduceEqDiff,reduceAdd,reduceLeDiff,↓tyr,ixI hb,ixI hx] | refine Cut.go ?_))
 have e2:(h.push (.row 52 b.cells)).next=h.next+1:=rfl;have o1:((h.push (.row 52 b.cells)).push (.row 49 x.cells)).objs h.next=some (.row 52 b.cells):=by simp
 have o2:((h.push (.row 52 b.cells)).push (.row 49 x.cells)).objs (h.next+1)=some (.row 49 x.cells):=by simp
 have nx:((h.push (.row 52 b.cells)).push (.row 49 x.cells)).next=h.next+2:=rfl;have kH:Keeps h ((h.push (.row 52 b.cells)).push (.row 49 x.cells)) (λ_=>False):=(Keeps.one _ _).go (Keeps.one _ _);rw [e2];generalize ((h.push (.row 52 b.cells)).push (.row 49 x.cells))=H at *;simp only [hop];obtain ⟨l1,l2,g0,g1,std,dd0,dd1,dd3,sts,ss0,ss1,ss4,stds,ds0,ds1,ds3,ds4,px,pd,qx,kDSp,kSp,kG,kD,kS,kDS⟩:=z3m o1 o2 nx kH;refine z01.go (z1k 12 _) ?_
 repeat' (first | (simp -dsimp -implicitDefEqProofs only [↓rP,rB,↓reduceIte,reduceEqDiff,reduceAdd,reduceLeDiff,↓tyr,Int.reduceBEq,Int.reduceBNe,Int.reduceLT,Int.reduceLE,decide_true,decide_false,f100,f115,f114,f110,f116,f105,f120,nq,hop,↓l1,↓l2,wl,ixI hb,ixI hx,↓g0,↓g1,↓std,↓dd0,↓dd1,↓dd3,↓sts,↓ss0,↓ss1,↓ss4,↓stds,↓ds0,↓ds1,↓ds3,↓ds4,↓px,↓pd,↓qx]) | with_reducible refine Cut.go ?_ | with_reducible refine z01.go (z5j _ hl _) ?_ | with_reducible refine z01.go (z5n _ hl _) ?_ | with_reducible refine z01.go (z5m _ hl _) ?_ | with_reducible refine z01.go (z5l _ hl _) ?_ | with_reducible refine z01.go (z5o _ hl _) ?_ | with_reducible refine z01.go (z5k _ hl _) ?_ | with_reducible refine z01.go (z5p _ hl _) ?_ | with_reducible refine z01.go (z1e _ _ _) ?_ | with_reducible refine z01.go (z1n c hs _ _ _) ?_ | with_reducible refine z01.go (z0q _ hn _ hit hitl _) ?_ | with_reducible refine z01.go (z0q _ hn _ hix hixl _) ?_ | with_reducible refine z7y (by assumption) ?_ | unfold z0g | unfold z0h | unfold z0i | unfold z0j | unfold z0k | (with_reducible refine Split.intro (λhq=>?_) (λhq=>?_) <;> (try simp only [Bool.not_eq_true',Bool.not_eq_false'] at hq) <;> (try rw [hq])))
 all_goals clear l1 l2 g0 g1 std dd0 dd1 dd3 sts ss0 ss1 ss4 stds ds0 ds1 ds3 ds4 px pd qx o1 o2
 all_goals refine And.intro (congrArg AV.bool ?_) (by first | exact kH | exact kG | exact kD _ | exact kS _ | exact kDS _ _ | exact kDSp _ _ _ | exact kSp _ _)
 all_goals clear kH kG kD kS kDS kDSp kSp nx wl nq hl f100 f115 f114 f110 f116 f105 f120 e2 hb hx hcl hixl hitl hix hit hn hs hc
 all_goals have kd:=kind x.Dst
 all_goals have ks:=kind x.Src
 all_goals clear kind
 all_goals clear hsl
 all_goals simp_all [z2q,z1a,z3c,z2m,z3o,z11,z7h,z2f,z8q,z9n,z5q,z5c,List.length_pos_iff,z1p,z5b,z3n]
 all_goals try omega
 all_goals try (rw [Bool.eq_iff_iff];simp_all [beqI];try omega)
 all_goals try (split <;> simp_all)
 all_goals try omega
theorem ri_13 (c:Cd) (hc:c.ok) (hs:(slL c.Sections).length<=1000000) (t a:Int) (b:Bd) (x:In) (hb:getI (slL c.Threads) t=some b) (hx:getI (slL b.Code) a=some x) (hsl:∀ l∈slL b.Slots,z18 c l=true)
  (hn:okI (slL b.Slots).length) (hit:okSl z0e.ok x.Items) (hix:okSl z0e.ok x.Index) (hitl:(slL x.Items).length<=1000000) (hixl:(slL x.Index).length<=1000000) (hcl:(slL b.Code).length<=1000000) (hop:x.Op=13) (h:z00) :
  z01 Tryd.prog 13 [.agg c.cells,.int .i64 t,.int .i64 a] h (λv h2=>v=.bool (z1a c t b x a&&(decide (x.Op=17) == decide (a=(slL b.Code).length-1)))/\Keeps h h2 (λ_=>False)):=by
 have kind:∀ n:Int,btw n (slL b.Slots).length=true->((gD b.Slots n).Kind=1\/(gD b.Slots n).Kind=3)->(gD b.Slots n).Rec=0:=λn hq hk=>by
  have:=hsl _ (z2v (z1p hq));unfold z18 at this;rw [if_neg (by omega)] at this;simp only [Bool.and_eq_true,decide_eq_true_eq] at this;exact this.2
 have hl:=z3j 13;have nq:(hasS 13 == [63])=false:=rfl;have f100:(hasS 13).contains 100=false:=rfl;have f115:(hasS 13).contains 115=false:=rfl;have f114:(hasS 13).contains 114=false:=rfl;have f110:(hasS 13).contains 110=false:=rfl;have f116:(hasS 13).contains 116=true:=rfl;have f105:(hasS 13).contains 105=false:=rfl;have f120:(hasS 13).contains 120=false:=rfl;have wl:IntKind.i64.wrap (((slL b.Code).length:Int)-1)=((slL b.Code).length:Int)-1:=z7n (by omega) (by omega);apply z0r
 (repeat (first | simp -dsimp -implicitDefEqProofs (disch:=omega) only [↓rP,rA,↓reduceIte,reduceEqDiff,reduceAdd,reduceLeDiff,↓tyr,ixI hb,ixI hx] | refine Cut.go ?_))
 have e2:(h.push (.row 52 b.cells)).next=h.next+1:=rfl;have o1:((h.push (.row 52 b.cells)).push (.row 49 x.cells)).objs h.next=some (.row 52 b.cells):=by simp
 have o2:((h.push (.row 52 b.cells)).push (.row 49 x.cells)).objs (h.next+1)=some (.row 49 x.cells):=by simp
 have nx:((h.push (.row 52 b.cells)).push (.row 49 x.cells)).next=h.next+2:=rfl;have kH:Keeps h ((h.push (.row 52 b.cells)).push (.row 49 x.cells)) (λ_=>False):=(Keeps.one _ _).go (Keeps.one _ _);rw [e2];generalize ((h.push (.row 52 b.cells)).push (.row 49 x.cells))=H at *;simp only [hop];obtain ⟨l1,l2,g0,g1,std,dd0,dd1,dd3,sts,ss0,ss1,ss4,stds,ds0,ds1,ds3,ds4,px,pd,qx,kDSp,kSp,kG,kD,kS,kDS⟩:=z3m o1 o2 nx kH;refine z01.go (z1k 13 _) ?_
 repeat' (first | (simp -dsimp -implicitDefEqProofs only [↓rP,rB,↓reduceIte,reduceEqDiff,reduceAdd,reduceLeDiff,↓tyr,Int.reduceBEq,Int.reduceBNe,Int.reduceLT,Int.reduceLE,decide_true,decide_false,f100,f115,f114,f110,f116,f105,f120,nq,hop,↓l1,↓l2,wl,ixI hb,ixI hx,↓g0,↓g1,↓std,↓dd0,↓dd1,↓dd3,↓sts,↓ss0,↓ss1,↓ss4,↓stds,↓ds0,↓ds1,↓ds3,↓ds4,↓px,↓pd,↓qx]) | with_reducible refine Cut.go ?_ | with_reducible refine z01.go (z5j _ hl _) ?_ | with_reducible refine z01.go (z5n _ hl _) ?_ | with_reducible refine z01.go (z5m _ hl _) ?_ | with_reducible refine z01.go (z5l _ hl _) ?_ | with_reducible refine z01.go (z5o _ hl _) ?_ | with_reducible refine z01.go (z5k _ hl _) ?_ | with_reducible refine z01.go (z5p _ hl _) ?_ | with_reducible refine z01.go (z1e _ _ _) ?_ | with_reducible refine z01.go (z1n c hs _ _ _) ?_ | with_reducible refine z01.go (z0q _ hn _ hit hitl _) ?_ | with_reducible refine z01.go (z0q _ hn _ hix hixl _) ?_ | with_reducible refine z7y (by assumption) ?_ | unfold z0g | unfold z0h | unfold z0i | unfold z0j | unfold z0k | (with_reducible refine Split.intro (λhq=>?_) (λhq=>?_) <;> (try simp only [Bool.not_eq_true',Bool.not_eq_false'] at hq) <;> (try rw [hq])))
 all_goals clear l1 l2 g0 g1 std dd0 dd1 dd3 sts ss0 ss1 ss4 stds ds0 ds1 ds3 ds4 px pd qx o1 o2
 all_goals refine And.intro (congrArg AV.bool ?_) (by first | exact kH | exact kG | exact kD _ | exact kS _ | exact kDS _ _ | exact kDSp _ _ _ | exact kSp _ _)
 all_goals clear kH kG kD kS kDS kDSp kSp nx wl nq hl f100 f115 f114 f110 f116 f105 f120 e2 hb hx hcl hixl hitl hix hit hn hs hc
 all_goals have kd:=kind x.Dst
 all_goals have ks:=kind x.Src
 all_goals clear kind
 all_goals clear hsl
 all_goals simp_all [z2q,z1a,z3c,z2m,z3o,z11,z7h,z2f,z8q,z9n,z5q,z5c,List.length_pos_iff,z1p,z5b,z3n]
 all_goals try omega
 all_goals try (rw [Bool.eq_iff_iff];simp_all [beqI];try omega)
 all_goals try (split <;> simp_all)
 all_goals try omega
theorem ri_14 (c:Cd) (hc:c.ok) (hs:(slL c.Sections).length<=1000000) (t a:Int) (b:Bd) (x:In) (hb:getI (slL c.Threads) t=some b) (hx:getI (slL b.Code) a=some x) (hsl:∀ l∈slL b.Slots,z18 c l=true)
  (hn:okI (slL b.Slots).length) (hit:okSl z0e.ok x.Items) (hix:okSl z0e.ok x.Index) (hitl:(slL x.Items).length<=1000000) (hixl:(slL x.Index).length<=1000000) (hcl:(slL b.Code).length<=1000000) (hop:x.Op=14) (h:z00) :
  z01 Tryd.prog 13 [.agg c.cells,.int .i64 t,.int .i64 a] h (λv h2=>v=.bool (z1a c t b x a&&(decide (x.Op=17) == decide (a=(slL b.Code).length-1)))/\Keeps h h2 (λ_=>False)):=by
 have kind:∀ n:Int,btw n (slL b.Slots).length=true->((gD b.Slots n).Kind=1\/(gD b.Slots n).Kind=3)->(gD b.Slots n).Rec=0:=λn hq hk=>by
  have:=hsl _ (z2v (z1p hq));unfold z18 at this;rw [if_neg (by omega)] at this;simp only [Bool.and_eq_true,decide_eq_true_eq] at this;exact this.2
 have hl:=z3j 14;have nq:(hasS 14 == [63])=false:=rfl;have f100:(hasS 14).contains 100=false:=rfl;have f115:(hasS 14).contains 115=false:=rfl;have f114:(hasS 14).contains 114=false:=rfl;have f110:(hasS 14).contains 110=false:=rfl;have f116:(hasS 14).contains 116=true:=rfl;have f105:(hasS 14).contains 105=true:=rfl;have f120:(hasS 14).contains 120=false:=rfl;have wl:IntKind.i64.wrap (((slL b.Code).length:Int)-1)=((slL b.Code).length:Int)-1:=z7n (by omega) (by omega);apply z0r
 (repeat (first | simp -dsimp -implicitDefEqProofs (disch:=omega) only [↓rP,rA,↓reduceIte,reduceEqDiff,reduceAdd,reduceLeDiff,↓tyr,ixI hb,ixI hx] | refine Cut.go ?_))
 have e2:(h.push (.row 52 b.cells)).next=h.next+1:=rfl;have o1:((h.push (.row 52 b.cells)).push (.row 49 x.cells)).objs h.next=some (.row 52 b.cells):=by simp
 have o2:((h.push (.row 52 b.cells)).push (.row 49 x.cells)).objs (h.next+1)=some (.row 49 x.cells):=by simp
 have nx:((h.push (.row 52 b.cells)).push (.row 49 x.cells)).next=h.next+2:=rfl;have kH:Keeps h ((h.push (.row 52 b.cells)).push (.row 49 x.cells)) (λ_=>False):=(Keeps.one _ _).go (Keeps.one _ _);rw [e2];generalize ((h.push (.row 52 b.cells)).push (.row 49 x.cells))=H at *;simp only [hop];obtain ⟨l1,l2,g0,g1,std,dd0,dd1,dd3,sts,ss0,ss1,ss4,stds,ds0,ds1,ds3,ds4,px,pd,qx,kDSp,kSp,kG,kD,kS,kDS⟩:=z3m o1 o2 nx kH;refine z01.go (z1k 14 _) ?_
 repeat' (first | (simp -dsimp -implicitDefEqProofs only [↓rP,rB,↓reduceIte,reduceEqDiff,reduceAdd,reduceLeDiff,↓tyr,Int.reduceBEq,Int.reduceBNe,Int.reduceLT,Int.reduceLE,decide_true,decide_false,f100,f115,f114,f110,f116,f105,f120,nq,hop,↓l1,↓l2,wl,ixI hb,ixI hx,↓g0,↓g1,↓std,↓dd0,↓dd1,↓dd3,↓sts,↓ss0,↓ss1,↓ss4,↓stds,↓ds0,↓ds1,↓ds3,↓ds4,↓px,↓pd,↓qx]) | with_reducible refine Cut.go ?_ | with_reducible refine z01.go (z5j _ hl _) ?_ | with_reducible refine z01.go (z5n _ hl _) ?_ | with_reducible refine z01.go (z5m _ hl _) ?_ | with_reducible refine z01.go (z5l _ hl _) ?_ | with_reducible refine z01.go (z5o _ hl _) ?_ | with_reducible refine z01.go (z5k _ hl _) ?_ | with_reducible refine z01.go (z5p _ hl _) ?_ | with_reducible refine z01.go (z1e _ _ _) ?_ | with_reducible refine z01.go (z1n c hs _ _ _) ?_ | with_reducible refine z01.go (z0q _ hn _ hit hitl _) ?_ | with_reducible refine z01.go (z0q _ hn _ hix hixl _) ?_ | with_reducible refine z7y (by assumption) ?_ | unfold z0g | unfold z0h | unfold z0i | unfold z0j | unfold z0k | (with_reducible refine Split.intro (λhq=>?_) (λhq=>?_) <;> (try simp only [Bool.not_eq_true',Bool.not_eq_false'] at hq) <;> (try rw [hq])))
 all_goals clear l1 l2 g0 g1 std dd0 dd1 dd3 sts ss0 ss1 ss4 stds ds0 ds1 ds3 ds4 px pd qx o1 o2
 all_goals refine And.intro (congrArg AV.bool ?_) (by first | exact kH | exact kG | exact kD _ | exact kS _ | exact kDS _ _ | exact kDSp _ _ _ | exact kSp _ _)
 all_goals clear kH kG kD kS kDS kDSp kSp nx wl nq hl f100 f115 f114 f110 f116 f105 f120 e2 hb hx hcl hixl hitl hix hit hn hs hc
 all_goals have kd:=kind x.Dst
 all_goals have ks:=kind x.Src
 all_goals clear kind
 all_goals clear hsl
 all_goals simp_all [z2q,z1a,z3c,z2m,z3o,z11,z7h,z2f,z8q,z9n,z5q,z5c,List.length_pos_iff,z1p,z5b,z3n]
 all_goals try omega
 all_goals try (rw [Bool.eq_iff_iff];simp_all [beqI];try omega)
 all_goals try (split <;> simp_all)
 all_goals try omega
theorem ri_17 (c:Cd) (hc:c.ok) (hs:(slL c.Sections).length<=1000000) (t a:Int) (b:Bd) (x:In) (hb:getI (slL c.Threads) t=some b) (hx:getI (slL b.Code) a=some x) (hsl:∀ l∈slL b.Slots,z18 c l=true)
  (hn:okI (slL b.Slots).length) (hit:okSl z0e.ok x.Items) (hix:okSl z0e.ok x.Index) (hitl:(slL x.Items).length<=1000000) (hixl:(slL x.Index).length<=1000000) (hcl:(slL b.Code).length<=1000000) (hop:x.Op=17) (h:z00) :
  z01 Tryd.prog 13 [.agg c.cells,.int .i64 t,.int .i64 a] h (λv h2=>v=.bool (z1a c t b x a&&(decide (x.Op=17) == decide (a=(slL b.Code).length-1)))/\Keeps h h2 (λ_=>False)):=by
 have kind:∀ n:Int,btw n (slL b.Slots).length=true->((gD b.Slots n).Kind=1\/(gD b.Slots n).Kind=3)->(gD b.Slots n).Rec=0:=λn hq hk=>by
  have:=hsl _ (z2v (z1p hq));unfold z18 at this;rw [if_neg (by omega)] at this;simp only [Bool.and_eq_true,decide_eq_true_eq] at this;exact this.2
 have hl:=z3j 17;have nq:(hasS 17 == [63])=false:=rfl;have f100:(hasS 17).contains 100=false:=rfl;have f115:(hasS 17).contains 115=false:=rfl;have f114:(hasS 17).contains 114=false:=rfl;have f110:(hasS 17).contains 110=false:=rfl;have f116:(hasS 17).contains 116=false:=rfl;have f105:(hasS 17).contains 105=false:=rfl;have f120:(hasS 17).contains 120=false:=rfl;have wl:IntKind.i64.wrap (((slL b.Code).length:Int)-1)=((slL b.Code).length:Int)-1:=z7n (by omega) (by omega);apply z0r
 (repeat (first | simp -dsimp -implicitDefEqProofs (disch:=omega) only [↓rP,rA,↓reduceIte,reduceEqDiff,reduceAdd,reduceLeDiff,↓tyr,ixI hb,ixI hx] | refine Cut.go ?_))
 have e2:(h.push (.row 52 b.cells)).next=h.next+1:=rfl;have o1:((h.push (.row 52 b.cells)).push (.row 49 x.cells)).objs h.next=some (.row 52 b.cells):=by simp
 have o2:((h.push (.row 52 b.cells)).push (.row 49 x.cells)).objs (h.next+1)=some (.row 49 x.cells):=by simp
 have nx:((h.push (.row 52 b.cells)).push (.row 49 x.cells)).next=h.next+2:=rfl;have kH:Keeps h ((h.push (.row 52 b.cells)).push (.row 49 x.cells)) (λ_=>False):=(Keeps.one _ _).go (Keeps.one _ _);rw [e2];generalize ((h.push (.row 52 b.cells)).push (.row 49 x.cells))=H at *;simp only [hop];obtain ⟨l1,l2,g0,g1,std,dd0,dd1,dd3,sts,ss0,ss1,ss4,stds,ds0,ds1,ds3,ds4,px,pd,qx,kDSp,kSp,kG,kD,kS,kDS⟩:=z3m o1 o2 nx kH;refine z01.go (z1k 17 _) ?_
 repeat' (first | (simp -dsimp -implicitDefEqProofs only [↓rP,rB,↓reduceIte,reduceEqDiff,reduceAdd,reduceLeDiff,↓tyr,Int.reduceBEq,Int.reduceBNe,Int.reduceLT,Int.reduceLE,decide_true,decide_false,f100,f115,f114,f110,f116,f105,f120,nq,hop,↓l1,↓l2,wl,ixI hb,ixI hx,↓g0,↓g1,↓std,↓dd0,↓dd1,↓dd3,↓sts,↓ss0,↓ss1,↓ss4,↓stds,↓ds0,↓ds1,↓ds3,↓ds4,↓px,↓pd,↓qx]) | with_reducible refine Cut.go ?_ | with_reducible refine z01.go (z5j _ hl _) ?_ | with_reducible refine z01.go (z5n _ hl _) ?_ | with_reducible refine z01.go (z5m _ hl _) ?_ | with_reducible refine z01.go (z5l _ hl _) ?_ | with_reducible refine z01.go (z5o _ hl _) ?_ | with_reducible refine z01.go (z5k _ hl _) ?_ | with_reducible refine z01.go (z5p _ hl _) ?_ | with_reducible refine z01.go (z1e _ _ _) ?_ | with_reducible refine z01.go (z1n c hs _ _ _) ?_ | with_reducible refine z01.go (z0q _ hn _ hit hitl _) ?_ | with_reducible refine z01.go (z0q _ hn _ hix hixl _) ?_ | with_reducible refine z7y (by assumption) ?_ | unfold z0g | unfold z0h | unfold z0i | unfold z0j | unfold z0k | (with_reducible refine Split.intro (λhq=>?_) (λhq=>?_) <;> (try simp only [Bool.not_eq_true',Bool.not_eq_false'] at hq) <;> (try rw [hq])))
 all_goals clear l1 l2 g0 g1 std dd0 dd1 dd3 sts ss0 ss1 ss4 stds ds0 ds1 ds3 ds4 px pd qx o1 o2
 all_goals refine And.intro (congrArg AV.bool ?_) (by first | exact kH | exact kG | exact kD _ | exact kS _ | exact kDS _ _ | exact kDSp _ _ _ | exact kSp _ _)
 all_goals clear kH kG kD kS kDS kDSp kSp nx wl nq hl f100 f115 f114 f110 f116 f105 f120 e2 hb hx hcl hixl hitl hix hit hn hs hc
 all_goals have kd:=kind x.Dst
 all_goals have ks:=kind x.Src
 all_goals clear kind
 all_goals clear hsl
 all_goals simp_all [z2q,z1a,z3c,z2m,z3o,z11,z7h,z2f,z8q,z9n,z5q,z5c,List.length_pos_iff,z1p,z5b,z3n]
 all_goals try omega
 all_goals try (rw [Bool.eq_iff_iff];simp_all [beqI];try omega)
 all_goals try (split <;> simp_all)
 all_goals try omega
end
section
open Go.Abs
theorem ri_2 (c:Cd) (hc:c.ok) (hs:(slL c.Sections).length<=1000000) (t a:Int) (b:Bd) (x:In) (hb:getI (slL c.Threads) t=some b) (hx:getI (slL b.Code) a=some x) (hsl:∀ l∈slL b.Slots,z18 c l=true)
  (hn:okI (slL b.Slots).length) (hit:okSl z0e.ok x.Items) (hix:okSl z0e.ok x.Index) (hitl:(slL x.Items).length<=1000000) (hixl:(slL x.Index).length<=1000000) (hcl:(slL b.Code).length<=1000000) (hop:x.Op=2) (h:z00) :
  z01 Tryd.prog 13 [.agg c.cells,.int .i64 t,.int .i64 a] h (λv h2=>v=.bool (z1a c t b x a&&(decide (x.Op=17) == decide (a=(slL b.Code).length-1)))/\Keeps h h2 (λ_=>False)):=by
 have kind:∀ n:Int,btw n (slL b.Slots).length=true->((gD b.Slots n).Kind=1\/(gD b.Slots n).Kind=3)->(gD b.Slots n).Rec=0:=λn hq hk=>by
  have:=hsl _ (z2v (z1p hq));unfold z18 at this;rw [if_neg (by omega)] at this;simp only [Bool.and_eq_true,decide_eq_true_eq] at this;exact this.2
 have hl:=z3j 2;have nq:(hasS 2 == [63])=false:=rfl;have f100:(hasS 2).contains 100=true:=rfl;have f115:(hasS 2).contains 115=false:=rfl;have f114:(hasS 2).contains 114=false:=rfl;have f110:(hasS 2).contains 110=true:=rfl;have f116:(hasS 2).contains 116=false:=rfl;have f105:(hasS 2).contains 105=false:=rfl;have f120:(hasS 2).contains 120=false:=rfl;have wl:IntKind.i64.wrap (((slL b.Code).length:Int)-1)=((slL b.Code).length:Int)-1:=z7n (by omega) (by omega);apply z0r
 (repeat (first | simp -dsimp -implicitDefEqProofs (disch:=omega) only [↓rP,rA,↓reduceIte,reduceEqDiff,reduceAdd,reduceLeDiff,↓tyr,ixI hb,ixI hx] | refine Cut.go ?_))
 have e2:(h.push (.row 52 b.cells)).next=h.next+1:=rfl;have o1:((h.push (.row 52 b.cells)).push (.row 49 x.cells)).objs h.next=some (.row 52 b.cells):=by simp
 have o2:((h.push (.row 52 b.cells)).push (.row 49 x.cells)).objs (h.next+1)=some (.row 49 x.cells):=by simp
 have nx:((h.push (.row 52 b.cells)).push (.row 49 x.cells)).next=h.next+2:=rfl;have kH:Keeps h ((h.push (.row 52 b.cells)).push (.row 49 x.cells)) (λ_=>False):=(Keeps.one _ _).go (Keeps.one _ _);rw [e2];generalize ((h.push (.row 52 b.cells)).push (.row 49 x.cells))=H at *;simp only [hop];obtain ⟨l1,l2,g0,g1,std,dd0,dd1,dd3,sts,ss0,ss1,ss4,stds,ds0,ds1,ds3,ds4,px,pd,qx,kDSp,kSp,kG,kD,kS,kDS⟩:=z3m o1 o2 nx kH;refine z01.go (z1k 2 _) ?_
 repeat' (first | (simp -dsimp -implicitDefEqProofs only [↓rP,rB,↓reduceIte,reduceEqDiff,reduceAdd,reduceLeDiff,↓tyr,Int.reduceBEq,Int.reduceBNe,Int.reduceLT,Int.reduceLE,decide_true,decide_false,f100,f115,f114,f110,f116,f105,f120,nq,hop,↓l1,↓l2,wl,ixI hb,ixI hx,↓g0,↓g1,↓std,↓dd0,↓dd1,↓dd3,↓sts,↓ss0,↓ss1,↓ss4,↓stds,↓ds0,↓ds1,↓ds3,↓ds4,↓px,↓pd,↓qx]) | with_reducible refine Cut.go ?_ | with_reducible refine z01.go (z5j _ hl _) ?_ | with_reducible refine z01.go (z5n _ hl _) ?_ | with_reducible refine z01.go (z5m _ hl _) ?_ | with_reducible refine z01.go (z5l _ hl _) ?_ | with_reducible refine z01.go (z5o _ hl _) ?_ | with_reducible refine z01.go (z5k _ hl _) ?_ | with_reducible refine z01.go (z5p _ hl _) ?_ | with_reducible refine z01.go (z1e _ _ _) ?_ | with_reducible refine z01.go (z1n c hs _ _ _) ?_ | with_reducible refine z01.go (z0q _ hn _ hit hitl _) ?_ | with_reducible refine z01.go (z0q _ hn _ hix hixl _) ?_ | with_reducible refine z7y (by assumption) ?_ | unfold z0g | unfold z0h | unfold z0i | unfold z0j | unfold z0k | (with_reducible refine Split.intro (λhq=>?_) (λhq=>?_) <;> (try simp only [Bool.not_eq_true',Bool.not_eq_false'] at hq) <;> (try rw [hq])))
 all_goals clear l1 l2 g0 g1 std dd0 dd1 dd3 sts ss0 ss1 ss4 stds ds0 ds1 ds3 ds4 px pd qx o1 o2
 all_goals refine And.intro (congrArg AV.bool ?_) (by first | exact kH | exact kG | exact kD _ | exact kS _ | exact kDS _ _ | exact kDSp _ _ _ | exact kSp _ _)
 all_goals clear kH kG kD kS kDS kDSp kSp nx wl nq hl f100 f115 f114 f110 f116 f105 f120 e2 hb hx hcl hixl hitl hix hit hn hs hc
 all_goals have kd:=kind x.Dst
 all_goals have ks:=kind x.Src
 all_goals clear kind
 all_goals clear hsl
 all_goals simp_all [z2q,z1a,z3c,z2m,z3o,z11,z7h,z2f,z8q,z9n,z5q,z5c,List.length_pos_iff,z1p,z5b,z3n]
 all_goals try omega
 all_goals try (rw [Bool.eq_iff_iff];simp_all [beqI];try omega)
 all_goals try (split <;> simp_all)
 all_goals try omega
theorem ri_4 (c:Cd) (hc:c.ok) (hs:(slL c.Sections).length<=1000000) (t a:Int) (b:Bd) (x:In) (hb:getI (slL c.Threads) t=some b) (hx:getI (slL b.Code) a=some x) (hsl:∀ l∈slL b.Slots,z18 c l=true)
  (hn:okI (slL b.Slots).length) (hit:okSl z0e.ok x.Items) (hix:okSl z0e.ok x.Index) (hitl:(slL x.Items).length<=1000000) (hixl:(slL x.Index).length<=1000000) (hcl:(slL b.Code).length<=1000000) (hop:x.Op=4) (h:z00) :
  z01 Tryd.prog 13 [.agg c.cells,.int .i64 t,.int .i64 a] h (λv h2=>v=.bool (z1a c t b x a&&(decide (x.Op=17) == decide (a=(slL b.Code).length-1)))/\Keeps h h2 (λ_=>False)):=by
 have kind:∀ n:Int,btw n (slL b.Slots).length=true->((gD b.Slots n).Kind=1\/(gD b.Slots n).Kind=3)->(gD b.Slots n).Rec=0:=λn hq hk=>by
  have:=hsl _ (z2v (z1p hq));unfold z18 at this;rw [if_neg (by omega)] at this;simp only [Bool.and_eq_true,decide_eq_true_eq] at this;exact this.2
 have hl:=z3j 4;have nq:(hasS 4 == [63])=false:=rfl;have f100:(hasS 4).contains 100=true:=rfl;have f115:(hasS 4).contains 115=true:=rfl;have f114:(hasS 4).contains 114=false:=rfl;have f110:(hasS 4).contains 110=false:=rfl;have f116:(hasS 4).contains 116=false:=rfl;have f105:(hasS 4).contains 105=false:=rfl;have f120:(hasS 4).contains 120=true:=rfl;have wl:IntKind.i64.wrap (((slL b.Code).length:Int)-1)=((slL b.Code).length:Int)-1:=z7n (by omega) (by omega);apply z0r
 (repeat (first | simp -dsimp -implicitDefEqProofs (disch:=omega) only [↓rP,rA,↓reduceIte,reduceEqDiff,reduceAdd,reduceLeDiff,↓tyr,ixI hb,ixI hx] | refine Cut.go ?_))
 have e2:(h.push (.row 52 b.cells)).next=h.next+1:=rfl;have o1:((h.push (.row 52 b.cells)).push (.row 49 x.cells)).objs h.next=some (.row 52 b.cells):=by simp
 have o2:((h.push (.row 52 b.cells)).push (.row 49 x.cells)).objs (h.next+1)=some (.row 49 x.cells):=by simp
 have nx:((h.push (.row 52 b.cells)).push (.row 49 x.cells)).next=h.next+2:=rfl;have kH:Keeps h ((h.push (.row 52 b.cells)).push (.row 49 x.cells)) (λ_=>False):=(Keeps.one _ _).go (Keeps.one _ _);rw [e2];generalize ((h.push (.row 52 b.cells)).push (.row 49 x.cells))=H at *;simp only [hop];obtain ⟨l1,l2,g0,g1,std,dd0,dd1,dd3,sts,ss0,ss1,ss4,stds,ds0,ds1,ds3,ds4,px,pd,qx,kDSp,kSp,kG,kD,kS,kDS⟩:=z3m o1 o2 nx kH;refine z01.go (z1k 4 _) ?_
 repeat' (first | (simp -dsimp -implicitDefEqProofs only [↓rP,rB,↓reduceIte,reduceEqDiff,reduceAdd,reduceLeDiff,↓tyr,Int.reduceBEq,Int.reduceBNe,Int.reduceLT,Int.reduceLE,decide_true,decide_false,f100,f115,f114,f110,f116,f105,f120,nq,hop,↓l1,↓l2,wl,ixI hb,ixI hx,↓g0,↓g1,↓std,↓dd0,↓dd1,↓dd3,↓sts,↓ss0,↓ss1,↓ss4,↓stds,↓ds0,↓ds1,↓ds3,↓ds4,↓px,↓pd,↓qx]) | with_reducible refine Cut.go ?_ | with_reducible refine z01.go (z5j _ hl _) ?_ | with_reducible refine z01.go (z5n _ hl _) ?_ | with_reducible refine z01.go (z5m _ hl _) ?_ | with_reducible refine z01.go (z5l _ hl _) ?_ | with_reducible refine z01.go (z5o _ hl _) ?_ | with_reducible refine z01.go (z5k _ hl _) ?_ | with_reducible refine z01.go (z5p _ hl _) ?_ | with_reducible refine z01.go (z1e _ _ _) ?_ | with_reducible refine z01.go (z1n c hs _ _ _) ?_ | with_reducible refine z01.go (z0q _ hn _ hit hitl _) ?_ | with_reducible refine z01.go (z0q _ hn _ hix hixl _) ?_ | with_reducible refine z7y (by assumption) ?_ | unfold z0g | unfold z0h | unfold z0i | unfold z0j | unfold z0k | (with_reducible refine Split.intro (λhq=>?_) (λhq=>?_) <;> (try simp only [Bool.not_eq_true',Bool.not_eq_false'] at hq) <;> (try rw [hq])))
 all_goals clear l1 l2 g0 g1 std dd0 dd1 dd3 sts ss0 ss1 ss4 stds ds0 ds1 ds3 ds4 px pd qx o1 o2
 all_goals refine And.intro (congrArg AV.bool ?_) (by first | exact kH | exact kG | exact kD _ | exact kS _ | exact kDS _ _ | exact kDSp _ _ _ | exact kSp _ _)
 all_goals clear kH kG kD kS kDS kDSp kSp nx wl nq hl f100 f115 f114 f110 f116 f105 f120 e2 hb hx hcl hixl hitl hix hit hn hs hc
 all_goals have kd:=kind x.Dst
 all_goals have ks:=kind x.Src
 all_goals clear kind
 all_goals clear hsl
 all_goals simp_all [z2q,z1a,z3c,z2m,z3o,z11,z7h,z2f,z8q,z9n,z5q,z5c,List.length_pos_iff,z1p,z5b,z3n]
 all_goals try omega
 all_goals try (rw [Bool.eq_iff_iff];simp_all [beqI];try omega)
 all_goals try (split <;> simp_all)
 all_goals try omega
theorem ri_5 (c:Cd) (hc:c.ok) (hs:(slL c.Sections).length<=1000000) (t a:Int) (b:Bd) (x:In) (hb:getI (slL c.Threads) t=some b) (hx:getI (slL b.Code) a=some x) (hsl:∀ l∈slL b.Slots,z18 c l=true)
  (hn:okI (slL b.Slots).length) (hit:okSl z0e.ok x.Items) (hix:okSl z0e.ok x.Index) (hitl:(slL x.Items).length<=1000000) (hixl:(slL x.Index).length<=1000000) (hcl:(slL b.Code).length<=1000000) (hop:x.Op=5) (h:z00) :
  z01 Tryd.prog 13 [.agg c.cells,.int .i64 t,.int .i64 a] h (λv h2=>v=.bool (z1a c t b x a&&(decide (x.Op=17) == decide (a=(slL b.Code).length-1)))/\Keeps h h2 (λ_=>False)):=by
 have kind:∀ n:Int,btw n (slL b.Slots).length=true->((gD b.Slots n).Kind=1\/(gD b.Slots n).Kind=3)->(gD b.Slots n).Rec=0:=λn hq hk=>by
  have:=hsl _ (z2v (z1p hq));unfold z18 at this;rw [if_neg (by omega)] at this;simp only [Bool.and_eq_true,decide_eq_true_eq] at this;exact this.2
 have hl:=z3j 5;have nq:(hasS 5 == [63])=false:=rfl;have f100:(hasS 5).contains 100=false:=rfl;have f115:(hasS 5).contains 115=false:=rfl;have f114:(hasS 5).contains 114=false:=rfl;have f110:(hasS 5).contains 110=true:=rfl;have f116:(hasS 5).contains 116=false:=rfl;have f105:(hasS 5).contains 105=true:=rfl;have f120:(hasS 5).contains 120=false:=rfl;have wl:IntKind.i64.wrap (((slL b.Code).length:Int)-1)=((slL b.Code).length:Int)-1:=z7n (by omega) (by omega);apply z0r
 (repeat (first | simp -dsimp -implicitDefEqProofs (disch:=omega) only [↓rP,rA,↓reduceIte,reduceEqDiff,reduceAdd,reduceLeDiff,↓tyr,ixI hb,ixI hx] | refine Cut.go ?_))
 have e2:(h.push (.row 52 b.cells)).next=h.next+1:=rfl;have o1:((h.push (.row 52 b.cells)).push (.row 49 x.cells)).objs h.next=some (.row 52 b.cells):=by simp
 have o2:((h.push (.row 52 b.cells)).push (.row 49 x.cells)).objs (h.next+1)=some (.row 49 x.cells):=by simp
 have nx:((h.push (.row 52 b.cells)).push (.row 49 x.cells)).next=h.next+2:=rfl;have kH:Keeps h ((h.push (.row 52 b.cells)).push (.row 49 x.cells)) (λ_=>False):=(Keeps.one _ _).go (Keeps.one _ _);rw [e2];generalize ((h.push (.row 52 b.cells)).push (.row 49 x.cells))=H at *;simp only [hop];obtain ⟨l1,l2,g0,g1,std,dd0,dd1,dd3,sts,ss0,ss1,ss4,stds,ds0,ds1,ds3,ds4,px,pd,qx,kDSp,kSp,kG,kD,kS,kDS⟩:=z3m o1 o2 nx kH;refine z01.go (z1k 5 _) ?_
 repeat' (first | (simp -dsimp -implicitDefEqProofs only [↓rP,rB,↓reduceIte,reduceEqDiff,reduceAdd,reduceLeDiff,↓tyr,Int.reduceBEq,Int.reduceBNe,Int.reduceLT,Int.reduceLE,decide_true,decide_false,f100,f115,f114,f110,f116,f105,f120,nq,hop,↓l1,↓l2,wl,ixI hb,ixI hx,↓g0,↓g1,↓std,↓dd0,↓dd1,↓dd3,↓sts,↓ss0,↓ss1,↓ss4,↓stds,↓ds0,↓ds1,↓ds3,↓ds4,↓px,↓pd,↓qx]) | with_reducible refine Cut.go ?_ | with_reducible refine z01.go (z5j _ hl _) ?_ | with_reducible refine z01.go (z5n _ hl _) ?_ | with_reducible refine z01.go (z5m _ hl _) ?_ | with_reducible refine z01.go (z5l _ hl _) ?_ | with_reducible refine z01.go (z5o _ hl _) ?_ | with_reducible refine z01.go (z5k _ hl _) ?_ | with_reducible refine z01.go (z5p _ hl _) ?_ | with_reducible refine z01.go (z1e _ _ _) ?_ | with_reducible refine z01.go (z1n c hs _ _ _) ?_ | with_reducible refine z01.go (z0q _ hn _ hit hitl _) ?_ | with_reducible refine z01.go (z0q _ hn _ hix hixl _) ?_ | with_reducible refine z7y (by assumption) ?_ | unfold z0g | unfold z0h | unfold z0i | unfold z0j | unfold z0k | (with_reducible refine Split.intro (λhq=>?_) (λhq=>?_) <;> (try simp only [Bool.not_eq_true',Bool.not_eq_false'] at hq) <;> (try rw [hq])))
 all_goals clear l1 l2 g0 g1 std dd0 dd1 dd3 sts ss0 ss1 ss4 stds ds0 ds1 ds3 ds4 px pd qx o1 o2
 all_goals refine And.intro (congrArg AV.bool ?_) (by first | exact kH | exact kG | exact kD _ | exact kS _ | exact kDS _ _ | exact kDSp _ _ _ | exact kSp _ _)
 all_goals clear kH kG kD kS kDS kDSp kSp nx wl nq hl f100 f115 f114 f110 f116 f105 f120 e2 hb hx hcl hixl hitl hix hit hn hs hc
 all_goals have kd:=kind x.Dst
 all_goals have ks:=kind x.Src
 all_goals clear kind
 all_goals clear hsl
 all_goals simp_all [z2q,z1a,z3c,z2m,z3o,z11,z7h,z2f,z8q,z9n,z5q,z5c,List.length_pos_iff,z1p,z5b,z3n]
 all_goals try omega
 all_goals try (rw [Bool.eq_iff_iff];simp_all [beqI];try omega)
 all_goals try (split <;> simp_all)
 all_goals try omega
theorem ri_7 (c:Cd) (hc:c.ok) (hs:(slL c.Sections).length<=1000000) (t a:Int) (b:Bd) (x:In) (hb:getI (slL c.Threads) t=some b) (hx:getI (slL b.Code) a=some x) (hsl:∀ l∈slL b.Slots,z18 c l=true)
  (hn:okI (slL b.Slots).length) (hit:okSl z0e.ok x.Items) (hix:okSl z0e.ok x.Index) (hitl:(slL x.Items).length<=1000000) (hixl:(slL x.Index).length<=1000000) (hcl:(slL b.Code).length<=1000000) (hop:x.Op=7) (h:z00) :
  z01 Tryd.prog 13 [.agg c.cells,.int .i64 t,.int .i64 a] h (λv h2=>v=.bool (z1a c t b x a&&(decide (x.Op=17) == decide (a=(slL b.Code).length-1)))/\Keeps h h2 (λ_=>False)):=by
 have kind:∀ n:Int,btw n (slL b.Slots).length=true->((gD b.Slots n).Kind=1\/(gD b.Slots n).Kind=3)->(gD b.Slots n).Rec=0:=λn hq hk=>by
  have:=hsl _ (z2v (z1p hq));unfold z18 at this;rw [if_neg (by omega)] at this;simp only [Bool.and_eq_true,decide_eq_true_eq] at this;exact this.2
 have hl:=z3j 7;have nq:(hasS 7 == [63])=false:=rfl;have f100:(hasS 7).contains 100=false:=rfl;have f115:(hasS 7).contains 115=true:=rfl;have f114:(hasS 7).contains 114=false:=rfl;have f110:(hasS 7).contains 110=false:=rfl;have f116:(hasS 7).contains 116=false:=rfl;have f105:(hasS 7).contains 105=true:=rfl;have f120:(hasS 7).contains 120=true:=rfl;have wl:IntKind.i64.wrap (((slL b.Code).length:Int)-1)=((slL b.Code).length:Int)-1:=z7n (by omega) (by omega);apply z0r
 (repeat (first | simp -dsimp -implicitDefEqProofs (disch:=omega) only [↓rP,rA,↓reduceIte,reduceEqDiff,reduceAdd,reduceLeDiff,↓tyr,ixI hb,ixI hx] | refine Cut.go ?_))
 have e2:(h.push (.row 52 b.cells)).next=h.next+1:=rfl;have o1:((h.push (.row 52 b.cells)).push (.row 49 x.cells)).objs h.next=some (.row 52 b.cells):=by simp
 have o2:((h.push (.row 52 b.cells)).push (.row 49 x.cells)).objs (h.next+1)=some (.row 49 x.cells):=by simp
 have nx:((h.push (.row 52 b.cells)).push (.row 49 x.cells)).next=h.next+2:=rfl;have kH:Keeps h ((h.push (.row 52 b.cells)).push (.row 49 x.cells)) (λ_=>False):=(Keeps.one _ _).go (Keeps.one _ _);rw [e2];generalize ((h.push (.row 52 b.cells)).push (.row 49 x.cells))=H at *;simp only [hop];obtain ⟨l1,l2,g0,g1,std,dd0,dd1,dd3,sts,ss0,ss1,ss4,stds,ds0,ds1,ds3,ds4,px,pd,qx,kDSp,kSp,kG,kD,kS,kDS⟩:=z3m o1 o2 nx kH;refine z01.go (z1k 7 _) ?_
 repeat' (first | (simp -dsimp -implicitDefEqProofs only [↓rP,rB,↓reduceIte,reduceEqDiff,reduceAdd,reduceLeDiff,↓tyr,Int.reduceBEq,Int.reduceBNe,Int.reduceLT,Int.reduceLE,decide_true,decide_false,f100,f115,f114,f110,f116,f105,f120,nq,hop,↓l1,↓l2,wl,ixI hb,ixI hx,↓g0,↓g1,↓std,↓dd0,↓dd1,↓dd3,↓sts,↓ss0,↓ss1,↓ss4,↓stds,↓ds0,↓ds1,↓ds3,↓ds4,↓px,↓pd,↓qx]) | with_reducible refine Cut.go ?_ | with_reducible refine z01.go (z5j _ hl _) ?_ | with_reducible refine z01.go (z5n _ hl _) ?_ | with_reducible refine z01.go (z5m _ hl _) ?_ | with_reducible refine z01.go (z5l _ hl _) ?_ | with_reducible refine z01.go (z5o _ hl _) ?_ | with_reducible refine z01.go (z5k _ hl _) ?_ | with_reducible refine z01.go (z5p _ hl _) ?_ | with_reducible refine z01.go (z1e _ _ _) ?_ | with_reducible refine z01.go (z1n c hs _ _ _) ?_ | with_reducible refine z01.go (z0q _ hn _ hit hitl _) ?_ | with_reducible refine z01.go (z0q _ hn _ hix hixl _) ?_ | with_reducible refine z7y (by assumption) ?_ | unfold z0g | unfold z0h | unfold z0i | unfold z0j | unfold z0k | (with_reducible refine Split.intro (λhq=>?_) (λhq=>?_) <;> (try simp only [Bool.not_eq_true',Bool.not_eq_false'] at hq) <;> (try rw [hq])))
 all_goals clear l1 l2 g0 g1 std dd0 dd1 dd3 sts ss0 ss1 ss4 stds ds0 ds1 ds3 ds4 px pd qx o1 o2
 all_goals refine And.intro (congrArg AV.bool ?_) (by first | exact kH | exact kG | exact kD _ | exact kS _ | exact kDS _ _ | exact kDSp _ _ _ | exact kSp _ _)
 all_goals clear kH kG kD kS kDS kDSp kSp nx wl nq hl f100 f115 f114 f110 f116 f105 f120 e2 hb hx hcl hixl hitl hix hit hn hs hc
 all_goals have kd:=kind x.Dst
 all_goals have ks:=kind x.Src
 all_goals clear kind
 all_goals clear hsl
 all_goals simp_all [z2q,z1a,z3c,z2m,z3o,z11,z7h,z2f,z8q,z9n,z5q,z5c,List.length_pos_iff,z1p,z5b,z3n]
 all_goals try omega
 all_goals try (rw [Bool.eq_iff_iff];simp_all [beqI];try omega)
 all_goals try (split <;> simp_all)
 all_goals try omega
theorem ri_10 (c:Cd) (hc:c.ok) (hs:(slL c.Sections).length<=1000000) (t a:Int) (b:Bd) (x:In) (hb:getI (slL c.Threads) t=some b) (hx:getI (slL b.Code) a=some x) (hsl:∀ l∈slL b.Slots,z18 c l=true)
  (hn:okI (slL b.Slots).length) (hit:okSl z0e.ok x.Items) (hix:okSl z0e.ok x.Index) (hitl:(slL x.Items).length<=1000000) (hixl:(slL x.Index).length<=1000000) (hcl:(slL b.Code).length<=1000000) (hop:x.Op=10) (h:z00) :
  z01 Tryd.prog 13 [.agg c.cells,.int .i64 t,.int .i64 a] h (λv h2=>v=.bool (z1a c t b x a&&(decide (x.Op=17) == decide (a=(slL b.Code).length-1)))/\Keeps h h2 (λ_=>False)):=by
 have kind:∀ n:Int,btw n (slL b.Slots).length=true->((gD b.Slots n).Kind=1\/(gD b.Slots n).Kind=3)->(gD b.Slots n).Rec=0:=λn hq hk=>by
  have:=hsl _ (z2v (z1p hq));unfold z18 at this;rw [if_neg (by omega)] at this;simp only [Bool.and_eq_true,decide_eq_true_eq] at this;exact this.2
 have hl:=z3j 10;have nq:(hasS 10 == [63])=false:=rfl;have f100:(hasS 10).contains 100=true:=rfl;have f115:(hasS 10).contains 115=true:=rfl;have f114:(hasS 10).contains 114=false:=rfl;have f110:(hasS 10).contains 110=false:=rfl;have f116:(hasS 10).contains 116=false:=rfl;have f105:(hasS 10).contains 105=false:=rfl;have f120:(hasS 10).contains 120=false:=rfl;have wl:IntKind.i64.wrap (((slL b.Code).length:Int)-1)=((slL b.Code).length:Int)-1:=z7n (by omega) (by omega);apply z0r
 (repeat (first | simp -dsimp -implicitDefEqProofs (disch:=omega) only [↓rP,rA,↓reduceIte,reduceEqDiff,reduceAdd,reduceLeDiff,↓tyr,ixI hb,ixI hx] | refine Cut.go ?_))
 have e2:(h.push (.row 52 b.cells)).next=h.next+1:=rfl;have o1:((h.push (.row 52 b.cells)).push (.row 49 x.cells)).objs h.next=some (.row 52 b.cells):=by simp
 have o2:((h.push (.row 52 b.cells)).push (.row 49 x.cells)).objs (h.next+1)=some (.row 49 x.cells):=by simp
 have nx:((h.push (.row 52 b.cells)).push (.row 49 x.cells)).next=h.next+2:=rfl;have kH:Keeps h ((h.push (.row 52 b.cells)).push (.row 49 x.cells)) (λ_=>False):=(Keeps.one _ _).go (Keeps.one _ _);rw [e2];generalize ((h.push (.row 52 b.cells)).push (.row 49 x.cells))=H at *;simp only [hop];obtain ⟨l1,l2,g0,g1,std,dd0,dd1,dd3,sts,ss0,ss1,ss4,stds,ds0,ds1,ds3,ds4,px,pd,qx,kDSp,kSp,kG,kD,kS,kDS⟩:=z3m o1 o2 nx kH;refine z01.go (z1k 10 _) ?_
 repeat' (first | (simp -dsimp -implicitDefEqProofs only [↓rP,rB,↓reduceIte,reduceEqDiff,reduceAdd,reduceLeDiff,↓tyr,Int.reduceBEq,Int.reduceBNe,Int.reduceLT,Int.reduceLE,decide_true,decide_false,f100,f115,f114,f110,f116,f105,f120,nq,hop,↓l1,↓l2,wl,ixI hb,ixI hx,↓g0,↓g1,↓std,↓dd0,↓dd1,↓dd3,↓sts,↓ss0,↓ss1,↓ss4,↓stds,↓ds0,↓ds1,↓ds3,↓ds4,↓px,↓pd,↓qx]) | with_reducible refine Cut.go ?_ | with_reducible refine z01.go (z5j _ hl _) ?_ | with_reducible refine z01.go (z5n _ hl _) ?_ | with_reducible refine z01.go (z5m _ hl _) ?_ | with_reducible refine z01.go (z5l _ hl _) ?_ | with_reducible refine z01.go (z5o _ hl _) ?_ | with_reducible refine z01.go (z5k _ hl _) ?_ | with_reducible refine z01.go (z5p _ hl _) ?_ | with_reducible refine z01.go (z1e _ _ _) ?_ | with_reducible refine z01.go (z1n c hs _ _ _) ?_ | with_reducible refine z01.go (z0q _ hn _ hit hitl _) ?_ | with_reducible refine z01.go (z0q _ hn _ hix hixl _) ?_ | with_reducible refine z7y (by assumption) ?_ | unfold z0g | unfold z0h | unfold z0i | unfold z0j | unfold z0k | (with_reducible refine Split.intro (λhq=>?_) (λhq=>?_) <;> (try simp only [Bool.not_eq_true',Bool.not_eq_false'] at hq) <;> (try rw [hq])))
 all_goals clear l1 l2 g0 g1 std dd0 dd1 dd3 sts ss0 ss1 ss4 stds ds0 ds1 ds3 ds4 px pd qx o1 o2
 all_goals refine And.intro (congrArg AV.bool ?_) (by first | exact kH | exact kG | exact kD _ | exact kS _ | exact kDS _ _ | exact kDSp _ _ _ | exact kSp _ _)
 all_goals clear kH kG kD kS kDS kDSp kSp nx wl nq hl f100 f115 f114 f110 f116 f105 f120 e2 hb hx hcl hixl hitl hix hit hn hs hc
 all_goals have kd:=kind x.Dst
 all_goals have ks:=kind x.Src
 all_goals clear kind
 all_goals clear hsl
 all_goals simp_all [z2q,z1a,z3c,z2m,z3o,z11,z7h,z2f,z8q,z9n,z5q,z5c,List.length_pos_iff,z1p,z5b,z3n]
 all_goals try omega
 all_goals try (rw [Bool.eq_iff_iff];simp_all [beqI];try omega)
 all_goals try (split <;> simp_all)
 all_goals try omega
end
section
open Go.Abs
theorem ri_3 (c:Cd) (hc:c.ok) (hs:(slL c.Sections).length<=1000000) (t a:Int) (b:Bd) (x:In) (hb:getI (slL c.Threads) t=some b) (hx:getI (slL b.Code) a=some x) (hsl:∀ l∈slL b.Slots,z18 c l=true)
  (hn:okI (slL b.Slots).length) (hit:okSl z0e.ok x.Items) (hix:okSl z0e.ok x.Index) (hitl:(slL x.Items).length<=1000000) (hixl:(slL x.Index).length<=1000000) (hcl:(slL b.Code).length<=1000000) (hop:x.Op=3) (h:z00) :
  z01 Tryd.prog 13 [.agg c.cells,.int .i64 t,.int .i64 a] h (λv h2=>v=.bool (z1a c t b x a&&(decide (x.Op=17) == decide (a=(slL b.Code).length-1)))/\Keeps h h2 (λ_=>False)):=by
 have kind:∀ n:Int,btw n (slL b.Slots).length=true->((gD b.Slots n).Kind=1\/(gD b.Slots n).Kind=3)->(gD b.Slots n).Rec=0:=λn hq hk=>by
  have:=hsl _ (z2v (z1p hq));unfold z18 at this;rw [if_neg (by omega)] at this;simp only [Bool.and_eq_true,decide_eq_true_eq] at this;exact this.2
 have hl:=z3j 3;have nq:(hasS 3 == [63])=false:=rfl;have f100:(hasS 3).contains 100=true:=rfl;have f115:(hasS 3).contains 115=true:=rfl;have f114:(hasS 3).contains 114=true:=rfl;have f110:(hasS 3).contains 110=true:=rfl;have f116:(hasS 3).contains 116=false:=rfl;have f105:(hasS 3).contains 105=false:=rfl;have f120:(hasS 3).contains 120=false:=rfl;have wl:IntKind.i64.wrap (((slL b.Code).length:Int)-1)=((slL b.Code).length:Int)-1:=z7n (by omega) (by omega);apply z0r
 (repeat (first | simp -dsimp -implicitDefEqProofs (disch:=omega) only [↓rP,rA,↓reduceIte,reduceEqDiff,reduceAdd,reduceLeDiff,↓tyr,ixI hb,ixI hx] | refine Cut.go ?_))
 have e2:(h.push (.row 52 b.cells)).next=h.next+1:=rfl;have o1:((h.push (.row 52 b.cells)).push (.row 49 x.cells)).objs h.next=some (.row 52 b.cells):=by simp
 have o2:((h.push (.row 52 b.cells)).push (.row 49 x.cells)).objs (h.next+1)=some (.row 49 x.cells):=by simp
 have nx:((h.push (.row 52 b.cells)).push (.row 49 x.cells)).next=h.next+2:=rfl;have kH:Keeps h ((h.push (.row 52 b.cells)).push (.row 49 x.cells)) (λ_=>False):=(Keeps.one _ _).go (Keeps.one _ _);rw [e2];generalize ((h.push (.row 52 b.cells)).push (.row 49 x.cells))=H at *;simp only [hop];obtain ⟨l1,l2,g0,g1,std,dd0,dd1,dd3,sts,ss0,ss1,ss4,stds,ds0,ds1,ds3,ds4,px,pd,qx,kDSp,kSp,kG,kD,kS,kDS⟩:=z3m o1 o2 nx kH;refine z01.go (z1k 3 _) ?_
 repeat' (first | (simp -dsimp -implicitDefEqProofs only [↓rP,rB,↓reduceIte,reduceEqDiff,reduceAdd,reduceLeDiff,↓tyr,Int.reduceBEq,Int.reduceBNe,Int.reduceLT,Int.reduceLE,decide_true,decide_false,f100,f115,f114,f110,f116,f105,f120,nq,hop,↓l1,↓l2,wl,ixI hb,ixI hx,↓g0,↓g1,↓std,↓dd0,↓dd1,↓dd3,↓sts,↓ss0,↓ss1,↓ss4,↓stds,↓ds0,↓ds1,↓ds3,↓ds4,↓px,↓pd,↓qx]) | with_reducible refine Cut.go ?_ | with_reducible refine z01.go (z5j _ hl _) ?_ | with_reducible refine z01.go (z5n _ hl _) ?_ | with_reducible refine z01.go (z5m _ hl _) ?_ | with_reducible refine z01.go (z5l _ hl _) ?_ | with_reducible refine z01.go (z5o _ hl _) ?_ | with_reducible refine z01.go (z5k _ hl _) ?_ | with_reducible refine z01.go (z5p _ hl _) ?_ | with_reducible refine z01.go (z1e _ _ _) ?_ | with_reducible refine z01.go (z1n c hs _ _ _) ?_ | with_reducible refine z01.go (z0q _ hn _ hit hitl _) ?_ | with_reducible refine z01.go (z0q _ hn _ hix hixl _) ?_ | with_reducible refine z7y (by assumption) ?_ | unfold z0g | unfold z0h | unfold z0i | unfold z0j | unfold z0k | (with_reducible refine Split.intro (λhq=>?_) (λhq=>?_) <;> (try simp only [Bool.not_eq_true',Bool.not_eq_false'] at hq) <;> (try rw [hq])))
 all_goals clear l1 l2 g0 g1 std dd0 dd1 dd3 sts ss0 ss1 ss4 stds ds0 ds1 ds3 ds4 px pd qx o1 o2
 all_goals refine And.intro (congrArg AV.bool ?_) (by first | exact kH | exact kG | exact kD _ | exact kS _ | exact kDS _ _ | exact kDSp _ _ _ | exact kSp _ _)
 all_goals clear kH kG kD kS kDS kDSp kSp nx wl nq hl f100 f115 f114 f110 f116 f105 f120 e2 hb hx hcl hixl hitl hix hit hn hs hc
 all_goals have kd:=kind x.Dst
 all_goals have ks:=kind x.Src
 all_goals clear kind
 all_goals clear hsl
 all_goals simp_all [z2q,z1a,z3c,z2m,z3o,z11,z7h,z2f,z8q,z9n,z5q,z5c,List.length_pos_iff,z1p,z5b,z3n]
 all_goals try omega
 all_goals try (rw [Bool.eq_iff_iff];simp_all [beqI];try omega)
 all_goals try (split <;> simp_all)
 all_goals try omega
theorem ri_6 (c:Cd) (hc:c.ok) (hs:(slL c.Sections).length<=1000000) (t a:Int) (b:Bd) (x:In) (hb:getI (slL c.Threads) t=some b) (hx:getI (slL b.Code) a=some x) (hsl:∀ l∈slL b.Slots,z18 c l=true)
  (hn:okI (slL b.Slots).length) (hit:okSl z0e.ok x.Items) (hix:okSl z0e.ok x.Index) (hitl:(slL x.Items).length<=1000000) (hixl:(slL x.Index).length<=1000000) (hcl:(slL b.Code).length<=1000000) (hop:x.Op=6) (h:z00) :
  z01 Tryd.prog 13 [.agg c.cells,.int .i64 t,.int .i64 a] h (λv h2=>v=.bool (z1a c t b x a&&(decide (x.Op=17) == decide (a=(slL b.Code).length-1)))/\Keeps h h2 (λ_=>False)):=by
 have kind:∀ n:Int,btw n (slL b.Slots).length=true->((gD b.Slots n).Kind=1\/(gD b.Slots n).Kind=3)->(gD b.Slots n).Rec=0:=λn hq hk=>by
  have:=hsl _ (z2v (z1p hq));unfold z18 at this;rw [if_neg (by omega)] at this;simp only [Bool.and_eq_true,decide_eq_true_eq] at this;exact this.2
 have hl:=z3j 6;have nq:(hasS 6 == [63])=false:=rfl;have f100:(hasS 6).contains 100=false:=rfl;have f115:(hasS 6).contains 115=true:=rfl;have f114:(hasS 6).contains 114=true:=rfl;have f110:(hasS 6).contains 110=true:=rfl;have f116:(hasS 6).contains 116=false:=rfl;have f105:(hasS 6).contains 105=true:=rfl;have f120:(hasS 6).contains 120=false:=rfl;have wl:IntKind.i64.wrap (((slL b.Code).length:Int)-1)=((slL b.Code).length:Int)-1:=z7n (by omega) (by omega);apply z0r
 (repeat (first | simp -dsimp -implicitDefEqProofs (disch:=omega) only [↓rP,rA,↓reduceIte,reduceEqDiff,reduceAdd,reduceLeDiff,↓tyr,ixI hb,ixI hx] | refine Cut.go ?_))
 have e2:(h.push (.row 52 b.cells)).next=h.next+1:=rfl;have o1:((h.push (.row 52 b.cells)).push (.row 49 x.cells)).objs h.next=some (.row 52 b.cells):=by simp
 have o2:((h.push (.row 52 b.cells)).push (.row 49 x.cells)).objs (h.next+1)=some (.row 49 x.cells):=by simp
 have nx:((h.push (.row 52 b.cells)).push (.row 49 x.cells)).next=h.next+2:=rfl;have kH:Keeps h ((h.push (.row 52 b.cells)).push (.row 49 x.cells)) (λ_=>False):=(Keeps.one _ _).go (Keeps.one _ _);rw [e2];generalize ((h.push (.row 52 b.cells)).push (.row 49 x.cells))=H at *;simp only [hop];obtain ⟨l1,l2,g0,g1,std,dd0,dd1,dd3,sts,ss0,ss1,ss4,stds,ds0,ds1,ds3,ds4,px,pd,qx,kDSp,kSp,kG,kD,kS,kDS⟩:=z3m o1 o2 nx kH;refine z01.go (z1k 6 _) ?_
 repeat' (first | (simp -dsimp -implicitDefEqProofs only [↓rP,rB,↓reduceIte,reduceEqDiff,reduceAdd,reduceLeDiff,↓tyr,Int.reduceBEq,Int.reduceBNe,Int.reduceLT,Int.reduceLE,decide_true,decide_false,f100,f115,f114,f110,f116,f105,f120,nq,hop,↓l1,↓l2,wl,ixI hb,ixI hx,↓g0,↓g1,↓std,↓dd0,↓dd1,↓dd3,↓sts,↓ss0,↓ss1,↓ss4,↓stds,↓ds0,↓ds1,↓ds3,↓ds4,↓px,↓pd,↓qx]) | with_reducible refine Cut.go ?_ | with_reducible refine z01.go (z5j _ hl _) ?_ | with_reducible refine z01.go (z5n _ hl _) ?_ | with_reducible refine z01.go (z5m _ hl _) ?_ | with_reducible refine z01.go (z5l _ hl _) ?_ | with_reducible refine z01.go (z5o _ hl _) ?_ | with_reducible refine z01.go (z5k _ hl _) ?_ | with_reducible refine z01.go (z5p _ hl _) ?_ | with_reducible refine z01.go (z1e _ _ _) ?_ | with_reducible refine z01.go (z1n c hs _ _ _) ?_ | with_reducible refine z01.go (z0q _ hn _ hit hitl _) ?_ | with_reducible refine z01.go (z0q _ hn _ hix hixl _) ?_ | with_reducible refine z7y (by assumption) ?_ | unfold z0g | unfold z0h | unfold z0i | unfold z0j | unfold z0k | (with_reducible refine Split.intro (λhq=>?_) (λhq=>?_) <;> (try simp only [Bool.not_eq_true',Bool.not_eq_false'] at hq) <;> (try rw [hq])))
 all_goals clear l1 l2 g0 g1 std dd0 dd1 dd3 sts ss0 ss1 ss4 stds ds0 ds1 ds3 ds4 px pd qx o1 o2
 all_goals refine And.intro (congrArg AV.bool ?_) (by first | exact kH | exact kG | exact kD _ | exact kS _ | exact kDS _ _ | exact kDSp _ _ _ | exact kSp _ _)
 all_goals clear kH kG kD kS kDS kDSp kSp nx wl nq hl f100 f115 f114 f110 f116 f105 f120 e2 hb hx hcl hixl hitl hix hit hn hs hc
 all_goals have kd:=kind x.Dst
 all_goals have ks:=kind x.Src
 all_goals clear kind
 all_goals clear hsl
 all_goals simp_all [z2q,z1a,z3c,z2m,z3o,z11,z7h,z2f,z8q,z9n,z5q,z5c,List.length_pos_iff,z1p,z5b,z3n]
 all_goals try omega
 all_goals try (rw [Bool.eq_iff_iff];simp_all [beqI];try omega)
 all_goals try (split <;> simp_all)
 all_goals try omega
end
section
open Go.Abs
theorem ri_8 (c:Cd) (hc:c.ok) (hs:(slL c.Sections).length<=1000000) (t a:Int) (b:Bd) (x:In) (hb:getI (slL c.Threads) t=some b) (hx:getI (slL b.Code) a=some x) (hsl:∀ l∈slL b.Slots,z18 c l=true)
  (hn:okI (slL b.Slots).length) (hit:okSl z0e.ok x.Items) (hix:okSl z0e.ok x.Index) (hitl:(slL x.Items).length<=1000000) (hixl:(slL x.Index).length<=1000000) (hcl:(slL b.Code).length<=1000000) (hop:x.Op=8) (h:z00) :
  z01 Tryd.prog 13 [.agg c.cells,.int .i64 t,.int .i64 a] h (λv h2=>v=.bool (z1a c t b x a&&(decide (x.Op=17) == decide (a=(slL b.Code).length-1)))/\Keeps h h2 (λ_=>False)):=by
 have kind:∀ n:Int,btw n (slL b.Slots).length=true->((gD b.Slots n).Kind=1\/(gD b.Slots n).Kind=3)->(gD b.Slots n).Rec=0:=λn hq hk=>by
  have:=hsl _ (z2v (z1p hq));unfold z18 at this;rw [if_neg (by omega)] at this;simp only [Bool.and_eq_true,decide_eq_true_eq] at this;exact this.2
 have hl:=z3j 8;have nq:(hasS 8 == [63])=false:=rfl;have f100:(hasS 8).contains 100=true:=rfl;have f115:(hasS 8).contains 115=false:=rfl;have f114:(hasS 8).contains 114=true:=rfl;have f110:(hasS 8).contains 110=true:=rfl;have f116:(hasS 8).contains 116=false:=rfl;have f105:(hasS 8).contains 105=false:=rfl;have f120:(hasS 8).contains 120=false:=rfl;have wl:IntKind.i64.wrap (((slL b.Code).length:Int)-1)=((slL b.Code).length:Int)-1:=z7n (by omega) (by omega);apply z0r
 (repeat (first | simp -dsimp -implicitDefEqProofs (disch:=omega) only [↓rP,rA,↓reduceIte,reduceEqDiff,reduceAdd,reduceLeDiff,↓tyr,ixI hb,ixI hx] | refine Cut.go ?_))
 have e2:(h.push (.row 52 b.cells)).next=h.next+1:=rfl;have o1:((h.push (.row 52 b.cells)).push (.row 49 x.cells)).objs h.next=some (.row 52 b.cells):=by simp
 have o2:((h.push (.row 52 b.cells)).push (.row 49 x.cells)).objs (h.next+1)=some (.row 49 x.cells):=by simp
 have nx:((h.push (.row 52 b.cells)).push (.row 49 x.cells)).next=h.next+2:=rfl;have kH:Keeps h ((h.push (.row 52 b.cells)).push (.row 49 x.cells)) (λ_=>False):=(Keeps.one _ _).go (Keeps.one _ _);rw [e2];generalize ((h.push (.row 52 b.cells)).push (.row 49 x.cells))=H at *;simp only [hop];obtain ⟨l1,l2,g0,g1,std,dd0,dd1,dd3,sts,ss0,ss1,ss4,stds,ds0,ds1,ds3,ds4,px,pd,qx,kDSp,kSp,kG,kD,kS,kDS⟩:=z3m o1 o2 nx kH;refine z01.go (z1k 8 _) ?_
 repeat' (first | (simp -dsimp -implicitDefEqProofs only [↓rP,rB,↓reduceIte,reduceEqDiff,reduceAdd,reduceLeDiff,↓tyr,Int.reduceBEq,Int.reduceBNe,Int.reduceLT,Int.reduceLE,decide_true,decide_false,f100,f115,f114,f110,f116,f105,f120,nq,hop,↓l1,↓l2,wl,ixI hb,ixI hx,↓g0,↓g1,↓std,↓dd0,↓dd1,↓dd3,↓sts,↓ss0,↓ss1,↓ss4,↓stds,↓ds0,↓ds1,↓ds3,↓ds4,↓px,↓pd,↓qx]) | with_reducible refine Cut.go ?_ | with_reducible refine z01.go (z5j _ hl _) ?_ | with_reducible refine z01.go (z5n _ hl _) ?_ | with_reducible refine z01.go (z5m _ hl _) ?_ | with_reducible refine z01.go (z5l _ hl _) ?_ | with_reducible refine z01.go (z5o _ hl _) ?_ | with_reducible refine z01.go (z5k _ hl _) ?_ | with_reducible refine z01.go (z5p _ hl _) ?_ | with_reducible refine z01.go (z1e _ _ _) ?_ | with_reducible refine z01.go (z1n c hs _ _ _) ?_ | with_reducible refine z01.go (z0q _ hn _ hit hitl _) ?_ | with_reducible refine z01.go (z0q _ hn _ hix hixl _) ?_ | with_reducible refine z7y (by assumption) ?_ | unfold z0g | unfold z0h | unfold z0i | unfold z0j | unfold z0k | (with_reducible refine Split.intro (λhq=>?_) (λhq=>?_) <;> (try simp only [Bool.not_eq_true',Bool.not_eq_false'] at hq) <;> (try rw [hq])))
 all_goals clear l1 l2 g0 g1 std dd0 dd1 dd3 sts ss0 ss1 ss4 stds ds0 ds1 ds3 ds4 px pd qx o1 o2
 all_goals refine And.intro (congrArg AV.bool ?_) (by first | exact kH | exact kG | exact kD _ | exact kS _ | exact kDS _ _ | exact kDSp _ _ _ | exact kSp _ _)
 all_goals clear kH kG kD kS kDS kDSp kSp nx wl nq hl f100 f115 f114 f110 f116 f105 f120 e2 hb hx hcl hixl hitl hix hit hn hs hc
 all_goals have kd:=kind x.Dst
 all_goals have ks:=kind x.Src
 all_goals clear kind
 all_goals clear hsl
 all_goals simp_all [z2q,z1a,z3c,z2m,z3o,z11,z7h,z2f,z8q,z9n,z5q,z5c,List.length_pos_iff,z1p,z5b,z3n]
 all_goals try omega
 all_goals try (rw [Bool.eq_iff_iff];simp_all [beqI];try omega)
 all_goals try (split <;> simp_all)
 all_goals try omega
theorem ri_9 (c:Cd) (hc:c.ok) (hs:(slL c.Sections).length<=1000000) (t a:Int) (b:Bd) (x:In) (hb:getI (slL c.Threads) t=some b) (hx:getI (slL b.Code) a=some x) (hsl:∀ l∈slL b.Slots,z18 c l=true)
  (hn:okI (slL b.Slots).length) (hit:okSl z0e.ok x.Items) (hix:okSl z0e.ok x.Index) (hitl:(slL x.Items).length<=1000000) (hixl:(slL x.Index).length<=1000000) (hcl:(slL b.Code).length<=1000000) (hop:x.Op=9) (h:z00) :
  z01 Tryd.prog 13 [.agg c.cells,.int .i64 t,.int .i64 a] h (λv h2=>v=.bool (z1a c t b x a&&(decide (x.Op=17) == decide (a=(slL b.Code).length-1)))/\Keeps h h2 (λ_=>False)):=by
 have kind:∀ n:Int,btw n (slL b.Slots).length=true->((gD b.Slots n).Kind=1\/(gD b.Slots n).Kind=3)->(gD b.Slots n).Rec=0:=λn hq hk=>by
  have:=hsl _ (z2v (z1p hq));unfold z18 at this;rw [if_neg (by omega)] at this;simp only [Bool.and_eq_true,decide_eq_true_eq] at this;exact this.2
 have hl:=z3j 9;have nq:(hasS 9 == [63])=false:=rfl;have f100:(hasS 9).contains 100=true:=rfl;have f115:(hasS 9).contains 115=false:=rfl;have f114:(hasS 9).contains 114=false:=rfl;have f110:(hasS 9).contains 110=true:=rfl;have f116:(hasS 9).contains 116=false:=rfl;have f105:(hasS 9).contains 105=true:=rfl;have f120:(hasS 9).contains 120=false:=rfl;have wl:IntKind.i64.wrap (((slL b.Code).length:Int)-1)=((slL b.Code).length:Int)-1:=z7n (by omega) (by omega);apply z0r
 (repeat (first | simp -dsimp -implicitDefEqProofs (disch:=omega) only [↓rP,rA,↓reduceIte,reduceEqDiff,reduceAdd,reduceLeDiff,↓tyr,ixI hb,ixI hx] | refine Cut.go ?_))
 have e2:(h.push (.row 52 b.cells)).next=h.next+1:=rfl;have o1:((h.push (.row 52 b.cells)).push (.row 49 x.cells)).objs h.next=some (.row 52 b.cells):=by simp
 have o2:((h.push (.row 52 b.cells)).push (.row 49 x.cells)).objs (h.next+1)=some (.row 49 x.cells):=by simp
 have nx:((h.push (.row 52 b.cells)).push (.row 49 x.cells)).next=h.next+2:=rfl;have kH:Keeps h ((h.push (.row 52 b.cells)).push (.row 49 x.cells)) (λ_=>False):=(Keeps.one _ _).go (Keeps.one _ _);rw [e2];generalize ((h.push (.row 52 b.cells)).push (.row 49 x.cells))=H at *;simp only [hop];obtain ⟨l1,l2,g0,g1,std,dd0,dd1,dd3,sts,ss0,ss1,ss4,stds,ds0,ds1,ds3,ds4,px,pd,qx,kDSp,kSp,kG,kD,kS,kDS⟩:=z3m o1 o2 nx kH;refine z01.go (z1k 9 _) ?_
 repeat' (first | (simp -dsimp -implicitDefEqProofs only [↓rP,rB,↓reduceIte,reduceEqDiff,reduceAdd,reduceLeDiff,↓tyr,Int.reduceBEq,Int.reduceBNe,Int.reduceLT,Int.reduceLE,decide_true,decide_false,f100,f115,f114,f110,f116,f105,f120,nq,hop,↓l1,↓l2,wl,ixI hb,ixI hx,↓g0,↓g1,↓std,↓dd0,↓dd1,↓dd3,↓sts,↓ss0,↓ss1,↓ss4,↓stds,↓ds0,↓ds1,↓ds3,↓ds4,↓px,↓pd,↓qx]) | with_reducible refine Cut.go ?_ | with_reducible refine z01.go (z5j _ hl _) ?_ | with_reducible refine z01.go (z5n _ hl _) ?_ | with_reducible refine z01.go (z5m _ hl _) ?_ | with_reducible refine z01.go (z5l _ hl _) ?_ | with_reducible refine z01.go (z5o _ hl _) ?_ | with_reducible refine z01.go (z5k _ hl _) ?_ | with_reducible refine z01.go (z5p _ hl _) ?_ | with_reducible refine z01.go (z1e _ _ _) ?_ | with_reducible refine z01.go (z1n c hs _ _ _) ?_ | with_reducible refine z01.go (z0q _ hn _ hit hitl _) ?_ | with_reducible refine z01.go (z0q _ hn _ hix hixl _) ?_ | with_reducible refine z7y (by assumption) ?_ | unfold z0g | unfold z0h | unfold z0i | unfold z0j | unfold z0k | (with_reducible refine Split.intro (λhq=>?_) (λhq=>?_) <;> (try simp only [Bool.not_eq_true',Bool.not_eq_false'] at hq) <;> (try rw [hq])))
 all_goals clear l1 l2 g0 g1 std dd0 dd1 dd3 sts ss0 ss1 ss4 stds ds0 ds1 ds3 ds4 px pd qx o1 o2
 all_goals refine And.intro (congrArg AV.bool ?_) (by first | exact kH | exact kG | exact kD _ | exact kS _ | exact kDS _ _ | exact kDSp _ _ _ | exact kSp _ _)
 all_goals clear kH kG kD kS kDS kDSp kSp nx wl nq hl f100 f115 f114 f110 f116 f105 f120 e2 hb hx hcl hixl hitl hix hit hn hs hc
 all_goals have kd:=kind x.Dst
 all_goals have ks:=kind x.Src
 all_goals clear kind
 all_goals clear hsl
 all_goals simp_all [z2q,z1a,z3c,z2m,z3o,z11,z7h,z2f,z8q,z9n,z5q,z5c,List.length_pos_iff,z1p,z5b,z3n]
 all_goals try omega
 all_goals try (rw [Bool.eq_iff_iff];simp_all [beqI];try omega)
 all_goals try (split <;> simp_all)
 all_goals try omega
theorem ri_15 (c:Cd) (hc:c.ok) (hs:(slL c.Sections).length<=1000000) (t a:Int) (b:Bd) (x:In) (hb:getI (slL c.Threads) t=some b) (hx:getI (slL b.Code) a=some x) (hsl:∀ l∈slL b.Slots,z18 c l=true)
  (hn:okI (slL b.Slots).length) (hit:okSl z0e.ok x.Items) (hix:okSl z0e.ok x.Index) (hitl:(slL x.Items).length<=1000000) (hixl:(slL x.Index).length<=1000000) (hcl:(slL b.Code).length<=1000000) (hop:x.Op=15) (h:z00) :
  z01 Tryd.prog 13 [.agg c.cells,.int .i64 t,.int .i64 a] h (λv h2=>v=.bool (z1a c t b x a&&(decide (x.Op=17) == decide (a=(slL b.Code).length-1)))/\Keeps h h2 (λ_=>False)):=by
 have kind:∀ n:Int,btw n (slL b.Slots).length=true->((gD b.Slots n).Kind=1\/(gD b.Slots n).Kind=3)->(gD b.Slots n).Rec=0:=λn hq hk=>by
  have:=hsl _ (z2v (z1p hq));unfold z18 at this;rw [if_neg (by omega)] at this;simp only [Bool.and_eq_true,decide_eq_true_eq] at this;exact this.2
 have hl:=z3j 15;have nq:(hasS 15 == [63])=false:=rfl;have f100:(hasS 15).contains 100=false:=rfl;have f115:(hasS 15).contains 115=false:=rfl;have f114:(hasS 15).contains 114=false:=rfl;have f110:(hasS 15).contains 110=true:=rfl;have f116:(hasS 15).contains 116=false:=rfl;have f105:(hasS 15).contains 105=false:=rfl;have f120:(hasS 15).contains 120=false:=rfl;have wl:IntKind.i64.wrap (((slL b.Code).length:Int)-1)=((slL b.Code).length:Int)-1:=z7n (by omega) (by omega);apply z0r
 (repeat (first | simp -dsimp -implicitDefEqProofs (disch:=omega) only [↓rP,rA,↓reduceIte,reduceEqDiff,reduceAdd,reduceLeDiff,↓tyr,ixI hb,ixI hx] | refine Cut.go ?_))
 have e2:(h.push (.row 52 b.cells)).next=h.next+1:=rfl;have o1:((h.push (.row 52 b.cells)).push (.row 49 x.cells)).objs h.next=some (.row 52 b.cells):=by simp
 have o2:((h.push (.row 52 b.cells)).push (.row 49 x.cells)).objs (h.next+1)=some (.row 49 x.cells):=by simp
 have nx:((h.push (.row 52 b.cells)).push (.row 49 x.cells)).next=h.next+2:=rfl;have kH:Keeps h ((h.push (.row 52 b.cells)).push (.row 49 x.cells)) (λ_=>False):=(Keeps.one _ _).go (Keeps.one _ _);rw [e2];generalize ((h.push (.row 52 b.cells)).push (.row 49 x.cells))=H at *;simp only [hop];obtain ⟨l1,l2,g0,g1,std,dd0,dd1,dd3,sts,ss0,ss1,ss4,stds,ds0,ds1,ds3,ds4,px,pd,qx,kDSp,kSp,kG,kD,kS,kDS⟩:=z3m o1 o2 nx kH;refine z01.go (z1k 15 _) ?_
 repeat' (first | (simp -dsimp -implicitDefEqProofs only [↓rP,rB,↓reduceIte,reduceEqDiff,reduceAdd,reduceLeDiff,↓tyr,Int.reduceBEq,Int.reduceBNe,Int.reduceLT,Int.reduceLE,decide_true,decide_false,f100,f115,f114,f110,f116,f105,f120,nq,hop,↓l1,↓l2,wl,ixI hb,ixI hx,↓g0,↓g1,↓std,↓dd0,↓dd1,↓dd3,↓sts,↓ss0,↓ss1,↓ss4,↓stds,↓ds0,↓ds1,↓ds3,↓ds4,↓px,↓pd,↓qx]) | with_reducible refine Cut.go ?_ | with_reducible refine z01.go (z5j _ hl _) ?_ | with_reducible refine z01.go (z5n _ hl _) ?_ | with_reducible refine z01.go (z5m _ hl _) ?_ | with_reducible refine z01.go (z5l _ hl _) ?_ | with_reducible refine z01.go (z5o _ hl _) ?_ | with_reducible refine z01.go (z5k _ hl _) ?_ | with_reducible refine z01.go (z5p _ hl _) ?_ | with_reducible refine z01.go (z1e _ _ _) ?_ | with_reducible refine z01.go (z1n c hs _ _ _) ?_ | with_reducible refine z01.go (z0q _ hn _ hit hitl _) ?_ | with_reducible refine z01.go (z0q _ hn _ hix hixl _) ?_ | with_reducible refine z7y (by assumption) ?_ | unfold z0g | unfold z0h | unfold z0i | unfold z0j | unfold z0k | (with_reducible refine Split.intro (λhq=>?_) (λhq=>?_) <;> (try simp only [Bool.not_eq_true',Bool.not_eq_false'] at hq) <;> (try rw [hq])))
 all_goals clear l1 l2 g0 g1 std dd0 dd1 dd3 sts ss0 ss1 ss4 stds ds0 ds1 ds3 ds4 px pd qx o1 o2
 all_goals refine And.intro (congrArg AV.bool ?_) (by first | exact kH | exact kG | exact kD _ | exact kS _ | exact kDS _ _ | exact kDSp _ _ _ | exact kSp _ _)
 all_goals clear kH kG kD kS kDS kDSp kSp nx wl nq hl f100 f115 f114 f110 f116 f105 f120 e2 hb hx hcl hixl hitl hix hit hn hs hc
 all_goals have kd:=kind x.Dst
 all_goals have ks:=kind x.Src
 all_goals clear kind
 all_goals clear hsl
 all_goals simp_all [z2q,z1a,z3c,z2m,z3o,z11,z7h,z2f,z8q,z9n,z5q,z5c,List.length_pos_iff,z1p,z5b,z3n]
 all_goals try omega
 all_goals try (rw [Bool.eq_iff_iff];simp_all [beqI];try omega)
 all_goals try (split <;> simp_all)
 all_goals try omega
theorem ri_16 (c:Cd) (hc:c.ok) (hs:(slL c.Sections).length<=1000000) (t a:Int) (b:Bd) (x:In) (hb:getI (slL c.Threads) t=some b) (hx:getI (slL b.Code) a=some x) (hsl:∀ l∈slL b.Slots,z18 c l=true)
  (hn:okI (slL b.Slots).length) (hit:okSl z0e.ok x.Items) (hix:okSl z0e.ok x.Index) (hitl:(slL x.Items).length<=1000000) (hixl:(slL x.Index).length<=1000000) (hcl:(slL b.Code).length<=1000000) (hop:x.Op=16) (h:z00) :
  z01 Tryd.prog 13 [.agg c.cells,.int .i64 t,.int .i64 a] h (λv h2=>v=.bool (z1a c t b x a&&(decide (x.Op=17) == decide (a=(slL b.Code).length-1)))/\Keeps h h2 (λ_=>False)):=by
 have kind:∀ n:Int,btw n (slL b.Slots).length=true->((gD b.Slots n).Kind=1\/(gD b.Slots n).Kind=3)->(gD b.Slots n).Rec=0:=λn hq hk=>by
  have:=hsl _ (z2v (z1p hq));unfold z18 at this;rw [if_neg (by omega)] at this;simp only [Bool.and_eq_true,decide_eq_true_eq] at this;exact this.2
 have hl:=z3j 16;have nq:(hasS 16 == [63])=false:=rfl;have f100:(hasS 16).contains 100=false:=rfl;have f115:(hasS 16).contains 115=false:=rfl;have f114:(hasS 16).contains 114=false:=rfl;have f110:(hasS 16).contains 110=true:=rfl;have f116:(hasS 16).contains 116=false:=rfl;have f105:(hasS 16).contains 105=false:=rfl;have f120:(hasS 16).contains 120=false:=rfl;have wl:IntKind.i64.wrap (((slL b.Code).length:Int)-1)=((slL b.Code).length:Int)-1:=z7n (by omega) (by omega);apply z0r
 (repeat (first | simp -dsimp -implicitDefEqProofs (disch:=omega) only [↓rP,rA,↓reduceIte,reduceEqDiff,reduceAdd,reduceLeDiff,↓tyr,ixI hb,ixI hx] | refine Cut.go ?_))
 have e2:(h.push (.row 52 b.cells)).next=h.next+1:=rfl;have o1:((h.push (.row 52 b.cells)).push (.row 49 x.cells)).objs h.next=some (.row 52 b.cells):=by simp
 have o2:((h.push (.row 52 b.cells)).push (.row 49 x.cells)).objs (h.next+1)=some (.row 49 x.cells):=by simp
 have nx:((h.push (.row 52 b.cells)).push (.row 49 x.cells)).next=h.next+2:=rfl;have kH:Keeps h ((h.push (.row 52 b.cells)).push (.row 49 x.cells)) (λ_=>False):=(Keeps.one _ _).go (Keeps.one _ _);rw [e2];generalize ((h.push (.row 52 b.cells)).push (.row 49 x.cells))=H at *;simp only [hop];obtain ⟨l1,l2,g0,g1,std,dd0,dd1,dd3,sts,ss0,ss1,ss4,stds,ds0,ds1,ds3,ds4,px,pd,qx,kDSp,kSp,kG,kD,kS,kDS⟩:=z3m o1 o2 nx kH;refine z01.go (z1k 16 _) ?_
 repeat' (first | (simp -dsimp -implicitDefEqProofs only [↓rP,rB,↓reduceIte,reduceEqDiff,reduceAdd,reduceLeDiff,↓tyr,Int.reduceBEq,Int.reduceBNe,Int.reduceLT,Int.reduceLE,decide_true,decide_false,f100,f115,f114,f110,f116,f105,f120,nq,hop,↓l1,↓l2,wl,ixI hb,ixI hx,↓g0,↓g1,↓std,↓dd0,↓dd1,↓dd3,↓sts,↓ss0,↓ss1,↓ss4,↓stds,↓ds0,↓ds1,↓ds3,↓ds4,↓px,↓pd,↓qx]) | with_reducible refine Cut.go ?_ | with_reducible refine z01.go (z5j _ hl _) ?_ | with_reducible refine z01.go (z5n _ hl _) ?_ | with_reducible refine z01.go (z5m _ hl _) ?_ | with_reducible refine z01.go (z5l _ hl _) ?_ | with_reducible refine z01.go (z5o _ hl _) ?_ | with_reducible refine z01.go (z5k _ hl _) ?_ | with_reducible refine z01.go (z5p _ hl _) ?_ | with_reducible refine z01.go (z1e _ _ _) ?_ | with_reducible refine z01.go (z1n c hs _ _ _) ?_ | with_reducible refine z01.go (z0q _ hn _ hit hitl _) ?_ | with_reducible refine z01.go (z0q _ hn _ hix hixl _) ?_ | with_reducible refine z7y (by assumption) ?_ | unfold z0g | unfold z0h | unfold z0i | unfold z0j | unfold z0k | (with_reducible refine Split.intro (λhq=>?_) (λhq=>?_) <;> (try simp only [Bool.not_eq_true',Bool.not_eq_false'] at hq) <;> (try rw [hq])))
 all_goals clear l1 l2 g0 g1 std dd0 dd1 dd3 sts ss0 ss1 ss4 stds ds0 ds1 ds3 ds4 px pd qx o1 o2
 all_goals refine And.intro (congrArg AV.bool ?_) (by first | exact kH | exact kG | exact kD _ | exact kS _ | exact kDS _ _ | exact kDSp _ _ _ | exact kSp _ _)
 all_goals clear kH kG kD kS kDS kDSp kSp nx wl nq hl f100 f115 f114 f110 f116 f105 f120 e2 hb hx hcl hixl hitl hix hit hn hs hc
 all_goals have kd:=kind x.Dst
 all_goals have ks:=kind x.Src
 all_goals clear kind
 all_goals clear hsl
 all_goals simp_all [z2q,z1a,z3c,z2m,z3o,z11,z7h,z2f,z8q,z9n,z5q,z5c,List.length_pos_iff,z1p,z5b,z3n]
 all_goals try omega
 all_goals try (rw [Bool.eq_iff_iff];simp_all [beqI];try omega)
 all_goals try (split <;> simp_all)
 all_goals try omega
end
section
open Go.Abs
noncomputable def z8m (c:Cd) (t:Int) (b:Bd) (x:In) (a:Int):Bool:=z1a c t b x a&&(decide (x.Op=17) == decide (a=(slL b.Code).length-1))
theorem ztb {c:Cd} {t:Int} {b:Bd} {x:In} {a:Int} (ho:x.Op<1\/17<x.Op):z1a c t b x a=false:=by
 unfold z1a;rw [if_neg (by omega),if_neg (by omega),if_neg (by omega),if_neg (by omega),if_neg (by omega),if_neg (by omega),if_neg (by omega),if_neg (by omega)];have:decide (x.Op=17)=false:=decide_eq_false (by omega);simp [this]
theorem ri_0 (c:Cd) (t a:Int) (b:Bd) (x:In) (hb:getI (slL c.Threads) t=some b) (hx:getI (slL b.Code) a=some x) (ho:x.Op<1\/17<x.Op) (h:z00) :
  z01 Tryd.prog 13 [.agg c.cells,.int .i64 t,.int .i64 a] h (λv h2=>v=.bool (z8m c t b x a)/\Keeps h h2 (λ_=>False)):=by
 have hs:hasS x.Op=[63]:=by unfold hasS;rw [if_pos (by omega)]
 have nq:([63] == ([63]:List UInt8))=true:=rfl;apply z0r
 (repeat (first | simp -dsimp -implicitDefEqProofs (disch:=omega) only [↓rP,rA,↓reduceIte,reduceEqDiff,reduceAdd,reduceLeDiff,↓tyr,ixI hb,ixI hx] | refine Cut.go ?_))
 refine z01.go (z1k x.Op _) ?_;rw [hs]
 repeat' (first | (simp -dsimp -implicitDefEqProofs only [↓rP,rB,↓reduceIte,reduceEqDiff,reduceAdd,reduceLeDiff,↓tyr,Int.reduceBEq,Int.reduceBNe,Int.reduceLT,Int.reduceLE,decide_true,decide_false,nq]) | with_reducible refine Cut.go ?_ | unfold z0g | unfold z0h | unfold z0i | unfold z0j | unfold z0k)
 unfold z8m;rw [ztb ho];exact ⟨rfl,(Keeps.one _ _).go (Keeps.one _ _)⟩
theorem zmk (c:Cd) (hc:c.ok) (sm:Small c) (t a:Int) (b:Bd) (x:In) (hb:getI (slL c.Threads) t=some b) (hx:getI (slL b.Code) a=some x) (hsl:∀ l∈slL b.Slots,z18 c l=true) (h:z00) :
  z01 Tryd.prog 13 [.agg c.cells,.int .i64 t,.int .i64 a] h (λv h2=>v=.bool (z8m c t b x a)/\h2=h):=by
 have mb:=z2v hb;have mx:=z2v hx;have hs:(slL c.Sections).length<=1000000:=by have:=sm.secs;omega
 have h1:=sm.slots b mb;have h2:=sm.code b mb;have h3:=sm.items b mb x mx;have h4:=sm.index b mb x mx;have hxo:=(hc.2.2.1.2 b mb).2.1.2 x mx;have hit:=hxo.2.2.2.2.2.2.1;have hix:=hxo.2.2.2.2.2.2.2;have hn:okI (slL b.Slots).length:=by unfold okI;omega
 refine z01.forget (by simp [z1w]) ?_;unfold z8m;rcases (by omega:(x.Op<1\/17<x.Op)\/x.Op=1\/x.Op=2\/x.Op=3\/x.Op=4\/x.Op=5\/x.Op=6\/x.Op=7\/x.Op=8\/x.Op=9\/x.Op=10\/x.Op=11\/x.Op=12\/x.Op=13\/x.Op=14\/x.Op=15\/x.Op=16\/x.Op=17) with ho | ho | ho | ho | ho | ho | ho | ho | ho | ho | ho | ho | ho | ho | ho | ho | ho | ho
 ·exact ri_0 c t a b x hb hx ho h
 ·exact ri_1 c hc hs t a b x hb hx hsl hn hit hix (by omega) (by omega) (by omega) ho h
 ·exact ri_2 c hc hs t a b x hb hx hsl hn hit hix (by omega) (by omega) (by omega) ho h
 ·exact ri_3 c hc hs t a b x hb hx hsl hn hit hix (by omega) (by omega) (by omega) ho h
 ·exact ri_4 c hc hs t a b x hb hx hsl hn hit hix (by omega) (by omega) (by omega) ho h
 ·exact ri_5 c hc hs t a b x hb hx hsl hn hit hix (by omega) (by omega) (by omega) ho h
 ·exact ri_6 c hc hs t a b x hb hx hsl hn hit hix (by omega) (by omega) (by omega) ho h
 ·exact ri_7 c hc hs t a b x hb hx hsl hn hit hix (by omega) (by omega) (by omega) ho h
 ·exact ri_8 c hc hs t a b x hb hx hsl hn hit hix (by omega) (by omega) (by omega) ho h
 ·exact ri_9 c hc hs t a b x hb hx hsl hn hit hix (by omega) (by omega) (by omega) ho h
 ·exact ri_10 c hc hs t a b x hb hx hsl hn hit hix (by omega) (by omega) (by omega) ho h
 ·exact ri_11 c hc hs t a b x hb hx hsl hn hit hix (by omega) (by omega) (by omega) ho h
 ·exact ri_12 c hc hs t a b x hb hx hsl hn hit hix (by omega) (by omega) (by omega) ho h
 ·exact ri_13 c hc hs t a b x hb hx hsl hn hit hix (by omega) (by omega) (by omega) ho h
 ·exact ri_14 c hc hs t a b x hb hx hsl hn hit hix (by omega) (by omega) (by omega) ho h
 ·exact ri_15 c hc hs t a b x hb hx hsl hn hit hix (by omega) (by omega) (by omega) ho h
 ·exact ri_16 c hc hs t a b x hb hx hsl hn hit hix (by omega) (by omega) (by omega) ho h
 ·exact ri_17 c hc hs t a b x hb hx hsl hn hit hix (by omega) (by omega) (by omega) ho h
end
section
open Go.Abs
theorem all_no {α:Type} {p:α->Bool} {l:List α} {k:Nat} {x:α} (hx:l[k]?=some x) (hp:p x=false):l.all p=false:=List.all_eq_false.2 ⟨x,List.mem_of_getElem? hx,by simp [hp]⟩
theorem zsl {α:Type} {p:α->Bool} {l:List α} (h:upTo (λ_ x=>p x) l l.length):l.all p=true:=by
 rw [List.all_eq_true];intro x hx;obtain ⟨k,hk⟩:=List.getElem?_of_mem hx;exact h k x (List.getElem?_eq_some_iff.1 hk).1 hk
theorem g_cells (c:Cd) (o:Option (List Lo)) (hl:(slL o).length<=1000000) (a57 a58 a59:AV) (h0:z00) (Q:z1z->Fr->z00->Prop)
  (hret:∀ h2,(slL o).all (λx=>!x.Once&&z18 c x)=false->Keeps h0 h2 (λ_=>False)->Q .ret (frOf [(2,.bool false)]) h2)
  (hex:∀ h2,(slL o).all (λx=>!x.Once&&z18 c x)=true->Keeps h0 h2 (λ_=>False)->Q (.exit 2) (frOf [(1,.iptr c.cells),(57,a57),(58,a58),(59,a59)]) h2) :
  WP Tryd.prog 324 (.loop z3b) (frOf [(1,.iptr c.cells),(57,a57),(58,a58),(59,a59),(71,slAV 3 z08.cells o),(72,.int .i64 (slL o).length),(73,.int .i64 0)]) h0 Q:=by
 obtain ⟨I,hI⟩:∃ I:Nat->Fr->z00->Prop,I=(λn fr hh=>∃ k:Nat,k<=(slL o).length/\n=(slL o).length-k/\upTo (λ_ x=>!x.Once&&z18 c x) (slL o) k/\Keeps h0 hh (λ_=>False)/\fr=frOf [(1,.iptr c.cells),(57,a57),(58,a58),(59,a59),(71,slAV 3 z08.cells o),(72,.int .i64 (slL o).length),(73,.int .i64 k)]):=⟨_,rfl⟩;refine z1i z0d (by kernel_rfl) I (slL o).length (by rw [hI];exact ⟨0,by omega,by omega,z2k _ _,.refl _ _,rfl⟩) ?_;intro n fr hh H;rw [hI] at H;obtain ⟨k,hk,rfl,hup,kp,rfl⟩:=H;apply zab
 (repeat simp -dsimp -implicitDefEqProofs (disch:=omega) only [↓rP,rA,↓reduceIte,reduceEqDiff,reduceAdd,reduceLeDiff,↓tyr])
 refine z09 (λhkl=>?_) (λhkl=>?_)
 ·obtain ⟨x,hx⟩:∃ x,(slL o)[k]?=some x:=⟨_,List.getElem?_eq_getElem (by omega)⟩;have kp1:=kp.go (Keeps.one hh (.row 46 x.cells));have on:(!x.Once&&z18 c x)=true->z3v I ((slL o).length-k) Q .normal (frOf [(1,.iptr c.cells),(57,a57),(58,a58),(59,a59),(71,slAV 3 z08.cells o),(72,.int .i64 (slL o).length),(73,.int .i64 (k+1:Nat))]) (hh.push (.row 46 x.cells)):=λhp=>by
   rw [z07,hI];exact ⟨_,by omega,k+1,by omega,rfl,z2c hup hx hp,kp1,rfl⟩
  have no:(!x.Once&&z18 c x)=false->Q .ret (frOf [(2,.bool false)]) (hh.push (.row 46 x.cells)):=λhp=>hret _ (all_no hx hp) kp1
  (repeat simp -dsimp -implicitDefEqProofs (disch:=omega) only [↓rP,rA,↓reduceIte,reduceEqDiff,reduceAdd,reduceLeDiff,↓tyr,z06 hx])
  rcases ho:x.Once with _ | _
  ·(repeat simp -dsimp -implicitDefEqProofs (disch:=omega) only [↓rP,rA,↓reduceIte,reduceEqDiff,reduceAdd,reduceLeDiff,↓tyr,ho])
   refine z01.go (zem c x _) ?_;rcases hb:z18 c x with _ | _
   ·(repeat simp -dsimp -implicitDefEqProofs (disch:=omega) only [↓rP,rA,↓reduceIte,reduceEqDiff,reduceAdd,reduceLeDiff,↓tyr,ho,Bool.not_false])
    exact no (by rw [ho,hb];rfl)
   ·(repeat simp -dsimp -implicitDefEqProofs (disch:=omega) only [↓rP,rA,↓reduceIte,reduceEqDiff,reduceAdd,reduceLeDiff,↓tyr,ho,Bool.not_true,wkS k (by omega)])
    exact on (by rw [ho,hb];rfl)
  ·(repeat simp -dsimp -implicitDefEqProofs (disch:=omega) only [↓rP,rA,↓reduceIte,reduceEqDiff,reduceAdd,reduceLeDiff,↓tyr,ho])
   exact no (by rw [ho];rfl)
 ·have hke:k=(slL o).length:=by omega
  subst hke
  (repeat simp -dsimp -implicitDefEqProofs (disch:=omega) only [↓rP,rA,↓reduceIte,reduceEqDiff,reduceAdd,reduceLeDiff,↓tyr])
  exact hex hh (zsl hup) kp
theorem g_slots (c:Cd) (o:Option (List Lo)) (hl:(slL o).length<=1000000) (a88 a89 a90:AV) (h0:z00) (Q:z1z->Fr->z00->Prop)
  (hret:∀ h2,(slL o).all (z18 c)=false->Keeps h0 h2 (λ_=>False)->Q .ret (frOf [(2,.bool false)]) h2)
  (hex:∀ h2,(slL o).all (z18 c)=true->Keeps h0 h2 (λ_=>False)->Q (.exit 6) (frOf [(1,.iptr c.cells),(88,a88),(89,a89),(90,a90)]) h2) :
  WP Tryd.prog 324 (.loop z4f) (frOf [(1,.iptr c.cells),(88,a88),(89,a89),(90,a90),(121,slAV 3 z08.cells o),(122,.int .i64 (slL o).length),(123,.int .i64 0)]) h0 Q:=by
 obtain ⟨I,hI⟩:∃ I:Nat->Fr->z00->Prop,I=(λn fr hh=>∃ k:Nat,k<=(slL o).length/\n=(slL o).length-k/\upTo (λ_ x=>z18 c x) (slL o) k/\Keeps h0 hh (λ_=>False)/\fr=frOf [(1,.iptr c.cells),(88,a88),(89,a89),(90,a90),(121,slAV 3 z08.cells o),(122,.int .i64 (slL o).length),(123,.int .i64 k)]):=⟨_,rfl⟩;refine z1i z0d (by kernel_rfl) I (slL o).length (by rw [hI];exact ⟨0,by omega,by omega,z2k _ _,.refl _ _,rfl⟩) ?_;intro n fr hh H;rw [hI] at H;obtain ⟨k,hk,rfl,hup,kp,rfl⟩:=H;apply zad
 (repeat simp -dsimp -implicitDefEqProofs (disch:=omega) only [↓rP,rA,↓reduceIte,reduceEqDiff,reduceAdd,reduceLeDiff,↓tyr])
 refine z09 (λhkl=>?_) (λhkl=>?_)
 ·obtain ⟨x,hx⟩:∃ x,(slL o)[k]?=some x:=⟨_,List.getElem?_eq_getElem (by omega)⟩;have kp1:=kp.go (Keeps.one hh (.row 46 x.cells))
  (repeat simp -dsimp -implicitDefEqProofs (disch:=omega) only [↓rP,rA,↓reduceIte,reduceEqDiff,reduceAdd,reduceLeDiff,↓tyr,z06 hx])
  refine z01.go (zem c x _) ?_;rcases hb:z18 c x with _ | _
  ·(repeat simp -dsimp -implicitDefEqProofs (disch:=omega) only [↓rP,rA,↓reduceIte,reduceEqDiff,reduceAdd,reduceLeDiff,↓tyr,Bool.not_false])
   exact hret _ (all_no hx hb) kp1
  ·(repeat simp -dsimp -implicitDefEqProofs (disch:=omega) only [↓rP,rA,↓reduceIte,reduceEqDiff,reduceAdd,reduceLeDiff,↓tyr,Bool.not_true,wkS k (by omega)])
   rw [z07,hI];exact ⟨_,by omega,k+1,by omega,rfl,z2c hup hx hb,kp1,rfl⟩
 ·have hke:k=(slL o).length:=by omega
  subst hke
  (repeat simp -dsimp -implicitDefEqProofs (disch:=omega) only [↓rP,rA,↓reduceIte,reduceEqDiff,reduceAdd,reduceLeDiff,↓tyr])
  exact hex hh (zsl hup) kp
theorem g_instrs (c:Cd) (hc:c.ok) (sm:Small c) (i:Nat) (b:Bd) (hb:(slL c.Threads)[i]?=some b) (hsl:∀ l∈slL b.Slots,z18 c l=true) (a304 a305 a306:AV) (h0:z00) (Q:z1z->Fr->z00->Prop)
  (hret:allK (λk x=>z8m c i b x k) (slL b.Code)=false->Q .ret (frOf [(2,.bool false)]) h0)
  (hex:allK (λk x=>z8m c i b x k) (slL b.Code)=true->Q (.exit 16) (frOf [(1,.iptr c.cells),(304,a304),(305,a305),(306,a306)]) h0) :
  WP Tryd.prog 324 (.loop z4k) (frOf [(1,.iptr c.cells),(20,.int .i64 i),(304,a304),(305,a305),(306,a306),(313,.int .i64 (slL b.Code).length),(314,.int .i64 0)]) h0 Q:=by
 have hcl:=sm.code b (List.mem_of_getElem? hb);obtain ⟨I,hI⟩:∃ I:Nat->Fr->z00->Prop,I=(λn fr hh=>∃ k:Nat,k<=(slL b.Code).length/\n=(slL b.Code).length-k/\upTo (λk x=>z8m c i b x k) (slL b.Code) k/\hh=h0/\fr=frOf [(1,.iptr c.cells),(20,.int .i64 i),(304,a304),(305,a305),(306,a306),(313,.int .i64 (slL b.Code).length),(314,.int .i64 k)]):=⟨_,rfl⟩;refine z1i z0d (by kernel_rfl) I (slL b.Code).length (by rw [hI];exact ⟨0,by omega,by omega,z2k _ _,rfl,rfl⟩) ?_;intro n fr hh H;rw [hI] at H;obtain ⟨k,hk,rfl,hup,rfl,rfl⟩:=H;apply zaj
 (repeat simp -dsimp -implicitDefEqProofs (disch:=omega) only [↓rP,rA,↓reduceIte,reduceEqDiff,reduceAdd,reduceLeDiff,↓tyr])
 refine z09 (λhkl=>?_) (λhkl=>?_)
 ·obtain ⟨x,hx⟩:∃ x,(slL b.Code)[k]?=some x:=⟨_,List.getElem?_eq_getElem (by omega)⟩
  (repeat simp -dsimp -implicitDefEqProofs (disch:=omega) only [↓rP,rA,↓reduceIte,reduceEqDiff,reduceAdd,reduceLeDiff,↓tyr])
  refine z01.go (zmk c hc sm i k b x (by rw [z2e];exact hb) (by rw [z2e];exact hx) hsl _) ?_;rcases hi:z8m c i b x k with _ | _
  ·(repeat simp -dsimp -implicitDefEqProofs (disch:=omega) only [↓rP,rA,↓reduceIte,reduceEqDiff,reduceAdd,reduceLeDiff,↓tyr,Bool.not_false])
   exact hret (z3f hx hi)
  ·(repeat simp -dsimp -implicitDefEqProofs (disch:=omega) only [↓rP,rA,↓reduceIte,reduceEqDiff,reduceAdd,reduceLeDiff,↓tyr,Bool.not_true,wkS k (by omega)])
   rw [z07,hI];exact ⟨_,by omega,k+1,by omega,rfl,z2c hup hx hi,rfl,rfl⟩
 ·have hke:k=(slL b.Code).length:=by omega
  subst hke
  (repeat simp -dsimp -implicitDefEqProofs (disch:=omega) only [↓rP,rA,↓reduceIte,reduceEqDiff,reduceAdd,reduceLeDiff,↓tyr])
  exact hex (z6w hup)
end
section
open Go.Abs
def cellP (c:Cd) (o:Option (List Lo)):Bool:=(slL o).all (λx=>!x.Once&&z18 c x)
def rowP (c:Cd) (i:Nat) (o:Option (List Lo)):Bool:=!(decide (0<i)&&decide (6<(slL o).length))&&cellP c o
theorem g_rows (c:Cd) (ls:List (Option (List Lo))) (hl:ls.length<=1000) (hr:∀ o∈ls,(slL o).length<=1000) (h0:z00) (id:Nat) (hid:id<h0.next) (ho:h0.objs id=some (.row 23 (ls.map λo=>slAV 3 z08.cells o))) (Q:z1z->Fr->z00->Prop)
  (hret:∀ h2,allK (rowP c) ls=false->Keeps h0 h2 (λ_=>False)->Q .ret (frOf [(2,.bool false)]) h2)
  (hex:∀ h2,allK (rowP c) ls=true->Keeps h0 h2 (λ_=>False)->Q (.exit 0) (frOf [(1,.iptr c.cells)]) h2) :
  WP Tryd.prog 324 (.loop z4w) (frOf [(1,.iptr c.cells),(57,.sl id 0 ls.length 1),(58,.int .i64 ls.length),(59,.int .i64 0)]) h0 Q:=by
 obtain ⟨I,hI⟩:∃ I:Nat->Fr->z00->Prop,I=(λn fr hh=>∃ k:Nat,k<=ls.length/\n=ls.length-k/\upTo (rowP c) ls k/\Keeps h0 hh (λ_=>False)/\fr=frOf [(1,.iptr c.cells),(57,.sl id 0 ls.length 1),(58,.int .i64 ls.length),(59,.int .i64 k)]):=⟨_,rfl⟩;refine z1i z0d (by kernel_rfl) I ls.length (by rw [hI];exact ⟨0,by omega,by omega,z2k _ _,.refl _ _,rfl⟩) ?_;intro n fr hh H;rw [hI] at H;obtain ⟨k,hk,rfl,hup,kp,rfl⟩:=H;apply zaz
 (repeat simp -dsimp -implicitDefEqProofs (disch:=omega) only [↓rP,rA,↓reduceIte,reduceEqDiff,reduceAdd,reduceLeDiff,↓tyr])
 refine z09 (λhkl=>?_) (λhkl=>?_)
 ·obtain ⟨o,hx⟩:∃ o,ls[k]?=some o:=⟨_,List.getElem?_eq_getElem (by omega)⟩;have hol:=hr o (List.mem_of_getElem? hx);have ix:∀ K:AV->Prop,z0o (.slice 1) (.sl id 0 ls.length 1) (.int .i64 (k:Int)) K=K (.ptr id k):=λK=>by
   simp [z0o];omega
  have ho2:hh.objs id=some (.row 23 (ls.map λo=>slAV 3 z08.cells o)):=by rw [kp.objs id hid (by simp)];exact ho
  have ld:∀ K:AV->Prop,z0t none (.ptr id k) hh K=K (slAV 3 z08.cells o):=λK=>by
   rw [z0b ho2,zcd (v:=slAV 3 z08.cells o) (by rw [List.getElem?_map,hx];rfl)]
  have bad:rowP c k o=false->allK (rowP c) ls=false:=λhp=>z3f hx hp;have inner:rowP c k o=cellP c o->WP Tryd.prog 324 (.loop z3b) (frOf [(1,.iptr c.cells),(57,.sl id 0 ls.length 1),(58,.int .i64 ls.length),(59,.int .i64 k),(71,slAV 3 z08.cells o),(72,.int .i64 (slL o).length),(73,.int .i64 0)]) hh (λe fr h2=>match e with | .ret=>cellP c o=false/\Keeps hh h2 (λ_=>False)/\fr=frOf [(2,.bool false)] | .exit i=>i=2/\cellP c o=true/\Keeps hh h2 (λ_=>False)/\fr=frOf [(1,.iptr c.cells),(57,.sl id 0 ls.length 1),(58,.int .i64 ls.length),(59,.int .i64 k)] | .normal=>False):=λ_=>
   g_cells c o (by omega) _ _ _ hh _ (λh2 h k=>⟨h,k,rfl⟩) (λh2 h k=>⟨rfl,h,k,rfl⟩)
  (repeat simp -dsimp -implicitDefEqProofs (disch:=omega) only [↓rP,rA,↓reduceIte,reduceEqDiff,reduceAdd,reduceLeDiff,↓tyr,↓ix,↓ld])
  refine z09 (λh0k=>?_) (λh0k=>?_)
  ·(repeat simp -dsimp -implicitDefEqProofs (disch:=omega) only [↓rP,rA,↓reduceIte,reduceEqDiff,reduceAdd,reduceLeDiff,↓tyr,↓ix,↓ld])
   refine z09 (λh6=>?_) (λh6=>?_)
   ·(repeat simp -dsimp -implicitDefEqProofs (disch:=omega) only [↓rP,rA,↓reduceIte,reduceEqDiff,reduceAdd,reduceLeDiff,↓tyr])
    have e1:decide (0<k)=true:=decide_eq_true (by omega);have e2:decide (6<(slL o).length)=true:=decide_eq_true (by omega);exact hret hh (bad (by unfold rowP;rw [e1,e2];rfl)) kp
   ·have e2:decide (6<(slL o).length)=false:=decide_eq_false (by omega);have e:rowP c k o=cellP c o:=by unfold rowP;rw [e2,Bool.and_false];rfl
    (repeat simp -dsimp -implicitDefEqProofs (disch:=omega) only [↓rP,rA,↓reduceIte,reduceEqDiff,reduceAdd,reduceLeDiff,↓tyr])
    refine (inner e).mono ?_;rintro (_ | i | _) fr h2 hq
    ·exact hq.elim
    ·obtain ⟨rfl,q1,q2,rfl⟩:=hq
     (repeat simp -dsimp -implicitDefEqProofs (disch:=omega) only [↓rP,rA,↓reduceIte,reduceEqDiff,reduceAdd,reduceLeDiff,↓tyr,wkS k (by omega)])
     rw [z07,hI];exact ⟨_,by omega,k+1,by omega,rfl,z2c hup hx (by rw [e];exact q1),kp.go q2,rfl⟩
    ·obtain ⟨q1,q2,rfl⟩:=hq
     (repeat simp -dsimp -implicitDefEqProofs (disch:=omega) only [↓rP,rA,↓reduceIte,reduceEqDiff,reduceAdd,reduceLeDiff,↓tyr])
     exact hret h2 (bad (by rw [e];exact q1)) (kp.go q2)
  ·have e1:decide (0<k)=false:=decide_eq_false (by omega);have e:rowP c k o=cellP c o:=by unfold rowP;rw [e1,Bool.false_and];rfl
   (repeat simp -dsimp -implicitDefEqProofs (disch:=omega) only [↓rP,rA,↓reduceIte,reduceEqDiff,reduceAdd,reduceLeDiff,↓tyr])
   refine (inner e).mono ?_;rintro (_ | i | _) fr h2 hq
   ·exact hq.elim
   ·obtain ⟨rfl,q1,q2,rfl⟩:=hq
    (repeat simp -dsimp -implicitDefEqProofs (disch:=omega) only [↓rP,rA,↓reduceIte,reduceEqDiff,reduceAdd,reduceLeDiff,↓tyr,wkS k (by omega)])
    rw [z07,hI];exact ⟨_,by omega,k+1,by omega,rfl,z2c hup hx (by rw [e];exact q1),kp.go q2,rfl⟩
   ·obtain ⟨q1,q2,rfl⟩:=hq
    (repeat simp -dsimp -implicitDefEqProofs (disch:=omega) only [↓rP,rA,↓reduceIte,reduceEqDiff,reduceAdd,reduceLeDiff,↓tyr])
    exact hret h2 (bad (by rw [e];exact q1)) (kp.go q2)
 ·have hke:k=ls.length:=by omega
  subst hke
  (repeat simp -dsimp -implicitDefEqProofs (disch:=omega) only [↓rP,rA,↓reduceIte,reduceEqDiff,reduceAdd,reduceLeDiff,↓tyr])
  exact hex hh (z6w hup) kp
theorem g_bodies (c:Cd) (sm:Small c) (h0:z00) (Q:z1z->Fr->z00->Prop)
  (hret:∀ h2,(slL c.Threads).all (za3 c)=false->Keeps h0 h2 (λ_=>False)->Q .ret (frOf [(2,.bool false)]) h2)
  (hex:∀ h2,(slL c.Threads).all (za3 c)=true->Keeps h0 h2 (λ_=>False)->Q (.exit 4) (frOf [(1,.iptr c.cells)]) h2) :
  WP Tryd.prog 324 (.loop z4e) (frOf [(1,.iptr c.cells),(88,slAV 3 z0m.cells c.Threads),(89,.int .i64 (slL c.Threads).length),(90,.int .i64 0)]) h0 Q:=by
 have hth:=sm.threads;obtain ⟨I,hI⟩:∃ I:Nat->Fr->z00->Prop,I=(λn fr hh=>∃ k:Nat,k<=(slL c.Threads).length/\n=(slL c.Threads).length-k/\upTo (λ_ b=>za3 c b) (slL c.Threads) k/\Keeps h0 hh (λ_=>False)/\fr=frOf [(1,.iptr c.cells),(88,slAV 3 z0m.cells c.Threads),(89,.int .i64 (slL c.Threads).length),(90,.int .i64 k)]):=⟨_,rfl⟩;refine z1i z0d (by kernel_rfl) I (slL c.Threads).length (by rw [hI];exact ⟨0,by omega,by omega,z2k _ _,.refl _ _,rfl⟩) ?_;intro n fr hh H;rw [hI] at H;obtain ⟨k,hk,rfl,hup,kp,rfl⟩:=H;apply zac
 (repeat simp -dsimp -implicitDefEqProofs (disch:=omega) only [↓rP,rA,↓reduceIte,reduceEqDiff,reduceAdd,reduceLeDiff,↓tyr])
 refine z09 (λhkl=>?_) (λhkl=>?_)
 ·obtain ⟨b,hx⟩:∃ b,(slL c.Threads)[k]?=some b:=⟨_,List.getElem?_eq_getElem (by omega)⟩;have kp1:=kp.go (Keeps.one hh (.row 52 b.cells));have hsl:=sm.slots b (List.mem_of_getElem? hx);have no:za3 c b=false->Q .ret (frOf [(2,.bool false)]) (hh.push (.row 52 b.cells)):=λhp=>hret _ (all_no hx hp) kp1
  (repeat simp -dsimp -implicitDefEqProofs (disch:=omega) only [↓rP,rA,↓reduceIte,reduceEqDiff,reduceAdd,reduceLeDiff,↓tyr,z06 hx])
  refine z09 (λh1=>?_) (λh1=>?_)
  ·(repeat simp -dsimp -implicitDefEqProofs (disch:=omega) only [↓rP,rA,↓reduceIte,reduceEqDiff,reduceAdd,reduceLeDiff,↓tyr])
   exact no (by simp [za3];intros;omega)
  (repeat simp -dsimp -implicitDefEqProofs (disch:=omega) only [↓rP,rA,↓reduceIte,reduceEqDiff,reduceAdd,reduceLeDiff,↓tyr])
  refine z09 (λh2=>?_) (λh2=>?_)
  ·(repeat simp -dsimp -implicitDefEqProofs (disch:=omega) only [↓rP,rA,↓reduceIte,reduceEqDiff,reduceAdd,reduceLeDiff,↓tyr])
   exact no (by simp [za3];intros;omega)
  (repeat simp -dsimp -implicitDefEqProofs (disch:=omega) only [↓rP,rA,↓reduceIte,reduceEqDiff,reduceAdd,reduceLeDiff,↓tyr])
  refine z09 (λh3=>?_) (λh3=>?_)
  ·(repeat simp -dsimp -implicitDefEqProofs (disch:=omega) only [↓rP,rA,↓reduceIte,reduceEqDiff,reduceAdd,reduceLeDiff,↓tyr])
   exact no (by simp [za3];intros;omega)
  (repeat simp -dsimp -implicitDefEqProofs (disch:=omega) only [↓rP,rA,↓reduceIte,reduceEqDiff,reduceAdd,reduceLeDiff,↓tyr])
  refine z09 (λh4=>?_) (λh4=>?_)
  ·(repeat simp -dsimp -implicitDefEqProofs (disch:=omega) only [↓rP,rA,↓reduceIte,reduceEqDiff,reduceAdd,reduceLeDiff,↓tyr])
   exact no (by simp [za3];intros;omega)
  (repeat simp -dsimp -implicitDefEqProofs (disch:=omega) only [↓rP,rA,↓reduceIte,reduceEqDiff,reduceAdd,reduceLeDiff,↓tyr])
  refine z09 (λh5=>?_) (λh5=>?_)
  ·(repeat simp -dsimp -implicitDefEqProofs (disch:=omega) only [↓rP,rA,↓reduceIte,reduceEqDiff,reduceAdd,reduceLeDiff,↓tyr])
   exact no (by simp [za3];intros;omega)
  have e:za3 c b=(slL b.Slots).all (z18 c):=by
   unfold za3;rw [decide_eq_true (by omega:(slL b.Slots).length<=64),decide_eq_true (by omega:1<=(slL b.Code).length),decide_eq_true (by omega:(slL b.Code).length<=256),decide_eq_true (by omega:0<=b.Most),decide_eq_true (by omega:b.Most<=4096)]
   rfl
  (repeat simp -dsimp -implicitDefEqProofs (disch:=omega) only [↓rP,rA,↓reduceIte,reduceEqDiff,reduceAdd,reduceLeDiff,↓tyr])
  refine g_slots c b.Slots (by omega) _ _ _ _ _ (λh2 hg k2=>?_) (λh2 hg k2=>?_)
  ·(repeat simp -dsimp -implicitDefEqProofs (disch:=omega) only [↓rP,rA,↓reduceIte,reduceEqDiff,reduceAdd,reduceLeDiff,↓tyr])
   exact hret _ (all_no hx (by rw [e];exact hg)) (kp1.go k2)
  ·(repeat simp -dsimp -implicitDefEqProofs (disch:=omega) only [↓rP,rA,↓reduceIte,reduceEqDiff,reduceAdd,reduceLeDiff,↓tyr,wkS k (by omega)])
   rw [z07,hI];exact ⟨_,by omega,k+1,by omega,rfl,z2c hup hx (by rw [e];exact hg),kp1.go k2,rfl⟩
 ·have hke:k=(slL c.Threads).length:=by omega
  subst hke
  (repeat simp -dsimp -implicitDefEqProofs (disch:=omega) only [↓rP,rA,↓reduceIte,reduceEqDiff,reduceAdd,reduceLeDiff,↓tyr])
  exact hex hh (zsl hup) kp
theorem g_threads (c:Cd) (hc:c.ok) (sm:Small c) (hbd:(slL c.Threads).all (za3 c)=true) (h0:z00) (Q:z1z->Fr->z00->Prop)
  (hret:∀ h2,allK (λi b=>allK (λk x=>z8m c i b x k) (slL b.Code)) (slL c.Threads)=false->Keeps h0 h2 (λ_=>False)->Q .ret (frOf [(2,.bool false)]) h2)
  (hex:∀ h2,allK (λi b=>allK (λk x=>z8m c i b x k) (slL b.Code)) (slL c.Threads)=true->Keeps h0 h2 (λ_=>False)->Q (.exit 14) (frOf []) h2) :
  WP Tryd.prog 324 (.loop z4j) (frOf [(1,.iptr c.cells),(304,slAV 3 z0m.cells c.Threads),(305,.int .i64 (slL c.Threads).length),(306,.int .i64 0)]) h0 Q:=by
 have hth:=sm.threads;obtain ⟨I,hI⟩:∃ I:Nat->Fr->z00->Prop,I=(λn fr hh=>∃ k:Nat,k<=(slL c.Threads).length/\n=(slL c.Threads).length-k/\upTo (λi b=>allK (λk x=>z8m c i b x k) (slL b.Code)) (slL c.Threads) k/\Keeps h0 hh (λ_=>False)/\fr=frOf [(1,.iptr c.cells),(304,slAV 3 z0m.cells c.Threads),(305,.int .i64 (slL c.Threads).length),(306,.int .i64 k)]):=⟨_,rfl⟩;refine z1i z0d (by kernel_rfl) I (slL c.Threads).length (by rw [hI];exact ⟨0,by omega,by omega,z2k _ _,.refl _ _,rfl⟩) ?_;intro n fr hh H;rw [hI] at H;obtain ⟨k,hk,rfl,hup,kp,rfl⟩:=H;apply zai
 (repeat simp -dsimp -implicitDefEqProofs (disch:=omega) only [↓rP,rA,↓reduceIte,reduceEqDiff,reduceAdd,reduceLeDiff,↓tyr])
 refine z09 (λhkl=>?_) (λhkl=>?_)
 ·obtain ⟨b,hx⟩:∃ b,(slL c.Threads)[k]?=some b:=⟨_,List.getElem?_eq_getElem (by omega)⟩;have kp1:=kp.go (Keeps.one hh (.row 52 b.cells));have hsl:∀ l∈slL b.Slots,z18 c l=true:=by
   have:=List.all_eq_true.1 hbd b (List.mem_of_getElem? hx);unfold za3 at this;rw [Bool.and_eq_true] at this;exact List.all_eq_true.1 this.2
  (repeat simp -dsimp -implicitDefEqProofs (disch:=omega) only [↓rP,rA,↓reduceIte,reduceEqDiff,reduceAdd,reduceLeDiff,↓tyr,z06 hx])
  refine g_instrs c hc sm k b hx hsl _ _ _ _ _ (λhg=>?_) (λhg=>?_)
  ·(repeat simp -dsimp -implicitDefEqProofs (disch:=omega) only [↓rP,rA,↓reduceIte,reduceEqDiff,reduceAdd,reduceLeDiff,↓tyr])
   exact hret _ (z3f hx hg) kp1
  ·(repeat simp -dsimp -implicitDefEqProofs (disch:=omega) only [↓rP,rA,↓reduceIte,reduceEqDiff,reduceAdd,reduceLeDiff,↓tyr,wkS k (by omega)])
   rw [z07,hI];exact ⟨_,by omega,k+1,by omega,rfl,z2c hup hx hg,kp1,rfl⟩
 ·have hke:k=(slL c.Threads).length:=by omega
  subst hke
  (repeat simp -dsimp -implicitDefEqProofs (disch:=omega) only [↓rP,rA,↓reduceIte,reduceEqDiff,reduceAdd,reduceLeDiff,↓tyr])
  exact hex hh (z6w hup) kp
end
section
open Go.Abs
def sepP (i:Nat) (s:z04) (j:Nat) (o:z04):Bool:=decide (j=i)||!ze5 s o
def secR (c:Cd) (i:Nat) (s:z04):Bool:=z95 c i s&&allK (sepP i s) (slL c.Sections)
theorem g_sep (c:Cd) (sm:Small c) (i:Nat) (hi:i<=1000) (s:z04) (a134 a135 a136:AV) (h0:z00) (id:Nat) (hid:id<h0.next) (ho:h0.objs id=some (.row 54 s.cells)) (Q:z1z->Fr->z00->Prop)
  (hret:∀ h2,allK (sepP i s) (slL c.Sections)=false->Keeps h0 h2 (λ_=>False)->Q .ret (frOf [(2,.bool false)]) h2)
  (hex:∀ h2,allK (sepP i s) (slL c.Sections)=true->Keeps h0 h2 (λ_=>False)->Q (.exit 10) (frOf [(1,.iptr c.cells),(134,a134),(135,a135),(136,a136)]) h2) :
  WP Tryd.prog 324 (.loop z4h) (frOf [(1,.iptr c.cells),(12,.int .i64 i),(13,.ptr id 0),(134,a134),(135,a135),(136,a136),(214,slAV 3 z04.cells c.Sections),(215,.int .i64 (slL c.Sections).length),(216,.int .i64 0)]) h0 Q:=by
 have hsec:=sm.secs;obtain ⟨I,hI⟩:∃ I:Nat->Fr->z00->Prop,I=(λn fr hh=>∃ k:Nat,k<=(slL c.Sections).length/\n=(slL c.Sections).length-k/\upTo (sepP i s) (slL c.Sections) k/\Keeps h0 hh (λ_=>False)/\fr=frOf [(1,.iptr c.cells),(12,.int .i64 i),(13,.ptr id 0),(134,a134),(135,a135),(136,a136),(214,slAV 3 z04.cells c.Sections),(215,.int .i64 (slL c.Sections).length),(216,.int .i64 k)]):=⟨_,rfl⟩;refine z1i z0d (by kernel_rfl) I (slL c.Sections).length (by rw [hI];exact ⟨0,by omega,by omega,z2k _ _,.refl _ _,rfl⟩) ?_;intro n fr hh H;rw [hI] at H;obtain ⟨k,hk,rfl,hup,kp,rfl⟩:=H;apply zaf
 (repeat (first | simp -dsimp -implicitDefEqProofs (disch:=omega) only [↓rP,rA,↓reduceIte,reduceEqDiff,reduceAdd,reduceLeDiff,↓tyr] | refine Cut.go ?_))
 refine z09 (λhkl=>?_) (λhkl=>?_)
 ·obtain ⟨o,hx⟩:∃ o,(slL c.Sections)[k]?=some o:=⟨_,List.getElem?_eq_getElem (by omega)⟩;have kp1:=kp.go (Keeps.one hh (.row 54 o.cells));have ho2:(hh.push (.row 54 o.cells)).objs id=some (.row 54 s.cells):=by
   have:=kp.next;simp only [z00.z3l];rw [if_neg (by omega),kp.objs id hid (by simp),ho]
  have ld:∀ (off:Nat) (q:Option Nat) (K:AV->Prop),z0t q (.ptr id off) (hh.push (.row 54 o.cells)) K=z03 q s.cells off K:=λoff q K=>z0b ho2 q K;have no:sepP i s k o=false->Q .ret (frOf [(2,.bool false)]) (hh.push (.row 54 o.cells)):=λhp=>hret _ (z3f hx hp) kp1;have on:sepP i s k o=true->z3v I ((slL c.Sections).length-k) Q .normal (frOf [(1,.iptr c.cells),(12,.int .i64 i),(13,.ptr id 0),(134,a134),(135,a135),(136,a136),(214,slAV 3 z04.cells c.Sections),(215,.int .i64 (slL c.Sections).length),(216,.int .i64 (k+1:Nat))]) (hh.push (.row 54 o.cells)):=λhp=>by
   rw [z07,hI];exact ⟨_,by omega,k+1,by omega,rfl,z2c hup hx hp,kp1,rfl⟩
  have wk:=wkS k (by omega);have end1:sepP i s k o=true\/sepP i s k o=false:=by cases sepP i s k o <;> simp
  have isno:k≠i->o.Thread=s.Thread->s.From<=o.To->o.From<=s.To->sepP i s k o=false:=λa1 a2 a3 a4=>by simp [sepP,ze5,a1,a2,a3,a4]
  have ison:(k=i\/o.Thread≠s.Thread\/o.To<s.From\/s.To<o.From)->sepP i s k o=true:=λh=>by
   simp only [sepP,ze5,Bool.or_eq_true,decide_eq_true_eq,Bool.not_eq_true',Bool.and_eq_false_iff,decide_eq_false_iff_not];omega
  repeat' (first | (simp -dsimp -implicitDefEqProofs (disch:=omega) only [↓rP,rA,↓reduceIte,reduceEqDiff,reduceAdd,reduceLeDiff,↓tyr,z06 hx,↓ld,wk]) | with_reducible refine Cut.go ?_ | with_reducible refine z0p (λ_=>?_) (λ_=>?_) | with_reducible refine z0v (λ_=>?_) (λ_=>?_) | with_reducible refine z09 (λ_=>?_) (λ_=>?_) | with_reducible refine z0y (λ_=>?_) (λ_=>?_) | with_reducible refine Split_not ?_)
  all_goals first
   | exact on (ison (by omega))
   | exact no (isno (by omega) (by omega) (by omega) (by omega))
 ·have hke:k=(slL c.Sections).length:=by omega
  subst hke
  (repeat (first | simp -dsimp -implicitDefEqProofs (disch:=omega) only [↓rP,rA,↓reduceIte,reduceEqDiff,reduceAdd,reduceLeDiff,↓tyr] | refine Cut.go ?_))
  exact hex hh (z6w hup) kp
theorem g_sections (c:Cd) (sm:Small c) (h0:z00) (Q:z1z->Fr->z00->Prop)
  (hret:∀ h2,allK (secR c) (slL c.Sections)=false->Keeps h0 h2 (λ_=>False)->Q .ret (frOf [(2,.bool false)]) h2)
  (hex:∀ h2,allK (secR c) (slL c.Sections)=true->Keeps h0 h2 (λ_=>False)->Q (.exit 8) (frOf [(1,.iptr c.cells)]) h2) :
  WP Tryd.prog 324 (.loop z4g) (frOf [(1,.iptr c.cells),(134,slAV 3 z04.cells c.Sections),(135,.int .i64 (slL c.Sections).length),(136,.int .i64 0)]) h0 Q:=by
 have hsec:=sm.secs;obtain ⟨I,hI⟩:∃ I:Nat->Fr->z00->Prop,I=(λn fr hh=>∃ k:Nat,k<=(slL c.Sections).length/\n=(slL c.Sections).length-k/\upTo (secR c) (slL c.Sections) k/\Keeps h0 hh (λ_=>False)/\fr=frOf [(1,.iptr c.cells),(134,slAV 3 z04.cells c.Sections),(135,.int .i64 (slL c.Sections).length),(136,.int .i64 k)]):=⟨_,rfl⟩;refine z1i z0d (by kernel_rfl) I (slL c.Sections).length (by rw [hI];exact ⟨0,by omega,by omega,z2k _ _,.refl _ _,rfl⟩) ?_;intro n fr hh H;rw [hI] at H;obtain ⟨k,hk,rfl,hup,kp,rfl⟩:=H;apply zae
 (repeat (first | simp -dsimp -implicitDefEqProofs (disch:=omega) only [↓rP,rA,↓reduceIte,reduceEqDiff,reduceAdd,reduceLeDiff,↓tyr] | refine Cut.go ?_))
 refine z09 (λhkl=>?_) (λhkl=>?_)
 ·obtain ⟨s,hx⟩:∃ s,(slL c.Sections)[k]?=some s:=⟨_,List.getElem?_eq_getElem (by omega)⟩;have kp1:=kp.go (Keeps.one hh (.row 54 s.cells));have no:z95 c k s=false->Q .ret (frOf [(2,.bool false)]) (hh.push (.row 54 s.cells)):=λhp=>hret _ (z3f hx (by unfold secR;rw [hp];rfl)) kp1
  (repeat (first | simp -dsimp -implicitDefEqProofs (disch:=omega) only [↓rP,rA,↓reduceIte,reduceEqDiff,reduceAdd,reduceLeDiff,↓tyr,z06 hx] | refine Cut.go ?_))
  refine z01.go (z1e _ _ _) ?_
  cases hb:getI (slL c.Threads) s.Thread with
  | none=>
   have hbt:=z2i.2 hb
   (repeat (first | simp -dsimp -implicitDefEqProofs (disch:=omega) only [↓rP,rA,↓reduceIte,reduceEqDiff,reduceAdd,reduceLeDiff,↓tyr,hbt,Bool.not_false] | refine Cut.go ?_))
   exact no (by simp [z95,z4a,hb])
  | some b=>
   have hbt:=z1l.2 ⟨b,hb⟩
   (repeat (first | simp -dsimp -implicitDefEqProofs (disch:=omega) only [↓rP,rA,↓reduceIte,reduceEqDiff,reduceAdd,reduceLeDiff,↓tyr,hbt,Bool.not_true] | refine Cut.go ?_))
   refine z01.go (z1e _ _ _) ?_;rcases h1:btw s.From s.To with _ | _
   ·(repeat (first | simp -dsimp -implicitDefEqProofs (disch:=omega) only [↓rP,rA,↓reduceIte,reduceEqDiff,reduceAdd,reduceLeDiff,↓tyr,hbt,h1,Bool.not_false] | refine Cut.go ?_))
    exact no (by unfold z95;unfold btw at h1;rw [h1];rfl)
   have h1':0<=s.From/\s.From<s.To:=by simpa [btw] using h1
   (repeat (first | simp -dsimp -implicitDefEqProofs (disch:=omega) only [↓rP,rA,↓reduceIte,reduceEqDiff,reduceAdd,reduceLeDiff,↓tyr,hbt,h1,Bool.not_true,ixI hb] | refine Cut.go ?_))
   refine z01.go (z1e _ _ _) ?_;rcases h2:btw s.To (slL b.Code).length with _ | _
   ·(repeat (first | simp -dsimp -implicitDefEqProofs (disch:=omega) only [↓rP,rA,↓reduceIte,reduceEqDiff,reduceAdd,reduceLeDiff,↓tyr,hbt,h1,h2,Bool.not_false] | refine Cut.go ?_))
    exact no (by simp [z95,z4a,hb,z5b h2])
   have h2':0<=s.To/\s.To<(slL b.Code).length:=by simpa [btw] using h2
   obtain ⟨x,hxx⟩:∃ x,getI (slL b.Code) s.From=some x:=z1l.1 (by unfold btw;simp;omega);obtain ⟨y,hyy⟩:∃ y,getI (slL b.Code) s.To=some y:=z1l.1 h2
   (repeat (first | simp -dsimp -implicitDefEqProofs (disch:=omega) only [↓rP,rA,↓reduceIte,reduceEqDiff,reduceAdd,reduceLeDiff,↓tyr,hbt,h1,h2,Bool.not_true,ixI hb,ixI hxx,ixI hyy] | refine Cut.go ?_))
   refine z0v (λh4=>?_) (λh4=>?_)
   ·(repeat (first | simp -dsimp -implicitDefEqProofs (disch:=omega) only [↓rP,rA,↓reduceIte,reduceEqDiff,reduceAdd,reduceLeDiff,↓tyr] | refine Cut.go ?_))
    exact no (by simp [z95,z4a,hb,hxx,h4])
   (repeat (first | simp -dsimp -implicitDefEqProofs (disch:=omega) only [↓rP,rA,↓reduceIte,reduceEqDiff,reduceAdd,reduceLeDiff,↓tyr,ixI hb,ixI hxx,ixI hyy] | refine Cut.go ?_))
   refine z0v (λh5=>?_) (λh5=>?_)
   ·(repeat (first | simp -dsimp -implicitDefEqProofs (disch:=omega) only [↓rP,rA,↓reduceIte,reduceEqDiff,reduceAdd,reduceLeDiff,↓tyr] | refine Cut.go ?_))
    exact no (by simp [z95,z4a,hb,hxx,h5])
   (repeat (first | simp -dsimp -implicitDefEqProofs (disch:=omega) only [↓rP,rA,↓reduceIte,reduceEqDiff,reduceAdd,reduceLeDiff,↓tyr,ixI hb,ixI hxx,ixI hyy] | refine Cut.go ?_))
   refine z0v (λh6=>?_) (λh6=>?_)
   ·(repeat (first | simp -dsimp -implicitDefEqProofs (disch:=omega) only [↓rP,rA,↓reduceIte,reduceEqDiff,reduceAdd,reduceLeDiff,↓tyr] | refine Cut.go ?_))
    exact no (by simp [z95,z4a,hb,hyy,h6])
   (repeat (first | simp -dsimp -implicitDefEqProofs (disch:=omega) only [↓rP,rA,↓reduceIte,reduceEqDiff,reduceAdd,reduceLeDiff,↓tyr,ixI hb,ixI hxx,ixI hyy] | refine Cut.go ?_))
   refine z0v (λh7=>?_) (λh7=>?_)
   ·(repeat (first | simp -dsimp -implicitDefEqProofs (disch:=omega) only [↓rP,rA,↓reduceIte,reduceEqDiff,reduceAdd,reduceLeDiff,↓tyr] | refine Cut.go ?_))
    exact no (by simp [z95,z4a,hb,hyy,h7])
   have he:z95 c k s=true:=by
    simp only [z95,z4a,hb,hxx,hyy,h4,h5,h6,h7,decide_true,Bool.and_true,Bool.and_eq_true,decide_eq_true_eq];omega
   (repeat (first | simp -dsimp -implicitDefEqProofs (disch:=omega) only [↓rP,rA,↓reduceIte,reduceEqDiff,reduceAdd,reduceLeDiff,↓tyr] | refine Cut.go ?_))
   refine g_sep c sm k (by omega) s _ _ _ _ hh.next (by simp) (by simp) _ (λh3 hg k3=>?_) (λh3 hg k3=>?_)
   ·(repeat (first | simp -dsimp -implicitDefEqProofs (disch:=omega) only [↓rP,rA,↓reduceIte,reduceEqDiff,reduceAdd,reduceLeDiff,↓tyr] | refine Cut.go ?_))
    exact hret _ (z3f hx (by unfold secR;rw [hg,Bool.and_false])) (kp1.go k3)
   ·(repeat (first | simp -dsimp -implicitDefEqProofs (disch:=omega) only [↓rP,rA,↓reduceIte,reduceEqDiff,reduceAdd,reduceLeDiff,↓tyr,wkS k (by omega)] | refine Cut.go ?_))
    rw [z07,hI];exact ⟨_,by omega,k+1,by omega,rfl,z2c hup hx (by unfold secR;rw [hg,he];rfl),kp1.go k3,rfl⟩
 ·have hke:k=(slL c.Sections).length:=by omega
  subst hke
  (repeat (first | simp -dsimp -implicitDefEqProofs (disch:=omega) only [↓rP,rA,↓reduceIte,reduceEqDiff,reduceAdd,reduceLeDiff,↓tyr] | refine Cut.go ?_))
  exact hex hh (z6w hup) kp
theorem g_sites (c:Cd) (sm:Small c) (h0:z00) (Q:z1z->Fr->z00->Prop)
  (hret:∀ h2,allK (z6a c) (slL c.Sites)=false->Keeps h0 h2 (λ_=>False)->Q .ret (frOf [(2,.bool false)]) h2)
  (hex:∀ h2,allK (z6a c) (slL c.Sites)=true->Keeps h0 h2 (λ_=>False)->Q (.exit 12) (frOf [(1,.iptr c.cells)]) h2) :
  WP Tryd.prog 324 (.loop z4i) (frOf [(1,.iptr c.cells),(249,slAV 3 z0s.cells c.Sites),(250,.int .i64 (slL c.Sites).length),(251,.int .i64 0)]) h0 Q:=by
 have hsi:=sm.sites;obtain ⟨I,hI⟩:∃ I:Nat->Fr->z00->Prop,I=(λn fr hh=>∃ k:Nat,k<=(slL c.Sites).length/\n=(slL c.Sites).length-k/\upTo (z6a c) (slL c.Sites) k/\Keeps h0 hh (λ_=>False)/\fr=frOf [(1,.iptr c.cells),(249,slAV 3 z0s.cells c.Sites),(250,.int .i64 (slL c.Sites).length),(251,.int .i64 k)]):=⟨_,rfl⟩;refine z1i z0d (by kernel_rfl) I (slL c.Sites).length (by rw [hI];exact ⟨0,by omega,by omega,z2k _ _,.refl _ _,rfl⟩) ?_;intro n fr hh H;rw [hI] at H;obtain ⟨k,hk,rfl,hup,kp,rfl⟩:=H;apply zah
 (repeat (first | simp -dsimp -implicitDefEqProofs (disch:=omega) only [↓rP,rA,↓reduceIte,reduceEqDiff,reduceAdd,reduceLeDiff,↓tyr] | refine Cut.go ?_))
 refine z09 (λhkl=>?_) (λhkl=>?_)
 ·obtain ⟨s,hx⟩:∃ s,(slL c.Sites)[k]?=some s:=⟨_,List.getElem?_eq_getElem (by omega)⟩;have kp1:=kp.go (Keeps.one hh (.row 59 s.cells));have no:z6a c k s=false->Q .ret (frOf [(2,.bool false)]) (hh.push (.row 59 s.cells)):=λhp=>hret _ (z3f hx hp) kp1
  (repeat (first | simp -dsimp -implicitDefEqProofs (disch:=omega) only [↓rP,rA,↓reduceIte,reduceEqDiff,reduceAdd,reduceLeDiff,↓tyr,z06 hx] | refine Cut.go ?_))
  refine z01.go (z1e _ _ _) ?_
  cases hb:getI (slL c.Threads) s.Thread with
  | none=>
   have hbt:=z2i.2 hb
   (repeat (first | simp -dsimp -implicitDefEqProofs (disch:=omega) only [↓rP,rA,↓reduceIte,reduceEqDiff,reduceAdd,reduceLeDiff,↓tyr,hbt,Bool.not_false] | refine Cut.go ?_))
   exact no (by simp [z6a,z4a,hb])
  | some b=>
   have hbt:=z1l.2 ⟨b,hb⟩
   (repeat (first | simp -dsimp -implicitDefEqProofs (disch:=omega) only [↓rP,rA,↓reduceIte,reduceEqDiff,reduceAdd,reduceLeDiff,↓tyr,hbt,ixI hb,Bool.not_true] | refine Cut.go ?_))
   refine z01.go (z1e _ _ _) ?_
   cases hx2:getI (slL b.Code) s.At with
   | none=>
    have hbt2:=z2i.2 hx2
    (repeat (first | simp -dsimp -implicitDefEqProofs (disch:=omega) only [↓rP,rA,↓reduceIte,reduceEqDiff,reduceAdd,reduceLeDiff,↓tyr,hbt,hbt2,Bool.not_false] | refine Cut.go ?_))
    exact no (by simp [z6a,z4a,hb,hx2])
   | some x=>
    have hbt2:=z1l.2 ⟨x,hx2⟩;have kp2:=kp1.go (Keeps.one _ (.row 49 x.cells));have ho2:∀ o,((hh.push (.row 59 s.cells)).push o).objs hh.next=some (.row 59 s.cells):=λo=>by simp
    have ld:∀ (o:AObj) (off:Nat) (q:Option Nat) (K:AV->Prop),z0t q (.ptr hh.next off) ((hh.push (.row 59 s.cells)).push o) K=z03 q s.cells off K:=λo off q K=>z0b (ho2 o) q K;have no2:z6a c k s=false->Q .ret (frOf [(2,.bool false)]) ((hh.push (.row 59 s.cells)).push (.row 49 x.cells)):=λhp=>hret _ (z3f hx hp) kp2;have on:z6a c k s=true->z3v I ((slL c.Sites).length-k) Q .normal (frOf [(1,.iptr c.cells),(249,slAV 3 z0s.cells c.Sites),(250,.int .i64 (slL c.Sites).length),(251,.int .i64 (k+1:Nat))]) ((hh.push (.row 59 s.cells)).push (.row 49 x.cells)):=λhm=>by
     rw [z07,hI];exact ⟨_,by omega,k+1,by omega,rfl,z2c hup hx hm,kp2,rfl⟩
    repeat' (first | (simp -dsimp -implicitDefEqProofs (disch:=omega) only [↓rP,rA,↓reduceIte,reduceEqDiff,reduceAdd,reduceLeDiff,↓tyr,hbt,hbt2,ixI hb,ixI hx2,↓ld,wkS k (by omega),Bool.not_true]) | refine Cut.go ?_ | refine z0p (λ_=>?_) (λ_=>?_) | refine z0v (λ_=>?_) (λ_=>?_) | refine z09 (λ_=>?_) (λ_=>?_) | refine z0y (λ_=>?_) (λ_=>?_) | refine Split.intro (λ_=>?_) (λ_=>?_))
    all_goals first
     | exact on (by simp [z6a,z4a,hb,hx2, *];try omega)
     | exact no2 (by simp [z6a,z4a,hb,hx2, *];try omega)
 ·have hke:k=(slL c.Sites).length:=by omega
  subst hke
  (repeat (first | simp -dsimp -implicitDefEqProofs (disch:=omega) only [↓rP,rA,↓reduceIte,reduceEqDiff,reduceAdd,reduceLeDiff,↓tyr] | refine Cut.go ?_))
  exact hex hh (z6w hup) kp
end
section
open Go.Abs
theorem fits_isl (sz:Nat) (es:List (List AV)):(AV.isl sz es).fits=true:=rfl
theorem cells_isl (sz:Nat) (es:List (List AV)):(AV.isl sz es).cells=[AV.isl sz es]:=rfl
theorem bsl_one (e:TypeId) (sz by_:Nat) (z cs:List AV) (h:z00) (K:AV->z00->Prop):z10 true { e:=e,sz:=sz,by_:=by_ } z 1 [(0,.agg cs)] h K=(sz<=16777216/\z.length=sz/\cs.length=sz/\K (.isl sz [cs]) h):=by
 simp [z10,zat,AV.fits,AV.cells];by_cases hc:cs.length=sz <;> simp [hc]
theorem bsl_two (e:TypeId) (sz by_:Nat) (z cs ds:List AV) (h:z00) (K:AV->z00->Prop):z10 true { e:=e,sz:=sz,by_:=by_ } z 2 [(0,.agg cs),(1,.agg ds)] h K=(2*sz<=16777216/\z.length=sz/\cs.length=sz/\ds.length=sz/\K (.isl sz [cs,ds]) h):=by
 simp [z10,zat,AV.fits,AV.cells];by_cases hc:cs.length=sz <;> by_cases hd:ds.length=sz <;> simp [hc,hd,List.replicate]
theorem zsp (c:Cd) (hc:c.ok) (hs:(slL c.Sections).length<=1000000) (hsi:(slL c.Sites).length<=1000000) (hg:(slL c.Globals).length<=1000000) (hr:∀ r∈slL c.Records,(slL r).length<=1000000) (h:z00):z01 Tryd.prog 14 [.agg c.cells] h (λv h2=>v=.bool (okC c)/\h2=h):=z01.forget (by simp [z1w]) (zlw c hc hs hsi hg hr h)
theorem zbf (c:Cd) (hc:c.ok) (s:Small c) (h:z00):z01 Tryd.prog 14 [.agg c.cells] h (λv h2=>v=.bool (okC c)/\h2=h):=zsp c hc (by have:=s.secs;omega) (by have:=s.sites;omega) (by have:=s.globs;omega) (λr hr=>by have:=s.fields r hr;omega) h
end
section
open Go.Abs
theorem zgj {c:Cd} (h:okC c=true):(slL c.Records).length<=6/\(slL c.Threads).length<=4/\z5y c (slL c.Globals) 8=true/\z5t c=true/\zdd c=true/\(slL c.Records).all (λr=>z5y c (slL r) 6)=true/\z8s c=true:=by
 unfold okC at h;simp only [Bool.and_eq_true,decide_eq_true_eq] at h;obtain ⟨⟨⟨⟨⟨⟨h1,h2⟩,h3⟩,h4⟩,h5⟩,h6⟩,h7⟩:=h;exact ⟨h1,h2,h3,h4,h5,h6,h7⟩
theorem meet_comm (s o:z04):ze5 s o=ze5 o s:=by
 unfold ze5;rw [Bool.eq_iff_iff];simp only [Bool.and_eq_true,decide_eq_true_eq];constructor <;> (rintro ⟨⟨a,b⟩,d⟩;exact ⟨⟨a.symm,d⟩,b⟩)
theorem secs_iff (c:Cd):allK (secB c) (slL c.Sections)=true↔allK (secR c) (slL c.Sections)=true:=by
 simp only [z2h];constructor
 ·intro h k s hs;have hk:=h k s hs;unfold secB at hk;rw [Bool.and_eq_true] at hk;unfold secR;rw [hk.1,Bool.true_and,z2h];intro j o hj;unfold sepP;by_cases e:j=k
  ·simp [e]
  ·have:ze5 s o=false:=by
    rcases Nat.lt_or_gt_of_ne e with hlt | hgt
    ·have:=List.all_eq_true.1 hk.2 o (List.mem_of_getElem? (i:=j) (by rw [List.getElem?_take_of_lt hlt,hj]));simpa using this
    ·have hj2:=h j o hj;unfold secB at hj2;rw [Bool.and_eq_true] at hj2;have:=List.all_eq_true.1 hj2.2 s (List.mem_of_getElem? (i:=k) (by rw [List.getElem?_take_of_lt hgt,hs]));rw [meet_comm];simpa using this
   simp [this]
 ·intro h k s hs;have hk:=h k s hs;unfold secR at hk;rw [Bool.and_eq_true,z2h] at hk;unfold secB;rw [hk.1,Bool.true_and,List.all_eq_true];intro o ho;obtain ⟨j,hj⟩:=List.getElem?_of_mem ho;have hjl:=(List.getElem?_eq_some_iff.1 hj).1;rw [List.length_take] at hjl;have hjk:j<k:=by omega
  rw [List.getElem?_take_of_lt hjk] at hj;have:=hk.2 j o hj;unfold sepP at this;simpa [show j≠k by omega] using this
theorem rows_iff (c:Cd) (hg:(slL c.Globals).length<=8):allK (rowP c) (c.Globals::slL c.Records)=true↔z5y c (slL c.Globals) 8=true/\(slL c.Records).all (λr=>z5y c (slL r) 6)=true:=by
 have e8:z5y c (slL c.Globals) 8=cellP c c.Globals:=by unfold z5y cellP;rw [decide_eq_true (by omega),Bool.true_and]
 rw [e8,z2h,List.all_eq_true];have e6:∀ (i:Nat) (r:Option (List Lo)),rowP c (i+1) r=z5y c (slL r) 6:=λi r=>by
  unfold rowP z5y cellP;by_cases h:(slL r).length<=6
  ·rw [decide_eq_false (show ¬ 6<(slL r).length by omega),decide_eq_true (show ((slL r).length:Int)<=6 by omega)];simp
  ·rw [decide_eq_true (show 6<(slL r).length by omega),decide_eq_false (show ¬ ((slL r).length:Int)<=6 by omega)];simp
 constructor
 ·intro h;refine ⟨by have:=h 0 _ rfl;simpa [rowP] using this,λr hr=>?_⟩;obtain ⟨i,hi⟩:=List.getElem?_of_mem hr;rw [<-e6 i r];exact h (i+1) r (by simpa using hi)
 ·rintro ⟨h1,h2⟩ k o hk
  cases k with
  | zero=>simp at hk;subst hk;simpa [rowP] using h1
  | succ k=>rw [e6];exact h2 o (List.mem_of_getElem? (by simpa using hk))
theorem zll (c:Cd):z8s c=true↔(slL c.Threads).all (za3 c)=true/\allK (λi b=>allK (λk x=>z8m c i b x k) (slL b.Code)) (slL c.Threads)=true:=by
 have halt:∀ (i:Nat) (b:Bd) (x:In) (k:Nat),z1a c i b x k=true->x.Op=17->(k:Int)=(slL b.Code).length-1:=λi b x k hi ho=>by
  unfold z1a at hi;rw [if_neg (by omega),if_neg (by omega),if_neg (by omega),if_neg (by omega),if_neg (by omega),if_neg (by omega),if_neg (by omega),if_neg (by omega)] at hi;simp only [Bool.and_eq_true,decide_eq_true_eq] at hi;exact hi.2
 unfold z8s;constructor
 ·intro h;rw [z2h] at h;have part:∀ (i:Nat) (b:Bd),(slL c.Threads)[i]?=some b->za3 c b=true/\lastB b=true/\zbl c i b=true:=λi b hb=>by
   have:=h i b hb;unfold z7m at this;simpa [and_assoc] using this
  refine ⟨List.all_eq_true.2 λb hb=>?_,z2h.2 λi b hb=>z2h.2 λk x hx=>?_⟩
  ·obtain ⟨i,hi⟩:=List.getElem?_of_mem hb;exact (part i b hi).1
  ·obtain ⟨-,h2,h3⟩:=part i b hb;have hi:=z2h.1 h3 k x hx;unfold z8m;rw [hi,Bool.true_and];by_cases ho:x.Op=17
   ·rw [decide_eq_true ho,decide_eq_true (halt i b x k hi ho)];rfl
   ·have:¬ ((k:Int)=(slL b.Code).length-1):=λe=>by
     unfold lastB at h2;rw [<-e,z2e,hx] at h2;exact ho (by simpa using h2)
    rw [decide_eq_false ho,decide_eq_false this];rfl
 ·rintro ⟨h1,h2⟩;rw [z2h] at h2 ⊢;intro i b hb;have hbd:=List.all_eq_true.1 h1 b (List.mem_of_getElem? hb);have hin:=h2 i b hb;rw [z2h] at hin;have hpos:1<=(slL b.Code).length:=by
   unfold za3 at hbd;simp only [Bool.and_eq_true,decide_eq_true_eq] at hbd;exact hbd.1.1.1.1.2
  have e1:zbl c i b=true:=z2h.2 λk x hx=>by
   have:=hin k x hx;unfold z8m at this;rw [Bool.and_eq_true] at this;exact this.1
  have e2:lastB b=true:=by
   obtain ⟨x,hx⟩:∃ x,(slL b.Code)[(slL b.Code).length-1]?=some x:=⟨_,List.getElem?_eq_getElem (by omega)⟩;have e:((slL b.Code).length:Int)-1=(((slL b.Code).length-1:Nat):Int):=by omega
   have:=hin _ x hx;unfold z8m at this;rw [Bool.and_eq_true,<-e] at this;unfold lastB;rw [e,z2e,hx];simpa using this.2
  unfold z7m;rw [hbd,e2,e1];rfl
theorem z9d (c:Cd):okC c=true↔(slL c.Records).length<=6/\(slL c.Globals).length<=8/\(slL c.Threads).length<=4/\(slL c.Sites).length<=32/\(slL c.Sections).length<=32/\allK (rowP c) (c.Globals::slL c.Records)=true/\(slL c.Threads).all (za3 c)=true/\allK (secR c) (slL c.Sections)=true/\allK (z6a c) (slL c.Sites)=true/\allK (λi b=>allK (λk x=>z8m c i b x k) (slL b.Code)) (slL c.Threads)=true:=by
 constructor
 ·intro h;obtain ⟨h1,h2,h3,h4,h5,h6,h7⟩:=zgj h;have hg:(slL c.Globals).length<=8:=by
   unfold z5y at h3;simp only [Bool.and_eq_true,decide_eq_true_eq] at h3;omega
  unfold z5t at h4;unfold zdd at h5;simp only [Bool.and_eq_true,decide_eq_true_eq] at h4 h5;have ht:=(zll c).1 h7;exact ⟨h1,hg,h2,h5.1,h4.1,(rows_iff c hg).2 ⟨h3,h6⟩,ht.1,(secs_iff c).1 h4.2,h5.2,ht.2⟩
 ·rintro ⟨h1,hg,h2,h3,h4,h5,h6,h7,h8,h9⟩;obtain ⟨r1,r2⟩:=(rows_iff c hg).1 h5;unfold okC z5t zdd;rw [decide_eq_true h1,decide_eq_true h2,r1,r2,decide_eq_true h4,decide_eq_true h3,(secs_iff c).2 h7,h8,(zll c).2 ⟨h6,h9⟩]
  rfl
theorem keeps_kill {h g:z00} (k:Keeps h g (λ_=>False)) {id:Nat} (hid:h.next<=id):Keeps h (g.kill id) (λ_=>False):=
 ⟨k.next,λi hi hs=>by simp only [z00.z5r];rw [if_neg (by omega)];exact k.objs i hi hs⟩
theorem ref_Good_k (c:Cd) (hc:c.ok) (sm:Small c) (h:z00):z01 Tryd.prog 7 [.agg c.cells] h (λv h2=>v=.bool (okC c)/\Keeps h h2 (λ_=>False)):=by
 have no:∀ {p:Prop},(okC c=true->p)->¬ p->okC c=false:=λhp hn=>by
  rw [Bool.eq_false_iff];exact λe=>hn (hp e)
 have hrec:=sm.recs;have hgl:=sm.globs;apply zd2
 (repeat (first | simp -dsimp -implicitDefEqProofs (disch:=omega) only [↓rP,rA,↓reduceIte,reduceEqDiff,reduceAdd,reduceLeDiff,↓tyr] | refine Cut.go ?_))
 refine z09 (λh1=>?_) (λh1=>?_)
 ·(repeat (first | simp -dsimp -implicitDefEqProofs (disch:=omega) only [↓rP,rA,↓reduceIte,reduceEqDiff,reduceAdd,reduceLeDiff,↓tyr] | refine Cut.go ?_))
  rw [no (λe=>((z9d c).1 e).1) (by omega)]
  (first | (refine And.intro (by simp) ?_;(repeat (first | assumption | with_reducible exact Keeps.refl _ _ | with_reducible refine Keeps.go ?_ (Keeps.one _ _) | with_reducible refine Keeps.go ?_ (by assumption)))) | (repeat (first | assumption | with_reducible exact Keeps.refl _ _ | with_reducible refine Keeps.go ?_ (Keeps.one _ _) | with_reducible refine Keeps.go ?_ (by assumption))))
 (repeat (first | simp -dsimp -implicitDefEqProofs (disch:=omega) only [↓rP,rA,↓reduceIte,reduceEqDiff,reduceAdd,reduceLeDiff,↓tyr] | refine Cut.go ?_))
 refine z09 (λh2=>?_) (λh2=>?_)
 ·(repeat (first | simp -dsimp -implicitDefEqProofs (disch:=omega) only [↓rP,rA,↓reduceIte,reduceEqDiff,reduceAdd,reduceLeDiff,↓tyr] | refine Cut.go ?_))
  rw [no (λe=>((z9d c).1 e).2.1) (by omega)]
  (first | (refine And.intro (by simp) ?_;(repeat (first | assumption | with_reducible exact Keeps.refl _ _ | with_reducible refine Keeps.go ?_ (Keeps.one _ _) | with_reducible refine Keeps.go ?_ (by assumption)))) | (repeat (first | assumption | with_reducible exact Keeps.refl _ _ | with_reducible refine Keeps.go ?_ (Keeps.one _ _) | with_reducible refine Keeps.go ?_ (by assumption))))
 (repeat (first | simp -dsimp -implicitDefEqProofs (disch:=omega) only [↓rP,rA,↓reduceIte,reduceEqDiff,reduceAdd,reduceLeDiff,↓tyr] | refine Cut.go ?_))
 refine z09 (λh3=>?_) (λh3=>?_)
 ·(repeat (first | simp -dsimp -implicitDefEqProofs (disch:=omega) only [↓rP,rA,↓reduceIte,reduceEqDiff,reduceAdd,reduceLeDiff,↓tyr] | refine Cut.go ?_))
  rw [no (λe=>((z9d c).1 e).2.2.1) (by omega)]
  (first | (refine And.intro (by simp) ?_;(repeat (first | assumption | with_reducible exact Keeps.refl _ _ | with_reducible refine Keeps.go ?_ (Keeps.one _ _) | with_reducible refine Keeps.go ?_ (by assumption)))) | (repeat (first | assumption | with_reducible exact Keeps.refl _ _ | with_reducible refine Keeps.go ?_ (Keeps.one _ _) | with_reducible refine Keeps.go ?_ (by assumption))))
 (repeat (first | simp -dsimp -implicitDefEqProofs (disch:=omega) only [↓rP,rA,↓reduceIte,reduceEqDiff,reduceAdd,reduceLeDiff,↓tyr] | refine Cut.go ?_))
 refine z09 (λh4=>?_) (λh4=>?_)
 ·(repeat (first | simp -dsimp -implicitDefEqProofs (disch:=omega) only [↓rP,rA,↓reduceIte,reduceEqDiff,reduceAdd,reduceLeDiff,↓tyr] | refine Cut.go ?_))
  rw [no (λe=>((z9d c).1 e).2.2.2.1) (by omega)]
  (first | (refine And.intro (by simp) ?_;(repeat (first | assumption | with_reducible exact Keeps.refl _ _ | with_reducible refine Keeps.go ?_ (Keeps.one _ _) | with_reducible refine Keeps.go ?_ (by assumption)))) | (repeat (first | assumption | with_reducible exact Keeps.refl _ _ | with_reducible refine Keeps.go ?_ (Keeps.one _ _) | with_reducible refine Keeps.go ?_ (by assumption))))
 (repeat (first | simp -dsimp -implicitDefEqProofs (disch:=omega) only [↓rP,rA,↓reduceIte,reduceEqDiff,reduceAdd,reduceLeDiff,↓tyr] | refine Cut.go ?_))
 refine z09 (λh5=>?_) (λh5=>?_)
 ·(repeat (first | simp -dsimp -implicitDefEqProofs (disch:=omega) only [↓rP,rA,↓reduceIte,reduceEqDiff,reduceAdd,reduceLeDiff,↓tyr] | refine Cut.go ?_))
  rw [no (λe=>((z9d c).1 e).2.2.2.2.1) (by omega)]
  (first | (refine And.intro (by simp) ?_;(repeat (first | assumption | with_reducible exact Keeps.refl _ _ | with_reducible refine Keeps.go ?_ (Keeps.one _ _) | with_reducible refine Keeps.go ?_ (by assumption)))) | (repeat (first | assumption | with_reducible exact Keeps.refl _ _ | with_reducible refine Keeps.go ?_ (Keeps.one _ _) | with_reducible refine Keeps.go ?_ (by assumption))))
 have bs:∀ K:AV->z00->Prop,z10 false { e:=23,sz:=1,by_:=24 } [AV.nils] 1 [(0,slAV 3 z08.cells c.Globals)] h K=K (.sl h.next 0 1 1) (h.push (.row 23 [slAV 3 z08.cells c.Globals])):=λK=>by
  simp [z10,zat,zg2,zhc]
 have ap:∀ K:AV->z00->Prop,z1x false { e:=23,sz:=1,by_:=24 } (.sl h.next 0 1 1) (slAV 1 (λo=>[slAV 3 z08.cells o]) c.Records) (h.push (.row 23 [slAV 3 z08.cells c.Globals])) K
   =K (.sl (h.next+1) 0 (c.Globals::slL c.Records).length 1) (((h.push (.row 23 [slAV 3 z08.cells c.Globals])).kill h.next).push (.row 23 ((c.Globals::slL c.Records).map λo=>slAV 3 z08.cells o))):=λK=>by
  have ef:((slL c.Records).map λo=>[slAV 3 z08.cells o]).flatten=(slL c.Records).map λo=>slAV 3 z08.cells o:=by
   induction slL c.Records with
   | nil=>rfl
   | cons a l ih=>simp [ih]
  simp only [z1x,zh7,z00.z3l,if_true];rw [ef];simp [bounded,maxLen,Nat.add_comm];intro;omega
 (repeat (first | simp -dsimp -implicitDefEqProofs (disch:=omega) only [↓rP,rA,↓reduceIte,reduceEqDiff,reduceAdd,reduceLeDiff,↓tyr,↓bs,↓ap] | refine Cut.go ?_))
 have kH:Keeps h (((h.push (.row 23 [slAV 3 z08.cells c.Globals])).kill h.next).push (.row 23 ((c.Globals::slL c.Records).map λo=>slAV 3 z08.cells o))) (λ_=>False):=(keeps_kill (Keeps.one _ _) (Nat.le_refl _)).go (Keeps.one _ _);have hfl:∀ o∈(c.Globals::slL c.Records),(slL o).length<=1000:=λo ho=>by
  rcases List.mem_cons.1 ho with rfl | ho
  ·omega
  ·have:=sm.fields o ho;omega
 refine g_rows c (c.Globals::slL c.Records) (by simp;omega) hfl _ (h.next+1) (by simp) (by simp) _ (λh6 hg k6=>?_) (λh6 hg k6=>?_)
 ·(repeat (first | simp -dsimp -implicitDefEqProofs (disch:=omega) only [↓rP,rA,↓reduceIte,reduceEqDiff,reduceAdd,reduceLeDiff,↓tyr] | refine Cut.go ?_))
  rw [no (λe=>((z9d c).1 e).2.2.2.2.2.1) (by rw [hg];simp)];exact ⟨rfl,kH.go k6⟩
 (repeat (first | simp -dsimp -implicitDefEqProofs (disch:=omega) only [↓rP,rA,↓reduceIte,reduceEqDiff,reduceAdd,reduceLeDiff,↓tyr] | refine Cut.go ?_))
 refine g_bodies c sm h6 _ (λh7 hg7 k7=>?_) (λh7 hg7 k7=>?_)
 ·(repeat (first | simp -dsimp -implicitDefEqProofs (disch:=omega) only [↓rP,rA,↓reduceIte,reduceEqDiff,reduceAdd,reduceLeDiff,↓tyr] | refine Cut.go ?_))
  rw [no (λe=>((z9d c).1 e).2.2.2.2.2.2.1) (by rw [hg7];simp)];exact ⟨rfl,(kH.go k6).go k7⟩
 (repeat (first | simp -dsimp -implicitDefEqProofs (disch:=omega) only [↓rP,rA,↓reduceIte,reduceEqDiff,reduceAdd,reduceLeDiff,↓tyr] | refine Cut.go ?_))
 refine g_sections c sm h7 _ (λh8 hg8 k8=>?_) (λh8 hg8 k8=>?_)
 ·(repeat (first | simp -dsimp -implicitDefEqProofs (disch:=omega) only [↓rP,rA,↓reduceIte,reduceEqDiff,reduceAdd,reduceLeDiff,↓tyr] | refine Cut.go ?_))
  rw [no (λe=>((z9d c).1 e).2.2.2.2.2.2.2.1) (by rw [hg8];simp)];exact ⟨rfl,((kH.go k6).go k7).go k8⟩
 (repeat (first | simp -dsimp -implicitDefEqProofs (disch:=omega) only [↓rP,rA,↓reduceIte,reduceEqDiff,reduceAdd,reduceLeDiff,↓tyr] | refine Cut.go ?_))
 refine g_sites c sm h8 _ (λh9 hg9 k9=>?_) (λh9 hg9 k9=>?_)
 ·(repeat (first | simp -dsimp -implicitDefEqProofs (disch:=omega) only [↓rP,rA,↓reduceIte,reduceEqDiff,reduceAdd,reduceLeDiff,↓tyr] | refine Cut.go ?_))
  rw [no (λe=>((z9d c).1 e).2.2.2.2.2.2.2.2.1) (by rw [hg9];simp)];exact ⟨rfl,(((kH.go k6).go k7).go k8).go k9⟩
 (repeat (first | simp -dsimp -implicitDefEqProofs (disch:=omega) only [↓rP,rA,↓reduceIte,reduceEqDiff,reduceAdd,reduceLeDiff,↓tyr] | refine Cut.go ?_))
 refine g_threads c hc sm hg7 h9 _ (λh10 hg10 k10=>?_) (λh10 hg10 k10=>?_)
 ·(repeat (first | simp -dsimp -implicitDefEqProofs (disch:=omega) only [↓rP,rA,↓reduceIte,reduceEqDiff,reduceAdd,reduceLeDiff,↓tyr] | refine Cut.go ?_))
  rw [no (λe=>((z9d c).1 e).2.2.2.2.2.2.2.2.2) (by rw [hg10];simp)];exact ⟨rfl,((((kH.go k6).go k7).go k8).go k9).go k10⟩
 (repeat (first | simp -dsimp -implicitDefEqProofs (disch:=omega) only [↓rP,rA,↓reduceIte,reduceEqDiff,reduceAdd,reduceLeDiff,↓tyr] | refine Cut.go ?_))
 rw [(z9d c).2 ⟨by omega,by omega,by omega,by omega,by omega,hg,hg7,hg8,hg9,hg10⟩];exact ⟨rfl,((((kH.go k6).go k7).go k8).go k9).go k10⟩
theorem ref_Good_c (c:Cd) (hc:c.ok) (sm:Small c) (h:z00):z01 Tryd.prog 7 [.agg c.cells] h (λv h2=>v=.bool (okC c)/\h2=h):=z01.forget (by simp [z1w]) (ref_Good_k c hc sm h)
end
section
open Go.Abs
theorem rz_nils {H:z00} {D:Nat->Prop} (k:Nat):RzV H D .nils (.isl k []):=λc c' w F v hv=>by
 simp only [VRel] at hv ⊢;exact ⟨none,0,by simpa using hv,by simp,by simp,λh=>absurd rfl h⟩
def znx (l:List Int) (h:z00) (v:AV) (h2:z00):Prop:=
 (l=[]/\(v=.nils\/v=.eml)/\h2=h)\/(l≠[]/\v=.gsl h.next 1 (l.map encI)/\h2=h.push (.tok 3 l.length))
theorem clone_app (l:List Int) (hb:l.length<=1000) (h:z00) (K:AV->z00->Prop) (hK:∀ v h2,znx l h v h2->K v h2):z1x true { e:=3,sz:=1,by_:=8 } .eml (.isl 1 (l.map encI)) h K:=by
 cases l with
 | nil=>exact hK _ _ (Or.inl ⟨rfl,Or.inr rfl,rfl⟩)
 | cons x l=>
  have:=hK _ _ (Or.inr ⟨by simp,rfl,rfl⟩);simp only [z1x,z1v,List.map_cons,if_true,zgg,List.length_cons,List.length_map,Nat.mul_one] at this ⊢;exact ⟨by simp only [List.length_cons] at hb;simp [bounded,maxLen];omega,this⟩
theorem Clone_raw (o:Option (List Int)) (hb:(slL o).length<=1000) (h:z00):z01 Tryd.prog 90 [slAV 1 encI o] h (λv h2=>znx (slL o) h v h2):=by
 apply zbz;have b0:∀ (G:z00) (K:AV->z00->Prop),z10 false { e:=3,sz:=1,by_:=8 } [AV.int .i64 0] 0 [] G K=K .eml G:=λG K=>rfl
 cases o with
 | none=>
  have e:binA CmpK.slice .eql (slAV 1 encI none) .nils=some (.bool true):=rfl
  (repeat simp -dsimp -implicitDefEqProofs (disch:=omega) only [↓rP,rA,↓reduceIte,reduceEqDiff,reduceAdd,reduceLeDiff,↓tyr,e])
  exact Or.inl ⟨rfl,Or.inl rfl,rfl⟩
 | some l=>
  have ca:∀ (G:z00) (K:AV->z00->Prop),(∀ v h2,znx l G v h2->K v h2)->z1x true { e:=3,sz:=1,by_:=8 } .eml (slAV 1 encI (some l)) G K:=λG K hK=>clone_app l (by simpa using hb) G K hK
  cases l with
  | nil=>
   have e:binA CmpK.slice .eql (slAV 1 encI (some [])) .nils=some .unkb:=rfl
   (repeat simp -dsimp -implicitDefEqProofs (disch:=omega) only [↓rP,rA,↓reduceIte,reduceEqDiff,reduceAdd,reduceLeDiff,↓tyr,e])
   refine ⟨Or.inl ⟨rfl,Or.inl rfl,rfl⟩,?_⟩
   (repeat simp -dsimp -implicitDefEqProofs (disch:=omega) only [↓rP,rA,↓reduceIte,reduceEqDiff,reduceAdd,reduceLeDiff,↓tyr,↓b0])
   refine ca _ _ λv h2 hq=>?_
   (repeat simp -dsimp -implicitDefEqProofs (disch:=omega) only [↓rP,rA,↓reduceIte,reduceEqDiff,reduceAdd,reduceLeDiff,↓tyr])
   exact hq
  | cons x l=>
   have e:binA CmpK.slice .eql (slAV 1 encI (some (x::l))) .nils=some (.bool false):=rfl
   (repeat simp -dsimp -implicitDefEqProofs (disch:=omega) only [↓rP,rA,↓reduceIte,reduceEqDiff,reduceAdd,reduceLeDiff,↓tyr,e,↓b0])
   refine ca _ _ λv h2 hq=>?_
   (repeat simp -dsimp -implicitDefEqProofs (disch:=omega) only [↓rP,rA,↓reduceIte,reduceEqDiff,reduceAdd,reduceLeDiff,↓tyr])
   exact hq
def longP (p:z0l) (n:Int):z0l:=⟨p.Global,p.N,some (slL p.Fields++[n])⟩
theorem app_one {l:List Int} {h h2:z00} {v:AV} (hq:znx l h v h2) (hl:l.length<=100) (n:Int) (K:AV->z00->Prop) (hK:∀ id h3,Keeps h h3 (λ_=>False)->K (.gsl id 1 ((l++[n]).map encI)) h3):z1x true { e:=3,sz:=1,by_:=8 } v (.isl 1 [[.int .i64 n]]) h2 K:=by
 rcases hq with ⟨rfl,rfl | rfl,rfl⟩ | ⟨hne,rfl,rfl⟩
 ·have:=hK h2.next (h2.push (.tok 3 1)) (Keeps.one _ _);simp only [z1x,z1v,if_true,zgg];exact ⟨by simp [bounded,maxLen],this⟩
 ·have:=hK h2.next (h2.push (.tok 3 1)) (Keeps.one _ _);simp only [z1x,z1v,if_true,zgg];exact ⟨by simp [bounded,maxLen],this⟩
 ·have:=hK (h.next+1) (((h.push (.tok 3 l.length)).kill h.next).push (.tok 3 (l++[n]).length)) (((Keeps.one _ _).zkn (Nat.le_refl _)).z5e _);simp only [z1x,z1v,if_true,z19,List.length_map,Nat.mul_one,List.length_cons,List.length_nil,true_and];refine ⟨by simp [bounded,maxLen];omega,?_⟩;simpa [encI] using this
theorem zbk (D:Nat->Prop) (o:Option (List Int)):z1w D (slAV 1 encI o):=by
 cases o with
 | none=>exact trivial
 | some l=>
  show z9x D (l.map encI)
  induction l with
  | nil=>exact trivial
  | cons a l ih=>exact ⟨⟨trivial,trivial⟩,ih⟩
theorem longer_k (p:z0l) (hp:(slL p.Fields).length<=100) (n:Int) (h:z00):z01 Tryd.prog 86 [.agg p.cells,.int .i64 n] h (λv h2=>∃ id,v=.agg [.bool p.Global,.int .i64 p.N,.gsl id 1 ((slL p.Fields++[n]).map encI)]/\Keeps h h2 (λ_=>False)):=by
 apply zme;have b1:∀ (H:z00) (K:AV->z00->Prop),z10 true { e:=3,sz:=1,by_:=8 } [AV.int .i64 0] 1 [(0,.int .i64 n)] H K=K (.isl 1 [[.int .i64 n]]) H:=λH K=>by
  simp [z10,zat,AV.fits,AV.cells,List.replicate]
 (repeat simp -dsimp -implicitDefEqProofs (disch:=omega) only [↓rP,rA,↓reduceIte,reduceEqDiff,reduceAdd,reduceLeDiff,↓tyr,↓b1])
 refine (Clone_raw p.Fields (by omega) _).mono ?_;intro v h2 hq;have kc:Keeps (h.push (.row 40 [AV.bool false,AV.int .i64 0,AV.nils])) h2 (λ_=>False):=by
  rcases hq with ⟨_,_,rfl⟩ | ⟨_,_,rfl⟩
  ·exact Keeps.refl _ _
  ·exact Keeps.one _ _
 (repeat simp -dsimp -implicitDefEqProofs (disch:=omega) only [↓rP,rA,↓reduceIte,reduceEqDiff,reduceAdd,reduceLeDiff,↓tyr])
 refine app_one hq hp n _ λid h3 k3=>?_;have k4:Keeps (h.push (.row 40 [AV.bool false,AV.int .i64 0,AV.nils])) h3 (λ_=>False):=k3;have ob:h3.objs h.next=some (.row 40 [AV.bool false,AV.int .i64 0,AV.nils]):=by
  rw [k4.objs _ (Nat.lt_succ_self _) (by simp)];exact z19 _ _
 have fg:∀ a b c,(AV.gsl a b c).fits=true:=λ_ _ _=>rfl;have cg:∀ a b c,(AV.gsl a b c).cells=[AV.gsl a b c]:=λ_ _ _=>rfl;have st:∀ (vs:List AV) (K:z00->Prop),vs.length=3->z14 3 (.ptr h.next 0) (.agg vs) h3 K=K (h3.put h.next (.row 40 vs)):=λvs K hv=>by
  simp only [z14,ob,hv];simp
 (repeat simp -dsimp -implicitDefEqProofs (disch:=omega) only [↓rP,rA,↓reduceIte,reduceEqDiff,reduceAdd,reduceLeDiff,↓tyr,fg,cg])
 rw [st _ _ rfl]
 (repeat simp -dsimp -implicitDefEqProofs (disch:=omega) only [↓rP,rA,↓reduceIte,reduceEqDiff,reduceAdd,reduceLeDiff,↓tyr])
 have ld:∀ K:AV->Prop,z0t (some 3) (.ptr h.next 0) (h3.put h.next (.row 40 [.bool p.Global,.int .i64 p.N,.gsl id 1 ((slL p.Fields++[n]).map encI)])) K=K (.agg [.bool p.Global,.int .i64 p.N,.gsl id 1 ((slL p.Fields++[n]).map encI)]):=λK=>by
  rw [z0b (z1d _ _ _)];simp [z03]
 (repeat simp -dsimp -implicitDefEqProofs (disch:=omega) only [↓rP,rA,↓reduceIte,reduceEqDiff,reduceAdd,reduceLeDiff,↓tyr,↓ld])
 exact ⟨id,rfl,⟨by have:=k4.next;simp at this ⊢;omega,λi hi hs=>by rw [z0x (by omega),k4.objs i (by simp;omega) hs];exact z16 hi _⟩⟩
theorem zti (p:z0l) (hp:(slL p.Fields).length<=100) (n:Int) (h:z00):z01 Tryd.prog 86 [.agg p.cells,.int .i64 n] h (λv h2=>v=.agg (longP p n).cells/\h2=h):=by
 refine (z01.result (enc:=λq:z0l=>.agg q.cells) (Q:=λq=>q=longP p n) (λq _=>⟨trivial,trivial,zbk _ _,trivial⟩) ((longer_k p hp n h).mono ?_)).mono ?_
 ·rintro _ h2 ⟨id,rfl,kp⟩;exact ⟨λ_=>False,longP p n,rfl,RzV.agg (RzL.cons (RzV.same _) (RzL.cons (RzV.same _) (RzL.cons (RzV.gsl (by simp;omega) (RzE.same _ _)) RzL.nil))),λ_ h=>h.elim,kp⟩
 ·rintro v h2 ⟨⟨q,rfl,rfl⟩,rfl⟩;exact ⟨rfl,rfl⟩
end
end Go.Proofs.YtjlogcfggfmacaaDoor
section
namespace Go.Proofs.YtjlogcfggfmacaaDoor
inductive Conn (R:Nat->Nat->Prop):Nat->Nat->Prop
 | refl (a:Nat):Conn R a a
 | tail {a b c:Nat}:Conn R a b->R b c->Conn R a c
namespace Conn
variable {R:Nat->Nat->Prop}
theorem one {a b:Nat} (h:R a b):Conn R a b:=(Conn.refl a).tail h
theorem trans {a b c:Nat} (h:Conn R a b) (k:Conn R b c):Conn R a c:=by
 induction k with
 | refl=>exact h
 | tail _ r ih=>exact ih.tail r
theorem symm (hs:∀ a b,R a b->R b a) {a b:Nat} (h:Conn R a b):Conn R b a:=by
 induction h with
 | refl=>exact .refl _
 | tail _ r ih=>exact (one (hs _ _ r)).trans ih
theorem map {R':Nat->Nat->Prop} (hm:∀ a b,R a b->Conn R' a b) {a b:Nat} (h:Conn R a b):Conn R' a b:=by
 induction h with
 | refl=>exact .refl _
 | tail _ r ih=>exact ih.trans (hm _ _ r)
theorem closed {T:Nat->Prop} (hc:∀ a b,T a->R a b->T b) {a b:Nat} (h:Conn R a b) (ha:T a):T b:=by
 induction h with
 | refl=>exact ha
 | tail _ r ih=>exact hc _ _ ih r
end Conn
def Prs (P:List (Nat×Nat)) (a b:Nat):Prop:=(a,b)∈P\/(b,a)∈P
theorem Prs.symm {P:List (Nat×Nat)} (a b:Nat) (h:Prs P a b):Prs P b a:=Or.symm h
theorem conn_snoc {P:List (Nat×Nat)} {i j x y:Nat}:Conn (Prs (P++[(i,j)])) x y↔Conn (Prs P) x y\/(Conn (Prs P) x i/\Conn (Prs P) j y)\/(Conn (Prs P) x j/\Conn (Prs P) i y):=by
 have up:∀ {a b:Nat},Conn (Prs P) a b->Conn (Prs (P++[(i,j)])) a b:=λh=>h.map λa b r=>Conn.one (by
  rcases r with r | r
  ·exact Or.inl (by simp [r])
  ·exact Or.inr (by simp [r]))
 have hij:Conn (Prs (P++[(i,j)])) i j:=Conn.one (Or.inl (by simp));have hji:Conn (Prs (P++[(i,j)])) j i:=Conn.one (Or.inr (by simp));constructor
 ·intro h
  induction h with
  | refl=>exact Or.inl (.refl _)
  | @tail b c _ r ih=>
   have sy:∀ {a b:Nat},Conn (Prs P) a b->Conn (Prs P) b a:=λh=>h.symm Prs.symm;have hr:Prs P b c\/(b=i/\c=j)\/(b=j/\c=i):=by
    rcases r with r | r <;> simp only [List.mem_append,List.mem_singleton,Prod.mk.injEq] at r
    ·rcases r with r | r
     ·exact Or.inl (Or.inl r)
     ·exact Or.inr (Or.inl r)
    ·rcases r with r | ⟨r1,r2⟩
     ·exact Or.inl (Or.inr r)
     ·exact Or.inr (Or.inr ⟨r2,r1⟩)
   rcases hr with hr | ⟨rfl,rfl⟩ | ⟨rfl,rfl⟩
   ·rcases ih with ih | ⟨h1,h2⟩ | ⟨h1,h2⟩
    ·exact Or.inl (ih.tail hr)
    ·exact Or.inr (Or.inl ⟨h1,h2.tail hr⟩)
    ·exact Or.inr (Or.inr ⟨h1,h2.tail hr⟩)
   ·rcases ih with ih | ⟨h1,h2⟩ | ⟨h1,h2⟩
    ·exact Or.inr (Or.inl ⟨ih,.refl _⟩)
    ·exact Or.inr (Or.inl ⟨h1,.refl _⟩)
    ·exact Or.inl h1
   ·rcases ih with ih | ⟨h1,h2⟩ | ⟨h1,h2⟩
    ·exact Or.inr (Or.inr ⟨ih,.refl _⟩)
    ·exact Or.inl h1
    ·exact Or.inr (Or.inr ⟨h1,.refl _⟩)
 ·rintro (h | ⟨h1,h2⟩ | ⟨h1,h2⟩)
  ·exact up h
  ·exact ((up h1).trans hij).trans (up h2)
  ·exact ((up h1).trans hji).trans (up h2)
def Low (f:List Nat):Prop:=∀ (k v:Nat),f[k]?=some v->v<=k
def root (f:List Nat) (k:Nat):Nat:=if h:f.getD k k<k then root f (f.getD k k) else k
termination_by k
theorem z4s {f:List Nat} {k:Nat} (h:f.getD k k<k):root f k=root f (f.getD k k):=by
 rw [root,dif_pos h]
theorem z6d {f:List Nat} {k:Nat} (h:¬ f.getD k k<k):root f k=k:=by
 rw [root,dif_neg h]
theorem Low.getD {f:List Nat} (h:Low f) (k:Nat):f.getD k k<=k:=by
 rw [List.getD_eq_getElem?_getD]
 cases hk:f[k]? with
 | none=>simp
 | some v=>simpa using h k v hk
theorem zfd {f:List Nat}:∀ (k:Nat),root f k<=k:=by
 intro k
 induction k using Nat.strongRecOn with
 | _ k ih=>
  by_cases h:f.getD k k<k
  ·rw [z4s h];have:=ih _ h;omega
  ·rw [z6d h];exact Nat.le_refl _
theorem zpl {f:List Nat}:∀ (k:Nat),¬ f.getD (root f k) (root f k)<root f k:=by
 intro k
 induction k using Nat.strongRecOn with
 | _ k ih=>
  by_cases h:f.getD k k<k
  ·rw [z4s h];exact ih _ h
  ·rw [z6d h];exact h
theorem z6v {f:List Nat} (k:Nat):root f (root f k)=root f k:=z6d (zpl k)
theorem zdl (f:List Nat) (k v j:Nat) (hk:k<f.length):(f.set k v).getD j j=if j=k then v else f.getD j j:=by
 rw [List.getD_eq_getElem?_getD,List.getElem?_set,List.getD_eq_getElem?_getD];by_cases e:k=j
 ·subst e;simp [hk]
 ·rw [if_neg e,if_neg (Ne.symm e)]
theorem Low.set {f:List Nat} (hl:Low f) {k v:Nat} (hv:v<=k):Low (f.set k v):=by
 intro j x hx;rw [List.getElem?_set] at hx;split at hx
 ·rename_i e;split at hx
  ·cases hx;omega
  ·cases hx
 ·exact hl j x hx
theorem root_halve {f:List Nat} (hl:Low f) {k:Nat} (hk:k<f.length) (h:f.getD k k<k) (j:Nat):root (f.set k (f.getD (f.getD k k) (f.getD k k))) j=root f j:=by
 obtain ⟨g,hg⟩:∃ g,g=f.getD (f.getD k k) (f.getD k k):=⟨_,rfl⟩;rw [<-hg];have hgk:g<=f.getD k k:=hg▸hl.getD _;have hrg:root f k=root f g:=by
  rw [z4s h];by_cases e:f.getD (f.getD k k) (f.getD k k)<f.getD k k
  ·rw [z4s e,<-hg]
  ·have:g=f.getD k k:=by omega
   rw [this]
 induction j using Nat.strongRecOn with
 | _ j ih=>
  by_cases e:j=k
  ·subst e;have h1:(f.set j g).getD j j=g:=by rw [zdl _ _ _ _ hk,if_pos rfl]
   rw [z4s (by rw [h1];omega),h1,ih g (by omega),<-hrg]
  ·have h1:(f.set k g).getD j j=f.getD j j:=by rw [zdl _ _ _ _ hk,if_neg e]
   by_cases h2:f.getD j j<j
   ·rw [z4s (by rw [h1];exact h2),h1,ih _ h2,<-z4s h2]
   ·rw [z6d (by rw [h1];exact h2),z6d h2]
theorem zs1 {f:List Nat} (hl:Low f) {a b:Nat} (ha:a<f.length) (hb:b<f.length) (ra:root f a=a) (rb:root f b=b) (x:Nat):root (f.set (max a b) (min a b)) x=if root f x=max a b then min a b else root f x:=by
 have hM:max a b<f.length:=by omega
 have rM:root f (max a b)=max a b:=by
  rcases Nat.le_total a b with h | h
  ·rw [Nat.max_eq_right h,rb]
  ·rw [Nat.max_eq_left h,ra]
 have rm:root f (min a b)=min a b:=by
  rcases Nat.le_total a b with h | h
  ·rw [Nat.min_eq_left h,ra]
  ·rw [Nat.min_eq_right h,rb]
 have hmM:min a b<=max a b:=by omega
 generalize max a b=M at *;generalize min a b=m at *;have fM:¬ f.getD M M<M:=by have:=zpl (f:=f) M;rwa [rM] at this
 have fm:¬ f.getD m m<m:=by have:=zpl (f:=f) m;rwa [rm] at this
 induction x using Nat.strongRecOn with
 | _ x ih=>
  by_cases e:x=M
  ·subst e;rw [rM,if_pos rfl];have h1:(f.set x m).getD x x=m:=by rw [zdl _ _ _ _ hM,if_pos rfl]
   rcases Nat.lt_or_eq_of_le hmM with hlt | heq
   ·rw [z4s (by rw [h1];exact hlt),h1,ih m hlt,rm,if_neg (by omega)]
   ·rw [z6d (by rw [h1];omega)];exact heq.symm
  ·have h1:(f.set M m).getD x x=f.getD x x:=by rw [zdl _ _ _ _ hM,if_neg e]
   by_cases h2:f.getD x x<x
   ·rw [z4s (by rw [h1];exact h2),h1,ih _ h2,<-z4s h2]
   ·rw [z6d (by rw [h1];exact h2),z6d h2,if_neg e]
def Says (f:List Nat) (P:List (Nat×Nat)):Prop:=Low f/\∀ x y,root f x=root f y↔Conn (Prs P) x y
theorem Says.start (n:Nat):Says (List.range n) []:=by
 have hl:Low (List.range n):=λk v h=>by
  have:=List.getElem?_eq_some_iff.1 h;obtain ⟨h1,h2⟩:=this;simp at h2;omega
 have hr:∀ x,root (List.range n) x=x:=λx=>z6d (by
  rw [List.getD_eq_getElem?_getD];by_cases h:x<n <;> simp [h])
 refine ⟨hl,λx y=>?_⟩;rw [hr,hr];constructor
 ·rintro rfl;exact .refl _
 ·intro h
  induction h with
  | refl=>rfl
  | tail _ r ih=>rcases r with r | r <;> simp at r
theorem Says.same {f g:List Nat} {P:List (Nat×Nat)} (h:Says f P) (hl:Low g) (hr:∀ x,root g x=root f x):Says g P:=⟨hl,λx y=>by rw [hr,hr];exact h.2 x y⟩
theorem Says.link {f:List Nat} {P:List (Nat×Nat)} (h:Says f P) {i j:Nat} (hi:i<f.length) (hj:j<f.length):Says (f.set (max (root f i) (root f j)) (min (root f i) (root f j))) (P++[(i,j)]):=by
 have h1:root f i<f.length:=Nat.lt_of_le_of_lt (zfd i) hi;have h2:root f j<f.length:=Nat.lt_of_le_of_lt (zfd j) hj;refine ⟨h.1.set (by omega),λx y=>?_⟩;rw [zs1 h.1 h1 h2 (z6v i) (z6v j),zs1 h.1 h1 h2 (z6v i) (z6v j),conn_snoc,<-h.2,<-h.2,<-h.2,<-h.2,<-h.2];rcases Nat.le_total (root f i) (root f j) with hle | hle
 ·rw [Nat.max_eq_right hle,Nat.min_eq_left hle];split <;> split <;> omega
 ·rw [Nat.max_eq_left hle,Nat.min_eq_right hle];split <;> split <;> omega
def bitsOf (x:Nat):List Nat:=(List.range 64).filter λk=>x.testBit k
theorem z8p {x k:Nat}:k∈bitsOf x↔k<64/\x.testBit k=true:=by simp [bitsOf]
def z1b (x:Nat):Nat:=(bitsOf x).headD 64
def zi0 (S:List Nat):List (Nat×Nat):=(S.map λx=>(bitsOf x).map λk=>(z1b x,k)).flatten
theorem firstB_mem {x k:Nat} (h:k∈bitsOf x):z1b x∈bitsOf x:=by
 unfold z1b
 cases hb:bitsOf x with
 | nil=>rw [hb] at h;cases h
 | cons a l=>simp
def z81 (f:List Nat) (k:Nat):Nat:=(List.range k).countP λj=>decide (root f j=j)
def za9 (f:List Nat) (k:Nat):Nat:=z81 f (root f k)+1
theorem zbm (f:List Nat) (k:Nat):z81 f (k+1)=z81 f k+if root f k=k then 1 else 0:=by
 unfold z81;rw [List.range_succ,List.countP_append];simp [List.countP_cons]
theorem zqy {f g:List Nat} (h:∀ x,root g x=root f x) (k:Nat):z81 g k=z81 f k:=by simp only [z81,h]
theorem zkp (f:List Nat) {i k:Nat} (h:i<=k):z81 f i<=z81 f k:=by
 induction h with
 | refl=>exact Nat.le_refl _
 | @step m _ ih=>rw [show m.succ=m+1 from rfl,zbm];omega
theorem zjx {f g:List Nat} (h:∀ x,root g x=root f x) (k:Nat):za9 g k=za9 f k:=by simp only [za9,h,zqy h]
theorem clsOf_eq {f:List Nat} {i j:Nat}:za9 f i=za9 f j↔root f i=root f j:=by
 constructor
 ·intro h;have key:∀ {a b:Nat},root f a=a->a<b->z81 f a<z81 f b:=fun {a b} ha hab=>by
   have h1:=zkp f (show a+1<=b by omega);rw [zbm,if_pos ha] at h1;omega
  simp only [za9] at h;rcases Nat.lt_trichotomy (root f i) (root f j) with hl | he | hl
  ·have:=key (z6v i) hl;omega
  ·exact he
  ·have:=key (z6v j) hl;omega
 ·intro h;simp only [za9,h]
end Go.Proofs.YtjlogcfggfmacaaDoor
end
namespace Go.Proofs.YtjlogcfggfmacaaDoor
section
theorem zsx (x:Nat):z1b x=((List.range 64).find? λk=>x.testBit k).getD 64:=by
 unfold z1b bitsOf;rw [List.headD_eq_head?_getD,List.head?_filter]
theorem z8v {x:Nat} (h0:x≠0) (hx:x<18446744073709551616):z1b x<64/\x.testBit (z1b x)=true/\∀ j,j<z1b x->x.testBit j=false:=by
 obtain ⟨i,hi⟩:=Nat.exists_testBit_of_ne_zero h0;have hi64:i<64:=by
  apply Classical.byContradiction;intro hn;have:x<2 ^ i:=Nat.lt_of_lt_of_le (by simpa using hx) (Nat.pow_le_pow_right (by decide) (show 64<=i by omega));rw [Nat.testBit_lt_two_pow this] at hi;cases hi
 rw [zsx]
 cases hf:(List.range 64).find? λk=>x.testBit k with
 | none=>
  rw [List.find?_eq_none] at hf;exact absurd hi (hf i (List.mem_range.2 hi64))
 | some k=>
  rw [List.find?_range_eq_some] at hf;obtain ⟨h1,h2,h3⟩:=hf;refine ⟨List.mem_range.1 h2,h1,λj hj=>?_⟩;have:=h3 j hj;simpa using this
theorem zsy:z1b 0=64:=by decide
theorem zrq {x k:Nat} (hk:x.testBit k=true) (hl:∀ j,j<k->x.testBit j=false) (i:Nat):(x-1).testBit i=if i<k then true else if i=k then false else x.testBit i:=by
 have hm:x%2 ^ k=0:=by
  apply Nat.eq_of_testBit_eq;intro j;rw [Nat.testBit_mod_two_pow,Nat.zero_testBit];by_cases h:j<k
  ·rw [hl j h];simp
  ·simp [h]
 obtain ⟨q,hq⟩:∃ q,q=x/2 ^ k:=⟨_,rfl⟩;have hx:x=2 ^ k*q:=by have:=Nat.div_add_mod x (2 ^ k);rw [hm,<-hq] at this;omega
 have hqb:∀ j,q.testBit j=x.testBit (k+j):=λj=>by rw [hq,Nat.testBit_div_two_pow,Nat.add_comm]
 have hq1:q%2=1:=by
  have:=hqb 0;rw [Nat.testBit_zero] at this;simpa [hk] using this
 have hp:0<2 ^ k:=Nat.pow_pos (by decide);have hx1:x-1=2 ^ k*(q-1)+(2 ^ k-1):=by
  rw [hx,Nat.mul_sub];have:2 ^ k<=2 ^ k*q:=Nat.le_mul_of_pos_right _ (by omega);omega
 rw [hx1,Nat.testBit_two_pow_mul_add _ (by omega:2 ^ k-1<2 ^ k)];by_cases h:i<k
 ·rw [if_pos h,if_pos h,Nat.testBit_two_pow_sub_one];simp [h]
 ·rw [if_neg h,if_neg h];by_cases h2:i=k
  ·rw [if_pos h2,h2,Nat.sub_self,Nat.testBit_zero];simp;omega
  ·rw [if_neg h2];obtain ⟨j,rfl⟩:∃ j,i=k+(j+1):=⟨i-k-1,by omega⟩;rw [<-hqb,show k+(j+1)-k=j+1 by omega,Nat.testBit_succ,Nat.testBit_succ]
   congr 1;omega
theorem and_neg {x:Nat} (h0:x≠0) (hx:x<18446744073709551616):x &&& (18446744073709551616-x)=2 ^ z1b x:=by
 obtain ⟨h1,h2,h3⟩:=z8v h0 hx;apply Nat.eq_of_testBit_eq;intro i;have e:18446744073709551616-x=2 ^ 64-((x-1)+1):=by
  rw [show (2:Nat) ^ 64=18446744073709551616 by decide];omega
 rw [Nat.testBit_and,e,Nat.testBit_two_pow_sub_succ (by rw [show (2:Nat) ^ 64=18446744073709551616 by decide];omega),zrq h2 h3,Nat.testBit_two_pow];by_cases a:i<z1b x
 ·rw [if_pos a,h3 i a];have:¬ z1b x=i:=by omega
  simp [this]
 ·rw [if_neg a];by_cases b:i=z1b x
  ·rw [if_pos b,b,h2];simp [h1]
  ·rw [if_neg b];have:¬ z1b x=i:=λe=>b e.symm;cases x.testBit i <;> simp [this]
theorem and_pred {x:Nat} (h0:x≠0) (hx:x<18446744073709551616):bitsOf x=z1b x::bitsOf (x &&& (x-1)):=by
 obtain ⟨h1,h2,h3⟩:=z8v h0 hx;have hb:∀ i,(x &&& (x-1)).testBit i=(decide (i≠z1b x)&&x.testBit i):=λi=>by
  rw [Nat.testBit_and,zrq h2 h3];by_cases a:i<z1b x
  ·rw [if_pos a,h3 i a];simp
  ·rw [if_neg a];by_cases b:i=z1b x
   ·rw [if_pos b,b];simp
   ·rw [if_neg b];simp [b]
 have hf:bitsOf (x &&& (x-1))=(bitsOf x).filter λi=>decide (i≠z1b x):=by
  unfold bitsOf;rw [List.filter_filter]
  congr 1
  funext i;exact hb i
 have hnd:(bitsOf x).Nodup:=List.nodup_range.filter _;have hmem:z1b x∈bitsOf x:=z8p.2 ⟨h1,h2⟩;rw [hf];obtain ⟨k,hkk⟩:∃ k,k=z1b x:=⟨_,rfl⟩;rw [<-hkk] at hmem ⊢;have hd:(bitsOf x).headD 64=k:=hkk.symm
 cases hbx:bitsOf x with
 | nil=>rw [hbx] at hmem;cases hmem
 | cons a l=>
  rw [hbx] at hd hnd;simp at hd;subst hd;have hn:=List.nodup_cons.1 hnd
  congr 1
  rw [List.filter_cons_of_neg (by simp)];refine (List.filter_eq_self.2 λy hy=>?_).symm;simp;rintro rfl;exact hn.1 hy
theorem zq0:bitsOf 0=[]:=by decide
theorem pred_lt {x:Nat} (hx:x<18446744073709551616):x &&& (x-1)<18446744073709551616:=Nat.lt_of_le_of_lt Nat.and_le_left hx
theorem debruijn:∀ k:Nat,k<64->Go.Abs.zi6[2 ^ k*285870213051353865%18446744073709551616/2 ^ 58]?=some (k:Int)/\2 ^ k*285870213051353865%18446744073709551616/2 ^ 58<64:=by decide +kernel
end
section
open Go.Abs
inductive Rw where
 | g
 | s (t:Nat)
 | f (k:Nat)
 deriving DecidableEq
abbrev Sg:=Rw->Nat->Nat
def Le (σ τ:Sg):Prop:=∀ r n i,(σ r n).testBit i=true->(τ r n).testBit i=true
theorem Le.refl (σ:Sg):Le σ σ:=λ_ _ _ h=>h
theorem Le.trans {σ τ ρ:Sg} (h:Le σ τ) (k:Le τ ρ):Le σ ρ:=λr n i x=>k r n i (h r n i x)
theorem Le.anti {σ τ:Sg} (h:Le σ τ) (k:Le τ σ):σ=τ:=by
 funext r n;apply Nat.eq_of_testBit_eq;intro i;rw [Bool.eq_iff_iff];exact ⟨h r n i,k r n i⟩
def orF {α:Type} (f:α->Nat) (l:List α):Nat:=l.foldl (λo k=>o ||| f k) 0
theorem orF_snoc {α:Type} (f:α->Nat) (l:List α) (x:α):orF f (l++[x])=orF f l ||| f x:=by simp [orF]
theorem orF_from {α:Type} (f:α->Nat) (l:List α):∀ a,l.foldl (λo k=>o ||| f k) a=a ||| orF f l:=by
 induction l with
 | nil=>intro a;simp [orF]
 | cons x l ih=>intro a;simp only [orF,List.foldl_cons];rw [ih,ih (0 ||| f x)];simp [Nat.or_assoc]
theorem zom {α:Type} (f:α->Nat) (x:α) (l:List α):orF f (x::l)=f x ||| orF f l:=by
 rw [orF,List.foldl_cons,orF_from];simp
theorem zkt {α:Type} (f:α->Nat) (l:List α) (i:Nat):(orF f l).testBit i=true↔∃ x∈l,(f x).testBit i=true:=by
 induction l with
 | nil=>simp [orF]
 | cons x l ih=>rw [zom,Nat.testBit_or,Bool.or_eq_true,ih];simp
def recL (c:Cd) (n:Int):List Lo:=match getI (slL c.Records) n with | some r=>slL r | none=>[]
def zb5 (c:Cd) (t:Nat):List Lo:=match (slL c.Threads)[t]? with | some b=>slL b.Slots | none=>[]
def lenR (c:Cd):Rw->Nat
 | .g=>(slL c.Globals).length
 | .s t=>(zb5 c t).length
 | .f k=>match (slL c.Sites)[k]? with | some x=>(recL c x.Rec).length | none=>0
def zcx (l:Lo):Bool:=decide (l.Kind=4)||decide (l.Kind=3)
def z9z:Option Lo->Bool | some l=>zcx l | none=>false
def z5z (σ:Sg) (t:Nat) (l:List It):Nat:=orF (λx=>if x.Op=2 then σ (.s t) x.N else 0) l
def zbg (c:Cd) (σ:Sg) (t:Nat) (x:In):Nat:=orF (λk=>if x.N<lenR c (.f k) then σ (.f k) x.N.toNat else 0) (bitsOf (σ (.s t) x.Src.toNat))
def z3x (c:Cd) (σ:Sg) (t:Nat) (x:In):Nat:=
 if x.Op=1 then z5z σ t (slL x.Items)
 else if x.Op=2 then σ .g x.N.toNat
 else if x.Op=8\/x.Op=9 then 2 ^ x.N.toNat
 else if x.Op=3 then zbg c σ t x
 else 0
def dstB (c:Cd) (t:Nat) (x:In):Bool:=(decide (x.Op=1)||decide (x.Op=2)||decide (x.Op=3)||decide (x.Op=8)||decide (x.Op=9))&&z9z (getI (zb5 c t) x.Dst)
def zan (c:Cd) (k:Nat) (n:Int):Bool:=match (slL c.Sites)[k]? with | some s=>decide (s.Rec=n) | none=>false
def toF (c:Cd) (t:Nat) (x:In) (σ:Sg):Rw->Bool
 | .f k=>(σ (.s t) x.Src.toNat).testBit k&&zan c k x.Rec
 | _=>false
def zfz (c:Cd) (t:Nat) (x:In) (σ:Sg) (r:Rw) (n:Nat):Nat:=
 if dstB c t x=true/\r=.s t/\n=x.Dst.toNat then z3x c σ t x
 else if x.Op=5/\z9z (getI (slL c.Globals) x.N)=true/\r=.g/\n=x.N.toNat then z5z σ t (slL x.Items)
 else if x.Op=6/\z9z (getI (recL c x.Rec) x.N)=true/\toF c t x σ r=true/\n=x.N.toNat then z5z σ t (slL x.Items)
 else 0
def z9j (c:Cd) (t:Nat) (x:In) (σ:Sg):Sg:=λr n=>σ r n ||| zfz c t x σ r n
theorem zhr {σ τ:Sg} (h:Le σ τ) (t:Nat) (l:List It) (i:Nat) (hi:(z5z σ t l).testBit i=true):(z5z τ t l).testBit i=true:=by
 unfold z5z at *;rw [zkt] at *;obtain ⟨x,hx,hb⟩:=hi;refine ⟨x,hx,?_⟩;split at hb
 ·rename_i e;rw [if_pos e];exact h _ _ _ hb
 ·simp at hb
theorem zsv {c:Cd} {σ τ:Sg} (h:Le σ τ) (t:Nat) (x:In) (i:Nat) (hi:(zbg c σ t x).testBit i=true):(zbg c τ t x).testBit i=true:=by
 unfold zbg at *;rw [zkt] at *;obtain ⟨k,hk,hb⟩:=hi;rw [z8p] at hk;refine ⟨k,z8p.2 ⟨hk.1,h _ _ _ hk.2⟩,?_⟩;split at hb
 ·rename_i e;rw [if_pos e];exact h _ _ _ hb
 ·simp at hb
theorem zsm {c:Cd} {σ τ:Sg} (h:Le σ τ) (t:Nat) (x:In) (i:Nat) (hi:(z3x c σ t x).testBit i=true):(z3x c τ t x).testBit i=true:=by
 unfold z3x at *;split
 ·rename_i e;rw [if_pos e] at hi;exact zhr h _ _ _ hi
 ·rename_i e;rw [if_neg e] at hi;split
  ·rename_i e;rw [if_pos e] at hi;exact h _ _ _ hi
  ·rename_i e;rw [if_neg e] at hi;split
   ·rename_i e;rw [if_pos e] at hi;exact hi
   ·rename_i e;rw [if_neg e] at hi;split
    ·rename_i e;rw [if_pos e] at hi;exact zsv h _ _ _ hi
    ·rename_i e;rw [if_neg e] at hi;exact hi
theorem toF_mono {c:Cd} {σ τ:Sg} (h:Le σ τ) (t:Nat) (x:In) (r:Rw) (hr:toF c t x σ r=true):toF c t x τ r=true:=by
 cases r with
 | f k=>
  simp only [toF,Bool.and_eq_true] at *;exact ⟨h _ _ _ hr.1,hr.2⟩
 | _=>cases hr
theorem zk2 (c:Cd) (t:Nat) (x:In) (σ:Sg) (r:Rw) (n i:Nat):(zfz c t x σ r n).testBit i=true↔
  (dstB c t x=true/\r=.s t/\n=x.Dst.toNat/\(z3x c σ t x).testBit i=true)\/
  (x.Op=5/\z9z (getI (slL c.Globals) x.N)=true/\r=.g/\n=x.N.toNat/\(z5z σ t (slL x.Items)).testBit i=true)\/
  (x.Op=6/\z9z (getI (recL c x.Rec) x.N)=true/\toF c t x σ r=true/\n=x.N.toNat/\(z5z σ t (slL x.Items)).testBit i=true):=by
 have d5:dstB c t x=true->x.Op≠5/\x.Op≠6:=by
  intro h;simp only [dstB,Bool.and_eq_true,Bool.or_eq_true,decide_eq_true_eq] at h;omega
 unfold zfz;by_cases h1:dstB c t x=true/\r=.s t/\n=x.Dst.toNat
 ·rw [if_pos h1];have:=d5 h1.1;constructor
  ·intro h;exact Or.inl ⟨h1.1,h1.2.1,h1.2.2,h⟩
  ·rintro (h | h | h)
   ·exact h.2.2.2
   ·exact absurd h.1 this.1
   ·exact absurd h.1 this.2
 ·rw [if_neg h1];by_cases h2:x.Op=5/\z9z (getI (slL c.Globals) x.N)=true/\r=.g/\n=x.N.toNat
  ·rw [if_pos h2];constructor
   ·intro h;exact Or.inr (Or.inl ⟨h2.1,h2.2.1,h2.2.2.1,h2.2.2.2,h⟩)
   ·rintro (h | h | h)
    ·exact absurd ⟨h.1,h.2.1,h.2.2.1⟩ h1
    ·exact h.2.2.2.2
    ·have:=h2.1;have:=h.1;omega
  ·rw [if_neg h2];by_cases h3:x.Op=6/\z9z (getI (recL c x.Rec) x.N)=true/\toF c t x σ r=true/\n=x.N.toNat
   ·rw [if_pos h3];constructor
    ·intro h;exact Or.inr (Or.inr ⟨h3.1,h3.2.1,h3.2.2.1,h3.2.2.2,h⟩)
    ·rintro (h | h | h)
     ·exact absurd ⟨h.1,h.2.1,h.2.2.1⟩ h1
     ·exact absurd ⟨h.1,h.2.1,h.2.2.1,h.2.2.2.1⟩ h2
     ·exact h.2.2.2.2
   ·rw [if_neg h3];constructor
    ·intro h;simp at h
    ·rintro (h | h | h)
     ·exact absurd ⟨h.1,h.2.1,h.2.2.1⟩ h1
     ·exact absurd ⟨h.1,h.2.1,h.2.2.1,h.2.2.2.1⟩ h2
     ·exact absurd ⟨h.1,h.2.1,h.2.2.1,h.2.2.2.1⟩ h3
theorem contr_mono {c:Cd} {σ τ:Sg} (h:Le σ τ) (t:Nat) (x:In):Le (zfz c t x σ) (zfz c t x τ):=by
 intro r n i hi;rw [zk2] at *;rcases hi with ⟨h1,h2,h3,h4⟩ | ⟨h1,h2,h3,h4,h5⟩ | ⟨h1,h2,h3,h4,h5⟩
 ·exact Or.inl ⟨h1,h2,h3,zsm h _ _ _ h4⟩
 ·exact Or.inr (Or.inl ⟨h1,h2,h3,h4,zhr h _ _ _ h5⟩)
 ·exact Or.inr (Or.inr ⟨h1,h2,toF_mono h _ _ _ h3,h4,zhr h _ _ _ h5⟩)
theorem le_step (c:Cd) (t:Nat) (x:In) (σ:Sg):Le σ (z9j c t x σ):=λr n i h=>by
 unfold z9j;rw [Nat.testBit_or,h];rfl
theorem step_le {c:Cd} {t:Nat} {x:In} {σ τ:Sg} (h:Le σ τ) (hc:Le (zfz c t x τ) τ):Le (z9j c t x σ) τ:=λr n i hi=>by
 unfold z9j at hi;rw [Nat.testBit_or,Bool.or_eq_true] at hi;rcases hi with hi | hi
 ·exact h r n i hi
 ·exact hc r n i (contr_mono h t x r n i hi)
theorem step_id {c:Cd} {t:Nat} {x:In} {σ:Sg} (h:z9j c t x σ=σ):Le (zfz c t x σ) σ:=λr n i hi=>by
 rw [<-h];unfold z9j;rw [Nat.testBit_or,hi,Bool.or_true]
def Cl (c:Cd) (σ:Sg):Prop:=∀ (t:Nat) (b:Bd) (a:Nat) (x:In),(slL c.Threads)[t]?=some b->(slL b.Code)[a]?=some x->Le (zfz c t x σ) σ
def Lw (c:Cd) (σ:Sg):Prop:=∀ τ,Cl c τ->Le σ τ
theorem least_eq {c:Cd} {σ τ:Sg} (h1:Cl c σ) (h2:Lw c σ) (k1:Cl c τ) (k2:Lw c τ):σ=τ:=Le.anti (h2 τ k1) (k2 σ h1)
theorem Lw.step {c:Cd} {t a:Nat} {b:Bd} {x:In} {σ:Sg} (h:Lw c σ) (hb:(slL c.Threads)[t]?=some b) (hx:(slL b.Code)[a]?=some x):Lw c (z9j c t x σ):=fun τ ht=>step_le (h τ ht) (ht t b a x hb hx)
structure Wf (c:Cd) (b:Bd) (x:In):Prop where
 dst:(x.Op=1\/x.Op=2\/x.Op=3\/x.Op=4\/x.Op=8\/x.Op=9\/x.Op=10)->btw x.Dst (slL b.Slots).length=true
 items:(x.Op=1\/x.Op=5\/x.Op=6)->(∀ y∈slL x.Items,y.Op=2->y.N<(slL b.Slots).length)/\(slL x.Items).length<=64
 glob:(x.Op=2\/x.Op=5)->btw x.N (slL c.Globals).length=true
 fld:(x.Op=3\/x.Op=6)->∃ r,getI (slL c.Records) x.Rec=some r/\btw x.N (slL r).length=true/\btw x.Src (slL b.Slots).length=true
 site:(x.Op=8\/x.Op=9)->btw x.N (slL c.Sites).length=true
 ints:(x.Op=4\/x.Op=10)->∀ l,getI (slL b.Slots) x.Dst=some l->l.Kind=1
theorem zei {b:Bd} {n:Int} {w:Lo} (h:isB b n w=true):btw n (slL b.Slots).length=true:=by
 cases hb:btw n (slL b.Slots).length with
 | true=>rfl
 | false=>rw [z5c hb] at h;cases h
theorem isB_kind {b:Bd} {n:Int} {w l:Lo} (h:isB b n w=true) (hl:getI (slL b.Slots) n=some l):l.Kind=w.Kind/\l.Rec=w.Rec:=by
 unfold isB at h;rw [hl] at h;simp only [z9n,Bool.and_eq_true,decide_eq_true_eq] at h;exact h
theorem z7p {b:Bd} {o:Option (List It)} (h:z2f b o=true):(∀ y∈slL o,y.Op=2->y.N<(slL b.Slots).length)/\(slL o).length<=64:=by
 have h:goodP (slL o) (slL b.Slots).length:=by simpa [z2f,zm4] using h
 refine ⟨λy hy h2=>?_,h.2.2⟩;obtain ⟨k,hk⟩:=List.getElem?_of_mem hy;have:=(h.1 k (List.getElem?_eq_some_iff.1 hk).1 y hk).1;unfold z4q at this;rw [if_neg (by omega),if_pos h2] at this;simp only [Bool.and_eq_true,decide_eq_true_eq] at this;omega
theorem field_in {c:Cd} {b:Bd} {x:In} {f:Lo} (h:z8l c b x=some f):∃ r,getI (slL c.Records) x.Rec=some r/\btw x.N (slL r).length=true/\btw x.Src (slL b.Slots).length=true:=by
 unfold z8l at h
 cases h1:getI (slL c.Records) x.Rec with
 | none=>rw [h1] at h;cases h
 | some r=>
  rw [h1] at h;simp only at h
  cases h2:getI (slL r) x.N with
  | none=>rw [h2] at h;cases h
  | some f=>
   rw [h2] at h;simp only at h
   cases h3:isB b x.Src ⟨4,x.Rec,false⟩ with
   | false=>rw [h3] at h;simp at h
   | true=>exact ⟨r,rfl,z1l.2 ⟨f,h2⟩,zei h3⟩
theorem instr_wf {c:Cd} {t a:Int} {b:Bd} {x:In} (h:z1a c t b x a=true):Wf c b x:=by
 refine ⟨?_,?_,?_,?_,?_,?_⟩
 ·rintro (e | e | e | e | e | e | e)
  all_goals (unfold z1a z3c at h;simp only [e] at h;simp at h)
  ·exact h.1.2
  ·obtain ⟨_,_,h⟩:=h;split at h <;> first | exact zei h | cases h
  ·obtain ⟨_,_,h⟩:=h;split at h <;> first | exact zei h | cases h
  ·exact zei h.2.1.1.2
  ·exact zei h.2.1.2
  ·exact zei h.2.1.1.2
  ·exact zei h.1.2
 ·rintro (e | e | e)
  all_goals (unfold z1a z2m at h;simp only [e] at h;simp at h)
  ·exact z7p h.2
  ·exact z7p h.2.2
  ·exact z7p h.2.2
 ·rintro (e | e)
  all_goals (unfold z1a z3c z2m at h;simp only [e] at h;simp at h)
  ·obtain ⟨_,_,h⟩:=h;split at h
   ·rename_i g hg;exact z1l.2 ⟨g,hg⟩
   ·cases h
  ·exact h.2.1.2
 ·rintro (e | e)
  all_goals (unfold z1a z3c z2m at h;simp only [e] at h;simp at h)
  ·obtain ⟨_,_,h⟩:=h;split at h
   ·rename_i g hg;exact field_in hg
   ·cases h
  ·obtain ⟨_,⟨_,h⟩,_⟩:=h;obtain ⟨f,hf⟩:=Option.isSome_iff_exists.1 h;exact field_in hf
 ·rintro (e | e)
  all_goals (unfold z1a z3c z8q at h;simp only [e] at h;simp at h)
  ·exact z1l.2 ⟨_,h.2.2⟩
  ·exact z1l.2 ⟨_,h.2.2⟩
 ·rintro (e | e) l hl
  all_goals (unfold z1a z3c at h;simp only [e] at h;simp at h)
  ·exact (isB_kind h.2.1.1.2 hl).1
  ·exact (isB_kind h.1.2 hl).1
structure WfC (c:Cd):Prop where
 thr:(slL c.Threads).length<=4
 sit:(slL c.Sites).length<=32
 glo:(slL c.Globals).length<=8
 recs:∀ r∈slL c.Records,(slL r).length<=6
 slo:∀ (t:Nat) (b:Bd),(slL c.Threads)[t]?=some b->(slL b.Slots).length<=64/\(slL b.Code).length<=256
 ins:∀ (t a:Nat) (b:Bd) (x:In),(slL c.Threads)[t]?=some b->(slL b.Code)[a]?=some x->Wf c b x
 site:∀ (k:Nat) (s:z0s),(slL c.Sites)[k]?=some s->s.Rec=-1\/∃ r,getI (slL c.Records) s.Rec=some r
theorem zse {c:Cd} (h:okC c=true):WfC c:=by
 obtain ⟨h1,h2,h3,h4,h5,h6,h7⟩:=zgj h;have h7':∀ (t:Nat) (b:Bd),(slL c.Threads)[t]?=some b->z7m c t b=true:=z2h.1 h7;have hin:∀ (t a:Nat) (b:Bd) (x:In),(slL c.Threads)[t]?=some b->(slL b.Code)[a]?=some x->z1a c t b x a=true:=by
  intro t a b x hb hx;have ht:=h7' t b hb;simp only [z7m,Bool.and_eq_true] at ht;exact z2h.1 ht.2 a x hx
 have hs:(slL c.Sites).length<=32/\allK (z6a c) (slL c.Sites)=true:=by
  simpa [zdd] using h5
 refine ⟨h2,hs.1,?_,?_,?_,λt a b x hb hx=>instr_wf (hin t a b x hb hx),?_⟩
 ·simp only [z5y,Bool.and_eq_true,decide_eq_true_eq] at h3;omega
 ·intro r hr;have:=List.all_eq_true.1 h6 r hr;simp only [z5y,Bool.and_eq_true,decide_eq_true_eq] at this;omega
 ·intro t b hb;have ht:=h7' t b hb;simp only [z7m,za3,Bool.and_eq_true,decide_eq_true_eq] at ht;omega
 ·intro k s hk;have hk2:=z2h.1 hs.2 k s hk;unfold z6a z4a at hk2
  cases hb:getI (slL c.Threads) s.Thread with
  | none=>rw [hb] at hk2;cases hk2
  | some b=>
   rw [hb] at hk2;simp only at hk2
   cases hx:getI (slL b.Code) s.At with
   | none=>rw [hx] at hk2;cases hk2
   | some x=>
    rw [hx] at hk2;simp only [Bool.and_eq_true,Bool.or_eq_true,decide_eq_true_eq] at hk2;obtain ⟨t,et,hb2⟩:=zdm hb;obtain ⟨a,ea,hx2⟩:=zdm hx;have hi:=hin t a b x hb2 hx2;have hsk:getI (slL c.Sites) x.N=some s:=by rw [hk2.1,z2e];exact hk
    rcases hk2.2 with e | e
    ·unfold z1a z3c z8q at hi;simp only [e] at hi;simp at hi;rw [hsk] at hi;have:=hi.2.2;have hrec:=hi.2.1.1.2;obtain ⟨r,hr⟩:=z1l.1 hrec;simp only [Option.some.injEq] at this
     right
     exact ⟨r,by rw [this];exact hr⟩
    ·unfold z1a z3c z8q at hi;simp only [e] at hi;simp at hi;rw [hsk] at hi;have:=hi.2.2;simp only [Option.some.injEq] at this
     left
     rw [this]
def Bd2 (c:Cd) (σ:Sg):Prop:=∀ r n i,(σ r n).testBit i=true->i<(slL c.Sites).length
theorem zgb {c:Cd} {σ:Sg} (h:Bd2 c σ) {t:Nat} {l:List It} {i:Nat} (hi:(z5z σ t l).testBit i=true):i<(slL c.Sites).length:=by
 unfold z5z at hi;rw [zkt] at hi;obtain ⟨x,_,hb⟩:=hi;split at hb
 ·exact h _ _ _ hb
 ·simp at hb
theorem zq1 {c:Cd} {σ:Sg} (h:Bd2 c σ) {b:Bd} {x:In} (w:Wf c b x) {t i:Nat} (hi:(z3x c σ t x).testBit i=true):i<(slL c.Sites).length:=by
 unfold z3x at hi;split at hi
 ·exact zgb h hi
 ·split at hi
  ·exact h _ _ _ hi
  ·split at hi
   ·rename_i e;have:=w.site e;simp only [btw,Bool.and_eq_true,decide_eq_true_eq] at this;rw [Nat.testBit_two_pow] at hi;have:=of_decide_eq_true hi;omega
   ·split at hi
    ·unfold zbg at hi;rw [zkt] at hi;obtain ⟨k,_,hb⟩:=hi;split at hb
     ·exact h _ _ _ hb
     ·simp at hb
    ·simp at hi
theorem Bd2.step {c:Cd} {σ:Sg} (h:Bd2 c σ) {b:Bd} {x:In} (w:Wf c b x) (t:Nat):Bd2 c (z9j c t x σ):=λr n i hi=>by
 unfold z9j at hi;rw [Nat.testBit_or,Bool.or_eq_true,zk2] at hi;rcases hi with hi | ⟨_,_,_,hi⟩ | ⟨_,_,_,_,hi⟩ | ⟨_,_,_,_,hi⟩
 ·exact h _ _ _ hi
 ·exact zq1 h w hi
 ·exact zgb h hi
 ·exact zgb h hi
theorem z8x {x n:Nat} (h:∀ i,x.testBit i=true->i<n):x<2 ^ n:=by
 apply Nat.lt_pow_two_of_testBit;intro i hi
 cases hb:x.testBit i with
 | false=>rfl
 | true=>have:=h i hb;omega
theorem Bd2.lt {c:Cd} {σ:Sg} (h:Bd2 c σ) (r:Rw) (n:Nat):σ r n<2 ^ (slL c.Sites).length:=z8x (h r n)
theorem zb1 {n:Nat} (h:n<=32):2 ^ n<=4294967296:=by
 have:=Nat.pow_le_pow_right (show 0<2 by decide) h;simpa using this
def Rg (c:Cd) (σ:Sg):Prop:=∀ r n,σ r n≠0->n<lenR c r
theorem contr_rg {c:Cd} {σ:Sg} (h:Rg c σ) {t:Nat} {b:Bd} {x:In} (hb:(slL c.Threads)[t]?=some b) (w:Wf c b x) {r:Rw} {n i:Nat} (hi:(zfz c t x σ r n).testBit i=true):n<lenR c r:=by
 have hsl:zb5 c t=slL b.Slots:=by unfold zb5;rw [hb]
 rw [zk2] at hi;rcases hi with ⟨h1,rfl,h3,-⟩ | ⟨h1,-,rfl,h4,-⟩ | ⟨h1,-,h3,h4,-⟩
 ·have hd:=w.dst (by simp only [dstB,Bool.and_eq_true,Bool.or_eq_true,decide_eq_true_eq] at h1;omega);simp only [btw,Bool.and_eq_true,decide_eq_true_eq] at hd;simp only [lenR,hsl];omega
 ·have hd:=w.glob (Or.inr h1);simp only [btw,Bool.and_eq_true,decide_eq_true_eq] at hd;simp only [lenR];omega
 ·obtain ⟨rr,hr,hn,_⟩:=w.fld (Or.inr h1)
  cases r with
  | f k=>
   simp only [toF,zan,Bool.and_eq_true] at h3;simp only [lenR]
   cases hk:(slL c.Sites)[k]? with
   | none=>rw [hk] at h3;simp at h3
   | some s=>
    rw [hk] at h3;have h3:=of_decide_eq_true h3.2;simp only [recL,h3,hr];simp only [btw,Bool.and_eq_true,decide_eq_true_eq] at hn;omega
  | g=>cases h3
  | s t=>cases h3
theorem ztj {n:Nat} (h:n≠0):∃ i,n.testBit i=true:=by
 apply Classical.byContradiction;intro hn;apply h;apply Nat.eq_of_testBit_eq;intro i
 cases hb:n.testBit i with
 | false=>simp
 | true=>exact absurd ⟨i,hb⟩ hn
theorem Rg.step {c:Cd} {σ:Sg} (h:Rg c σ) {t:Nat} {b:Bd} {x:In} (hb:(slL c.Threads)[t]?=some b) (w:Wf c b x):Rg c (z9j c t x σ):=λr n hn=>by
 obtain ⟨i,hi⟩:=ztj hn;unfold z9j at hi;rw [Nat.testBit_or,Bool.or_eq_true] at hi;rcases hi with hi | hi
 ·exact h r n (by rintro e;rw [e] at hi;simp at hi)
 ·exact contr_rg h hb w hi
def keysC (c:Cd):List (Rw×Nat):=
 ((List.range (lenR c .g)).map λn=>(Rw.g,n)) ++
 ((List.range (slL c.Threads).length).flatMap λt=>(List.range (lenR c (.s t))).map λn=>(Rw.s t,n)) ++
 ((List.range (slL c.Sites).length).flatMap λk=>(List.range (lenR c (.f k))).map λn=>(Rw.f k,n))
theorem mem_keys {c:Cd} {r:Rw} {n:Nat} (h:n<lenR c r):(r,n)∈keysC c:=by
 unfold keysC;simp only [List.mem_append,List.mem_map,List.mem_flatMap,List.mem_range,Prod.mk.injEq]
 cases r with
 | g=>exact Or.inl (Or.inl ⟨n,h,rfl,rfl⟩)
 | s t=>
  have ht:t<(slL c.Threads).length:=by
   apply Classical.byContradiction;intro hn;simp only [lenR,zb5] at h;rw [List.getElem?_eq_none (by omega)] at h;simp at h
  exact Or.inl (Or.inr ⟨t,ht,n,h,rfl,rfl⟩)
 | f k=>
  have hk:k<(slL c.Sites).length:=by
   apply Classical.byContradiction;intro hn;simp only [lenR] at h;rw [List.getElem?_eq_none (by omega)] at h;simp at h
  exact Or.inr ⟨k,hk,n,h,rfl,rfl⟩
def leftOf (c:Cd) (σ:Sg):Nat:=((keysC c).map λk=>2 ^ (slL c.Sites).length - σ k.1 k.2).sum
theorem sum_lt {α:Type} {f g:α->Nat} {l:List α} (h:∀ x∈l,f x<=g x) {y:α} (hy:y∈l) (hlt:f y<g y):(l.map f).sum<(l.map g).sum:=by
 induction l with
 | nil=>cases hy
 | cons x l ih=>
  simp only [List.map_cons,List.sum_cons];have hle:(l.map f).sum<=(l.map g).sum:=by
   clear ih hy
   induction l with
   | nil=>simp
   | cons z l ih=>
    simp only [List.map_cons,List.sum_cons];have:=h z (by simp);have:=ih (λx hx=>h x (by
     rcases List.mem_cons.1 hx with rfl | hx
     ·simp
     ·simp [hx]))
    omega
  have hx:=h x (by simp);rcases List.mem_cons.1 hy with rfl | hy
  ·omega
  ·have:=ih (λz hz=>h z (by simp [hz])) hy;omega
theorem le_nat {a b:Nat} (h:∀ i,a.testBit i=true->b.testBit i=true):a<=b:=by
 have:b=a ||| b:=by
  apply Nat.eq_of_testBit_eq;intro i;rw [Nat.testBit_or]
  cases ha:a.testBit i with
  | false=>simp
  | true=>simp [h i ha]
 rw [this];exact Nat.left_le_or
theorem left_lt {c:Cd} {σ τ:Sg} (h:Le σ τ) (hb:Bd2 c τ) (hr:Rg c τ) (hn:τ≠σ):leftOf c τ<leftOf c σ:=by
 obtain ⟨r,n,hd⟩:∃ r n,τ r n≠σ r n:=by
  apply Classical.byContradiction;intro hc;apply hn;funext r n;apply Classical.byContradiction;intro he;exact hc ⟨r,n,he⟩
 have hle:∀ r n,σ r n<=τ r n:=λr n=>le_nat (h r n);have hz:τ r n≠0:=by have:=hle r n;omega
 have hk:=mem_keys (hr r n hz);unfold leftOf;refine sum_lt (λk _=>?_) hk ?_
 ·have:=hle k.1 k.2;omega
 ·have:=hle r n;have:=hb.lt r n;simp only;omega
end
end Go.Proofs.YtjlogcfggfmacaaDoor
