/- Own texts, merged: AbsCore, AbsOps, AbsMem, AbsPrim, AbsApp, AbsApp2, AbsPrim2, AbsPrim3, AbsMap. -/
import Derived.Below
import Derived.Maps.AppendAt
import Derived.Laws.OwnMore
import Derived.Laws.MakeOwn
import Derived.WalkKit
import Derived.RangeFuncRecord
import Derived.OrdersIn
import Derived.TacticsIn
import Derived.Laws.StructEq
import Derived.Laws.Slices
import Derived.Laws.BytesArg
import Derived.Laws.Tables
import Derived.Lib.AppendStr
import Derived.Laws.FloatArith
import Derived.MapKept
set_option linter.unusedVariables false
set_option linter.unusedSimpArgs false
open Nat (reduceEqDiff reduceAdd reduceLeDiff)
set_option maxRecDepth 100000
set_option maxHeartbeats 4000000
namespace Go.Abs
section
open Go.RowKit
inductive AV where
 | und
 | int (k:IntKind) (n:Int)
 | bool (b:Bool)
 | unkb
 | str (s:List UInt8)
 | flt (k:FloatKind) (bits:Nat)
 | nilp
 | ptr (id off:Nat)
 | iptr (cells:List AV)
 | nils
 | eml
 | isl (sz:Nat) (es:List (List AV))
 | gsl (id sz:Nat) (es:List (List AV))
 | sl (id off len sz:Nat)
 | nilm
 | mapv (id:Nat)
 | nilf
 | fn (f:Fn) (first captured:List AV)
 | nili
 | ifc (t:TypeId) (v:AV)
 | agg (cs:List AV)
 | tup (vs:List AV)
 | yld (id:Nat)
 deriving Inhabited
structure Ctx where
 m:Nat->Option Nat
 im:Nat->Nat->Prop
def Shp (w:World) (b:Nat) (ty:TypeId) (n:Nat):Prop:=∃ C,w.heap[b]?=some (.cells C ty (0,0))/\C.size=n
mutual
def VRel (c:Ctx) (w:World):AV->Value->Prop
 | .und,_=>True
 | .int k n,v=>v=.int k n
 | .bool b,v=>v=.bool b
 | .unkb,v=>∃ b,v=.bool b
 | .str s,v=>v=.string ⟨s.toArray⟩
 | .flt k b,v=>v=.float k b
 | .nilp,v=>v=.pointer none
 | .ptr id off,v=>∃ b,c.m id=some b/\v=.pointer (some ⟨b,off,none⟩)
 | .iptr cs,v=>∃ b off,v=.pointer (some ⟨b,off,none⟩)/\MRel c w cs b off
 | .nils,v=>v=.slice none 0 0
 | .eml,v=>∃ a,v=.slice (some a) 0 0
 | .isl sz es,v=>∃ a cap,v=.slice a es.length cap/\es.length<=cap/\es.length<=9223372036854775807/\(es≠[]->∃ b off,a=some ⟨b,off,none⟩/\ERel c w sz es b off)
 | .gsl id sz es,v=>∃ b cap ty,c.m id=some b/\v=.slice (some ⟨b,0,none⟩) es.length cap/\es.length<=cap/\cap<=maxLen/\Shp w b ty (cap*sz)/\ERel c w sz es b 0
 | .sl id off len sz,v=>∃ b cap ty,c.m id=some b/\v=.slice (some ⟨b,off,none⟩) len cap/\len<=cap/\cap<=maxLen/\Shp w b ty (off+cap*sz)
 | .nilm,v=>v=.map none
 | .mapv id,v=>∃ b,c.m id=some b/\v=.map (some b)
 | .nilf,v=>v=.nilFunc
 | .fn f first captured,v=>∃ fs cs:Array Value,v=.func f fs cs/\LRel c w first fs.toList/\LRel c w captured cs.toList
 | .nili,v=>v=.nilIface
 | .ifc t a,v=>∃ u,v=.iface t u/\VRel c w a u
 | .agg cs,v=>∃ vs:Array Value,v=.agg vs/\LRel c w cs vs.toList/\∀ u∈vs.toList,u.oneCell'=true
 | .tup cs,v=>∃ vs:Array Value,v=.tuple vs/\LRel c w cs vs.toList
 | .yld id,v=>∃ b,c.m id=some b/\v=.func (.yield b) #[] #[]
def LRel (c:Ctx) (w:World):List AV->List Value->Prop
 | [],vs=>vs=[]
 | a::as,vs=>∃ v vs',vs=v::vs'/\VRel c w a v/\LRel c w as vs'
def MRel (c:Ctx) (w:World):List AV->Nat->Nat->Prop
 | [],_,_=>True
 | a::as,b,off=>c.im b off/\(∃ u,w.cell? ⟨b,off,none⟩=some u/\u.oneCell'=true/\VRel c w a u)/\MRel c w as b (off+1)
def ERel (c:Ctx) (w:World) (sz:Nat):List (List AV)->Nat->Nat->Prop
 | [],_,_=>True
 | e::es,b,off=>e.length=sz/\MRel c w e b off/\ERel c w sz es b (off+sz)
end
structure Ext0 (B:Nat) (c:Ctx) (w:World) (c':Ctx) (w':World):Prop where
 m:∀ id b,c.m id=some b->c'.m id=some b
 im:∀ b o,c.im b o->c'.im b o
 below:Below B w w'
 cells:∀ b o,c.im b o->w'.cell? ⟨b,o,none⟩=w.cell? ⟨b,o,none⟩
 shp:∀ b ty n,Shp w b ty n->Shp w' b ty n
def Dfr (w:World) (b:Nat):Prop:=w.heap[b]?=some (.deferred (some []))
structure Ext (B:Nat) (c:Ctx) (w:World) (c':Ctx) (w':World):Prop extends Ext0 B c w c' w' where
 oth:∀ b,Dfr w b->Dfr w' b
theorem Ext0.refl (B:Nat) (c:Ctx) (w:World):Ext0 B c w c w:=⟨λ_ _ h=>h,λ_ _ h=>h,Below.refl _ _,λ_ _ _=>rfl,λ_ _ _ h=>h⟩
theorem Ext.refl (B:Nat) (c:Ctx) (w:World):Ext B c w c w:=⟨Ext0.refl _ _ _,λ_ h=>h⟩
theorem Ext0.trans {B:Nat} {c c' c'':Ctx} {w w' w'':World} (h:Ext0 B c w c' w') (k:Ext0 B c' w' c'' w''):Ext0 B c w c'' w'':=
 ⟨λ_ _ x=>k.m _ _ (h.m _ _ x),λ_ _ x=>k.im _ _ (h.im _ _ x),h.below.trans k.below,λb o x=>(k.cells b o (h.im b o x)).trans (h.cells b o x),λ_ _ _ x=>k.shp _ _ _ (h.shp _ _ _ x)⟩
theorem Ext.trans {B:Nat} {c c' c'':Ctx} {w w' w'':World} (h:Ext B c w c' w') (k:Ext B c' w' c'' w''):Ext B c w c'' w'':=
 ⟨h.toExt0.trans k.toExt0,λb x=>k.oth b (h.oth b x)⟩
mutual
theorem VRel.z6j {B:Nat} {c c':Ctx} {w w':World} (E:Ext0 B c w c' w'):∀ {a:AV} {v:Value},VRel c w a v->VRel c' w' a v
 | .und,_,_=>by simp [VRel]
 | .int ..,_,h=>by simpa [VRel] using h
 | .bool ..,_,h=>by simpa [VRel] using h
 | .unkb,_,h=>by simpa [VRel] using h
 | .str ..,_,h=>by simpa [VRel] using h
 | .flt ..,_,h=>by simpa [VRel] using h
 | .nilp,_,h=>by simpa [VRel] using h
 | .ptr ..,_,h=>by
  simp only [VRel] at h ⊢;obtain ⟨b,h1,h2⟩:=h;exact ⟨b,E.m _ _ h1,h2⟩
 | .iptr cs,_,h=>by
  simp only [VRel] at h ⊢;obtain ⟨b,off,h1,h2⟩:=h;exact ⟨b,off,h1,MRel.z6j E h2⟩
 | .nils,_,h=>by simpa [VRel] using h
 | .eml,_,h=>by simpa [VRel] using h
 | .isl sz es,_,h=>by
  simp only [VRel] at h ⊢;obtain ⟨a,cap,h1,h2,h2b,h3⟩:=h;refine ⟨a,cap,h1,h2,h2b,λhne=>?_⟩;obtain ⟨b,off,h4,h5⟩:=h3 hne;exact ⟨b,off,h4,ERel.z6j E h5⟩
 | .gsl id sz es,_,h=>by
  simp only [VRel] at h ⊢;obtain ⟨b,cap,ty,h1,h2,h3,h4,h5,h6⟩:=h;exact ⟨b,cap,ty,E.m _ _ h1,h2,h3,h4,E.shp _ _ _ h5,ERel.z6j E h6⟩
 | .sl ..,_,h=>by
  simp only [VRel] at h ⊢;obtain ⟨b,cap,ty,h1,h2,h3,h4,h5⟩:=h;exact ⟨b,cap,ty,E.m _ _ h1,h2,h3,h4,E.shp _ _ _ h5⟩
 | .nilm,_,h=>by simpa [VRel] using h
 | .mapv ..,_,h=>by
  simp only [VRel] at h ⊢;obtain ⟨b,h1,h2⟩:=h;exact ⟨b,E.m _ _ h1,h2⟩
 | .nilf,_,h=>by simpa [VRel] using h
 | .fn f first captured,_,h=>by
  simp only [VRel] at h ⊢;obtain ⟨fs,cs,h1,h2,h3⟩:=h;exact ⟨fs,cs,h1,LRel.z6j E h2,LRel.z6j E h3⟩
 | .nili,_,h=>by simpa [VRel] using h
 | .ifc t a,_,h=>by
  simp only [VRel] at h ⊢;obtain ⟨u,h1,h2⟩:=h;exact ⟨u,h1,VRel.z6j E h2⟩
 | .agg cs,_,h=>by
  simp only [VRel] at h ⊢;obtain ⟨vs,h1,h2,h3⟩:=h;exact ⟨vs,h1,LRel.z6j E h2,h3⟩
 | .tup cs,_,h=>by
  simp only [VRel] at h ⊢;obtain ⟨vs,h1,h2⟩:=h;exact ⟨vs,h1,LRel.z6j E h2⟩
 | .yld id,_,h=>by
  simp only [VRel] at h ⊢;obtain ⟨b,h1,h2⟩:=h;exact ⟨b,E.m _ _ h1,h2⟩
theorem LRel.z6j {B:Nat} {c c':Ctx} {w w':World} (E:Ext0 B c w c' w'):∀ {as:List AV} {vs:List Value},LRel c w as vs->LRel c' w' as vs
 | [],_,h=>by simpa [LRel] using h
 | a::as,_,h=>by
  simp only [LRel] at h ⊢;obtain ⟨v,vs',h1,h2,h3⟩:=h;exact ⟨v,vs',h1,VRel.z6j E h2,LRel.z6j E h3⟩
theorem MRel.z6j {B:Nat} {c c':Ctx} {w w':World} (E:Ext0 B c w c' w'):∀ {as:List AV} {b off:Nat},MRel c w as b off->MRel c' w' as b off
 | [],_,_,_=>by simp [MRel]
 | a::as,b,off,h=>by
  simp only [MRel] at h ⊢;obtain ⟨h1,⟨u,h2,h3,h4⟩,h5⟩:=h;exact ⟨E.im _ _ h1,⟨u,(E.cells _ _ h1).trans h2,h3,VRel.z6j E h4⟩,MRel.z6j E h5⟩
theorem ERel.z6j {B:Nat} {c c':Ctx} {w w':World} (E:Ext0 B c w c' w') {sz:Nat}:∀ {es:List (List AV)} {b off:Nat},ERel c w sz es b off->ERel c' w' sz es b off
 | [],_,_,_=>by simp [ERel]
 | e::es,b,off,h=>by
  simp only [ERel] at h ⊢;exact ⟨h.1,MRel.z6j E h.2.1,ERel.z6j E h.2.2⟩
end
theorem VRel.mono {B:Nat} {c c':Ctx} {w w':World} (E:Ext B c w c' w') {a:AV} {v:Value} (h:VRel c w a v):VRel c' w' a v:=VRel.z6j E.toExt0 h
theorem LRel.mono {B:Nat} {c c':Ctx} {w w':World} (E:Ext B c w c' w') {as:List AV} {vs:List Value} (h:LRel c w as vs):LRel c' w' as vs:=LRel.z6j E.toExt0 h
theorem MRel.mono {B:Nat} {c c':Ctx} {w w':World} (E:Ext B c w c' w') {as:List AV} {b off:Nat} (h:MRel c w as b off):MRel c' w' as b off:=MRel.z6j E.toExt0 h
theorem ERel.mono {B:Nat} {c c':Ctx} {w w':World} (E:Ext B c w c' w') {sz:Nat} {es:List (List AV)} {b off:Nat} (h:ERel c w sz es b off):ERel c' w' sz es b off:=ERel.z6j E.toExt0 h
inductive AObj where
 | row (ty:TypeId) (cs:List AV)
 | tok (ty:TypeId) (n:Nat)
 | loop (st:LoopState) (pe:Option Code) (N:Nat) (ps:Array Tmp) (assign body:Code) (fr:Nat->AV)
 | map (ks vs:List AV)
structure z00 where
 objs:Nat->Option AObj
 next:Nat
def ORel (c:Ctx) (w:World) (b:Nat):AObj->Prop
 | .row ty cs=>∃ C:Array Value,w.heap[b]?=some (.cells C ty (0,0))/\cs.length<=C.size/\LRel c w cs (C.toList.take cs.length)/\(∀ u∈C.toList.take cs.length,u.oneCell'=true)/\∀ o,¬ c.im b o
 | .tok ty n=>∃ C:Array Value,w.heap[b]?=some (.cells C ty (0,0))/\n<=C.size/\∀ o,c.im b o->o<n
 | .loop st pe N ps asn bd fr=>∃ L:Loop,w.heap[b]?=some (.loop L)/\L.state=st/\L.pending=pe/\L.params=ps/\L.assign=asn/\L.body=bd/\L.tmps.size=N/\∀ i,VRel c w (fr i) (L.tmps.getD i undef)
 | .map ks vs=>∃ es:Array MapEntry,w.heap[b]?=some (.map es es.size)/\LRel c w ks (es.toList.map (·.key))/\LRel c w vs (es.toList.map (·.val))/\∀ (i:Nat) (e:MapEntry),es[i]?=some e->e.born=i
def zi6:List Int:=[0,1,56,2,57,49,28,3,61,58,42,50,38,29,17,4,62,47,59,36,45,43,51,22,53,39,33,30,24,18,12,5,63,55,48,27,60,41,37,16,46,35,44,21,52,32,23,11,54,26,40,15,34,20,31,10,25,14,19,9,13,8,7,6]
def Globs:Nat->List AV:=λi=>if i=0 then zi6.map (.int .u8 ·) else []
def GlR (c:Ctx) (w:World):Prop:=∀ g,MRel c w (Globs g) g 0
theorem GlR.z6j {B:Nat} {c c':Ctx} {w w':World} (E:Ext0 B c w c' w') (h:GlR c w):GlR c' w':=λg=>MRel.z6j E (h g)
theorem GlR.mono {B:Nat} {c c':Ctx} {w w':World} (E:Ext B c w c' w') (h:GlR c w):GlR c' w':=h.z6j E.toExt0
structure WRel (B:Nat) (c:Ctx) (h:z00) (w:World):Prop where
 mlt:∀ id b,c.m id=some b->id<h.next/\B<=b/\b<w.heap.size
 inj:∀ i j b,c.m i=some b->c.m j=some b->h.objs i≠none->h.objs j≠none->i=j
 obj:∀ id b o,c.m id=some b->h.objs id=some o->ORel c w b o
 im:∀ b o,c.im b o->b<w.heap.size
 fresh:∀ id,h.next<=id->h.objs id=none
 base:B<=w.heap.size
 gl:GlR c w
theorem LRel.length {c:Ctx} {w:World}:∀ {as:List AV} {vs:List Value},LRel c w as vs->vs.length=as.length
 | [],_,h=>by simp only [LRel] at h;subst h;rfl
 | a::as,_,h=>by
  simp only [LRel] at h;obtain ⟨v,vs',rfl,_,h3⟩:=h;simp [LRel.length h3]
theorem LRel.get {c:Ctx} {w:World}:∀ {as:List AV} {vs:List Value},LRel c w as vs->∀ {i:Nat} {a:AV},as[i]?=some a->∃ v,vs[i]?=some v/\VRel c w a v
 | [],_,_,i,a,hi=>by simp at hi
 | x::as,_,h,i,a,hi=>by
  simp only [LRel] at h;obtain ⟨v,vs',rfl,h2,h3⟩:=h
  cases i with
  | zero=>simp at hi;subst hi;exact ⟨v,by simp,h2⟩
  | succ i=>simp only [List.getElem?_cons_succ] at hi ⊢;exact LRel.get h3 hi
theorem LRel.append {c:Ctx} {w:World}:∀ {as:List AV} {vs:List Value} {bs:List AV} {us:List Value},LRel c w as vs->LRel c w bs us->LRel c w (as++bs) (vs++us)
 | [],_,_,_,h,k=>by simp only [LRel] at h;subst h;simpa using k
 | a::as,_,_,_,h,k=>by
  simp only [LRel] at h;obtain ⟨v,vs',rfl,h2,h3⟩:=h;simp only [List.cons_append,LRel];exact ⟨v,_,rfl,h2,LRel.append h3 k⟩
theorem LRel.take {c:Ctx} {w:World}:∀ {as:List AV} {vs:List Value} (n:Nat),LRel c w as vs->LRel c w (as.take n) (vs.take n)
 | _,_,0,_=>by simp [LRel]
 | [],_,n+1,h=>by simp only [LRel] at h;subst h;simp [LRel]
 | a::as,_,n+1,h=>by
  simp only [LRel] at h;obtain ⟨v,vs',rfl,h2,h3⟩:=h;simp only [List.take_succ_cons,LRel];exact ⟨v,_,rfl,h2,LRel.take n h3⟩
theorem LRel.drop {c:Ctx} {w:World}:∀ {as:List AV} {vs:List Value} (n:Nat),LRel c w as vs->LRel c w (as.drop n) (vs.drop n)
 | _,_,0,h=>by simpa using h
 | [],_,n+1,h=>by simp only [LRel] at h;subst h;simp [LRel]
 | a::as,_,n+1,h=>by
  simp only [LRel] at h;obtain ⟨v,vs',rfl,h2,h3⟩:=h;simp only [List.drop_succ_cons];exact LRel.drop n h3
theorem LRel.set {c:Ctx} {w:World}:∀ {as:List AV} {vs:List Value} (i:Nat) {a:AV} {v:Value},LRel c w as vs->VRel c w a v->LRel c w (as.set i a) (vs.set i v)
 | [],_,i,_,_,h,_=>by simp only [LRel] at h;subst h;simp [LRel]
 | a::as,_,0,_,_,h,k=>by
  simp only [LRel] at h;obtain ⟨v,vs',rfl,h2,h3⟩:=h;simp only [List.set_cons_zero,LRel];exact ⟨_,_,rfl,k,h3⟩
 | a::as,_,i+1,_,_,h,k=>by
  simp only [LRel] at h;obtain ⟨v,vs',rfl,h2,h3⟩:=h;simp only [List.set_cons_succ,LRel];exact ⟨_,_,rfl,h2,LRel.set i h3 k⟩
theorem LRel.ofFn {c:Ctx} {w:World} {as:List AV} {vs:List Value} (hl:vs.length=as.length) (h:∀ (i:Nat) (a:AV) (v:Value),as[i]?=some a->vs[i]?=some v->VRel c w a v):LRel c w as vs:=by
 induction as generalizing vs with
 | nil=>simpa [LRel] using hl
 | cons a as ih=>
  cases vs with
  | nil=>simp at hl
  | cons v vs=>
   simp only [LRel];refine ⟨v,vs,rfl,h 0 a v (by simp) (by simp),ih (by simpa using hl) λi a' v' h1 h2=>h (i+1) a' v' (by simpa using h1) (by simpa using h2)⟩
theorem MRel.get {c:Ctx} {w:World}:∀ {as:List AV} {b off:Nat},MRel c w as b off->∀ {i:Nat} {a:AV},as[i]?=some a->c.im b (off+i)/\∃ u,w.cell? ⟨b,off+i,none⟩=some u/\u.oneCell'=true/\VRel c w a u
 | [],_,_,_,i,a,hi=>by simp at hi
 | x::as,b,off,h,i,a,hi=>by
  simp only [MRel] at h
  cases i with
  | zero=>simp at hi;subst hi;exact ⟨h.1,h.2.1⟩
  | succ i=>
   have:=MRel.get h.2.2 (i:=i) (a:=a) (by simpa using hi);rwa [show off+1+i=off+(i+1) by omega] at this
theorem MRel.drop {c:Ctx} {w:World}:∀ {as:List AV} {b off:Nat} (n:Nat),MRel c w as b off->MRel c w (as.drop n) b (off+n)
 | _,_,_,0,h=>by simpa using h
 | [],_,_,n+1,_=>by simp [MRel]
 | a::as,b,off,n+1,h=>by
  simp only [MRel] at h;have:=MRel.drop n h.2.2;rw [show off+1+n=off+(n+1) by omega] at this;simpa using this
theorem MRel.take {c:Ctx} {w:World}:∀ {as:List AV} {b off:Nat} (n:Nat),MRel c w as b off->MRel c w (as.take n) b off
 | _,_,_,0,h=>by simp [MRel]
 | [],_,_,n+1,_=>by simp [MRel]
 | a::as,b,off,n+1,h=>by
  simp only [MRel] at h;simp only [List.take_succ_cons,MRel];exact ⟨h.1,h.2.1,MRel.take n h.2.2⟩
theorem MRel.append {c:Ctx} {w:World}:∀ {as bs:List AV} {b off:Nat},MRel c w as b off->MRel c w bs b (off+as.length)->MRel c w (as++bs) b off
 | [],_,_,_,_,k=>by simpa using k
 | a::as,bs,b,off,h,k=>by
  simp only [MRel] at h;simp only [List.cons_append,MRel];refine ⟨h.1,h.2.1,MRel.append h.2.2 ?_⟩;rwa [show off+1+as.length=off+(a::as).length by simp;omega]
theorem MRel.values {c:Ctx} {w:World}:∀ {as:List AV} {b off:Nat},MRel c w as b off->∃ vs:List Value,LRel c w as vs/\(∀ u∈vs,u.oneCell'=true)/\∀ j u,vs[j]?=some u->w.cell? ⟨b,off+j,none⟩=some u
 | [],_,_,_=>⟨[],by simp [LRel],by simp,by simp⟩
 | a::as,b,off,h=>by
  simp only [MRel] at h;obtain ⟨_,⟨u,h2,h3,h4⟩,h5⟩:=h;obtain ⟨vs,k1,k2,k3⟩:=MRel.values h5;refine ⟨u::vs,by simp only [LRel];exact ⟨u,vs,rfl,h4,k1⟩,by simpa using ⟨h3,k2⟩,λj x hx=>?_⟩
  cases j with
  | zero=>simp at hx;subst hx;exact h2
  | succ j=>
   have:=k3 j x (by simpa using hx);rwa [show off+1+j=off+(j+1) by omega] at this
theorem MRel.ofFn {c:Ctx} {w:World} {b:Nat}:∀ {as:List AV} {off:Nat},(∀ (i:Nat) (a:AV),as[i]?=some a->c.im b (off+i)/\∃ u,w.cell? ⟨b,off+i,none⟩=some u/\u.oneCell'=true/\VRel c w a u)->MRel c w as b off
 | [],_,_=>by simp [MRel]
 | a::as,off,h=>by
  have h0:=h 0 a (by simp);simp only [MRel];refine ⟨h0.1,h0.2,MRel.ofFn λi x hx=>?_⟩;have:=h (i+1) x (by simpa using hx);rwa [show off+(i+1)=off+1+i by omega] at this
theorem ERel.get {c:Ctx} {w:World} {sz:Nat}:∀ {es:List (List AV)} {b off:Nat},ERel c w sz es b off->∀ {i:Nat} {e:List AV},es[i]?=some e->e.length=sz/\MRel c w e b (off+i*sz)
 | [],_,_,_,i,e,hi=>by simp at hi
 | x::es,b,off,h,i,e,hi=>by
  simp only [ERel] at h
  cases i with
  | zero=>simp at hi;subst hi;exact ⟨h.1,by simpa using h.2.1⟩
  | succ i=>
   have:=ERel.get h.2.2 (i:=i) (e:=e) (by simpa using hi);rwa [show off+sz+i*sz=off+(i+1)*sz by rw [Nat.add_mul];omega] at this
theorem ERel.drop {c:Ctx} {w:World} {sz:Nat}:∀ {es:List (List AV)} {b off:Nat} (n:Nat),ERel c w sz es b off->ERel c w sz (es.drop n) b (off+n*sz)
 | _,_,_,0,h=>by simpa using h
 | [],_,_,n+1,_=>by simp [ERel]
 | e::es,b,off,n+1,h=>by
  simp only [ERel] at h;have:=ERel.drop n h.2.2;rw [show off+sz+n*sz=off+(n+1)*sz by rw [Nat.add_mul];omega] at this;simpa using this
theorem ERel.take {c:Ctx} {w:World} {sz:Nat}:∀ {es:List (List AV)} {b off:Nat} (n:Nat),ERel c w sz es b off->ERel c w sz (es.take n) b off
 | _,_,_,0,h=>by simp [ERel]
 | [],_,_,n+1,_=>by simp [ERel]
 | e::es,b,off,n+1,h=>by
  simp only [ERel] at h;simp only [List.take_succ_cons,ERel];exact ⟨h.1,h.2.1,ERel.take n h.2.2⟩
theorem ERel.flatten {c:Ctx} {w:World} {sz:Nat}:∀ {es:List (List AV)} {b off:Nat},ERel c w sz es b off->MRel c w es.flatten b off/\es.flatten.length=es.length*sz
 | [],_,_,_=>by simp [MRel]
 | e::es,b,off,h=>by
  simp only [ERel] at h;obtain ⟨h1,h2,h3⟩:=h;obtain ⟨k1,k2⟩:=ERel.flatten h3;refine ⟨?_,?_⟩
  ·simp only [List.flatten_cons];exact MRel.append h2 (by rwa [h1])
  ·simp only [List.flatten_cons,List.length_append,List.length_cons,h1,k2,Nat.add_mul];omega
theorem ERel.ofMRel {c:Ctx} {w:World} {sz:Nat}:∀ {es:List (List AV)} {b off:Nat},(∀ e∈es,e.length=sz)->MRel c w es.flatten b off->ERel c w sz es b off
 | [],_,_,_,_=>by simp [ERel]
 | e::es,b,off,hl,h=>by
  have he:=hl e (by simp);simp only [List.flatten_cons] at h;simp only [ERel];refine ⟨he,?_,ERel.ofMRel (λx hx=>hl x (by simp [hx])) ?_⟩
  ·have:=MRel.take e.length h;simpa using this
  ·have:=MRel.drop e.length h;rw [he] at this;simpa [<-he] using this
theorem ERel.lens {c:Ctx} {w:World} {sz:Nat}:∀ {es:List (List AV)} {b off:Nat},ERel c w sz es b off->∀ e∈es,e.length=sz
 | [],_,_,_=>by simp
 | e::es,b,off,h=>by
  simp only [ERel] at h;intro x hx;rcases List.mem_cons.1 hx with rfl | hx
  ·exact h.1
  ·exact ERel.lens h.2.2 x hx
end
section
open Go.RowKit
def z8d (o:Option AV) (K:AV->Prop):Prop:=match o with | some v=>K v | none=>False
@[simp] theorem z7j (v:AV) (K:AV->Prop):z8d (some v) K=K v:=rfl
@[simp] theorem obind_none (K:AV->Prop):z8d none K=False:=rfl
def Does (P:Program) (B:Nat) (c:Ctx) (w:World) (s:Sem Value) (K:AV->z00->Prop):Prop:=
 ∃ c' u v h' w',s.run P w=.ok u w'/\Ext B c w c' w'/\WRel B c' h' w'/\VRel c' w' v u/\K v h'
section
variable {P:Program} {B:Nat} {c:Ctx} {h:z00} {w:World}
theorem Does.z3e {s:Sem Value} {K:AV->z00->Prop} {u:Value} {v:AV} (W:WRel B c h w) (hr:s.run P w=.ok u w) (hv:VRel c w v u) (hk:K v h):Does P B c w s K:=
 ⟨c,u,v,h,w,hr,Ext.refl _ _ _,W,hv,hk⟩
def iAnd (k:IntKind) (a b:Int):Int:=k.wrap (BitVec.ofInt k.bits a &&& BitVec.ofInt k.bits b).toNat
def iOr (k:IntKind) (a b:Int):Int:=k.wrap (BitVec.ofInt k.bits a ||| BitVec.ofInt k.bits b).toNat
def iXor (k:IntKind) (a b:Int):Int:=k.wrap (BitVec.ofInt k.bits a ^^^ BitVec.ofInt k.bits b).toNat
def iAndNot (k:IntKind) (a b:Int):Int:=k.wrap (BitVec.ofInt k.bits a &&& ~~~ BitVec.ofInt k.bits b).toNat
def iShl (k:IntKind) (a b:Int):Int:=k.wrap (a*2 ^ (min b.toNat k.bits))
def iShr (k:IntKind) (a b:Int):Int:=a.fdiv (2 ^ (min b.toNat k.bits))
def z7r (op:BinOp) (k:IntKind) (a b:Int):Option AV:=
 match op with
 | .add=>some (.int k (k.wrap (a+b)))
 | .sub=>some (.int k (k.wrap (a-b)))
 | .mul=>some (.int k (k.wrap (a*b)))
 | .quo=>if b=0 then none else some (.int k (k.wrap (a.tdiv b)))
 | .rem=>if b=0 then none else some (.int k (a.tmod b))
 | .and=>some (.int k (iAnd k a b))
 | .or=>some (.int k (iOr k a b))
 | .xor=>some (.int k (iXor k a b))
 | .andNot=>some (.int k (iAndNot k a b))
 | .eql=>some (.bool (a == b))
 | .neq=>some (.bool (a != b))
 | .lss=>some (.bool (decide (a<b)))
 | .leq=>some (.bool (decide (a<=b)))
 | .gtr=>some (.bool (decide (a>b)))
 | .geq=>some (.bool (decide (a>=b)))
 | _=>none
def zmr (op:BinOp) (a b:List UInt8):Option AV:=
 match op with
 | .add=>if ((a.length+b.length:Nat):Int)>9223372036854775807 then none else some (.str (a++b))
 | .eql=>some (.bool (a == b))
 | .neq=>some (.bool (!(a == b)))
 | .lss=>some (.bool (Op.bytesLess a b))
 | .leq=>some (.bool (Op.bytesLess a b||a == b))
 | .gtr=>some (.bool (!(Op.bytesLess a b||a == b)))
 | .geq=>some (.bool (!Op.bytesLess a b))
 | _=>none
def eqn (op:BinOp) (b:Bool):Option AV:=match op with | .eql=>some (.bool b) | .neq=>some (.bool !b) | _=>none
inductive LK | int | bool | str
 deriving DecidableEq
inductive CmpK | other | bool | ptr | slice | map | func | iface | flat (ks:List LK)
 deriving DecidableEq
def z1u:List LK->List AV->List AV->Option Bool
 | [],[],[]=>some true
 | .int::ks,.int k a::xs,.int k' b::ys=>if k=k' then (z1u ks xs ys).map λr=>a == b&&r else none
 | .bool::ks,.bool a::xs,.bool b::ys=>(z1u ks xs ys).map λr=>a == b&&r
 | .str::ks,.str a::xs,.str b::ys=>(z1u ks xs ys).map λr=>a == b&&r
 | _,_,_=>none
def z2l (P:Program):List Field->Nat->Option (List LK)
 | [],_=>some []
 | f :: fs, n => if f.name ≠ "_" ∧ f.offset = n then
   match P.underlying f.type with
   | some (.int _)=>(z2l P fs (n+1)).map (LK.int::·)
   | some .bool=>(z2l P fs (n+1)).map (LK.bool::·)
   | some .string=>(z2l P fs (n+1)).map (LK.str::·)
   | _=>none
  else none
def cmpK (P:Program) (t:TypeId):CmpK:=
 match P.underlying t with
 | some .bool=>.bool
 | some (.pointer _)=>.ptr
 | some (.slice _)=>.slice
 | some (.map _ _)=>.map
 | some (.func _ _ _)=>.func
 | some (.interface _)=>.iface
 | some (.struct fs)=>if P.stoodInHeld t=false/\P.eqGuardType P.depth t=false then
   match z2l P fs.toList 0 with | some ks=>.flat ks | none=>.other
  else .other
 | _=>.other
def zpw (ck:CmpK) (op:BinOp) (x y:AV):Option AV:=
 match ck,x,y with
 | .bool,.bool a,.bool b=>eqn op (a == b)
 | .ptr,.nilp,.nilp=>eqn op true
 | .ptr,.ptr _ _,.nilp=>eqn op false
 | .ptr,.nilp,.ptr _ _=>eqn op false
 | .ptr,.iptr _,.nilp=>eqn op false
 | .ptr,.nilp,.iptr _=>eqn op false
 | .slice,.nils,.nils=>eqn op true
 | .slice,.eml,.nils=>eqn op false
 | .slice,.gsl ..,.nils=>eqn op false
 | .slice,.sl ..,.nils=>eqn op false
 | .slice,.isl _ [],.nils=>match op with | .eql | .neq=>some .unkb | _=>none
 | .slice,.isl _ (_::_),.nils=>eqn op false
 | .map,.nilm,.nilm=>eqn op true
 | .map,.mapv _,.nilm=>eqn op false
 | .func,.nilf,.nilf=>eqn op true
 | .func,.fn ..,.nilf=>eqn op false
 | .iface,.ifc ..,.nili=>eqn op false
 | .flat ks,.agg xs,.agg ys=>(z1u ks xs ys).bind λb=>eqn op b
 | _,_,_=>none
def binFlt (op:BinOp) (k:FloatKind) (a b:Nat):Option AV:=
 match op with
 | .eql=>some (.bool (k.format.order a b == some .eq))
 | .neq=>some (.bool (k.format.order a b != some .eq))
 | .lss=>some (.bool (k.format.order a b == some .lt))
 | .leq=>some (.bool (k.format.order a b == some .lt||k.format.order a b == some .eq))
 | .gtr=>some (.bool (k.format.order a b == some .gt))
 | .geq=>some (.bool (k.format.order a b == some .gt||k.format.order a b == some .eq))
 | _=>none
def binA (ck:CmpK) (op:BinOp) (x y:AV):Option AV:=
 match op,x,y with
 | op,.flt k a,.flt k' b=>if k=k' then binFlt op k a b else none
 | .shl,.int k a,.int _ b=>if b<0 then none else some (.int k (iShl k a b))
 | .shr,.int k a,.int _ b=>if b<0 then none else some (.int k (iShr k a b))
 | op,.int k a,.int k' b=>if k=k' then z7r op k a b else none
 | op,.str a,.str b=>zmr op a b
 | op,x,y=>zpw ck op x y
theorem VRel.z1r {k:IntKind} {n:Int} {v:Value} (hv:VRel c w (.int k n) v):v=.int k n:=by simpa [VRel] using hv
theorem VRel.z7o {b:Bool} {v:Value} (hv:VRel c w (.bool b) v):v=.bool b:=by simpa [VRel] using hv
theorem VRel.z6h {s:List UInt8} {v:Value} (hv:VRel c w (.str s) v):v=.string ⟨s.toArray⟩:=by simpa [VRel] using hv
theorem zds (s:List UInt8):(⟨s.toArray⟩:ByteArray).toList=s:=by rw [ByteArray.toList_eq]
theorem z8r (s:List UInt8):(⟨s.toArray⟩:ByteArray).size=s.length:=by simp [ByteArray.size]
theorem append_str (a b:List UInt8):(⟨a.toArray⟩++⟨b.toArray⟩:ByteArray)=⟨(a++b).toArray⟩:=by
 apply ByteArray.ext;simp [ByteArray.data_append]
theorem zda (op:BinOp) (t:TypeId) (xo yo:Operand) (u v:Value) (h1:u≠.nilIface\/v≠.nilIface) (h2:(∀ x,u≠.agg x)\/(∀ y,v≠.agg y)):(eqGuard op t xo yo u v).run P w=.ok () w:=by
 unfold eqGuard;cases op <;> (try simp) <;> cases u <;> (try simp) <;> cases v <;> (try simp) <;> simp_all
theorem zpy {op:BinOp} {t:TypeId} {k:IntKind} {a b:Int} {r:AV} (hr:z7r op k a b=some r) (hs:op≠.shl) (hs2:op≠.shr):∃ z,(binOp op t (.int k a) (.int k b)).run P w=.ok z w/\VRel c w r z:=by
 cases op <;> simp_all [z7r,binOp,Op.intArith,Op.intDiv,Op.intBits,Op.intCmp,iAnd,iOr,iXor,iAndNot]
 all_goals (first | (subst hr;simp [VRel];done) | (obtain ⟨h0,hr⟩:=hr;subst hr;simp [h0,VRel];done) | (rw [if_neg hr.1] at *;simp_all [VRel];done) | skip)
theorem zpz {op:BinOp} {t:TypeId} {a b:List UInt8} {r:AV} (hr:zmr op a b=some r):∃ z,(binOp op t (.string ⟨a.toArray⟩) (.string ⟨b.toArray⟩)).run P w=.ok z w/\VRel c w r z:=by
 have hm:IntKind.i64.max=9223372036854775807:=by decide
 cases op <;> simp only [zmr] at hr
 all_goals (try (cases hr;done))
 all_goals (try (simp only [Option.some.injEq] at hr;subst hr;exact ⟨_,by simp [binOp,Op.stringOp,zds];rfl,by simp [VRel]⟩))
 split at hr
 ·cases hr
 ·rename_i hn;simp only [Option.some.injEq] at hr;subst hr;refine ⟨.string ⟨(a++b).toArray⟩,?_,by simp [VRel]⟩;have:¬ ((((⟨a.toArray⟩:ByteArray).size+(⟨b.toArray⟩:ByteArray).size:Nat):Int)>IntKind.i64.max):=by rw [z8r,z8r,hm];exact hn
  simp only [binOp,Op.stringOp];rw [if_neg this,append_str];rfl
theorem zd9 (t:TypeId) (x y:Value):(Op.equal t x y).run P w=(Op.equalIn 10000 t x y).run P w:=rfl
theorem z2p {op:BinOp} {b:Bool} {r:AV} {t:TypeId} {u v:Value} (hr:eqn op b=some r) (he:(Op.equalIn 10000 t u v).run P w=.ok b w)
  (h1:∀ s,binOp .eql t u v=s->s=(do pure (.bool (← Op.equal t u v)))) (h2:∀ s,binOp .neq t u v=s->s=(do pure (.bool (!(← Op.equal t u v))))) :
  ∃ z,(binOp op t u v).run P w=.ok z w/\VRel c w r z:=by
 cases op <;> simp only [eqn] at hr <;> (try (cases hr;done))
 ·simp only [Option.some.injEq] at hr;subst hr;exact ⟨.bool b,by rw [h1 _ rfl];simp [zd9,he],by simp [VRel]⟩
 ·simp only [Option.some.injEq] at hr;subst hr;exact ⟨.bool (!b),by rw [h2 _ rfl];simp [zd9,he],by simp [VRel]⟩
def CmpOk (P:Program) (t:TypeId) (d:TypeDesc):CmpK->Prop
 | .bool=>d=.bool
 | .ptr=>∃ e,d=.pointer e
 | .slice=>∃ e,d=.slice e
 | .map=>∃ k e,d=.map k e
 | .func=>∃ a b v,d=.func a b v
 | .iface=>∃ ms,d=.interface ms
 | .flat ks=>∃ fs,d=.struct fs/\P.stoodInHeld t=false/\P.eqGuardType P.depth t=false/\z2l P fs.toList 0=some ks
 | .other=>True
theorem cmpK_inv {t:TypeId} {ck:CmpK} (hck:cmpK P t=ck) (hne:ck≠.other):∃ d,P.underlying t=some d/\CmpOk P t d ck:=by
 unfold cmpK at hck
 cases hd:P.underlying t with
 | none=>simp only [hd] at hck;exact absurd hck.symm hne
 | some d=>
  simp only [hd] at hck;refine ⟨d,rfl,?_⟩;cases d <;> simp only at hck
  case bool=>subst hck;exact rfl
  case pointer e=>subst hck;exact ⟨_,rfl⟩
  case slice e=>subst hck;exact ⟨_,rfl⟩
  case map k e=>subst hck;exact ⟨_,_,rfl⟩
  case func a b v=>subst hck;exact ⟨_,_,_,rfl⟩
  case interface ms=>subst hck;exact ⟨_,rfl⟩
  case struct fs=>
   split at hck
   ·rename_i hh;split at hck
    ·rename_i ks hks;subst hck;exact ⟨fs,rfl,hh.1,hh.2,hks⟩
    ·exact absurd hck.symm hne
   ·exact absurd hck.symm hne
  all_goals exact absurd hck.symm hne
theorem zg0 (fs:List Field):∀ (n:Nat) (ks:List LK) (xs ys:List AV) (us vs:List Value) (X Y:Array Value) (b:Bool),z2l P fs n=some ks->LRel c w xs us->LRel c w ys vs->z1u ks xs ys=some b->
  X.toList.drop n=us->Y.toList.drop n=vs->(Op.eqFields 9999 X Y fs).run P w=.ok b w:=by
 induction fs with
 | nil=>
  intro n ks xs ys us vs X Y b hf hx hy he _ _;simp only [z2l,Option.some.injEq] at hf;subst hf;cases xs <;> cases ys <;> simp only [z1u] at he <;> (try (cases he;done));simp only [Option.some.injEq] at he;subst he;simp [Op.eqFields]
 | cons f fs ih=>
  intro n ks xs ys us vs X Y b hf hx hy he hX hY;simp only [z2l] at hf;split at hf
  case isFalse=>cases hf
  rename_i hh;obtain ⟨hn,ho⟩:=hh;have key:∀ (ks':List LK) (x y:AV) (xs' ys':List AV) (r e:Bool) (d:TypeDesc),xs=x::xs'->ys=y::ys'->z2l P fs (n+1)=some ks'->z1u ks' xs' ys'=some r->b=(e&&r)->P.underlying f.type=some d->
    (match d with | .struct _ | .array _ _=>true | _=>false)=false->(∀ u v,VRel c w x u->VRel c w y v->(Op.equalIn 9999 f.type u v).run P w=.ok e w)->(Op.eqFields 9999 X Y (f::fs)).run P w=.ok b w:=by
   intro ks' x y xs' ys' r e d hxs hys hfs hr hb hd hdk hq;subst hxs;subst hys;simp only [LRel] at hx hy;obtain ⟨u,us',rfl,hu,hus⟩:=hx;obtain ⟨v,vs',rfl,hv,hvs⟩:=hy;have hXn:X[n]?=some u:=by
    have:=congrArg (λl=>l[0]?) hX;simpa using this
   have hYn:Y[n]?=some v:=by
    have:=congrArg (λl=>l[0]?) hY;simpa using this
   have hX':X.toList.drop (n+1)=us':=by have:=congrArg (List.drop 1) hX;simpa [List.drop_drop] using this
   have hY':Y.toList.drop (n+1)=vs':=by have:=congrArg (List.drop 1) hY;simpa [List.drop_drop] using this
   have hagg:(isAgg f.type).run P w=.ok false w:=by
    unfold isAgg;rw [Sem.run_bind,run_underlying hd w];cases d <;> simp_all
   have hp1:(part f.type X f.offset).run P w=.ok u w:=by simp [part,hagg,ho,hXn]
   have hp2:(part f.type Y f.offset).run P w=.ok v w:=by simp [part,hagg,ho,hYn]
   have hh:=ih (n+1) ks' xs' ys' us' vs' X Y r hfs hus hvs hr hX' hY';rw [Op.eqFields,if_pos hn];simp only [Sem.run_bind,hp1,hp2,Result.andThen_ok,hq u v hu hv];cases e
   ·simp [hb]
   ·simp [hb,hh]
  split at hf
  ·rename_i kk hd;obtain ⟨ks',hfs,rfl⟩:=Option.map_eq_some_iff.1 hf
   cases xs with
   | nil=>simp [z1u] at he
   | cons x xs=>
    cases ys with
    | nil=>cases x <;> simp [z1u] at he
    | cons y ys=>
     cases x <;> cases y <;> simp only [z1u] at he <;> (try (cases he;done));split at he
     ·rename_i hk;subst hk;obtain ⟨r,hr,hb⟩:=Option.map_eq_some_iff.1 he;refine key ks' _ _ xs ys r _ _ rfl rfl hfs hr hb.symm hd rfl λu v hu hv=>?_;rw [hu.z1r,hv.z1r];exact run_equalIn_int w 9998 _ _ kk _ _ hd
     ·cases he
  ·rename_i hd;obtain ⟨ks',hfs,rfl⟩:=Option.map_eq_some_iff.1 hf
   cases xs with
   | nil=>simp [z1u] at he
   | cons x xs=>
    cases ys with
    | nil=>cases x <;> simp [z1u] at he
    | cons y ys=>
     cases x <;> cases y <;> simp only [z1u] at he <;> (try (cases he;done));obtain ⟨r,hr,hb⟩:=Option.map_eq_some_iff.1 he;refine key ks' _ _ xs ys r _ _ rfl rfl hfs hr hb.symm hd rfl λu v hu hv=>?_;rw [hu.z7o,hv.z7o];exact run_equalIn_bool w 9998 _ _ _ hd
  ·rename_i hd;obtain ⟨ks',hfs,rfl⟩:=Option.map_eq_some_iff.1 hf
   cases xs with
   | nil=>simp [z1u] at he
   | cons x xs=>
    cases ys with
    | nil=>cases x <;> simp [z1u] at he
    | cons y ys=>
     cases x <;> cases y <;> simp only [z1u] at he <;> (try (cases he;done));obtain ⟨r,hr,hb⟩:=Option.map_eq_some_iff.1 he;refine key ks' _ _ xs ys r _ _ rfl rfl hfs hr hb.symm hd rfl λu v hu hv=>?_;rw [hu.z6h,hv.z6h,run_equalIn_string (P:=P) w 9998 _ _ _ hd,zds,zds]
  ·cases hf
theorem guarded {op:BinOp} {t:TypeId} {xo yo:Operand} {u v:Value} {r:AV} (h1:u≠.nilIface\/v≠.nilIface) (h2:(∀ x,u≠.agg x)\/(∀ y,v≠.agg y)) (h:∃ z,(binOp op t u v).run P w=.ok z w/\VRel c w r z) :
  ∃ z,(do eqGuard op t xo yo u v;binOp op t u v:Sem Value).run P w=.ok z w/\VRel c w r z:=by
 obtain ⟨z,hz,hr⟩:=h;exact ⟨z,by rw [Sem.run_bind,zda op t xo yo u v h1 h2];exact hz,hr⟩
section
variable (d:Nat) {t:TypeId}
theorem zg1 {e:TypeId} (x y:Option Addr) (b:Bool) (ht:P.underlying t=some (.pointer e)) (hb:(x=none/\y=none/\b=true)\/(x≠none/\y=none/\b=false)\/(x=none/\y≠none/\b=false)):(Op.equalIn (d+1) t (.pointer x) (.pointer y)).run P w=.ok b w:=by
 rcases hb with ⟨rfl,rfl,rfl⟩ | ⟨h,rfl,rfl⟩ | ⟨rfl,h,rfl⟩
 ·simp [Op.equalIn,run_underlying ht,samePointer]
 ·cases x with
  | none=>exact absurd rfl h
  | some a=>simp [Op.equalIn,run_underlying ht,samePointer]
 ·cases y with
  | none=>exact absurd rfl h
  | some a=>simp [Op.equalIn,run_underlying ht,samePointer]
theorem z8u {e:TypeId} (x:Option Addr) (n k:Nat) (ht:P.underlying t=some (.slice e)):(Op.equalIn (d+1) t (.slice x n k) (.slice none 0 0)).run P w=.ok x.isNone w:=by
 cases x <;> simp [Op.equalIn,run_underlying ht]
theorem eqIn_map {e k:TypeId} (x:Option Nat) (ht:P.underlying t=some (.map k e)):(Op.equalIn (d+1) t (.map x) (.map none)).run P w=.ok x.isNone w:=by
 cases x <;> simp [Op.equalIn,run_underlying ht]
theorem eqIn_func0 {a b:Array TypeId} {v:Bool} (ht:P.underlying t=some (.func a b v)):(Op.equalIn (d+1) t .nilFunc .nilFunc).run P w=.ok true w:=by
 simp [Op.equalIn,run_underlying ht]
theorem eqIn_func1 {a b:Array TypeId} {v:Bool} (f:Fn) (fs cs:Array Value) (ht:P.underlying t=some (.func a b v)):(Op.equalIn (d+1) t (.func f fs cs) .nilFunc).run P w=.ok false w:=by
 simp [Op.equalIn,run_underlying ht]
theorem eqIn_iface {ms:Array (String×TypeId)} (u:TypeId) (z:Value) (ht:P.underlying t=some (.interface ms)):(Op.equalIn (d+1) t (.iface u z) .nilIface).run P w=.ok false w:=by
 simp [Op.equalIn,run_underlying ht]
end
theorem zpx {ck:CmpK} {op:BinOp} {t:TypeId} {xo yo:Operand} {x y:AV} {u v:Value} {r:AV} (hck:cmpK P t=ck) (hx:VRel c w x u) (hy:VRel c w y v) (hr:zpw ck op x y=some r) :
  ∃ z,(do eqGuard op t xo yo u v;binOp op t u v:Sem Value).run P w=.ok z w/\VRel c w r z:=by
 have hne:ck≠.other:=by
  rintro rfl;unfold zpw at hr;cases x <;> cases y <;> simp at hr
 obtain ⟨d,hd,hok⟩:=cmpK_inv hck hne;unfold zpw at hr;split at hr
 ·simp only [CmpOk] at hok;subst hok;rw [hx.z7o,hy.z7o];refine guarded (by simp) (by simp) (z2p hr (run_equalIn_bool w 9999 _ _ _ hd) ?_ ?_) <;> (intro s hs;rw [<-hs];rfl)
 ·obtain ⟨e,rfl⟩:=hok;simp only [VRel] at hx hy;subst hx;subst hy;refine guarded (by simp) (by simp) (z2p hr (zg1 9999 _ _ _ hd (by simp)) ?_ ?_) <;> (intro s hs;rw [<-hs];rfl)
 ·obtain ⟨e,rfl⟩:=hok;simp only [VRel] at hx hy;subst hy;obtain ⟨b,_,rfl⟩:=hx;refine guarded (by simp) (by simp) (z2p hr (zg1 9999 _ _ _ hd (by simp)) ?_ ?_) <;> (intro s hs;rw [<-hs];rfl)
 ·obtain ⟨e,rfl⟩:=hok;simp only [VRel] at hx hy;subst hx;obtain ⟨b,_,rfl⟩:=hy;refine guarded (by simp) (by simp) (z2p hr (zg1 9999 _ _ _ hd (by simp)) ?_ ?_) <;> (intro s hs;rw [<-hs];rfl)
 ·obtain ⟨e,rfl⟩:=hok;simp only [VRel] at hx hy;subst hy;obtain ⟨b,o,rfl,_⟩:=hx;refine guarded (by simp) (by simp) (z2p hr (zg1 9999 _ _ _ hd (by simp)) ?_ ?_) <;> (intro s hs;rw [<-hs];rfl)
 ·obtain ⟨e,rfl⟩:=hok;simp only [VRel] at hx hy;subst hx;obtain ⟨b,o,rfl,_⟩:=hy;refine guarded (by simp) (by simp) (z2p hr (zg1 9999 _ _ _ hd (by simp)) ?_ ?_) <;> (intro s hs;rw [<-hs];rfl)
 ·obtain ⟨e,rfl⟩:=hok;simp only [VRel] at hx hy;subst hx;subst hy;refine guarded (by simp) (by simp) (z2p hr (z8u 9999 _ _ _ hd) ?_ ?_) <;> (intro s hs;rw [<-hs];rfl)
 ·obtain ⟨e,rfl⟩:=hok;simp only [VRel] at hx hy;subst hy;obtain ⟨a,rfl⟩:=hx;refine guarded (by simp) (by simp) (z2p hr (z8u 9999 _ _ _ hd) ?_ ?_) <;> (intro s hs;rw [<-hs];rfl)
 ·obtain ⟨e,rfl⟩:=hok;simp only [VRel] at hx hy;subst hy;obtain ⟨b,cap,ty,_,rfl,_⟩:=hx;refine guarded (by simp) (by simp) (z2p hr (z8u 9999 _ _ _ hd) ?_ ?_) <;> (intro s hs;rw [<-hs];rfl)
 ·obtain ⟨e,rfl⟩:=hok;simp only [VRel] at hx hy;subst hy;obtain ⟨b,cap,ty,_,rfl,_⟩:=hx;refine guarded (by simp) (by simp) (z2p hr (z8u 9999 _ _ _ hd) ?_ ?_) <;> (intro s hs;rw [<-hs];rfl)
 ·obtain ⟨e,rfl⟩:=hok;simp only [VRel] at hx hy;subst hy;obtain ⟨a,cap,rfl,_⟩:=hx;have key:(∃ b,(Op.equalIn 10000 t (.slice a (List.length ([]:List (List AV))) cap) (.slice none 0 0)).run P w=.ok b w):=by
   exact ⟨_,z8u 9999 _ _ _ hd⟩
  obtain ⟨b,hb⟩:=key;cases op <;> simp only [Option.some.injEq] at hr <;> (try (cases hr;done))
  ·subst hr;refine guarded (by simp) (by simp) ⟨.bool b,?_,by simp [VRel]⟩;simp only [binOp];simp only [Sem.run_bind,zd9,hb,Result.andThen_ok,Sem.run_pure]
  ·subst hr;refine guarded (by simp) (by simp) ⟨.bool (!b),?_,by simp [VRel]⟩;simp only [binOp];simp only [Sem.run_bind,zd9,hb,Result.andThen_ok,Sem.run_pure]
 ·obtain ⟨e,rfl⟩:=hok;simp only [VRel] at hx hy;subst hy;obtain ⟨a,cap,rfl,_,_,h3⟩:=hx;obtain ⟨b,off,rfl,_⟩:=h3 (by simp);refine guarded (by simp) (by simp) (z2p hr (z8u 9999 _ _ _ hd) ?_ ?_) <;> (intro s hs;rw [<-hs];rfl)
 ·obtain ⟨k,e,rfl⟩:=hok;simp only [VRel] at hx hy;subst hx;subst hy;refine guarded (by simp) (by simp) (z2p hr (eqIn_map 9999 _ hd) ?_ ?_) <;> (intro s hs;rw [<-hs];rfl)
 ·obtain ⟨k,e,rfl⟩:=hok;simp only [VRel] at hx hy;subst hy;obtain ⟨b,_,rfl⟩:=hx;refine guarded (by simp) (by simp) (z2p hr (eqIn_map 9999 _ hd) ?_ ?_) <;> (intro s hs;rw [<-hs];rfl)
 ·obtain ⟨k,e,vv,rfl⟩:=hok;simp only [VRel] at hx hy;subst hx;subst hy;refine guarded (by simp) (by simp) (z2p hr (eqIn_func0 9999 hd) ?_ ?_) <;> (intro s hs;rw [<-hs];rfl)
 ·obtain ⟨k,e,vv,rfl⟩:=hok;simp only [VRel] at hx hy;subst hy;obtain ⟨fs,cs,rfl,_⟩:=hx;refine guarded (by simp) (by simp) (z2p hr (eqIn_func1 9999 _ _ _ hd) ?_ ?_) <;> (intro s hs;rw [<-hs];rfl)
 ·obtain ⟨ms,rfl⟩:=hok;simp only [VRel] at hx hy;subst hy;obtain ⟨z,rfl,_⟩:=hx;refine guarded (by simp) (by simp) (z2p hr (eqIn_iface 9999 _ _ hd) ?_ ?_) <;> (intro s hs;rw [<-hs];rfl)
 ·obtain ⟨fs,rfl,hst,hgt,hfl⟩:=hok;simp only [VRel] at hx hy;obtain ⟨X,rfl,hX,_⟩:=hx;obtain ⟨Y,rfl,hY,_⟩:=hy;obtain ⟨b,hb,hr⟩:=Option.bind_eq_some_iff.1 hr;have hfo:P.fieldsOf t=fs:=by simp [Program.fieldsOf,hd]
  have he:(Op.equalIn 10000 t (.agg X) (.agg Y)).run P w=.ok b w:=by
   rw [run_equalIn_struct w 9999 t X Y (by rw [hfo];exact hd) hst,hfo];exact zg0 fs.toList 0 _ _ _ _ _ X Y b hfl hX hY hb (by simp) (by simp)
  obtain ⟨z,hz,hrz⟩:=z2p (r:=r) hr he (by intro s hs;rw [<-hs];rfl) (by intro s hs;rw [<-hs];rfl);exact ⟨z,by rw [Sem.run_bind,run_eqGuard_agg w op t xo yo X Y hgt];exact hz,hrz⟩
 ·cases hr
theorem binA_sound {ck:CmpK} {op:BinOp} {t:TypeId} {xo yo:Operand} {x y:AV} {u v:Value} {r:AV} (hck:cmpK P t=ck) (hx:VRel c w x u) (hy:VRel c w y v) (hr:binA ck op x y=some r) :
  ∃ z,(do eqGuard op t xo yo u v;binOp op t u v:Sem Value).run P w=.ok z w/\VRel c w r z:=by
 unfold binA at hr;split at hr
 ·rename_i op k a k' b;simp only [VRel] at hx hy;subst hx;subst hy;split at hr
  ·rename_i hk;subst hk;refine guarded (by simp) (by simp) ?_;unfold binFlt at hr;split at hr <;> (try (cases hr;done)) <;> (simp only [Option.some.injEq] at hr;subst hr;exact ⟨_,by simp [binOp,Op.floatCmp];rfl,by simp [VRel]⟩)
  ·cases hr
 ·rw [hx.z1r,hy.z1r];split at hr
  ·cases hr
  ·rename_i hb;simp only [Option.some.injEq] at hr;subst hr;exact guarded (by simp) (by simp) ⟨_,by simp [binOp,Op.shift,hb];rfl,by simp [VRel,iShl]⟩
 ·rw [hx.z1r,hy.z1r];split at hr
  ·cases hr
  ·rename_i hb;simp only [Option.some.injEq] at hr;subst hr;exact guarded (by simp) (by simp) ⟨_,by simp [binOp,Op.shift,hb];rfl,by simp [VRel,iShr]⟩
 ·rename_i hs1 hs2;rw [hx.z1r,hy.z1r];split at hr
  ·rename_i hk;subst hk;exact guarded (by simp) (by simp) (zpy hr hs1 hs2)
  ·cases hr
 ·rw [hx.z6h,hy.z6h];exact guarded (by simp) (by simp) (zpz hr)
 ·exact zpx hck hx hy hr
end
end
section
open Go.RowKit
def z00.put (h:z00) (id:Nat) (o:AObj):z00:={ h with objs:=λi=>if i=id then some o else h.objs i }
def z00.kill (h:z00) (id:Nat):z00:={ h with objs:=λi=>if i=id then none else h.objs i }
def z00.push (h:z00) (o:AObj):z00:={ objs:=λi=>if i=h.next then some o else h.objs i,next:=h.next+1 }
@[simp] theorem z00.z2x (h:z00) (id:Nat) (o:AObj) (i:Nat):(h.put id o).objs i=if i=id then some o else h.objs i:=rfl
@[simp] theorem z00.z5r (h:z00) (id:Nat) (i:Nat):(h.kill id).objs i=if i=id then none else h.objs i:=rfl
@[simp] theorem z00.z3l (h:z00) (o:AObj) (i:Nat):(h.push o).objs i=if i=h.next then some o else h.objs i:=rfl
@[simp] theorem z00.zpi (h:z00) (id:Nat) (o:AObj):(h.put id o).next=h.next:=rfl
@[simp] theorem z00.kill_next (h:z00) (id:Nat):(h.kill id).next=h.next:=rfl
@[simp] theorem z00.z2z (h:z00) (o:AObj):(h.push o).next=h.next+1:=rfl
theorem addr_add (b off j:Nat):(⟨b,off,none⟩:Addr).add j=⟨b,off+j,none⟩:=by unfold Addr.add;split <;> simp_all
section
variable {P:Program} {B:Nat} {c:Ctx} {h:z00} {w:World}
theorem World.zof (w:World) (o:Obj) (i:Nat) (hi:i<w.heap.size):(w.alloc o).heap[i]?=w.heap[i]?:=by
 show (w.heap.push o)[i]?=w.heap[i]?
 rw [Array.getElem?_push,if_neg (Nat.ne_of_lt hi)]
structure Turned (w w':World) (b:Nat) (C C':Array Value) (ty:TypeId):Prop where
 os:w'.os=w.os
 tape:w'.tape=w.tape
 output:w'.output=w.output
 size:w'.heap.size=w.heap.size
 was:w.heap[b]?=some (.cells C ty (0,0))
 now:w'.heap[b]?=some (.cells C' ty (0,0))
 len:C'.size=C.size
 other:∀ k,k≠b->w'.heap[k]?=w.heap[k]?
theorem Turned.shp {w':World} {b:Nat} {C C':Array Value} {ty:TypeId} (T:Turned w w' b C C' ty) (k:Nat) (u:TypeId) (n:Nat) (hs:Shp w k u n):Shp w' k u n:=by
 obtain ⟨D,h1,h2⟩:=hs;by_cases hk:k=b
 ·subst hk;rw [T.was] at h1;simp only [Option.some.injEq,Obj.cells.injEq,and_true] at h1;obtain ⟨rfl,rfl⟩:=h1;exact ⟨C',T.now,by rw [T.len,h2]⟩
 ·exact ⟨D,by rw [T.other k hk,h1],h2⟩
theorem Turned.oth {w':World} {b:Nat} {C C':Array Value} {ty:TypeId} (T:Turned w w' b C C' ty) (k:Nat) (h:Dfr w k):Dfr w' k:=by
 unfold Dfr at h ⊢;by_cases hk:k=b
 ·subst hk;rw [T.was] at h;cases h
 ·rw [T.other k hk,h]
theorem Turned.below {w':World} {b:Nat} {C C':Array Value} {ty:TypeId} (T:Turned w w' b C C' ty) (hb:B<=b):Below B w w':=
 ⟨T.os,T.tape,T.output,by rw [T.size];exact Nat.le_refl _,λk hk=>T.other k (by omega)⟩
theorem WRel.turnRow {w':World} {id b:Nat} {C C':Array Value} {ty:TypeId} {cs cs':List AV} (W:WRel B c h w) (hm:c.m id=some b) (ho:h.objs id=some (.row ty cs)) (T:Turned w w' b C C' ty)
  (hl:cs'.length<=C'.size) (hr:LRel c w cs' (C'.toList.take cs'.length)) (h1:∀ u∈C'.toList.take cs'.length,u.oneCell'=true) :
  Ext B c w c w'/\WRel B c (h.put id (.row ty cs')) w':=by
 have hB:=(W.mlt id b hm).2.1;have hno:∀ o,¬ c.im b o:=by
  have:=W.obj id b _ hm ho;obtain ⟨_,_,_,_,_,hh⟩:=this;exact hh
 have E:Ext B c w c w':=⟨⟨λ_ _ x=>x,λ_ _ x=>x,T.below hB,λk o hk=>by
  have hne:k≠b:=λe=>hno o (e▸hk);exact World.cell?_of_block (a:=⟨k,o,none⟩) (T.other k hne),T.shp⟩,T.oth⟩
 refine ⟨E,⟨λi k hi=>?_,?_,?_,?_,?_,?_,W.gl.mono E⟩⟩
 ·have:=W.mlt i k hi;exact ⟨this.1,this.2.1,by rw [T.size];exact this.2.2⟩
 ·intro i j k hi hj h1 h2;refine W.inj i j k hi hj ?_ ?_
  ·simp only [z00.z2x] at h1;split at h1
   ·rename_i e;subst e;rw [ho];simp
   ·exact h1
  ·simp only [z00.z2x] at h2;split at h2
   ·rename_i e;subst e;rw [ho];simp
   ·exact h2
 ·intro i k o hi hio;simp only [z00.z2x] at hio;split at hio
  ·rename_i e;subst e;rw [hm] at hi;cases hi;cases hio;exact ⟨C',T.now,hl,LRel.mono E hr,h1,hno⟩
  ·rename_i e;have hne:k≠b:=λek=>e (W.inj i id k hi (ek▸hm) (by rw [hio];simp) (by rw [ho];simp));have:=W.obj i k o hi hio
   cases o with
   | row ty cs=>
    obtain ⟨D,d1,d2,d3,d4,d5⟩:=this;exact ⟨D,by rw [T.other k hne,d1],d2,LRel.mono E d3,d4,d5⟩
   | tok ty n=>
    obtain ⟨D,d1,d2,d3⟩:=this;exact ⟨D,by rw [T.other k hne,d1],d2,d3⟩
   | loop st pe N ps asn bd fr=>
    obtain ⟨L,g1,g2,g3,g4,g5,g6,g7,g8⟩:=this;exact ⟨L,by rw [T.other k hne,g1],g2,g3,g4,g5,g6,g7,λi=>VRel.mono E (g8 i)⟩
   | map ks vs=>
    obtain ⟨es,g1,g2,g3,g4⟩:=this;exact ⟨es,by rw [T.other k hne,g1],LRel.mono E g2,LRel.mono E g3,g4⟩
 ·intro k o hk;rw [T.size];exact W.im k o hk
 ·intro i hi;simp only [z00.z2x];rw [if_neg,W.fresh i hi];intro e;subst e;have:=(W.mlt i b hm).1;simp only [z00.zpi] at hi;omega
 ·rw [T.size];exact W.base
theorem ORel.keep0 {c':Ctx} {w':World} {b:Nat} {o:AObj} (E:Ext0 B c w c' w') (hb:w'.heap[b]?=w.heap[b]?) (hi:∀ x,c'.im b x->c.im b x) (hh:ORel c w b o):ORel c' w' b o:=by
 cases o with
 | row ty cs=>
  obtain ⟨D,d1,d2,d3,d4,d5⟩:=hh;exact ⟨D,by rw [hb,d1],d2,LRel.z6j E d3,d4,λx hx=>d5 x (hi x hx)⟩
 | tok ty n=>
  obtain ⟨D,d1,d2,d3⟩:=hh;exact ⟨D,by rw [hb,d1],d2,λx hx=>d3 x (hi x hx)⟩
 | loop st pe N ps asn bd fr=>
  obtain ⟨L,h1,h2,h3,h4,h5,h6,h7,h8⟩:=hh;exact ⟨L,by rw [hb,h1],h2,h3,h4,h5,h6,h7,λi=>VRel.z6j E (h8 i)⟩
 | map ks vs=>
  obtain ⟨es,g1,g2,g3,g4⟩:=hh;exact ⟨es,by rw [hb,g1],LRel.z6j E g2,LRel.z6j E g3,g4⟩
theorem ORel.keep {c':Ctx} {w':World} {b:Nat} {o:AObj} (E:Ext B c w c' w') (hb:w'.heap[b]?=w.heap[b]?) (hi:∀ x,c'.im b x->c.im b x) (hh:ORel c w b o):ORel c' w' b o:=ORel.keep0 E.toExt0 hb hi hh
theorem Shp.alloc {b:Nat} {ty:TypeId} {n:Nat} (o:Obj) (hs:Shp w b ty n):Shp (w.alloc o) b ty n:=by
 obtain ⟨C,h1,h2⟩:=hs;exact ⟨C,by rw [World.zof w o b (Array.getElem?_eq_some_iff.1 h1).1];exact h1,h2⟩
def Ctx.zb7 (c:Ctx) (id b:Nat):Ctx:={ c with m:=λi=>if i=id then some b else c.m i }
def Ctx.withIm (c:Ctx) (f:Nat->Nat->Prop):Ctx:={ c with im:=λb o=>c.im b o\/f b o }
theorem Ext.alloc (W:WRel B c h w) (o:Obj):Ext B c w c (w.alloc o):=
 ⟨⟨λ_ _ x=>x,λ_ _ x=>x,(Below.refl _ _).alloc W.base _,λk x hk=>World.cell?_alloc_lt w o ⟨k,x,none⟩ (W.im k x hk),λ_ _ _ hs=>hs.alloc o⟩,λk h=>by unfold Dfr at h ⊢;rw [World.zof w o k (Array.getElem?_eq_some_iff.1 h).1];exact h⟩
theorem WRel.alloc (W:WRel B c h w) (o:Obj):WRel B c h (w.alloc o):=by
 refine ⟨λi k hi=>?_,W.inj,λi k x hi hio=>?_,λk x hk=>?_,W.fresh,?_,W.gl.mono (Ext.alloc W o)⟩
 ·have:=W.mlt i k hi;simp only [World.size_alloc];omega
 ·exact (W.obj i k x hi hio).keep (Ext.alloc W o) (World.zof w o k (W.mlt i k hi).2.2) (λ_ y=>y)
 ·have:=W.im k x hk;simp only [World.size_alloc];omega
 ·have:=W.base;simp only [World.size_alloc];omega
theorem Ext.drew (B:Nat) (c:Ctx) (w:World):Ext B c w c w.drew:=⟨⟨λ_ _ x=>x,λ_ _ x=>x,(Below.refl _ _).drew,λ_ _ _=>rfl,λ_ _ _ hs=>hs⟩,λ_ h=>h⟩
theorem WRel.drew (W:WRel B c h w):WRel B c h w.drew:=
 ⟨W.mlt,W.inj,λi k x hi hio=>(W.obj i k x hi hio).keep (Ext.drew B c w) rfl (λ_ y=>y),W.im,W.fresh,W.base,W.gl.mono (Ext.drew B c w)⟩
theorem WRel.name (W:WRel B c h w) {b:Nat} (o:AObj) (hB:B<=b) (hb:b<w.heap.size) (hno:∀ i,c.m i=some b->h.objs i=none) (ho:ORel c w b o) :
  Ext B c w (c.zb7 h.next b) w/\WRel B (c.zb7 h.next b) (h.push o) w:=by
 have hfr:c.m h.next=none:=by
  cases hh:c.m h.next with
  | none=>rfl
  | some x=>have:=(W.mlt _ _ hh).1;omega
 have hm':∀ i k,c.m i=some k->(c.zb7 h.next b).m i=some k:=by
  intro i k hi;simp only [Ctx.zb7];rw [if_neg]
  ·exact hi
  ·intro e;subst e;rw [hfr] at hi;exact absurd hi (by simp)
 have E:Ext B c w (c.zb7 h.next b) w:=⟨⟨hm',λ_ _ x=>x,Below.refl _ _,λ_ _ _=>rfl,λ_ _ _ x=>x⟩,λ_ h=>h⟩;refine ⟨E,⟨λi k hi=>?_,λi j k hi hj h1 h2=>?_,λi k x hi hio=>?_,W.im,λi hi=>?_,W.base,W.gl.mono E⟩⟩
 ·simp only [Ctx.zb7] at hi;split at hi
  ·rename_i e;cases hi;subst e;simp only [z00.z2z];omega
  ·have:=W.mlt i k hi;simp only [z00.z2z];omega
 ·simp only [Ctx.zb7] at hi hj;simp only [z00.z3l] at h1 h2;split at hi <;> split at hj
  ·rename_i e1 e2;rw [e1,e2]
  ·rename_i e1 e2;cases hi;rw [if_neg e2] at h2;exact absurd (hno j hj) h2
  ·rename_i e1 e2;cases hj;rw [if_neg e1] at h1;exact absurd (hno i hi) h1
  ·rename_i e1 e2;rw [if_neg e1] at h1;rw [if_neg e2] at h2;exact W.inj i j k hi hj h1 h2
 ·simp only [Ctx.zb7] at hi;simp only [z00.z3l] at hio;split at hi
  ·rename_i e;rw [if_pos e] at hio;cases hi;cases hio;exact ho.keep E rfl (λ_ y=>y)
  ·rename_i e;rw [if_neg e] at hio;exact (W.obj i k x hi hio).keep E rfl (λ_ y=>y)
 ·simp only [z00.z2z] at hi;simp only [z00.z3l];rw [if_neg (by omega)];exact W.fresh i (by omega)
theorem WRel.kill (W:WRel B c h w) (id:Nat):WRel B c (h.kill id) w:=by
 refine ⟨W.mlt,λi j k hi hj h1 h2=>W.inj i j k hi hj ?_ ?_,λi k x hi hio=>W.obj i k x hi ?_,W.im,λi hi=>?_,W.base,W.gl⟩
 ·intro e;apply h1;simp only [z00.z5r,e,ite_self]
 ·intro e;apply h2;simp only [z00.z5r,e,ite_self]
 ·simp only [z00.z5r] at hio;split at hio
  ·cases hio
  ·exact hio
 ·simp only [z00.z5r,W.fresh i hi,ite_self]
theorem WRel.freeze (W:WRel B c h w) (f:Nat->Nat->Prop) (hf:∀ k x,f k x->k<w.heap.size) (hno:∀ k x,f k x->∀ i o,c.m i=some k->h.objs i=some o->match o with | .row _ _=>False | .tok _ n=>x<n | .loop ..=>True | .map ..=>True) :
  Ext B c w (c.withIm f) w/\WRel B (c.withIm f) h w:=by
 have E:Ext B c w (c.withIm f) w:=⟨⟨λ_ _ x=>x,λ_ _ x=>Or.inl x,Below.refl _ _,λ_ _ _=>rfl,λ_ _ _ x=>x⟩,λ_ h=>h⟩;refine ⟨E,⟨W.mlt,W.inj,λi k o hi hio=>?_,λk x hk=>?_,W.fresh,W.base,W.gl.mono E⟩⟩
 ·have:=W.obj i k o hi hio
  cases o with
  | row ty cs=>
   obtain ⟨D,d1,d2,d3,d4,d5⟩:=this;refine ⟨D,d1,d2,LRel.mono E d3,d4,λx hx=>?_⟩;rcases hx with hx | hx
   ·exact d5 x hx
   ·exact hno k x hx i _ hi hio
  | tok ty n=>
   obtain ⟨D,d1,d2,d3⟩:=this;refine ⟨D,d1,d2,λx hx=>?_⟩;rcases hx with hx | hx
   ·exact d3 x hx
   ·exact hno k x hx i _ hi hio
  | loop st pe N ps asn bd fr=>
   obtain ⟨L,h1,h2,h3,h4,h5,h6,h7,h8⟩:=this;exact ⟨L,h1,h2,h3,h4,h5,h6,h7,λi=>VRel.mono E (h8 i)⟩
  | map ks vs=>
   obtain ⟨es,g1,g2,g3,g4⟩:=this;exact ⟨es,g1,LRel.mono E g2,LRel.mono E g3,g4⟩
 ·rcases hk with hk | hk
  ·exact W.im k x hk
  ·exact hf k x hk
theorem WRel.newRow (W:WRel B c h w) (C:Array Value) (ty:TypeId) (cs:List AV) (hr:LRel c w cs C.toList) (h1:∀ u∈C.toList,u.oneCell'=true) :
  ∃ c',Ext B c w c' (w.alloc (.cells C ty))/\WRel B c' (h.push (.row ty cs)) (w.alloc (.cells C ty))/\c'.m h.next=some w.heap.size:=by
 have E1:=Ext.alloc W (.cells C ty);have W1:=W.alloc (.cells C ty);have hlen:=hr.length;obtain ⟨E2,W2⟩:=W1.name (b:=w.heap.size) (.row ty cs) W.base (by simp) (λi hi=>absurd (W.mlt i _ hi).2.2 (by omega)) (by
  refine ⟨C,heap_alloc_new w _,by simp at hlen;omega,?_,?_,λo ho=>absurd (W.im _ _ ho) (by omega)⟩
  ·rw [<-hlen,List.take_length];exact LRel.mono E1 hr
  ·rw [<-hlen,List.take_length];exact h1)
 exact ⟨_,E1.trans E2,W2,by simp [Ctx.zb7]⟩
theorem WRel.newIm (W:WRel B c h w) (C:Array Value) (ty:TypeId) (cs:List AV) (hr:LRel c w cs C.toList) (h1:∀ u∈C.toList,u.oneCell'=true) :
  ∃ c',Ext B c w c' (w.alloc (.cells C ty))/\WRel B c' h (w.alloc (.cells C ty))/\MRel c' (w.alloc (.cells C ty)) cs w.heap.size 0:=by
 have E1:=Ext.alloc W (.cells C ty);have W1:=W.alloc (.cells C ty);obtain ⟨E2,W2⟩:=W1.freeze (λk _=>k=w.heap.size) (by intro k x e;subst e;simp) (by
  intro k x e i o hi _;subst e;exact absurd (W.mlt i _ hi).2.2 (by omega))
 refine ⟨_,E1.trans E2,W2,MRel.ofFn λi a hi=>?_⟩;obtain ⟨v,hv,hra⟩:=hr.get hi;refine ⟨Or.inr rfl,v,?_,h1 v (List.mem_of_getElem? hv),VRel.mono (E1.trans E2) hra⟩;rw [cell_of_row _ w.heap.size (0+i) C ty (0,0) (heap_alloc_new w _)];simpa using hv
theorem WRel.row (W:WRel B c h w) {id b:Nat} {ty:TypeId} {cs:List AV} (hm:c.m id=some b) (ho:h.objs id=some (.row ty cs)) :
  ∃ C:Array Value,w.heap[b]?=some (.cells C ty (0,0))/\cs.length<=C.size/\LRel c w cs (C.toList.take cs.length)/\(∀ u∈C.toList.take cs.length,u.oneCell'=true)/\∀ o,¬ c.im b o:=W.obj id b _ hm ho
theorem WRel.row_get (W:WRel B c h w) {id b:Nat} {ty:TypeId} {cs:List AV} (hm:c.m id=some b) (ho:h.objs id=some (.row ty cs)) {i:Nat} {a:AV} (hi:cs[i]?=some a) :
  ∃ u,w.cell? ⟨b,i,none⟩=some u/\u.oneCell'=true/\VRel c w a u:=by
 obtain ⟨C,h1,h2,h3,h4,_⟩:=W.row hm ho;obtain ⟨u,hu,hr⟩:=h3.get hi;refine ⟨u,?_,h4 u (List.mem_of_getElem? hu),hr⟩;rw [cell_of_row _ b i C ty (0,0) h1];have:=List.getElem?_take_of_lt (l:=C.toList) (show i<cs.length from (List.getElem?_eq_some_iff.1 hi).1);rw [this] at hu;simpa using hu
end
end
section
open Go.RowKit
def aggD:TypeDesc->Bool | .struct _ | .array _ _=>true | _=>false
def ldK (P:Program) (t:TypeId):Option (Option Nat):=
 match P.underlying t,P.info? t with
 | some d,some i=>some (if aggD d then some i.size else none)
 | _,_=>none
def szK (P:Program) (t:TypeId):Option Nat:=(P.info? t).map (·.size)
def z03 (k:Option Nat) (cs:List AV) (off:Nat) (K:AV->Prop):Prop:=
 match k with
 | none=>match cs[off]? with | some v=>K v | none=>False
 | some n=>off+n<=cs.length/\K (.agg ((cs.drop off).take n))
def z0t (k:Option Nat) (x:AV) (h:z00) (K:AV->Prop):Prop:=
 match x with
 | .ptr id off=>match h.objs id with | some (.row _ cs)=>z03 k cs off K | _=>False
 | .iptr cs=>z03 k cs 0 K
 | _=>False
def AV.zbn:AV->Bool
 | .und | .tup _ | .agg _=>false
 | _=>true
def z14 (sz:Nat) (x v:AV) (h:z00) (K:z00->Prop):Prop:=
 match x with
 | .ptr id off=>match h.objs id with
  | some (.row ty cs)=>match v with
   | .agg vs=>vs.length=sz/\off+sz<=cs.length/\K (h.put id (.row ty (cs.take off++vs++cs.drop (off+sz))))
   | v=>v.zbn=true/\sz=1/\off<cs.length/\K (h.put id (.row ty (cs.set off v)))
  | _=>False
 | _=>False
def pNil (x:AV) (K:AV->Prop):Prop:=
 match x with
 | .ptr id off=>K (.ptr id off)
 | .iptr cs=>K (.iptr cs)
 | .fn (.func f) a b=>K (.fn (.func f) a b)
 | _=>False
def z3g (off:Nat) (x:AV) (K:AV->Prop):Prop:=
 match x with
 | .ptr id o=>K (.ptr id (o+off))
 | .iptr cs=>K (.iptr (cs.drop off))
 | _=>False
def fldK (P:Program) (t:TypeId) (f:Nat):Option (Nat×Option Nat):=
 match P.underlying t with
 | some (.struct fs)=>match fs[f]? with
  | some fl=>match ldK P fl.type with | some k=>some (fl.offset,k) | none=>none
  | none=>none
 | _=>none
def fadK (P:Program) (t:TypeId) (f:Nat):Option Nat:=
 match P.underlying t with
 | some (.struct fs)=>match fs[f]? with
  | some fl=>match szK P fl.type with | some (n+1)=>some fl.offset | _=>none
  | none=>none
 | _=>none
def zrc (off:Nat) (k:Option Nat) (x:AV) (K:AV->Prop):Prop:=
 match x with
 | .agg cs=>z03 k cs off K
 | _=>False
inductive IxK | slice (n:Nat) | array (len n:Nat)
def ixK (P:Program) (t:TypeId):Option IxK:=
 match P.underlying t with
 | some (.slice e)=>match szK P e with | some n=>some (.slice n) | none=>none
 | some (.array len e)=>match szK P e with | some n=>some (.array len n) | none=>none
 | _=>none
def z0o (ik:IxK) (x i:AV) (K:AV->Prop):Prop:=
 match ik,x,i with
 | .slice n,.isl sz es,.int _ i=>n=sz/\0<=i/\(match es[i.toNat]? with | some e=>K (.iptr e) | none=>False)
 | .slice n,.gsl _ sz es,.int _ i=>n=sz/\0<=i/\(match es[i.toNat]? with | some e=>K (.iptr e) | none=>False)
 | .slice n,.sl id off len sz,.int _ i=>n=sz/\0<=i/\i<len/\K (.ptr id (off+i.toNat*n))
 | .array len n,.ptr id off,.int _ i=>0<=i/\i<len/\K (.ptr id (off+i.toNat*n))
 | .array len n,.iptr cs,.int _ i=>0<=i/\i<len/\K (.iptr (cs.drop (i.toNat*n)))
 | _,_,_=>False
section
variable {P:Program} {B:Nat} {c:Ctx} {h:z00} {w:World}
theorem ztd {t:TypeId} {k:Option Nat} (hk:ldK P t=some k):∃ d i,P.underlying t=some d/\P.info? t=some i/\(isAgg t).run P w=.ok (aggD d) w/\k=if aggD d then some i.size else none:=by
 unfold ldK at hk
 cases hd:P.underlying t with
 | none=>simp [hd] at hk
 | some d=>
  cases hi:P.info? t with
  | none=>simp [hd,hi] at hk
  | some i=>
   simp only [hd,hi,Option.some.injEq] at hk;refine ⟨d,i,rfl,rfl,?_,hk.symm⟩;unfold isAgg;rw [Sem.run_bind,run_underlying hd w];cases d <;> simp [aggD]
theorem run_sizeOf' {t:TypeId} {n:Nat} (hk:szK P t=some n):(sizeOf t).run P w=.ok n w:=by
 unfold szK at hk;obtain ⟨i,hi,rfl⟩:=Option.map_eq_some_iff.1 hk;simp [sizeOf,typeInfo,hi]
theorem zi4 {t:TypeId} {k:Option Nat} (hk:ldK P t=some k) {b off:Nat} {cs:List AV} {K:AV->Prop} (hc:∀ i a,cs[i]?=some a->∃ u,w.cell? ⟨b,i,none⟩=some u/\u.oneCell'=true/\VRel c w a u)
  (H:z03 k cs off K):∃ v u,(loadVar t ⟨b,off,none⟩).run P w=.ok u w/\VRel c w v u/\K v:=by
 obtain ⟨d,i,hd,hi,ha,rfl⟩:=ztd (w:=w) hk
 cases hag:aggD d with
 | false=>
  simp only [hag,Bool.false_eq_true,if_false,z03] at H
  cases hv:cs[off]? with
  | none=>simp [hv] at H
  | some v=>
   simp only [hv] at H;obtain ⟨u,h1,h2,h3⟩:=hc off v hv;exact ⟨v,u,by simp [loadVar,ha,hag,h1],h3,H⟩
 | true=>
  simp only [hag,if_true,z03] at H;obtain ⟨hl,H⟩:=H;obtain ⟨vs,hv1,hv2,hv3,hv4⟩:∃ vs:List Value,vs.length=i.size/\LRel c w ((cs.drop off).take i.size) vs/\(∀ u∈vs,u.oneCell'=true)/\∀ j u,vs[j]?=some u->w.cell? ⟨b,off+j,none⟩=some u:=by
   let f:Nat->Value:=λj=>(w.cell? ⟨b,off+j,none⟩).getD undef
   have hf:∀ j,j<i.size->∃ a,cs[off+j]?=some a/\w.cell? ⟨b,off+j,none⟩=some (f j)/\(f j).oneCell'=true/\VRel c w a (f j):=by
    intro j hj;have hlt:off+j<cs.length:=by omega
    obtain ⟨u,h1,h2,h3⟩:=hc (off+j) cs[off+j] (by simp [hlt]);refine ⟨_,by simp [hlt];rfl,?_⟩;have:f j=u:=by simp [f,h1]
    rw [this];exact ⟨h1,h2,h3⟩
   refine ⟨(List.range i.size).map f,by simp,LRel.ofFn (by simp;omega) ?_,?_,?_⟩
   ·intro j a v h1 h2;have hj:j<i.size:=by
     have:=(List.getElem?_eq_some_iff.1 h2).1;simpa using this
    obtain ⟨a',k1,k2,k3,k4⟩:=hf j hj;rw [List.getElem?_take_of_lt hj,List.getElem?_drop,k1] at h1;simp [hj] at h2;cases h1;rw [<-h2];exact k4
   ·intro u hu;obtain ⟨j,hj,rfl⟩:=List.mem_map.1 hu;obtain ⟨_,_,_,k3,_⟩:=hf j (by simpa using hj);exact k3
   ·intro j u hu;have hj:j<i.size:=by
     have:=(List.getElem?_eq_some_iff.1 hu).1;simpa using this
    obtain ⟨_,_,k2,_,_⟩:=hf j hj;simp [hj] at hu;rw [k2,hu]
  have hr:(loadCells ⟨b,off,none⟩ vs.length).run P w=.ok vs.toArray w:=run_loadCells_list (P:=P) w ⟨b,off,none⟩ vs (λj u hu=>by rw [addr_add];exact hv4 j u hu);refine ⟨_,.agg vs.toArray,?_,?_,H⟩
  ·rw [hv1] at hr;simp [loadVar,ha,hag,sizeOf,typeInfo,hi,hr]
  ·simp only [VRel];exact ⟨vs.toArray,rfl,by simpa using hv2,by simpa using hv3⟩
theorem zrg (W:WRel B c h w) {t:TypeId} {k:Option Nat} {x:AV} {u:Value} {K:AV->Prop} (hk:ldK P t=some k) (hx:VRel c w x u) (H:z0t k x h K) :
  ∃ ad v z,u=.pointer (some ad)/\(loadVar t ad).run P w=.ok z w/\VRel c w v z/\K v:=by
 unfold z0t at H;split at H
 ·rename_i id off;split at H
  ·rename_i ty cs ho;simp only [VRel] at hx;obtain ⟨b,hm,rfl⟩:=hx;obtain ⟨v,z,h1,h2,h3⟩:=zi4 (P:=P) hk (b:=b) (λi a hi=>W.row_get hm ho hi) H;exact ⟨_,v,z,rfl,h1,h2,h3⟩
  ·exact H.elim
 ·rename_i cs;simp only [VRel] at hx;obtain ⟨b,off,rfl,hM⟩:=hx;obtain ⟨d,i,hd,hi,ha,hkk⟩:=ztd (w:=w) hk;subst hkk
  cases hag:aggD d with
  | false=>
   simp only [hag,Bool.false_eq_true,if_false,z03] at H
   cases hv:cs[0]? with
   | none=>simp [hv] at H
   | some v=>
    simp only [hv] at H;obtain ⟨_,z,h1,h2,h3⟩:=hM.get hv;exact ⟨_,v,z,rfl,by simpa [loadVar,ha,hag] using by rw [show off+0=off from rfl] at h1;simp [h1],h3,H⟩
  | true=>
   simp only [hag,if_true,z03] at H;obtain ⟨hl,H⟩:=H;obtain ⟨vs,hv2,hv3,hv4⟩:=(MRel.take i.size hM).values;have hv1:vs.length=i.size:=by rw [hv2.length,List.length_take];omega
   have hr:(loadCells ⟨b,off,none⟩ vs.length).run P w=.ok vs.toArray w:=run_loadCells_list (P:=P) w ⟨b,off,none⟩ vs (λj u hu=>by rw [addr_add];exact hv4 j u hu);refine ⟨_,_,.agg vs.toArray,rfl,?_,?_,H⟩
   ·rw [hv1] at hr;simp [loadVar,ha,hag,sizeOf,typeInfo,hi,hr]
   ·simp only [VRel];exact ⟨vs.toArray,rfl,by simpa using hv2,by simpa using hv3⟩
 ·exact H.elim
theorem ztn (W:WRel B c h w) {t:TypeId} {k:Option Nat} {x:AV} {u:Value} {K:AV->z00->Prop} (hk:ldK P t=some k) (hx:VRel c w x u) (H:z0t k x h (λv=>K v h)):Does P B c w (Instr.loadAt t u) K:=by
 obtain ⟨ad,v,z,rfl,h1,h2,h3⟩:=zrg (P:=P) W hk hx H;exact Does.z3e W (by simp [Instr.loadAt,Instr.sureAddr,h1]) h2 h3
theorem AV.zqz {a:AV} {u:Value} (hl:a.zbn=true) (hr:VRel c w a u):u.oneCell'=true/\u.cells=#[u]:=by
 cases a <;> simp only [AV.zbn,Bool.false_eq_true] at hl <;> simp only [VRel] at hr
 case int=>subst hr;exact ⟨rfl,rfl⟩
 case bool=>subst hr;exact ⟨rfl,rfl⟩
 case unkb=>obtain ⟨b,rfl⟩:=hr;exact ⟨rfl,rfl⟩
 case str=>subst hr;exact ⟨rfl,rfl⟩
 case flt=>subst hr;exact ⟨rfl,rfl⟩
 case nilp=>subst hr;exact ⟨rfl,rfl⟩
 case ptr=>obtain ⟨b,_,rfl⟩:=hr;exact ⟨rfl,rfl⟩
 case iptr=>obtain ⟨b,o,rfl,_⟩:=hr;exact ⟨rfl,rfl⟩
 case nils=>subst hr;exact ⟨rfl,rfl⟩
 case eml=>obtain ⟨b,rfl⟩:=hr;exact ⟨rfl,rfl⟩
 case isl=>obtain ⟨a,k,rfl,_⟩:=hr;exact ⟨rfl,rfl⟩
 case gsl=>obtain ⟨b,k,t,_,rfl,_⟩:=hr;exact ⟨rfl,rfl⟩
 case sl=>obtain ⟨b,k,t,_,rfl,_⟩:=hr;exact ⟨rfl,rfl⟩
 case nilm=>subst hr;exact ⟨rfl,rfl⟩
 case mapv=>obtain ⟨b,_,rfl⟩:=hr;exact ⟨rfl,rfl⟩
 case nilf=>subst hr;exact ⟨rfl,rfl⟩
 case fn=>obtain ⟨a,b,rfl,_⟩:=hr;exact ⟨rfl,rfl⟩
 case nili=>subst hr;exact ⟨rfl,rfl⟩
 case ifc=>obtain ⟨b,rfl,_⟩:=hr;exact ⟨rfl,rfl⟩
 case yld=>obtain ⟨b,_,rfl⟩:=hr;exact ⟨rfl,rfl⟩
def AV.cells:AV->List AV | .agg cs=>cs | v=>[v]
def AV.fits:AV->Bool | .und | .tup _=>false | _=>true
theorem AV.zhj {a:AV} {u:Value} (hf:a.fits=true) (hr:VRel c w a u):LRel c w a.cells u.cells.toList/\∀ x∈u.cells.toList,x.oneCell'=true:=by
 by_cases hl:a.zbn=true
 ·obtain ⟨h1,h2⟩:=AV.zqz hl hr;have:a.cells=[a]:=by cases a <;> simp_all [AV.cells,AV.zbn]
  rw [this,h2];exact ⟨by simp only [LRel];exact ⟨u,[],rfl,hr,rfl⟩,by simpa using h1⟩
 ·cases a <;> simp_all [AV.zbn,AV.fits];simp only [VRel] at hr;obtain ⟨vs,rfl,h1,h2⟩:=hr;exact ⟨by simpa [AV.cells,Value.cells] using h1,by simpa [Value.cells] using h2⟩
theorem za0 {b off:Nat} {ty:TypeId} {C:Array Value} {vs:List Value} (hb:w.heap[b]?=some (.cells C ty (0,0))) (hfit:off+vs.length<=C.size) (h1:∀ u∈vs,u.oneCell'=true) :
  ∃ w',(storeCells ⟨b,off,none⟩ vs).run P w=.ok () w'/\Turned w w' b C (C.toList.take off++vs++C.toList.drop (off+vs.length)).toArray ty:=by
 have hst:=run_storeCells_at P b off ty vs 0 C w hb (by simpa using hfit) h1;refine ⟨_,by simpa using hst,?_⟩;refine ⟨rfl,rfl,rfl,by simp [World.setRow],hb,?_,?_,λk hk=>setRow_other w b k _ hk⟩
 ·simpa using setRow_heap w b C _ ty (0,0) hb
 ·simp;omega
theorem run_storeVar' {t:TypeId} {n:Nat} {a:Addr} {u:Value} (hk:szK P t=some n) (hn:u.cells.size=n):(storeVar t a u).run P w=(storeCells a u.cells.toList).run P w:=by
 unfold storeVar;simp [run_sizeOf' hk,hn]
theorem zrk (W:WRel B c h w) {t:TypeId} {n:Nat} {x v:AV} {p u:Value} {K:z00->Prop} (hk:szK P t=some n) (hx:VRel c w x p) (hv:VRel c w v u) (H:z14 n x v h K) :
  ∃ c' h' w',(Instr.storeAt t p u).run P w=.ok () w'/\Ext B c w c' w'/\WRel B c' h' w'/\K h':=by
 unfold z14 at H;split at H
 ·rename_i id off;split at H
  ·rename_i ty cs ho;simp only [VRel] at hx;obtain ⟨b,hm,rfl⟩:=hx;obtain ⟨C,h1,h2,h3,h4,h5⟩:=W.row hm ho;have main:∀ (vs:List AV),LRel c w vs u.cells.toList->(∀ x∈u.cells.toList,x.oneCell'=true)->vs.length=n->off+n<=cs.length->K (h.put id (.row ty (cs.take off++vs++cs.drop (off+n))))->
     ∃ c' h' w',(Instr.storeAt t (.pointer (some ⟨b,off,none⟩)) u).run P w=.ok () w'/\Ext B c w c' w'/\WRel B c' h' w'/\K h':=by
    intro vs hr hone hl hfit HK;have hlen:u.cells.toList.length=n:=by rw [hr.length,hl]
    obtain ⟨w',hrun,T⟩:=za0 (P:=P) (off:=off) h1 (vs:=u.cells.toList) (by omega) hone;have hlen':(cs.take off++vs++cs.drop (off+n)).length=cs.length:=by
     simp only [List.length_append,List.length_take,List.length_drop,hl];omega
    have hcell:((C.toList.take off++u.cells.toList++C.toList.drop (off+u.cells.toList.length)).take cs.length)=((C.toList.take cs.length).take off++u.cells.toList++(C.toList.take cs.length).drop (off+n)):=by
     have e1:(C.toList.take off).length=off:=by simp;omega
     have e2:(C.toList.take off++u.cells.toList).length=off+n:=by rw [List.length_append,e1,hlen]
     rw [hlen,List.take_append,e2,List.take_of_length_le (l:=C.toList.take off++u.cells.toList) (by omega),List.take_take,Nat.min_eq_left (show off<=cs.length by omega),List.drop_take]
    obtain ⟨E,W'⟩:=W.turnRow hm ho T (cs':=cs.take off++vs++cs.drop (off+n)) (by rw [hlen',T.len];exact h2)
     (by rw [hlen'];rw [List.toList_toArray,hcell];exact ((LRel.take off h3).append hr).append (LRel.drop (off+n) h3))
     (by
      rw [hlen',List.toList_toArray,hcell];intro y hy;simp only [List.mem_append] at hy;rcases hy with (hy | hy) | hy
      ·exact h4 y (List.mem_of_mem_take hy)
      ·exact hone y hy
      ·exact h4 y (List.mem_of_mem_drop hy))
    refine ⟨c,_,w',?_,E,W',HK⟩;simp only [Instr.storeAt,Instr.sureAddr,Sem.run_bind,Sem.run_pure,Result.andThen_ok];rw [run_storeVar' hk (by rw [<-hlen];simp)];exact hrun
   split at H
   ·rename_i vs;obtain ⟨g1,g2,g3⟩:=H;obtain ⟨k1,k2⟩:=AV.zhj (a:=.agg vs) rfl hv;exact main vs k1 k2 g1 g2 g3
   ·rename_i v' hna;obtain ⟨g1,g2,g3,g4⟩:=H;obtain ⟨k1,k2⟩:=AV.zqz g1 hv;refine main [v] (by rw [k2];simp only [LRel];exact ⟨u,[],rfl,hv,rfl⟩) (by rw [k2];simpa using k1) (by simp [g2]) (by omega) ?_;rw [g2];have:cs.take off++[v]++cs.drop (off+1)=cs.set off v:=by
     rw [List.set_eq_take_append_cons_drop,if_pos g3];simp
    rw [this];exact g4
  ·exact H.elim
 ·exact H.elim
theorem zrd (W:WRel B c h w) {t:TypeId} {f off:Nat} {k:Option Nat} {x:AV} {u:Value} {K:AV->z00->Prop} (hk:fldK P t f=some (off,k)) (hx:VRel c w x u) (H:zrc off k x (λv=>K v h)):Does P B c w (Instr.field t u f) K:=by
 unfold fldK at hk;split at hk <;> (try (cases hk;done));rename_i fs hfs;split at hk <;> (try (cases hk;done));rename_i fl hfl;split at hk <;> (try (cases hk;done));rename_i k' hk';simp only [Option.some.injEq,Prod.mk.injEq] at hk;obtain ⟨rfl,rfl⟩:=hk;obtain ⟨d,i,hd,hi,ha,hkk⟩:=ztd (w:=w) hk';unfold zrc at H;split at H
 ·rename_i cs;simp only [VRel] at hx;obtain ⟨vs,rfl,h1,h2⟩:=hx;subst hkk
  cases hag:aggD d with
  | false=>
   simp only [hag,Bool.false_eq_true,if_false,z03] at H
   cases hv:cs[fl.offset]? with
   | none=>simp [hv] at H
   | some v=>
    simp only [hv] at H;obtain ⟨z,hz,hr⟩:=h1.get hv;have hz':vs[fl.offset]?=some z:=by simpa using hz
    exact Does.z3e W (by simp [Instr.field,run_underlying hfs,hfl,asAgg,part,ha,hag,hz']) hr H
  | true=>
   simp only [hag,if_true,z03] at H;obtain ⟨hl,H⟩:=H;refine Does.z3e W (u:=.agg (vs.extract fl.offset (fl.offset+i.size))) (by simp [Instr.field,run_underlying hfs,hfl,asAgg,part,ha,hag,sizeOf,typeInfo,hi]) ?_ H;simp only [VRel];refine ⟨_,rfl,?_,?_⟩
   ·have:=LRel.take i.size (LRel.drop fl.offset h1);simpa [List.extract_eq_take_drop] using this
   ·intro y hy;refine h2 y ?_;simp only [Array.toList_extract,List.extract_eq_take_drop] at hy;exact List.mem_of_mem_drop (List.mem_of_mem_take hy)
 ·exact H.elim
theorem zj4 (W:WRel B c h w) {t:TypeId} {f off:Nat} {x:AV} {u:Value} {K:AV->z00->Prop} (hk:fadK P t f=some off) (hx:VRel c w x u) (H:z3g off x (λv=>K v h)):Does P B c w (Instr.fieldAt t u f) K:=by
 unfold fadK at hk;split at hk <;> (try (cases hk;done));rename_i fs hfs;split at hk <;> (try (cases hk;done));rename_i fl hfl;split at hk <;> (try (cases hk;done));rename_i n hn;simp only [Option.some.injEq] at hk;subst hk;unfold z3g at H;split at H
 ·simp only [VRel] at hx;obtain ⟨b,hm,rfl⟩:=hx;refine Does.z3e W (u:=.pointer (some ⟨b,_,none⟩)) (by simp [Instr.fieldAt,run_underlying hfs,hfl,Instr.sureAddr,fieldPlace,run_sizeOf' hn,addr_add];rfl) (by simp only [VRel];exact ⟨b,hm,rfl⟩) H
 ·simp only [VRel] at hx;obtain ⟨b,o,rfl,hM⟩:=hx;refine Does.z3e W (u:=.pointer (some ⟨b,_,none⟩)) (by simp [Instr.fieldAt,run_underlying hfs,hfl,Instr.sureAddr,fieldPlace,run_sizeOf' hn,addr_add];rfl) (by simp only [VRel];exact ⟨b,_,rfl,hM.drop _⟩) H
 ·exact H.elim
theorem pNil_sound (W:WRel B c h w) {x:AV} {u:Value} {K:AV->Prop} (hx:VRel c w x u) (H:pNil x K):K x/\((∃ a,u=.pointer (some a))\/∃ f a b,u=.func (.func f) a b):=by
 unfold pNil at H;split at H
 ·simp only [VRel] at hx;obtain ⟨b,_,rfl⟩:=hx;exact ⟨H,Or.inl ⟨_,rfl⟩⟩
 ·simp only [VRel] at hx;obtain ⟨b,_,rfl,_⟩:=hx;exact ⟨H,Or.inl ⟨_,rfl⟩⟩
 ·simp only [VRel] at hx;obtain ⟨b,_,rfl,_⟩:=hx;exact ⟨H,Or.inr ⟨_,_,_,rfl⟩⟩
 ·exact H.elim
theorem zj5 (W:WRel B c h w) {t:TypeId} {ik:IxK} {x i:AV} {u j:Value} {K:AV->z00->Prop} (hk:ixK P t=some ik) (hx:VRel c w x u) (hi:VRel c w i j) (H:z0o ik x i (λv=>K v h)):Does P B c w (Instr.indexAt t u j) K:=by
 unfold ixK at hk;split at hk
 ·rename_i e he;split at hk <;> (try (cases hk;done));rename_i n hn;simp only [Option.some.injEq] at hk;subst hk;have go:∀ (b off len cap:Nat) (kk:IntKind) (q:Int),0<=q->q<len->(Instr.indexAt t (.slice (some ⟨b,off,none⟩) len cap) (.int kk q)).run P w=.ok (.pointer (some ⟨b,off+q.toNat*n,none⟩)) w:=by
   intro b off len cap kk q h0 h1;simp [Instr.indexAt,asIntOf,run_underlying he,h0,h1,run_sizeOf' hn,addr_add]
  unfold z0o at H;split at H <;> (try (exact H.elim))
  ·rename_i n' sz es kk q heq;cases heq;obtain ⟨rfl,h0,H⟩:=H;rw [hi.z1r];simp only [VRel] at hx;obtain ⟨a,cap,rfl,hle,_,hne⟩:=hx;split at H
   ·rename_i e' hes;have hlt:=(List.getElem?_eq_some_iff.1 hes).1;obtain ⟨b,off,rfl,hE⟩:=hne (by rintro rfl;simp at hes);obtain ⟨_,hM⟩:=hE.get hes;exact Does.z3e W (go b off _ cap kk q h0 (by omega)) (by simp only [VRel];exact ⟨b,_,rfl,hM⟩) H
   ·exact H.elim
  ·rename_i n' id sz es kk q heq;cases heq;obtain ⟨rfl,h0,H⟩:=H;rw [hi.z1r];simp only [VRel] at hx;obtain ⟨b,cap,ty,hm,rfl,hle,_,_,hE⟩:=hx;split at H
   ·rename_i e' hes;have hlt:=(List.getElem?_eq_some_iff.1 hes).1;obtain ⟨_,hM⟩:=hE.get hes;exact Does.z3e W (go b 0 _ cap kk q h0 (by omega)) (by simp only [VRel];exact ⟨b,_,rfl,hM⟩) H
   ·exact H.elim
  ·rename_i n' id off len sz kk q heq;cases heq;obtain ⟨rfl,h0,h1,H⟩:=H;rw [hi.z1r];simp only [VRel] at hx;obtain ⟨b,cap,ty,hm,rfl,hle,_,_⟩:=hx;exact Does.z3e W (go b off len cap kk q h0 h1) (by simp only [VRel];exact ⟨b,hm,rfl⟩) H
  ·rename_i heq;cases heq
  ·rename_i heq;cases heq
 ·rename_i len e he;split at hk <;> (try (cases hk;done));rename_i n hn;simp only [Option.some.injEq] at hk;subst hk;have go:∀ (b off:Nat) (kk:IntKind) (q:Int),0<=q->q<len->(Instr.indexAt t (.pointer (some ⟨b,off,none⟩)) (.int kk q)).run P w=.ok (.pointer (some ⟨b,off+q.toNat*n,none⟩)) w:=by
   intro b off kk q h0 h1;simp [Instr.indexAt,asIntOf,run_underlying he,Instr.sureAddr,h0,h1,run_sizeOf' hn,addr_add]
  unfold z0o at H;split at H <;> (try (exact H.elim))
  ·rename_i heq;cases heq
  ·rename_i heq;cases heq
  ·rename_i heq;cases heq
  ·rename_i len' n' id off kk q heq;cases heq;obtain ⟨h0,h1,H⟩:=H;rw [hi.z1r];simp only [VRel] at hx;obtain ⟨b,hm,rfl⟩:=hx;exact Does.z3e W (go b off kk q h0 h1) (by simp only [VRel];exact ⟨b,hm,rfl⟩) H
  ·rename_i len' n' cs kk q heq;cases heq;obtain ⟨h0,h1,H⟩:=H;rw [hi.z1r];simp only [VRel] at hx;obtain ⟨b,off,rfl,hM⟩:=hx;exact Does.z3e W (go b off kk q h0 h1) (by simp only [VRel];exact ⟨b,_,rfl,hM.drop _⟩) H
 ·cases hk
end
end
section
open Go.RowKit
section
variable {P:Program} {B:Nat} {c:Ctx} {h:z00} {w:World}
structure zc4 (P:Program) (w:World) (u:TypeId) (x:Value) (m size:Nat) (news:List Value):Prop where
 ty:(∃ e',P.underlying u=some (.slice e'))\/P.underlying u=some .string
 len:∀ w',(Builtin.lenOf x).run P w'=.ok m w'
 cells:∀ w',(∀ a,w'.cell? a=w.cell? a)->(Builtin.firstCells size m x).run P w'=.ok news.toArray w'
 l:news.length=m*size
 one:∀ v∈news,v.oneCell'=true
inductive zjg (P:Program) (w:World) (e:TypeId) (size:Nat) (bo:Option Addr) (n cap:Nat) (olds news:List Value) (m:Nat):Value->World->Prop
 | same (hm:m=0):zjg P w e size bo n cap olds news m (.slice bo n cap) w
 | room (g:Nat) (C:Array Value) (w':World) (hm:0<m) (hb:bo=some ⟨g,0,none⟩) (hg:w.heap[g]?=some (.cells C e (0,0))) (hr:n+m<=cap) (hf:n*size+news.length<=C.size)
   (T:Turned w w' g C (C.toList.take (n*size)++news++C.toList.drop (n*size+news.length)).toArray e):zjg P w e size bo n cap olds news m (.slice (some ⟨g,0,none⟩) (n+m) cap) w'
 | grow (z:Array Value) (cap':Nat) (hm:0<m) (hc:n+m<=cap') (hc2:cap'<=maxLen) (hz:z.size=(cap'-(n+m))*size) :
   zjg P w e size bo n cap olds news m (.slice (some ⟨w.heap.size,0,none⟩) (n+m) cap') (w.drew.alloc (.cells (olds.toArray++news.toArray++z) e))
theorem zlb {t u ty e:TypeId} {i:TypeInfo} {z:Value} (ht:P.underlying t=some (.slice e)) (hi:P.info? e=some i) (hz:i.zero=some z) (hzs:z.cells.size=i.size)
  {x:Value} {m:Nat} {news:List Value} (S:zc4 P w u x m i.size news) {bo:Option Addr} {n cap:Nat} (hn:n<=cap) {olds:List Value} (holds:∀ w',(∀ a,w'.cell? a=w.cell? a)->(Builtin.firstCells i.size n (.slice bo n cap)).run P w'=.ok olds.toArray w')
  (h63:n+m<=maxLen) (hbytes:(n+m)*i.bytes<=140737488355328)
  (hb:m≠0->n+m<=cap->∃ g C,bo=some ⟨g,0,none⟩/\w.heap[g]?=some (.cells C e (0,0))/\n*i.size+news.length<=C.size) :
  ∃ v w',(Builtin.append_ #[t,u] ty #[.slice bo n cap,x]).run P w=.ok v w'/\zjg P w e i.size bo n cap olds news m v w':=by
 obtain ⟨d,hd,hdd⟩:∃ d,P.underlying u=some d/\((∃ e',d=.slice e')\/d=.string):=by
  rcases S.ty with ⟨e',h⟩ | h
  ·exact ⟨_,h,Or.inl ⟨_,rfl⟩⟩
  ·exact ⟨_,h,Or.inr rfl⟩
 have hsmall:n+m<=9223372036854775807:=by simp only [maxLen] at h63;omega
 have hl:=S.len;by_cases hm:m=0
 ·subst hm;have hnews:news=[]:=List.eq_nil_of_length_eq_zero (by simpa using S.l);subst hnews;refine ⟨_,w,?_,.same rfl⟩;have hc:=S.cells w (λ_=>rfl);rcases hdd with ⟨e',rfl⟩ | rfl <;> cases bo <;> simp [Builtin.append_,run_underlying ht,run_underlying hd,sizeOf,typeInfo,hi,hl,hn,hc,storeCells]
 ·by_cases hroom:n+m<=cap
  ·obtain ⟨g,C,rfl,hg,hfit⟩:=hb hm hroom;obtain ⟨w',hst,T⟩:=za0 (P:=P) (off:=n*i.size) hg hfit S.one;refine ⟨_,w',?_,.room g C w' (by omega) rfl hg hroom hfit T⟩;have hc:=S.cells w (λ_=>rfl);rcases hdd with ⟨e',rfl⟩ | rfl <;> simp [Builtin.append_,run_underlying ht,run_underlying hd,sizeOf,typeInfo,hi,hl,hroom,hc,addr_add,hst]
  ·have h63':¬ (9223372036854775807<((n:Int)+(m:Int))):=by omega
   have hfit:Builtin.nextslicecap (n+m) cap*i.bytes<=281474976710656:=growslice_fits (by omega) hbytes;have h48':¬ (281474976710656<Builtin.nextslicecap (n+m) cap*i.bytes):=by omega
   have hge:=grownCap_ge w (n+m) cap e;have hcm:grownCap w (n+m) cap e<=maxLen:=grownCap_le_maxLen w (n+m) cap e h63;refine ⟨_,_,?_,.grow (Builtin.zeroCells z.cells (grownCap w (n+m) cap e-(n+m))) (grownCap w (n+m) cap e) (by omega) hge hcm (by rw [size_zeroCells,hzs])⟩;have hc:=S.cells w.drew (λ_=>rfl);have ho:=holds w.drew (λ_=>rfl);rcases hdd with ⟨e',rfl⟩ | rfl <;>
    (simp [Builtin.append_,run_underlying ht,run_underlying hd,sizeOf,typeInfo,zeroValue,hi,hz,hl,hroom,h63',h48',Question.forced,hc,ho,newRow,grownCap]
     congr 2
     apply Array.ext';simp [List.append_assoc])
end
def chunk (sz:Nat):Nat->List AV->List (List AV)
 | 0,_=>[]
 | n+1,cs=>cs.take sz::chunk sz n (cs.drop sz)
def z1v (sz:Nat) (x:AV) (h:z00):Option (List (List AV)):=
 match x with
 | .isl sz' es=>if sz'=sz then some es else none
 | .gsl _ sz' es=>if sz'=sz then some es else none
 | .nils=>some []
 | .eml=>some []
 | .str s=>if sz=1 then some (s.map λb=>[.int .u8 b.toNat]) else none
 | .sl id off len sz'=>match h.objs id with
  | some (.row _ cs)=>if sz'=sz/\off+len*sz<=cs.length then some (chunk sz len (cs.drop off)) else none
  | _=>none
 | _=>none
structure SlT where
 e:TypeId
 sz:Nat
 by_:Nat
def slT (P:Program) (t:TypeId):Option SlT:=
 match P.underlying t with
 | some (.slice e)=>match P.info? e with
  | some i=>match i.zero with
   | some z=>if z.cells.size=i.size/\0<i.size then some ⟨e,i.size,i.bytes⟩ else none
   | none=>none
  | none=>none
 | _=>none
def srcT (P:Program) (u:TypeId):Bool:=match P.underlying u with | some (.slice _) | some .string=>true | _=>false
def bounded (T:SlT) (n:Nat):Prop:=n<=maxLen/\n*T.by_<=140737488355328
def zgg (gr:Bool) (T:SlT) (es:List (List AV)) (h:z00) (K:AV->z00->Prop):Prop:=
 if gr then K (.gsl h.next T.sz es) (h.push (.tok T.e (es.length*T.sz))) else K (.sl h.next 0 es.length T.sz) (h.push (.row T.e es.flatten))
def z1x (gr:Bool) (T:SlT) (s x:AV) (h:z00) (K:AV->z00->Prop):Prop:=
 match z1v T.sz x h with
 | none=>False
 | some es=>
  match s with
  | .nils=>match es with
   | []=>K .nils h
   | e::es=>bounded T (e::es).length/\zgg gr T (e::es) h K
  | .eml=>match es with
   | []=>K .eml h
   | e::es=>bounded T (e::es).length/\zgg gr T (e::es) h K
  | .gsl id sz es0=>match h.objs id with
   | some (.tok ty n)=>ty=T.e/\sz=T.sz/\n=es0.length*T.sz/\bounded T (es0.length+es.length)/\K (.gsl h.next T.sz (es0++es)) ((h.kill id).push (.tok T.e ((es0++es).length*T.sz)))
   | _=>False
  | .sl id 0 len sz=>match h.objs id with
   | some (.row ty cs)=>ty=T.e/\sz=T.sz/\len*T.sz<=cs.length/\bounded T (len+es.length)/\K (.sl h.next 0 (len+es.length) T.sz) ((h.kill id).push (.row T.e (cs.take (len*T.sz)++es.flatten)))
   | _=>False
  | _=>False
theorem zbc (sz:Nat):∀ (n:Nat) (cs:List AV),(chunk sz n cs).flatten=cs.take (n*sz)
 | 0,cs=>by simp [chunk]
 | n+1,cs=>by
  rw [chunk,List.flatten_cons,zbc sz n,Nat.add_mul,Nat.one_mul,Nat.add_comm,List.take_add]
theorem z7u (sz:Nat):∀ (n:Nat) (cs:List AV),(chunk sz n cs).length=n
 | 0,_=>rfl
 | n+1,cs=>by simp [chunk,z7u sz n]
theorem zhd (sz:Nat):∀ (n:Nat) (cs:List AV),n*sz<=cs.length->∀ e∈chunk sz n cs,e.length=sz
 | 0,_,_=>by simp [chunk]
 | n+1,cs,hl=>by
  rw [Nat.add_mul,Nat.one_mul] at hl;intro e he;rcases List.mem_cons.1 he with rfl | he
  ·simp;omega
  ·exact zhd sz n _ (by simp;omega) e he
section
variable {P:Program} {B:Nat} {c:Ctx} {h:z00} {w:World}
theorem slT_inv {t:TypeId} {T:SlT} (hT:slT P t=some T):∃ i z,P.underlying t=some (.slice T.e)/\P.info? T.e=some i/\i.zero=some z/\z.cells.size=i.size/\0<i.size/\i.size=T.sz/\i.bytes=T.by_:=by
 unfold slT at hT
 cases hd:P.underlying t with
 | none=>simp [hd] at hT
 | some d=>
  cases d <;> (try (simp [hd] at hT;done));rename_i e
  cases hi:P.info? e with
  | none=>simp [hd,hi] at hT
  | some i=>
   cases hz:i.zero with
   | none=>simp [hd,hi,hz] at hT
   | some z=>
    simp only [hd,hi,hz] at hT;split at hT
    ·rename_i hh;cases hT;exact ⟨i,z,rfl,hi,hz,hh.1,hh.2,rfl,rfl⟩
    ·cases hT
theorem zo9 (s:List UInt8):(s.map λb:UInt8=>[AV.int .u8 b.toNat]).flatten=s.map λb=>AV.int .u8 b.toNat:=by
 induction s with
 | nil=>rfl
 | cons b s ih=>simp [ih]
theorem zkq (a:Option Addr) (n k:Nat) (w:World):(Builtin.lenOf (.slice a n k)).run P w=.ok n w:=by simp [Builtin.lenOf]
theorem lenOf_str (s:ByteArray) (w:World):(Builtin.lenOf (.string s)).run P w=.ok s.size w:=by simp [Builtin.lenOf]
theorem zc4.mem {u:TypeId} (hu:srcT P u=true) {b off m cap size:Nat} {news:List Value} (hl:news.length=m*size) (h1:∀ v∈news,v.oneCell'=true) (hc:∀ (j:Nat) (v:Value),news[j]?=some v->w.cell? ⟨b,off+j,none⟩=some v) :
  zc4 P w u (.slice (some ⟨b,off,none⟩) m cap) m size news:=by
 refine ⟨?_,λw'=>zkq _ _ _ _,λw' hw=>run_firstCells_some w' size m _ m cap news hl (λj v hv=>by rw [addr_add,hw];exact hc j v hv),hl,h1⟩;unfold srcT at hu;split at hu <;> simp_all
theorem zc4.empty {u:TypeId} (hu:srcT P u=true) {size:Nat} (a:Option Addr) (cap:Nat):zc4 P w u (.slice a 0 cap) 0 size []:=by
 refine ⟨?_,λw'=>zkq _ _ _ _,λw' hw=>?_,by simp,by simp⟩
 ·unfold srcT at hu;split at hu <;> simp_all
 ·cases a <;> simp [Builtin.firstCells,loadCells,loadCellsFrom]
theorem zeo (W:WRel B c h w) {u:TypeId} (hu:srcT P u=true) {sz:Nat} {x:AV} {v:Value} {es:List (List AV)} (hx:VRel c w x v) (he:z1v sz x h=some es) :
  ∃ news,zc4 P w u v es.length sz news/\LRel c w es.flatten news/\(∀ e∈es,e.length=sz):=by
 unfold z1v at he;have fromE:∀ (es:List (List AV)) (b off cap:Nat),ERel c w sz es b off->∃ news,zc4 P w u (.slice (some ⟨b,off,none⟩) es.length cap) es.length sz news/\LRel c w es.flatten news/\(∀ e∈es,e.length=sz):=by
  intro es b off cap hE;obtain ⟨hM,hlen⟩:=hE.flatten;obtain ⟨vs,h1,h2,h3⟩:=hM.values;exact ⟨vs,zc4.mem hu (by rw [h1.length,hlen]) h2 h3,h1,hE.lens⟩
 split at he
 ·split at he <;> (try (cases he;done));rename_i hs;subst hs;cases he;simp only [VRel] at hx;obtain ⟨a,cap,rfl,_,_,hne⟩:=hx
  cases es with
  | nil=>exact ⟨[],zc4.empty hu a cap,by simp [LRel],by simp⟩
  | cons e es=>
   obtain ⟨b,off,rfl,hE⟩:=hne (by simp);exact fromE _ b off cap hE
 ·split at he <;> (try (cases he;done));rename_i hs;subst hs;cases he;simp only [VRel] at hx;obtain ⟨b,cap,ty,_,rfl,_,_,_,hE⟩:=hx;exact fromE _ b 0 cap hE
 ·cases he;simp only [VRel] at hx;subst hx;exact ⟨[],zc4.empty hu none 0,by simp [LRel],by simp⟩
 ·cases he;simp only [VRel] at hx;obtain ⟨a,rfl⟩:=hx;exact ⟨[],zc4.empty hu (some a) 0,by simp [LRel],by simp⟩
 ·split at he <;> (try (cases he;done));rename_i s hs;subst hs;cases he;rw [hx.z6h];refine ⟨Lib.strCells ⟨s.toArray⟩,⟨?_,λw'=>by rw [lenOf_str,z8r];simp,λw' _=>?_,?_,Lib.strCells_oneCell _⟩,?_,by simp⟩
  ·unfold srcT at hu;split at hu <;> simp_all
  ·have:=Lib.run_firstCells_string (P:=P) w' 1 ⟨s.toArray⟩;rw [z8r] at this;simpa using this
  ·rw [Lib.strCells_length,z8r];simp
  ·simp only [Lib.strCells];rw [zo9];refine LRel.ofFn (by simp) ?_;intro i a v h1 h2;simp at h1 h2;obtain ⟨b,hb,rfl⟩:=h1;obtain ⟨b',hb',rfl⟩:=h2;rw [hb] at hb';cases hb';simp [VRel]
 ·split at he <;> (try (cases he;done));rename_i id off len sz' o ty cs ho;split at he <;> (try (cases he;done));rename_i hh;obtain ⟨rfl,hfit⟩:=hh;cases he;simp only [VRel] at hx;obtain ⟨b,cap,ty',hm,rfl,_,_,_⟩:=hx;obtain ⟨C,k1,k2,k3,k4,_⟩:=W.row hm ho;refine ⟨((C.toList.take cs.length).drop off).take (len*sz'),?_,?_,zhd sz' len _ (by simp;omega)⟩
  ·rw [z7u];refine zc4.mem hu (by simp;omega) (λv hv=>k4 v (List.mem_of_mem_drop (List.mem_of_mem_take hv))) ?_;intro j v hv;rw [cell_of_row w b (off+j) C ty (0,0) k1];have hj:j<len*sz':=by have:=(List.getElem?_eq_some_iff.1 hv).1;simp at this;omega
   rw [List.getElem?_take_of_lt hj,List.getElem?_drop,List.getElem?_take_of_lt (by omega)] at hv;simpa using hv
  ·rw [zbc];exact LRel.take _ (LRel.drop _ k3)
 ·cases he
theorem zf7 {gr:Bool} {T:SlT} {es:List (List AV)} {K:AV->z00->Prop} {b cap:Nat} {C:Array Value} (W:WRel B c h w) (hB:B<=b) (hb:w.heap[b]?=some (.cells C T.e (0,0))) (hcap:cap<=maxLen) (hle:es.length<=cap) (hC:C.size=cap*T.sz)
  (hnew:∀ o,¬ c.im b o) (hno:∀ i,c.m i=some b->h.objs i=none) (hl:∀ e∈es,e.length=T.sz) (hr:LRel c w es.flatten (C.toList.take (es.length*T.sz))) (h1:∀ u∈C.toList.take (es.length*T.sz),u.oneCell'=true)
  (H:zgg gr T es h K):∃ c' v h',Ext B c w c' w/\WRel B c' h' w/\VRel c' w v (.slice (some ⟨b,0,none⟩) es.length cap)/\K v h':=by
 have hblt:b<w.heap.size:=(Array.getElem?_eq_some_iff.1 hb).1;have hfl:es.flatten.length=es.length*T.sz:=by
  clear hr h1 H hle
  induction es with
  | nil=>simp
  | cons e es ih=>simp [List.flatten_cons,hl e (by simp),ih (λx hx=>hl x (by simp [hx])),Nat.add_mul];omega
 have hfit:es.length*T.sz<=C.size:=by rw [hC];exact Nat.mul_le_mul_right _ hle
 cases gr with
 | true=>
  simp only [zgg,if_true] at H;obtain ⟨E1,W1⟩:=W.freeze (λk x=>k=b/\x<es.length*T.sz) (λk x hk=>hk.1▸hblt) (λk x hk i o hi hio=>by
   rw [hno i (hk.1▸hi)] at hio;cases hio)
  obtain ⟨E2,W2⟩:=W1.name (b:=b) (.tok T.e (es.length*T.sz)) hB hblt hno ⟨C,hb,hfit,λo ho=>by
   rcases ho with ho | ho
   ·exact absurd ho (hnew o)
   ·exact ho.2⟩
  refine ⟨_,_,_,E1.trans E2,W2,?_,H⟩;simp only [VRel];refine ⟨b,cap,T.e,by simp [Ctx.zb7],rfl,hle,hcap,⟨C,hb,hC⟩,?_⟩;refine ERel.ofMRel hl (MRel.ofFn λi a hi=>?_);have hi':i<es.length*T.sz:=by have:=(List.getElem?_eq_some_iff.1 hi).1;omega
  obtain ⟨v,hv,hra⟩:=hr.get hi;refine ⟨?_,v,?_,h1 v (List.mem_of_getElem? hv),VRel.mono (E1.trans E2) hra⟩
  ·show c.im b (0+i)\/_
   exact Or.inr ⟨rfl,by omega⟩
  ·rw [cell_of_row w b (0+i) C T.e (0,0) hb];rw [List.getElem?_take_of_lt hi'] at hv;simpa using hv
 | false=>
  simp only [zgg,Bool.false_eq_true,if_false] at H;obtain ⟨E2,W2⟩:=W.name (b:=b) (.row T.e es.flatten) hB hblt hno ⟨C,hb,by omega,by rw [hfl];exact hr,by rw [hfl];exact h1,hnew⟩;refine ⟨_,_,_,E2,W2,?_,H⟩;simp only [VRel];exact ⟨b,cap,T.e,by simp [Ctx.zb7],rfl,hle,hcap,⟨C,hb,by simp [hC]⟩⟩
end
end
section
open Go.RowKit
section
variable {P:Program} {B:Nat} {c:Ctx} {h:z00} {w:World}
theorem z00.put_kill (h:z00) (id:Nat) (o:AObj):(h.put id o).kill id=h.kill id:=by
 unfold z00.put z00.kill
 congr 1
 funext i;by_cases e:i=id <;> simp [e]
theorem zkk (W:WRel B c h w) (o:Obj):Ext B c w c (w.drew.alloc o)/\WRel B c h (w.drew.alloc o):=
 ⟨(Ext.drew B c w).trans (Ext.alloc W.drew o),W.drew.alloc o⟩
theorem zoo (W:WRel B c h w) {gr:Bool} {t u ty:TypeId} {T:SlT} {s x:AV} {p q:Value} {K:AV->z00->Prop} (hT:slT P t=some T) (hu:srcT P u=true) (hs:VRel c w s p) (hx:VRel c w x q)
  (H:z1x gr T s x h K):Does P B c w (Builtin.append_ #[t,u] ty #[p,q]) K:=by
 obtain ⟨i,z,ht,hi,hz,hzs,hpos,hsz,hby⟩:=slT_inv hT;unfold z1x at H
 cases he:z1v T.sz x h with
 | none=>simp [he] at H
 | some es=>
  simp only [he] at H;obtain ⟨news,S,hnr,hlens⟩:=zeo W hu hx he;rw [<-hsz] at S;have hnl:news.length=es.length*T.sz:=by rw [S.l,hsz]
  have none_:∀ (bo:Option Addr),es≠[]->bounded T es.length->zgg gr T es h K->Does P B c w (Builtin.append_ #[t,u] ty #[.slice bo 0 0,q]) K:=by
   intro bo hne hbd HK;have hm:0<es.length:=by cases es with | nil=>exact absurd rfl hne | cons _ _=>simp
   obtain ⟨v,w',hr,A⟩:=zlb (P:=P) (w:=w) (ty:=ty) ht hi hz hzs S (bo:=bo) (n:=0) (cap:=0) (Nat.le_refl _) (olds:=[]) (λw' _=>by
    cases bo <;> simp [Builtin.firstCells,loadCells,loadCellsFrom]) (by simpa using hbd.1) (by rw [hby];simpa using hbd.2) (λ_ h0=>by omega)
   cases A with
   | same hm0=>omega
   | room g C w' _ _ _ hroom=>omega
   | grow z' cap' _ hc hc2 hz'=>
    obtain ⟨E1,W1⟩:=zkk W (.cells (([]:List Value).toArray++news.toArray++z') T.e);obtain ⟨c',v,h',E2,W2,hv,hk⟩:=zf7 (b:=w.heap.size) (cap:=cap') (C:=([]:List Value).toArray++news.toArray++z') W1 W.base (by exact heap_alloc_new w.drew _) hc2 (by omega)
     (by simp only [Array.size_append,List.size_toArray,List.length_nil,hnl,hz',hsz,Nat.zero_add,<-Nat.add_mul];congr 1;omega)
     (λo ho=>absurd (W.im _ _ ho) (by omega)) (λi hi=>absurd (W.mlt i _ hi).2.2 (by omega)) hlens
     (by
      have:(([]:List Value).toArray++news.toArray++z').toList.take (es.length*T.sz)=news:=by simp [<-hnl]
      rw [this];exact LRel.mono E1 hnr)
     (by
      have:(([]:List Value).toArray++news.toArray++z').toList.take (es.length*T.sz)=news:=by simp [<-hnl]
      rw [this];exact S.one) HK
    refine ⟨c',_,v,h',_,hr,E1.trans E2,W2,?_,hk⟩;simpa using hv
  split at H
  ·
   simp only [VRel] at hs;subst hs;split at H
   ·obtain ⟨v,w',hr,A⟩:=zlb (P:=P) (w:=w) (ty:=ty) ht hi hz hzs S (bo:=none) (n:=0) (cap:=0) (Nat.le_refl _) (olds:=[]) (λw' _=>by simp [Builtin.firstCells]) (by simp [maxLen]) (by simp) (λhne=>absurd rfl hne)
    cases A with
    | same _=>exact Does.z3e W hr (by simp [VRel]) H
    | room _ _ _ hm=>simp at hm
    | grow _ _ hm=>simp at hm
   ·exact none_ none (by simp) H.1 H.2
  ·
   simp only [VRel] at hs;obtain ⟨a,rfl⟩:=hs;split at H
   ·obtain ⟨v,w',hr,A⟩:=zlb (P:=P) (w:=w) (ty:=ty) ht hi hz hzs S (bo:=some a) (n:=0) (cap:=0) (Nat.le_refl _) (olds:=[]) (λw' _=>by simp [Builtin.firstCells,loadCells,loadCellsFrom]) (by simp [maxLen]) (by simp) (λhne=>absurd rfl hne)
    cases A with
    | same _=>exact Does.z3e W hr (by simp [VRel]) H
    | room _ _ _ hm=>simp at hm
    | grow _ _ hm=>simp at hm
   ·exact none_ (some a) (by simp) H.1 H.2
  ·
   rename_i id sz es0;split at H
   ·rename_i ty0 n ho;obtain ⟨rfl,rfl,rfl,hbd,HK⟩:=H;simp only [VRel] at hs;obtain ⟨b,cap,ty',hm,rfl,hle,hcm,hshp,hE⟩:=hs;obtain ⟨C,hC,hnC,him⟩:=W.obj id b _ hm ho;have hCs:C.size=cap*T.sz:=by
     obtain ⟨C',h1,h2⟩:=hshp;rw [hC] at h1;simp only [Option.some.injEq,Obj.cells.injEq] at h1;rw [h1.1,h2]
    obtain ⟨hM0,hf0⟩:=hE.flatten;obtain ⟨olds,ho1,ho2,ho3⟩:=hM0.values;have hol:olds.length=es0.length*T.sz:=by rw [ho1.length,hf0]
    obtain ⟨v,w',hr,A⟩:=zlb (P:=P) (w:=w) (ty:=ty) ht hi hz hzs S (bo:=some ⟨b,0,none⟩) (n:=es0.length) (cap:=cap) hle (olds:=olds)
     (λw' hw=>run_firstCells_some w' i.size _ ⟨b,0,none⟩ _ cap olds (by rw [hol,hsz]) (λj u hu=>by rw [addr_add,hw];exact ho3 j u hu)) hbd.1 (by rw [hby];exact hbd.2)
     (λ_ hroom=>⟨b,C,rfl,hC,by rw [hsz,hnl,hCs,<-Nat.add_mul];exact Nat.mul_le_mul_right _ hroom⟩)
    have hlens':∀ e∈es0++es,e.length=T.sz:=by
     intro e he;rcases List.mem_append.1 he with he | he
     ·exact hE.lens e he
     ·exact hlens e he
    have hinj:∀ j,c.m j=some b->(h.kill id).objs j=none:=by
     intro j hj;simp only [z00.z5r];split
     ·rfl
     ·rename_i hne
      cases hoj:h.objs j with
      | none=>rfl
      | some o=>exact absurd (W.inj j id b hj hm (by rw [hoj];simp) (by rw [ho];simp)) hne
    have hbl:=(W.mlt id b hm)
    cases A with
    | same hm0=>
     have:es=[]:=List.eq_nil_of_length_eq_zero hm0;subst this;obtain ⟨E2,W2⟩:=(W.kill id).name (b:=b) (.tok T.e ((es0++[]).length*T.sz)) hbl.2.1 hbl.2.2 hinj ⟨C,hC,by simpa using hnC,by simpa using him⟩;refine ⟨_,_,_,_,w,hr,E2,W2,?_,HK⟩;simp only [VRel,List.append_nil];exact ⟨b,cap,T.e,by simp [Ctx.zb7],rfl,hle,hcm,⟨C,hC,hCs⟩,ERel.mono E2 hE⟩
    | room g C2 w' hm0 hb hg hroom hfit T'=>
     simp only [Option.some.injEq,Addr.mk.injEq,and_true] at hb;subst hb;rw [hC] at hg;simp only [Option.some.injEq,Obj.cells.injEq,and_true] at hg;subst hg;rw [hsz] at T' hfit;have E1:Ext B c w c w':=⟨⟨λ_ _ x=>x,λ_ _ x=>x,T'.below hbl.2.1,λk o hk=>by
      by_cases hkb:k=b
      ·subst hkb;have hlt:=him o hk;rw [cell_of_row w k o C T.e (0,0) hC,cell_of_row w' k o _ T.e (0,0) T'.now];simp only [List.getElem?_toArray,List.append_assoc];rw [List.getElem?_append_left (by simp;omega),List.getElem?_take_of_lt hlt];simp
      ·exact World.cell?_of_block (a:=⟨k,o,none⟩) (T'.other k hkb),T'.shp⟩,T'.oth⟩
     have W1:WRel B c (h.kill id) w':=by
      refine ⟨λj k hj=>?_,(W.kill id).inj,λj k o hj hjo=>?_,λk o hk=>?_,(W.kill id).fresh,by rw [T'.size];exact W.base,W.gl.mono E1⟩
      ·have:=W.mlt j k hj;rw [T'.size];exact this
      ·have hne:k≠b:=by
        rintro rfl;rw [hinj j hj] at hjo;cases hjo
       exact ((W.kill id).obj j k o hj hjo).keep E1 (T'.other k hne) (λ_ y=>y)
      ·rw [T'.size];exact W.im k o hk
     obtain ⟨E2,W2⟩:=W1.freeze (λk x=>k=b/\es0.length*T.sz<=x/\x<(es0++es).length*T.sz) (λk x hk=>by rw [hk.1,T'.size];exact hbl.2.2) (λk x hk j o hj hjo=>by
      rw [hinj j (hk.1▸hj)] at hjo;cases hjo)
     have htot:(es0++es).length*T.sz=es0.length*T.sz+news.length:=by rw [List.length_append,Nat.add_mul,hnl]
     obtain ⟨E3,W3⟩:=W2.name (b:=b) (.tok T.e ((es0++es).length*T.sz)) hbl.2.1 (by rw [T'.size];exact hbl.2.2) hinj ⟨_,T'.now,by rw [T'.len,htot];exact hfit,λo hoo=>by
      rcases hoo with hoo | hoo
      ·have:=him o hoo;rw [htot];omega
      ·exact hoo.2.2⟩
     refine ⟨_,_,_,_,w',hr,(E1.trans E2).trans E3,W3,?_,HK⟩;simp only [VRel];refine ⟨b,cap,T.e,by simp [Ctx.zb7],by rw [List.length_append],by rw [List.length_append];exact hroom,hcm,⟨_,T'.now,by rw [T'.len,hCs]⟩,?_⟩;refine ERel.ofMRel hlens' ?_;rw [List.flatten_append];refine MRel.append (MRel.mono ((E1.trans E2).trans E3) hM0) (MRel.ofFn λj a hj=>?_);have hjl:j<news.length:=by
      have:=(List.getElem?_eq_some_iff.1 hj).1;rw [hnr.length];exact this
     obtain ⟨u,hu',hra⟩:=hnr.get hj;refine ⟨Or.inr ⟨rfl,by omega,by omega⟩,u,?_,S.one u (List.mem_of_getElem? hu'),VRel.mono ((E1.trans E2).trans E3) hra⟩;rw [cell_of_row w' b _ _ T.e (0,0) T'.now];simp only [List.getElem?_toArray,List.append_assoc];have etk:(C.toList.take (es0.length*T.sz)).length=es0.length*T.sz:=by rw [List.length_take];exact Nat.min_eq_left (by simpa using hnC)
     rw [List.getElem?_append_right (by rw [etk,hf0];omega)];have:0+es0.flatten.length+j-(C.toList.take (es0.length*T.sz)).length=j:=by rw [hf0,etk];omega
     rw [this,List.getElem?_append_left hjl];exact hu'
    | grow z' cap' hm0 hc hc2 hz'=>
     obtain ⟨E1,W1⟩:=zkk W (.cells (olds.toArray++news.toArray++z') T.e);have htk:(olds.toArray++news.toArray++z').toList.take ((es0++es).length*T.sz)=olds++news:=by
      have:(es0++es).length*T.sz=(olds++news).length:=by rw [List.length_append,List.length_append,Nat.add_mul,hol,hnl]
      rw [this];simp only [Array.toList_append,List.toList_toArray];exact List.take_left
     obtain ⟨c',v,h',E2,W2,hv,hk⟩:=zf7 (gr:=true) (T:=T) (es:=es0++es) (K:=K) (b:=w.heap.size) (cap:=cap') (C:=olds.toArray++news.toArray++z') (W1.kill id) W.base (by exact heap_alloc_new w.drew _) hc2 (by rw [List.length_append];exact hc)
      (by simp only [Array.size_append,List.size_toArray,hol,hnl,hz',hsz,<-Nat.add_mul];congr 1;omega)
      (λo ho=>absurd (W.im _ _ ho) (by omega)) (λi hi=>absurd (W.mlt i _ hi).2.2 (by omega)) hlens'
      (by rw [htk,List.flatten_append];exact (LRel.mono E1 ho1).append (LRel.mono E1 hnr))
      (by
       rw [htk];intro u hu;rcases List.mem_append.1 hu with hu | hu
       ·exact ho2 u hu
       ·exact S.one u hu) HK
     refine ⟨c',_,v,h',_,hr,E1.trans E2,W2,?_,hk⟩;simpa using hv
   ·exact H.elim
  ·
   rename_i id len sz;split at H
   ·rename_i ty0 cs ho;obtain ⟨rfl,rfl,hlc,hbd,HK⟩:=H;simp only [VRel] at hs;obtain ⟨b,cap,ty',hm,rfl,hle,hcm,hshp⟩:=hs;obtain ⟨C,hC,hnC,hlr,hone,hnim⟩:=W.row hm ho;have hCs:C.size=cap*T.sz:=by
     obtain ⟨C',h1,h2⟩:=hshp;rw [hC] at h1;simp only [Option.some.injEq,Obj.cells.injEq] at h1;rw [h1.1,h2];omega
    have ho1:LRel c w (cs.take (len*T.sz)) (C.toList.take (len*T.sz)):=by
     have:=LRel.take (len*T.sz) hlr;rwa [List.take_take,Nat.min_eq_left hlc] at this
    have ho2:∀ u∈C.toList.take (len*T.sz),u.oneCell'=true:=λu hu=>hone u (by
     have:C.toList.take (len*T.sz)=(C.toList.take cs.length).take (len*T.sz):=by rw [List.take_take,Nat.min_eq_left hlc]
     rw [this] at hu;exact List.mem_of_mem_take hu)
    have hol:(C.toList.take (len*T.sz)).length=len*T.sz:=by simp;omega
    obtain ⟨v,w',hr,A⟩:=zlb (P:=P) (w:=w) (ty:=ty) ht hi hz hzs S (bo:=some ⟨b,0,none⟩) (n:=len) (cap:=cap) hle (olds:=C.toList.take (len*T.sz))
     (λw' hw=>run_firstCells_some w' i.size _ ⟨b,0,none⟩ _ cap _ (by rw [hol,hsz]) (λj u hu=>by
      rw [addr_add,hw,cell_of_row w b (0+j) C T.e (0,0) hC];have hj:j<len*T.sz:=by have:=(List.getElem?_eq_some_iff.1 hu).1;rwa [hol] at this
      rw [List.getElem?_take_of_lt hj] at hu;simpa using hu)) hbd.1 (by rw [hby];exact hbd.2)
     (λ_ hroom=>⟨b,C,rfl,hC,by rw [hsz,hnl,hCs,<-Nat.add_mul];exact Nat.mul_le_mul_right _ hroom⟩)
    have hinj:∀ j,c.m j=some b->(h.kill id).objs j=none:=by
     intro j hj;simp only [z00.z5r];split
     ·rfl
     ·rename_i hne
      cases hoj:h.objs j with
      | none=>rfl
      | some o=>exact absurd (W.inj j id b hj hm (by rw [hoj];simp) (by rw [ho];simp)) hne
    have hbl:=(W.mlt id b hm);have hfl:(cs.take (len*T.sz)++es.flatten).length=(len+es.length)*T.sz:=by
     rw [List.length_append,Nat.add_mul,List.length_take,Nat.min_eq_left hlc,<-hnr.length,hnl]
    cases A with
    | same hm0=>
     have:es=[]:=List.eq_nil_of_length_eq_zero hm0;subst this;obtain ⟨E2,W2⟩:=(W.kill id).name (b:=b) (.row T.e (cs.take (len*T.sz)++([]:List (List AV)).flatten)) hbl.2.1 hbl.2.2 hinj ⟨C,hC,by simp;omega,by
      have e:(cs.take (len*T.sz)++([]:List (List AV)).flatten).length=len*T.sz:=by simp;omega
      rw [e];simpa using ho1,by
      have e:(cs.take (len*T.sz)++([]:List (List AV)).flatten).length=len*T.sz:=by simp;omega
      rw [e];exact ho2,hnim⟩
     refine ⟨_,_,_,_,w,hr,E2,W2,?_,HK⟩;simp only [VRel];exact ⟨b,cap,T.e,by simp [Ctx.zb7],rfl,hle,hcm,⟨C,hC,by omega⟩⟩
    | room g C2 w' hm0 hb hg hroom hfit T'=>
     simp only [Option.some.injEq,Addr.mk.injEq,and_true] at hb;subst hb;rw [hC] at hg;simp only [Option.some.injEq,Obj.cells.injEq,and_true] at hg;subst hg;rw [hsz] at T' hfit;have htk:(C.toList.take (len*T.sz)++news++C.toList.drop (len*T.sz+news.length)).toArray.toList.take (cs.take (len*T.sz)++es.flatten).length=C.toList.take (len*T.sz)++news:=by
      have:(cs.take (len*T.sz)++es.flatten).length=(C.toList.take (len*T.sz)++news).length:=by rw [hfl,List.length_append,hol,hnl,Nat.add_mul]
      rw [this];simp only [List.toList_toArray];exact List.take_left
     obtain ⟨E1,W1⟩:=W.turnRow hm ho T' (cs':=cs.take (len*T.sz)++es.flatten) (by rw [T'.len,hfl,Nat.add_mul,<-hnl];exact hfit) (by rw [htk];exact ho1.append hnr) (by
      rw [htk];intro u hu;rcases List.mem_append.1 hu with hu | hu
      ·exact ho2 u hu
      ·exact S.one u hu)
     have W1':=W1.kill id;rw [z00.put_kill] at W1';obtain ⟨C3,d1,d2,d3,d4,d5⟩:=W1.row (id:=id) (b:=b) (ty:=T.e) (cs:=cs.take (len*T.sz)++es.flatten) hm (by simp);obtain ⟨E2,W2⟩:=W1'.name (b:=b) (.row T.e (cs.take (len*T.sz)++es.flatten)) hbl.2.1 (by rw [T'.size];exact hbl.2.2) hinj ⟨C3,d1,d2,d3,d4,d5⟩;refine ⟨_,_,_,_,w',hr,E1.trans E2,W2,?_,HK⟩;simp only [VRel];exact ⟨b,cap,T.e,by simp [Ctx.zb7],rfl,hroom,hcm,⟨_,T'.now,by rw [T'.len,hCs];omega⟩⟩
    | grow z' cap' hm0 hc hc2 hz'=>
     obtain ⟨E1,W1⟩:=zkk W (.cells ((C.toList.take (len*T.sz)).toArray++news.toArray++z') T.e);have hlens':∀ e∈chunk T.sz len cs++es,e.length=T.sz:=by
      intro e he;rcases List.mem_append.1 he with he | he
      ·exact zhd _ _ _ hlc e he
      ·exact hlens e he
     have hll:(chunk T.sz len cs++es).length=len+es.length:=by rw [List.length_append,z7u]
     have hff:(chunk T.sz len cs++es).flatten=cs.take (len*T.sz)++es.flatten:=by rw [List.flatten_append,zbc]
     have htk:((C.toList.take (len*T.sz)).toArray++news.toArray++z').toList.take ((chunk T.sz len cs++es).length*T.sz)=C.toList.take (len*T.sz)++news:=by
      have:(chunk T.sz len cs++es).length*T.sz=(C.toList.take (len*T.sz)++news).length:=by rw [hll,List.length_append,Nat.add_mul,hol,hnl]
      rw [this];simp only [Array.toList_append,List.toList_toArray];exact List.take_left
     obtain ⟨c',v,h',E2,W2,hv,hk⟩:=zf7 (gr:=false) (T:=T) (es:=chunk T.sz len cs++es) (K:=K) (b:=w.heap.size) (cap:=cap') (C:=(C.toList.take (len*T.sz)).toArray++news.toArray++z') (W1.kill id) W.base (by exact heap_alloc_new w.drew _) hc2 (by rw [hll];exact hc)
      (by simp only [Array.size_append,List.size_toArray,hol,hnl,hz',hsz,<-Nat.add_mul];congr 1;omega)
      (λo ho=>absurd (W.im _ _ ho) (by omega)) (λi hi=>absurd (W.mlt i _ hi).2.2 (by omega)) hlens'
      (by rw [htk,hff];exact (LRel.mono E1 ho1).append (LRel.mono E1 hnr))
      (by
       rw [htk];intro u hu;rcases List.mem_append.1 hu with hu | hu
       ·exact ho2 u hu
       ·exact S.one u hu) (by simp only [zgg,Bool.false_eq_true,if_false,hll,hff];exact HK)
     refine ⟨c',_,v,h',_,hr,E1.trans E2,W2,?_,hk⟩;rw [hll] at hv;simpa using hv
   ·exact H.elim
  ·exact H.elim
end
end
section
open Go.RowKit
def z9g (x i:AV) (K:AV->Prop):Prop:=
 match x,i with
 | .str s,.int _ i=>0<=i/\(match s[i.toNat]? with | some b=>K (.int .u8 b.toNat) | none=>False)
 | _,_=>False
def bnd (d:Nat):Option AV->Option Int
 | none=>some d
 | some (.int _ i)=>some i
 | _=>none
def zay (x:AV) (lo hi:Option AV) (K:AV->Prop):Prop:=
 match x with
 | .str s=>match bnd 0 lo,bnd s.length hi with
  | some l,some h=>0<=l/\l<=h/\h<=s.length/\K (.str ((s.take h.toNat).drop l.toNat))
  | _,_=>False
 | _=>False
def z4n (n:Nat) (x:AV) (lo hi:Option AV) (K:AV->Prop):Prop:=
 match x with
 | .isl sz es=>match bnd 0 lo,bnd es.length hi with
  | some l,some h=>sz=n/\0<=l/\l<=h/\h<=es.length/\K (.isl sz ((es.take h.toNat).drop l.toNat))
  | _,_=>False
 | .gsl _ sz es=>match bnd 0 lo,bnd es.length hi with
  | some l,some h=>sz=n/\0<=l/\l<=h/\h<=es.length/\K (.isl sz ((es.take h.toNat).drop l.toNat))
  | _,_=>False
 | .nils=>match bnd 0 lo,bnd 0 hi with
  | some l,some h=>l=0/\h=0/\K .nils
  | _,_=>False
 | .eml=>match bnd 0 lo,bnd 0 hi with
  | some l,some h=>l=0/\h=0/\K .eml
  | _,_=>False
 | .sl id off len sz=>match bnd 0 lo,bnd len hi with
  | some l,some h=>sz=n/\0<=l/\l<=h/\h<=len/\(if l=0 then K (.sl id off h.toNat sz) else if l=h then K (.isl sz []) else K (.sl id (off+l.toNat*sz) (h.toNat-l.toNat) sz))
  | _,_=>False
 | _=>False
inductive LenK | str | slice | array (n:Nat) | map
def lenK (P:Program) (t:TypeId):Option LenK:=
 match P.underlying t with
 | some .string=>some .str
 | some (.slice _)=>some .slice
 | some (.array n _)=>some (.array n)
 | some (.map _ _)=>some .map
 | some (.pointer a)=>match P.underlying a with | some (.array n _)=>some (.array n) | _=>none
 | _=>none
def pLen (k:LenK) (x:AV) (K:AV->Prop):Prop:=
 match k,x with
 | .str,.str s=>K (.int .i64 s.length)
 | .slice,.isl _ es=>K (.int .i64 es.length)
 | .slice,.gsl _ _ es=>K (.int .i64 es.length)
 | .slice,.nils=>K (.int .i64 0)
 | .slice,.eml=>K (.int .i64 0)
 | .slice,.sl _ _ len _=>K (.int .i64 len)
 | .array n,_=>K (.int .i64 n)
 | _,_=>False
def zgi:Value->AV
 | .int k n=>.int k n
 | .bool b=>.bool b
 | .string s=>.str s.data.toList
 | .float k b=>.flt k b
 | .pointer none=>.nilp
 | .slice none 0 0=>.nils
 | .map none=>.nilm
 | .nilFunc=>.nilf
 | .nilIface=>.nili
 | _=>.und
def ztk:Value->AV
 | .agg cs=>if cs.toList.all (·.oneCell') then .agg (cs.toList.map zgi) else .und
 | v=>zgi v
def zjf (P:Program) (t:TypeId):Option (List AV):=
 match P.info? t with
 | some i=>match i.zero with
  | some z=>if z.cells.toList.all (·.oneCell') then some (z.cells.toList.map zgi) else none
  | none=>none
 | none=>none
def zr5 (ty:TypeId) (zero:List AV) (h:z00) (K:AV->z00->Prop):Prop:=K (.ptr h.next 0) (h.push (.row ty zero))
def pBox (im:Bool) (ty:TypeId) (v:AV) (h:z00) (K:AV->z00->Prop):Prop:=
 v.fits=true/\(if im then K (.iptr v.cells) h else K (.ptr h.next 0) (h.push (.row ty v.cells)))
def zez (place:Nat->Option (Nat×Nat)) (cells:List AV):List (Nat×AV)->Option (List AV)
 | []=>some cells
 | (i,v)::rest=>match place i with
  | none=>none
  | some (off,size)=>if v.fits=true/\v.cells.length=size/\off+size<=cells.length then zez place (cells.take off++v.cells++cells.drop (off+size)) rest else none
def zow (P:Program) (t:TypeId):Option (List (Nat×Nat)):=
 match P.underlying t with
 | some (.struct fs)=>fs.toList.mapM λf=>(P.info? f.type).map λi=>(f.offset,i.size)
 | _=>none
def z4b (places:List (Nat×Nat)) (zero:List AV) (parts:List (Nat×AV)) (K:AV->Prop):Prop:=
 match zez (places[·]?) zero parts with | some cs=>K (.agg cs) | none=>False
def zat (sz:Nat) (es:List (List AV)):List (Nat×AV)->Option (List (List AV))
 | []=>some es
 | (i,v)::rest=>if v.fits=true/\v.cells.length=sz/\i<es.length then zat sz (es.set i v.cells) rest else none
def z10 (im:Bool) (T:SlT) (zero:List AV) (len:Nat) (parts:List (Nat×AV)) (h:z00) (K:AV->z00->Prop):Prop:=
 match len with
 | 0=>K .eml h
 | len+1=>(len+1)*T.sz<=16777216/\zero.length=T.sz/\
  match zat T.sz (List.replicate (len+1) zero) parts with
  | some es=>if im then K (.isl T.sz es) h else K (.sl h.next 0 (len+1) T.sz) (h.push (.row T.e es.flatten))
  | none=>False
def repC (n:Nat):List AV->List AV
 | [a]=>List.replicate n a
 | z=>(List.replicate n z).flatten
def z6r (T:SlT) (zero:List AV) (l k:AV) (h:z00) (K:AV->z00->Prop):Prop:=
 match l,k with
 | .int _ l,.int _ k=>0<=l/\l<=k/\k<=9223372036854775807/\T.by_*k<=281474976710656/\zero.length=T.sz/\K (.sl h.next 0 l.toNat T.sz) (h.push (.row T.e (repC l.toNat zero)))
 | _,_=>False
inductive CvK | int (k:IntKind) | same | bytesStr (sz:Nat) | i2f (k:FloatKind) | f2i (k:IntKind)
def convK (P:Program) (src dst:TypeId):Option CvK:=
 match P.underlying src,P.underlying dst with
 | some (.int _),some (.int k)=>some (.int k)
 | some (.int _),some (.float k)=>some (.i2f k)
 | some (.float _),some (.int k)=>some (.f2i k)
 | some .string,some .string=>some .same
 | some (.slice e),some .string=>match P.underlying e with | some (.int .u8)=>some (.bytesStr 1) | _=>none
 | _,_=>none
def bytesOf:List (List AV)->Option (List UInt8)
 | []=>some []
 | [.int .u8 n]::es=>(bytesOf es).map (UInt8.ofNat n.toNat::·)
 | _=>none
def z9e (ck:CvK) (x:AV) (h:z00) (K:AV->Prop):Prop:=
 match ck,x with
 | .int k,.int _ n=>K (.int k (k.wrap n))
 | .same,.str s=>K (.str s)
 | .i2f k,.int _ n=>K (.flt k (k.nearest n))
 | .f2i k,.flt s b=>match floatToIntVal s b k with | some n=>K (.int k n) | none=>False
 | .bytesStr _,.str _=>False
 | .bytesStr n,x=>match z1v n x h with
  | some es=>match bytesOf es with | some s=>K (.str s) | none=>False
  | none=>False
 | _,_=>False
def unA (op:UnOp) (x:AV):Option AV:=
 match op,x with
 | .neg,.int k n=>some (.int k (k.wrap (0-n)))
 | .xor,.int k n=>some (.int k (iXor k (if k.signed then -1 else k.max) n))
 | .not,.bool b=>some (.bool !b)
 | .not,.unkb=>some .unkb
 | _,_=>none
def maxA:List AV->Option AV
 | [.int k x]=>some (.int k x)
 | .int k x::.int k' y::rest=>maxA (.int k (if y>x then y else x)::rest)
 | _=>none
termination_by l=>l.length
def minA:List AV->Option AV
 | [.int k x]=>some (.int k x)
 | .int k x::.int k' y::rest=>minA (.int k (if y<x then y else x)::rest)
 | _=>none
termination_by l=>l.length
def z6q (i:Nat) (x:AV) (K:AV->Prop):Prop:=
 match x with
 | .tup vs=>match vs[i]? with | some v=>K v | none=>False
 | _=>False
section
variable {P:Program} {B:Nat} {c:Ctx} {h:z00} {w:World}
theorem getElem?_str (s:List UInt8) (i:Nat):(⟨s.toArray⟩:ByteArray)[i]?=s[i]?:=by
 by_cases hi:i<s.length
 ·rw [getElem?_pos (⟨s.toArray⟩:ByteArray) i (by rw [z8r];exact hi),getElem?_pos s i hi];rfl
 ·rw [getElem?_neg (⟨s.toArray⟩:ByteArray) i (by rw [z8r];exact hi),getElem?_neg s i hi]
theorem zkz (W:WRel B c h w) {t:TypeId} {x i:AV} {u j:Value} {K:AV->z00->Prop} (ht:P.underlying t=some .string) (hx:VRel c w x u) (hi:VRel c w i j) (H:z9g x i (λv=>K v h)):Does P B c w (Instr.index t u j) K:=by
 unfold z9g at H;split at H
 ·rename_i s k q;obtain ⟨h0,H⟩:=H;rw [hx.z6h,hi.z1r];split at H
  ·rename_i b hb;have hb':(⟨s.toArray⟩:ByteArray)[q.toNat]?=some b:=by rw [getElem?_str];exact hb
   exact Does.z3e W (by simp [Instr.index,asIntOf,run_underlying ht,h0,hb'];rfl) (by simp [VRel]) H
  ·exact H.elim
 ·exact H.elim
theorem bnd_run {d:Nat} {lo:Option AV} {l:Int} {lv:Option Value} (hb:bnd d lo=some l) (hr:(lo=none/\lv=none)\/∃ a v,lo=some a/\lv=some v/\VRel c w a v) {y:Nat} (h0:0<=l) (h1:l<=y) (code:BoundsCode) :
  (match lv with | some v=>Instr.sliceBound v y code | none=>pure d:Sem Nat).run P w=.ok l.toNat w:=by
 rcases hr with ⟨rfl,rfl⟩ | ⟨a,v,rfl,rfl,hv⟩
 ·simp only [bnd,Option.some.injEq] at hb;subst hb;simp
 ·cases a <;> simp only [bnd] at hb <;> (try (cases hb;done));cases hb;have:=hv.z1r;subst this;simp [Instr.sliceBound,asIntOf,h0,h1]
def zsh (c:Ctx) (w:World) (a:Option AV) (v:Option Value):Prop:=(a=none/\v=none)\/∃ x u,a=some x/\v=some u/\VRel c w x u
theorem zms {isSl:Bool} {len cap:Nat} {lo hi:Option AV} {lv hv:Option Value} {l k:Int} (hlo:zsh c w lo lv) (hhi:zsh c w hi hv) (hl:bnd 0 lo=some l) (hk:bnd len hi=some k) (h0:0<=l) (h1:l<=k) (h2:k<=len) (h3:len<=cap) :
  (Instr.sliceBounds isSl len cap lv hv none).run P w=.ok (l.toNat,k.toNat,cap) w:=by
 have e1:=λcode=>bnd_run (P:=P) (c:=c) (w:=w) hk hhi (y:=cap) (by omega) (by omega) code;have e2:=λcode=>bnd_run (P:=P) (c:=c) (w:=w) hl hlo (y:=k.toNat) h0 (by omega) code;unfold Instr.sliceBounds;simp only [Sem.run_bind,Sem.run_pure,Result.andThen_ok];have e3:∀ (b:Bool),(if b=true then BoundsCode.sliceAcap else BoundsCode.sliceAlen)=if b then .sliceAcap else .sliceAlen:=λ_=>rfl
 cases hv with
 | none=>
  have e1':=e1 .sliceAlen;simp only [Sem.run_pure,Result.ok.injEq,and_true] at e1';subst e1';simp only [Sem.run_pure,Result.andThen_ok]
  cases lv with
  | none=>
   have e2':=e2 .sliceB;simp only [Sem.run_pure,Result.ok.injEq,and_true] at e2';simp [e2']
  | some v=>simp [e2 .sliceB]
 | some v=>
  have e1':=e1 (if isSl then .sliceAcap else .sliceAlen);simp only at e1'
  cases lv with
  | none=>
   have e2':=e2 .sliceB;simp only [Sem.run_pure,Result.ok.injEq,and_true] at e2';cases isSl <;> (simp at e1' ⊢;simp [e1',e2'])
  | some v=>
   have e2':=e2 .sliceB;simp only at e2';cases isSl <;> (simp at e1' ⊢;simp [e1',e2'])
theorem zsu (s:List UInt8) (a b:Nat):(⟨s.toArray⟩:ByteArray).extract a b=⟨((s.take b).drop a).toArray⟩:=by
 apply ByteArray.ext;rw [ByteArray.data_extract];apply Array.ext';simp [List.extract_eq_take_drop,List.drop_take]
theorem zl1 (W:WRel B c h w) {t:TypeId} {x:AV} {lo hi:Option AV} {u:Value} {lv hv:Option Value} {K:AV->z00->Prop} (ht:P.underlying t=some .string) (hx:VRel c w x u) (hlo:zsh c w lo lv) (hhi:zsh c w hi hv)
  (H:zay x lo hi (λv=>K v h)):Does P B c w (Instr.sliceAt t u lv hv none) K:=by
 unfold zay at H;split at H
 ·rename_i s;split at H
  ·rename_i l k hl hk;obtain ⟨h0,h1,h2,H⟩:=H;rw [hx.z6h];have hb:=zms (P:=P) (isSl:=false) (cap:=s.length) hlo hhi hl hk h0 h1 h2 (Nat.le_refl _);refine Does.z3e W (u:=.string ⟨((s.take k.toNat).drop l.toNat).toArray⟩) ?_ (by simp [VRel]) H;simp [Instr.sliceAt,Instr.slice,run_underlying ht,z8r,hb,zsu]
  ·exact H.elim
 ·exact H.elim
theorem zmc (W:WRel B c h w) {t e:TypeId} {n:Nat} {x:AV} {lo hi:Option AV} {u:Value} {lv hv:Option Value} {K:AV->z00->Prop} (ht:P.underlying t=some (.slice e)) (hn:szK P e=some n) (hx:VRel c w x u) (hlo:zsh c w lo lv) (hhi:zsh c w hi hv)
  (H:z4n n x lo hi (λv=>K v h)):Does P B c w (Instr.sliceAt t u lv hv none) K:=by
 have go:∀ (a:Option Addr) (len cap:Nat) (l k:Int),bnd 0 lo=some l->bnd len hi=some k->0<=l->l<=k->k<=len->len<=cap->
   (Instr.sliceAt t (.slice a len cap) lv hv none).run P w=.ok (.slice (if cap=l.toNat then a else a.map (·.add (l.toNat*n))) (k.toNat-l.toNat) (cap-l.toNat)) w:=by
  intro a len cap l k hl hk h0 h1 h2 h3;have hb:=zms (P:=P) (isSl:=true) hlo hhi hl hk h0 h1 h2 h3;simp [Instr.sliceAt,Instr.slice,run_underlying ht,hb,run_sizeOf' hn]
 have islc:∀ (es:List (List AV)) (a:Option Addr) (cap:Nat) (l k:Int),bnd 0 lo=some l->bnd es.length hi=some k->0<=l->l<=k->k<=es.length->es.length<=cap->es.length<=9223372036854775807->(es≠[]->∃ b off,a=some ⟨b,off,none⟩/\ERel c w n es b off)->
   K (.isl n ((es.take k.toNat).drop l.toNat)) h->Does P B c w (Instr.sliceAt t (.slice a es.length cap) lv hv none) K:=by
  intro es a cap l k hl hk h0 h1 h2 h3 h4 hne H;refine Does.z3e W (go a _ cap l k hl hk h0 h1 h2 h3) ?_ H;simp only [VRel];have hlen:((es.take k.toNat).drop l.toNat).length=k.toNat-l.toNat:=by simp;omega
  refine ⟨_,_,by rw [hlen],by rw [hlen];omega,by rw [hlen];omega,λhne'=>?_⟩;have hlk:l.toNat<k.toNat:=by
   have:=List.length_pos_iff.2 hne';rw [hlen] at this;omega
  obtain ⟨b,off,rfl,hE⟩:=hne (by rintro rfl;simp at hne');refine ⟨b,off+l.toNat*n,?_,ERel.drop _ (ERel.take _ hE)⟩;rw [if_neg (by omega)];simp [addr_add]
 unfold z4n at H;split at H
 ·split at H
  ·rename_i sz es _ _ l k hl hk;obtain ⟨rfl,h0,h1,h2,H⟩:=H;simp only [VRel] at hx;obtain ⟨a,cap,rfl,h3,h4,hne⟩:=hx;exact islc es a cap l k hl hk h0 h1 h2 h3 h4 hne H
  ·exact H.elim
 ·split at H
  ·rename_i id sz es _ _ l k hl hk;obtain ⟨rfl,h0,h1,h2,H⟩:=H;simp only [VRel] at hx;obtain ⟨b,cap,ty,_,rfl,h3,h4,_,hE⟩:=hx;exact islc es _ cap l k hl hk h0 h1 h2 h3 (by simp only [maxLen] at h4;omega) (λ_=>⟨b,0,rfl,hE⟩) H
  ·exact H.elim
 ·split at H
  ·rename_i l k hl hk;obtain ⟨rfl,rfl,H⟩:=H;simp only [VRel] at hx;subst hx;exact Does.z3e W (go none 0 0 0 0 hl hk (by omega) (by omega) (by omega) (by omega)) (by simp [VRel]) H
  ·exact H.elim
 ·split at H
  ·rename_i l k hl hk;obtain ⟨rfl,rfl,H⟩:=H;simp only [VRel] at hx;obtain ⟨a,rfl⟩:=hx;exact Does.z3e W (go (some a) 0 0 0 0 hl hk (by omega) (by omega) (by omega) (by omega)) (by simp [VRel]) H
  ·exact H.elim
 ·split at H
  ·rename_i id off len sz _ _ l k hl hk;obtain ⟨rfl,h0,h1,h2,H⟩:=H;simp only [VRel] at hx;obtain ⟨b,cap,ty,hm,rfl,h3,h4,hs⟩:=hx;have hr:=go (some ⟨b,off,none⟩) len cap l k hl hk h0 h1 h2 h3;split at H
   ·rename_i hl0;subst hl0;refine Does.z3e W hr ?_ H;simp only [VRel];exact ⟨b,cap,ty,hm,by simp [Addr.add],by omega,h4,hs⟩
   ·split at H
    ·rename_i hl0 hlk;subst hlk;refine Does.z3e W hr ?_ H;simp only [VRel];exact ⟨if cap=l.toNat then some ⟨b,off,none⟩ else Option.map (λ(x:Addr)=>x.add (l.toNat*sz)) (some ⟨b,off,none⟩),cap-l.toNat,by simp only [List.length_nil,Nat.sub_self],by simp,by simp,λhne=>absurd rfl hne⟩
    ·rename_i hl0 hlk;refine Does.z3e W hr ?_ H;simp only [VRel];refine ⟨b,cap-l.toNat,ty,hm,?_,by omega,by omega,?_⟩
     ·rw [if_neg (by omega)];simp [addr_add]
     ·have:off+l.toNat*sz+(cap-l.toNat)*sz=off+cap*sz:=by
       rw [Nat.add_assoc,<-Nat.add_mul];congr 2;omega
      rw [this];exact hs
  ·exact H.elim
 ·exact H.elim
theorem pLen_sound (W:WRel B c h w) {t:TypeId} {lk:LenK} {x:AV} {u:Value} {ty:TypeId} {K:AV->z00->Prop} (hk:lenK P t=some lk) (hx:VRel c w x u) (H:pLen lk x (λv=>K v h)):Does P B c w (Builtin.len_ #[t] ty #[u]) K:=by
 unfold lenK at hk
 cases hd:P.underlying t with
 | none=>simp [hd] at hk
 | some d=>
  cases d <;> simp only [hd] at hk <;> (try (cases hk;done))
  case string=>
   cases hk;cases x <;> simp only [pLen] at H <;> (try (exact H.elim));rw [hx.z6h];exact Does.z3e W (by simp [Builtin.len_,run_underlying hd,z8r];rfl) (by simp [VRel,goInt]) H
  case slice=>
   cases hk;have go:∀ a n k,(Builtin.len_ #[t] ty #[.slice a n k]).run P w=.ok (.int .i64 n) w:=by intro a n k;simp [Builtin.len_,run_underlying hd,goInt]
   cases x <;> simp only [pLen] at H <;> (try (exact H.elim)) <;> simp only [VRel] at hx
   ·subst hx;exact Does.z3e W (go _ _ _) (by simp [VRel]) H
   ·obtain ⟨a,rfl⟩:=hx;exact Does.z3e W (go _ _ _) (by simp [VRel]) H
   ·obtain ⟨a,k,rfl,_⟩:=hx;exact Does.z3e W (go _ _ _) (by simp [VRel]) H
   ·obtain ⟨b,k,t',_,rfl,_⟩:=hx;exact Does.z3e W (go _ _ _) (by simp [VRel]) H
   ·obtain ⟨b,k,t',_,rfl,_⟩:=hx;exact Does.z3e W (go _ _ _) (by simp [VRel]) H
  case array n e=>
   cases hk;simp only [pLen] at H;exact Does.z3e W (by simp [Builtin.len_,run_underlying hd];rfl) (by simp [VRel,goInt]) H
  case map=>
   cases hk;cases x <;> simp only [pLen] at H <;> exact H.elim
  case pointer a=>
   cases ha:P.underlying a with
   | none=>simp [ha] at hk
   | some d'=>
    cases d' <;> simp only [ha] at hk <;> (try (cases hk;done));cases hk;simp only [pLen] at H;exact Does.z3e W (by simp [Builtin.len_,run_underlying hd,run_underlying ha];rfl) (by simp [VRel,goInt]) H
theorem zn9 (c:Ctx) (w:World) (v:Value):VRel c w (zgi v) v:=by
 unfold zgi;split <;> simp [VRel]
theorem z9c (c:Ctx) (w:World) (vs:List Value):LRel c w (vs.map zgi) vs:=by
 induction vs with
 | nil=>simp [LRel]
 | cons v vs ih=>simp only [List.map_cons,LRel];exact ⟨v,vs,rfl,zn9 c w v,ih⟩
theorem ztl (c:Ctx) (w:World) (v:Value):VRel c w (ztk v) v:=by
 unfold ztk;split
 ·split
  ·rename_i cs hc;simp only [VRel];exact ⟨cs,rfl,z9c c w _,List.all_eq_true.1 hc⟩
  ·simp [VRel]
 ·exact zn9 c w v
theorem zhb {t:TypeId} {zs:List AV} (hz:zjf P t=some zs):∃ i z,P.info? t=some i/\i.zero=some z/\(∀ u∈z.cells.toList,u.oneCell'=true)/\zs=z.cells.toList.map zgi:=by
 unfold zjf at hz
 cases hi:P.info? t with
 | none=>simp [hi] at hz
 | some i=>
  cases hzz:i.zero with
  | none=>simp [hi,hzz] at hz
  | some z=>
   simp only [hi,hzz] at hz;split at hz
   ·rename_i hc;cases hz;exact ⟨i,z,rfl,hzz,List.all_eq_true.1 hc,rfl⟩
   ·cases hz
theorem zr6 (W:WRel B c h w) {t:TypeId} {zs:List AV} {K:AV->z00->Prop} (hz:zjf P t=some zs) (H:zr5 t zs h K):Does P B c w (Instr.alloc t true (.tuple #[])) K:=by
 obtain ⟨i,z,hi,hzz,h1,rfl⟩:=zhb hz;obtain ⟨c',E,W',hm⟩:=W.newRow z.cells t _ (z9c c w _) h1;refine ⟨c',.pointer (some ⟨w.heap.size,0,none⟩),_,_,w.alloc (.cells z.cells t),?_,E,W',?_,H⟩
 ·simp [Instr.alloc,zeroValue,typeInfo,hi,hzz,newVar,newRow]
 ·simp only [VRel];exact ⟨_,hm,rfl⟩
theorem pBox_sound (W:WRel B c h w) {im:Bool} {t:TypeId} {v:AV} {u:Value} {K:AV->z00->Prop} (hv:VRel c w v u) (H:pBox im t v h K):Does P B c w (Instr.box t u) K:=by
 obtain ⟨hf,H⟩:=H;obtain ⟨h1,h2⟩:=AV.zhj hf hv
 cases im with
 | true=>
  obtain ⟨c',E,W',hM⟩:=W.newIm u.cells t _ h1 h2;refine ⟨c',.pointer (some ⟨w.heap.size,0,none⟩),_,_,w.alloc (.cells u.cells t),?_,E,W',?_,by simpa using H⟩
  ·simp [Instr.box,newVar,newRow]
  ·simp only [VRel];exact ⟨_,_,rfl,hM⟩
 | false=>
  obtain ⟨c',E,W',hm⟩:=W.newRow u.cells t _ h1 h2;refine ⟨c',.pointer (some ⟨w.heap.size,0,none⟩),_,_,w.alloc (.cells u.cells t),?_,E,W',?_,by simpa using H⟩
  ·simp [Instr.box,newVar,newRow]
  ·simp only [VRel];exact ⟨_,hm,rfl⟩
def PRel (c:Ctx) (w:World):List (Nat×AV)->List (Nat×Value)->Prop
 | [],vs=>vs=[]
 | (i,a)::as,vs=>∃ v vs',vs=(i,v)::vs'/\VRel c w a v/\PRel c w as vs'
theorem foldl_set (vs:List Value):∀ (cells:Array Value) (off j:Nat),off+j+vs.length<=cells.size->
  (vs.zipIdx j).foldl (λ(cs:Array Value) x=>cs.setIfInBounds (off+x.2) x.1) cells=(cells.toList.take (off+j)++vs++cells.toList.drop (off+j+vs.length)).toArray:=by
 induction vs with
 | nil=>intro cells off j hj;simp
 | cons v vs ih=>
  intro cells off j hj;simp only [List.length_cons] at hj;simp only [List.zipIdx_cons,List.foldl_cons];rw [ih _ off (j+1) (by simp;omega)]
  congr 1
  simp only [Array.toList_setIfInBounds];apply List.ext_getElem?;intro k;simp only [List.getElem?_append,List.length_take,List.length_append,List.length_set,List.length_cons,List.getElem?_take,List.getElem?_drop,List.getElem?_set,Array.length_toList];have e1:min (off+(j+1)) cells.size=off+j+1:=by omega
  have e2:min (off+j) cells.size=off+j:=by omega
  rw [e1,e2];by_cases h1:k<off+j
  ·simp [h1,show k<off+j+1+vs.length by omega,show k<off+j+1 by omega,show k<off+(j+1) by omega,show ¬ off+j=k by omega,show k<off+j+(vs.length+1) by omega]
  ·by_cases h2:k=off+j
   ·subst h2;simp [show off+j<off+j+1+vs.length by omega,show off+j<off+(j+1) by omega,show off+j<cells.size by omega]
   ·by_cases h3:k<off+j+1+vs.length
    ·have h4:¬ k<off+j+1:=by omega
     simp only [h3,h4,h1,if_true,if_false,show k<off+j+(vs.length+1) by omega];obtain ⟨q,rfl⟩:∃ q,k=off+j+1+q:=⟨k-(off+j+1),by omega⟩;rw [show off+j+1+q-(off+j)=q+1 by omega,List.getElem?_cons_succ]
     congr 1;omega
    ·have h4:¬ k<off+j+(vs.length+1):=by omega
     simp only [h3,h4,if_false];rw [if_neg (by omega)]
     congr 1;omega
theorem zk5 {pl:Nat->Option (Nat×Nat)}:∀ (parts:List (Nat×AV)) (vs:List (Nat×Value)) (cs:List AV) (C:Array Value) (r:List AV),PRel c w parts vs->LRel c w cs C.toList->(∀ u∈C.toList,u.oneCell'=true)->zez pl cs parts=some r->
  ∃ R,Instr.fill pl C vs=some R/\LRel c w r R.toList/\(∀ u∈R.toList,u.oneCell'=true):=by
 intro parts
 induction parts with
 | nil=>
  intro vs cs C r hp hc h1 hf;simp only [PRel] at hp;subst hp;simp only [zez,Option.some.injEq] at hf;subst hf;exact ⟨C,rfl,hc,h1⟩
 | cons p parts ih=>
  obtain ⟨i,a⟩:=p;intro vs cs C r hp hc h1 hf;simp only [PRel] at hp;obtain ⟨v,vs',rfl,hv,hp⟩:=hp;simp only [zez] at hf
  cases hpl:pl i with
  | none=>simp [hpl] at hf
  | some q=>
   obtain ⟨off,size⟩:=q;simp only [hpl] at hf;split at hf <;> (try (cases hf;done));rename_i hh;obtain ⟨g1,g2,g3⟩:=hh;obtain ⟨k1,k2⟩:=AV.zhj g1 hv;have hl:=k1.length;have hcl:=hc.length;have hvs:v.cells.size=size:=by rw [<-g2,<-hl];simp
   have hfold:=foldl_set v.cells.toList C off 0 (by simp at hcl ⊢;omega);have hz:(v.cells.zipIdx.foldl (λcs (x:Value×Nat)=>cs.setIfInBounds (off+x.2) x.1) C)=(C.toList.take off++v.cells.toList++C.toList.drop (off+size)).toArray:=by
    rw [<-Array.foldl_toList,Array.toList_zipIdx];simpa [hvs] using hfold
   obtain ⟨R,r1,r2,r3⟩:=ih vs' _ (C.toList.take off++v.cells.toList++C.toList.drop (off+size)).toArray r hp (by simpa using ((LRel.take off hc).append k1).append (LRel.drop (off+size) hc)) (by
    intro u hu;simp only [List.toList_toArray,List.mem_append] at hu;rcases hu with (hu | hu) | hu
    ·exact h1 u (List.mem_of_mem_take hu)
    ·exact k2 u hu
    ·exact h1 u (List.mem_of_mem_drop hu)) hf
   refine ⟨R,?_,r2,r3⟩;simp only [Instr.fill,hpl];rw [if_neg]
   ·have e:(v.cells.zipIdx.foldl (λcs x=>match x with | (c,j)=>cs.setIfInBounds (off+j) c) C)=(v.cells.zipIdx.foldl (λcs (x:Value×Nat)=>cs.setIfInBounds (off+x.2) x.1) C):=rfl;rw [e,hz];exact r1
   ·simp at hcl;have g4:¬ C.size<off+v.cells.size:=by omega
    simp [hvs,g4];omega
theorem zr8 (W:WRel B c h w) {t:TypeId} {pl:List (Nat×Nat)} {zs:List AV} {parts:List (Nat×AV)} {vs:Array (Nat×Value)} {K:AV->z00->Prop} (hp:zow P t=some pl) (hz:zjf P t=some zs) (hv:PRel c w parts vs.toList) (H:z4b pl zs parts (λv=>K v h)):Does P B c w (Instr.build t vs) K:=by
 obtain ⟨i,z,hi,hzz,h1,rfl⟩:=zhb hz;unfold zow at hp
 cases hd:P.underlying t with
 | none=>simp [hd] at hp
 | some d=>
  cases d <;> simp only [hd] at hp <;> (try (cases hp;done));rename_i fs;unfold z4b at H;split at H
  ·rename_i cs hcs;obtain ⟨R,r1,r2,r3⟩:=zk5 parts vs.toList _ z.cells cs hv (z9c c w _) h1 hcs;refine Does.z3e W (run_build w t vs R ?_) (by simp only [VRel];exact ⟨R,rfl,r2,r3⟩) H;simp only [Program.built,hi,hd,hzz,hp];simpa using r1
  ·exact H.elim
end
end
section
open Go.RowKit
section
variable {P:Program} {B:Nat} {c:Ctx} {h:z00} {w:World}
theorem zgz (z:Array Value) (k:Nat) (hk:z.size=k) (hp:0<k):∀ n,(List.range (n*k)).map (λi=>z[i%k]!)=(List.replicate n z.toList).flatten
 | 0=>by simp
 | n+1=>by
  rw [Nat.add_mul,Nat.one_mul,List.range_add,List.map_append,zgz z k hk hp n,List.replicate_succ',List.flatten_append]
  congr 1
  simp only [List.flatten_cons,List.flatten_nil,List.append_nil,List.map_map];apply List.ext_getElem?;intro j;by_cases hj:j<k
  ·simp [hj,Nat.mod_eq_of_lt hj,hk]
  ·simp [hj,hk]
theorem zkr (z:Array Value) (n:Nat) (hp:0<z.size):(madeCells z (n*z.size)).toList=(List.replicate n z.toList).flatten:=by
 rw [<-zgz z z.size rfl hp n];simp only [madeCells,Array.toList_map,Array.toList_range]
theorem LRel.replicate {as:List AV} {vs:List Value} (hr:LRel c w as vs):∀ n,LRel c w (List.replicate n as).flatten (List.replicate n vs).flatten
 | 0=>by simp [LRel]
 | n+1=>by
  simp only [List.replicate_succ,List.flatten_cons];exact hr.append (LRel.replicate hr n)
theorem zgk {vs:List Value} (h1:∀ u∈vs,u.oneCell'=true) (n:Nat):∀ u∈(List.replicate n vs).flatten,u.oneCell'=true:=by
 intro u hu;obtain ⟨l,hl,hu⟩:=List.mem_flatten.1 hu;rw [List.eq_of_mem_replicate hl] at hu;exact h1 u hu
theorem zk9 {sz:Nat} {cs:List AV} (hc:cs.length=sz):∀ (es:List (List AV)) (i:Nat),(∀ e∈es,e.length=sz)->i<es.length->(es.set i cs).flatten=es.flatten.take (i*sz)++cs++es.flatten.drop (i*sz+sz)
 | [],i,_,hi=>by simp at hi
 | e::es,0,hl,_=>by
  have he:=hl e (by simp);simp [List.drop_append,<-he]
 | e::es,i+1,hl,hi=>by
  have he:=hl e (by simp);simp only [List.set_cons_succ,List.flatten_cons];rw [zk9 hc es i (λx hx=>hl x (by simp [hx])) (by simpa using hi)];rw [List.take_append,List.drop_append,he];rw [show (i+1)*sz=i*sz+sz by rw [Nat.add_mul];omega];rw [List.take_of_length_le (l:=e) (by omega),List.drop_eq_nil_of_le (as:=e) (by omega)];rw [show i*sz+sz-sz=i*sz by omega,show i*sz+sz+sz-sz=i*sz+sz by omega];simp
theorem zf0 {sz:Nat} {es:List (List AV)} (hl:∀ e∈es,e.length=sz):es.flatten.length=es.length*sz:=by
 induction es with
 | nil=>simp
 | cons e es ih=>simp only [List.flatten_cons,List.length_append,List.length_cons,hl e (by simp),ih (λx hx=>hl x (by simp [hx])),Nat.add_mul];omega
theorem zsw {sz:Nat}:∀ (parts:List (Nat×AV)) (es es':List (List AV)),(∀ e∈es,e.length=sz)->zat sz es parts=some es'->zez (λi=>some (i*sz,sz)) es.flatten parts=some es'.flatten/\(∀ e∈es',e.length=sz)/\es'.length=es.length:=by
 intro parts
 induction parts with
 | nil=>intro es es' hl hf;simp only [zat,Option.some.injEq] at hf;subst hf;exact ⟨rfl,hl,rfl⟩
 | cons p parts ih=>
  obtain ⟨i,a⟩:=p;intro es es' hl hf;simp only [zat] at hf;split at hf <;> (try (cases hf;done));rename_i hh;obtain ⟨g1,g2,g3⟩:=hh;obtain ⟨k1,k2,k3⟩:=ih (es.set i a.cells) es' (by
   intro e he;rcases List.mem_or_eq_of_mem_set he with he | rfl
   ·exact hl e he
   ·exact g2) hf
  refine ⟨?_,k2,by simpa using k3⟩;simp only [zez];rw [if_pos]
  ·rw [zk9 g2 es i hl g3] at k1;exact k1
  ·refine ⟨g1,g2,?_⟩;rw [zf0 hl];have:(i+1)*sz<=es.length*sz:=Nat.mul_le_mul_right _ (by omega);rw [Nat.add_mul] at this;omega
theorem zm6 (W:WRel B c h w) {im:Bool} {t:TypeId} {T:SlT} {zs:List AV} {len:Nat} {parts:List (Nat×AV)} {vs:Array (Nat×Value)} {K:AV->z00->Prop} (hT:slT P t=some T) (hz:zjf P T.e=some zs) (hp:len=0->vs.toList=[]) (hv:PRel c w parts vs.toList)
  (H:z10 im T zs len parts h K):Does P B c w (Instr.buildSlice t len vs) K:=by
 obtain ⟨i,z,ht,hi,hzz,hzs,hpos,hsz,hby⟩:=slT_inv hT;obtain ⟨i',z',hi',hzz',h1,rfl⟩:=zhb hz;rw [hi] at hi';cases hi';rw [hzz] at hzz';cases hzz'
 cases len with
 | zero=>
  simp only [z10] at H;have hvs:vs.toList=[]:=hp rfl;refine ⟨c,.slice (some ⟨w.heap.size,0,none⟩) 0 0,.eml,h,w.alloc (.cells #[] T.e),?_,Ext.alloc W _,W.alloc _,by simp only [VRel];exact ⟨_,rfl⟩,H⟩;have e0:(Array.range 0)=#[]:=by simp [Array.range]
  simp [Instr.buildSlice,run_underlying ht,sizeOf,typeInfo,hi,hvs,Instr.fill,newRow,e0]
 | succ n=>
  simp only [z10] at H;obtain ⟨hbig,hzl,H⟩:=H;split at H
  ·rename_i es hes;have hzl':z.cells.size=T.sz:=by simpa using hzl
   obtain ⟨f1,f2,f3⟩:=zsw parts _ es (by intro e he;rw [List.eq_of_mem_replicate he];exact hzl) hes;have hC0:(madeCells z.cells ((n+1)*T.sz)).toList=(List.replicate (n+1) z.cells.toList).flatten:=by
    rw [<-hzl',zkr _ _ (by omega)]
   obtain ⟨R,r1,r2,r3⟩:=zk5 parts vs.toList _ (madeCells z.cells ((n+1)*T.sz)) _ hv (by rw [hC0];exact LRel.replicate (z9c c w _) (n+1)) (by rw [hC0];exact zgk h1 _) f1;have hRs:R.size=(n+1)*T.sz:=by
    have:=r2.length;rw [zf0 f2,f3,List.length_replicate] at this;simpa using this
   have hesl:es.length=n+1:=by rw [f3,List.length_replicate]
   have hrun:(Instr.buildSlice t (n+1) vs).run P w=.ok (.slice (some ⟨w.heap.size,0,none⟩) (n+1) (n+1)) (w.alloc (.cells R T.e)):=by
    have hne:¬ ((n+1)*T.sz=0):=by
     have:0<(n+1)*T.sz:=Nat.mul_pos (by omega) (by omega);omega
    have hnb:¬ ((n+1)*T.sz>2 ^ 24):=by omega
    have hf:Instr.fill (λi=>some (i*T.sz,T.sz)) ((Array.range ((n+1)*T.sz)).map (z.cells[·%z.cells.size]!)) vs.toList=some R:=r1;unfold Instr.buildSlice;simp only [Sem.run_bind,run_underlying ht,Result.andThen_ok,run_sizeOf' (show szK P T.e=some T.sz by simp [szK,hi,hsz])];rw [if_neg hnb,if_neg hne];simp only [Sem.run_bind,zeroValue,typeInfo,run_program,Result.andThen_ok,hi,Sem.run_pure,hzz,hf];simp [newRow]
   cases im with
   | true=>
    obtain ⟨c',E,W',hM⟩:=W.newIm R T.e es.flatten r2 r3;refine ⟨c',_,_,_,_,hrun,E,W',?_,by simpa using H⟩;simp only [VRel];refine ⟨some ⟨w.heap.size,0,none⟩,n+1,by rw [hesl],by omega,?_,λ_=>⟨_,_,rfl,ERel.ofMRel f2 hM⟩⟩;rw [hesl];have:(n+1)*1<=(n+1)*T.sz:=Nat.mul_le_mul_left _ (by omega);omega
   | false=>
    obtain ⟨c',E,W',hm⟩:=W.newRow R T.e es.flatten r2 r3;refine ⟨c',_,_,_,_,hrun,E,W',?_,by simpa using H⟩;simp only [VRel];refine ⟨_,n+1,T.e,hm,rfl,Nat.le_refl _,?_,⟨R,heap_alloc_new w _,by omega⟩⟩;have:(n+1)*1<=(n+1)*T.sz:=Nat.mul_le_mul_left _ (by omega);simp only [maxLen];omega
  ·exact H.elim
theorem ztu (n:Nat) (z:List AV):repC n z=(List.replicate n z).flatten:=by
 unfold repC;split
 ·rename_i a
  induction n with
  | zero=>rfl
  | succ n ih=>simp [List.replicate_succ,<-ih]
 ·rfl
theorem zor (W:WRel B c h w) {t:TypeId} {T:SlT} {zs:List AV} {l k:AV} {u v:Value} {K:AV->z00->Prop} (hT:slT P t=some T) (hz:zjf P T.e=some zs) (hl:VRel c w l u) (hk:VRel c w k v)
  (H:z6r T zs l k h K):Does P B c w (Instr.makeSlice t u v) K:=by
 obtain ⟨i,z,ht,hi,hzz,hzs,hpos,hsz,hby⟩:=slT_inv hT;obtain ⟨i',z',hi',hzz',h1,rfl⟩:=zhb hz;rw [hi] at hi';cases hi';rw [hzz] at hzz';cases hzz';unfold z6r at H;split at H
 ·rename_i kl l kc k;obtain ⟨h0,hlk,h63,hbb,hzl,H⟩:=H;have:=hl.z1r;subst this;have:=hk.z1r;subst this;have hr:=run_make (P:=P) w t T.e i z ht hi hzz kl kc l k h0 hlk (by rw [hby];exact hbb) h63;have hzl':z.cells.size=T.sz:=by simpa using hzl
  have hC:(madeCells z.cells (k.toNat*T.sz)).toList=(List.replicate k.toNat z.cells.toList).flatten:=by rw [<-hzl',zkr _ _ (by omega)]
  rw [hsz] at hr;have hlen:(repC l.toNat (z.cells.toList.map zgi)).length=l.toNat*T.sz:=by
   rw [ztu,zf0 (sz:=T.sz) (by intro e he;rw [List.eq_of_mem_replicate he];exact hzl),List.length_replicate]
  have htk:(madeCells z.cells (k.toNat*T.sz)).toList.take (l.toNat*T.sz)=(List.replicate l.toNat z.cells.toList).flatten:=by
   rw [hC,show k.toNat=l.toNat+(k.toNat-l.toNat) by omega,<-List.replicate_append_replicate,List.flatten_append];have:l.toNat*T.sz=(List.replicate l.toNat z.cells.toList).flatten.length:=by
    simp [List.length_flatten,hzl']
   rw [this];exact List.take_left
  have W1:=W.alloc (.cells (madeCells z.cells (k.toNat*T.sz)) T.e);have E1:=Ext.alloc W (.cells (madeCells z.cells (k.toNat*T.sz)) T.e);have hle:l.toNat*T.sz<=k.toNat*T.sz:=Nat.mul_le_mul_right _ (by omega);obtain ⟨E2,W2⟩:=W1.name (b:=w.heap.size) (.row T.e (repC l.toNat (z.cells.toList.map zgi))) W.base (by simp) (λi hi=>absurd (W.mlt i _ hi).2.2 (by omega))
   ⟨madeCells z.cells (k.toNat*T.sz),heap_alloc_new w _,by rw [hlen,size_madeCells];exact hle,by rw [hlen,htk,ztu];exact LRel.replicate (z9c _ _ _) _,by rw [hlen,htk];exact zgk h1 _,λo ho=>absurd (W.im _ _ ho) (by omega)⟩
  refine ⟨_,_,_,_,_,hr,E1.trans E2,W2,?_,H⟩;simp only [VRel];refine ⟨w.heap.size,k.toNat,T.e,by simp [Ctx.zb7],rfl,by omega,by simp only [maxLen];omega,⟨_,heap_alloc_new w _,by rw [size_madeCells];omega⟩⟩
 ·exact H.elim
theorem zfl:∀ (es:List (List AV)) (s:List UInt8) (news:List Value),bytesOf es=some s->LRel c w es.flatten news->∃ ns:List Int,news=ns.map (Value.int .u8)/\s=ns.map (λn=>UInt8.ofNat n.toNat)/\es.length=ns.length
 | [],s,news,hb,hr=>by
  simp only [bytesOf,Option.some.injEq] at hb;subst hb;simp only [List.flatten_nil,LRel] at hr;subst hr;exact ⟨[],rfl,rfl,rfl⟩
 | e::es,s,news,hb,hr=>by
  unfold bytesOf at hb;split at hb
  ·rename_i h0;cases h0
  ·rename_i n es' heq;cases heq;obtain ⟨s',hs',rfl⟩:=Option.map_eq_some_iff.1 hb;simp only [List.flatten_cons,List.cons_append,List.nil_append,LRel] at hr;obtain ⟨v,vs',rfl,hv,hr⟩:=hr;obtain ⟨ns,rfl,rfl,hl⟩:=zfl es s' vs' hs' hr;have:=hv.z1r;subst this;exact ⟨n::ns,by simp,by simp,by simp [hl]⟩
  ·cases hb
theorem zmn {sz:Nat} {x:AV} {u:Value} {es:List (List AV)} (hx:VRel c w x u) (hs:∀ s,x≠.str s) (hse:z1v sz x h=some es):(∃ k,u=.slice none 0 k/\es=[])\/∃ a k,u=.slice (some a) es.length k:=by
 unfold z1v at hse;split at hse
 ·split at hse <;> (try (cases hse;done));cases hse;simp only [VRel] at hx;obtain ⟨a,cap,rfl,_,_,hne⟩:=hx
  cases a with
  | some a=>exact Or.inr ⟨_,_,rfl⟩
  | none=>
   cases es with
   | nil=>exact Or.inl ⟨cap,rfl,rfl⟩
   | cons e es=>obtain ⟨b,o,h,_⟩:=hne (by simp);cases h
 ·split at hse <;> (try (cases hse;done));cases hse;simp only [VRel] at hx;obtain ⟨b,cap,ty,_,rfl,_⟩:=hx;exact Or.inr ⟨_,_,rfl⟩
 ·cases hse;simp only [VRel] at hx;subst hx;exact Or.inl ⟨0,rfl,rfl⟩
 ·cases hse;simp only [VRel] at hx;obtain ⟨a,rfl⟩:=hx;exact Or.inr ⟨a,0,rfl⟩
 ·exact absurd rfl (hs _)
 ·split at hse <;> (try (cases hse;done));split at hse <;> (try (cases hse;done));cases hse;simp only [VRel] at hx;obtain ⟨b,cap,ty,_,rfl,_⟩:=hx;exact Or.inr ⟨⟨b,_,none⟩,cap,by rw [z7u]⟩
 ·cases hse
theorem ztm (W:WRel B c h w) {src dst:TypeId} {ck:CvK} {x:AV} {u:Value} {K:AV->z00->Prop} (hk:convK P src dst=some ck) (hx:VRel c w x u) (H:z9e ck x h (λv=>K v h)):Does P B c w (convert src dst u) K:=by
 unfold convK at hk;split at hk
 ·rename_i k0 k hs hd;cases hk;unfold z9e at H;cases x <;> simp only at H <;> (try (exact H.elim));have:=hx.z1r;subst this;exact Does.z3e W (by simp [convert,run_underlying hs,run_underlying hd,Conv.intToInt];rfl) (by simp [VRel]) H
 ·rename_i k0 k hs hd;cases hk;unfold z9e at H;cases x <;> simp only at H <;> (try (exact H.elim));have:=hx.z1r;subst this;exact Does.z3e W (by simp [convert,run_underlying hs,run_underlying hd,Conv.intToFloat];rfl) (by simp [VRel]) H
 ·rename_i s0 k hs hd;cases hk;unfold z9e at H;cases x <;> simp only at H <;> (try (exact H.elim));rename_i s b;simp only [VRel] at hx;subst hx
  cases hf:floatToIntVal s b k with
  | none=>simp [hf] at H
  | some n=>
   simp only [hf] at H;exact Does.z3e W (run_convert_float_int w src dst s k b n (by simp [hs]) hd hf) (by simp [VRel]) H
 ·rename_i hs hd;cases hk;unfold z9e at H;cases x <;> simp only at H <;> (try (exact H.elim));have:=hx.z6h;subst this;exact Does.z3e W (by simp [convert,run_underlying hs,run_underlying hd];rfl) (by simp [VRel]) H
 ·rename_i e hs hd;split at hk
  ·rename_i he;cases hk;have hnstr:∀ s,x≠.str s:=by rintro s rfl;simp [z9e] at H
   have H':match z1v 1 x h with | some es=>(match bytesOf es with | some s=>K (.str s) h | none=>False) | none=>False:=by
    cases x <;> first | exact H | exact absurd rfl (hnstr _)
   cases hse:z1v 1 x h with
   | none=>simp [hse] at H'
   | some es=>
    simp only [hse] at H'
    cases hby:bytesOf es with
    | none=>simp [hby] at H'
    | some s=>
     simp only [hby] at H';obtain ⟨news,S,hr,_⟩:=zeo (P:=P) W (u:=src) (by simp [srcT,hs]) hx hse;obtain ⟨ns,hn1,hn2,hn3⟩:=zfl es s news hby hr;rcases zmn hx hnstr hse with ⟨k,rfl,rfl⟩ | ⟨a,k,rfl⟩
     ·simp only [bytesOf,Option.some.injEq] at hby;subst hby;exact Does.z3e W (u:=.string ByteArray.empty) (by simp [convert,run_underlying hs,run_underlying hd,run_underlying he,Conv.bytesToString]) (by simp [VRel];rfl) H'
     ·have hc:=S.cells w (λ_=>rfl);simp only [Builtin.firstCells,Nat.mul_one] at hc;rw [hn1] at hc;have hb:=run_bytesToString (P:=P) w a es.length k ns hc;refine Does.z3e W (u:=.string ⟨s.toArray⟩) ?_ (by simp [VRel]) H';simp only [convert,Sem.run_bind,run_underlying hs,run_underlying hd,Result.andThen_ok,run_underlying he,hb];rw [foldl_push_bytes,hn2];simp [ByteArray.empty,ByteArray.emptyWithCapacity]
      rfl
  ·cases hk
 ·cases hk
theorem unA_sound {op:UnOp} {x:AV} {u:Value} {r:AV} (hx:VRel c w x u) (hr:unA op x=some r):∃ z,(Op.unary op u).run P w=.ok z w/\VRel c w r z:=by
 unfold unA at hr;split at hr <;> (try (cases hr;done)) <;> cases hr
 ·have:=hx.z1r;subst this;exact ⟨_,by simp [Op.unary,Op.intArith];rfl,by simp [VRel]⟩
 ·have:=hx.z1r;subst this;exact ⟨_,by simp [Op.unary,Op.intBits];rfl,by simp [VRel,iXor]⟩
 ·have:=hx.z7o;subst this;exact ⟨_,by simp [Op.unary];rfl,by simp [VRel]⟩
 ·simp only [VRel] at hx;obtain ⟨b,rfl⟩:=hx;exact ⟨_,by simp [Op.unary];rfl,by simp [VRel]⟩
theorem maxA_sound:∀ (as:List AV) (vs:List Value) (r:AV) (ts:Array TypeId) (ty:TypeId),LRel c w as vs->maxA as=some r->∃ z,(Builtin.max_ ts ty vs.toArray).run P w=.ok z w/\VRel c w r z:=by
 intro as
 induction hn:as.length using Nat.strongRecOn generalizing as with
 | _ n ih=>
  intro vs r ts ty hr hm;unfold maxA at hm;split at hm
  ·cases hm;simp only [LRel] at hr;obtain ⟨v,vs',rfl,hv,rfl⟩:=hr;have:=hv.z1r;subst this;exact ⟨_,by simp [Builtin.max_];rfl,by simp [VRel]⟩
  ·rename_i k x k' y rest;simp only [LRel] at hr;obtain ⟨v,vs',rfl,hv,v2,vs2,rfl,hv2,hrest⟩:=hr;have:=hv.z1r;subst this;have:=hv2.z1r;subst this;obtain ⟨z,h1,h2⟩:=ih _ (by subst hn;simp) (.int k (if y>x then y else x)::rest) rfl (.int k (if y>x then y else x)::vs2) r ts ty (by simp only [LRel];exact ⟨_,_,rfl,by simp [VRel],hrest⟩) hm;refine ⟨z,?_,h2⟩;rw [<-h1];simp [Builtin.max_,Builtin.max2]
  ·cases hm
theorem minA_sound:∀ (as:List AV) (vs:List Value) (r:AV) (ts:Array TypeId) (ty:TypeId),LRel c w as vs->minA as=some r->∃ z,(Builtin.min_ ts ty vs.toArray).run P w=.ok z w/\VRel c w r z:=by
 intro as
 induction hn:as.length using Nat.strongRecOn generalizing as with
 | _ n ih=>
  intro vs r ts ty hr hm;unfold minA at hm;split at hm
  ·cases hm;simp only [LRel] at hr;obtain ⟨v,vs',rfl,hv,rfl⟩:=hr;have:=hv.z1r;subst this;exact ⟨_,by simp [Builtin.min_];rfl,by simp [VRel]⟩
  ·rename_i k x k' y rest;simp only [LRel] at hr;obtain ⟨v,vs',rfl,hv,v2,vs2,rfl,hv2,hrest⟩:=hr;have:=hv.z1r;subst this;have:=hv2.z1r;subst this;obtain ⟨z,h1,h2⟩:=ih _ (by subst hn;simp) (.int k (if y<x then y else x)::rest) rfl (.int k (if y<x then y else x)::vs2) r ts ty (by simp only [LRel];exact ⟨_,_,rfl,by simp [VRel],hrest⟩) hm;refine ⟨z,?_,h2⟩;rw [<-h1];simp [Builtin.min_,Builtin.min2]
  ·cases hm
theorem zm8 (W:WRel B c h w) {i:Nat} {x:AV} {u:Value} {K:AV->z00->Prop} (hx:VRel c w x u) (H:z6q i x (λv=>K v h)):Does P B c w (Instr.extract u i) K:=by
 unfold z6q at H;split at H
 ·rename_i vs;simp only [VRel] at hx;obtain ⟨us,rfl,hr⟩:=hx;split at H
  ·rename_i v hv;obtain ⟨z,hz,hrz⟩:=hr.get hv;have hz':us[i]?=some z:=by simpa using hz
   exact Does.z3e W (by simp [Instr.extract,hz']) hrz H
  ·exact H.elim
 ·exact H.elim
end
end
section
open Go.RowKit
inductive KeyK | int | str | flat (ks:List LK)
def keyK (P:Program) (t:TypeId):Option KeyK:=
 match P.underlying t with
 | some (.int _)=>some .int
 | some .string=>some .str
 | some (.struct fs)=>if P.stoodInHeld t=false/\P.eqGuardType P.depth t=false then (z2l P fs.toList 0).map .flat else none
 | _=>none
def zcv:KeyK->AV->AV->Option Bool
 | .int,.int k a,.int k' b=>if k=k' then some (a == b) else none
 | .str,.str a,.str b=>some (a == b)
 | .flat ks,.agg xs,.agg ys=>z1u ks xs ys
 | _,_,_=>none
def isKey:KeyK->AV->Bool
 | .int,.int _ _=>true
 | .str,.str _=>true
 | .flat ks,.agg xs=>(z1u ks xs xs).isSome
 | _,_=>false
def z7w (kk:KeyK) (x:AV):List AV->Nat->Option (Option Nat)
 | [],_=>some none
 | y::ys,i=>match zcv kk x y with
  | some true=>some (some i)
  | some false=>z7w kk x ys (i+1)
  | none=>none
def mapK (P:Program) (t:TypeId):Option (KeyK×AV):=
 match P.underlying t with
 | some (.map kt et)=>match keyK P kt,(P.info? et).bind (·.zero) with
  | some kk,some (.int k n)=>some (kk,.int k n)
  | _,_=>none
 | _=>none
def zgm (h:z00) (K:AV->z00->Prop):Prop:=K (.mapv h.next) (h.push (.map [] []))
def zop (kk:KeyK) (z m key:AV) (h:z00) (K:AV->Prop):Prop:=
 match m with
 | .mapv id=>match h.objs id with
  | some (.map ks vs)=>isKey kk key=true/\match z7w kk key ks 0 with
   | some (some i)=>K ((vs[i]?).getD .und)
   | some none=>K z
   | none=>False
  | _=>False
 | _=>False
def zos (kk:KeyK) (m key v:AV) (h:z00) (K:z00->Prop):Prop:=
 match m with
 | .mapv id=>match h.objs id with
  | some (.map ks vs)=>isKey kk key=true/\match z7w kk key ks 0 with
   | some (some i)=>K (h.put id (.map ks (vs.set i v)))
   | some none=>K (h.put id (.map (ks++[key]) (vs++[v])))
   | none=>False
  | _=>False
 | _=>False
def zgn (kk:KeyK) (z m key:AV) (h:z00) (K:AV->z00->Prop):Prop:=
 match m with
 | .mapv id=>match h.objs id with
  | some (.map ks vs)=>isKey kk key=true/\match z7w kk key ks 0 with
   | some (some i)=>K (.tup [(vs[i]?).getD .und,.int .i64 i]) h
   | some none=>K (.tup [z,.int .i64 ks.length]) (h.put id (.map (ks++[key]) (vs++[z])))
   | none=>False
  | _=>False
 | _=>False
def z3q (m stamp v:AV) (h:z00) (K:z00->Prop):Prop:=
 match m,stamp with
 | .mapv id,.int _ n=>match h.objs id with
  | some (.map ks vs)=>0<=n/\n.toNat<vs.length/\K (h.put id (.map ks (vs.set n.toNat v)))
  | _=>False
 | _,_=>False
def z5x (kz:Option (KeyK×AV)) (m key:AV) (h:z00) (K:AV->z00->Prop):Prop:=match kz with | some kz=>zgn kz.1 kz.2 m key h K | none=>False
def z3k (kz:Option (KeyK×AV)) (m key:AV) (h:z00) (K:AV->Prop):Prop:=match kz with | some kz=>zop kz.1 kz.2 m key h K | none=>False
def zbr (kz:Option (KeyK×AV)) (m key v:AV) (h:z00) (K:z00->Prop):Prop:=match kz with | some kz=>zos kz.1 m key v h K | none=>False
theorem put_self' {h:z00} {id:Nat} {o:AObj} (ho:h.objs id=some o):h.put id o=h:=by
 cases h with
 | mk objs next=>
  simp only [z00.put,z00.mk.injEq,and_true];funext j;by_cases e:j=id
  ·subst e;simpa using ho.symm
  ·simp [e]
section
variable {P:Program} {B:Nat} {c:Ctx} {h:z00} {w:World}
theorem zqw {t:TypeId} {ks:List LK} (hk:keyK P t=some (.flat ks)):∃ fs,P.underlying t=some (.struct fs)/\P.stoodInHeld t=false/\P.eqGuardType P.depth t=false/\z2l P fs.toList 0=some ks:=by
 unfold keyK at hk
 cases hu:P.underlying t with
 | none=>simp [hu] at hk
 | some d=>
  cases d <;> simp only [hu] at hk <;> (try (cases hk;done));rename_i fs;split at hk
  ·rename_i h1;obtain ⟨a,h2,h3⟩:=Option.map_eq_some_iff.1 hk;cases h3;exact ⟨fs,rfl,h1.1,h1.2,h2⟩
  ·cases hk
theorem keyK_int {t:TypeId} (hk:keyK P t=some .int):∃ q,P.underlying t=some (.int q):=by
 unfold keyK at hk
 cases hu:P.underlying t with
 | none=>simp [hu] at hk
 | some d=>
  cases d <;> simp only [hu] at hk <;> (try (cases hk;done))
  ·exact ⟨_,rfl⟩
  ·split at hk
   ·obtain ⟨a,h2,h3⟩:=Option.map_eq_some_iff.1 hk;cases h3
   ·cases hk
theorem keyK_str {t:TypeId} (hk:keyK P t=some .str):P.underlying t=some .string:=by
 unfold keyK at hk
 cases hu:P.underlying t with
 | none=>simp [hu] at hk
 | some d=>
  cases d <;> simp only [hu] at hk <;> (try (cases hk;done))
  ·rfl
  ·split at hk
   ·obtain ⟨a,h2,h3⟩:=Option.map_eq_some_iff.1 hk;cases h3
   ·cases hk
theorem z9u (n:Nat):∀ (ks:List LK) (xs ys:List AV) (us vs:List Value),LRel c w xs us->LRel c w ys vs->z1u ks xs ys=some true->us=vs/\((us.zip vs).all λ(x,y)=>Instr.sameBits (n+1) x y)=true
 | [],xs,ys,us,vs,hx,hy,he=>by
  cases xs <;> cases ys <;> simp only [z1u] at he <;> (try (cases he;done));simp only [LRel] at hx hy;subst hx hy;exact ⟨rfl,rfl⟩
 | k::ks,xs,ys,us,vs,hx,hy,he=>by
  cases xs with
  | nil=>cases k <;> simp [z1u] at he
  | cons x xs=>
   cases ys with
   | nil=>cases k <;> cases x <;> simp [z1u] at he
   | cons y ys=>
    simp only [LRel] at hx hy;obtain ⟨u,us',rfl,hu,hx⟩:=hx;obtain ⟨v,vs',rfl,hv,hy⟩:=hy;cases k <;> cases x <;> cases y <;> simp only [z1u] at he <;> (try (cases he;done))
    ·split at he
     ·rename_i e;subst e;obtain ⟨r,hr,hb⟩:=Option.map_eq_some_iff.1 he;simp only [Bool.and_eq_true,beq_iff_eq] at hb;obtain ⟨rfl,rfl⟩:=hb;obtain ⟨e1,e2⟩:=z9u n ks xs ys us' vs' hx hy hr;rw [hu.z1r,hv.z1r,e1];rw [e1] at e2;exact ⟨rfl,by simp only [List.zip_cons_cons,List.all_cons,e2,Bool.and_true];simp [Instr.sameBits]⟩
     ·cases he
    ·obtain ⟨r,hr,hb⟩:=Option.map_eq_some_iff.1 he;simp only [Bool.and_eq_true,beq_iff_eq] at hb;obtain ⟨rfl,rfl⟩:=hb;obtain ⟨e1,e2⟩:=z9u n ks xs ys us' vs' hx hy hr;rw [hu.z7o,hv.z7o,e1];rw [e1] at e2;exact ⟨rfl,by simp only [List.zip_cons_cons,List.all_cons,e2,Bool.and_true];simp [Instr.sameBits]⟩
    ·obtain ⟨r,hr,hb⟩:=Option.map_eq_some_iff.1 he;simp only [Bool.and_eq_true,beq_iff_eq] at hb;obtain ⟨rfl,rfl⟩:=hb;obtain ⟨e1,e2⟩:=z9u n ks xs ys us' vs' hx hy hr;rw [hu.z6h,hv.z6h,e1];rw [e1] at e2;exact ⟨rfl,by simp only [List.zip_cons_cons,List.all_cons,e2,Bool.and_true];simp [Instr.sameBits,beq_toListBytes]⟩
theorem zhs {kk:KeyK} {x y:AV} {u v:Value} (hx:VRel c w x u) (hy:VRel c w y v) (he:zcv kk x y=some true):u=v/\Instr.sameBits 10000 u v=true:=by
 cases kk <;> cases x <;> cases y <;> simp only [zcv] at he <;> (try (cases he;done))
 ·split at he
  ·rename_i e;subst e;simp only [Option.some.injEq,beq_iff_eq] at he;subst he;rw [hx.z1r,hy.z1r];exact ⟨rfl,by simp [Instr.sameBits]⟩
  ·cases he
 ·simp only [Option.some.injEq,beq_iff_eq] at he;subst he;rw [hx.z6h,hy.z6h];exact ⟨rfl,by simp [Instr.sameBits,beq_toListBytes]⟩
 ·simp only [VRel] at hx hy;obtain ⟨us,rfl,hu,-⟩:=hx;obtain ⟨vs,rfl,hv,-⟩:=hy;obtain ⟨e1,e2⟩:=z9u 9998 _ _ _ _ _ hu hv he;have e3:us=vs:=Array.toList_inj.1 e1;subst e3;refine ⟨rfl,?_⟩
  show (us.size == us.size&&(us.toList.zip us.toList).all λ(x,y)=>Instr.sameBits 9999 x y)=true
  rw [e2];simp
theorem zij {kk:KeyK} {x y:AV} {u v:Value} (hx:VRel c w x u) (hy:VRel c w y v) (he:zcv kk x y=some true):(Instr.keyThatStays v u).run P w=.ok u w:=by
 obtain ⟨rfl,h2⟩:=zhs hx hy he;simp [Instr.keyThatStays,h2]
theorem zby {em:Bool} {t:TypeId} {d:TypeDesc} {u:Value} (n:Nat) (hu:P.underlying t=some d) (hd:(d=.bool\/d=.string\/∃ q,d=.int q)):(Instr.checkKey em (n+1) t u).run P w=.ok () w:=by
 rw [Instr.checkKey];rcases hd with rfl | rfl | ⟨q,rfl⟩ <;> simp only [Sem.run_bind,run_underlying hu,Result.andThen_ok] <;> rfl
theorem zlc {em : Bool} {cs : Array Value} (F : Field → PUnit → Sem (ForInStep PUnit)) (hF : ∀ f r u, f.name ≠ "_" → (part f.type cs f.offset).run P w = .ok u w → (Instr.checkKey em 9999 f.type u).run P w = .ok () w → (F f r).run P w = .ok (.yield ⟨⟩) w) :
  ∀ (fs:List Field) (n:Nat) (ks:List LK) (xs:List AV) (us:List Value),z2l P fs n=some ks->LRel c w xs us->(z1u ks xs xs).isSome=true->cs.toList.drop n=us->(forIn fs PUnit.unit F).run P w=.ok PUnit.unit w:=by
 intro fs
 induction fs with
 | nil=>intro n ks xs us _ _ _ _;simp
 | cons f fs ih=>
  intro n ks xs us hf hx he hd;simp only [z2l] at hf;split at hf
  ·rename_i hn;have key:∀ (ks':List LK) (x:AV) (xs':List AV),xs=x::xs'->z2l P fs (n+1)=some ks'->(z1u ks' xs' xs').isSome=true->(∃ d,P.underlying f.type=some d/\(d=.bool\/d=.string\/∃ q,d=.int q))->
     (forIn (f::fs) PUnit.unit F).run P w=.ok PUnit.unit w:=by
    rintro ks' x xs' rfl hfs he' ⟨d,hu,hd1⟩;simp only [LRel] at hx;obtain ⟨u,us',rfl,hxu,hx'⟩:=hx;have h0:cs[n]?=some u:=by
     have:=congrArg (λl=>l[0]?) hd;simpa using this
    have hnx:cs.toList.drop (n+1)=us':=by
     have:=congrArg (λl=>l.drop 1) hd;simpa [List.drop_drop,Nat.add_comm] using this
    have hagg:(isAgg f.type).run P w=.ok false w:=by
     rcases hd1 with rfl | rfl | ⟨q,rfl⟩ <;> simp [isAgg,run_underlying hu]
    have hpart:(part f.type cs f.offset).run P w=.ok u w:=by
     simp [part,hagg,hn.2,h0]
    rw [List.forIn_cons];simp only [Sem.run_bind,hF f PUnit.unit u hn.1 hpart (zby 9998 hu hd1),Result.andThen_ok];exact ih (n+1) ks' xs' us' hfs hx' he' hnx
   split at hf
   ·rename_i hd1;obtain ⟨ks',hfs,rfl⟩:=Option.map_eq_some_iff.1 hf
    cases xs with
    | nil=>simp [z1u] at he
    | cons x xs=>
     cases x <;> simp only [z1u] at he <;> (try (cases he;done));simp only [if_true,Option.isSome_map] at he;exact key ks' _ xs rfl hfs he ⟨_,hd1,Or.inr (Or.inr ⟨_,rfl⟩)⟩
   ·rename_i hd1;obtain ⟨ks',hfs,rfl⟩:=Option.map_eq_some_iff.1 hf
    cases xs with
    | nil=>simp [z1u] at he
    | cons x xs=>
     cases x <;> simp only [z1u] at he <;> (try (cases he;done));simp only [Option.isSome_map] at he;exact key ks' _ xs rfl hfs he ⟨_,hd1,Or.inl rfl⟩
   ·rename_i hd1;obtain ⟨ks',hfs,rfl⟩:=Option.map_eq_some_iff.1 hf
    cases xs with
    | nil=>simp [z1u] at he
    | cons x xs=>
     cases x <;> simp only [z1u] at he <;> (try (cases he;done));simp only [Option.isSome_map] at he;exact key ks' _ xs rfl hfs he ⟨_,hd1,Or.inr (Or.inl rfl)⟩
   ·cases hf
  ·cases hf
theorem zi3 {kt:TypeId} {kk:KeyK} {x:AV} {u:Value} {em:Bool} (hk:keyK P kt=some kk) (hi:isKey kk x=true) (hx:VRel c w x u):(Instr.checkKey em 10000 kt u).run P w=.ok () w:=by
 cases kk <;> cases x <;> simp only [isKey,Bool.false_eq_true] at hi
 ·obtain ⟨q,hq⟩:=keyK_int hk;exact zby 9999 hq (Or.inr (Or.inr ⟨q,rfl⟩))
 ·exact zby 9999 (keyK_str hk) (Or.inr (Or.inl rfl))
 ·obtain ⟨fs,hu,-,-,hf⟩:=zqw hk;simp only [VRel] at hx;obtain ⟨us,rfl,hu2,-⟩:=hx;rw [show (10000:Nat)=9999+1 from rfl,Instr.checkKey];simp only [Sem.run_bind,run_underlying hu,Result.andThen_ok];rw [<-Array.forIn_toList];rw [zlc (P:=P) (w:=w) (em:=em) (cs:=us) _ (λf r u hn h1 h2=>by simp only [hn,ne_eq,not_false_eq_true,if_true,Sem.run_bind,h1,h2,Result.andThen_ok,Sem.run_pure]) fs.toList 0 _ _ _ hf hu2 hi (by simp)]
  rfl
theorem zk6 {x:AV} {u:Value} {q:IntKind} (hx:VRel c w x u):∀ (ks:List AV) (es:List MapEntry) (i:Nat) (r:Option Nat),LRel c w ks (es.map (·.key))->z7w .int x ks i=some r->match r with
  | none=>Instr.findNow (.int q) u es i=some none
  | some j=>∃ y e,i<=j/\ks[j-i]?=some y/\zcv .int x y=some true/\es[j-i]?=some e/\Instr.findNow (.int q) u es i=some (some (j,e.val))
 | [],es,i,r,hr,hf=>by
  simp only [z7w,Option.some.injEq] at hf;subst hf;simp only [LRel,List.map_eq_nil_iff] at hr;subst hr
  rfl
 | y::ks,es,i,r,hr,hf=>by
  simp only [LRel] at hr;obtain ⟨v,vs,he,hv,hr⟩:=hr
  cases es with
  | nil=>cases he
  | cons e es=>
   simp only [List.map_cons,List.cons.injEq] at he;obtain ⟨rfl,rfl⟩:=he;simp only [z7w] at hf;cases x <;> cases y <;> simp only [zcv] at hf <;> (try (cases hf;done));rename_i k a k' b;by_cases ek:k=k'
   ·subst ek;rw [if_pos rfl] at hf;have hs:Instr.sameNow (.int q) u e.key=some (a == b):=by rw [hx.z1r,hv.z1r];simp [Instr.sameNow]
    by_cases eab:a=b
    ·subst eab;simp only [beq_self_eq_true] at hf hs;cases hf;exact ⟨.int k a,e,Nat.le_refl _,by simp,by simp [zcv],by simp,by simp [Instr.findNow,hs]⟩
    ·have eb:(a == b)=false:=by simpa using eab
     rw [eb] at hf hs;have:=zk6 (q:=q) hx ks es (i+1) r hr hf
     cases r with
     | none=>simpa [Instr.findNow,hs] using this
     | some j=>
      obtain ⟨y,e',h1,h2,h3,h4,h5⟩:=this;have ej:j-i=(j-(i+1))+1:=by omega
      exact ⟨y,e',by omega,by rw [ej];simpa using h2,h3,by rw [ej];simpa using h4,by simpa [Instr.findNow,hs] using h5⟩
   ·rw [if_neg ek] at hf;cases hf
theorem zk7 {x:AV} {u:Value} (hx:VRel c w x u):∀ (ks:List AV) (es:List MapEntry) (i:Nat) (r:Option Nat),LRel c w ks (es.map (·.key))->z7w .str x ks i=some r->match r with
  | none=>Instr.findNow .string u es i=some none
  | some j=>∃ y e,i<=j/\ks[j-i]?=some y/\zcv .str x y=some true/\es[j-i]?=some e/\Instr.findNow .string u es i=some (some (j,e.val))
 | [],es,i,r,hr,hf=>by
  simp only [z7w,Option.some.injEq] at hf;subst hf;simp only [LRel,List.map_eq_nil_iff] at hr;subst hr
  rfl
 | y::ks,es,i,r,hr,hf=>by
  simp only [LRel] at hr;obtain ⟨v,vs,he,hv,hr⟩:=hr
  cases es with
  | nil=>cases he
  | cons e es=>
   simp only [List.map_cons,List.cons.injEq] at he;obtain ⟨rfl,rfl⟩:=he;simp only [z7w] at hf;cases x <;> cases y <;> simp only [zcv] at hf <;> (try (cases hf;done));rename_i a b;have hs:Instr.sameNow .string u e.key=some (a == b):=by
    rw [hx.z6h,hv.z6h];simp only [Instr.sameNow,beq_toListBytes,zds]
   by_cases eab:a=b
   ·subst eab;simp only [beq_self_eq_true] at hf hs;cases hf;exact ⟨.str a,e,Nat.le_refl _,by simp,by simp [zcv],by simp,by simp [Instr.findNow,hs]⟩
   ·have eb:(a == b)=false:=by simpa using eab
    rw [eb] at hf hs;have:=zk7 hx ks es (i+1) r hr hf
    cases r with
    | none=>simpa [Instr.findNow,hs] using this
    | some j=>
     obtain ⟨y,e',h1,h2,h3,h4,h5⟩:=this;have ej:j-i=(j-(i+1))+1:=by omega
     exact ⟨y,e',by omega,by rw [ej];simpa using h2,h3,by rw [ej];simpa using h4,by simpa [Instr.findNow,hs] using h5⟩
theorem zqj {kt:TypeId} {fs:Array Field} {lk:List LK} (hu:P.underlying kt=some (.struct fs)) (hh:P.stoodInHeld kt=false) (hf0:z2l P fs.toList 0=some lk) {x:AV} {u:Value} (hx:VRel c w x u):∀ (ks:List AV) (es:List MapEntry) (i:Nat) (r:Option Nat),LRel c w ks (es.map (·.key))->z7w (.flat lk) x ks i=some r->match r with
  | none=>(Instr.findAsking kt u es i).run P w=.ok none w
  | some j=>∃ y e,i<=j/\ks[j-i]?=some y/\zcv (.flat lk) x y=some true/\es[j-i]?=some e/\(Instr.findAsking kt u es i).run P w=.ok (some (j,e.val)) w
 | [],es,i,r,hr,hf=>by
  simp only [z7w,Option.some.injEq] at hf;subst hf;simp only [LRel,List.map_eq_nil_iff] at hr;subst hr;simp [Instr.findAsking]
 | y::ks,es,i,r,hr,hf=>by
  simp only [LRel] at hr;obtain ⟨v,vs,he,hv,hr⟩:=hr
  cases es with
  | nil=>cases he
  | cons e es=>
   simp only [List.map_cons,List.cons.injEq] at he;obtain ⟨rfl,rfl⟩:=he;simp only [z7w] at hf;cases x <;> cases y <;> simp only [zcv] at hf <;> (try (cases hf;done));rename_i xs ys
   cases hq:z1u lk xs ys with
   | none=>rw [hq] at hf;cases hf
   | some b=>
    rw [hq] at hf;have hx':=hx;have hv':=hv;simp only [VRel] at hx' hv';obtain ⟨us,eu,hus,-⟩:=hx';obtain ⟨ws,ev,hws,-⟩:=hv';have heq:(Op.equal kt u e.key).run P w=.ok b w:=by
     rw [zd9,eu,ev,show (10000:Nat)=9999+1 from rfl];have e1:P.fieldsOf kt=fs:=by simp [Program.fieldsOf,hu]
     rw [run_equalIn_agg w 9999 kt us ws (by rw [e1];exact hu) hh,e1];exact zg0 fs.toList 0 lk xs ys us.toList ws.toList us ws b hf0 hus hws hq (by simp) (by simp)
    cases b with
    | true=>
     cases hf;exact ⟨.agg ys,e,Nat.le_refl _,by simp,by simpa [zcv] using hq,by simp,by simp [Instr.findAsking,heq]⟩
    | false=>
     have:=zqj hu hh hf0 hx ks es (i+1) r hr hf
     cases r with
     | none=>simpa [Instr.findAsking,heq] using this
     | some j=>
      obtain ⟨y,e',h1,h2,h3,h4,h5⟩:=this;have ej:j-i=(j-(i+1))+1:=by omega
      exact ⟨y,e',by omega,by rw [ej];simpa using h2,h3,by rw [ej];simpa using h4,by simpa [Instr.findAsking,heq] using h5⟩
theorem zb4 {kt:TypeId} {kk:KeyK} (hk:keyK P kt=some kk) {x:AV} {u:Value} (hx:VRel c w x u) (ks:List AV) (es:List MapEntry) (r:Option Nat) (hr:LRel c w ks (es.map (·.key))) (hf:z7w kk x ks 0=some r):match r with
  | none=>(Instr.findKey kt u es).run P w=.ok none w
  | some j=>∃ y e,ks[j]?=some y/\zcv kk x y=some true/\es[j]?=some e/\(Instr.findKey kt u es).run P w=.ok (some (j,e.val)) w:=by
 cases kk with
 | int=>
  obtain ⟨q,hq⟩:=keyK_int hk;have:=zk6 (q:=q) hx ks es 0 r hr hf
  cases r with
  | none=>simp [Instr.findKey,run_underlying hq,this]
  | some j=>
   obtain ⟨y,e,-,h2,h3,h4,h5⟩:=this;exact ⟨y,e,h2,h3,h4,by simp [Instr.findKey,run_underlying hq,h5]⟩
 | str=>
  have hq:=keyK_str hk;have:=zk7 hx ks es 0 r hr hf
  cases r with
  | none=>simp [Instr.findKey,run_underlying hq,this]
  | some j=>
   obtain ⟨y,e,-,h2,h3,h4,h5⟩:=this;exact ⟨y,e,h2,h3,h4,by simp [Instr.findKey,run_underlying hq,h5]⟩
 | flat lk=>
  obtain ⟨fs,hu,hh,-,hf0⟩:=zqw hk;have:=zqj hu hh hf0 hx ks es 0 r hr hf;have hnow:Instr.findNow (.struct fs) u es 0=none\/es=[]:=by
   cases es with
   | nil=>exact Or.inr rfl
   | cons e es=>left;simp [Instr.findNow,Instr.sameNow]
  rcases hnow with hnow | rfl
  ·cases r with
   | none=>simpa [Instr.findKey,run_underlying hu,hnow] using this
   | some j=>
    obtain ⟨y,e,-,h2,h3,h4,h5⟩:=this;exact ⟨y,e,h2,h3,h4,by simpa [Instr.findKey,run_underlying hu,hnow] using h5⟩
  ·cases r with
   | none=>simp [Instr.findKey,run_underlying hu,Instr.findNow]
   | some j=>obtain ⟨y,e,-,h2,h3,h4,h5⟩:=this;simp at h4
theorem zoh {t:TypeId} {kk:KeyK} {z:AV} (hm:mapK P t=some (kk,z)):∃ kt et k n i,P.underlying t=some (.map kt et)/\keyK P kt=some kk/\P.info? et=some i/\i.zero=some (.int k n)/\z=.int k n:=by
 unfold mapK at hm
 cases hu:P.underlying t with
 | none=>simp [hu] at hm
 | some d=>
  cases d <;> simp only [hu] at hm <;> (try (cases hm;done));rename_i kt et;split at hm
  ·rename_i kk' k n h1 h2;simp only [Option.some.injEq,Prod.mk.injEq] at hm;obtain ⟨rfl,rfl⟩:=hm;obtain ⟨i,h3,h4⟩:=Option.bind_eq_some_iff.1 h2;exact ⟨kt,et,k,n,i,rfl,h1,h3,h4,rfl⟩
  ·cases hm
theorem zmb (W:WRel B c h w) {t:TypeId} {K:AV->z00->Prop} (H:zgm h K):Does P B c w (Instr.makeMap t none) K:=by
 have W1:=W.alloc (.map #[] 0);have E1:=Ext.alloc W (.map #[] 0);obtain ⟨E2,W2⟩:=W1.name (b:=w.heap.size) (.map [] []) W.base (by simp) (λi hi=>absurd (W.mlt i _ hi).2.2 (by omega)) ⟨#[],heap_alloc_new w _,by simp [LRel],by simp [LRel],by simp⟩;refine ⟨_,.map (some w.heap.size),_,_,w.alloc (.map #[] 0),?_,E1.trans E2,W2,?_,H⟩
 ·simp [Instr.makeMap]
 ·simp only [VRel];exact ⟨_,by simp [Ctx.zb7],rfl⟩
theorem zoq (W:WRel B c h w) {t:TypeId} {kk:KeyK} {z m key:AV} {u v:Value} {K:AV->z00->Prop} (ht:mapK P t=some (kk,z)) (hm:VRel c w m u) (hk:VRel c w key v) (H:zop kk z m key h (λv=>K v h)):Does P B c w (Instr.lookup t u v false) K:=by
 obtain ⟨kt,et,k,n,i,hu,hkk,hi,hz,rfl⟩:=zoh ht;unfold zop at H;cases m <;> simp only at H <;> (try (exact H.elim));rename_i id;split at H <;> (try (exact H.elim));rename_i ks vs ho;obtain ⟨hkey,H⟩:=H;simp only [VRel] at hm;obtain ⟨b,hb,rfl⟩:=hm;obtain ⟨es,g1,g2,g3,g4⟩:=W.obj id b _ hb ho;have hck:=zi3 (P:=P) (em:=es.isEmpty) hkk hkey hk;have hzero:(zeroValue et).run P w=.ok (.int k n) w:=by simp [zeroValue,typeInfo,hi,hz]
 split at H <;> (try (exact H.elim))
 ·rename_i j hf;obtain ⟨y,e,h1,h2,h3,h4⟩:=zb4 hkk hk ks es.toList (some j) g2 hf;have hvj:∃ a,vs[j]?=some a:=by
   have hl:=g3.length;have:=(List.getElem?_eq_some_iff.1 h3).1;simp at hl;exact ⟨_,List.getElem?_eq_getElem (by simp at this;omega)⟩
  obtain ⟨a,ha⟩:=hvj;obtain ⟨r,hr1,hr2⟩:=g3.get ha;rw [List.getElem?_map,h3] at hr1;simp only [Option.map_some,Option.some.injEq] at hr1;refine ⟨c,e.val,a,h,w,?_,Ext.refl _ _ _,W,hr1▸hr2,by simpa [ha] using H⟩;simp [Instr.lookup,run_underlying hu,MapKept.run_getObj_map g1,hck,h4]
 ·rename_i hf;have h4:=zb4 hkk hk ks es.toList none g2 hf;refine ⟨c,.int k n,.int k n,h,w,?_,Ext.refl _ _ _,W,by simp [VRel],H⟩;simp only at h4;simp [Instr.lookup,run_underlying hu,MapKept.run_getObj_map g1,hck,h4,hzero]
theorem zmt {b o:Nat} {es:Array MapEntry} {cl:Nat} (hb:w.heap[b]?=some (.map es cl)):w.cell? ⟨b,o,none⟩=none:=by
 simp [World.cell?,hb]
theorem WRel.zru (W:WRel B c h w) {id b cl:Nat} {ks vs ks' vs':List AV} {es es':Array MapEntry} (hm:c.m id=some b) (ho:h.objs id=some (.map ks vs)) (hL:w.heap[b]?=some (.map es cl))
  (hks:LRel c w ks' (es'.toList.map (·.key))) (hvs:LRel c w vs' (es'.toList.map (·.val))) (hbn:∀ (i:Nat) (e:MapEntry),es'[i]?=some e->e.born=i) :
  Ext B c w c (w.putObj b (.map es' es'.size))/\WRel B c (h.put id (.map ks' vs')) (w.putObj b (.map es' es'.size)):=by
 have hbl:=W.mlt id b hm;have hnew:(w.putObj b (.map es' es'.size)).heap[b]?=some (.map es' es'.size):=World.putObj_heap_same hbl.2.2;have hold:∀ k,k≠b->(w.putObj b (.map es' es'.size)).heap[k]?=w.heap[k]?:=λk hk=>World.putObj_heap_other hk;have E:Ext B c w c (w.putObj b (.map es' es'.size)):=by
  refine ⟨⟨λ_ _ x=>x,λ_ _ x=>x,⟨rfl,rfl,rfl,by simp,λk hk=>hold k (by omega)⟩,λk o hk=>?_,λk ty n hs=>?_⟩,λk hk=>?_⟩
  ·by_cases e:k=b
   ·subst e;rw [zmt hL,zmt hnew]
   ·exact World.cell?_of_block (a:=⟨k,o,none⟩) (hold k e)
  ·obtain ⟨C,h1,h2⟩:=hs;have e:k≠b:=by rintro rfl;rw [hL] at h1;cases h1
   exact ⟨C,by rw [hold k e,h1],h2⟩
  ·have e:k≠b:=by rintro rfl;unfold Dfr at hk;rw [hL] at hk;cases hk
   unfold Dfr at hk ⊢;rw [hold k e,hk]
 refine ⟨E,⟨λi k hi=>?_,?_,?_,λk o hk=>?_,?_,?_,W.gl.mono E⟩⟩
 ·have:=W.mlt i k hi;exact ⟨this.1,this.2.1,by simpa using this.2.2⟩
 ·intro i j k hi hj h1 h2;refine W.inj i j k hi hj ?_ ?_
  ·simp only [z00.z2x] at h1;split at h1
   ·rename_i e;subst e;rw [ho];simp
   ·exact h1
  ·simp only [z00.z2x] at h2;split at h2
   ·rename_i e;subst e;rw [ho];simp
   ·exact h2
 ·intro i k o hi hio;simp only [z00.z2x] at hio;split at hio
  ·rename_i e;subst e;rw [hm] at hi;cases hi;cases hio;exact ⟨es',hnew,LRel.mono E hks,LRel.mono E hvs,hbn⟩
  ·rename_i e;have hne:k≠b:=by
    rintro rfl;exact e (W.inj i id k hi hm (by rw [hio];simp) (by rw [ho];simp))
   exact (W.obj i k o hi hio).keep E (hold k hne) (λ_ y=>y)
 ·have:=W.im k o hk;simpa using this
 ·intro i hi;simp only [z00.zpi] at hi;simp only [z00.z2x];split
  ·rename_i e;subst e;have:=(W.mlt i b hm).1;omega
  ·exact W.fresh i hi
 ·simpa using W.base
theorem zbp {es:Array MapEntry} {j:Nat} {e:MapEntry} (hj:es[j]?=some e) (f:MapEntry->MapEntry):(es.modify j f).toList=es.toList.set j (f e):=by
 have h3:es.toList[j]?=some e:=by simpa using hj
 have hjl:j<es.size:=(Array.getElem?_eq_some_iff.1 hj).1;rw [Array.toList_modify];apply List.ext_getElem?;intro q;rw [List.getElem?_modify,List.getElem?_set];by_cases eq:j=q
 ·subst eq;rw [if_pos rfl,if_pos (by simpa using hjl),h3];simp
 ·rw [if_neg eq];simp [eq]
theorem zf6 {es:Array MapEntry} {j:Nat} {f:MapEntry->MapEntry} (hf:∀ e,(f e).born=e.born) (hb:∀ (i:Nat) (e:MapEntry),es[i]?=some e->e.born=i):∀ (i:Nat) (e:MapEntry),(es.modify j f)[i]?=some e->e.born=i:=by
 intro i e he;rw [Array.getElem?_modify] at he;split at he
 ·cases h0:es[i]? with
  | none=>rw [h0] at he;simp at he
  | some e0=>rw [h0] at he;simp at he;rw [<-he,hf];exact hb i e0 h0
 ·exact hb i e he
theorem zjm {α:Type} {l:List α} {j:Nat} {a:α} (h:l[j]?=some a):l.set j a=l:=by
 apply List.ext_getElem?;intro q;rw [List.getElem?_set];by_cases eq:j=q
 ·subst eq;rw [if_pos rfl,if_pos (List.getElem?_eq_some_iff.1 h).1,h]
 ·rw [if_neg eq]
theorem zrt {es:Array MapEntry} {k v:Value} (hb:∀ (i:Nat) (e:MapEntry),es[i]?=some e->e.born=i):∀ (i:Nat) (e:MapEntry),(es.push { key:=k,val:=v,born:=es.size })[i]?=some e->e.born=i:=by
 intro i e he;rw [Array.getElem?_push] at he;split at he
 ·rename_i hi;cases he;exact hi.symm
 ·exact hb i e he
theorem zot (W:WRel B c h w) {t:TypeId} {kk:KeyK} {z m key v:AV} {u x y:Value} {K:z00->Prop} (ht:mapK P t=some (kk,z)) (hm:VRel c w m u) (hk:VRel c w key x) (hv:VRel c w v y) (H:zos kk m key v h K) :
  ∃ c' h' w',(Instr.mapUpdate t u x y).run P w=.ok () w'/\Ext B c w c' w'/\WRel B c' h' w'/\K h':=by
 obtain ⟨kt,et,k,n,i,hu,hkk,hi,hz,rfl⟩:=zoh ht;unfold zos at H;cases m <;> simp only at H <;> (try (exact H.elim));rename_i id;split at H <;> (try (exact H.elim));rename_i ks vs ho;obtain ⟨hkey,H⟩:=H;simp only [VRel] at hm;obtain ⟨b,hb,rfl⟩:=hm;obtain ⟨es,g1,g2,g3,g4⟩:=W.obj id b _ hb ho;have hck:=zi3 (P:=P) (em:=false) hkk hkey hk;split at H <;> (try (exact H.elim))
 ·rename_i j hf;obtain ⟨yk,e,h1,h2,h3,h4⟩:=zb4 hkk hk ks es.toList (some j) g2 hf;obtain ⟨r,hr1,hr2⟩:=g2.get h1;rw [List.getElem?_map,h3] at hr1;simp only [Option.map_some,Option.some.injEq] at hr1;subst hr1;have hst:=zij (P:=P) hk hr2 h2;have hsame:=(zhs hk hr2 h2).1;have hgj:es[j]?=some e:=by simpa using h3
  have hmod:=zbp hgj (λe=>{ e with key:=x,val:=y });obtain ⟨E,W2⟩:=W.zru (ks':=ks) (vs':=vs.set j v) (es':=es.modify j λe=>{ e with key:=x,val:=y }) hb ho g1 (by
   rw [hmod,List.map_set,hsame]
   show LRel c w ks ((List.map (λx=>x.key) es.toList).set j e.key)
   rw [zjm (by rw [List.getElem?_map,h3];rfl)];exact g2) (by
   rw [hmod,List.map_set];exact g3.set j hv) (zf6 (λ_=>rfl) g4)
  refine ⟨c,_,_,?_,E,W2,H⟩;simp [Instr.mapUpdate,run_underlying hu,MapKept.run_getObj_map g1,hck,h4,hgj,hst,MapKept.run_setObj_map _ g1]
  rfl
 ·rename_i hf;have h4:=zb4 hkk hk ks es.toList none g2 hf;simp only at h4;obtain ⟨E,W2⟩:=W.zru (ks':=ks++[key]) (vs':=vs++[v]) (es':=es.push { key:=x,val:=y,born:=es.size }) hb ho g1 (by
   rw [Array.toList_push,List.map_append];exact g2.append (by simp only [LRel];exact ⟨x,[],rfl,hk,rfl⟩)) (by
   rw [Array.toList_push,List.map_append];exact g3.append (by simp only [LRel];exact ⟨y,[],rfl,hv,rfl⟩)) (zrt g4)
  refine ⟨c,_,_,?_,E,W2,H⟩;simp [Instr.mapUpdate,run_underlying hu,MapKept.run_getObj_map g1,hck,h4,MapKept.run_setObj_map _ g1]
  rfl
theorem zl0 (W:WRel B c h w) {t:TypeId} {kk:KeyK} {z m key:AV} {u x:Value} {K:AV->z00->Prop} (ht:mapK P t=some (kk,z)) (hm:VRel c w m u) (hk:VRel c w key x) (H:zgn kk z m key h K):Does P B c w (Instr.mapEntry t u x) K:=by
 obtain ⟨kt,et,k,n,i,hu,hkk,hi,hz,rfl⟩:=zoh ht;unfold zgn at H;cases m <;> simp only at H <;> (try (exact H.elim));rename_i id;split at H <;> (try (exact H.elim));rename_i ks vs ho;obtain ⟨hkey,H⟩:=H;simp only [VRel] at hm;obtain ⟨b,hb,rfl⟩:=hm;obtain ⟨es,g1,g2,g3,g4⟩:=W.obj id b _ hb ho;have hck:=zi3 (P:=P) (em:=false) hkk hkey hk;have hzero:∀ w,(zeroValue et).run P w=.ok (.int k n) w:=λw=>by simp [zeroValue,typeInfo,hi,hz]
 split at H <;> (try (exact H.elim))
 ·rename_i j hf;obtain ⟨yk,e,h1,h2,h3,h4⟩:=zb4 hkk hk ks es.toList (some j) g2 hf;obtain ⟨r,hr1,hr2⟩:=g2.get h1;rw [List.getElem?_map,h3] at hr1;simp only [Option.map_some,Option.some.injEq] at hr1;subst hr1;have hst:=zij (P:=P) hk hr2 h2;have hsame:=(zhs hk hr2 h2).1;have hgj:es[j]?=some e:=by simpa using h3
  have hmod:=zbp hgj (λe=>{ e with key:=x });have hvj:∃ a,vs[j]?=some a:=by
   have hl:=g3.length;have:=(List.getElem?_eq_some_iff.1 h3).1;simp at hl;exact ⟨_,List.getElem?_eq_getElem (by simp at this;omega)⟩
  obtain ⟨a,ha⟩:=hvj;obtain ⟨r,hr1,hr3⟩:=g3.get ha;rw [List.getElem?_map,h3] at hr1;simp only [Option.map_some,Option.some.injEq] at hr1;obtain ⟨E,W2⟩:=W.zru (ks':=ks) (vs':=vs) (es':=es.modify j λe=>{ e with key:=x }) hb ho g1 (by
   rw [hmod,List.map_set,hsame]
   show LRel c w ks ((List.map (λx=>x.key) es.toList).set j e.key)
   rw [zjm (by rw [List.getElem?_map,h3];rfl)];exact g2) (by
   rw [hmod,List.map_set]
   show LRel c w vs ((List.map (λx=>x.val) es.toList).set j e.val)
   rw [zjm (by rw [List.getElem?_map,h3];rfl)];exact g3) (zf6 (λ_=>rfl) g4)
  have hself:h.put id (.map ks vs)=h:=put_self' ho;rw [hself] at W2;refine ⟨c,.tuple #[e.val,.int .i64 j],_,h,_,?_,E,W2,?_,by simpa [ha] using H⟩
  ·have hbj:=g4 j e hgj;simp [Instr.mapEntry,run_underlying hu,MapKept.run_getObj_map g1,hck,h4,hgj,hst,MapKept.run_setObj_map _ g1,hbj,goInt]
   rfl
  ·simp only [VRel];refine ⟨_,rfl,?_⟩;simp only [LRel];exact ⟨_,_,rfl,VRel.mono E (hr1▸hr3),_,_,rfl,by simp [VRel],rfl⟩
 ·rename_i hf;have h4:=zb4 hkk hk ks es.toList none g2 hf;simp only at h4;have hlen:ks.length=es.size:=by have:=g2.length;simpa using this.symm
  obtain ⟨E,W2⟩:=W.zru (ks':=ks++[key]) (vs':=vs++[.int k n]) (es':=es.push { key:=x,val:=.int k n,born:=es.size }) hb ho g1 (by
   rw [Array.toList_push,List.map_append];exact g2.append (by simp only [LRel];exact ⟨x,[],rfl,hk,rfl⟩)) (by
   rw [Array.toList_push,List.map_append];exact g3.append (by simp only [LRel];exact ⟨_,[],rfl,by simp [VRel],rfl⟩)) (zrt g4)
  refine ⟨c,.tuple #[.int k n,.int .i64 es.size],_,_,_,?_,E,W2,?_,H⟩
  ·simp [Instr.mapEntry,run_underlying hu,MapKept.run_getObj_map g1,hck,h4,MapKept.run_setObj_map _ g1,hzero,goInt]
   rfl
  ·simp only [VRel];refine ⟨_,rfl,?_⟩;simp only [LRel];exact ⟨_,_,rfl,by simp [VRel],_,_,rfl,by simp [VRel,hlen],rfl⟩
theorem findIdx_born {es:Array MapEntry} (hb:∀ (i:Nat) (e:MapEntry),es[i]?=some e->e.born=i) {n:Nat} (hn:n<es.size):es.findIdx? (λe=>(e.born:Int) == (n:Int))=some n:=by
 rw [Array.findIdx?_eq_some_iff_getElem];refine ⟨hn,?_,λj hj=>?_⟩
 ·have:=hb n _ (Array.getElem?_eq_getElem hn);simp [this]
 ·have:=hb j _ (Array.getElem?_eq_getElem (by omega));simp [this];omega
theorem zhy (W:WRel B c h w) {t:TypeId} {m st v:AV} {u x y:Value} {K:z00->Prop} (hm:VRel c w m u) (hk:VRel c w st x) (hv:VRel c w v y) (H:z3q m st v h K) :
  ∃ c' h' w',(Instr.entryStore t u x y).run P w=.ok () w'/\Ext B c w c' w'/\WRel B c' h' w'/\K h':=by
 unfold z3q at H;split at H <;> (try (exact H.elim));rename_i id k n;split at H <;> (try (exact H.elim));rename_i ks vs ho;obtain ⟨h0,h1,H⟩:=H;simp only [VRel] at hm;obtain ⟨b,hb,rfl⟩:=hm;obtain ⟨es,g1,g2,g3,g4⟩:=W.obj id b _ hb ho;rw [hk.z1r];have hlen:vs.length=es.size:=by have:=g3.length;simpa using this.symm
 have hgj:es[n.toNat]?=some es[n.toNat]:=Array.getElem?_eq_getElem (by omega);have hmod:=zbp hgj (λe=>{ e with val:=y });have hfi:es.findIdx? (λe=>(e.born:Int) == n)=some n.toNat:=by
  have:=findIdx_born g4 (n:=n.toNat) (by omega);rwa [Int.toNat_of_nonneg h0] at this
 obtain ⟨E,W2⟩:=W.zru (ks':=ks) (vs':=vs.set n.toNat v) (es':=es.modify n.toNat λe=>{ e with val:=y }) hb ho g1 (by
  rw [hmod,List.map_set]
  show LRel c w ks ((List.map (λx=>x.key) es.toList).set n.toNat es[n.toNat].key)
  rw [zjm (by
   rw [List.getElem?_map];have:es.toList[n.toNat]?=some es[n.toNat]:=by simp
   rw [this]
   rfl)]
  exact g2) (by
  rw [hmod,List.map_set];exact g3.set _ hv) (zf6 (λ_=>rfl) g4)
 refine ⟨c,_,_,?_,E,W2,H⟩;simp [Instr.entryStore,MapKept.run_getObj_map g1,asInt,asIntOf,hfi,MapKept.run_setObj_map _ g1]
 rfl
end
end
end Go.Abs
