/- Own texts, merged: AbsCode, AbsDraw, AbsFast, AbsWp, AbsSimp, AbsEntry, AbsBits, AbsMore, AbsRun, AbsTerse, AbsArgs, AbsGhost, AbsForget. -/
import Derived.Test.YtjlogcfggfmacaaDoorM1
import Derived.Laws.FloatArith
import Derived.Laws.NewFold
import Derived.Orders
import Derived.ProofKit
import Derived.ChangeBears
set_option linter.unusedVariables false
set_option linter.unusedSimpArgs false
open Nat (reduceEqDiff reduceAdd reduceLeDiff)
set_option maxRecDepth 100000
set_option maxHeartbeats 4000000
namespace Go.Abs
section
open Go.RowKit
abbrev Fr:=Nat->AV
noncomputable def upd (fr:Fr) (d:Nat) (v:AV):Fr:=λi=>Bool.rec (fr i) v (Nat.beq i d)
noncomputable def updO (fr:Fr) (d:Option Nat) (v:AV):Fr:=Option.rec fr (λd=>upd fr d v) d
theorem zsc (fr:Fr) (d:Nat) (v:AV) (i:Nat):upd fr d v i=if i=d then v else fr i:=by
 unfold upd;by_cases h:i=d
 ·rw [if_pos h,show Nat.beq i d=true from by simp [h]]
 ·rw [if_neg h]
  cases hb:Nat.beq i d with
  | true=>exact absurd (Nat.eq_of_beq_eq_true hb) h
  | false=>rfl
@[simp] theorem zsb (fr:Fr) (d:Nat) (v:AV):updO fr (some d) v=upd fr d v:=rfl
@[simp] theorem updO_none (fr:Fr) (v:AV):updO fr none v=fr:=rfl
def aEv (fr:Fr):Operand->AV
 | .tmp t=>fr t
 | .const v=>ztk v
 | .func f=>.fn (.func f) [] []
 | .global g=>.iptr (Globs g)
def z3w (N:Nat) (ds:List Deferred) (c:Ctx) (w:World) (fr:Fr) (a:Act):Prop:=a.tmps.size=N/\a.defers=ds/\∀ i,VRel c w (fr i) (a.tmps.getD i undef)
inductive z1z | normal | exit (id:Nat) | ret
def z1z.toExit:z1z->Exit | .normal=>.normal | .exit id=>.exit id | .ret=>.ret
def mark (D:Nat):Deferred:={ target:=.collected D,args:=#[] }
structure Marks (w w':World) (Ds:List Nat):Prop where
 nd:Ds.Nodup
 all:∀ D∈Ds,w.heap.size<=D/\Dfr w' D
theorem Marks.nil (w w':World):Marks w w' []:=⟨List.nodup_nil,by simp⟩
theorem Dfr.lt {w:World} {b:Nat} (h:Dfr w b):b<w.heap.size:=(Array.getElem?_eq_some_iff.1 h).1
theorem Marks.more {w w' w'':World} {Ds Es:List Nat} (h:Marks w w' Ds) (k:Marks w' w'' Es) (hs:w.heap.size<=w'.heap.size) (ho:∀ b,Dfr w' b->Dfr w'' b):Marks w w'' (Es++Ds):=by
 refine ⟨List.nodup_append.2 ⟨k.nd,h.nd,λx hx y hy e=>?_⟩,λD hD=>?_⟩
 ·subst e;have h1:=(k.all _ hx).1;have h2:=(h.all _ hy).2.lt;omega
 ·rcases List.mem_append.1 hD with hD | hD
  ·exact ⟨Nat.le_trans hs (k.all D hD).1,(k.all D hD).2⟩
  ·exact ⟨(h.all D hD).1,ho D (h.all D hD).2⟩
def zsi (B N:Nat) (ds:List Deferred) (c:Ctx) (w:World) (Q:z1z->Fr->z00->Prop):Exit->Act->World->Prop:=λe a' w'=>
 ∃ Ds c' fr' h' ae,z1z.toExit ae=e/\Ext B c w c' w'/\WRel B c' h' w'/\z3w N (Ds.map mark++ds) c' w' fr' a'/\Marks w w' Ds/\Q ae fr' h'
def z5d (ro:Option Nat):Fence:={ Fence.wide with round:=ro }
theorem zbb {ro:Option Nat} {n:Nat} {P:Program} {f:FuncId} {args:Array Value} {w:World} {R:Ending->World->Prop}:CallsIn (z5d ro) n P f args w R↔Calls P f args w R:=callsIn_wide (n:=n) (P:=P) (f:=f) (args:=args) (w:=w) (R:=R)
def noRF:Code->Bool
 | .rangeFunc ..=>false
 | .seq a b=>noRF a&&noRF b
 | .cond _ a b=>noRF a&&noRF b
 | .block _ b=>noRF b
 | .loop b=>noRF b
 | .scope b=>noRF b
 | _=>true
def WP (P:Program) (N:Nat) (code:Code) (fr:Fr) (h:z00) (Q:z1z->Fr->z00->Prop):Prop:=
 ∀ ro ds B c w a,(ro=none\/noRF code=true)->WRel B c h w->z3w N ds c w fr a->code.wpIn (z5d ro) 0 P (zsi B N ds c w Q) a w
def z7e (n:Fr->z00->Prop) (x:Nat->Fr->z00->Prop) (r:Fr->z00->Prop):z1z->Fr->z00->Prop:=λe fr h=>
 match e with
 | .normal=>n fr h
 | .exit id=>x id fr h
 | .ret=>r fr h
def CallsE (P:Program) (f:FuncId) (args:List AV) (h:z00) (R:AV->z00->Prop):Prop:=
 (∀ as w,(callFunc f as).run P w=.ok (.enter f as) w)/\
 ∀ B c w vs,WRel B c h w->LRel c w args vs->Calls P f vs.toArray w (λe w'=>∃ c' u v h',e=.returned u/\Ext B c w c' w'/\WRel B c' h' w'/\VRel c' w' v u/\R v h')
def ExtA (P:Program) (f:FuncId) (args:List AV) (h:z00) (R:AV->z00->Prop):Prop:=
 ∀ B c w vs,WRel B c h w->LRel c w args vs->∃ c' u v h' w',(callFunc f vs.toArray).run P w=.ok (.value u) w'/\Ext B c w c' w'/\WRel B c' h' w'/\VRel c' w' v u/\R v h'
def z01 (P:Program) (f:FuncId) (args:List AV) (h:z00) (R:AV->z00->Prop):Prop:=CallsE P f args h R\/ExtA P f args h R
theorem z01.mono {P:Program} {f:FuncId} {args:List AV} {h:z00} {R R':AV->z00->Prop} (H:z01 P f args h R) (hr:∀ v h',R v h'->R' v h'):z01 P f args h R':=by
 rcases H with H | H
 ·exact Or.inl ⟨H.1,λB c w vs W L=>(H.2 B c w vs W L).mono λe w' ⟨c',u,v,h',a,b,d,e',g⟩=>⟨c',u,v,h',a,b,d,e',hr _ _ g⟩⟩
 ·refine Or.inr λB c w vs W L=>?_;obtain ⟨c',u,v,h',w',a,b,d,e',g⟩:=H B c w vs W L;exact ⟨c',u,v,h',w',a,b,d,e',hr _ _ g⟩
noncomputable def zi5:List Tmp->List AV->Fr->Fr
 | p::ps,x::xs,fr=>zi5 ps xs (upd fr p x)
 | _,_,fr=>fr
def z9s (P:Program) (id:Nat) (args:List AV) (h:z00) (K:AV->z00->Prop):Prop:=
 ∃ N ps asn bd fr,h.objs id=some (.loop .ready none N ps asn bd fr)/\args.length=ps.size/\(ps.toList.all λp=>Nat.blt p N)=true/\noRF asn=true/\noRF bd=true/\
  WP P N asn (zi5 ps.toList args fr) h (z7e (λfr1 h1=>h1.objs id=some (.loop .ready none N ps asn bd fr)/\
   WP P N bd fr1 (h1.put id (.loop .busy none N ps asn bd fr)) (z7e
    (λ_ h2=>h2.objs id=some (.loop .busy none N ps asn bd fr)/\K (.bool true) (h2.put id (.loop .ready none N ps asn bd fr)))
    (λe _ h2=>h2.objs id=some (.loop .busy none N ps asn bd fr)/\K (.bool false) (h2.put id (.loop .done (some (.exit e)) N ps asn bd fr)))
    (λ_ h2=>h2.objs id=some (.loop .busy none N ps asn bd fr)/\K (.bool false) (h2.put id (.loop .done (some .ret) N ps asn bd fr)))))
   (λ_ _ _=>False) (λ_ _=>False))
def z7d (P:Program) (f:AV) (args:List AV) (h:z00) (K:AV->z00->Prop):Prop:=
 match f with
 | .fn (.func g) first cap=>z01 P g (first++args++cap) h K
 | .yld id=>z9s P id args h K
 | _=>False
def zri (q x y:AV) (K:AV->Prop):Prop:=match q with | .bool t=>K (if t then x else y) | _=>False
def zel (v:AV) (want:Bool) (T F:Prop):Prop:=match v with | .bool b=>if b=want then T else F | .unkb=>T/\F | .tup []=>F | _=>False
def zma (body:(List AV->z00->Prop)->Prop) (k:List AV->z00->Prop):Prop:=body k
def nth (vs:List AV) (i:Nat):AV:=(vs[i]?).getD .und
def zdg (P:Program) (by_:Bool) (b:Builtin) (ts:List TypeId) (xs:List AV) (h:z00) (K:AV->z00->Prop):Prop:=
 match b,ts,xs with
 | .append,[t,u],[s,x]=>match slT P t with | some T=>srcT P u=true/\z1x by_ T s x h K | none=>False
 | .len,[t],[x]=>match lenK P t with | some k=>pLen k x (λv=>K v h) | none=>False
 | .max,_,xs=>z8d (maxA xs) (λv=>K v h)
 | .min,_,xs=>z8d (minA xs) (λv=>K v h)
 | _,_,_=>False
def isIface (P:Program) (t:TypeId):Bool:=match P.underlying t with | some (.interface _)=>true | some _=>false | none=>true
def wpOp (P:Program) (by_:Bool) (o:Op) (ev:Operand->AV) (h:z00) (K:AV->z00->Prop):Prop:=
 match o with
 | .move x=>K (ev x) h
 | .assign x=>K (ev x) h
 | .pick q x y=>zri (ev q) (ev x) (ev y) (λv=>K v h)
 | .alloc t=>match zjf P t with | some z=>zr5 t z h K | none=>False
 | .box t x=>pBox by_ t (ev x) h K
 | .build t parts=>match zow P t,zjf P t with
  | some pl,some z=>z4b pl z (parts.toList.map λp=>(p.1,ev p.2)) (λv=>K v h)
  | _,_=>False
 | .buildSlice t len parts=>match slT P t with
  | some T=>match zjf P T.e with
   | some z=>(len=0->parts.toList=[])/\z10 by_ T z len (parts.toList.map λp=>(p.1,ev p.2)) h K
   | none=>False
  | none=>False
 | .load t x=>match ldK P t with | some k=>z0t k (ev x) h (λv=>K v h) | none=>False
 | .store t a v=>match szK P t with | some n=>z14 n (ev a) (ev v) h (λh'=>K .und h') | none=>False
 | .nilCheck x=>pNil (ev x) (λv=>K v h)
 | .binOp op t x y _=>z8d (binA (cmpK P t) op (ev x) (ev y)) (λv=>K v h)
 | .unOp op _ x=>z8d (unA op (ev x)) (λv=>K v h)
 | .convert s d x=>match convK P s d with | some ck=>z9e ck (ev x) h (λv=>K v h) | none=>False
 | .makeSlice t l k=>match slT P t with
  | some T=>match zjf P T.e with
   | some z=>z6r T z (ev l) (ev k) h K
   | none=>False
  | none=>False
 | .slice t x lo hi mx=>match mx with
  | some _=>False
  | none=>match P.underlying t with
   | some .string=>zay (ev x) (lo.map ev) (hi.map ev) (λv=>K v h)
   | some (.slice e)=>match szK P e with | some n=>z4n n (ev x) (lo.map ev) (hi.map ev) (λv=>K v h) | none=>False
   | _=>False
 | .fieldAddr t x f=>match fadK P t f with | some off=>z3g off (ev x) (λv=>K v h) | none=>False
 | .field t x f=>match fldK P t f with | some (off,k)=>zrc off k (ev x) (λv=>K v h) | none=>False
 | .indexAddr t x i=>match ixK P t with | some ik=>z0o ik (ev x) (ev i) (λv=>K v h) | none=>False
 | .index t x i=>match P.underlying t with | some .string=>z9g (ev x) (ev i) (λv=>K v h) | _=>False
 | .extract x i=>z6q i (ev x) (λv=>K v h)
 | .makeFunc f first cap=>K (.fn f (first.toList.map ev) (cap.toList.map ev)) h
 | .makeInterface t x=>isIface P t=false/\K (.ifc t (ev x)) h
 | .makeMap _ r=>match r with | none=>zgm h K | some _=>False
 | .lookup t m k ok=>match ok with | false=>z3k (mapK P t) (ev m) (ev k) h (λv=>K v h) | true=>False
 | .mapEntry t m k=>z5x (mapK P t) (ev m) (ev k) h K
 | .entryStore _ m s v=>z3q (ev m) (ev s) (ev v) h (λh'=>K .und h')
 | .mapUpdate t m k v=>zbr (mapK P t) (ev m) (ev k) (ev v) h (λh'=>K .und h')
 | .call q=>match q.callee with
  | .builtin b=>zdg P by_ b q.argTypes.toList (q.args.toList.map ev) h K
  | .value (.func g)=>z01 P g (q.args.toList.map ev) h K
  | .value f=>z7d P (ev f) (q.args.toList.map ev) h K
  | _=>False
 | _=>False
def nanB:FloatKind->Nat->Prop
 | .f32,b=>∃ s f,s<2/\f<8388607/\b=s*2147483648+2139095040+1+f
 | .f64,b=>∃ s f,s<2/\f<4503599627370495/\b=s*9223372036854775808+9218868437227405312+1+f
def pFArith (k:FloatKind) (op:BinOp) (x y:AV) (h:z00) (K:AV->z00->Prop):Prop:=
 match x,y with
 | .flt k1 a,.flt k2 b=>k1=k/\k2=k/\(match floatBits op k a b with | some r=>K (.flt k r) h | none=>∀ r,nanB k r->K (.flt k r) h)
 | _,_=>False
def arithOp:BinOp->Bool | .add | .sub | .mul | .quo=>true | _=>false
def fltK (P:Program) (t:TypeId):Option FloatKind:=match P.underlying t with | some (.float k)=>some k | _=>none
def wpOpF (P:Program) (by_:Bool) (o:Op) (ev:Operand->AV) (h:z00) (K:AV->z00->Prop):Prop:=
 match o with
 | .binOp op t x y t2=>match arithOp op with
  | true=>match fltK P t with
   | some k=>pFArith k op (ev x) (ev y) h K
   | none=>wpOp P by_ (.binOp op t x y t2) ev h K
  | false=>wpOp P by_ (.binOp op t x y t2) ev h K
 | o=>wpOp P by_ o ev h K
def byO (ch:Nat->Bool) (d:Option Nat):Bool:=match d with | some d=>ch d | none=>false
def zh5:List Oper->List (Option (Nat×Bool)×List Oper)
 | []=>[]
 | o::r=>match o.guard,zh5 r with
  | some g,(some g',l)::gs=>if g=g' then (some g,o::l)::gs else (some g,[o])::(some g',l)::gs
  | g,gs=>(g,[o])::gs
noncomputable def updN (fr:Fr):List Oper->Nat->List AV->Fr
 | [],_,_=>fr
 | o::l,n,vs=>updN (updO fr o.dst (nth vs n)) l (n+1) vs
def zsg (P:Program) (ch:Nat->Bool):List Oper->(List AV->z00->Prop)->Fr->z00->Prop
 | [],k,_,h=>k [] h
 | o::l,k,fr,h=>wpOpF P (byO ch o.dst) o.op (aEv fr) h (λv h'=>zsg P ch l (λvs h2=>k (v::vs) h2) (updO fr o.dst v) h')
def wpRun (P:Program) (ch:Nat->Bool) (Q:Fr->z00->Prop):List Oper->Fr->z00->Prop
 | [],fr,h=>Q fr h
 | o::l,fr,h=>wpOpF P (byO ch o.dst) o.op (aEv fr) h (λv h'=>wpRun P ch Q l (updO fr o.dst v) h')
def z4r (vs:List AV) (K:List AV->Prop):Prop:=K vs
noncomputable def frN:List Nat->Nat->List AV->Fr
 | [],_,_=>λ_=>.und
 | k::L,n,vs=>λi=>Bool.rec (frN L (n+1) vs i) (nth vs n) (Nat.beq i k)
def wpSp (o:Option (List Nat)) (fr:Fr) (K:Fr->Prop):Prop:=match o with | none=>K fr | some L=>z4r (L.map fr) (λvs=>K (frN L 0 vs))
theorem frN_spec (fr:Fr) (pre:List AV):∀ (L:List Nat) (i:Nat),frN L pre.length (pre++L.map fr) i=.und\/frN L pre.length (pre++L.map fr) i=fr i:=by
 intro L
 induction L generalizing pre with
 | nil=>intro i;exact Or.inl rfl
 | cons k L ih=>
  intro i;simp only [frN]
  cases hb:Nat.beq i k with
  | true=>
   have e:=Nat.eq_of_beq_eq_true hb;subst e
   right
   simp [nth]
  | false=>
   have:=ih (pre++[fr k]) i;simpa using this
def wpGs (P:Program) (ch:Nat->Bool) (ops:Array Oper) (sp:Nat->Option (List Nat)) (Q:Fr->z00->Prop):Nat->List (Option (Nat×Bool)×List Oper)->Fr->z00->Prop
 | _,[],fr,h=>Q fr h
 | n,(none,l)::gs,fr,h=>wpRun P ch (λfr' h'=>wpSp (sp n) fr' (λfr2=>wpGs P ch ops sp Q (n+1) gs fr2 h')) l fr h
 | n,(some (j,want),l)::gs,fr,h=>match (ops[j]?).bind (·.dst) with
  | some d=>match l.all (λo=>o.dst != some d) with
   | true=>zma (λk=>zel (fr d) want (zsg P ch l k fr h) (k (l.map λ_=>.tup []) h)) (λvs h'=>wpSp (sp n) (updN fr l 0 vs) (λfr2=>wpGs P ch ops sp Q (n+1) gs fr2 h'))
   | false=>False
  | none=>False
def wpOps (P:Program) (ch:Nat->Bool) (ops:Array Oper) (sp:Nat->Option (List Nat)) (Q:Fr->z00->Prop) (l:List Oper) (fr:Fr) (h:z00):Prop:=wpGs P ch ops sp Q 0 (zh5 l) fr h
section
variable {P:Program} {B:Nat} {c:Ctx} {h:z00} {w:World} {ds:List Deferred}
theorem z3w.sp {N:Nat} {fr:Fr} {a:Act} (F:z3w N ds c w fr a) {o:Option (List Nat)} {K:Fr->Prop} (H:wpSp o fr K):∃ fr2,z3w N ds c w fr2 a/\K fr2:=by
 cases o with
 | none=>exact ⟨fr,F,H⟩
 | some L=>
  refine ⟨_,⟨F.1,F.2.1,λi=>?_⟩,H⟩;rcases frN_spec fr [] L i with e | e
  ·simp only [List.length_nil,List.nil_append] at e;rw [e];simp [VRel]
  ·simp only [List.length_nil,List.nil_append] at e;rw [e];exact F.2.2 i
theorem z3w.mono {N:Nat} {c':Ctx} {w':World} {fr:Fr} {a:Act} (F:z3w N ds c w fr a) (E:Ext B c w c' w'):z3w N ds c' w' fr a:=⟨F.1,F.2.1,λi=>VRel.mono E (F.2.2 i)⟩
theorem z3w.ev {N:Nat} {fr:Fr} {a:Act} (F:z3w N ds c w fr a) (G:GlR c w) (x:Operand):VRel c w (aEv fr x) (a.eval x):=by
 cases x with
 | tmp t=>exact F.2.2 t
 | const v=>exact ztl c w v
 | func f=>simp only [aEv,Act.eval,VRel];exact ⟨#[],#[],rfl,rfl,rfl⟩
 | global g=>simp only [aEv,Act.eval,VRel];exact ⟨g,0,rfl,G g⟩
theorem z3w.put {N:Nat} {fr:Fr} {a:Act} {d:Option Nat} {v:AV} {u:Value} (F:z3w N ds c w fr a) (hd:∀ k,d=some k->k<N) (hv:VRel c w v u):z3w N ds c w (updO fr d v) (a.put d u):=by
 cases d with
 | none=>exact F
 | some k=>
  have hk:=hd k rfl;refine ⟨by simpa [Act.put] using F.1,by simpa [Act.put] using F.2.1,λi=>?_⟩;simp only [zsb,zsc,Act.put];by_cases hi:i=k
  ·subst hi;rw [if_pos rfl];have:(a.tmps.setIfInBounds i u).getD i undef=u:=by
    rw [Array.getD_eq_getD_getElem?,Array.getElem?_setIfInBounds_self_of_lt (by rw [F.1];exact hk)];rfl
   rw [this];exact hv
  ·rw [if_neg hi];have:(a.tmps.setIfInBounds k u).getD i undef=a.tmps.getD i undef:=by
    rw [Array.getD_eq_getD_getElem?,Array.getD_eq_getD_getElem?,Array.getElem?_setIfInBounds_ne (Ne.symm hi)]
   rw [this];exact F.2.2 i
theorem z3w.list {N:Nat} {fr:Fr} {a:Act} (F:z3w N ds c w fr a) (G:GlR c w) (xs:List Operand):LRel c w (xs.map (aEv fr)) (xs.map a.eval):=by
 induction xs with
 | nil=>simp [LRel]
 | cons x xs ih=>simp only [List.map_cons,LRel];exact ⟨_,_,rfl,F.ev G x,ih⟩
theorem z3w.parts {N:Nat} {fr:Fr} {a:Act} (F:z3w N ds c w fr a) (G:GlR c w) (ps:List (Nat×Operand)):PRel c w (ps.map λp=>(p.1,aEv fr p.2)) (ps.map λp=>(p.1,a.eval p.2)):=by
 induction ps with
 | nil=>simp [PRel]
 | cons p ps ih=>simp only [List.map_cons,PRel];exact ⟨_,_,rfl,F.ev G p.2,ih⟩
theorem z3w.opt {N:Nat} {fr:Fr} {a:Act} (F:z3w N ds c w fr a) (G:GlR c w) (x:Option Operand):zsh c w (x.map (aEv fr)) (x.map a.eval):=by
 cases x with
 | none=>exact Or.inl ⟨rfl,rfl⟩
 | some x=>exact Or.inr ⟨_,_,rfl,rfl,F.ev G x⟩
def Then (B:Nat) (c:Ctx) (w:World) (a:Act) (d:Option Nat) (K:AV->z00->Prop) (next:Act->World->Prop):Prop:=
 ∀ c' v h' w' u,Ext B c w c' w'->WRel B c' h' w'->VRel c' w' v u->K v h'->next (a.put d u) w'
theorem ziq {o:Oper} {a:Act} {next:Act->World->Prop} {Q:Exit->Act->World->Prop} {ro:Option Nat} (hnd:∀ q,o.op≠.defer q) (h:o.uponIn (z5d ro) 0 P a next Q ((execOp a.eval o).run P w)):o.wpIn (z5d ro) 0 P a w next Q:=by
 refine ⟨λ_ _=>trivial,?_⟩;rw [Oper.semAt_eq _ _ _ hnd];exact h
theorem z1f {o:Oper} {a:Act} {K:AV->z00->Prop} {next:Act->World->Prop} {Q:Exit->Act->World->Prop} {s:Sem Value} {ro:Option Nat} (hnd:∀ q,o.op≠.defer q) (he:execOp a.eval o=(do pure (.value (← s)))) (D:Does P B c w s K) (hK:Then B c w a o.dst K next) :
  o.wpIn (z5d ro) 0 P a w next Q:=by
 obtain ⟨c',u,v,h',w',hr,E,W',hv,hk⟩:=D;refine ziq hnd ?_;rw [he];simp only [Sem.run_bind,hr,Result.andThen_ok,Sem.run_pure,Oper.uponIn];exact hK c' v h' w' u E W' hv hk
theorem zc3 {o:Oper} {a:Act} {K:AV->z00->Prop} {next:Act->World->Prop} {Q:Exit->Act->World->Prop} {s:Sem Value} {ro:Option Nat} (hnd:∀ q,o.op≠.defer q) (he:(execOp a.eval o).run P w=(s.run P w).andThen λv w'=>.ok (.value v) w') (D:Does P B c w s K) (hK:Then B c w a o.dst K next) :
  o.wpIn (z5d ro) 0 P a w next Q:=by
 obtain ⟨c',u,v,h',w',hr,E,W',hv,hk⟩:=D;refine ziq hnd ?_;rw [he];simp only [hr,Result.andThen_ok,Oper.uponIn];exact hK c' v h' w' u E W' hv hk
theorem zq5 {b o:Nat} {L:Loop} (hb:w.heap[b]?=some (.loop L)):w.cell? ⟨b,o,none⟩=none:=by
 simp [World.cell?,hb]
theorem WRel.ztr (W:WRel B c h w) {id b N:Nat} {st:LoopState} {pe:Option Code} {ps:Array Tmp} {asn bd:Code} {fr:Fr} {L L':Loop} (hm:c.m id=some b) (ho:h.objs id=some (.loop st pe N ps asn bd fr)) (hL:w.heap[b]?=some (.loop L))
  (e1:L'.params=L.params) (e2:L'.assign=L.assign) (e3:L'.body=L.body) (e4:L'.tmps=L.tmps) {st':LoopState} {pe':Option Code} (e5:L'.state=st') (e6:L'.pending=pe') :
  Ext B c w c (w.putObj b (.loop L'))/\WRel B c (h.put id (.loop st' pe' N ps asn bd fr)) (w.putObj b (.loop L')):=by
 subst e5 e6;obtain ⟨L0,g1,g2,g3,g4,g5,g6,g7,g8⟩:=W.obj id b _ hm ho;rw [hL] at g1;simp only [Option.some.injEq,Obj.loop.injEq] at g1;subst g1;have hbl:=W.mlt id b hm;have hnew:(w.putObj b (.loop L')).heap[b]?=some (.loop L'):=World.putObj_heap_same hbl.2.2;have hold:∀ k,k≠b->(w.putObj b (.loop L')).heap[k]?=w.heap[k]?:=λk hk=>World.putObj_heap_other hk;have E:Ext B c w c (w.putObj b (.loop L')):=by
  refine ⟨⟨λ_ _ x=>x,λ_ _ x=>x,⟨rfl,rfl,rfl,by simp,λk hk=>hold k (by omega)⟩,λk o hk=>?_,λk ty n hs=>?_⟩,λk hk=>?_⟩
  ·by_cases e:k=b
   ·subst e;rw [zq5 hL,zq5 hnew]
   ·exact World.cell?_of_block (a:=⟨k,o,none⟩) (hold k e)
  ·obtain ⟨C,h1,h2⟩:=hs;have e:k≠b:=by rintro rfl;rw [hL] at h1;cases h1
   exact ⟨C,by rw [hold k e,h1],h2⟩
  ·have e:k≠b:=by rintro rfl;unfold Dfr at hk;rw [hL] at hk;cases hk
   unfold Dfr at hk ⊢;rw [hold k e,hk]
 refine ⟨E,⟨λi k hi=>?_,?_,?_,λk o hk=>?_,?_,?_,W.gl.mono E⟩⟩
 ·have:=W.mlt i k hi;exact ⟨this.1,this.2.1,by simpa using this.2.2⟩
 ·intro i j k hi hj h1 h2;refine W.inj i j k hi hj ?_ ?_
  ·simp only [z00.z2x] at h1;split at h1
   ·rename_i e;subst e;rw [ho];simp
   ·exact h1
  ·simp only [z00.z2x] at h2;split at h2
   ·rename_i e;subst e;rw [ho];simp
   ·exact h2
 ·intro i k o hi hio;simp only [z00.z2x] at hio;split at hio
  ·rename_i e;subst e;rw [hm] at hi;cases hi;cases hio;exact ⟨L',hnew,rfl,rfl,by rw [e1,g4],by rw [e2,g5],by rw [e3,g6],by rw [e4,g7],λi=>by rw [e4];exact VRel.mono E (g8 i)⟩
  ·rename_i e;have hne:k≠b:=by
    rintro rfl;exact e (W.inj i id k hi hm (by rw [hio];simp) (by rw [ho];simp))
   exact (W.obj i k o hi hio).keep E (hold k hne) (λ_ y=>y)
 ·have:=W.im k o hk;simpa using this
 ·intro i hi;simp only [z00.zpi] at hi;simp only [z00.z2x];split
  ·rename_i e;subst e;have:=(W.mlt i b hm).1;omega
  ·exact W.fresh i hi
 ·simpa using W.base
theorem zs6 {N:Nat}:∀ (ps:List Tmp) (args:List AV) (vs:List Value) (fr:Fr) (T:Array Value),(ps.all λp=>Nat.blt p N)=true->LRel c w args vs->args.length=ps.length->T.size=N->(∀ i,VRel c w (fr i) (T.getD i undef))->
  ((ps.zip vs).foldl (λt (p:Tmp×Value)=>t.setIfInBounds p.1 p.2) T).size=N/\∀ i,VRel c w (zi5 ps args fr i) (((ps.zip vs).foldl (λt (p:Tmp×Value)=>t.setIfInBounds p.1 p.2) T).getD i undef)
 | [],args,vs,fr,T,_,_,hl,hs,hr=>by
  have:args=[]:=List.eq_nil_of_length_eq_zero (by simpa using hl);subst this;exact ⟨by simpa using hs,by simpa [zi5] using hr⟩
 | p::ps,[],vs,fr,T,_,_,hl,_,_=>by simp at hl
 | p::ps,x::xs,vs,fr,T,hp,hL,hl,hs,hr=>by
  simp only [LRel] at hL;obtain ⟨v,vs',rfl,hv,hL⟩:=hL;simp only [List.all_cons,Bool.and_eq_true] at hp;have hpN:p<N:=Nat.le_of_ble_eq_true hp.1;simp only [List.zip_cons_cons,List.foldl_cons,zi5];refine zs6 ps xs vs' (upd fr p x) (T.setIfInBounds p v) hp.2 hL (by simpa using hl) (by simpa using hs) λi=>?_;have:=z3w.put (N:=N) (ds:=[]) (fr:=fr) (a:=⟨T,[]⟩) (d:=some p) (v:=x) (u:=v) ⟨hs,rfl,hr⟩ (λk e=>by cases e;exact hpN) hv;exact this.2.2 i
theorem z9s.sound (W:WRel B c h w) {id b:Nat} {args:List AV} {vs:Array Value} {K:AV->z00->Prop} (hm:c.m id=some b) (hL:LRel c w args vs.toList) (H:z9s P id args h K) :
  ∃ fn tmps asn bd,(Instr.yield b vs).run P w=.ok (.round b fn tmps asn bd) w/\RoundIn Fence.wide 0 P b fn tmps asn bd w (λe w'=>∃ c' u v h',e=.returned u/\Ext B c w c' w'/\WRel B c' h' w'/\VRel c' w' v u/\K v h'):=by
 obtain ⟨N,ps,asn,bd,fr,ho,hl,hp,hna,hnb,H⟩:=H;obtain ⟨L,g1,g2,g3,g4,g5,g6,g7,g8⟩:=W.obj id b _ hm ho;have hvl:=hL.length;have hsz:vs.size=L.params.size:=by rw [g4,<-hl,<-hvl];simp
 refine ⟨_,_,_,_,run_yield g1 hsz,roundIn_of_wpIn trivial ?_⟩;have hfold:(L.params.zip vs).foldl (λtmps (t,a)=>tmps.setIfInBounds t a) L.tmps=(ps.toList.zip vs.toList).foldl (λt (p:Tmp×Value)=>t.setIfInBounds p.1 p.2) L.tmps:=by
  rw [g4,<-Array.foldl_toList,Array.toList_zip]
 obtain ⟨r1,r2⟩:=zs6 (c:=c) (w:=w) ps.toList args vs.toList fr L.tmps hp hL (by simpa using hl) g7 g8;rw [hfold,g5,g6];refine wpIn_mono (H (some b) [] B c w _ (Or.inr hna) W ⟨r1,rfl,r2⟩) ?_;rintro e a1 w1 ⟨Ds,c1,fr1,h1,ae,rfl,E1,W1,F1,-,hq⟩
 cases ae with
 | exit id'=>exact hq.elim
 | ret=>exact hq.elim
 | normal=>
  obtain ⟨ho1,hb⟩:=hq;have hm1:=E1.m _ _ hm;obtain ⟨L1,k1,k2,k3,k4,k5,k6,k7,k8⟩:=W1.obj id b _ hm1 ho1;obtain ⟨E2,W2⟩:=W1.ztr (L':={ L1 with state:=.busy }) hm1 ho1 k1 rfl rfl rfl rfl (st':=.busy) (pe':=none) rfl k3;refine ⟨_,run_beginRound k1 k2,?_⟩;have F2:=F1.mono E2;refine wpIn_mono (hb (some b) _ B c1 _ a1 (Or.inr hnb) W2 F2) ?_;rintro e a3 w3 ⟨Ds3,c3,fr3,h3,ae3,rfl,E3,W3,F3,-,hq⟩;have fin:∀ (jump:Option Code) (hk:h3.objs id=some (.loop .busy none N ps asn bd fr)) (K3:K (.bool jump.isNone) (h3.put id (.loop (if jump.isNone then .ready else .done) jump N ps asn bd fr))),
    ∃ v w',(Instr.endRound b jump).run P w3=.ok v w'/\∃ c' u v' h',Ending.returned v=.returned u/\Ext B c w c' w'/\WRel B c' h' w'/\VRel c' w' v' u/\K v' h':=by
   intro jump hk K3;have hm3:=E3.m _ _ hm1;obtain ⟨L3,j1,j2,j3,j4,j5,j6,j7,j8⟩:=W3.obj id b _ hm3 hk;obtain ⟨E4,W4⟩:=W3.ztr (L':={ L3 with state:=if jump.isNone then .ready else .done,pending:=jump }) hm3 hk j1 rfl rfl rfl rfl rfl rfl;exact ⟨_,_,run_endRound jump j1,c3,_,.bool jump.isNone,_,rfl,((E1.trans E2).trans E3).trans E4,W4,by simp [VRel],K3⟩
  cases ae3 with
  | normal=>exact fin none hq.1 hq.2
  | exit id'=>exact fin (some (.exit id')) hq.1 hq.2
  | ret=>exact fin (some .ret) hq.1 hq.2
theorem zb8 {N:Nat} {ro:Option Nat} {by_:Bool} {o:Oper} {fr:Fr} {a:Act} {K:AV->z00->Prop} {next:Act->World->Prop} {Q:Exit->Act->World->Prop} (W:WRel B c h w) (F:z3w N ds c w fr a)
  (H:wpOp P by_ o.op (aEv fr) h K) (hK:Then B c w a o.dst K next):o.wpIn (z5d ro) 0 P a w next Q:=by
 have hnd:∀ q,o.op≠.defer q:=by intro q e;rw [e] at H;exact H
 cases ho:o.op <;> rw [ho] at H <;> simp only [wpOp] at H <;> (try (exact H.elim))
 case move x=>
  refine z1f hnd (s:=pure (a.eval x)) (K:=K) (B:=B) (c:=c) ?_ (Does.z3e W (by simp) (F.ev W.gl x) H) hK;simp only [execOp,ho];rfl
 case assign x=>
  refine z1f hnd (s:=pure (a.eval x)) (K:=K) (B:=B) (c:=c) ?_ (Does.z3e W (by simp) (F.ev W.gl x) H) hK;simp only [execOp,ho];rfl
 case pick q x y=>
  unfold zri at H;split at H
  ·rename_i t ht;have hq:=F.ev W.gl q;rw [ht] at hq;have hq':=hq.z7o;refine z1f hnd (s:=pure (if t then a.eval x else a.eval y)) (K:=K) (B:=B) (c:=c) ?_ (Does.z3e W rfl ?_ H) hK
   ·simp only [execOp,ho,hq',asBool];cases t <;> rfl
   ·cases t
    ·exact F.ev W.gl y
    ·exact F.ev W.gl x
  ·exact H.elim
 case alloc t=>
  split at H <;> (try (exact H.elim));rename_i z hz;exact z1f hnd (by simp only [execOp,ho]) (zr6 W hz H) hK
 case box t x=>exact z1f hnd (by simp only [execOp,ho]) (pBox_sound W (F.ev W.gl x) H) hK
 case build t parts=>
  split at H <;> (try (exact H.elim));rename_i pl z hpl hz;exact z1f hnd (by simp only [execOp,ho]) (zr8 (vs:=parts.map λ(i,x)=>(i,a.eval x)) W hpl hz (by simpa using F.parts W.gl parts.toList) H) hK
 case buildSlice t len parts=>
  split at H <;> (try (exact H.elim));rename_i T hT;split at H <;> (try (exact H.elim));rename_i z hz;refine z1f hnd (by simp only [execOp,ho]) (zm6 (vs:=parts.map λ(i,x)=>(i,a.eval x)) W hT hz (λe=>?_) (by simpa using F.parts W.gl parts.toList) H.2) hK;have:=H.1 e;simp [this]
 case load t x=>
  split at H <;> (try (exact H.elim));rename_i k hk;exact z1f hnd (by simp only [execOp,ho]) (ztn W hk (F.ev W.gl x) H) hK
 case store t x y=>
  split at H <;> (try (exact H.elim));rename_i n hn;obtain ⟨c',h',w',hr,E,W',hk⟩:=zrk (P:=P) W hn (F.ev W.gl x) (F.ev W.gl y) H;refine ziq hnd ?_;have he:execOp a.eval o=(do Instr.storeAt t (a.eval x) (a.eval y);pure .skip):=by simp only [execOp,ho]
  rw [he];simp only [Sem.run_bind,hr,Result.andThen_ok,Sem.run_pure,Oper.uponIn];exact hK c' .und h' w' undef E W' (by simp [VRel]) hk
 case nilCheck x=>
  obtain ⟨hk,hu⟩:=pNil_sound W (F.ev W.gl x) H;refine z1f hnd (s:=pure (a.eval x)) (K:=K) (B:=B) (c:=c) ?_ (Does.z3e W (by simp) (F.ev W.gl x) hk) hK;rcases hu with ⟨b,hb⟩ | ⟨f,p,q,hb⟩ <;> simp only [execOp,ho,hb] <;> rfl
 case binOp op t x y t2=>
  cases hr:binA (cmpK P t) op (aEv fr x) (aEv fr y) with
  | none=>simp [hr] at H
  | some r=>
   simp only [hr,z7j] at H;obtain ⟨z,hz,hrz⟩:=binA_sound (xo:=x) (yo:=y) rfl (F.ev W.gl x) (F.ev W.gl y) hr;exact z1f hnd (by simp only [execOp,ho]) (Does.z3e W hz hrz H) hK
 case unOp op t x=>
  cases hr:unA op (aEv fr x) with
  | none=>simp [hr] at H
  | some r=>
   simp only [hr,z7j] at H;obtain ⟨z,hz,hrz⟩:=unA_sound (P:=P) (F.ev W.gl x) hr;exact z1f hnd (by simp only [execOp,ho]) (Does.z3e W hz hrz H) hK
 case convert s d x=>
  split at H <;> (try (exact H.elim));rename_i k hk;exact z1f hnd (by simp only [execOp,ho]) (ztm W hk (F.ev W.gl x) H) hK
 case makeSlice t l k=>
  split at H <;> (try (exact H.elim));rename_i T hT;split at H <;> (try (exact H.elim));rename_i z hz;exact z1f hnd (by simp only [execOp,ho]) (zor W hT hz (F.ev W.gl l) (F.ev W.gl k) H) hK
 case slice t x lo hi mx=>
  cases mx with
  | some m=>exact H.elim
  | none=>
   simp only at H;split at H <;> (try (exact H.elim))
   ·rename_i ht;exact z1f hnd (by simp only [execOp,ho,Option.map_none]) (zl1 W ht (F.ev W.gl x) (F.opt W.gl lo) (F.opt W.gl hi) H) hK
   ·rename_i e ht;split at H <;> (try (exact H.elim));rename_i n hn;exact z1f hnd (by simp only [execOp,ho,Option.map_none]) (zmc W ht hn (F.ev W.gl x) (F.opt W.gl lo) (F.opt W.gl hi) H) hK
 case fieldAddr t x f=>
  split at H <;> (try (exact H.elim));rename_i off hoff;exact z1f hnd (by simp only [execOp,ho]) (zj4 W hoff (F.ev W.gl x) H) hK
 case field t x f=>
  split at H <;> (try (exact H.elim));rename_i off k hk;exact z1f hnd (by simp only [execOp,ho]) (zrd W hk (F.ev W.gl x) H) hK
 case indexAddr t x i=>
  split at H <;> (try (exact H.elim));rename_i k hk;exact z1f hnd (by simp only [execOp,ho]) (zj5 W hk (F.ev W.gl x) (F.ev W.gl i) H) hK
 case index t x i=>
  split at H <;> (try (exact H.elim));rename_i ht;exact z1f hnd (by simp only [execOp,ho]) (zkz W ht (F.ev W.gl x) (F.ev W.gl i) H) hK
 case extract x i=>exact z1f hnd (by simp only [execOp,ho]) (zm8 W (F.ev W.gl x) H) hK
 case makeFunc f first cap=>
  refine z1f hnd (s:=pure (.func f (first.map a.eval) (cap.map a.eval))) (K:=K) (B:=B) (c:=c) ?_ (Does.z3e W rfl ?_ H) hK
  ·simp only [execOp,ho,Instr.makeFunc]
  ·simp only [VRel];exact ⟨_,_,rfl,by simpa using F.list W.gl first.toList,by simpa using F.list W.gl cap.toList⟩
 case makeMap t r=>
  cases r with
  | some _=>exact H.elim
  | none=>exact z1f hnd (by simp only [execOp,ho,Option.map_none]) (zmb (t:=t) W H) hK
 case lookup t m k ok=>
  cases ok <;> simp only at H <;> (try (exact H.elim));unfold z3k at H;split at H <;> (try (exact H.elim));rename_i kz hkz;exact z1f hnd (by simp only [execOp,ho]) (zoq (P:=P) W (kk:=kz.1) (z:=kz.2) hkz (F.ev W.gl m) (F.ev W.gl k) H) hK
 case mapEntry t m k=>
  unfold z5x at H;split at H <;> (try (exact H.elim));rename_i kz hkz;exact z1f hnd (by simp only [execOp,ho]) (zl0 (P:=P) W (kk:=kz.1) (z:=kz.2) hkz (F.ev W.gl m) (F.ev W.gl k) H) hK
 case entryStore t m k v=>
  obtain ⟨c',h',w',hr,E,W',hk⟩:=zhy (P:=P) (t:=t) W (F.ev W.gl m) (F.ev W.gl k) (F.ev W.gl v) H;refine ziq hnd ?_;have he:execOp a.eval o=(do Instr.entryStore t (a.eval m) (a.eval k) (a.eval v);pure .skip):=by simp only [execOp,ho]
  rw [he];simp only [Sem.run_bind,hr,Result.andThen_ok,Sem.run_pure,Oper.uponIn];exact hK c' .und h' w' undef E W' (by simp [VRel]) hk
 case mapUpdate t m k v=>
  unfold zbr at H;split at H <;> (try (exact H.elim));rename_i kz hkz;obtain ⟨c',h',w',hr,E,W',hk⟩:=zot (P:=P) W (kk:=kz.1) (z:=kz.2) hkz (F.ev W.gl m) (F.ev W.gl k) (F.ev W.gl v) H;refine ziq hnd ?_;have he:execOp a.eval o=(do Instr.mapUpdate t (a.eval m) (a.eval k) (a.eval v);pure .skip):=by simp only [execOp,ho]
  rw [he];simp only [Sem.run_bind,hr,Result.andThen_ok,Sem.run_pure,Oper.uponIn];exact hK c' .und h' w' undef E W' (by simp [VRel]) hk
 case makeInterface t x=>
  obtain ⟨hi,H⟩:=H;unfold isIface at hi
  cases hd:P.underlying t with
  | none=>simp [hd] at hi
  | some d=>
   refine z1f hnd (s:=Instr.makeInterface t (a.eval x)) (K:=K) (B:=B) (c:=c) (by simp only [execOp,ho]) (Does.z3e W (u:=.iface t (a.eval x)) ?_ ?_ H) hK
   ·rw [hd] at hi;cases d <;> simp [Instr.makeInterface,run_underlying hd] <;> simp at hi
   ·simp only [VRel];exact ⟨_,rfl,F.ev W.gl x⟩
 case call q=>
  cases hq:q.callee with
  | invoke r m=>simp [hq] at H
  | builtin b=>
   simp only [hq] at H;have hargs:=F.list W.gl q.args.toList;unfold zdg at H;split at H <;> (try (exact H.elim))
   ·rename_i t u s x hts hxs;split at H <;> (try (exact H.elim));rename_i T hT;obtain ⟨hsrc,H⟩:=H;obtain ⟨so,xo,hso⟩:∃ so xo,q.args=#[so,xo]:=by
     have:q.args.toList.length=2:=by have:=congrArg List.length hxs;simpa using this
     match hh:q.args.toList,this with
     | [so,xo],_=>exact ⟨so,xo,by rw [<-Array.toArray_toList (xs:=q.args),hh]⟩
    have hta:q.argTypes=#[t,u]:=by rw [<-Array.toArray_toList (xs:=q.argTypes),hts]
    rw [hso] at hxs;simp at hxs;refine zc3 hnd (s:=Builtin.append_ #[t,u] o.type #[a.eval so,a.eval xo]) (K:=K) (B:=B) (c:=c) ?_ (zoo W hT hsrc (hxs.1▸F.ev W.gl so) (hxs.2▸F.ev W.gl xo) H) hK;unfold execOp;simp only [ho,resolve,hq,hso,hta,invoke,builtin,Sem.run_bind,Sem.run_pure,Result.andThen_ok,List.map_toArray,List.map_cons,List.map_nil]
   ·rename_i t x hts hxs;split at H <;> (try (exact H.elim));rename_i k hk;obtain ⟨xo,hso⟩:∃ xo,q.args=#[xo]:=by
     have:q.args.toList.length=1:=by have:=congrArg List.length hxs;simpa using this
     match hh:q.args.toList,this with
     | [xo],_=>exact ⟨xo,by rw [<-Array.toArray_toList (xs:=q.args),hh]⟩
    have hta:q.argTypes=#[t]:=by rw [<-Array.toArray_toList (xs:=q.argTypes),hts]
    rw [hso] at hxs;simp at hxs;refine zc3 hnd (s:=Builtin.len_ #[t] o.type #[a.eval xo]) (K:=K) (B:=B) (c:=c) ?_ (pLen_sound W hk (hxs▸F.ev W.gl xo) H) hK;unfold execOp;simp only [ho,resolve,hq,hso,hta,invoke,builtin,Sem.run_bind,Sem.run_pure,Result.andThen_ok,List.map_toArray,List.map_cons,List.map_nil]
   ·cases hr:maxA (q.args.toList.map (aEv fr)) with
    | none=>simp [hr] at H
    | some r=>
     simp only [hr,z7j] at H;obtain ⟨z,hz,hrz⟩:=maxA_sound (P:=P) _ _ r q.argTypes o.type hargs hr;have:(q.args.toList.map a.eval).toArray=q.args.map a.eval:=by apply Array.ext';simp
     rw [this] at hz;refine zc3 hnd (s:=Builtin.max_ q.argTypes o.type (q.args.map a.eval)) (K:=K) (B:=B) (c:=c) ?_ (Does.z3e W hz hrz H) hK;unfold execOp;simp only [ho,resolve,hq,invoke,builtin,Sem.run_bind,Sem.run_pure,Result.andThen_ok]
   ·cases hr:minA (q.args.toList.map (aEv fr)) with
    | none=>simp [hr] at H
    | some r=>
     simp only [hr,z7j] at H;obtain ⟨z,hz,hrz⟩:=minA_sound (P:=P) _ _ r q.argTypes o.type hargs hr;have:(q.args.toList.map a.eval).toArray=q.args.map a.eval:=by apply Array.ext';simp
     rw [this] at hz;refine zc3 hnd (s:=Builtin.min_ q.argTypes o.type (q.args.map a.eval)) (K:=K) (B:=B) (c:=c) ?_ (Does.z3e W hz hrz H) hK;unfold execOp;simp only [ho,resolve,hq,invoke,builtin,Sem.run_bind,Sem.run_pure,Result.andThen_ok]
  | value f=>
   have main:∀ (g:FuncId) (first cap:List AV),VRel c w (.fn (.func g) first cap) (a.eval f)->z01 P g (first++q.args.toList.map (aEv fr)++cap) h K->o.wpIn (z5d ro) 0 P a w next Q:=by
    intro g first cap hfv H;simp only [VRel] at hfv;obtain ⟨fs,cs,hfe,hfirst,hcap⟩:=hfv;have hargs:=F.list W.gl q.args.toList;rcases H with H | H
    case inr=>
     obtain ⟨c',u,v,h',w',hr,E,W',hv,hk⟩:=H B c w (fs.toList++q.args.toList.map a.eval++cs.toList) W ((hfirst.append hargs).append hcap);have hta:(fs.toList++q.args.toList.map a.eval++cs.toList).toArray=fs++q.args.map a.eval++cs:=by
      apply Array.ext';simp
     rw [hta] at hr;have he:(execOp a.eval o).run P w=.ok (.value u) w':=by
      simp only [execOp,ho,resolve,hq,hfe,Deferred.ofValue,Sem.run_bind,Sem.run_pure,Result.andThen_ok,invoke];exact hr
     refine ziq hnd ?_;rw [he];simp only [Oper.uponIn];exact hK c' v h' w' u E W' hv hk
    obtain ⟨hcall,H⟩:=H;have HC:=H B c w (fs.toList++q.args.toList.map a.eval++cs.toList) W ((hfirst.append hargs).append hcap);have he:(execOp a.eval o).run P w=.ok (.enter g (fs++q.args.map a.eval++cs)) w:=by
     simp only [execOp,ho,resolve,hq,hfe,Deferred.ofValue,Sem.run_bind,Sem.run_pure,Result.andThen_ok,invoke];exact hcall _ _
    refine ziq hnd ?_;rw [he];simp only [Oper.uponIn];refine ⟨by simp [z5d,Fence.wide],?_⟩;have hta:(fs.toList++q.args.toList.map a.eval++cs.toList).toArray=fs++q.args.map a.eval++cs:=by
     apply Array.ext';simp
    rw [hta] at HC;refine CallsIn.mono (zbb.2 HC) ?_;rintro e w' ⟨c',u,v,h',rfl,E,W',hv,hk⟩;exact hK c' v h' w' u E W' hv hk
   have viaF:z7d P (aEv fr f) (q.args.toList.map (aEv fr)) h K->o.wpIn (z5d ro) 0 P a w next Q:=by
    intro H;unfold z7d at H;split at H <;> (try (exact H.elim))
    ·rename_i g first cap hf;exact main g first cap (hf▸F.ev W.gl f) H
    ·rename_i id hf;have hv:=F.ev W.gl f;rw [hf] at hv;simp only [VRel] at hv;obtain ⟨b,hm,hfe⟩:=hv;obtain ⟨fn,tmps,asn,bd,hy,hR⟩:=z9s.sound (P:=P) (vs:=q.args.map a.eval) W hm (by simpa using F.list W.gl q.args.toList) H;have he:(execOp a.eval o).run P w=.ok (.round b fn tmps asn bd) w:=by
      simp only [execOp,ho,resolve,hq,hfe,Deferred.ofValue,Sem.run_bind,Sem.run_pure,Result.andThen_ok,invoke,callFunc];simpa using hy
     refine ziq hnd ?_;rw [he];simp only [Oper.uponIn];refine ⟨by simp [z5d,Fence.wide],RoundIn.mono (show RoundIn (z5d ro) 0 P b fn tmps asn bd w _ from hR) ?_⟩;rintro e w' ⟨c',u,v,h',rfl,E,W',hv,hk⟩;exact hK c' v h' w' u E W' hv hk
   cases f with
   | func g=>
    simp only [hq] at H;exact main g [] [] (F.ev W.gl (.func g)) (by simpa using H)
   | tmp t=>simp only [hq] at H;exact viaF H
   | const v=>simp only [hq] at H;exact viaF H
   | global v=>simp only [hq] at H;exact viaF H
theorem nanB_of (k:FloatKind) (a b t:Nat):nanB k ((Question.nanBits k a b).cut t):=by
 cases k
 ·exact ⟨t%2,(t/2)%(2 ^ 23-1),Nat.mod_lt _ (by omega),Nat.mod_lt _ (by decide),rfl⟩
 ·exact ⟨t%2,(t/2)%(2 ^ 52-1),Nat.mod_lt _ (by omega),Nat.mod_lt _ (by decide),rfl⟩
theorem zlp {N:Nat} {ro:Option Nat} {by_:Bool} {o:Oper} {fr:Fr} {a:Act} {K:AV->z00->Prop} {next:Act->World->Prop} {Q:Exit->Act->World->Prop} (W:WRel B c h w) (F:z3w N ds c w fr a)
  (H:wpOpF P by_ o.op (aEv fr) h K) (hK:Then B c w a o.dst K next):o.wpIn (z5d ro) 0 P a w next Q:=by
 have hnd:∀ q,o.op≠.defer q:=by intro q e;rw [e] at H;exact H
 unfold wpOpF at H;split at H
 ·rename_i op t x y t2 ho;split at H
  ·rename_i har;split at H
   ·rename_i k hk;have hx:=F.ev W.gl x;have hy:=F.ev W.gl y;unfold pFArith at H;split at H <;> (try (exact H.elim));rename_i k1 a1 k2 b1 hxe hye;rw [hxe] at hx;rw [hye] at hy;simp only [VRel] at hx hy;obtain ⟨rfl,h2,H⟩:=H;subst h2;have hg:=zda (P:=P) (w:=w) op t x y (.float k2 a1) (.float k2 b1) (by simp) (by simp);have he:execOp a.eval o=(do pure (.value (← (do eqGuard op t x y (a.eval x) (a.eval y);binOp op t (a.eval x) (a.eval y):Sem Value)))):=by
     simp only [execOp,ho]
    refine z1f hnd (K:=K) (B:=B) (c:=c) he ?_ hK;rw [hx,hy];split at H
    ·rename_i r hr;refine Does.z3e W (u:=.float k2 r) ?_ ?_ H
     ·rw [Sem.run_bind,hg];exact run_float_arith w op t k2 a1 b1 r hr
     ·simp [VRel]
    ·rename_i hr;have hn:=nanB_of k2 a1 b1 (w.tape w.drawn (.nanBits k2 a1 b1));refine ⟨c,.float k2 ((Question.nanBits k2 a1 b1).cut (w.tape w.drawn (.nanBits k2 a1 b1))),.flt k2 ((Question.nanBits k2 a1 b1).cut (w.tape w.drawn (.nanBits k2 a1 b1))),h,w.drew,?_,Ext.drew B c w,W.drew,by simp [VRel],H _ hn⟩;rw [Sem.run_bind,hg];have hb:(binOp op t (.float k2 a1) (.float k2 b1)).run P w=((choose (.nanBits k2 a1 b1)).run P w).andThen λn w'=>.ok (.float k2 n) w':=by
      cases op <;> simp only [arithOp,Bool.false_eq_true] at har <;> simp only [floatBits] at hr <;> simp [binOp,Op.floatArith,hr]
     simp only [Result.andThen_ok,hb];rw [run_choose_drew];simp [Question.forced]
   ·exact zb8 (by_:=by_) W F (by rw [ho];exact H) hK
  ·exact zb8 (by_:=by_) W F (by rw [ho];exact H) hK
 ·exact zb8 W F H hK
end
end
section
open Go.RowKit
def zl7 (by_:Bool):Op->Bool
 | .move _ | .assign _ | .pick _ _ _ | .build _ _ | .load _ _ | .nilCheck _ | .binOp _ _ _ _ _ | .unOp _ _ _ | .convert _ _ _ | .slice _ _ _ _ _ | .fieldAddr _ _ _ | .field _ _ _ | .indexAddr _ _ _ | .index _ _ _ | .extract _ _ | .makeFunc _ _ _ | .makeInterface _ _=>true
 | .box _ _=>by_
 | .buildSlice _ len _=>by_||len == 0
 | .call q=>match q.callee with | .builtin .len | .builtin .max | .builtin .min=>true | _=>false
 | _=>false
def memOp:Op->Bool
 | .load _ _ | .convert _ _ _=>true
 | _=>false
section
variable {P:Program} {h h':z00}
theorem zhx {k:Option Nat} {cs:List AV} {off:Nat} {K:AV->Prop} (H:z03 k cs off K):∃ v,K v/\∀ K':AV->Prop,K' v->z03 k cs off K':=by
 unfold z03 at H ⊢
 cases k with
 | none=>
  cases hv:cs[off]? with
  | none=>simp [hv] at H
  | some v=>simp only [hv] at H;exact ⟨v,H,λK' hk=>by simpa using hk⟩
 | some n=>exact ⟨_,H.2,λK' hk=>⟨H.1,hk⟩⟩
theorem pLoad_det {k:Option Nat} {x:AV} {K:AV->Prop} (H:z0t k x h K):∃ v,K v/\∀ K':AV->Prop,K' v->z0t k x h K':=by
 unfold z0t at H ⊢;cases x <;> simp only at H ⊢ <;> (try (exact H.elim))
 ·rename_i id off
  cases ho:h.objs id with
  | none=>simp [ho] at H
  | some o=>cases o <;> simp only [ho] at H ⊢ <;> first | exact H.elim | exact zhx H
 ·exact zhx H
theorem pConv_det {ck:CvK} {x:AV} {K:AV->Prop} (H:z9e ck x h K):∃ v,K v/\∀ K':AV->Prop,K' v->z9e ck x h K':=by
 cases ck with
 | int k=>cases x <;> simp only [z9e] at H ⊢ <;> first | exact H.elim | exact ⟨_,H,λ_ hk=>hk⟩
 | same=>cases x <;> simp only [z9e] at H ⊢ <;> first | exact H.elim | exact ⟨_,H,λ_ hk=>hk⟩
 | i2f k=>cases x <;> simp only [z9e] at H ⊢ <;> first | exact H.elim | exact ⟨_,H,λ_ hk=>hk⟩
 | f2i k=>
  cases x <;> simp only [z9e] at H ⊢ <;> (try (exact H.elim));rename_i s b
  cases hf:floatToIntVal s b k with
  | none=>simp [hf] at H
  | some n=>simp only [hf] at H ⊢;exact ⟨_,H,λ_ hk=>hk⟩
 | bytesStr n=>
  have main:(match z1v n x h with | some es=>(match bytesOf es with | some s=>K (.str s) | none=>False) | none=>False)->∃ v,K v/\∀ K':AV->Prop,K' v->(match z1v n x h with | some es=>(match bytesOf es with | some s=>K' (.str s) | none=>False) | none=>False):=by
   intro H
   cases hs:z1v n x h with
   | none=>simp [hs] at H
   | some es=>
    cases hb:bytesOf es with
    | none=>simp [hs,hb] at H
    | some s=>simp only [hs,hb] at H;exact ⟨_,H,λK' hk=>by simpa [hs,hb] using hk⟩
  cases x <;> first | exact H.elim | exact main H
theorem zou {x:AV} {lo hi:Option AV} {K:AV->Prop} (H:zay x lo hi K):∃ v,K v/\∀ K':AV->Prop,K' v->zay x lo hi K':=by
 unfold zay at H ⊢;cases x <;> simp only at H ⊢ <;> (try (exact H.elim));rename_i s;cases h1:bnd 0 lo <;> cases h2:bnd s.length hi <;> simp only [h1,h2] at H ⊢ <;> first | exact H.elim | exact ⟨_,H.2.2.2,λK' hk=>⟨H.1,H.2.1,H.2.2.1,hk⟩⟩
theorem zrj {n:Nat} {x:AV} {lo hi:Option AV} {K:AV->Prop} (H:z4n n x lo hi K):∃ v,K v/\∀ K':AV->Prop,K' v->z4n n x lo hi K':=by
 unfold z4n at H ⊢;cases x <;> simp only at H ⊢ <;> (try (exact H.elim))
 ·cases h1:bnd 0 lo <;> cases h2:bnd 0 hi <;> simp only [h1,h2] at H ⊢ <;> first | exact H.elim | exact ⟨_,H.2.2,λK' hk=>⟨H.1,H.2.1,hk⟩⟩
 ·cases h1:bnd 0 lo <;> cases h2:bnd 0 hi <;> simp only [h1,h2] at H ⊢ <;> first | exact H.elim | exact ⟨_,H.2.2,λK' hk=>⟨H.1,H.2.1,hk⟩⟩
 ·rename_i sz es;cases h1:bnd 0 lo <;> cases h2:bnd es.length hi <;> simp only [h1,h2] at H ⊢ <;> first | exact H.elim | exact ⟨_,H.2.2.2.2,λK' hk=>⟨H.1,H.2.1,H.2.2.1,H.2.2.2.1,hk⟩⟩
 ·rename_i id sz es;cases h1:bnd 0 lo <;> cases h2:bnd es.length hi <;> simp only [h1,h2] at H ⊢ <;> first | exact H.elim | exact ⟨_,H.2.2.2.2,λK' hk=>⟨H.1,H.2.1,H.2.2.1,H.2.2.2.1,hk⟩⟩
 ·rename_i id off len sz;cases h1:bnd 0 lo <;> cases h2:bnd len hi <;> simp only [h1,h2] at H ⊢ <;> (try (exact H.elim));obtain ⟨g1,g2,g3,g4,H⟩:=H;split at H
  ·rename_i e;exact ⟨_,H,λK' hk=>⟨g1,g2,g3,g4,by rw [if_pos e];exact hk⟩⟩
  ·split at H
   ·rename_i e1 e2;exact ⟨_,H,λK' hk=>⟨g1,g2,g3,g4,by rw [if_neg e1,if_pos e2];exact hk⟩⟩
   ·rename_i e1 e2;exact ⟨_,H,λK' hk=>⟨g1,g2,g3,g4,by rw [if_neg e1,if_neg e2];exact hk⟩⟩
theorem zm9 {ik:IxK} {x i:AV} {K:AV->Prop} (H:z0o ik x i K):∃ v,K v/\∀ K':AV->Prop,K' v->z0o ik x i K':=by
 unfold z0o at H ⊢;cases ik <;> cases x <;> (try (exact H.elim)) <;> cases i <;> (try (exact H.elim)) <;> (try simp only at H ⊢)
 ·rename_i n sz es k q
  cases he:es[q.toNat]? with
  | none=>simp [he] at H
  | some e=>simp only [he] at H ⊢;exact ⟨_,H.2.2,λK' hk=>⟨H.1,H.2.1,hk⟩⟩
 ·rename_i n id sz es k q
  cases he:es[q.toNat]? with
  | none=>simp [he] at H
  | some e=>simp only [he] at H ⊢;exact ⟨_,H.2.2,λK' hk=>⟨H.1,H.2.1,hk⟩⟩
 ·exact ⟨_,H.2.2.2,λK' hk=>⟨H.1,H.2.1,H.2.2.1,hk⟩⟩
 ·exact ⟨_,H.2.2,λK' hk=>⟨H.1,H.2.1,hk⟩⟩
 ·exact ⟨_,H.2.2,λK' hk=>⟨H.1,H.2.1,hk⟩⟩
theorem pLen_det {k:LenK} {x:AV} {K:AV->Prop} (H:pLen k x K):∃ v,K v/\∀ K':AV->Prop,K' v->pLen k x K':=by
 unfold pLen at H ⊢;cases k <;> cases x <;> simp only at H ⊢ <;> first | exact H.elim | exact ⟨_,H,λ_ hk=>hk⟩
theorem zgh {o:Option AV} {K:AV->Prop} (H:z8d o K):∃ v,K v/\∀ K':AV->Prop,K' v->z8d o K':=by
 cases o with
 | none=>exact H.elim
 | some v=>exact ⟨v,H,λ_ hk=>hk⟩
theorem zrv {by_:Bool} {o:Op} {ev:Operand->AV} {K:AV->z00->Prop} (hq:zl7 by_ o=true) (H:wpOp P by_ o ev h K):∃ v,K v h/\(∀ K':AV->z00->Prop,K' v h->wpOp P by_ o ev h K')/\(memOp o=false->∀ (h':z00) (K':AV->z00->Prop),K' v h'->wpOp P by_ o ev h' K'):=by
 cases o <;> simp only [zl7,Bool.false_eq_true] at hq <;> simp only [wpOp] at H ⊢
 case move x=>exact ⟨_,H,λ_ hk=>hk,λ_ _ _ hk=>hk⟩
 case assign x=>exact ⟨_,H,λ_ hk=>hk,λ_ _ _ hk=>hk⟩
 case pick q x y=>
  unfold zri at H ⊢;cases hc:ev q <;> simp only [hc] at H ⊢ <;> first | exact H.elim | exact ⟨_,H,λ_ hk=>hk,λ_ _ _ hk=>hk⟩
 case box t x=>
  subst hq;simp only [pBox,if_true] at H ⊢;exact ⟨_,H.2,λ_ hk=>⟨H.1,hk⟩,λ_ _ _ hk=>⟨H.1,hk⟩⟩
 case build t parts=>
  cases h1:zow P t <;> cases h2:zjf P t <;> simp only [h1,h2] at H ⊢ <;> (try (exact H.elim));unfold z4b at H ⊢;rename_i pl z
  cases hf:zez (pl[·]?) z (List.map (λp=>(p.fst,ev p.snd)) parts.toList) with
  | none=>simp [hf] at H
  | some cs=>simp only [hf] at H ⊢;exact ⟨_,H,λ_ hk=>hk,λ_ _ _ hk=>hk⟩
 case buildSlice t len parts=>
  cases h1:slT P t with
  | none=>simp [h1] at H
  | some T=>
   simp only [h1] at H ⊢
   cases h2:zjf P T.e with
   | none=>simp [h2] at H
   | some z=>
    simp only [h2] at H ⊢;obtain ⟨H1,H⟩:=H
    cases len with
    | zero=>simp only [z10] at H ⊢;exact ⟨_,H,λ_ hk=>⟨λ_=>H1 rfl,hk⟩,λ_ _ _ hk=>⟨λ_=>H1 rfl,hk⟩⟩
    | succ n=>
     have hb:by_=true:=by simpa using hq
     subst hb;simp only [z10] at H ⊢;obtain ⟨g1,g2,H⟩:=H
     cases hf:zat T.sz (List.replicate (n+1) z) (List.map (λp=>(p.fst,ev p.snd)) parts.toList) with
     | none=>simp [hf] at H
     | some es=>
      simp only [hf,if_true] at H ⊢;exact ⟨_,H,λ_ hk=>⟨H1,g1,g2,hk⟩,λ_ _ _ hk=>⟨H1,g1,g2,hk⟩⟩
 case load t x=>
  cases h1:ldK P t <;> simp only [h1] at H ⊢ <;> (try (exact H.elim));obtain ⟨v,hv,hk⟩:=pLoad_det H;exact ⟨v,hv,λK' hk'=>hk (λv=>K' v h) hk',by simp [memOp]⟩
 case nilCheck x=>
  unfold pNil at H ⊢;cases hc:ev x <;> simp only [hc] at H ⊢ <;> (try (exact H.elim))
  ·exact ⟨_,H,λ_ hk=>hk,λ_ _ _ hk=>hk⟩
  ·exact ⟨_,H,λ_ hk=>hk,λ_ _ _ hk=>hk⟩
  ·rename_i f a b;cases f <;> simp only at H ⊢ <;> first | exact H.elim | exact ⟨_,H,λ_ hk=>hk,λ_ _ _ hk=>hk⟩
 case binOp op t x y t2=>
  obtain ⟨v,hv,hk⟩:=zgh H;exact ⟨v,hv,λK' hk'=>hk (λv=>K' v h) hk',λ_ h' K' hk'=>hk (λv=>K' v h') hk'⟩
 case unOp op t x=>
  obtain ⟨v,hv,hk⟩:=zgh H;exact ⟨v,hv,λK' hk'=>hk (λv=>K' v h) hk',λ_ h' K' hk'=>hk (λv=>K' v h') hk'⟩
 case convert s d x=>
  cases h1:convK P s d <;> simp only [h1] at H ⊢ <;> (try (exact H.elim));obtain ⟨v,hv,hk⟩:=pConv_det H;exact ⟨v,hv,λK' hk'=>hk (λv=>K' v h) hk',by simp [memOp]⟩
 case slice t x lo hi mx=>
  cases mx with
  | some m=>exact H.elim
  | none=>
   simp only at H ⊢
   cases h1:P.underlying t with
   | none=>simp [h1] at H
   | some d=>
    cases d <;> simp only [h1] at H ⊢ <;> (try (exact H.elim))
    ·obtain ⟨v,hv,hk⟩:=zou H;exact ⟨v,hv,λK' hk'=>hk (λv=>K' v h) hk',λ_ h' K' hk'=>hk (λv=>K' v h') hk'⟩
    ·rename_i e;cases h2:szK P e <;> simp only [h2] at H ⊢ <;> (try (exact H.elim));obtain ⟨v,hv,hk⟩:=zrj H;exact ⟨v,hv,λK' hk'=>hk (λv=>K' v h) hk',λ_ h' K' hk'=>hk (λv=>K' v h') hk'⟩
 case fieldAddr t x f=>
  cases h1:fadK P t f <;> simp only [h1] at H ⊢ <;> (try (exact H.elim));unfold z3g at H ⊢;cases hc:ev x <;> simp only [hc] at H ⊢ <;> first | exact H.elim | exact ⟨_,H,λ_ hk=>hk,λ_ _ _ hk=>hk⟩
 case field t x f=>
  cases h1:fldK P t f with
  | none=>simp [h1] at H
  | some q=>
   obtain ⟨off,k⟩:=q;simp only [h1] at H ⊢;unfold zrc at H ⊢;cases hc:ev x <;> simp only [hc] at H ⊢ <;> (try (exact H.elim));obtain ⟨v,hv,hk⟩:=zhx H;exact ⟨v,hv,λK' hk'=>hk (λv=>K' v h) hk',λ_ h' K' hk'=>hk (λv=>K' v h') hk'⟩
 case indexAddr t x i=>
  cases h1:ixK P t <;> simp only [h1] at H ⊢ <;> (try (exact H.elim));obtain ⟨v,hv,hk⟩:=zm9 H;exact ⟨v,hv,λK' hk'=>hk (λv=>K' v h) hk',λ_ h' K' hk'=>hk (λv=>K' v h') hk'⟩
 case index t x i=>
  cases h1:P.underlying t with
  | none=>simp [h1] at H
  | some d=>
   cases d <;> simp only [h1] at H ⊢ <;> (try (exact H.elim));unfold z9g at H ⊢;cases hx:ev x <;> simp only [hx] at H ⊢ <;> (try (exact H.elim)) <;> cases hi:ev i <;> simp only [hi] at H ⊢ <;> (try (exact H.elim));rename_i s k q
   cases he:s[q.toNat]? with
   | none=>simp [he] at H
   | some e=>simp only [he] at H ⊢;exact ⟨_,H.2,λK' hk=>⟨H.1,hk⟩,λ_ _ _ hk=>⟨H.1,hk⟩⟩
 case extract x i=>
  unfold z6q at H ⊢;cases hc:ev x <;> simp only [hc] at H ⊢ <;> (try (exact H.elim));rename_i vs
  cases he:vs[i]? with
  | none=>simp [he] at H
  | some e=>simp only [he] at H ⊢;exact ⟨_,H,λK' hk=>hk,λ_ _ _ hk=>hk⟩
 case makeFunc f first cap=>exact ⟨_,H,λ_ hk=>hk,λ_ _ _ hk=>hk⟩
 case makeInterface t x=>exact ⟨_,H.2,λ_ hk=>⟨H.1,hk⟩,λ_ _ _ hk=>⟨H.1,hk⟩⟩
 case call q=>
  cases hc:q.callee with
  | value f=>simp [hc] at hq
  | invoke r m=>simp [hc] at hq
  | builtin b=>
   simp only [hc] at H ⊢;simp only [hc] at hq;generalize q.argTypes.toList=ts at H ⊢;generalize q.args.toList.map ev=xs at H ⊢;cases b <;> simp only [Bool.false_eq_true] at hq
   ·
    unfold zdg at H ⊢
    match ts,xs with
    | [t],[x]=>
     simp only at H ⊢;cases h1:lenK P t <;> simp only [h1] at H ⊢ <;> (try (exact H.elim));obtain ⟨v,hv,hk⟩:=pLen_det H;exact ⟨v,hv,λK' hk'=>hk (λv=>K' v h) hk',λ_ h' K' hk'=>hk (λv=>K' v h') hk'⟩
    | [],_=>exact H.elim
    | _::_::_,_=>exact H.elim
    | [_],[]=>exact H.elim
    | [_],_::_::_=>exact H.elim
   ·simp only [zdg] at H ⊢;obtain ⟨v,hv,hk⟩:=zgh H;exact ⟨v,hv,λK' hk'=>hk (λv=>K' v h) hk',λ_ h' K' hk'=>hk (λv=>K' v h') hk'⟩
   ·simp only [zdg] at H ⊢;obtain ⟨v,hv,hk⟩:=zgh H;exact ⟨v,hv,λK' hk'=>hk (λv=>K' v h) hk',λ_ h' K' hk'=>hk (λv=>K' v h') hk'⟩
theorem z9y {ev ev':Operand->AV}:∀ {xs:List Operand},(∀ x∈xs,ev x=ev' x)->xs.map ev=xs.map ev'
 | [],_=>rfl
 | x::xs,h=>by simp only [List.map_cons];rw [h x (by simp),z9y λy hy=>h y (by simp [hy])]
theorem z9b {ev ev':Operand->AV}:∀ {xs:List (Nat×Operand)},(∀ x∈xs.map (·.2),ev x=ev' x)->xs.map (λp=>(p.1,ev p.2))=xs.map (λp=>(p.1,ev' p.2))
 | [],_=>rfl
 | x::xs,h=>by simp only [List.map_cons];rw [h x.2 (by simp),z9b λy hy=>h y (by simp at hy ⊢;exact Or.inr hy)]
theorem wpOp_congr {by_:Bool} {o:Op} {ev ev':Operand->AV} {K:AV->z00->Prop} (he:∀ x∈o.operands,ev x=ev' x):wpOp P by_ o ev h K=wpOp P by_ o ev' h K:=by
 cases o
 case build t ps=>
  simp only [wpOp];rw [z9b (ev:=ev) (ev':=ev') (λx hx=>he x (by simpa [Op.operands] using hx))]
 case buildSlice t n ps=>
  simp only [wpOp];rw [z9b (ev:=ev) (ev':=ev') (λx hx=>he x (by simpa [Op.operands] using hx))]
 case makeFunc f a b=>
  simp only [wpOp];rw [z9y (ev:=ev) (ev':=ev') (xs:=a.toList) (λx hx=>he x (by simp [Op.operands];exact Or.inl (by simpa using hx))),z9y (ev:=ev) (ev':=ev') (xs:=b.toList) (λx hx=>he x (by simp [Op.operands];exact Or.inr (by simpa using hx)))]
 case slice t x lo hi mx=>
  simp only [wpOp];have h1:ev x=ev' x:=he x (by simp [Op.operands]);have h2:lo.map ev=lo.map ev':=by cases lo with | none=>rfl | some y=>simp only [Option.map_some];rw [he y (by simp [Op.operands])]
  have h3:hi.map ev=hi.map ev':=by cases hi with | none=>rfl | some y=>simp only [Option.map_some];rw [he y (by simp [Op.operands])]
  rw [h1,h2,h3]
 case call q=>
  simp only [wpOp];have h1:q.args.toList.map ev=q.args.toList.map ev':=z9y (λx hx=>he x (by simp [Op.operands,Call.operands];exact Or.inr (by simpa using hx)));rw [h1]
  cases hc:q.callee with
  | value f=>
   have h2:ev f=ev' f:=he f (by simp [Op.operands,Call.operands,hc]);cases f <;> first | rfl | (show z7d P _ _ _ _=z7d P _ _ _ _;rw [h2])
  | invoke r m=>rfl
  | builtin b=>rfl
 all_goals first
  | rfl
  | (simp only [Op.operands,Array.mem_def,List.mem_cons,List.not_mem_nil,or_false,forall_eq_or_imp,forall_eq] at he;simp only [wpOp];first | rw [he] | rw [he.1,he.2] | rw [he.1,he.2.1,he.2.2])
  | skip
end
def zcy (N:Nat) (ops:List Oper):Bool:=ops.all λo=>match o.dst with | some d=>decide (d<N) | none=>true
theorem zgl {N:Nat} {ops:List Oper} (h:zcy N ops=true) {o:Oper} (ho:o∈ops):∀ k,o.dst=some k->k<N:=by
 intro k hk;have:=List.all_eq_true.1 h o ho;rw [hk] at this;simpa using this
theorem za1 {ops:Array Oper} {a:Act} {j d:Nat} {b:Bool} (hd:(ops[j]?).bind (·.dst)=some d) (hv:a.tmps.getD d undef=.bool b):yielded ops a.tmps j=some b:=by
 have hlt:d<a.tmps.size:=by
  rcases Nat.lt_or_ge d a.tmps.size with h | h
  ·exact h
  ·rw [Array.getD_eq_getD_getElem?,Array.getElem?_eq_none h] at hv;simp [undef] at hv
 have:a.tmps[d]?=some (.bool b):=by
  rw [Array.getD_eq_getD_getElem?,Array.getElem?_eq_getElem hlt] at hv;rw [Array.getElem?_eq_getElem hlt];simpa using hv
 simp [yielded,hd,this]
theorem zit {ops:Array Oper} {a:Act} {j d:Nat} (hd:(ops[j]?).bind (·.dst)=some d) (hv:a.tmps.getD d undef=.tuple #[]):yielded ops a.tmps j=none:=by
 have h2:a.tmps[d]?=some (.tuple #[])\/a.tmps[d]?=none:=by
  rcases Nat.lt_or_ge d a.tmps.size with h | h
  ·left
   rw [Array.getD_eq_getD_getElem?,Array.getElem?_eq_getElem h] at hv;rw [Array.getElem?_eq_getElem h];simpa using hv
  ·right;exact Array.getElem?_eq_none h
 rcases h2 with h2 | h2 <;> simp [yielded,hd,h2]
theorem zbi {a:Act} {d:Option Nat} {u:Value} {k:Nat} (h:d≠some k):(a.put d u).tmps.getD k undef=a.tmps.getD k undef:=by
 cases d with
 | none=>rfl
 | some d=>
  have:d≠k:=λe=>h (by rw [e]);simp only [Act.put];rw [Array.getD_eq_getD_getElem?,Array.getD_eq_getD_getElem?,Array.getElem?_setIfInBounds_ne this]
def depB (ops:Array Oper) (j i:Nat):Bool:=match ops[j]? with | some o=>o.after.any (λe=>Region.binds .any e&&e.on == i) | none=>false
def z88 (ops:Array Oper) (j:Nat) (t:Tmp):Bool:=match ops[j]? with | some o=>(o.looksAt ops).contains t | none=>false
def dstO (ops:Array Oper) (i:Nat):Option Tmp:=(ops[i]?).bind (·.dst)
def zef (ch:Nat->Bool) (ops:Array Oper) (i:Nat):Bool:=
 match ops[i]? with
 | some o=>match o.dst with
  | some d=>zl7 (byO ch o.dst) o.op&&(List.range ops.size).all (λj=>(!z88 ops j d||depB ops j i)&&(j == i||dstO ops j != some d)&&(match dstO ops j with | some k=>!z88 ops i k||depB ops i j | none=>true))&&!z88 ops i d
  | none=>false
 | none=>false
def z9i (ops:Array Oper) (V:List Nat):List Nat:=(List.range ops.size).filter λi=>!V.contains i&&(List.range ops.size).all λk=>!depB ops i k||V.contains k
def zce (ops:Array Oper):Nat->Nat->Nat->Bool
 | 0,_,_=>false
 | n+1,j,i=>depB ops j i||(List.range ops.size).any λk=>depB ops j k&&zce ops n k i
def memB (ops:Array Oper) (i:Nat):Bool:=match ops[i]? with | some o=>memOp o.op | none=>false
def z9f (v:AV) (want:Bool) (T F:Prop):Prop:=match v with | .bool b=>if b=want then T else F | .tup []=>F | _=>False
def zfh (P:Program) (ch:Nat->Bool) (ops:Array Oper) (i:Nat) (fr:Fr) (h:z00) (K:AV->z00->Prop):Prop:=
 match ops[i]? with
 | none=>False
 | some o=>match o.guard with
  | none=>wpOp P (byO ch o.dst) o.op (aEv fr) h K
  | some (g,want)=>match dstO ops g with
   | none=>False
   | some d=>z9f (fr d) want (wpOp P (byO ch o.dst) o.op (aEv fr) h K) (K (.tup []) h)
def zpr (P:Program) (ch:Nat->Bool) (ops:Array Oper) (i:Nat) (fr:Fr) (h:z00) (K:AV->z00->Prop):Prop:=
 match ops[i]? with
 | none=>False
 | some o=>match o.guard with
  | none=>wpOp P (byO ch o.dst) o.op (aEv fr) h K
  | some (g,want)=>match dstO ops g with
   | none=>False
   | some d=>zma (λx=>z9f (fr d) want (wpOp P (byO ch o.dst) o.op (aEv fr) h (λv h'=>x [v] h')) (x [.tup []] h)) (λvs h'=>K (nth vs 0) h')
theorem wpOpJ_eq {P:Program} {ch:Nat->Bool} {ops:Array Oper} {i:Nat} {fr:Fr} {h:z00} {K:AV->z00->Prop}:zpr P ch ops i fr h K=zfh P ch ops i fr h K:=by
 unfold zpr zfh
 cases ops[i]? with
 | none=>rfl
 | some o=>
  simp only
  cases o.guard with
  | none=>rfl
  | some gw=>
   obtain ⟨g,want⟩:=gw;simp only;cases dstO ops g <;> rfl
def allP (p:Nat->Prop):List Nat->Prop
 | []=>True
 | [i]=>p i
 | i::r=>p i/\allP p r
def getS (fr:Fr) (d:Option Nat):AV:=match d with | some d=>fr d | none=>.und
def stabs (P:Program) (ch:Nat->Bool) (ops:Array Oper) (fl:Nat->Bool) (fin:List Nat->Nat->Bool) (V:List Nat) (fr:Fr) (h:z00):Prop:=
 allP (λi=>zpr P ch ops i fr h λv h'=>v=getS fr (dstO ops i)/\h'=h)
  (V.filter λi=>fl i&&(!fin V i&&memB ops i))
def zha (P:Program) (ch:Nat->Bool) (ops:Array Oper) (fl:Nat->Bool) (fin:List Nat->Nat->Bool) (Q:Fr->z00->Prop):Nat->List Nat->Fr->z00->Prop
 | 0,_,fr,h=>Q fr h
 | n+1,V,fr,h=>match (z9i ops V).find? fl with
  | some i=>zpr P ch ops i fr h λv h'=>zha P ch ops fl fin Q n (i::V) (updO fr (dstO ops i) v) h'
  | none=>match z9i ops V with
   | []=>Q fr h
   | r=>allP (λj=>zpr P ch ops j fr h λv h'=>stabs P ch ops fl fin (j::V) (updO fr (dstO ops j) v) h'/\zha P ch ops fl fin Q n (j::V) (updO fr (dstO ops j) v) h') r
theorem zo1 {p:Nat->Prop}:∀ {l:List Nat},allP p l->∀ i∈l,p i
 | [],_,i,hi=>by cases hi
 | [a],h,i,hi=>by
  have:i=a:=by simpa using hi
  subst this;exact h
 | a::b::r,h,i,hi=>by
  rcases List.mem_cons.1 hi with rfl | hi
  ·exact h.1
  ·exact zo1 h.2 i hi
section
variable {P:Program} {N:Nat} {ds:List Deferred} {ch:Nat->Bool} {ops:Array Oper}
theorem zgc {i:Nat} {o:Oper} (ho:ops[i]?=some o) {t:Tmp}:z88 ops i t=true↔t∈o.looksAt ops:=by simp [z88,ho]
theorem z9k {i:Nat} {fr fr':Fr} {h:z00} {K:AV->z00->Prop} (he:∀ t,z88 ops i t=true->fr t=fr' t):zfh P ch ops i fr h K=zfh P ch ops i fr' h K:=by
 unfold zfh
 cases ho:ops[i]? with
 | none=>rfl
 | some o=>
  have h1:wpOp P (byO ch o.dst) o.op (aEv fr) h K=wpOp P (byO ch o.dst) o.op (aEv fr') h K:=by
   refine wpOp_congr λx hx=>?_
   cases x with
   | tmp t=>
    refine he t ((zgc ho).2 ?_);simp only [Oper.looksAt,List.mem_append,List.mem_filterMap];exact Or.inl ⟨.tmp t,by simpa using hx,rfl⟩
   | _=>rfl
  simp only [h1]
  cases hg:o.guard with
  | none=>rfl
  | some gw=>
   obtain ⟨g,want⟩:=gw;simp only
   cases hd:dstO ops g with
   | none=>rfl
   | some d=>
    have:fr d=fr' d:=he d ((zgc ho).2 (by
     simp only [Oper.looksAt,hg,List.mem_append];refine Or.inr ?_;unfold dstO at hd;simp [hd]))
    simp only [this]
theorem zlq {i:Nat} {fr:Fr} {h:z00} {B:Nat} {c:Ctx} {w:World} {a:Act} {K:AV->z00->Prop} {next:Act->World->Prop} {Q:Exit->Act->World->Prop} (W:WRel B c h w) (F:z3w N ds c w fr a) (H:zfh P ch ops i fr h K)
  (hK:Then B c w a (dstO ops i) K next) {ro:Option Nat}:wpOpIn (z5d ro) 0 P ops Q i next a w:=by
 unfold zfh at H;unfold wpOpIn
 cases ho:ops[i]? with
 | none=>rw [ho] at H;exact H.elim
 | some o=>
  have hd:dstO ops i=o.dst:=by simp [dstO,ho]
  rw [hd] at hK;rw [ho] at H;simp only at H ⊢
  cases hg:o.guard with
  | none=>
   rw [hg] at H;rw [if_pos (by simp [Region.wanted,hg])];exact zb8 W F H hK
  | some gw=>
   obtain ⟨g,want⟩:=gw;rw [hg] at H;simp only at H
   cases hdg:dstO ops g with
   | none=>rw [hdg] at H;exact H.elim
   | some d=>
    rw [hdg] at H;simp only at H;have hdd:(ops[g]?).bind (·.dst)=some d:=hdg;have hv:=F.2.2 d;have skip:K (.tup []) h->Region.wanted o (yielded ops a.tmps)=false->(if Region.wanted o (yielded ops a.tmps)=true then o.wpIn (z5d ro) 0 P a w next Q else (∀ f,o.about P w a.eval=some f->(z5d ro).fn f)/\next (a.put o.dst undef) w):=λhk hw=>by
     rw [if_neg (by simp [hw])];exact ⟨λ_ _=>trivial,hK c (.tup []) h w undef (Ext.refl _ _ _) W (by simp only [VRel];exact ⟨#[],rfl,rfl⟩) hk⟩
    have bool:∀ b,a.tmps.getD d undef=.bool b->(if b=want then wpOp P (byO ch o.dst) o.op (aEv fr) h K else K (.tup []) h)->(if Region.wanted o (yielded ops a.tmps)=true then o.wpIn (z5d ro) 0 P a w next Q else (∀ f,o.about P w a.eval=some f->(z5d ro).fn f)/\next (a.put o.dst undef) w):=λb hb H=>by
     by_cases e:b=want
     ·rw [if_pos e] at H;rw [if_pos (by simp [Region.wanted,hg,za1 hdd hb,e])];exact zb8 W F H hK
     ·rw [if_neg e] at H;exact skip H (by simp [Region.wanted,hg,za1 hdd hb,e])
    unfold z9f at H;split at H
    ·rename_i b hb;rw [hb] at hv;exact bool b (by simpa [VRel] using hv) H
    ·rename_i hb;rw [hb] at hv;simp only [VRel] at hv;obtain ⟨vs,h1,h2⟩:=hv;simp only [LRel] at h2;refine skip H ?_;have:a.tmps.getD d undef=.tuple #[]:=by
      rw [h1];congr 1;exact Array.toList_inj.1 (by rw [h2])
     simp [Region.wanted,hg,zit hdd this]
    ·exact H.elim
theorem znh {i:Nat} {fr:Fr} {h:z00} {K:AV->z00->Prop} (hf:zef ch ops i=true) (H:zfh P ch ops i fr h K) :
  ∃ v,K v h/\(∀ K':AV->z00->Prop,K' v h->zfh P ch ops i fr h K')/\(memB ops i=false->∀ (h':z00) (K':AV->z00->Prop),K' v h'->zfh P ch ops i fr h' K'):=by
 unfold zfh memB at *
 cases ho:ops[i]? with
 | none=>rw [ho] at H;exact H.elim
 | some o=>
  have hq:zl7 (byO ch o.dst) o.op=true:=by
   unfold zef at hf;rw [ho] at hf;simp only at hf;split at hf
   ·simp only [Bool.and_eq_true] at hf;exact hf.1.1
   ·cases hf
  rw [ho] at H;simp only at H ⊢
  cases hg:o.guard with
  | none=>
   rw [hg] at H;exact zrv hq H
  | some gw=>
   obtain ⟨g,want⟩:=gw;rw [hg] at H;simp only at H ⊢
   cases hdg:dstO ops g with
   | none=>rw [hdg] at H;exact H.elim
   | some d=>
    rw [hdg] at H;simp only at H ⊢
    cases hb:fr d with
    | bool b=>
     simp only [hb,z9f] at H ⊢;by_cases e:b=want
     ·simp only [if_pos e] at H ⊢;exact zrv hq H
     ·simp only [if_neg e] at H ⊢;exact ⟨_,H,λ_ hk=>hk,λ_ _ _ hk=>hk⟩
    | tup vs=>
     cases vs with
     | nil=>simp only [hb,z9f] at H ⊢;exact ⟨_,H,λ_ hk=>hk,λ_ _ _ hk=>hk⟩
     | cons _ _=>rw [hb] at H;exact H.elim
    | _=>rw [hb] at H;exact H.elim
end
section
variable {P:Program} {N:Nat} {ds:List Deferred} {ch:Nat->Bool} {ops:Array Oper} {fl:Nat->Bool} {fin:List Nat->Nat->Bool}
theorem looksB_lt {j:Nat} {t:Tmp} (h:z88 ops j t=true):j<ops.size:=by
 unfold z88 at h
 cases ho:ops[j]? with
 | none=>rw [ho] at h;cases h
 | some o=>exact (Array.getElem?_eq_some_iff.1 ho).1
theorem dstO_lt {j:Nat} {t:Tmp} (h:dstO ops j=some t):j<ops.size:=by
 unfold dstO at h
 cases ho:ops[j]? with
 | none=>rw [ho] at h;cases h
 | some o=>exact (Array.getElem?_eq_some_iff.1 ho).1
theorem zbh {i:Nat} (hf:zef ch ops i=true):∃ d,dstO ops i=some d/\(∀ j,z88 ops j d=true->depB ops j i=true)/\(∀ j,j≠i->dstO ops j≠some d)/\(∀ j k,dstO ops j=some k->z88 ops i k=true->depB ops i j=true)/\z88 ops i d=false:=by
 unfold zef at hf
 cases ho:ops[i]? with
 | none=>rw [ho] at hf;cases hf
 | some o=>
  rw [ho] at hf;simp only at hf
  cases hd:o.dst with
  | none=>rw [hd] at hf;cases hf
  | some d=>
   rw [hd] at hf;simp only [Bool.and_eq_true,List.all_eq_true,List.mem_range,Bool.or_eq_true,Bool.not_eq_true',beq_iff_eq,bne_iff_ne,ne_eq] at hf;obtain ⟨⟨-,h1⟩,h2⟩:=hf;refine ⟨d,by simp [dstO,ho,hd],λj hj=>?_,λj hj he=>?_,λj k hk hl=>?_,h2⟩
   ·rcases (h1 j (looksB_lt hj)).1.1 with h | h
    ·rw [hj] at h;cases h
    ·exact h
   ·rcases (h1 j (dstO_lt he)).1.2 with h | h
    ·exact hj h
    ·exact h he
   ·have:=(h1 j (dstO_lt hk)).2;rw [hk] at this;simp only [Bool.or_eq_true,Bool.not_eq_true'] at this;rcases this with h | h
    ·rw [hl] at h;cases h
    ·exact h
theorem z8y {V:List Nat} {j:Nat}:j∈z9i ops V↔j<ops.size/\j∉V/\∀ k,depB ops j k=true->k<ops.size->k∈V:=by
 simp only [z9i,List.mem_filter,List.mem_range,Bool.and_eq_true,Bool.not_eq_true',List.all_eq_true,Bool.or_eq_true];constructor
 ·rintro ⟨h1,h2,h3⟩;refine ⟨h1,by simpa using h2,λk hk hl=>?_⟩;rcases h3 k hl with h | h
  ·rw [hk] at h;cases h
  ·simpa using h
 ·rintro ⟨h1,h2,h3⟩;refine ⟨h1,by simpa using h2,λk hl=>?_⟩
  cases hk:depB ops j k with
  | false=>exact Or.inl rfl
  | true=>exact Or.inr (by simpa using h3 k hk hl)
theorem zdp {S:Array Bool} (hs:S.size=ops.size) {j:Nat}:j∈Region.ready .any ops S↔j<ops.size/\S.getD j false=false/\∀ k,depB ops j k=true->S.getD k false=true:=by
 rw [mem_ready];constructor
 ·rintro ⟨h1,o,ho,h2⟩;have hj:=(Array.getElem?_eq_some_iff.1 ho).1;refine ⟨hj,?_,λk hk=>?_⟩
  ·rw [Array.getD_eq_getD_getElem?,Array.getElem?_eq_getElem (by omega)] at h1 ⊢;exact h1
  ·unfold depB at hk;rw [ho] at hk;simp only at hk;obtain ⟨e,he,hb⟩:=Array.any_eq_true'.1 hk;simp only [Bool.and_eq_true,beq_iff_eq] at hb;rw [<-hb.2];exact h2 e he hb.1
 ·rintro ⟨h1,h2,h3⟩;refine ⟨?_,ops[j],Array.getElem?_eq_getElem h1,λe he hb=>?_⟩
  ·rw [Array.getD_eq_getD_getElem?,Array.getElem?_eq_getElem (by omega)] at h2 ⊢;exact h2
  ·refine h3 e.on ?_;unfold depB;rw [Array.getElem?_eq_getElem h1];exact Array.any_eq_true'.2 ⟨e,he,by simp [hb]⟩
def ordV (ops:Array Oper):List Nat->Prop
 | []=>True
 | i::r=>(∀ k,depB ops i k=true->k∈r)/\ordV ops r
structure Drw (P:Program) (N:Nat) (ds:List Deferred) (ch:Nat->Bool) (ops:Array Oper) (fl:Nat->Bool) (B:Nat) (c:Ctx) (w:World) (a:Act) (S:Array Bool) (V:List Nat) (fr:Fr) (h:z00):Prop where
 W:WRel B c h w
 size:S.size=ops.size
 tsz:a.tmps.size=N/\a.defers=ds
 lt:∀ i∈V,i<ops.size
 sub:∀ i,S.getD i false=true->i∈V
 closed:∀ i k,S.getD i false=true->depB ops i k=true->S.getD k false=true
 ord:ordV ops V
 pend:∀ i∈V,S.getD i false=false->fl i=true
 rel:∀ t,(∀ i∈V,S.getD i false=false->dstO ops i≠some t)->VRel c w (fr t) (a.tmps.getD t undef)
 stab:∀ i∈V,S.getD i false=false->zfh P ch ops i fr h (λv h'=>v=getS fr (dstO ops i)/\h'=h)
theorem zf8:∀ {V:List Nat},ordV ops V->∀ i∈V,∀ k,depB ops i k=true->k∈V
 | [],_,i,hi,_,_=>by cases hi
 | a::r,h,i,hi,k,hk=>by
  rcases List.mem_cons.1 hi with rfl | hi
  ·exact List.mem_cons.2 (Or.inr (h.1 k hk))
  ·exact List.mem_cons.2 (Or.inr (zf8 h.2 i hi k hk))
theorem zna {S:Array Bool}:∀ {V:List Nat},ordV ops V->(∃ i∈V,S.getD i false=false)->∃ i∈V,S.getD i false=false/\∀ k,depB ops i k=true->S.getD k false=true
 | [],_,⟨i,hi,_⟩=>by cases hi
 | a::r,h,⟨i,hi,h0⟩=>by
  by_cases hr:∃ i∈r,S.getD i false=false
  ·obtain ⟨i,h1,h2⟩:=zna h.2 hr;exact ⟨i,List.mem_cons.2 (Or.inr h1),h2⟩
  ·have hall:∀ k∈r,S.getD k false=true:=λk hk=>by
    cases hv:S.getD k false with
    | true=>rfl
    | false=>exact absurd ⟨k,hk,hv⟩ hr
   rcases List.mem_cons.1 hi with rfl | hi
   ·exact ⟨i,List.mem_cons.2 (Or.inl rfl),h0,λk hk=>hall k (h.1 k hk)⟩
   ·rw [hall i hi] at h0;cases h0
theorem zii {S:Array Bool} (hc:∀ i k,S.getD i false=true->depB ops i k=true->S.getD k false=true):∀ (n j i:Nat),(∀ k,depB ops j k=true->S.getD k false=true)->zce ops n j i=true->S.getD i false=true
 | 0,_,_,_,h=>by cases h
 | n+1,j,i,hj,h=>by
  simp only [zce,Bool.or_eq_true,List.any_eq_true,List.mem_range,Bool.and_eq_true] at h;rcases h with h | ⟨k,-,h1,h2⟩
  ·exact hj i h
  ·exact zii hc n k i (λk' hk'=>hc k k' (hj k h1) hk') h2
theorem zff {fr:Fr} {d:Option Nat} {v:AV} {t:Nat} (h:d≠some t):updO fr d v t=fr t:=by
 cases d with
 | none=>rfl
 | some d=>simp only [zsb,zsc];rw [if_neg (λe=>h (by rw [e]))]
theorem Drw.float {B:Nat} {c:Ctx} {w:World} {a:Act} {S:Array Bool} {V:List Nat} {fr:Fr} {h:z00} {i:Nat} {K:AV->z00->Prop} (D:Drw P N ds ch ops fl B c w a S V fr h) (hfl:∀ i,fl i=true->zef ch ops i=true) (hr:i∈z9i ops V) (hff:fl i=true)
  (H:zfh P ch ops i fr h K) (hdl:∀ j k,depB ops j k=true->k<ops.size):∃ v,K v h/\Drw P N ds ch ops fl B c w a S (i::V) (updO fr (dstO ops i) v) h:=by
 have hf:=hfl i hff;obtain ⟨v,hk,hdet,-⟩:=znh hf H;obtain ⟨d,hd,f1,f2,f3,f4⟩:=zbh hf;obtain ⟨r1,r2,r3⟩:=z8y.1 hr;have hSi:S.getD i false=false:=by
  cases hv:S.getD i false with
  | false=>rfl
  | true=>exact absurd (D.sub i hv) r2
 have hcl:=zf8 D.ord;have keep:∀ p,p∈V->∀ t,z88 ops p t=true->fr t=updO fr (some d) v t:=λp hp t ht=>by
  rw [zff];intro e;cases e;exact r2 (hcl p hp i (f1 p ht))
 refine ⟨v,hk,⟨D.W,D.size,D.tsz,λj hj=>?_,λj hj=>List.mem_cons.2 (Or.inr (D.sub j hj)),D.closed,⟨λk hk'=>r3 k hk' (hdl _ _ hk'),D.ord⟩,λj hj hs=>?_,λt ht=>?_,λj hj hs=>?_⟩⟩
 ·rcases List.mem_cons.1 hj with rfl | hj
  ·exact r1
  ·exact D.lt j hj
 ·rcases List.mem_cons.1 hj with rfl | hj
  ·exact hff
  ·exact D.pend j hj hs
 ·have hne:dstO ops i≠some t:=ht i (List.mem_cons.2 (Or.inl rfl)) hSi;rw [zff hne];exact D.rel t λj hj hs=>ht j (List.mem_cons.2 (Or.inr hj)) hs
 ·rw [hd];rcases List.mem_cons.1 hj with rfl | hj
  ·rw [hd,<-z9k (fr:=fr)]
   ·exact hdet _ ⟨by simp [getS,zsc],rfl⟩
   ·intro t ht;rw [zff];intro e;cases e;rw [ht] at f4;cases f4
  ·have hpd:getS (updO fr (some d) v) (dstO ops j)=getS fr (dstO ops j):=by
    cases hdj:dstO ops j with
    | none=>rfl
    | some k=>
     simp only [getS];exact zff λe=>f2 j (λe'=>r2 (e'▸hj)) (by rw [hdj];exact e.symm)
   rw [hpd,<-z9k (keep j hj)];exact D.stab j hj hs
theorem zc2 (hfl:∀ i,fl i=true->zef ch ops i=true) {Q:Fr->z00->Prop} {B:Nat} {c:Ctx} {w:World} {a:Act} {S:Array Bool} {h:z00} (hdl:∀ j k,depB ops j k=true->k<ops.size):∀ (m:Nat) (V:List Nat) (fr:Fr) (L:List Nat),(∀ i,i<ops.size->i∉V->i∈L)->L.length<=m->zha P ch ops fl fin Q m V fr h->Drw P N ds ch ops fl B c w a S V fr h->
  ∃ (m':Nat) (V':List Nat) (fr':Fr) (L':List Nat),(∀ i,i<ops.size->i∉V'->i∈L')/\L'.length<=m'/\zha P ch ops fl fin Q m' V' fr' h/\Drw P N ds ch ops fl B c w a S V' fr' h/\(z9i ops V').find? fl=none
 | 0,V,fr,L,hL,hlen,H,D=>by
  refine ⟨0,V,fr,L,hL,hlen,H,D,List.find?_eq_none.2 λi hi=>?_⟩;obtain ⟨r1,r2,_⟩:=z8y.1 hi;have:=hL i r1 r2;have:L=[]:=List.length_eq_zero_iff.1 (by omega);subst this;simp at *
 | m+1,V,fr,L,hL,hlen,H,D=>by
  cases hfi:(z9i ops V).find? fl with
  | none=>exact ⟨m+1,V,fr,L,hL,hlen,H,D,hfi⟩
  | some i=>
   have hr:=List.mem_of_find?_eq_some hfi;have hf:=List.find?_some hfi;have H0:zfh P ch ops i fr h λv h'=>zha P ch ops fl fin Q m (i::V) (updO fr (dstO ops i) v) h':=by
    unfold zha at H;rw [hfi] at H;exact wpOpJ_eq.mp H
   obtain ⟨v,hk,D'⟩:=D.float hfl hr hf H0 hdl;obtain ⟨r1,r2,_⟩:=z8y.1 hr;have hiL:=hL i r1 r2;have hll:=List.length_erase_of_mem hiL;have hpos:0<L.length:=List.length_pos_of_mem hiL;refine zc2 hfl hdl m (i::V) _ (L.erase i) (λj hj hn=>?_) (by omega) hk D';have hji:j≠i:=λe=>hn (by simp [e]);exact (List.mem_erase_of_ne hji).2 (hL j hj (λh=>hn (by simp [h])))
noncomputable def maskF (V:List Nat) (S:Array Bool) (ops:Array Oper) (fr:Fr):Fr:=λt=>
 open Classical in if ∃ i ∈ V, S.getD i false = false ∧ dstO ops i = some t then .und else fr t
theorem Drw.masked {B:Nat} {c:Ctx} {w:World} {a:Act} {S:Array Bool} {V:List Nat} {fr:Fr} {h:z00} (D:Drw P N ds ch ops fl B c w a S V fr h):z3w N ds c w (maskF V S ops fr) a:=by
 refine ⟨D.tsz.1,D.tsz.2,λt=>?_⟩;unfold maskF;split
 ·simp [VRel]
 ·rename_i hn;exact D.rel t λi hi hs e=>hn ⟨i,hi,hs,e⟩
theorem Drw.looks {B:Nat} {c:Ctx} {w:World} {a:Act} {S:Array Bool} {V:List Nat} {fr:Fr} {h:z00} (D:Drw P N ds ch ops fl B c w a S V fr h) (hfl:∀ i,fl i=true->zef ch ops i=true) {j:Nat} (hj:∀ k,depB ops j k=true->S.getD k false=true):∀ t,z88 ops j t=true->fr t=maskF V S ops fr t:=by
 intro t ht;unfold maskF;rw [if_neg];rintro ⟨i,hi,hs,hd⟩;obtain ⟨d,hd',f1,-⟩:=zbh (hfl i (D.pend i hi hs));rw [hd] at hd';cases hd';rw [hj i (f1 j ht)] at hs;cases hs
theorem zdl {S:Array Bool} {j k:Nat} (hj:j<S.size):(S.setIfInBounds j true).getD k false=if k=j then true else S.getD k false:=by
 by_cases e:k=j
 ·subst e;simp [hj]
 ·rw [if_neg e];exact getD_set_ne false (Ne.symm e)
theorem wpCan_sound {ro:Option Nat} (hfl:∀ i,fl i=true->zef ch ops i=true) (hfin:∀ V i,fin V i=true->∃ k∈V,fl k=false/\∃ n,zce ops n k i=true) {Q:Fr->z00->Prop} {B:Nat} {c0:Ctx} {w0:World} {Q':Exit->Act->World->Prop} (hdl:∀ j k,depB ops j k=true->k<ops.size) (hok:zcy N ops.toList=true)
  (hQ:∀ c' fr' h' a' w',Ext B c0 w0 c' w'->WRel B c' h' w'->z3w N ds c' w' fr' a'->Q fr' h'->Q' .normal a' w'):∀ (f:Nat) (S:Array Bool) (a:Act) (w:World) (c:Ctx) (V:List Nat) (fr:Fr) (h:z00) (m:Nat) (L L2:List Nat),
  Ext B c0 w0 c w->Drw P N ds ch ops fl B c w a S V fr h->zha P ch ops fl fin Q m V fr h->(∀ i,i<ops.size->i∉V->i∈L)->L.length<=m->(∀ i,i<ops.size->S.getD i false=false->i∈L2)->L2.length<=f->wpAnyIn (z5d ro) 0 P .any ops Q' f S a w:=by
 intro f
 induction f with
 | zero=>
  intro S a w c V fr h m L L2 E D H hL hLl hL2 hL2l;have hall:∀ i,i<ops.size->S.getD i false=true:=λi hi=>by
   cases hv:S.getD i false with
   | true=>rfl
   | false=>
    have:=hL2 i hi hv;have:L2=[]:=List.length_eq_zero_iff.1 (by omega);subst this;simp at *
  have hrd:Region.ready .any ops S=[]:=by
   rw [List.eq_nil_iff_forall_not_mem];intro i hi;obtain ⟨r1,r2,_⟩:=(zdp D.size).1 hi;rw [hall i r1] at r2;cases r2
  refine ⟨hrd,?_⟩;obtain ⟨m',V',fr',L',g1,g2,g3,D',g5⟩:=zc2 hfl hdl m V fr L hL hLl H D;have hVn:z9i ops V'=[]:=by
   rw [List.eq_nil_iff_forall_not_mem];intro i hi;obtain ⟨r1,r2,_⟩:=z8y.1 hi;exact r2 (D'.sub i (hall i r1))
  have hq:Q fr' h:=by
   cases m' with
   | zero=>exact g3
   | succ m'=>unfold zha at g3;rw [g5,hVn] at g3;exact g3
  refine hQ c fr' h a w E D'.W ⟨D'.tsz.1,D'.tsz.2,λt=>D'.rel t λi hi hs=>?_⟩ hq;rw [hall i (D'.lt i hi)] at hs;cases hs
 | succ f ih=>
  intro S a w c V0 fr0 h m0 L0 L2 E D0 H0 hL0 hLl0 hL2 hL2l;obtain ⟨m,V,fr,L,hL,hLl,H,D,hnf⟩:=zc2 hfl hdl m0 V0 fr0 L0 hL0 hLl0 H0 D0;refine ⟨λhrd=>?_,λj hj=>?_⟩
  ·have hall:∀ i∈V,S.getD i false=true:=λi hi=>by
    cases hv:S.getD i false with
    | true=>rfl
    | false=>
     obtain ⟨k,k1,k2,k3⟩:=zna D.ord ⟨i,hi,hv⟩;have:k∈Region.ready .any ops S:=(zdp D.size).2 ⟨D.lt k k1,k2,k3⟩;rw [hrd] at this;cases this
   have hVn:z9i ops V=[]:=by
    rw [List.eq_nil_iff_forall_not_mem];intro i hi;obtain ⟨r1,r2,r3⟩:=z8y.1 hi;have:i∈Region.ready .any ops S:=(zdp D.size).2 ⟨r1,by
     cases hv:S.getD i false with
     | false=>rfl
     | true=>exact absurd (D.sub i hv) r2,λk hk=>hall k (r3 k hk (hdl _ _ hk))⟩
    rw [hrd] at this;cases this
   have hq:Q fr h:=by
    cases m with
    | zero=>exact H
    | succ m=>unfold zha at H;rw [hnf,hVn] at H;exact H
   refine hQ c fr h a w E D.W ⟨D.tsz.1,D.tsz.2,λt=>D.rel t λi hi hs=>?_⟩ hq;rw [hall i hi] at hs;cases hs
  ·obtain ⟨j1,j2,j3⟩:=(zdp D.size).1 hj;have hjS:j<S.size:=by rw [D.size];exact j1
   have hgs:=λk=>zdl (S:=S) (k:=k) hjS;have hL2':∀ i,i<ops.size->(S.setIfInBounds j true).getD i false=false->i∈L2.erase j:=λi hi hs=>by
    rw [hgs] at hs;split at hs
    ·cases hs
    ·rename_i hne;exact (List.mem_erase_of_ne hne).2 (hL2 i hi hs)
   have hj2:=hL2 j j1 j2;have hll:=List.length_erase_of_mem hj2;have hpos:0<L2.length:=List.length_pos_of_mem hj2;have hclosed':∀ i k,(S.setIfInBounds j true).getD i false=true->depB ops i k=true->(S.setIfInBounds j true).getD k false=true:=λi k hi hd=>by
    rw [hgs] at hi ⊢;split
    ·rfl
    ·split at hi
     ·rename_i e;subst e;exact j3 k hd
     ·exact D.closed i k hi hd
   have hput:∀ (d:Option Nat) (u:Value),(∀ k,d=some k->k<N)->(a.put d u).tmps.size=N/\(a.put d u).defers=ds:=λd u hd=>by
    cases d with
    | none=>exact D.tsz
    | some k=>exact ⟨by simpa [Act.put] using D.tsz.1,by simpa [Act.put] using D.tsz.2⟩
   have hdN:∀ k,dstO ops j=some k->k<N:=λk hk=>by
    unfold dstO at hk
    cases ho:ops[j]? with
    | none=>rw [ho] at hk;cases hk
    | some o=>
     rw [ho] at hk;exact zgl hok (o:=o) (by simpa using Array.mem_of_getElem? ho) k hk
   have hself:∀ (k:Nat) (u:Value),k<N->(a.put (some k) u).tmps.getD k undef=u:=λk u hk=>by
    simp only [Act.put];rw [Array.getD_eq_getD_getElem?,Array.getElem?_setIfInBounds_self_of_lt (by rw [D.tsz.1];exact hk)];rfl
   by_cases hjV:j∈V
   ·
    have hst:=D.stab j hjV j2;rw [z9k (D.looks hfl j3)] at hst;refine zlq D.W D.masked hst ?_;intro c' v h' w' u E' W' hv hk;obtain ⟨rfl,rfl⟩:=hk;obtain ⟨d,hd,f1,f2,f3,f4⟩:=zbh (hfl j (D.pend j hjV j2));refine ih (S.setIfInBounds j true) _ w' c' V fr h' m L (L2.erase j) (E.trans E') ⟨W',by simpa using D.size,hput _ _ hdN,D.lt,λi hi=>?_,hclosed',D.ord,λi hi hs=>?_,λt ht=>?_,λi hi hs=>?_⟩ H hL hLl hL2' (by omega)
    ·rw [hgs] at hi;split at hi
     ·rename_i e;subst e;exact hjV
     ·exact D.sub i hi
    ·rw [hgs] at hs;split at hs
     ·cases hs
     ·exact D.pend i hi hs
    ·by_cases e:dstO ops j=some t
     ·rw [e] at hv ⊢;rw [hself t u (hdN t e)];exact hv
     ·rw [zbi e];refine VRel.mono E' (D.rel t λi hi hs hd'=>?_);by_cases eij:i=j
      ·subst eij;exact e hd'
      ·exact ht i hi (by rw [hgs,if_neg eij];exact hs) hd'
    ·rw [hgs] at hs;split at hs
     ·cases hs
     ·exact D.stab i hi hs
   ·
    have hjr:j∈z9i ops V:=z8y.2 ⟨j1,hjV,λk hk _=>D.sub k (j3 k hk)⟩
    cases m with
    | zero=>
     have:=hL j j1 hjV;have:L=[]:=List.length_eq_zero_iff.1 (by omega);subst this;simp at *
    | succ m=>
     have H1:zfh P ch ops j fr h λv h'=>stabs P ch ops fl fin (j::V) (updO fr (dstO ops j) v) h'/\zha P ch ops fl fin Q m (j::V) (updO fr (dstO ops j) v) h':=by
      unfold zha at H;rw [hnf] at H
      cases hrv:z9i ops V with
      | nil=>rw [hrv] at hjr;cases hjr
      | cons x xs=>
       rw [hrv] at H hjr;exact wpOpJ_eq.mp (zo1 H j hjr)
     rw [z9k (D.looks hfl j3)] at H1;refine zlq D.W D.masked H1 ?_;intro c' v h' w' u E' W' hv hk;obtain ⟨hst,hcan⟩:=hk;have hjL:=hL j j1 hjV;have hll':=List.length_erase_of_mem hjL;have hpos':0<L.length:=List.length_pos_of_mem hjL;have hpend:∀ i∈j::V,(S.setIfInBounds j true).getD i false=false->i∈V/\i≠j/\S.getD i false=false:=λi hi hs=>by
      rw [hgs] at hs;split at hs
      ·cases hs
      ·rename_i hne;rcases List.mem_cons.1 hi with e | hi
       ·exact absurd e hne
       ·exact ⟨hi,hne,hs⟩
     refine ih (S.setIfInBounds j true) _ w' c' (j::V) _ h' m (L.erase j) (L2.erase j) (E.trans E') ⟨W',by simpa using D.size,hput _ _ hdN,λi hi=>?_,λi hi=>?_,hclosed',⟨λk hk=>D.sub k (j3 k hk),D.ord⟩,λi hi hs=>?_,λt ht=>?_,λi hi hs=>?_⟩ hcan (λi hi hn=>?_) (by omega) hL2' (by omega)
     ·rcases List.mem_cons.1 hi with rfl | hi
      ·exact j1
      ·exact D.lt i hi
     ·rw [hgs] at hi;split at hi
      ·rename_i e;exact List.mem_cons.2 (Or.inl e)
      ·exact List.mem_cons.2 (Or.inr (D.sub i hi))
     ·obtain ⟨g1,g2,g3⟩:=hpend i hi hs;exact D.pend i g1 g3
     ·by_cases e:dstO ops j=some t
      ·rw [e];rw [hself t u (hdN t e)];simpa [zsc] using hv
      ·rw [zbi e,zff e];refine VRel.mono E' (D.rel t λi hi hs hd'=>?_);have hij:i≠j:=λe'=>hjV (e'▸hi);exact ht i (List.mem_cons.2 (Or.inr hi)) (by rw [hgs,if_neg hij];exact hs) hd'
     ·obtain ⟨g1,g2,g3⟩:=hpend i hi hs;have hfii:=D.pend i g1 g3;have hfi:=hfl i hfii;obtain ⟨d,hd,f1,f2,f3,f4⟩:=zbh hfi;by_cases hmem:memB ops i=true
      ·refine zo1 hst i ?_;rw [List.mem_filter];refine ⟨hi,?_⟩;rw [hfii,hmem,Bool.true_and,Bool.and_true]
       cases hf2:fin (j::V) i with
       | false=>rfl
       | true=>
        obtain ⟨k,hk,hkf,n,hr⟩:=hfin _ _ hf2;have hkd:∀ k',depB ops k k'=true->S.getD k' false=true:=by
         rcases List.mem_cons.1 hk with rfl | hk
         ·exact j3
         ·intro k' hk';have:S.getD k false=true:=by
           cases hv:S.getD k false with
           | true=>rfl
           | false=>rw [D.pend k hk hv] at hkf;cases hkf
          exact D.closed k k' this hk'
        rw [zii D.closed n k i hkd hr] at g3;cases g3
      ·have hmem':memB ops i=false:=by simpa using hmem
       obtain ⟨v0,⟨e0,-⟩,-,hany⟩:=znh hfi (D.stab i g1 g3);have hpd:getS (updO fr (dstO ops j) v) (dstO ops i)=getS fr (dstO ops i):=by
        rw [hd];simp only [getS];exact zff λe=>f2 j (Ne.symm g2) e
       rw [hpd,<-z9k (fr:=fr)]
       ·exact hany hmem' h' _ ⟨e0,rfl⟩
       ·intro t ht;rw [zff];intro e;exact hjV (zf8 D.ord i g1 j (f3 j t e ht))
     ·have hji:i≠j:=λe=>hn (by simp [e]);exact (List.mem_erase_of_ne hji).2 (hL i hi (λh=>hn (by simp [h])))
end
end
section
open Go.RowKit
def bit1 (i:Nat):Nat:=Nat.pow 2 i
def z1t (m i:Nat):Bool:=Nat.beq (Nat.land (Nat.shiftRight m i) 1) 1
def orM (a b:Nat):Nat:=Nat.lor a b
def zn7 (l:List Nat):Nat:=l.foldr (λk m=>orM m (bit1 k)) 0
theorem zg9 (m i:Nat):z1t m i=m.testBit i:=by
 have h:Nat.land (Nat.shiftRight m i) 1=(m >>> i)%2:=Nat.and_one_is_mod _;unfold z1t;rw [h,Nat.testBit_eq_decide_div_mod_eq,Nat.shiftRight_eq_div_pow];rw [Bool.eq_iff_iff,Nat.beq_eq,decide_eq_true_eq]
theorem z5h (a b i:Nat):z1t (orM a b) i=(z1t a i||z1t b i):=by
 simp only [zg9];exact Nat.testBit_or a b i
theorem z8w (k i:Nat):z1t (bit1 k) i=decide (k=i):=by
 simp only [zg9];exact Nat.testBit_two_pow
theorem z5i (i:Nat):z1t 0 i=false:=by simp [zg9]
theorem zkl (l:List Nat) (i:Nat):z1t (zn7 l) i=true↔i∈l:=by
 induction l with
 | nil=>simp [zn7,z5i]
 | cons k l ih=>
  show z1t (orM (zn7 l) (bit1 k)) i=true↔_
  rw [z5h,z8w,Bool.or_eq_true,ih,List.mem_cons,decide_eq_true_eq];exact ⟨λh=>h.elim Or.inr (λe=>Or.inl e.symm),λh=>h.elim (λe=>Or.inr e.symm) Or.inl⟩
def inM (V m:Nat):Bool:=Nat.beq (Nat.land m V) m
theorem inM_iff (V m:Nat):inM V m=true↔∀ k,z1t m k=true->z1t V k=true:=by
 unfold inM;rw [Nat.beq_eq];simp only [zg9];constructor
 ·intro h k hk;have:=congrArg (λx=>Nat.testBit x k) h;replace this:Nat.testBit (Nat.land m V) k=m.testBit k:=this;have h2:Nat.testBit (Nat.land m V) k=(m.testBit k&&V.testBit k):=Nat.testBit_and m V k;rw [h2,hk,Bool.true_and] at this;exact this
 ·intro h;refine Nat.eq_of_testBit_eq λk=>?_;have h2:Nat.testBit (Nat.land m V) k=(m.testBit k&&V.testBit k):=Nat.testBit_and m V k;rw [h2]
  cases hm:m.testBit k with
  | false=>rfl
  | true=>rw [h k hm];rfl
def zo8 (o:Oper):List Nat:=(o.after.toList.filter (Region.binds .any)).map (·.on)
theorem zdh {ops:Array Oper} {j i:Nat}:depB ops j i=true↔∃ o,ops[j]?=some o/\i∈zo8 o:=by
 unfold depB zo8
 cases ops[j]? with
 | none=>simp
 | some o=>
  simp only [Array.any_eq_true',Bool.and_eq_true,beq_iff_eq,Option.some.injEq,List.mem_map,List.mem_filter,exists_eq_left',Array.mem_toList_iff,and_assoc]
def zas (ops:Array Oper) (o:Oper) (t:Nat):Bool:=(zo8 o).any λk=>match dstO ops k with | some d=>Nat.beq d t | none=>false
def badM (ops:Array Oper):Nat:=ops.toList.foldr (λo m=>(o.looksAt ops).foldr (λt m=>if zas ops o t then m else orM m (bit1 t)) m) 0
def dstsL (ops:Array Oper):List Nat:=ops.toList.filterMap (·.dst)
def zr2:List Nat->Nat->Bool
 | [],_=>true
 | d::r,m=>!z1t m d&&zr2 r (orM m (bit1 d))
def floatF (ch:Nat->Bool) (ops:Array Oper) (bad all:Nat) (o:Oper):Bool:=
 match o.dst with
 | some d=>zl7 (byO ch o.dst) o.op&&!z1t bad d&&(o.looksAt ops).all (λt=>(zas ops o t||!z1t all t)&&!Nat.beq t d)
 | none=>false
def zn1 (f:Oper->Bool):Nat->List Oper->Nat
 | _,[]=>0
 | i,o::r=>if f o then orM (zn1 f (i+1) r) (bit1 i) else zn1 f (i+1) r
def flT (ch:Nat->Bool) (ops:Array Oper):Nat:=if zr2 (dstsL ops) 0 then zn1 (floatF ch ops (badM ops) (zn7 (dstsL ops))) 0 ops.toList else 0
theorem zn2 (f:Oper->Bool):∀ (l:List Oper) (i j:Nat),z1t (zn1 f i l) j=true↔∃ k o,l[k]?=some o/\f o=true/\j=i+k
 | [],i,j=>by simp [zn1,z5i]
 | o::r,i,j=>by
  have ih:=zn2 f r (i+1) j;unfold zn1;by_cases hf:f o=true
  ·rw [if_pos hf,z5h,z8w,Bool.or_eq_true,ih,decide_eq_true_eq];constructor
   ·rintro (⟨k,x,h1,h2,h3⟩ | h)
    ·exact ⟨k+1,x,by simpa using h1,h2,by omega⟩
    ·exact ⟨0,o,rfl,hf,by omega⟩
   ·rintro ⟨k,x,h1,h2,h3⟩
    cases k with
    | zero=>exact Or.inr (by omega)
    | succ k=>exact Or.inl ⟨k,x,by simpa using h1,h2,by omega⟩
  ·rw [if_neg hf,ih];constructor
   ·rintro ⟨k,x,h1,h2,h3⟩;exact ⟨k+1,x,by simpa using h1,h2,by omega⟩
   ·rintro ⟨k,x,h1,h2,h3⟩
    cases k with
    | zero=>simp at h1;subst h1;exact absurd h2 hf
    | succ k=>exact ⟨k,x,by simpa using h1,h2,by omega⟩
theorem zn8:∀ (l:List Nat) (m:Nat),zr2 l m=true->l.Nodup/\∀ d∈l,z1t m d=false
 | [],_,_=>⟨List.nodup_nil,λd hd=>by cases hd⟩
 | d::r,m,h=>by
  simp only [zr2,Bool.and_eq_true,Bool.not_eq_true'] at h;obtain ⟨h1,h2⟩:=zn8 r _ h.2;refine ⟨List.nodup_cons.2 ⟨λhd=>?_,h1⟩,λx hx=>?_⟩
  ·have:=h2 d hd;rw [z5h,z8w] at this;simp at this
  ·rcases List.mem_cons.1 hx with rfl | hx
   ·exact h.1
   ·have:=h2 x hx;rw [z5h] at this;simp only [Bool.or_eq_false_iff] at this;exact this.1
theorem zdi:∀ {l:List Oper},(l.filterMap (·.dst)).Nodup->∀ {i j:Nat} {o p:Oper} {d:Nat},l[i]?=some o->l[j]?=some p->o.dst=some d->p.dst=some d->i=j
 | [],_,i,j,o,p,d,h1,_,_,_=>by simp at h1
 | x::l,hn,i,j,o,p,d,h1,h2,h3,h4=>by
  have hsub:(l.filterMap (·.dst)).Nodup:=by
   cases hx:x.dst with
   | none=>rw [List.filterMap_cons_none hx] at hn;exact hn
   | some e=>rw [List.filterMap_cons_some hx] at hn;exact (List.nodup_cons.1 hn).2
  have hout:∀ e,x.dst=some e->e∉l.filterMap (·.dst):=λe hx=>by
   rw [List.filterMap_cons_some hx] at hn;exact (List.nodup_cons.1 hn).1
  cases i with
  | zero=>
   simp at h1;subst h1
   cases j with
   | zero=>rfl
   | succ j=>
    simp at h2;exact absurd (List.mem_filterMap.2 ⟨p,List.mem_of_getElem? h2,h4⟩) (hout d h3)
  | succ i=>
   simp at h1
   cases j with
   | zero=>
    simp at h2;subst h2;exact absurd (List.mem_filterMap.2 ⟨o,List.mem_of_getElem? h1,h3⟩) (hout d h4)
   | succ j=>
    simp at h2;rw [zdi hsub h1 h2 h3 h4]
theorem zmw {ops:Array Oper} {o:Oper} {t:Nat}:zas ops o t=true↔∃ k∈zo8 o,dstO ops k=some t:=by
 unfold zas;rw [List.any_eq_true];constructor
 ·rintro ⟨k,h1,h2⟩;refine ⟨k,h1,?_⟩
  cases hd:dstO ops k with
  | none=>rw [hd] at h2;cases h2
  | some d=>rw [hd] at h2;simp only [Nat.beq_eq] at h2;rw [h2]
 ·rintro ⟨k,h1,h2⟩;exact ⟨k,h1,by rw [h2];simp⟩
theorem zka {ops:Array Oper} {o:Oper} {t:Nat}:∀ (l:List Nat) (m:Nat),(z1t m t=true\/(t∈l/\zas ops o t=false))->z1t (l.foldr (λt m=>if zas ops o t then m else orM m (bit1 t)) m) t=true
 | [],m,h=>by
  rcases h with h | ⟨h,-⟩
  ·exact h
  ·cases h
 | x::l,m,h=>by
  simp only [List.foldr_cons];by_cases hx:x=t/\zas ops o t=false
  ·obtain ⟨rfl,hx⟩:=hx;rw [hx];simp only [Bool.false_eq_true,if_false];rw [z5h,z8w];simp
  ·have ih:=zka l m (by
    rcases h with h | ⟨h,h2⟩
    ·exact Or.inl h
    ·rcases List.mem_cons.1 h with e | h
     ·exact absurd ⟨e.symm,h2⟩ hx
     ·exact Or.inr ⟨h,h2⟩)
   split
   ·exact ih
   ·rw [z5h,ih,Bool.true_or]
theorem bad_spec {ops:Array Oper} {t:Nat} (hb:z1t (badM ops) t=false):∀ o∈ops.toList,t∈o.looksAt ops->zas ops o t=true:=by
 unfold badM at hb;have key:∀ (l:List Oper),(∃ o∈l,t∈o.looksAt ops/\zas ops o t=false)->z1t (l.foldr (λo m=>(o.looksAt ops).foldr (λt m=>if zas ops o t then m else orM m (bit1 t)) m) 0) t=true:=by
  intro l
  induction l with
  | nil=>rintro ⟨o,h,-⟩;cases h
  | cons x l ih=>
   rintro ⟨o,h,h2,h3⟩;simp only [List.foldr_cons];rcases List.mem_cons.1 h with rfl | h
   ·exact zka _ _ (Or.inr ⟨h2,h3⟩)
   ·have:=ih ⟨o,h,h2,h3⟩;by_cases hx:t∈x.looksAt ops/\zas ops x t=false
    ·exact zka _ _ (Or.inr hx)
    ·have mono:∀ (l:List Nat) (m:Nat),z1t m t=true->z1t (l.foldr (λt m=>if zas ops x t then m else orM m (bit1 t)) m) t=true:=by
      intro l
      induction l with
      | nil=>intro m h;exact h
      | cons y l ih2=>
       intro m h;simp only [List.foldr_cons];split
       ·exact ih2 m h
       ·rw [z5h,ih2 m h,Bool.true_or]
     exact mono _ _ this
 intro o ho ht
 cases hd:zas ops o t with
 | true=>rfl
 | false=>rw [key _ ⟨o,ho,ht,hd⟩] at hb;cases hb
theorem flT_float {ch:Nat->Bool} {ops:Array Oper} {i:Nat} (h:z1t (flT ch ops) i=true):zef ch ops i=true:=by
 unfold flT at h;by_cases hn:zr2 (dstsL ops) 0=true
 ·rw [if_pos hn] at h;have hnd:=(zn8 _ _ hn).1;obtain ⟨k,o,ho,hf,rfl⟩:=(zn2 _ _ _ _).1 h;rw [Nat.zero_add];have hoA:ops[k]?=some o:=by simpa using ho
  unfold floatF at hf;unfold zef;rw [hoA]
  cases hd:o.dst with
  | none=>rw [hd] at hf;cases hf
  | some d=>
   rw [hd] at hf;simp only [Bool.and_eq_true,Bool.not_eq_true',List.all_eq_true,Bool.or_eq_true] at hf;obtain ⟨⟨h1,h2⟩,h3⟩:=hf;simp only [hd,Bool.and_eq_true,Bool.not_eq_true',List.all_eq_true,Bool.or_eq_true,List.mem_range];have get:∀ {j p},ops[j]?=some p->ops.toList[j]?=some p:=λhp=>by rw [Array.getElem?_toList];exact hp
   refine ⟨⟨h1,λj hj=>⟨⟨?_,?_⟩,?_⟩⟩,?_⟩
   ·
    cases hl:z88 ops j d with
    | false=>exact Or.inl rfl
    | true=>
     right
     cases hp:ops[j]? with
     | none=>unfold z88 at hl;rw [hp] at hl;cases hl
     | some p=>
      have hlp:d∈p.looksAt ops:=(zgc hp).1 hl;have:=bad_spec h2 p (by simpa using Array.mem_of_getElem? hp) hlp;obtain ⟨q,hq1,hq2⟩:=zmw.1 this;rw [zdh];refine ⟨p,hp,?_⟩;unfold dstO at hq2
      cases hq:ops[q]? with
      | none=>rw [hq] at hq2;cases hq2
      | some r=>
       rw [hq] at hq2;have:q=k:=zdi hnd (get hq) (get hoA) hq2 hd;subst this;exact hq1
   ·by_cases e:j=k
    ·left;simp [e]
    ·right
     simp only [bne_iff_ne,ne_eq];intro he;unfold dstO at he
     cases hp:ops[j]? with
     | none=>rw [hp] at he;cases he
     | some p=>
      rw [hp] at he;exact e (zdi hnd (get hp) (get hoA) he hd)
   ·cases he:dstO ops j with
    | none=>rfl
    | some t=>
     simp only [Bool.or_eq_true,Bool.not_eq_true']
     cases hl:z88 ops k t with
     | false=>exact Or.inl rfl
     | true=>
      right
      have hlo:t∈o.looksAt ops:=(zgc hoA).1 hl;unfold dstO at he
      cases hp:ops[j]? with
      | none=>rw [hp] at he;cases he
      | some p=>
       rw [hp] at he;rcases (h3 t hlo).1 with h4 | h4
       ·obtain ⟨q,hq1,hq2⟩:=zmw.1 h4;unfold dstO at hq2
        cases hq:ops[q]? with
        | none=>rw [hq] at hq2;cases hq2
        | some r=>
         rw [hq] at hq2;have:q=j:=zdi hnd (get hq) (get hp) hq2 he;subst this;exact zdh.2 ⟨o,hoA,hq1⟩
       ·have:t∈dstsL ops:=List.mem_filterMap.2 ⟨p,by simpa using Array.mem_of_getElem? hp,he⟩;rw [(zkl _ _).2 this] at h4;cases h4
   ·cases hl:z88 ops k d with
    | false=>rfl
    | true=>
     have:=(h3 d ((zgc hoA).1 hl)).2;simp at this
 ·rw [if_neg hn,z5i] at h;cases h
def zpk:List Oper->Nat->List Nat->List Nat
 | [],_,acc=>acc
 | o::r,m,acc=>zpk r (m+1) ((zo8 o).foldr (λk x=>orM (orM x (bit1 k)) (if Nat.blt k m then acc.getD (m-1-k) 0 else 0)) 0::acc)
def reachT (ops:Array Oper):List Nat:=zpk ops.toList 0 []
def reachM (ops:Array Oper) (k:Nat):Nat:=if Nat.blt k ops.size then (reachT ops).getD (ops.size-1-k) 0 else 0
def finT (ops:Array Oper) (fl:Nat) (V:List Nat) (i:Nat):Bool:=z1t (V.foldr (λk m=>if z1t fl k then m else orM m (reachM ops k)) 0) i
theorem znj {ops:Array Oper}:∀ (r:List Oper) (m:Nat) (acc:List Nat),acc.length=m->ops.toList=ops.toList.take m++r->m<=ops.size->
  (∀ j,j<m->∀ i,z1t (acc.getD (m-1-j) 0) i=true->∃ n,zce ops n j i=true)->
  (zpk r m acc).length=ops.size/\∀ j,j<ops.size->∀ i,z1t ((zpk r m acc).getD (ops.size-1-j) 0) i=true->∃ n,zce ops n j i=true
 | [],m,acc,hl,he,hm,h=>by
  have:m=ops.size:=by
   have:=congrArg List.length he;simp at this;omega
  subst this;exact ⟨hl,h⟩
 | o::r,m,acc,hl,he,hm,h=>by
  have hmo:ops.toList[m]?=some o:=by
   rw [he,List.getElem?_append_right (by simp;omega)];simp only [List.length_take,Array.length_toList];rw [Nat.min_eq_left hm,Nat.sub_self];rfl
  have hmA:ops[m]?=some o:=by simpa using hmo
  have hms:m<ops.size:=(Array.getElem?_eq_some_iff.1 hmA).1;refine znj r (m+1) _ (by simp [hl]) ?_ (by omega) ?_
  ·have ht:ops.toList.take (m+1)=ops.toList.take m++[o]:=by rw [List.take_add_one,hmo];rfl
   rw [ht,List.append_assoc];exact he
  ·intro j hj i hi;by_cases e:j=m
   ·subst e;rw [show j+1-1-j=0 by omega] at hi;simp only [List.getD_cons_zero] at hi;have key:∀ (l:List Nat),(∀ k∈l,k∈zo8 o)->z1t (l.foldr (λk x=>orM (orM x (bit1 k)) (if Nat.blt k j then acc.getD (j-1-k) 0 else 0)) 0) i=true->∃ n,zce ops n j i=true:=by
     intro l
     induction l with
     | nil=>intro _ h;simp [z5i] at h
     | cons k l ih=>
      intro hk hb;simp only [List.foldr_cons] at hb;rw [z5h,z5h,Bool.or_eq_true,Bool.or_eq_true] at hb;have hkd:=hk k (List.mem_cons_self ..);rcases hb with (hb | hb) | hb
      ·exact ih (λk hk'=>hk k (List.mem_cons_of_mem _ hk')) hb
      ·rw [z8w,decide_eq_true_eq] at hb;subst hb;exact ⟨1,by simp [zce,zdh.2 ⟨o,hmA,hkd⟩]⟩
      ·by_cases hlt:Nat.blt k j=true
       ·rw [if_pos hlt] at hb;have hkj:k<j:=by simp [Nat.blt] at hlt;omega
        obtain ⟨n,hn⟩:=h k hkj i hb;refine ⟨n+1,?_⟩;simp only [zce,Bool.or_eq_true,List.any_eq_true,List.mem_range,Bool.and_eq_true];exact Or.inr ⟨k,by omega,zdh.2 ⟨o,hmA,hkd⟩,hn⟩
       ·rw [if_neg hlt,z5i] at hb;cases hb
    exact key _ (λk hk=>hk) hi
   ·have hj':j<m:=by omega
    rw [show m+1-1-j=(m-1-j)+1 by omega,List.getD_cons_succ] at hi;exact h j hj' i hi
theorem finT_ok {ops:Array Oper} {fl:Nat} {V:List Nat} {i:Nat} (h:finT ops fl V i=true):∃ k∈V,z1t fl k=false/\∃ n,zce ops n k i=true:=by
 unfold finT at h
 induction V with
 | nil=>simp [z5i] at h
 | cons k V ih=>
  simp only [List.foldr_cons] at h;have lift:(∃ k∈V,z1t fl k=false/\∃ n,zce ops n k i=true)->∃ k'∈k::V,z1t fl k'=false/\∃ n,zce ops n k' i=true:=by
   rintro ⟨k',h1,h2⟩;exact ⟨k',List.mem_cons_of_mem _ h1,h2⟩
  cases hk:z1t fl k with
  | true=>rw [hk,if_pos rfl] at h;exact lift (ih h)
  | false=>
   rw [hk,if_neg Bool.false_ne_true,z5h,Bool.or_eq_true] at h;rcases h with h | h
   ·exact lift (ih h)
   ·unfold reachM at h;by_cases hlt:Nat.blt k ops.size=true
    ·rw [if_pos hlt] at h;have hkj:k<ops.size:=by simp [Nat.blt] at hlt;omega
     obtain ⟨-,h2⟩:=znj (ops:=ops) ops.toList 0 [] rfl (by simp) (by omega) (λj hj=>by omega);exact ⟨k,List.mem_cons_self ..,hk,h2 k hkj i h⟩
    ·rw [if_neg hlt,z5i] at h;cases h
def zl9:Nat->List Oper->List (Nat×Nat)
 | _,[]=>[]
 | i,o::r=>(i,zn7 (zo8 o))::zl9 (i+1) r
def zss (i:Nat):List (Nat×Nat)->List (Nat×Nat)
 | []=>[]
 | p::r=>if Nat.beq p.1 i then r else p::zss i r
def znw (P:Program) (ch:Nat->Bool) (ops:Array Oper) (fl:Nat) (Q:Fr->z00->Prop):Nat->List (Nat×Nat)->Nat->List Nat->Fr->z00->Prop
 | 0,_,_,_,fr,h=>Q fr h
 | n+1,rem,Vm,V,fr,h=>match rem.find? (λp=>z1t fl p.1&&inM Vm p.2) with
  | some p=>zpr P ch ops p.1 fr h λv h'=>znw P ch ops fl Q n (zss p.1 rem) (orM Vm (bit1 p.1)) (p.1::V) (updO fr (dstO ops p.1) v) h'
  | none=>match (rem.filter (λp=>inM Vm p.2)).map (·.1) with
   | []=>Q fr h
   | r=>allP (λj=>zpr P ch ops j fr h λv h'=>stabs P ch ops (z1t fl) (finT ops fl) (j::V) (updO fr (dstO ops j) v) h'/\znw P ch ops fl Q n (zss j rem) (orM Vm (bit1 j)) (j::V) (updO fr (dstO ops j) v) h') r
def zhi (ops:Array Oper) (i:Nat):Nat:=match ops[i]? with | some o=>zn7 (zo8 o) | none=>0
def remV (ops:Array Oper) (V:List Nat):List (Nat×Nat):=((List.range ops.size).filter (λi=>!V.contains i)).map λi=>(i,zhi ops i)
theorem znk {ops:Array Oper}:∀ (l:List Oper) (i:Nat),(∀ k,l[k]?=ops[i+k]?)->zl9 i l=(List.range' i l.length).map λi=>(i,zhi ops i)
 | [],i,_=>rfl
 | o::l,i,h=>by
  have h0:=h 0;simp at h0;have ih:=znk l (i+1) (λk=>by have:=h (k+1);simp at this;rw [this];congr 1;omega);simp only [zl9,List.length_cons,List.range'_succ,List.map_cons,ih]
  congr 1
  unfold zhi;rw [<-h0]
theorem ztt (ops:Array Oper):zl9 0 ops.toList=remV ops []:=by
 rw [znk (ops:=ops) _ 0 (λk=>by simp)];unfold remV;simp only [List.range_eq_range',Array.length_toList]
 congr 1
 symm
 refine List.filter_eq_self.2 λa _=>by simp
theorem zqg {g:Nat->Nat} {j:Nat}:∀ (L:List Nat),L.Nodup->zss j (L.map λi=>(i,g i))=(L.filter (λi=>i != j)).map λi=>(i,g i)
 | [],_=>rfl
 | x::L,h=>by
  obtain ⟨h1,h2⟩:=List.nodup_cons.1 h;simp only [List.map_cons,zss,Nat.beq_eq];by_cases e:x=j
  ·subst e;have:L.filter (λi=>i != x)=L:=List.filter_eq_self.2 λa ha=>by simp only [bne_iff_ne,ne_eq];rintro rfl;exact h1 ha
   simp [this]
  ·simp [e,zqg L h2]
theorem zrz (ops:Array Oper) (V:List Nat) (j:Nat):zss j (remV ops V)=remV ops (j::V):=by
 unfold remV;rw [zqg _ ((List.nodup_range).filter _),List.filter_filter]
 congr 1
 refine List.filter_congr λi _=>?_;rw [List.contains_cons,Bool.not_or];rfl
theorem zry {ops:Array Oper} (hdl:∀ j k,depB ops j k=true->k<ops.size) {V:List Nat} {Vm:Nat} (hV:∀ k,z1t Vm k=V.contains k):z9i ops V=((remV ops V).filter (λp=>inM Vm p.2)).map (·.1):=by
 unfold z9i remV;rw [List.filter_map,List.map_map,List.filter_filter];have:((λx:Nat×Nat=>x.1) ∘ λi=>(i,zhi ops i))=id:=rfl;rw [this,List.map_id];refine List.filter_congr λi hi=>?_;have hi:i<ops.size:=by simpa using hi
 rw [Bool.and_comm]
 congr 1
 rw [Bool.eq_iff_iff];simp only [Function.comp,List.all_eq_true,List.mem_range,Bool.or_eq_true,Bool.not_eq_true',inM_iff,hV];have hd:∀ k,z1t (zhi ops i) k=depB ops i k:=λk=>by
  rw [Bool.eq_iff_iff,zdh];unfold zhi;rw [Array.getElem?_eq_getElem hi];simp only [zkl,Option.some.injEq,exists_eq_left']
 simp only [hd];constructor
 ·intro h k hk;rcases h k (hdl _ _ hk) with h | h
  ·rw [hk] at h;cases h
  ·exact h
 ·intro h k hk
  cases hb:depB ops i k with
  | false=>exact Or.inl rfl
  | true=>exact Or.inr (h k hb)
theorem find_eq {ops:Array Oper} (hdl:∀ j k,depB ops j k=true->k<ops.size) {V:List Nat} {Vm fl:Nat} (hV:∀ k,z1t Vm k=V.contains k):(z9i ops V).find? (z1t fl)=((remV ops V).find? (λp=>z1t fl p.1&&inM Vm p.2)).map (·.1):=by
 rw [zry hdl hV,List.find?_map,List.find?_filter]
 congr 1
 congr 1
 funext p;simp only [Function.comp,Bool.and_comm];by_cases h1:inM Vm p.2=true <;> simp [h1]
theorem zlo {P:Program} {ch:Nat->Bool} {ops:Array Oper} {fl:Nat} {Q:Fr->z00->Prop} (hdl:∀ j k,depB ops j k=true->k<ops.size):∀ (n:Nat) (Vm:Nat) (V:List Nat) (fr:Fr) (h:z00),(∀ k,z1t Vm k=V.contains k)->
  znw P ch ops fl Q n (remV ops V) Vm V fr h=zha P ch ops (z1t fl) (finT ops fl) Q n V fr h
 | 0,Vm,V,fr,h,hV=>rfl
 | n+1,Vm,V,fr,h,hV=>by
  have step:∀ j,(∀ k,z1t (orM Vm (bit1 j)) k=(j::V).contains k):=λj k=>by
   rw [z5h,z8w,hV,List.contains_cons,Bool.or_comm]
   congr 1
   rw [Bool.eq_iff_iff,decide_eq_true_eq,beq_iff_eq];exact eq_comm
  unfold znw zha;rw [find_eq hdl hV]
  cases hf:(remV ops V).find? (λp=>z1t fl p.1&&inM Vm p.2) with
  | some p=>
   simp only [Option.map_some]
   congr 1
   funext v h';rw [zrz];exact zlo hdl n _ _ _ _ (step p.1)
  | none=>
   simp only [Option.map_none];rw [<-zry hdl hV];have:(λj=>zpr P ch ops j fr h λv h'=>stabs P ch ops (z1t fl) (finT ops fl) (j::V) (updO fr (dstO ops j) v) h'/\znw P ch ops fl Q n (zss j (remV ops V)) (orM Vm (bit1 j)) (j::V) (updO fr (dstO ops j) v) h')=(λj=>zpr P ch ops j fr h λv h'=>stabs P ch ops (z1t fl) (finT ops fl) (j::V) (updO fr (dstO ops j) v) h'/\zha P ch ops (z1t fl) (finT ops fl) Q n (j::V) (updO fr (dstO ops j) v) h'):=by
    funext j
    congr 1
    funext v h';rw [zrz,zlo hdl n _ _ _ _ (step j)]
   rw [this]
   all_goals (cases z9i ops V <;> rfl)
def edgesB (ops:Array Oper):Bool:=ops.toList.all λo=>o.after.toList.all λe=>Nat.blt e.on ops.size
def wpDraw (P:Program) (N:Nat) (ch:Nat->Bool) (ops:Array Oper) (Q:Fr->z00->Prop) (fr:Fr) (h:z00):Prop:=
 edgesB ops=true/\znw P ch ops (flT ch ops) Q ops.size (zl9 0 ops.toList) 0 [] fr h
theorem zsf {ro:Option Nat} {P:Program} {N:Nat} {ds:List Deferred} {ch:Nat->Bool} {id:Nat} {ops:Array Oper} {Q:Fr->z00->Prop} {fr:Fr} {h:z00} {B:Nat} {c:Ctx} {w:World} {a:Act} {Q':Exit->Act->World->Prop} (hm:P.follows .mixedOrders=true) (hok:zcy N ops.toList=true) (W:WRel B c h w) (F:z3w N ds c w fr a)
  (H:wpDraw P N ch ops Q fr h) (hQ:∀ c' fr' h' a' w',Ext B c w c' w'->WRel B c' h' w'->z3w N ds c' w' fr' a'->Q fr' h'->Q' .normal a' w'):(Code.region id ops true).wpIn (z5d ro) 0 P Q' a w:=by
 obtain ⟨he,H⟩:=H;refine wpIn_region_any hm ?_;have hdl:∀ j k,depB ops j k=true->k<ops.size:=λj k hk=>by
  obtain ⟨o,ho,hk⟩:=zdh.1 hk;unfold zo8 at hk;obtain ⟨e,he1,rfl⟩:=List.mem_map.1 hk;have h1:=List.all_eq_true.1 he o (by simpa using Array.mem_of_getElem? ho);have h2:=List.all_eq_true.1 h1 e (List.mem_filter.1 he1).1;simp [Nat.blt] at h2;omega
 rw [ztt,zlo hdl _ _ _ _ _ (by simp [z5i])] at H;have hrep:∀ i,(Array.replicate ops.size false).getD i false=false:=λi=>by
  rw [Array.getD_eq_getD_getElem?]
  cases hx:(Array.replicate ops.size false)[i]? with
  | none=>rfl
  | some b=>simp [Array.getElem?_replicate] at hx;simp [hx.2]
 refine wpCan_sound (c0:=c) (w0:=w) (λi hi=>flT_float hi) (λV i hi=>finT_ok hi) hdl hok hQ ops.size _ a _ c [] fr h ops.size (List.range ops.size) (List.range ops.size) ?_ ⟨?_,by simp,⟨F.1,F.2.1⟩,by simp,λi hi=>?_,λi k hi=>?_,trivial,by simp,λt _=>?_,by simp⟩ H (λi hi _=>by simpa using hi) (by simp) (λi hi _=>by simpa using hi) (by simp)
 ·exact Ext.drew B c w
 ·exact WRel.drew W
 ·rw [hrep] at hi;cases hi
 ·rw [hrep] at hi;cases hi
 ·exact VRel.mono (Ext.drew B c w) (F.2.2 t)
end
section
open Go.RowKit
def codeOk (N:Nat):Code->Bool
 | .skip | .exit _ | .ret=>true
 | .region _ ops _=>zcy N ops.toList
 | .seq a b=>codeOk N a&&codeOk N b
 | .cond _ a b=>codeOk N a&&codeOk N b
 | .block _ b=>codeOk N b
 | .loop b=>codeOk N b
 | .rangeFunc ..=>true
 | _=>false
def zm7 (v:AV) (T F:Prop):Prop:=
 match v with
 | .bool b=>if b then T else F
 | .unkb=>T/\F
 | _=>False
def frOf:List (Nat×AV)->Fr
 | [],_=>.und
 | (k,v)::r,i=>if i=k then v else frOf r i
def zbx (L:List Nat) (fr:Fr):Fr:=frOf (L.map λi=>(i,fr i))
structure Cfg where
 ch:Nat->Bool
 lv:Nat->List Nat
 cut:Nat->Bool
 rc:Nat->Nat->Option (List Nat):=λ_ _=>none
def z6n:Code->Option Nat
 | .region id _ _=>some id
 | .seq a b=>match z6n a with | some k=>some k | none=>z6n b
 | .cond _ a b=>match z6n a with | some k=>some k | none=>z6n b
 | .block _ b=>z6n b
 | .loop b=>z6n b
 | _=>none
def zbj:Code->Nat->Bool
 | .exit id,k=>id == k
 | .seq a b,k=>zbj a k||zbj b k
 | .cond _ a b,k=>zbj a k||zbj b k
 | .block _ b,k=>zbj b k
 | .loop b,k=>zbj b k
 | .rangeFunc _ _ _ b,k=>zbj b k
 | _,_=>false
def pIdx (i k:Nat) (T F:Prop):Prop:=if i=k then T else F
def selE (G:Nat->Prop):List Nat->Nat->Prop
 | [],_=>False
 | k::ks,i=>pIdx i k (G k) (selE G ks i)
theorem zs5 {G:Nat->Prop} {l:List Nat} {i:Nat} (h:selE G l i):G i:=by
 induction l with
 | nil=>exact h.elim
 | cons k ks ih=>
  simp only [selE,pIdx] at h;split at h
  ·rename_i e;subst e;exact h
  ·exact ih h
def Cut (A:(Fr->z00->Prop)->Prop) (B:Fr->z00->Prop):Prop:=∃ J:Fr->z00->Prop,A J/\∀ fr h,J fr h->B fr h
def wpc (P:Program) (N:Nat) (cfg:Cfg):List Nat->Code->Fr->z00->(z1z->Fr->z00->Prop)->Prop
 | bl,.skip,fr,h,Q=>Q .normal fr h
 | bl,.region id ops draw,fr,h,Q=>match draw with
  | false=>wpOps P cfg.ch ops (cfg.rc id) (λfr' h'=>Q .normal fr' h') ops.toList fr h
  | true=>wpDraw P N cfg.ch ops (λfr' h'=>Q .normal fr' h') fr h
 | bl,.seq a b,fr,h,Q=>match z6n b with
  | some k=>match cfg.cut k with
   | true=>∃ J:Fr->z00->Prop,wpc P N cfg bl a fr h (z7e (λfr' h'=>J (zbx (cfg.lv k) fr') h') (λid fr' h'=>Q (.exit id) fr' h') (λfr' h'=>Q .ret fr' h'))/\∀ fr' h',J fr' h'->wpc P N cfg bl b fr' h' Q
   | false=>wpc P N cfg bl a fr h (z7e (λfr' h'=>wpc P N cfg bl b fr' h' Q) (λid fr' h'=>Q (.exit id) fr' h') (λfr' h'=>Q .ret fr' h'))
  | none=>wpc P N cfg bl a fr h (z7e (λfr' h'=>wpc P N cfg bl b fr' h' Q) (λid fr' h'=>Q (.exit id) fr' h') (λfr' h'=>Q .ret fr' h'))
 | bl,.cond x a b,fr,h,Q=>zm7 (aEv fr x) (wpc P N cfg bl a fr h Q) (wpc P N cfg bl b fr h Q)
 | bl,.block id b,fr,h,Q=>wpc P N cfg (id::bl) b fr h (z7e (λfr' h'=>Q .normal fr' h') (λid' fr' h'=>pIdx id' id (Q .normal fr' h') (Q (.exit id') fr' h')) (λfr' h'=>Q .ret fr' h'))
 | bl,.loop b,fr,h,Q=>match z6n b with
  | some k=>WP P N (.loop b) (zbx (cfg.lv k) fr) h (z7e (λ_ _=>False) (λid fr' h'=>selE (λk=>Q (.exit k) fr' h') (bl.filter (zbj b)) id) (λfr' h'=>Q .ret fr' h'))
  | none=>False
 | bl,.rangeFunc g ps asn bd,fr,h,Q=>match z6n (.seq asn bd) with
  | some k=>WP P N (.rangeFunc g ps asn bd) (zbx (cfg.lv (k+2000000)) fr) h (z7e (λfr' h'=>Q .normal fr' h') (λid fr' h'=>selE (λk=>Q (.exit k) fr' h') (bl.filter (zbj bd)) id) (λfr' h'=>Q .ret fr' h'))
  | none=>False
 | bl,.exit id,fr,h,Q=>Q (.exit id) fr h
 | bl,.ret,fr,h,Q=>Q .ret fr h
 | _,_,_,_,_=>False
section
variable {P:Program} {N:Nat} {ds:List Deferred} {cfg:Cfg} {ro:Option Nat}
theorem zsi.weak {B:Nat} {ds:List Deferred} {c:Ctx} {w:World} {Q Q':z1z->Fr->z00->Prop} (hq:∀ e fr h,Q e fr h->Q' e fr h) {e:Exit} {a:Act} {w2:World} (H:zsi B N ds c w Q e a w2):zsi B N ds c w Q' e a w2:=by
 obtain ⟨Ds,c',fr',h',ae,h1,h2,h3,h4,h5,h6⟩:=H;exact ⟨Ds,c',fr',h',ae,h1,h2,h3,h4,h5,hq _ _ _ h6⟩
theorem WP.mono {code:Code} {fr:Fr} {h:z00} {Q Q':z1z->Fr->z00->Prop} (H:WP P N code fr h Q) (hq:∀ e fr h,Q e fr h->Q' e fr h):WP P N code fr h Q':=
 λro ds B c w a hro W F=>wpIn_mono (H ro ds B c w a hro W F) λe a' w' hp=>hp.weak hq
theorem zsi.trans {B:Nat} {ds:List Deferred} {c c':Ctx} {w w':World} {Ds:List Nat} {Q:z1z->Fr->z00->Prop} (E:Ext B c w c' w') (M:Marks w w' Ds) {e:Exit} {a:Act} {w2:World} (H:zsi B N (Ds.map mark++ds) c' w' Q e a w2):zsi B N ds c w Q e a w2:=by
 obtain ⟨Es,c2,fr',h',ae,h1,h2,h3,h4,h5,h6⟩:=H;exact ⟨Es++Ds,c2,fr',h',ae,h1,E.trans h2,h3,by simpa using h4,M.more h5 E.below.size h2.oth,h6⟩
theorem zjh {N:Nat} {B:Nat} {c:Ctx} {w:World} {fr:Fr} {a:Act} (F:z3w N ds c w fr a) (L:List Nat):z3w N ds c w (zbx L fr) a:=by
 refine ⟨F.1,F.2.1,λi=>?_⟩;unfold zbx
 induction L with
 | nil=>simp [frOf,VRel]
 | cons k L ih=>
  simp only [List.map_cons,frOf];split
  ·rename_i e;subst e;exact F.2.2 i
  ·exact ih
theorem WP.zbx {code:Code} {fr:Fr} {h:z00} {Q:z1z->Fr->z00->Prop} (L:List Nat) (H:WP P N code (zbx L fr) h Q):WP P N code fr h Q:=
 λro ds B c w a hro W F=>H ro ds B c w a hro W (zjh (B:=B) F L)
theorem nth_succ (v:AV) (vs:List AV) (n:Nat):nth (v::vs) (n+1)=nth vs n:=by simp [nth]
theorem zlm:∀ (l:List Oper) (fr:Fr) (n:Nat) (v:AV) (vs:List AV),updN fr l (n+1) (v::vs)=updN fr l n vs
 | [],_,_,_,_=>rfl
 | o::l,fr,n,v,vs=>by rw [updN,updN,nth_succ,zlm l]
theorem wpList_want {ops:Array Oper} {o:Oper} {rest:List Oper} {Q':Exit->Act->World->Prop} {a:Act} {w:World} (hw:Region.wanted o (yielded ops a.tmps)=true) (h:o.wpIn (z5d ro) 0 P a w (wpListIn (z5d ro) 0 P ops Q' rest) Q'):wpListIn (z5d ro) 0 P ops Q' (o::rest) a w:=by
 unfold wpListIn;rw [if_pos hw];exact h
theorem wpList_skip {ops:Array Oper} {o:Oper} {rest:List Oper} {Q':Exit->Act->World->Prop} {a:Act} {w:World} (hw:Region.wanted o (yielded ops a.tmps)=false) (h:wpListIn (z5d ro) 0 P ops Q' rest (a.put o.dst undef) w):wpListIn (z5d ro) 0 P ops Q' (o::rest) a w:=by
 unfold wpListIn;rw [if_neg (by simp [hw])];exact ⟨λ_ _=>trivial,h⟩
theorem zis {ch:Nat->Bool} {ops:Array Oper} {B j d:Nat} {want:Bool} (hdd:(ops[j]?).bind (·.dst)=some d) {rest:List Oper} {Q':Exit->Act->World->Prop} :
  ∀ (l:List Oper) (k:List AV->z00->Prop) (fr:Fr) (h:z00) (c:Ctx) (w:World) (a:Act),zcy N l=true->(∀ o∈l,o.guard=some (j,want))->l.all (λo=>o.dst != some d)=true->a.tmps.getD d undef=.bool want->WRel B c h w->z3w N ds c w fr a->zsg P ch l k fr h->
  (∀ c' vs h' a' w',Ext B c w c' w'->WRel B c' h' w'->z3w N ds c' w' (updN fr l 0 vs) a'->k vs h'->wpListIn (z5d ro) 0 P ops Q' rest a' w')->wpListIn (z5d ro) 0 P ops Q' (l++rest) a w
 | [],k,fr,h,c,w,a,_,_,_,_,W,F,H,hQ=>hQ c [] h a w (Ext.refl _ _ _) W F H
 | o::l,k,fr,h,c,w,a,hok,hg,hne,hv,W,F,H,hQ=>by
  have hd:=zgl hok (o:=o) (by simp);have hok':zcy N l=true:=by simp [zcy] at hok ⊢;exact hok.2
  have hne':l.all (λo=>o.dst != some d)=true:=by simp at hne ⊢;exact hne.2
  have hod:o.dst≠some d:=by simp at hne;exact hne.1
  refine wpList_want (by simp [Region.wanted,hg o (by simp),za1 hdd hv]) ?_;unfold zsg at H;refine zlp W F H ?_;intro c' v h' w' u E W' hv' hk;refine zis hdd l _ _ h' c' w' _ hok' (λo ho=>hg o (by simp [ho])) hne' (by rw [zbi hod];exact hv) W' ((F.mono E).put hd hv') hk ?_;intro c2 vs h2 a2 w2 E2 W2 F2 hk2;refine hQ c2 (v::vs) h2 a2 w2 (E.trans E2) W2 ?_ hk2;rw [updN,zlm];simpa [nth] using F2
theorem zir {ops:Array Oper} {j d:Nat} {want:Bool} (hdd:(ops[j]?).bind (·.dst)=some d) {rest:List Oper} {Q':Exit->Act->World->Prop} {c:Ctx} {w:World} :
  ∀ (l:List Oper) (fr:Fr) (a:Act),zcy N l=true->(∀ o∈l,o.guard=some (j,want))->l.all (λo=>o.dst != some d)=true->(a.tmps.getD d undef=.bool (!want)\/a.tmps.getD d undef=.tuple #[])->z3w N ds c w fr a->
  (∀ a',z3w N ds c w (updN fr l 0 (l.map λ_=>.tup [])) a'->wpListIn (z5d ro) 0 P ops Q' rest a' w)->wpListIn (z5d ro) 0 P ops Q' (l++rest) a w
 | [],fr,a,_,_,_,_,F,hQ=>hQ a F
 | o::l,fr,a,hok,hg,hne,hv,F,hQ=>by
  have hd:=zgl hok (o:=o) (by simp);have hok':zcy N l=true:=by simp [zcy] at hok ⊢;exact hok.2
  have hne':l.all (λo=>o.dst != some d)=true:=by simp at hne ⊢;exact hne.2
  have hod:o.dst≠some d:=by simp at hne;exact hne.1
  have hw:Region.wanted o (yielded ops a.tmps)=false:=by
   rcases hv with hv | hv
   ·simp [Region.wanted,hg o (by simp),za1 hdd hv]
   ·simp [Region.wanted,hg o (by simp),zit hdd hv]
  refine wpList_skip hw ?_;refine zir hdd l (updO fr o.dst (.tup [])) _ hok' (λo ho=>hg o (by simp [ho])) hne' (by rw [zbi hod];exact hv) (F.put hd (by simp only [VRel];exact ⟨#[],rfl,rfl⟩)) ?_;intro a' F';refine hQ a' ?_;rw [List.map_cons,updN,zlm];simpa [nth] using F'
theorem zlk:∀ (l:List Oper),((zh5 l).map (·.2)).flatten=l/\∀ g∈zh5 l,(∀ o∈g.2,o.guard=g.1)
 | []=>⟨rfl,by simp [zh5]⟩
 | o::r=>by
  obtain ⟨h1,h2⟩:=zlk r;have plain:(([(o.guard,[o])]++zh5 r).map (·.2)).flatten=o::r/\∀ g∈[(o.guard,[o])]++zh5 r,(∀ o∈g.2,o.guard=g.1):=by
   refine ⟨by simp [h1],?_⟩;intro g hg;rcases List.mem_append.1 hg with hg | hg
   ·simp only [List.mem_singleton] at hg;subst hg;simp
   ·exact h2 g hg
  unfold zh5;split
  ·rename_i gd g l gs hgd hs;rw [hs] at h1 h2 plain;split
   ·rename_i e;subst e;refine ⟨by simpa using h1,?_⟩;intro x hx;rcases List.mem_cons.1 hx with rfl | hx
    ·intro p hp;rcases List.mem_cons.1 hp with rfl | hp
     ·exact hgd
     ·exact h2 (some gd,l) (by simp) p hp
    ·exact h2 x (by simp [hx])
   ·rw [hgd] at plain;exact plain
  ·exact plain
theorem zif {l m:List Oper}:zcy N (l++m)=true↔zcy N l=true/\zcy N m=true:=by simp [zcy]
theorem zdu {ch:Nat->Bool} {ops:Array Oper} {sp:Nat->Option (List Nat)} {Q:Fr->z00->Prop} {B:Nat}:∀ (n:Nat) (gs:List (Option (Nat×Bool)×List Oper)) (fr:Fr) (h:z00) (c:Ctx) (w:World) (a:Act),zcy N ((gs.map (·.2)).flatten)=true->(∀ g∈gs,∀ o∈g.2,o.guard=g.1)->WRel B c h w->z3w N ds c w fr a->wpGs P ch ops sp Q n gs fr h->
  ∀ Q':Exit->Act->World->Prop,(∀ c' fr' h' a' w',Ext B c w c' w'->WRel B c' h' w'->z3w N ds c' w' fr' a'->Q fr' h'->Q' .normal a' w')->wpListIn (z5d ro) 0 P ops Q' ((gs.map (·.2)).flatten) a w
 | _,[],fr,h,c,w,a,_,_,W,F,H,Q',hQ=>hQ c fr h a w (Ext.refl _ _ _) W F H
 | n,(none,l)::gs,fr,h,c,w,a,hok,hg,W,F,H,Q',hQ=>by
  simp only [List.map_cons,List.flatten_cons] at hok ⊢;obtain ⟨hok1,hok2⟩:=zif.1 hok;have hgl:=hg (none,l) (by simp);have hgs:∀ g∈gs,∀ o∈g.2,o.guard=g.1:=λg h=>hg g (by simp [h]);simp only [wpGs] at H;clear hok hg
  induction l generalizing fr h c w a with
  | nil=>
   unfold wpRun at H;obtain ⟨fr2,F2,H2⟩:=F.sp H;exact zdu (n+1) gs fr2 h c w a hok2 hgs W F2 H2 Q' hQ
  | cons o l ih=>
   have hd:=zgl hok1 (o:=o) (by simp);refine wpList_want (by simp [Region.wanted,hgl o (by simp)]) ?_;unfold wpRun at H;refine zlp W F H ?_;intro c' v h' w' u E W' hv' hk;exact ih _ _ _ _ _ W' ((F.mono E).put hd hv') hk (λc2 fr2 h2 a2 w2 E2=>hQ c2 fr2 h2 a2 w2 (E.trans E2)) (by simp [zcy] at hok1 ⊢;exact hok1.2) (λp hp=>hgl p (List.mem_cons_of_mem _ hp))
 | n,(some (j,want),l)::gs,fr,h,c,w,a,hok,hg,W,F,H,Q',hQ=>by
  simp only [List.map_cons,List.flatten_cons] at hok ⊢;obtain ⟨hok1,hok2⟩:=zif.1 hok;have hgl:=hg (some (j,want),l) (by simp);have hgs:∀ g∈gs,∀ o∈g.2,o.guard=g.1:=λg h=>hg g (by simp [h]);simp only [wpGs] at H;split at H <;> (try (exact H.elim));rename_i d hdd;split at H <;> (try (exact H.elim));rename_i hne;unfold zma at H;have hvd:=F.2.2 d;have onYes:a.tmps.getD d undef=.bool want->zsg P ch l (λvs h'=>wpSp (sp n) (updN fr l 0 vs) (λfr2=>wpGs P ch ops sp Q (n+1) gs fr2 h')) fr h->wpListIn (z5d ro) 0 P ops Q' (l++(gs.map (·.2)).flatten) a w:=by
   intro hv H;refine zis hdd l _ fr h c w a hok1 hgl hne hv W F H ?_;intro c' vs h' a' w' E W' F' hk;obtain ⟨fr3,F3,H3⟩:=F'.sp hk;exact zdu (n+1) gs _ h' c' w' a' hok2 hgs W' F3 H3 Q' λc2 fr2 h2 a2 w2 E2=>hQ c2 fr2 h2 a2 w2 (E.trans E2)
  have onNo:(a.tmps.getD d undef=.bool (!want)\/a.tmps.getD d undef=.tuple #[])->wpSp (sp n) (updN fr l 0 (l.map λ_=>.tup [])) (λfr2=>wpGs P ch ops sp Q (n+1) gs fr2 h)->wpListIn (z5d ro) 0 P ops Q' (l++(gs.map (·.2)).flatten) a w:=by
   intro hv H;refine zir hdd l fr a hok1 hgl hne hv F ?_;intro a' F';obtain ⟨fr3,F3,H3⟩:=F'.sp H;exact zdu (n+1) gs _ h c w a' hok2 hgs W F3 H3 Q' hQ
  unfold zel at H;split at H
  ·rename_i b hb;rw [hb] at hvd;have hv:=hvd.z7o;split at H
   ·rename_i e;subst e;exact onYes hv H
   ·rename_i e;refine onNo (Or.inl ?_) H;rw [hv];cases b <;> cases want <;> simp_all
  ·rename_i hb;rw [hb] at hvd;simp only [VRel] at hvd;obtain ⟨b,hv⟩:=hvd;by_cases e:b=want
   ·subst e;exact onYes hv H.1
   ·refine onNo (Or.inl ?_) H.2;rw [hv];cases b <;> cases want <;> simp_all
  ·rename_i hb;rw [hb] at hvd;simp only [VRel] at hvd;obtain ⟨vs,hv,hl⟩:=hvd;simp only [LRel] at hl;refine onNo (Or.inr ?_) H;rw [hv];have:vs=#[]:=by apply Array.ext';simpa using hl
   rw [this]
  ·exact H.elim
theorem wpOps_sound {ch:Nat->Bool} {ops:Array Oper} {sp:Nat->Option (List Nat)} {Q:Fr->z00->Prop} {B:Nat} (l:List Oper) (fr:Fr) (h:z00) (c:Ctx) (w:World) (a:Act) (hok:zcy N l=true) (W:WRel B c h w) (F:z3w N ds c w fr a) (H:wpOps P ch ops sp Q l fr h)
  (Q':Exit->Act->World->Prop) (hQ:∀ c' fr' h' a' w',Ext B c w c' w'->WRel B c' h' w'->z3w N ds c' w' fr' a'->Q fr' h'->Q' .normal a' w'):wpListIn (z5d ro) 0 P ops Q' l a w:=by
 obtain ⟨h1,h2⟩:=zlk l;have:=zdu (ro:=ro) (ops:=ops) 0 (zh5 l) fr h c w a (by rw [h1];exact hok) h2 W F H Q' hQ;rwa [h1] at this
theorem z5w:∀ (bl:List Nat) (code:Code) (fr:Fr) (h:z00) (Q:z1z->Fr->z00->Prop),P.follows .mixedOrders=true->codeOk N code=true->wpc P N cfg bl code fr h Q->WP P N code fr h Q
 | bl,.skip,fr,h,Q,_,_,H=>λro ds B c w a hro W F=>wpIn_skip ⟨[],c,fr,h,.normal,rfl,Ext.refl _ _ _,W,F,Marks.nil _ _,H⟩
 | bl,.region id ops draw,fr,h,Q,hm,hok,H=>by
  intro ro ds B c w a hro W F
  cases draw with
  | false=>
   simp only [wpc] at H;refine wpIn_region_list (wpOps_sound ops.toList fr h c w a hok W F H _ ?_);intro c' fr' h' a' w' E W' F' hq;exact ⟨[],c',fr',h',.normal,rfl,E,W',F',Marks.nil _ _,hq⟩
  | true=>
   simp only [wpc] at H;refine zsf hm hok W F H λc' fr' h' a' w' E W' F' hq=>?_;exact ⟨[],c',fr',h',.normal,rfl,E,W',F',Marks.nil _ _,hq⟩
 | bl,.seq x y,fr,h,Q,hm,hok,H=>by
  simp only [codeOk,Bool.and_eq_true] at hok;simp only [wpc] at H;have go:∀ (Qn:Fr->z00->Prop),(∀ fr' h',Qn fr' h'->WP P N y fr' h' Q)->wpc P N cfg bl x fr h (z7e Qn (λid fr' h'=>Q (.exit id) fr' h') (λfr' h'=>Q .ret fr' h'))->WP P N (.seq x y) fr h Q:=by
   intro Qn hQn H ro ds B c w a hro W F;have hx:ro=none\/noRF x=true:=hro.imp id λh=>by simp only [noRF,Bool.and_eq_true] at h;exact h.1
   have hy:ro=none\/noRF y=true:=hro.imp id λh=>by simp only [noRF,Bool.and_eq_true] at h;exact h.2
   refine wpIn_seq (wpIn_mono (z5w bl x fr h _ hm hok.1 H ro ds B c w a hx W F) ?_);rintro e a' w' ⟨Ds,c',fr',h',ae,rfl,E,W',F',M,hq⟩
   cases ae with
   | normal=>
    exact wpIn_mono (hQn fr' h' hq ro _ B c' w' a' hy W' F') λe a2 w2 hp=>hp.trans E M
   | exit id=>exact ⟨Ds,c',fr',h',.exit id,rfl,E,W',F',M,hq⟩
   | ret=>exact ⟨Ds,c',fr',h',.ret,rfl,E,W',F',M,hq⟩
  split at H
  ·rename_i k hk;split at H
   ·obtain ⟨J,H1,H2⟩:=H;exact go _ (λfr' h' hj=>WP.zbx _ (z5w bl y _ h' Q hm hok.2 (H2 _ h' hj))) H1
   ·exact go _ (λfr' h' hj=>z5w bl y fr' h' Q hm hok.2 hj) H
  ·exact go _ (λfr' h' hj=>z5w bl y fr' h' Q hm hok.2 hj) H
 | bl,.cond x p q,fr,h,Q,hm,hok,H=>by
  simp only [codeOk,Bool.and_eq_true] at hok;simp only [wpc] at H;intro ro ds B c w a hro W F;have hp:ro=none\/noRF p=true:=hro.imp id λh=>by simp only [noRF,Bool.and_eq_true] at h;exact h.1
  have hq:ro=none\/noRF q=true:=hro.imp id λh=>by simp only [noRF,Bool.and_eq_true] at h;exact h.2
  have hx:=F.ev W.gl x;unfold zm7 at H;split at H <;> (try (exact H.elim))
  ·rename_i b hb;rw [hb] at hx;refine wpIn_cond (hx.z7o) ?_;cases b
   ·exact z5w bl q fr h Q hm hok.2 (by simpa using H) ro ds B c w a hq W F
   ·exact z5w bl p fr h Q hm hok.1 (by simpa using H) ro ds B c w a hp W F
  ·rename_i hb;rw [hb] at hx;simp only [VRel] at hx;obtain ⟨b,hb'⟩:=hx;refine wpIn_cond hb' ?_;cases b
   ·exact z5w bl q fr h Q hm hok.2 H.2 ro ds B c w a hq W F
   ·exact z5w bl p fr h Q hm hok.1 H.1 ro ds B c w a hp W F
 | bl,.block id b,fr,h,Q,hm,hok,H=>by
  simp only [codeOk] at hok;simp only [wpc] at H;intro ro ds B c w a hro W F;refine wpIn_block (wpIn_mono (z5w (id::bl) b fr h _ hm hok H ro ds B c w a hro W F) ?_);rintro e a' w' ⟨Ds,c',fr',h',ae,rfl,E,W',F',M,hq⟩
  cases ae with
  | normal=>exact ⟨Ds,c',fr',h',.normal,rfl,E,W',F',M,hq⟩
  | exit id'=>
   simp only [z1z.toExit,Exit.inBlock,z7e,pIdx] at hq ⊢;split at hq
   ·rename_i hid;subst hid;rw [if_pos rfl];exact ⟨Ds,c',fr',h',.normal,rfl,E,W',F',M,hq⟩
   ·rename_i hid;rw [if_neg hid];exact ⟨Ds,c',fr',h',.exit id',rfl,E,W',F',M,hq⟩
  | ret=>exact ⟨Ds,c',fr',h',.ret,rfl,E,W',F',M,hq⟩
 | bl,.loop b,fr,h,Q,_,_,H=>by
  simp only [wpc] at H;split at H
  ·refine WP.zbx _ (WP.mono H ?_);intro e fr' h' hq
   cases e with
   | normal=>exact hq.elim
   | exit id=>exact zs5 hq
   | ret=>exact hq
  ·exact H.elim
 | bl,.rangeFunc g ps asn bd,fr,h,Q,_,_,H=>by
  simp only [wpc] at H;split at H
  ·refine WP.zbx _ (WP.mono H ?_);intro e fr' h' hq
   cases e with
   | normal=>exact hq
   | exit id=>exact zs5 hq
   | ret=>exact hq
  ·exact H.elim
 | bl,.exit id,fr,h,Q,_,_,H=>λro ds B c w a hro W F=>wpIn_exit ⟨[],c,fr,h,.exit id,rfl,Ext.refl _ _ _,W,F,Marks.nil _ _,H⟩
 | bl,.ret,fr,h,Q,_,_,H=>λro ds B c w a hro W F=>wpIn_ret ⟨[],c,fr,h,.ret,rfl,Ext.refl _ _ _,W,F,Marks.nil _ _,H⟩
 | bl,.scope ..,_,_,_,_,_,H=>by simp [wpc] at H
 | bl,.label ..,_,_,_,_,_,H=>by simp [wpc] at H
 | bl,.goto ..,_,_,_,_,_,H=>by simp [wpc] at H
 | bl,.refuse ..,_,_,_,_,_,H=>by simp [wpc] at H
def z3v (I:Nat->Fr->z00->Prop) (m:Nat) (Q:z1z->Fr->z00->Prop):z1z->Fr->z00->Prop:=λe fr' h'=>
 match e with
 | .normal=>∃ m',m'<m/\I m' fr' h'
 | .exit id=>Q (.exit id) fr' h'
 | .ret=>Q .ret fr' h'
theorem z1i {b:Code} {fr:Fr} {h:z00} {Q:z1z->Fr->z00->Prop} (hm:P.follows .mixedOrders=true) (hok:codeOk N b=true) (I:Nat->Fr->z00->Prop) (n:Nat) (h0:I n fr h)
  (round:∀ m fr h,I m fr h->WP P N b fr h (z3v I m Q)):WP P N (.loop b) fr h Q:=by
 intro ro ds B c w a hro W F;have hro':ro=none\/noRF b=true:=hro
 let Good:Nat->Act->World->Prop:=λm a' w'=>∃ Ds c' fr' h',Ext B c w c' w'/\WRel B c' h' w'/\z3w N (Ds.map mark++ds) c' w' fr' a'/\Marks w w' Ds/\I m fr' h'
 have hex:Good n a w:=⟨[],c,fr,h,Ext.refl _ _ _,W,F,Marks.nil _ _,h0⟩;have least:∀ a' w',(∃ m,Good m a' w')->∃ m,Good m a' w'/\∀ k,k<m->¬ Good k a' w':=by
  rintro a' w' ⟨m,hg⟩
  induction m using Nat.strongRecOn with
  | _ m ih=>
   by_cases hk:∃ k,k<m/\Good k a' w'
   ·obtain ⟨k,h1,h2⟩:=hk;exact ih k h1 h2
   ·exact ⟨m,hg,λk h1 h2=>hk ⟨k,h1,h2⟩⟩
 let μ:Act->World->Nat:=λa' w'=>open Classical in if hh:∃ m,Good m a' w' then Classical.choose (least a' w' hh) else 0
 have hμ:∀ a' w',(∃ m,Good m a' w')->Good (μ a' w') a' w'/\∀ k,Good k a' w'->μ a' w'<=k:=by
  intro a' w' hh;have hs:=Classical.choose_spec (least a' w' hh);have e:μ a' w'=Classical.choose (least a' w' hh):=by simp only [μ];rw [dif_pos hh]
  rw [e];exact ⟨hs.1,λk hk=>Nat.le_of_not_lt λhlt=>hs.2 k hlt hk⟩
 refine wpIn_loop (λa' w'=>∃ m,Good m a' w') μ ⟨n,hex⟩ ?_;intro a' w' hI;obtain ⟨⟨Ds,c',fr',h',E,W',F',M,hi⟩,hmin⟩:=hμ a' w' hI;refine wpIn_mono (round (μ a' w') fr' h' hi ro _ B c' w' a' hro' W' F') ?_;rintro e a2 w2 hp;obtain ⟨Es,c2,fr2,h2,ae,rfl,E2,W2,F2,M2,hq⟩:=hp.trans E M
 cases ae with
 | normal=>
  simp only [z3v] at hq;obtain ⟨m',hlt,hi'⟩:=hq;have hg:Good m' a2 w2:=⟨Es,c2,fr2,h2,E2,W2,F2,M2,hi'⟩;exact ⟨⟨m',hg⟩,Nat.lt_of_le_of_lt ((hμ a2 w2 ⟨m',hg⟩).2 m' hg) hlt⟩
 | exit id=>exact ⟨Es,c2,fr2,h2,.exit id,rfl,E2,W2,F2,M2,hq⟩
 | ret=>exact ⟨Es,c2,fr2,h2,.ret,rfl,E2,W2,F2,M2,hq⟩
theorem kill_put (h:z00) (id:Nat) (o:AObj):(h.put id o).kill id=h.kill id:=by
 simp only [z00.put,z00.kill]
 congr 1
 funext i;by_cases e:i=id <;> simp [e]
def zdr (Q:z1z->Fr->z00->Prop) (fr:Fr) (h:z00):Option Code->Prop
 | none=>Q .normal fr h
 | some (.exit i)=>Q (.exit i) fr h
 | some .ret=>Q .ret fr h
 | _=>False
theorem WP_range {g:Operand} {ps:Array Tmp} {asn bd:Code} {fr:Fr} {h:z00} {Q:z1z->Fr->z00->Prop} {gf:FuncId} {cap:List AV} (hg:aEv fr g=.fn (.func gf) [] cap)
  (H:CallsE P gf (.yld h.next::cap) (h.push (.loop .ready none N ps asn bd fr)) (λ_ h'=>∃ st pe,h'.objs h.next=some (.loop st pe N ps asn bd fr)/\st≠.busy/\zdr Q fr (h'.kill h.next) pe)) :
  WP P N (.rangeFunc g ps asn bd) fr h Q:=by
 intro ro ds B c w a hro W F;have hr0:ro=none:=hro.resolve_right (by simp [noRF]);subst hr0;refine wpIn_rangeFunc ?_;intro fn _;have hv:=F.ev W.gl g;rw [hg] at hv;simp only [VRel,LRel] at hv;obtain ⟨fs,cs,hge,hfs,hcs⟩:=hv;have hfs':fs=#[]:=by apply Array.ext';simpa using hfs
 subst hfs';obtain ⟨L,hL⟩:∃ L:Loop,L={ state:=.ready,pending:=none,fn,tmps:=a.tmps,params:=ps,assign:=asn,body:=bd,defers:=w.heap.size }:=⟨_,rfl⟩;have hT:L.tmps=a.tmps:=by rw [hL]
 obtain ⟨w1,hw1⟩:∃ w1,(w.alloc (.deferred (some []))).alloc (.loop L)=w1:=⟨_,rfl⟩;have W0:=W.alloc (.deferred (some []));have E0:=Ext.alloc W (.deferred (some []));have W1:=W0.alloc (.loop L);have E1:=E0.trans (Ext.alloc W0 (.loop L));have hD0:Dfr (w.alloc (.deferred (some []))) w.heap.size:=World.alloc_heap_new w _;have hD1:=(Ext.alloc W0 (.loop L)).oth _ hD0;have hLn:((w.alloc (.deferred (some []))).alloc (.loop L)).heap[w.heap.size+1]?=some (.loop L):=by
  have:=World.alloc_heap_new (w.alloc (.deferred (some []))) (.loop L);rwa [World.size_alloc] at this
 obtain ⟨E2,W2⟩:=W1.name (b:=w.heap.size+1) (.loop .ready none N ps asn bd fr) (by have:=W.base;omega) (by simp) (λi hi=>absurd (W.mlt i _ hi).2.2 (by omega))
  ⟨L,hLn,by rw [hL],by rw [hL],by rw [hL],by rw [hL],by rw [hL],by rw [hT];exact F.1,λi=>by rw [hT];exact VRel.mono E1 (F.2.2 i)⟩
 rw [hw1] at E1 E2 W2 hD1 hLn;have Et:=E1.trans E2;refine ⟨w.heap.size+1,[mark w.heap.size],w1,{ target:=.fn (.func gf) cs,args:=#[.func (.yield (w.heap.size+1)) #[] #[]] },w1,gf,#[.func (.yield (w.heap.size+1)) #[] #[]]++cs,w1,?_,?_,λ_ _=>trivial,?_,by simp [z5d,Fence.wide],?_⟩
 ·rw [<-hw1,hL];exact run_enterLoop_outer _ _ _ _ _
 ·simp only [resolve,hge];simp [go_sem]
 ·simp only [invoke];exact H.1 _ _
 ·have hargs:LRel (c.zb7 h.next (w.heap.size+1)) w1 (.yld h.next::cap) (Value.func (.yield (w.heap.size+1)) #[] #[]::cs.toList):=by
   simp only [LRel,VRel];exact ⟨_,_,rfl,⟨w.heap.size+1,by simp [Ctx.zb7],rfl⟩,LRel.mono Et hcs⟩
  have HC:=H.2 B _ w1 _ W2 hargs;have hta:(Value.func (.yield (w.heap.size+1)) #[] #[]::cs.toList).toArray=#[.func (.yield (w.heap.size+1)) #[] #[]]++cs:=by
   apply Array.ext';simp
  rw [hta] at HC;refine CallsIn.mono (zbb.2 HC) ?_;rintro e w3 ⟨c3,u,v,h3,rfl,E3,W3,-,st,pe,ho3,hst,hq⟩;have hm3:c3.m h.next=some (w.heap.size+1):=E3.m _ _ (by simp [Ctx.zb7]);obtain ⟨L3,k1,k2,k3,k4,k5,k6,k7,k8⟩:=W3.obj _ _ _ hm3 ho3;obtain ⟨L4,hL4⟩:∃ L4:Loop,L4={ L3 with state:=.exhausted }:=⟨_,rfl⟩;obtain ⟨E4,W4⟩:=W3.ztr (L':=L4) hm3 ho3 k1 (by rw [hL4]) (by rw [hL4]) (by rw [hL4]) (by rw [hL4]) rfl rfl;have hend:=run_endLoop (P:=P) k1 (by rw [k2];exact hst);rw [<-hL4,k3] at hend;have W5:=W4.kill h.next;rw [kill_put] at W5;have Ef:=(Et.trans E3).trans E4;refine ⟨pe,_,hend,?_⟩;have hM:Marks w (w3.putObj (w.heap.size+1) (.loop L4)) [w.heap.size]:=by
   refine ⟨by simp,λD hD=>?_⟩;simp only [List.mem_singleton] at hD;subst hD;exact ⟨Nat.le_refl _,E4.oth _ (E3.oth _ (E2.oth _ hD1))⟩
  have hF:z3w N ([w.heap.size].map mark++ds) c3 (w3.putObj (w.heap.size+1) (.loop L4)) fr { a with defers:=[mark w.heap.size]++a.defers }:=⟨F.1,by simp [F.2.1],λi=>VRel.mono Ef (F.2.2 i)⟩
  cases pe with
  | none=>exact ⟨[w.heap.size],c3,fr,_,.normal,rfl,Ef,W5,hF,hM,hq⟩
  | some cd=>
   cases cd with
   | exit i=>exact wpIn_exit ⟨[w.heap.size],c3,fr,_,.exit i,rfl,Ef,W5,hF,hM,hq⟩
   | ret=>exact wpIn_ret ⟨[w.heap.size],c3,fr,_,.ret,rfl,Ef,W5,hF,hM,hq⟩
   | _=>exact hq.elim
def resA (P:Program):List ResultVar->Fr->z00->(List AV->Prop)->Prop
 | [],_,_,K=>K []
 | .tmp t::rs,fr,h,K=>resA P rs fr h (λvs=>K (fr t::vs))
 | .cell a t::rs,fr,h,K=>match ldK P t with
  | some k=>z0t k (fr a) h (λv=>resA P rs fr h (λvs=>K (v::vs)))
  | none=>False
def resV (K:AV->Prop):List AV->Prop
 | [v]=>K v
 | vs=>K (.tup vs)
def resOne (tmps:Array Value):ResultVar->Sem Value
 | .tmp t=>pure (tmps.getD t undef)
 | .cell a t=>do loadVar t (← asAddr (tmps.getD a undef))
theorem znl (fn:Func) (tmps:Array Value):results fn tmps=(do
  let vs ← fn.results.mapM (resOne tmps)
  pure (if h:vs.size=1 then vs[0] else .tuple vs)):=rfl
theorem zi2 {B:Nat} {c:Ctx} {h:z00} {w:World} {fr:Fr} {a:Act} (W:WRel B c h w) (F:z3w N ds c w fr a):∀ (rs:List ResultVar) (K:List AV->Prop),resA P rs fr h K->
  ∃ as vs,(rs.mapM (resOne a.tmps)).run P w=.ok vs w/\LRel c w as vs/\K as
 | [],K,H=>⟨[],[],by simp,by simp [LRel],H⟩
 | .tmp t::rs,K,H=>by
  simp only [resA] at H;obtain ⟨as,vs,h1,h2,h3⟩:=zi2 W F rs _ H;refine ⟨fr t::as,a.tmps.getD t undef::vs,?_,?_,h3⟩
  ·simp only [List.mapM_cons,resOne,Sem.run_bind,Sem.run_pure,Result.andThen_ok,h1]
  ·simp only [LRel];exact ⟨_,_,rfl,F.2.2 t,h2⟩
 | .cell x t::rs,K,H=>by
  simp only [resA] at H;split at H <;> (try (exact H.elim));rename_i k hk;obtain ⟨ad,v,z,hu,hr,hv,hK⟩:=zrg (P:=P) W hk (F.2.2 x) H;obtain ⟨as,vs,h1,h2,h3⟩:=zi2 W F rs _ hK;refine ⟨v::as,z::vs,?_,?_,h3⟩
  ·have ha:(asAddr (a.tmps.getD x undef)).run P w=.ok ad w:=by rw [hu];rfl
   simp only [List.mapM_cons,resOne,Sem.run_bind,ha,Sem.run_pure,Result.andThen_ok,hr,h1]
  ·simp only [LRel];exact ⟨_,_,rfl,hv,h2⟩
theorem zid {B:Nat} {c c':Ctx} {h':z00} {w:World} {fr':Fr} {fn:Func} {T:Array Value} {R:Ending->World->Prop} (hB:B<=w.heap.size) (goal:∀ w',Ext B c w c' w'->WRel B c' h' w'->(∀ i,VRel c' w' (fr' i) (T.getD i undef))->∃ v,(results fn T).run P w'=.ok v w'/\R (.returned v) w') :
  ∀ (Ds:List Nat) (w':World),Ext B c w c' w'->WRel B c' h' w'->(∀ i,VRel c' w' (fr' i) (T.getD i undef))->Marks w w' Ds->LeavesInM (z5d none) 0 P fn T R (Ds.map mark) .returning w'
 | [],w',E,W',F,_=>goal w' E W' F
 | D::Ds,w',E,W',F,M=>by
  have hD:=M.all D (by simp);have hnd:=List.nodup_cons.1 M.nd;refine ⟨by simp,Or.inl ⟨D,_,rfl,run_takeDeferred hD.2,?_⟩⟩;have hold:∀ k,k≠D->(w'.putObj D (.deferred none)).heap[k]?=w'.heap[k]?:=λk hk=>World.putObj_heap_other hk;have hDD:w'.heap[D]?=some (.deferred (some [])):=hD.2;have hnew:(w'.putObj D (.deferred none)).heap[D]?=some (.deferred none):=World.putObj_heap_same hD.2.lt;have E0:Ext0 B c' w' c' (w'.putObj D (.deferred none)):=by
   refine ⟨λ_ _ x=>x,λ_ _ x=>x,⟨rfl,rfl,rfl,by simp,λk hk=>hold k (by omega)⟩,λk o hk=>?_,λk ty n hs=>?_⟩
   ·by_cases e:k=D
    ·subst e;simp [World.cell?,hDD,hnew]
    ·exact World.cell?_of_block (a:=⟨k,o,none⟩) (hold k e)
   ·obtain ⟨C,h1,h2⟩:=hs;have e:k≠D:=by rintro rfl;rw [hDD] at h1;cases h1
    exact ⟨C,by rw [hold k e,h1],h2⟩
  refine zid hB goal Ds _ ⟨E.toExt0.trans E0,λk hk=>?_⟩ ⟨λi k hi=>?_,W'.inj,λi k o hi ho=>?_,λk o hk=>?_,W'.fresh,by simpa using W'.base,W'.gl.z6j E0⟩ (λi=>VRel.z6j E0 (F i)) ⟨hnd.2,λD' hD'=>?_⟩
  ·have hlt:=hk.lt;have:=E.oth k hk;unfold Dfr at this ⊢;rw [hold k (by omega)];exact this
  ·have:=W'.mlt i k hi;exact ⟨this.1,this.2.1,by simpa using this.2.2⟩
  ·have hR:=W'.obj i k o hi ho;have hne:k≠D:=by
    rintro rfl
    cases o with
    | row ty cs=>obtain ⟨C,h1,_⟩:=hR;rw [hDD] at h1;cases h1
    | tok ty n=>obtain ⟨C,h1,_⟩:=hR;rw [hDD] at h1;cases h1
    | loop st pe N ps asn bd fr=>obtain ⟨L,h1,_⟩:=hR;rw [hDD] at h1;cases h1
    | map ks vs=>obtain ⟨es,h1,_⟩:=hR;rw [hDD] at h1;cases h1
   exact hR.keep0 E0 (hold k hne) (λ_ y=>y)
  ·have:=W'.im k o hk;simpa using this
  ·have h2:=M.all D' (by simp [hD']);have hne:D'≠D:=by rintro rfl;exact hnd.1 hD'
   refine ⟨h2.1,?_⟩;have h3:=h2.2;unfold Dfr at h3 ⊢;rw [hold D' hne];exact h3
theorem zps {f:FuncId} {fn:Func} {body:Code} {args:List AV} {h:z00} {R:AV->z00->Prop} (cfg:Cfg) (hm:P.follows .mixedOrders=true) (hf:P.funcs[f]?=some fn) (hb:fn.body=some body) (hN:fn.ntmps=N) (hok:codeOk N body=true) (hargs:args.length<=N)
  (hcall:∀ as w,(callFunc f as).run P w=.ok (.enter f as) w)
  (H:wpc P N cfg [] body (λi=>(args[i]?).getD .und) h (z7e (λfr' h'=>resA P fn.results.toList fr' h' (resV λv=>R v h')) (λ_ _ _=>False) (λfr' h'=>resA P fn.results.toList fr' h' (resV λv=>R v h')))):z01 P f args h R:=by
 refine Or.inl ⟨hcall,λB c w vs W L=>?_⟩;refine zbb.1 (callsIn_of_wp_marks (F:=z5d none) (n:=0) hf hb trivial ?_);have hl:=L.length;have F:z3w N [] c w (λi=>(args[i]?).getD .und) { tmps:=vs.toArray++Array.replicate (fn.ntmps-vs.toArray.size) undef,defers:=[] }:=by
  refine ⟨by simp;omega,rfl,λi=>?_⟩;by_cases hi:i<args.length
  ·obtain ⟨v,hv,hr⟩:=L.get (i:=i) (a:=args[i]) (by simp [hi]);have e1:(args[i]?).getD .und=args[i]:=by simp [hi]
   show VRel c w ((args[i]?).getD .und) ((vs.toArray++Array.replicate (fn.ntmps-vs.toArray.size) undef).getD i undef)
   rw [e1,Array.getD_eq_getD_getElem?,Array.getElem?_append_left (by simp;omega)];have:vs.toArray[i]?=some v:=by simpa using hv
   rw [this];exact hr
  ·have e1:(args[i]?).getD .und=.und:=by simp [List.getElem?_eq_none (Nat.le_of_not_lt hi)]
   show VRel c w ((args[i]?).getD .und) _
   rw [e1];simp [VRel]
 refine wpIn_mono (z5w [] body _ h _ hm hok H none [] B c w _ (Or.inl rfl) W F) ?_;rintro e a' w' ⟨Ds,c',fr',h',ae,rfl,E,W',F',M,hq⟩;have fin:resA P fn.results.toList fr' h' (resV λv=>R v h')->LeavesInM (z5d none) 0 P fn a'.tmps (λe w''=>∃ c' u v h',e=.returned u/\Ext B c w c' w''/\WRel B c' h' w''/\VRel c' w'' v u/\R v h') a'.defers .returning w':=by
  intro hq;have hdf:a'.defers=Ds.map mark:=by have:=F'.2.1;simpa using this
  rw [hdf];refine zid W.base (λw' E W' Fv=>?_) Ds w' E W' F'.2.2 M;obtain ⟨as,us,h1,h2,h3⟩:=zi2 (N:=a'.tmps.size) (ds:=a'.defers) W' (a:=a') ⟨rfl,rfl,Fv⟩ _ _ hq;have hlen:=h2.length;by_cases h1':us.length=1
  ·obtain ⟨u,rfl⟩:∃ u,us=[u]:=by
    match us,h1' with
    | [u],_=>exact ⟨u,rfl⟩
   obtain ⟨v,rfl⟩:∃ v,as=[v]:=by
    match as,hlen with
    | [v],_=>exact ⟨v,rfl⟩
   simp only [LRel] at h2;obtain ⟨v',vs',he,hr,hn⟩:=h2;simp only [List.cons.injEq] at he;obtain ⟨rfl,rfl⟩:=he;refine ⟨u,?_,c',u,v,h',rfl,E,W',hr,h3⟩;rw [znl,Array.mapM_eq_mapM_toList];simp only [Sem.run_bind,Sem.run_map,h1,Result.andThen_ok]
   rfl
  ·refine ⟨.tuple us.toArray,?_,c',.tuple us.toArray,.tup as,h',rfl,E,W',?_,?_⟩
   ·rw [znl,Array.mapM_eq_mapM_toList];simp only [Sem.run_bind,Sem.run_map,h1,Result.andThen_ok];have:us.toArray.size≠1:=by simpa using h1'
    rw [dif_neg this];rfl
   ·simp only [VRel];exact ⟨us.toArray,rfl,by simpa using h2⟩
   ·unfold resV at h3;split at h3
    ·simp at hlen;omega
    ·exact h3
 cases ae with
 | normal=>exact fin hq
 | ret=>exact fin hq
 | exit id=>exact hq.elim
def zgd (k:Nat):Code->Option Code
 | .seq a b=>match zgd k a with | some r=>some r | none=>zgd k b
 | .cond _ a b=>match zgd k a with | some r=>some r | none=>zgd k b
 | .block _ b=>zgd k b
 | .loop b=>if z6n b=some k then some b else zgd k b
 | .rangeFunc _ _ a b=>match zgd k a with | some r=>some r | none=>zgd k b
 | _=>none
def z6u (k:Nat):Code->Option (Operand×Array Tmp×Code×Code)
 | .seq a b=>match z6u k a with | some r=>some r | none=>z6u k b
 | .cond _ a b=>match z6u k a with | some r=>some r | none=>z6u k b
 | .block _ b=>z6u k b
 | .loop b=>z6u k b
 | .rangeFunc g ps a b=>if z6n (.seq a b)=some k then some (g,ps,a,b) else match z6u k a with | some r=>some r | none=>z6u k b
 | _=>none
theorem z15 (cfg:Cfg) (bl Ln Lx Lr:List Nat) {b:Code} {fr:Fr} {h:z00} {Q:z1z->Fr->z00->Prop} (hm:P.follows .mixedOrders=true) (hok:codeOk N b=true)
  (H:wpc P N cfg bl b fr h (z7e (λfr' h'=>Q .normal (zbx Ln fr') h') (λid fr' h'=>Q (.exit id) (zbx Lx fr') h') (λfr' h'=>Q .ret (zbx Lr fr') h'))):WP P N b fr h Q:=by
 intro ro ds B c w a hro W F;refine wpIn_mono (z5w bl b fr h _ hm hok H ro ds B c w a hro W F) ?_;rintro e a' w' ⟨Ds,c',fr',h',ae,h1,h2,h3,h4,h5,h6⟩
 cases ae with
 | normal=>exact ⟨Ds,c',zbx Ln fr',h',.normal,h1,h2,h3,zjh (B:=B) h4 Ln,h5,h6⟩
 | exit id=>exact ⟨Ds,c',zbx Lx fr',h',.exit id,h1,h2,h3,zjh (B:=B) h4 Lx,h5,h6⟩
 | ret=>exact ⟨Ds,c',zbx Lr fr',h',.ret,h1,h2,h3,zjh (B:=B) h4 Lr,h5,h6⟩
end
end
section
open Go.RowKit
section
variable {P:Program} {h:z00}
attribute [simp] z7j
@[simp] theorem pNil_ptr (i o:Nat) (K:AV->Prop):pNil (.ptr i o) K=K (.ptr i o):=rfl
@[simp] theorem zrh (cs:List AV) (K:AV->Prop):pNil (.iptr cs) K=K (.iptr cs):=rfl
@[simp] theorem pNil_fn (f:FuncId) (a b:List AV) (K:AV->Prop):pNil (.fn (.func f) a b) K=K (.fn (.func f) a b):=rfl
@[simp] theorem zek (off i o:Nat) (K:AV->Prop):z3g off (.ptr i o) K=K (.ptr i (o+off)):=rfl
@[simp] theorem zcz (off:Nat) (cs:List AV) (K:AV->Prop):z3g off (.iptr cs) K=K (.iptr (cs.drop off)):=rfl
@[simp] theorem znb (off:Nat) (k:Option Nat) (cs:List AV) (K:AV->Prop):zrc off k (.agg cs) K=z03 k cs off K:=rfl
@[simp] theorem zcd {cs:List AV} {off:Nat} {v:AV} (hv:cs[off]?=some v) (K:AV->Prop):z03 none cs off K=K v:=by simp [z03,hv]
theorem pCells_none (cs:List AV) (off:Nat) (K:AV->Prop):z03 none cs off K=match cs[off]? with | some v=>K v | none=>False:=rfl
@[simp] theorem zkw (v:AV) (cs:List AV) (K:AV->Prop):z03 none (v::cs) 0 K=K v:=rfl
@[simp] theorem zkv (v:AV) (cs:List AV) (n:Nat) (K:AV->Prop):z03 none (v::cs) (n+1) K=z03 none cs n K:=by simp [z03]
@[simp] theorem pCells_some (n:Nat) (cs:List AV) (off:Nat) (K:AV->Prop):z03 (some n) cs off K=(off+n<=cs.length/\K (.agg ((cs.drop off).take n))):=rfl
@[simp] theorem z1q (k:Option Nat) (cs:List AV) (h:z00) (K:AV->Prop):z0t k (.iptr cs) h K=z03 k cs 0 K:=rfl
theorem z0b {id off:Nat} {ty:TypeId} {cs:List AV} (ho:h.objs id=some (.row ty cs)) (k:Option Nat) (K:AV->Prop):z0t k (.ptr id off) h K=z03 k cs off K:=by simp [z0t,ho]
theorem z2w {id off:Nat} {ty:TypeId} {cs:List AV} (ho:h.objs id=some (.row ty cs)) {v:AV} (hv:v.zbn=true) (hl:off<cs.length) (K:z00->Prop):z14 1 (.ptr id off) v h K=K (h.put id (.row ty (cs.set off v))):=by
 cases v <;> simp_all [z14,AV.zbn]
@[simp] theorem pCond_bool (b:Bool) (T F:Prop):zm7 (.bool b) T F=if b=true then T else F:=rfl
@[simp] theorem pCond_unkb (T F:Prop):zm7 .unkb T F=(T/\F):=rfl
@[simp] theorem pGuard_bool (b w:Bool) (T F:Prop):zel (.bool b) w T F=if b=w then T else F:=rfl
@[simp] theorem pGuard_unkb (w:Bool) (T F:Prop):zel .unkb w T F=(T/\F):=rfl
@[simp] theorem znc (w:Bool) (T F:Prop):zel (.tup []) w T F=F:=rfl
@[simp] theorem pGuardS_bool (b w:Bool) (T F:Prop):z9f (.bool b) w T F=if b=w then T else F:=rfl
@[simp] theorem zky (w:Bool) (T F:Prop):z9f (.tup []) w T F=F:=rfl
@[simp] theorem pPick_true (x y:AV) (K:AV->Prop):zri (.bool true) x y K=K x:=rfl
@[simp] theorem pPick_false (x y:AV) (K:AV->Prop):zri (.bool false) x y K=K y:=rfl
@[simp] theorem pIdx_same (i:Nat) (T F:Prop):pIdx i i T F=T:=by simp [pIdx]
@[simp] theorem pIdx_eq (i k:Nat) (T F:Prop):pIdx i k T F=if i=k then T else F:=rfl
@[simp] theorem pJoin_eq (b:(List AV->z00->Prop)->Prop) (k:List AV->z00->Prop):zma b k=b k:=rfl
@[simp] theorem nth_zero (v:AV) (vs:List AV):nth (v::vs) 0=v:=rfl
@[simp] theorem nth_cons (v:AV) (vs:List AV) (n:Nat):nth (v::vs) (n+1)=nth vs n:=by simp [nth]
@[simp] theorem exitQ_normal (n:Fr->z00->Prop) (x:Nat->Fr->z00->Prop) (r:Fr->z00->Prop) (fr:Fr) (h:z00):z7e n x r .normal fr h=n fr h:=rfl
@[simp] theorem zmz (n:Fr->z00->Prop) (x:Nat->Fr->z00->Prop) (r:Fr->z00->Prop) (fr:Fr) (h:z00) (i:Nat):z7e n x r (.exit i) fr h=x i fr h:=rfl
@[simp] theorem zqh (n:Fr->z00->Prop) (x:Nat->Fr->z00->Prop) (r:Fr->z00->Prop) (fr:Fr) (h:z00):z7e n x r .ret fr h=r fr h:=rfl
@[simp] theorem zqm (k:Nat) (v:AV) (r:List (Nat×AV)) (i:Nat):frOf ((k,v)::r) i=if i=k then v else frOf r i:=rfl
theorem z07 (I:Nat->Fr->z00->Prop) (m:Nat) (Q:z1z->Fr->z00->Prop) (fr:Fr) (h:z00):z3v I m Q .normal fr h=∃ m',m'<m/\I m' fr h:=rfl
@[simp] theorem zge (I:Nat->Fr->z00->Prop) (m:Nat) (Q:z1z->Fr->z00->Prop) (fr:Fr) (h:z00) (i:Nat):z3v I m Q (.exit i) fr h=Q (.exit i) fr h:=rfl
@[simp] theorem zie (I:Nat->Fr->z00->Prop) (m:Nat) (Q:z1z->Fr->z00->Prop) (fr:Fr) (h:z00):z3v I m Q .ret fr h=Q .ret fr h:=rfl
@[simp] theorem pLen_str (s:List UInt8) (K:AV->Prop):pLen .str (.str s) K=K (.int .i64 s.length):=rfl
@[simp] theorem pLen_isl (sz:Nat) (es:List (List AV)) (K:AV->Prop):pLen .slice (.isl sz es) K=K (.int .i64 es.length):=rfl
@[simp] theorem pLen_gsl (i sz:Nat) (es:List (List AV)) (K:AV->Prop):pLen .slice (.gsl i sz es) K=K (.int .i64 es.length):=rfl
@[simp] theorem pLen_sl (i o l sz:Nat) (K:AV->Prop):pLen .slice (.sl i o l sz) K=K (.int .i64 l):=rfl
@[simp] theorem zre (K:AV->Prop):pLen .slice .nils K=K (.int .i64 0):=rfl
@[simp] theorem pLen_eml (K:AV->Prop):pLen .slice .eml K=K (.int .i64 0):=rfl
@[simp] theorem znd (n:Nat) (x:AV) (K:AV->Prop):pLen (.array n) x K=K (.int .i64 n):=by cases x <;> rfl
@[simp] theorem zra (k k':IntKind) (n:Int) (h:z00) (K:AV->Prop):z9e (.int k) (.int k' n) h K=K (.int k (k.wrap n)):=rfl
@[simp] theorem zrb (s:List UInt8) (h:z00) (K:AV->Prop):z9e .same (.str s) h K=K (.str s):=rfl
@[simp] theorem pExtract_tup (i:Nat) (vs:List AV) (K:AV->Prop):z6q i (.tup vs) K=match vs[i]? with | some v=>K v | none=>False:=rfl
@[simp] theorem zr7 (ty:TypeId) (v:AV) (h:z00) (K:AV->z00->Prop):pBox true ty v h K=(v.fits=true/\K (.iptr v.cells) h):=by simp [pBox]
@[simp] theorem pBox_false (ty:TypeId) (v:AV) (h:z00) (K:AV->z00->Prop):pBox false ty v h K=(v.fits=true/\K (.ptr h.next 0) (h.push (.row ty v.cells))):=by simp [pBox]
@[simp] theorem pAlloc_eq (ty:TypeId) (z:List AV) (h:z00) (K:AV->z00->Prop):zr5 ty z h K=K (.ptr h.next 0) (h.push (.row ty z)):=rfl
@[simp] theorem zq6 (cs:List AV):(AV.agg cs).cells=cs:=rfl
@[simp] theorem fits_agg (cs:List AV):(AV.agg cs).fits=true:=rfl
@[simp] theorem zi8 (ck:CmpK) (k:IntKind) (a b:Int):binA ck .eql (.int k a) (.int k b)=some (.bool (a == b)):=by simp [binA,z7r]
@[simp] theorem binA_int_neq (ck:CmpK) (k:IntKind) (a b:Int):binA ck .neq (.int k a) (.int k b)=some (.bool (a != b)):=by simp [binA,z7r]
@[simp] theorem binA_int_lss (ck:CmpK) (k:IntKind) (a b:Int):binA ck .lss (.int k a) (.int k b)=some (.bool (decide (a<b))):=by simp [binA,z7r]
@[simp] theorem binA_int_leq (ck:CmpK) (k:IntKind) (a b:Int):binA ck .leq (.int k a) (.int k b)=some (.bool (decide (a<=b))):=by simp [binA,z7r]
@[simp] theorem binA_int_gtr (ck:CmpK) (k:IntKind) (a b:Int):binA ck .gtr (.int k a) (.int k b)=some (.bool (decide (b<a))):=by simp [binA,z7r]
@[simp] theorem binA_int_geq (ck:CmpK) (k:IntKind) (a b:Int):binA ck .geq (.int k a) (.int k b)=some (.bool (decide (b<=a))):=by simp [binA,z7r]
@[simp] theorem binA_int_add (ck:CmpK) (k:IntKind) (a b:Int):binA ck .add (.int k a) (.int k b)=some (.int k (k.wrap (a+b))):=by simp [binA,z7r]
@[simp] theorem binA_int_sub (ck:CmpK) (k:IntKind) (a b:Int):binA ck .sub (.int k a) (.int k b)=some (.int k (k.wrap (a-b))):=by simp [binA,z7r]
@[simp] theorem binA_int_mul (ck:CmpK) (k:IntKind) (a b:Int):binA ck .mul (.int k a) (.int k b)=some (.int k (k.wrap (a*b))):=by simp [binA,z7r]
@[simp] theorem binA_int_and (ck:CmpK) (k:IntKind) (a b:Int):binA ck .and (.int k a) (.int k b)=some (.int k (iAnd k a b)):=by simp [binA,z7r]
@[simp] theorem binA_int_or (ck:CmpK) (k:IntKind) (a b:Int):binA ck .or (.int k a) (.int k b)=some (.int k (iOr k a b)):=by simp [binA,z7r]
@[simp] theorem binA_int_xor (ck:CmpK) (k:IntKind) (a b:Int):binA ck .xor (.int k a) (.int k b)=some (.int k (iXor k a b)):=by simp [binA,z7r]
@[simp] theorem binA_int_quo (ck:CmpK) (k:IntKind) (a b:Int):binA ck .quo (.int k a) (.int k b)=if b=0 then none else some (.int k (k.wrap (a.tdiv b))):=by simp [binA,z7r]
@[simp] theorem binA_int_rem (ck:CmpK) (k:IntKind) (a b:Int):binA ck .rem (.int k a) (.int k b)=if b=0 then none else some (.int k (a.tmod b)):=by simp [binA,z7r]
@[simp] theorem binA_shl (ck:CmpK) (k k':IntKind) (a b:Int):binA ck .shl (.int k a) (.int k' b)=if b<0 then none else some (.int k (iShl k a b)):=by simp [binA]
@[simp] theorem binA_shr (ck:CmpK) (k k':IntKind) (a b:Int):binA ck .shr (.int k a) (.int k' b)=if b<0 then none else some (.int k (iShr k a b)):=by simp [binA]
@[simp] theorem binA_str_eql (ck:CmpK) (a b:List UInt8):binA ck .eql (.str a) (.str b)=some (.bool (a == b)):=by simp [binA,zmr]
@[simp] theorem binA_str_neq (ck:CmpK) (a b:List UInt8):binA ck .neq (.str a) (.str b)=some (.bool (!(a == b))):=by simp [binA,zmr]
theorem binA_str_add {ck:CmpK} {a b:List UInt8} (hl:a.length+b.length<=9223372036854775807):binA ck .add (.str a) (.str b)=some (.str (a++b)):=by
 simp only [binA,zmr];rw [if_neg (by omega)]
@[simp] theorem zfj (a b:Bool):binA .bool .eql (.bool a) (.bool b)=some (.bool (a == b)):=rfl
@[simp] theorem zfk (a b:Bool):binA .bool .neq (.bool a) (.bool b)=some (.bool (!(a == b))):=rfl
@[simp] theorem zc7 (i o:Nat):binA .ptr .eql (.ptr i o) .nilp=some (.bool false):=rfl
@[simp] theorem zc8 (i o:Nat):binA .ptr .neq (.ptr i o) .nilp=some (.bool true):=rfl
@[simp] theorem zao (cs:List AV):binA .ptr .eql (.iptr cs) .nilp=some (.bool false):=rfl
@[simp] theorem zaq (cs:List AV):binA .ptr .neq (.iptr cs) .nilp=some (.bool true):=rfl
@[simp] theorem zc5:binA .ptr .eql .nilp .nilp=some (.bool true):=rfl
@[simp] theorem zc6:binA .ptr .neq .nilp .nilp=some (.bool false):=rfl
@[simp] theorem unA_not (b:Bool):unA .not (.bool b)=some (.bool (!b)):=rfl
@[simp] theorem zin:unA .not .unkb=some .unkb:=rfl
@[simp] theorem unA_neg (k:IntKind) (n:Int):unA .neg (.int k n)=some (.int k (k.wrap (0-n))):=rfl
theorem wrap_i64 {n:Int} (h:-9223372036854775808<=n/\n<=9223372036854775807):IntKind.i64.wrap n=n:=by rw [IntKind.wrap_i64];omega
end
structure Keeps (h h':z00) (S:Nat->Prop):Prop where
 next:h.next<=h'.next
 objs:∀ i,i<h.next->¬ S i->h'.objs i=h.objs i
theorem Keeps.refl (h:z00) (S:Nat->Prop):Keeps h h S:=⟨Nat.le_refl _,λ_ _ _=>rfl⟩
theorem Keeps.trans {h h' h'':z00} {S T:Nat->Prop} (a:Keeps h h' S) (b:Keeps h' h'' T) (hT:∀ i,i<h.next->T i->S i):Keeps h h'' S:=
 ⟨Nat.le_trans a.next b.next,λi hi hs=>(b.objs i (Nat.lt_of_lt_of_le hi a.next) λht=>hs (hT i hi ht)).trans (a.objs i hi hs)⟩
theorem Keeps.mono {h h':z00} {S T:Nat->Prop} (a:Keeps h h' S) (hS:∀ i,S i->T i):Keeps h h' T:=⟨a.next,λi hi hs=>a.objs i hi λx=>hs (hS i x)⟩
theorem Keeps.put (h:z00) (id:Nat) (o:AObj):Keeps h (h.put id o) (λi=>i=id):=⟨Nat.le_refl _,λi _ hi=>by simp [hi]⟩
theorem Keeps.push (h:z00) (o:AObj):Keeps h (h.push o) (λ_=>False):=⟨Nat.le_succ _,λi hi _=>by simp;omega⟩
end
section
open Go.RowKit Go.ChangeShapes
def othK (P:Program) (t:TypeId):Bool:=
 match P.underlying t with
 | some .bool | some (.int _) | some .string | some (.struct _) | some (.array _ _)=>false
 | some (.pointer e) | some (.slice e)=>P.cellsOf e == 0
 | _=>true
mutual
inductive TyA (P:Program):TypeId->List AV->Prop where
 | bool {t b}:P.underlying t=some .bool->TyA P t [.bool b]
 | int {t k n}:P.underlying t=some (.int k)->k.min<=n->n<=k.max->TyA P t [.int k n]
 | str {t s}:P.underlying t=some .string->s.length<=maxLen->TyA P t [.str s]
 | nilp {t e}:P.underlying t=some (.pointer e)->TyA P t [.nilp]
 | iptr {t e cs}:P.underlying t=some (.pointer e)->0<P.cellsOf e->TyA P e cs->TyA P t [.iptr cs]
 | nils {t e}:P.underlying t=some (.slice e)->TyA P t [.nils]
 | isl {t e es}:P.underlying t=some (.slice e)->0<P.cellsOf e->es.length<=maxLen->zpt P e es->TyA P t [.isl (P.cellsOf e) es]
 | struct {t fs parts}:P.underlying t=some (.struct fs)->TyAs P (fs.toList.map (·.type)) parts->TyA P t parts.flatten
 | array {t n e parts}:P.underlying t=some (.array n e)->parts.length=n->zpt P e parts->TyA P t parts.flatten
 | other {t}:othK P t=true->TyA P t [.und]
inductive TyAs (P:Program):List TypeId->List (List AV)->Prop where
 | nil:TyAs P [] []
 | cons {t ts p ps}:TyA P t p->TyAs P ts ps->TyAs P (t::ts) (p::ps)
inductive zpt (P:Program):TypeId->List (List AV)->Prop where
 | nil {t}:zpt P t []
 | cons {t p ps}:TyA P t p->zpt P t ps->zpt P t (p::ps)
end
section
variable {H:Type} {enc:TypeId×Value->H} {P:Program} {w:World} {base:Nat} {spare:Nat->Bool} {held:Bool} {c:Ctx}
theorem zgf {a:Addr} {n:Nat} {cs:List Value} {as:List AV} (hc:∀ b o,(w.cell? ⟨b,o,none⟩).isSome->c.im b o) (h:w.cells? base a n=some cs) (hr:LRel c w as cs) (h1:∀ u∈cs,u.oneCell'=true):MRel c w as a.block a.off:=by
 obtain ⟨_,hlen,hget⟩:=World.cells?_some h;refine MRel.ofFn λi x hx=>?_;obtain ⟨v,hv,hvr⟩:=LRel.get hr hx;have hi:i<n:=by rw [<-hlen];exact (List.getElem?_eq_some_iff.1 hv).1
 have hcell:w.cell? ⟨a.block,a.off+i,none⟩=some v:=by
  have:=hget i hi;rw [hv] at this;unfold Addr.add at this;split at this
  ·rename_i e;subst e;have hs:=World.cell?_spot this;obtain ⟨b,o,s⟩:=a;simp at hs;subst hs;simpa using this
  ·exact this
 exact ⟨hc _ _ (by rw [hcell];rfl),v,hcell,h1 v (List.mem_of_getElem? hv),hvr⟩
theorem zh6 {a:Addr} {n:Nat} {cs:List Value} (h:w.cells? base a n=some cs) (hn:0<n):a.spot=none:=by
 obtain ⟨_,hlen,hget⟩:=World.cells?_some h;have h0:=hget 0 hn;have:∃ v,cs[0]?=some v:=⟨cs[0]'(by omega),List.getElem?_eq_getElem (by omega)⟩;obtain ⟨v,hv⟩:=this;rw [hv] at h0;exact World.cell?_spot h0
theorem zdf (sz:TypeId->Nat):∀ (ts:List TypeId) (cs:List Value),cs.length=(ts.map sz).sum->
  (∀ (i:Nat) t,ts[i]?=some t->∃ as,TyA P t as/\LRel c w as ((cs.drop ((ts.take i).map sz).sum).take (sz t))/\∀ u∈(cs.drop ((ts.take i).map sz).sum).take (sz t),u.oneCell'=true)->
  ∃ parts,TyAs P ts parts/\LRel c w parts.flatten cs/\∀ u∈cs,u.oneCell'=true
 | [],cs,hl,_=>by
  have:cs=[]:=by simpa using hl
  subst this;exact ⟨[],.nil,by simp [LRel],by simp⟩
 | t::ts,cs,hl,h=>by
  obtain ⟨as,h1,h2,h3⟩:=h 0 t (by simp);simp only [List.take_zero,List.map_nil,List.sum_nil,List.drop_zero] at h2 h3;simp only [List.map_cons,List.sum_cons] at hl;obtain ⟨parts,k1,k2,k3⟩:=zdf sz ts (cs.drop (sz t)) (by simp;omega) (λi t' ht'=>by
   obtain ⟨as',g1,g2,g3⟩:=h (i+1) t' (by simpa using ht');simp only [List.take_succ_cons,List.map_cons,List.sum_cons] at g2 g3;rw [<-List.drop_drop] at g2 g3;exact ⟨as',g1,g2,g3⟩)
  refine ⟨as::parts,.cons h1 k1,?_,?_⟩
  ·have:=LRel.append h2 k2;simpa using this
  ·intro u hu;rw [<-List.take_append_drop (sz t) cs,List.mem_append] at hu;rcases hu with hu | hu
   ·exact h3 u hu
   ·exact k3 u hu
theorem tyAs_all {e:TypeId}:∀ {n:Nat} {parts:List (List AV)},TyAs P (List.replicate n e) parts->zpt P e parts/\parts.length=n
 | 0,parts,h=>by cases h;exact ⟨.nil,rfl⟩
 | n+1,parts,h=>by
  rw [List.replicate_succ] at h
  cases h with
  | cons h1 h2=>
   obtain ⟨k1,k2⟩:=tyAs_all h2;exact ⟨.cons h1 k1,by simp [k2]⟩
theorem zli {e:TypeId} {a:Addr} {n len:Nat} {elems:List (DataW H×List MemPlace)} (hc:∀ b o,(w.cell? ⟨b,o,none⟩).isSome->c.im b o)
  (ih:∀ cs x,DataW.trod enc P w base spare held n e cs=some x->∃ as,TyA P e as/\LRel c w as cs/\∀ u∈cs,u.oneCell'=true) (hs:0<len->a.spot=none)
  (hlen:elems.length=len) (h:∀ i,i<len->(w.cells? base (a.add (i*P.cellsOf e)) (P.cellsOf e)).bind (DataW.trod enc P w base spare held n e)=elems[i]?) :
  ∀ k j,j+k=len->∃ es,es.length=k/\zpt P e es/\ERel c w (P.cellsOf e) es a.block (a.off+j*P.cellsOf e)
 | 0,j,_=>⟨[],rfl,.nil,by simp [ERel]⟩
 | k+1,j,hj=>by
  obtain ⟨es,k1,k2,k3⟩:=zli hc ih hs hlen h k (j+1) (by omega);have hx:elems[j]?=some (elems[j]'(by omega)):=List.getElem?_eq_getElem (by omega);have hi:=h j (by omega);rw [hx,Option.bind_eq_some_iff] at hi;obtain ⟨cs,hcs,htr⟩:=hi;obtain ⟨as,g1,g2,g3⟩:=ih cs _ htr;have hM:=zgf hc hcs g2 g3;have e1:(a.add (j*P.cellsOf e)).block=a.block/\(a.add (j*P.cellsOf e)).off=a.off+j*P.cellsOf e:=by
   unfold Addr.add;split
   ·rename_i e0;rw [e0];simp
   ·simp
  rw [e1.1,e1.2] at hM;have hL:as.length=P.cellsOf e:=by
   rw [<-(World.cells?_some hcs).2.1];exact (LRel.length g2).symm
  refine ⟨as::es,by simp [k1],.cons g1 k2,?_⟩;simp only [ERel];refine ⟨hL,hM,?_⟩;rwa [Nat.add_mul,Nat.one_mul,<-Nat.add_assoc] at k3
theorem trod_one {n:Nat} {t:TypeId} {cs:List Value} {x:DataW H×List MemPlace} (ho:othK P t=true) (h:DataW.trod enc P w base spare held (n+1) t cs=some x):∃ v,cs=[v]/\v.oneCell'=true:=by
 rw [DataW.trod_step] at h;unfold DataW.trodStep at h;split at h
 case h_9 hu=>simp [othK,hu] at ho
 case h_10 hu=>simp [othK,hu] at ho
 all_goals first
  | exact ⟨_,rfl,rfl⟩
  | (exact absurd h (by simp))
theorem zrx (hl:laidOutB P=true) (hc:∀ b o,(w.cell? ⟨b,o,none⟩).isSome->c.im b o):∀ (n:Nat) (t:TypeId) (cs:List Value) (x:DataW H×List MemPlace),t<P.types.size->DataW.trod enc P w base spare held n t cs=some x->∃ as,TyA P t as/\LRel c w as cs/\∀ u∈cs,u.oneCell'=true
 | 0,_,_,_,_,h=>by simp [DataW.trod] at h
 | n+1,t,cs,x,ht,h=>by
  have ih:=zrx hl hc n
  cases hu:P.underlying t with
  | none=>rw [DataW.trod_step] at h;unfold DataW.trodStep at h;simp [hu] at h
  | some d=>
   by_cases ho:othK P t=true
   ·
    obtain ⟨v,rfl,hv⟩:=trod_one ho h;exact ⟨[.und],.other ho,by simp [LRel,VRel],by simpa using hv⟩
   ·cases d with
    | bool=>
     obtain ⟨b,rfl,-⟩:=DataW.trod_bool hu h;exact ⟨[.bool b],.bool hu,by simp [LRel,VRel],by simp [Value.oneCell']⟩
    | int k=>
     obtain ⟨m,rfl,-,hw⟩:=DataW.trod_int hu h;simp only [Lit.wf,Bool.and_eq_true,decide_eq_true_eq] at hw;exact ⟨[.int k m],.int hu hw.1 hw.2,by simp [LRel,VRel],by simp [Value.oneCell']⟩
    | string=>
     obtain ⟨s,rfl,-,hw⟩:=DataW.trod_string hu h;refine ⟨[.str s.data.toList],.str hu (by simpa using hw),by simp [LRel,VRel],by simp [Value.oneCell']⟩
    | pointer e=>
     have hpos:0<P.cellsOf e:=by
      simp [othK,hu] at ho;omega
     rcases DataW.trod_pointer hu h with ⟨rfl,-⟩ | ⟨a,cs',y,m,hm,rfl,-,hcs,hy⟩
     ·exact ⟨[.nilp],.nilp hu,by simp [LRel,VRel],by simp [Value.oneCell']⟩
     ·cases hm;obtain ⟨as,g1,g2,g3⟩:=ih e cs' y (kid_pointer hl ht hu) hy;refine ⟨[.iptr as],.iptr hu hpos g1,?_,by simp [Value.oneCell']⟩;have hs:=zh6 hcs hpos;have hM:=zgf hc hcs g2 g3;obtain ⟨b,o,s⟩:=a;simp at hs;subst hs;simp only [LRel,VRel];exact ⟨_,[],rfl,⟨b,o,rfl,hM⟩,rfl⟩
    | slice e=>
     have hpos:0<P.cellsOf e:=by
      simp [othK,hu] at ho;omega
     rcases DataW.trod_slice hu h with ⟨rfl,-⟩ | ⟨a,len,cap,elems,rest,m,hm,rfl,-,hb,hlc,hcm,hel,hget,-,-⟩
     ·exact ⟨[.nils],.nils hu,by simp [LRel,VRel],by simp [Value.oneCell']⟩
     ·cases hm;have hs:0<len->a.spot=none:=λh0=>by
       have hi:=hget 0 h0;have hx:elems[0]?=some (elems[0]'(by omega)):=List.getElem?_eq_getElem (by omega);rw [hx,Option.bind_eq_some_iff] at hi;obtain ⟨cs',hcs,-⟩:=hi;have:=zh6 hcs hpos;simpa [Addr.add] using this
      obtain ⟨es,k1,k2,k3⟩:=zli (spare:=spare) (held:=held) hc (λcs x hx=>ih e cs x (kid_slice hl ht hu) hx) hs hel hget len 0 (by omega);have hml:maxLen<=9223372036854775807:=by decide
      refine ⟨[.isl (P.cellsOf e) es],.isl hu hpos (by omega) k2,?_,by simp [Value.oneCell']⟩;simp only [LRel,VRel];refine ⟨_,[],rfl,⟨some a,cap,by rw [k1],by omega,by omega,λhne=>?_⟩,rfl⟩;have hp:0<len:=by rw [<-k1];exact (by cases es with | nil=>exact absurd rfl hne | cons _ _=>simp)
      have hs:=hs hp;obtain ⟨b,o,s⟩:=a;simp at hs;subst hs;exact ⟨b,o,rfl,by simpa using k3⟩
    | struct fs=>
     obtain ⟨xs,m,hm,-,hcl,hxl,hget⟩:=DataW.trod_struct hu h;cases hm;obtain ⟨q1,q2,q3⟩:=kid_struct hl ht hu;obtain ⟨parts,g1,g2,g3⟩:=zdf (P:=P) (c:=c) (w:=w) P.cellsOf (fs.toList.map (·.type)) cs (by rw [hcl,q2];simp [Function.comp_def]) (λi t' ht'=>by
      rw [List.getElem?_map,Option.map_eq_some_iff] at ht';obtain ⟨f,hf,rfl⟩:=ht';have hoff:=q3 i f hf;have hf':fs[i]?=some f:=by simpa using hf
      have hlt:i<xs.length:=by rw [hxl];exact (Array.getElem?_eq_some_iff.1 hf').1
      have hx:=hget i f hf';rw [List.getElem?_eq_getElem hlt] at hx;rw [show ((List.take i (fs.toList.map (·.type))).map P.cellsOf).sum=f.offset by rw [hoff,<-List.map_take,List.map_map];rfl];exact ih f.type _ _ (q1 f (List.mem_of_getElem? hf)) hx)
     exact ⟨parts.flatten,.struct hu g1,g2,g3⟩
    | array m e=>
     obtain ⟨q1,q2⟩:=kid_array hl ht hu;have hx:cs.length=P.cellsOf t/\∀ i,i<m->∃ y,DataW.trod enc P w base spare held n e ((cs.drop (i*P.cellsOf e)).take (P.cellsOf e))=some y:=by
      rw [DataW.trod_step] at h;unfold DataW.trodStep at h;simp only [hu] at h;split at h
      ·rename_i hcl;refine ⟨hcl,λi hi=>?_⟩;simp only [Option.map_eq_some_iff] at h;obtain ⟨xs,hxs,-⟩:=h;have h1:=mapM_some_get hxs i i (by simp [hi]);have h2:=mapM_some_length hxs;rw [List.getElem?_eq_getElem (by simp at h2;omega)] at h1;exact ⟨_,h1⟩
      ·simp at h
     obtain ⟨hcl,hget⟩:=hx;obtain ⟨parts,g1,g2,g3⟩:=zdf (P:=P) (c:=c) (w:=w) P.cellsOf (List.replicate m e) cs (by rw [hcl,q2];simp) (λi t' ht'=>by
      rw [List.getElem?_replicate] at ht';split at ht'
      ·rename_i hi;cases ht';obtain ⟨y,hy⟩:=hget i hi;rw [show ((List.take i (List.replicate m e)).map P.cellsOf).sum=i*P.cellsOf e by simp [List.take_replicate,Nat.min_eq_left (Nat.le_of_lt hi)]];exact ih e _ _ q1 hy
      ·cases ht')
     obtain ⟨g4,g5⟩:=tyAs_all g1;exact ⟨parts.flatten,.array hu g5 g4,g2,g3⟩
    | _=>exact absurd (by simp [othK,hu]) ho
def aggK (P:Program) (t:TypeId):Bool:=
 match P.underlying t with
 | some (.struct _) | some (.array _ _)=>true
 | _=>false
inductive TyV (P:Program):TypeId->AV->Prop where
 | agg {t cs}:aggK P t=true->TyA P t cs->TyV P t (.agg cs)
 | one {t a}:aggK P t=false->TyA P t [a]->TyV P t a
inductive TyVs (P:Program):List TypeId->List AV->Prop where
 | nil:TyVs P [] []
 | cons {t ts a as}:TyV P t a->TyVs P ts as->TyVs P (t::ts) (a::as)
theorem read_value {r:Reach} {b0:Nat} {w0:World} {n:Nat} {t:TypeId} {v:Value} {x:DataW H×List MemPlace} (hl:laidOutB P=true) (hc:∀ b o,(w.cell? ⟨b,o,none⟩).isSome->c.im b o) (ht:t<P.types.size)
  (hok:Value.okWide P w0 r b0 t v) (h:DataW.trod enc P w base spare held n t v.cells.toList=some x):∃ a,TyV P t a/\VRel c w a v:=by
 obtain ⟨as,h1,h2,h3⟩:=zrx (c:=c) hl hc n t _ x ht h;unfold Value.okWide at hok;split at hok
 ·rename_i hu;obtain ⟨cs,rfl,-⟩:=hok;simp only [Value.cells] at h2 h3;exact ⟨.agg as,.agg (by simp [aggK,hu]) h1,by simp only [VRel];exact ⟨cs,rfl,h2,h3⟩⟩
 ·rename_i hu;obtain ⟨cs,rfl,-⟩:=hok;simp only [Value.cells] at h2 h3;exact ⟨.agg as,.agg (by simp [aggK,hu]) h1,by simp only [VRel];exact ⟨cs,rfl,h2,h3⟩⟩
 ·rename_i hn1 hn2;have hna:aggK P t=false:=by
   unfold aggK;split
   ·rename_i hu;exact absurd hu (hn1 _)
   ·rename_i hu;exact absurd hu (hn2 _ _)
   ·rfl
  have hv:v.cells.toList=[v]:=by
   cases v with
   | agg cs=>
    exfalso;unfold Cell.okWide at hok;split at hok <;> first
     | (rename_i e;cases e;done)
     | (rename_i e _;cases e;done)
     | (unfold Cell.ok at hok;split at hok <;> simp_all)
   | _=>rfl
  rw [hv] at h2
  match as,h2 with
  | [a],h2=>
   simp only [LRel] at h2;obtain ⟨v',_,e,h4,rfl⟩:=h2;cases e;exact ⟨a,.one hna h1,h4⟩
  | [],h2=>simp [LRel] at h2
  | _::_::_,h2=>
   simp only [LRel] at h2;obtain ⟨_,_,e,_,_,_,rfl,_⟩:=h2;cases e
theorem zrw {r:Reach} {b0:Nat} {w0:World} (hl:laidOutB P=true) (hc:∀ b o,(w.cell? ⟨b,o,none⟩).isSome->c.im b o):∀ {ts:List TypeId} {vs:List Value} {ds:List (DataW H)} {ps:List MemPlace},
  (∀ t∈ts,t<P.types.size)->(∀ (j:Nat) t v,ts[j]?=some t->vs[j]?=some v->Value.okWide P w0 r b0 t v)->DataW.TrodAll enc P w base spare held ts vs ds ps->∃ as,TyVs P ts as/\LRel c w as vs
 | [],[],_,_,_,_,_=>⟨[],.nil,by simp [LRel]⟩
 | [],_::_,_,_,_,_,h=>by simp [DataW.TrodAll] at h
 | _::_,[],_,_,_,_,h=>by simp [DataW.TrodAll] at h
 | _::_,_::_,[],_,_,_,h=>by simp [DataW.TrodAll] at h
 | t::ts,v::vs,d::ds,ps,ht,hok,h=>by
  simp only [DataW.TrodAll] at h;obtain ⟨p,q,⟨n,h1⟩,h2,-⟩:=h;obtain ⟨a,g1,g2⟩:=read_value (c:=c) hl hc (ht t (by simp)) (hok 0 t v rfl rfl) h1;obtain ⟨as,g3,g4⟩:=zrw hl hc (λx hx=>ht x (by simp [hx])) (λj t v hj hv=>hok (j+1) t v (by simpa using hj) (by simpa using hv)) h2;exact ⟨a::as,.cons g1 g3,by simp only [LRel];exact ⟨v,vs,rfl,g2,g4⟩⟩
end
def noHeap:z00:=⟨λ_=>none,0⟩
theorem law_calls {H:Type} {enc:TypeId×Value->H} {P:Program} {f:FuncId} {ts:List TypeId} {args:Array Value} {W:World} {r:Reach} {b0:Nat} {ds:List (DataW H)} {ps:List MemPlace} (hl:laidOutB P=true) (ht:∀ t∈ts,t<P.types.size)
  (hok:∀ (j:Nat) t v,ts[j]?=some t->args.toList[j]?=some v->Value.okWide P W r b0 t v) (hA:DataW.TrodAll enc P W 0 (λ_=>true) true ts args.toList ds ps)
  (hcall:∀ as w,(callFunc f as).run P w=.ok (.enter f as) w) (hgl:∀ c:Ctx,(∀ b o,(W.cell? ⟨b,o,none⟩).isSome=true->c.im b o)->GlR c W) (H:∀ as,TyVs P ts as->z01 P f as noHeap (λv _=>v=.bool true)):Calls P f args W λe W'=>e=.returned (.bool true)/\Below W.heap.size W W':=by
 let c:Ctx:=⟨λ_=>none,λb o=>(W.cell? ⟨b,o,none⟩).isSome=true⟩
 obtain ⟨as,h1,h2⟩:=zrw (c:=c) hl (λ_ _ h=>h) ht hok hA;have hW:WRel W.heap.size c noHeap W:=⟨by simp [c],by simp [c],by simp [c],λb o hb=>by
   show b<W.heap.size
   have hb:(W.cell? ⟨b,o,none⟩).isSome=true:=hb
   cases hx:W.heap[b]? with
   | none=>simp [World.cell?,hx] at hb
   | some _=>exact (Array.getElem?_eq_some_iff.1 hx).1,λ_ _=>rfl,Nat.le_refl _,hgl c λ_ _ h=>h⟩
 have hA':=H as h1;rcases hA' with hA' | hA'
 case inr=>
  obtain ⟨c',u,v,h',w',hr,_⟩:=hA' W.heap.size c W args.toList hW h2;rw [hcall] at hr;cases hr
 have:=hA'.2 W.heap.size c W args.toList hW h2;rw [show args.toList.toArray=args from rfl] at this;refine this.mono λe W' h=>?_;obtain ⟨c',u,v,h',rfl,E,_,hv,rfl⟩:=h;simp only [VRel] at hv;subst hv;exact ⟨rfl,E.below⟩
theorem zh8 {H:Type} {enc:TypeId×Value->H} {P:Program} (hl:laidOutB P=true) {W W':World} (hb:Below W.heap.size W W'):∀ {ts:List TypeId} {vs:List Value} {ds:List (DataW H)} {ps:List MemPlace},
  (∀ t∈ts,t<P.types.size)->(∀ t∈ts,P.readableRec t=true)->(∀ x∈ps,x.block<W.heap.size)->DataW.TrodAll enc P W 0 (λ_=>true) true ts vs ds ps->DataW.TrodAll enc P W' 0 (λb=>decide (b<W.heap.size)) true ts vs ds ps
 | [],[],[],_,_,_,_,h=>h
 | [],[],_::_,_,_,_,_,h=>by simp [DataW.TrodAll] at h
 | [],_::_,_,_,_,_,_,h=>by simp [DataW.TrodAll] at h
 | _::_,[],_,_,_,_,_,h=>by simp [DataW.TrodAll] at h
 | _::_,_::_,[],_,_,_,_,h=>by simp [DataW.TrodAll] at h
 | t::ts,v::vs,d::ds,ps,ht,hr,hp,h=>by
  simp only [DataW.TrodAll] at h ⊢;obtain ⟨p,q,h1,h2,rfl⟩:=h;refine ⟨p,q,Below.trod hl (hr t (by simp)) (ht t (by simp)) h1 hb (λx hx=>hp x (by simp [hx])),zh8 hl hb (λx hx=>ht x (by simp [hx])) (λx hx=>hr x (by simp [hx])) (λx hx=>hp x (by simp [hx])) h2,rfl⟩
theorem law_post {H:Type} {enc:TypeId×Value->H} {P:Program} {f:Func} {s:ChangeSpec} {apart fresh handsOn:Bool} {W W':World} {args:Array Value} {ds gs:List (DataW H)} {before:List MemPlace} {t:TypeId}
  (hl:laidOutB P=true) (ht:∀ t∈f.params.toList,t<P.types.size) (hr:∀ t∈f.params.toList,P.readableRec t=true) (hres:f.resultTypes=#[t]) (htb:P.underlying t=some .bool)
  (hvars:s.vars=[]) (hfn:∀ xs:List (DataW H),xs.length=f.params.size->s.fn H xs={ results:=[.lit (.bool true)],args:=xs })
  (hW:DataW.Whole enc P f.params.toList s.vars apart W args.toList ds gs before) (hB:Below W.heap.size W W'):s.post enc P f apart fresh handsOn false W args (.bool true) W':=by
 have hlt:=hW.lt;have hW':=hW;obtain ⟨p,q,hA,hV,hb,-,-⟩:=hW';rw [hvars] at hV;have hg:gs=[]/\q=[]:=by
  cases gs with
  | nil=>simpa [DataW.TrodVars] using hV
  | cons _ _=>simp [DataW.TrodVars] at hV
 obtain ⟨rfl,rfl⟩:=hg;have hlen:∀ {ts:List TypeId} {vs:List Value} {ds:List (DataW H)} {p:List MemPlace},DataW.TrodAll enc P W 0 (λ_=>true) true ts vs ds p->ds.length=ts.length:=by
  intro ts
  induction ts with
  | nil=>intro vs ds p h;cases vs <;> cases ds <;> simp_all [DataW.TrodAll]
  | cons t ts ih=>
   intro vs ds p h;cases vs <;> cases ds <;> simp only [DataW.TrodAll] at h;obtain ⟨_,_,_,h2,_⟩:=h;simp [ih h2]
 have hdl:(ds++([]:List (DataW H))).length=f.params.size:=by simp [hlen hA]
 have e:=hfn _ hdl;refine ⟨ds,[],before,[],before,[],hW,?_,?_,?_,hB.frame _,λh=>by simp at h⟩
 ·rw [e,hres];simp only [List.size_toArray,List.length_cons,List.length_nil,DataW.TrodAll];refine ⟨[],[],⟨1,?_⟩,rfl,rfl⟩;simp [DataW.trod,htb,Value.cells]
 ·rw [e];simp only [List.append_nil] at hb ⊢;subst hb;exact zh8 hl hB ht hr hlt hA
 ·rw [e,hvars];simp [DataW.TrodVars]
def parsOk (P:Program) (f:Func):Bool:=f.params.toList.all λt=>decide (t<P.types.size)&&P.readableRec t
section
variable {P:Program} {t:TypeId} {cs:List AV} {a:AV}
theorem TyA.inv_bool (hu:P.underlying t=some .bool) (h:TyA P t cs):∃ b,cs=[.bool b]:=by cases h <;> simp_all [othK]
theorem TyA.inv_int {k:IntKind} (hu:P.underlying t=some (.int k)) (h:TyA P t cs):∃ n,cs=[.int k n]/\k.min<=n/\n<=k.max:=by cases h <;> simp_all [othK]
theorem TyA.inv_slice {e:TypeId} (hu:P.underlying t=some (.slice e)) (he:0<P.cellsOf e) (h:TyA P t cs):cs=[.nils]\/∃ es,cs=[.isl (P.cellsOf e) es]/\es.length<=maxLen/\zpt P e es:=by
 cases h <;> simp_all [othK]
theorem TyA.z7i {fs:Array Field} (hu:P.underlying t=some (.struct fs)) (h:TyA P t cs):∃ parts,cs=parts.flatten/\TyAs P (fs.toList.map (·.type)) parts:=by
 cases h <;> simp_all [othK];exact ⟨_,rfl,by assumption⟩
theorem TyV.one_inv (hg:aggK P t=false) (h:TyV P t a):TyA P t [a]:=by cases h <;> simp_all
theorem TyV.agg_inv (hg:aggK P t=true) (h:TyV P t a):∃ cs,a=.agg cs/\TyA P t cs:=by
 cases h
 ·exact ⟨_,rfl,by assumption⟩
 ·simp_all
theorem TyVs.zbq {as:List AV} (h:TyVs P [] as):as=[]:=by cases h;rfl
theorem TyVs.cons_inv {ts:List TypeId} {as:List AV} (h:TyVs P (t::ts) as):∃ a bs,as=a::bs/\TyV P t a/\TyVs P ts bs:=by
 cases h;exact ⟨_,_,rfl,by assumption,by assumption⟩
theorem TyAs.zbq {ps:List (List AV)} (h:TyAs P [] ps):ps=[]:=by cases h;rfl
theorem TyAs.cons_inv {ts:List TypeId} {ps:List (List AV)} (h:TyAs P (t::ts) ps):∃ p qs,ps=p::qs/\TyA P t p/\TyAs P ts qs:=by
 cases h;exact ⟨_,_,rfl,by assumption,by assumption⟩
end
end
section
@[simp] theorem zlr (n:Int):IntKind.u64.wrap n=n%18446744073709551616:=by simp [IntKind.wrap,IntKind.bits,IntKind.signed]
@[simp] theorem wr_u32 (n:Int):IntKind.u32.wrap n=n%4294967296:=by simp [IntKind.wrap,IntKind.bits,IntKind.signed]
@[simp] theorem wr_u8 (n:Int):IntKind.u8.wrap n=n%256:=by simp [IntKind.wrap,IntKind.bits,IntKind.signed]
theorem bv_nat (w a:Nat):BitVec.ofInt w (a:Int)=BitVec.ofNat w a:=by simp
theorem bv_and (w a b:Nat) (ha:a<2 ^ w) (hb:b<2 ^ w):(BitVec.ofInt w (a:Int) &&& BitVec.ofInt w (b:Int)).toNat=a &&& b:=by
 rw [bv_nat,bv_nat,BitVec.toNat_and,BitVec.toNat_ofNat,BitVec.toNat_ofNat,Nat.mod_eq_of_lt ha,Nat.mod_eq_of_lt hb]
theorem bv_or (w a b:Nat) (ha:a<2 ^ w) (hb:b<2 ^ w):(BitVec.ofInt w (a:Int) ||| BitVec.ofInt w (b:Int)).toNat=a ||| b:=by
 rw [bv_nat,bv_nat,BitVec.toNat_or,BitVec.toNat_ofNat,BitVec.toNat_ofNat,Nat.mod_eq_of_lt ha,Nat.mod_eq_of_lt hb]
theorem iAnd_u64 (a b:Nat) (ha:a<18446744073709551616) (hb:b<18446744073709551616):iAnd .u64 a b=((a &&& b:Nat):Int):=by
 unfold iAnd;rw [bv_and _ a b (by simpa [IntKind.bits] using ha) (by simpa [IntKind.bits] using hb),zlr];have:a &&& b<2 ^ 64:=Nat.and_lt_two_pow _ (by simpa using hb);omega
theorem zt9 (a b:Nat) (ha:a<18446744073709551616) (hb:b<18446744073709551616):iOr .u64 a b=((a ||| b:Nat):Int):=by
 unfold iOr;rw [bv_or _ a b (by simpa [IntKind.bits] using ha) (by simpa [IntKind.bits] using hb),zlr];have:a ||| b<2 ^ 64:=Nat.or_lt_two_pow (by simpa using ha) (by simpa using hb)
 omega
theorem iShl_u64 (a b:Nat) (hb:b<64):iShl .u64 a b=((a*2 ^ b%18446744073709551616:Nat):Int):=by
 unfold iShl;rw [zlr];have:min (b:Int).toNat IntKind.u64.bits=b:=by simp [IntKind.bits];omega
 rw [this,Int.natCast_emod,Int.natCast_mul,Int.natCast_pow]
 rfl
theorem iShr_u64 (a b:Nat) (hb:b<64):iShr .u64 a b=((a/2 ^ b:Nat):Int):=by
 unfold iShr;have:min (b:Int).toNat IntKind.u64.bits=b:=by simp [IntKind.bits];omega
 rw [this,Int.fdiv_eq_ediv_of_nonneg _ (Int.le_of_lt (Int.pow_pos (by decide))),Int.natCast_ediv,Int.natCast_pow]
 rfl
end
section
theorem zph (h:z00) (o o':AObj):(h.push o).put h.next o'=h.push o':=by
 unfold z00.push z00.put;simp only [z00.mk.injEq,and_true];funext i;split <;> simp_all
theorem z1j {h:z00} {ty:TypeId} {zs vs:List AV} {n:Nat} (h1:zs.length=n) (h2:vs.length=n) (K:z00->Prop):z14 n (.ptr h.next 0) (.agg vs) (h.push (.row ty zs)) K=K (h.push (.row ty vs)):=by
 simp only [z14,z00.z3l,if_true,List.take_zero,List.nil_append,Nat.zero_add];rw [<-h1,List.drop_length,List.append_nil,zph];simp [h1,h2]
@[simp] theorem zax (h:z00) (ty:TypeId) (cs:List AV) (k:Option Nat) (off:Nat) (K:AV->Prop):z0t k (.ptr h.next off) (h.push (.row ty cs)) K=z03 k cs off K:=by simp [z0t]
def slAV {α:Type} (sz:Nat) (enc:α->List AV):Option (List α)->AV
 | none=>.nils
 | some xs=>.isl sz (xs.map enc)
def slL {α:Type}:Option (List α)->List α | none=>[] | some xs=>xs
@[simp] theorem slL_none {α:Type}:slL (none:Option (List α))=[]:=rfl
@[simp] theorem zh4 {α:Type} (xs:List α):slL (some xs)=xs:=rfl
@[simp] theorem zrf {α:Type} (sz:Nat) (enc:α->List AV) (o:Option (List α)) (K:AV->Prop):pLen .slice (slAV sz enc o) K=K (.int .i64 (slL o).length):=by
 cases o <;> simp [slAV]
theorem z06 {α:Type} {sz:Nat} {enc:α->List AV} {o:Option (List α)} {k:Nat} {x:α} (hx:(slL o)[k]?=some x) (kk:IntKind) (K:AV->Prop):z0o (.slice sz) (slAV sz enc o) (.int kk (k:Int)) K=K (.iptr (enc x)):=by
 cases o with
 | none=>simp at hx
 | some xs=>simp at hx;simp [slAV,z0o,hx]
theorem zh7 {α:Type} (sz:Nat) (enc:α->List AV) (o:Option (List α)) (h:z00):z1v sz (slAV sz enc o) h=some ((slL o).map enc):=by
 cases o <;> simp [slAV,z1v]
theorem TyA.slAV_of {P:Program} {t e:TypeId} {α:Type} {enc:α->List AV} {ok:α->Prop} {cs:List AV} (hu:P.underlying t=some (.slice e)) (he:0<P.cellsOf e) (hx:∀ es,TyA P e es->∃ x,es=enc x/\ok x) (h:TyA P t cs) :
  ∃ o:Option (List α),cs=[slAV (P.cellsOf e) enc o]/\(slL o).length<=maxLen/\∀ x∈slL o,ok x:=by
 rcases h.inv_slice hu he with rfl | ⟨es,rfl,hl,ht⟩
 ·exact ⟨none,rfl,by simp,by simp⟩
 ·have:∃ xs:List α,es=xs.map enc/\∀ x∈xs,ok x:=by
   clear hl h
   induction es with
   | nil=>exact ⟨[],rfl,by simp⟩
   | cons c es ih=>
    cases ht with
    | cons h1 h2=>
     obtain ⟨xs,e1,k1⟩:=ih h2;obtain ⟨x,e2,k2⟩:=hx c h1;refine ⟨x::xs,by rw [e1,e2];rfl,λy hy=>?_⟩;rcases List.mem_cons.1 hy with rfl | hy
     ·exact k2
     ·exact k1 y hy
  obtain ⟨xs,rfl,hk⟩:=this;exact ⟨some xs,rfl,by simpa using hl,hk⟩
def encI (n:Int):List AV:=[.int .i64 n]
def encN (n:Nat):List AV:=[.int .u64 (n:Int)]
def encT (b:Bool):List AV:=[.bool b]
def okI (n:Int):Prop:=-9223372036854775808<=n/\n<=9223372036854775807
def okN (n:Nat):Prop:=n<18446744073709551616
def okT (_:Bool):Prop:=True
def okSl {α:Type} (ok:α->Prop) (o:Option (List α)):Prop:=(slL o).length<=maxLen/\∀ x∈slL o,ok x
section
variable {P:Program} {t:TypeId} {cs:List AV} {a:AV}
theorem TyA.z7b (hu:P.underlying t=some (.int .i64)) (h:TyA P t cs):∃ n,cs=encI n/\okI n:=by
 obtain ⟨n,rfl,h1,h2⟩:=h.inv_int hu;exact ⟨n,rfl,by simpa [IntKind.min,IntKind.signed,IntKind.bits] using h1,by simpa [IntKind.max,IntKind.signed,IntKind.bits] using h2⟩
theorem TyA.u64_of (hu:P.underlying t=some (.int .u64)) (h:TyA P t cs):∃ n,cs=encN n/\okN n:=by
 obtain ⟨n,rfl,h1,h2⟩:=h.inv_int hu;simp [IntKind.min,IntKind.signed] at h1;simp [IntKind.max,IntKind.signed,IntKind.bits] at h2;refine ⟨n.toNat,?_,?_⟩
 ·simp only [encN];rw [Int.toNat_of_nonneg h1]
 ·unfold okN;omega
theorem TyA.bool_of (hu:P.underlying t=some .bool) (h:TyA P t cs):∃ b,cs=encT b/\okT b:=by
 obtain ⟨b,rfl⟩:=h.inv_bool hu;exact ⟨b,rfl,trivial⟩
theorem TyA.zmm {e:TypeId} {n:Nat} {α:Type} {enc:α->List AV} {ok:α->Prop} (hu:P.underlying t=some (.slice e)) (hn:P.cellsOf e=n) (he:0<n) (hx:∀ es,TyA P e es->∃ x,es=enc x/\ok x) (h:TyA P t cs) :
  ∃ o:Option (List α),cs=[slAV n enc o]/\okSl ok o:=by
 subst hn;exact h.slAV_of hu he hx
theorem TyV.one_of {α:Type} {enc:α->AV} {ok:α->Prop} (hg:aggK P t=false) (hx:∀ es,TyA P t es->∃ x,es=[enc x]/\ok x) (h:TyV P t a):∃ x,a=enc x/\ok x:=by
 obtain ⟨x,h1,h2⟩:=hx _ (h.one_inv hg);exact ⟨x,by simpa using h1,h2⟩
theorem TyV.agg_of {α:Type} {enc:α->List AV} {ok:α->Prop} (hg:aggK P t=true) (hx:∀ es,TyA P t es->∃ x,es=enc x/\ok x) (h:TyV P t a):∃ x,a=.agg (enc x)/\ok x:=by
 obtain ⟨cs,rfl,h1⟩:=h.agg_inv hg;obtain ⟨x,rfl,h2⟩:=hx _ h1;exact ⟨x,rfl,h2⟩
end
theorem zku (cs:List AV) (o:Nat) (K:AV->Prop):z03 none (cs.drop o) 0 K=z03 none cs o K:=by simp [z03]
theorem zih (cs:List AV) (o n:Nat) (hn:0<n) (K:AV->Prop):z03 (some n) (cs.drop o) 0 K=z03 (some n) cs o K:=by
 simp only [z03,List.length_drop,Nat.zero_add,List.drop_zero];rw [show (n<=cs.length-o)=(o+n<=cs.length) by rw [eq_iff_iff];omega]
section
theorem fits_int (k:IntKind) (n:Int):(AV.int k n).fits=true:=rfl
theorem zq7 (k:IntKind) (n:Int):(AV.int k n).cells=[AV.int k n]:=rfl
theorem fits_bool (b:Bool):(AV.bool b).fits=true:=rfl
theorem zmu (b:Bool):(AV.bool b).cells=[AV.bool b]:=rfl
theorem fits_str (b:List UInt8):(AV.str b).fits=true:=rfl
theorem zq9 (b:List UInt8):(AV.str b).cells=[AV.str b]:=rfl
theorem fits_ptr (i o:Nat):(AV.ptr i o).fits=true:=rfl
theorem zq8 (i o:Nat):(AV.ptr i o).cells=[AV.ptr i o]:=rfl
theorem zql (c:List AV):(AV.iptr c).fits=true:=rfl
theorem zmv (c:List AV):(AV.iptr c).cells=[AV.iptr c]:=rfl
theorem zg2 {α:Type} (sz:Nat) (enc:α->List AV) (o:Option (List α)):(slAV sz enc o).fits=true:=by cases o <;> rfl
theorem zhc {α:Type} (sz:Nat) (enc:α->List AV) (o:Option (List α)):(slAV sz enc o).cells=[slAV sz enc o]:=by cases o <;> rfl
end
end
section
open Go.RowKit
@[reducible] def Tok {α:Type} (_:α):Type:=Unit
def later {α:Type} (K:α) (t:Tok K):α:=K
theorem later_1 {α:Type} (K:α->Prop) (t:Tok K) (x:α):later K t x=K x:=rfl
theorem later_2 {α β:Type} (K:α->β->Prop) (t:Tok K) (x:α) (y:β):later K t x y=K x y:=rfl
theorem later_3 {α β γ:Type} (K:α->β->γ->Prop) (t:Tok K) (x:α) (y:β) (z:γ):later K t x y z=K x y z:=rfl
theorem Cut.go {A:(Fr->z00->Prop)->Prop} {B:Fr->z00->Prop} {a:Tok A} {b:Tok B} (H:A (later B b)):Cut (later A a) (later B b):=⟨later B b,H,λ_ _ h=>h⟩
def zfi (b:Bool) (T F:Unit->Prop) (t:Tok T) (f:Tok F):Prop:=if b then T () else F ()
abbrev Split (b:Bool) (T F:Unit->Prop):Prop:=zfi b T F () ()
def BothT (T F:Unit->Prop) (t:Tok T) (f:Tok F):Prop:=T ()/\F ()
theorem zmp (T F:Unit->Prop) (t:Tok T) (f:Tok F):zfi true T F t f=T ():=rfl
theorem zjs (T F:Unit->Prop) (t:Tok T) (f:Tok F):zfi false T F t f=F ():=rfl
theorem Split.intro {b:Bool} {T F:Unit->Prop} (h1:b=true->T ()) (h2:b=false->F ()):Split b T F:=by
 cases b
 ·exact h2 rfl
 ·exact h1 rfl
theorem z09 {a b:Int} {T F:Unit->Prop} (h1:a<b->T ()) (h2:b<=a->F ()):Split (decide (a<b)) T F:=Split.intro (λh=>h1 (of_decide_eq_true h)) (λh=>h2 (by have:=of_decide_eq_false h;omega))
theorem z0y {a b:Int} {T F:Unit->Prop} (h1:a<=b->T ()) (h2:b<a->F ()):Split (decide (a<=b)) T F:=Split.intro (λh=>h1 (of_decide_eq_true h)) (λh=>h2 (by have:=of_decide_eq_false h;omega))
theorem z0p {a b:Int} {T F:Unit->Prop} (h1:a=b->T ()) (h2:a≠b->F ()):Split (a == b) T F:=Split.intro (λh=>h1 (by simpa using h)) (λh=>h2 (by simpa using h))
theorem z0v {a b:Int} {T F:Unit->Prop} (h1:a≠b->T ()) (h2:a=b->F ()):Split (a != b) T F:=Split.intro (λh=>h1 (by simpa using h)) (λh=>h2 (by simpa using h))
theorem Split_not {b:Bool} {T F:Unit->Prop} (h:Split b F T):Split (!b) T F:=by
 cases b
 ·exact h
 ·exact h
theorem zs2 (b:Bool) (T F:Prop):zm7 (.bool b) T F=zfi b (λ_=>T) (λ_=>F) () ():=by cases b <;> rfl
theorem zen (T F:Prop):zm7 .unkb T F=BothT (λ_=>T) (λ_=>F) () ():=rfl
theorem zle (b:Bool) (T F:Prop):zel (.bool b) true T F=zfi b (λ_=>T) (λ_=>F) () ():=by cases b <;> rfl
theorem zld (b:Bool) (T F:Prop):zel (.bool b) false T F=zfi b (λ_=>F) (λ_=>T) () ():=by cases b <;> rfl
theorem zdb (w:Bool) (T F:Prop):zel .unkb w T F=BothT (λ_=>T) (λ_=>F) () ():=rfl
theorem zil (b:Bool) (T F:Prop):z9f (.bool b) true T F=zfi b (λ_=>T) (λ_=>F) () ():=by cases b <;> rfl
theorem zik (b:Bool) (T F:Prop):z9f (.bool b) false T F=zfi b (λ_=>F) (λ_=>T) () ():=by cases b <;> rfl
theorem zs3 (b:Bool) (x y:AV) (K:AV->Prop):zri (.bool b) x y K=zfi b (λ_=>K x) (λ_=>K y) () ():=by cases b <;> rfl
theorem zr9 (vs:List AV) (K:List AV->Prop):z4r vs K=K vs:=rfl
theorem run_pIdx (i k:Nat) (T F:Prop):pIdx i k T F=if i=k then T else F:=rfl
theorem zh1 (v:AV) (vs:List AV) (K:AV->Prop):z6q 0 (.tup (v::vs)) K=K v:=rfl
theorem zh2 (i:Nat) (v:AV) (vs:List AV) (K:AV->Prop):z6q (i+1) (.tup (v::vs)) K=z6q i (.tup vs) K:=rfl
theorem dT_lt {a b:Int} (h:a<b):decide (a<b)=true:=decide_eq_true h
theorem dF_lt {a b:Int} (h:b<=a):decide (a<b)=false:=decide_eq_false (by omega)
theorem dT_le {a b:Int} (h:a<=b):decide (a<=b)=true:=decide_eq_true h
theorem dF_le {a b:Int} (h:b<a):decide (a<=b)=false:=decide_eq_false (by omega)
theorem dT_eq {a b:Int} (h:a=b):(a == b)=true:=by simp [h]
theorem dF_eq {a b:Int} (h:a≠b):(a == b)=false:=by simp [h]
theorem dT_ne {a b:Int} (h:a≠b):(a != b)=true:=by simp [h]
theorem dF_ne {a b:Int} (h:a=b):(a != b)=false:=by simp [h]
theorem z7n {n:Int} (h1:-9223372036854775808<=n) (h2:n<=9223372036854775807):IntKind.i64.wrap n=n:=wrap_i64 ⟨h1,h2⟩
theorem wrapN {n:Int} (h1:0<=n) (h2:n<18446744073709551616):IntKind.u64.wrap n=n:=by rw [zlr];omega
theorem wrapB {n:Int} (h1:0<=n) (h2:n<256):IntKind.u8.wrap n=n:=by rw [wr_u8];omega
theorem run_ixSl {i o len n:Nat} {kk:IntKind} {k:Int} (h1:0<=k) (h2:k<len) (K:AV->Prop):z0o (.slice n) (.sl i o len n) (.int kk k) K=K (.ptr i (o+k.toNat*n)):=by simp [z0o,h1,h2]
section
variable {P:Program}
end
theorem Keeps.go {h h1 h2:z00} (a:Keeps h h1 (λ_=>False)) (b:Keeps h1 h2 (λ_=>False)):Keeps h h2 (λ_=>False):=a.trans b (λ_ _ x=>x)
theorem Keeps.one (h:z00) (o:AObj):Keeps h (h.push o) (λ_=>False):=Keeps.push h o
end
section
open Go.RowKit
abbrev n6 (n:Int):AV:=.int .i64 n
abbrev n8 (n:Int):AV:=.int .u8 n
abbrev nU (n:Int):AV:=.int .u64 n
abbrev n0:AV:=.int .i64 0
abbrev bT:AV:=.bool true
abbrev bF:AV:=.bool false
def tu:Nat->List AV
 | 0=>[]
 | n+1=>.tup []::tu n
def kq (f:Fr):List Nat->List (Nat×AV)->List (Nat×AV)
 | [],r=>r
 | k::l,r=>(k,f k)::kq f l r
def qF (o:Nat) (a:AV) (K:AV->Prop):Prop:=z3g o a (later K ())
def qL (a:AV) (h:z00) (K:AV->Prop):Prop:=z0t none a h (later K ())
def qK (k:Nat) (a:AV) (h:z00) (K:AV->Prop):Prop:=z0t (some k) a h (later K ())
def qG (o:Nat) (a:AV) (h:z00) (K:AV->Prop):Prop:=z3g o a (later (λv=>z0t none v h (later K ())) ())
def qH (o:Nat) (a:AV) (h:z00) (K:AV->AV->Prop):Prop:=z3g o a (later (λv=>z0t none v h (later (K v) ())) ())
def qX (n:Nat) (a b:AV) (K:AV->Prop):Prop:=z0o (.slice n) a b (later K ())
def qY (k:Nat) (a b:AV) (h:z00) (K:AV->Prop):Prop:=z0o (.slice k) a b (later (λv=>z0t (some k) v h (later K ())) ())
def qZ (k:Nat) (a b:AV) (h:z00) (K:AV->Prop):Prop:=z0o (.slice k) a b (later (λv=>z0t none v h (later K ())) ())
def qB (op:BinOp) (a b:AV) (K:AV->Prop):Prop:=z8d (binA .other op a b) (later K ())
def qE (a b:AV) (K:AV->Prop):Prop:=z8d (binA .other .eql a b) (later K ())
def qC (op:BinOp) (a b:AV) (T F:Prop):Prop:=z8d (binA .other op a b) (later (λv=>zm7 v T F) ())
def qD (c:CmpK) (op:BinOp) (a b:AV) (K:AV->Prop):Prop:=z8d (binA c op a b) (later K ())
def qN (a:AV) (K:AV->Prop):Prop:=z8d (unA .not a) (later K ())
def qI (v:AV) (T F:Prop):Prop:=zm7 v T F
def qS (P:Program) (f:FuncId) (as:List AV) (h:z00) (K:AV->z00->Prop):Prop:=z01 P f as h (later K ())
def qJ (b:(List AV->z00->Prop)->Prop) (K:List AV->z00->Prop):Prop:=zma (later b ()) (later K ())
def qU (v:AV) (w:Bool) (n:Nat) (h:z00) (A:(List AV->z00->Prop)->Prop) (K:List AV->z00->Prop):Prop:=zma (later (λx=>zel v w (A x) (x (tu n) h)) ()) (later K ())
def qV (v:AV) (w:Bool) (n:Nat) (h:z00) (A:(List AV->z00->Prop)->Prop) (K:List AV->z00->Prop):Prop:=zma (later (λx=>z9f v w (A x) (x (tu n) h)) ()) (later K ())
def qP (v a b:AV) (K:AV->Prop):Prop:=zri v a b (later K ())
def qM (im:Bool) (t:TypeId) (a:AV) (h:z00) (K:AV->z00->Prop):Prop:=pBox im t a h (later K ())
def qA (t:TypeId) (z:List AV) (h:z00) (K:AV->z00->Prop):Prop:=zr5 t z h (later K ())
def qT (n:Nat) (a v:AV) (h:z00) (K:z00->Prop):Prop:=z14 n a v h (later K ())
def qO (a:AV) (K:AV->Prop):Prop:=pNil a (later K ())
def qn (a:AV) (K:AV->Prop):Prop:=pLen .slice a (later K ())
def q9 (k:LenK) (a:AV) (K:AV->Prop):Prop:=pLen k a (later K ())
def qx (i:Nat) (v:AV) (K:AV->Prop):Prop:=z6q i v (later K ())
def q6 (T:SlT) (z:List AV) (a b:AV) (h:z00) (K:AV->z00->Prop):Prop:=z6r T z a b h (later K ())
def q7 (g:Bool) (T:SlT) (a b:AV) (h:z00) (K:AV->z00->Prop):Prop:=z1x g T a b h (later K ())
def qR (h:z00) (K:AV->z00->Prop):Prop:=zgm h (later K ())
def qs (n:Nat) (x:AV) (a b:Option AV) (K:AV->Prop):Prop:=z4n n x a b (later K ())
def q8 (pl:List (Nat×Nat)) (z:List AV) (p:List (Nat×AV)) (K:AV->Prop):Prop:=z4b pl z p (later K ())
def qW (P:Program) (N:Nat) (c:Code) (l:List (Nat×AV)) (h:z00) (A:Fr->z00->Prop) (B:Nat->Fr->z00->Prop) (C:Fr->z00->Prop):Prop:=WP P N (.loop c) (frOf l) h (z7e (later A ()) (later B ()) (later C ()))
def qw (P:Program) (N:Nat) (c:Code) (l:List (Nat×AV)) (h:z00) (B:Nat->Fr->z00->Prop) (C:Fr->z00->Prop):Prop:=WP P N (.loop c) (frOf l) h (z7e (later (λ_ _=>False) ()) (later B ()) (later C ()))
def qQ (A:(Fr->z00->Prop)->Prop) (B:Fr->z00->Prop):Prop:=Cut (later A ()) (later B ())
def q1 (X:Prop):Prop:=true=true/\X
def q2 (X:Prop):Prop:=True/\X
def q3 (a v:AV) (h:z00):Prop:=z0t none a h (later (λw=>w=v/\h=h) ())
def q4 (k:Nat) (a v:AV) (h:z00):Prop:=z0t (some k) a h (later (λw=>w=v/\h=h) ())
def q5 (x:Nat) (A:Prop):Prop:=pIdx x 0 (pIdx 0 0 A False) False
theorem qr1:(∀ n,n6 n=.int .i64 n)/\(∀ n,n8 n=.int .u8 n)/\(∀ n,nU n=.int .u64 n)/\n0=.int .i64 0/\bT=.bool true/\bF=.bool false/\tu 0=[]/\(∀ n,tu (n+1)=.tup []::tu n)
 /\(∀ f r,kq f [] r=r)/\(∀ f k l r,kq f (k::l) r=(k,f k)::kq f l r):=⟨λ_=>rfl,λ_=>rfl,λ_=>rfl,rfl,rfl,rfl,rfl,λ_=>rfl,λ_ _=>rfl,λ_ _ _ _=>rfl⟩
theorem qF_ (o:Nat) (a:AV) (K:AV->Prop):qF o a K=z3g o a (later K ()):=rfl
theorem qL_ (a:AV) (h:z00) (K:AV->Prop):qL a h K=z0t none a h (later K ()):=rfl
theorem qK_ (k:Nat) (a:AV) (h:z00) (K:AV->Prop):qK k a h K=z0t (some k) a h (later K ()):=rfl
theorem qG_ (o:Nat) (a:AV) (h:z00) (K:AV->Prop):qG o a h K=z3g o a (later (λv=>z0t none v h (later K ())) ()):=rfl
theorem qH_ (o:Nat) (a:AV) (h:z00) (K:AV->AV->Prop):qH o a h K=z3g o a (later (λv=>z0t none v h (later (K v) ())) ()):=rfl
theorem qX_ (n:Nat) (a b:AV) (K:AV->Prop):qX n a b K=z0o (.slice n) a b (later K ()):=rfl
theorem qY_ (k:Nat) (a b:AV) (h:z00) (K:AV->Prop):qY k a b h K=z0o (.slice k) a b (later (λv=>z0t (some k) v h (later K ())) ()):=rfl
theorem qZ_ (k:Nat) (a b:AV) (h:z00) (K:AV->Prop):qZ k a b h K=z0o (.slice k) a b (later (λv=>z0t none v h (later K ())) ()):=rfl
theorem qB_ (op:BinOp) (a b:AV) (K:AV->Prop):qB op a b K=z8d (binA .other op a b) (later K ()):=rfl
theorem qE_ (a b:AV) (K:AV->Prop):qE a b K=z8d (binA .other .eql a b) (later K ()):=rfl
theorem qC_ (op:BinOp) (a b:AV) (T F:Prop):qC op a b T F=z8d (binA .other op a b) (later (λv=>zm7 v T F) ()):=rfl
theorem qD_ (c:CmpK) (op:BinOp) (a b:AV) (K:AV->Prop):qD c op a b K=z8d (binA c op a b) (later K ()):=rfl
theorem qN_ (a:AV) (K:AV->Prop):qN a K=z8d (unA .not a) (later K ()):=rfl
theorem qI_ (v:AV) (T F:Prop):qI v T F=zm7 v T F:=rfl
theorem qS_ (P:Program) (f:FuncId) (as:List AV) (h:z00) (K:AV->z00->Prop):qS P f as h K=z01 P f as h (later K ()):=rfl
theorem qJ_ (b:(List AV->z00->Prop)->Prop) (K:List AV->z00->Prop):qJ b K=zma (later b ()) (later K ()):=rfl
theorem qU_ (v:AV) (w:Bool) (n:Nat) (h:z00) (A:(List AV->z00->Prop)->Prop) (K:List AV->z00->Prop):qU v w n h A K=zma (later (λx=>zel v w (A x) (x (tu n) h)) ()) (later K ()):=rfl
theorem qV_ (v:AV) (w:Bool) (n:Nat) (h:z00) (A:(List AV->z00->Prop)->Prop) (K:List AV->z00->Prop):qV v w n h A K=zma (later (λx=>z9f v w (A x) (x (tu n) h)) ()) (later K ()):=rfl
theorem qP_ (v a b:AV) (K:AV->Prop):qP v a b K=zri v a b (later K ()):=rfl
theorem qM_ (im:Bool) (t:TypeId) (a:AV) (h:z00) (K:AV->z00->Prop):qM im t a h K=pBox im t a h (later K ()):=rfl
theorem qA_ (t:TypeId) (z:List AV) (h:z00) (K:AV->z00->Prop):qA t z h K=zr5 t z h (later K ()):=rfl
theorem qT_ (n:Nat) (a v:AV) (h:z00) (K:z00->Prop):qT n a v h K=z14 n a v h (later K ()):=rfl
theorem qO_ (a:AV) (K:AV->Prop):qO a K=pNil a (later K ()):=rfl
theorem qn_ (a:AV) (K:AV->Prop):qn a K=pLen .slice a (later K ()):=rfl
theorem q9_ (k:LenK) (a:AV) (K:AV->Prop):q9 k a K=pLen k a (later K ()):=rfl
theorem qx_ (i:Nat) (v:AV) (K:AV->Prop):qx i v K=z6q i v (later K ()):=rfl
theorem q6_ (T:SlT) (z:List AV) (a b:AV) (h:z00) (K:AV->z00->Prop):q6 T z a b h K=z6r T z a b h (later K ()):=rfl
theorem q7_ (g:Bool) (T:SlT) (a b:AV) (h:z00) (K:AV->z00->Prop):q7 g T a b h K=z1x g T a b h (later K ()):=rfl
theorem qR_ (h:z00) (K:AV->z00->Prop):qR h K=zgm h (later K ()):=rfl
theorem qs_ (n:Nat) (x:AV) (a b:Option AV) (K:AV->Prop):qs n x a b K=z4n n x a b (later K ()):=rfl
theorem q8_ (pl:List (Nat×Nat)) (z:List AV) (p:List (Nat×AV)) (K:AV->Prop):q8 pl z p K=z4b pl z p (later K ()):=rfl
theorem qW_ (P:Program) (N:Nat) (c:Code) (l:List (Nat×AV)) (h:z00) (A:Fr->z00->Prop) (B:Nat->Fr->z00->Prop) (C:Fr->z00->Prop):qW P N c l h A B C=WP P N (.loop c) (frOf l) h (z7e (later A ()) (later B ()) (later C ())):=rfl
theorem qw_ (P:Program) (N:Nat) (c:Code) (l:List (Nat×AV)) (h:z00) (B:Nat->Fr->z00->Prop) (C:Fr->z00->Prop):qw P N c l h B C=WP P N (.loop c) (frOf l) h (z7e (later (λ_ _=>False) ()) (later B ()) (later C ())):=rfl
theorem qQ_ (A:(Fr->z00->Prop)->Prop) (B:Fr->z00->Prop):qQ A B=Cut (later A ()) (later B ()):=rfl
theorem q1_ (X:Prop):q1 X=X:=by simp [q1]
theorem q2_ (X:Prop):q2 X=X:=by simp [q2]
theorem q3_ (a v:AV) (h:z00):q3 a v h=z0t none a h (later (λw=>w=v/\h=h) ()):=rfl
theorem q4_ (k:Nat) (a v:AV) (h:z00):q4 k a v h=z0t (some k) a h (later (λw=>w=v/\h=h) ()):=rfl
theorem q5_ (x:Nat) (A:Prop):q5 x A=pIdx x 0 (pIdx 0 0 A False) False:=rfl
theorem qr2:(type_of% @qF_)/\(type_of% @qL_)/\(type_of% @qK_)/\(type_of% @qG_)/\(type_of% @qH_)/\(type_of% @qX_)/\(type_of% @qY_)/\(type_of% @qZ_)/\(type_of% @qB_)/\(type_of% @qE_)/\(type_of% @qC_)/\(type_of% @qD_)/\(type_of% @qN_):=⟨@qF_,@qL_,@qK_,@qG_,@qH_,@qX_,@qY_,@qZ_,@qB_,@qE_,@qC_,@qD_,@qN_⟩
theorem qr3:(type_of% @qI_)/\(type_of% @qS_)/\(type_of% @qJ_)/\(type_of% @qU_)/\(type_of% @qV_)/\(type_of% @qP_)/\(type_of% @qM_)/\(type_of% @qA_)/\(type_of% @qT_)/\(type_of% @qO_)/\(type_of% @qn_)/\(type_of% @q9_)/\(type_of% @qx_):=⟨@qI_,@qS_,@qJ_,@qU_,@qV_,@qP_,@qM_,@qA_,@qT_,@qO_,@qn_,@q9_,@qx_⟩
theorem qr4:(type_of% @q6_)/\(type_of% @q7_)/\(type_of% @q8_)/\(type_of% @qW_)/\(type_of% @qw_)/\(type_of% @qQ_)/\(type_of% @q1_)/\(type_of% @q2_)/\(type_of% @q3_)/\(type_of% @q4_)/\(type_of% @q5_)/\(type_of% @qR_)/\(type_of% @qs_):=⟨@q6_,@q7_,@q8_,@qW_,@qw_,@qQ_,@q1_,@q2_,@q3_,@q4_,@q5_,@qR_,@qs_⟩
def mkG (ch:List Nat) (lv:List (Nat×List Nat)) (cut:List Nat) (rc:List (Nat×List (Nat×List Nat))):Cfg:=
 { ch:=λd=>List.contains ch d,lv:=λk=>(List.lookup k lv).getD [],cut:=λk=>List.contains cut k,rc:=λi n=>((List.lookup i rc).getD []).lookup n }
def zcn (fn:Func):Code:=fn.body.getD .skip
def okF (fn:Func) (N n:Nat):Bool:=fn.body.isSome&&codeOk N (zcn fn)&&Nat.ble n N
noncomputable def lpOf (k:Nat) (fn:Func):Code:=(zgd k (zcn fn)).getD .skip
theorem cI {P:Program} {N:Nat} {f:FuncId} {fn:Func} {args:List AV} {h:z00} {R:AV->z00->Prop} {H0:Prop} (cfg:Cfg) (hm:P.follows .mixedOrders=true) (hf:P.funcs[f]?=some fn) (hN:fn.ntmps=N)
  (hcall:∀ as w,(callFunc f as).run P w=.ok (.enter f as) w) (ho:okF fn N args.length=true)
  (e:wpc P N cfg [] (zcn fn) (λi=>(args[i]?).getD .und) h (z7e (λfr' h'=>resA P fn.results.toList fr' h' (resV λv=>R v h')) (λ_ _ _=>False) (λfr' h'=>resA P fn.results.toList fr' h' (resV λv=>R v h')))=H0) (H:H0):z01 P f args h R:=by
 unfold okF at ho;rw [Bool.and_eq_true,Bool.and_eq_true] at ho;obtain ⟨⟨h1,h2⟩,h3⟩:=ho;refine zps cfg hm hf (body:=zcn fn) ?_ hN h2 (Nat.le_of_ble_eq_true h3) hcall (e▸H);unfold zcn
 cases hb:fn.body with
 | none=>rw [hb] at h1;cases h1
 | some b=>rfl
end
section
open Go.RowKit
theorem gsl_isl (id sz:Nat) (es:List (List AV)) (hm:es.length<=1000000) (c:Ctx) (w:World) (v:Value) (h:VRel c w (.gsl id sz es) v):VRel c w (.isl sz es) v:=by
 simp only [VRel] at h ⊢;obtain ⟨b,cap,ty,h1,h2,h3,h4,h5,h6⟩:=h;exact ⟨_,cap,h2,h3,by omega,λ_=>⟨b,0,rfl,h6⟩⟩
theorem zmy {c:Ctx} {w:World} {b sz:Nat}:∀ (n:Nat) (cs:List AV) (off:Nat),n*sz<=cs.length->MRel c w cs b off->ERel c w sz (chunk sz n cs) b off
 | 0,cs,off,_,_=>by simp [chunk,ERel]
 | n+1,cs,off,hl,hm=>by
  rw [Nat.add_mul,Nat.one_mul] at hl;simp only [chunk,ERel];exact ⟨by simp;omega,hm.take sz,zmy n _ _ (by simp;omega) (hm.drop sz)⟩
end
section
open Go.RowKit
end
section
open Go.RowKit
mutual
def z1w (D:Nat->Prop):AV->Prop
 | .ptr id _=>D id
 | .iptr cs=>z7c D cs
 | .isl _ es=>z9x D es
 | .gsl id _ es=>D id/\z9x D es
 | .sl id _ _ _=>D id
 | .mapv id=>D id
 | .yld id=>D id
 | .fn _ a b=>z7c D a/\z7c D b
 | .ifc _ a=>z1w D a
 | .agg cs=>z7c D cs
 | .tup vs=>z7c D vs
 | _=>True
def z7c (D:Nat->Prop):List AV->Prop
 | []=>True
 | a::as=>z1w D a/\z7c D as
def z9x (D:Nat->Prop):List (List AV)->Prop
 | []=>True
 | e::es=>z7c D e/\z9x D es
end
section
variable {c c':Ctx} {w:World} {D:Nat->Prop}
mutual
theorem VRel.move (hm:∀ id,D id->c'.m id=c.m id) (him:∀ b o,c.im b o->c'.im b o):∀ {a:AV} {v:Value},z1w D a->VRel c w a v->VRel c' w a v
 | .und,_,_,_=>by simp [VRel]
 | .int ..,_,_,h=>by simpa [VRel] using h
 | .bool ..,_,_,h=>by simpa [VRel] using h
 | .unkb,_,_,h=>by simpa [VRel] using h
 | .str ..,_,_,h=>by simpa [VRel] using h
 | .flt ..,_,_,h=>by simpa [VRel] using h
 | .nilp,_,_,h=>by simpa [VRel] using h
 | .ptr id off,_,i,h=>by
  simp only [VRel,z1w] at h i ⊢;obtain ⟨b,h1,h2⟩:=h;exact ⟨b,by rw [hm _ i];exact h1,h2⟩
 | .iptr cs,_,i,h=>by
  simp only [VRel,z1w] at h i ⊢;obtain ⟨b,off,h1,h2⟩:=h;exact ⟨b,off,h1,MRel.move hm him i h2⟩
 | .nils,_,_,h=>by simpa [VRel] using h
 | .eml,_,_,h=>by simpa [VRel] using h
 | .isl sz es,_,i,h=>by
  simp only [VRel,z1w] at h i ⊢;obtain ⟨a,cap,h1,h2,h2b,h3⟩:=h;refine ⟨a,cap,h1,h2,h2b,λhne=>?_⟩;obtain ⟨b,off,h4,h5⟩:=h3 hne;exact ⟨b,off,h4,ERel.move hm him i h5⟩
 | .gsl id sz es,_,i,h=>by
  simp only [VRel,z1w] at h i ⊢;obtain ⟨b,cap,ty,h1,h2,h3,h4,h5,h6⟩:=h;exact ⟨b,cap,ty,by rw [hm _ i.1];exact h1,h2,h3,h4,h5,ERel.move hm him i.2 h6⟩
 | .sl ..,_,i,h=>by
  simp only [VRel,z1w] at h i ⊢;obtain ⟨b,cap,ty,h1,h2,h3,h4,h5⟩:=h;exact ⟨b,cap,ty,by rw [hm _ i];exact h1,h2,h3,h4,h5⟩
 | .nilm,_,_,h=>by simpa [VRel] using h
 | .mapv ..,_,i,h=>by
  simp only [VRel,z1w] at h i ⊢;obtain ⟨b,h1,h2⟩:=h;exact ⟨b,by rw [hm _ i];exact h1,h2⟩
 | .yld ..,_,i,h=>by
  simp only [VRel,z1w] at h i ⊢;obtain ⟨b,h1,h2⟩:=h;exact ⟨b,by rw [hm _ i];exact h1,h2⟩
 | .nilf,_,_,h=>by simpa [VRel] using h
 | .fn f first captured,_,i,h=>by
  simp only [VRel,z1w] at h i ⊢;obtain ⟨fs,cs,h1,h2,h3⟩:=h;exact ⟨fs,cs,h1,LRel.move hm him i.1 h2,LRel.move hm him i.2 h3⟩
 | .nili,_,_,h=>by simpa [VRel] using h
 | .ifc t a,_,i,h=>by
  simp only [VRel,z1w] at h i ⊢;obtain ⟨u,h1,h2⟩:=h;exact ⟨u,h1,VRel.move hm him i h2⟩
 | .agg cs,_,i,h=>by
  simp only [VRel,z1w] at h i ⊢;obtain ⟨vs,h1,h2,h3⟩:=h;exact ⟨vs,h1,LRel.move hm him i h2,h3⟩
 | .tup cs,_,i,h=>by
  simp only [VRel,z1w] at h i ⊢;obtain ⟨vs,h1,h2⟩:=h;exact ⟨vs,h1,LRel.move hm him i h2⟩
theorem LRel.move (hm:∀ id,D id->c'.m id=c.m id) (him:∀ b o,c.im b o->c'.im b o):∀ {as:List AV} {vs:List Value},z7c D as->LRel c w as vs->LRel c' w as vs
 | [],_,_,h=>by simpa [LRel] using h
 | a::as,_,i,h=>by
  simp only [LRel,z7c] at h i ⊢;obtain ⟨v,vs',h1,h2,h3⟩:=h;exact ⟨v,vs',h1,VRel.move hm him i.1 h2,LRel.move hm him i.2 h3⟩
theorem MRel.move (hm:∀ id,D id->c'.m id=c.m id) (him:∀ b o,c.im b o->c'.im b o):∀ {as:List AV} {b off:Nat},z7c D as->MRel c w as b off->MRel c' w as b off
 | [],_,_,_,_=>by simp [MRel]
 | a::as,b,off,i,h=>by
  simp only [MRel,z7c] at h i ⊢;obtain ⟨h1,⟨u,h2,h3,h4⟩,h5⟩:=h;exact ⟨him _ _ h1,⟨u,h2,h3,VRel.move hm him i.1 h4⟩,MRel.move hm him i.2 h5⟩
theorem ERel.move (hm:∀ id,D id->c'.m id=c.m id) (him:∀ b o,c.im b o->c'.im b o) {sz:Nat}:∀ {es:List (List AV)} {b off:Nat},z9x D es->ERel c w sz es b off->ERel c' w sz es b off
 | [],_,_,_,_=>by simp [ERel]
 | e::es,b,off,i,h=>by
  simp only [ERel,z9x] at h i ⊢;exact ⟨h.1,MRel.move hm him i.1 h.2.1,ERel.move hm him i.2 h.2.2⟩
end
mutual
theorem VRel.ids:∀ {a:AV} {v:Value},VRel c w a v->z1w (λid=>c.m id≠none) a
 | .und,_,_=>by simp [z1w]
 | .int ..,_,_=>by simp [z1w]
 | .bool ..,_,_=>by simp [z1w]
 | .unkb,_,_=>by simp [z1w]
 | .str ..,_,_=>by simp [z1w]
 | .flt ..,_,_=>by simp [z1w]
 | .nilp,_,_=>by simp [z1w]
 | .ptr ..,_,h=>by
  simp only [VRel,z1w] at h ⊢;obtain ⟨b,h1,-⟩:=h;rw [h1];simp
 | .iptr cs,_,h=>by
  simp only [VRel,z1w] at h ⊢;obtain ⟨b,off,h1,h2⟩:=h;exact MRel.ids h2
 | .yld ..,_,h=>by
  simp only [VRel,z1w] at h ⊢;obtain ⟨b,h1,-⟩:=h;rw [h1];simp
 | .nils,_,_=>by simp [z1w]
 | .eml,_,_=>by simp [z1w]
 | .isl sz [],_,h=>by simp [z1w,z9x]
 | .isl sz (e::es),_,h=>by
  simp only [VRel,z1w] at h ⊢;obtain ⟨a,cap,h1,h2,h2b,h3⟩:=h;obtain ⟨b,off,h4,h5⟩:=h3 (by simp);exact ERel.ids h5
 | .gsl ..,_,h=>by
  simp only [VRel,z1w] at h ⊢;obtain ⟨b,cap,ty,h1,h2,h3,h4,h5,h6⟩:=h;exact ⟨by rw [h1];simp,ERel.ids h6⟩
 | .sl ..,_,h=>by
  simp only [VRel,z1w] at h ⊢;obtain ⟨b,cap,ty,h1,-⟩:=h;rw [h1];simp
 | .nilm,_,_=>by simp [z1w]
 | .mapv ..,_,h=>by
  simp only [VRel,z1w] at h ⊢;obtain ⟨b,h1,-⟩:=h;rw [h1];simp
 | .nilf,_,_=>by simp [z1w]
 | .fn f first captured,_,h=>by
  simp only [VRel,z1w] at h ⊢;obtain ⟨fs,cs,h1,h2,h3⟩:=h;exact ⟨LRel.ids h2,LRel.ids h3⟩
 | .nili,_,_=>by simp [z1w]
 | .ifc t a,_,h=>by
  simp only [VRel,z1w] at h ⊢;obtain ⟨u,h1,h2⟩:=h;exact VRel.ids h2
 | .agg cs,_,h=>by
  simp only [VRel,z1w] at h ⊢;obtain ⟨vs,h1,h2,h3⟩:=h;exact LRel.ids h2
 | .tup cs,_,h=>by
  simp only [VRel,z1w] at h ⊢;obtain ⟨vs,h1,h2⟩:=h;exact LRel.ids h2
theorem LRel.ids:∀ {as:List AV} {vs:List Value},LRel c w as vs->z7c (λid=>c.m id≠none) as
 | [],_,_=>by simp [z7c]
 | a::as,_,h=>by
  simp only [LRel,z7c] at h ⊢;obtain ⟨v,vs',h1,h2,h3⟩:=h;exact ⟨VRel.ids h2,LRel.ids h3⟩
theorem MRel.ids:∀ {as:List AV} {b off:Nat},MRel c w as b off->z7c (λid=>c.m id≠none) as
 | [],_,_,_=>by simp [z7c]
 | a::as,b,off,h=>by
  simp only [MRel,z7c] at h ⊢;obtain ⟨h1,⟨u,h2,h3,h4⟩,h5⟩:=h;exact ⟨VRel.ids h4,MRel.ids h5⟩
theorem ERel.ids {sz:Nat}:∀ {es:List (List AV)} {b off:Nat},ERel c w sz es b off->z9x (λid=>c.m id≠none) es
 | [],_,_,_=>by simp [z9x]
 | e::es,b,off,h=>by
  simp only [ERel,z9x] at h ⊢;exact ⟨MRel.ids h.2.1,ERel.ids h.2.2⟩
end
end
theorem WRel.forget {B:Nat} {c c':Ctx} {h h':z00} {w w':World} (W:WRel B c h w) (E:Ext B c w c' w') (W':WRel B c' h' w') (K:Keeps h h' (λ_=>False)) {v:AV} {u:Value} (hv:z1w (λ_=>False) v) (V:VRel c' w' v u) :
  ∃ c2,Ext B c w c2 w'/\WRel B c2 h w'/\VRel c2 w' v u:=by
 refine ⟨⟨c.m,c'.im⟩,⟨⟨λid b hb=>hb,E.im,E.below,E.cells,E.shp⟩,E.oth⟩,⟨λid b hb=>⟨(W.mlt id b hb).1,(W'.mlt id b (E.m id b hb)).2⟩,λi j b hi hj ho1 ho2=>W.inj i j b hi hj ho1 ho2,λid b o hb ho=>?_,W'.im,W.fresh,W'.base,λg=>MRel.move (c:=c') (c':=⟨c.m,c'.im⟩) (D:=λid=>c.m id≠none) (λk hk=>by
   cases hk2:c.m k with
   | none=>exact absurd hk2 hk
   | some bk=>exact (E.m k bk hk2).symm) (λ_ _ h=>h) (W.gl g).ids (W'.gl g)⟩,?_⟩
 ·have hlt:=(W.mlt id b hb).1;have ho':h'.objs id=some o:=by rw [K.objs id hlt (by simp)];exact ho
  have R:=W'.obj id b o (E.m id b hb) ho'
  cases o with
  | tok ty n=>exact R
  | row ty cs=>
   obtain ⟨C,h1,h2,h3,h4,h5⟩:=R;refine ⟨C,h1,h2,?_,h4,h5⟩;obtain ⟨C0,-,-,g3,-⟩:=W.obj id b _ hb ho;refine LRel.move (c:=c') (c':=⟨c.m,c'.im⟩) (D:=λid=>c.m id≠none) (λk hk=>?_) (λ_ _ h=>h) g3.ids h3
   cases hk2:c.m k with
   | none=>exact absurd hk2 hk
   | some bk=>exact (E.m k bk hk2).symm
  | loop st pe N ps asn bd fr=>
   obtain ⟨L,h1,h2,h3,h4,h5,h6,h7,h8⟩:=R;obtain ⟨L0,-,-,-,-,-,-,-,g8⟩:=W.obj id b _ hb ho;refine ⟨L,h1,h2,h3,h4,h5,h6,h7,λi=>?_⟩;refine VRel.move (c:=c') (c':=⟨c.m,c'.im⟩) (D:=λid=>c.m id≠none) (λk hk=>?_) (λ_ _ h=>h) (g8 i).ids (h8 i)
   cases hk2:c.m k with
   | none=>exact absurd hk2 hk
   | some bk=>exact (E.m k bk hk2).symm
  | map ks vs=>
   obtain ⟨es,h1,h2,h3,h4⟩:=R;obtain ⟨es0,-,g2,g3,-⟩:=W.obj id b _ hb ho;have hk:∀ k,c.m k≠none->c.m k=c'.m k:=λk hk=>by
    cases hk2:c.m k with
    | none=>exact absurd hk2 hk
    | some bk=>exact (E.m k bk hk2).symm
   exact ⟨es,h1,LRel.move (c:=c') (c':=⟨c.m,c'.im⟩) (D:=λid=>c.m id≠none) hk (λ_ _ h=>h) g2.ids h2,LRel.move (c:=c') (c':=⟨c.m,c'.im⟩) (D:=λid=>c.m id≠none) hk (λ_ _ h=>h) g3.ids h3,h4⟩
 ·exact VRel.move (c:=c') (c':=⟨c.m,c'.im⟩) (D:=λ_=>False) (λ_ h=>h.elim) (λ_ _ h=>h) hv V
theorem z01.forget {P:Program} {f:FuncId} {args:List AV} {h:z00} {v0:AV} (hv:z1w (λ_=>False) v0) (H:z01 P f args h (λv h2=>v=v0/\Keeps h h2 (λ_=>False))):z01 P f args h (λv h2=>v=v0/\h2=h):=by
 rcases H with H | H
 ·refine Or.inl ⟨H.1,λB c w vs W L=>(H.2 B c w vs W L).mono λe w' ⟨c',u,v,h',a,E,W',V,q,K⟩=>?_⟩;subst q;obtain ⟨c2,E2,W2,V2⟩:=W.forget E W' K hv V;exact ⟨c2,u,v,h,a,E2,W2,V2,rfl,rfl⟩
 ·refine Or.inr λB c w vs W L=>?_;obtain ⟨c',u,v,h',w',a,E,W',V,q,K⟩:=H B c w vs W L;subst q;obtain ⟨c2,E2,W2,V2⟩:=W.forget E W' K hv V;exact ⟨c2,u,v,h,w',a,E2,W2,V2,rfl,rfl⟩
end
end Go.Abs
