/- Own texts, merged: AbsCode, AbsDraw, AbsFast, AbsWp, AbsSimp, AbsEntry, AbsBits, AbsMore, AbsRun, AbsTerse, AbsFlt, AbsDbl, AbsDblB. -/
import Derived.Test.YtjlogcfggfmacaaGreatM1
import Derived.Laws.FloatArith
import Derived.Laws.NewFold
import Derived.Orders
import Derived.ProofKit
import Derived.ChangeBears
set_option linter.unusedVariables false
set_option linter.unusedSimpArgs false
open Nat (reduceEqDiff reduceAdd reduceLeDiff)
set_option maxRecDepth 100000
set_option maxHeartbeats 4000000
namespace Go.Abs
section
open Go.RowKit
abbrev Fr:=Nat->AV
noncomputable def upd (fr:Fr) (d:Nat) (v:AV):Fr:=λi=>Bool.rec (fr i) v (Nat.beq i d)
noncomputable def updO (fr:Fr) (d:Option Nat) (v:AV):Fr:=Option.rec fr (λd=>upd fr d v) d
theorem upd_eq (fr:Fr) (d:Nat) (v:AV) (i:Nat):upd fr d v i=if i=d then v else fr i:=by
 unfold upd;by_cases h:i=d
 ·rw [if_pos h,show Nat.beq i d=true from by simp [h]]
 ·rw [if_neg h]
  cases hb:Nat.beq i d with
  | true=>exact absurd (Nat.eq_of_beq_eq_true hb) h
  | false=>rfl
@[simp] theorem zwd (fr:Fr) (d:Nat) (v:AV):updO fr (some d) v=upd fr d v:=rfl
@[simp] theorem updO_none (fr:Fr) (v:AV):updO fr none v=fr:=rfl
def aEv (fr:Fr):Operand->AV
 | .tmp t=>fr t
 | .const v=>zxk v
 | .func f=>.fn (.func f) [] []
 | .global g=>.iptr (Globs g)
def z4b (N:Nat) (ds:List Deferred) (c:Ctx) (w:World) (fr:Fr) (a:Act):Prop:=a.tmps.size=N/\a.defers=ds/\∀ i,VRel c w (fr i) (a.tmps.getD i undef)
inductive z1p | normal | exit (id:Nat) | ret
def z1p.toExit:z1p->Exit | .normal=>.normal | .exit id=>.exit id | .ret=>.ret
def mark (D:Nat):Deferred:={ target:=.collected D,args:=#[] }
structure Marks (w w':World) (Ds:List Nat):Prop where
 nd:Ds.Nodup
 all:∀ D∈Ds,w.heap.size<=D/\Dfr w' D
theorem Marks.nil (w w':World):Marks w w' []:=⟨List.nodup_nil,by simp⟩
theorem Dfr.lt {w:World} {b:Nat} (h:Dfr w b):b<w.heap.size:=(Array.getElem?_eq_some_iff.1 h).1
theorem Marks.more {w w' w'':World} {Ds Es:List Nat} (h:Marks w w' Ds) (k:Marks w' w'' Es) (hs:w.heap.size<=w'.heap.size) (ho:∀ b,Dfr w' b->Dfr w'' b):Marks w w'' (Es++Ds):=by
 refine ⟨List.nodup_append.2 ⟨k.nd,h.nd,λx hx y hy e=>?_⟩,λD hD=>?_⟩
 ·subst e;have h1:=(k.all _ hx).1;have h2:=(h.all _ hy).2.lt;omega
 ·rcases List.mem_append.1 hD with hD | hD
  ·exact ⟨Nat.le_trans hs (k.all D hD).1,(k.all D hD).2⟩
  ·exact ⟨(h.all D hD).1,ho D (h.all D hD).2⟩
def zwn (B N:Nat) (ds:List Deferred) (c:Ctx) (w:World) (Q:z1p->Fr->z00->Prop):Exit->Act->World->Prop:=λe a' w'=>
 ∃ Ds c' fr' h' ae,z1p.toExit ae=e/\Ext B c w c' w'/\WRel B c' h' w'/\z4b N (Ds.map mark++ds) c' w' fr' a'/\Marks w w' Ds/\Q ae fr' h'
def z5u (ro:Option Nat):Fence:={ Fence.wide with round:=ro }
theorem zjd {ro:Option Nat} {n:Nat} {P:Program} {f:FuncId} {args:Array Value} {w:World} {R:Ending->World->Prop}:CallsIn (z5u ro) n P f args w R↔Calls P f args w R:=callsIn_wide (n:=n) (P:=P) (f:=f) (args:=args) (w:=w) (R:=R)
def noRF:Code->Bool
 | .rangeFunc ..=>false
 | .seq a b=>noRF a&&noRF b
 | .cond _ a b=>noRF a&&noRF b
 | .block _ b=>noRF b
 | .loop b=>noRF b
 | .scope b=>noRF b
 | _=>true
def WP (P:Program) (N:Nat) (code:Code) (fr:Fr) (h:z00) (Q:z1p->Fr->z00->Prop):Prop:=
 ∀ ro ds B c w a,(ro=none\/noRF code=true)->WRel B c h w->z4b N ds c w fr a->code.wpIn (z5u ro) 0 P (zwn B N ds c w Q) a w
def zba (n:Fr->z00->Prop) (x:Nat->Fr->z00->Prop) (r:Fr->z00->Prop):z1p->Fr->z00->Prop:=λe fr h=>
 match e with
 | .normal=>n fr h
 | .exit id=>x id fr h
 | .ret=>r fr h
def CallsE (P:Program) (f:FuncId) (args:List AV) (h:z00) (R:AV->z00->Prop):Prop:=
 (∀ as w,(callFunc f as).run P w=.ok (.enter f as) w)/\
 ∀ B c w vs,WRel B c h w->LRel c w args vs->Calls P f vs.toArray w (λe w'=>∃ c' u v h',e=.returned u/\Ext B c w c' w'/\WRel B c' h' w'/\VRel c' w' v u/\R v h')
def ExtA (P:Program) (f:FuncId) (args:List AV) (h:z00) (R:AV->z00->Prop):Prop:=
 ∀ B c w vs,WRel B c h w->LRel c w args vs->∃ c' u v h' w',(callFunc f vs.toArray).run P w=.ok (.value u) w'/\Ext B c w c' w'/\WRel B c' h' w'/\VRel c' w' v u/\R v h'
def z01 (P:Program) (f:FuncId) (args:List AV) (h:z00) (R:AV->z00->Prop):Prop:=CallsE P f args h R\/ExtA P f args h R
theorem z01.mono {P:Program} {f:FuncId} {args:List AV} {h:z00} {R R':AV->z00->Prop} (H:z01 P f args h R) (hr:∀ v h',R v h'->R' v h'):z01 P f args h R':=by
 rcases H with H | H
 ·exact Or.inl ⟨H.1,λB c w vs W L=>(H.2 B c w vs W L).mono λe w' ⟨c',u,v,h',a,b,d,e',g⟩=>⟨c',u,v,h',a,b,d,e',hr _ _ g⟩⟩
 ·refine Or.inr λB c w vs W L=>?_;obtain ⟨c',u,v,h',w',a,b,d,e',g⟩:=H B c w vs W L;exact ⟨c',u,v,h',w',a,b,d,e',hr _ _ g⟩
noncomputable def setPs:List Tmp->List AV->Fr->Fr
 | p::ps,x::xs,fr=>setPs ps xs (upd fr p x)
 | _,_,fr=>fr
def zy9 (P:Program) (id:Nat) (args:List AV) (h:z00) (K:AV->z00->Prop):Prop:=
 ∃ N ps asn bd fr,h.objs id=some (.loop .ready none N ps asn bd fr)/\args.length=ps.size/\(ps.toList.all λp=>Nat.blt p N)=true/\noRF asn=true/\noRF bd=true/\
  WP P N asn (setPs ps.toList args fr) h (zba (λfr1 h1=>h1.objs id=some (.loop .ready none N ps asn bd fr)/\
   WP P N bd fr1 (h1.put id (.loop .busy none N ps asn bd fr)) (zba
    (λ_ h2=>h2.objs id=some (.loop .busy none N ps asn bd fr)/\K (.bool true) (h2.put id (.loop .ready none N ps asn bd fr)))
    (λe _ h2=>h2.objs id=some (.loop .busy none N ps asn bd fr)/\K (.bool false) (h2.put id (.loop .done (some (.exit e)) N ps asn bd fr)))
    (λ_ h2=>h2.objs id=some (.loop .busy none N ps asn bd fr)/\K (.bool false) (h2.put id (.loop .done (some .ret) N ps asn bd fr)))))
   (λ_ _ _=>False) (λ_ _=>False))
def zmc (P:Program) (f:AV) (args:List AV) (h:z00) (K:AV->z00->Prop):Prop:=
 match f with
 | .fn (.func g) first cap=>z01 P g (first++args++cap) h K
 | .yld id=>zy9 P id args h K
 | _=>False
def zvn (q x y:AV) (K:AV->Prop):Prop:=match q with | .bool t=>K (if t then x else y) | _=>False
def zi1 (v:AV) (want:Bool) (T F:Prop):Prop:=match v with | .bool b=>if b=want then T else F | .unkb=>T/\F | .tup []=>F | _=>False
def zq6 (body:(List AV->z00->Prop)->Prop) (k:List AV->z00->Prop):Prop:=body k
def nth (vs:List AV) (i:Nat):AV:=(vs[i]?).getD .und
def zgr (P:Program) (by_:Bool) (b:Builtin) (ts:List TypeId) (xs:List AV) (h:z00) (K:AV->z00->Prop):Prop:=
 match b,ts,xs with
 | .append,[t,u],[s,x]=>match slT P t with | some T=>srcT P u=true/\z0z by_ T s x h K | none=>False
 | .len,[t],[x]=>match lenK P t with | some k=>pLen k x (λv=>K v h) | none=>False
 | .max,_,xs=>z7s (maxA xs) (λv=>K v h)
 | .min,_,xs=>z7s (minA xs) (λv=>K v h)
 | _,_,_=>False
def isIface (P:Program) (t:TypeId):Bool:=match P.underlying t with | some (.interface _)=>true | some _=>false | none=>true
def wpOp (P:Program) (by_:Bool) (o:Op) (ev:Operand->AV) (h:z00) (K:AV->z00->Prop):Prop:=
 match o with
 | .move x=>K (ev x) h
 | .assign x=>K (ev x) h
 | .pick q x y=>zvn (ev q) (ev x) (ev y) (λv=>K v h)
 | .alloc t=>match znb P t with | some z=>zvb t z h K | none=>False
 | .box t x=>pBox by_ t (ev x) h K
 | .build t parts=>match zsv P t,znb P t with
  | some pl,some z=>z3w pl z (parts.toList.map λp=>(p.1,ev p.2)) (λv=>K v h)
  | _,_=>False
 | .buildSlice t len parts=>match slT P t with
  | some T=>match znb P T.e with
   | some z=>(len=0->parts.toList=[])/\z0j by_ T z len (parts.toList.map λp=>(p.1,ev p.2)) h K
   | none=>False
  | none=>False
 | .load t x=>match ldK P t with | some k=>z0r k (ev x) h (λv=>K v h) | none=>False
 | .store t a v=>match szK P t with | some n=>z1d n (ev a) (ev v) h (λh'=>K .und h') | none=>False
 | .nilCheck x=>pNil (ev x) (λv=>K v h)
 | .binOp op t x y _=>z7s (binA (cmpK P t) op (ev x) (ev y)) (λv=>K v h)
 | .unOp op _ x=>z7s (unA op (ev x)) (λv=>K v h)
 | .convert s d x=>match convK P s d with | some ck=>z1o ck (ev x) h (λv=>K v h) | none=>False
 | .makeSlice t l k=>match slT P t with
  | some T=>match znb P T.e with
   | some z=>z6v T z (ev l) (ev k) h K
   | none=>False
  | none=>False
 | .slice t x lo hi mx=>match mx with
  | some _=>False
  | none=>match P.underlying t with
   | some .string=>zcv (ev x) (lo.map ev) (hi.map ev) (λv=>K v h)
   | some (.slice e)=>match szK P e with | some n=>z7b n (ev x) (lo.map ev) (hi.map ev) (λv=>K v h) | none=>False
   | _=>False
 | .fieldAddr t x f=>match fadK P t f with | some off=>z3i off (ev x) (λv=>K v h) | none=>False
 | .field t x f=>match fldK P t f with | some (off,k)=>zki off k (ev x) (λv=>K v h) | none=>False
 | .indexAddr t x i=>match ixK P t with | some ik=>z0d ik (ev x) (ev i) (λv=>K v h) | none=>False
 | .index t x i=>match P.underlying t with | some .string=>zah (ev x) (ev i) (λv=>K v h) | _=>False
 | .extract x i=>z8p i (ev x) (λv=>K v h)
 | .makeFunc f first cap=>K (.fn f (first.toList.map ev) (cap.toList.map ev)) h
 | .makeInterface t x=>isIface P t=false/\K (.ifc t (ev x)) h
 | .makeMap _ r=>match r with | none=>znn h K | some _=>False
 | .lookup t m k ok=>match ok with | false=>zz9 (mapK P t) (ev m) (ev k) h (λv=>K v h) | true=>False
 | .mapEntry t m k=>zrc (mapK P t) (ev m) (ev k) h K
 | .entryStore _ m s v=>zir (ev m) (ev s) (ev v) h (λh'=>K .und h')
 | .mapUpdate t m k v=>zza (mapK P t) (ev m) (ev k) (ev v) h (λh'=>K .und h')
 | .call q=>match q.callee with
  | .builtin b=>zgr P by_ b q.argTypes.toList (q.args.toList.map ev) h K
  | .value (.func g)=>z01 P g (q.args.toList.map ev) h K
  | .value f=>zmc P (ev f) (q.args.toList.map ev) h K
  | _=>False
 | _=>False
def nanB:FloatKind->Nat->Prop
 | .f32,b=>∃ s f,s<2/\f<8388607/\b=s*2147483648+2139095040+1+f
 | .f64,b=>∃ s f,s<2/\f<4503599627370495/\b=s*9223372036854775808+9218868437227405312+1+f
def z81 (k:FloatKind) (op:BinOp) (x y:AV) (h:z00) (K:AV->z00->Prop):Prop:=
 match x,y with
 | .flt k1 a,.flt k2 b=>k1=k/\k2=k/\(match floatBits op k a b with | some r=>K (.flt k r) h | none=>∀ r,nanB k r->K (.flt k r) h)
 | _,_=>False
def arithOp:BinOp->Bool | .add | .sub | .mul | .quo=>true | _=>false
def fltK (P:Program) (t:TypeId):Option FloatKind:=match P.underlying t with | some (.float k)=>some k | _=>none
def wpOpF (P:Program) (by_:Bool) (o:Op) (ev:Operand->AV) (h:z00) (K:AV->z00->Prop):Prop:=
 match o with
 | .binOp op t x y t2=>match arithOp op with
  | true=>match fltK P t with
   | some k=>z81 k op (ev x) (ev y) h K
   | none=>wpOp P by_ (.binOp op t x y t2) ev h K
  | false=>wpOp P by_ (.binOp op t x y t2) ev h K
 | o=>wpOp P by_ o ev h K
def byO (ch:Nat->Bool) (d:Option Nat):Bool:=match d with | some d=>ch d | none=>false
def zkz:List Oper->List (Option (Nat×Bool)×List Oper)
 | []=>[]
 | o::r=>match o.guard,zkz r with
  | some g,(some g',l)::gs=>if g=g' then (some g,o::l)::gs else (some g,[o])::(some g',l)::gs
  | g,gs=>(g,[o])::gs
noncomputable def updN (fr:Fr):List Oper->Nat->List AV->Fr
 | [],_,_=>fr
 | o::l,n,vs=>updN (updO fr o.dst (nth vs n)) l (n+1) vs
def zwi (P:Program) (ch:Nat->Bool):List Oper->(List AV->z00->Prop)->Fr->z00->Prop
 | [],k,_,h=>k [] h
 | o::l,k,fr,h=>wpOpF P (byO ch o.dst) o.op (aEv fr) h (λv h'=>zwi P ch l (λvs h2=>k (v::vs) h2) (updO fr o.dst v) h')
def wpRun (P:Program) (ch:Nat->Bool) (Q:Fr->z00->Prop):List Oper->Fr->z00->Prop
 | [],fr,h=>Q fr h
 | o::l,fr,h=>wpOpF P (byO ch o.dst) o.op (aEv fr) h (λv h'=>wpRun P ch Q l (updO fr o.dst v) h')
def z7n (vs:List AV) (K:List AV->Prop):Prop:=K vs
noncomputable def frN:List Nat->Nat->List AV->Fr
 | [],_,_=>λ_=>.und
 | k::L,n,vs=>λi=>Bool.rec (frN L (n+1) vs i) (nth vs n) (Nat.beq i k)
def wpSp (o:Option (List Nat)) (fr:Fr) (K:Fr->Prop):Prop:=match o with | none=>K fr | some L=>z7n (L.map fr) (λvs=>K (frN L 0 vs))
theorem frN_spec (fr:Fr) (pre:List AV):∀ (L:List Nat) (i:Nat),frN L pre.length (pre++L.map fr) i=.und\/frN L pre.length (pre++L.map fr) i=fr i:=by
 intro L
 induction L generalizing pre with
 | nil=>intro i;exact Or.inl rfl
 | cons k L ih=>
  intro i;simp only [frN]
  cases hb:Nat.beq i k with
  | true=>
   have e:=Nat.eq_of_beq_eq_true hb;subst e
   right
   simp [nth]
  | false=>
   have:=ih (pre++[fr k]) i;simpa using this
def wpGs (P:Program) (ch:Nat->Bool) (ops:Array Oper) (sp:Nat->Option (List Nat)) (Q:Fr->z00->Prop):Nat->List (Option (Nat×Bool)×List Oper)->Fr->z00->Prop
 | _,[],fr,h=>Q fr h
 | n,(none,l)::gs,fr,h=>wpRun P ch (λfr' h'=>wpSp (sp n) fr' (λfr2=>wpGs P ch ops sp Q (n+1) gs fr2 h')) l fr h
 | n,(some (j,want),l)::gs,fr,h=>match (ops[j]?).bind (·.dst) with
  | some d=>match l.all (λo=>o.dst != some d) with
   | true=>zq6 (λk=>zi1 (fr d) want (zwi P ch l k fr h) (k (l.map λ_=>.tup []) h)) (λvs h'=>wpSp (sp n) (updN fr l 0 vs) (λfr2=>wpGs P ch ops sp Q (n+1) gs fr2 h'))
   | false=>False
  | none=>False
def wpOps (P:Program) (ch:Nat->Bool) (ops:Array Oper) (sp:Nat->Option (List Nat)) (Q:Fr->z00->Prop) (l:List Oper) (fr:Fr) (h:z00):Prop:=wpGs P ch ops sp Q 0 (zkz l) fr h
section
variable {P:Program} {B:Nat} {c:Ctx} {h:z00} {w:World} {ds:List Deferred}
theorem z4b.sp {N:Nat} {fr:Fr} {a:Act} (F:z4b N ds c w fr a) {o:Option (List Nat)} {K:Fr->Prop} (H:wpSp o fr K):∃ fr2,z4b N ds c w fr2 a/\K fr2:=by
 cases o with
 | none=>exact ⟨fr,F,H⟩
 | some L=>
  refine ⟨_,⟨F.1,F.2.1,λi=>?_⟩,H⟩;rcases frN_spec fr [] L i with e | e
  ·simp only [List.length_nil,List.nil_append] at e;rw [e];simp [VRel]
  ·simp only [List.length_nil,List.nil_append] at e;rw [e];exact F.2.2 i
theorem z4b.mono {N:Nat} {c':Ctx} {w':World} {fr:Fr} {a:Act} (F:z4b N ds c w fr a) (E:Ext B c w c' w'):z4b N ds c' w' fr a:=⟨F.1,F.2.1,λi=>VRel.mono E (F.2.2 i)⟩
theorem z4b.ev {N:Nat} {fr:Fr} {a:Act} (F:z4b N ds c w fr a) (G:GlR c w) (x:Operand):VRel c w (aEv fr x) (a.eval x):=by
 cases x with
 | tmp t=>exact F.2.2 t
 | const v=>exact zxl c w v
 | func f=>simp only [aEv,Act.eval,VRel];exact ⟨#[],#[],rfl,rfl,rfl⟩
 | global g=>simp only [aEv,Act.eval,VRel];exact ⟨g,0,rfl,G g⟩
theorem z4b.put {N:Nat} {fr:Fr} {a:Act} {d:Option Nat} {v:AV} {u:Value} (F:z4b N ds c w fr a) (hd:∀ k,d=some k->k<N) (hv:VRel c w v u):z4b N ds c w (updO fr d v) (a.put d u):=by
 cases d with
 | none=>exact F
 | some k=>
  have hk:=hd k rfl;refine ⟨by simpa [Act.put] using F.1,by simpa [Act.put] using F.2.1,λi=>?_⟩;simp only [zwd,upd_eq,Act.put];by_cases hi:i=k
  ·subst hi;rw [if_pos rfl];have:(a.tmps.setIfInBounds i u).getD i undef=u:=by
    rw [Array.getD_eq_getD_getElem?,Array.getElem?_setIfInBounds_self_of_lt (by rw [F.1];exact hk)];rfl
   rw [this];exact hv
  ·rw [if_neg hi];have:(a.tmps.setIfInBounds k u).getD i undef=a.tmps.getD i undef:=by
    rw [Array.getD_eq_getD_getElem?,Array.getD_eq_getD_getElem?,Array.getElem?_setIfInBounds_ne (Ne.symm hi)]
   rw [this];exact F.2.2 i
theorem z4b.list {N:Nat} {fr:Fr} {a:Act} (F:z4b N ds c w fr a) (G:GlR c w) (xs:List Operand):LRel c w (xs.map (aEv fr)) (xs.map a.eval):=by
 induction xs with
 | nil=>simp [LRel]
 | cons x xs ih=>simp only [List.map_cons,LRel];exact ⟨_,_,rfl,F.ev G x,ih⟩
theorem z4b.parts {N:Nat} {fr:Fr} {a:Act} (F:z4b N ds c w fr a) (G:GlR c w) (ps:List (Nat×Operand)):PRel c w (ps.map λp=>(p.1,aEv fr p.2)) (ps.map λp=>(p.1,a.eval p.2)):=by
 induction ps with
 | nil=>simp [PRel]
 | cons p ps ih=>simp only [List.map_cons,PRel];exact ⟨_,_,rfl,F.ev G p.2,ih⟩
theorem z4b.opt {N:Nat} {fr:Fr} {a:Act} (F:z4b N ds c w fr a) (G:GlR c w) (x:Option Operand):zwm c w (x.map (aEv fr)) (x.map a.eval):=by
 cases x with
 | none=>exact Or.inl ⟨rfl,rfl⟩
 | some x=>exact Or.inr ⟨_,_,rfl,rfl,F.ev G x⟩
def Then (B:Nat) (c:Ctx) (w:World) (a:Act) (d:Option Nat) (K:AV->z00->Prop) (next:Act->World->Prop):Prop:=
 ∀ c' v h' w' u,Ext B c w c' w'->WRel B c' h' w'->VRel c' w' v u->K v h'->next (a.put d u) w'
theorem zmk {o:Oper} {a:Act} {next:Act->World->Prop} {Q:Exit->Act->World->Prop} {ro:Option Nat} (hnd:∀ q,o.op≠.defer q) (h:o.uponIn (z5u ro) 0 P a next Q ((execOp a.eval o).run P w)):o.wpIn (z5u ro) 0 P a w next Q:=by
 refine ⟨λ_ _=>trivial,?_⟩;rw [Oper.semAt_eq _ _ _ hnd];exact h
theorem z1e {o:Oper} {a:Act} {K:AV->z00->Prop} {next:Act->World->Prop} {Q:Exit->Act->World->Prop} {s:Sem Value} {ro:Option Nat} (hnd:∀ q,o.op≠.defer q) (he:execOp a.eval o=(do pure (.value (← s)))) (D:Does P B c w s K) (hK:Then B c w a o.dst K next) :
  o.wpIn (z5u ro) 0 P a w next Q:=by
 obtain ⟨c',u,v,h',w',hr,E,W',hv,hk⟩:=D;refine zmk hnd ?_;rw [he];simp only [Sem.run_bind,hr,Result.andThen_ok,Sem.run_pure,Oper.uponIn];exact hK c' v h' w' u E W' hv hk
theorem zeh {o:Oper} {a:Act} {K:AV->z00->Prop} {next:Act->World->Prop} {Q:Exit->Act->World->Prop} {s:Sem Value} {ro:Option Nat} (hnd:∀ q,o.op≠.defer q) (he:(execOp a.eval o).run P w=(s.run P w).andThen λv w'=>.ok (.value v) w') (D:Does P B c w s K) (hK:Then B c w a o.dst K next) :
  o.wpIn (z5u ro) 0 P a w next Q:=by
 obtain ⟨c',u,v,h',w',hr,E,W',hv,hk⟩:=D;refine zmk hnd ?_;rw [he];simp only [hr,Result.andThen_ok,Oper.uponIn];exact hK c' v h' w' u E W' hv hk
theorem ztz {b o:Nat} {L:Loop} (hb:w.heap[b]?=some (.loop L)):w.cell? ⟨b,o,none⟩=none:=by
 simp [World.cell?,hb]
theorem WRel.putLoop (W:WRel B c h w) {id b N:Nat} {st:LoopState} {pe:Option Code} {ps:Array Tmp} {asn bd:Code} {fr:Fr} {L L':Loop} (hm:c.m id=some b) (ho:h.objs id=some (.loop st pe N ps asn bd fr)) (hL:w.heap[b]?=some (.loop L))
  (e1:L'.params=L.params) (e2:L'.assign=L.assign) (e3:L'.body=L.body) (e4:L'.tmps=L.tmps) {st':LoopState} {pe':Option Code} (e5:L'.state=st') (e6:L'.pending=pe') :
  Ext B c w c (w.putObj b (.loop L'))/\WRel B c (h.put id (.loop st' pe' N ps asn bd fr)) (w.putObj b (.loop L')):=by
 subst e5 e6;obtain ⟨L0,g1,g2,g3,g4,g5,g6,g7,g8⟩:=W.obj id b _ hm ho;rw [hL] at g1;simp only [Option.some.injEq,Obj.loop.injEq] at g1;subst g1;have hbl:=W.mlt id b hm;have hnew:(w.putObj b (.loop L')).heap[b]?=some (.loop L'):=World.putObj_heap_same hbl.2.2;have hold:∀ k,k≠b->(w.putObj b (.loop L')).heap[k]?=w.heap[k]?:=λk hk=>World.putObj_heap_other hk;have E:Ext B c w c (w.putObj b (.loop L')):=by
  refine ⟨⟨λ_ _ x=>x,λ_ _ x=>x,⟨rfl,rfl,rfl,by simp,λk hk=>hold k (by omega)⟩,λk o hk=>?_,λk ty n hs=>?_⟩,λk hk=>?_⟩
  ·by_cases e:k=b
   ·subst e;rw [ztz hL,ztz hnew]
   ·exact World.cell?_of_block (a:=⟨k,o,none⟩) (hold k e)
  ·obtain ⟨C,h1,h2⟩:=hs;have e:k≠b:=by rintro rfl;rw [hL] at h1;cases h1
   exact ⟨C,by rw [hold k e,h1],h2⟩
  ·have e:k≠b:=by rintro rfl;unfold Dfr at hk;rw [hL] at hk;cases hk
   unfold Dfr at hk ⊢;rw [hold k e,hk]
 refine ⟨E,⟨λi k hi=>?_,?_,?_,λk o hk=>?_,?_,?_,W.gl.mono E⟩⟩
 ·have:=W.mlt i k hi;exact ⟨this.1,this.2.1,by simpa using this.2.2⟩
 ·intro i j k hi hj h1 h2;refine W.inj i j k hi hj ?_ ?_
  ·simp only [z00.z1u] at h1;split at h1
   ·rename_i e;subst e;rw [ho];simp
   ·exact h1
  ·simp only [z00.z1u] at h2;split at h2
   ·rename_i e;subst e;rw [ho];simp
   ·exact h2
 ·intro i k o hi hio;simp only [z00.z1u] at hio;split at hio
  ·rename_i e;subst e;rw [hm] at hi;cases hi;cases hio;exact ⟨L',hnew,rfl,rfl,by rw [e1,g4],by rw [e2,g5],by rw [e3,g6],by rw [e4,g7],λi=>by rw [e4];exact VRel.mono E (g8 i)⟩
  ·rename_i e;have hne:k≠b:=by
    rintro rfl;exact e (W.inj i id k hi hm (by rw [hio];simp) (by rw [ho];simp))
   exact (W.obj i k o hi hio).keep E (hold k hne) (λ_ y=>y)
 ·have:=W.im k o hk;simpa using this
 ·intro i hi;simp only [z00.zsw] at hi;simp only [z00.z1u];split
  ·rename_i e;subst e;have:=(W.mlt i b hm).1;omega
  ·exact W.fresh i hi
 ·simpa using W.base
theorem zw9 {N:Nat}:∀ (ps:List Tmp) (args:List AV) (vs:List Value) (fr:Fr) (T:Array Value),(ps.all λp=>Nat.blt p N)=true->LRel c w args vs->args.length=ps.length->T.size=N->(∀ i,VRel c w (fr i) (T.getD i undef))->
  ((ps.zip vs).foldl (λt (p:Tmp×Value)=>t.setIfInBounds p.1 p.2) T).size=N/\∀ i,VRel c w (setPs ps args fr i) (((ps.zip vs).foldl (λt (p:Tmp×Value)=>t.setIfInBounds p.1 p.2) T).getD i undef)
 | [],args,vs,fr,T,_,_,hl,hs,hr=>by
  have:args=[]:=List.eq_nil_of_length_eq_zero (by simpa using hl);subst this;exact ⟨by simpa using hs,by simpa [setPs] using hr⟩
 | p::ps,[],vs,fr,T,_,_,hl,_,_=>by simp at hl
 | p::ps,x::xs,vs,fr,T,hp,hL,hl,hs,hr=>by
  simp only [LRel] at hL;obtain ⟨v,vs',rfl,hv,hL⟩:=hL;simp only [List.all_cons,Bool.and_eq_true] at hp;have hpN:p<N:=Nat.le_of_ble_eq_true hp.1;simp only [List.zip_cons_cons,List.foldl_cons,setPs];refine zw9 ps xs vs' (upd fr p x) (T.setIfInBounds p v) hp.2 hL (by simpa using hl) (by simpa using hs) λi=>?_;have:=z4b.put (N:=N) (ds:=[]) (fr:=fr) (a:=⟨T,[]⟩) (d:=some p) (v:=x) (u:=v) ⟨hs,rfl,hr⟩ (λk e=>by cases e;exact hpN) hv;exact this.2.2 i
theorem zy9.sound (W:WRel B c h w) {id b:Nat} {args:List AV} {vs:Array Value} {K:AV->z00->Prop} (hm:c.m id=some b) (hL:LRel c w args vs.toList) (H:zy9 P id args h K) :
  ∃ fn tmps asn bd,(Instr.yield b vs).run P w=.ok (.round b fn tmps asn bd) w/\RoundIn Fence.wide 0 P b fn tmps asn bd w (λe w'=>∃ c' u v h',e=.returned u/\Ext B c w c' w'/\WRel B c' h' w'/\VRel c' w' v u/\K v h'):=by
 obtain ⟨N,ps,asn,bd,fr,ho,hl,hp,hna,hnb,H⟩:=H;obtain ⟨L,g1,g2,g3,g4,g5,g6,g7,g8⟩:=W.obj id b _ hm ho;have hvl:=hL.length;have hsz:vs.size=L.params.size:=by rw [g4,<-hl,<-hvl];simp
 refine ⟨_,_,_,_,run_yield g1 hsz,roundIn_of_wpIn trivial ?_⟩;have hfold:(L.params.zip vs).foldl (λtmps (t,a)=>tmps.setIfInBounds t a) L.tmps=(ps.toList.zip vs.toList).foldl (λt (p:Tmp×Value)=>t.setIfInBounds p.1 p.2) L.tmps:=by
  rw [g4,<-Array.foldl_toList,Array.toList_zip]
 obtain ⟨r1,r2⟩:=zw9 (c:=c) (w:=w) ps.toList args vs.toList fr L.tmps hp hL (by simpa using hl) g7 g8;rw [hfold,g5,g6];refine wpIn_mono (H (some b) [] B c w _ (Or.inr hna) W ⟨r1,rfl,r2⟩) ?_;rintro e a1 w1 ⟨Ds,c1,fr1,h1,ae,rfl,E1,W1,F1,-,hq⟩
 cases ae with
 | exit id'=>exact hq.elim
 | ret=>exact hq.elim
 | normal=>
  obtain ⟨ho1,hb⟩:=hq;have hm1:=E1.m _ _ hm;obtain ⟨L1,k1,k2,k3,k4,k5,k6,k7,k8⟩:=W1.obj id b _ hm1 ho1;obtain ⟨E2,W2⟩:=W1.putLoop (L':={ L1 with state:=.busy }) hm1 ho1 k1 rfl rfl rfl rfl (st':=.busy) (pe':=none) rfl k3;refine ⟨_,run_beginRound k1 k2,?_⟩;have F2:=F1.mono E2;refine wpIn_mono (hb (some b) _ B c1 _ a1 (Or.inr hnb) W2 F2) ?_;rintro e a3 w3 ⟨Ds3,c3,fr3,h3,ae3,rfl,E3,W3,F3,-,hq⟩;have fin:∀ (jump:Option Code) (hk:h3.objs id=some (.loop .busy none N ps asn bd fr)) (K3:K (.bool jump.isNone) (h3.put id (.loop (if jump.isNone then .ready else .done) jump N ps asn bd fr))),
    ∃ v w',(Instr.endRound b jump).run P w3=.ok v w'/\∃ c' u v' h',Ending.returned v=.returned u/\Ext B c w c' w'/\WRel B c' h' w'/\VRel c' w' v' u/\K v' h':=by
   intro jump hk K3;have hm3:=E3.m _ _ hm1;obtain ⟨L3,j1,j2,j3,j4,j5,j6,j7,j8⟩:=W3.obj id b _ hm3 hk;obtain ⟨E4,W4⟩:=W3.putLoop (L':={ L3 with state:=if jump.isNone then .ready else .done,pending:=jump }) hm3 hk j1 rfl rfl rfl rfl rfl rfl;exact ⟨_,_,run_endRound jump j1,c3,_,.bool jump.isNone,_,rfl,((E1.trans E2).trans E3).trans E4,W4,by simp [VRel],K3⟩
  cases ae3 with
  | normal=>exact fin none hq.1 hq.2
  | exit id'=>exact fin (some (.exit id')) hq.1 hq.2
  | ret=>exact fin (some .ret) hq.1 hq.2
theorem zdk {N:Nat} {ro:Option Nat} {by_:Bool} {o:Oper} {fr:Fr} {a:Act} {K:AV->z00->Prop} {next:Act->World->Prop} {Q:Exit->Act->World->Prop} (W:WRel B c h w) (F:z4b N ds c w fr a)
  (H:wpOp P by_ o.op (aEv fr) h K) (hK:Then B c w a o.dst K next):o.wpIn (z5u ro) 0 P a w next Q:=by
 have hnd:∀ q,o.op≠.defer q:=by intro q e;rw [e] at H;exact H
 cases ho:o.op <;> rw [ho] at H <;> simp only [wpOp] at H <;> (try (exact H.elim))
 case move x=>
  refine z1e hnd (s:=pure (a.eval x)) (K:=K) (B:=B) (c:=c) ?_ (Does.z3a W (by simp) (F.ev W.gl x) H) hK;simp only [execOp,ho];rfl
 case assign x=>
  refine z1e hnd (s:=pure (a.eval x)) (K:=K) (B:=B) (c:=c) ?_ (Does.z3a W (by simp) (F.ev W.gl x) H) hK;simp only [execOp,ho];rfl
 case pick q x y=>
  unfold zvn at H;split at H
  ·rename_i t ht;have hq:=F.ev W.gl q;rw [ht] at hq;have hq':=hq.z8m;refine z1e hnd (s:=pure (if t then a.eval x else a.eval y)) (K:=K) (B:=B) (c:=c) ?_ (Does.z3a W rfl ?_ H) hK
   ·simp only [execOp,ho,hq',asBool];cases t <;> rfl
   ·cases t
    ·exact F.ev W.gl y
    ·exact F.ev W.gl x
  ·exact H.elim
 case alloc t=>
  split at H <;> (try (exact H.elim));rename_i z hz;exact z1e hnd (by simp only [execOp,ho]) (zvc W hz H) hK
 case box t x=>exact z1e hnd (by simp only [execOp,ho]) (pBox_sound W (F.ev W.gl x) H) hK
 case build t parts=>
  split at H <;> (try (exact H.elim));rename_i pl z hpl hz;exact z1e hnd (by simp only [execOp,ho]) (zve (vs:=parts.map λ(i,x)=>(i,a.eval x)) W hpl hz (by simpa using F.parts W.gl parts.toList) H) hK
 case buildSlice t len parts=>
  split at H <;> (try (exact H.elim));rename_i T hT;split at H <;> (try (exact H.elim));rename_i z hz;refine z1e hnd (by simp only [execOp,ho]) (zq2 (vs:=parts.map λ(i,x)=>(i,a.eval x)) W hT hz (λe=>?_) (by simpa using F.parts W.gl parts.toList) H.2) hK;have:=H.1 e;simp [this]
 case load t x=>
  split at H <;> (try (exact H.elim));rename_i k hk;exact z1e hnd (by simp only [execOp,ho]) (zxn W hk (F.ev W.gl x) H) hK
 case store t x y=>
  split at H <;> (try (exact H.elim));rename_i n hn;obtain ⟨c',h',w',hr,E,W',hk⟩:=zvp (P:=P) W hn (F.ev W.gl x) (F.ev W.gl y) H;refine zmk hnd ?_;have he:execOp a.eval o=(do Instr.storeAt t (a.eval x) (a.eval y);pure .skip):=by simp only [execOp,ho]
  rw [he];simp only [Sem.run_bind,hr,Result.andThen_ok,Sem.run_pure,Oper.uponIn];exact hK c' .und h' w' undef E W' (by simp [VRel]) hk
 case nilCheck x=>
  obtain ⟨hk,hu⟩:=pNil_sound W (F.ev W.gl x) H;refine z1e hnd (s:=pure (a.eval x)) (K:=K) (B:=B) (c:=c) ?_ (Does.z3a W (by simp) (F.ev W.gl x) hk) hK;rcases hu with ⟨b,hb⟩ | ⟨f,p,q,hb⟩ <;> simp only [execOp,ho,hb] <;> rfl
 case binOp op t x y t2=>
  cases hr:binA (cmpK P t) op (aEv fr x) (aEv fr y) with
  | none=>simp [hr] at H
  | some r=>
   simp only [hr,z1c] at H;obtain ⟨z,hz,hrz⟩:=binA_sound (xo:=x) (yo:=y) rfl (F.ev W.gl x) (F.ev W.gl y) hr;exact z1e hnd (by simp only [execOp,ho]) (Does.z3a W hz hrz H) hK
 case unOp op t x=>
  cases hr:unA op (aEv fr x) with
  | none=>simp [hr] at H
  | some r=>
   simp only [hr,z1c] at H;obtain ⟨z,hz,hrz⟩:=unA_sound (P:=P) (F.ev W.gl x) hr;exact z1e hnd (by simp only [execOp,ho]) (Does.z3a W hz hrz H) hK
 case convert s d x=>
  split at H <;> (try (exact H.elim));rename_i k hk;exact z1e hnd (by simp only [execOp,ho]) (zxm W hk (F.ev W.gl x) H) hK
 case makeSlice t l k=>
  split at H <;> (try (exact H.elim));rename_i T hT;split at H <;> (try (exact H.elim));rename_i z hz;exact z1e hnd (by simp only [execOp,ho]) (zss W hT hz (F.ev W.gl l) (F.ev W.gl k) H) hK
 case slice t x lo hi mx=>
  cases mx with
  | some m=>exact H.elim
  | none=>
   simp only at H;split at H <;> (try (exact H.elim))
   ·rename_i ht;exact z1e hnd (by simp only [execOp,ho,Option.map_none]) (zp3 W ht (F.ev W.gl x) (F.opt W.gl lo) (F.opt W.gl hi) H) hK
   ·rename_i e ht;split at H <;> (try (exact H.elim));rename_i n hn;exact z1e hnd (by simp only [execOp,ho,Option.map_none]) (zq8 W ht hn (F.ev W.gl x) (F.opt W.gl lo) (F.opt W.gl hi) H) hK
 case fieldAddr t x f=>
  split at H <;> (try (exact H.elim));rename_i off hoff;exact z1e hnd (by simp only [execOp,ho]) (zn5 W hoff (F.ev W.gl x) H) hK
 case field t x f=>
  split at H <;> (try (exact H.elim));rename_i off k hk;exact z1e hnd (by simp only [execOp,ho]) (zvi W hk (F.ev W.gl x) H) hK
 case indexAddr t x i=>
  split at H <;> (try (exact H.elim));rename_i k hk;exact z1e hnd (by simp only [execOp,ho]) (zn6 W hk (F.ev W.gl x) (F.ev W.gl i) H) hK
 case index t x i=>
  split at H <;> (try (exact H.elim));rename_i ht;exact z1e hnd (by simp only [execOp,ho]) (zoz W ht (F.ev W.gl x) (F.ev W.gl i) H) hK
 case extract x i=>exact z1e hnd (by simp only [execOp,ho]) (zq4 W (F.ev W.gl x) H) hK
 case makeFunc f first cap=>
  refine z1e hnd (s:=pure (.func f (first.map a.eval) (cap.map a.eval))) (K:=K) (B:=B) (c:=c) ?_ (Does.z3a W rfl ?_ H) hK
  ·simp only [execOp,ho,Instr.makeFunc]
  ·simp only [VRel];exact ⟨_,_,rfl,by simpa using F.list W.gl first.toList,by simpa using F.list W.gl cap.toList⟩
 case makeMap t r=>
  cases r with
  | some _=>exact H.elim
  | none=>exact z1e hnd (by simp only [execOp,ho,Option.map_none]) (zq7 (t:=t) W H) hK
 case lookup t m k ok=>
  cases ok <;> simp only at H <;> (try (exact H.elim));unfold zz9 at H;split at H <;> (try (exact H.elim));rename_i kz hkz;exact z1e hnd (by simp only [execOp,ho]) (zsr (P:=P) W (kk:=kz.1) (z:=kz.2) hkz (F.ev W.gl m) (F.ev W.gl k) H) hK
 case mapEntry t m k=>
  unfold zrc at H;split at H <;> (try (exact H.elim));rename_i kz hkz;exact z1e hnd (by simp only [execOp,ho]) (zp1 (P:=P) W (kk:=kz.1) (z:=kz.2) hkz (F.ev W.gl m) (F.ev W.gl k) H) hK
 case entryStore t m k v=>
  obtain ⟨c',h',w',hr,E,W',hk⟩:=zm0 (P:=P) (t:=t) W (F.ev W.gl m) (F.ev W.gl k) (F.ev W.gl v) H;refine zmk hnd ?_;have he:execOp a.eval o=(do Instr.entryStore t (a.eval m) (a.eval k) (a.eval v);pure .skip):=by simp only [execOp,ho]
  rw [he];simp only [Sem.run_bind,hr,Result.andThen_ok,Sem.run_pure,Oper.uponIn];exact hK c' .und h' w' undef E W' (by simp [VRel]) hk
 case mapUpdate t m k v=>
  unfold zza at H;split at H <;> (try (exact H.elim));rename_i kz hkz;obtain ⟨c',h',w',hr,E,W',hk⟩:=zst (P:=P) W (kk:=kz.1) (z:=kz.2) hkz (F.ev W.gl m) (F.ev W.gl k) (F.ev W.gl v) H;refine zmk hnd ?_;have he:execOp a.eval o=(do Instr.mapUpdate t (a.eval m) (a.eval k) (a.eval v);pure .skip):=by simp only [execOp,ho]
  rw [he];simp only [Sem.run_bind,hr,Result.andThen_ok,Sem.run_pure,Oper.uponIn];exact hK c' .und h' w' undef E W' (by simp [VRel]) hk
 case makeInterface t x=>
  obtain ⟨hi,H⟩:=H;unfold isIface at hi
  cases hd:P.underlying t with
  | none=>simp [hd] at hi
  | some d=>
   refine z1e hnd (s:=Instr.makeInterface t (a.eval x)) (K:=K) (B:=B) (c:=c) (by simp only [execOp,ho]) (Does.z3a W (u:=.iface t (a.eval x)) ?_ ?_ H) hK
   ·rw [hd] at hi;cases d <;> simp [Instr.makeInterface,run_underlying hd] <;> simp at hi
   ·simp only [VRel];exact ⟨_,rfl,F.ev W.gl x⟩
 case call q=>
  cases hq:q.callee with
  | invoke r m=>simp [hq] at H
  | builtin b=>
   simp only [hq] at H;have hargs:=F.list W.gl q.args.toList;unfold zgr at H;split at H <;> (try (exact H.elim))
   ·rename_i t u s x hts hxs;split at H <;> (try (exact H.elim));rename_i T hT;obtain ⟨hsrc,H⟩:=H;obtain ⟨so,xo,hso⟩:∃ so xo,q.args=#[so,xo]:=by
     have:q.args.toList.length=2:=by have:=congrArg List.length hxs;simpa using this
     match hh:q.args.toList,this with
     | [so,xo],_=>exact ⟨so,xo,by rw [<-Array.toArray_toList (xs:=q.args),hh]⟩
    have hta:q.argTypes=#[t,u]:=by rw [<-Array.toArray_toList (xs:=q.argTypes),hts]
    rw [hso] at hxs;simp at hxs;refine zeh hnd (s:=Builtin.append_ #[t,u] o.type #[a.eval so,a.eval xo]) (K:=K) (B:=B) (c:=c) ?_ (zsq W hT hsrc (hxs.1▸F.ev W.gl so) (hxs.2▸F.ev W.gl xo) H) hK;unfold execOp;simp only [ho,resolve,hq,hso,hta,invoke,builtin,Sem.run_bind,Sem.run_pure,Result.andThen_ok,List.map_toArray,List.map_cons,List.map_nil]
   ·rename_i t x hts hxs;split at H <;> (try (exact H.elim));rename_i k hk;obtain ⟨xo,hso⟩:∃ xo,q.args=#[xo]:=by
     have:q.args.toList.length=1:=by have:=congrArg List.length hxs;simpa using this
     match hh:q.args.toList,this with
     | [xo],_=>exact ⟨xo,by rw [<-Array.toArray_toList (xs:=q.args),hh]⟩
    have hta:q.argTypes=#[t]:=by rw [<-Array.toArray_toList (xs:=q.argTypes),hts]
    rw [hso] at hxs;simp at hxs;refine zeh hnd (s:=Builtin.len_ #[t] o.type #[a.eval xo]) (K:=K) (B:=B) (c:=c) ?_ (pLen_sound W hk (hxs▸F.ev W.gl xo) H) hK;unfold execOp;simp only [ho,resolve,hq,hso,hta,invoke,builtin,Sem.run_bind,Sem.run_pure,Result.andThen_ok,List.map_toArray,List.map_cons,List.map_nil]
   ·cases hr:maxA (q.args.toList.map (aEv fr)) with
    | none=>simp [hr] at H
    | some r=>
     simp only [hr,z1c] at H;obtain ⟨z,hz,hrz⟩:=maxA_sound (P:=P) _ _ r q.argTypes o.type hargs hr;have:(q.args.toList.map a.eval).toArray=q.args.map a.eval:=by apply Array.ext';simp
     rw [this] at hz;refine zeh hnd (s:=Builtin.max_ q.argTypes o.type (q.args.map a.eval)) (K:=K) (B:=B) (c:=c) ?_ (Does.z3a W hz hrz H) hK;unfold execOp;simp only [ho,resolve,hq,invoke,builtin,Sem.run_bind,Sem.run_pure,Result.andThen_ok]
   ·cases hr:minA (q.args.toList.map (aEv fr)) with
    | none=>simp [hr] at H
    | some r=>
     simp only [hr,z1c] at H;obtain ⟨z,hz,hrz⟩:=minA_sound (P:=P) _ _ r q.argTypes o.type hargs hr;have:(q.args.toList.map a.eval).toArray=q.args.map a.eval:=by apply Array.ext';simp
     rw [this] at hz;refine zeh hnd (s:=Builtin.min_ q.argTypes o.type (q.args.map a.eval)) (K:=K) (B:=B) (c:=c) ?_ (Does.z3a W hz hrz H) hK;unfold execOp;simp only [ho,resolve,hq,invoke,builtin,Sem.run_bind,Sem.run_pure,Result.andThen_ok]
  | value f=>
   have main:∀ (g:FuncId) (first cap:List AV),VRel c w (.fn (.func g) first cap) (a.eval f)->z01 P g (first++q.args.toList.map (aEv fr)++cap) h K->o.wpIn (z5u ro) 0 P a w next Q:=by
    intro g first cap hfv H;simp only [VRel] at hfv;obtain ⟨fs,cs,hfe,hfirst,hcap⟩:=hfv;have hargs:=F.list W.gl q.args.toList;rcases H with H | H
    case inr=>
     obtain ⟨c',u,v,h',w',hr,E,W',hv,hk⟩:=H B c w (fs.toList++q.args.toList.map a.eval++cs.toList) W ((hfirst.append hargs).append hcap);have hta:(fs.toList++q.args.toList.map a.eval++cs.toList).toArray=fs++q.args.map a.eval++cs:=by
      apply Array.ext';simp
     rw [hta] at hr;have he:(execOp a.eval o).run P w=.ok (.value u) w':=by
      simp only [execOp,ho,resolve,hq,hfe,Deferred.ofValue,Sem.run_bind,Sem.run_pure,Result.andThen_ok,invoke];exact hr
     refine zmk hnd ?_;rw [he];simp only [Oper.uponIn];exact hK c' v h' w' u E W' hv hk
    obtain ⟨hcall,H⟩:=H;have HC:=H B c w (fs.toList++q.args.toList.map a.eval++cs.toList) W ((hfirst.append hargs).append hcap);have he:(execOp a.eval o).run P w=.ok (.enter g (fs++q.args.map a.eval++cs)) w:=by
     simp only [execOp,ho,resolve,hq,hfe,Deferred.ofValue,Sem.run_bind,Sem.run_pure,Result.andThen_ok,invoke];exact hcall _ _
    refine zmk hnd ?_;rw [he];simp only [Oper.uponIn];refine ⟨by simp [z5u,Fence.wide],?_⟩;have hta:(fs.toList++q.args.toList.map a.eval++cs.toList).toArray=fs++q.args.map a.eval++cs:=by
     apply Array.ext';simp
    rw [hta] at HC;refine CallsIn.mono (zjd.2 HC) ?_;rintro e w' ⟨c',u,v,h',rfl,E,W',hv,hk⟩;exact hK c' v h' w' u E W' hv hk
   have viaF:zmc P (aEv fr f) (q.args.toList.map (aEv fr)) h K->o.wpIn (z5u ro) 0 P a w next Q:=by
    intro H;unfold zmc at H;split at H <;> (try (exact H.elim))
    ·rename_i g first cap hf;exact main g first cap (hf▸F.ev W.gl f) H
    ·rename_i id hf;have hv:=F.ev W.gl f;rw [hf] at hv;simp only [VRel] at hv;obtain ⟨b,hm,hfe⟩:=hv;obtain ⟨fn,tmps,asn,bd,hy,hR⟩:=zy9.sound (P:=P) (vs:=q.args.map a.eval) W hm (by simpa using F.list W.gl q.args.toList) H;have he:(execOp a.eval o).run P w=.ok (.round b fn tmps asn bd) w:=by
      simp only [execOp,ho,resolve,hq,hfe,Deferred.ofValue,Sem.run_bind,Sem.run_pure,Result.andThen_ok,invoke,callFunc];simpa using hy
     refine zmk hnd ?_;rw [he];simp only [Oper.uponIn];refine ⟨by simp [z5u,Fence.wide],RoundIn.mono (show RoundIn (z5u ro) 0 P b fn tmps asn bd w _ from hR) ?_⟩;rintro e w' ⟨c',u,v,h',rfl,E,W',hv,hk⟩;exact hK c' v h' w' u E W' hv hk
   cases f with
   | func g=>
    simp only [hq] at H;exact main g [] [] (F.ev W.gl (.func g)) (by simpa using H)
   | tmp t=>simp only [hq] at H;exact viaF H
   | const v=>simp only [hq] at H;exact viaF H
   | global v=>simp only [hq] at H;exact viaF H
theorem nanB_of (k:FloatKind) (a b t:Nat):nanB k ((Question.nanBits k a b).cut t):=by
 cases k
 ·exact ⟨t%2,(t/2)%(2 ^ 23-1),Nat.mod_lt _ (by omega),Nat.mod_lt _ (by decide),rfl⟩
 ·exact ⟨t%2,(t/2)%(2 ^ 52-1),Nat.mod_lt _ (by omega),Nat.mod_lt _ (by decide),rfl⟩
theorem zpl {N:Nat} {ro:Option Nat} {by_:Bool} {o:Oper} {fr:Fr} {a:Act} {K:AV->z00->Prop} {next:Act->World->Prop} {Q:Exit->Act->World->Prop} (W:WRel B c h w) (F:z4b N ds c w fr a)
  (H:wpOpF P by_ o.op (aEv fr) h K) (hK:Then B c w a o.dst K next):o.wpIn (z5u ro) 0 P a w next Q:=by
 have hnd:∀ q,o.op≠.defer q:=by intro q e;rw [e] at H;exact H
 unfold wpOpF at H;split at H
 ·rename_i op t x y t2 ho;split at H
  ·rename_i har;split at H
   ·rename_i k hk;have hx:=F.ev W.gl x;have hy:=F.ev W.gl y;unfold z81 at H;split at H <;> (try (exact H.elim));rename_i k1 a1 k2 b1 hxe hye;rw [hxe] at hx;rw [hye] at hy;simp only [VRel] at hx hy;obtain ⟨rfl,h2,H⟩:=H;subst h2;have hg:=zgc (P:=P) (w:=w) op t x y (.float k2 a1) (.float k2 b1) (by simp) (by simp);have he:execOp a.eval o=(do pure (.value (← (do eqGuard op t x y (a.eval x) (a.eval y);binOp op t (a.eval x) (a.eval y):Sem Value)))):=by
     simp only [execOp,ho]
    refine z1e hnd (K:=K) (B:=B) (c:=c) he ?_ hK;rw [hx,hy];split at H
    ·rename_i r hr;refine Does.z3a W (u:=.float k2 r) ?_ ?_ H
     ·rw [Sem.run_bind,hg];exact run_float_arith w op t k2 a1 b1 r hr
     ·simp [VRel]
    ·rename_i hr;have hn:=nanB_of k2 a1 b1 (w.tape w.drawn (.nanBits k2 a1 b1));refine ⟨c,.float k2 ((Question.nanBits k2 a1 b1).cut (w.tape w.drawn (.nanBits k2 a1 b1))),.flt k2 ((Question.nanBits k2 a1 b1).cut (w.tape w.drawn (.nanBits k2 a1 b1))),h,w.drew,?_,Ext.drew B c w,W.drew,by simp [VRel],H _ hn⟩;rw [Sem.run_bind,hg];have hb:(binOp op t (.float k2 a1) (.float k2 b1)).run P w=((choose (.nanBits k2 a1 b1)).run P w).andThen λn w'=>.ok (.float k2 n) w':=by
      cases op <;> simp only [arithOp,Bool.false_eq_true] at har <;> simp only [floatBits] at hr <;> simp [binOp,Op.floatArith,hr]
     simp only [Result.andThen_ok,hb];rw [run_choose_drew];simp [Question.forced]
   ·exact zdk (by_:=by_) W F (by rw [ho];exact H) hK
  ·exact zdk (by_:=by_) W F (by rw [ho];exact H) hK
 ·exact zdk W F H hK
end
end
section
open Go.RowKit
def zp5 (by_:Bool):Op->Bool
 | .move _ | .assign _ | .pick _ _ _ | .build _ _ | .load _ _ | .nilCheck _ | .binOp _ _ _ _ _ | .unOp _ _ _ | .convert _ _ _ | .slice _ _ _ _ _ | .fieldAddr _ _ _ | .field _ _ _ | .indexAddr _ _ _ | .index _ _ _ | .extract _ _ | .makeFunc _ _ _ | .makeInterface _ _=>true
 | .box _ _=>by_
 | .buildSlice _ len _=>by_||len == 0
 | .call q=>match q.callee with | .builtin .len | .builtin .max | .builtin .min=>true | _=>false
 | _=>false
def memOp:Op->Bool
 | .load _ _ | .convert _ _ _=>true
 | _=>false
section
variable {P:Program} {h h':z00}
theorem zlz {k:Option Nat} {cs:List AV} {off:Nat} {K:AV->Prop} (H:z04 k cs off K):∃ v,K v/\∀ K':AV->Prop,K' v->z04 k cs off K':=by
 unfold z04 at H ⊢
 cases k with
 | none=>
  cases hv:cs[off]? with
  | none=>simp [hv] at H
  | some v=>simp only [hv] at H;exact ⟨v,H,λK' hk=>by simpa using hk⟩
 | some n=>exact ⟨_,H.2,λK' hk=>⟨H.1,hk⟩⟩
theorem pLoad_det {k:Option Nat} {x:AV} {K:AV->Prop} (H:z0r k x h K):∃ v,K v/\∀ K':AV->Prop,K' v->z0r k x h K':=by
 unfold z0r at H ⊢;cases x <;> simp only at H ⊢ <;> (try (exact H.elim))
 ·rename_i id off
  cases ho:h.objs id with
  | none=>simp [ho] at H
  | some o=>cases o <;> simp only [ho] at H ⊢ <;> first | exact H.elim | exact zlz H
 ·exact zlz H
theorem pConv_det {ck:CvK} {x:AV} {K:AV->Prop} (H:z1o ck x h K):∃ v,K v/\∀ K':AV->Prop,K' v->z1o ck x h K':=by
 cases ck with
 | int k=>cases x <;> simp only [z1o] at H ⊢ <;> first | exact H.elim | exact ⟨_,H,λ_ hk=>hk⟩
 | same=>cases x <;> simp only [z1o] at H ⊢ <;> first | exact H.elim | exact ⟨_,H,λ_ hk=>hk⟩
 | i2f k=>cases x <;> simp only [z1o] at H ⊢ <;> first | exact H.elim | exact ⟨_,H,λ_ hk=>hk⟩
 | f2i k=>
  cases x <;> simp only [z1o] at H ⊢ <;> (try (exact H.elim));rename_i s b
  cases hf:floatToIntVal s b k with
  | none=>simp [hf] at H
  | some n=>simp only [hf] at H ⊢;exact ⟨_,H,λ_ hk=>hk⟩
 | bytesStr n=>
  have main:(match z10 n x h with | some es=>(match bytesOf es with | some s=>K (.str s) | none=>False) | none=>False)->∃ v,K v/\∀ K':AV->Prop,K' v->(match z10 n x h with | some es=>(match bytesOf es with | some s=>K' (.str s) | none=>False) | none=>False):=by
   intro H
   cases hs:z10 n x h with
   | none=>simp [hs] at H
   | some es=>
    cases hb:bytesOf es with
    | none=>simp [hs,hb] at H
    | some s=>simp only [hs,hb] at H;exact ⟨_,H,λK' hk=>by simpa [hs,hb] using hk⟩
  cases x <;> first | exact H.elim | exact main H
theorem zsu {x:AV} {lo hi:Option AV} {K:AV->Prop} (H:zcv x lo hi K):∃ v,K v/\∀ K':AV->Prop,K' v->zcv x lo hi K':=by
 unfold zcv at H ⊢;cases x <;> simp only at H ⊢ <;> (try (exact H.elim));rename_i s;cases h1:bnd 0 lo <;> cases h2:bnd s.length hi <;> simp only [h1,h2] at H ⊢ <;> first | exact H.elim | exact ⟨_,H.2.2.2,λK' hk=>⟨H.1,H.2.1,H.2.2.1,hk⟩⟩
theorem zvo {n:Nat} {x:AV} {lo hi:Option AV} {K:AV->Prop} (H:z7b n x lo hi K):∃ v,K v/\∀ K':AV->Prop,K' v->z7b n x lo hi K':=by
 unfold z7b at H ⊢;cases x <;> simp only at H ⊢ <;> (try (exact H.elim))
 ·cases h1:bnd 0 lo <;> cases h2:bnd 0 hi <;> simp only [h1,h2] at H ⊢ <;> first | exact H.elim | exact ⟨_,H.2.2,λK' hk=>⟨H.1,H.2.1,hk⟩⟩
 ·cases h1:bnd 0 lo <;> cases h2:bnd 0 hi <;> simp only [h1,h2] at H ⊢ <;> first | exact H.elim | exact ⟨_,H.2.2,λK' hk=>⟨H.1,H.2.1,hk⟩⟩
 ·rename_i sz es;cases h1:bnd 0 lo <;> cases h2:bnd es.length hi <;> simp only [h1,h2] at H ⊢ <;> first | exact H.elim | exact ⟨_,H.2.2.2.2,λK' hk=>⟨H.1,H.2.1,H.2.2.1,H.2.2.2.1,hk⟩⟩
 ·rename_i id sz es;cases h1:bnd 0 lo <;> cases h2:bnd es.length hi <;> simp only [h1,h2] at H ⊢ <;> first | exact H.elim | exact ⟨_,H.2.2.2.2,λK' hk=>⟨H.1,H.2.1,H.2.2.1,H.2.2.2.1,hk⟩⟩
 ·rename_i id off len sz;cases h1:bnd 0 lo <;> cases h2:bnd len hi <;> simp only [h1,h2] at H ⊢ <;> (try (exact H.elim));obtain ⟨g1,g2,g3,g4,H⟩:=H;split at H
  ·rename_i e;exact ⟨_,H,λK' hk=>⟨g1,g2,g3,g4,by rw [if_pos e];exact hk⟩⟩
  ·split at H
   ·rename_i e1 e2;exact ⟨_,H,λK' hk=>⟨g1,g2,g3,g4,by rw [if_neg e1,if_pos e2];exact hk⟩⟩
   ·rename_i e1 e2;exact ⟨_,H,λK' hk=>⟨g1,g2,g3,g4,by rw [if_neg e1,if_neg e2];exact hk⟩⟩
theorem zq5 {ik:IxK} {x i:AV} {K:AV->Prop} (H:z0d ik x i K):∃ v,K v/\∀ K':AV->Prop,K' v->z0d ik x i K':=by
 unfold z0d at H ⊢;cases ik <;> cases x <;> (try (exact H.elim)) <;> cases i <;> (try (exact H.elim)) <;> (try simp only at H ⊢)
 ·rename_i n sz es k q
  cases he:es[q.toNat]? with
  | none=>simp [he] at H
  | some e=>simp only [he] at H ⊢;exact ⟨_,H.2.2,λK' hk=>⟨H.1,H.2.1,hk⟩⟩
 ·rename_i n id sz es k q
  cases he:es[q.toNat]? with
  | none=>simp [he] at H
  | some e=>simp only [he] at H ⊢;exact ⟨_,H.2.2,λK' hk=>⟨H.1,H.2.1,hk⟩⟩
 ·exact ⟨_,H.2.2.2,λK' hk=>⟨H.1,H.2.1,H.2.2.1,hk⟩⟩
 ·exact ⟨_,H.2.2,λK' hk=>⟨H.1,H.2.1,hk⟩⟩
 ·exact ⟨_,H.2.2,λK' hk=>⟨H.1,H.2.1,hk⟩⟩
theorem pLen_det {k:LenK} {x:AV} {K:AV->Prop} (H:pLen k x K):∃ v,K v/\∀ K':AV->Prop,K' v->pLen k x K':=by
 unfold pLen at H ⊢;cases k <;> cases x <;> simp only at H ⊢ <;> first | exact H.elim | exact ⟨_,H,λ_ hk=>hk⟩
theorem zkb {o:Option AV} {K:AV->Prop} (H:z7s o K):∃ v,K v/\∀ K':AV->Prop,K' v->z7s o K':=by
 cases o with
 | none=>exact H.elim
 | some v=>exact ⟨v,H,λ_ hk=>hk⟩
theorem zvu {by_:Bool} {o:Op} {ev:Operand->AV} {K:AV->z00->Prop} (hq:zp5 by_ o=true) (H:wpOp P by_ o ev h K):∃ v,K v h/\(∀ K':AV->z00->Prop,K' v h->wpOp P by_ o ev h K')/\(memOp o=false->∀ (h':z00) (K':AV->z00->Prop),K' v h'->wpOp P by_ o ev h' K'):=by
 cases o <;> simp only [zp5,Bool.false_eq_true] at hq <;> simp only [wpOp] at H ⊢
 case move x=>exact ⟨_,H,λ_ hk=>hk,λ_ _ _ hk=>hk⟩
 case assign x=>exact ⟨_,H,λ_ hk=>hk,λ_ _ _ hk=>hk⟩
 case pick q x y=>
  unfold zvn at H ⊢;cases hc:ev q <;> simp only [hc] at H ⊢ <;> first | exact H.elim | exact ⟨_,H,λ_ hk=>hk,λ_ _ _ hk=>hk⟩
 case box t x=>
  subst hq;simp only [pBox,if_true] at H ⊢;exact ⟨_,H.2,λ_ hk=>⟨H.1,hk⟩,λ_ _ _ hk=>⟨H.1,hk⟩⟩
 case build t parts=>
  cases h1:zsv P t <;> cases h2:znb P t <;> simp only [h1,h2] at H ⊢ <;> (try (exact H.elim));unfold z3w at H ⊢;rename_i pl z
  cases hf:zcj (pl[·]?) z (List.map (λp=>(p.fst,ev p.snd)) parts.toList) with
  | none=>simp [hf] at H
  | some cs=>simp only [hf] at H ⊢;exact ⟨_,H,λ_ hk=>hk,λ_ _ _ hk=>hk⟩
 case buildSlice t len parts=>
  cases h1:slT P t with
  | none=>simp [h1] at H
  | some T=>
   simp only [h1] at H ⊢
   cases h2:znb P T.e with
   | none=>simp [h2] at H
   | some z=>
    simp only [h2] at H ⊢;obtain ⟨H1,H⟩:=H
    cases len with
    | zero=>simp only [z0j] at H ⊢;exact ⟨_,H,λ_ hk=>⟨λ_=>H1 rfl,hk⟩,λ_ _ _ hk=>⟨λ_=>H1 rfl,hk⟩⟩
    | succ n=>
     have hb:by_=true:=by simpa using hq
     subst hb;simp only [z0j] at H ⊢;obtain ⟨g1,g2,H⟩:=H
     cases hf:z90 T.sz (List.replicate (n+1) z) (List.map (λp=>(p.fst,ev p.snd)) parts.toList) with
     | none=>simp [hf] at H
     | some es=>
      simp only [hf,if_true] at H ⊢;exact ⟨_,H,λ_ hk=>⟨H1,g1,g2,hk⟩,λ_ _ _ hk=>⟨H1,g1,g2,hk⟩⟩
 case load t x=>
  cases h1:ldK P t <;> simp only [h1] at H ⊢ <;> (try (exact H.elim));obtain ⟨v,hv,hk⟩:=pLoad_det H;exact ⟨v,hv,λK' hk'=>hk (λv=>K' v h) hk',by simp [memOp]⟩
 case nilCheck x=>
  unfold pNil at H ⊢;cases hc:ev x <;> simp only [hc] at H ⊢ <;> (try (exact H.elim))
  ·exact ⟨_,H,λ_ hk=>hk,λ_ _ _ hk=>hk⟩
  ·exact ⟨_,H,λ_ hk=>hk,λ_ _ _ hk=>hk⟩
  ·rename_i f a b;cases f <;> simp only at H ⊢ <;> first | exact H.elim | exact ⟨_,H,λ_ hk=>hk,λ_ _ _ hk=>hk⟩
 case binOp op t x y t2=>
  obtain ⟨v,hv,hk⟩:=zkb H;exact ⟨v,hv,λK' hk'=>hk (λv=>K' v h) hk',λ_ h' K' hk'=>hk (λv=>K' v h') hk'⟩
 case unOp op t x=>
  obtain ⟨v,hv,hk⟩:=zkb H;exact ⟨v,hv,λK' hk'=>hk (λv=>K' v h) hk',λ_ h' K' hk'=>hk (λv=>K' v h') hk'⟩
 case convert s d x=>
  cases h1:convK P s d <;> simp only [h1] at H ⊢ <;> (try (exact H.elim));obtain ⟨v,hv,hk⟩:=pConv_det H;exact ⟨v,hv,λK' hk'=>hk (λv=>K' v h) hk',by simp [memOp]⟩
 case slice t x lo hi mx=>
  cases mx with
  | some m=>exact H.elim
  | none=>
   simp only at H ⊢
   cases h1:P.underlying t with
   | none=>simp [h1] at H
   | some d=>
    cases d <;> simp only [h1] at H ⊢ <;> (try (exact H.elim))
    ·obtain ⟨v,hv,hk⟩:=zsu H;exact ⟨v,hv,λK' hk'=>hk (λv=>K' v h) hk',λ_ h' K' hk'=>hk (λv=>K' v h') hk'⟩
    ·rename_i e;cases h2:szK P e <;> simp only [h2] at H ⊢ <;> (try (exact H.elim));obtain ⟨v,hv,hk⟩:=zvo H;exact ⟨v,hv,λK' hk'=>hk (λv=>K' v h) hk',λ_ h' K' hk'=>hk (λv=>K' v h') hk'⟩
 case fieldAddr t x f=>
  cases h1:fadK P t f <;> simp only [h1] at H ⊢ <;> (try (exact H.elim));unfold z3i at H ⊢;cases hc:ev x <;> simp only [hc] at H ⊢ <;> first | exact H.elim | exact ⟨_,H,λ_ hk=>hk,λ_ _ _ hk=>hk⟩
 case field t x f=>
  cases h1:fldK P t f with
  | none=>simp [h1] at H
  | some q=>
   obtain ⟨off,k⟩:=q;simp only [h1] at H ⊢;unfold zki at H ⊢;cases hc:ev x <;> simp only [hc] at H ⊢ <;> (try (exact H.elim));obtain ⟨v,hv,hk⟩:=zlz H;exact ⟨v,hv,λK' hk'=>hk (λv=>K' v h) hk',λ_ h' K' hk'=>hk (λv=>K' v h') hk'⟩
 case indexAddr t x i=>
  cases h1:ixK P t <;> simp only [h1] at H ⊢ <;> (try (exact H.elim));obtain ⟨v,hv,hk⟩:=zq5 H;exact ⟨v,hv,λK' hk'=>hk (λv=>K' v h) hk',λ_ h' K' hk'=>hk (λv=>K' v h') hk'⟩
 case index t x i=>
  cases h1:P.underlying t with
  | none=>simp [h1] at H
  | some d=>
   cases d <;> simp only [h1] at H ⊢ <;> (try (exact H.elim));unfold zah at H ⊢;cases hx:ev x <;> simp only [hx] at H ⊢ <;> (try (exact H.elim)) <;> cases hi:ev i <;> simp only [hi] at H ⊢ <;> (try (exact H.elim));rename_i s k q
   cases he:s[q.toNat]? with
   | none=>simp [he] at H
   | some e=>simp only [he] at H ⊢;exact ⟨_,H.2,λK' hk=>⟨H.1,hk⟩,λ_ _ _ hk=>⟨H.1,hk⟩⟩
 case extract x i=>
  unfold z8p at H ⊢;cases hc:ev x <;> simp only [hc] at H ⊢ <;> (try (exact H.elim));rename_i vs
  cases he:vs[i]? with
  | none=>simp [he] at H
  | some e=>simp only [he] at H ⊢;exact ⟨_,H,λK' hk=>hk,λ_ _ _ hk=>hk⟩
 case makeFunc f first cap=>exact ⟨_,H,λ_ hk=>hk,λ_ _ _ hk=>hk⟩
 case makeInterface t x=>exact ⟨_,H.2,λ_ hk=>⟨H.1,hk⟩,λ_ _ _ hk=>⟨H.1,hk⟩⟩
 case call q=>
  cases hc:q.callee with
  | value f=>simp [hc] at hq
  | invoke r m=>simp [hc] at hq
  | builtin b=>
   simp only [hc] at H ⊢;simp only [hc] at hq;generalize q.argTypes.toList=ts at H ⊢;generalize q.args.toList.map ev=xs at H ⊢;cases b <;> simp only [Bool.false_eq_true] at hq
   ·
    unfold zgr at H ⊢
    match ts,xs with
    | [t],[x]=>
     simp only at H ⊢;cases h1:lenK P t <;> simp only [h1] at H ⊢ <;> (try (exact H.elim));obtain ⟨v,hv,hk⟩:=pLen_det H;exact ⟨v,hv,λK' hk'=>hk (λv=>K' v h) hk',λ_ h' K' hk'=>hk (λv=>K' v h') hk'⟩
    | [],_=>exact H.elim
    | _::_::_,_=>exact H.elim
    | [_],[]=>exact H.elim
    | [_],_::_::_=>exact H.elim
   ·simp only [zgr] at H ⊢;obtain ⟨v,hv,hk⟩:=zkb H;exact ⟨v,hv,λK' hk'=>hk (λv=>K' v h) hk',λ_ h' K' hk'=>hk (λv=>K' v h') hk'⟩
   ·simp only [zgr] at H ⊢;obtain ⟨v,hv,hk⟩:=zkb H;exact ⟨v,hv,λK' hk'=>hk (λv=>K' v h) hk',λ_ h' K' hk'=>hk (λv=>K' v h') hk'⟩
theorem zb2 {ev ev':Operand->AV}:∀ {xs:List Operand},(∀ x∈xs,ev x=ev' x)->xs.map ev=xs.map ev'
 | [],_=>rfl
 | x::xs,h=>by simp only [List.map_cons];rw [h x (by simp),zb2 λy hy=>h y (by simp [hy])]
theorem zab {ev ev':Operand->AV}:∀ {xs:List (Nat×Operand)},(∀ x∈xs.map (·.2),ev x=ev' x)->xs.map (λp=>(p.1,ev p.2))=xs.map (λp=>(p.1,ev' p.2))
 | [],_=>rfl
 | x::xs,h=>by simp only [List.map_cons];rw [h x.2 (by simp),zab λy hy=>h y (by simp at hy ⊢;exact Or.inr hy)]
theorem wpOp_congr {by_:Bool} {o:Op} {ev ev':Operand->AV} {K:AV->z00->Prop} (he:∀ x∈o.operands,ev x=ev' x):wpOp P by_ o ev h K=wpOp P by_ o ev' h K:=by
 cases o
 case build t ps=>
  simp only [wpOp];rw [zab (ev:=ev) (ev':=ev') (λx hx=>he x (by simpa [Op.operands] using hx))]
 case buildSlice t n ps=>
  simp only [wpOp];rw [zab (ev:=ev) (ev':=ev') (λx hx=>he x (by simpa [Op.operands] using hx))]
 case makeFunc f a b=>
  simp only [wpOp];rw [zb2 (ev:=ev) (ev':=ev') (xs:=a.toList) (λx hx=>he x (by simp [Op.operands];exact Or.inl (by simpa using hx))),zb2 (ev:=ev) (ev':=ev') (xs:=b.toList) (λx hx=>he x (by simp [Op.operands];exact Or.inr (by simpa using hx)))]
 case slice t x lo hi mx=>
  simp only [wpOp];have h1:ev x=ev' x:=he x (by simp [Op.operands]);have h2:lo.map ev=lo.map ev':=by cases lo with | none=>rfl | some y=>simp only [Option.map_some];rw [he y (by simp [Op.operands])]
  have h3:hi.map ev=hi.map ev':=by cases hi with | none=>rfl | some y=>simp only [Option.map_some];rw [he y (by simp [Op.operands])]
  rw [h1,h2,h3]
 case call q=>
  simp only [wpOp];have h1:q.args.toList.map ev=q.args.toList.map ev':=zb2 (λx hx=>he x (by simp [Op.operands,Call.operands];exact Or.inr (by simpa using hx)));rw [h1]
  cases hc:q.callee with
  | value f=>
   have h2:ev f=ev' f:=he f (by simp [Op.operands,Call.operands,hc]);cases f <;> first | rfl | (show zmc P _ _ _ _=zmc P _ _ _ _;rw [h2])
  | invoke r m=>rfl
  | builtin b=>rfl
 all_goals first
  | rfl
  | (simp only [Op.operands,Array.mem_def,List.mem_cons,List.not_mem_nil,or_false,forall_eq_or_imp,forall_eq] at he;simp only [wpOp];first | rw [he] | rw [he.1,he.2] | rw [he.1,he.2.1,he.2.2])
  | skip
end
def zfl (N:Nat) (ops:List Oper):Bool:=ops.all λo=>match o.dst with | some d=>decide (d<N) | none=>true
theorem zke {N:Nat} {ops:List Oper} (h:zfl N ops=true) {o:Oper} (ho:o∈ops):∀ k,o.dst=some k->k<N:=by
 intro k hk;have:=List.all_eq_true.1 h o ho;rw [hk] at this;simpa using this
theorem zb8 {ops:Array Oper} {a:Act} {j d:Nat} {b:Bool} (hd:(ops[j]?).bind (·.dst)=some d) (hv:a.tmps.getD d undef=.bool b):yielded ops a.tmps j=some b:=by
 have hlt:d<a.tmps.size:=by
  rcases Nat.lt_or_ge d a.tmps.size with h | h
  ·exact h
  ·rw [Array.getD_eq_getD_getElem?,Array.getElem?_eq_none h] at hv;simp [undef] at hv
 have:a.tmps[d]?=some (.bool b):=by
  rw [Array.getD_eq_getD_getElem?,Array.getElem?_eq_getElem hlt] at hv;rw [Array.getElem?_eq_getElem hlt];simpa using hv
 simp [yielded,hd,this]
theorem zmn {ops:Array Oper} {a:Act} {j d:Nat} (hd:(ops[j]?).bind (·.dst)=some d) (hv:a.tmps.getD d undef=.tuple #[]):yielded ops a.tmps j=none:=by
 have h2:a.tmps[d]?=some (.tuple #[])\/a.tmps[d]?=none:=by
  rcases Nat.lt_or_ge d a.tmps.size with h | h
  ·left
   rw [Array.getD_eq_getD_getElem?,Array.getElem?_eq_getElem h] at hv;rw [Array.getElem?_eq_getElem h];simpa using hv
  ·right;exact Array.getElem?_eq_none h
 rcases h2 with h2 | h2 <;> simp [yielded,hd,h2]
theorem zdu {a:Act} {d:Option Nat} {u:Value} {k:Nat} (h:d≠some k):(a.put d u).tmps.getD k undef=a.tmps.getD k undef:=by
 cases d with
 | none=>rfl
 | some d=>
  have:d≠k:=λe=>h (by rw [e]);simp only [Act.put];rw [Array.getD_eq_getD_getElem?,Array.getD_eq_getD_getElem?,Array.getElem?_setIfInBounds_ne this]
def depB (ops:Array Oper) (j i:Nat):Bool:=match ops[j]? with | some o=>o.after.any (λe=>Region.binds .any e&&e.on == i) | none=>false
def z99 (ops:Array Oper) (j:Nat) (t:Tmp):Bool:=match ops[j]? with | some o=>(o.looksAt ops).contains t | none=>false
def dstO (ops:Array Oper) (i:Nat):Option Tmp:=(ops[i]?).bind (·.dst)
def zhw (ch:Nat->Bool) (ops:Array Oper) (i:Nat):Bool:=
 match ops[i]? with
 | some o=>match o.dst with
  | some d=>zp5 (byO ch o.dst) o.op&&(List.range ops.size).all (λj=>(!z99 ops j d||depB ops j i)&&(j == i||dstO ops j != some d)&&(match dstO ops j with | some k=>!z99 ops i k||depB ops i j | none=>true))&&!z99 ops i d
  | none=>false
 | none=>false
def zam (ops:Array Oper) (V:List Nat):List Nat:=(List.range ops.size).filter λi=>!V.contains i&&(List.range ops.size).all λk=>!depB ops i k||V.contains k
def zeo (ops:Array Oper):Nat->Nat->Nat->Bool
 | 0,_,_=>false
 | n+1,j,i=>depB ops j i||(List.range ops.size).any λk=>depB ops j k&&zeo ops n k i
def memB (ops:Array Oper) (i:Nat):Bool:=match ops[i]? with | some o=>memOp o.op | none=>false
def zaf (v:AV) (want:Bool) (T F:Prop):Prop:=match v with | .bool b=>if b=want then T else F | .tup []=>F | _=>False
def zj5 (P:Program) (ch:Nat->Bool) (ops:Array Oper) (i:Nat) (fr:Fr) (h:z00) (K:AV->z00->Prop):Prop:=
 match ops[i]? with
 | none=>False
 | some o=>match o.guard with
  | none=>wpOp P (byO ch o.dst) o.op (aEv fr) h K
  | some (g,want)=>match dstO ops g with
   | none=>False
   | some d=>zaf (fr d) want (wpOp P (byO ch o.dst) o.op (aEv fr) h K) (K (.tup []) h)
def zt9 (P:Program) (ch:Nat->Bool) (ops:Array Oper) (i:Nat) (fr:Fr) (h:z00) (K:AV->z00->Prop):Prop:=
 match ops[i]? with
 | none=>False
 | some o=>match o.guard with
  | none=>wpOp P (byO ch o.dst) o.op (aEv fr) h K
  | some (g,want)=>match dstO ops g with
   | none=>False
   | some d=>zq6 (λx=>zaf (fr d) want (wpOp P (byO ch o.dst) o.op (aEv fr) h (λv h'=>x [v] h')) (x [.tup []] h)) (λvs h'=>K (nth vs 0) h')
theorem wpOpJ_eq {P:Program} {ch:Nat->Bool} {ops:Array Oper} {i:Nat} {fr:Fr} {h:z00} {K:AV->z00->Prop}:zt9 P ch ops i fr h K=zj5 P ch ops i fr h K:=by
 unfold zt9 zj5
 cases ops[i]? with
 | none=>rfl
 | some o=>
  simp only
  cases o.guard with
  | none=>rfl
  | some gw=>
   obtain ⟨g,want⟩:=gw;simp only;cases dstO ops g <;> rfl
def allP (p:Nat->Prop):List Nat->Prop
 | []=>True
 | [i]=>p i
 | i::r=>p i/\allP p r
def getS (fr:Fr) (d:Option Nat):AV:=match d with | some d=>fr d | none=>.und
def stabs (P:Program) (ch:Nat->Bool) (ops:Array Oper) (fl:Nat->Bool) (fin:List Nat->Nat->Bool) (V:List Nat) (fr:Fr) (h:z00):Prop:=
 allP (λi=>zt9 P ch ops i fr h λv h'=>v=getS fr (dstO ops i)/\h'=h)
  (V.filter λi=>fl i&&(!fin V i&&memB ops i))
def zl7 (P:Program) (ch:Nat->Bool) (ops:Array Oper) (fl:Nat->Bool) (fin:List Nat->Nat->Bool) (Q:Fr->z00->Prop):Nat->List Nat->Fr->z00->Prop
 | 0,_,fr,h=>Q fr h
 | n+1,V,fr,h=>match (zam ops V).find? fl with
  | some i=>zt9 P ch ops i fr h λv h'=>zl7 P ch ops fl fin Q n (i::V) (updO fr (dstO ops i) v) h'
  | none=>match zam ops V with
   | []=>Q fr h
   | r=>allP (λj=>zt9 P ch ops j fr h λv h'=>stabs P ch ops fl fin (j::V) (updO fr (dstO ops j) v) h'/\zl7 P ch ops fl fin Q n (j::V) (updO fr (dstO ops j) v) h') r
theorem zrv {p:Nat->Prop}:∀ {l:List Nat},allP p l->∀ i∈l,p i
 | [],_,i,hi=>by cases hi
 | [a],h,i,hi=>by
  have:i=a:=by simpa using hi
  subst this;exact h
 | a::b::r,h,i,hi=>by
  rcases List.mem_cons.1 hi with rfl | hi
  ·exact h.1
  ·exact zrv h.2 i hi
section
variable {P:Program} {N:Nat} {ds:List Deferred} {ch:Nat->Bool} {ops:Array Oper}
theorem zk5 {i:Nat} {o:Oper} (ho:ops[i]?=some o) {t:Tmp}:z99 ops i t=true↔t∈o.looksAt ops:=by simp [z99,ho]
theorem zar {i:Nat} {fr fr':Fr} {h:z00} {K:AV->z00->Prop} (he:∀ t,z99 ops i t=true->fr t=fr' t):zj5 P ch ops i fr h K=zj5 P ch ops i fr' h K:=by
 unfold zj5
 cases ho:ops[i]? with
 | none=>rfl
 | some o=>
  have h1:wpOp P (byO ch o.dst) o.op (aEv fr) h K=wpOp P (byO ch o.dst) o.op (aEv fr') h K:=by
   refine wpOp_congr λx hx=>?_
   cases x with
   | tmp t=>
    refine he t ((zk5 ho).2 ?_);simp only [Oper.looksAt,List.mem_append,List.mem_filterMap];exact Or.inl ⟨.tmp t,by simpa using hx,rfl⟩
   | _=>rfl
  simp only [h1]
  cases hg:o.guard with
  | none=>rfl
  | some gw=>
   obtain ⟨g,want⟩:=gw;simp only
   cases hd:dstO ops g with
   | none=>rfl
   | some d=>
    have:fr d=fr' d:=he d ((zk5 ho).2 (by
     simp only [Oper.looksAt,hg,List.mem_append];refine Or.inr ?_;unfold dstO at hd;simp [hd]))
    simp only [this]
theorem zpm {i:Nat} {fr:Fr} {h:z00} {B:Nat} {c:Ctx} {w:World} {a:Act} {K:AV->z00->Prop} {next:Act->World->Prop} {Q:Exit->Act->World->Prop} (W:WRel B c h w) (F:z4b N ds c w fr a) (H:zj5 P ch ops i fr h K)
  (hK:Then B c w a (dstO ops i) K next) {ro:Option Nat}:wpOpIn (z5u ro) 0 P ops Q i next a w:=by
 unfold zj5 at H;unfold wpOpIn
 cases ho:ops[i]? with
 | none=>rw [ho] at H;exact H.elim
 | some o=>
  have hd:dstO ops i=o.dst:=by simp [dstO,ho]
  rw [hd] at hK;rw [ho] at H;simp only at H ⊢
  cases hg:o.guard with
  | none=>
   rw [hg] at H;rw [if_pos (by simp [Region.wanted,hg])];exact zdk W F H hK
  | some gw=>
   obtain ⟨g,want⟩:=gw;rw [hg] at H;simp only at H
   cases hdg:dstO ops g with
   | none=>rw [hdg] at H;exact H.elim
   | some d=>
    rw [hdg] at H;simp only at H;have hdd:(ops[g]?).bind (·.dst)=some d:=hdg;have hv:=F.2.2 d;have skip:K (.tup []) h->Region.wanted o (yielded ops a.tmps)=false->(if Region.wanted o (yielded ops a.tmps)=true then o.wpIn (z5u ro) 0 P a w next Q else (∀ f,o.about P w a.eval=some f->(z5u ro).fn f)/\next (a.put o.dst undef) w):=λhk hw=>by
     rw [if_neg (by simp [hw])];exact ⟨λ_ _=>trivial,hK c (.tup []) h w undef (Ext.refl _ _ _) W (by simp only [VRel];exact ⟨#[],rfl,rfl⟩) hk⟩
    have bool:∀ b,a.tmps.getD d undef=.bool b->(if b=want then wpOp P (byO ch o.dst) o.op (aEv fr) h K else K (.tup []) h)->(if Region.wanted o (yielded ops a.tmps)=true then o.wpIn (z5u ro) 0 P a w next Q else (∀ f,o.about P w a.eval=some f->(z5u ro).fn f)/\next (a.put o.dst undef) w):=λb hb H=>by
     by_cases e:b=want
     ·rw [if_pos e] at H;rw [if_pos (by simp [Region.wanted,hg,zb8 hdd hb,e])];exact zdk W F H hK
     ·rw [if_neg e] at H;exact skip H (by simp [Region.wanted,hg,zb8 hdd hb,e])
    unfold zaf at H;split at H
    ·rename_i b hb;rw [hb] at hv;exact bool b (by simpa [VRel] using hv) H
    ·rename_i hb;rw [hb] at hv;simp only [VRel] at hv;obtain ⟨vs,h1,h2⟩:=hv;simp only [LRel] at h2;refine skip H ?_;have:a.tmps.getD d undef=.tuple #[]:=by
      rw [h1];congr 1;exact Array.toList_inj.1 (by rw [h2])
     simp [Region.wanted,hg,zmn hdd this]
    ·exact H.elim
theorem zre {i:Nat} {fr:Fr} {h:z00} {K:AV->z00->Prop} (hf:zhw ch ops i=true) (H:zj5 P ch ops i fr h K) :
  ∃ v,K v h/\(∀ K':AV->z00->Prop,K' v h->zj5 P ch ops i fr h K')/\(memB ops i=false->∀ (h':z00) (K':AV->z00->Prop),K' v h'->zj5 P ch ops i fr h' K'):=by
 unfold zj5 memB at *
 cases ho:ops[i]? with
 | none=>rw [ho] at H;exact H.elim
 | some o=>
  have hq:zp5 (byO ch o.dst) o.op=true:=by
   unfold zhw at hf;rw [ho] at hf;simp only at hf;split at hf
   ·simp only [Bool.and_eq_true] at hf;exact hf.1.1
   ·cases hf
  rw [ho] at H;simp only at H ⊢
  cases hg:o.guard with
  | none=>
   rw [hg] at H;exact zvu hq H
  | some gw=>
   obtain ⟨g,want⟩:=gw;rw [hg] at H;simp only at H ⊢
   cases hdg:dstO ops g with
   | none=>rw [hdg] at H;exact H.elim
   | some d=>
    rw [hdg] at H;simp only at H ⊢
    cases hb:fr d with
    | bool b=>
     simp only [hb,zaf] at H ⊢;by_cases e:b=want
     ·simp only [if_pos e] at H ⊢;exact zvu hq H
     ·simp only [if_neg e] at H ⊢;exact ⟨_,H,λ_ hk=>hk,λ_ _ _ hk=>hk⟩
    | tup vs=>
     cases vs with
     | nil=>simp only [hb,zaf] at H ⊢;exact ⟨_,H,λ_ hk=>hk,λ_ _ _ hk=>hk⟩
     | cons _ _=>rw [hb] at H;exact H.elim
    | _=>rw [hb] at H;exact H.elim
end
section
variable {P:Program} {N:Nat} {ds:List Deferred} {ch:Nat->Bool} {ops:Array Oper} {fl:Nat->Bool} {fin:List Nat->Nat->Bool}
theorem looksB_lt {j:Nat} {t:Tmp} (h:z99 ops j t=true):j<ops.size:=by
 unfold z99 at h
 cases ho:ops[j]? with
 | none=>rw [ho] at h;cases h
 | some o=>exact (Array.getElem?_eq_some_iff.1 ho).1
theorem dstO_lt {j:Nat} {t:Tmp} (h:dstO ops j=some t):j<ops.size:=by
 unfold dstO at h
 cases ho:ops[j]? with
 | none=>rw [ho] at h;cases h
 | some o=>exact (Array.getElem?_eq_some_iff.1 ho).1
theorem zdp {i:Nat} (hf:zhw ch ops i=true):∃ d,dstO ops i=some d/\(∀ j,z99 ops j d=true->depB ops j i=true)/\(∀ j,j≠i->dstO ops j≠some d)/\(∀ j k,dstO ops j=some k->z99 ops i k=true->depB ops i j=true)/\z99 ops i d=false:=by
 unfold zhw at hf
 cases ho:ops[i]? with
 | none=>rw [ho] at hf;cases hf
 | some o=>
  rw [ho] at hf;simp only at hf
  cases hd:o.dst with
  | none=>rw [hd] at hf;cases hf
  | some d=>
   rw [hd] at hf;simp only [Bool.and_eq_true,List.all_eq_true,List.mem_range,Bool.or_eq_true,Bool.not_eq_true',beq_iff_eq,bne_iff_ne,ne_eq] at hf;obtain ⟨⟨-,h1⟩,h2⟩:=hf;refine ⟨d,by simp [dstO,ho,hd],λj hj=>?_,λj hj he=>?_,λj k hk hl=>?_,h2⟩
   ·rcases (h1 j (looksB_lt hj)).1.1 with h | h
    ·rw [hj] at h;cases h
    ·exact h
   ·rcases (h1 j (dstO_lt he)).1.2 with h | h
    ·exact hj h
    ·exact h he
   ·have:=(h1 j (dstO_lt hk)).2;rw [hk] at this;simp only [Bool.or_eq_true,Bool.not_eq_true'] at this;rcases this with h | h
    ·rw [hl] at h;cases h
    ·exact h
theorem za4 {V:List Nat} {j:Nat}:j∈zam ops V↔j<ops.size/\j∉V/\∀ k,depB ops j k=true->k<ops.size->k∈V:=by
 simp only [zam,List.mem_filter,List.mem_range,Bool.and_eq_true,Bool.not_eq_true',List.all_eq_true,Bool.or_eq_true];constructor
 ·rintro ⟨h1,h2,h3⟩;refine ⟨h1,by simpa using h2,λk hk hl=>?_⟩;rcases h3 k hl with h | h
  ·rw [hk] at h;cases h
  ·simpa using h
 ·rintro ⟨h1,h2,h3⟩;refine ⟨h1,by simpa using h2,λk hl=>?_⟩
  cases hk:depB ops j k with
  | false=>exact Or.inl rfl
  | true=>exact Or.inr (by simpa using h3 k hk hl)
theorem zgw {S:Array Bool} (hs:S.size=ops.size) {j:Nat}:j∈Region.ready .any ops S↔j<ops.size/\S.getD j false=false/\∀ k,depB ops j k=true->S.getD k false=true:=by
 rw [mem_ready];constructor
 ·rintro ⟨h1,o,ho,h2⟩;have hj:=(Array.getElem?_eq_some_iff.1 ho).1;refine ⟨hj,?_,λk hk=>?_⟩
  ·rw [Array.getD_eq_getD_getElem?,Array.getElem?_eq_getElem (by omega)] at h1 ⊢;exact h1
  ·unfold depB at hk;rw [ho] at hk;simp only at hk;obtain ⟨e,he,hb⟩:=Array.any_eq_true'.1 hk;simp only [Bool.and_eq_true,beq_iff_eq] at hb;rw [<-hb.2];exact h2 e he hb.1
 ·rintro ⟨h1,h2,h3⟩;refine ⟨?_,ops[j],Array.getElem?_eq_getElem h1,λe he hb=>?_⟩
  ·rw [Array.getD_eq_getD_getElem?,Array.getElem?_eq_getElem (by omega)] at h2 ⊢;exact h2
  ·refine h3 e.on ?_;unfold depB;rw [Array.getElem?_eq_getElem h1];exact Array.any_eq_true'.2 ⟨e,he,by simp [hb]⟩
def ordV (ops:Array Oper):List Nat->Prop
 | []=>True
 | i::r=>(∀ k,depB ops i k=true->k∈r)/\ordV ops r
structure Drw (P:Program) (N:Nat) (ds:List Deferred) (ch:Nat->Bool) (ops:Array Oper) (fl:Nat->Bool) (B:Nat) (c:Ctx) (w:World) (a:Act) (S:Array Bool) (V:List Nat) (fr:Fr) (h:z00):Prop where
 W:WRel B c h w
 size:S.size=ops.size
 tsz:a.tmps.size=N/\a.defers=ds
 lt:∀ i∈V,i<ops.size
 sub:∀ i,S.getD i false=true->i∈V
 closed:∀ i k,S.getD i false=true->depB ops i k=true->S.getD k false=true
 ord:ordV ops V
 pend:∀ i∈V,S.getD i false=false->fl i=true
 rel:∀ t,(∀ i∈V,S.getD i false=false->dstO ops i≠some t)->VRel c w (fr t) (a.tmps.getD t undef)
 stab:∀ i∈V,S.getD i false=false->zj5 P ch ops i fr h (λv h'=>v=getS fr (dstO ops i)/\h'=h)
theorem ziq:∀ {V:List Nat},ordV ops V->∀ i∈V,∀ k,depB ops i k=true->k∈V
 | [],_,i,hi,_,_=>by cases hi
 | a::r,h,i,hi,k,hk=>by
  rcases List.mem_cons.1 hi with rfl | hi
  ·exact List.mem_cons.2 (Or.inr (h.1 k hk))
  ·exact List.mem_cons.2 (Or.inr (ziq h.2 i hi k hk))
theorem zr7 {S:Array Bool}:∀ {V:List Nat},ordV ops V->(∃ i∈V,S.getD i false=false)->∃ i∈V,S.getD i false=false/\∀ k,depB ops i k=true->S.getD k false=true
 | [],_,⟨i,hi,_⟩=>by cases hi
 | a::r,h,⟨i,hi,h0⟩=>by
  by_cases hr:∃ i∈r,S.getD i false=false
  ·obtain ⟨i,h1,h2⟩:=zr7 h.2 hr;exact ⟨i,List.mem_cons.2 (Or.inr h1),h2⟩
  ·have hall:∀ k∈r,S.getD k false=true:=λk hk=>by
    cases hv:S.getD k false with
    | true=>rfl
    | false=>exact absurd ⟨k,hk,hv⟩ hr
   rcases List.mem_cons.1 hi with rfl | hi
   ·exact ⟨i,List.mem_cons.2 (Or.inl rfl),h0,λk hk=>hall k (h.1 k hk)⟩
   ·rw [hall i hi] at h0;cases h0
theorem zme {S:Array Bool} (hc:∀ i k,S.getD i false=true->depB ops i k=true->S.getD k false=true):∀ (n j i:Nat),(∀ k,depB ops j k=true->S.getD k false=true)->zeo ops n j i=true->S.getD i false=true
 | 0,_,_,_,h=>by cases h
 | n+1,j,i,hj,h=>by
  simp only [zeo,Bool.or_eq_true,List.any_eq_true,List.mem_range,Bool.and_eq_true] at h;rcases h with h | ⟨k,-,h1,h2⟩
  ·exact hj i h
  ·exact zme hc n k i (λk' hk'=>hc k k' (hj k h1) hk') h2
theorem zj4 {fr:Fr} {d:Option Nat} {v:AV} {t:Nat} (h:d≠some t):updO fr d v t=fr t:=by
 cases d with
 | none=>rfl
 | some d=>simp only [zwd,upd_eq];rw [if_neg (λe=>h (by rw [e]))]
theorem Drw.float {B:Nat} {c:Ctx} {w:World} {a:Act} {S:Array Bool} {V:List Nat} {fr:Fr} {h:z00} {i:Nat} {K:AV->z00->Prop} (D:Drw P N ds ch ops fl B c w a S V fr h) (hfl:∀ i,fl i=true->zhw ch ops i=true) (hr:i∈zam ops V) (hff:fl i=true)
  (H:zj5 P ch ops i fr h K) (hdl:∀ j k,depB ops j k=true->k<ops.size):∃ v,K v h/\Drw P N ds ch ops fl B c w a S (i::V) (updO fr (dstO ops i) v) h:=by
 have hf:=hfl i hff;obtain ⟨v,hk,hdet,-⟩:=zre hf H;obtain ⟨d,hd,f1,f2,f3,f4⟩:=zdp hf;obtain ⟨r1,r2,r3⟩:=za4.1 hr;have hSi:S.getD i false=false:=by
  cases hv:S.getD i false with
  | false=>rfl
  | true=>exact absurd (D.sub i hv) r2
 have hcl:=ziq D.ord;have keep:∀ p,p∈V->∀ t,z99 ops p t=true->fr t=updO fr (some d) v t:=λp hp t ht=>by
  rw [zj4];intro e;cases e;exact r2 (hcl p hp i (f1 p ht))
 refine ⟨v,hk,⟨D.W,D.size,D.tsz,λj hj=>?_,λj hj=>List.mem_cons.2 (Or.inr (D.sub j hj)),D.closed,⟨λk hk'=>r3 k hk' (hdl _ _ hk'),D.ord⟩,λj hj hs=>?_,λt ht=>?_,λj hj hs=>?_⟩⟩
 ·rcases List.mem_cons.1 hj with rfl | hj
  ·exact r1
  ·exact D.lt j hj
 ·rcases List.mem_cons.1 hj with rfl | hj
  ·exact hff
  ·exact D.pend j hj hs
 ·have hne:dstO ops i≠some t:=ht i (List.mem_cons.2 (Or.inl rfl)) hSi;rw [zj4 hne];exact D.rel t λj hj hs=>ht j (List.mem_cons.2 (Or.inr hj)) hs
 ·rw [hd];rcases List.mem_cons.1 hj with rfl | hj
  ·rw [hd,<-zar (fr:=fr)]
   ·exact hdet _ ⟨by simp [getS,upd_eq],rfl⟩
   ·intro t ht;rw [zj4];intro e;cases e;rw [ht] at f4;cases f4
  ·have hpd:getS (updO fr (some d) v) (dstO ops j)=getS fr (dstO ops j):=by
    cases hdj:dstO ops j with
    | none=>rfl
    | some k=>
     simp only [getS];exact zj4 λe=>f2 j (λe'=>r2 (e'▸hj)) (by rw [hdj];exact e.symm)
   rw [hpd,<-zar (keep j hj)];exact D.stab j hj hs
theorem zeg (hfl:∀ i,fl i=true->zhw ch ops i=true) {Q:Fr->z00->Prop} {B:Nat} {c:Ctx} {w:World} {a:Act} {S:Array Bool} {h:z00} (hdl:∀ j k,depB ops j k=true->k<ops.size):∀ (m:Nat) (V:List Nat) (fr:Fr) (L:List Nat),(∀ i,i<ops.size->i∉V->i∈L)->L.length<=m->zl7 P ch ops fl fin Q m V fr h->Drw P N ds ch ops fl B c w a S V fr h->
  ∃ (m':Nat) (V':List Nat) (fr':Fr) (L':List Nat),(∀ i,i<ops.size->i∉V'->i∈L')/\L'.length<=m'/\zl7 P ch ops fl fin Q m' V' fr' h/\Drw P N ds ch ops fl B c w a S V' fr' h/\(zam ops V').find? fl=none
 | 0,V,fr,L,hL,hlen,H,D=>by
  refine ⟨0,V,fr,L,hL,hlen,H,D,List.find?_eq_none.2 λi hi=>?_⟩;obtain ⟨r1,r2,_⟩:=za4.1 hi;have:=hL i r1 r2;have:L=[]:=List.length_eq_zero_iff.1 (by omega);subst this;simp at *
 | m+1,V,fr,L,hL,hlen,H,D=>by
  cases hfi:(zam ops V).find? fl with
  | none=>exact ⟨m+1,V,fr,L,hL,hlen,H,D,hfi⟩
  | some i=>
   have hr:=List.mem_of_find?_eq_some hfi;have hf:=List.find?_some hfi;have H0:zj5 P ch ops i fr h λv h'=>zl7 P ch ops fl fin Q m (i::V) (updO fr (dstO ops i) v) h':=by
    unfold zl7 at H;rw [hfi] at H;exact wpOpJ_eq.mp H
   obtain ⟨v,hk,D'⟩:=D.float hfl hr hf H0 hdl;obtain ⟨r1,r2,_⟩:=za4.1 hr;have hiL:=hL i r1 r2;have hll:=List.length_erase_of_mem hiL;have hpos:0<L.length:=List.length_pos_of_mem hiL;refine zeg hfl hdl m (i::V) _ (L.erase i) (λj hj hn=>?_) (by omega) hk D';have hji:j≠i:=λe=>hn (by simp [e]);exact (List.mem_erase_of_ne hji).2 (hL j hj (λh=>hn (by simp [h])))
noncomputable def maskF (V:List Nat) (S:Array Bool) (ops:Array Oper) (fr:Fr):Fr:=λt=>
 open Classical in if ∃ i ∈ V, S.getD i false = false ∧ dstO ops i = some t then .und else fr t
theorem Drw.masked {B:Nat} {c:Ctx} {w:World} {a:Act} {S:Array Bool} {V:List Nat} {fr:Fr} {h:z00} (D:Drw P N ds ch ops fl B c w a S V fr h):z4b N ds c w (maskF V S ops fr) a:=by
 refine ⟨D.tsz.1,D.tsz.2,λt=>?_⟩;unfold maskF;split
 ·simp [VRel]
 ·rename_i hn;exact D.rel t λi hi hs e=>hn ⟨i,hi,hs,e⟩
theorem Drw.looks {B:Nat} {c:Ctx} {w:World} {a:Act} {S:Array Bool} {V:List Nat} {fr:Fr} {h:z00} (D:Drw P N ds ch ops fl B c w a S V fr h) (hfl:∀ i,fl i=true->zhw ch ops i=true) {j:Nat} (hj:∀ k,depB ops j k=true->S.getD k false=true):∀ t,z99 ops j t=true->fr t=maskF V S ops fr t:=by
 intro t ht;unfold maskF;rw [if_neg];rintro ⟨i,hi,hs,hd⟩;obtain ⟨d,hd',f1,-⟩:=zdp (hfl i (D.pend i hi hs));rw [hd] at hd';cases hd';rw [hj i (f1 j ht)] at hs;cases hs
theorem znh {S:Array Bool} {j k:Nat} (hj:j<S.size):(S.setIfInBounds j true).getD k false=if k=j then true else S.getD k false:=by
 by_cases e:k=j
 ·subst e;simp [hj]
 ·rw [if_neg e];exact getD_set_ne false (Ne.symm e)
theorem zy3 {ro:Option Nat} (hfl:∀ i,fl i=true->zhw ch ops i=true) (hfin:∀ V i,fin V i=true->∃ k∈V,fl k=false/\∃ n,zeo ops n k i=true) {Q:Fr->z00->Prop} {B:Nat} {c0:Ctx} {w0:World} {Q':Exit->Act->World->Prop} (hdl:∀ j k,depB ops j k=true->k<ops.size) (hok:zfl N ops.toList=true)
  (hQ:∀ c' fr' h' a' w',Ext B c0 w0 c' w'->WRel B c' h' w'->z4b N ds c' w' fr' a'->Q fr' h'->Q' .normal a' w'):∀ (f:Nat) (S:Array Bool) (a:Act) (w:World) (c:Ctx) (V:List Nat) (fr:Fr) (h:z00) (m:Nat) (L L2:List Nat),
  Ext B c0 w0 c w->Drw P N ds ch ops fl B c w a S V fr h->zl7 P ch ops fl fin Q m V fr h->(∀ i,i<ops.size->i∉V->i∈L)->L.length<=m->(∀ i,i<ops.size->S.getD i false=false->i∈L2)->L2.length<=f->wpAnyIn (z5u ro) 0 P .any ops Q' f S a w:=by
 intro f
 induction f with
 | zero=>
  intro S a w c V fr h m L L2 E D H hL hLl hL2 hL2l;have hall:∀ i,i<ops.size->S.getD i false=true:=λi hi=>by
   cases hv:S.getD i false with
   | true=>rfl
   | false=>
    have:=hL2 i hi hv;have:L2=[]:=List.length_eq_zero_iff.1 (by omega);subst this;simp at *
  have hrd:Region.ready .any ops S=[]:=by
   rw [List.eq_nil_iff_forall_not_mem];intro i hi;obtain ⟨r1,r2,_⟩:=(zgw D.size).1 hi;rw [hall i r1] at r2;cases r2
  refine ⟨hrd,?_⟩;obtain ⟨m',V',fr',L',g1,g2,g3,D',g5⟩:=zeg hfl hdl m V fr L hL hLl H D;have hVn:zam ops V'=[]:=by
   rw [List.eq_nil_iff_forall_not_mem];intro i hi;obtain ⟨r1,r2,_⟩:=za4.1 hi;exact r2 (D'.sub i (hall i r1))
  have hq:Q fr' h:=by
   cases m' with
   | zero=>exact g3
   | succ m'=>unfold zl7 at g3;rw [g5,hVn] at g3;exact g3
  refine hQ c fr' h a w E D'.W ⟨D'.tsz.1,D'.tsz.2,λt=>D'.rel t λi hi hs=>?_⟩ hq;rw [hall i (D'.lt i hi)] at hs;cases hs
 | succ f ih=>
  intro S a w c V0 fr0 h m0 L0 L2 E D0 H0 hL0 hLl0 hL2 hL2l;obtain ⟨m,V,fr,L,hL,hLl,H,D,hnf⟩:=zeg hfl hdl m0 V0 fr0 L0 hL0 hLl0 H0 D0;refine ⟨λhrd=>?_,λj hj=>?_⟩
  ·have hall:∀ i∈V,S.getD i false=true:=λi hi=>by
    cases hv:S.getD i false with
    | true=>rfl
    | false=>
     obtain ⟨k,k1,k2,k3⟩:=zr7 D.ord ⟨i,hi,hv⟩;have:k∈Region.ready .any ops S:=(zgw D.size).2 ⟨D.lt k k1,k2,k3⟩;rw [hrd] at this;cases this
   have hVn:zam ops V=[]:=by
    rw [List.eq_nil_iff_forall_not_mem];intro i hi;obtain ⟨r1,r2,r3⟩:=za4.1 hi;have:i∈Region.ready .any ops S:=(zgw D.size).2 ⟨r1,by
     cases hv:S.getD i false with
     | false=>rfl
     | true=>exact absurd (D.sub i hv) r2,λk hk=>hall k (r3 k hk (hdl _ _ hk))⟩
    rw [hrd] at this;cases this
   have hq:Q fr h:=by
    cases m with
    | zero=>exact H
    | succ m=>unfold zl7 at H;rw [hnf,hVn] at H;exact H
   refine hQ c fr h a w E D.W ⟨D.tsz.1,D.tsz.2,λt=>D.rel t λi hi hs=>?_⟩ hq;rw [hall i hi] at hs;cases hs
  ·obtain ⟨j1,j2,j3⟩:=(zgw D.size).1 hj;have hjS:j<S.size:=by rw [D.size];exact j1
   have hgs:=λk=>znh (S:=S) (k:=k) hjS;have hL2':∀ i,i<ops.size->(S.setIfInBounds j true).getD i false=false->i∈L2.erase j:=λi hi hs=>by
    rw [hgs] at hs;split at hs
    ·cases hs
    ·rename_i hne;exact (List.mem_erase_of_ne hne).2 (hL2 i hi hs)
   have hj2:=hL2 j j1 j2;have hll:=List.length_erase_of_mem hj2;have hpos:0<L2.length:=List.length_pos_of_mem hj2;have hclosed':∀ i k,(S.setIfInBounds j true).getD i false=true->depB ops i k=true->(S.setIfInBounds j true).getD k false=true:=λi k hi hd=>by
    rw [hgs] at hi ⊢;split
    ·rfl
    ·split at hi
     ·rename_i e;subst e;exact j3 k hd
     ·exact D.closed i k hi hd
   have hput:∀ (d:Option Nat) (u:Value),(∀ k,d=some k->k<N)->(a.put d u).tmps.size=N/\(a.put d u).defers=ds:=λd u hd=>by
    cases d with
    | none=>exact D.tsz
    | some k=>exact ⟨by simpa [Act.put] using D.tsz.1,by simpa [Act.put] using D.tsz.2⟩
   have hdN:∀ k,dstO ops j=some k->k<N:=λk hk=>by
    unfold dstO at hk
    cases ho:ops[j]? with
    | none=>rw [ho] at hk;cases hk
    | some o=>
     rw [ho] at hk;exact zke hok (o:=o) (by simpa using Array.mem_of_getElem? ho) k hk
   have hself:∀ (k:Nat) (u:Value),k<N->(a.put (some k) u).tmps.getD k undef=u:=λk u hk=>by
    simp only [Act.put];rw [Array.getD_eq_getD_getElem?,Array.getElem?_setIfInBounds_self_of_lt (by rw [D.tsz.1];exact hk)];rfl
   by_cases hjV:j∈V
   ·
    have hst:=D.stab j hjV j2;rw [zar (D.looks hfl j3)] at hst;refine zpm D.W D.masked hst ?_;intro c' v h' w' u E' W' hv hk;obtain ⟨rfl,rfl⟩:=hk;obtain ⟨d,hd,f1,f2,f3,f4⟩:=zdp (hfl j (D.pend j hjV j2));refine ih (S.setIfInBounds j true) _ w' c' V fr h' m L (L2.erase j) (E.trans E') ⟨W',by simpa using D.size,hput _ _ hdN,D.lt,λi hi=>?_,hclosed',D.ord,λi hi hs=>?_,λt ht=>?_,λi hi hs=>?_⟩ H hL hLl hL2' (by omega)
    ·rw [hgs] at hi;split at hi
     ·rename_i e;subst e;exact hjV
     ·exact D.sub i hi
    ·rw [hgs] at hs;split at hs
     ·cases hs
     ·exact D.pend i hi hs
    ·by_cases e:dstO ops j=some t
     ·rw [e] at hv ⊢;rw [hself t u (hdN t e)];exact hv
     ·rw [zdu e];refine VRel.mono E' (D.rel t λi hi hs hd'=>?_);by_cases eij:i=j
      ·subst eij;exact e hd'
      ·exact ht i hi (by rw [hgs,if_neg eij];exact hs) hd'
    ·rw [hgs] at hs;split at hs
     ·cases hs
     ·exact D.stab i hi hs
   ·
    have hjr:j∈zam ops V:=za4.2 ⟨j1,hjV,λk hk _=>D.sub k (j3 k hk)⟩
    cases m with
    | zero=>
     have:=hL j j1 hjV;have:L=[]:=List.length_eq_zero_iff.1 (by omega);subst this;simp at *
    | succ m=>
     have H1:zj5 P ch ops j fr h λv h'=>stabs P ch ops fl fin (j::V) (updO fr (dstO ops j) v) h'/\zl7 P ch ops fl fin Q m (j::V) (updO fr (dstO ops j) v) h':=by
      unfold zl7 at H;rw [hnf] at H
      cases hrv:zam ops V with
      | nil=>rw [hrv] at hjr;cases hjr
      | cons x xs=>
       rw [hrv] at H hjr;exact wpOpJ_eq.mp (zrv H j hjr)
     rw [zar (D.looks hfl j3)] at H1;refine zpm D.W D.masked H1 ?_;intro c' v h' w' u E' W' hv hk;obtain ⟨hst,hcan⟩:=hk;have hjL:=hL j j1 hjV;have hll':=List.length_erase_of_mem hjL;have hpos':0<L.length:=List.length_pos_of_mem hjL;have hpend:∀ i∈j::V,(S.setIfInBounds j true).getD i false=false->i∈V/\i≠j/\S.getD i false=false:=λi hi hs=>by
      rw [hgs] at hs;split at hs
      ·cases hs
      ·rename_i hne;rcases List.mem_cons.1 hi with e | hi
       ·exact absurd e hne
       ·exact ⟨hi,hne,hs⟩
     refine ih (S.setIfInBounds j true) _ w' c' (j::V) _ h' m (L.erase j) (L2.erase j) (E.trans E') ⟨W',by simpa using D.size,hput _ _ hdN,λi hi=>?_,λi hi=>?_,hclosed',⟨λk hk=>D.sub k (j3 k hk),D.ord⟩,λi hi hs=>?_,λt ht=>?_,λi hi hs=>?_⟩ hcan (λi hi hn=>?_) (by omega) hL2' (by omega)
     ·rcases List.mem_cons.1 hi with rfl | hi
      ·exact j1
      ·exact D.lt i hi
     ·rw [hgs] at hi;split at hi
      ·rename_i e;exact List.mem_cons.2 (Or.inl e)
      ·exact List.mem_cons.2 (Or.inr (D.sub i hi))
     ·obtain ⟨g1,g2,g3⟩:=hpend i hi hs;exact D.pend i g1 g3
     ·by_cases e:dstO ops j=some t
      ·rw [e];rw [hself t u (hdN t e)];simpa [upd_eq] using hv
      ·rw [zdu e,zj4 e];refine VRel.mono E' (D.rel t λi hi hs hd'=>?_);have hij:i≠j:=λe'=>hjV (e'▸hi);exact ht i (List.mem_cons.2 (Or.inr hi)) (by rw [hgs,if_neg hij];exact hs) hd'
     ·obtain ⟨g1,g2,g3⟩:=hpend i hi hs;have hfii:=D.pend i g1 g3;have hfi:=hfl i hfii;obtain ⟨d,hd,f1,f2,f3,f4⟩:=zdp hfi;by_cases hmem:memB ops i=true
      ·refine zrv hst i ?_;rw [List.mem_filter];refine ⟨hi,?_⟩;rw [hfii,hmem,Bool.true_and,Bool.and_true]
       cases hf2:fin (j::V) i with
       | false=>rfl
       | true=>
        obtain ⟨k,hk,hkf,n,hr⟩:=hfin _ _ hf2;have hkd:∀ k',depB ops k k'=true->S.getD k' false=true:=by
         rcases List.mem_cons.1 hk with rfl | hk
         ·exact j3
         ·intro k' hk';have:S.getD k false=true:=by
           cases hv:S.getD k false with
           | true=>rfl
           | false=>rw [D.pend k hk hv] at hkf;cases hkf
          exact D.closed k k' this hk'
        rw [zme D.closed n k i hkd hr] at g3;cases g3
      ·have hmem':memB ops i=false:=by simpa using hmem
       obtain ⟨v0,⟨e0,-⟩,-,hany⟩:=zre hfi (D.stab i g1 g3);have hpd:getS (updO fr (dstO ops j) v) (dstO ops i)=getS fr (dstO ops i):=by
        rw [hd];simp only [getS];exact zj4 λe=>f2 j (Ne.symm g2) e
       rw [hpd,<-zar (fr:=fr)]
       ·exact hany hmem' h' _ ⟨e0,rfl⟩
       ·intro t ht;rw [zj4];intro e;exact hjV (ziq D.ord i g1 j (f3 j t e ht))
     ·have hji:i≠j:=λe=>hn (by simp [e]);exact (List.mem_erase_of_ne hji).2 (hL i hi (λh=>hn (by simp [h])))
end
end
section
open Go.RowKit
def bit1 (i:Nat):Nat:=Nat.pow 2 i
def z1s (m i:Nat):Bool:=Nat.beq (Nat.land (Nat.shiftRight m i) 1) 1
def orM (a b:Nat):Nat:=Nat.lor a b
def zr4 (l:List Nat):Nat:=l.foldr (λk m=>orM m (bit1 k)) 0
theorem zk0 (m i:Nat):z1s m i=m.testBit i:=by
 have h:Nat.land (Nat.shiftRight m i) 1=(m >>> i)%2:=Nat.and_one_is_mod _;unfold z1s;rw [h,Nat.testBit_eq_decide_div_mod_eq,Nat.shiftRight_eq_div_pow];rw [Bool.eq_iff_iff,Nat.beq_eq,decide_eq_true_eq]
theorem z5x (a b i:Nat):z1s (orM a b) i=(z1s a i||z1s b i):=by
 simp only [zk0];exact Nat.testBit_or a b i
theorem za3 (k i:Nat):z1s (bit1 k) i=decide (k=i):=by
 simp only [zk0];exact Nat.testBit_two_pow
theorem z5y (i:Nat):z1s 0 i=false:=by simp [zk0]
theorem zoj (l:List Nat) (i:Nat):z1s (zr4 l) i=true↔i∈l:=by
 induction l with
 | nil=>simp [zr4,z5y]
 | cons k l ih=>
  show z1s (orM (zr4 l) (bit1 k)) i=true↔_
  rw [z5x,za3,Bool.or_eq_true,ih,List.mem_cons,decide_eq_true_eq];exact ⟨λh=>h.elim Or.inr (λe=>Or.inl e.symm),λh=>h.elim (λe=>Or.inr e.symm) Or.inl⟩
def inM (V m:Nat):Bool:=Nat.beq (Nat.land m V) m
theorem inM_iff (V m:Nat):inM V m=true↔∀ k,z1s m k=true->z1s V k=true:=by
 unfold inM;rw [Nat.beq_eq];simp only [zk0];constructor
 ·intro h k hk;have:=congrArg (λx=>Nat.testBit x k) h;replace this:Nat.testBit (Nat.land m V) k=m.testBit k:=this;have h2:Nat.testBit (Nat.land m V) k=(m.testBit k&&V.testBit k):=Nat.testBit_and m V k;rw [h2,hk,Bool.true_and] at this;exact this
 ·intro h;refine Nat.eq_of_testBit_eq λk=>?_;have h2:Nat.testBit (Nat.land m V) k=(m.testBit k&&V.testBit k):=Nat.testBit_and m V k;rw [h2]
  cases hm:m.testBit k with
  | false=>rfl
  | true=>rw [h k hm];rfl
def zs1 (o:Oper):List Nat:=(o.after.toList.filter (Region.binds .any)).map (·.on)
theorem zgt {ops:Array Oper} {j i:Nat}:depB ops j i=true↔∃ o,ops[j]?=some o/\i∈zs1 o:=by
 unfold depB zs1
 cases ops[j]? with
 | none=>simp
 | some o=>
  simp only [Array.any_eq_true',Bool.and_eq_true,beq_iff_eq,Option.some.injEq,List.mem_map,List.mem_filter,exists_eq_left',Array.mem_toList_iff,and_assoc]
def zci (ops:Array Oper) (o:Oper) (t:Nat):Bool:=(zs1 o).any λk=>match dstO ops k with | some d=>Nat.beq d t | none=>false
def badM (ops:Array Oper):Nat:=ops.toList.foldr (λo m=>(o.looksAt ops).foldr (λt m=>if zci ops o t then m else orM m (bit1 t)) m) 0
def dstsL (ops:Array Oper):List Nat:=ops.toList.filterMap (·.dst)
def zv7:List Nat->Nat->Bool
 | [],_=>true
 | d::r,m=>!z1s m d&&zv7 r (orM m (bit1 d))
def floatF (ch:Nat->Bool) (ops:Array Oper) (bad all:Nat) (o:Oper):Bool:=
 match o.dst with
 | some d=>zp5 (byO ch o.dst) o.op&&!z1s bad d&&(o.looksAt ops).all (λt=>(zci ops o t||!z1s all t)&&!Nat.beq t d)
 | none=>false
def zqx (f:Oper->Bool):Nat->List Oper->Nat
 | _,[]=>0
 | i,o::r=>if f o then orM (zqx f (i+1) r) (bit1 i) else zqx f (i+1) r
def flT (ch:Nat->Bool) (ops:Array Oper):Nat:=if zv7 (dstsL ops) 0 then zqx (floatF ch ops (badM ops) (zr4 (dstsL ops))) 0 ops.toList else 0
theorem zqy (f:Oper->Bool):∀ (l:List Oper) (i j:Nat),z1s (zqx f i l) j=true↔∃ k o,l[k]?=some o/\f o=true/\j=i+k
 | [],i,j=>by simp [zqx,z5y]
 | o::r,i,j=>by
  have ih:=zqy f r (i+1) j;unfold zqx;by_cases hf:f o=true
  ·rw [if_pos hf,z5x,za3,Bool.or_eq_true,ih,decide_eq_true_eq];constructor
   ·rintro (⟨k,x,h1,h2,h3⟩ | h)
    ·exact ⟨k+1,x,by simpa using h1,h2,by omega⟩
    ·exact ⟨0,o,rfl,hf,by omega⟩
   ·rintro ⟨k,x,h1,h2,h3⟩
    cases k with
    | zero=>exact Or.inr (by omega)
    | succ k=>exact Or.inl ⟨k,x,by simpa using h1,h2,by omega⟩
  ·rw [if_neg hf,ih];constructor
   ·rintro ⟨k,x,h1,h2,h3⟩;exact ⟨k+1,x,by simpa using h1,h2,by omega⟩
   ·rintro ⟨k,x,h1,h2,h3⟩
    cases k with
    | zero=>simp at h1;subst h1;exact absurd h2 hf
    | succ k=>exact ⟨k,x,by simpa using h1,h2,by omega⟩
theorem zr5:∀ (l:List Nat) (m:Nat),zv7 l m=true->l.Nodup/\∀ d∈l,z1s m d=false
 | [],_,_=>⟨List.nodup_nil,λd hd=>by cases hd⟩
 | d::r,m,h=>by
  simp only [zv7,Bool.and_eq_true,Bool.not_eq_true'] at h;obtain ⟨h1,h2⟩:=zr5 r _ h.2;refine ⟨List.nodup_cons.2 ⟨λhd=>?_,h1⟩,λx hx=>?_⟩
  ·have:=h2 d hd;rw [z5x,za3] at this;simp at this
  ·rcases List.mem_cons.1 hx with rfl | hx
   ·exact h.1
   ·have:=h2 x hx;rw [z5x] at this;simp only [Bool.or_eq_false_iff] at this;exact this.1
theorem zgu:∀ {l:List Oper},(l.filterMap (·.dst)).Nodup->∀ {i j:Nat} {o p:Oper} {d:Nat},l[i]?=some o->l[j]?=some p->o.dst=some d->p.dst=some d->i=j
 | [],_,i,j,o,p,d,h1,_,_,_=>by simp at h1
 | x::l,hn,i,j,o,p,d,h1,h2,h3,h4=>by
  have hsub:(l.filterMap (·.dst)).Nodup:=by
   cases hx:x.dst with
   | none=>rw [List.filterMap_cons_none hx] at hn;exact hn
   | some e=>rw [List.filterMap_cons_some hx] at hn;exact (List.nodup_cons.1 hn).2
  have hout:∀ e,x.dst=some e->e∉l.filterMap (·.dst):=λe hx=>by
   rw [List.filterMap_cons_some hx] at hn;exact (List.nodup_cons.1 hn).1
  cases i with
  | zero=>
   simp at h1;subst h1
   cases j with
   | zero=>rfl
   | succ j=>
    simp at h2;exact absurd (List.mem_filterMap.2 ⟨p,List.mem_of_getElem? h2,h4⟩) (hout d h3)
  | succ i=>
   simp at h1
   cases j with
   | zero=>
    simp at h2;subst h2;exact absurd (List.mem_filterMap.2 ⟨o,List.mem_of_getElem? h1,h3⟩) (hout d h4)
   | succ j=>
    simp at h2;rw [zgu hsub h1 h2 h3 h4]
theorem zqs {ops:Array Oper} {o:Oper} {t:Nat}:zci ops o t=true↔∃ k∈zs1 o,dstO ops k=some t:=by
 unfold zci;rw [List.any_eq_true];constructor
 ·rintro ⟨k,h1,h2⟩;refine ⟨k,h1,?_⟩
  cases hd:dstO ops k with
  | none=>rw [hd] at h2;cases h2
  | some d=>rw [hd] at h2;simp only [Nat.beq_eq] at h2;rw [h2]
 ·rintro ⟨k,h1,h2⟩;exact ⟨k,h1,by rw [h2];simp⟩
theorem zob {ops:Array Oper} {o:Oper} {t:Nat}:∀ (l:List Nat) (m:Nat),(z1s m t=true\/(t∈l/\zci ops o t=false))->z1s (l.foldr (λt m=>if zci ops o t then m else orM m (bit1 t)) m) t=true
 | [],m,h=>by
  rcases h with h | ⟨h,-⟩
  ·exact h
  ·cases h
 | x::l,m,h=>by
  simp only [List.foldr_cons];by_cases hx:x=t/\zci ops o t=false
  ·obtain ⟨rfl,hx⟩:=hx;rw [hx];simp only [Bool.false_eq_true,if_false];rw [z5x,za3];simp
  ·have ih:=zob l m (by
    rcases h with h | ⟨h,h2⟩
    ·exact Or.inl h
    ·rcases List.mem_cons.1 h with e | h
     ·exact absurd ⟨e.symm,h2⟩ hx
     ·exact Or.inr ⟨h,h2⟩)
   split
   ·exact ih
   ·rw [z5x,ih,Bool.true_or]
theorem bad_spec {ops:Array Oper} {t:Nat} (hb:z1s (badM ops) t=false):∀ o∈ops.toList,t∈o.looksAt ops->zci ops o t=true:=by
 unfold badM at hb;have key:∀ (l:List Oper),(∃ o∈l,t∈o.looksAt ops/\zci ops o t=false)->z1s (l.foldr (λo m=>(o.looksAt ops).foldr (λt m=>if zci ops o t then m else orM m (bit1 t)) m) 0) t=true:=by
  intro l
  induction l with
  | nil=>rintro ⟨o,h,-⟩;cases h
  | cons x l ih=>
   rintro ⟨o,h,h2,h3⟩;simp only [List.foldr_cons];rcases List.mem_cons.1 h with rfl | h
   ·exact zob _ _ (Or.inr ⟨h2,h3⟩)
   ·have:=ih ⟨o,h,h2,h3⟩;by_cases hx:t∈x.looksAt ops/\zci ops x t=false
    ·exact zob _ _ (Or.inr hx)
    ·have mono:∀ (l:List Nat) (m:Nat),z1s m t=true->z1s (l.foldr (λt m=>if zci ops x t then m else orM m (bit1 t)) m) t=true:=by
      intro l
      induction l with
      | nil=>intro m h;exact h
      | cons y l ih2=>
       intro m h;simp only [List.foldr_cons];split
       ·exact ih2 m h
       ·rw [z5x,ih2 m h,Bool.true_or]
     exact mono _ _ this
 intro o ho ht
 cases hd:zci ops o t with
 | true=>rfl
 | false=>rw [key _ ⟨o,ho,ht,hd⟩] at hb;cases hb
theorem flT_float {ch:Nat->Bool} {ops:Array Oper} {i:Nat} (h:z1s (flT ch ops) i=true):zhw ch ops i=true:=by
 unfold flT at h;by_cases hn:zv7 (dstsL ops) 0=true
 ·rw [if_pos hn] at h;have hnd:=(zr5 _ _ hn).1;obtain ⟨k,o,ho,hf,rfl⟩:=(zqy _ _ _ _).1 h;rw [Nat.zero_add];have hoA:ops[k]?=some o:=by simpa using ho
  unfold floatF at hf;unfold zhw;rw [hoA]
  cases hd:o.dst with
  | none=>rw [hd] at hf;cases hf
  | some d=>
   rw [hd] at hf;simp only [Bool.and_eq_true,Bool.not_eq_true',List.all_eq_true,Bool.or_eq_true] at hf;obtain ⟨⟨h1,h2⟩,h3⟩:=hf;simp only [hd,Bool.and_eq_true,Bool.not_eq_true',List.all_eq_true,Bool.or_eq_true,List.mem_range];have get:∀ {j p},ops[j]?=some p->ops.toList[j]?=some p:=λhp=>by rw [Array.getElem?_toList];exact hp
   refine ⟨⟨h1,λj hj=>⟨⟨?_,?_⟩,?_⟩⟩,?_⟩
   ·
    cases hl:z99 ops j d with
    | false=>exact Or.inl rfl
    | true=>
     right
     cases hp:ops[j]? with
     | none=>unfold z99 at hl;rw [hp] at hl;cases hl
     | some p=>
      have hlp:d∈p.looksAt ops:=(zk5 hp).1 hl;have:=bad_spec h2 p (by simpa using Array.mem_of_getElem? hp) hlp;obtain ⟨q,hq1,hq2⟩:=zqs.1 this;rw [zgt];refine ⟨p,hp,?_⟩;unfold dstO at hq2
      cases hq:ops[q]? with
      | none=>rw [hq] at hq2;cases hq2
      | some r=>
       rw [hq] at hq2;have:q=k:=zgu hnd (get hq) (get hoA) hq2 hd;subst this;exact hq1
   ·by_cases e:j=k
    ·left;simp [e]
    ·right
     simp only [bne_iff_ne,ne_eq];intro he;unfold dstO at he
     cases hp:ops[j]? with
     | none=>rw [hp] at he;cases he
     | some p=>
      rw [hp] at he;exact e (zgu hnd (get hp) (get hoA) he hd)
   ·cases he:dstO ops j with
    | none=>rfl
    | some t=>
     simp only [Bool.or_eq_true,Bool.not_eq_true']
     cases hl:z99 ops k t with
     | false=>exact Or.inl rfl
     | true=>
      right
      have hlo:t∈o.looksAt ops:=(zk5 hoA).1 hl;unfold dstO at he
      cases hp:ops[j]? with
      | none=>rw [hp] at he;cases he
      | some p=>
       rw [hp] at he;rcases (h3 t hlo).1 with h4 | h4
       ·obtain ⟨q,hq1,hq2⟩:=zqs.1 h4;unfold dstO at hq2
        cases hq:ops[q]? with
        | none=>rw [hq] at hq2;cases hq2
        | some r=>
         rw [hq] at hq2;have:q=j:=zgu hnd (get hq) (get hp) hq2 he;subst this;exact zgt.2 ⟨o,hoA,hq1⟩
       ·have:t∈dstsL ops:=List.mem_filterMap.2 ⟨p,by simpa using Array.mem_of_getElem? hp,he⟩;rw [(zoj _ _).2 this] at h4;cases h4
   ·cases hl:z99 ops k d with
    | false=>rfl
    | true=>
     have:=(h3 d ((zk5 hoA).1 hl)).2;simp at this
 ·rw [if_neg hn,z5y] at h;cases h
def zsx:List Oper->Nat->List Nat->List Nat
 | [],_,acc=>acc
 | o::r,m,acc=>zsx r (m+1) ((zs1 o).foldr (λk x=>orM (orM x (bit1 k)) (if Nat.blt k m then acc.getD (m-1-k) 0 else 0)) 0::acc)
def reachT (ops:Array Oper):List Nat:=zsx ops.toList 0 []
def reachM (ops:Array Oper) (k:Nat):Nat:=if Nat.blt k ops.size then (reachT ops).getD (ops.size-1-k) 0 else 0
def finT (ops:Array Oper) (fl:Nat) (V:List Nat) (i:Nat):Bool:=z1s (V.foldr (λk m=>if z1s fl k then m else orM m (reachM ops k)) 0) i
theorem zrf {ops:Array Oper}:∀ (r:List Oper) (m:Nat) (acc:List Nat),acc.length=m->ops.toList=ops.toList.take m++r->m<=ops.size->
  (∀ j,j<m->∀ i,z1s (acc.getD (m-1-j) 0) i=true->∃ n,zeo ops n j i=true)->
  (zsx r m acc).length=ops.size/\∀ j,j<ops.size->∀ i,z1s ((zsx r m acc).getD (ops.size-1-j) 0) i=true->∃ n,zeo ops n j i=true
 | [],m,acc,hl,he,hm,h=>by
  have:m=ops.size:=by
   have:=congrArg List.length he;simp at this;omega
  subst this;exact ⟨hl,h⟩
 | o::r,m,acc,hl,he,hm,h=>by
  have hmo:ops.toList[m]?=some o:=by
   rw [he,List.getElem?_append_right (by simp;omega)];simp only [List.length_take,Array.length_toList];rw [Nat.min_eq_left hm,Nat.sub_self];rfl
  have hmA:ops[m]?=some o:=by simpa using hmo
  have hms:m<ops.size:=(Array.getElem?_eq_some_iff.1 hmA).1;refine zrf r (m+1) _ (by simp [hl]) ?_ (by omega) ?_
  ·have ht:ops.toList.take (m+1)=ops.toList.take m++[o]:=by rw [List.take_add_one,hmo];rfl
   rw [ht,List.append_assoc];exact he
  ·intro j hj i hi;by_cases e:j=m
   ·subst e;rw [show j+1-1-j=0 by omega] at hi;simp only [List.getD_cons_zero] at hi;have key:∀ (l:List Nat),(∀ k∈l,k∈zs1 o)->z1s (l.foldr (λk x=>orM (orM x (bit1 k)) (if Nat.blt k j then acc.getD (j-1-k) 0 else 0)) 0) i=true->∃ n,zeo ops n j i=true:=by
     intro l
     induction l with
     | nil=>intro _ h;simp [z5y] at h
     | cons k l ih=>
      intro hk hb;simp only [List.foldr_cons] at hb;rw [z5x,z5x,Bool.or_eq_true,Bool.or_eq_true] at hb;have hkd:=hk k (List.mem_cons_self ..);rcases hb with (hb | hb) | hb
      ·exact ih (λk hk'=>hk k (List.mem_cons_of_mem _ hk')) hb
      ·rw [za3,decide_eq_true_eq] at hb;subst hb;exact ⟨1,by simp [zeo,zgt.2 ⟨o,hmA,hkd⟩]⟩
      ·by_cases hlt:Nat.blt k j=true
       ·rw [if_pos hlt] at hb;have hkj:k<j:=by simp [Nat.blt] at hlt;omega
        obtain ⟨n,hn⟩:=h k hkj i hb;refine ⟨n+1,?_⟩;simp only [zeo,Bool.or_eq_true,List.any_eq_true,List.mem_range,Bool.and_eq_true];exact Or.inr ⟨k,by omega,zgt.2 ⟨o,hmA,hkd⟩,hn⟩
       ·rw [if_neg hlt,z5y] at hb;cases hb
    exact key _ (λk hk=>hk) hi
   ·have hj':j<m:=by omega
    rw [show m+1-1-j=(m-1-j)+1 by omega,List.getD_cons_succ] at hi;exact h j hj' i hi
theorem finT_ok {ops:Array Oper} {fl:Nat} {V:List Nat} {i:Nat} (h:finT ops fl V i=true):∃ k∈V,z1s fl k=false/\∃ n,zeo ops n k i=true:=by
 unfold finT at h
 induction V with
 | nil=>simp [z5y] at h
 | cons k V ih=>
  simp only [List.foldr_cons] at h;have lift:(∃ k∈V,z1s fl k=false/\∃ n,zeo ops n k i=true)->∃ k'∈k::V,z1s fl k'=false/\∃ n,zeo ops n k' i=true:=by
   rintro ⟨k',h1,h2⟩;exact ⟨k',List.mem_cons_of_mem _ h1,h2⟩
  cases hk:z1s fl k with
  | true=>rw [hk,if_pos rfl] at h;exact lift (ih h)
  | false=>
   rw [hk,if_neg Bool.false_ne_true,z5x,Bool.or_eq_true] at h;rcases h with h | h
   ·exact lift (ih h)
   ·unfold reachM at h;by_cases hlt:Nat.blt k ops.size=true
    ·rw [if_pos hlt] at h;have hkj:k<ops.size:=by simp [Nat.blt] at hlt;omega
     obtain ⟨-,h2⟩:=zrf (ops:=ops) ops.toList 0 [] rfl (by simp) (by omega) (λj hj=>by omega);exact ⟨k,List.mem_cons_self ..,hk,h2 k hkj i h⟩
    ·rw [if_neg hlt,z5y] at h;cases h
def zp7:Nat->List Oper->List (Nat×Nat)
 | _,[]=>[]
 | i,o::r=>(i,zr4 (zs1 o))::zp7 (i+1) r
def zwx (i:Nat):List (Nat×Nat)->List (Nat×Nat)
 | []=>[]
 | p::r=>if Nat.beq p.1 i then r else p::zwx i r
def zro (P:Program) (ch:Nat->Bool) (ops:Array Oper) (fl:Nat) (Q:Fr->z00->Prop):Nat->List (Nat×Nat)->Nat->List Nat->Fr->z00->Prop
 | 0,_,_,_,fr,h=>Q fr h
 | n+1,rem,Vm,V,fr,h=>match rem.find? (λp=>z1s fl p.1&&inM Vm p.2) with
  | some p=>zt9 P ch ops p.1 fr h λv h'=>zro P ch ops fl Q n (zwx p.1 rem) (orM Vm (bit1 p.1)) (p.1::V) (updO fr (dstO ops p.1) v) h'
  | none=>match (rem.filter (λp=>inM Vm p.2)).map (·.1) with
   | []=>Q fr h
   | r=>allP (λj=>zt9 P ch ops j fr h λv h'=>stabs P ch ops (z1s fl) (finT ops fl) (j::V) (updO fr (dstO ops j) v) h'/\zro P ch ops fl Q n (zwx j rem) (orM Vm (bit1 j)) (j::V) (updO fr (dstO ops j) v) h') r
def zlh (ops:Array Oper) (i:Nat):Nat:=match ops[i]? with | some o=>zr4 (zs1 o) | none=>0
def remV (ops:Array Oper) (V:List Nat):List (Nat×Nat):=((List.range ops.size).filter (λi=>!V.contains i)).map λi=>(i,zlh ops i)
theorem zrg {ops:Array Oper}:∀ (l:List Oper) (i:Nat),(∀ k,l[k]?=ops[i+k]?)->zp7 i l=(List.range' i l.length).map λi=>(i,zlh ops i)
 | [],i,_=>rfl
 | o::l,i,h=>by
  have h0:=h 0;simp at h0;have ih:=zrg l (i+1) (λk=>by have:=h (k+1);simp at this;rw [this];congr 1;omega);simp only [zp7,List.length_cons,List.range'_succ,List.map_cons,ih]
  congr 1
  unfold zlh;rw [<-h0]
theorem zxt (ops:Array Oper):zp7 0 ops.toList=remV ops []:=by
 rw [zrg (ops:=ops) _ 0 (λk=>by simp)];unfold remV;simp only [List.range_eq_range',Array.length_toList]
 congr 1
 symm
 refine List.filter_eq_self.2 λa _=>by simp
theorem zu6 {g:Nat->Nat} {j:Nat}:∀ (L:List Nat),L.Nodup->zwx j (L.map λi=>(i,g i))=(L.filter (λi=>i != j)).map λi=>(i,g i)
 | [],_=>rfl
 | x::L,h=>by
  obtain ⟨h1,h2⟩:=List.nodup_cons.1 h;simp only [List.map_cons,zwx,Nat.beq_eq];by_cases e:x=j
  ·subst e;have:L.filter (λi=>i != x)=L:=List.filter_eq_self.2 λa ha=>by simp only [bne_iff_ne,ne_eq];rintro rfl;exact h1 ha
   simp [this]
  ·simp [e,zu6 L h2]
theorem zw3 (ops:Array Oper) (V:List Nat) (j:Nat):zwx j (remV ops V)=remV ops (j::V):=by
 unfold remV;rw [zu6 _ ((List.nodup_range).filter _),List.filter_filter]
 congr 1
 refine List.filter_congr λi _=>?_;rw [List.contains_cons,Bool.not_or];rfl
theorem zvy {ops:Array Oper} (hdl:∀ j k,depB ops j k=true->k<ops.size) {V:List Nat} {Vm:Nat} (hV:∀ k,z1s Vm k=V.contains k):zam ops V=((remV ops V).filter (λp=>inM Vm p.2)).map (·.1):=by
 unfold zam remV;rw [List.filter_map,List.map_map,List.filter_filter];have:((λx:Nat×Nat=>x.1) ∘ λi=>(i,zlh ops i))=id:=rfl;rw [this,List.map_id];refine List.filter_congr λi hi=>?_;have hi:i<ops.size:=by simpa using hi
 rw [Bool.and_comm]
 congr 1
 rw [Bool.eq_iff_iff];simp only [Function.comp,List.all_eq_true,List.mem_range,Bool.or_eq_true,Bool.not_eq_true',inM_iff,hV];have hd:∀ k,z1s (zlh ops i) k=depB ops i k:=λk=>by
  rw [Bool.eq_iff_iff,zgt];unfold zlh;rw [Array.getElem?_eq_getElem hi];simp only [zoj,Option.some.injEq,exists_eq_left']
 simp only [hd];constructor
 ·intro h k hk;rcases h k (hdl _ _ hk) with h | h
  ·rw [hk] at h;cases h
  ·exact h
 ·intro h k hk
  cases hb:depB ops i k with
  | false=>exact Or.inl rfl
  | true=>exact Or.inr (h k hb)
theorem find_eq {ops:Array Oper} (hdl:∀ j k,depB ops j k=true->k<ops.size) {V:List Nat} {Vm fl:Nat} (hV:∀ k,z1s Vm k=V.contains k):(zam ops V).find? (z1s fl)=((remV ops V).find? (λp=>z1s fl p.1&&inM Vm p.2)).map (·.1):=by
 rw [zvy hdl hV,List.find?_map,List.find?_filter]
 congr 1
 congr 1
 funext p;simp only [Function.comp,Bool.and_comm];by_cases h1:inM Vm p.2=true <;> simp [h1]
theorem zpk {P:Program} {ch:Nat->Bool} {ops:Array Oper} {fl:Nat} {Q:Fr->z00->Prop} (hdl:∀ j k,depB ops j k=true->k<ops.size):∀ (n:Nat) (Vm:Nat) (V:List Nat) (fr:Fr) (h:z00),(∀ k,z1s Vm k=V.contains k)->
  zro P ch ops fl Q n (remV ops V) Vm V fr h=zl7 P ch ops (z1s fl) (finT ops fl) Q n V fr h
 | 0,Vm,V,fr,h,hV=>rfl
 | n+1,Vm,V,fr,h,hV=>by
  have step:∀ j,(∀ k,z1s (orM Vm (bit1 j)) k=(j::V).contains k):=λj k=>by
   rw [z5x,za3,hV,List.contains_cons,Bool.or_comm]
   congr 1
   rw [Bool.eq_iff_iff,decide_eq_true_eq,beq_iff_eq];exact eq_comm
  unfold zro zl7;rw [find_eq hdl hV]
  cases hf:(remV ops V).find? (λp=>z1s fl p.1&&inM Vm p.2) with
  | some p=>
   simp only [Option.map_some]
   congr 1
   funext v h';rw [zw3];exact zpk hdl n _ _ _ _ (step p.1)
  | none=>
   simp only [Option.map_none];rw [<-zvy hdl hV];have:(λj=>zt9 P ch ops j fr h λv h'=>stabs P ch ops (z1s fl) (finT ops fl) (j::V) (updO fr (dstO ops j) v) h'/\zro P ch ops fl Q n (zwx j (remV ops V)) (orM Vm (bit1 j)) (j::V) (updO fr (dstO ops j) v) h')=(λj=>zt9 P ch ops j fr h λv h'=>stabs P ch ops (z1s fl) (finT ops fl) (j::V) (updO fr (dstO ops j) v) h'/\zl7 P ch ops (z1s fl) (finT ops fl) Q n (j::V) (updO fr (dstO ops j) v) h'):=by
    funext j
    congr 1
    funext v h';rw [zw3,zpk hdl n _ _ _ _ (step j)]
   rw [this]
   all_goals (cases zam ops V <;> rfl)
def edgesB (ops:Array Oper):Bool:=ops.toList.all λo=>o.after.toList.all λe=>Nat.blt e.on ops.size
def wpDraw (P:Program) (N:Nat) (ch:Nat->Bool) (ops:Array Oper) (Q:Fr->z00->Prop) (fr:Fr) (h:z00):Prop:=
 edgesB ops=true/\zro P ch ops (flT ch ops) Q ops.size (zp7 0 ops.toList) 0 [] fr h
theorem zwh {ro:Option Nat} {P:Program} {N:Nat} {ds:List Deferred} {ch:Nat->Bool} {id:Nat} {ops:Array Oper} {Q:Fr->z00->Prop} {fr:Fr} {h:z00} {B:Nat} {c:Ctx} {w:World} {a:Act} {Q':Exit->Act->World->Prop} (hm:P.follows .mixedOrders=true) (hok:zfl N ops.toList=true) (W:WRel B c h w) (F:z4b N ds c w fr a)
  (H:wpDraw P N ch ops Q fr h) (hQ:∀ c' fr' h' a' w',Ext B c w c' w'->WRel B c' h' w'->z4b N ds c' w' fr' a'->Q fr' h'->Q' .normal a' w'):(Code.region id ops true).wpIn (z5u ro) 0 P Q' a w:=by
 obtain ⟨he,H⟩:=H;refine wpIn_region_any hm ?_;have hdl:∀ j k,depB ops j k=true->k<ops.size:=λj k hk=>by
  obtain ⟨o,ho,hk⟩:=zgt.1 hk;unfold zs1 at hk;obtain ⟨e,he1,rfl⟩:=List.mem_map.1 hk;have h1:=List.all_eq_true.1 he o (by simpa using Array.mem_of_getElem? ho);have h2:=List.all_eq_true.1 h1 e (List.mem_filter.1 he1).1;simp [Nat.blt] at h2;omega
 rw [zxt,zpk hdl _ _ _ _ _ (by simp [z5y])] at H;have hrep:∀ i,(Array.replicate ops.size false).getD i false=false:=λi=>by
  rw [Array.getD_eq_getD_getElem?]
  cases hx:(Array.replicate ops.size false)[i]? with
  | none=>rfl
  | some b=>simp [Array.getElem?_replicate] at hx;simp [hx.2]
 refine zy3 (c0:=c) (w0:=w) (λi hi=>flT_float hi) (λV i hi=>finT_ok hi) hdl hok hQ ops.size _ a _ c [] fr h ops.size (List.range ops.size) (List.range ops.size) ?_ ⟨?_,by simp,⟨F.1,F.2.1⟩,by simp,λi hi=>?_,λi k hi=>?_,trivial,by simp,λt _=>?_,by simp⟩ H (λi hi _=>by simpa using hi) (by simp) (λi hi _=>by simpa using hi) (by simp)
 ·exact Ext.drew B c w
 ·exact WRel.drew W
 ·rw [hrep] at hi;cases hi
 ·rw [hrep] at hi;cases hi
 ·exact VRel.mono (Ext.drew B c w) (F.2.2 t)
end
section
open Go.RowKit
def codeOk (N:Nat):Code->Bool
 | .skip | .exit _ | .ret=>true
 | .region _ ops _=>zfl N ops.toList
 | .seq a b=>codeOk N a&&codeOk N b
 | .cond _ a b=>codeOk N a&&codeOk N b
 | .block _ b=>codeOk N b
 | .loop b=>codeOk N b
 | .rangeFunc ..=>true
 | _=>false
def zq3 (v:AV) (T F:Prop):Prop:=
 match v with
 | .bool b=>if b then T else F
 | .unkb=>T/\F
 | _=>False
def frOf:List (Nat×AV)->Fr
 | [],_=>.und
 | (k,v)::r,i=>if i=k then v else frOf r i
def zhs (L:List Nat) (fr:Fr):Fr:=frOf (L.map λi=>(i,fr i))
structure Cfg where
 ch:Nat->Bool
 lv:Nat->List Nat
 cut:Nat->Bool
 rc:Nat->Nat->Option (List Nat):=λ_ _=>none
def z8n:Code->Option Nat
 | .region id _ _=>some id
 | .seq a b=>match z8n a with | some k=>some k | none=>z8n b
 | .cond _ a b=>match z8n a with | some k=>some k | none=>z8n b
 | .block _ b=>z8n b
 | .loop b=>z8n b
 | _=>none
def zdw:Code->Nat->Bool
 | .exit id,k=>id == k
 | .seq a b,k=>zdw a k||zdw b k
 | .cond _ a b,k=>zdw a k||zdw b k
 | .block _ b,k=>zdw b k
 | .loop b,k=>zdw b k
 | .rangeFunc _ _ _ b,k=>zdw b k
 | _,_=>false
def pIdx (i k:Nat) (T F:Prop):Prop:=if i=k then T else F
def selE (G:Nat->Prop):List Nat->Nat->Prop
 | [],_=>False
 | k::ks,i=>pIdx i k (G k) (selE G ks i)
theorem zw7 {G:Nat->Prop} {l:List Nat} {i:Nat} (h:selE G l i):G i:=by
 induction l with
 | nil=>exact h.elim
 | cons k ks ih=>
  simp only [selE,pIdx] at h;split at h
  ·rename_i e;subst e;exact h
  ·exact ih h
def Cut (A:(Fr->z00->Prop)->Prop) (B:Fr->z00->Prop):Prop:=∃ J:Fr->z00->Prop,A J/\∀ fr h,J fr h->B fr h
def wpc (P:Program) (N:Nat) (cfg:Cfg):List Nat->Code->Fr->z00->(z1p->Fr->z00->Prop)->Prop
 | bl,.skip,fr,h,Q=>Q .normal fr h
 | bl,.region id ops draw,fr,h,Q=>match draw with
  | false=>wpOps P cfg.ch ops (cfg.rc id) (λfr' h'=>Q .normal fr' h') ops.toList fr h
  | true=>wpDraw P N cfg.ch ops (λfr' h'=>Q .normal fr' h') fr h
 | bl,.seq a b,fr,h,Q=>match z8n b with
  | some k=>match cfg.cut k with
   | true=>∃ J:Fr->z00->Prop,wpc P N cfg bl a fr h (zba (λfr' h'=>J (zhs (cfg.lv k) fr') h') (λid fr' h'=>Q (.exit id) fr' h') (λfr' h'=>Q .ret fr' h'))/\∀ fr' h',J fr' h'->wpc P N cfg bl b fr' h' Q
   | false=>wpc P N cfg bl a fr h (zba (λfr' h'=>wpc P N cfg bl b fr' h' Q) (λid fr' h'=>Q (.exit id) fr' h') (λfr' h'=>Q .ret fr' h'))
  | none=>wpc P N cfg bl a fr h (zba (λfr' h'=>wpc P N cfg bl b fr' h' Q) (λid fr' h'=>Q (.exit id) fr' h') (λfr' h'=>Q .ret fr' h'))
 | bl,.cond x a b,fr,h,Q=>zq3 (aEv fr x) (wpc P N cfg bl a fr h Q) (wpc P N cfg bl b fr h Q)
 | bl,.block id b,fr,h,Q=>wpc P N cfg (id::bl) b fr h (zba (λfr' h'=>Q .normal fr' h') (λid' fr' h'=>pIdx id' id (Q .normal fr' h') (Q (.exit id') fr' h')) (λfr' h'=>Q .ret fr' h'))
 | bl,.loop b,fr,h,Q=>match z8n b with
  | some k=>WP P N (.loop b) (zhs (cfg.lv k) fr) h (zba (λ_ _=>False) (λid fr' h'=>selE (λk=>Q (.exit k) fr' h') (bl.filter (zdw b)) id) (λfr' h'=>Q .ret fr' h'))
  | none=>False
 | bl,.rangeFunc g ps asn bd,fr,h,Q=>match z8n (.seq asn bd) with
  | some k=>WP P N (.rangeFunc g ps asn bd) (zhs (cfg.lv (k+2000000)) fr) h (zba (λfr' h'=>Q .normal fr' h') (λid fr' h'=>selE (λk=>Q (.exit k) fr' h') (bl.filter (zdw bd)) id) (λfr' h'=>Q .ret fr' h'))
  | none=>False
 | bl,.exit id,fr,h,Q=>Q (.exit id) fr h
 | bl,.ret,fr,h,Q=>Q .ret fr h
 | _,_,_,_,_=>False
section
variable {P:Program} {N:Nat} {ds:List Deferred} {cfg:Cfg} {ro:Option Nat}
theorem zwn.weak {B:Nat} {ds:List Deferred} {c:Ctx} {w:World} {Q Q':z1p->Fr->z00->Prop} (hq:∀ e fr h,Q e fr h->Q' e fr h) {e:Exit} {a:Act} {w2:World} (H:zwn B N ds c w Q e a w2):zwn B N ds c w Q' e a w2:=by
 obtain ⟨Ds,c',fr',h',ae,h1,h2,h3,h4,h5,h6⟩:=H;exact ⟨Ds,c',fr',h',ae,h1,h2,h3,h4,h5,hq _ _ _ h6⟩
theorem WP.mono {code:Code} {fr:Fr} {h:z00} {Q Q':z1p->Fr->z00->Prop} (H:WP P N code fr h Q) (hq:∀ e fr h,Q e fr h->Q' e fr h):WP P N code fr h Q':=
 λro ds B c w a hro W F=>wpIn_mono (H ro ds B c w a hro W F) λe a' w' hp=>hp.weak hq
theorem zwn.trans {B:Nat} {ds:List Deferred} {c c':Ctx} {w w':World} {Ds:List Nat} {Q:z1p->Fr->z00->Prop} (E:Ext B c w c' w') (M:Marks w w' Ds) {e:Exit} {a:Act} {w2:World} (H:zwn B N (Ds.map mark++ds) c' w' Q e a w2):zwn B N ds c w Q e a w2:=by
 obtain ⟨Es,c2,fr',h',ae,h1,h2,h3,h4,h5,h6⟩:=H;exact ⟨Es++Ds,c2,fr',h',ae,h1,E.trans h2,h3,by simpa using h4,M.more h5 E.below.size h2.oth,h6⟩
theorem zng {N:Nat} {B:Nat} {c:Ctx} {w:World} {fr:Fr} {a:Act} (F:z4b N ds c w fr a) (L:List Nat):z4b N ds c w (zhs L fr) a:=by
 refine ⟨F.1,F.2.1,λi=>?_⟩;unfold zhs
 induction L with
 | nil=>simp [frOf,VRel]
 | cons k L ih=>
  simp only [List.map_cons,frOf];split
  ·rename_i e;subst e;exact F.2.2 i
  ·exact ih
theorem WP.zhs {code:Code} {fr:Fr} {h:z00} {Q:z1p->Fr->z00->Prop} (L:List Nat) (H:WP P N code (zhs L fr) h Q):WP P N code fr h Q:=
 λro ds B c w a hro W F=>H ro ds B c w a hro W (zng (B:=B) F L)
theorem nth_succ (v:AV) (vs:List AV) (n:Nat):nth (v::vs) (n+1)=nth vs n:=by simp [nth]
theorem zpj:∀ (l:List Oper) (fr:Fr) (n:Nat) (v:AV) (vs:List AV),updN fr l (n+1) (v::vs)=updN fr l n vs
 | [],_,_,_,_=>rfl
 | o::l,fr,n,v,vs=>by rw [updN,updN,nth_succ,zpj l]
theorem wpList_want {ops:Array Oper} {o:Oper} {rest:List Oper} {Q':Exit->Act->World->Prop} {a:Act} {w:World} (hw:Region.wanted o (yielded ops a.tmps)=true) (h:o.wpIn (z5u ro) 0 P a w (wpListIn (z5u ro) 0 P ops Q' rest) Q'):wpListIn (z5u ro) 0 P ops Q' (o::rest) a w:=by
 unfold wpListIn;rw [if_pos hw];exact h
theorem wpList_skip {ops:Array Oper} {o:Oper} {rest:List Oper} {Q':Exit->Act->World->Prop} {a:Act} {w:World} (hw:Region.wanted o (yielded ops a.tmps)=false) (h:wpListIn (z5u ro) 0 P ops Q' rest (a.put o.dst undef) w):wpListIn (z5u ro) 0 P ops Q' (o::rest) a w:=by
 unfold wpListIn;rw [if_neg (by simp [hw])];exact ⟨λ_ _=>trivial,h⟩
theorem zmm {ch:Nat->Bool} {ops:Array Oper} {B j d:Nat} {want:Bool} (hdd:(ops[j]?).bind (·.dst)=some d) {rest:List Oper} {Q':Exit->Act->World->Prop} :
  ∀ (l:List Oper) (k:List AV->z00->Prop) (fr:Fr) (h:z00) (c:Ctx) (w:World) (a:Act),zfl N l=true->(∀ o∈l,o.guard=some (j,want))->l.all (λo=>o.dst != some d)=true->a.tmps.getD d undef=.bool want->WRel B c h w->z4b N ds c w fr a->zwi P ch l k fr h->
  (∀ c' vs h' a' w',Ext B c w c' w'->WRel B c' h' w'->z4b N ds c' w' (updN fr l 0 vs) a'->k vs h'->wpListIn (z5u ro) 0 P ops Q' rest a' w')->wpListIn (z5u ro) 0 P ops Q' (l++rest) a w
 | [],k,fr,h,c,w,a,_,_,_,_,W,F,H,hQ=>hQ c [] h a w (Ext.refl _ _ _) W F H
 | o::l,k,fr,h,c,w,a,hok,hg,hne,hv,W,F,H,hQ=>by
  have hd:=zke hok (o:=o) (by simp);have hok':zfl N l=true:=by simp [zfl] at hok ⊢;exact hok.2
  have hne':l.all (λo=>o.dst != some d)=true:=by simp at hne ⊢;exact hne.2
  have hod:o.dst≠some d:=by simp at hne;exact hne.1
  refine wpList_want (by simp [Region.wanted,hg o (by simp),zb8 hdd hv]) ?_;unfold zwi at H;refine zpl W F H ?_;intro c' v h' w' u E W' hv' hk;refine zmm hdd l _ _ h' c' w' _ hok' (λo ho=>hg o (by simp [ho])) hne' (by rw [zdu hod];exact hv) W' ((F.mono E).put hd hv') hk ?_;intro c2 vs h2 a2 w2 E2 W2 F2 hk2;refine hQ c2 (v::vs) h2 a2 w2 (E.trans E2) W2 ?_ hk2;rw [updN,zpj];simpa [nth] using F2
theorem zml {ops:Array Oper} {j d:Nat} {want:Bool} (hdd:(ops[j]?).bind (·.dst)=some d) {rest:List Oper} {Q':Exit->Act->World->Prop} {c:Ctx} {w:World} :
  ∀ (l:List Oper) (fr:Fr) (a:Act),zfl N l=true->(∀ o∈l,o.guard=some (j,want))->l.all (λo=>o.dst != some d)=true->(a.tmps.getD d undef=.bool (!want)\/a.tmps.getD d undef=.tuple #[])->z4b N ds c w fr a->
  (∀ a',z4b N ds c w (updN fr l 0 (l.map λ_=>.tup [])) a'->wpListIn (z5u ro) 0 P ops Q' rest a' w)->wpListIn (z5u ro) 0 P ops Q' (l++rest) a w
 | [],fr,a,_,_,_,_,F,hQ=>hQ a F
 | o::l,fr,a,hok,hg,hne,hv,F,hQ=>by
  have hd:=zke hok (o:=o) (by simp);have hok':zfl N l=true:=by simp [zfl] at hok ⊢;exact hok.2
  have hne':l.all (λo=>o.dst != some d)=true:=by simp at hne ⊢;exact hne.2
  have hod:o.dst≠some d:=by simp at hne;exact hne.1
  have hw:Region.wanted o (yielded ops a.tmps)=false:=by
   rcases hv with hv | hv
   ·simp [Region.wanted,hg o (by simp),zb8 hdd hv]
   ·simp [Region.wanted,hg o (by simp),zmn hdd hv]
  refine wpList_skip hw ?_;refine zml hdd l (updO fr o.dst (.tup [])) _ hok' (λo ho=>hg o (by simp [ho])) hne' (by rw [zdu hod];exact hv) (F.put hd (by simp only [VRel];exact ⟨#[],rfl,rfl⟩)) ?_;intro a' F';refine hQ a' ?_;rw [List.map_cons,updN,zpj];simpa [nth] using F'
theorem zpg:∀ (l:List Oper),((zkz l).map (·.2)).flatten=l/\∀ g∈zkz l,(∀ o∈g.2,o.guard=g.1)
 | []=>⟨rfl,by simp [zkz]⟩
 | o::r=>by
  obtain ⟨h1,h2⟩:=zpg r;have plain:(([(o.guard,[o])]++zkz r).map (·.2)).flatten=o::r/\∀ g∈[(o.guard,[o])]++zkz r,(∀ o∈g.2,o.guard=g.1):=by
   refine ⟨by simp [h1],?_⟩;intro g hg;rcases List.mem_append.1 hg with hg | hg
   ·simp only [List.mem_singleton] at hg;subst hg;simp
   ·exact h2 g hg
  unfold zkz;split
  ·rename_i gd g l gs hgd hs;rw [hs] at h1 h2 plain;split
   ·rename_i e;subst e;refine ⟨by simpa using h1,?_⟩;intro x hx;rcases List.mem_cons.1 hx with rfl | hx
    ·intro p hp;rcases List.mem_cons.1 hp with rfl | hp
     ·exact hgd
     ·exact h2 (some gd,l) (by simp) p hp
    ·exact h2 x (by simp [hx])
   ·rw [hgd] at plain;exact plain
  ·exact plain
theorem zmb {l m:List Oper}:zfl N (l++m)=true↔zfl N l=true/\zfl N m=true:=by simp [zfl]
theorem zh0 {ch:Nat->Bool} {ops:Array Oper} {sp:Nat->Option (List Nat)} {Q:Fr->z00->Prop} {B:Nat}:∀ (n:Nat) (gs:List (Option (Nat×Bool)×List Oper)) (fr:Fr) (h:z00) (c:Ctx) (w:World) (a:Act),zfl N ((gs.map (·.2)).flatten)=true->(∀ g∈gs,∀ o∈g.2,o.guard=g.1)->WRel B c h w->z4b N ds c w fr a->wpGs P ch ops sp Q n gs fr h->
  ∀ Q':Exit->Act->World->Prop,(∀ c' fr' h' a' w',Ext B c w c' w'->WRel B c' h' w'->z4b N ds c' w' fr' a'->Q fr' h'->Q' .normal a' w')->wpListIn (z5u ro) 0 P ops Q' ((gs.map (·.2)).flatten) a w
 | _,[],fr,h,c,w,a,_,_,W,F,H,Q',hQ=>hQ c fr h a w (Ext.refl _ _ _) W F H
 | n,(none,l)::gs,fr,h,c,w,a,hok,hg,W,F,H,Q',hQ=>by
  simp only [List.map_cons,List.flatten_cons] at hok ⊢;obtain ⟨hok1,hok2⟩:=zmb.1 hok;have hgl:=hg (none,l) (by simp);have hgs:∀ g∈gs,∀ o∈g.2,o.guard=g.1:=λg h=>hg g (by simp [h]);simp only [wpGs] at H;clear hok hg
  induction l generalizing fr h c w a with
  | nil=>
   unfold wpRun at H;obtain ⟨fr2,F2,H2⟩:=F.sp H;exact zh0 (n+1) gs fr2 h c w a hok2 hgs W F2 H2 Q' hQ
  | cons o l ih=>
   have hd:=zke hok1 (o:=o) (by simp);refine wpList_want (by simp [Region.wanted,hgl o (by simp)]) ?_;unfold wpRun at H;refine zpl W F H ?_;intro c' v h' w' u E W' hv' hk;exact ih _ _ _ _ _ W' ((F.mono E).put hd hv') hk (λc2 fr2 h2 a2 w2 E2=>hQ c2 fr2 h2 a2 w2 (E.trans E2)) (by simp [zfl] at hok1 ⊢;exact hok1.2) (λp hp=>hgl p (List.mem_cons_of_mem _ hp))
 | n,(some (j,want),l)::gs,fr,h,c,w,a,hok,hg,W,F,H,Q',hQ=>by
  simp only [List.map_cons,List.flatten_cons] at hok ⊢;obtain ⟨hok1,hok2⟩:=zmb.1 hok;have hgl:=hg (some (j,want),l) (by simp);have hgs:∀ g∈gs,∀ o∈g.2,o.guard=g.1:=λg h=>hg g (by simp [h]);simp only [wpGs] at H;split at H <;> (try (exact H.elim));rename_i d hdd;split at H <;> (try (exact H.elim));rename_i hne;unfold zq6 at H;have hvd:=F.2.2 d;have onYes:a.tmps.getD d undef=.bool want->zwi P ch l (λvs h'=>wpSp (sp n) (updN fr l 0 vs) (λfr2=>wpGs P ch ops sp Q (n+1) gs fr2 h')) fr h->wpListIn (z5u ro) 0 P ops Q' (l++(gs.map (·.2)).flatten) a w:=by
   intro hv H;refine zmm hdd l _ fr h c w a hok1 hgl hne hv W F H ?_;intro c' vs h' a' w' E W' F' hk;obtain ⟨fr3,F3,H3⟩:=F'.sp hk;exact zh0 (n+1) gs _ h' c' w' a' hok2 hgs W' F3 H3 Q' λc2 fr2 h2 a2 w2 E2=>hQ c2 fr2 h2 a2 w2 (E.trans E2)
  have onNo:(a.tmps.getD d undef=.bool (!want)\/a.tmps.getD d undef=.tuple #[])->wpSp (sp n) (updN fr l 0 (l.map λ_=>.tup [])) (λfr2=>wpGs P ch ops sp Q (n+1) gs fr2 h)->wpListIn (z5u ro) 0 P ops Q' (l++(gs.map (·.2)).flatten) a w:=by
   intro hv H;refine zml hdd l fr a hok1 hgl hne hv F ?_;intro a' F';obtain ⟨fr3,F3,H3⟩:=F'.sp H;exact zh0 (n+1) gs _ h c w a' hok2 hgs W F3 H3 Q' hQ
  unfold zi1 at H;split at H
  ·rename_i b hb;rw [hb] at hvd;have hv:=hvd.z8m;split at H
   ·rename_i e;subst e;exact onYes hv H
   ·rename_i e;refine onNo (Or.inl ?_) H;rw [hv];cases b <;> cases want <;> simp_all
  ·rename_i hb;rw [hb] at hvd;simp only [VRel] at hvd;obtain ⟨b,hv⟩:=hvd;by_cases e:b=want
   ·subst e;exact onYes hv H.1
   ·refine onNo (Or.inl ?_) H.2;rw [hv];cases b <;> cases want <;> simp_all
  ·rename_i hb;rw [hb] at hvd;simp only [VRel] at hvd;obtain ⟨vs,hv,hl⟩:=hvd;simp only [LRel] at hl;refine onNo (Or.inr ?_) H;rw [hv];have:vs=#[]:=by apply Array.ext';simpa using hl
   rw [this]
  ·exact H.elim
theorem zy4 {ch:Nat->Bool} {ops:Array Oper} {sp:Nat->Option (List Nat)} {Q:Fr->z00->Prop} {B:Nat} (l:List Oper) (fr:Fr) (h:z00) (c:Ctx) (w:World) (a:Act) (hok:zfl N l=true) (W:WRel B c h w) (F:z4b N ds c w fr a) (H:wpOps P ch ops sp Q l fr h)
  (Q':Exit->Act->World->Prop) (hQ:∀ c' fr' h' a' w',Ext B c w c' w'->WRel B c' h' w'->z4b N ds c' w' fr' a'->Q fr' h'->Q' .normal a' w'):wpListIn (z5u ro) 0 P ops Q' l a w:=by
 obtain ⟨h1,h2⟩:=zpg l;have:=zh0 (ro:=ro) (ops:=ops) 0 (zkz l) fr h c w a (by rw [h1];exact hok) h2 W F H Q' hQ;rwa [h1] at this
theorem z6l:∀ (bl:List Nat) (code:Code) (fr:Fr) (h:z00) (Q:z1p->Fr->z00->Prop),P.follows .mixedOrders=true->codeOk N code=true->wpc P N cfg bl code fr h Q->WP P N code fr h Q
 | bl,.skip,fr,h,Q,_,_,H=>λro ds B c w a hro W F=>wpIn_skip ⟨[],c,fr,h,.normal,rfl,Ext.refl _ _ _,W,F,Marks.nil _ _,H⟩
 | bl,.region id ops draw,fr,h,Q,hm,hok,H=>by
  intro ro ds B c w a hro W F
  cases draw with
  | false=>
   simp only [wpc] at H;refine wpIn_region_list (zy4 ops.toList fr h c w a hok W F H _ ?_);intro c' fr' h' a' w' E W' F' hq;exact ⟨[],c',fr',h',.normal,rfl,E,W',F',Marks.nil _ _,hq⟩
  | true=>
   simp only [wpc] at H;refine zwh hm hok W F H λc' fr' h' a' w' E W' F' hq=>?_;exact ⟨[],c',fr',h',.normal,rfl,E,W',F',Marks.nil _ _,hq⟩
 | bl,.seq x y,fr,h,Q,hm,hok,H=>by
  simp only [codeOk,Bool.and_eq_true] at hok;simp only [wpc] at H;have go:∀ (Qn:Fr->z00->Prop),(∀ fr' h',Qn fr' h'->WP P N y fr' h' Q)->wpc P N cfg bl x fr h (zba Qn (λid fr' h'=>Q (.exit id) fr' h') (λfr' h'=>Q .ret fr' h'))->WP P N (.seq x y) fr h Q:=by
   intro Qn hQn H ro ds B c w a hro W F;have hx:ro=none\/noRF x=true:=hro.imp id λh=>by simp only [noRF,Bool.and_eq_true] at h;exact h.1
   have hy:ro=none\/noRF y=true:=hro.imp id λh=>by simp only [noRF,Bool.and_eq_true] at h;exact h.2
   refine wpIn_seq (wpIn_mono (z6l bl x fr h _ hm hok.1 H ro ds B c w a hx W F) ?_);rintro e a' w' ⟨Ds,c',fr',h',ae,rfl,E,W',F',M,hq⟩
   cases ae with
   | normal=>
    exact wpIn_mono (hQn fr' h' hq ro _ B c' w' a' hy W' F') λe a2 w2 hp=>hp.trans E M
   | exit id=>exact ⟨Ds,c',fr',h',.exit id,rfl,E,W',F',M,hq⟩
   | ret=>exact ⟨Ds,c',fr',h',.ret,rfl,E,W',F',M,hq⟩
  split at H
  ·rename_i k hk;split at H
   ·obtain ⟨J,H1,H2⟩:=H;exact go _ (λfr' h' hj=>WP.zhs _ (z6l bl y _ h' Q hm hok.2 (H2 _ h' hj))) H1
   ·exact go _ (λfr' h' hj=>z6l bl y fr' h' Q hm hok.2 hj) H
  ·exact go _ (λfr' h' hj=>z6l bl y fr' h' Q hm hok.2 hj) H
 | bl,.cond x p q,fr,h,Q,hm,hok,H=>by
  simp only [codeOk,Bool.and_eq_true] at hok;simp only [wpc] at H;intro ro ds B c w a hro W F;have hp:ro=none\/noRF p=true:=hro.imp id λh=>by simp only [noRF,Bool.and_eq_true] at h;exact h.1
  have hq:ro=none\/noRF q=true:=hro.imp id λh=>by simp only [noRF,Bool.and_eq_true] at h;exact h.2
  have hx:=F.ev W.gl x;unfold zq3 at H;split at H <;> (try (exact H.elim))
  ·rename_i b hb;rw [hb] at hx;refine wpIn_cond (hx.z8m) ?_;cases b
   ·exact z6l bl q fr h Q hm hok.2 (by simpa using H) ro ds B c w a hq W F
   ·exact z6l bl p fr h Q hm hok.1 (by simpa using H) ro ds B c w a hp W F
  ·rename_i hb;rw [hb] at hx;simp only [VRel] at hx;obtain ⟨b,hb'⟩:=hx;refine wpIn_cond hb' ?_;cases b
   ·exact z6l bl q fr h Q hm hok.2 H.2 ro ds B c w a hq W F
   ·exact z6l bl p fr h Q hm hok.1 H.1 ro ds B c w a hp W F
 | bl,.block id b,fr,h,Q,hm,hok,H=>by
  simp only [codeOk] at hok;simp only [wpc] at H;intro ro ds B c w a hro W F;refine wpIn_block (wpIn_mono (z6l (id::bl) b fr h _ hm hok H ro ds B c w a hro W F) ?_);rintro e a' w' ⟨Ds,c',fr',h',ae,rfl,E,W',F',M,hq⟩
  cases ae with
  | normal=>exact ⟨Ds,c',fr',h',.normal,rfl,E,W',F',M,hq⟩
  | exit id'=>
   simp only [z1p.toExit,Exit.inBlock,zba,pIdx] at hq ⊢;split at hq
   ·rename_i hid;subst hid;rw [if_pos rfl];exact ⟨Ds,c',fr',h',.normal,rfl,E,W',F',M,hq⟩
   ·rename_i hid;rw [if_neg hid];exact ⟨Ds,c',fr',h',.exit id',rfl,E,W',F',M,hq⟩
  | ret=>exact ⟨Ds,c',fr',h',.ret,rfl,E,W',F',M,hq⟩
 | bl,.loop b,fr,h,Q,_,_,H=>by
  simp only [wpc] at H;split at H
  ·refine WP.zhs _ (WP.mono H ?_);intro e fr' h' hq
   cases e with
   | normal=>exact hq.elim
   | exit id=>exact zw7 hq
   | ret=>exact hq
  ·exact H.elim
 | bl,.rangeFunc g ps asn bd,fr,h,Q,_,_,H=>by
  simp only [wpc] at H;split at H
  ·refine WP.zhs _ (WP.mono H ?_);intro e fr' h' hq
   cases e with
   | normal=>exact hq
   | exit id=>exact zw7 hq
   | ret=>exact hq
  ·exact H.elim
 | bl,.exit id,fr,h,Q,_,_,H=>λro ds B c w a hro W F=>wpIn_exit ⟨[],c,fr,h,.exit id,rfl,Ext.refl _ _ _,W,F,Marks.nil _ _,H⟩
 | bl,.ret,fr,h,Q,_,_,H=>λro ds B c w a hro W F=>wpIn_ret ⟨[],c,fr,h,.ret,rfl,Ext.refl _ _ _,W,F,Marks.nil _ _,H⟩
 | bl,.scope ..,_,_,_,_,_,H=>by simp [wpc] at H
 | bl,.label ..,_,_,_,_,_,H=>by simp [wpc] at H
 | bl,.goto ..,_,_,_,_,_,H=>by simp [wpc] at H
 | bl,.refuse ..,_,_,_,_,_,H=>by simp [wpc] at H
def z3d (I:Nat->Fr->z00->Prop) (m:Nat) (Q:z1p->Fr->z00->Prop):z1p->Fr->z00->Prop:=λe fr' h'=>
 match e with
 | .normal=>∃ m',m'<m/\I m' fr' h'
 | .exit id=>Q (.exit id) fr' h'
 | .ret=>Q .ret fr' h'
theorem z14 {b:Code} {fr:Fr} {h:z00} {Q:z1p->Fr->z00->Prop} (hm:P.follows .mixedOrders=true) (hok:codeOk N b=true) (I:Nat->Fr->z00->Prop) (n:Nat) (h0:I n fr h)
  (round:∀ m fr h,I m fr h->WP P N b fr h (z3d I m Q)):WP P N (.loop b) fr h Q:=by
 intro ro ds B c w a hro W F;have hro':ro=none\/noRF b=true:=hro
 let Good:Nat->Act->World->Prop:=λm a' w'=>∃ Ds c' fr' h',Ext B c w c' w'/\WRel B c' h' w'/\z4b N (Ds.map mark++ds) c' w' fr' a'/\Marks w w' Ds/\I m fr' h'
 have hex:Good n a w:=⟨[],c,fr,h,Ext.refl _ _ _,W,F,Marks.nil _ _,h0⟩;have least:∀ a' w',(∃ m,Good m a' w')->∃ m,Good m a' w'/\∀ k,k<m->¬ Good k a' w':=by
  rintro a' w' ⟨m,hg⟩
  induction m using Nat.strongRecOn with
  | _ m ih=>
   by_cases hk:∃ k,k<m/\Good k a' w'
   ·obtain ⟨k,h1,h2⟩:=hk;exact ih k h1 h2
   ·exact ⟨m,hg,λk h1 h2=>hk ⟨k,h1,h2⟩⟩
 let μ:Act->World->Nat:=λa' w'=>open Classical in if hh:∃ m,Good m a' w' then Classical.choose (least a' w' hh) else 0
 have hμ:∀ a' w',(∃ m,Good m a' w')->Good (μ a' w') a' w'/\∀ k,Good k a' w'->μ a' w'<=k:=by
  intro a' w' hh;have hs:=Classical.choose_spec (least a' w' hh);have e:μ a' w'=Classical.choose (least a' w' hh):=by simp only [μ];rw [dif_pos hh]
  rw [e];exact ⟨hs.1,λk hk=>Nat.le_of_not_lt λhlt=>hs.2 k hlt hk⟩
 refine wpIn_loop (λa' w'=>∃ m,Good m a' w') μ ⟨n,hex⟩ ?_;intro a' w' hI;obtain ⟨⟨Ds,c',fr',h',E,W',F',M,hi⟩,hmin⟩:=hμ a' w' hI;refine wpIn_mono (round (μ a' w') fr' h' hi ro _ B c' w' a' hro' W' F') ?_;rintro e a2 w2 hp;obtain ⟨Es,c2,fr2,h2,ae,rfl,E2,W2,F2,M2,hq⟩:=hp.trans E M
 cases ae with
 | normal=>
  simp only [z3d] at hq;obtain ⟨m',hlt,hi'⟩:=hq;have hg:Good m' a2 w2:=⟨Es,c2,fr2,h2,E2,W2,F2,M2,hi'⟩;exact ⟨⟨m',hg⟩,Nat.lt_of_le_of_lt ((hμ a2 w2 ⟨m',hg⟩).2 m' hg) hlt⟩
 | exit id=>exact ⟨Es,c2,fr2,h2,.exit id,rfl,E2,W2,F2,M2,hq⟩
 | ret=>exact ⟨Es,c2,fr2,h2,.ret,rfl,E2,W2,F2,M2,hq⟩
def resA (P:Program):List ResultVar->Fr->z00->(List AV->Prop)->Prop
 | [],_,_,K=>K []
 | .tmp t::rs,fr,h,K=>resA P rs fr h (λvs=>K (fr t::vs))
 | .cell a t::rs,fr,h,K=>match ldK P t with
  | some k=>z0r k (fr a) h (λv=>resA P rs fr h (λvs=>K (v::vs)))
  | none=>False
def resV (K:AV->Prop):List AV->Prop
 | [v]=>K v
 | vs=>K (.tup vs)
def zzd (tmps:Array Value):ResultVar->Sem Value
 | .tmp t=>pure (tmps.getD t undef)
 | .cell a t=>do loadVar t (← asAddr (tmps.getD a undef))
theorem zrh (fn:Func) (tmps:Array Value):results fn tmps=(do
  let vs ← fn.results.mapM (zzd tmps)
  pure (if h:vs.size=1 then vs[0] else .tuple vs)):=rfl
theorem zm2 {B:Nat} {c:Ctx} {h:z00} {w:World} {fr:Fr} {a:Act} (W:WRel B c h w) (F:z4b N ds c w fr a):∀ (rs:List ResultVar) (K:List AV->Prop),resA P rs fr h K->
  ∃ as vs,(rs.mapM (zzd a.tmps)).run P w=.ok vs w/\LRel c w as vs/\K as
 | [],K,H=>⟨[],[],by simp,by simp [LRel],H⟩
 | .tmp t::rs,K,H=>by
  simp only [resA] at H;obtain ⟨as,vs,h1,h2,h3⟩:=zm2 W F rs _ H;refine ⟨fr t::as,a.tmps.getD t undef::vs,?_,?_,h3⟩
  ·simp only [List.mapM_cons,zzd,Sem.run_bind,Sem.run_pure,Result.andThen_ok,h1]
  ·simp only [LRel];exact ⟨_,_,rfl,F.2.2 t,h2⟩
 | .cell x t::rs,K,H=>by
  simp only [resA] at H;split at H <;> (try (exact H.elim));rename_i k hk;obtain ⟨ad,v,z,hu,hr,hv,hK⟩:=zvl (P:=P) W hk (F.2.2 x) H;obtain ⟨as,vs,h1,h2,h3⟩:=zm2 W F rs _ hK;refine ⟨v::as,z::vs,?_,?_,h3⟩
  ·have ha:(asAddr (a.tmps.getD x undef)).run P w=.ok ad w:=by rw [hu];rfl
   simp only [List.mapM_cons,zzd,Sem.run_bind,ha,Sem.run_pure,Result.andThen_ok,hr,h1]
  ·simp only [LRel];exact ⟨_,_,rfl,hv,h2⟩
theorem zm7 {B:Nat} {c c':Ctx} {h':z00} {w:World} {fr':Fr} {fn:Func} {T:Array Value} {R:Ending->World->Prop} (hB:B<=w.heap.size) (goal:∀ w',Ext B c w c' w'->WRel B c' h' w'->(∀ i,VRel c' w' (fr' i) (T.getD i undef))->∃ v,(results fn T).run P w'=.ok v w'/\R (.returned v) w') :
  ∀ (Ds:List Nat) (w':World),Ext B c w c' w'->WRel B c' h' w'->(∀ i,VRel c' w' (fr' i) (T.getD i undef))->Marks w w' Ds->LeavesInM (z5u none) 0 P fn T R (Ds.map mark) .returning w'
 | [],w',E,W',F,_=>goal w' E W' F
 | D::Ds,w',E,W',F,M=>by
  have hD:=M.all D (by simp);have hnd:=List.nodup_cons.1 M.nd;refine ⟨by simp,Or.inl ⟨D,_,rfl,run_takeDeferred hD.2,?_⟩⟩;have hold:∀ k,k≠D->(w'.putObj D (.deferred none)).heap[k]?=w'.heap[k]?:=λk hk=>World.putObj_heap_other hk;have hDD:w'.heap[D]?=some (.deferred (some [])):=hD.2;have hnew:(w'.putObj D (.deferred none)).heap[D]?=some (.deferred none):=World.putObj_heap_same hD.2.lt;have E0:Ext0 B c' w' c' (w'.putObj D (.deferred none)):=by
   refine ⟨λ_ _ x=>x,λ_ _ x=>x,⟨rfl,rfl,rfl,by simp,λk hk=>hold k (by omega)⟩,λk o hk=>?_,λk ty n hs=>?_⟩
   ·by_cases e:k=D
    ·subst e;simp [World.cell?,hDD,hnew]
    ·exact World.cell?_of_block (a:=⟨k,o,none⟩) (hold k e)
   ·obtain ⟨C,h1,h2⟩:=hs;have e:k≠D:=by rintro rfl;rw [hDD] at h1;cases h1
    exact ⟨C,by rw [hold k e,h1],h2⟩
  refine zm7 hB goal Ds _ ⟨E.toExt0.trans E0,λk hk=>?_⟩ ⟨λi k hi=>?_,W'.inj,λi k o hi ho=>?_,λk o hk=>?_,W'.fresh,by simpa using W'.base,W'.gl.z7r E0⟩ (λi=>VRel.z7r E0 (F i)) ⟨hnd.2,λD' hD'=>?_⟩
  ·have hlt:=hk.lt;have:=E.oth k hk;unfold Dfr at this ⊢;rw [hold k (by omega)];exact this
  ·have:=W'.mlt i k hi;exact ⟨this.1,this.2.1,by simpa using this.2.2⟩
  ·have hR:=W'.obj i k o hi ho;have hne:k≠D:=by
    rintro rfl
    cases o with
    | row ty cs=>obtain ⟨C,h1,_⟩:=hR;rw [hDD] at h1;cases h1
    | tok ty n=>obtain ⟨C,h1,_⟩:=hR;rw [hDD] at h1;cases h1
    | loop st pe N ps asn bd fr=>obtain ⟨L,h1,_⟩:=hR;rw [hDD] at h1;cases h1
    | map ks vs=>obtain ⟨es,h1,_⟩:=hR;rw [hDD] at h1;cases h1
   exact hR.keep0 E0 (hold k hne) (λ_ y=>y)
  ·have:=W'.im k o hk;simpa using this
  ·have h2:=M.all D' (by simp [hD']);have hne:D'≠D:=by rintro rfl;exact hnd.1 hD'
   refine ⟨h2.1,?_⟩;have h3:=h2.2;unfold Dfr at h3 ⊢;rw [hold D' hne];exact h3
theorem zta {f:FuncId} {fn:Func} {body:Code} {args:List AV} {h:z00} {R:AV->z00->Prop} (cfg:Cfg) (hm:P.follows .mixedOrders=true) (hf:P.funcs[f]?=some fn) (hb:fn.body=some body) (hN:fn.ntmps=N) (hok:codeOk N body=true) (hargs:args.length<=N)
  (hcall:∀ as w,(callFunc f as).run P w=.ok (.enter f as) w)
  (H:wpc P N cfg [] body (λi=>(args[i]?).getD .und) h (zba (λfr' h'=>resA P fn.results.toList fr' h' (resV λv=>R v h')) (λ_ _ _=>False) (λfr' h'=>resA P fn.results.toList fr' h' (resV λv=>R v h')))):z01 P f args h R:=by
 refine Or.inl ⟨hcall,λB c w vs W L=>?_⟩;refine zjd.1 (callsIn_of_wp_marks (F:=z5u none) (n:=0) hf hb trivial ?_);have hl:=L.length;have F:z4b N [] c w (λi=>(args[i]?).getD .und) { tmps:=vs.toArray++Array.replicate (fn.ntmps-vs.toArray.size) undef,defers:=[] }:=by
  refine ⟨by simp;omega,rfl,λi=>?_⟩;by_cases hi:i<args.length
  ·obtain ⟨v,hv,hr⟩:=L.get (i:=i) (a:=args[i]) (by simp [hi]);have e1:(args[i]?).getD .und=args[i]:=by simp [hi]
   show VRel c w ((args[i]?).getD .und) ((vs.toArray++Array.replicate (fn.ntmps-vs.toArray.size) undef).getD i undef)
   rw [e1,Array.getD_eq_getD_getElem?,Array.getElem?_append_left (by simp;omega)];have:vs.toArray[i]?=some v:=by simpa using hv
   rw [this];exact hr
  ·have e1:(args[i]?).getD .und=.und:=by simp [List.getElem?_eq_none (Nat.le_of_not_lt hi)]
   show VRel c w ((args[i]?).getD .und) _
   rw [e1];simp [VRel]
 refine wpIn_mono (z6l [] body _ h _ hm hok H none [] B c w _ (Or.inl rfl) W F) ?_;rintro e a' w' ⟨Ds,c',fr',h',ae,rfl,E,W',F',M,hq⟩;have fin:resA P fn.results.toList fr' h' (resV λv=>R v h')->LeavesInM (z5u none) 0 P fn a'.tmps (λe w''=>∃ c' u v h',e=.returned u/\Ext B c w c' w''/\WRel B c' h' w''/\VRel c' w'' v u/\R v h') a'.defers .returning w':=by
  intro hq;have hdf:a'.defers=Ds.map mark:=by have:=F'.2.1;simpa using this
  rw [hdf];refine zm7 W.base (λw' E W' Fv=>?_) Ds w' E W' F'.2.2 M;obtain ⟨as,us,h1,h2,h3⟩:=zm2 (N:=a'.tmps.size) (ds:=a'.defers) W' (a:=a') ⟨rfl,rfl,Fv⟩ _ _ hq;have hlen:=h2.length;by_cases h1':us.length=1
  ·obtain ⟨u,rfl⟩:∃ u,us=[u]:=by
    match us,h1' with
    | [u],_=>exact ⟨u,rfl⟩
   obtain ⟨v,rfl⟩:∃ v,as=[v]:=by
    match as,hlen with
    | [v],_=>exact ⟨v,rfl⟩
   simp only [LRel] at h2;obtain ⟨v',vs',he,hr,hn⟩:=h2;simp only [List.cons.injEq] at he;obtain ⟨rfl,rfl⟩:=he;refine ⟨u,?_,c',u,v,h',rfl,E,W',hr,h3⟩;rw [zrh,Array.mapM_eq_mapM_toList];simp only [Sem.run_bind,Sem.run_map,h1,Result.andThen_ok]
   rfl
  ·refine ⟨.tuple us.toArray,?_,c',.tuple us.toArray,.tup as,h',rfl,E,W',?_,?_⟩
   ·rw [zrh,Array.mapM_eq_mapM_toList];simp only [Sem.run_bind,Sem.run_map,h1,Result.andThen_ok];have:us.toArray.size≠1:=by simpa using h1'
    rw [dif_neg this];rfl
   ·simp only [VRel];exact ⟨us.toArray,rfl,by simpa using h2⟩
   ·unfold resV at h3;split at h3
    ·simp at hlen;omega
    ·exact h3
 cases ae with
 | normal=>exact fin hq
 | ret=>exact fin hq
 | exit id=>exact hq.elim
def zk6 (k:Nat):Code->Option Code
 | .seq a b=>match zk6 k a with | some r=>some r | none=>zk6 k b
 | .cond _ a b=>match zk6 k a with | some r=>some r | none=>zk6 k b
 | .block _ b=>zk6 k b
 | .loop b=>if z8n b=some k then some b else zk6 k b
 | .rangeFunc _ _ a b=>match zk6 k a with | some r=>some r | none=>zk6 k b
 | _=>none
theorem z0x (cfg:Cfg) (bl Ln Lx Lr:List Nat) {b:Code} {fr:Fr} {h:z00} {Q:z1p->Fr->z00->Prop} (hm:P.follows .mixedOrders=true) (hok:codeOk N b=true)
  (H:wpc P N cfg bl b fr h (zba (λfr' h'=>Q .normal (zhs Ln fr') h') (λid fr' h'=>Q (.exit id) (zhs Lx fr') h') (λfr' h'=>Q .ret (zhs Lr fr') h'))):WP P N b fr h Q:=by
 intro ro ds B c w a hro W F;refine wpIn_mono (z6l bl b fr h _ hm hok H ro ds B c w a hro W F) ?_;rintro e a' w' ⟨Ds,c',fr',h',ae,h1,h2,h3,h4,h5,h6⟩
 cases ae with
 | normal=>exact ⟨Ds,c',zhs Ln fr',h',.normal,h1,h2,h3,zng (B:=B) h4 Ln,h5,h6⟩
 | exit id=>exact ⟨Ds,c',zhs Lx fr',h',.exit id,h1,h2,h3,zng (B:=B) h4 Lx,h5,h6⟩
 | ret=>exact ⟨Ds,c',zhs Lr fr',h',.ret,h1,h2,h3,zng (B:=B) h4 Lr,h5,h6⟩
end
end
section
open Go.RowKit
section
variable {P:Program} {h:z00}
attribute [simp] z1c
@[simp] theorem zno (i o:Nat) (K:AV->Prop):pNil (.ptr i o) K=K (.ptr i o):=rfl
@[simp] theorem zvm (cs:List AV) (K:AV->Prop):pNil (.iptr cs) K=K (.iptr cs):=rfl
@[simp] theorem pNil_fn (f:FuncId) (a b:List AV) (K:AV->Prop):pNil (.fn (.func f) a b) K=K (.fn (.func f) a b):=rfl
@[simp] theorem z8q (off i o:Nat) (K:AV->Prop):z3i off (.ptr i o) K=K (.ptr i (o+off)):=rfl
@[simp] theorem zfn (off:Nat) (cs:List AV) (K:AV->Prop):z3i off (.iptr cs) K=K (.iptr (cs.drop off)):=rfl
@[simp] theorem zr9 (off:Nat) (k:Option Nat) (cs:List AV) (K:AV->Prop):zki off k (.agg cs) K=z04 k cs off K:=rfl
@[simp] theorem zen {cs:List AV} {off:Nat} {v:AV} (hv:cs[off]?=some v) (K:AV->Prop):z04 none cs off K=K v:=by simp [z04,hv]
theorem pCells_none (cs:List AV) (off:Nat) (K:AV->Prop):z04 none cs off K=match cs[off]? with | some v=>K v | none=>False:=rfl
@[simp] theorem zow (v:AV) (cs:List AV) (K:AV->Prop):z04 none (v::cs) 0 K=K v:=rfl
@[simp] theorem zov (v:AV) (cs:List AV) (n:Nat) (K:AV->Prop):z04 none (v::cs) (n+1) K=z04 none cs n K:=by simp [z04]
@[simp] theorem pCells_some (n:Nat) (cs:List AV) (off:Nat) (K:AV->Prop):z04 (some n) cs off K=(off+n<=cs.length/\K (.agg ((cs.drop off).take n))):=rfl
@[simp] theorem z0y (k:Option Nat) (cs:List AV) (h:z00) (K:AV->Prop):z0r k (.iptr cs) h K=z04 k cs 0 K:=rfl
theorem z02 {id off:Nat} {ty:TypeId} {cs:List AV} (ho:h.objs id=some (.row ty cs)) (k:Option Nat) (K:AV->Prop):z0r k (.ptr id off) h K=z04 k cs off K:=by simp [z0r,ho]
theorem z1g {id off:Nat} {ty:TypeId} {cs:List AV} (ho:h.objs id=some (.row ty cs)) {v:AV} (hv:v.zdy=true) (hl:off<cs.length) (K:z00->Prop):z1d 1 (.ptr id off) v h K=K (h.put id (.row ty (cs.set off v))):=by
 cases v <;> simp_all [z1d,AV.zdy]
@[simp] theorem zr8 (b:Bool) (T F:Prop):zq3 (.bool b) T F=if b=true then T else F:=rfl
@[simp] theorem pCond_unkb (T F:Prop):zq3 .unkb T F=(T/\F):=rfl
@[simp] theorem zoy (b w:Bool) (T F:Prop):zi1 (.bool b) w T F=if b=w then T else F:=rfl
@[simp] theorem pGuard_unkb (w:Bool) (T F:Prop):zi1 .unkb w T F=(T/\F):=rfl
@[simp] theorem zra (w:Bool) (T F:Prop):zi1 (.tup []) w T F=F:=rfl
@[simp] theorem pGuardS_bool (b w:Bool) (T F:Prop):zaf (.bool b) w T F=if b=w then T else F:=rfl
@[simp] theorem zox (w:Bool) (T F:Prop):zaf (.tup []) w T F=F:=rfl
@[simp] theorem pPick_true (x y:AV) (K:AV->Prop):zvn (.bool true) x y K=K x:=rfl
@[simp] theorem zp2 (x y:AV) (K:AV->Prop):zvn (.bool false) x y K=K y:=rfl
@[simp] theorem pIdx_same (i:Nat) (T F:Prop):pIdx i i T F=T:=by simp [pIdx]
@[simp] theorem pIdx_eq (i k:Nat) (T F:Prop):pIdx i k T F=if i=k then T else F:=rfl
@[simp] theorem znm (b:(List AV->z00->Prop)->Prop) (k:List AV->z00->Prop):zq6 b k=b k:=rfl
@[simp] theorem znl (v:AV) (vs:List AV):nth (v::vs) 0=v:=rfl
@[simp] theorem znk (v:AV) (vs:List AV) (n:Nat):nth (v::vs) (n+1)=nth vs n:=by simp [nth]
@[simp] theorem exitQ_normal (n:Fr->z00->Prop) (x:Nat->Fr->z00->Prop) (r:Fr->z00->Prop) (fr:Fr) (h:z00):zba n x r .normal fr h=n fr h:=rfl
@[simp] theorem zqv (n:Fr->z00->Prop) (x:Nat->Fr->z00->Prop) (r:Fr->z00->Prop) (fr:Fr) (h:z00) (i:Nat):zba n x r (.exit i) fr h=x i fr h:=rfl
@[simp] theorem zua (n:Fr->z00->Prop) (x:Nat->Fr->z00->Prop) (r:Fr->z00->Prop) (fr:Fr) (h:z00):zba n x r .ret fr h=r fr h:=rfl
@[simp] theorem zuk (k:Nat) (v:AV) (r:List (Nat×AV)) (i:Nat):frOf ((k,v)::r) i=if i=k then v else frOf r i:=rfl
theorem z05 (I:Nat->Fr->z00->Prop) (m:Nat) (Q:z1p->Fr->z00->Prop) (fr:Fr) (h:z00):z3d I m Q .normal fr h=∃ m',m'<m/\I m' fr h:=rfl
@[simp] theorem zk7 (I:Nat->Fr->z00->Prop) (m:Nat) (Q:z1p->Fr->z00->Prop) (fr:Fr) (h:z00) (i:Nat):z3d I m Q (.exit i) fr h=Q (.exit i) fr h:=rfl
@[simp] theorem zm8 (I:Nat->Fr->z00->Prop) (m:Nat) (Q:z1p->Fr->z00->Prop) (fr:Fr) (h:z00):z3d I m Q .ret fr h=Q .ret fr h:=rfl
@[simp] theorem zz8 (s:List UInt8) (K:AV->Prop):pLen .str (.str s) K=K (.int .i64 s.length):=rfl
@[simp] theorem zz7 (sz:Nat) (es:List (List AV)) (K:AV->Prop):pLen .slice (.isl sz es) K=K (.int .i64 es.length):=rfl
@[simp] theorem zz6 (i sz:Nat) (es:List (List AV)) (K:AV->Prop):pLen .slice (.gsl i sz es) K=K (.int .i64 es.length):=rfl
@[simp] theorem pLen_sl (i o l sz:Nat) (K:AV->Prop):pLen .slice (.sl i o l sz) K=K (.int .i64 l):=rfl
@[simp] theorem zvj (K:AV->Prop):pLen .slice .nils K=K (.int .i64 0):=rfl
@[simp] theorem zz5 (K:AV->Prop):pLen .slice .eml K=K (.int .i64 0):=rfl
@[simp] theorem zrb (n:Nat) (x:AV) (K:AV->Prop):pLen (.array n) x K=K (.int .i64 n):=by cases x <;> rfl
@[simp] theorem zfm (k k':IntKind) (n:Int) (h:z00) (K:AV->Prop):z1o (.int k) (.int k' n) h K=K (.int k (k.wrap n)):=rfl
@[simp] theorem zvh (s:List UInt8) (h:z00) (K:AV->Prop):z1o .same (.str s) h K=K (.str s):=rfl
@[simp] theorem pExtract_tup (i:Nat) (vs:List AV) (K:AV->Prop):z8p i (.tup vs) K=match vs[i]? with | some v=>K v | none=>False:=rfl
@[simp] theorem zvd (ty:TypeId) (v:AV) (h:z00) (K:AV->z00->Prop):pBox true ty v h K=(v.fits=true/\K (.iptr v.cells) h):=by simp [pBox]
@[simp] theorem pBox_false (ty:TypeId) (v:AV) (h:z00) (K:AV->z00->Prop):pBox false ty v h K=(v.fits=true/\K (.ptr h.next 0) (h.push (.row ty v.cells))):=by simp [pBox]
@[simp] theorem pAlloc_eq (ty:TypeId) (z:List AV) (h:z00) (K:AV->z00->Prop):zvb ty z h K=K (.ptr h.next 0) (h.push (.row ty z)):=rfl
@[simp] theorem zu0 (cs:List AV):(AV.agg cs).cells=cs:=rfl
@[simp] theorem zyn (cs:List AV):(AV.agg cs).fits=true:=rfl
@[simp] theorem z8r (ck:CmpK) (k:IntKind) (a b:Int):binA ck .eql (.int k a) (.int k b)=some (.bool (a == b)):=by simp [binA,z8s]
@[simp] theorem binA_int_neq (ck:CmpK) (k:IntKind) (a b:Int):binA ck .neq (.int k a) (.int k b)=some (.bool (a != b)):=by simp [binA,z8s]
@[simp] theorem binA_int_lss (ck:CmpK) (k:IntKind) (a b:Int):binA ck .lss (.int k a) (.int k b)=some (.bool (decide (a<b))):=by simp [binA,z8s]
@[simp] theorem binA_int_leq (ck:CmpK) (k:IntKind) (a b:Int):binA ck .leq (.int k a) (.int k b)=some (.bool (decide (a<=b))):=by simp [binA,z8s]
@[simp] theorem binA_int_gtr (ck:CmpK) (k:IntKind) (a b:Int):binA ck .gtr (.int k a) (.int k b)=some (.bool (decide (b<a))):=by simp [binA,z8s]
@[simp] theorem binA_int_geq (ck:CmpK) (k:IntKind) (a b:Int):binA ck .geq (.int k a) (.int k b)=some (.bool (decide (b<=a))):=by simp [binA,z8s]
@[simp] theorem binA_int_add (ck:CmpK) (k:IntKind) (a b:Int):binA ck .add (.int k a) (.int k b)=some (.int k (k.wrap (a+b))):=by simp [binA,z8s]
@[simp] theorem binA_int_sub (ck:CmpK) (k:IntKind) (a b:Int):binA ck .sub (.int k a) (.int k b)=some (.int k (k.wrap (a-b))):=by simp [binA,z8s]
@[simp] theorem binA_int_mul (ck:CmpK) (k:IntKind) (a b:Int):binA ck .mul (.int k a) (.int k b)=some (.int k (k.wrap (a*b))):=by simp [binA,z8s]
@[simp] theorem binA_int_and (ck:CmpK) (k:IntKind) (a b:Int):binA ck .and (.int k a) (.int k b)=some (.int k (iAnd k a b)):=by simp [binA,z8s]
@[simp] theorem binA_int_or (ck:CmpK) (k:IntKind) (a b:Int):binA ck .or (.int k a) (.int k b)=some (.int k (iOr k a b)):=by simp [binA,z8s]
@[simp] theorem binA_int_xor (ck:CmpK) (k:IntKind) (a b:Int):binA ck .xor (.int k a) (.int k b)=some (.int k (iXor k a b)):=by simp [binA,z8s]
@[simp] theorem binA_int_quo (ck:CmpK) (k:IntKind) (a b:Int):binA ck .quo (.int k a) (.int k b)=if b=0 then none else some (.int k (k.wrap (a.tdiv b))):=by simp [binA,z8s]
@[simp] theorem binA_int_rem (ck:CmpK) (k:IntKind) (a b:Int):binA ck .rem (.int k a) (.int k b)=if b=0 then none else some (.int k (a.tmod b)):=by simp [binA,z8s]
@[simp] theorem binA_shl (ck:CmpK) (k k':IntKind) (a b:Int):binA ck .shl (.int k a) (.int k' b)=if b<0 then none else some (.int k (iShl k a b)):=by simp [binA]
@[simp] theorem binA_shr (ck:CmpK) (k k':IntKind) (a b:Int):binA ck .shr (.int k a) (.int k' b)=if b<0 then none else some (.int k (iShr k a b)):=by simp [binA]
@[simp] theorem binA_str_eql (ck:CmpK) (a b:List UInt8):binA ck .eql (.str a) (.str b)=some (.bool (a == b)):=by simp [binA,zql]
@[simp] theorem binA_str_neq (ck:CmpK) (a b:List UInt8):binA ck .neq (.str a) (.str b)=some (.bool (!(a == b))):=by simp [binA,zql]
theorem binA_str_add {ck:CmpK} {a b:List UInt8} (hl:a.length+b.length<=9223372036854775807):binA ck .add (.str a) (.str b)=some (.str (a++b)):=by
 simp only [binA,zql];rw [if_neg (by omega)]
@[simp] theorem zj8 (a b:Bool):binA .bool .eql (.bool a) (.bool b)=some (.bool (a == b)):=rfl
@[simp] theorem zj9 (a b:Bool):binA .bool .neq (.bool a) (.bool b)=some (.bool (!(a == b))):=rfl
@[simp] theorem z6z (i o:Nat):binA .ptr .eql (.ptr i o) .nilp=some (.bool false):=rfl
@[simp] theorem zel (i o:Nat):binA .ptr .neq (.ptr i o) .nilp=some (.bool true):=rfl
@[simp] theorem zcf (cs:List AV):binA .ptr .eql (.iptr cs) .nilp=some (.bool false):=rfl
@[simp] theorem zcg (cs:List AV):binA .ptr .neq (.iptr cs) .nilp=some (.bool true):=rfl
@[simp] theorem zej:binA .ptr .eql .nilp .nilp=some (.bool true):=rfl
@[simp] theorem zek:binA .ptr .neq .nilp .nilp=some (.bool false):=rfl
@[simp] theorem unA_not (b:Bool):unA .not (.bool b)=some (.bool (!b)):=rfl
@[simp] theorem zmj:unA .not .unkb=some .unkb:=rfl
@[simp] theorem unA_neg (k:IntKind) (n:Int):unA .neg (.int k n)=some (.int k (k.wrap (0-n))):=rfl
theorem wrap_i64 {n:Int} (h:-9223372036854775808<=n/\n<=9223372036854775807):IntKind.i64.wrap n=n:=by rw [IntKind.wrap_i64];omega
end
structure Keeps (h h':z00) (S:Nat->Prop):Prop where
 next:h.next<=h'.next
 objs:∀ i,i<h.next->¬ S i->h'.objs i=h.objs i
theorem Keeps.refl (h:z00) (S:Nat->Prop):Keeps h h S:=⟨Nat.le_refl _,λ_ _ _=>rfl⟩
theorem Keeps.trans {h h' h'':z00} {S T:Nat->Prop} (a:Keeps h h' S) (b:Keeps h' h'' T) (hT:∀ i,i<h.next->T i->S i):Keeps h h'' S:=
 ⟨Nat.le_trans a.next b.next,λi hi hs=>(b.objs i (Nat.lt_of_lt_of_le hi a.next) λht=>hs (hT i hi ht)).trans (a.objs i hi hs)⟩
theorem Keeps.mono {h h':z00} {S T:Nat->Prop} (a:Keeps h h' S) (hS:∀ i,S i->T i):Keeps h h' T:=⟨a.next,λi hi hs=>a.objs i hi λx=>hs (hS i x)⟩
theorem Keeps.put (h:z00) (id:Nat) (o:AObj):Keeps h (h.put id o) (λi=>i=id):=⟨Nat.le_refl _,λi _ hi=>by simp [hi]⟩
theorem Keeps.kill (h:z00) (id:Nat):Keeps h (h.kill id) (λi=>i=id):=⟨Nat.le_refl _,λi _ hi=>by simp [hi]⟩
theorem Keeps.push (h:z00) (o:AObj):Keeps h (h.push o) (λ_=>False):=⟨Nat.le_succ _,λi hi _=>by simp;omega⟩
end
section
open Go.RowKit Go.ChangeShapes
def othK (P:Program) (t:TypeId):Bool:=
 match P.underlying t with
 | some .bool | some (.int _) | some .string | some (.struct _) | some (.array _ _)=>false
 | some (.pointer e) | some (.slice e)=>P.cellsOf e == 0
 | _=>true
mutual
inductive TyA (P:Program):TypeId->List AV->Prop where
 | bool {t b}:P.underlying t=some .bool->TyA P t [.bool b]
 | int {t k n}:P.underlying t=some (.int k)->k.min<=n->n<=k.max->TyA P t [.int k n]
 | str {t s}:P.underlying t=some .string->s.length<=maxLen->TyA P t [.str s]
 | nilp {t e}:P.underlying t=some (.pointer e)->TyA P t [.nilp]
 | iptr {t e cs}:P.underlying t=some (.pointer e)->0<P.cellsOf e->TyA P e cs->TyA P t [.iptr cs]
 | nils {t e}:P.underlying t=some (.slice e)->TyA P t [.nils]
 | isl {t e es}:P.underlying t=some (.slice e)->0<P.cellsOf e->es.length<=maxLen->zti P e es->TyA P t [.isl (P.cellsOf e) es]
 | struct {t fs parts}:P.underlying t=some (.struct fs)->TyAs P (fs.toList.map (·.type)) parts->TyA P t parts.flatten
 | array {t n e parts}:P.underlying t=some (.array n e)->parts.length=n->zti P e parts->TyA P t parts.flatten
 | other {t}:othK P t=true->TyA P t [.und]
inductive TyAs (P:Program):List TypeId->List (List AV)->Prop where
 | nil:TyAs P [] []
 | cons {t ts p ps}:TyA P t p->TyAs P ts ps->TyAs P (t::ts) (p::ps)
inductive zti (P:Program):TypeId->List (List AV)->Prop where
 | nil {t}:zti P t []
 | cons {t p ps}:TyA P t p->zti P t ps->zti P t (p::ps)
end
section
variable {H:Type} {enc:TypeId×Value->H} {P:Program} {w:World} {base:Nat} {spare:Nat->Bool} {held:Bool} {c:Ctx}
theorem zka {a:Addr} {n:Nat} {cs:List Value} {as:List AV} (hc:∀ b o,(w.cell? ⟨b,o,none⟩).isSome->c.im b o) (h:w.cells? base a n=some cs) (hr:LRel c w as cs) (h1:∀ u∈cs,u.oneCell'=true):MRel c w as a.block a.off:=by
 obtain ⟨_,hlen,hget⟩:=World.cells?_some h;refine MRel.ofFn λi x hx=>?_;obtain ⟨v,hv,hvr⟩:=LRel.get hr hx;have hi:i<n:=by rw [<-hlen];exact (List.getElem?_eq_some_iff.1 hv).1
 have hcell:w.cell? ⟨a.block,a.off+i,none⟩=some v:=by
  have:=hget i hi;rw [hv] at this;unfold Addr.add at this;split at this
  ·rename_i e;subst e;have hs:=World.cell?_spot this;obtain ⟨b,o,s⟩:=a;simp at hs;subst hs;simpa using this
  ·exact this
 exact ⟨hc _ _ (by rw [hcell];rfl),v,hcell,h1 v (List.mem_of_getElem? hv),hvr⟩
theorem zl0 {a:Addr} {n:Nat} {cs:List Value} (h:w.cells? base a n=some cs) (hn:0<n):a.spot=none:=by
 obtain ⟨_,hlen,hget⟩:=World.cells?_some h;have h0:=hget 0 hn;have:∃ v,cs[0]?=some v:=⟨cs[0]'(by omega),List.getElem?_eq_getElem (by omega)⟩;obtain ⟨v,hv⟩:=this;rw [hv] at h0;exact World.cell?_spot h0
theorem zgi (sz:TypeId->Nat):∀ (ts:List TypeId) (cs:List Value),cs.length=(ts.map sz).sum->
  (∀ (i:Nat) t,ts[i]?=some t->∃ as,TyA P t as/\LRel c w as ((cs.drop ((ts.take i).map sz).sum).take (sz t))/\∀ u∈(cs.drop ((ts.take i).map sz).sum).take (sz t),u.oneCell'=true)->
  ∃ parts,TyAs P ts parts/\LRel c w parts.flatten cs/\∀ u∈cs,u.oneCell'=true
 | [],cs,hl,_=>by
  have:cs=[]:=by simpa using hl
  subst this;exact ⟨[],.nil,by simp [LRel],by simp⟩
 | t::ts,cs,hl,h=>by
  obtain ⟨as,h1,h2,h3⟩:=h 0 t (by simp);simp only [List.take_zero,List.map_nil,List.sum_nil,List.drop_zero] at h2 h3;simp only [List.map_cons,List.sum_cons] at hl;obtain ⟨parts,k1,k2,k3⟩:=zgi sz ts (cs.drop (sz t)) (by simp;omega) (λi t' ht'=>by
   obtain ⟨as',g1,g2,g3⟩:=h (i+1) t' (by simpa using ht');simp only [List.take_succ_cons,List.map_cons,List.sum_cons] at g2 g3;rw [<-List.drop_drop] at g2 g3;exact ⟨as',g1,g2,g3⟩)
  refine ⟨as::parts,.cons h1 k1,?_,?_⟩
  ·have:=LRel.append h2 k2;simpa using this
  ·intro u hu;rw [<-List.take_append_drop (sz t) cs,List.mem_append] at hu;rcases hu with hu | hu
   ·exact h3 u hu
   ·exact k3 u hu
theorem tyAs_all {e:TypeId}:∀ {n:Nat} {parts:List (List AV)},TyAs P (List.replicate n e) parts->zti P e parts/\parts.length=n
 | 0,parts,h=>by cases h;exact ⟨.nil,rfl⟩
 | n+1,parts,h=>by
  rw [List.replicate_succ] at h
  cases h with
  | cons h1 h2=>
   obtain ⟨k1,k2⟩:=tyAs_all h2;exact ⟨.cons h1 k1,by simp [k2]⟩
theorem zpf {e:TypeId} {a:Addr} {n len:Nat} {elems:List (DataW H×List MemPlace)} (hc:∀ b o,(w.cell? ⟨b,o,none⟩).isSome->c.im b o)
  (ih:∀ cs x,DataW.trod enc P w base spare held n e cs=some x->∃ as,TyA P e as/\LRel c w as cs/\∀ u∈cs,u.oneCell'=true) (hs:0<len->a.spot=none)
  (hlen:elems.length=len) (h:∀ i,i<len->(w.cells? base (a.add (i*P.cellsOf e)) (P.cellsOf e)).bind (DataW.trod enc P w base spare held n e)=elems[i]?) :
  ∀ k j,j+k=len->∃ es,es.length=k/\zti P e es/\ERel c w (P.cellsOf e) es a.block (a.off+j*P.cellsOf e)
 | 0,j,_=>⟨[],rfl,.nil,by simp [ERel]⟩
 | k+1,j,hj=>by
  obtain ⟨es,k1,k2,k3⟩:=zpf hc ih hs hlen h k (j+1) (by omega);have hx:elems[j]?=some (elems[j]'(by omega)):=List.getElem?_eq_getElem (by omega);have hi:=h j (by omega);rw [hx,Option.bind_eq_some_iff] at hi;obtain ⟨cs,hcs,htr⟩:=hi;obtain ⟨as,g1,g2,g3⟩:=ih cs _ htr;have hM:=zka hc hcs g2 g3;have e1:(a.add (j*P.cellsOf e)).block=a.block/\(a.add (j*P.cellsOf e)).off=a.off+j*P.cellsOf e:=by
   unfold Addr.add;split
   ·rename_i e0;rw [e0];simp
   ·simp
  rw [e1.1,e1.2] at hM;have hL:as.length=P.cellsOf e:=by
   rw [<-(World.cells?_some hcs).2.1];exact (LRel.length g2).symm
  refine ⟨as::es,by simp [k1],.cons g1 k2,?_⟩;simp only [ERel];refine ⟨hL,hM,?_⟩;rwa [Nat.add_mul,Nat.one_mul,<-Nat.add_assoc] at k3
theorem trod_one {n:Nat} {t:TypeId} {cs:List Value} {x:DataW H×List MemPlace} (ho:othK P t=true) (h:DataW.trod enc P w base spare held (n+1) t cs=some x):∃ v,cs=[v]/\v.oneCell'=true:=by
 rw [DataW.trod_step] at h;unfold DataW.trodStep at h;split at h
 case h_9 hu=>simp [othK,hu] at ho
 case h_10 hu=>simp [othK,hu] at ho
 all_goals first
  | exact ⟨_,rfl,rfl⟩
  | (exact absurd h (by simp))
theorem zvx (hl:laidOutB P=true) (hc:∀ b o,(w.cell? ⟨b,o,none⟩).isSome->c.im b o):∀ (n:Nat) (t:TypeId) (cs:List Value) (x:DataW H×List MemPlace),t<P.types.size->DataW.trod enc P w base spare held n t cs=some x->∃ as,TyA P t as/\LRel c w as cs/\∀ u∈cs,u.oneCell'=true
 | 0,_,_,_,_,h=>by simp [DataW.trod] at h
 | n+1,t,cs,x,ht,h=>by
  have ih:=zvx hl hc n
  cases hu:P.underlying t with
  | none=>rw [DataW.trod_step] at h;unfold DataW.trodStep at h;simp [hu] at h
  | some d=>
   by_cases ho:othK P t=true
   ·
    obtain ⟨v,rfl,hv⟩:=trod_one ho h;exact ⟨[.und],.other ho,by simp [LRel,VRel],by simpa using hv⟩
   ·cases d with
    | bool=>
     obtain ⟨b,rfl,-⟩:=DataW.trod_bool hu h;exact ⟨[.bool b],.bool hu,by simp [LRel,VRel],by simp [Value.oneCell']⟩
    | int k=>
     obtain ⟨m,rfl,-,hw⟩:=DataW.trod_int hu h;simp only [Lit.wf,Bool.and_eq_true,decide_eq_true_eq] at hw;exact ⟨[.int k m],.int hu hw.1 hw.2,by simp [LRel,VRel],by simp [Value.oneCell']⟩
    | string=>
     obtain ⟨s,rfl,-,hw⟩:=DataW.trod_string hu h;refine ⟨[.str s.data.toList],.str hu (by simpa using hw),by simp [LRel,VRel],by simp [Value.oneCell']⟩
    | pointer e=>
     have hpos:0<P.cellsOf e:=by
      simp [othK,hu] at ho;omega
     rcases DataW.trod_pointer hu h with ⟨rfl,-⟩ | ⟨a,cs',y,m,hm,rfl,-,hcs,hy⟩
     ·exact ⟨[.nilp],.nilp hu,by simp [LRel,VRel],by simp [Value.oneCell']⟩
     ·cases hm;obtain ⟨as,g1,g2,g3⟩:=ih e cs' y (kid_pointer hl ht hu) hy;refine ⟨[.iptr as],.iptr hu hpos g1,?_,by simp [Value.oneCell']⟩;have hs:=zl0 hcs hpos;have hM:=zka hc hcs g2 g3;obtain ⟨b,o,s⟩:=a;simp at hs;subst hs;simp only [LRel,VRel];exact ⟨_,[],rfl,⟨b,o,rfl,hM⟩,rfl⟩
    | slice e=>
     have hpos:0<P.cellsOf e:=by
      simp [othK,hu] at ho;omega
     rcases DataW.trod_slice hu h with ⟨rfl,-⟩ | ⟨a,len,cap,elems,rest,m,hm,rfl,-,hb,hlc,hcm,hel,hget,-,-⟩
     ·exact ⟨[.nils],.nils hu,by simp [LRel,VRel],by simp [Value.oneCell']⟩
     ·cases hm;have hs:0<len->a.spot=none:=λh0=>by
       have hi:=hget 0 h0;have hx:elems[0]?=some (elems[0]'(by omega)):=List.getElem?_eq_getElem (by omega);rw [hx,Option.bind_eq_some_iff] at hi;obtain ⟨cs',hcs,-⟩:=hi;have:=zl0 hcs hpos;simpa [Addr.add] using this
      obtain ⟨es,k1,k2,k3⟩:=zpf (spare:=spare) (held:=held) hc (λcs x hx=>ih e cs x (kid_slice hl ht hu) hx) hs hel hget len 0 (by omega);have hml:maxLen<=9223372036854775807:=by decide
      refine ⟨[.isl (P.cellsOf e) es],.isl hu hpos (by omega) k2,?_,by simp [Value.oneCell']⟩;simp only [LRel,VRel];refine ⟨_,[],rfl,⟨some a,cap,by rw [k1],by omega,by omega,λhne=>?_⟩,rfl⟩;have hp:0<len:=by rw [<-k1];exact (by cases es with | nil=>exact absurd rfl hne | cons _ _=>simp)
      have hs:=hs hp;obtain ⟨b,o,s⟩:=a;simp at hs;subst hs;exact ⟨b,o,rfl,by simpa using k3⟩
    | struct fs=>
     obtain ⟨xs,m,hm,-,hcl,hxl,hget⟩:=DataW.trod_struct hu h;cases hm;obtain ⟨q1,q2,q3⟩:=kid_struct hl ht hu;obtain ⟨parts,g1,g2,g3⟩:=zgi (P:=P) (c:=c) (w:=w) P.cellsOf (fs.toList.map (·.type)) cs (by rw [hcl,q2];simp [Function.comp_def]) (λi t' ht'=>by
      rw [List.getElem?_map,Option.map_eq_some_iff] at ht';obtain ⟨f,hf,rfl⟩:=ht';have hoff:=q3 i f hf;have hf':fs[i]?=some f:=by simpa using hf
      have hlt:i<xs.length:=by rw [hxl];exact (Array.getElem?_eq_some_iff.1 hf').1
      have hx:=hget i f hf';rw [List.getElem?_eq_getElem hlt] at hx;rw [show ((List.take i (fs.toList.map (·.type))).map P.cellsOf).sum=f.offset by rw [hoff,<-List.map_take,List.map_map];rfl];exact ih f.type _ _ (q1 f (List.mem_of_getElem? hf)) hx)
     exact ⟨parts.flatten,.struct hu g1,g2,g3⟩
    | array m e=>
     obtain ⟨q1,q2⟩:=kid_array hl ht hu;have hx:cs.length=P.cellsOf t/\∀ i,i<m->∃ y,DataW.trod enc P w base spare held n e ((cs.drop (i*P.cellsOf e)).take (P.cellsOf e))=some y:=by
      rw [DataW.trod_step] at h;unfold DataW.trodStep at h;simp only [hu] at h;split at h
      ·rename_i hcl;refine ⟨hcl,λi hi=>?_⟩;simp only [Option.map_eq_some_iff] at h;obtain ⟨xs,hxs,-⟩:=h;have h1:=mapM_some_get hxs i i (by simp [hi]);have h2:=mapM_some_length hxs;rw [List.getElem?_eq_getElem (by simp at h2;omega)] at h1;exact ⟨_,h1⟩
      ·simp at h
     obtain ⟨hcl,hget⟩:=hx;obtain ⟨parts,g1,g2,g3⟩:=zgi (P:=P) (c:=c) (w:=w) P.cellsOf (List.replicate m e) cs (by rw [hcl,q2];simp) (λi t' ht'=>by
      rw [List.getElem?_replicate] at ht';split at ht'
      ·rename_i hi;cases ht';obtain ⟨y,hy⟩:=hget i hi;rw [show ((List.take i (List.replicate m e)).map P.cellsOf).sum=i*P.cellsOf e by simp [List.take_replicate,Nat.min_eq_left (Nat.le_of_lt hi)]];exact ih e _ _ q1 hy
      ·cases ht')
     obtain ⟨g4,g5⟩:=tyAs_all g1;exact ⟨parts.flatten,.array hu g5 g4,g2,g3⟩
    | _=>exact absurd (by simp [othK,hu]) ho
def aggK (P:Program) (t:TypeId):Bool:=
 match P.underlying t with
 | some (.struct _) | some (.array _ _)=>true
 | _=>false
inductive TyV (P:Program):TypeId->AV->Prop where
 | agg {t cs}:aggK P t=true->TyA P t cs->TyV P t (.agg cs)
 | one {t a}:aggK P t=false->TyA P t [a]->TyV P t a
inductive TyVs (P:Program):List TypeId->List AV->Prop where
 | nil:TyVs P [] []
 | cons {t ts a as}:TyV P t a->TyVs P ts as->TyVs P (t::ts) (a::as)
theorem read_value {r:Reach} {b0:Nat} {w0:World} {n:Nat} {t:TypeId} {v:Value} {x:DataW H×List MemPlace} (hl:laidOutB P=true) (hc:∀ b o,(w.cell? ⟨b,o,none⟩).isSome->c.im b o) (ht:t<P.types.size)
  (hok:Value.okWide P w0 r b0 t v) (h:DataW.trod enc P w base spare held n t v.cells.toList=some x):∃ a,TyV P t a/\VRel c w a v:=by
 obtain ⟨as,h1,h2,h3⟩:=zvx (c:=c) hl hc n t _ x ht h;unfold Value.okWide at hok;split at hok
 ·rename_i hu;obtain ⟨cs,rfl,-⟩:=hok;simp only [Value.cells] at h2 h3;exact ⟨.agg as,.agg (by simp [aggK,hu]) h1,by simp only [VRel];exact ⟨cs,rfl,h2,h3⟩⟩
 ·rename_i hu;obtain ⟨cs,rfl,-⟩:=hok;simp only [Value.cells] at h2 h3;exact ⟨.agg as,.agg (by simp [aggK,hu]) h1,by simp only [VRel];exact ⟨cs,rfl,h2,h3⟩⟩
 ·rename_i hn1 hn2;have hna:aggK P t=false:=by
   unfold aggK;split
   ·rename_i hu;exact absurd hu (hn1 _)
   ·rename_i hu;exact absurd hu (hn2 _ _)
   ·rfl
  have hv:v.cells.toList=[v]:=by
   cases v with
   | agg cs=>
    exfalso;unfold Cell.okWide at hok;split at hok <;> first
     | (rename_i e;cases e;done)
     | (rename_i e _;cases e;done)
     | (unfold Cell.ok at hok;split at hok <;> simp_all)
   | _=>rfl
  rw [hv] at h2
  match as,h2 with
  | [a],h2=>
   simp only [LRel] at h2;obtain ⟨v',_,e,h4,rfl⟩:=h2;cases e;exact ⟨a,.one hna h1,h4⟩
  | [],h2=>simp [LRel] at h2
  | _::_::_,h2=>
   simp only [LRel] at h2;obtain ⟨_,_,e,_,_,_,rfl,_⟩:=h2;cases e
theorem zvw {r:Reach} {b0:Nat} {w0:World} (hl:laidOutB P=true) (hc:∀ b o,(w.cell? ⟨b,o,none⟩).isSome->c.im b o):∀ {ts:List TypeId} {vs:List Value} {ds:List (DataW H)} {ps:List MemPlace},
  (∀ t∈ts,t<P.types.size)->(∀ (j:Nat) t v,ts[j]?=some t->vs[j]?=some v->Value.okWide P w0 r b0 t v)->DataW.TrodAll enc P w base spare held ts vs ds ps->∃ as,TyVs P ts as/\LRel c w as vs
 | [],[],_,_,_,_,_=>⟨[],.nil,by simp [LRel]⟩
 | [],_::_,_,_,_,_,h=>by simp [DataW.TrodAll] at h
 | _::_,[],_,_,_,_,h=>by simp [DataW.TrodAll] at h
 | _::_,_::_,[],_,_,_,h=>by simp [DataW.TrodAll] at h
 | t::ts,v::vs,d::ds,ps,ht,hok,h=>by
  simp only [DataW.TrodAll] at h;obtain ⟨p,q,⟨n,h1⟩,h2,-⟩:=h;obtain ⟨a,g1,g2⟩:=read_value (c:=c) hl hc (ht t (by simp)) (hok 0 t v rfl rfl) h1;obtain ⟨as,g3,g4⟩:=zvw hl hc (λx hx=>ht x (by simp [hx])) (λj t v hj hv=>hok (j+1) t v (by simpa using hj) (by simpa using hv)) h2;exact ⟨a::as,.cons g1 g3,by simp only [LRel];exact ⟨v,vs,rfl,g2,g4⟩⟩
end
def noHeap:z00:=⟨λ_=>none,0⟩
theorem law_calls {H:Type} {enc:TypeId×Value->H} {P:Program} {f:FuncId} {ts:List TypeId} {args:Array Value} {W:World} {r:Reach} {b0:Nat} {ds:List (DataW H)} {ps:List MemPlace} (hl:laidOutB P=true) (ht:∀ t∈ts,t<P.types.size)
  (hok:∀ (j:Nat) t v,ts[j]?=some t->args.toList[j]?=some v->Value.okWide P W r b0 t v) (hA:DataW.TrodAll enc P W 0 (λ_=>true) true ts args.toList ds ps)
  (hcall:∀ as w,(callFunc f as).run P w=.ok (.enter f as) w) (hgl:∀ c:Ctx,(∀ b o,(W.cell? ⟨b,o,none⟩).isSome=true->c.im b o)->GlR c W) (H:∀ as,TyVs P ts as->z01 P f as noHeap (λv _=>v=.bool true)):Calls P f args W λe W'=>e=.returned (.bool true)/\Below W.heap.size W W':=by
 let c:Ctx:=⟨λ_=>none,λb o=>(W.cell? ⟨b,o,none⟩).isSome=true⟩
 obtain ⟨as,h1,h2⟩:=zvw (c:=c) hl (λ_ _ h=>h) ht hok hA;have hW:WRel W.heap.size c noHeap W:=⟨by simp [c],by simp [c],by simp [c],λb o hb=>by
   show b<W.heap.size
   have hb:(W.cell? ⟨b,o,none⟩).isSome=true:=hb
   cases hx:W.heap[b]? with
   | none=>simp [World.cell?,hx] at hb
   | some _=>exact (Array.getElem?_eq_some_iff.1 hx).1,λ_ _=>rfl,Nat.le_refl _,hgl c λ_ _ h=>h⟩
 have hA':=H as h1;rcases hA' with hA' | hA'
 case inr=>
  obtain ⟨c',u,v,h',w',hr,_⟩:=hA' W.heap.size c W args.toList hW h2;rw [hcall] at hr;cases hr
 have:=hA'.2 W.heap.size c W args.toList hW h2;rw [show args.toList.toArray=args from rfl] at this;refine this.mono λe W' h=>?_;obtain ⟨c',u,v,h',rfl,E,_,hv,rfl⟩:=h;simp only [VRel] at hv;subst hv;exact ⟨rfl,E.below⟩
theorem zl4 {H:Type} {enc:TypeId×Value->H} {P:Program} (hl:laidOutB P=true) {W W':World} (hb:Below W.heap.size W W'):∀ {ts:List TypeId} {vs:List Value} {ds:List (DataW H)} {ps:List MemPlace},
  (∀ t∈ts,t<P.types.size)->(∀ t∈ts,P.readableRec t=true)->(∀ x∈ps,x.block<W.heap.size)->DataW.TrodAll enc P W 0 (λ_=>true) true ts vs ds ps->DataW.TrodAll enc P W' 0 (λb=>decide (b<W.heap.size)) true ts vs ds ps
 | [],[],[],_,_,_,_,h=>h
 | [],[],_::_,_,_,_,_,h=>by simp [DataW.TrodAll] at h
 | [],_::_,_,_,_,_,_,h=>by simp [DataW.TrodAll] at h
 | _::_,[],_,_,_,_,_,h=>by simp [DataW.TrodAll] at h
 | _::_,_::_,[],_,_,_,_,h=>by simp [DataW.TrodAll] at h
 | t::ts,v::vs,d::ds,ps,ht,hr,hp,h=>by
  simp only [DataW.TrodAll] at h ⊢;obtain ⟨p,q,h1,h2,rfl⟩:=h;refine ⟨p,q,Below.trod hl (hr t (by simp)) (ht t (by simp)) h1 hb (λx hx=>hp x (by simp [hx])),zl4 hl hb (λx hx=>ht x (by simp [hx])) (λx hx=>hr x (by simp [hx])) (λx hx=>hp x (by simp [hx])) h2,rfl⟩
theorem law_post {H:Type} {enc:TypeId×Value->H} {P:Program} {f:Func} {s:ChangeSpec} {apart fresh handsOn:Bool} {W W':World} {args:Array Value} {ds gs:List (DataW H)} {before:List MemPlace} {t:TypeId}
  (hl:laidOutB P=true) (ht:∀ t∈f.params.toList,t<P.types.size) (hr:∀ t∈f.params.toList,P.readableRec t=true) (hres:f.resultTypes=#[t]) (htb:P.underlying t=some .bool)
  (hvars:s.vars=[]) (hfn:∀ xs:List (DataW H),xs.length=f.params.size->s.fn H xs={ results:=[.lit (.bool true)],args:=xs })
  (hW:DataW.Whole enc P f.params.toList s.vars apart W args.toList ds gs before) (hB:Below W.heap.size W W'):s.post enc P f apart fresh handsOn false W args (.bool true) W':=by
 have hlt:=hW.lt;have hW':=hW;obtain ⟨p,q,hA,hV,hb,-,-⟩:=hW';rw [hvars] at hV;have hg:gs=[]/\q=[]:=by
  cases gs with
  | nil=>simpa [DataW.TrodVars] using hV
  | cons _ _=>simp [DataW.TrodVars] at hV
 obtain ⟨rfl,rfl⟩:=hg;have hlen:∀ {ts:List TypeId} {vs:List Value} {ds:List (DataW H)} {p:List MemPlace},DataW.TrodAll enc P W 0 (λ_=>true) true ts vs ds p->ds.length=ts.length:=by
  intro ts
  induction ts with
  | nil=>intro vs ds p h;cases vs <;> cases ds <;> simp_all [DataW.TrodAll]
  | cons t ts ih=>
   intro vs ds p h;cases vs <;> cases ds <;> simp only [DataW.TrodAll] at h;obtain ⟨_,_,_,h2,_⟩:=h;simp [ih h2]
 have hdl:(ds++([]:List (DataW H))).length=f.params.size:=by simp [hlen hA]
 have e:=hfn _ hdl;refine ⟨ds,[],before,[],before,[],hW,?_,?_,?_,hB.frame _,λh=>by simp at h⟩
 ·rw [e,hres];simp only [List.size_toArray,List.length_cons,List.length_nil,DataW.TrodAll];refine ⟨[],[],⟨1,?_⟩,rfl,rfl⟩;simp [DataW.trod,htb,Value.cells]
 ·rw [e];simp only [List.append_nil] at hb ⊢;subst hb;exact zl4 hl hB ht hr hlt hA
 ·rw [e,hvars];simp [DataW.TrodVars]
def parsOk (P:Program) (f:Func):Bool:=f.params.toList.all λt=>decide (t<P.types.size)&&P.readableRec t
theorem law_lifted {C:Checked} {os:Os} {f:FuncId} {fn:Func} {s:ChangeSpec} {H:Type} {enc:TypeId×Value->H} {conds:List PathCond} {apart fresh handsOn:Bool} {t:TypeId}
  (own:ownKnob C.prog.godebug=none) (started:os.Started) (noInit:C.prog.inits.idxOf? f=none) (hfn:C.prog.funcs[f]?=some fn)
  (witness:∃ (w:World) (tape:Tape) (i:Input),w.os=os/\(w.forCall tape i).Shaped C.prog/\i.vars=[]/\Input.okWide C.prog (w.forCall tape i) .any w.heap.size f i/\
   s.pre6 enc C.prog fn conds apart (w.forCall tape i).memory i.args/\Assume.holds {} C.prog (lone (Frame.enter C.prog f i.args .normal) [] (w.forCall tape i)))
  (hl:laidOutB C.prog=true) (hp:parsOk C.prog fn=true) (hres:fn.resultTypes=#[t]) (htb:C.prog.underlying t=some .bool)
  (hvars:s.vars=[]) (hsf:∀ xs:List (DataW H),xs.length=fn.params.size->s.fn H xs={ results:=[.lit (.bool true)],args:=xs })
  (hcall:∀ as w,(callFunc f as).run C.prog w=.ok (.enter f as) w) (hgl:∀ g,Globs g=[]) (Hc:∀ as,TyVs C.prog fn.params.toList as->z01 C.prog f as noHeap (λv _=>v=.bool true)) :
  ReturnsInHanded {} C os f .any (s.pre6 enc C.prog fn conds apart) (s.post enc C.prog fn apart fresh handsOn false):=by
 simp only [parsOk,List.all_eq_true,Bool.and_eq_true,decide_eq_true_eq] at hp;refine returnsInHanded_of_change own started noInit hfn witness ?_;intro W base args ds gs before hval hW _ _;have hW':=hW;obtain ⟨p,q,hA,-,-,-,-⟩:=hW';refine (law_calls hl (λt ht=>(hp t ht).1) (λj t v h1 h2=>hval j t v (by simpa using h1) (by simpa using h2)) hA hcall (λc _ g=>by rw [hgl];simp [MRel]) Hc).mono λe W' ⟨he,hB⟩=>⟨_,he,?_⟩;exact law_post hl (λt ht=>(hp t ht).1) (λt ht=>(hp t ht).2) hres htb hvars hsf hW hB
section
variable {P:Program} {t:TypeId} {cs:List AV} {a:AV}
theorem TyA.inv_bool (hu:P.underlying t=some .bool) (h:TyA P t cs):∃ b,cs=[.bool b]:=by cases h <;> simp_all [othK]
theorem TyA.inv_int {k:IntKind} (hu:P.underlying t=some (.int k)) (h:TyA P t cs):∃ n,cs=[.int k n]/\k.min<=n/\n<=k.max:=by cases h <;> simp_all [othK]
theorem TyA.inv_slice {e:TypeId} (hu:P.underlying t=some (.slice e)) (he:0<P.cellsOf e) (h:TyA P t cs):cs=[.nils]\/∃ es,cs=[.isl (P.cellsOf e) es]/\es.length<=maxLen/\zti P e es:=by
 cases h <;> simp_all [othK]
theorem TyA.z5f {fs:Array Field} (hu:P.underlying t=some (.struct fs)) (h:TyA P t cs):∃ parts,cs=parts.flatten/\TyAs P (fs.toList.map (·.type)) parts:=by
 cases h <;> simp_all [othK];exact ⟨_,rfl,by assumption⟩
theorem TyV.one_inv (hg:aggK P t=false) (h:TyV P t a):TyA P t [a]:=by cases h <;> simp_all
theorem TyV.agg_inv (hg:aggK P t=true) (h:TyV P t a):∃ cs,a=.agg cs/\TyA P t cs:=by
 cases h
 ·exact ⟨_,rfl,by assumption⟩
 ·simp_all
theorem TyVs.z8k {as:List AV} (h:TyVs P [] as):as=[]:=by cases h;rfl
theorem TyVs.cons_inv {ts:List TypeId} {as:List AV} (h:TyVs P (t::ts) as):∃ a bs,as=a::bs/\TyV P t a/\TyVs P ts bs:=by
 cases h;exact ⟨_,_,rfl,by assumption,by assumption⟩
theorem TyAs.z8k {ps:List (List AV)} (h:TyAs P [] ps):ps=[]:=by cases h;rfl
theorem TyAs.cons_inv {ts:List TypeId} {ps:List (List AV)} (h:TyAs P (t::ts) ps):∃ p qs,ps=p::qs/\TyA P t p/\TyAs P ts qs:=by
 cases h;exact ⟨_,_,rfl,by assumption,by assumption⟩
end
end
section
@[simp] theorem z9f (n:Int):IntKind.u64.wrap n=n%18446744073709551616:=by simp [IntKind.wrap,IntKind.bits,IntKind.signed]
@[simp] theorem wr_u32 (n:Int):IntKind.u32.wrap n=n%4294967296:=by simp [IntKind.wrap,IntKind.bits,IntKind.signed]
@[simp] theorem wr_u8 (n:Int):IntKind.u8.wrap n=n%256:=by simp [IntKind.wrap,IntKind.bits,IntKind.signed]
theorem zyd (w a:Nat):BitVec.ofInt w (a:Int)=BitVec.ofNat w a:=by simp
theorem bv_or (w a b:Nat) (ha:a<2 ^ w) (hb:b<2 ^ w):(BitVec.ofInt w (a:Int) ||| BitVec.ofInt w (b:Int)).toNat=a ||| b:=by
 rw [zyd,zyd,BitVec.toNat_or,BitVec.toNat_ofNat,BitVec.toNat_ofNat,Nat.mod_eq_of_lt ha,Nat.mod_eq_of_lt hb]
theorem bv_xor (w a b:Nat) (ha:a<2 ^ w) (hb:b<2 ^ w):(BitVec.ofInt w (a:Int) ^^^ BitVec.ofInt w (b:Int)).toNat=a ^^^ b:=by
 rw [zyd,zyd,BitVec.toNat_xor,BitVec.toNat_ofNat,BitVec.toNat_ofNat,Nat.mod_eq_of_lt ha,Nat.mod_eq_of_lt hb]
theorem zok (a b:Nat) (ha:a<18446744073709551616) (hb:b<18446744073709551616):iOr .u64 a b=((a ||| b:Nat):Int):=by
 unfold iOr;rw [bv_or _ a b (by simpa [IntKind.bits] using ha) (by simpa [IntKind.bits] using hb),z9f];have:a ||| b<2 ^ 64:=Nat.or_lt_two_pow (by simpa using ha) (by simpa using hb)
 omega
theorem zyt (a b:Nat) (ha:a<18446744073709551616) (hb:b<18446744073709551616):iXor .u64 a b=((a ^^^ b:Nat):Int):=by
 unfold iXor;rw [bv_xor _ a b (by simpa [IntKind.bits] using ha) (by simpa [IntKind.bits] using hb),z9f];have:a ^^^ b<2 ^ 64:=Nat.xor_lt_two_pow (by simpa using ha) (by simpa using hb);omega
theorem zys (a b:Nat) (hb:b<64):iShl .u64 a b=((a*2 ^ b%18446744073709551616:Nat):Int):=by
 unfold iShl;rw [z9f];have:min (b:Int).toNat IntKind.u64.bits=b:=by simp [IntKind.bits];omega
 rw [this,Int.natCast_emod,Int.natCast_mul,Int.natCast_pow]
 rfl
theorem zsg (a b:Nat) (hb:b<64):iShr .u64 a b=((a/2 ^ b:Nat):Int):=by
 unfold iShr;have:min (b:Int).toNat IntKind.u64.bits=b:=by simp [IntKind.bits];omega
 rw [this,Int.fdiv_eq_ediv_of_nonneg _ (Int.le_of_lt (Int.pow_pos (by decide))),Int.natCast_ediv,Int.natCast_pow]
 rfl
end
section
theorem push_put (h:z00) (o o':AObj):(h.push o).put h.next o'=h.push o':=by
 unfold z00.push z00.put;simp only [z00.mk.injEq,and_true];funext i;split <;> simp_all
theorem z13 {h:z00} {ty:TypeId} {zs vs:List AV} {n:Nat} (h1:zs.length=n) (h2:vs.length=n) (K:z00->Prop):z1d n (.ptr h.next 0) (.agg vs) (h.push (.row ty zs)) K=K (h.push (.row ty vs)):=by
 simp only [z1d,z00.z4a,if_true,List.take_zero,List.nil_append,Nat.zero_add];rw [<-h1,List.drop_length,List.append_nil,push_put];simp [h1,h2]
@[simp] theorem zcu (h:z00) (ty:TypeId) (cs:List AV) (k:Option Nat) (off:Nat) (K:AV->Prop):z0r k (.ptr h.next off) (h.push (.row ty cs)) K=z04 k cs off K:=by simp [z0r]
def slAV {α:Type} (sz:Nat) (enc:α->List AV):Option (List α)->AV
 | none=>.nils
 | some xs=>.isl sz (xs.map enc)
def slL {α:Type}:Option (List α)->List α | none=>[] | some xs=>xs
@[simp] theorem slL_none {α:Type}:slL (none:Option (List α))=[]:=rfl
@[simp] theorem zzm {α:Type} (xs:List α):slL (some xs)=xs:=rfl
@[simp] theorem zvk {α:Type} (sz:Nat) (enc:α->List AV) (o:Option (List α)) (K:AV->Prop):pLen .slice (slAV sz enc o) K=K (.int .i64 (slL o).length):=by
 cases o <;> simp [slAV]
theorem z03 {α:Type} {sz:Nat} {enc:α->List AV} {o:Option (List α)} {k:Nat} {x:α} (hx:(slL o)[k]?=some x) (kk:IntKind) (K:AV->Prop):z0d (.slice sz) (slAV sz enc o) (.int kk (k:Int)) K=K (.iptr (enc x)):=by
 cases o with
 | none=>simp at hx
 | some xs=>simp at hx;simp [slAV,z0d,hx]
theorem zl1 {α:Type} (sz:Nat) (enc:α->List AV) (o:Option (List α)) (h:z00):z10 sz (slAV sz enc o) h=some ((slL o).map enc):=by
 cases o <;> simp [slAV,z10]
theorem TyA.slAV_of {P:Program} {t e:TypeId} {α:Type} {enc:α->List AV} {ok:α->Prop} {cs:List AV} (hu:P.underlying t=some (.slice e)) (he:0<P.cellsOf e) (hx:∀ es,TyA P e es->∃ x,es=enc x/\ok x) (h:TyA P t cs) :
  ∃ o:Option (List α),cs=[slAV (P.cellsOf e) enc o]/\(slL o).length<=maxLen/\∀ x∈slL o,ok x:=by
 rcases h.inv_slice hu he with rfl | ⟨es,rfl,hl,ht⟩
 ·exact ⟨none,rfl,by simp,by simp⟩
 ·have:∃ xs:List α,es=xs.map enc/\∀ x∈xs,ok x:=by
   clear hl h
   induction es with
   | nil=>exact ⟨[],rfl,by simp⟩
   | cons c es ih=>
    cases ht with
    | cons h1 h2=>
     obtain ⟨xs,e1,k1⟩:=ih h2;obtain ⟨x,e2,k2⟩:=hx c h1;refine ⟨x::xs,by rw [e1,e2];rfl,λy hy=>?_⟩;rcases List.mem_cons.1 hy with rfl | hy
     ·exact k2
     ·exact k1 y hy
  obtain ⟨xs,rfl,hk⟩:=this;exact ⟨some xs,rfl,by simpa using hl,hk⟩
def encI (n:Int):List AV:=[.int .i64 n]
def encN (n:Nat):List AV:=[.int .u64 (n:Int)]
def encT (b:Bool):List AV:=[.bool b]
def okI (n:Int):Prop:=-9223372036854775808<=n/\n<=9223372036854775807
def okN (n:Nat):Prop:=n<18446744073709551616
def okT (_:Bool):Prop:=True
def okSl {α:Type} (ok:α->Prop) (o:Option (List α)):Prop:=(slL o).length<=maxLen/\∀ x∈slL o,ok x
section
variable {P:Program} {t:TypeId} {cs:List AV} {a:AV}
theorem TyA.z3f (hu:P.underlying t=some (.int .i64)) (h:TyA P t cs):∃ n,cs=encI n/\okI n:=by
 obtain ⟨n,rfl,h1,h2⟩:=h.inv_int hu;exact ⟨n,rfl,by simpa [IntKind.min,IntKind.signed,IntKind.bits] using h1,by simpa [IntKind.max,IntKind.signed,IntKind.bits] using h2⟩
theorem TyA.u64_of (hu:P.underlying t=some (.int .u64)) (h:TyA P t cs):∃ n,cs=encN n/\okN n:=by
 obtain ⟨n,rfl,h1,h2⟩:=h.inv_int hu;simp [IntKind.min,IntKind.signed] at h1;simp [IntKind.max,IntKind.signed,IntKind.bits] at h2;refine ⟨n.toNat,?_,?_⟩
 ·simp only [encN];rw [Int.toNat_of_nonneg h1]
 ·unfold okN;omega
theorem TyA.zwt (hu:P.underlying t=some .bool) (h:TyA P t cs):∃ b,cs=encT b/\okT b:=by
 obtain ⟨b,rfl⟩:=h.inv_bool hu;exact ⟨b,rfl,trivial⟩
theorem TyA.zgg {e:TypeId} {n:Nat} {α:Type} {enc:α->List AV} {ok:α->Prop} (hu:P.underlying t=some (.slice e)) (hn:P.cellsOf e=n) (he:0<n) (hx:∀ es,TyA P e es->∃ x,es=enc x/\ok x) (h:TyA P t cs) :
  ∃ o:Option (List α),cs=[slAV n enc o]/\okSl ok o:=by
 subst hn;exact h.slAV_of hu he hx
theorem TyV.zz2 {α:Type} {enc:α->AV} {ok:α->Prop} (hg:aggK P t=false) (hx:∀ es,TyA P t es->∃ x,es=[enc x]/\ok x) (h:TyV P t a):∃ x,a=enc x/\ok x:=by
 obtain ⟨x,h1,h2⟩:=hx _ (h.one_inv hg);exact ⟨x,by simpa using h1,h2⟩
theorem TyV.agg_of {α:Type} {enc:α->List AV} {ok:α->Prop} (hg:aggK P t=true) (hx:∀ es,TyA P t es->∃ x,es=enc x/\ok x) (h:TyV P t a):∃ x,a=.agg (enc x)/\ok x:=by
 obtain ⟨cs,rfl,h1⟩:=h.agg_inv hg;obtain ⟨x,rfl,h2⟩:=hx _ h1;exact ⟨x,rfl,h2⟩
end
theorem zou (cs:List AV) (o:Nat) (K:AV->Prop):z04 none (cs.drop o) 0 K=z04 none cs o K:=by simp [z04]
theorem zmd (cs:List AV) (o n:Nat) (hn:0<n) (K:AV->Prop):z04 (some n) (cs.drop o) 0 K=z04 (some n) cs o K:=by
 simp only [z04,List.length_drop,Nat.zero_add,List.drop_zero];rw [show (n<=cs.length-o)=(o+n<=cs.length) by rw [eq_iff_iff];omega]
section
theorem fits_int (k:IntKind) (n:Int):(AV.int k n).fits=true:=rfl
theorem zu1 (k:IntKind) (n:Int):(AV.int k n).cells=[AV.int k n]:=rfl
theorem fits_bool (b:Bool):(AV.bool b).fits=true:=rfl
theorem zqo (b:Bool):(AV.bool b).cells=[AV.bool b]:=rfl
theorem zyp (b:List UInt8):(AV.str b).fits=true:=rfl
theorem zu4 (b:List UInt8):(AV.str b).cells=[AV.str b]:=rfl
theorem zyo (i o:Nat):(AV.ptr i o).fits=true:=rfl
theorem zu3 (i o:Nat):(AV.ptr i o).cells=[AV.ptr i o]:=rfl
theorem zui (c:List AV):(AV.iptr c).fits=true:=rfl
theorem zqp (c:List AV):(AV.iptr c).cells=[AV.iptr c]:=rfl
theorem zfa {α:Type} (sz:Nat) (enc:α->List AV) (o:Option (List α)):(slAV sz enc o).fits=true:=by cases o <;> rfl
theorem zle {α:Type} (sz:Nat) (enc:α->List AV) (o:Option (List α)):(slAV sz enc o).cells=[slAV sz enc o]:=by cases o <;> rfl
end
end
section
open Go.RowKit
@[reducible] def Tok {α:Type} (_:α):Type:=Unit
def later {α:Type} (K:α) (t:Tok K):α:=K
theorem z5a {α:Type} (K:α->Prop) (t:Tok K) (x:α):later K t x=K x:=rfl
theorem zxc {α β:Type} (K:α->β->Prop) (t:Tok K) (x:α) (y:β):later K t x y=K x y:=rfl
theorem later_3 {α β γ:Type} (K:α->β->γ->Prop) (t:Tok K) (x:α) (y:β) (z:γ):later K t x y z=K x y z:=rfl
theorem Cut.go {A:(Fr->z00->Prop)->Prop} {B:Fr->z00->Prop} {a:Tok A} {b:Tok B} (H:A (later B b)):Cut (later A a) (later B b):=⟨later B b,H,λ_ _ h=>h⟩
theorem Cut.on {A:(Fr->z00->Prop)->Prop} {B:Fr->z00->Prop} {a:Tok A} {b:Tok B} (J:Fr->z00->Prop) (H:A J) (H2:∀ fr h,J fr h->B fr h):Cut (later A a) (later B b):=⟨J,H,H2⟩
def zj7 (b:Bool) (T F:Unit->Prop) (t:Tok T) (f:Tok F):Prop:=if b then T () else F ()
abbrev Split (b:Bool) (T F:Unit->Prop):Prop:=zj7 b T F () ()
def BothT (T F:Unit->Prop) (t:Tok T) (f:Tok F):Prop:=T ()/\F ()
theorem zqj (T F:Unit->Prop) (t:Tok T) (f:Tok F):zj7 true T F t f=T ():=rfl
theorem znw (T F:Unit->Prop) (t:Tok T) (f:Tok F):zj7 false T F t f=F ():=rfl
theorem Split.intro {b:Bool} {T F:Unit->Prop} (h1:b=true->T ()) (h2:b=false->F ()):Split b T F:=by
 cases b
 ·exact h2 rfl
 ·exact h1 rfl
theorem z0c {a b:Int} {T F:Unit->Prop} (h1:a<b->T ()) (h2:b<=a->F ()):Split (decide (a<b)) T F:=Split.intro (λh=>h1 (of_decide_eq_true h)) (λh=>h2 (by have:=of_decide_eq_false h;omega))
theorem z1b {a b:Int} {T F:Unit->Prop} (h1:a<=b->T ()) (h2:b<a->F ()):Split (decide (a<=b)) T F:=Split.intro (λh=>h1 (of_decide_eq_true h)) (λh=>h2 (by have:=of_decide_eq_false h;omega))
theorem z0i {a b:Int} {T F:Unit->Prop} (h1:a=b->T ()) (h2:a≠b->F ()):Split (a == b) T F:=Split.intro (λh=>h1 (by simpa using h)) (λh=>h2 (by simpa using h))
theorem z16 {a b:Int} {T F:Unit->Prop} (h1:a≠b->T ()) (h2:a=b->F ()):Split (a != b) T F:=Split.intro (λh=>h1 (by simpa using h)) (λh=>h2 (by simpa using h))
theorem Split_not {b:Bool} {T F:Unit->Prop} (h:Split b F T):Split (!b) T F:=by
 cases b
 ·exact h
 ·exact h
theorem zdg (b:Bool) (T F:Prop):zq3 (.bool b) T F=zj7 b (λ_=>T) (λ_=>F) () ():=by cases b <;> rfl
theorem zi4 (T F:Prop):zq3 .unkb T F=BothT (λ_=>T) (λ_=>F) () ():=rfl
theorem zpd (b:Bool) (T F:Prop):zi1 (.bool b) true T F=zj7 b (λ_=>T) (λ_=>F) () ():=by cases b <;> rfl
theorem zpc (b:Bool) (T F:Prop):zi1 (.bool b) false T F=zj7 b (λ_=>F) (λ_=>T) () ():=by cases b <;> rfl
theorem zgd (w:Bool) (T F:Prop):zi1 .unkb w T F=BothT (λ_=>T) (λ_=>F) () ():=rfl
theorem zmh (b:Bool) (T F:Prop):zaf (.bool b) true T F=zj7 b (λ_=>T) (λ_=>F) () ():=by cases b <;> rfl
theorem zmg (b:Bool) (T F:Prop):zaf (.bool b) false T F=zj7 b (λ_=>F) (λ_=>T) () ():=by cases b <;> rfl
theorem zw5 (b:Bool) (x y:AV) (K:AV->Prop):zvn (.bool b) x y K=zj7 b (λ_=>K x) (λ_=>K y) () ():=by cases b <;> rfl
theorem zvf (vs:List AV) (K:List AV->Prop):z7n vs K=K vs:=rfl
theorem zzg (i k:Nat) (T F:Prop):pIdx i k T F=if i=k then T else F:=rfl
theorem zkw (v:AV) (vs:List AV) (K:AV->Prop):z8p 0 (.tup (v::vs)) K=K v:=rfl
theorem zkx (i:Nat) (v:AV) (vs:List AV) (K:AV->Prop):z8p (i+1) (.tup (v::vs)) K=z8p i (.tup vs) K:=rfl
theorem dT_lt {a b:Int} (h:a<b):decide (a<b)=true:=decide_eq_true h
theorem dF_lt {a b:Int} (h:b<=a):decide (a<b)=false:=decide_eq_false (by omega)
theorem dT_le {a b:Int} (h:a<=b):decide (a<=b)=true:=decide_eq_true h
theorem dF_le {a b:Int} (h:b<a):decide (a<=b)=false:=decide_eq_false (by omega)
theorem dT_eq {a b:Int} (h:a=b):(a == b)=true:=by simp [h]
theorem dF_eq {a b:Int} (h:a≠b):(a == b)=false:=by simp [h]
theorem dT_ne {a b:Int} (h:a≠b):(a != b)=true:=by simp [h]
theorem dF_ne {a b:Int} (h:a=b):(a != b)=false:=by simp [h]
theorem z2f {n:Int} (h1:-9223372036854775808<=n) (h2:n<=9223372036854775807):IntKind.i64.wrap n=n:=wrap_i64 ⟨h1,h2⟩
theorem wrapN {n:Int} (h1:0<=n) (h2:n<18446744073709551616):IntKind.u64.wrap n=n:=by rw [z9f];omega
theorem wrapB {n:Int} (h1:0<=n) (h2:n<256):IntKind.u8.wrap n=n:=by rw [wr_u8];omega
theorem znq {i o len n:Nat} {kk:IntKind} {k:Int} (h1:0<=k) (h2:k<len) (K:AV->Prop):z0d (.slice n) (.sl i o len n) (.int kk k) K=K (.ptr i (o+k.toNat*n)):=by simp [z0d,h1,h2]
section
variable {P:Program}
end
theorem Keeps.go {h h1 h2:z00} (a:Keeps h h1 (λ_=>False)) (b:Keeps h1 h2 (λ_=>False)):Keeps h h2 (λ_=>False):=a.trans b (λ_ _ x=>x)
theorem Keeps.one (h:z00) (o:AObj):Keeps h (h.push o) (λ_=>False):=Keeps.push h o
end
section
open Go.RowKit
abbrev n6 (n:Int):AV:=.int .i64 n
abbrev n8 (n:Int):AV:=.int .u8 n
abbrev nU (n:Int):AV:=.int .u64 n
abbrev n0:AV:=.int .i64 0
abbrev bT:AV:=.bool true
abbrev bF:AV:=.bool false
def tu:Nat->List AV
 | 0=>[]
 | n+1=>.tup []::tu n
def kq (f:Fr):List Nat->List (Nat×AV)->List (Nat×AV)
 | [],r=>r
 | k::l,r=>(k,f k)::kq f l r
def qF (o:Nat) (a:AV) (K:AV->Prop):Prop:=z3i o a (later K ())
def qL (a:AV) (h:z00) (K:AV->Prop):Prop:=z0r none a h (later K ())
def qK (k:Nat) (a:AV) (h:z00) (K:AV->Prop):Prop:=z0r (some k) a h (later K ())
def qG (o:Nat) (a:AV) (h:z00) (K:AV->Prop):Prop:=z3i o a (later (λv=>z0r none v h (later K ())) ())
def qH (o:Nat) (a:AV) (h:z00) (K:AV->AV->Prop):Prop:=z3i o a (later (λv=>z0r none v h (later (K v) ())) ())
def qX (n:Nat) (a b:AV) (K:AV->Prop):Prop:=z0d (.slice n) a b (later K ())
def qY (k:Nat) (a b:AV) (h:z00) (K:AV->Prop):Prop:=z0d (.slice k) a b (later (λv=>z0r (some k) v h (later K ())) ())
def qZ (k:Nat) (a b:AV) (h:z00) (K:AV->Prop):Prop:=z0d (.slice k) a b (later (λv=>z0r none v h (later K ())) ())
def qB (op:BinOp) (a b:AV) (K:AV->Prop):Prop:=z7s (binA .other op a b) (later K ())
def qE (a b:AV) (K:AV->Prop):Prop:=z7s (binA .other .eql a b) (later K ())
def qC (op:BinOp) (a b:AV) (T F:Prop):Prop:=z7s (binA .other op a b) (later (λv=>zq3 v T F) ())
def qD (c:CmpK) (op:BinOp) (a b:AV) (K:AV->Prop):Prop:=z7s (binA c op a b) (later K ())
def qN (a:AV) (K:AV->Prop):Prop:=z7s (unA .not a) (later K ())
def qI (v:AV) (T F:Prop):Prop:=zq3 v T F
def qS (P:Program) (f:FuncId) (as:List AV) (h:z00) (K:AV->z00->Prop):Prop:=z01 P f as h (later K ())
def qJ (b:(List AV->z00->Prop)->Prop) (K:List AV->z00->Prop):Prop:=zq6 (later b ()) (later K ())
def qU (v:AV) (w:Bool) (n:Nat) (h:z00) (A:(List AV->z00->Prop)->Prop) (K:List AV->z00->Prop):Prop:=zq6 (later (λx=>zi1 v w (A x) (x (tu n) h)) ()) (later K ())
def qV (v:AV) (w:Bool) (n:Nat) (h:z00) (A:(List AV->z00->Prop)->Prop) (K:List AV->z00->Prop):Prop:=zq6 (later (λx=>zaf v w (A x) (x (tu n) h)) ()) (later K ())
def qP (v a b:AV) (K:AV->Prop):Prop:=zvn v a b (later K ())
def qM (im:Bool) (t:TypeId) (a:AV) (h:z00) (K:AV->z00->Prop):Prop:=pBox im t a h (later K ())
def qA (t:TypeId) (z:List AV) (h:z00) (K:AV->z00->Prop):Prop:=zvb t z h (later K ())
def qT (n:Nat) (a v:AV) (h:z00) (K:z00->Prop):Prop:=z1d n a v h (later K ())
def qO (a:AV) (K:AV->Prop):Prop:=pNil a (later K ())
def qn (a:AV) (K:AV->Prop):Prop:=pLen .slice a (later K ())
def q9 (k:LenK) (a:AV) (K:AV->Prop):Prop:=pLen k a (later K ())
def qx (i:Nat) (v:AV) (K:AV->Prop):Prop:=z8p i v (later K ())
def q6 (T:SlT) (z:List AV) (a b:AV) (h:z00) (K:AV->z00->Prop):Prop:=z6v T z a b h (later K ())
def q7 (g:Bool) (T:SlT) (a b:AV) (h:z00) (K:AV->z00->Prop):Prop:=z0z g T a b h (later K ())
def qR (h:z00) (K:AV->z00->Prop):Prop:=znn h (later K ())
def qs (n:Nat) (x:AV) (a b:Option AV) (K:AV->Prop):Prop:=z7b n x a b (later K ())
def q8 (pl:List (Nat×Nat)) (z:List AV) (p:List (Nat×AV)) (K:AV->Prop):Prop:=z3w pl z p (later K ())
def qW (P:Program) (N:Nat) (c:Code) (l:List (Nat×AV)) (h:z00) (A:Fr->z00->Prop) (B:Nat->Fr->z00->Prop) (C:Fr->z00->Prop):Prop:=WP P N (.loop c) (frOf l) h (zba (later A ()) (later B ()) (later C ()))
def qw (P:Program) (N:Nat) (c:Code) (l:List (Nat×AV)) (h:z00) (B:Nat->Fr->z00->Prop) (C:Fr->z00->Prop):Prop:=WP P N (.loop c) (frOf l) h (zba (later (λ_ _=>False) ()) (later B ()) (later C ()))
def qQ (A:(Fr->z00->Prop)->Prop) (B:Fr->z00->Prop):Prop:=Cut (later A ()) (later B ())
def q1 (X:Prop):Prop:=true=true/\X
def q2 (X:Prop):Prop:=True/\X
def q3 (a v:AV) (h:z00):Prop:=z0r none a h (later (λw=>w=v/\h=h) ())
def q4 (k:Nat) (a v:AV) (h:z00):Prop:=z0r (some k) a h (later (λw=>w=v/\h=h) ())
def q5 (x:Nat) (A:Prop):Prop:=pIdx x 0 (pIdx 0 0 A False) False
theorem qr1:(∀ n,n6 n=.int .i64 n)/\(∀ n,n8 n=.int .u8 n)/\(∀ n,nU n=.int .u64 n)/\n0=.int .i64 0/\bT=.bool true/\bF=.bool false/\tu 0=[]/\(∀ n,tu (n+1)=.tup []::tu n)
 /\(∀ f r,kq f [] r=r)/\(∀ f k l r,kq f (k::l) r=(k,f k)::kq f l r):=⟨λ_=>rfl,λ_=>rfl,λ_=>rfl,rfl,rfl,rfl,rfl,λ_=>rfl,λ_ _=>rfl,λ_ _ _ _=>rfl⟩
theorem qF_ (o:Nat) (a:AV) (K:AV->Prop):qF o a K=z3i o a (later K ()):=rfl
theorem qL_ (a:AV) (h:z00) (K:AV->Prop):qL a h K=z0r none a h (later K ()):=rfl
theorem qK_ (k:Nat) (a:AV) (h:z00) (K:AV->Prop):qK k a h K=z0r (some k) a h (later K ()):=rfl
theorem qG_ (o:Nat) (a:AV) (h:z00) (K:AV->Prop):qG o a h K=z3i o a (later (λv=>z0r none v h (later K ())) ()):=rfl
theorem qH_ (o:Nat) (a:AV) (h:z00) (K:AV->AV->Prop):qH o a h K=z3i o a (later (λv=>z0r none v h (later (K v) ())) ()):=rfl
theorem qX_ (n:Nat) (a b:AV) (K:AV->Prop):qX n a b K=z0d (.slice n) a b (later K ()):=rfl
theorem qY_ (k:Nat) (a b:AV) (h:z00) (K:AV->Prop):qY k a b h K=z0d (.slice k) a b (later (λv=>z0r (some k) v h (later K ())) ()):=rfl
theorem qZ_ (k:Nat) (a b:AV) (h:z00) (K:AV->Prop):qZ k a b h K=z0d (.slice k) a b (later (λv=>z0r none v h (later K ())) ()):=rfl
theorem qB_ (op:BinOp) (a b:AV) (K:AV->Prop):qB op a b K=z7s (binA .other op a b) (later K ()):=rfl
theorem qE_ (a b:AV) (K:AV->Prop):qE a b K=z7s (binA .other .eql a b) (later K ()):=rfl
theorem qC_ (op:BinOp) (a b:AV) (T F:Prop):qC op a b T F=z7s (binA .other op a b) (later (λv=>zq3 v T F) ()):=rfl
theorem qD_ (c:CmpK) (op:BinOp) (a b:AV) (K:AV->Prop):qD c op a b K=z7s (binA c op a b) (later K ()):=rfl
theorem qN_ (a:AV) (K:AV->Prop):qN a K=z7s (unA .not a) (later K ()):=rfl
theorem qI_ (v:AV) (T F:Prop):qI v T F=zq3 v T F:=rfl
theorem qS_ (P:Program) (f:FuncId) (as:List AV) (h:z00) (K:AV->z00->Prop):qS P f as h K=z01 P f as h (later K ()):=rfl
theorem qJ_ (b:(List AV->z00->Prop)->Prop) (K:List AV->z00->Prop):qJ b K=zq6 (later b ()) (later K ()):=rfl
theorem qU_ (v:AV) (w:Bool) (n:Nat) (h:z00) (A:(List AV->z00->Prop)->Prop) (K:List AV->z00->Prop):qU v w n h A K=zq6 (later (λx=>zi1 v w (A x) (x (tu n) h)) ()) (later K ()):=rfl
theorem qV_ (v:AV) (w:Bool) (n:Nat) (h:z00) (A:(List AV->z00->Prop)->Prop) (K:List AV->z00->Prop):qV v w n h A K=zq6 (later (λx=>zaf v w (A x) (x (tu n) h)) ()) (later K ()):=rfl
theorem qP_ (v a b:AV) (K:AV->Prop):qP v a b K=zvn v a b (later K ()):=rfl
theorem qM_ (im:Bool) (t:TypeId) (a:AV) (h:z00) (K:AV->z00->Prop):qM im t a h K=pBox im t a h (later K ()):=rfl
theorem qA_ (t:TypeId) (z:List AV) (h:z00) (K:AV->z00->Prop):qA t z h K=zvb t z h (later K ()):=rfl
theorem qT_ (n:Nat) (a v:AV) (h:z00) (K:z00->Prop):qT n a v h K=z1d n a v h (later K ()):=rfl
theorem qO_ (a:AV) (K:AV->Prop):qO a K=pNil a (later K ()):=rfl
theorem qn_ (a:AV) (K:AV->Prop):qn a K=pLen .slice a (later K ()):=rfl
theorem q9_ (k:LenK) (a:AV) (K:AV->Prop):q9 k a K=pLen k a (later K ()):=rfl
theorem qx_ (i:Nat) (v:AV) (K:AV->Prop):qx i v K=z8p i v (later K ()):=rfl
theorem q6_ (T:SlT) (z:List AV) (a b:AV) (h:z00) (K:AV->z00->Prop):q6 T z a b h K=z6v T z a b h (later K ()):=rfl
theorem q7_ (g:Bool) (T:SlT) (a b:AV) (h:z00) (K:AV->z00->Prop):q7 g T a b h K=z0z g T a b h (later K ()):=rfl
theorem qR_ (h:z00) (K:AV->z00->Prop):qR h K=znn h (later K ()):=rfl
theorem qs_ (n:Nat) (x:AV) (a b:Option AV) (K:AV->Prop):qs n x a b K=z7b n x a b (later K ()):=rfl
theorem q8_ (pl:List (Nat×Nat)) (z:List AV) (p:List (Nat×AV)) (K:AV->Prop):q8 pl z p K=z3w pl z p (later K ()):=rfl
theorem qW_ (P:Program) (N:Nat) (c:Code) (l:List (Nat×AV)) (h:z00) (A:Fr->z00->Prop) (B:Nat->Fr->z00->Prop) (C:Fr->z00->Prop):qW P N c l h A B C=WP P N (.loop c) (frOf l) h (zba (later A ()) (later B ()) (later C ())):=rfl
theorem qw_ (P:Program) (N:Nat) (c:Code) (l:List (Nat×AV)) (h:z00) (B:Nat->Fr->z00->Prop) (C:Fr->z00->Prop):qw P N c l h B C=WP P N (.loop c) (frOf l) h (zba (later (λ_ _=>False) ()) (later B ()) (later C ())):=rfl
theorem qQ_ (A:(Fr->z00->Prop)->Prop) (B:Fr->z00->Prop):qQ A B=Cut (later A ()) (later B ()):=rfl
theorem q1_ (X:Prop):q1 X=X:=by simp [q1]
theorem q2_ (X:Prop):q2 X=X:=by simp [q2]
theorem q3_ (a v:AV) (h:z00):q3 a v h=z0r none a h (later (λw=>w=v/\h=h) ()):=rfl
theorem q4_ (k:Nat) (a v:AV) (h:z00):q4 k a v h=z0r (some k) a h (later (λw=>w=v/\h=h) ()):=rfl
theorem q5_ (x:Nat) (A:Prop):q5 x A=pIdx x 0 (pIdx 0 0 A False) False:=rfl
theorem qr2:(type_of% @qF_)/\(type_of% @qL_)/\(type_of% @qK_)/\(type_of% @qG_)/\(type_of% @qH_)/\(type_of% @qX_)/\(type_of% @qY_)/\(type_of% @qZ_)/\(type_of% @qB_)/\(type_of% @qE_)/\(type_of% @qC_)/\(type_of% @qD_)/\(type_of% @qN_):=⟨@qF_,@qL_,@qK_,@qG_,@qH_,@qX_,@qY_,@qZ_,@qB_,@qE_,@qC_,@qD_,@qN_⟩
theorem qr3:(type_of% @qI_)/\(type_of% @qS_)/\(type_of% @qJ_)/\(type_of% @qU_)/\(type_of% @qV_)/\(type_of% @qP_)/\(type_of% @qM_)/\(type_of% @qA_)/\(type_of% @qT_)/\(type_of% @qO_)/\(type_of% @qn_)/\(type_of% @q9_)/\(type_of% @qx_):=⟨@qI_,@qS_,@qJ_,@qU_,@qV_,@qP_,@qM_,@qA_,@qT_,@qO_,@qn_,@q9_,@qx_⟩
theorem qr4:(type_of% @q6_)/\(type_of% @q7_)/\(type_of% @q8_)/\(type_of% @qW_)/\(type_of% @qw_)/\(type_of% @qQ_)/\(type_of% @q1_)/\(type_of% @q2_)/\(type_of% @q3_)/\(type_of% @q4_)/\(type_of% @q5_)/\(type_of% @qR_)/\(type_of% @qs_):=⟨@q6_,@q7_,@q8_,@qW_,@qw_,@qQ_,@q1_,@q2_,@q3_,@q4_,@q5_,@qR_,@qs_⟩
def mkG (ch:List Nat) (lv:List (Nat×List Nat)) (cut:List Nat) (rc:List (Nat×List (Nat×List Nat))):Cfg:=
 { ch:=λd=>List.contains ch d,lv:=λk=>(List.lookup k lv).getD [],cut:=λk=>List.contains cut k,rc:=λi n=>((List.lookup i rc).getD []).lookup n }
def zts (fn:Func):Code:=fn.body.getD .skip
def okF (fn:Func) (N n:Nat):Bool:=fn.body.isSome&&codeOk N (zts fn)&&Nat.ble n N
noncomputable def lpOf (k:Nat) (fn:Func):Code:=(zk6 k (zts fn)).getD .skip
theorem cI {P:Program} {N:Nat} {f:FuncId} {fn:Func} {args:List AV} {h:z00} {R:AV->z00->Prop} {H0:Prop} (cfg:Cfg) (hm:P.follows .mixedOrders=true) (hf:P.funcs[f]?=some fn) (hN:fn.ntmps=N)
  (hcall:∀ as w,(callFunc f as).run P w=.ok (.enter f as) w) (ho:okF fn N args.length=true)
  (e:wpc P N cfg [] (zts fn) (λi=>(args[i]?).getD .und) h (zba (λfr' h'=>resA P fn.results.toList fr' h' (resV λv=>R v h')) (λ_ _ _=>False) (λfr' h'=>resA P fn.results.toList fr' h' (resV λv=>R v h')))=H0) (H:H0):z01 P f args h R:=by
 unfold okF at ho;rw [Bool.and_eq_true,Bool.and_eq_true] at ho;obtain ⟨⟨h1,h2⟩,h3⟩:=ho;refine zta cfg hm hf (body:=zts fn) ?_ hN h2 (Nat.le_of_ble_eq_true h3) hcall (e▸H);unfold zts
 cases hb:fn.body with
 | none=>rw [hb] at h1;cases h1
 | some b=>rfl
end
section
open Go.RowKit
theorem zue {P : Program} {f : FuncId} {fn : Func} {e : Array Value → Sem Value} {args : List AV} {h : z00} {R : AV → z00 → Prop} (hf : P.funcs[f]? = some fn) (hname : (fn.name == "runtime.NumGoroutine") = false) (hb : fn.body.isNone = true) (hn : Extern.findNext fn = none)
  (he:Extern.find fn=some e) (H:∀ (c:Ctx) (w:World) (vs:List Value),LRel c w args vs->∃ u v,(e vs.toArray).run P w=.ok u w/\VRel c w v u/\R v h):z01 P f args h R:=by
 refine Or.inr λB c w vs W L=>?_;obtain ⟨u,v,h1,h2,h3⟩:=H c w vs L;refine ⟨c,u,v,h,w,?_,Ext.refl _ _ _,W,h2,h3⟩;have hname' : fn.name ≠ "runtime.NumGoroutine" := by simpa using hname
 have hb':fn.body=none:=by simpa using hb
 simp [callFunc,hf,hname',hb',hn,he,h1]
theorem bits_calls {P : Program} {f : FuncId} {fn : Func} (hf : P.funcs[f]? = some fn) (hname : (fn.name == "runtime.NumGoroutine") = false) (hb : fn.body.isNone = true) (hn : Extern.findNext fn = none)
  (he:Extern.find fn=some Extern.MathFloatBits.float64bits) (b:Nat) (h:z00):z01 P f [.flt .f64 b] h (λv h2=>v=.int .u64 b/\h2=h):=by
 refine zue hf hname hb hn he λc w vs L=>?_;simp only [LRel] at L;obtain ⟨v,vs',rfl,h2,rfl⟩:=L;simp only [VRel] at h2;subst h2;exact ⟨.int .u64 b,.int .u64 b,rfl,VRel.int_mk _ _ _ _,rfl,rfl⟩
theorem zpu {P : Program} {f : FuncId} {fn : Func} (hf : P.funcs[f]? = some fn) (hname : (fn.name == "runtime.NumGoroutine") = false) (hb : fn.body.isNone = true) (hn : Extern.findNext fn = none)
  (he:Extern.find fn=some Extern.MathFloatBits.float64frombits) (b:Nat) (h:z00):z01 P f [.int .u64 b] h (λv h2=>v=.flt .f64 b/\h2=h):=by
 refine zue hf hname hb hn he λc w vs L=>?_;simp only [LRel] at L;obtain ⟨v,vs',rfl,h2,rfl⟩:=L;have:=h2.z1r;subst this;exact ⟨.float .f64 b,.flt .f64 b,rfl,by simp [VRel],rfl,rfl⟩
section
variable {h:z00}
theorem ztk (ck:CmpK) (k:FloatKind) (a b:Nat):binA ck .eql (.flt k a) (.flt k b)=some (.bool (k.format.order a b == some .eq)):=by simp [binA,zo1]
theorem zm6 (ck:CmpK) (k:FloatKind) (a b:Nat):binA ck .neq (.flt k a) (.flt k b)=some (.bool (k.format.order a b != some .eq)):=by simp [binA,zo1]
theorem ztn (ck:CmpK) (k:FloatKind) (a b:Nat):binA ck .lss (.flt k a) (.flt k b)=some (.bool (k.format.order a b == some .lt)):=by simp [binA,zo1]
theorem ztm (ck:CmpK) (k:FloatKind) (a b:Nat):binA ck .leq (.flt k a) (.flt k b)=some (.bool (k.format.order a b == some .lt||k.format.order a b == some .eq)):=by simp [binA,zo1]
theorem ztl (ck:CmpK) (k:FloatKind) (a b:Nat):binA ck .geq (.flt k a) (.flt k b)=some (.bool (k.format.order a b == some .gt||k.format.order a b == some .eq)):=by simp [binA,zo1]
theorem zvg (k:FloatKind) (k':IntKind) (n:Int) (h:z00) (K:AV->Prop):z1o (.i2f k) (.int k' n) h K=K (.flt k (k.nearest n)):=rfl
theorem pConv_f2i {k:IntKind} {s:FloatKind} {b:Nat} {n:Int} (hn:floatToIntVal s b k=some n) (h:z00) (K:AV->Prop):z1o (.f2i k) (.flt s b) h K=K (.int k n):=by simp [z1o,hn]
end
end
section
def sgB (w:Nat):Bool:=w/9223372036854775808%2 == 1
def rgB (w:Nat):Nat:=w%9223372036854775808
def rk (w:Nat):Int:=if sgB w then -(rgB w:Int) else rgB w
def z2u (w:Nat):Bool:=decide (9218868437227405312<rgB w)
def mag (r:Nat):Nat:=if r<4503599627370496 then r else 4503599627370496+r%4503599627370496
def exn (r:Nat):Nat:=if r<4503599627370496 then 0 else r/4503599627370496-1
def vl (r:Nat):Nat:=mag r*2 ^ exn r
theorem rgB_lt (w:Nat):rgB w<9223372036854775808:=Nat.mod_lt _ (by omega)
theorem zsy (w:Nat):Ieee.double.read w=if rgB w<4503599627370496 then .number (sgB w) (rgB w) (-1074) else if rgB w<9218868437227405312 then .number (sgB w) (4503599627370496+rgB w%4503599627370496) (-1074+((rgB w/4503599627370496-1:Nat):Int))
  else if rgB w=9218868437227405312 then .infinity (sgB w) else .nan (sgB w) (rgB w-9218868437227405312):=by
 have h1:Ieee.double.signWeight=9223372036854775808:=by decide
 have h2:Ieee.double.binade=4503599627370496:=by decide
 have h3:Ieee.double.infRung=9218868437227405312:=by decide
 have h4:Ieee.double.leastPlace=-1074:=by decide
 unfold Ieee.Format.read;simp only [h1,h2,h3,h4]
 rfl
theorem zko {w:Nat} (h:rgB w<9218868437227405312):Ieee.double.read w=.number (sgB w) (mag (rgB w)) (-1074+(exn (rgB w):Int)):=by
 rw [zsy];unfold mag exn;split
 ·simp
 ·first | rfl | rw [if_pos h]
theorem znp {w:Nat} (h:rgB w=9218868437227405312):Ieee.double.read w=.infinity (sgB w):=by
 rw [zsy,if_neg (by omega),if_neg (by omega),if_pos h]
theorem zzc {w:Nat} (h:9218868437227405312<rgB w):Ieee.double.read w=.nan (sgB w) (rgB w-9218868437227405312):=by
 rw [zsy,if_neg (by omega),if_neg (by omega),if_neg (by omega)]
theorem vl_mono {r r':Nat} (h:r<r'):vl r<vl r':=by
 unfold vl mag exn;by_cases h1:r<4503599627370496
 ·rw [if_pos h1,if_pos h1];by_cases h2:r'<4503599627370496
  ·rw [if_pos h2,if_pos h2];omega
  ·rw [if_neg h2,if_neg h2];have hp:0<2 ^ (r'/4503599627370496-1):=Nat.pow_pos (by omega);have:4503599627370496*1<=(4503599627370496+r'%4503599627370496)*2 ^ (r'/4503599627370496-1):=Nat.mul_le_mul (by omega) hp;omega
 ·have h2:¬ r'<4503599627370496:=by omega
  rw [if_neg h1,if_neg h1,if_neg h2,if_neg h2];by_cases he:r/4503599627370496=r'/4503599627370496
  ·rw [he];exact Nat.mul_lt_mul_of_pos_right (by omega) (Nat.pow_pos (by omega))
  ·have hlt:r/4503599627370496<r'/4503599627370496:=by omega
   have e1:(4503599627370496+r%4503599627370496)*2 ^ (r/4503599627370496-1)<9007199254740992*2 ^ (r/4503599627370496-1):=Nat.mul_lt_mul_of_pos_right (by omega) (Nat.pow_pos (by omega));have e2:9007199254740992*2 ^ (r/4503599627370496-1)=4503599627370496*2 ^ (r/4503599627370496):=by
    have:r/4503599627370496=(r/4503599627370496-1)+1:=by omega
    rw [this,Nat.pow_succ];simp only [Nat.add_sub_cancel];omega
   have e3:4503599627370496*2 ^ (r/4503599627370496)<=(4503599627370496+r'%4503599627370496)*2 ^ (r'/4503599627370496-1):=Nat.mul_le_mul (by omega) (Nat.pow_le_pow_right (by omega) (by omega));omega
def cmpI (x y:Int):Ordering:=if x<y then .lt else if x=y then .eq else .gt
theorem zww (x y:Int):compare x y=cmpI x y:=rfl
theorem zyh {x y u v:Int} (h1:x<y↔u<v) (h2:x=y↔u=v):cmpI x y=cmpI u v:=by
 unfold cmpI;by_cases h:x<y
 ·rw [if_pos h,if_pos (h1.1 h)]
 ·rw [if_neg h,if_neg (λk=>h (h1.2 k))];by_cases h':x=y
  ·rw [if_pos h',if_pos (h2.1 h')]
  ·rw [if_neg h',if_neg (λk=>h' (h2.2 k))]
def sv (w:Nat):Int:=if sgB w then -(vl (rgB w):Int) else vl (rgB w)
theorem vl_zero:vl 0=0:=by decide
theorem sv_rk (a b:Nat):cmpI (sv a) (sv b)=cmpI (rk a) (rk b):=by
 have m1:∀ r r':Nat,vl r<vl r'↔r<r':=λr r'=>⟨λh=>by
  by_cases h':r<r'
  ·exact h'
  ·rcases Nat.lt_or_eq_of_le (Nat.le_of_not_lt h') with h2 | h2
   ·have:=vl_mono h2;omega
   ·subst h2;omega,vl_mono⟩
 have m2:∀ r r':Nat,vl r=vl r'↔r=r':=λr r'=>⟨λh=>by
  have a1:=m1 r r';have a2:=m1 r' r;omega,λh=>by rw [h]⟩
 have z:∀ r:Nat,vl r=0↔r=0:=λr=>by rw [<-m2 r 0,vl_zero]
 unfold sv rk;have h1:=m1 (rgB a) (rgB b);have h2:=m1 (rgB b) (rgB a);have h3:=m2 (rgB a) (rgB b);have h4:=z (rgB a);have h5:=z (rgB b);apply zyh <;> split <;> split <;> omega
theorem zrj (s:Bool) (m k p:Nat):Ieee.signed s m k*((2 ^ p:Nat):Int)=if s then -((m*2 ^ (k+p):Nat):Int) else ((m*2 ^ (k+p):Nat):Int):=by
 unfold Ieee.signed;rw [Nat.shiftLeft_eq,Nat.pow_add,<-Nat.mul_assoc];split
 ·rw [Int.neg_mul];norm_cast
 ·norm_cast
theorem cmpI_mul (x y:Int) (p:Nat) (hp:0<p):cmpI (x*(p:Int)) (y*(p:Int))=cmpI x y:=by
 have hp':(0:Int)<(p:Int):=by omega
 apply zyh
 ·exact ⟨λh=>Int.lt_of_mul_lt_mul_right h (by omega),λh=>Int.mul_lt_mul_of_pos_right h hp'⟩
 ·exact ⟨λh=>Int.eq_of_mul_eq_mul_right (by omega) h,λh=>by rw [h]⟩
theorem order_fin {a b:Nat} (ha:rgB a<9218868437227405312) (hb:rgB b<9218868437227405312):Ieee.double.order a b=some (cmpI (rk a) (rk b)):=by
 unfold Ieee.Format.order;rw [zko ha,zko hb];simp only [Ieee.Datum.order,zww,Option.some.injEq];rw [<-sv_rk,<-cmpI_mul _ _ (2 ^ min (exn (rgB a)) (exn (rgB b))) (Nat.pow_pos (by omega)),zrj,zrj];have e1:(-1074+(exn (rgB a):Int)-min (-1074+(exn (rgB a):Int)) (-1074+(exn (rgB b):Int))).toNat+min (exn (rgB a)) (exn (rgB b))=exn (rgB a):=by omega
 have e2:(-1074+(exn (rgB b):Int)-min (-1074+(exn (rgB a):Int)) (-1074+(exn (rgB b):Int))).toNat+min (exn (rgB a)) (exn (rgB b))=exn (rgB b):=by omega
 rw [e1,e2]
 rfl
theorem zkg {a b:Nat} (ha:z2u a=false) (hb:z2u b=false):Ieee.double.order a b=some (cmpI (rk a) (rk b)):=by
 simp only [z2u,decide_eq_false_iff_not] at ha hb;by_cases h1:rgB a=9218868437227405312
 ·by_cases h2:rgB b=9218868437227405312
  ·unfold Ieee.Format.order rk;rw [znp h1,znp h2,h1,h2];cases sgB a <;> cases sgB b <;> decide
  ·unfold Ieee.Format.order rk;rw [znp h1,zko (by omega),h1];simp only [Ieee.Datum.order,Option.some.injEq];unfold cmpI;cases sgB a <;> cases sgB b <;> simp only [Bool.false_eq_true,if_false,if_true] <;> first | (rw [if_pos (by omega)];done) | (rw [if_neg (by omega),if_neg (by omega)];done)
 ·by_cases h2:rgB b=9218868437227405312
  ·unfold Ieee.Format.order rk;rw [znp h2,zko (by omega),h2];simp only [Ieee.Datum.order,Option.some.injEq];unfold cmpI;cases sgB a <;> cases sgB b <;> simp only [Bool.false_eq_true,if_false,if_true] <;> first | (rw [if_pos (by omega)];done) | (rw [if_neg (by omega),if_neg (by omega)];done)
  ·exact order_fin (by omega) (by omega)
theorem zkf {a b:Nat} (h:z2u a=true\/z2u b=true):Ieee.double.order a b=none:=by
 unfold Ieee.Format.order;simp only [z2u,decide_eq_true_eq] at h;rcases h with h | h
 ·rw [zzc h];rfl
 ·rw [zzc h];cases Ieee.double.read a <;> rfl
end
section
def zdj (w:Nat):Nat:=if z2u w then 9221120237041090560 else w
theorem cmpI_self (x:Int):cmpI x x=.eq:=by simp [cmpI]
theorem selfNe (a:Nat):(FloatKind.f64.format.order a a != some .eq)=z2u a:=by
 show (Ieee.double.order a a != some .eq)=z2u a
 cases h:z2u a with
 | true=>rw [zkf (Or.inl h)];rfl
 | false=>rw [zkg h h,cmpI_self];rfl
theorem zlw {r:Nat} (h:nanB .f64 r):z2u r=true/\r<18446744073709551616:=by
 obtain ⟨s,f,hs,hf,rfl⟩:=h;refine ⟨?_,by omega⟩;unfold z2u rgB;refine decide_eq_true ?_;omega
theorem isNan_iff (a:Nat):z2u a=true↔9218868437227405312<a%9223372036854775808:=by unfold z2u rgB;exact decide_eq_true_iff
def ltN (a b:Nat):Bool:=!z2u a&&!z2u b&&decide (rk a<rk b)
def eqN (a b:Nat):Bool:=!z2u a&&!z2u b&&decide (rk a=rk b)
theorem zva (a b:Nat):(FloatKind.f64.format.order a b == some .lt)=ltN a b:=by
 show (Ieee.double.order a b == some .lt)=ltN a b
 unfold ltN;by_cases h:z2u a=true\/z2u b=true
 ·rw [zkf h];rcases h with h | h <;> simp [h]
 ·have h1:z2u a=false:=by simpa using λx=>h (Or.inl x)
  have h2:z2u b=false:=by simpa using λx=>h (Or.inr x)
  rw [zkg h1 h2,h1,h2];unfold cmpI;by_cases h3:rk a<rk b
  ·simp [h3]
  ·rw [if_neg h3];by_cases h4:rk a=rk b <;> simp [h3,h4]
theorem zos (a b:Nat):(FloatKind.f64.format.order a b == some .eq)=eqN a b:=by
 show (Ieee.double.order a b == some .eq)=eqN a b
 unfold eqN;by_cases h:z2u a=true\/z2u b=true
 ·rw [zkf h];rcases h with h | h <;> simp [h]
 ·have h1:z2u a=false:=by simpa using λx=>h (Or.inl x)
  have h2:z2u b=false:=by simpa using λx=>h (Or.inr x)
  rw [zkg h1 h2,h1,h2];unfold cmpI;by_cases h3:rk a<rk b
  ·have:¬ rk a=rk b:=by omega
   simp [h3,this]
  ·rw [if_neg h3];by_cases h4:rk a=rk b <;> simp [h4]
theorem order_gtN (a b:Nat):(FloatKind.f64.format.order a b == some .gt)=ltN b a:=by
 show (Ieee.double.order a b == some .gt)=ltN b a
 unfold ltN;by_cases h:z2u a=true\/z2u b=true
 ·rw [zkf h];rcases h with h | h <;> simp [h]
 ·have h1:z2u a=false:=by simpa using λx=>h (Or.inl x)
  have h2:z2u b=false:=by simpa using λx=>h (Or.inr x)
  rw [zkg h1 h2,h1,h2];unfold cmpI;by_cases h3:rk a<rk b
  ·have:¬ rk b<rk a:=by omega
   simp [h3,this]
  ·rw [if_neg h3];by_cases h4:rk a=rk b
   ·have:¬ rk b<rk a:=by omega
    simp [h4]
   ·have:rk b<rk a:=by omega
    simp [h4,this]
def negW (w:Nat):Nat:=w ^^^ 9223372036854775808
theorem negW_eq {w:Nat} (hw:w<18446744073709551616):negW w=if w<9223372036854775808 then w+9223372036854775808 else w-9223372036854775808:=by
 unfold negW;have h:(9223372036854775808:Nat)=2 ^ 63:=by decide
 by_cases hl:w<9223372036854775808
 ·rw [if_pos hl];have:=Nat.two_pow_add_eq_or_of_lt (b:=w) (i:=63) (by simpa using hl) 1;rw [Nat.mul_one] at this;rw [h,Nat.add_comm,this];apply Nat.eq_of_testBit_eq;intro i;rw [Nat.testBit_xor,Nat.testBit_or,Nat.testBit_two_pow];by_cases hi:63=i
  ·subst hi;have:w.testBit 63=false:=Nat.testBit_lt_two_pow (by simpa using hl);simp [this]
  ·simp [hi]
 ·rw [if_neg hl];obtain ⟨v,hv,rfl⟩:∃ v,v<2 ^ 63/\w=2 ^ 63+v:=⟨w-2 ^ 63,by omega,by omega⟩;have hv':=Nat.two_pow_add_eq_or_of_lt hv 1;rw [Nat.mul_one] at hv';rw [hv',h];have e:(2 ^ 63 ||| v)-2 ^ 63=v:=by rw [<-hv'];omega
  rw [e];apply Nat.eq_of_testBit_eq;intro i;rw [Nat.testBit_xor,Nat.testBit_or,Nat.testBit_two_pow];by_cases hi:63=i
  ·subst hi;have:v.testBit 63=false:=Nat.testBit_lt_two_pow hv;simp [this]
  ·simp [hi]
theorem negW_lt {w:Nat} (hw:w<18446744073709551616):negW w<18446744073709551616:=by rw [negW_eq hw];split <;> omega
theorem rgB_neg {w:Nat} (hw:w<18446744073709551616):rgB (negW w)=rgB w:=by rw [negW_eq hw];unfold rgB;split <;> omega
theorem zut {w:Nat} (hw:w<18446744073709551616):z2u (negW w)=z2u w:=by unfold z2u;rw [rgB_neg hw]
theorem tidyN_lt {w:Nat} (hw:w<18446744073709551616):zdj w<18446744073709551616:=by unfold zdj;split <;> omega
def negR (w:Nat):Nat:=zdj (negW (zdj w))
theorem negR_eq {w:Nat} (hw:w<18446744073709551616):negR w=if z2u w then 9221120237041090560 else negW w:=by
 unfold negR zdj
 cases h:z2u w with
 | true=>
  simp only [if_true];rw [if_pos];rw [zut (by omega)];decide
 | false=>
  simp only [Bool.false_eq_true,if_false];rw [zut hw,h];simp
def arN (op:BinOp) (a b:Nat):Nat:=match floatBits op .f64 a b with | some r=>zdj r | none=>9221120237041090560
theorem zyc {op:BinOp} {a b:Nat}:arN op a b<18446744073709551616:=by
 unfold arN
 cases h:floatBits op .f64 a b with
 | none=>decide
 | some r=>
  have hw:=floatBits_wf h;simp [Lit.wf] at hw;exact tidyN_lt hw
theorem cut_zero (s:Bool) (n d:Nat):Ieee.Toward.zero.cut s n d=n/2 ^ d:=by
 unfold Ieee.Toward.cut;simp only [Bool.toNat_false,Nat.add_zero,Nat.one_shiftLeft];by_cases h:d<=n.log2+2
 ·rw [Nat.min_eq_left h]
 ·rw [Nat.min_eq_right (by omega)];have hn:n<2 ^ (n.log2+1):=Nat.lt_log2_self;rw [Nat.div_eq_of_lt (Nat.lt_of_lt_of_le hn (Nat.pow_le_pow_right (by omega) (by omega))),Nat.div_eq_of_lt (Nat.lt_of_lt_of_le hn (Nat.pow_le_pow_right (by omega) (by omega)))]
def zeq (w:Nat):Int:=
 if z2u w then 0
 else if rgB w/4503599627370496=0 then 0
 else if 1086<=rgB w/4503599627370496 then (if sgB w then -9223372036854775808 else 9223372036854775807)
 else if rgB w/4503599627370496<=1022 then 0
 else
  let n:Nat:=if rgB w/4503599627370496<1075 then (4503599627370496+rgB w%4503599627370496)/2 ^ (1075-rgB w/4503599627370496) else (4503599627370496+rgB w%4503599627370496)*2 ^ (rgB w/4503599627370496-1075)
  if sgB w then -(n:Int) else n
theorem truncN_val {w:Nat} (h:rgB w<4890909195324358656):floatToIntVal .f64 w .i64=some (zeq w):=by
 have hr:FloatKind.f64.decode w=.number (sgB w) (mag (rgB w)) (-1074+(exn (rgB w):Int)):=zko (by omega);have hnan:z2u w=false:=by simp [z2u];omega
 unfold floatToIntVal;rw [hr];simp only [Ieee.Datum.toInt,Ieee.Datum.integral,cut_zero,Nat.shiftLeft_eq];have key:∃ m:Nat,mag (rgB w)*2 ^ (-1074+(exn (rgB w):Int)).toNat/2 ^ (-(-1074+(exn (rgB w):Int))).toNat=m/\m<9223372036854775808/\zeq w=(if sgB w then -(m:Int) else m):=by
  refine ⟨_,rfl,?_⟩;unfold zeq mag exn;rw [hnan];simp only [Bool.false_eq_true,if_false];by_cases h1:rgB w<4503599627370496
  ·have e0:rgB w/4503599627370496=0:=by omega
   rw [if_pos h1,if_pos h1,e0,if_pos rfl];have:rgB w*2 ^ (-1074+((0:Nat):Int)).toNat/2 ^ (-(-1074+((0:Nat):Int))).toNat=0:=by
    have e1:(-1074+((0:Nat):Int)).toNat=0:=by omega
    have e2:(-(-1074+((0:Nat):Int))).toNat=1074:=by omega
    rw [e1,e2,Nat.pow_zero,Nat.mul_one];generalize hK:(1074:Nat)=K;refine Nat.div_eq_of_lt (Nat.lt_of_lt_of_le h1 ?_);have:(4503599627370496:Nat)=2 ^ 52:=by decide
    rw [this];exact Nat.pow_le_pow_right (by omega) (by omega)
   rw [this];exact ⟨by omega,by cases sgB w <;> rfl⟩
  ·have hE:1<=rgB w/4503599627370496/\rgB w/4503599627370496<1086:=by omega
   rw [if_neg h1,if_neg h1,if_neg (show ¬ rgB w/4503599627370496=0 by omega),if_neg (show ¬ 1086<=rgB w/4503599627370496 by omega)];generalize rgB w/4503599627370496=e at *;have hf:rgB w%4503599627370496<4503599627370496:=Nat.mod_lt _ (by omega);generalize rgB w%4503599627370496=f at *;by_cases h2:e<1075
   ·have e1:(-1074+((e-1:Nat):Int)).toNat=0:=by omega
    have e2:(-(-1074+((e-1:Nat):Int))).toNat=1075-e:=by omega
    rw [e1,e2,Nat.pow_zero,Nat.mul_one];have hlt:(4503599627370496+f)/2 ^ (1075-e)<=4503599627370496+f:=Nat.div_le_self _ _;refine ⟨by omega,?_⟩;by_cases h3:e<=1022
    ·rw [if_pos h3];have:(4503599627370496+f)/2 ^ (1075-e)=0:=by
      refine Nat.div_eq_of_lt (Nat.lt_of_lt_of_le (show 4503599627370496+f<2 ^ 53 by omega) (Nat.pow_le_pow_right (by omega) (by omega)))
     rw [this];cases sgB w <;> rfl
    ·rw [if_neg h3,if_pos h2]
   ·have e1:(-1074+((e-1:Nat):Int)).toNat=e-1075:=by omega
    have e2:(-(-1074+((e-1:Nat):Int))).toNat=0:=by omega
    rw [e1,e2,Nat.pow_zero,Nat.div_one];have hp:2 ^ (e-1075)<=2 ^ 10:=Nat.pow_le_pow_right (by omega) (by omega);have hm:(4503599627370496+f)*2 ^ (e-1075)<=(4503599627370496+f)*2 ^ 10:=Nat.mul_le_mul_left _ hp;refine ⟨by omega,?_⟩;rw [if_neg (show ¬ e<=1022 by omega),if_neg h2]
 obtain ⟨m,hm,hlt,ht⟩:=key;rw [hm,ht];have hsg:Ieee.signed (sgB w) m 0=if sgB w then -(m:Int) else m:=by unfold Ieee.signed;simp [Nat.shiftLeft_eq]
 rw [hsg];have h1:IntKind.i64.min=-9223372036854775808:=by decide
 have h2:IntKind.i64.max=9223372036854775807:=by decide
 rw [h1,h2];rw [if_pos];cases sgB w <;> simp <;> omega
end
end Go.Abs
