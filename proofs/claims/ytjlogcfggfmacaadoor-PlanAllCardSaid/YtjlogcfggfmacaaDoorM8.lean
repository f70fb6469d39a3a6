/- Own texts, merged: ClProg2, ClProg3, ClRef, ClRef2, ClRef3, ClRef4, P6Val, PaRefB, PaRefC, PaAlive, P6Wants, PnFun, PnFunB, ClSam, PnPart, P6Check, PnMake, PnOf, PnOfB, PnCheck, PnAlive, PlanAllDoes. -/
import Derived.Test.YtjlogcfggfmacaaDoorM7
set_option linter.unusedVariables false
set_option linter.unusedSimpArgs false
open Nat (reduceEqDiff reduceAdd reduceLeDiff)
set_option maxRecDepth 100000
set_option maxHeartbeats 4000000
namespace Go.Proofs.YtjlogcfggfmacaaDoor
section
open Go.Abs
theorem zog {fid n k:Nat} (hk:k<n) (K:AV->Prop):z0o (.slice 1) (.sl fid 0 n 1) (.int .i64 (k:Int)) K=K (.ptr fid k):=by
 rw [run_ixSl (by omega) (by omega)];simp
theorem ld_ns {g:List Nat} {hh:z00} {fid k v:Nat} {T:TypeId} (ho:hh.objs fid=some (.row T (nsAV g))) (hv:g[k]?=some v) (K:AV->Prop):z0t none (.ptr fid k) hh K=K (.int .i64 (v:Nat)):=by
 rw [z0b ho];simp [z03,nsAV_get,hv]
theorem st_ns {g:List Nat} {hh:z00} {fid k:Nat} {T:TypeId} (ho:hh.objs fid=some (.row T (nsAV g))) (hk:k<g.length) (v:Nat) (K:z00->Prop):z14 1 (.ptr fid k) (.int .i64 (v:Int)) hh K=K (hh.put fid (.row T (nsAV (g.set k v)))):=by
 rw [z2w ho (by rfl) (by rw [nsAV_len];exact hk),nsAV_set]
theorem zpo {fid:Nat} {f:List Nat} (hl:Low f) {k:Nat} (hk:k<f.length) {h:z00} (ho:h.objs fid=some (.row 3 (nsAV f))):z01 Tryd.prog 34 [.sl fid 0 f.length 1,.int .i64 (k:Nat)] h (λv h2=>v=.int .i64 (root f k:Nat)/\∃ g,h2=h.put fid (.row 3 (nsAV g))/\Low g/\g.length=f.length/\∀ x,root g x=root f x):=by
 apply zes
 (repeat simp -dsimp -implicitDefEqProofs (disch:=omega) only [↓rP,rA,↓reduceIte,reduceEqDiff,reduceAdd,reduceLeDiff,↓tyr])
 obtain ⟨I,hI⟩:∃ I:Nat->Fr->z00->Prop,I=(λm fr hh=>∃ (k':Nat) (g:List Nat),m=k'/\k'<f.length/\hh=h.put fid (.row 3 (nsAV g))/\Low g/\g.length=f.length/\(∀ x,root g x=root f x)/\root f k'=root f k/\fr=frOf [(0,.sl fid 0 f.length 1),(1,.int .i64 (k':Nat))]):=⟨_,rfl⟩;refine z1i z0d (by kernel_rfl) I k (by rw [hI];exact ⟨k,f,rfl,hk,(put_self ho).symm,hl,rfl,λ_=>rfl,rfl,rfl⟩) ?_;intro m fr hh hi;rw [hI] at hi;obtain ⟨k',g,hmk,hk',rfl,hg,hgl,hr,hrk,rfl⟩:=hi;apply zcf;have hob:(h.put fid (.row 3 (nsAV g))).objs fid=some (.row 3 (nsAV g)):=by simp
 have hkg:k'<g.length:=by omega
 obtain ⟨p,hp⟩:∃ p,g[k']?=some p:=⟨_,List.getElem?_eq_getElem hkg⟩;have hD:g.getD k' k'=p:=by rw [List.getD_eq_getElem?_getD,hp];rfl
 have hpk:=hg k' p hp;by_cases e:p=k'
 ·subst e
  (repeat simp -dsimp -implicitDefEqProofs (disch:=omega) only [↓rP,rA,↓reduceIte,reduceEqDiff,reduceAdd,reduceLeDiff,↓tyr,zog hk',ld_ns hob hp])
  refine ⟨?_,g,rfl,hg,hgl,hr⟩;have:root f p=p:=by rw [<-hr];exact z6d (by rw [hD];omega)
  rw [<-hrk,this]
 have hpl:p<g.length:=by omega
 obtain ⟨q,hq⟩:∃ q,g[p]?=some q:=⟨_,List.getElem?_eq_getElem hpl⟩;have hDq:g.getD p p=q:=by rw [List.getD_eq_getElem?_getD,hq];rfl
 have hqp:=hg p q hq;have hb:((p:Int) != (k':Int))=true:=by simp;omega
 have hob2:((h.put fid (.row 3 (nsAV g))).put fid (.row 3 (nsAV (g.set k' q)))).objs fid=some (.row 3 (nsAV (g.set k' q))):=by simp
 have hget2:(g.set k' q)[k']?=some q:=by rw [List.getElem?_set_self hkg]
 (repeat simp -dsimp -implicitDefEqProofs (disch:=omega) only [↓rP,rA,↓reduceIte,reduceEqDiff,reduceAdd,reduceLeDiff,↓tyr,zog hk',zog (show p<f.length by omega),ld_ns hob hp,ld_ns hob hq,hb,st_ns hob hkg,ld_ns hob2 hget2])
 rw [z07,hI];have hh2:=root_halve hg hkg (by rw [hD];omega);rw [hD,hDq] at hh2;refine ⟨q,by omega,q,g.set k' q,rfl,by omega,zpj _ _ _ _,hg.set (by omega),by simpa using hgl,λx=>by rw [hh2,hr],?_,rfl⟩;rw [<-hrk,<-hr,<-hr];rw [z4s (k:=k') (by rw [hD];omega),hD];by_cases e2:q<p
 ·rw [z4s (k:=p) (by rw [hDq];exact e2),hDq]
 ·have:q=p:=by omega
  rw [this]
theorem join_does {fid:Nat} {f:List Nat} {P:List (Nat×Nat)} (hs:Says f P) {x:Nat} (hx:x<18446744073709551616) (hb:∀ k∈bitsOf x,k<f.length) (hlen:f.length<=1000) {h:z00} (hfid:fid<h.next) (ho:h.objs fid=some (.row 3 (nsAV f))) :
  z01 Tryd.prog 33 [.sl fid 0 f.length 1,.int .u64 (x:Nat)] h (λv h2=>∃ g,h2.objs fid=some (.row 3 (nsAV g))/\Keeps h h2 (λi=>i=fid)/\Says g (P++(bitsOf x).map λk=>(z1b x,k))/\g.length=f.length):=by
 apply zdv;by_cases h0:x=0
 ·subst h0
  (repeat simp -dsimp -implicitDefEqProofs (disch:=omega) only [↓rP,rA,↓reduceIte,reduceEqDiff,reduceAdd,reduceLeDiff,↓tyr,zsz,zo3])
  exact ⟨f,ho,Keeps.refl _ _,by simpa [zq0] using hs,rfl⟩
 have e0:((x:Int) == 0)=false:=by simpa using h0
 have hlow:=z8v h0 hx;have hfirst:z1b x<f.length:=hb _ (z8p.2 ⟨hlow.1,hlow.2.1⟩)
 (repeat simp -dsimp -implicitDefEqProofs (disch:=omega) only [↓rP,rA,↓reduceIte,reduceEqDiff,reduceAdd,reduceLeDiff,↓tyr,zsz,zo3,e0])
 refine z01.go (tz_does x hx _) ?_
 (repeat simp -dsimp -implicitDefEqProofs (disch:=omega) only [↓rP,rA,↓reduceIte,reduceEqDiff,reduceAdd,reduceLeDiff,↓tyr])
 rw [zdq (by rfl)]
 (repeat simp -dsimp -implicitDefEqProofs (disch:=omega) only [↓rP,rA,↓reduceIte,reduceEqDiff,reduceAdd,reduceLeDiff,↓tyr])
 refine (zk3 x _).mono ?_;rintro v h2 ⟨rfl,rfl⟩
 (repeat simp -dsimp -implicitDefEqProofs (disch:=omega) only [↓rP,rA,↓reduceIte,reduceEqDiff,reduceAdd,reduceLeDiff,↓tyr])
 obtain ⟨H,hH⟩:∃ H:z00,H=(h.push (.row 3 [.int .i64 (z1b x:Nat)])).push (.row 89 [.int .u64 (x:Nat)]):=⟨_,rfl⟩;have hHn:H.next=h.next+2:=by rw [hH];rfl
 have hHc:H.objs h.next=some (.row 3 [.int .i64 (z1b x:Nat)]):=by rw [hH];simp
 have hHb:H.objs (h.next+1)=some (.row 89 [.int .u64 (x:Nat)]):=by rw [hH];simp
 have hHk:Keeps h H (λi=>i=fid):=by rw [hH];exact ((Keeps.one _ _).go (Keeps.one _ _)).mono (λ_ e=>e.elim)
 have hHf:H.objs fid=some (.row 3 (nsAV f)):=by rw [hH,z16 (by simp;omega),z16 hfid];exact ho
 have e1:(h.push (.row 3 [.int .i64 (z1b x:Nat)])).next=h.next+1:=rfl;rw [e1,<-hH];clear e1;refine zpu Tryd.call76 (gf:=76) (cap:=[.ptr (h.next+1) 0]) (by rfl) ?_;obtain ⟨lp,hlp⟩:∃ lp:LoopState->Option Code->AObj,lp=λst pe=>.loop st pe 39 #[14] z3h z3i (frOf [(2,AV.iptr [AV.sl fid 0 f.length 1]),(4,AV.ptr h.next 0),(13,AV.fn (Fn.func 76) [] [AV.ptr (h.next+1) 0])]):=⟨_,rfl⟩;obtain ⟨J,hJ⟩:∃ J:Nat->z00->Prop,J=λn hh=>∃ g,hh.objs fid=some (.row 3 (nsAV g))/\Says g (P++((bitsOf x).take n).map λk=>(z1b x,k))/\g.length=f.length/\hh.objs h.next=some (.row 3 [.int .i64 (z1b x:Nat)])/\hh.objs (h.next+2)=some (lp .ready none)/\Keeps h hh (λi=>i=fid):=⟨_,rfl⟩;rw [hHn];refine (zmx hx J (λ_=>False) _ (by simp [hHn,hHb]) ?_ ?_ ?_).mono ?_
 ·rw [hJ];refine ⟨f,by rw [z16 (by omega)];exact hHf,by simpa using hs,rfl,by rw [z16 (by omega)];exact hHc,?_,hHk.z5e _⟩;rw [<-hHn,hlp];exact z19 _ _
 ·intro n hh o hj;rw [hJ] at hj ⊢;obtain ⟨g,j1,j2,j3,j4,j5,j6⟩:=hj;refine ⟨g,?_,j2,j3,?_,?_,j6.z3a (by omega) _⟩
  ·simp only [z00.z2x];rw [if_neg (by omega)];exact j1
  ·simp only [z00.z2x];rw [if_neg (by omega)];exact j4
  ·simp only [z00.z2x];rw [if_neg (by omega)];exact j5
 ·intro n k hh o hk hj hob;rw [hJ] at hj;obtain ⟨g,j1,j2,j3,j4,j5,j6⟩:=hj;rw [hlp] at j5;have hkm:k∈bitsOf x:=List.mem_of_getElem? hk;have hkl:=hb k hkm;refine z9s.go (fr1:=frOf [(2,AV.iptr [AV.sl fid 0 f.length 1]),(4,AV.ptr h.next 0),(5,.int .i64 (k:Nat))]) j5 (by rfl) (by decide) (by kernel_rfl) (by kernel_rfl) ?_ ?_
  ·show WP _ _ _ (zi5 [14] [.int .i64 (k:Nat)] (frOf _)) _ _
   simp only [zi5,zpp];refine WP.zbx [2,4,14] ?_;apply zbd;refine ⟨rfl,?_,rfl⟩
   rfl
  ·apply zbe;obtain ⟨G,hG⟩:∃ G:z00,G=hh.put (h.next+2) (.loop .busy none 39 #[14] z3h z3i (frOf [(2,AV.iptr [AV.sl fid 0 f.length 1]),(4,AV.ptr h.next 0),(13,AV.fn (Fn.func 76) [] [AV.ptr (h.next+1) 0])])):=⟨_,rfl⟩;rw [<-hG];have g1:G.objs fid=some (.row 3 (nsAV g)):=by rw [hG,z0x (by omega)];exact j1
   have g4:G.objs h.next=some (.row 3 [.int .i64 (z1b x:Nat)]):=by rw [hG,z0x (by omega)];exact j4
   have ld4:∀ {F:z00} (hF:F.objs h.next=some (.row 3 [.int .i64 (z1b x:Nat)])) (K:AV->Prop),z0t none (.ptr h.next 0) F K=K (.int .i64 (z1b x:Nat)):=λhF K=>by rw [z0b hF];simp [z03]
   have hlow:=j2.1;rw [<-j3] at hkl hfirst ⊢
   (repeat simp -dsimp -implicitDefEqProofs (disch:=omega) only [↓rP,rA,↓reduceIte,reduceEqDiff,reduceAdd,reduceLeDiff,↓tyr,ld4 g4,zsz,zo3])
   refine (zpo hlow hfirst g1).mono ?_;rintro _ G2 ⟨rfl,g',rfl,hl2,hlen2,hr2⟩;have g12:(G.put fid (.row 3 (nsAV g'))).objs fid=some (.row 3 (nsAV g')):=by simp
   (repeat simp -dsimp -implicitDefEqProofs (disch:=omega) only [↓rP,rA,↓reduceIte,reduceEqDiff,reduceAdd,reduceLeDiff,↓tyr])
   rw [<-hlen2];refine (zpo hl2 (k:=k) (by omega) g12).mono ?_;rintro _ G3 ⟨rfl,g'',rfl,hl3,hlen3,hr3⟩;rw [zpj];have g13:(G.put fid (.row 3 (nsAV g''))).objs fid=some (.row 3 (nsAV g'')):=by simp
   (repeat simp -dsimp -implicitDefEqProofs (disch:=omega) only [↓rP,rA,↓reduceIte,reduceEqDiff,reduceAdd,reduceLeDiff,↓tyr])
   have hra:root g (z1b x)=root g'' (z1b x):=by rw [hr3,hr2]
   have hrb:root g' k=root g'' k:=by rw [hr3]
   have hla:root g'' (z1b x)<g''.length:=Nat.lt_of_le_of_lt (zfd _) (by omega);have hlb:root g'' k<g''.length:=Nat.lt_of_le_of_lt (zfd _) (by omega);have hM:max ((root g (z1b x):Nat):Int) (root g' k:Nat)=((max (root g'' (z1b x)) (root g'' k):Nat):Int):=by rw [hra,hrb];omega
   have hm:min ((root g (z1b x):Nat):Int) (root g' k:Nat)=((min (root g'' (z1b x)) (root g'' k):Nat):Int):=by rw [hra,hrb];omega
   rw [zdo,minA_two,hM,hm];have hMl:max (root g'' (z1b x)) (root g'' k)<g'.length:=by omega
   (repeat simp -dsimp -implicitDefEqProofs (disch:=omega) only [↓rP,rA,↓reduceIte,reduceEqDiff,reduceAdd,reduceLeDiff,↓tyr,zog hMl,st_ns g13 (show max (root g'' (z1b x)) (root g'' k)<g''.length by omega)])
   rw [zpj];have hsay:Says g'' (P++((bitsOf x).take n).map λk=>(z1b x,k)):=j2.same hl3 (λy=>by rw [hr3,hr2]);have hsay2:=hsay.link (i:=z1b x) (j:=k) (by omega) (by omega);refine ⟨by rw [hG,z0x (by omega)];rw [z1d,hlen2,j3],Or.inl ⟨rfl,?_,?_⟩⟩
   ·rw [z0x (by omega),z0x (by omega),hG,z0x (by omega)];exact hob
   ·rw [hJ];refine ⟨_,by rw [z0x (by omega),z1d],?_,by simp;omega,by rw [z0x (by omega),z0x (by omega),hG,z0x (by omega)];exact j4,by rw [z1d,hlp,hlen2,j3],((hG▸j6.z3a (by omega) _).putS rfl _).z3a (by omega) _⟩;have:(bitsOf x).take (n+1)=(bitsOf x).take n++[k]:=by rw [List.take_add_one,hk];rfl
    rw [this,List.map_append,<-List.append_assoc];exact hsay2
 ·rintro v h' (hj | hj)
  ·rw [hJ] at hj;obtain ⟨g,j1,j2,j3,j4,j5,j6⟩:=hj;rw [hlp] at j5;refine ⟨.ready,none,j5,by simp,?_⟩;simp only [zdr]
   (repeat simp -dsimp -implicitDefEqProofs (disch:=omega) only [↓rP,rA,↓reduceIte,reduceEqDiff,reduceAdd,reduceLeDiff,↓tyr])
   refine ⟨g,?_,j6.zkn (by omega),by simpa using j2,j3⟩;simp only [z00.z5r];rw [if_neg (by omega)];exact j1
  ·exact hj.elim
end
section
open Go.Abs
abbrev St:=z0u
def rowsOf (s:St):List (Option (List Nat)):=s.Globals::(slL s.Slots++slL s.Fields)
def zlg (l:List (Option (List Nat))):List Nat:=l.flatMap slL
def zdc (s:St):List Nat:=zlg (rowsOf s)
def z8n (l:List (Option (List Nat))):List AV:=l.map λo=>slAV 1 encN o
theorem wk1 (k:Nat) (hk:k<=1000000):IntKind.i64.wrap ((k:Int)+1)=((k+1:Nat):Int):=by rw [z7n (by omega) (by omega)];omega
theorem bsl1 {e:TypeId} {by_:Nat} {z v:AV} (hv:v.zbn=true) (h:z00) (K:AV->z00->Prop):z10 false { e:=e,sz:=1,by_:=by_ } [z] 1 [(0,v)] h K=K (.sl h.next 0 1 1) (h.push (.row e [v])):=by
 have hc:v.cells=[v]:=by cases v <;> simp_all [AV.cells,AV.zbn]
 have hf:v.fits=true:=by cases v <;> simp_all [AV.fits,AV.zbn]
 simp [z10,zat,hc,hf]
theorem slAV_leafy (o:Option (List Nat)):(slAV 1 encN o).zbn=true:=by cases o <;> rfl
theorem flat_rows (l:List (Option (List Nat))):(l.map λo=>[slAV 1 encN o]).flatten=z8n l:=by
 induction l with
 | nil=>rfl
 | cons a l ih=>simp only [List.map_cons,List.flatten_cons,ih,z8n,List.singleton_append]
theorem znp (l:List (Option (List Nat))):(z8n l).length=l.length:=by simp [z8n]
theorem app_rows {gr:Bool} {T:TypeId} {h:z00} {id:Nat} {l:List (Option (List Nat))} {o:Option (List (Option (List Nat)))} (ho:h.objs id=some (.row T (z8n l))) (hb:l.length+(slL o).length<=1000000) (K:AV->z00->Prop) :
  z1x gr { e:=T,sz:=1,by_:=24 } (.sl id 0 l.length 1) (slAV 1 (λo=>[slAV 1 encN o]) o) h K=K (.sl h.next 0 (l++slL o).length 1) ((h.kill id).push (.row T (z8n (l++slL o)))):=by
 unfold z1x;rw [zh7];simp only [ho];have e1:(z8n l).take (l.length*1)=z8n l:=by rw [Nat.mul_one,<-znp l,List.take_length]
 have e2:z8n l++z8n (slL o)=z8n (l++slL o):=by simp [z8n]
 rw [flat_rows,e1,e2,List.length_map,List.length_append,Nat.mul_one];apply propext;constructor
 ·rintro ⟨-,-,-,-,hk⟩;exact hk
 ·intro hk;exact ⟨trivial,trivial,by rw [znp];exact Nat.le_refl _,by simp [bounded,maxLen];omega,hk⟩
theorem all_does (s:St) (hs:(slL s.Slots).length<=100000) (hf:(slL s.Fields).length<=100000) (h:z00):z01 Tryd.prog 32 [.agg s.cells] h (λv h2=>∃ id,v=.sl id 0 (rowsOf s).length 1/\h2.objs id=some (.row 62 (z8n (rowsOf s)))/\h.next<=id/\id<h2.next/\Keeps h h2 (λ_=>False)):=by
 apply zqb
 (repeat simp -dsimp -implicitDefEqProofs (disch:=omega) only [↓rP,rA,↓reduceIte,reduceEqDiff,reduceAdd,reduceLeDiff,↓tyr])
 rw [bsl1 (slAV_leafy _)]
 (repeat simp -dsimp -implicitDefEqProofs (disch:=omega) only [↓rP,rA,↓reduceIte,reduceEqDiff,reduceAdd,reduceLeDiff,↓tyr])
 have e0:[slAV 1 encN s.Globals]=z8n [s.Globals]:=rfl;rw [e0];refine Eq.mpr (app_rows (l:=[s.Globals]) (z19 _ _) (by simp;omega) _) ?_
 (repeat simp -dsimp -implicitDefEqProofs (disch:=omega) only [↓rP,rA,↓reduceIte,reduceEqDiff,reduceAdd,reduceLeDiff,↓tyr])
 refine Eq.mpr (app_rows (z19 _ _) (by simp;omega) _) ?_
 (repeat simp -dsimp -implicitDefEqProofs (disch:=omega) only [↓rP,rA,↓reduceIte,reduceEqDiff,reduceAdd,reduceLeDiff,↓tyr])
 refine ⟨_,?_,z19 _ _,by simp;omega,by simp,?_⟩
 ·simp [rowsOf,Nat.add_comm,Nat.add_left_comm]
 ·refine ((((Keeps.one _ _).zkn (Nat.le_refl _)).z5e _).zkn ?_).z5e _;simp
theorem mk_ns (n:Nat) (hn:n<=1000000) (T:TypeId) (h:z00) (K:AV->z00->Prop):z6r { e:=T,sz:=1,by_:=8 } [.int .i64 0] (.int .i64 (n:Int)) (.int .i64 (n:Int)) h K=K (.sl h.next 0 n 1) (h.push (.row T (nsAV (List.replicate n 0)))):=by
 have e:repC n [AV.int .i64 0]=nsAV (List.replicate n 0):=by simp [repC,nsAV]
 simp only [z6r,Int.toNat_natCast,e];apply propext;constructor
 ·rintro ⟨-,-,-,-,-,hk⟩;exact hk
 ·intro hk;exact ⟨by omega,by omega,by omega,by omega,rfl,hk⟩
theorem prs_snoc (l:List Nat) (x:Nat):zi0 (l++[x])=zi0 l++(bitsOf x).map λk=>(z1b x,k):=by
 simp [zi0]
theorem ztz (l:List (Option (List Nat))) (o:Option (List Nat)):zlg (l++[o])=zlg l++slL o:=by
 simp [zlg]
def zny (n:Nat) (S:List Nat) (out:List Nat):Prop:=∃ f,Says f (zi0 S)/\f.length=n/\out=(List.range n).map (za9 f)
theorem split_row {fid m:Nat} (hm:m<=1000) {o:Option (List Nat)} (ho:(slL o).length<=100000) (hx:∀ x∈slL o,x<18446744073709551616/\∀ k∈bitsOf x,k<m) {L0:List Nat} {f:List Nat} (hs:Says f (zi0 L0)) (hfl:f.length=m) {h0:z00} (hfid:fid<h0.next) (hob:h0.objs fid=some (.row 3 (nsAV f))) (A29 A30 A31:AV) (Q:z1z->Fr->z00->Prop)
  (hQ:∀ h2 g,h2.objs fid=some (.row 3 (nsAV g))->Says g (zi0 (L0++slL o))->g.length=m->Keeps h0 h2 (λi=>i=fid)->Q (.exit 4) (frOf [(5,.sl fid 0 m 1),(29,A29),(30,A30),(31,A31)]) h2) :
  WP Tryd.prog 75 (.loop z8b) (frOf [(5,.sl fid 0 m 1),(29,A29),(30,A30),(31,A31),(35,slAV 1 encN o),(36,.int .i64 (slL o).length),(37,.int .i64 0)]) h0 Q:=by
 obtain ⟨I,hI⟩:∃ I:Nat->Fr->z00->Prop,I=(λr fr hh=>∃ (j:Nat) (g:List Nat),r=(slL o).length-j/\j<=(slL o).length/\hh.objs fid=some (.row 3 (nsAV g))/\Says g (zi0 (L0++(slL o).take j))/\g.length=m/\Keeps h0 hh (λi=>i=fid)/\fr=frOf [(5,.sl fid 0 m 1),(29,A29),(30,A30),(31,A31),(35,slAV 1 encN o),(36,.int .i64 (slL o).length),(37,.int .i64 j)]):=⟨_,rfl⟩;refine z1i z0d (by kernel_rfl) I (slL o).length (by rw [hI];exact ⟨0,f,rfl,Nat.zero_le _,hob,by simpa using hs,hfl,Keeps.refl _ _,rfl⟩) ?_;intro r fr hh hi;rw [hI] at hi;obtain ⟨j,g,rfl,hj,ho1,hsy,hgl,kp,rfl⟩:=hi;apply zfp
 (repeat simp -dsimp -implicitDefEqProofs (disch:=omega) only [↓rP,rA,↓reduceIte,reduceEqDiff,reduceAdd,reduceLeDiff,↓tyr])
 refine z09 (λhjl=>?_) (λhjl=>?_)
 ·obtain ⟨x,hxj⟩:∃ x,(slL o)[j]?=some x:=⟨_,List.getElem?_eq_getElem (by omega)⟩;obtain ⟨hx1,hx2⟩:=hx x (List.mem_of_getElem? hxj);have ld:∀ (H:z00) (K:AV->Prop),z0t none (.iptr (encN x)) H K=K (.int .u64 (x:Nat)):=λH K=>by rw [z1q];simp [z03,encN]
  (repeat simp -dsimp -implicitDefEqProofs (disch:=omega) only [↓rP,rA,↓reduceIte,reduceEqDiff,reduceAdd,reduceLeDiff,↓tyr,z06 hxj,ld])
  have hn:=kp.next;refine Eq.mpr (by rw [<-hgl]) ((join_does hsy hx1 (λk hk=>by rw [hgl];exact hx2 k hk) (by omega) (show fid<hh.next by omega) ho1).mono ?_);rintro v h2 ⟨g',q1,q2,q3,q4⟩
  (repeat simp -dsimp -implicitDefEqProofs (disch:=omega) only [↓rP,rA,↓reduceIte,reduceEqDiff,reduceAdd,reduceLeDiff,↓tyr,wk1 j (by omega)])
  rw [z07,hI];refine ⟨(slL o).length-(j+1),by omega,j+1,g',rfl,by omega,q1,?_,by omega,kp.trans q2 (λ_ _ e=>e),by rw [hgl]⟩;rw [List.take_add_one,hxj,<-List.append_assoc];exact (prs_snoc _ _)▸q3
 ·(repeat simp -dsimp -implicitDefEqProofs (disch:=omega) only [↓rP,rA,↓reduceIte,reduceEqDiff,reduceAdd,reduceLeDiff,↓tyr])
  have e:j=(slL o).length:=by omega
  subst e;rw [List.take_length] at hsy;exact hQ hh g ho1 hsy hgl kp
theorem split_does (n:Int) (s:St) (hn:n<=1000) (hs:(slL s.Slots).length<=100000) (hf:(slL s.Fields).length<=100000) (hl:∀ o∈rowsOf s,(slL o).length<=100000) (hx:∀ x∈zdc s,x<18446744073709551616/\∀ k∈bitsOf x,k<n.toNat) (h:z00) :
  z01 Tryd.prog 17 [.int .i64 n,.agg s.cells] h (λv h2=>∃ id out,v=.sl id 0 out.length 1/\h2.objs id=some (.row 3 (nsAV out))/\h.next<=id/\id<h2.next/\Keeps h h2 (λ_=>False)/\zny n.toNat (zdc s) out):=by
 obtain ⟨m,hm⟩:∃ m,m=n.toNat:=⟨_,rfl⟩;have hmx:max n 0=((m:Nat):Int):=by omega
 rw [<-hm] at hx ⊢;apply zlv
 (repeat simp -dsimp -implicitDefEqProofs (disch:=omega) only [↓rP,rA,↓reduceIte,reduceEqDiff,reduceAdd,reduceLeDiff,↓tyr])
 rw [zdo,hmx]
 (repeat simp -dsimp -implicitDefEqProofs (disch:=omega) only [↓rP,rA,↓reduceIte,reduceEqDiff,reduceAdd,reduceLeDiff,↓tyr])
 rw [mk_ns m (by omega)]
 (repeat simp -dsimp -implicitDefEqProofs (disch:=omega) only [↓rP,rA,↓reduceIte,reduceEqDiff,reduceAdd,reduceLeDiff,↓tyr])
 obtain ⟨I,hI⟩:∃ I:Nat->Fr->z00->Prop,I=(λr fr hh=>∃ (k:Nat) (g:List Nat),r=m-k/\k<=m/\g.length=m/\g.take k=List.range k/\hh.objs h.next=some (.row 3 (nsAV g))/\hh.next=h.next+1/\Keeps h hh (λ_=>False)/\fr=frOf [(3,.iptr s.cells),(5,.sl h.next 0 m 1),(19,.int .i64 m),(20,.int .i64 k)]):=⟨_,rfl⟩;refine z1i z0d (by kernel_rfl) I m (by rw [hI];exact ⟨0,List.replicate m 0,rfl,Nat.zero_le _,by simp,by simp,by simp,rfl,Keeps.one _ _,rfl⟩) ?_;intro r fr hh hi;rw [hI] at hi;obtain ⟨k,g,rfl,hk,hgl,hgt,hob,hnx,kp,rfl⟩:=hi;apply zhe
 (repeat simp -dsimp -implicitDefEqProofs (disch:=omega) only [↓rP,rA,↓reduceIte,reduceEqDiff,reduceAdd,reduceLeDiff,↓tyr])
 refine z09 (λhkm=>?_) (λhkm=>?_)
 ·(repeat simp -dsimp -implicitDefEqProofs (disch:=omega) only [↓rP,rA,↓reduceIte,reduceEqDiff,reduceAdd,reduceLeDiff,↓tyr,zog (show k<m by omega),st_ns hob (show k<g.length by omega),wk1 k (by omega)])
  rw [z07,hI];refine ⟨m-(k+1),by omega,k+1,g.set k k,rfl,by omega,by simpa using hgl,?_,z1d _ _ _,hnx,kp.z3a (Nat.le_refl _) _,rfl⟩;rw [List.take_add_one,List.take_set_of_le (Nat.le_refl _),hgt,List.getElem?_set_self (by omega),List.range_succ];rfl
 have hkm2:k=m:=by omega
 subst hkm2;have hgr:g=List.range k:=by rw [<-hgt,<-hgl,List.take_length]
 subst hgr
 (repeat simp -dsimp -implicitDefEqProofs (disch:=omega) only [↓rP,rA,↓reduceIte,reduceEqDiff,reduceAdd,reduceLeDiff,↓tyr])
 clear hI I hgt;refine (all_does s hs hf hh).mono ?_;rintro _ h14 ⟨rid,rfl,hro,hrn,hrl,kp2⟩;have kp14:=kp.go kp2;have hob14:h14.objs h.next=some (.row 3 (nsAV (List.range k))):=by rw [kp2.objs _ (by omega) (by simp)];exact hob
 have hn14:=kp2.next
 (repeat simp -dsimp -implicitDefEqProofs (disch:=omega) only [↓rP,rA,↓reduceIte,reduceEqDiff,reduceAdd,reduceLeDiff,↓tyr])
 obtain ⟨R,hR⟩:∃ R,R=rowsOf s:=⟨_,rfl⟩;have hset:zdc s=zlg R:=by rw [hR];rfl
 rw [<-hR] at hro hl ⊢;rw [hset] at hx ⊢;have hRl:R.length<=200001:=by rw [hR];simp [rowsOf];omega
 obtain ⟨I,hI⟩:∃ I:Nat->Fr->z00->Prop,I=(λr fr h8=>∃ (i:Nat) (g:List Nat),r=R.length-i/\i<=R.length/\h8.objs h.next=some (.row 3 (nsAV g))/\Says g (zi0 (zlg (R.take i)))/\g.length=k/\Keeps h14 h8 (λi=>i=h.next)/\fr=frOf [(5,.sl h.next 0 k 1),(29,.sl rid 0 R.length 1),(30,.int .i64 R.length),(31,.int .i64 i)]):=⟨_,rfl⟩;refine z1i z0d (by kernel_rfl) I R.length (by rw [hI];exact ⟨0,List.range k,rfl,Nat.zero_le _,hob14,Says.start k,by simp,Keeps.refl _ _,rfl⟩) ?_;intro r fr h8 hi;rw [hI] at hi;obtain ⟨i,g,rfl,hi,ho8,hsy,hgl8,kp8,rfl⟩:=hi;apply zhf
 (repeat simp -dsimp -implicitDefEqProofs (disch:=omega) only [↓rP,rA,↓reduceIte,reduceEqDiff,reduceAdd,reduceLeDiff,↓tyr])
 refine z09 (λhil=>?_) (λhil=>?_)
 ·obtain ⟨o,hxo⟩:∃ o,R[i]?=some o:=⟨_,List.getElem?_eq_getElem (by omega)⟩;have hro8:h8.objs rid=some (.row 62 (z8n R)):=by rw [kp8.objs _ hrl (by omega)];exact hro
  have ld:∀ (K:AV->Prop),z0t none (.ptr rid i) h8 K=K (slAV 1 encN o):=λK=>by
   rw [z0b hro8,zcd (v:=slAV 1 encN o) (by simp [z8n,hxo])]
  have hmem:o∈R:=List.mem_of_getElem? hxo
  (repeat simp -dsimp -implicitDefEqProofs (disch:=omega) only [↓rP,rA,↓reduceIte,reduceEqDiff,reduceAdd,reduceLeDiff,↓tyr,zog (show i<R.length by omega),↓ld])
  refine split_row (by omega) (hl o hmem) (λx hxx=>hx x (List.mem_flatMap.2 ⟨o,hmem,hxx⟩)) hsy hgl8 (by have:=kp8.next;omega) ho8 _ _ _ _ ?_;intro h2 g' q1 q2 q3 q4
  (repeat simp -dsimp -implicitDefEqProofs (disch:=omega) only [↓rP,rA,↓reduceIte,reduceEqDiff,reduceAdd,reduceLeDiff,↓tyr,wk1 i (by omega)])
  rw [z07,hI];refine ⟨R.length-(i+1),by omega,i+1,g',rfl,by omega,q1,?_,q3,kp8.trans q4 (λ_ _ e=>e),rfl⟩;rw [List.take_add_one,hxo];exact (ztz _ _)▸q2
 have hil2:i=R.length:=by omega
 subst hil2;rw [List.take_length] at hsy
 (repeat simp -dsimp -implicitDefEqProofs (disch:=omega) only [↓rP,rA,↓reduceIte,reduceEqDiff,reduceAdd,reduceLeDiff,↓tyr])
 clear hI I hi;rw [mk_ns k (by omega)]
 (repeat simp -dsimp -implicitDefEqProofs (disch:=omega) only [↓rP,rA,↓reduceIte,reduceEqDiff,reduceAdd,reduceLeDiff,↓tyr])
 have hoid:=kp8.next;obtain ⟨I,hI⟩:∃ I:Nat->Fr->z00->Prop,I=(λr fr hh=>∃ (i:Nat) (g' out:List Nat),r=k-i/\i<=k/\hh.objs h.next=some (.row 3 (nsAV g'))/\Low g'/\g'.length=k/\(∀ x,root g' x=root g x)/\hh.objs h8.next=some (.row 3 (nsAV out))/\out.length=k/\out.take i=(List.range i).map (za9 g)/\Keeps h8 hh (λi=>i=h.next)/\h8.next<hh.next/\fr=frOf [(5,.sl h.next 0 k 1),(11,.sl h8.next 0 k 1),(12,.int .i64 (z81 g i:Nat)),(50,.int .i64 k),(51,.int .i64 i)]):=⟨_,rfl⟩;refine z1i z0d (by kernel_rfl) I k (by rw [hI];exact ⟨0,g,List.replicate k 0,rfl,Nat.zero_le _,by rw [z16 (by omega)];exact ho8,hsy.1,hgl8,λ_=>rfl,z19 _ _,by simp,by simp,(Keeps.refl _ _).z5e _,by simp,rfl⟩) ?_;intro r fr h9 hi;rw [hI] at hi;obtain ⟨i,g',out,rfl,hik,q1,q2,q3,q4,q5,q6,q7,q8,q8n,rfl⟩:=hi;apply zfq
 (repeat simp -dsimp -implicitDefEqProofs (disch:=omega) only [↓rP,rA,↓reduceIte,reduceEqDiff,reduceAdd,reduceLeDiff,↓tyr])
 refine z09 (λhil=>?_) (λhil=>?_)
 ·have hil3:i<k:=by omega
  (repeat simp -dsimp -implicitDefEqProofs (disch:=omega) only [↓rP,rA,↓reduceIte,reduceEqDiff,reduceAdd,reduceLeDiff,↓tyr])
  have htd:=zpo q2 (k:=i) (by omega) q1;rw [q3] at htd;refine htd.mono ?_;rintro _ h10 ⟨rfl,g2,rfl,r2,r3,r4⟩;have hti:root g' i<=i:=zfd i;have q5':(h9.put h.next (.row 3 (nsAV g2))).objs h8.next=some (.row 3 (nsAV out)):=by rw [z0x (by omega)];exact q5
  have hroots:∀ x,root g2 x=root g x:=λx=>by rw [r4,q4]
  have hcls_i:za9 g i=z81 g (root g i)+1:=rfl;have hl10:z81 g i<=1000:=by
   have h1:=zkp g (Nat.le_of_lt hil3);have h2:z81 g k<=(List.range k).length:=List.countP_le_length;simp at h2;omega
  (repeat simp -dsimp -implicitDefEqProofs (disch:=omega) only [↓rP,rA,↓reduceIte,reduceEqDiff,reduceAdd,reduceLeDiff,↓tyr])
  refine z09 (λhtl=>?_) (λhtl=>?_)
  ·have htl2:root g' i<i:=by omega
   have hget:out[root g' i]?=some (za9 g i):=by
    have h1:=congrArg (λl=>l[root g' i]?) q7;simp only [List.getElem?_take,List.getElem?_map] at h1;rw [if_pos htl2,List.getElem?_range htl2] at h1;rw [h1,q4];simp only [Option.map_some,Option.some.injEq];exact clsOf_eq.2 (z6v i)
   (repeat simp -dsimp -implicitDefEqProofs (disch:=omega) only [↓rP,rA,↓reduceIte,reduceEqDiff,reduceAdd,reduceLeDiff,↓tyr,zog (show root g' i<k by omega),ld_ns q5' hget,zog hil3,st_ns q5' (show i<out.length by omega),wk1 i (by omega)])
   rw [z07,hI];refine ⟨k-(i+1),by omega,i+1,g2,out.set i (za9 g i),rfl,by omega,by rw [z0x (by omega),z1d],r2,by omega,hroots,z1d _ _ _,by simpa using q6,?_,(q8.putS rfl _).z3a (Nat.le_refl _) _,q8n,?_⟩
   ·rw [List.take_add_one,List.take_set_of_le (Nat.le_refl _),q7,List.getElem?_set_self (by omega),List.range_succ,List.map_append];rfl
   ·rw [zbm,if_neg (by rw [<-q4];omega)];rfl
  ·have hte:root g i=i:=by rw [<-q4];omega
   have hcls:za9 g i=z81 g i+1:=by rw [hcls_i,hte]
   (repeat simp -dsimp -implicitDefEqProofs (disch:=omega) only [↓rP,rA,↓reduceIte,reduceEqDiff,reduceAdd,reduceLeDiff,↓tyr,wk1 (z81 g i) (by omega),zog hil3,st_ns q5' (show i<out.length by omega),wk1 i (by omega)])
   rw [z07,hI];refine ⟨k-(i+1),by omega,i+1,g2,out.set i (za9 g i),rfl,by omega,by rw [z0x (by omega),z1d],r2,by omega,hroots,by rw [hcls];exact z1d _ _ _,by simpa using q6,?_,(q8.putS rfl _).z3a (Nat.le_refl _) _,q8n,?_⟩
   ·rw [List.take_add_one,List.take_set_of_le (Nat.le_refl _),q7,List.getElem?_set_self (by omega),List.range_succ,List.map_append];rfl
   ·rw [zbm,if_pos hte]
 ·(repeat simp -dsimp -implicitDefEqProofs (disch:=omega) only [↓rP,rA,↓reduceIte,reduceEqDiff,reduceAdd,reduceLeDiff,↓tyr])
  have hik2:i=k:=by omega
  subst hik2;rw [<-q6,List.take_length] at q7;refine ⟨h8.next,out,by rw [q6],q5,by omega,q8n,?_,g,hsy,hgl8,by rw [q7,q6]⟩;refine ⟨by have:=q8.next;omega,λj hj _=>?_⟩;rw [q8.objs j (by omega) (by omega),kp8.objs j (by omega) (by omega),kp14.objs j hj (by simp)]
end
section
open Go.Abs
end
section
open Go.Abs
theorem zfe {f g:List Nat} {P:List (Nat×Nat)} (hf:Says f P) (hg:Says g P) (x:Nat):root f x=root g x:=by
 have key:∀ {f g:List Nat},Says f P->Says g P->root f x<=root g x:=fun {f g} hf hg=>by
  have h1:root g (root g x)=root g x:=z6v x;have h2:=(hf.2 _ _).2 ((hg.2 _ _).1 h1);rw [<-h2];exact zfd _
 exact Nat.le_antisymm (key hf hg) (key hg hf)
theorem zty (m:Nat):∀ (P:List (Nat×Nat)),(∀ p∈P,p.1<m/\p.2<m)->∃ f,Says f P/\f.length=m:=by
 intro P;obtain ⟨Q,hQ⟩:∃ Q,Q=P.reverse:=⟨_,rfl⟩;have hP:P=Q.reverse:=by rw [hQ,List.reverse_reverse]
 subst hP;clear hQ
 induction Q with
 | nil=>intro _;exact ⟨List.range m,Says.start m,by simp⟩
 | cons p Q ih=>
  intro h;rw [List.reverse_cons] at h ⊢;obtain ⟨f,h1,h2⟩:=ih (λq hq=>h q (by simp at hq ⊢;exact Or.inl hq));obtain ⟨p1,p2⟩:=h p (by simp);exact ⟨_,h1.link (by omega) (by omega),by simpa using h2⟩
theorem prs_lt {S:List Nat} {m:Nat} (hx:∀ x∈S,∀ k∈bitsOf x,k<m):∀ p∈zi0 S,p.1<m/\p.2<m:=by
 intro p hp;simp only [zi0,List.mem_flatten,List.mem_map] at hp;obtain ⟨l,⟨x,hx1,rfl⟩,h⟩:=hp;simp only [List.mem_map] at h;obtain ⟨k,hk,rfl⟩:=h;exact ⟨hx x hx1 _ (firstB_mem hk),hx x hx1 k hk⟩
theorem says_get {S:List Nat} {m:Nat} (hx:∀ x∈S,∀ k∈bitsOf x,k<m):∃ f,Says f (zi0 S)/\f.length=m:=zty m _ (prs_lt hx)
theorem isCls_of {S out:List Nat} {m:Nat} {f:List Nat} (hf:Says f (zi0 S)) (h:zny m S out):out=(List.range m).map (za9 f):=by
 obtain ⟨g,h1,h2,rfl⟩:=h;have:za9 g=za9 f:=by funext k;exact zjx (zfe h1 hf) k
 rw [this]
section
variable {s:St} {m:Nat} {f:List Nat}
end
end
section
open Go.Abs
structure Few (m:Nat) (s:St):Prop where
 slots:(slL s.Slots).length<=100000
 fields:(slL s.Fields).length<=100000
 rows:∀ o∈rowsOf s,(slL o).length<=100000
 sets:∀ x∈zdc s,x<18446744073709551616
 bits:∀ x∈zdc s,∀ k∈bitsOf x,k<m
section
variable {s:St} {m:Nat} {f:List Nat}
end
end
section
open Go.Abs
end
section
open Go.Abs
open Classical in
noncomputable def z2j (c:Cd):Sg:=if h:∃ σ,Cl c σ/\Lw c σ then h.choose else λ_ _=>0
theorem leastS_eq {c:Cd} {σ:Sg} (h1:Cl c σ) (h2:Lw c σ):σ=z2j c:=by
 have h:∃ σ,Cl c σ/\Lw c σ:=⟨σ,h1,h2⟩;unfold z2j;rw [dif_pos h];exact least_eq h1 h2 h.choose_spec.1 h.choose_spec.2
def SolvV (c:Cd) (s:z0u):Prop:=(okC c=false/\s=⟨none,none,none⟩)\/(okC c=true/\∃ N,s=z6g c (z2j c) N/\(∀ r,N r=true->lenR c r=0)/\Bd2 c (z2j c)/\Rg c (z2j c))
theorem solvV_of {c:Cd} {s:z0u} (h:zsj c s):SolvV c s:=by
 rcases h with h | ⟨h,σ,N,rfl,h1,h2,h3,h4,h5⟩
 ·exact Or.inl h
 ·obtain rfl:=leastS_eq h2 h3;exact Or.inr ⟨h,N,rfl,h1,h4,h5⟩
theorem pSolve_v (c:Cd) (hc:c.ok) (sm:Small c) (h:z00):z01 Tryd.prog 16 [.agg c.cells] h (λv h2=>(∃ s:z0u,v=.agg s.cells/\SolvV c s)/\h2=h):=
 (Solve_v c hc sm h).mono (λv h2 ⟨⟨s,e1,e2⟩,e3⟩=>⟨⟨s,e1,solvV_of e2⟩,e3⟩)
theorem zjn {c:Cd} {σ:Sg} {N:Rw->Bool} (hN:∀ r,N r=true->lenR c r=0) (r:Rw):slL (rowO c σ N r)=(List.range (lenR c r)).map (σ r):=by
 unfold rowO;split
 ·rename_i e;rw [hN r e];rfl
 ·rfl
theorem zde (n:Nat) (f:Nat->Option (List Nat)):slL (rowsO n f)=(List.range n).map f:=by
 unfold rowsO;split
 ·rename_i e;rw [e];rfl
 ·rfl
theorem setsOf_V {c:Cd} {σ:Sg} {N:Rw->Bool} (hN:∀ r,N r=true->lenR c r=0):zdc (z6g c σ N)=zdc (z6g c σ λ_=>false):=by
 have hF:∀ r,(λ_:Rw=>false) r=true->lenR c r=0:=λr h=>by cases h
 unfold zdc zlg rowsOf z6g;simp only [List.flatMap_cons,List.flatMap_append,zde,List.flatMap_map,zjn hN,zjn hF]
open Classical in
noncomputable def clsN (m:Nat) (S:List Nat):List Nat:=if h:∃ out,zny m S out then h.choose else []
theorem isCls_one {S a b:List Nat} {m:Nat} (ha:zny m S a) (hb:zny m S b):a=b:=by
 obtain ⟨f,hf,-,rfl⟩:=ha;exact (isCls_of hf hb).symm
theorem clsN_eq {m:Nat} {S out:List Nat} (h:zny m S out):out=clsN m S:=by
 have h2:∃ out,zny m S out:=⟨out,h⟩;unfold clsN;rw [dif_pos h2];exact isCls_one h h2.choose_spec
noncomputable def clsL (c:Cd):List Int:=(clsN (slL c.Sites).length (zdc (z6g c (z2j c) λ_=>false))).map λn:Nat=>(n:Int)
theorem row_lenV {c:Cd} (sm:Small c) {σ:Sg} {N:Rw->Bool} (hN:∀ r,N r=true->lenR c r=0) {o:Option (List Nat)} (h:o∈rowsOf (z6g c σ N)):(slL o).length<=100000/\∀ x∈slL o,∃ r n,x=σ r n:=by
 have key:∀ (r:Rw),(slL (rowO c σ N r)).length<=100000/\∀ x∈slL (rowO c σ N r),∃ r n,x=σ r n:=λr=>by
  rw [zjn hN];have:=lenR_le sm r;refine ⟨by simp;omega,λx hx=>?_⟩;obtain ⟨n,_,rfl⟩:=List.mem_map.1 hx;exact ⟨r,n,rfl⟩
 unfold rowsOf z6g at h;simp only [zde,List.mem_cons,List.mem_append,List.mem_map] at h;rcases h with rfl | ⟨k,_,rfl⟩ | ⟨k,_,rfl⟩
 ·exact key _
 ·exact key _
 ·exact key _
theorem few_V {c:Cd} (hok:okC c=true) (sm:Small c) {N:Rw->Bool} (hN:∀ r,N r=true->lenR c r=0) {σ:Sg} (a3:Bd2 c σ):Few (slL c.Sites).length (z6g c σ N):=by
 have wc:=zse hok;have hsit:=wc.sit;have hx:∀ x∈zdc (z6g c σ N),∃ r n,x=σ r n:=λx hx=>by
  obtain ⟨o,h1,h2⟩:=List.mem_flatMap.1 hx;exact (row_lenV sm hN h1).2 x h2
 refine ⟨?_,?_,λo ho=>(row_lenV sm hN ho).1,λx h=>?_,λx h k hk=>?_⟩
 ·have:=sm.threads;unfold z6g;simp only [zde,List.length_map,List.length_range];omega
 ·have:=sm.sites;unfold z6g;simp only [zde,List.length_map,List.length_range];omega
 ·obtain ⟨r,n,rfl⟩:=hx x h;exact Nat.lt_of_lt_of_le (a3.lt r n) (Nat.le_trans (Nat.pow_le_pow_right (by decide) hsit) (by decide))
 ·obtain ⟨r,n,rfl⟩:=hx x h;exact a3 r n k (z8p.1 hk).2
theorem chunk_ints (l:List Nat):chunk 1 l.length (nsAV l)=(l.map λn:Nat=>(n:Int)).map encI:=by
 induction l with
 | nil=>rfl
 | cons a l ih=>
  simp only [nsAV,List.map_cons,List.length_cons,chunk,List.take_succ_cons,List.take_zero,List.drop_succ_cons,List.drop_zero] at ih ⊢;rw [ih];rfl
theorem rz_ints {H:z00} {D:Nat->Prop} {id:Nat} {out:List Nat} (hD:D id) (ho:H.objs id=some (.row 3 (nsAV out))) (hl:out.length<=1000000):RzV H D (.sl id 0 out.length 1) (slAV 1 encI (some (out.map λn:Nat=>(n:Int)))):=by
 have e2:slAV 1 encI (some (out.map λn:Nat=>(n:Int)))=.isl 1 (chunk 1 out.length (nsAV out)):=by rw [chunk_ints];rfl
 rw [e2];exact RzV.row hD ho (by simp [nsAV]) hl rfl (λi a a' h1 h2=>by rw [h1] at h2;cases h2;exact RzV.same _)
theorem zo4 {c:Cd} (hok:okC c=true) (sm:Small c) (a3:Bd2 c (z2j c)):(clsL c).length=(slL c.Sites).length:=by
 have fw:=few_V hok sm (N:=λ_=>false) (λr h=>by cases h) a3;obtain ⟨f,hf,hl⟩:=says_get fw.bits;have:zny (slL c.Sites).length (zdc (z6g c (z2j c) λ_=>false)) ((List.range (slL c.Sites).length).map (za9 f)):=⟨f,hf,hl,rfl⟩;unfold clsL;rw [<-clsN_eq this];simp
end
section
open Go.Abs
theorem ids_slAV {α:Type} {D:Nat->Prop} {sz:Nat} {enc:α->List AV} (he:∀ x,z7c D (enc x)) (o:Option (List α)):z1w D (slAV sz enc o):=by
 cases o with
 | none=>exact trivial
 | some l=>
  show z9x D (l.map enc)
  induction l with
  | nil=>exact trivial
  | cons a l ih=>exact ⟨he a,ih⟩
theorem sl_code {b:Bd} {fr to:Nat} (hlt:fr<to) (hle:to<(slL b.Code).length) (J:AV->Prop):z4n 8 (slAV 8 z0a.cells b.Code) (some (.int .i64 (fr:Nat))) (some (.int .i64 ((to+1:Nat):Int))) J=J (slAV 8 z0a.cells (some (secL b fr to))):=by
 obtain ⟨l,el⟩:∃ l,b.Code=some l:=by
  cases hc:b.Code with
  | none=>rw [hc] at hle;simp at hle
  | some l=>exact ⟨l,rfl⟩
 have e1:slAV 8 z0a.cells (some (secL b fr to))=.isl 8 (((l.map z0a.cells).take (to+1)).drop fr):=by unfold secL;rw [el];exact sl_slAV l fr (to+1)
 rw [e1,el];rw [el] at hle;simp only [zh4] at hle;simp only [z4n,slAV,bnd,Int.toNat_natCast,List.length_map];apply propext;constructor
 ·rintro ⟨-,-,-,-,hk⟩;exact hk
 ·intro hk;exact ⟨trivial,by omega,by omega,by omega,hk⟩
section
variable {G:z00} {id:Nat} {Z:List AV}
end
end
section
open Go.Abs
theorem ofV_FL (L:List In) (on:Int->Bool):∀ f,FL (ofV L on f):=by
 have st:∀ G:In->Vl,(∀ x,(slL (G x).Path.Fields).length<=3)->FL (z9r L on G):=λG hG k=>by
  unfold z9r;split
  ·simp [vWay]
  ·split
   ·exact hG _
   ·simp [vUnk]
  ·simp [vUnk]
 intro f
 induction f with
 | zero=>exact st _ (λx=>by simp [vUnk])
 | succ f ih=>exact st _ (λx=>ih.gives x)
end
section
open Go.Abs
theorem bsl_four (e:TypeId) (sz by_:Nat) (z c0 c1 c2 c3:List AV) (h:z00) (K:AV->z00->Prop):z10 true { e:=e,sz:=sz,by_:=by_ } z 4 [(0,.agg c0),(1,.agg c1),(2,.agg c2),(3,.agg c3)] h K=(4*sz<=16777216/\z.length=sz/\c0.length=sz/\c1.length=sz/\c2.length=sz/\c3.length=sz/\K (.isl sz [c0,c1,c2,c3]) h):=by
 simp [z10,zat,AV.fits,AV.cells];by_cases h0:c0.length=sz <;> by_cases h1:c1.length=sz <;> by_cases h2:c2.length=sz <;> by_cases h3:c3.length=sz <;> simp [h0,h1,h2,h3,List.replicate]
end
section
open Go.Abs
theorem ztf (n:Nat) (h:z00) (J:AV->Prop):z0t none (.iptr (encN n)) h J=J (.int .u64 (n:Nat)):=by rw [z1q];rfl
theorem ld_row (r:Option (List Nat)) (h:z00) (J:AV->Prop):z0t none (.iptr ((λo=>[slAV 1 encN o]) r)) h J=J (slAV 1 encN r):=by rw [z1q];rfl
theorem bslC (x:Cm) (G:z00) (J:AV->z00->Prop):z10 true { e:=42,sz:=12,by_:=128 } [AV.int .i64 0,.bool false,.int .i64 0,.nils,.int .i64 0,.bool false,.int .i64 0,.bool false,.int .i64 0,.nils,.int .i64 0,.int .i64 0] 1 [(0,.agg x.cells)] G J=J (.isl 12 [x.cells]) G:=by
 simp [z10,zat,z05.cells,AV.fits,AV.cells,List.replicate]
theorem blC1 (n m:Int) (J:AV->Prop):z4b [(0,1),(1,3),(4,1),(5,1),(6,1),(7,3),(10,1),(11,1)] [AV.int .i64 0,.bool false,.int .i64 0,.nils,.int .i64 0,.bool false,.int .i64 0,.bool false,.int .i64 0,.nils,.int .i64 0,.int .i64 0] [(0,.int .i64 1),(2,.int .i64 n),(7,.int .i64 m)] J=J (.agg (⟨1,noP,n,false,0,noP,0,m⟩:Cm).cells):=rfl
theorem blC4 (cl m:Int) (J:AV->Prop):z4b [(0,1),(1,3),(4,1),(5,1),(6,1),(7,3),(10,1),(11,1)] [AV.int .i64 0,.bool false,.int .i64 0,.nils,.int .i64 0,.bool false,.int .i64 0,.bool false,.int .i64 0,.nils,.int .i64 0,.int .i64 0] [(0,.int .i64 4),(6,.int .i64 cl),(7,.int .i64 m)] J=J (.agg (z2s cl m).cells):=rfl
section
variable {x:In} {K:Nat->Vl} {o:Option (List Int)} {ko:Option (List Vl)} {s m nS xid vid j:Nat} {mo:Int} {fld:Bool} {A5 A8 A37 A38 av:AV} {l:List Cm} {h0 G:z00} {Q:z1z->Fr->z00->Prop}
end
def zko (b:Bd) (L:List In):Nat->Vl:=λk=>ofV L (onB b) (slL b.Slots).length (k:Nat)
noncomputable def wantsC (c:Cd) (t:Nat) (b:Bd) (L:List In):List Cm:=z4c (z2j c (.s t)) (clsL c) (zko b L) L
theorem zqu (D:Nat->Prop) (o:Option (List Cm)):z1w D (slAV 12 z05.cells o):=ids_slAV (enc:=z05.cells) (λc=>⟨trivial,trivial,trivial,zbk _ _,trivial,trivial,trivial,trivial,trivial,zbk _ _,trivial,trivial,trivial⟩) o
end
section
open Go.Abs
theorem znf (a b:Cm) (h1:za2 a.Path) (h2:za2 a.Index) (h:z00):z01 Tryd.prog 43 [.agg a.cells,.agg b.cells] h (λv h2=>v=.bool (tgB a b)/\h2=h):=by
 obtain ⟨r,hr⟩:∃ r,r=tgB a b:=⟨_,rfl⟩;rw [<-hr];apply zrp;have eb:binA CmpK.bool .eql (.bool a.Const) (.bool b.Const)=some (.bool (a.Const == b.Const)):=rfl;rcases Decidable.em (¬ (a.Op=b.Op)) with c1 | c1
 ·have e1:(a.Op == b.Op)=false:=by simpa using c1
  (repeat simp -dsimp -implicitDefEqProofs (disch:=omega) only [↓rP,rA,↓reduceIte,reduceEqDiff,reduceAdd,reduceLeDiff,↓tyr,e1])
  rw [hr];simp [tgB,c1]
 replace c1:=Decidable.of_not_not c1;have e1:(a.Op == b.Op)=true:=by simpa using c1
 rcases Decidable.em (¬ (a.N=b.N)) with c2 | c2
 ·have e2:(a.N == b.N)=false:=by simpa using c2
  (repeat simp -dsimp -implicitDefEqProofs (disch:=omega) only [↓rP,rA,↓reduceIte,reduceEqDiff,reduceAdd,reduceLeDiff,↓tyr,e1,e2])
  rw [hr];simp [tgB,c2]
 replace c2:=Decidable.of_not_not c2;have e2:(a.N == b.N)=true:=by simpa using c2
 cases c3:(a.Const == b.Const) with
 | false=>
  (repeat simp -dsimp -implicitDefEqProofs (disch:=omega) only [↓rP,rA,↓reduceIte,reduceEqDiff,reduceAdd,reduceLeDiff,↓tyr,e1,e2,eb,c3])
  rw [hr];simp only [tgB,c3,Bool.false_and,Bool.and_false]
 | true=>
 rcases Decidable.em (¬ (a.At=b.At)) with c4 | c4
 ·have e4:(a.At == b.At)=false:=by simpa using c4
  (repeat simp -dsimp -implicitDefEqProofs (disch:=omega) only [↓rP,rA,↓reduceIte,reduceEqDiff,reduceAdd,reduceLeDiff,↓tyr,e1,e2,eb,c3,e4])
  rw [hr];simp [tgB,c4]
 replace c4:=Decidable.of_not_not c4;have e4:(a.At == b.At)=true:=by simpa using c4
 rcases Decidable.em (¬ (a.Class=b.Class)) with c5 | c5
 ·have e5:(a.Class == b.Class)=false:=by simpa using c5
  (repeat simp -dsimp -implicitDefEqProofs (disch:=omega) only [↓rP,rA,↓reduceIte,reduceEqDiff,reduceAdd,reduceLeDiff,↓tyr,e1,e2,eb,c3,e4,e5])
  rw [hr];simp [tgB,c5]
 replace c5:=Decidable.of_not_not c5;have e5:(a.Class == b.Class)=true:=by simpa using c5
 have hr2:r=(zs4 a.Path b.Path&&zs4 a.Index b.Index):=by rw [hr];simp [tgB,c1,c2,c3,c4,c5]
 (repeat simp -dsimp -implicitDefEqProofs (disch:=omega) only [↓rP,rA,↓reduceIte,reduceEqDiff,reduceAdd,reduceLeDiff,↓tyr,e1,e2,eb,c3,e4,e5])
 refine z01.go (zgp a.Path b.Path h1 _) ?_
 cases c6:zs4 a.Path b.Path with
 | false=>
  (repeat simp -dsimp -implicitDefEqProofs (disch:=omega) only [↓rP,rA,↓reduceIte,reduceEqDiff,reduceAdd,reduceLeDiff,↓tyr])
  rw [hr2];simp [c6]
 | true=>
  (repeat simp -dsimp -implicitDefEqProofs (disch:=omega) only [↓rP,rA,↓reduceIte,reduceEqDiff,reduceAdd,reduceLeDiff,↓tyr])
  refine z01.go (zgp a.Index b.Index h2 _) ?_
  (repeat simp -dsimp -implicitDefEqProofs (disch:=omega) only [↓rP,rA,↓reduceIte,reduceEqDiff,reduceAdd,reduceLeDiff,↓tyr])
  rw [hr2];simp [c6]
structure Rdb {α:Type} (sz:Nat) (enc:α->List AV) (h:z00) (av:AV) (l:List α):Prop where
 len:∀ J:AV->Prop,pLen .slice av J=J (.int .i64 l.length)
 el:∀ (k:Nat) (x:α),l[k]?=some x->∃ p,(∀ J:AV->Prop,z0o (.slice sz) av (.int .i64 (k:Int)) J=J p)/\(∀ J:AV->Prop,z0t (some sz) p h J=J (.agg (enc x)))
def Rdk {α:Type} (sz:Nat) (enc:α->List AV) (h:z00) (av:AV) (l:List α):Prop:=∀ h2,Keeps h h2 (λ_=>False)->Rdb sz enc h2 av l
theorem zcb (x:Cm):x.cells.length=12:=rfl
theorem RwAt.rd {T:TypeId} {h:z00} {av:AV} {l:List Cm} {lo:Nat} (g:RwAt T 12 z05.cells lo h av l):Rdk 12 z05.cells h av l:=λh2 kp=>by
 have g2:=g.keep kp (λ_ _ e=>e);refine ⟨g2.len,λk x hx=>?_⟩;obtain ⟨id,h1,ho,_,_⟩:=g2.ix zcb hx;exact ⟨_,h1,λJ=>ld_el ho zcb hx J⟩
theorem rd_slAV (o:Option (List Cm)) (h:z00):Rdk 12 z05.cells h (slAV 12 z05.cells o) (slL o):=λh2 kp=>
 ⟨λJ=>by (repeat simp -dsimp -implicitDefEqProofs (disch:=omega) only [↓rP,rA,↓reduceIte,reduceEqDiff,reduceAdd,reduceLeDiff,↓tyr]),λk x hx=>⟨_,λJ=>z06 hx _ J,λJ=>zqc x h2 J⟩⟩
theorem zqv {av:AV} {l:List Cm} (hl:l.length<=1000000) (p:Cm->Bool) (f:AV) (h:z00) (g:Rdk 12 z05.cells h av l)
  (hf:∀ x∈l,∀ R:AV->z00->Prop,R (.bool (p x)) h->z7d Tryd.prog f [.agg x.cells] h R) :
  z01 Tryd.prog 60 [av,f] h (λv h2=>v=.int .i64 (posI p l)/\h2=h):=by
 have g0:=g h (.refl _ _);apply z5u
 (repeat simp -dsimp -implicitDefEqProofs (disch:=omega) only [↓rP,rA,↓reduceIte,reduceEqDiff,reduceAdd,reduceLeDiff,↓tyr,g0.len])
 refine zmq z0d (by kernel_rfl) l.length (λj=>frOf [(0,av),(1,f),(7,.int .i64 l.length),(8,.int .i64 j)]) (λk hh=>(∀ j x,j<k->l[j]?=some x->p x=false)/\hh=h) ⟨λj x hj=>by omega,rfl⟩ ?_;rintro k hh hk ⟨hfa,rfl⟩;apply z4u
 (repeat simp -dsimp -implicitDefEqProofs (disch:=omega) only [↓rP,rA,↓reduceIte,reduceEqDiff,reduceAdd,reduceLeDiff,↓tyr])
 refine z09 (λhkl=>?_) (λhkl=>?_)
 ·obtain ⟨x,hx⟩:∃ x,l[k]?=some x:=⟨_,List.getElem?_eq_getElem (by omega)⟩;obtain ⟨q,e1,e2⟩:=g0.el k x hx
  (repeat simp -dsimp -implicitDefEqProofs (disch:=omega) only [↓rP,rA,↓reduceIte,reduceEqDiff,reduceAdd,reduceLeDiff,↓tyr,↓e1,↓e2])
  refine hf x (List.mem_of_getElem? hx) _ ?_
  cases hp:p x with
  | true=>
   (repeat simp -dsimp -implicitDefEqProofs (disch:=omega) only [↓rP,rA,↓reduceIte,reduceEqDiff,reduceAdd,reduceLeDiff,↓tyr])
   rw [zd6 hx hp hfa]
  | false=>
   (repeat simp -dsimp -implicitDefEqProofs (disch:=omega) only [↓rP,rA,↓reduceIte,reduceEqDiff,reduceAdd,reduceLeDiff,↓tyr,wkP k (by omega)])
   refine forN (by omega) ⟨λj y hj hy=>?_,rfl⟩;by_cases e:j=k
   ·subst e;rw [hx] at hy;cases hy;exact hp
   ·exact hfa j y (by omega) hy
 ·have hke:k=l.length:=by omega
  subst hke
  (repeat simp -dsimp -implicitDefEqProofs (disch:=omega) only [↓rP,rA,↓reduceIte,reduceEqDiff,reduceAdd,reduceLeDiff,↓tyr])
  rw [zd7 hfa]
theorem zng (c:Cm):∀ l:List Cm,(posI (λo=>tgB o c) l=-1/\putL c l=l++[c])\/∃ (k:Nat) (x:Cm),posI (λo=>tgB o c) l=k/\l[k]?=some x/\putL c l=l.set k { x with Mode:=max x.Mode c.Mode }
 | []=>Or.inl ⟨rfl,rfl⟩
 | o::l=>by
  by_cases h:tgB o c=true
  ·exact Or.inr ⟨0,o,by simp [posI,h],rfl,by simp [putL,h]⟩
  ·rcases zng c l with ⟨h1,h2⟩ | ⟨k,x,h1,h2,h3⟩
   ·exact Or.inl ⟨by simp [posI,h,h1],by simp [putL,h,h2]⟩
   ·refine Or.inr ⟨k+1,x,?_,by simpa using h2,by simp [putL,h,h3]⟩;simp only [posI,h,h1];rw [if_neg (by simp),if_neg (by omega)];omega
theorem zjl {av:AV} {l:List Cm} {lo:Nat} {h:z00} (g:RwAt 42 12 z05.cells lo h av l) (hlo:lo<=h.next) (hl:l.length<=1000) (c:Cm) (hp:∀ x∈l,za2 x.Path/\za2 x.Index) :
  z01 Tryd.prog 36 [av,.agg c.cells] h (λv h2=>RwAt 42 12 z05.cells lo h2 v (putL c l)/\Keeps h h2 (λi=>lo<=i)):=by
 apply ztp
 (repeat simp -dsimp -implicitDefEqProofs (disch:=omega) only [↓rP,rA,↓reduceIte,reduceEqDiff,reduceAdd,reduceLeDiff,↓tyr])
 refine (zqv (by omega) (λo=>tgB o c) _ h g.rd λx hx R hR=>?_).mono ?_
 ·simp only [z7d,List.nil_append,List.append_nil,List.singleton_append,List.cons_append];apply zpe
  (repeat simp -dsimp -implicitDefEqProofs (disch:=omega) only [↓rP,rA,↓reduceIte,reduceEqDiff,reduceAdd,reduceLeDiff,↓tyr,↓zqc])
  refine z01.go (znf x c (hp x hx).1 (hp x hx).2 _) ?_
  (repeat simp -dsimp -implicitDefEqProofs (disch:=omega) only [↓rP,rA,↓reduceIte,reduceEqDiff,reduceAdd,reduceLeDiff,↓tyr])
  exact hR
 ·rintro _ _ ⟨rfl,rfl⟩;rcases zng c l with ⟨e,ep⟩ | ⟨k,x,e,hx,ep⟩
  ·rw [e,ep]
   (repeat simp -dsimp -implicitDefEqProofs (disch:=omega) only [↓rP,rA,↓reduceIte,reduceEqDiff,reduceAdd,reduceLeDiff,↓tyr,↓zqc,bslC])
   exact g.app zcb hlo (by omega) (by omega) c _ λav2 h2 g2 k2=>⟨g2,k2⟩
  ·rw [e,ep];obtain ⟨id,e1,ho,b1,b2⟩:=g.ix zcb hx;have ld:∀ J:AV->Prop,z0t none (.ptr id (k*12+11)) _ J=J (.int .i64 x.Mode):=λJ=>ld_cell ho zcb hx (by omega) rfl J;have st:∀ J:z00->Prop,z14 1 (.ptr id (k*12+11)) (.int .i64 (max x.Mode c.Mode)) _ J=J _:=λJ=>st_cell (y:={ x with Mode:=max x.Mode c.Mode }) ho zcb hx (by omega) rfl rfl J;have e0:decide (0<=(k:Int))=true:=decide_eq_true (by omega)
   (repeat simp -dsimp -implicitDefEqProofs (disch:=omega) only [↓rP,rA,↓reduceIte,reduceEqDiff,reduceAdd,reduceLeDiff,↓tyr,e0,↓e1,↓ld,zdo,↓st])
   have hne:l≠[]:=by rintro rfl;simp at hx
   rcases g with ⟨q,_⟩ | ⟨id2,_,rfl,ho2,c1,c2⟩
   ·exact absurd q hne
   ·have:id2=id:=by
     have:=e1 (λa=>a=.ptr id (k*12));have kl:=(List.getElem?_eq_some_iff.1 hx).1;simp [z0o,kl] at this;exact this
    subst this;exact ⟨Or.inr ⟨id2,by simpa using hne,by simp,z1d _ _ _,c1,c2⟩,(Keeps.put _ _ _).mono λi hi=>hi▸c1⟩
end
section
open Go.Abs
theorem index_int (l:List Int) (hl:l.length<=1000) (v:Int) (h:z00):z01 Tryd.prog 78 [slAV 1 encI (some l),.int .i64 v] h (λr h2=>r=.int .i64 (posI (λx=>decide (v=x)) l)/\h2=h):=by
 have lL:∀ (J:AV->Prop),pLen .slice (slAV 1 encI (some l)) J=J (.int .i64 l.length):=λJ=>by simp
 apply zc1
 (repeat simp -dsimp -implicitDefEqProofs (disch:=omega) only [↓rP,rA,↓reduceIte,reduceEqDiff,reduceAdd,reduceLeDiff,↓tyr,↓lL])
 refine zmq z0d (by kernel_rfl) l.length (λj=>frOf [(0,slAV 1 encI (some l)),(1,.int .i64 v),(7,.int .i64 l.length),(8,.int .i64 j)]) (λk hh=>(∀ j x,j<k->l[j]?=some x->decide (v=x)=false)/\hh=h) ⟨λj x hj=>by omega,rfl⟩ ?_;rintro k hh hk ⟨hfa,rfl⟩;apply z9q
 (repeat simp -dsimp -implicitDefEqProofs (disch:=omega) only [↓rP,rA,↓reduceIte,reduceEqDiff,reduceAdd,reduceLeDiff,↓tyr])
 refine z09 (λhkl=>?_) (λhkl=>?_)
 ·obtain ⟨x,hx⟩:∃ x,(slL (some l))[k]?=some x:=⟨_,List.getElem?_eq_getElem (by simpa using hkl)⟩
  (repeat simp -dsimp -implicitDefEqProofs (disch:=omega) only [↓rP,rA,↓reduceIte,reduceEqDiff,reduceAdd,reduceLeDiff,↓tyr,z06 hx,↓zte])
  refine z0p (λhe=>?_) (λhe=>?_)
  ·(repeat simp -dsimp -implicitDefEqProofs (disch:=omega) only [↓rP,rA,↓reduceIte,reduceEqDiff,reduceAdd,reduceLeDiff,↓tyr])
   rw [zd6 (p:=λx=>decide (v=x)) (l:=l) hx (by simpa using he) hfa]
  ·(repeat simp -dsimp -implicitDefEqProofs (disch:=omega) only [↓rP,rA,↓reduceIte,reduceEqDiff,reduceAdd,reduceLeDiff,↓tyr,wkP k (by omega)])
   refine forN (by omega) ⟨λj y hj hy=>?_,rfl⟩;by_cases e:j=k
   ·subst e;have:some x=some y:=hx.symm.trans hy;cases this;exact decide_eq_false he
   ·exact hfa j y (by omega) hy
 ·have hke:k=l.length:=by omega
  subst hke
  (repeat simp -dsimp -implicitDefEqProofs (disch:=omega) only [↓rP,rA,↓reduceIte,reduceEqDiff,reduceAdd,reduceLeDiff,↓tyr])
  rw [zd7 hfa]
theorem has_int (l:List Int) (hl:l.length<=1000) (v:Int) (h:z00):z01 Tryd.prog 62 [slAV 1 encI (some l),.int .i64 v] h (λr h2=>r=.bool (l.any λx=>decide (v=x))/\h2=h):=by
 apply z9o;refine z01.go (index_int l hl v h) ?_;have e:=zgv (p:=λx=>decide (v=x)) (l:=l);have e3:decide (0<=posI (λx=>decide (v=x)) l)=l.any λx=>decide (v=x):=by
  cases q:l.any λx=>decide (v=x) with
  | false=>exact decide_eq_false (by have:=e.2 q;omega)
  | true=>exact decide_eq_true (by have:¬ posI (λx=>decide (v=x)) l<0:=(λz=>by rw [e.1 z] at q;cases q);omega)
 (repeat simp -dsimp -implicitDefEqProofs (disch:=omega) only [↓rP,rA,↓reduceIte,reduceEqDiff,reduceAdd,reduceLeDiff,↓tyr,e3])
def cntB (p:Cm->Bool) (l:List Cm) (j:Nat):Nat:=(l.take j).countP p
theorem cntB_succ {p:Cm->Bool} {l:List Cm} {j:Nat} {x:Cm} (hx:l[j]?=some x):cntB p l (j+1)=cntB p l j+(if p x then 1 else 0):=by
 unfold cntB;rw [List.take_add_one,hx];simp [List.countP_append,List.countP_cons]
theorem zhh {av:AV} {l:List Cm} (hl:l.length<=1000) (ops:List Int) (ho:ops.length<=1000) (h:z00) (g:Rdk 12 z05.cells h av l) :
  z01 Tryd.prog 37 [av,slAV 1 encI (some ops)] h (λv h2=>v=.int .i64 (l.countP λc=>ops.any λx=>decide (c.Op=x):Nat)/\h2=h):=by
 refine z01.forget (by simp [z1w]) ?_;apply zpd
 (repeat simp -dsimp -implicitDefEqProofs (disch:=omega) only [↓rP,rA,↓reduceIte,reduceEqDiff,reduceAdd,reduceLeDiff,↓tyr,(g h (.refl _ _)).len])
 refine WP_for' z0d (by kernel_rfl) l.length (λj (n:Nat)=>frOf [(1,slAV 1 encI (some ops)),(5,.int .i64 n),(8,av),(9,.int .i64 l.length),(10,.int .i64 j)]) (λk n hh=>n=cntB (λc=>ops.any λx=>decide (c.Op=x)) l k/\Keeps h hh (λ_=>False)) 0 ⟨rfl,.refl _ _⟩ ?_;rintro k n hh hk ⟨hn,kp⟩;apply zj7
 (repeat simp -dsimp -implicitDefEqProofs (disch:=omega) only [↓rP,rA,↓reduceIte,reduceEqDiff,reduceAdd,reduceLeDiff,↓tyr])
 have hc:n<=k:=by rw [hn];unfold cntB;exact Nat.le_trans List.countP_le_length (by simp;omega)
 refine z09 (λhkl=>?_) (λhkl=>?_)
 ·obtain ⟨x,hx⟩:∃ x,l[k]?=some x:=⟨_,List.getElem?_eq_getElem (by omega)⟩;obtain ⟨q,e1,e2⟩:=(g hh kp).el k x hx;have kp2:Keeps h (hh.push (.row 42 [AV.int .i64 0,.bool false,.int .i64 0,.nils,.int .i64 0,.bool false,.int .i64 0,.bool false,.int .i64 0,.nils,.int .i64 0,.int .i64 0])) (λ_=>False):=kp.z5e _;obtain ⟨q2,e3,e4⟩:=(g _ kp2).el k x hx
  (repeat simp -dsimp -implicitDefEqProofs (disch:=omega) only [↓rP,rA,↓reduceIte,reduceEqDiff,reduceAdd,reduceLeDiff,↓tyr,↓e1,↓e2,↓e3,↓e4])
  refine z01.go (has_int ops ho x.Op _) ?_;have es:=cntB_succ (p:=λc=>ops.any λx=>decide (c.Op=x)) hx
  cases hb:ops.any λy=>decide (x.Op=y) with
  | true=>
   simp only [hb,if_true] at es
   (repeat simp -dsimp -implicitDefEqProofs (disch:=omega) only [↓rP,rA,↓reduceIte,reduceEqDiff,reduceAdd,reduceLeDiff,↓tyr,wkP k (by omega),wkP n (by omega)])
   exact forN' (n+1) (by omega) ⟨by omega,kp.z5e _⟩
  | false=>
   simp only [hb,Bool.false_eq_true,if_false] at es
   (repeat simp -dsimp -implicitDefEqProofs (disch:=omega) only [↓rP,rA,↓reduceIte,reduceEqDiff,reduceAdd,reduceLeDiff,↓tyr,wkP k (by omega)])
   exact forN' n (by omega) ⟨by omega,kp.z5e _⟩
 ·have hke:k=l.length:=by omega
  subst hke
  (repeat simp -dsimp -implicitDefEqProofs (disch:=omega) only [↓rP,rA,↓reduceIte,reduceEqDiff,reduceAdd,reduceLeDiff,↓tyr])
  refine ⟨?_,kp⟩;rw [hn];unfold cntB;rw [List.take_length]
theorem put_len (c:Cm):∀ l,(putL c l).length<=l.length+1
 | []=>Nat.le_refl _
 | o::l=>by
  unfold putL;split
  ·simp
  ·simpa using put_len c l
theorem zjt:∀ ws l,(z3d l ws).length<=l.length+ws.length
 | [],l=>Nat.le_refl _
 | c::ws,l=>by
  have:=zjt ws (putL c l);have:=put_len c l
  show (z3d (putL c l) ws).length<=_
  simp only [List.length_cons];omega
def PtsS (l:List Cm):Prop:=∀ x∈l,za2 x.Path/\za2 x.Index
theorem PtsS.put {c:Cm} (hc:za2 c.Path/\za2 c.Index):∀ {l},PtsS l->PtsS (putL c l)
 | [],_=>λx hx=>by rw [List.mem_singleton.1 hx];exact hc
 | o::l,h=>by
  unfold putL;split
  ·intro x hx;rcases List.mem_cons.1 hx with rfl | hx
   ·exact h o List.mem_cons_self
   ·exact h x (List.mem_cons_of_mem _ hx)
  ·intro x hx;rcases List.mem_cons.1 hx with rfl | hx
   ·exact h _ List.mem_cons_self
   ·exact PtsS.put hc (λy hy=>h y (List.mem_cons_of_mem _ hy)) x hx
theorem PtsS.all:∀ {ws l},PtsS l->PtsS ws->PtsS (z3d l ws)
 | [],_,h,_=>h
 | c::ws,l,h,k=>PtsS.all (ws:=ws) (l:=putL c l) (PtsS.put (k c List.mem_cons_self) h) (λx hx=>k x (List.mem_cons_of_mem _ hx))
theorem PtsS.coarse {l:List Cm} (h:PtsS l):PtsS (l.map z4m):=λx hx=>by
 obtain ⟨y,hy,rfl⟩:=List.mem_map.1 hx;unfold z4m;split
 ·exact ⟨by simp [za2,z2s,noP],by simp [za2,z2s,noP]⟩
 ·exact h y hy
theorem all_snoc (l ws:List Cm) (c:Cm):z3d l (ws++[c])=putL c (z3d l ws):=by simp [z3d,List.foldl_append]
theorem stC (x y:Cm) (hh:z00) (J:z00->Prop):z14 12 (.ptr hh.next 0) (.agg y.cells) (hh.push (.row 42 x.cells)) J=J (hh.push (.row 42 y.cells)):=by
 have ho:=z19 hh (.row 42 x.cells);simp only [z14,ho];rw [eq_true (zcb y),eq_true (show 0+12<=x.cells.length by rw [zcb];omega),true_and,true_and,zph]
 rfl
theorem cm_allP (x:Cm) (hh:z00) (J:AV->Prop):z0t (some 12) (.ptr hh.next 0) (hh.push (.row 42 x.cells)) J=J (.agg x.cells):=by rw [z0b (z19 hh _)];exact z05.call x J
theorem zqd {av:AV} {l:List Cm} (hl:l.length<=900) (h:z00) (g:Rdk 12 z05.cells h av l) (hp:PtsS l) :
  z01 Tryd.prog 38 [av] h (λv h2=>RwAt 42 12 z05.cells h.next h2 v (zft l)/\Keeps h h2 (λ_=>False)):=by
 apply zl3
 (repeat simp -dsimp -implicitDefEqProofs (disch:=omega) only [↓rP,rA,↓reduceIte,reduceEqDiff,reduceAdd,reduceLeDiff,↓tyr,(g h (.refl _ _)).len])
 refine WP_for' z0d (by kernel_rfl) l.length (λj (a:AV)=>frOf [(3,a),(6,av),(7,.int .i64 l.length),(8,.int .i64 j)]) (λk a hh=>RwAt 42 12 z05.cells h.next hh a (z3d [] ((l.take k).map z4m))/\Keeps h hh (λ_=>False)) .nils ⟨Or.inl ⟨by simp [z3d],rfl⟩,.refl _ _⟩ ?_;rintro k a hh hk ⟨ga,kp⟩;have hlen:(z3d [] ((l.take k).map z4m)).length<=900:=Nat.le_trans (zjt _ _) (by simp;omega);have hpt:PtsS (z3d [] ((l.take k).map z4m)):=PtsS.all (λx hx=>by cases hx) (PtsS.coarse λx hx=>hp x (List.mem_of_mem_take hx));apply zgt
 (repeat simp -dsimp -implicitDefEqProofs (disch:=omega) only [↓rP,rA,↓reduceIte,reduceEqDiff,reduceAdd,reduceLeDiff,↓tyr])
 refine z09 (λhkl=>?_) (λhkl=>?_)
 ·obtain ⟨x,hx⟩:∃ x,l[k]?=some x:=⟨_,List.getElem?_eq_getElem (by omega)⟩;obtain ⟨q,e1,e2⟩:=(g hh kp).el k x hx;obtain ⟨H0,hH0⟩:∃ H,H=hh.push (.row 42 [AV.int .i64 0,.bool false,.int .i64 0,.nils,.int .i64 0,.bool false,.int .i64 0,.bool false,.int .i64 0,.nils,.int .i64 0,.int .i64 0]):=⟨_,rfl⟩;have kp2:Keeps h H0 (λ_=>False):=by rw [hH0];exact kp.z5e _
  obtain ⟨q2,e3,e4⟩:=(g _ kp2).el k x hx;rw [hH0] at e4;have nx:∀ (a2:AV) (h2:z00) (H:z00),Keeps hh H (λ_=>False)->RwAt 42 12 z05.cells h.next h2 a2 (putL (z4m x) (z3d [] ((l.take k).map z4m)))/\Keeps H h2 (λi=>h.next<=i)->RwAt 42 12 z05.cells h.next h2 a2 (z3d [] ((l.take (k+1)).map z4m))/\Keeps h h2 (λ_=>False):=λa2 h2 H kH ⟨r,k2⟩=>by
   refine ⟨?_,(kp.go kH).trans k2 (λi hi e=>by omega)⟩;rw [List.take_add_one,hx,List.map_append]
   show RwAt _ _ _ _ _ _ (z3d [] ((l.take k).map z4m++[z4m x]))
   rw [all_snoc];exact r
  cases hcb:zer x with
  | true=>
   have ec:z4m x=z2s x.Class x.Mode:=by unfold z4m;rw [if_pos hcb]
   rw [ec] at nx;have hop:x.Op=2\/x.Op=3:=by simpa [zer] using hcb
   rcases hop with q2 | q2
   ·(repeat simp -dsimp -implicitDefEqProofs (disch:=omega) only [↓rP,rA,↓reduceIte,reduceEqDiff,reduceAdd,reduceLeDiff,↓tyr,↓e1,↓e2,q2,↓blC4,↓stC,↓cm_allP])
    refine (zjl (lo:=h.next) (ga.push _) (by have:=kp.next;simp only [z00.z2z];omega) (by omega) _ hpt).mono ?_;rintro v h2 r
    (repeat simp -dsimp -implicitDefEqProofs (disch:=omega) only [↓rP,rA,↓reduceIte,reduceEqDiff,reduceAdd,reduceLeDiff,↓tyr,wkP k (by omega)])
    exact forN' v (by omega) (nx v h2 _ (Keeps.one _ _) r)
   ·(repeat simp -dsimp -implicitDefEqProofs (disch:=omega) only [↓rP,rA,↓reduceIte,reduceEqDiff,reduceAdd,reduceLeDiff,↓tyr,↓e1,↓e2,q2,↓blC4,↓stC,↓cm_allP])
    refine (zjl (lo:=h.next) (ga.push _) (by have:=kp.next;simp only [z00.z2z];omega) (by omega) _ hpt).mono ?_;rintro v h2 r
    (repeat simp -dsimp -implicitDefEqProofs (disch:=omega) only [↓rP,rA,↓reduceIte,reduceEqDiff,reduceAdd,reduceLeDiff,↓tyr,wkP k (by omega)])
    exact forN' v (by omega) (nx v h2 _ (Keeps.one _ _) r)
  | false=>
   have ec:z4m x=x:=by unfold z4m;rw [if_neg (by simp [hcb])]
   rw [ec] at nx;have n2:(x.Op == 2)=false:=by rw [beqI];exact decide_eq_false (λe=>by simp [zer,e] at hcb)
   have n3:(x.Op == 3)=false:=by rw [beqI];exact decide_eq_false (λe=>by simp [zer,e] at hcb)
   (repeat simp -dsimp -implicitDefEqProofs (disch:=omega) only [↓rP,rA,↓reduceIte,reduceEqDiff,reduceAdd,reduceLeDiff,↓tyr,↓e1,↓e2,n2,n3])
   refine (zjl (lo:=h.next) (ga.push _) (by have:=kp.next;simp only [z00.z2z];omega) (by omega) _ hpt).mono ?_;rintro v h2 r
   (repeat simp -dsimp -implicitDefEqProofs (disch:=omega) only [↓rP,rA,↓reduceIte,reduceEqDiff,reduceAdd,reduceLeDiff,↓tyr,wkP k (by omega)])
   exact forN' v (by omega) (nx v h2 _ (Keeps.one _ _) r)
 ·have hke:k=l.length:=by omega
  subst hke
  (repeat simp -dsimp -implicitDefEqProofs (disch:=omega) only [↓rP,rA,↓reduceIte,reduceEqDiff,reduceAdd,reduceLeDiff,↓tyr])
  rw [List.take_length] at ga;exact ⟨ga,kp⟩
theorem blC5 (m:Int) (J:AV->Prop):z4b [(0,1),(1,3),(4,1),(5,1),(6,1),(7,3),(10,1),(11,1)] [AV.int .i64 0,.bool false,.int .i64 0,.nils,.int .i64 0,.bool false,.int .i64 0,.bool false,.int .i64 0,.nils,.int .i64 0,.int .i64 0] [(0,.int .i64 5),(7,.int .i64 m)] J=J (.agg (⟨5,noP,0,false,0,noP,0,m⟩:Cm).cells):=rfl
theorem pall_does {av:AV} {l:List Cm} (hl:l.length<=1000) (h:z00) (g:Rdk 12 z05.cells h av l):z01 Tryd.prog 39 [av] h (λv h2=>v=slAV 12 z05.cells (some [allC l])/\h2=h):=by
 refine z01.forget (zqu _ _) ?_;apply zto
 (repeat simp -dsimp -implicitDefEqProofs (disch:=omega) only [↓rP,rA,↓reduceIte,reduceEqDiff,reduceAdd,reduceLeDiff,↓tyr,(g h (.refl _ _)).len])
 refine WP_for' z0d (by kernel_rfl) l.length (λj (n:Int)=>frOf [(3,.int .i64 n),(6,av),(7,.int .i64 l.length),(8,.int .i64 j)]) (λk n hh=>n=maxM (l.take k) 3/\Keeps h hh (λ_=>False)) 3 ⟨rfl,.refl _ _⟩ ?_;rintro k n hh hk ⟨hn,kp⟩;apply zmf
 (repeat simp -dsimp -implicitDefEqProofs (disch:=omega) only [↓rP,rA,↓reduceIte,reduceEqDiff,reduceAdd,reduceLeDiff,↓tyr])
 refine z09 (λhkl=>?_) (λhkl=>?_)
 ·obtain ⟨x,hx⟩:∃ x,l[k]?=some x:=⟨_,List.getElem?_eq_getElem (by omega)⟩;obtain ⟨q,e1,e2⟩:=(g hh kp).el k x hx;have kp2:Keeps h (hh.push (.row 42 [AV.int .i64 0,.bool false,.int .i64 0,.nils,.int .i64 0,.bool false,.int .i64 0,.bool false,.int .i64 0,.nils,.int .i64 0,.int .i64 0])) (λ_=>False):=kp.z5e _;obtain ⟨q2,e3,e4⟩:=(g _ kp2).el k x hx
  (repeat simp -dsimp -implicitDefEqProofs (disch:=omega) only [↓rP,rA,↓reduceIte,reduceEqDiff,reduceAdd,reduceLeDiff,↓tyr,↓e1,↓e2,↓e3,↓e4,zdo,wkP k (by omega)])
  refine forN' (max n x.Mode) (by omega) ⟨?_,kp.z5e _⟩;rw [List.take_add_one,hx,hn];simp [maxM,List.foldl_append]
 ·have hke:k=l.length:=by omega
  subst hke
  (repeat simp -dsimp -implicitDefEqProofs (disch:=omega) only [↓rP,rQ,rO,rL,↓reduceIte,reduceEqDiff,reduceAdd,reduceLeDiff,↓tyr,blC5,↓bslC])
  refine ⟨?_,kp⟩;rw [hn,List.take_length]
  rfl
end
section
open Go.Abs
end
section
open Go.Abs
theorem vl_all (u:Vl) (h:z00) (J:AV->Prop):z0t (some 4) (.iptr u.cells) h J=J (.agg u.cells):=by rw [z1q];exact z0n.call u J
theorem cOf_v (n:Nat) (hn:n<4294967296) (h0:n≠0) (o:Option (List Int)) (hl:(slL o).length<=1000) (h:z00):z01 Tryd.prog 63 [.int .u64 (n:Nat),slAV 1 encI o] h (λv h2=>v=.int .i64 ((slL o).getD (z1b n) 0)/\h2=h):=by
 apply zso
 (repeat (first | simp -dsimp -implicitDefEqProofs (disch:=omega) only [↓rP,rA,↓reduceIte,reduceEqDiff,reduceAdd,reduceLeDiff,↓tyr] | refine Cut.go ?_))
 refine z01.go (tz_does n (by omega) _) ?_
 (repeat (first | simp -dsimp -implicitDefEqProofs (disch:=omega) only [↓rP,rA,↓reduceIte,reduceEqDiff,reduceAdd,reduceLeDiff,↓tyr] | refine Cut.go ?_))
 refine z09 (λhlt=>?_) (λhlt=>?_)
 ·obtain ⟨x,hx⟩:∃ x,(slL o)[z1b n]?=some x:=⟨_,List.getElem?_eq_getElem (by omega)⟩
  (repeat (first | simp -dsimp -implicitDefEqProofs (disch:=omega) only [↓rP,rA,↓reduceIte,reduceEqDiff,reduceAdd,reduceLeDiff,↓tyr,z06 hx,↓zte] | refine Cut.go ?_))
  rw [List.getD_eq_getElem?_getD,hx];rfl
 ·(repeat (first | simp -dsimp -implicitDefEqProofs (disch:=omega) only [↓rP,rA,↓reduceIte,reduceEqDiff,reduceAdd,reduceLeDiff,↓tyr] | refine Cut.go ?_))
  rw [List.getD_eq_getElem?_getD,List.getElem?_eq_none (by omega)];rfl
theorem first_site {n:Nat} (hn:n<4294967296) (h0:n≠0):zlh n=z1b n/\z1b n<32:=by
 obtain ⟨h1,h2,h3⟩:=z8v h0 (show n<18446744073709551616 by omega);have h4:z1b n<32:=by
  rcases Nat.lt_or_ge (z1b n) 32 with q | q
  ·exact q
  ·have:=Nat.testBit_lt_two_pow (x:=n) (i:=z1b n) (Nat.lt_of_lt_of_le hn (by exact Nat.pow_le_pow_right (by decide) q:2 ^ 32<=2 ^ z1b n));rw [this] at h2;cases h2
 exact ⟨siteL_here h4 h3 h2,h4⟩
theorem coSt {G:z00} {id j:Nat} {c c2:Cm} (ho:G.objs id=some (.row 42 c.cells)) {v:AV} (hj:j<12) (hv:v.zbn=true) (e:c2.cells=c.cells.set j v) (J:z00->Prop):z14 1 (.ptr id j) v G J=J (G.put id (.row 42 c2.cells)):=by
 rw [e];exact z2w ho hv (by rw [zcb];exact hj) J
theorem ziv {G:z00} {id:Nat} {c c2:Cm} (ho:G.objs id=some (.row 42 c.cells)) (J:z00->Prop):z14 12 (.ptr id 0) (.agg c2.cells) G J=J (G.put id (.row 42 c2.cells)):=by
 simp only [z14,ho];rw [eq_true (zcb c2),eq_true (show 0+12<=c.cells.length by rw [zcb];omega),true_and,true_and]
 rfl
theorem coLd {G:z00} {id:Nat} {c:Cm} (ho:G.objs id=some (.row 42 c.cells)) (J:AV->Prop):z0t (some 12) (.ptr id 0) G J=J (.agg c.cells):=by rw [z0b ho];exact z05.call c J
def z8a:Cm:=⟨0,noP,0,false,0,noP,0,0⟩
theorem blC0 (J:AV->Prop):z4b [(0,1),(1,3),(4,1),(5,1),(6,1),(7,3),(10,1),(11,1)] [AV.int .i64 0,.bool false,.int .i64 0,.nils,.int .i64 0,.bool false,.int .i64 0,.bool false,.int .i64 0,.nils,.int .i64 0,.int .i64 0] [] J=J (.agg z8a.cells):=rfl
def zrl (K:Nat->Vl) (u:Vl) (x:In) (cl mo:Int):Cm:=
 if u.Kind≠2 then z2s cl mo else if x.Op=3\/x.Op=6 then ⟨2,u.Path,x.N,false,0,noP,cl,mo⟩ else zk4 K u.Path cl mo (slL x.Index)
section
variable {p:z02} {n o r vi nS:Nat} {u:Vl} {x:In} {mo:Int} {K:Nat->Vl} {h G:z00} {R:AV->z00->Prop}
theorem part_p3 (hlt:n<4294967296) (h0:n≠0) (hcl:(slL p.classes).length<=1000) (hk:∀ i,i<nS->(slL p.known)[i]?=some (K i)) (hix:¬ (x.Op=3\/x.Op=6)->∀ y∈slL x.Index,y.Op=2->y.N<nS)
  (oO:G.objs o=some (.row 42 (⟨1,noP,x.N,false,0,noP,0,mo⟩:Cm).cells)) (oR:G.objs r=some (.row 42 z8a.cells)) (oV:G.objs vi=some (.row 122 u.cells)) (hne:o≠r/\o≠vi/\r≠vi) (hl:o<G.next/\r<G.next/\vi<G.next) (ho:h.next<=o/\h.next<=r) (kp:Keeps h G (λ_=>False)) (v54:AV) (hv:∀ H J,z0t none v54 H J=J (slAV 1 encI p.classes))
  (hR:∀ h2,Keeps h h2 (λ_=>False)->R (.tup [.agg (zrl K u x ((slL p.classes).getD (z1b n) 0) mo).cells,.bool true]) h2) :
  z4o R (.iptr p.cells) (.iptr x.cells) (.ptr o 0) (.ptr r 0) (.int .u64 (n:Nat)) (.ptr vi 0) G v54:=by
 unfold z4o;obtain ⟨cl,ecl⟩:∃ cl,(slL p.classes).getD (z1b n) 0=cl:=⟨_,rfl⟩;rw [ecl] at hR;obtain ⟨G3,hG3⟩:∃ G3,G3=G.push (.row 42 (z2s cl mo).cells):=⟨_,rfl⟩;have kG:Keeps G G3 (λ_=>False):=by rw [hG3];exact Keeps.one _ _
 have k3:=kp.go kG;have oO3:G3.objs o=some (.row 42 (⟨1,noP,x.N,false,0,noP,0,mo⟩:Cm).cells):=by rw [hG3,z16 hl.1];exact oO
 have oR3:G3.objs r=some (.row 42 z8a.cells):=by rw [hG3,z16 hl.2.1];exact oR
 have oV3:G3.objs vi=some (.row 122 u.cells):=by rw [hG3,z16 hl.2.2];exact oV
 have oW3:G3.objs G.next=some (.row 42 (z2s cl mo).cells):=by rw [hG3];exact z19 _ _
 have lO:∀ z k off J,z0t k (.ptr o off) (G.push z) J=z03 k (⟨1,noP,x.N,false,0,noP,0,mo⟩:Cm).cells off J:=λz k off J=>z0b (by rw [z16 hl.1];exact oO) k J;have lV:∀ z k off J,z0t k (.ptr vi off) (G.push z) J=z03 k u.cells off J:=λz k off J=>z0b (by rw [z16 hl.2.2];exact oV) k J;have fin:∀ (H:z00) (c:Cm) (J:z00->Prop),Keeps h H (λ_=>False)->H.objs r=some (.row 42 z8a.cells)->(∀ h2,Keeps h h2 (λ_=>False)->h2.objs r=some (.row 42 c.cells)->J h2)->z14 12 (.ptr r 0) (.agg c.cells) H J:=λH c J k e hJ=>by
  rw [ziv e];exact hJ _ (k.z3a ho.2 _) (z1d _ _ _)
 (repeat (first | simp -dsimp -implicitDefEqProofs (disch:=omega) only [↓rP,rQ,rO,rL,↓reduceIte,reduceEqDiff,reduceAdd,reduceLeDiff,↓tyr,hv,z0b oO] | refine Cut.go ?_))
 refine ⟨z01.go (cOf_v n hlt h0 p.classes hcl _) ?_,?_⟩;rw [ecl]
 (repeat (first | simp -dsimp -implicitDefEqProofs (disch:=omega) only [↓rP,rQ,rO,rL,↓reduceIte,reduceEqDiff,reduceAdd,reduceLeDiff,↓tyr,hv,z0b oO,blC4,↓lO] | refine Cut.go ?_))
 rw [<-hG3]
 rotate_left
 (repeat (first | simp -dsimp -implicitDefEqProofs (disch:=omega) only [↓rP,rQ,rO,rL,↓reduceIte,reduceEqDiff,reduceAdd,reduceLeDiff,↓tyr,hv,z0b oO,blC4,↓lO,↓lV] | refine Cut.go ?_))
 refine z01.go (cOf_v n hlt h0 p.classes hcl _) ?_;rw [ecl]
 (repeat (first | simp -dsimp -implicitDefEqProofs (disch:=omega) only [↓rP,rQ,rO,rL,↓reduceIte,reduceEqDiff,reduceAdd,reduceLeDiff,↓tyr,hv,z0b oO,blC4,↓lO,↓lV,↓stC] | refine Cut.go ?_))
 rw [<-hG3]
 all_goals
  by_cases k2:u.Kind=2
  ·have e3:(u.Kind != 2)=false:=by simpa using k2
   have hc0:zrl K u x cl mo=if x.Op=3\/x.Op=6 then ⟨2,u.Path,x.N,false,0,noP,cl,mo⟩ else zk4 K u.Path cl mo (slL x.Index):=by simp [zrl,k2]
   obtain ⟨G4,hG4⟩:∃ H,H=G3.put o (.row 42 (⟨1,noP,x.N,false,0,noP,cl,mo⟩:Cm).cells):=⟨_,rfl⟩;have k4:Keeps h G4 (λ_=>False):=by rw [hG4];exact k3.z3a ho.1 _
   have oO4:G4.objs o=some (.row 42 (⟨1,noP,x.N,false,0,noP,cl,mo⟩:Cm).cells):=by rw [hG4];exact z1d _ _ _
   have oV4:G4.objs vi=some (.row 122 u.cells):=by rw [hG4,z0x (λe=>hne.2.1 e.symm)];exact oV3
   have oR4:G4.objs r=some (.row 42 z8a.cells):=by rw [hG4,z0x (λe=>hne.1 e.symm)];exact oR3
   have oW4:G4.objs G.next=some (.row 42 (z2s cl mo).cells):=by rw [hG4,z0x (by omega)];exact oW3
   have s4:∀ J:z00->Prop,z14 1 (.ptr o 10) (.int .i64 (z2s cl mo).Class) G3 J=J G4:=λJ=>by rw [hG4];exact coSt oO3 (by omega) rfl rfl J
   obtain ⟨G5,hG5⟩:∃ H,H=G4.put o (.row 42 (⟨1,u.Path,x.N,false,0,noP,cl,mo⟩:Cm).cells):=⟨_,rfl⟩;have k5:Keeps h G5 (λ_=>False):=by rw [hG5];exact k4.z3a ho.1 _
   have oO5:G5.objs o=some (.row 42 (⟨1,u.Path,x.N,false,0,noP,cl,mo⟩:Cm).cells):=by rw [hG5];exact z1d _ _ _
   have oV5:G5.objs vi=some (.row 122 u.cells):=by rw [hG5,z0x (λe=>hne.2.1 e.symm)];exact oV4
   have oR5:G5.objs r=some (.row 42 z8a.cells):=by rw [hG5,z0x (λe=>hne.1 e.symm)];exact oR4
   have oW5:G5.objs G.next=some (.row 42 (z2s cl mo).cells):=by rw [hG5,z0x (by omega)];exact oW4
   have s5:∀ J:z00->Prop,z14 3 (.ptr o 1) (.agg u.Path.cells) G4 J=J G5:=λJ=>by rw [hG5];simp only [z14,oO4];simp [z05.cells,z0l.cells]
   by_cases f1:x.Op=3\/x.Op=6
   ·rw [hc0,if_pos f1] at hR;obtain ⟨G6,hG6⟩:∃ H,H=G5.put o (.row 42 (⟨2,u.Path,x.N,false,0,noP,cl,mo⟩:Cm).cells):=⟨_,rfl⟩;have k6:Keeps h G6 (λ_=>False):=by rw [hG6];exact k5.z3a ho.1 _
    have oO6:G6.objs o=some (.row 42 (⟨2,u.Path,x.N,false,0,noP,cl,mo⟩:Cm).cells):=by rw [hG6];exact z1d _ _ _
    have oV6:G6.objs vi=some (.row 122 u.cells):=by rw [hG6,z0x (λe=>hne.2.1 e.symm)];exact oV5
    have oR6:G6.objs r=some (.row 42 z8a.cells):=by rw [hG6,z0x (λe=>hne.1 e.symm)];exact oR5
    have oW6:G6.objs G.next=some (.row 42 (z2s cl mo).cells):=by rw [hG6,z0x (by omega)];exact oW5
    have s6:∀ J:z00->Prop,z14 1 (.ptr o 0) (.int .i64 2) G5 J=J G6:=λJ=>by rw [hG6];exact coSt oO5 (by omega) rfl rfl J
    have fin2:∀ J:z00->Prop,(∀ h2,Keeps h h2 (λ_=>False)->h2.objs r=some (.row 42 (⟨2,u.Path,x.N,false,0,noP,cl,mo⟩:Cm).cells)->J h2)->z14 12 (.ptr r 0) (.agg (⟨2,u.Path,x.N,false,0,noP,cl,mo⟩:Cm).cells) G6 J:=λJ=>fin _ _ J k6 oR6;rcases Decidable.em (x.Op=3) with q3 | q3
    ·have b3:(x.Op == 3)=true:=by simpa using q3
     (repeat (first | simp -dsimp -implicitDefEqProofs (disch:=omega) only [↓rP,rQ,rO,rL,↓reduceIte,reduceEqDiff,reduceAdd,reduceLeDiff,↓tyr,z0b oV3,e3,z0b oW3,↓s4,z0b oV4,↓s5,b3,↓s6,↓(coLd oO6)] | refine Cut.go ?_))
     refine fin2 _ λh2 k e=>?_
     (repeat (first | simp -dsimp -implicitDefEqProofs (disch:=omega) only [↓rP,rQ,rO,rL,↓reduceIte,reduceEqDiff,reduceAdd,reduceLeDiff,↓tyr,↓(coLd e)] | refine Cut.go ?_))
     exact hR _ k
    ·have b3:(x.Op == 3)=false:=by simpa using q3
     have b6:(x.Op == 6)=true:=by simp;omega
     (repeat (first | simp -dsimp -implicitDefEqProofs (disch:=omega) only [↓rP,rQ,rO,rL,↓reduceIte,reduceEqDiff,reduceAdd,reduceLeDiff,↓tyr,z0b oV3,e3,z0b oW3,↓s4,z0b oV4,↓s5,b3,b6,↓s6,↓(coLd oO6)] | refine Cut.go ?_))
     refine fin2 _ λh2 k e=>?_
     (repeat (first | simp -dsimp -implicitDefEqProofs (disch:=omega) only [↓rP,rQ,rO,rL,↓reduceIte,reduceEqDiff,reduceAdd,reduceLeDiff,↓tyr,↓(coLd e)] | refine Cut.go ?_))
     exact hR _ k
   ·rw [hc0,if_neg f1] at hR;have b3:(x.Op == 3)=false:=by simp;omega
    have b6:(x.Op == 6)=false:=by simp;omega
    obtain ⟨G6,hG6⟩:∃ H,H=G5.put o (.row 42 (⟨3,u.Path,x.N,false,0,noP,cl,mo⟩:Cm).cells):=⟨_,rfl⟩;have k6:Keeps h G6 (λ_=>False):=by rw [hG6];exact k5.z3a ho.1 _
    have oO6:G6.objs o=some (.row 42 (⟨3,u.Path,x.N,false,0,noP,cl,mo⟩:Cm).cells):=by rw [hG6];exact z1d _ _ _
    have oV6:G6.objs vi=some (.row 122 u.cells):=by rw [hG6,z0x (λe=>hne.2.1 e.symm)];exact oV5
    have oR6:G6.objs r=some (.row 42 z8a.cells):=by rw [hG6,z0x (λe=>hne.1 e.symm)];exact oR5
    have oW6:G6.objs G.next=some (.row 42 (z2s cl mo).cells):=by rw [hG6,z0x (by omega)];exact oW5
    have s6:∀ J:z00->Prop,z14 1 (.ptr o 0) (.int .i64 3) G5 J=J G6:=λJ=>by rw [hG6];exact coSt oO5 (by omega) rfl rfl J
    obtain ⟨G7,hG7⟩:∃ H,H=G6.put o (.row 42 (⟨3,u.Path,0,false,0,noP,cl,mo⟩:Cm).cells):=⟨_,rfl⟩;have k7:Keeps h G7 (λ_=>False):=by rw [hG7];exact k6.z3a ho.1 _
    have oO7:G7.objs o=some (.row 42 (⟨3,u.Path,0,false,0,noP,cl,mo⟩:Cm).cells):=by rw [hG7];exact z1d _ _ _
    have oV7:G7.objs vi=some (.row 122 u.cells):=by rw [hG7,z0x (λe=>hne.2.1 e.symm)];exact oV6
    have oR7:G7.objs r=some (.row 42 z8a.cells):=by rw [hG7,z0x (λe=>hne.1 e.symm)];exact oR6
    have oW7:G7.objs G.next=some (.row 42 (z2s cl mo).cells):=by rw [hG7,z0x (by omega)];exact oW6
    have s7:∀ J:z00->Prop,z14 1 (.ptr o 4) (.int .i64 0) G6 J=J G7:=λJ=>by rw [hG7];exact coSt oO6 (by omega) rfl rfl J
    have whole:(∀ y,slL x.Index=[y]->y.Op≠1/\(y.Op=2->(K y.N).Kind≠2))->zk4 K u.Path cl mo (slL x.Index)=z2s cl mo:=λhn=>by
     unfold zk4;split
     ·rename_i y e;obtain ⟨n1,n2⟩:=hn y e;rw [if_neg n1,if_neg (λq=>n2 q.1 q.2)]
     ·rfl
    by_cases hl1:(slL x.Index).length=1
    ·obtain ⟨y,hy⟩:∃ y,slL x.Index=[y]:=List.length_eq_one_iff.1 hl1;have el:(((slL x.Index).length:Int) != 1)=false:=by rw [hl1];rfl
     have iy:∀ J:AV->Prop,z0o (.slice 3) (slAV 3 z0e.cells x.Index) (.int .i64 0) J=J (.iptr y.cells):=λJ=>z06 (k:=0) (by rw [hy];rfl) .i64 J
     (repeat (first | simp -dsimp -implicitDefEqProofs (disch:=omega) only [↓rP,rQ,rO,rL,↓reduceIte,reduceEqDiff,reduceAdd,reduceLeDiff,↓tyr,z0b oV3,e3,z0b oW3,↓s4,z0b oV4,↓s5,b3,b6,↓s6,↓s7,el,iy,z6s,z6t] | refine Cut.go ?_))
     have n7:G7.next=G.next+1:=by rw [hG7,hG6,hG5,hG4,hG3];rfl
     obtain ⟨G8,hG8⟩:∃ H,H=G7.push (.row 103 y.cells):=⟨_,rfl⟩;have n8:G8.next=G7.next+1:=by rw [hG8];rfl
     have k8:Keeps h G8 (λ_=>False):=by rw [hG8];exact k7.z5e _
     have oO8:G8.objs o=some (.row 42 (⟨3,u.Path,0,false,0,noP,cl,mo⟩:Cm).cells):=by rw [hG8,z16 (by omega)];exact oO7
     have oR8:G8.objs r=some (.row 42 z8a.cells):=by rw [hG8,z16 (by omega)];exact oR7
     have oW8:G8.objs G.next=some (.row 42 (z2s cl mo).cells):=by rw [hG8,z16 (by omega)];exact oW7
     have oN8:G8.objs G7.next=some (.row 103 y.cells):=by rw [hG8];exact z19 _ _
     rw [<-hG8];by_cases y1:y.Op=1
     ·have ey:(y.Op == 1)=true:=by simpa using y1
      obtain ⟨G9,hG9⟩:∃ H,H=G8.put o (.row 42 (⟨3,u.Path,0,true,0,noP,cl,mo⟩:Cm).cells):=⟨_,rfl⟩;have k9:Keeps h G9 (λ_=>False):=by rw [hG9];exact k8.z3a ho.1 _
      have oO9:G9.objs o=some (.row 42 (⟨3,u.Path,0,true,0,noP,cl,mo⟩:Cm).cells):=by rw [hG9];exact z1d _ _ _
      have oR9:G9.objs r=some (.row 42 z8a.cells):=by rw [hG9,z0x (λe=>hne.1 e.symm)];exact oR8
      have s9:∀ J:z00->Prop,z14 1 (.ptr o 5) (.bool true) G8 J=J G9:=λJ=>by rw [hG9];exact coSt oO8 (by omega) rfl rfl J
      have oN9:G9.objs G7.next=some (.row 103 y.cells):=by rw [hG9,z0x (by omega)];exact oN8
      obtain ⟨G10,hG10⟩:∃ H,H=G9.put o (.row 42 (⟨3,u.Path,0,true,sgN y.N,noP,cl,mo⟩:Cm).cells):=⟨_,rfl⟩;have k10:Keeps h G10 (λ_=>False):=by rw [hG10];exact k9.z3a ho.1 _
      have oO10:G10.objs o=some (.row 42 (⟨3,u.Path,0,true,sgN y.N,noP,cl,mo⟩:Cm).cells):=by rw [hG10];exact z1d _ _ _
      have oR10:G10.objs r=some (.row 42 z8a.cells):=by rw [hG10,z0x (λe=>hne.1 e.symm)];exact oR9
      have s10:∀ J:z00->Prop,z14 1 (.ptr o 6) (.int .i64 (IntKind.i64.wrap y.N)) G9 J=J G10:=λJ=>by rw [hG10];exact coSt oO9 (by omega) rfl rfl J
      have hc:zk4 K u.Path cl mo (slL x.Index)=⟨3,u.Path,0,true,sgN y.N,noP,cl,mo⟩:=by rw [hy];simp [zk4,y1]
      rw [hc] at hR
      (repeat (first | simp -dsimp -implicitDefEqProofs (disch:=omega) only [↓rP,rQ,rO,rL,↓reduceIte,reduceEqDiff,reduceAdd,reduceLeDiff,↓tyr,z0b oN8,ey,↓s9,z0b oN9,↓s10,↓(coLd oO10)] | refine Cut.go ?_))
      refine fin _ _ _ k10 oR10 λh2 k e=>?_
      (repeat (first | simp -dsimp -implicitDefEqProofs (disch:=omega) only [↓rP,rQ,rO,rL,↓reduceIte,reduceEqDiff,reduceAdd,reduceLeDiff,↓tyr,↓(coLd e)] | refine Cut.go ?_))
      exact hR _ k
     have ey:(y.Op == 1)=false:=by simpa using y1
     by_cases y2:y.Op=2
     ·have ey2:(y.Op == 2)=true:=by simpa using y2
      have hyn:y.N<nS:=hix f1 y (by rw [hy];simp) y2;have iK:∀ J:AV->Prop,z0o (.slice 4) (slAV 4 z0n.cells p.known) (.int .u64 (y.N:Nat)) J=J (.iptr (K y.N).cells):=λJ=>z06 (hk _ hyn) .u64 J;obtain ⟨G9,hG9⟩:∃ H,H=G8.push (.row 122 (K y.N).cells):=⟨_,rfl⟩;have n9:G9.next=G8.next+1:=by rw [hG9];rfl
      have k9:Keeps h G9 (λ_=>False):=by rw [hG9];exact k8.z5e _
      have oO9:G9.objs o=some (.row 42 (⟨3,u.Path,0,false,0,noP,cl,mo⟩:Cm).cells):=by rw [hG9,z16 (by omega)];exact oO8
      have oR9:G9.objs r=some (.row 42 z8a.cells):=by rw [hG9,z16 (by omega)];exact oR8
      have oW9:G9.objs G.next=some (.row 42 (z2s cl mo).cells):=by rw [hG9,z16 (by omega)];exact oW8
      have oN9:G9.objs G8.next=some (.row 122 (K y.N).cells):=by rw [hG9];exact z19 _ _
      (repeat (first | simp -dsimp -implicitDefEqProofs (disch:=omega) only [↓rP,rQ,rO,rL,↓reduceIte,reduceEqDiff,reduceAdd,reduceLeDiff,↓tyr,z0b oN8,ey,ey2,↓iK,↓vl_all] | refine Cut.go ?_))
      rw [<-hG9];by_cases y3:(K y.N).Kind=2
      ·have ek:((K y.N).Kind == 2)=true:=by simpa using y3
       obtain ⟨G10,hG10⟩:∃ H,H=G9.put o (.row 42 (⟨3,u.Path,0,false,0,(K y.N).Path,cl,mo⟩:Cm).cells):=⟨_,rfl⟩;have k10:Keeps h G10 (λ_=>False):=by rw [hG10];exact k9.z3a ho.1 _
       have oO10:G10.objs o=some (.row 42 (⟨3,u.Path,0,false,0,(K y.N).Path,cl,mo⟩:Cm).cells):=by rw [hG10];exact z1d _ _ _
       have oR10:G10.objs r=some (.row 42 z8a.cells):=by rw [hG10,z0x (λe=>hne.1 e.symm)];exact oR9
       have s10:∀ J:z00->Prop,z14 3 (.ptr o 7) (.agg (K y.N).Path.cells) G9 J=J G10:=λJ=>by rw [hG10];simp only [z14,oO9];simp [z05.cells,z0l.cells]
       have hc:zk4 K u.Path cl mo (slL x.Index)=⟨3,u.Path,0,false,0,(K y.N).Path,cl,mo⟩:=by rw [hy];simp [zk4,y1,y2,y3]
       rw [hc] at hR
       (repeat (first | simp -dsimp -implicitDefEqProofs (disch:=omega) only [↓rP,rQ,rO,rL,↓reduceIte,reduceEqDiff,reduceAdd,reduceLeDiff,↓tyr,z0b oN9,ek,↓s10,↓(coLd oO10)] | refine Cut.go ?_))
       refine fin _ _ _ k10 oR10 λh2 k e=>?_
       (repeat (first | simp -dsimp -implicitDefEqProofs (disch:=omega) only [↓rP,rQ,rO,rL,↓reduceIte,reduceEqDiff,reduceAdd,reduceLeDiff,↓tyr,↓(coLd e)] | refine Cut.go ?_))
       exact hR _ k
      ·have ek:((K y.N).Kind == 2)=false:=by simpa using y3
       rw [whole (λz e=>by rw [hy] at e;cases e;exact ⟨y1,λ_=>y3⟩)] at hR
       (repeat (first | simp -dsimp -implicitDefEqProofs (disch:=omega) only [↓rP,rQ,rO,rL,↓reduceIte,reduceEqDiff,reduceAdd,reduceLeDiff,↓tyr,z0b oN9,ek,↓(coLd oW9)] | refine Cut.go ?_))
       refine fin _ _ _ k9 oR9 λh2 k e=>?_
       (repeat (first | simp -dsimp -implicitDefEqProofs (disch:=omega) only [↓rP,rQ,rO,rL,↓reduceIte,reduceEqDiff,reduceAdd,reduceLeDiff,↓tyr,↓(coLd e)] | refine Cut.go ?_))
       exact hR _ k
     ·have ey2:(y.Op == 2)=false:=by simpa using y2
      rw [whole (λz e=>by rw [hy] at e;cases e;exact ⟨y1,λq=>absurd q y2⟩)] at hR
      (repeat (first | simp -dsimp -implicitDefEqProofs (disch:=omega) only [↓rP,rQ,rO,rL,↓reduceIte,reduceEqDiff,reduceAdd,reduceLeDiff,↓tyr,z0b oN8,ey,ey2,↓(coLd oW8)] | refine Cut.go ?_))
      refine fin _ _ _ k8 oR8 λh2 k e=>?_
      (repeat (first | simp -dsimp -implicitDefEqProofs (disch:=omega) only [↓rP,rQ,rO,rL,↓reduceIte,reduceEqDiff,reduceAdd,reduceLeDiff,↓tyr,↓(coLd e)] | refine Cut.go ?_))
      exact hR _ k
    ·have el:(((slL x.Index).length:Int) != 1)=true:=by simp;omega
     rw [whole (λy e=>absurd (by rw [e];rfl) hl1)] at hR
     (repeat (first | simp -dsimp -implicitDefEqProofs (disch:=omega) only [↓rP,rQ,rO,rL,↓reduceIte,reduceEqDiff,reduceAdd,reduceLeDiff,↓tyr,z0b oV3,e3,z0b oW3,↓s4,z0b oV4,↓s5,b3,b6,↓s6,↓s7,el,↓(coLd oW7)] | refine Cut.go ?_))
     refine fin _ _ _ k7 oR7 λh2 k e=>?_
     (repeat (first | simp -dsimp -implicitDefEqProofs (disch:=omega) only [↓rP,rQ,rO,rL,↓reduceIte,reduceEqDiff,reduceAdd,reduceLeDiff,↓tyr,↓(coLd e)] | refine Cut.go ?_))
     exact hR _ k
  ·have e3:(u.Kind != 2)=true:=by simpa using k2
   have hc:zrl K u x cl mo=z2s cl mo:=by simp [zrl,k2]
   rw [hc] at hR
   (repeat (first | simp -dsimp -implicitDefEqProofs (disch:=omega) only [↓rP,rQ,rO,rL,↓reduceIte,reduceEqDiff,reduceAdd,reduceLeDiff,↓tyr,z0b oV3,e3,↓(coLd oW3)] | refine Cut.go ?_))
   refine fin _ _ _ k3 oR3 λh2 k e=>?_
   (repeat (first | simp -dsimp -implicitDefEqProofs (disch:=omega) only [↓rP,rQ,rO,rL,↓reduceIte,reduceEqDiff,reduceAdd,reduceLeDiff,↓tyr,↓(coLd e)] | refine Cut.go ?_))
   exact hR _ k
end
def resA (o:Option Cm):AV:=match o with | none=>.tup [.agg z8a.cells,.bool false] | some c=>.tup [.agg c.cells,.bool true]
theorem ids_resA (D:Nat->Prop) (o:Option Cm):z1w D (resA o):=by
 cases o with
 | none=>exact ⟨(zqu D (some [z8a])).1,trivial,trivial⟩
 | some c=>exact ⟨(zqu D (some [c])).1,trivial,trivial⟩
theorem part_does {p:z02} {t m n nS:Nat} {row:Option (List Nat)} {u:Vl} {x:In} {mo:Int} {K:Nat->Vl} (hm:(slL p.known)[m]?=some u) (hr:(slL p.sets.Slots)[t]?=some row) (hn:(slL row)[m]?=some n) (hlt:n<4294967296) (ht:p.section_.Thread=t) (em:x.Src=(m:Nat))
  (hcl:(slL p.classes).length<=1000) (hk:∀ i,i<nS->(slL p.known)[i]?=some (K i)) (hix:¬ (x.Op=3\/x.Op=6)->∀ y∈slL x.Index,y.Op=2->y.N<nS) (h:z00) :
  z01 Tryd.prog 40 [.agg p.cells,.agg x.cells,.agg (⟨1,noP,x.N,false,0,noP,0,mo⟩:Cm).cells] h (λv h2=>v=resA (if u.Kind=1\/zlh n=32 then none else some (zrl K u x ((slL p.classes).getD (zlh n) 0) mo))/\h2=h):=by
 refine z01.forget (ids_resA _ _) ?_;apply zea;have hk2:∀ J:AV->Prop,z0o (.slice 4) (slAV 4 z0n.cells p.known) (.int .i64 x.Src) J=J (.iptr u.cells):=λJ=>by rw [em];exact z06 hm _ J
 have hr2:∀ J:AV->Prop,z0o (.slice 1) (slAV 1 (λo=>[slAV 1 encN o]) p.sets.Slots) (.int .i64 p.section_.Thread) J=J (.iptr [slAV 1 encN row]):=λJ=>by rw [ht];exact z06 hr _ J
 have hn2:∀ J:AV->Prop,z0o (.slice 1) (slAV 1 encN row) (.int .i64 x.Src) J=J (.iptr (encN n)):=λJ=>by rw [em];exact z06 hn _ J
 obtain ⟨H1,hH1⟩:∃ H,H=h.push (.row 42 (⟨1,noP,x.N,false,0,noP,0,mo⟩:Cm).cells):=⟨_,rfl⟩;obtain ⟨H2,hH2⟩:∃ H,H=H1.push (.row 42 z8a.cells):=⟨_,rfl⟩;obtain ⟨H3,hH3⟩:∃ H,H=H2.push (.row 122 u.cells):=⟨_,rfl⟩;have n1:H1.next=h.next+1:=by rw [hH1];rfl
 have n2:H2.next=h.next+2:=by rw [hH2];show H1.next+1=_;omega
 have n3:H3.next=h.next+3:=by rw [hH3];show H2.next+1=_;omega
 have k3:Keeps h H3 (λ_=>False):=by rw [hH3,hH2,hH1];exact ((Keeps.one _ _).z5e _).z5e _
 have oO:H3.objs h.next=some (.row 42 (⟨1,noP,x.N,false,0,noP,0,mo⟩:Cm).cells):=by rw [hH3,z16 (by omega),hH2,z16 (by omega),hH1];exact z19 _ _
 have oR:H3.objs H1.next=some (.row 42 z8a.cells):=by rw [hH3,z16 (by omega),hH2];exact z19 _ _
 have oV:H3.objs H2.next=some (.row 122 u.cells):=by rw [hH3];exact z19 _ _
 have ez:([AV.int .i64 0,.bool false,.int .i64 0,.nils,.int .i64 0,.bool false,.int .i64 0,.bool false,.int .i64 0,.nils,.int .i64 0,.int .i64 0]:List AV)=z8a.cells:=rfl;by_cases k1:u.Kind=1
 ·have e1:(u.Kind == 1)=true:=by simpa using k1
  rw [if_pos (Or.inl k1)]
  (repeat (first | simp -dsimp -implicitDefEqProofs (disch:=omega) only [↓rP,rQ,rO,rL,↓reduceIte,reduceEqDiff,reduceAdd,reduceLeDiff,↓tyr,↓hk2,↓hr2,↓hn2,↓vl_all,↓ld_row,↓ztf,e1,blC0] | refine Cut.go ?_))
  rw [ez,<-hH1,<-hH2,<-hH3,ziv oR]
  (repeat (first | simp -dsimp -implicitDefEqProofs (disch:=omega) only [↓rP,rQ,rO,rL,↓reduceIte,reduceEqDiff,reduceAdd,reduceLeDiff,↓tyr,↓(coLd (z1d _ _ _))] | refine Cut.go ?_))
  exact ⟨rfl,k3.z3a (by omega) _⟩
 ·have e1:(u.Kind == 1)=false:=by simpa using k1
  by_cases k2:n=0
  ·have e2:((n:Int) == 0)=true:=by simp;omega
   rw [if_pos (Or.inr (by rw [k2];exact siteL_none λk _=>Nat.zero_testBit k))]
   (repeat (first | simp -dsimp -implicitDefEqProofs (disch:=omega) only [↓rP,rQ,rO,rL,↓reduceIte,reduceEqDiff,reduceAdd,reduceLeDiff,↓tyr,↓hk2,↓hr2,↓hn2,↓vl_all,↓ld_row,↓ztf,e1,e2,blC0] | refine Cut.go ?_))
   rw [ez,<-hH1,<-hH2,<-hH3,ziv oR]
   (repeat (first | simp -dsimp -implicitDefEqProofs (disch:=omega) only [↓rP,rQ,rO,rL,↓reduceIte,reduceEqDiff,reduceAdd,reduceLeDiff,↓tyr,↓(coLd (z1d _ _ _))] | refine Cut.go ?_))
   exact ⟨rfl,k3.z3a (by omega) _⟩
  ·have e2:((n:Int) == 0)=false:=by simp;omega
   obtain ⟨s1,s2⟩:=first_site hlt k2;rw [if_neg (by rw [s1];omega),s1]
   (repeat (first | simp -dsimp -implicitDefEqProofs (disch:=omega) only [↓rP,rQ,rO,rL,↓reduceIte,reduceEqDiff,reduceAdd,reduceLeDiff,↓tyr,↓hk2,↓hr2,↓hn2,↓vl_all,↓ld_row,↓ztf,e1,e2,blC0] | refine Cut.go ?_))
   rw [ez,<-hH1,<-hH2,<-hH3];refine part_p3 (nS:=nS) (K:=K) hlt k2 hcl hk hix oO oR oV ⟨by omega,by omega,by omega⟩ ⟨by omega,by omega,by omega⟩ ⟨Nat.le_refl _,by omega⟩ k3 _ (λH J=>?_) (λh2 k=>⟨rfl,k⟩)
   (repeat (first | simp -dsimp -implicitDefEqProofs (disch:=omega) only [↓rP,rA,↓reduceIte,reduceEqDiff,reduceAdd,reduceLeDiff,↓tyr] | refine Cut.go ?_))
structure PlAt (p:z02) (t nS:Nat) (σ:Nat->Nat) (K:Nat->Vl):Prop where
 thr:p.section_.Thread=t
 row:∃ row,(slL p.sets.Slots)[t]?=some row/\∀ m,m<nS->(slL row)[m]?=some (σ m)
 few:∀ m,σ m<4294967296
 cls:(slL p.classes).length<=1000
 kn:∀ i,i<nS->(slL p.known)[i]?=some (K i)
theorem znv {p:z02} {t nS:Nat} {σ:Nat->Nat} {K:Nat->Vl} (P:PlAt p t nS σ K) {b:Bd} {x:In} (w:Wx b x) (hb:(slL b.Slots).length=nS) (h:z00) :
  z01 Tryd.prog 21 [.agg p.cells,.agg x.cells] h (λv h2=>v=resA (z8t σ (slL p.classes) K x)/\h2=h):=by
 refine z01.forget (ids_resA _ _) ?_;apply zd5;have ez:([AV.int .i64 0,.bool false,.int .i64 0,.nils,.int .i64 0,.bool false,.int .i64 0,.bool false,.int .i64 0,.nils,.int .i64 0,.int .i64 0]:List AV)=z8a.cells:=rfl;obtain ⟨H1,hH1⟩:∃ H,H=h.push (.row 42 z8a.cells):=⟨_,rfl⟩;obtain ⟨H2,hH2⟩:∃ H,H=H1.push (.row 42 (⟨1,noP,x.N,false,0,noP,0,3⟩:Cm).cells):=⟨_,rfl⟩;obtain ⟨H3,hH3⟩:∃ H,H=H2.put H1.next (.row 42 (⟨1,noP,x.N,false,0,noP,0,4⟩:Cm).cells):=⟨_,rfl⟩;have n1:H1.next=h.next+1:=by rw [hH1];rfl
 have k2:Keeps h H2 (λ_=>False):=by rw [hH2,hH1];exact (Keeps.one _ _).z5e _
 have k3:Keeps h H3 (λ_=>False):=by rw [hH3];exact k2.z3a (by omega) _
 have oR2:H2.objs h.next=some (.row 42 z8a.cells):=by rw [hH2,z16 (by omega),hH1];exact z19 _ _
 have oO2:H2.objs H1.next=some (.row 42 (⟨1,noP,x.N,false,0,noP,0,3⟩:Cm).cells):=by rw [hH2];exact z19 _ _
 have oR3:H3.objs h.next=some (.row 42 z8a.cells):=by rw [hH3,z0x (by omega)];exact oR2
 have oO3:H3.objs H1.next=some (.row 42 (⟨1,noP,x.N,false,0,noP,0,4⟩:Cm).cells):=by rw [hH3];exact z1d _ _ _
 have s3:∀ J:z00->Prop,z14 1 (.ptr H1.next 11) (.int .i64 4) H2 J=J H3:=λJ=>by rw [hH3];exact coSt oO2 (by omega) rfl rfl J
 have cl2:=P.cls;have n2:H2.next=h.next+2:=by rw [hH2];show H1.next+1=_;omega
 have hp:(x.Op=3\/x.Op=6\/x.Op=4\/x.Op=7)->∀ H,z01 Tryd.prog 40 [.agg p.cells,.agg x.cells,.agg (⟨1,noP,x.N,false,0,noP,0,zbo x⟩:Cm).cells] H (λv h2=>v=resA (z8t σ (slL p.classes) K x)/\h2=H):=λho H=>by
  have hs:=w.src (by omega);rw [hb] at hs;obtain ⟨m,em,hm⟩:=zh9 hs;obtain ⟨row,hr,hrow⟩:=P.row;have e:z8t σ (slL p.classes) K x=if (K m).Kind=1\/zlh (σ m)=32 then none else some (zrl K (K m) x ((slL p.classes).getD (zlh (σ m)) 0) (zbo x)):=by
   have et:x.Src.toNat=m:=by omega
   unfold z8t;rw [if_neg (by omega),if_pos ho,et];unfold cellC zrl;rw [et]
  rw [e];exact part_does (P.kn m hm) hr (hrow m hm) (P.few m) P.thr em P.cls P.kn (λq y hy e2=>by rw [<-hb];exact (w.idx (by omega)).1 y hy e2) H
 have fin:∀ (H:z00) (o:Option Cm) (ho:z8t σ (slL p.classes) K x=o),Keeps h H (λ_=>False)->H.objs h.next=some (.row 42 z8a.cells)->∀ (c:Cm) (bb:Bool),resA o=.tup [.agg c.cells,.bool bb]->z14 12 (.ptr h.next 0) (.agg c.cells) H (λa=>z0t (some 12) (.ptr h.next 0) a (λb=>.tup [b,.bool bb]=resA (z8t σ (slL p.classes) K x)/\Keeps h a (λ_=>False))):=λH o ho k e c bb hr=>by
  rw [ziv e,coLd (z1d _ _ _),ho,hr];exact ⟨rfl,k.z3a (Nat.le_refl _) _⟩
 by_cases c2:x.Op=2
 ·have g5:decide (5<=x.Op)=false:=by simp;omega
  have b2:(x.Op == 2)=true:=by simp;omega
  have b3:(x.Op == 3)=false:=by simp;omega
  have b6:(x.Op == 6)=false:=by simp;omega
  have b4:(x.Op == 4)=false:=by simp;omega
  have b7:(x.Op == 7)=false:=by simp;omega
  have b5:(x.Op == 5)=false:=by simp;omega
  have em:zbo x=3:=by simp [zbo,c2]
  (repeat (first | simp -dsimp -implicitDefEqProofs (disch:=omega) only [↓rP,rQ,rO,rL,↓reduceIte,reduceEqDiff,reduceAdd,reduceLeDiff,↓tyr,g5,blC1] | refine Cut.go ?_))
  rw [ez,<-hH1,<-hH2]
  (repeat (first | simp -dsimp -implicitDefEqProofs (disch:=omega) only [↓rP,rQ,rO,rL,↓reduceIte,reduceEqDiff,reduceAdd,reduceLeDiff,↓tyr,b2,b3,b6,b4,b7,b5,↓(coLd oO2)] | refine Cut.go ?_))
  exact fin _ (some ⟨1,noP,x.N,false,0,noP,0,3⟩) (by simp [z8t,c2,em]) k2 oR2 _ _ rfl
 by_cases c3:x.Op=3
 ·have g5:decide (5<=x.Op)=false:=by simp;omega
  have b2:(x.Op == 2)=false:=by simp;omega
  have b3:(x.Op == 3)=true:=by simp;omega
  have b6:(x.Op == 6)=false:=by simp;omega
  have b4:(x.Op == 4)=false:=by simp;omega
  have b7:(x.Op == 7)=false:=by simp;omega
  have b5:(x.Op == 5)=false:=by simp;omega
  have em:zbo x=3:=by simp [zbo,c3]
  (repeat (first | simp -dsimp -implicitDefEqProofs (disch:=omega) only [↓rP,rQ,rO,rL,↓reduceIte,reduceEqDiff,reduceAdd,reduceLeDiff,↓tyr,g5,blC1] | refine Cut.go ?_))
  rw [ez,<-hH1,<-hH2]
  (repeat (first | simp -dsimp -implicitDefEqProofs (disch:=omega) only [↓rP,rQ,rO,rL,↓reduceIte,reduceEqDiff,reduceAdd,reduceLeDiff,↓tyr,b2,b3,b6,b4,b7,b5,↓(coLd oO2)] | refine Cut.go ?_))
  rw [em] at hp;refine z01.go (hp (by omega) _) ?_
  cases hw:z8t σ (slL p.classes) K x with
  | none=>
   simp only [resA]
   (repeat (first | simp -dsimp -implicitDefEqProofs (disch:=omega) only [↓rP,rQ,rO,rL,↓reduceIte,reduceEqDiff,reduceAdd,reduceLeDiff,↓tyr] | refine Cut.go ?_))
   rw [ziv oR2]
   (repeat (first | simp -dsimp -implicitDefEqProofs (disch:=omega) only [↓rP,rQ,rO,rL,↓reduceIte,reduceEqDiff,reduceAdd,reduceLeDiff,↓tyr,↓(coLd (z1d _ _ _))] | refine Cut.go ?_))
   exact k2.z3a (Nat.le_refl _) _
  | some c=>
   simp only [resA]
   (repeat (first | simp -dsimp -implicitDefEqProofs (disch:=omega) only [↓rP,rQ,rO,rL,↓reduceIte,reduceEqDiff,reduceAdd,reduceLeDiff,↓tyr] | refine Cut.go ?_))
   rw [ziv oR2]
   (repeat (first | simp -dsimp -implicitDefEqProofs (disch:=omega) only [↓rP,rQ,rO,rL,↓reduceIte,reduceEqDiff,reduceAdd,reduceLeDiff,↓tyr,↓(coLd (z1d _ _ _))] | refine Cut.go ?_))
   exact k2.z3a (Nat.le_refl _) _
 by_cases c6:x.Op=6
 ·have g5:decide (5<=x.Op)=true:=by simp;omega
  have g7:decide (x.Op<=7)=true:=by simp;omega
  have b2:(x.Op == 2)=false:=by simp;omega
  have b3:(x.Op == 3)=false:=by simp;omega
  have b6:(x.Op == 6)=true:=by simp;omega
  have b4:(x.Op == 4)=false:=by simp;omega
  have b7:(x.Op == 7)=false:=by simp;omega
  have b5:(x.Op == 5)=false:=by simp;omega
  have em:zbo x=4:=by simp [zbo,c6]
  (repeat (first | simp -dsimp -implicitDefEqProofs (disch:=omega) only [↓rP,rQ,rO,rL,↓reduceIte,reduceEqDiff,reduceAdd,reduceLeDiff,↓tyr,g5,g7,blC1] | refine Cut.go ?_))
  rw [ez,<-hH1,<-hH2,s3]
  (repeat (first | simp -dsimp -implicitDefEqProofs (disch:=omega) only [↓rP,rQ,rO,rL,↓reduceIte,reduceEqDiff,reduceAdd,reduceLeDiff,↓tyr,b2,b3,b6,b4,b7,b5,↓(coLd oO3)] | refine Cut.go ?_))
  rw [em] at hp;refine z01.go (hp (by omega) _) ?_
  cases hw:z8t σ (slL p.classes) K x with
  | none=>
   simp only [resA]
   (repeat (first | simp -dsimp -implicitDefEqProofs (disch:=omega) only [↓rP,rQ,rO,rL,↓reduceIte,reduceEqDiff,reduceAdd,reduceLeDiff,↓tyr] | refine Cut.go ?_))
   rw [ziv oR3]
   (repeat (first | simp -dsimp -implicitDefEqProofs (disch:=omega) only [↓rP,rQ,rO,rL,↓reduceIte,reduceEqDiff,reduceAdd,reduceLeDiff,↓tyr,↓(coLd (z1d _ _ _))] | refine Cut.go ?_))
   exact k3.z3a (Nat.le_refl _) _
  | some c=>
   simp only [resA]
   (repeat (first | simp -dsimp -implicitDefEqProofs (disch:=omega) only [↓rP,rQ,rO,rL,↓reduceIte,reduceEqDiff,reduceAdd,reduceLeDiff,↓tyr] | refine Cut.go ?_))
   rw [ziv oR3]
   (repeat (first | simp -dsimp -implicitDefEqProofs (disch:=omega) only [↓rP,rQ,rO,rL,↓reduceIte,reduceEqDiff,reduceAdd,reduceLeDiff,↓tyr,↓(coLd (z1d _ _ _))] | refine Cut.go ?_))
   exact k3.z3a (Nat.le_refl _) _
 by_cases c4:x.Op=4
 ·have g5:decide (5<=x.Op)=false:=by simp;omega
  have b2:(x.Op == 2)=false:=by simp;omega
  have b3:(x.Op == 3)=false:=by simp;omega
  have b6:(x.Op == 6)=false:=by simp;omega
  have b4:(x.Op == 4)=true:=by simp;omega
  have b7:(x.Op == 7)=false:=by simp;omega
  have b5:(x.Op == 5)=false:=by simp;omega
  have em:zbo x=3:=by simp [zbo,c4]
  (repeat (first | simp -dsimp -implicitDefEqProofs (disch:=omega) only [↓rP,rQ,rO,rL,↓reduceIte,reduceEqDiff,reduceAdd,reduceLeDiff,↓tyr,g5,blC1] | refine Cut.go ?_))
  rw [ez,<-hH1,<-hH2]
  (repeat (first | simp -dsimp -implicitDefEqProofs (disch:=omega) only [↓rP,rQ,rO,rL,↓reduceIte,reduceEqDiff,reduceAdd,reduceLeDiff,↓tyr,b2,b3,b6,b4,b7,b5,↓(coLd oO2)] | refine Cut.go ?_))
  rw [em] at hp;refine z01.go (hp (by omega) _) ?_
  cases hw:z8t σ (slL p.classes) K x with
  | none=>
   simp only [resA]
   (repeat (first | simp -dsimp -implicitDefEqProofs (disch:=omega) only [↓rP,rQ,rO,rL,↓reduceIte,reduceEqDiff,reduceAdd,reduceLeDiff,↓tyr] | refine Cut.go ?_))
   rw [ziv oR2]
   (repeat (first | simp -dsimp -implicitDefEqProofs (disch:=omega) only [↓rP,rQ,rO,rL,↓reduceIte,reduceEqDiff,reduceAdd,reduceLeDiff,↓tyr,↓(coLd (z1d _ _ _))] | refine Cut.go ?_))
   exact k2.z3a (Nat.le_refl _) _
  | some c=>
   simp only [resA]
   (repeat (first | simp -dsimp -implicitDefEqProofs (disch:=omega) only [↓rP,rQ,rO,rL,↓reduceIte,reduceEqDiff,reduceAdd,reduceLeDiff,↓tyr] | refine Cut.go ?_))
   rw [ziv oR2]
   (repeat (first | simp -dsimp -implicitDefEqProofs (disch:=omega) only [↓rP,rQ,rO,rL,↓reduceIte,reduceEqDiff,reduceAdd,reduceLeDiff,↓tyr,↓(coLd (z1d _ _ _))] | refine Cut.go ?_))
   exact k2.z3a (Nat.le_refl _) _
 by_cases c7:x.Op=7
 ·have g5:decide (5<=x.Op)=true:=by simp;omega
  have g7:decide (x.Op<=7)=true:=by simp;omega
  have b2:(x.Op == 2)=false:=by simp;omega
  have b3:(x.Op == 3)=false:=by simp;omega
  have b6:(x.Op == 6)=false:=by simp;omega
  have b4:(x.Op == 4)=false:=by simp;omega
  have b7:(x.Op == 7)=true:=by simp;omega
  have b5:(x.Op == 5)=false:=by simp;omega
  have em:zbo x=4:=by simp [zbo,c7]
  (repeat (first | simp -dsimp -implicitDefEqProofs (disch:=omega) only [↓rP,rQ,rO,rL,↓reduceIte,reduceEqDiff,reduceAdd,reduceLeDiff,↓tyr,g5,g7,blC1] | refine Cut.go ?_))
  rw [ez,<-hH1,<-hH2,s3]
  (repeat (first | simp -dsimp -implicitDefEqProofs (disch:=omega) only [↓rP,rQ,rO,rL,↓reduceIte,reduceEqDiff,reduceAdd,reduceLeDiff,↓tyr,b2,b3,b6,b4,b7,b5,↓(coLd oO3)] | refine Cut.go ?_))
  rw [em] at hp;refine z01.go (hp (by omega) _) ?_
  cases hw:z8t σ (slL p.classes) K x with
  | none=>
   simp only [resA]
   (repeat (first | simp -dsimp -implicitDefEqProofs (disch:=omega) only [↓rP,rQ,rO,rL,↓reduceIte,reduceEqDiff,reduceAdd,reduceLeDiff,↓tyr] | refine Cut.go ?_))
   rw [ziv oR3]
   (repeat (first | simp -dsimp -implicitDefEqProofs (disch:=omega) only [↓rP,rQ,rO,rL,↓reduceIte,reduceEqDiff,reduceAdd,reduceLeDiff,↓tyr,↓(coLd (z1d _ _ _))] | refine Cut.go ?_))
   exact k3.z3a (Nat.le_refl _) _
  | some c=>
   simp only [resA]
   (repeat (first | simp -dsimp -implicitDefEqProofs (disch:=omega) only [↓rP,rQ,rO,rL,↓reduceIte,reduceEqDiff,reduceAdd,reduceLeDiff,↓tyr] | refine Cut.go ?_))
   rw [ziv oR3]
   (repeat (first | simp -dsimp -implicitDefEqProofs (disch:=omega) only [↓rP,rQ,rO,rL,↓reduceIte,reduceEqDiff,reduceAdd,reduceLeDiff,↓tyr,↓(coLd (z1d _ _ _))] | refine Cut.go ?_))
   exact k3.z3a (Nat.le_refl _) _
 by_cases c5:x.Op=5
 ·have g5:decide (5<=x.Op)=true:=by simp;omega
  have g7:decide (x.Op<=7)=true:=by simp;omega
  have b2:(x.Op == 2)=false:=by simp;omega
  have b3:(x.Op == 3)=false:=by simp;omega
  have b6:(x.Op == 6)=false:=by simp;omega
  have b4:(x.Op == 4)=false:=by simp;omega
  have b7:(x.Op == 7)=false:=by simp;omega
  have b5:(x.Op == 5)=true:=by simp;omega
  have em:zbo x=4:=by simp [zbo,c5]
  (repeat (first | simp -dsimp -implicitDefEqProofs (disch:=omega) only [↓rP,rQ,rO,rL,↓reduceIte,reduceEqDiff,reduceAdd,reduceLeDiff,↓tyr,g5,g7,blC1] | refine Cut.go ?_))
  rw [ez,<-hH1,<-hH2,s3]
  (repeat (first | simp -dsimp -implicitDefEqProofs (disch:=omega) only [↓rP,rQ,rO,rL,↓reduceIte,reduceEqDiff,reduceAdd,reduceLeDiff,↓tyr,b2,b3,b6,b4,b7,b5,↓(coLd oO3)] | refine Cut.go ?_))
  exact fin _ (some ⟨1,noP,x.N,false,0,noP,0,4⟩) (by simp [z8t,c5,em]) k3 oR3 _ _ rfl
 have b2:(x.Op == 2)=false:=by simp;omega
 have b3:(x.Op == 3)=false:=by simp;omega
 have b6:(x.Op == 6)=false:=by simp;omega
 have b4:(x.Op == 4)=false:=by simp;omega
 have b7:(x.Op == 7)=false:=by simp;omega
 have b5:(x.Op == 5)=false:=by simp;omega
 have hw:z8t σ (slL p.classes) K x=none:=by unfold z8t;rw [if_neg (by omega),if_neg (by omega)]
 by_cases q:5<=x.Op
 ·have g5:decide (5<=x.Op)=true:=by simp;omega
  have g7:decide (x.Op<=7)=false:=by simp;omega
  (repeat (first | simp -dsimp -implicitDefEqProofs (disch:=omega) only [↓rP,rQ,rO,rL,↓reduceIte,reduceEqDiff,reduceAdd,reduceLeDiff,↓tyr,g5,g7,blC1] | refine Cut.go ?_))
  rw [ez,<-hH1,<-hH2]
  (repeat (first | simp -dsimp -implicitDefEqProofs (disch:=omega) only [↓rP,rQ,rO,rL,↓reduceIte,reduceEqDiff,reduceAdd,reduceLeDiff,↓tyr,b2,b3,b6,b4,b7,b5,blC0] | refine Cut.go ?_))
  exact fin _ none hw k2 oR2 z8a false rfl
 ·have g5:decide (5<=x.Op)=false:=by simp;omega
  (repeat (first | simp -dsimp -implicitDefEqProofs (disch:=omega) only [↓rP,rQ,rO,rL,↓reduceIte,reduceEqDiff,reduceAdd,reduceLeDiff,↓tyr,g5,blC1] | refine Cut.go ?_))
  rw [ez,<-hH1,<-hH2]
  (repeat (first | simp -dsimp -implicitDefEqProofs (disch:=omega) only [↓rP,rQ,rO,rL,↓reduceIte,reduceEqDiff,reduceAdd,reduceLeDiff,↓tyr,b2,b3,b6,b4,b7,b5,blC0] | refine Cut.go ?_))
  exact fin _ none hw k2 oR2 z8a false rfl
end
section
open Go.Abs
noncomputable def z6e (c:Cd) (k:Nat):List Cm:=match (slL c.Sections)[k]? with
 | none=>[]
 | some sec=>match getI (slL c.Threads) sec.Thread with
  | none=>[]
  | some b=>wantsC c sec.Thread.toNat b (secL b sec.From.toNat sec.To.toNat)
theorem zln {c:Cd} {s:Nat} {sec:z04} (hs:(slL c.Sections)[s]?=some sec) {t fr to:Nat} {b:Bd} (S:znz c sec t b fr to):z6e c s=wantsC c t b (secL b fr to):=by
 unfold z6e;rw [hs];simp only;rw [S.thr,z2e,S.bd,S.frm,S.to_]
 rfl
noncomputable def zqa (c:Cd) (cl:List Int) (pl:List (Option (List Cm))):Bool:=
 okC c&&(decide (pl.length=(slL c.Sections).length)&&(decide ((clsL c).length=(slL c.Sites).length)&&(decide (clsL c=cl)&&allK (λk l=>(z6e c k).all (covB (slL l))) pl)))
abbrev plAV (pl:Option (List (Option (List Cm)))):AV:=slAV 1 (λo=>[slAV 12 z05.cells o]) pl
theorem ztg (r:Option (List Cm)) (h:z00) (J:AV->Prop):z0t none (.iptr ((λo=>[slAV 12 z05.cells o]) r)) h J=J (slAV 12 z05.cells r):=by rw [z1q];rfl
theorem wants_few {c:Cd} (hok:okC c=true) (k:Nat):(z6e c k).length<=256:=by
 cases hs:(slL c.Sections)[k]? with
 | none=>unfold z6e;rw [hs];simp
 | some sec=>
  obtain ⟨t,b,fr,to,S⟩:=sec_of hok hs;have:=(zse hok).slo t b S.bd;rw [zln hs S];exact Nat.le_trans (List.length_filterMap_le _ _) (Nat.le_trans (zh3 b fr to) this.2)
structure PlS (pl:List (Option (List Cm))):Prop where
 few:pl.length<=1000
 row:∀ l∈pl,(slL l).length<=1000
 path:∀ l∈pl,∀ c∈slL l,za2 c.Path/\za2 c.Index
end
section
open Go.Abs
theorem RwAt.low {T:TypeId} {h:z00} {av:AV} {l:List Cm} {lo lo2:Nat} (g:RwAt T 12 z05.cells lo h av l) (hl:lo2<=lo):RwAt T 12 z05.cells lo2 h av l:=by
 rcases g with g | ⟨id,h0,h1,h2,h3,h4⟩
 ·exact Or.inl g
 ·exact Or.inr ⟨id,h0,h1,h2,Nat.le_trans hl h3,h4⟩
def MkQ (h:z00) (l:List Cm) (v:AV) (h2:z00):Prop:=∃ (D:Nat->Prop) (o:Option (List Cm)),slL o=l/\RzV h2 D v (slAV 12 z05.cells o)/\(∀ i,D i->h.next<=i/\h2.objs i≠none)/\Keeps h h2 (λ_=>False)
theorem RwAt.mk {T:TypeId} {h h2:z00} {av:AV} {l:List Cm} (g:RwAt T 12 z05.cells h.next h2 av l) (hl:l.length<=1000) (kp:Keeps h h2 (λ_=>False)):MkQ h l av h2:=by
 obtain ⟨o,h1,h3⟩:=g.rz (D:=λi=>av=.sl i 0 l.length 12) zcb (λi e=>e) (by omega);refine ⟨_,o,h1,h3,λi e=>?_,kp⟩;rcases g with ⟨_,q⟩ | ⟨id,_,q,ho,h4,_⟩
 ·rw [q] at e;cases e
 ·rw [q] at e;cases e;exact ⟨h4,by rw [ho];simp⟩
theorem MkQ.val {h:z00} {l:List Cm} {f:FuncId} {xs:List AV} (H:z01 Tryd.prog f xs h (MkQ h l)):z01 Tryd.prog f xs h (λv h2=>(∃ o,v=slAV 12 z05.cells o/\slL o=l)/\h2=h):=
 z01.result (enc:=λo:Option (List Cm)=>slAV 12 z05.cells o) (Q:=λo=>slL o=l) (λo _=>zqu _ o) (H.mono λv h2 ⟨D,o,h1,h2,h3,h4⟩=>⟨D,o,h1,h2,h3,h4⟩)
theorem bslI2 (G:z00) (J:AV->z00->Prop):z10 true { e:=3,sz:=1,by_:=8 } [AV.int .i64 0] 2 [(0,.int .i64 2),(1,.int .i64 3)] G J=J (slAV 1 encI (some [2,3])) G:=by
 simp [z10,zat,AV.fits,AV.cells,List.replicate,slAV,encI]
theorem bslI1 (G:z00) (J:AV->z00->Prop):z10 true { e:=3,sz:=1,by_:=8 } [AV.int .i64 0] 1 [(0,.int .i64 4)] G J=J (slAV 1 encI (some [4])) G:=by
 simp [z10,zat,AV.fits,AV.cells,List.replicate,slAV,encI]
theorem any23:(λc:Cm=>[2,3].any λx=>decide (c.Op=x))=zer:=by funext c;simp [zer]
theorem any4:(λc:Cm=>[4].any λx=>decide (c.Op=x))=opB 4:=by funext c;simp [opB]
theorem zip_len (l:List Cm):(zft l).length<=l.length:=by
 unfold zft;have:=zjt (l.map z4m) [];simpa using this
theorem make_does {c:Cd} {p:z02} {l:z0w} {t fr to nS:Nat} {b:Bd} {σ:Nat->Nat} {K:Nat->Vl} (pc:p.code=c) (S:znz c p.section_ t b fr to) (P:PlAt p t nS σ K) (hb:(slL b.Slots).length=nS) (hlen:(slL b.Code).length<=256) (wx:∀ x∈secL b fr to,Wx b x) (pts:PtsS (z4c σ (slL p.classes) K (secL b fr to))) (h:z00) :
  z01 Tryd.prog 19 [.agg p.cells,.agg l.cells] h (λv h2=>(∃ o,v=slAV 12 z05.cells o/\slL o=zks l.Fine l.Coarse (z4c σ (slL p.classes) K (secL b fr to)))/\h2=h):=by
 refine MkQ.val ?_;subst pc;have hlt:=S.lt;have hle:=S.le;have hL:=zh3 b fr to;obtain ⟨L,eL⟩:∃ L,L=secL b fr to:=⟨_,rfl⟩;rw [<-eL] at wx pts hL ⊢;apply ze9;have b1:∀ J:AV->Prop,z0o (.slice 3) (slAV 3 z0m.cells p.code.Threads) (.int .i64 p.section_.Thread) J=J (.iptr b.cells):=λJ=>by rw [S.thr];exact z06 S.bd _ J
 (repeat simp -dsimp -implicitDefEqProofs (disch:=omega) only [↓rP,rA,↓reduceIte,reduceEqDiff,reduceAdd,reduceLeDiff,↓tyr,↓b1])
 rw [S.frm,S.to_,wkP to (by omega),sl_code hlt hle,<-eL];have lL:∀ (J:AV->Prop),pLen .slice (slAV 8 z0a.cells (some L)) J=J (.int .i64 L.length):=λJ=>by simp
 (repeat simp -dsimp -implicitDefEqProofs (disch:=omega) only [↓rP,rA,↓reduceIte,reduceEqDiff,reduceAdd,reduceLeDiff,↓tyr,↓lL])
 have wl:∀ k,(z4c σ (slL p.classes) K (L.take k)).length<=256:=λk=>Nat.le_trans (List.length_filterMap_le _ _) (by rw [List.length_take];omega);have pl:∀ k,PtsS (z4c σ (slL p.classes) K (L.take k)):=λk x hx=>by
  obtain ⟨y,hy,he⟩:=List.mem_filterMap.1 hx;exact pts x (List.mem_filterMap.2 ⟨y,List.mem_of_mem_take hy,he⟩)
 refine WP_for' z0d (by kernel_rfl) L.length (λj (a:AV)=>frOf [(2,.iptr p.cells),(3,.iptr l.cells),(5,a),(26,slAV 8 z0a.cells (some L)),(27,.int .i64 L.length),(28,.int .i64 j)]) (λk a hh=>RwAt 42 12 z05.cells h.next hh a (z3d [] (z4c σ (slL p.classes) K (L.take k)))/\Keeps h hh (λ_=>False)) .nils ⟨Or.inl ⟨by simp [z3d,z4c],rfl⟩,.refl _ _⟩ ?_;rintro k a hh hk ⟨ga,kp⟩;have hln:(z3d [] (z4c σ (slL p.classes) K (L.take k))).length<=256:=Nat.le_trans (zjt _ _) (by have:=wl k;simpa using this);have hpt:PtsS (z3d [] (z4c σ (slL p.classes) K (L.take k))):=PtsS.all (λx hx=>by cases hx) (pl k);apply zbw
 (repeat simp -dsimp -implicitDefEqProofs (disch:=omega) only [↓rP,rA,↓reduceIte,reduceEqDiff,reduceAdd,reduceLeDiff,↓tyr])
 refine z09 (λhkl=>?_) (λhkl=>?_)
 ·obtain ⟨x,hx⟩:∃ x,(slL (some L))[k]?=some x:=⟨_,List.getElem?_eq_getElem (by simpa using hkl)⟩;have hx2:L[k]?=some x:=hx;have ew:z4c σ (slL p.classes) K (L.take (k+1))=z4c σ (slL p.classes) K (L.take k)++(z8t σ (slL p.classes) K x).toList:=by
   unfold z4c;rw [List.take_add_one,hx2,List.filterMap_append]
   cases hw:z8t σ (slL p.classes) K x with
   | none=>simp [hw]
   | some y=>simp [hw]
  (repeat simp -dsimp -implicitDefEqProofs (disch:=omega) only [↓rP,rA,↓reduceIte,reduceEqDiff,reduceAdd,reduceLeDiff,↓tyr,z06 hx])
  refine z01.go (znv P (wx x (List.mem_of_getElem? hx2)) hb _) ?_
  cases hw:z8t σ (slL p.classes) K x with
  | none=>
   rw [hw] at ew;simp only [resA]
   (repeat simp -dsimp -implicitDefEqProofs (disch:=omega) only [↓rP,rA,↓reduceIte,reduceEqDiff,reduceAdd,reduceLeDiff,↓tyr,wkP k (by omega)])
   refine forN' a (by omega) ⟨?_,?_⟩
   ·rw [ew];simpa using (ga.push _).push _
   ·exact (kp.z5e _).z5e _
  | some y=>
   rw [hw] at ew;simp only [resA]
   (repeat simp -dsimp -implicitDefEqProofs (disch:=omega) only [↓rP,rA,↓reduceIte,reduceEqDiff,reduceAdd,reduceLeDiff,↓tyr])
   refine (zjl (lo:=h.next) ((ga.push _).push _) (by have:=kp.next;simp only [z00.z2z];omega) (by omega) y hpt).mono ?_;rintro v h2 ⟨g2,k2⟩
   (repeat simp -dsimp -implicitDefEqProofs (disch:=omega) only [↓rP,rA,↓reduceIte,reduceEqDiff,reduceAdd,reduceLeDiff,↓tyr,wkP k (by omega)])
   refine forN' v (by omega) ⟨?_,((kp.z5e _).z5e _).trans k2 (λi hi e=>by omega)⟩;rw [ew]
   show RwAt _ _ _ _ _ _ (z3d [] (z4c σ (slL p.classes) K (L.take k)++[y]))
   rw [all_snoc];exact g2
 ·have hke:k=L.length:=by omega
  subst hke;rw [List.take_length] at ga hln hpt;obtain ⟨ws,ews⟩:∃ ws,ws=z4c σ (slL p.classes) K L:=⟨_,rfl⟩;rw [<-ews] at ga hln hpt pts ⊢;have last:∀ (a:AV) (H:z00) (o:List Cm),RwAt 42 12 z05.cells h.next H a o->Keeps h H (λ_=>False)->o.length<=256->o=zau l.Fine ws->(l.Coarse<(o.countP (opB 4):Nat)->z01 Tryd.prog 39 [a] H (MkQ h (zks l.Fine l.Coarse ws)))/\(¬ l.Coarse<(o.countP (opB 4):Nat)->MkQ h (zks l.Fine l.Coarse ws) a H):=λa H o g k hl eo=>by
   refine ⟨λq=>?_,λq=>?_⟩
   ·refine (pall_does (by omega) H g.rd).mono ?_;rintro _ _ ⟨rfl,rfl⟩;exact ⟨λ_=>False,some [allC o],by unfold zks;rw [<-eo,if_pos q];rfl,RzV.same _,λ_ h=>h.elim,k⟩
   ·have:zks l.Fine l.Coarse ws=o:=by unfold zks;rw [<-eo,if_neg q]
    rw [this];exact g.mk (by omega) k
  (repeat simp -dsimp -implicitDefEqProofs (disch:=omega) only [↓rP,rA,↓reduceIte,reduceEqDiff,reduceAdd,reduceLeDiff,↓tyr,↓bslI2])
  refine z01.go (zhh (by omega) [2,3] (by decide) _ ga.rd) ?_;rw [any23]
  (repeat simp -dsimp -implicitDefEqProofs (disch:=omega) only [↓rP,rA,↓reduceIte,reduceEqDiff,reduceAdd,reduceLeDiff,↓tyr])
  refine z09 (λq=>?_) (λq=>?_)
  ·(repeat simp -dsimp -implicitDefEqProofs (disch:=omega) only [↓rP,rA,↓reduceIte,reduceEqDiff,reduceAdd,reduceLeDiff,↓tyr])
   refine (zqd (by omega) _ ga.rd hpt).mono ?_;rintro v h2 ⟨g2,k2⟩;have g3:=g2.low kp.next;have hl3:=zip_len (z3d [] ws);have e3:zft (z3d [] ws)=zau l.Fine ws:=by unfold zau;rw [if_pos q]
   obtain ⟨f1,f2⟩:=last v h2 _ g3 (kp.go k2) (by omega) e3
   (repeat simp -dsimp -implicitDefEqProofs (disch:=omega) only [↓rP,rA,↓reduceIte,reduceEqDiff,reduceAdd,reduceLeDiff,↓tyr,↓bslI1])
   refine z01.go (zhh (by omega) [4] (by decide) _ g3.rd) ?_;rw [any4]
   (repeat simp -dsimp -implicitDefEqProofs (disch:=omega) only [↓rP,rA,↓reduceIte,reduceEqDiff,reduceAdd,reduceLeDiff,↓tyr])
   refine z09 (λq=>?_) (λq=>?_)
   ·(repeat simp -dsimp -implicitDefEqProofs (disch:=omega) only [↓rP,rA,↓reduceIte,reduceEqDiff,reduceAdd,reduceLeDiff,↓tyr])
    exact f1 q
   ·(repeat simp -dsimp -implicitDefEqProofs (disch:=omega) only [↓rP,rA,↓reduceIte,reduceEqDiff,reduceAdd,reduceLeDiff,↓tyr])
    exact f2 (by omega)
  ·have e3:z3d [] ws=zau l.Fine ws:=by unfold zau;rw [if_neg (by omega)]
   obtain ⟨f1,f2⟩:=last a _ _ ga kp (by omega) e3
   (repeat simp -dsimp -implicitDefEqProofs (disch:=omega) only [↓rP,rA,↓reduceIte,reduceEqDiff,reduceAdd,reduceLeDiff,↓tyr,↓bslI1])
   refine z01.go (zhh (by omega) [4] (by decide) _ ga.rd) ?_;rw [any4]
   (repeat simp -dsimp -implicitDefEqProofs (disch:=omega) only [↓rP,rA,↓reduceIte,reduceEqDiff,reduceAdd,reduceLeDiff,↓tyr])
   refine z09 (λq=>?_) (λq=>?_)
   ·(repeat simp -dsimp -implicitDefEqProofs (disch:=omega) only [↓rP,rA,↓reduceIte,reduceEqDiff,reduceAdd,reduceLeDiff,↓tyr])
    exact f1 q
   ·(repeat simp -dsimp -implicitDefEqProofs (disch:=omega) only [↓rP,rA,↓reduceIte,reduceEqDiff,reduceAdd,reduceLeDiff,↓tyr])
    exact f2 (by omega)
end
section
open Go.Abs
def zt6 (l:z0w):Bool:=decide (0<=l.Fine)&&(decide (l.Fine<=64)&&(decide (0<=l.Coarse)&&(decide (l.Coarse<=64)&&(decide (0<=l.Tries)&&decide (l.Tries<=8)))))
theorem zjq (l:z0w) (h:z00):z01 Tryd.prog 15 [.agg l.cells] h (λv h2=>v=.bool (zt6 l)/\h2=h):=by
 apply zgs;unfold zt6;cases h1:decide (0<=l.Fine) <;> cases h2:decide (l.Fine<=64) <;> cases h3:decide (0<=l.Coarse) <;> cases h4:decide (l.Coarse<=64) <;> cases h5:decide (0<=l.Tries) <;> cases h6:decide (l.Tries<=8)
 all_goals ((repeat simp -dsimp -implicitDefEqProofs (disch:=omega) only [↓rP,rA,↓reduceIte,reduceEqDiff,reduceAdd,reduceLeDiff,↓tyr,h1,h2,h3,h4,h5,h6]))
 all_goals (try simp)
theorem pSplit_v {c:Cd} (hok:okC c=true) (sm:Small c) {N:Rw->Bool} (hN:∀ r,N r=true->lenR c r=0) (a3:Bd2 c (z2j c)) (h:z00) :
  z01 Tryd.prog 17 [.int .i64 (slL c.Sites).length,.agg (z6g c (z2j c) N).cells] h (λv h2=>(∃ o,v=slAV 1 encI o/\slL o=clsL c)/\h2=h):=by
 have fw:=few_V hok sm hN a3;have hs:=sm.sites;refine z01.result (enc:=λo:Option (List Int)=>slAV 1 encI o) (Q:=λo=>slL o=clsL c) (λo _=>zbk _ o) ((split_does ((slL c.Sites).length:Nat) _ (by omega) fw.1 fw.2 fw.3 (λx hx=>⟨fw.4 x hx,λk hk=>by rw [Int.toNat_natCast];exact fw.5 x hx k hk⟩) h).mono ?_);rintro v h2 ⟨id,out,rfl,ho,h1,h3,kp,hc⟩;rw [Int.toNat_natCast,setsOf_V hN] at hc;have hcl:(out.map λn:Nat=>(n:Int))=clsL c:=by unfold clsL;rw [<-clsN_eq hc]
 have hlen:out.length=(slL c.Sites).length:=by obtain ⟨f,_,_,rfl⟩:=hc;simp
 refine ⟨λi=>i=id,some (out.map λn:Nat=>(n:Int)),hcl,rz_ints rfl ho (by omega),?_,kp⟩;rintro i rfl;exact ⟨h1,by rw [ho];simp⟩
theorem blP (c:Cd) (s:z0u) (o:Option (List Int)) (sec:z04) (ko:Option (List Vl)) (J:AV->Prop):z4b [(0,5),(5,3),(8,1),(9,3),(12,1)] [AV.nils,.nils,.nils,.nils,.nils,.nils,.nils,.nils,.nils,.int .i64 0,.int .i64 0,.int .i64 0,.nils] [(0,.agg c.cells),(1,.agg s.cells),(2,slAV 1 encI o),(3,.agg sec.cells),(4,slAV 4 z0n.cells ko)] J=J (.agg (⟨c,s,o,sec,ko⟩:z02).cells):=by
 cases o <;> cases ko <;> rfl
theorem zgu {c:Cd} (hc:c.ok) (sm:Small c) (s:z0u) (o:Option (List Int)) {k:Nat} {sec:z04} (hs:(slL c.Sections)[k]?=some sec) (h:z00) :
  z01 Tryd.prog 18 [.agg c.cells,.agg s.cells,slAV 1 encI o,.int .i64 (k:Nat)] h (λv h2=>v=.agg (⟨c,s,o,sec,zbu c (k:Nat)⟩:z02).cells/\Keeps h h2 (λ_=>False)):=by
 have lc:∀ (H:z00) (K:AV->Prop),z0t (some 5) (.iptr c.cells) H K=K (.agg c.cells):=λH K=>by rw [z1q];exact z0f.call c K
 apply zj9
 (repeat simp -dsimp -implicitDefEqProofs (disch:=omega) only [↓rP,rA,↓reduceIte,reduceEqDiff,reduceAdd,reduceLeDiff,↓tyr,↓lc,z06 hs])
 refine z01.go (Of_does c hc sm (k:Nat) _) ?_
 (repeat simp -dsimp -implicitDefEqProofs (disch:=omega) only [↓rP,rQ,rO,rL,↓reduceIte,reduceEqDiff,reduceAdd,reduceLeDiff,↓tyr,↓lc,z06 hs,blP])
 exact Keeps.one _ _
noncomputable def zgr (c:Cd) (l:z0w) (k:Nat):List Cm:=zks l.Fine l.Coarse (z6e c k)
def OfQ (c:Cd) (l:z0w) (o1:Option (List Int)) (o2:Option (List (Option (List Cm)))):Prop:=
 ((okC c&&zt6 l)=false/\o1=none/\o2=none)\/((okC c&&zt6 l)=true/\slL o1=clsL c/\(slL o2).map slL=(List.range (slL c.Sections).length).map (zgr c l)/\(clsL c).length=(slL c.Sites).length)
theorem leastS_32 {c:Cd} (wc:WfC c) (h2:Bd2 c (z2j c)) (r:Rw) (i:Nat):z2j c r i<4294967296:=Nat.lt_of_lt_of_le (h2.lt _ _) (Nat.le_trans (Nat.pow_le_pow_right (by decide) wc.sit) (by decide))
theorem ztc (b:Bd) (L:List In) (k:Nat):za2 (zko b L k).Path:=by
 have:=ofV_FL L (onB b) (slL b.Slots).length (k:Nat);unfold za2 zko;omega
theorem pts_wants {σ:Nat->Nat} {cls:List Int} {K:Nat->Vl} (hK:∀ k,za2 (K k).Path) (L:List In):PtsS (z4c σ cls K L):=λw hw=>by
 have h0:za2 noP:=by simp [za2,noP]
 obtain ⟨x,_,hx⟩:=List.mem_filterMap.1 hw;unfold z8t at hx;split at hx
 ·cases hx;exact ⟨h0,h0⟩
 ·split at hx
  ·split at hx
   ·cases hx
   ·cases hx;unfold cellC;split
    ·exact ⟨h0,h0⟩
    ·split
     ·exact ⟨hK _,h0⟩
     ·unfold zk4;split
      ·split
       ·exact ⟨hK _,h0⟩
       ·split
        ·exact ⟨hK _,hK _⟩
        ·exact ⟨h0,h0⟩
      ·exact ⟨h0,h0⟩
  ·cases hx
theorem plAt_of {c:Cd} (sm:Small c) (hok:okC c=true) {N:Rw->Bool} (hN:∀ r,N r=true->lenR c r=0) (h2:Bd2 c (z2j c)) {o:Option (List Int)} (ho:slL o=clsL c) {k:Nat} {sec:z04} (hs:(slL c.Sections)[k]?=some sec) {t fr to:Nat} {b:Bd} (S:znz c sec t b fr to) :
  PlAt (⟨c,z6g c (z2j c) N,o,sec,zbu c (k:Nat)⟩:z02) t (slL b.Slots).length (z2j c (.s t)) (zko b (secL b fr to)):=by
 have wc:=zse hok;have hth:t<(slL c.Threads).length:=(List.getElem?_eq_some_iff.1 S.bd).1;have hlr:lenR c (.s t)=(slL b.Slots).length:=by show (zb5 c t).length=_;unfold zb5;rw [S.bd]
 refine ⟨S.thr,⟨rowO c (z2j c) N (.s t),?_,?_⟩,leastS_32 wc h2 _,?_,?_⟩
 ·unfold z6g;simp only [zde];rw [List.getElem?_map,List.getElem?_range hth];rfl
 ·intro i hi;rw [zjn hN,List.getElem?_map,List.getElem?_range (by omega)];rfl
 ·show (slL o).length<=1000
  rw [ho,zo4 hok sm h2];have:=wc.sit;omega
 ·intro i hi
  show (slL (zbu c (k:Nat)))[i]?=_
  rw [zne hok hs S]
  show (pathL b (secL b fr to))[i]?=_
  unfold pathL;rw [List.getElem?_map,List.getElem?_range hi];rfl
theorem wantsS_eq' {c:Cd} {o:Option (List Int)} (ho:slL o=clsL c) {k:Nat} {sec:z04} (hs:(slL c.Sections)[k]?=some sec) {t fr to:Nat} {b:Bd} (S:znz c sec t b fr to):z4c (z2j c (.s t)) (slL o) (zko b (secL b fr to)) (secL b fr to)=z6e c k:=by
 rw [zln hs S,ho];rfl
theorem made {c:Cd} (sm:Small c) (hok:okC c=true) {N:Rw->Bool} (hN:∀ r,N r=true->lenR c r=0) (h2:Bd2 c (z2j c)) {o:Option (List Int)} (ho:slL o=clsL c) (l:z0w) {k:Nat} {sec:z04} (hs:(slL c.Sections)[k]?=some sec) (h:z00) :
  z01 Tryd.prog 19 [.agg (⟨c,z6g c (z2j c) N,o,sec,zbu c (k:Nat)⟩:z02).cells,.agg l.cells] h (λv h2=>(∃ o,v=slAV 12 z05.cells o/\slL o=zgr c l k)/\h2=h):=by
 obtain ⟨t,b,fr,to,S⟩:=sec_of hok hs;have P:=plAt_of sm hok hN h2 ho hs S;have hsl:=(zse hok).slo t b S.bd;have:=make_does (l:=l) (c:=c) (p:=⟨c,z6g c (z2j c) N,o,sec,zbu c (k:Nat)⟩) rfl S P rfl (by omega) (sec_wx hok S) (pts_wants (λk=>ztc b _ k) _) h;rw [show z4c (z2j c (.s t)) (slL (⟨c,z6g c (z2j c) N,o,sec,zbu c (k:Nat)⟩:z02).classes) (zko b (secL b fr to)) (secL b fr to)=z6e c k from wantsS_eq' ho hs S] at this;exact this
end
section
open Go.Abs
abbrev encP (o:Option (List Cm)):List AV:=[slAV 12 z05.cells o]
theorem bslP (o:Option (List Cm)) (G:z00) (J:AV->z00->Prop):z10 true { e:=38,sz:=1,by_:=24 } [AV.nils] 1 [(0,slAV 12 z05.cells o)] G J=J (.isl 1 [encP o]) G:=by
 cases o <;> simp [z10,zat,AV.fits,AV.cells,List.replicate,slAV,encP]
theorem ids_pl (D:Nat->Prop) (o:Option (List (Option (List Cm)))):z1w D (plAV o):=ids_slAV (enc:=encP) (λx=>⟨zqu D x,trivial⟩) o
theorem GvAt.app3 {α:Type} {T:TypeId} {sz:Nat} {enc:α->List AV} {hh:z00} {av:AV} {l:List α} {h:z00} (g:GvAt T sz enc h.next hh av l) (kp:Keeps h hh (λ_=>False)) {b:Nat} (hl:l.length<=10000) (hb:b<=1000) (x:α) (J:AV->z00->Prop)
  (hJ:∀ av2 h2,GvAt T sz enc h.next h2 av2 (l++[x])->Keeps h h2 (λ_=>False)->(∀ i ty cs,i<hh.next->hh.objs i=some (.row ty cs)->h2.objs i=some (.row ty cs)/\i<h2.next)->J av2 h2):z1x true { e:=T,sz:=sz,by_:=b } av (.isl sz [enc x]) hh J:=by
 have hkn:=kp.next;have hbd:∀ n,n<=10001->bounded { e:=T,sz:=sz,by_:=b } n:=λn hn=>by
  have:n*b<=10001*1000:=Nat.mul_le_mul hn hb;simp only [bounded,maxLen];omega
 rcases g with ⟨rfl,rfl⟩ | ⟨hne,id,rfl,ho,h1,h2⟩
 ·have:=hJ (.gsl hh.next sz [enc x]) (hh.push (.tok T (1*sz))) (Or.inr ⟨by simp,hh.next,rfl,z19 _ _,hkn,by simp⟩) (kp.z5e _) (λi ty cs hi e=>⟨by rw [z16 hi];exact e,Nat.lt_succ_of_lt hi⟩);simp only [z1x,z1v,if_true,zgg];exact ⟨hbd _ (by simp),this⟩
 ·have:=hJ (.gsl hh.next sz (l.map enc++[enc x])) ((hh.kill id).push (.tok T ((l++[x]).length*sz))) (Or.inr ⟨by simp,hh.next,by simp,z19 (hh.kill id) _,hkn,Nat.lt_succ_self _⟩) ((kp.zkn h1).z5e _) (λi ty cs hi e=>by
   have hne:i≠id:=λq=>by rw [q,ho] at e;cases e
   exact ⟨by rw [z16 (h:=hh.kill id) hi,zjj hne];exact e,Nat.lt_succ_of_lt hi⟩)
  simp only [z1x,z1v,if_true,ho,List.length_map,List.length_cons,List.length_nil,true_and];refine ⟨hbd _ (by omega),?_⟩;simpa using this
section
variable {c:Cd} (hc:c.ok) (sm:Small c) (hok:okC c=true) {N:Rw->Bool} (hN:∀ r,N r=true->lenR c r=0) (h2:Bd2 c (z2j c)) {o:Option (List Int)} (ho:slL o=clsL c) (l:z0w)
include hc sm hok hN h2 ho
theorem pof_7 {h h0:z00} {sid:Nat} (oS:h.objs sid=some (.row 64 (z6g c (z2j c) N).cells)) (hsid:sid<h.next) (kp0:Keeps h0 h (λ_=>False)) (Q:z1z->Fr->z00->Prop)
  (hQ:∀ hh av los,GvAt 38 1 encP h0.next hh av los->los.map slL=(List.range (slL c.Sections).length).map (zgr c l)->Keeps h0 hh (λ_=>False)->Q (.exit 0) (frOf [(7,slAV 1 encI o),(8,av)]) hh) :
  WP Tryd.prog 44 (.loop zeq) (frOf [(2,.iptr c.cells),(3,.iptr l.cells),(6,.ptr sid 0),(7,slAV 1 encI o),(8,.nils),(27,.int .i64 (slL c.Sections).length),(28,.int .i64 0)]) h Q:=by
 have lc:∀ (H:z00) (K:AV->Prop),z0t (some 5) (.iptr c.cells) H K=K (.agg c.cells):=λH K=>by rw [z1q];exact z0f.call c K
 have ll:∀ (H:z00) (K:AV->Prop),z0t (some 3) (.iptr l.cells) H K=K (.agg l.cells):=λH K=>by rw [z1q];exact z0w.call l K
 have hsec:(slL c.Sections).length<=1000:=by have:=sm.secs;omega
 refine WP_for' z0d (by kernel_rfl) (slL c.Sections).length (λj (a:AV)=>frOf [(2,.iptr c.cells),(3,.iptr l.cells),(6,.ptr sid 0),(7,slAV 1 encI o),(8,a),(27,.int .i64 (slL c.Sections).length),(28,.int .i64 j)]) (λk a hh=>∃ los,GvAt 38 1 encP h0.next hh a los/\los.map slL=(List.range k).map (zgr c l)/\Keeps h0 hh (λ_=>False)/\hh.objs sid=some (.row 64 (z6g c (z2j c) N).cells)/\sid<hh.next) .nils ⟨[],Or.inl ⟨rfl,rfl⟩,rfl,kp0,oS,hsid⟩ ?_;rintro k a hh hk ⟨los,ga,hlos,kp,oS,hsid⟩;have hln:los.length=k:=by have:=congrArg List.length hlos;simpa using this
 apply zpc
 (repeat simp -dsimp -implicitDefEqProofs (disch:=omega) only [↓rP,rA,↓reduceIte,reduceEqDiff,reduceAdd,reduceLeDiff,↓tyr])
 refine z09 (λhkl=>?_) (λhkl=>?_)
 ·obtain ⟨sec,hs⟩:∃ x,(slL c.Sections)[k]?=some x:=⟨_,List.getElem?_eq_getElem (by omega)⟩;have ls:∀ (H:z00),Keeps hh H (λ_=>False)->∀ K:AV->Prop,z0t (some 3) (.ptr sid 0) H K=K (.agg (z6g c (z2j c) N).cells):=λH kH K=>by rw [z0b (by rw [kH.objs _ hsid (by simp)];exact oS)];exact z0u.call _ K
  have nx:∀ (H:z00),Keeps hh H (λ_=>False)->∀ (x:Option (List Cm)),slL x=zgr c l k->∀ (J:AV->z00->Prop),(∀ av2 H2,z3v (forI' (slL c.Sections).length (λj (a:AV)=>frOf [(2,.iptr c.cells),(3,.iptr l.cells),(6,.ptr sid 0),(7,slAV 1 encI o),(8,a),(27,.int .i64 (slL c.Sections).length),(28,.int .i64 j)]) (λk a hh=>∃ los,GvAt 38 1 encP h0.next hh a los/\los.map slL=(List.range k).map (zgr c l)/\Keeps h0 hh (λ_=>False)/\hh.objs sid=some (.row 64 (z6g c (z2j c) N).cells)/\sid<hh.next)) ((slL c.Sections).length-k) Q .normal (frOf [(2,.iptr c.cells),(3,.iptr l.cells),(6,.ptr sid 0),(7,slAV 1 encI o),(8,av2),(27,.int .i64 (slL c.Sections).length),(28,.int .i64 ((k+1:Nat):Int))]) H2->J av2 H2)->z1x true { e:=38,sz:=1,by_:=24 } a (.isl 1 [encP x]) H J:=λH kH x hx J hJ=>by
   refine (ga.keep kH (λ_ _ e=>e)).app3 (kp.go kH) (by omega) (by omega) x J λav2 H2 g2 k2 st=>hJ av2 H2 ?_;obtain ⟨oS2,hsid2⟩:=st sid _ _ (Nat.lt_of_lt_of_le hsid kH.next) (by rw [kH.objs _ hsid (by simp)];exact oS);refine forN' av2 (by omega) ⟨los++[x],g2,?_,k2,oS2,?_⟩
   ·rw [List.map_append,hlos,List.range_succ,List.map_append];simp [hx]
   ·exact hsid2
  (repeat simp -dsimp -implicitDefEqProofs (disch:=omega) only [↓rP,rA,↓reduceIte,reduceEqDiff,reduceAdd,reduceLeDiff,↓tyr,↓lc,↓ll,↓(ls hh (.refl _ _))])
  refine ⟨?_,?_⟩
  all_goals
   refine (zgu hc sm _ o hs hh).mono ?_;rintro _ H1 ⟨rfl,kH⟩
   (repeat simp -dsimp -implicitDefEqProofs (disch:=omega) only [↓rP,rA,↓reduceIte,reduceEqDiff,reduceAdd,reduceLeDiff,↓tyr,↓lc,↓ll,↓(ls H1 kH)])
   try refine ⟨?_,?_⟩
  all_goals
   refine (made sm hok hN h2 ho l hs _).mono ?_;rintro _ _ ⟨⟨x,rfl,hx⟩,rfl⟩
   (repeat simp -dsimp -implicitDefEqProofs (disch:=omega) only [↓rP,rA,↓reduceIte,reduceEqDiff,reduceAdd,reduceLeDiff,↓tyr,↓lc,↓ll,↓(ls _ kH),↓bslP])
   refine nx _ kH x hx _ λav2 H2 q=>?_
   (repeat simp -dsimp -implicitDefEqProofs (disch:=omega) only [↓rP,rA,↓reduceIte,reduceEqDiff,reduceAdd,reduceLeDiff,↓tyr,↓lc,↓ll,wkP k (by omega)])
   exact q
 ·have hke:k=(slL c.Sections).length:=by omega
  subst hke
  (repeat simp -dsimp -implicitDefEqProofs (disch:=omega) only [↓rP,rA,↓reduceIte,reduceEqDiff,reduceAdd,reduceLeDiff,↓tyr])
  exact hQ hh a los ga hlos kp
end
theorem rz_tup {H:z00} {D:Nat->Prop} {xs bs:List AV} (h:RzL H D xs bs):RzV H D (.tup xs) (.tup bs):=λc c' w F v hv=>by
 simp only [VRel] at hv ⊢;obtain ⟨vs,rfl,hl⟩:=hv;exact ⟨vs,rfl,h c c' w F _ hl⟩
theorem pOf_does {c:Cd} (hc:c.ok) (sm:Small c) (l:z0w) (h:z00):z01 Tryd.prog 9 [.agg c.cells,.agg l.cells] h (λv h2=>(∃ o1 o2,v=.tup [slAV 1 encI o1,plAV o2]/\OfQ c l o1 o2)/\h2=h):=by
 refine (z01.result (enc:=λz:Option (List Int)×Option (List (Option (List Cm)))=>.tup [slAV 1 encI z.1,plAV z.2]) (Q:=λz=>OfQ c l z.1 z.2) (λz _=>⟨zbk _ _,ids_pl _ _,trivial⟩) ?_).mono (λv h2 ⟨⟨z,e1,e2⟩,e3⟩=>⟨⟨z.1,z.2,e1,e2⟩,e3⟩);have lc:∀ (H:z00) (K:AV->Prop),z0t (some 5) (.iptr c.cells) H K=K (.agg c.cells):=λH K=>by rw [z1q];exact z0f.call c K
 have ll:∀ (H:z00) (K:AV->Prop),z0t (some 3) (.iptr l.cells) H K=K (.agg l.cells):=λH K=>by rw [z1q];exact z0w.call l K
 apply plan_Of_wp
 (repeat simp -dsimp -implicitDefEqProofs (disch:=omega) only [↓rP,rA,↓reduceIte,reduceEqDiff,reduceAdd,reduceLeDiff,↓tyr,↓lc,↓ll])
 refine z01.go (zbf c hc sm _) ?_
 cases hok:okC c with
 | false=>
  (repeat simp -dsimp -implicitDefEqProofs (disch:=omega) only [↓rP,rA,↓reduceIte,reduceEqDiff,reduceAdd,reduceLeDiff,↓tyr])
  exact ⟨λ_=>False,(none,none),Or.inl ⟨by rw [hok];rfl,rfl,rfl⟩,RzV.same _,λ_ h=>h.elim,.refl _ _⟩
 | true=>
  (repeat simp -dsimp -implicitDefEqProofs (disch:=omega) only [↓rP,rA,↓reduceIte,reduceEqDiff,reduceAdd,reduceLeDiff,↓tyr,↓lc,↓ll])
  refine z01.go (zjq l _) ?_
  cases hg:zt6 l with
  | false=>
   (repeat simp -dsimp -implicitDefEqProofs (disch:=omega) only [↓rP,rA,↓reduceIte,reduceEqDiff,reduceAdd,reduceLeDiff,↓tyr])
   exact ⟨λ_=>False,(none,none),Or.inl ⟨by rw [hok,hg];rfl,rfl,rfl⟩,RzV.same _,λ_ h=>h.elim,.refl _ _⟩
  | true=>
   (repeat simp -dsimp -implicitDefEqProofs (disch:=omega) only [↓rP,rA,↓reduceIte,reduceEqDiff,reduceAdd,reduceLeDiff,↓tyr,↓lc,↓ll])
   refine (pSolve_v c hc sm h).mono ?_;rintro _ h ⟨⟨st,rfl,hv⟩,rfl⟩;rcases hv with ⟨hf,_⟩ | ⟨_,N,rfl,hN,h2,hR⟩
   ·rw [hok] at hf;cases hf
   (repeat simp -dsimp -implicitDefEqProofs (disch:=omega) only [↓rP,rA,↓reduceIte,reduceEqDiff,reduceAdd,reduceLeDiff,↓tyr,↓lc,↓ll])
   obtain ⟨H,hH⟩:∃ H,H=h.push (.row 64 (z6g c (z2j c) N).cells):=⟨_,rfl⟩;have oS:H.objs h.next=some (.row 64 (z6g c (z2j c) N).cells):=by rw [hH];exact z19 _ _
   have kH:Keeps h H (λ_=>False):=by rw [hH];exact Keeps.one _ _
   have nH:h.next<H.next:=by rw [hH];exact Nat.lt_succ_self _
   rw [<-hH];refine (pSplit_v hok sm hN h2 H).mono ?_;rintro _ _ ⟨⟨o,rfl,ho⟩,rfl⟩
   (repeat simp -dsimp -implicitDefEqProofs (disch:=omega) only [↓rP,rA,↓reduceIte,reduceEqDiff,reduceAdd,reduceLeDiff,↓tyr,↓lc,↓ll])
   refine pof_7 hc sm hok hN h2 ho l (h0:=h) oS nH kH _ λhh av los g hl k=>?_;have hln:los.length=(slL c.Sections).length:=by have:=congrArg List.length hl;simpa using this
   have:=sm.secs
   (repeat simp -dsimp -implicitDefEqProofs (disch:=omega) only [↓rP,rA,↓reduceIte,reduceEqDiff,reduceAdd,reduceLeDiff,↓tyr])
   exact ⟨λ_=>False,(o,some los),Or.inr ⟨by rw [hok,hg];rfl,ho,hl,zo4 hok sm h2⟩,rz_tup (RzL.cons (RzV.same _) (RzL.cons (g.rz (by omega)) RzL.nil)),λ_ e=>e.elim,k⟩
end
section
open Go.Abs
theorem cov_eq (c w:Cm) (h:c.Op=4):(!decide (w.Op=1)&&decide (c.Class=w.Class)||tgB c w)=(!decide (w.Op=1)&&decide (c.Class=w.Class)):=by
 cases ht:tgB c w with
 | false=>simp
 | true=>
  have e:=tgB_iff.1 ht;have e1:c.Op=w.Op:=congrArg Prod.fst e;have e2:c.Class=w.Class:=congrArg (λz=>z.2.2.2.2.1) e;have:¬ w.Op=1:=by omega
  simp [this,e2]
theorem zsr (l:Option (List Cm)) (w:Cm) (hl:(slL l).length<=1000) (hp:PtsS (slL l)) (h:z00) :
  z01 Tryd.prog 22 [slAV 12 z05.cells l,.agg w.cells] h (λv h2=>v=.bool (covB (slL l) w)/\h2=h):=by
 apply zmg
 (repeat simp -dsimp -implicitDefEqProofs (disch:=omega) only [↓rP,rA,↓reduceIte,reduceEqDiff,reduceAdd,reduceLeDiff,↓tyr])
 apply z4t;refine (zqv (by omega) (cov1 w) _ h (rd_slAV l h) λx hx R hR=>?_).mono ?_
 ·simp only [z7d,List.nil_append,List.append_nil,List.singleton_append,List.cons_append];apply zj8;by_cases m:x.Mode<w.Mode
  ·have e:cov1 w x=false:=by unfold cov1;simp;intro q;omega
   rw [e] at hR;have em:decide (x.Mode<w.Mode)=true:=decide_eq_true m
   (repeat simp -dsimp -implicitDefEqProofs (disch:=omega) only [↓rP,rA,↓reduceIte,reduceEqDiff,reduceAdd,reduceLeDiff,↓tyr,em])
   exact hR
  have em:decide (x.Mode<w.Mode)=false:=decide_eq_false m;have em2:decide (w.Mode<=x.Mode)=true:=decide_eq_true (by omega);by_cases o5:x.Op=5
  ·have e:cov1 w x=true:=by unfold cov1;simp [em2,o5]
   rw [e] at hR;have b5:(x.Op == 5)=true:=by simpa using o5
   (repeat simp -dsimp -implicitDefEqProofs (disch:=omega) only [↓rP,rA,↓reduceIte,reduceEqDiff,reduceAdd,reduceLeDiff,↓tyr,em,b5])
   exact hR
  have b5:(x.Op == 5)=false:=by simpa using o5
  by_cases o4:x.Op=4
  ·have b4:(x.Op == 4)=true:=by simpa using o4
   have e:cov1 w x=(!decide (w.Op=1)&&decide (x.Class=w.Class)):=by
    unfold cov1;rw [em2,Bool.true_and,decide_eq_false o5,Bool.false_or,decide_eq_true o4,Bool.true_and];exact cov_eq x w o4
   rw [e] at hR;by_cases w1:w.Op=1
   ·have b1:(w.Op != 1)=false:=by simpa using w1
    rw [decide_eq_true w1,Bool.not_true,Bool.false_and] at hR
    (repeat simp -dsimp -implicitDefEqProofs (disch:=omega) only [↓rP,rA,↓reduceIte,reduceEqDiff,reduceAdd,reduceLeDiff,↓tyr,em,b5,b4,b1])
    exact hR
   ·have b1:(w.Op != 1)=true:=by simpa using w1
    rw [decide_eq_false w1,Bool.not_false,Bool.true_and] at hR
    cases hc:decide (x.Class=w.Class) with
    | true=>
     have bc:(x.Class == w.Class)=true:=by simpa using hc
     rw [hc] at hR
     (repeat simp -dsimp -implicitDefEqProofs (disch:=omega) only [↓rP,rA,↓reduceIte,reduceEqDiff,reduceAdd,reduceLeDiff,↓tyr,em,b5,b4,b1,bc])
     exact hR
    | false=>
     have bc:(x.Class == w.Class)=false:=by simpa using hc
     rw [hc] at hR
     (repeat simp -dsimp -implicitDefEqProofs (disch:=omega) only [↓rP,rA,↓reduceIte,reduceEqDiff,reduceAdd,reduceLeDiff,↓tyr,em,b5,b4,b1,bc])
     exact hR
  have b4:(x.Op == 4)=false:=by simpa using o4
  have e:cov1 w x=tgB x w:=by unfold cov1;rw [em2,Bool.true_and,decide_eq_false o5,Bool.false_or,decide_eq_false o4,Bool.false_and,Bool.false_or]
  rw [e] at hR
  (repeat simp -dsimp -implicitDefEqProofs (disch:=omega) only [↓rP,rA,↓reduceIte,reduceEqDiff,reduceAdd,reduceLeDiff,↓tyr,em,b5,b4,↓zqc])
  refine z01.go (znf x w (hp x hx).1 (hp x hx).2 _) ?_
  (repeat simp -dsimp -implicitDefEqProofs (disch:=omega) only [↓rP,rA,↓reduceIte,reduceEqDiff,reduceAdd,reduceLeDiff,↓tyr])
  exact hR
 ·rintro _ _ ⟨rfl,rfl⟩;have e:=zgv (p:=cov1 w) (l:=slL l);have e3:decide (0<=posI (cov1 w) (slL l))=covB (slL l) w:=by
   unfold covB
   cases q:(slL l).any (cov1 w) with
   | false=>exact decide_eq_false (by have:=e.2 q;omega)
   | true=>exact decide_eq_true (by have:¬ posI (cov1 w) (slL l)<0:=(λz=>by rw [e.1 z] at q;cases q);omega)
  (repeat simp -dsimp -implicitDefEqProofs (disch:=omega) only [↓rP,rA,↓reduceIte,reduceEqDiff,reduceAdd,reduceLeDiff,↓tyr,e3])
theorem pcheck_11 {p:z02} {t nS:Nat} {b:Bd} {σ:Nat->Nat} {K:Nat->Vl} (P:PlAt p t nS σ K) (hb:(slL b.Slots).length=nS) {L:List In} (hL:L.length<=1000) (wx:∀ x∈L,Wx b x) (l:Option (List Cm)) (hl:(slL l).length<=1000) (hp:PtsS (slL l)) {pid:Nat} (A1 A3 A7 A36 A37 A38:AV) (h:z00) (oP:h.objs pid=some (.row 69 p.cells)) (hpid:pid<h.next) (Q:z1z->Fr->z00->Prop)
  (h1:∀ hh,Keeps h hh (λ_=>False)->(z4c σ (slL p.classes) K L).all (covB (slL l))=true->Q (.exit 2) (frOf [(1,A1),(3,A3),(7,A7),(36,A36),(37,A37),(38,A38)]) hh)
  (h2:∀ hh,Keeps h hh (λ_=>False)->(z4c σ (slL p.classes) K L).all (covB (slL l))=false->Q .ret (frOf [(6,.bool false)]) hh) :
  WP Tryd.prog 84 (.loop z90) (frOf [(1,A1),(3,A3),(7,A7),(9,slAV 12 z05.cells l),(10,.ptr pid 0),(36,A36),(37,A37),(38,A38),(63,slAV 8 z0a.cells (some L)),(64,.int .i64 L.length),(65,.int .i64 0)]) h Q:=by
 refine zmq z0d (by kernel_rfl) L.length (λj=>frOf [(1,A1),(3,A3),(7,A7),(9,slAV 12 z05.cells l),(10,.ptr pid 0),(36,A36),(37,A37),(38,A38),(63,slAV 8 z0a.cells (some L)),(64,.int .i64 L.length),(65,.int .i64 j)]) (λj hh=>(z4c σ (slL p.classes) K (L.take j)).all (covB (slL l))=true/\Keeps h hh (λ_=>False)) ⟨rfl,.refl _ _⟩ ?_;rintro j hh hj ⟨ht,kp⟩;apply zhz
 (repeat simp -dsimp -implicitDefEqProofs (disch:=omega) only [↓rP,rA,↓reduceIte,reduceEqDiff,reduceAdd,reduceLeDiff,↓tyr])
 refine z09 (λhkl=>?_) (λhkl=>?_)
 ·obtain ⟨x,hx⟩:∃ x,(slL (some L))[j]?=some x:=⟨_,List.getElem?_eq_getElem (by simpa using hkl)⟩;have hx2:L[j]?=some x:=hx;have ew:z4c σ (slL p.classes) K (L.take (j+1))=z4c σ (slL p.classes) K (L.take j)++(z8t σ (slL p.classes) K x).toList:=by
   unfold z4c;rw [List.take_add_one,hx2,List.filterMap_append]
   cases hw:z8t σ (slL p.classes) K x with
   | none=>simp [hw]
   | some y=>simp [hw]
  have lp:∀ z (J:AV->Prop),z0t (some 13) (.ptr pid 0) (hh.push z) J=J (.agg p.cells):=λz J=>by rw [z0b (by rw [(kp.z5e z).objs _ hpid (by simp)];exact oP)];exact z02.call p J
  (repeat simp -dsimp -implicitDefEqProofs (disch:=omega) only [↓rP,rA,↓reduceIte,reduceEqDiff,reduceAdd,reduceLeDiff,↓tyr,z06 hx,↓lp])
  refine z01.go (znv P (wx x (List.mem_of_getElem? hx2)) hb _) ?_
  cases hw:z8t σ (slL p.classes) K x with
  | none=>
   rw [hw] at ew;simp only [resA]
   (repeat simp -dsimp -implicitDefEqProofs (disch:=omega) only [↓rP,rA,↓reduceIte,reduceEqDiff,reduceAdd,reduceLeDiff,↓tyr,wkP j (by omega)])
   exact forN (by omega) ⟨by rw [ew];simpa using ht,(kp.z5e _).z5e _⟩
  | some y=>
   rw [hw] at ew;simp only [resA]
   (repeat simp -dsimp -implicitDefEqProofs (disch:=omega) only [↓rP,rA,↓reduceIte,reduceEqDiff,reduceAdd,reduceLeDiff,↓tyr])
   refine z01.go (zsr l y hl hp _) ?_
   cases hcv:covB (slL l) y with
   | true=>
    (repeat simp -dsimp -implicitDefEqProofs (disch:=omega) only [↓rP,rA,↓reduceIte,reduceEqDiff,reduceAdd,reduceLeDiff,↓tyr,wkP j (by omega)])
    exact forN (by omega) ⟨by rw [ew,List.all_append,ht];simp [hcv],(kp.z5e _).z5e _⟩
   | false=>
    (repeat simp -dsimp -implicitDefEqProofs (disch:=omega) only [↓rP,rA,↓reduceIte,reduceEqDiff,reduceAdd,reduceLeDiff,↓tyr])
    refine h2 _ ((kp.z5e _).z5e _) ?_;rw [List.all_eq_false];refine ⟨y,?_,by simp [hcv]⟩;have:y∈z4c σ (slL p.classes) K (L.take (j+1)):=by rw [ew];simp
    obtain ⟨z,hz,he⟩:=List.mem_filterMap.1 this;exact List.mem_filterMap.2 ⟨z,List.mem_of_mem_take hz,he⟩
 ·have hke:j=L.length:=by omega
  subst hke
  (repeat simp -dsimp -implicitDefEqProofs (disch:=omega) only [↓rP,rA,↓reduceIte,reduceEqDiff,reduceAdd,reduceLeDiff,↓tyr])
  rw [List.take_length] at ht;exact h1 hh kp ht
theorem pcheck_7 {c:Cd} (hc:c.ok) (sm:Small c) (hok:okC c=true) {N:Rw->Bool} (hN:∀ r,N r=true->lenR c r=0) (h2':Bd2 c (z2j c)) {o:Option (List Int)} (ho:slL o=clsL c) (pl:Option (List (Option (List Cm)))) (ps:PlS (slL pl)) (hl:(slL pl).length=(slL c.Sections).length) {sid:Nat} (h:z00) (oS:h.objs sid=some (.row 64 (z6g c (z2j c) N).cells)) (hsid:sid<h.next) (Q:z1z->Fr->z00->Prop)
  (h1:∀ hh,Keeps h hh (λ_=>False)->allK (λk l=>(z6e c k).all (covB (slL l))) (slL pl)=true->Q (.exit 0) (frOf []) hh) (h2:∀ hh,Keeps h hh (λ_=>False)->allK (λk l=>(z6e c k).all (covB (slL l))) (slL pl)=false->Q .ret (frOf [(6,.bool false)]) hh) :
  WP Tryd.prog 84 (.loop za4) (frOf [(1,slAV 1 encI o),(3,.iptr c.cells),(7,.ptr sid 0),(36,plAV pl),(37,.int .i64 (slL pl).length),(38,.int .i64 0)]) h Q:=by
 have hf:=ps.few;have lc:∀ (H:z00) (K:AV->Prop),z0t (some 5) (.iptr c.cells) H K=K (.agg c.cells):=λH K=>by rw [z1q];exact z0f.call c K
 refine zmq z0d (by kernel_rfl) (slL pl).length (λj=>frOf [(1,slAV 1 encI o),(3,.iptr c.cells),(7,.ptr sid 0),(36,plAV pl),(37,.int .i64 (slL pl).length),(38,.int .i64 j)]) (λj hh=>upTo (λk l=>(z6e c k).all (covB (slL l))) (slL pl) j/\Keeps h hh (λ_=>False)) ⟨z2k _ _,.refl _ _⟩ ?_;rintro j hh hj ⟨ht,kp⟩;apply zj6
 (repeat simp -dsimp -implicitDefEqProofs (disch:=omega) only [↓rP,rA,↓reduceIte,reduceEqDiff,reduceAdd,reduceLeDiff,↓tyr])
 refine z09 (λhjl=>?_) (λhjl=>?_)
 ·obtain ⟨l,hx⟩:∃ x,(slL pl)[j]?=some x:=⟨_,List.getElem?_eq_getElem (by omega)⟩;obtain ⟨sec,hs⟩:∃ x,(slL c.Sections)[j]?=some x:=⟨_,List.getElem?_eq_getElem (by omega)⟩;obtain ⟨t,b,fr,to,S⟩:=sec_of hok hs;have P:=plAt_of sm hok hN h2' ho hs S;have hsl:=(zse hok).slo t b S.bd;have hlt:=S.lt;have hle:=S.le;have hL:=zh3 b fr to;have hm:=List.mem_of_getElem? hx;have ls:∀ K:AV->Prop,z0t (some 3) (.ptr sid 0) hh K=K (.agg (z6g c (z2j c) N).cells):=λK=>by rw [z0b (by rw [kp.objs _ hsid (by simp)];exact oS)];exact z0u.call _ K
  (repeat simp -dsimp -implicitDefEqProofs (disch:=omega) only [↓rP,rA,↓reduceIte,reduceEqDiff,reduceAdd,reduceLeDiff,↓tyr,z06 hx,↓ztg,↓lc,↓ls])
  refine (zgu hc sm _ o hs hh).mono ?_;rintro _ H1 ⟨rfl,kH⟩;obtain ⟨p,ep⟩:∃ p:z02,p=⟨c,z6g c (z2j c) N,o,sec,zbu c (j:Nat)⟩:=⟨_,rfl⟩;rw [<-ep] at P ⊢;have pt:p.section_.Thread=t:=by rw [ep];exact S.thr
  have pf:p.section_.From=fr:=by rw [ep];exact S.frm
  have pto:p.section_.To=to:=by rw [ep];exact S.to_
  obtain ⟨H2,hH2⟩:∃ H,H=H1.push (.row 69 p.cells):=⟨_,rfl⟩;have oP:H2.objs H1.next=some (.row 69 p.cells):=by rw [hH2];exact z19 _ _
  have k2:Keeps h H2 (λ_=>False):=by rw [hH2];exact (kp.go kH).z5e _
  have b1:∀ J:AV->Prop,z0o (.slice 3) (slAV 3 z0m.cells c.Threads) (.int .i64 (t:Nat)) J=J (.iptr b.cells):=λJ=>z06 S.bd _ J
  (repeat simp -dsimp -implicitDefEqProofs (disch:=omega) only [↓rP,rA,↓reduceIte,reduceEqDiff,reduceAdd,reduceLeDiff,↓tyr])
  rw [<-hH2];rw [pt,b1];have ew:z4c (z2j c (.s t)) (slL p.classes) (zko b (secL b fr to)) (secL b fr to)=z6e c j:=by rw [ep];exact wantsS_eq' ho hs S
  obtain ⟨L,eL⟩:∃ L,L=secL b fr to:=⟨_,rfl⟩;have slc:=λJ=>sl_code (b:=b) (fr:=fr) (to:=to) hlt hle J;have wx:=sec_wx hok S;rw [<-eL] at P ew hL slc wx;have lL:∀ (J:AV->Prop),pLen .slice (slAV 8 z0a.cells (some L)) J=J (.int .i64 L.length):=λJ=>by simp
  (repeat simp -dsimp -implicitDefEqProofs (disch:=omega) only [↓rP,rA,↓reduceIte,reduceEqDiff,reduceAdd,reduceLeDiff,↓tyr,z0b oP,pf,pto,wkP to (by omega),↓slc,↓lL])
  refine pcheck_11 P rfl (by omega) wx l (ps.row l hm) (ps.path l hm) _ _ _ _ _ _ H2 oP (by rw [hH2];exact Nat.lt_succ_self _) _ (λh3 k3 e=>?_) (λh3 k3 e=>?_)
  ·rw [ew] at e
   (repeat simp -dsimp -implicitDefEqProofs (disch:=omega) only [↓rP,rA,↓reduceIte,reduceEqDiff,reduceAdd,reduceLeDiff,↓tyr,wkP j (by omega)])
   exact forN (by omega) ⟨z2c ht hx e,k2.go k3⟩
  ·rw [ew] at e
   (repeat simp -dsimp -implicitDefEqProofs (disch:=omega) only [↓rP,rA,↓reduceIte,reduceEqDiff,reduceAdd,reduceLeDiff,↓tyr])
   exact h2 _ (k2.go k3) (by rw [Bool.eq_false_iff];intro q;rw [z2h] at q;have:=q j l hx;rw [e] at this;cases this)
 ·(repeat simp -dsimp -implicitDefEqProofs (disch:=omega) only [↓rP,rA,↓reduceIte,reduceEqDiff,reduceAdd,reduceLeDiff,↓tyr])
  have e:j=(slL pl).length:=by omega
  rw [e] at ht;exact h1 hh kp (z6w ht)
theorem zkx {c:Cd} (hc:c.ok) (sm:Small c) (cl:Option (List Int)) (hcl:(slL cl).length<=1000) (pl:Option (List (Option (List Cm)))) (ps:PlS (slL pl)) (h:z00) :
  z01 Tryd.prog 10 [.agg c.cells,slAV 1 encI cl,plAV pl] h (λv h2=>v=.bool (zqa c (slL cl) (slL pl))/\h2=h):=by
 refine z01.forget (by simp [z1w]) ?_;have lc:∀ (H:z00) (K:AV->Prop),z0t (some 5) (.iptr c.cells) H K=K (.agg c.cells):=λH K=>by rw [z1q];exact z0f.call c K
 unfold zqa;apply zpb
 (repeat simp -dsimp -implicitDefEqProofs (disch:=omega) only [↓rP,rA,↓reduceIte,reduceEqDiff,reduceAdd,reduceLeDiff,↓tyr,↓lc])
 refine z01.go (zbf c hc sm _) ?_
 cases hok:okC c with
 | false=>
  (repeat simp -dsimp -implicitDefEqProofs (disch:=omega) only [↓rP,rA,↓reduceIte,reduceEqDiff,reduceAdd,reduceLeDiff,↓tyr])
  (first | (refine And.intro (by simp) ?_;(repeat (first | assumption | with_reducible exact Keeps.refl _ _ | with_reducible refine Keeps.go ?_ (Keeps.one _ _) | with_reducible refine Keeps.go ?_ (by assumption)))) | (repeat (first | assumption | with_reducible exact Keeps.refl _ _ | with_reducible refine Keeps.go ?_ (Keeps.one _ _) | with_reducible refine Keeps.go ?_ (by assumption))))
 | true=>
  by_cases hl:(slL pl).length=(slL c.Sections).length
  ·have el:(((slL pl).length:Int) != ((slL c.Sections).length:Int))=false:=by simp;omega
   (repeat simp -dsimp -implicitDefEqProofs (disch:=omega) only [↓rP,rA,↓reduceIte,reduceEqDiff,reduceAdd,reduceLeDiff,↓tyr,el,↓lc])
   refine (pSolve_v c hc sm h).mono ?_;rintro _ h ⟨⟨st,rfl,hv⟩,rfl⟩;rcases hv with ⟨hf,_⟩ | ⟨_,N,rfl,hN,h2,hR⟩
   ·rw [hok] at hf;cases hf
   (repeat simp -dsimp -implicitDefEqProofs (disch:=omega) only [↓rP,rA,↓reduceIte,reduceEqDiff,reduceAdd,reduceLeDiff,↓tyr,↓lc])
   obtain ⟨H,hH⟩:∃ H,H=h.push (.row 64 (z6g c (z2j c) N).cells):=⟨_,rfl⟩;have oS:H.objs h.next=some (.row 64 (z6g c (z2j c) N).cells):=by rw [hH];exact z19 _ _
   have kH:Keeps h H (λ_=>False):=by rw [hH];exact Keeps.one _ _
   have nH:h.next<H.next:=by rw [hH];exact Nat.lt_succ_self _
   rw [<-hH];refine (pSplit_v hok sm hN h2 H).mono ?_;rintro _ _ ⟨⟨o,rfl,ho⟩,rfl⟩;have hcn:=zo4 hok sm h2;have hsit:=(zse hok).sit
   (repeat simp -dsimp -implicitDefEqProofs (disch:=omega) only [↓rP,rA,↓reduceIte,reduceEqDiff,reduceAdd,reduceLeDiff,↓tyr])
   refine z01.go (zmo cl o hcl _) ?_;by_cases e:slL cl=slL o
   ·rw [decide_eq_true e]
    (repeat simp -dsimp -implicitDefEqProofs (disch:=omega) only [↓rP,rA,↓reduceIte,reduceEqDiff,reduceAdd,reduceLeDiff,↓tyr])
    refine pcheck_7 hc sm hok hN h2 (e.trans ho) pl ps hl _ oS nH _ (λh3 k3 e3=>?_) (λh3 k3 e3=>?_)
    all_goals
     (repeat simp -dsimp -implicitDefEqProofs (disch:=omega) only [↓rP,rA,↓reduceIte,reduceEqDiff,reduceAdd,reduceLeDiff,↓tyr])
     exact ⟨by rw [decide_eq_true hcn,e3,e,ho];simp [hl],kH.go k3⟩
   ·rw [decide_eq_false e]
    (repeat simp -dsimp -implicitDefEqProofs (disch:=omega) only [↓rP,rA,↓reduceIte,reduceEqDiff,reduceAdd,reduceLeDiff,↓tyr])
    exact ⟨by rw [<-ho];simp [Ne.symm e],kH⟩
  ·have el:(((slL pl).length:Int) != ((slL c.Sections).length:Int))=true:=by simp;omega
   (repeat simp -dsimp -implicitDefEqProofs (disch:=omega) only [↓rP,rA,↓reduceIte,reduceEqDiff,reduceAdd,reduceLeDiff,↓tyr,el])
   (first | (refine And.intro (by simp [hl]) ?_;(repeat (first | assumption | with_reducible exact Keeps.refl _ _ | with_reducible refine Keeps.go ?_ (Keeps.one _ _) | with_reducible refine Keeps.go ?_ (by assumption)))) | (repeat (first | assumption | with_reducible exact Keeps.refl _ _ | with_reducible refine Keeps.go ?_ (Keeps.one _ _) | with_reducible refine Keeps.go ?_ (by assumption))))
end
section
open Go.Abs
def pnB:Bd:=⟨some [⟨1,0,false⟩],some [⟨15,0,0,0,0,0,none,none⟩,⟨2,0,0,0,0,0,none,none⟩,⟨16,0,0,0,0,0,none,none⟩,⟨17,0,0,0,0,0,none,none⟩],0⟩
def pnC:Cd:=⟨none,some [⟨1,0,false⟩],some [pnB],none,some [⟨0,0,2⟩]⟩
def pnG:Cm:=⟨1,noP,0,false,0,noP,0,3⟩
theorem pnC_ok:pnC.ok:=by
 simp [pnC,pnB,z0f.ok,z0m.ok,z0a.ok,z08.ok,z0e.ok,z0s.ok,z04.ok,okSl,okI,okT,okN,maxLen]
theorem zl4:Small pnC:=small_of (by decide +kernel)
theorem pnC_yes:okC pnC=true:=by
 have ht:z8s pnC=true:=by
  unfold z8s;rw [z2h];intro t b hb;have:t=0:=by
   have:=(List.getElem?_eq_some_iff.1 hb).1;simpa [pnC] using this
  subst this;obtain rfl:pnB=b:=by simpa [pnC] using hb
  have hi:zbl pnC ((0:Nat):Int) pnB=true:=by
   unfold zbl;rw [z2h];intro k x hx;have hk:k<4:=by
    have:=(List.getElem?_eq_some_iff.1 hx).1;simpa [pnB] using this
   rcases (by omega:k=0\/k=1\/k=2\/k=3) with rfl | rfl | rfl | rfl
   all_goals (simp [pnB] at hx;subst hx)
   ·decide +kernel
   ·decide +kernel
   ·decide +kernel
   ·decide +kernel
  have hb:za3 pnC pnB=true:=by decide +kernel
  have hl:lastB pnB=true:=by decide +kernel
  unfold z7m;rw [hb,hl,hi];rfl
 unfold okC;rw [ht]
 decide +kernel
theorem pn_wants:z6e pnC 0=[pnG]:=by
 rw [zln (c:=pnC) (s:=0) (sec:=⟨0,0,2⟩) rfl (t:=0) (b:=pnB) (fr:=0) (to:=2) ⟨rfl,rfl,rfl,rfl,by decide,by decide⟩];have e:secL pnB 0 2=[⟨15,0,0,0,0,0,none,none⟩,⟨2,0,0,0,0,0,none,none⟩,⟨16,0,0,0,0,0,none,none⟩]:=by decide +kernel
 unfold wantsC;rw [e];simp [z4c,z8t,zbo,pnG]
theorem pn_plan:zgr pnC ⟨0,0,0⟩ 0=[pnG]:=by
 unfold zgr;rw [pn_wants]
 decide +kernel
theorem pn_of {o1:Option (List Int)} {o2:Option (List (Option (List Cm)))} (h:OfQ pnC ⟨0,0,0⟩ o1 o2):slL o1=clsL pnC/\(clsL pnC).length=0/\o2=some [some [pnG]]:=by
 rcases h with ⟨h,_⟩ | ⟨_,h1,h2,h3⟩
 ·rw [pnC_yes] at h;cases h
 ·refine ⟨h1,h3,?_⟩;have e:(List.range (slL pnC.Sections).length).map (zgr pnC ⟨0,0,0⟩)=[[pnG]]:=by
   show [zgr pnC ⟨0,0,0⟩ 0]=_
   rw [pn_plan]
  rw [e] at h2
  cases o2 with
  | none=>simp at h2
  | some l=>
   simp only [zh4] at h2;obtain ⟨x,rfl,hx⟩:∃ x,l=[x]/\slL x=[pnG]:=by
    cases l with
    | nil=>simp at h2
    | cons x l=>cases l with
     | nil=>exact ⟨x,rfl,by simpa using h2⟩
     | cons y l=>simp at h2
   cases x with
   | none=>simp at hx
   | some z=>simp only [zh4] at hx;rw [hx]
theorem pn_check {o1:Option (List Int)} (h1:slL o1=clsL pnC) (h0:(clsL pnC).length=0) (pl:List (Option (List Cm))) (h:pl.length=1):zqa pnC (slL o1) pl=allK (λk l=>(z6e pnC k).all (covB (slL l))) pl:=by
 unfold zqa;rw [pnC_yes,h1,h0];simp [h,pnC]
theorem pn_all (x:Option (List Cm)):allK (λk l=>(z6e pnC k).all (covB (slL l))) [x]=covB (slL x) pnG:=by
 simp [allK,pn_wants]
theorem pn_chk {o1:Option (List Int)} (h1:slL o1=clsL pnC) (h0:(clsL pnC).length=0) (x:Option (List Cm)):zqa pnC (slL o1) (slL (some [x]))=covB (slL x) pnG:=(pn_check h1 h0 [x] rfl).trans (pn_all x)
theorem alive16_k (h:z00):z01 Tryd.prog 5 [] h (λv h2=>v=.bool true/\Keeps h h2 (λ_=>False)):=by
 apply zd0
 (repeat simp -dsimp -implicitDefEqProofs (disch:=omega) only [↓rP,rA,↓reduceIte,reduceEqDiff,reduceAdd,reduceLeDiff,↓tyr,bsl_one,bsl_two,bsl_four,fits_isl,cells_isl])
 refine ⟨by decide,?_⟩;rw [z1j (by rfl) (by rfl)];change @later (z00->Prop) _ _ (h.push (.row 28 pnC.cells));have lC:∀ J:AV->Prop,z0t (some 5) (.ptr h.next 0) (h.push (.row 28 pnC.cells)) J=J (.agg pnC.cells):=λJ=>by rw [z0b (z19 _ _)];exact z0f.call pnC J
 (repeat simp -dsimp -implicitDefEqProofs (disch:=omega) only [↓rP,rA,↓reduceIte,reduceEqDiff,reduceAdd,reduceLeDiff,↓tyr,↓lC])
 refine (pOf_does pnC_ok zl4 ⟨0,0,0⟩ _).mono ?_;rintro _ _ ⟨⟨o1,o2,rfl,hq⟩,rfl⟩;obtain ⟨q1,q0,rfl⟩:=pn_of hq;have l2:∀ J:AV->Prop,pLen .slice (plAV (some [some [pnG]])) J=J (.int .i64 1):=λJ=>by simp
 have i0:∀ J:AV->Prop,z0o (.slice 1) (plAV (some [some [pnG]])) (.int .i64 0) J=J (.iptr [slAV 12 z05.cells (some [pnG])]):=λJ=>z06 (k:=0) rfl .i64 J;have lp:∀ (G:z00) (J:AV->Prop),z0t none (.iptr [slAV 12 z05.cells (some [pnG])]) G J=J (slAV 12 z05.cells (some [pnG])):=λG J=>ztg (some [pnG]) G J;have l3:∀ J:AV->Prop,pLen .slice (slAV 12 z05.cells (some [pnG])) J=J (.int .i64 1):=λJ=>by simp
 have i1:∀ J:AV->Prop,z0o (.slice 12) (slAV 12 z05.cells (some [pnG])) (.int .i64 0) J=J (.iptr pnG.cells):=λJ=>z06 (k:=0) rfl .i64 J;have e1:(pnG.Op == 1)=true:=rfl;have e3:(pnG.Mode == 3)=true:=rfl;have hp:za2 pnG.Path/\za2 pnG.Index:=⟨by simp [pnG,za2,noP],by simp [pnG,za2,noP]⟩
 (repeat simp -dsimp -implicitDefEqProofs (disch:=omega) only [↓rP,rA,↓reduceIte,reduceEqDiff,reduceAdd,reduceLeDiff,↓tyr,↓lC,↓l2,↓i0,↓lp,↓l3,↓i1,e1,e3,Int.reduceBEq])
 refine z01.go (zkx pnC_ok zl4 o1 (by rw [q1];omega) (some [some [pnG]]) ⟨by decide,λl hl=>by rw [List.mem_singleton.1 hl];decide,λl hl c hc=>by rw [List.mem_singleton.1 hl] at hc;rw [List.mem_singleton.1 hc];exact hp⟩ _) ?_;rw [pn_chk q1 q0,show covB (slL (some [pnG])) pnG=true by decide +kernel];have bn:∀ (G:z00) (J:AV->z00->Prop),z10 true { e:=38,sz:=1,by_:=24 } [AV.nils] 1 [(0,AV.nils)] G J=J (plAV (some [none])) G:=λG J=>bslP none G J
 (repeat simp -dsimp -implicitDefEqProofs (disch:=omega) only [↓rP,rA,↓reduceIte,reduceEqDiff,reduceAdd,reduceLeDiff,↓tyr,↓lC,↓bn])
 refine z01.go (zkx pnC_ok zl4 o1 (by rw [q1];omega) (some [none]) ⟨by decide,λl hl=>by rw [List.mem_singleton.1 hl];decide,λl hl c hc=>by rw [List.mem_singleton.1 hl] at hc;cases hc⟩ _) ?_;rw [pn_chk q1 q0,show covB (slL none) pnG=false by decide +kernel]
 (repeat simp -dsimp -implicitDefEqProofs (disch:=omega) only [↓rP,rA,↓reduceIte,reduceEqDiff,reduceAdd,reduceLeDiff,↓tyr])
 exact Keeps.one _ _
theorem zpv (h:z00):z01 Tryd.prog 5 [] h (λv h2=>v=.bool true/\h2=h):=z01.forget (by simp [z1w]) (alive16_k h)
end
section
open Go.Abs
theorem wantsS_op {c:Cd} {k:Nat}:∀ w∈z6e c k,1<=w.Op/\w.Op<=4:=λw hw=>by
 unfold z6e at hw;split at hw
 ·cases hw
 ·split at hw
  ·cases hw
  ·exact want_op w hw
theorem plans_at {c:Cd} {l:z0w} {o2:Option (List (Option (List Cm)))} (h:(slL o2).map slL=(List.range (slL c.Sections).length).map (zgr c l)):(slL o2).length=(slL c.Sections).length/\∀ k x,(slL o2)[k]?=some x->slL x=zgr c l k:=by
 have hl:(slL o2).length=(slL c.Sections).length:=by have:=congrArg List.length h;simpa using this
 refine ⟨hl,λk x hx=>?_⟩;have hk:=(List.getElem?_eq_some_iff.1 hx).1;have e:=congrArg (λz=>z[k]?) h;simp only [List.getElem?_map,hx,List.getElem?_range (show k<(slL c.Sections).length by omega),Option.map_some] at e;exact Option.some.inj e
theorem planK_len {c:Cd} (sm:Small c) (hok:okC c=true) (l:z0w) (k:Nat):(zgr c l k).length<=256:=by
 have h:=wants_few hok k;have h1:=zjt (z6e c k) [];have h2:=zip_len (z3d [] (z6e c k));simp only [List.length_nil,Nat.zero_add] at h1;have h3:(zau l.Fine (z6e c k)).length<=256:=by unfold zau;split <;> omega
 unfold zgr zks;split
 ·show 1<=256;omega
 ·exact h3
theorem cm_ld (x:Cm) (G:z00) (J:AV->Prop):z0t (some 12) (.iptr x.cells) G J=J (.agg x.cells):=zqc x G J
theorem all_10 (x:Option (List Cm)) (hl:(slL x).length<=1000) (hx:∀ y∈slL x,y.Op=1\/(y.Op=5/\(slL x).length=1)) (A2 A6 A35 A36 A37:AV) (h:z00) (Q:z1z->Fr->z00->Prop)
  (hQ:∀ hh,Keeps h hh (λ_=>False)->Q (.exit 2) (frOf [(2,A2),(6,A6),(35,A35),(36,A36),(37,A37)]) hh) :
  WP Tryd.prog 68 (.loop z3p) (frOf [(2,A2),(6,A6),(8,slAV 12 z05.cells x),(35,A35),(36,A36),(37,A37),(41,slAV 12 z05.cells x),(42,.int .i64 (slL x).length),(43,.int .i64 0)]) h Q:=by
 refine zmq z0d (by kernel_rfl) (slL x).length (λj=>frOf [(2,A2),(6,A6),(8,slAV 12 z05.cells x),(35,A35),(36,A36),(37,A37),(41,slAV 12 z05.cells x),(42,.int .i64 (slL x).length),(43,.int .i64 j)]) (λj hh=>Keeps h hh (λ_=>False)) (.refl _ _) ?_;intro j hh hj kp;apply z9h
 (repeat simp -dsimp -implicitDefEqProofs (disch:=omega) only [↓rP,rA,↓reduceIte,reduceEqDiff,reduceAdd,reduceLeDiff,↓tyr])
 refine z09 (λhjl=>?_) (λhjl=>?_)
 ·obtain ⟨y,hy⟩:∃ y,(slL x)[j]?=some y:=⟨_,List.getElem?_eq_getElem (by omega)⟩;rcases hx y (List.mem_of_getElem? hy) with q | ⟨q,q1⟩
  ·have b1:(y.Op != 1)=false:=by simpa using q
   (repeat simp -dsimp -implicitDefEqProofs (disch:=omega) only [↓rP,rA,↓reduceIte,reduceEqDiff,reduceAdd,reduceLeDiff,↓tyr,z06 hy,↓cm_ld,b1,wkP j (by omega)])
   exact forN (by omega) (kp.z5e _)
  ·have b1:(y.Op != 1)=true:=by simp;omega
   have b5:(y.Op != 5)=false:=by simpa using q
   have bl:(((slL x).length:Int) != 1)=false:=by rw [q1];rfl
   (repeat simp -dsimp -implicitDefEqProofs (disch:=omega) only [↓rP,rA,↓reduceIte,reduceEqDiff,reduceAdd,reduceLeDiff,↓tyr,z06 hy,↓cm_ld,b1,b5,bl,wkP j (by omega)])
   exact forN (by omega) (kp.z5e _)
 ·(repeat simp -dsimp -implicitDefEqProofs (disch:=omega) only [↓rP,rA,↓reduceIte,reduceEqDiff,reduceAdd,reduceLeDiff,↓tyr])
  exact hQ hh kp
theorem all_7 (pl:Option (List (Option (List Cm)))) (hf:(slL pl).length<=1000) (hl:∀ x∈slL pl,(slL x).length<=1000) (hx:∀ x∈slL pl,∀ y∈slL x,y.Op=1\/(y.Op=5/\(slL x).length=1)) (A2:AV) (h:z00) (Q:z1z->Fr->z00->Prop)
  (hQ:∀ hh,Keeps h hh (λ_=>False)->Q (.exit 0) (frOf [(2,A2),(6,plAV pl)]) hh) :
  WP Tryd.prog 68 (.loop z3y) (frOf [(2,A2),(6,plAV pl),(35,plAV pl),(36,.int .i64 (slL pl).length),(37,.int .i64 0)]) h Q:=by
 refine zmq z0d (by kernel_rfl) (slL pl).length (λj=>frOf [(2,A2),(6,plAV pl),(35,plAV pl),(36,.int .i64 (slL pl).length),(37,.int .i64 j)]) (λj hh=>Keeps h hh (λ_=>False)) (.refl _ _) ?_;intro j hh hj kp;apply z9m
 (repeat simp -dsimp -implicitDefEqProofs (disch:=omega) only [↓rP,rA,↓reduceIte,reduceEqDiff,reduceAdd,reduceLeDiff,↓tyr])
 refine z09 (λhjl=>?_) (λhjl=>?_)
 ·obtain ⟨x,hy⟩:∃ y,(slL pl)[j]?=some y:=⟨_,List.getElem?_eq_getElem (by omega)⟩;have hm:=List.mem_of_getElem? hy;have lL:∀ (J:AV->Prop),pLen .slice (slAV 12 z05.cells x) J=J (.int .i64 (slL x).length):=λJ=>by simp
  (repeat simp -dsimp -implicitDefEqProofs (disch:=omega) only [↓rP,rA,↓reduceIte,reduceEqDiff,reduceAdd,reduceLeDiff,↓tyr,z06 hy,↓ztg,↓lL])
  refine all_10 x (hl x hm) (hx x hm) _ _ _ _ _ hh _ λh3 k3=>?_
  (repeat simp -dsimp -implicitDefEqProofs (disch:=omega) only [↓rP,rA,↓reduceIte,reduceEqDiff,reduceAdd,reduceLeDiff,↓tyr,wkP j (by omega)])
  exact forN (by omega) (kp.go k3)
 ·(repeat simp -dsimp -implicitDefEqProofs (disch:=omega) only [↓rP,rA,↓reduceIte,reduceEqDiff,reduceAdd,reduceLeDiff,↓tyr])
  exact hQ hh kp
theorem PlanAll_does (c:Cd) (tries:Int) (hc:c.ok) (h:z00):z01 Tryd.prog 4 [.agg c.cells,.int .i64 tries] h (λv h2=>v=.bool true):=by
 have lc:∀ (H:z00) (K:AV->Prop),z0t (some 5) (.iptr c.cells) H K=K (.agg c.cells):=λH K=>by rw [z1q];exact z0f.call c K
 apply zbs
 (repeat simp -dsimp -implicitDefEqProofs (disch:=omega) only [↓rP,rA,↓reduceIte,reduceEqDiff,reduceAdd,reduceLeDiff,↓tyr,↓lc])
 refine z01.go (zpv _) ?_
 (repeat simp -dsimp -implicitDefEqProofs (disch:=omega) only [↓rP,rA,↓reduceIte,reduceEqDiff,reduceAdd,reduceLeDiff,↓tyr,↓lc])
 refine z01.go (zmi c hc _) ?_
 cases hg:zn4 c with
 | true=>(repeat simp -dsimp -implicitDefEqProofs (disch:=omega) only [↓rP,rA,↓reduceIte,reduceEqDiff,reduceAdd,reduceLeDiff,↓tyr])
 | false=>
  have sm:=small_of hg
  (repeat simp -dsimp -implicitDefEqProofs (disch:=omega) only [↓rP,rA,↓reduceIte,reduceEqDiff,reduceAdd,reduceLeDiff,↓tyr,↓lc])
  refine z01.go (ref_Good_c c hc sm _) ?_
  cases hok:okC c with
  | false=>(repeat simp -dsimp -implicitDefEqProofs (disch:=omega) only [↓rP,rA,↓reduceIte,reduceEqDiff,reduceAdd,reduceLeDiff,↓tyr])
  | true=>
   by_cases t0:tries<0
   ·have e0:decide (tries<0)=true:=decide_eq_true t0
    (repeat simp -dsimp -implicitDefEqProofs (disch:=omega) only [↓rP,rA,↓reduceIte,reduceEqDiff,reduceAdd,reduceLeDiff,↓tyr,e0])
   have e0:decide (tries<0)=false:=decide_eq_false t0;by_cases t8:8<tries
   ·have e8:decide (8<tries)=true:=decide_eq_true t8
    (repeat simp -dsimp -implicitDefEqProofs (disch:=omega) only [↓rP,rA,↓reduceIte,reduceEqDiff,reduceAdd,reduceLeDiff,↓tyr,e0,e8])
   have e8:decide (8<tries)=false:=decide_eq_false t8
   (repeat simp -dsimp -implicitDefEqProofs (disch:=omega) only [↓rP,rA,↓reduceIte,reduceEqDiff,reduceAdd,reduceLeDiff,↓tyr,e0,e8,↓lc])
   refine (pOf_does hc sm ⟨0,0,tries⟩ _).mono ?_;rintro _ _ ⟨⟨o1,o2,rfl,hq⟩,rfl⟩;rcases hq with ⟨q,_⟩ | ⟨_,_,hp,_⟩
   ·rw [hok] at q;have:zt6 ⟨0,0,tries⟩=true:=by simp [zt6];omega
    rw [this] at q;cases q
   obtain ⟨hl,hx⟩:=plans_at hp;have:=sm.secs;have lL:∀ (J:AV->Prop),pLen .slice (plAV o2) J=J (.int .i64 (slL o2).length):=λJ=>by simp
   (repeat simp -dsimp -implicitDefEqProofs (disch:=omega) only [↓rP,rA,↓reduceIte,reduceEqDiff,reduceAdd,reduceLeDiff,↓tyr,↓lL])
   refine all_7 o2 (by omega) (λx hm=>?_) (λx hm y hy=>?_) _ _ _ λhh k=>?_
   ·obtain ⟨k,hk⟩:=List.getElem?_of_mem hm;rw [hx k x hk];exact Nat.le_trans (planK_len sm hok _ k) (by decide)
   ·obtain ⟨k,hk⟩:=List.getElem?_of_mem hm;rw [hx k x hk] at hy ⊢;exact make_zero (ws:=z6e c k) wantsS_op hy
   ·have el:(((slL o2).length:Int) == ((slL c.Sections).length:Int))=true:=by simp;omega
    (repeat simp -dsimp -implicitDefEqProofs (disch:=omega) only [↓rP,rA,↓reduceIte,reduceEqDiff,reduceAdd,reduceLeDiff,↓tyr,↓lL,el])
end
end Go.Proofs.YtjlogcfggfmacaaDoor
