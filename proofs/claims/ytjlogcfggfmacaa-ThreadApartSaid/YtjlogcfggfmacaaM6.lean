/- Own texts, merged: CdRefS, CdBoth, CdEqu, ClMath, ClBits, PtSpec, CdUses, TCC, TCD, THp, THpB, THpC, THpD, THpE, THpF, THpG, THpH, THpI, PaSpec, PaProg, PaRead, PaRound, PaLoop, PaRd, PaOf, PaEq, P6Spec, VcC, ClProg, PtHeap, PtEach, PtLoad, PtStep, PtStepB, PtBuild, PtSolve, PtSolveB, PtSolveC, PtSolveD, PtVal, PtAlive, PtFlat, PtSame, PtMake. -/
import Derived.Test.YtjlogcfggfmacaaM5
set_option linter.unusedVariables false
set_option linter.unusedSimpArgs false
open Nat (reduceEqDiff reduceAdd reduceLeDiff)
section
set_option maxRecDepth 100000
set_option maxHeartbeats 1000000
namespace Go.Proofs.Ytjlogcfggfmacaa
open Go.Abs
def sepP (i:Nat) (s:z0b) (j:Nat) (o:z0b):Bool:=decide (j=i)||!zri s o
def secR (c:Cd) (i:Nat) (s:z0b):Bool:=zin c i s&&allK (sepP i s) (slL c.Sections)
theorem g_sep (c:Cd) (sm:Small c) (i:Nat) (hi:i≤1000) (s:z0b) (a134 a135 a136:AV) (h0:z00) (id:Nat) (hid:id<h0.next) (ho:h0.objs id=some (.row 88 s.cells)) (Q:z1k→Fr→z00→Prop)
  (hret:∀ h2,allK (sepP i s) (slL c.Sections)=false→Keeps h0 h2 (fun _=>False)→Q .ret (frOf [(2,.bool false)]) h2)
  (hex:∀ h2,allK (sepP i s) (slL c.Sections)=true→Keeps h0 h2 (fun _=>False)→Q (.exit 10) (frOf [(1,.iptr c.cells),(134,a134),(135,a135),(136,a136)]) h2) :
  WP Try.prog 324 (.loop z3u) (frOf [(1,.iptr c.cells),(12,.int .i64 i),(13,.ptr id 0),(134,a134),(135,a135),(136,a136),(214,slAV 3 z0b.cells c.Sections),(215,.int .i64 (slL c.Sections).length),(216,.int .i64 0)]) h0 Q:=by
 have hsec:=sm.secs
 obtain ⟨I,hI⟩:∃ I:Nat→Fr→z00→Prop,I=(fun n fr hh=>∃ k:Nat,k≤(slL c.Sections).length∧n=(slL c.Sections).length-k∧upTo (sepP i s) (slL c.Sections) k∧Keeps h0 hh (fun _=>False)∧fr=frOf [(1,.iptr c.cells),(12,.int .i64 i),(13,.ptr id 0),(134,a134),(135,a135),(136,a136),(214,slAV 3 z0b.cells c.Sections),(215,.int .i64 (slL c.Sections).length),(216,.int .i64 k)]):=⟨_,rfl⟩
 refine z0x z08 (by kernel_rfl) I (slL c.Sections).length (by rw [hI];exact ⟨0,by omega,by omega,z3h _ _,.refl _ _,rfl⟩) ?_
 intro n fr hh H
 rw [hI] at H
 obtain ⟨k,hk,rfl,hup,kp,rfl⟩:=H
 apply zah
 (repeat (first | simp -dsimp -implicitDefEqProofs (disch:=omega) only [↓rP,rA,↓reduceIte,reduceEqDiff,reduceAdd,reduceLeDiff,↓tyr] | refine Cut.go ?_))
 refine z0c (fun hkl=>?_) (fun hkl=>?_)
 ·obtain ⟨o,hx⟩:∃ o,(slL c.Sections)[k]?=some o:=⟨_,List.getElem?_eq_getElem (by omega)⟩
  have kp1:=kp.go (Keeps.one hh (.row 88 o.cells))
  have ho2:(hh.push (.row 88 o.cells)).objs id=some (.row 88 s.cells):=by
   have:=kp.next
   simp only [z00.z5w]
   rw [if_neg (by omega),kp.objs id hid (by simp),ho]
  have ld:∀ (off:Nat) (q:Option Nat) (K:AV→Prop),z0r q (.ptr id off) (hh.push (.row 88 o.cells)) K=z03 q s.cells off K:=fun off q K=>z06 ho2 q K
  have no:sepP i s k o=false→Q .ret (frOf [(2,.bool false)]) (hh.push (.row 88 o.cells)):=fun hp=>hret _ (z6p hx hp) kp1
  have on:sepP i s k o=true→z2y I ((slL c.Sections).length-k) Q .normal (frOf [(1,.iptr c.cells),(12,.int .i64 i),(13,.ptr id 0),(134,a134),(135,a135),(136,a136),(214,slAV 3 z0b.cells c.Sections),(215,.int .i64 (slL c.Sections).length),(216,.int .i64 (k+1:Nat))]) (hh.push (.row 88 o.cells)):=fun hp=>by
   rw [z04,hI]
   exact ⟨_,by omega,k+1,by omega,rfl,z2x hup hx hp,kp1,rfl⟩
  have wk:=wkS k (by omega)
  have end1:sepP i s k o=true∨sepP i s k o=false:=by cases sepP i s k o <;> simp
  have isno:k≠i→o.Thread=s.Thread→s.From≤o.To→o.From≤s.To→sepP i s k o=false:=fun a1 a2 a3 a4=>by simp [sepP,zri,a1,a2,a3,a4]
  have ison:(k=i∨o.Thread≠s.Thread∨o.To<s.From∨s.To<o.From)→sepP i s k o=true:=fun h=>by
   simp only [sepP,zri,Bool.or_eq_true,decide_eq_true_eq,Bool.not_eq_true',Bool.and_eq_false_iff,decide_eq_false_iff_not]
   omega
  repeat' (first | (simp -dsimp -implicitDefEqProofs (disch:=omega) only [↓rP,rA,↓reduceIte,reduceEqDiff,reduceAdd,reduceLeDiff,↓tyr,z02 hx,↓ld,wk]) | with_reducible refine Cut.go ?_ | with_reducible refine z0t (fun _=>?_) (fun _=>?_) | with_reducible refine z16 (fun _=>?_) (fun _=>?_) | with_reducible refine z0c (fun _=>?_) (fun _=>?_) | with_reducible refine z1d (fun _=>?_) (fun _=>?_) | with_reducible refine Split_not ?_)
  all_goals first
   | exact on (ison (by omega))
   | exact no (isno (by omega) (by omega) (by omega) (by omega))
 ·have hke:k=(slL c.Sections).length:=by omega
  subst hke
  (repeat (first | simp -dsimp -implicitDefEqProofs (disch:=omega) only [↓rP,rA,↓reduceIte,reduceEqDiff,reduceAdd,reduceLeDiff,↓tyr] | refine Cut.go ?_))
  exact hex hh (za6 hup) kp
theorem g_sections (c:Cd) (sm:Small c) (h0:z00) (Q:z1k→Fr→z00→Prop)
  (hret:∀ h2,allK (secR c) (slL c.Sections)=false→Keeps h0 h2 (fun _=>False)→Q .ret (frOf [(2,.bool false)]) h2)
  (hex:∀ h2,allK (secR c) (slL c.Sections)=true→Keeps h0 h2 (fun _=>False)→Q (.exit 8) (frOf [(1,.iptr c.cells)]) h2) :
  WP Try.prog 324 (.loop z3t) (frOf [(1,.iptr c.cells),(134,slAV 3 z0b.cells c.Sections),(135,.int .i64 (slL c.Sections).length),(136,.int .i64 0)]) h0 Q:=by
 have hsec:=sm.secs
 obtain ⟨I,hI⟩:∃ I:Nat→Fr→z00→Prop,I=(fun n fr hh=>∃ k:Nat,k≤(slL c.Sections).length∧n=(slL c.Sections).length-k∧upTo (secR c) (slL c.Sections) k∧Keeps h0 hh (fun _=>False)∧fr=frOf [(1,.iptr c.cells),(134,slAV 3 z0b.cells c.Sections),(135,.int .i64 (slL c.Sections).length),(136,.int .i64 k)]):=⟨_,rfl⟩
 refine z0x z08 (by kernel_rfl) I (slL c.Sections).length (by rw [hI];exact ⟨0,by omega,by omega,z3h _ _,.refl _ _,rfl⟩) ?_
 intro n fr hh H
 rw [hI] at H
 obtain ⟨k,hk,rfl,hup,kp,rfl⟩:=H
 apply zaf
 (repeat (first | simp -dsimp -implicitDefEqProofs (disch:=omega) only [↓rP,rA,↓reduceIte,reduceEqDiff,reduceAdd,reduceLeDiff,↓tyr] | refine Cut.go ?_))
 refine z0c (fun hkl=>?_) (fun hkl=>?_)
 ·obtain ⟨s,hx⟩:∃ s,(slL c.Sections)[k]?=some s:=⟨_,List.getElem?_eq_getElem (by omega)⟩
  have kp1:=kp.go (Keeps.one hh (.row 88 s.cells))
  have no:zin c k s=false→Q .ret (frOf [(2,.bool false)]) (hh.push (.row 88 s.cells)):=fun hp=>hret _ (z6p hx (by unfold secR;rw [hp];rfl)) kp1
  (repeat (first | simp -dsimp -implicitDefEqProofs (disch:=omega) only [↓rP,rA,↓reduceIte,reduceEqDiff,reduceAdd,reduceLeDiff,↓tyr,z02 hx] | refine Cut.go ?_))
  refine z01.go (z14 _ _ _) ?_
  cases hb:getI (slL c.Threads) s.Thread with
  | none=>
   have hbt:=z9a.2 hb
   (repeat (first | simp -dsimp -implicitDefEqProofs (disch:=omega) only [↓rP,rA,↓reduceIte,reduceEqDiff,reduceAdd,reduceLeDiff,↓tyr,hbt,Bool.not_false] | refine Cut.go ?_))
   exact no (by simp [zin,z8o,hb])
  | some b=>
   have hbt:=z3c.2 ⟨b,hb⟩
   (repeat (first | simp -dsimp -implicitDefEqProofs (disch:=omega) only [↓rP,rA,↓reduceIte,reduceEqDiff,reduceAdd,reduceLeDiff,↓tyr,hbt,Bool.not_true] | refine Cut.go ?_))
   refine z01.go (z14 _ _ _) ?_
   rcases h1:btw s.From s.To with _ | _
   ·(repeat (first | simp -dsimp -implicitDefEqProofs (disch:=omega) only [↓rP,rA,↓reduceIte,reduceEqDiff,reduceAdd,reduceLeDiff,↓tyr,hbt,h1,Bool.not_false] | refine Cut.go ?_))
    exact no (by unfold zin;unfold btw at h1;rw [h1];rfl)
   have h1':0≤s.From∧s.From<s.To:=by simpa [btw] using h1
   (repeat (first | simp -dsimp -implicitDefEqProofs (disch:=omega) only [↓rP,rA,↓reduceIte,reduceEqDiff,reduceAdd,reduceLeDiff,↓tyr,hbt,h1,Bool.not_true,ixI hb] | refine Cut.go ?_))
   refine z01.go (z14 _ _ _) ?_
   rcases h2:btw s.To (slL b.Code).length with _ | _
   ·(repeat (first | simp -dsimp -implicitDefEqProofs (disch:=omega) only [↓rP,rA,↓reduceIte,reduceEqDiff,reduceAdd,reduceLeDiff,↓tyr,hbt,h1,h2,Bool.not_false] | refine Cut.go ?_))
    exact no (by simp [zin,z8o,hb,z5a h2])
   have h2':0≤s.To∧s.To<(slL b.Code).length:=by simpa [btw] using h2
   obtain ⟨x,hxx⟩:∃ x,getI (slL b.Code) s.From=some x:=z3c.1 (by unfold btw;simp;omega)
   obtain ⟨y,hyy⟩:∃ y,getI (slL b.Code) s.To=some y:=z3c.1 h2
   (repeat (first | simp -dsimp -implicitDefEqProofs (disch:=omega) only [↓rP,rA,↓reduceIte,reduceEqDiff,reduceAdd,reduceLeDiff,↓tyr,hbt,h1,h2,Bool.not_true,ixI hb,ixI hxx,ixI hyy] | refine Cut.go ?_))
   refine z16 (fun h4=>?_) (fun h4=>?_)
   ·(repeat (first | simp -dsimp -implicitDefEqProofs (disch:=omega) only [↓rP,rA,↓reduceIte,reduceEqDiff,reduceAdd,reduceLeDiff,↓tyr] | refine Cut.go ?_))
    exact no (by simp [zin,z8o,hb,hxx,h4])
   (repeat (first | simp -dsimp -implicitDefEqProofs (disch:=omega) only [↓rP,rA,↓reduceIte,reduceEqDiff,reduceAdd,reduceLeDiff,↓tyr,ixI hb,ixI hxx,ixI hyy] | refine Cut.go ?_))
   refine z16 (fun h5=>?_) (fun h5=>?_)
   ·(repeat (first | simp -dsimp -implicitDefEqProofs (disch:=omega) only [↓rP,rA,↓reduceIte,reduceEqDiff,reduceAdd,reduceLeDiff,↓tyr] | refine Cut.go ?_))
    exact no (by simp [zin,z8o,hb,hxx,h5])
   (repeat (first | simp -dsimp -implicitDefEqProofs (disch:=omega) only [↓rP,rA,↓reduceIte,reduceEqDiff,reduceAdd,reduceLeDiff,↓tyr,ixI hb,ixI hxx,ixI hyy] | refine Cut.go ?_))
   refine z16 (fun h6=>?_) (fun h6=>?_)
   ·(repeat (first | simp -dsimp -implicitDefEqProofs (disch:=omega) only [↓rP,rA,↓reduceIte,reduceEqDiff,reduceAdd,reduceLeDiff,↓tyr] | refine Cut.go ?_))
    exact no (by simp [zin,z8o,hb,hyy,h6])
   (repeat (first | simp -dsimp -implicitDefEqProofs (disch:=omega) only [↓rP,rA,↓reduceIte,reduceEqDiff,reduceAdd,reduceLeDiff,↓tyr,ixI hb,ixI hxx,ixI hyy] | refine Cut.go ?_))
   refine z16 (fun h7=>?_) (fun h7=>?_)
   ·(repeat (first | simp -dsimp -implicitDefEqProofs (disch:=omega) only [↓rP,rA,↓reduceIte,reduceEqDiff,reduceAdd,reduceLeDiff,↓tyr] | refine Cut.go ?_))
    exact no (by simp [zin,z8o,hb,hyy,h7])
   have he:zin c k s=true:=by
    simp only [zin,z8o,hb,hxx,hyy,h4,h5,h6,h7,decide_true,Bool.and_true,Bool.and_eq_true,decide_eq_true_eq]
    omega
   (repeat (first | simp -dsimp -implicitDefEqProofs (disch:=omega) only [↓rP,rA,↓reduceIte,reduceEqDiff,reduceAdd,reduceLeDiff,↓tyr] | refine Cut.go ?_))
   refine g_sep c sm k (by omega) s _ _ _ _ hh.next (by simp) (by simp) _ (fun h3 hg k3=>?_) (fun h3 hg k3=>?_)
   ·(repeat (first | simp -dsimp -implicitDefEqProofs (disch:=omega) only [↓rP,rA,↓reduceIte,reduceEqDiff,reduceAdd,reduceLeDiff,↓tyr] | refine Cut.go ?_))
    exact hret _ (z6p hx (by unfold secR;rw [hg,Bool.and_false])) (kp1.go k3)
   ·(repeat (first | simp -dsimp -implicitDefEqProofs (disch:=omega) only [↓rP,rA,↓reduceIte,reduceEqDiff,reduceAdd,reduceLeDiff,↓tyr,wkS k (by omega)] | refine Cut.go ?_))
    rw [z04,hI]
    exact ⟨_,by omega,k+1,by omega,rfl,z2x hup hx (by unfold secR;rw [hg,he];rfl),kp1.go k3,rfl⟩
 ·have hke:k=(slL c.Sections).length:=by omega
  subst hke
  (repeat (first | simp -dsimp -implicitDefEqProofs (disch:=omega) only [↓rP,rA,↓reduceIte,reduceEqDiff,reduceAdd,reduceLeDiff,↓tyr] | refine Cut.go ?_))
  exact hex hh (za6 hup) kp
theorem g_sites (c:Cd) (sm:Small c) (h0:z00) (Q:z1k→Fr→z00→Prop)
  (hret:∀ h2,allK (za5 c) (slL c.Sites)=false→Keeps h0 h2 (fun _=>False)→Q .ret (frOf [(2,.bool false)]) h2)
  (hex:∀ h2,allK (za5 c) (slL c.Sites)=true→Keeps h0 h2 (fun _=>False)→Q (.exit 12) (frOf [(1,.iptr c.cells)]) h2) :
  WP Try.prog 324 (.loop z3v) (frOf [(1,.iptr c.cells),(249,slAV 3 z0s.cells c.Sites),(250,.int .i64 (slL c.Sites).length),(251,.int .i64 0)]) h0 Q:=by
 have hsi:=sm.sites
 obtain ⟨I,hI⟩:∃ I:Nat→Fr→z00→Prop,I=(fun n fr hh=>∃ k:Nat,k≤(slL c.Sites).length∧n=(slL c.Sites).length-k∧upTo (za5 c) (slL c.Sites) k∧Keeps h0 hh (fun _=>False)∧fr=frOf [(1,.iptr c.cells),(249,slAV 3 z0s.cells c.Sites),(250,.int .i64 (slL c.Sites).length),(251,.int .i64 k)]):=⟨_,rfl⟩
 refine z0x z08 (by kernel_rfl) I (slL c.Sites).length (by rw [hI];exact ⟨0,by omega,by omega,z3h _ _,.refl _ _,rfl⟩) ?_
 intro n fr hh H
 rw [hI] at H
 obtain ⟨k,hk,rfl,hup,kp,rfl⟩:=H
 apply zai
 (repeat (first | simp -dsimp -implicitDefEqProofs (disch:=omega) only [↓rP,rA,↓reduceIte,reduceEqDiff,reduceAdd,reduceLeDiff,↓tyr] | refine Cut.go ?_))
 refine z0c (fun hkl=>?_) (fun hkl=>?_)
 ·obtain ⟨s,hx⟩:∃ s,(slL c.Sites)[k]?=some s:=⟨_,List.getElem?_eq_getElem (by omega)⟩
  have kp1:=kp.go (Keeps.one hh (.row 109 s.cells))
  have no:za5 c k s=false→Q .ret (frOf [(2,.bool false)]) (hh.push (.row 109 s.cells)):=fun hp=>hret _ (z6p hx hp) kp1
  (repeat (first | simp -dsimp -implicitDefEqProofs (disch:=omega) only [↓rP,rA,↓reduceIte,reduceEqDiff,reduceAdd,reduceLeDiff,↓tyr,z02 hx] | refine Cut.go ?_))
  refine z01.go (z14 _ _ _) ?_
  cases hb:getI (slL c.Threads) s.Thread with
  | none=>
   have hbt:=z9a.2 hb
   (repeat (first | simp -dsimp -implicitDefEqProofs (disch:=omega) only [↓rP,rA,↓reduceIte,reduceEqDiff,reduceAdd,reduceLeDiff,↓tyr,hbt,Bool.not_false] | refine Cut.go ?_))
   exact no (by simp [za5,z8o,hb])
  | some b=>
   have hbt:=z3c.2 ⟨b,hb⟩
   (repeat (first | simp -dsimp -implicitDefEqProofs (disch:=omega) only [↓rP,rA,↓reduceIte,reduceEqDiff,reduceAdd,reduceLeDiff,↓tyr,hbt,ixI hb,Bool.not_true] | refine Cut.go ?_))
   refine z01.go (z14 _ _ _) ?_
   cases hx2:getI (slL b.Code) s.At with
   | none=>
    have hbt2:=z9a.2 hx2
    (repeat (first | simp -dsimp -implicitDefEqProofs (disch:=omega) only [↓rP,rA,↓reduceIte,reduceEqDiff,reduceAdd,reduceLeDiff,↓tyr,hbt,hbt2,Bool.not_false] | refine Cut.go ?_))
    exact no (by simp [za5,z8o,hb,hx2])
   | some x=>
    have hbt2:=z3c.2 ⟨x,hx2⟩
    have kp2:=kp1.go (Keeps.one _ (.row 40 x.cells))
    have ho2:∀ o,((hh.push (.row 109 s.cells)).push o).objs hh.next=some (.row 109 s.cells):=fun o=>by simp
    have ld:∀ (o:AObj) (off:Nat) (q:Option Nat) (K:AV→Prop),z0r q (.ptr hh.next off) ((hh.push (.row 109 s.cells)).push o) K=z03 q s.cells off K:=fun o off q K=>z06 (ho2 o) q K
    have no2:za5 c k s=false→Q .ret (frOf [(2,.bool false)]) ((hh.push (.row 109 s.cells)).push (.row 40 x.cells)):=fun hp=>hret _ (z6p hx hp) kp2
    have on:za5 c k s=true→z2y I ((slL c.Sites).length-k) Q .normal (frOf [(1,.iptr c.cells),(249,slAV 3 z0s.cells c.Sites),(250,.int .i64 (slL c.Sites).length),(251,.int .i64 (k+1:Nat))]) ((hh.push (.row 109 s.cells)).push (.row 40 x.cells)):=fun hm=>by
     rw [z04,hI]
     exact ⟨_,by omega,k+1,by omega,rfl,z2x hup hx hm,kp2,rfl⟩
    repeat' (first | (simp -dsimp -implicitDefEqProofs (disch:=omega) only [↓rP,rA,↓reduceIte,reduceEqDiff,reduceAdd,reduceLeDiff,↓tyr,hbt,hbt2,ixI hb,ixI hx2,↓ld,wkS k (by omega),Bool.not_true]) | refine Cut.go ?_ | refine z0t (fun _=>?_) (fun _=>?_) | refine z16 (fun _=>?_) (fun _=>?_) | refine z0c (fun _=>?_) (fun _=>?_) | refine z1d (fun _=>?_) (fun _=>?_) | refine Split.intro (fun _=>?_) (fun _=>?_))
    all_goals first
     | exact on (by simp [za5,z8o,hb,hx2, *];try omega)
     | exact no2 (by simp [za5,z8o,hb,hx2, *];try omega)
 ·have hke:k=(slL c.Sites).length:=by omega
  subst hke
  (repeat (first | simp -dsimp -implicitDefEqProofs (disch:=omega) only [↓rP,rA,↓reduceIte,reduceEqDiff,reduceAdd,reduceLeDiff,↓tyr] | refine Cut.go ?_))
  exact hex hh (za6 hup) kp
end Go.Proofs.Ytjlogcfggfmacaa
end

section
set_option maxRecDepth 100000
set_option maxHeartbeats 1000000
namespace Go.Proofs.Ytjlogcfggfmacaa
open Go.Abs
theorem fits_isl (sz:Nat) (es:List (List AV)):(AV.isl sz es).fits=true:=rfl
theorem cells_isl (sz:Nat) (es:List (List AV)):(AV.isl sz es).cells=[AV.isl sz es]:=rfl
theorem bsl_one (e:TypeId) (sz by_:Nat) (z cs:List AV) (h:z00) (K:AV→z00→Prop):z0m true { e:=e,sz:=sz,by_:=by_ } z 1 [(0,.agg cs)] h K=(sz≤16777216∧z.length=sz∧cs.length=sz∧K (.isl sz [cs]) h):=by
 simp [z0m,z8t,AV.fits,AV.cells]
 by_cases hc:cs.length=sz <;> simp [hc]
theorem bsl_two (e:TypeId) (sz by_:Nat) (z cs ds:List AV) (h:z00) (K:AV→z00→Prop):z0m true { e:=e,sz:=sz,by_:=by_ } z 2 [(0,.agg cs),(1,.agg ds)] h K=(2*sz≤16777216∧z.length=sz∧cs.length=sz∧ds.length=sz∧K (.isl sz [cs,ds]) h):=by
 simp [z0m,z8t,AV.fits,AV.cells]
 by_cases hc:cs.length=sz <;> by_cases hd:ds.length=sz <;> simp [hc,hd,List.replicate]
end Go.Proofs.Ytjlogcfggfmacaa
end

section
set_option maxRecDepth 100000
set_option maxHeartbeats 1000000
namespace Go.Proofs.Ytjlogcfggfmacaa
open Go.Abs
theorem zbg {c:Cd} (h:okC c=true):(slL c.Records).length≤6∧(slL c.Threads).length≤4∧zb9 c (slL c.Globals) 8=true∧zej c=true∧zsm c=true∧(slL c.Records).all (fun r=>zb9 c (slL r) 6)=true∧zf0 c=true:=by
 unfold okC at h
 simp only [Bool.and_eq_true,decide_eq_true_eq] at h
 obtain ⟨⟨⟨⟨⟨⟨h1,h2⟩,h3⟩,h4⟩,h5⟩,h6⟩,h7⟩:=h
 exact ⟨h1,h2,h3,h4,h5,h6,h7⟩
theorem meet_comm (s o:z0b):zri s o=zri o s:=by
 unfold zri
 rw [Bool.eq_iff_iff]
 simp only [Bool.and_eq_true,decide_eq_true_eq]
 constructor <;> (rintro ⟨⟨a,b⟩,d⟩;exact ⟨⟨a.symm,d⟩,b⟩)
theorem secs_iff (c:Cd):allK (secB c) (slL c.Sections)=true↔allK (secR c) (slL c.Sections)=true:=by
 simp only [z1p]
 constructor
 ·intro h k s hs
  have hk:=h k s hs
  unfold secB at hk
  rw [Bool.and_eq_true] at hk
  unfold secR
  rw [hk.1,Bool.true_and,z1p]
  intro j o hj
  unfold sepP
  by_cases e:j=k
  ·simp [e]
  ·have:zri s o=false:=by
    rcases Nat.lt_or_gt_of_ne e with hlt | hgt
    ·have:=List.all_eq_true.1 hk.2 o (List.mem_of_getElem? (i:=j) (by rw [List.getElem?_take_of_lt hlt,hj]))
     simpa using this
    ·have hj2:=h j o hj
     unfold secB at hj2
     rw [Bool.and_eq_true] at hj2
     have:=List.all_eq_true.1 hj2.2 s (List.mem_of_getElem? (i:=k) (by rw [List.getElem?_take_of_lt hgt,hs]))
     rw [meet_comm]
     simpa using this
   simp [this]
 ·intro h k s hs
  have hk:=h k s hs
  unfold secR at hk
  rw [Bool.and_eq_true,z1p] at hk
  unfold secB
  rw [hk.1,Bool.true_and,List.all_eq_true]
  intro o ho
  obtain ⟨j,hj⟩:=List.getElem?_of_mem ho
  have hjl:=(List.getElem?_eq_some_iff.1 hj).1
  rw [List.length_take] at hjl
  have hjk:j<k:=by omega
  rw [List.getElem?_take_of_lt hjk] at hj
  have:=hk.2 j o hj
  unfold sepP at this
  simpa [show j≠k by omega] using this
theorem rows_iff (c:Cd) (hg:(slL c.Globals).length≤8):allK (rowP c) (c.Globals::slL c.Records)=true↔zb9 c (slL c.Globals) 8=true∧(slL c.Records).all (fun r=>zb9 c (slL r) 6)=true:=by
 have e8:zb9 c (slL c.Globals) 8=cellP c c.Globals:=by unfold zb9 cellP;rw [decide_eq_true (by omega),Bool.true_and]
 rw [e8,z1p,List.all_eq_true]
 have e6:∀ (i:Nat) (r:Option (List Lo)),rowP c (i+1) r=zb9 c (slL r) 6:=fun i r=>by
  unfold rowP zb9 cellP
  by_cases h:(slL r).length≤6
  ·rw [decide_eq_false (show ¬ 6<(slL r).length by omega),decide_eq_true (show ((slL r).length:Int)≤6 by omega)];simp
  ·rw [decide_eq_true (show 6<(slL r).length by omega),decide_eq_false (show ¬ ((slL r).length:Int)≤6 by omega)];simp
 constructor
 ·intro h
  refine ⟨by have:=h 0 _ rfl;simpa [rowP] using this,fun r hr=>?_⟩
  obtain ⟨i,hi⟩:=List.getElem?_of_mem hr
  rw [←e6 i r]
  exact h (i+1) r (by simpa using hi)
 ·rintro ⟨h1,h2⟩ k o hk
  cases k with
  | zero=>simp at hk;subst hk;simpa [rowP] using h1
  | succ k=>rw [e6];exact h2 o (List.mem_of_getElem? (by simpa using hk))
theorem zme (c:Cd):zf0 c=true↔(slL c.Threads).all (z9s c)=true∧allK (fun i b=>allK (fun k x=>z8s c i b x k) (slL b.Code)) (slL c.Threads)=true:=by
 have halt:∀ (i:Nat) (b:Bd) (x:In) (k:Nat),z0z c i b x k=true→x.Op=17→(k:Int)=(slL b.Code).length-1:=fun i b x k hi ho=>by
  unfold z0z at hi
  rw [if_neg (by omega),if_neg (by omega),if_neg (by omega),if_neg (by omega),if_neg (by omega),if_neg (by omega),if_neg (by omega),if_neg (by omega)] at hi
  simp only [Bool.and_eq_true,decide_eq_true_eq] at hi
  exact hi.2
 unfold zf0
 constructor
 ·intro h
  rw [z1p] at h
  have part:∀ (i:Nat) (b:Bd),(slL c.Threads)[i]?=some b→z9s c b=true∧lastB b=true∧zgf c i b=true:=fun i b hb=>by
   have:=h i b hb
   unfold zb5 at this
   simpa [and_assoc] using this
  refine ⟨List.all_eq_true.2 fun b hb=>?_,z1p.2 fun i b hb=>z1p.2 fun k x hx=>?_⟩
  ·obtain ⟨i,hi⟩:=List.getElem?_of_mem hb
   exact (part i b hi).1
  ·obtain ⟨-,h2,h3⟩:=part i b hb
   have hi:=z1p.1 h3 k x hx
   unfold z8s
   rw [hi,Bool.true_and]
   by_cases ho:x.Op=17
   ·rw [decide_eq_true ho,decide_eq_true (halt i b x k hi ho)];rfl
   ·have:¬ ((k:Int)=(slL b.Code).length-1):=fun e=>by
     unfold lastB at h2
     rw [←e,z1s,hx] at h2
     exact ho (by simpa using h2)
    rw [decide_eq_false ho,decide_eq_false this];rfl
 ·rintro ⟨h1,h2⟩
  rw [z1p] at h2 ⊢
  intro i b hb
  have hbd:=List.all_eq_true.1 h1 b (List.mem_of_getElem? hb)
  have hin:=h2 i b hb
  rw [z1p] at hin
  have hpos:1≤(slL b.Code).length:=by
   unfold z9s at hbd
   simp only [Bool.and_eq_true,decide_eq_true_eq] at hbd
   exact hbd.1.1.1.1.2
  have e1:zgf c i b=true:=z1p.2 fun k x hx=>by
   have:=hin k x hx
   unfold z8s at this
   rw [Bool.and_eq_true] at this
   exact this.1
  have e2:lastB b=true:=by
   obtain ⟨x,hx⟩:∃ x,(slL b.Code)[(slL b.Code).length-1]?=some x:=⟨_,List.getElem?_eq_getElem (by omega)⟩
   have e:((slL b.Code).length:Int)-1=(((slL b.Code).length-1:Nat):Int):=by omega
   have:=hin _ x hx
   unfold z8s at this
   rw [Bool.and_eq_true,←e] at this
   unfold lastB
   rw [e,z1s,hx]
   simpa using this.2
  unfold zb5
  rw [hbd,e2,e1];rfl
theorem z9e (c:Cd):okC c=true↔(slL c.Records).length≤6∧(slL c.Globals).length≤8∧(slL c.Threads).length≤4∧(slL c.Sites).length≤32∧(slL c.Sections).length≤32∧allK (rowP c) (c.Globals::slL c.Records)=true∧(slL c.Threads).all (z9s c)=true∧allK (secR c) (slL c.Sections)=true∧allK (za5 c) (slL c.Sites)=true∧allK (fun i b=>allK (fun k x=>z8s c i b x k) (slL b.Code)) (slL c.Threads)=true:=by
 constructor
 ·intro h
  obtain ⟨h1,h2,h3,h4,h5,h6,h7⟩:=zbg h
  have hg:(slL c.Globals).length≤8:=by
   unfold zb9 at h3;simp only [Bool.and_eq_true,decide_eq_true_eq] at h3;omega
  unfold zej at h4
  unfold zsm at h5
  simp only [Bool.and_eq_true,decide_eq_true_eq] at h4 h5
  have ht:=(zme c).1 h7
  exact ⟨h1,hg,h2,h5.1,h4.1,(rows_iff c hg).2 ⟨h3,h6⟩,ht.1,(secs_iff c).1 h4.2,h5.2,ht.2⟩
 ·rintro ⟨h1,hg,h2,h3,h4,h5,h6,h7,h8,h9⟩
  obtain ⟨r1,r2⟩:=(rows_iff c hg).1 h5
  unfold okC zej zsm
  rw [decide_eq_true h1,decide_eq_true h2,r1,r2,decide_eq_true h4,decide_eq_true h3,(secs_iff c).2 h7,h8,(zme c).2 ⟨h6,h9⟩]
  rfl
theorem keeps_kill {h g:z00} (k:Keeps h g (fun _=>False)) {id:Nat} (hid:h.next≤id):Keeps h (g.kill id) (fun _=>False):=
 ⟨k.next,fun i hi hs=>by simp only [z00.z5t];rw [if_neg (by omega)];exact k.objs i hi hs⟩
theorem ref_Good_k (c:Cd) (hc:c.ok) (sm:Small c) (h:z00):z01 Try.prog 34 [.agg c.cells] h (fun v h2=>v=.bool (okC c)∧Keeps h h2 (fun _=>False)):=by
 have no:∀ {p:Prop},(okC c=true→p)→¬ p→okC c=false:=fun hp hn=>by
  rw [Bool.eq_false_iff];exact fun e=>hn (hp e)
 have hrec:=sm.recs
 have hgl:=sm.globs
 apply zdz
 (repeat (first | simp -dsimp -implicitDefEqProofs (disch:=omega) only [↓rP,rA,↓reduceIte,reduceEqDiff,reduceAdd,reduceLeDiff,↓tyr] | refine Cut.go ?_))
 refine z0c (fun h1=>?_) (fun h1=>?_)
 ·(repeat (first | simp -dsimp -implicitDefEqProofs (disch:=omega) only [↓rP,rA,↓reduceIte,reduceEqDiff,reduceAdd,reduceLeDiff,↓tyr] | refine Cut.go ?_))
  rw [no (fun e=>((z9e c).1 e).1) (by omega)]
  (first | (refine And.intro (by simp) ?_;(repeat (first | assumption | with_reducible exact Keeps.refl _ _ | with_reducible refine Keeps.go ?_ (Keeps.one _ _) | with_reducible refine Keeps.go ?_ (by assumption)))) | (repeat (first | assumption | with_reducible exact Keeps.refl _ _ | with_reducible refine Keeps.go ?_ (Keeps.one _ _) | with_reducible refine Keeps.go ?_ (by assumption))))
 (repeat (first | simp -dsimp -implicitDefEqProofs (disch:=omega) only [↓rP,rA,↓reduceIte,reduceEqDiff,reduceAdd,reduceLeDiff,↓tyr] | refine Cut.go ?_))
 refine z0c (fun h2=>?_) (fun h2=>?_)
 ·(repeat (first | simp -dsimp -implicitDefEqProofs (disch:=omega) only [↓rP,rA,↓reduceIte,reduceEqDiff,reduceAdd,reduceLeDiff,↓tyr] | refine Cut.go ?_))
  rw [no (fun e=>((z9e c).1 e).2.1) (by omega)]
  (first | (refine And.intro (by simp) ?_;(repeat (first | assumption | with_reducible exact Keeps.refl _ _ | with_reducible refine Keeps.go ?_ (Keeps.one _ _) | with_reducible refine Keeps.go ?_ (by assumption)))) | (repeat (first | assumption | with_reducible exact Keeps.refl _ _ | with_reducible refine Keeps.go ?_ (Keeps.one _ _) | with_reducible refine Keeps.go ?_ (by assumption))))
 (repeat (first | simp -dsimp -implicitDefEqProofs (disch:=omega) only [↓rP,rA,↓reduceIte,reduceEqDiff,reduceAdd,reduceLeDiff,↓tyr] | refine Cut.go ?_))
 refine z0c (fun h3=>?_) (fun h3=>?_)
 ·(repeat (first | simp -dsimp -implicitDefEqProofs (disch:=omega) only [↓rP,rA,↓reduceIte,reduceEqDiff,reduceAdd,reduceLeDiff,↓tyr] | refine Cut.go ?_))
  rw [no (fun e=>((z9e c).1 e).2.2.1) (by omega)]
  (first | (refine And.intro (by simp) ?_;(repeat (first | assumption | with_reducible exact Keeps.refl _ _ | with_reducible refine Keeps.go ?_ (Keeps.one _ _) | with_reducible refine Keeps.go ?_ (by assumption)))) | (repeat (first | assumption | with_reducible exact Keeps.refl _ _ | with_reducible refine Keeps.go ?_ (Keeps.one _ _) | with_reducible refine Keeps.go ?_ (by assumption))))
 (repeat (first | simp -dsimp -implicitDefEqProofs (disch:=omega) only [↓rP,rA,↓reduceIte,reduceEqDiff,reduceAdd,reduceLeDiff,↓tyr] | refine Cut.go ?_))
 refine z0c (fun h4=>?_) (fun h4=>?_)
 ·(repeat (first | simp -dsimp -implicitDefEqProofs (disch:=omega) only [↓rP,rA,↓reduceIte,reduceEqDiff,reduceAdd,reduceLeDiff,↓tyr] | refine Cut.go ?_))
  rw [no (fun e=>((z9e c).1 e).2.2.2.1) (by omega)]
  (first | (refine And.intro (by simp) ?_;(repeat (first | assumption | with_reducible exact Keeps.refl _ _ | with_reducible refine Keeps.go ?_ (Keeps.one _ _) | with_reducible refine Keeps.go ?_ (by assumption)))) | (repeat (first | assumption | with_reducible exact Keeps.refl _ _ | with_reducible refine Keeps.go ?_ (Keeps.one _ _) | with_reducible refine Keeps.go ?_ (by assumption))))
 (repeat (first | simp -dsimp -implicitDefEqProofs (disch:=omega) only [↓rP,rA,↓reduceIte,reduceEqDiff,reduceAdd,reduceLeDiff,↓tyr] | refine Cut.go ?_))
 refine z0c (fun h5=>?_) (fun h5=>?_)
 ·(repeat (first | simp -dsimp -implicitDefEqProofs (disch:=omega) only [↓rP,rA,↓reduceIte,reduceEqDiff,reduceAdd,reduceLeDiff,↓tyr] | refine Cut.go ?_))
  rw [no (fun e=>((z9e c).1 e).2.2.2.2.1) (by omega)]
  (first | (refine And.intro (by simp) ?_;(repeat (first | assumption | with_reducible exact Keeps.refl _ _ | with_reducible refine Keeps.go ?_ (Keeps.one _ _) | with_reducible refine Keeps.go ?_ (by assumption)))) | (repeat (first | assumption | with_reducible exact Keeps.refl _ _ | with_reducible refine Keeps.go ?_ (Keeps.one _ _) | with_reducible refine Keeps.go ?_ (by assumption))))
 have bs:∀ K:AV→z00→Prop,z0m false { e:=23,sz:=1,by_:=24 } [AV.nils] 1 [(0,slAV 3 z0a.cells c.Globals)] h K=K (.sl h.next 0 1 1) (h.push (.row 23 [slAV 3 z0a.cells c.Globals])):=fun K=>by
  simp [z0m,z8t,zh4,zij]
 have ap:∀ K:AV→z00→Prop,z11 false { e:=23,sz:=1,by_:=24 } (.sl h.next 0 1 1) (slAV 1 (fun o=>[slAV 3 z0a.cells o]) c.Records) (h.push (.row 23 [slAV 3 z0a.cells c.Globals])) K
   =K (.sl (h.next+1) 0 (c.Globals::slL c.Records).length 1) (((h.push (.row 23 [slAV 3 z0a.cells c.Globals])).kill h.next).push (.row 23 ((c.Globals::slL c.Records).map fun o=>slAV 3 z0a.cells o))):=fun K=>by
  have ef:((slL c.Records).map fun o=>[slAV 3 z0a.cells o]).flatten=(slL c.Records).map fun o=>slAV 3 z0a.cells o:=by
   induction slL c.Records with
   | nil=>rfl
   | cons a l ih=>simp [ih]
  simp only [z11,zi7,z00.z5w,if_true]
  rw [ef]
  simp [bounded,maxLen,Nat.add_comm]
  intro;omega
 (repeat (first | simp -dsimp -implicitDefEqProofs (disch:=omega) only [↓rP,rA,↓reduceIte,reduceEqDiff,reduceAdd,reduceLeDiff,↓tyr,↓bs,↓ap] | refine Cut.go ?_))
 have kH:Keeps h (((h.push (.row 23 [slAV 3 z0a.cells c.Globals])).kill h.next).push (.row 23 ((c.Globals::slL c.Records).map fun o=>slAV 3 z0a.cells o))) (fun _=>False):=(keeps_kill (Keeps.one _ _) (Nat.le_refl _)).go (Keeps.one _ _)
 have hfl:∀ o∈(c.Globals::slL c.Records),(slL o).length≤1000:=fun o ho=>by
  rcases List.mem_cons.1 ho with rfl | ho
  ·omega
  ·have:=sm.fields o ho;omega
 refine g_rows c (c.Globals::slL c.Records) (by simp;omega) hfl _ (h.next+1) (by simp) (by simp) _ (fun h6 hg k6=>?_) (fun h6 hg k6=>?_)
 ·(repeat (first | simp -dsimp -implicitDefEqProofs (disch:=omega) only [↓rP,rA,↓reduceIte,reduceEqDiff,reduceAdd,reduceLeDiff,↓tyr] | refine Cut.go ?_))
  rw [no (fun e=>((z9e c).1 e).2.2.2.2.2.1) (by rw [hg];simp)]
  exact ⟨rfl,kH.go k6⟩
 (repeat (first | simp -dsimp -implicitDefEqProofs (disch:=omega) only [↓rP,rA,↓reduceIte,reduceEqDiff,reduceAdd,reduceLeDiff,↓tyr] | refine Cut.go ?_))
 refine g_bodies c sm h6 _ (fun h7 hg7 k7=>?_) (fun h7 hg7 k7=>?_)
 ·(repeat (first | simp -dsimp -implicitDefEqProofs (disch:=omega) only [↓rP,rA,↓reduceIte,reduceEqDiff,reduceAdd,reduceLeDiff,↓tyr] | refine Cut.go ?_))
  rw [no (fun e=>((z9e c).1 e).2.2.2.2.2.2.1) (by rw [hg7];simp)]
  exact ⟨rfl,(kH.go k6).go k7⟩
 (repeat (first | simp -dsimp -implicitDefEqProofs (disch:=omega) only [↓rP,rA,↓reduceIte,reduceEqDiff,reduceAdd,reduceLeDiff,↓tyr] | refine Cut.go ?_))
 refine g_sections c sm h7 _ (fun h8 hg8 k8=>?_) (fun h8 hg8 k8=>?_)
 ·(repeat (first | simp -dsimp -implicitDefEqProofs (disch:=omega) only [↓rP,rA,↓reduceIte,reduceEqDiff,reduceAdd,reduceLeDiff,↓tyr] | refine Cut.go ?_))
  rw [no (fun e=>((z9e c).1 e).2.2.2.2.2.2.2.1) (by rw [hg8];simp)]
  exact ⟨rfl,((kH.go k6).go k7).go k8⟩
 (repeat (first | simp -dsimp -implicitDefEqProofs (disch:=omega) only [↓rP,rA,↓reduceIte,reduceEqDiff,reduceAdd,reduceLeDiff,↓tyr] | refine Cut.go ?_))
 refine g_sites c sm h8 _ (fun h9 hg9 k9=>?_) (fun h9 hg9 k9=>?_)
 ·(repeat (first | simp -dsimp -implicitDefEqProofs (disch:=omega) only [↓rP,rA,↓reduceIte,reduceEqDiff,reduceAdd,reduceLeDiff,↓tyr] | refine Cut.go ?_))
  rw [no (fun e=>((z9e c).1 e).2.2.2.2.2.2.2.2.1) (by rw [hg9];simp)]
  exact ⟨rfl,(((kH.go k6).go k7).go k8).go k9⟩
 (repeat (first | simp -dsimp -implicitDefEqProofs (disch:=omega) only [↓rP,rA,↓reduceIte,reduceEqDiff,reduceAdd,reduceLeDiff,↓tyr] | refine Cut.go ?_))
 refine g_threads c hc sm hg7 h9 _ (fun h10 hg10 k10=>?_) (fun h10 hg10 k10=>?_)
 ·(repeat (first | simp -dsimp -implicitDefEqProofs (disch:=omega) only [↓rP,rA,↓reduceIte,reduceEqDiff,reduceAdd,reduceLeDiff,↓tyr] | refine Cut.go ?_))
  rw [no (fun e=>((z9e c).1 e).2.2.2.2.2.2.2.2.2) (by rw [hg10];simp)]
  exact ⟨rfl,((((kH.go k6).go k7).go k8).go k9).go k10⟩
 (repeat (first | simp -dsimp -implicitDefEqProofs (disch:=omega) only [↓rP,rA,↓reduceIte,reduceEqDiff,reduceAdd,reduceLeDiff,↓tyr] | refine Cut.go ?_))
 rw [(z9e c).2 ⟨by omega,by omega,by omega,by omega,by omega,hg,hg7,hg8,hg9,hg10⟩]
 exact ⟨rfl,((((kH.go k6).go k7).go k8).go k9).go k10⟩
theorem zj4 (c:Cd) (hc:c.ok) (sm:Small c) (h:z00):z01 Try.prog 34 [.agg c.cells] h (fun v h2=>v=.bool (okC c)∧h2=h):=z01.forget (by simp [z1u]) (ref_Good_k c hc sm h)
end Go.Proofs.Ytjlogcfggfmacaa
end

section
namespace Go.Proofs.Ytjlogcfggfmacaa
inductive Conn (R:Nat→Nat→Prop):Nat→Nat→Prop
 | refl (a:Nat):Conn R a a
 | tail {a b c:Nat}:Conn R a b→R b c→Conn R a c
namespace Conn
variable {R:Nat→Nat→Prop}
theorem one {a b:Nat} (h:R a b):Conn R a b:=(Conn.refl a).tail h
theorem trans {a b c:Nat} (h:Conn R a b) (k:Conn R b c):Conn R a c:=by
 induction k with
 | refl=>exact h
 | tail _ r ih=>exact ih.tail r
theorem symm (hs:∀ a b,R a b→R b a) {a b:Nat} (h:Conn R a b):Conn R b a:=by
 induction h with
 | refl=>exact .refl _
 | tail _ r ih=>exact (one (hs _ _ r)).trans ih
theorem map {R':Nat→Nat→Prop} (hm:∀ a b,R a b→Conn R' a b) {a b:Nat} (h:Conn R a b):Conn R' a b:=by
 induction h with
 | refl=>exact .refl _
 | tail _ r ih=>exact ih.trans (hm _ _ r)
theorem closed {T:Nat→Prop} (hc:∀ a b,T a→R a b→T b) {a b:Nat} (h:Conn R a b) (ha:T a):T b:=by
 induction h with
 | refl=>exact ha
 | tail _ r ih=>exact hc _ _ ih r
end Conn
def Prs (P:List (Nat×Nat)) (a b:Nat):Prop:=(a,b)∈P∨(b,a)∈P
theorem Prs.symm {P:List (Nat×Nat)} (a b:Nat) (h:Prs P a b):Prs P b a:=Or.symm h
theorem conn_snoc {P:List (Nat×Nat)} {i j x y:Nat}:Conn (Prs (P++[(i,j)])) x y↔Conn (Prs P) x y∨(Conn (Prs P) x i∧Conn (Prs P) j y)∨(Conn (Prs P) x j∧Conn (Prs P) i y):=by
 have up:∀ {a b:Nat},Conn (Prs P) a b→Conn (Prs (P++[(i,j)])) a b:=fun h=>h.map fun a b r=>Conn.one (by
  rcases r with r | r
  ·exact Or.inl (by simp [r])
  ·exact Or.inr (by simp [r]))
 have hij:Conn (Prs (P++[(i,j)])) i j:=Conn.one (Or.inl (by simp))
 have hji:Conn (Prs (P++[(i,j)])) j i:=Conn.one (Or.inr (by simp))
 constructor
 ·intro h
  induction h with
  | refl=>exact Or.inl (.refl _)
  | @tail b c _ r ih=>
   have sy:∀ {a b:Nat},Conn (Prs P) a b→Conn (Prs P) b a:=fun h=>h.symm Prs.symm
   have hr:Prs P b c∨(b=i∧c=j)∨(b=j∧c=i):=by
    rcases r with r | r <;> simp only [List.mem_append,List.mem_singleton,Prod.mk.injEq] at r
    ·rcases r with r | r
     ·exact Or.inl (Or.inl r)
     ·exact Or.inr (Or.inl r)
    ·rcases r with r | ⟨r1,r2⟩
     ·exact Or.inl (Or.inr r)
     ·exact Or.inr (Or.inr ⟨r2,r1⟩)
   rcases hr with hr | ⟨rfl,rfl⟩ | ⟨rfl,rfl⟩
   ·rcases ih with ih | ⟨h1,h2⟩ | ⟨h1,h2⟩
    ·exact Or.inl (ih.tail hr)
    ·exact Or.inr (Or.inl ⟨h1,h2.tail hr⟩)
    ·exact Or.inr (Or.inr ⟨h1,h2.tail hr⟩)
   ·rcases ih with ih | ⟨h1,h2⟩ | ⟨h1,h2⟩
    ·exact Or.inr (Or.inl ⟨ih,.refl _⟩)
    ·exact Or.inr (Or.inl ⟨h1,.refl _⟩)
    ·exact Or.inl h1
   ·rcases ih with ih | ⟨h1,h2⟩ | ⟨h1,h2⟩
    ·exact Or.inr (Or.inr ⟨ih,.refl _⟩)
    ·exact Or.inl h1
    ·exact Or.inr (Or.inr ⟨h1,.refl _⟩)
 ·rintro (h | ⟨h1,h2⟩ | ⟨h1,h2⟩)
  ·exact up h
  ·exact ((up h1).trans hij).trans (up h2)
  ·exact ((up h1).trans hji).trans (up h2)
def Low (f:List Nat):Prop:=∀ (k v:Nat),f[k]?=some v→v≤k
def root (f:List Nat) (k:Nat):Nat:=if h:f.getD k k<k then root f (f.getD k k) else k
termination_by k
theorem zef {f:List Nat} {k:Nat} (h:f.getD k k<k):root f k=root f (f.getD k k):=by
 rw [root,dif_pos h]
theorem z9n {f:List Nat} {k:Nat} (h:¬ f.getD k k<k):root f k=k:=by
 rw [root,dif_neg h]
theorem zm3 {f:List Nat}:∀ (k:Nat),root f k≤k:=by
 intro k
 induction k using Nat.strongRecOn with
 | _ k ih=>
  by_cases h:f.getD k k<k
  ·rw [zef h];have:=ih _ h;omega
  ·rw [z9n h];exact Nat.le_refl _
theorem zpn {f:List Nat}:∀ (k:Nat),¬ f.getD (root f k) (root f k)<root f k:=by
 intro k
 induction k using Nat.strongRecOn with
 | _ k ih=>
  by_cases h:f.getD k k<k
  ·rw [zef h];exact ih _ h
  ·rw [z9n h];exact h
theorem z9m {f:List Nat} (k:Nat):root f (root f k)=root f k:=z9n (zpn k)
theorem zkf (f:List Nat) (k v j:Nat) (hk:k<f.length):(f.set k v).getD j j=if j=k then v else f.getD j j:=by
 rw [List.getD_eq_getElem?_getD,List.getElem?_set,List.getD_eq_getElem?_getD]
 by_cases e:k=j
 ·subst e;simp [hk]
 ·rw [if_neg e,if_neg (Ne.symm e)]
theorem Low.set {f:List Nat} (hl:Low f) {k v:Nat} (hv:v≤k):Low (f.set k v):=by
 intro j x hx
 rw [List.getElem?_set] at hx
 split at hx
 ·rename_i e
  split at hx
  ·cases hx;omega
  ·cases hx
 ·exact hl j x hx
theorem zse {f:List Nat} (hl:Low f) {a b:Nat} (ha:a<f.length) (hb:b<f.length) (ra:root f a=a) (rb:root f b=b) (x:Nat):root (f.set (max a b) (min a b)) x=if root f x=max a b then min a b else root f x:=by
 have hM:max a b<f.length:=by omega
 have rM:root f (max a b)=max a b:=by
  rcases Nat.le_total a b with h | h
  ·rw [Nat.max_eq_right h,rb]
  ·rw [Nat.max_eq_left h,ra]
 have rm:root f (min a b)=min a b:=by
  rcases Nat.le_total a b with h | h
  ·rw [Nat.min_eq_left h,ra]
  ·rw [Nat.min_eq_right h,rb]
 have hmM:min a b≤max a b:=by omega
 generalize max a b=M at *
 generalize min a b=m at *
 have fM:¬ f.getD M M<M:=by have:=zpn (f:=f) M;rwa [rM] at this
 have fm:¬ f.getD m m<m:=by have:=zpn (f:=f) m;rwa [rm] at this
 induction x using Nat.strongRecOn with
 | _ x ih=>
  by_cases e:x=M
  ·subst e
   rw [rM,if_pos rfl]
   have h1:(f.set x m).getD x x=m:=by rw [zkf _ _ _ _ hM,if_pos rfl]
   rcases Nat.lt_or_eq_of_le hmM with hlt | heq
   ·rw [zef (by rw [h1];exact hlt),h1,ih m hlt,rm,if_neg (by omega)]
   ·rw [z9n (by rw [h1];omega)];exact heq.symm
  ·have h1:(f.set M m).getD x x=f.getD x x:=by rw [zkf _ _ _ _ hM,if_neg e]
   by_cases h2:f.getD x x<x
   ·rw [zef (by rw [h1];exact h2),h1,ih _ h2,←zef h2]
   ·rw [z9n (by rw [h1];exact h2),z9n h2,if_neg e]
def Says (f:List Nat) (P:List (Nat×Nat)):Prop:=Low f∧∀ x y,root f x=root f y↔Conn (Prs P) x y
theorem Says.start (n:Nat):Says (List.range n) []:=by
 have hl:Low (List.range n):=fun k v h=>by
  have:=List.getElem?_eq_some_iff.1 h
  obtain ⟨h1,h2⟩:=this
  simp at h2;omega
 have hr:∀ x,root (List.range n) x=x:=fun x=>z9n (by
  rw [List.getD_eq_getElem?_getD]
  by_cases h:x<n <;> simp [h])
 refine ⟨hl,fun x y=>?_⟩
 rw [hr,hr]
 constructor
 ·rintro rfl;exact .refl _
 ·intro h
  induction h with
  | refl=>rfl
  | tail _ r ih=>rcases r with r | r <;> simp at r
theorem Says.link {f:List Nat} {P:List (Nat×Nat)} (h:Says f P) {i j:Nat} (hi:i<f.length) (hj:j<f.length):Says (f.set (max (root f i) (root f j)) (min (root f i) (root f j))) (P++[(i,j)]):=by
 have h1:root f i<f.length:=Nat.lt_of_le_of_lt (zm3 i) hi
 have h2:root f j<f.length:=Nat.lt_of_le_of_lt (zm3 j) hj
 refine ⟨h.1.set (by omega),fun x y=>?_⟩
 rw [zse h.1 h1 h2 (z9m i) (z9m j),zse h.1 h1 h2 (z9m i) (z9m j),conn_snoc,←h.2,←h.2,←h.2,←h.2,←h.2]
 rcases Nat.le_total (root f i) (root f j) with hle | hle
 ·rw [Nat.max_eq_right hle,Nat.min_eq_left hle]
  split <;> split <;> omega
 ·rw [Nat.max_eq_left hle,Nat.min_eq_right hle]
  split <;> split <;> omega
def MeetP (S:List Nat) (a b:Nat):Prop:=∃ x∈S,x.testBit a=true∧x.testBit b=true
def bitsOf (x:Nat):List Nat:=(List.range 64).filter fun k=>x.testBit k
theorem z6g {x k:Nat}:k∈bitsOf x↔k<64∧x.testBit k=true:=by simp [bitsOf]
def firstB (x:Nat):Nat:=(bitsOf x).headD 64
def zk8 (S:List Nat):List (Nat×Nat):=(S.map fun x=>(bitsOf x).map fun k=>(firstB x,k)).flatten
theorem ziq {x k:Nat} (h:k∈bitsOf x):firstB x∈bitsOf x:=by
 unfold firstB
 cases hb:bitsOf x with
 | nil=>rw [hb] at h;cases h
 | cons a l=>simp
theorem conn_prs {S:List Nat} (hS:∀ x∈S,x<2 ^ 64) {x y:Nat}:Conn (Prs (zk8 S)) x y↔Conn (MeetP S) x y:=by
 have hmem:∀ a b,(a,b)∈zk8 S↔∃ x∈S,a=firstB x∧b∈bitsOf x:=by
  intro a b
  simp only [zk8,List.mem_flatten,List.mem_map]
  constructor
  ·rintro ⟨l,⟨x,hx,rfl⟩,h⟩
   simp only [List.mem_map,Prod.mk.injEq] at h
   obtain ⟨k,hk,rfl,rfl⟩:=h
   exact ⟨x,hx,rfl,hk⟩
  ·rintro ⟨x,hx,rfl,hb⟩
   exact ⟨_,⟨x,hx,rfl⟩,List.mem_map.2 ⟨b,hb,rfl⟩⟩
 constructor
 ·refine Conn.map fun a b h=>Conn.one ?_
  rcases h with h | h <;> obtain ⟨x,hx,e,hb⟩:=(hmem _ _).1 h
  ·exact ⟨x,hx,e▸(z6g.1 (ziq hb)).2,(z6g.1 hb).2⟩
  ·exact ⟨x,hx,(z6g.1 hb).2,e▸(z6g.1 (ziq hb)).2⟩
 ·refine Conn.map fun a b h=>?_
  obtain ⟨x,hx,h1,h2⟩:=h
  have hlt:∀ k,x.testBit k=true→k<64:=fun k hk=>by
   apply Classical.byContradiction
   intro hn
   have:x<2 ^ k:=Nat.lt_of_lt_of_le (hS x hx) (Nat.pow_le_pow_right (by decide) (by omega))
   rw [Nat.testBit_lt_two_pow this] at hk;cases hk
  have b1:=z6g.2 ⟨hlt a h1,h1⟩
  have b2:=z6g.2 ⟨hlt b h2,h2⟩
  exact (Conn.one (Or.inr ((hmem _ _).2 ⟨x,hx,rfl,b1⟩))).tail (Or.inl ((hmem _ _).2 ⟨x,hx,rfl,b2⟩))
def z2u (f:List Nat) (k:Nat):Nat:=(List.range k).countP fun j=>decide (root f j=j)
def z9t (f:List Nat) (k:Nat):Nat:=z2u f (root f k)+1
theorem zcb (f:List Nat) (k:Nat):z2u f (k+1)=z2u f k+if root f k=k then 1 else 0:=by
 unfold z2u
 rw [List.range_succ,List.countP_append]
 simp [List.countP_cons]
theorem zre {f g:List Nat} (h:∀ x,root g x=root f x) (k:Nat):z2u g k=z2u f k:=by simp only [z2u,h]
theorem zlg (f:List Nat) {i k:Nat} (h:i≤k):z2u f i≤z2u f k:=by
 induction h with
 | refl=>exact Nat.le_refl _
 | @step m _ ih=>rw [show m.succ=m+1 from rfl,zcb];omega
theorem zt5 {f g:List Nat} (h:∀ x,root g x=root f x) (k:Nat):z9t g k=z9t f k:=by simp only [z9t,h,zre h]
theorem countP_lt {n:Nat} {p q:Nat→Bool} (h:∀ j,j<n→p j=true→q j=true) {b:Nat} (hb:b<n) (h1:p b=false) (h2:q b=true):(List.range n).countP p<(List.range n).countP q:=by
 induction n with
 | zero=>omega
 | succ n ih=>
  rw [List.range_succ,List.countP_append,List.countP_append]
  have hle:(List.range n).countP p≤(List.range n).countP q:=List.countP_mono_left fun j hj hp=>h j (by have:=List.mem_range.1 hj;omega) hp
  rcases Nat.lt_or_eq_of_le (show b≤n by omega) with hbn | rfl
  ·have:=ih (fun j hj=>h j (by omega)) hbn
   have h3:=h n (by omega)
   cases hp:p n <;> cases hq:q n <;> simp_all <;> omega
  ·simp [h1,h2];omega
def Come (n:Nat) (R:Nat→Nat→Prop) (r:Nat) (T:Nat→Bool):Prop:=(∀ a b,a<n→b<n→T a=true→R a b→T b=true)∨r+1≤(List.range n).countP T
theorem Come.next {n:Nat} {R:Nat→Nat→Prop} {r:Nat} {T T':Nat→Bool} (h:Come n R r T) (hm:∀ j,j<n→T j=true→T' j=true) (hc:∀ a b,a<n→b<n→T a=true→R a b→T' b=true) (hs:(∀ a b,a<n→b<n→T a=true→R a b→T b=true)→∀ j,j<n→T' j=T j):Come n R (r+1) T':=by
 by_cases hcl:∀ a b,a<n→b<n→T a=true→R a b→T b=true
 ·have:=hs hcl
  left
  intro a b ha hb h1 h2
  rw [this b hb]
  exact hcl a b ha hb (by rw [←this a ha];exact h1) h2
 ·right
  have hge:=h.resolve_left hcl
  obtain ⟨b,hb,h1,h2⟩:∃ b,b<n∧T b=false∧T' b=true:=by
   apply Classical.byContradiction
   intro hn
   apply hcl
   intro a b ha hb h1 h2
   cases hT:T b with
   | true=>rfl
   | false=>exact absurd ⟨b,hb,hT,hc a b ha hb h1 h2⟩ hn
  have:=countP_lt hm hb h1 h2
  omega
theorem Come.end_ {n:Nat} {R:Nat→Nat→Prop} {T:Nat→Bool} (h:Come n R n T):∀ a b,a<n→b<n→T a=true→R a b→T b=true:=by
 rcases h with h | h
 ·exact h
 ·have:(List.range n).countP T≤(List.range n).length:=List.countP_le_length
  simp at this;omega
end Go.Proofs.Ytjlogcfggfmacaa
end

section
namespace Go.Proofs.Ytjlogcfggfmacaa
end Go.Proofs.Ytjlogcfggfmacaa
end

section
set_option maxRecDepth 8000
set_option maxHeartbeats 1000000
namespace Go.Proofs.Ytjlogcfggfmacaa
open Go.Abs
inductive Rw where
 | g
 | s (t:Nat)
 | f (k:Nat)
 deriving DecidableEq
abbrev Sg:=Rw→Nat→Nat
def Le (σ τ:Sg):Prop:=∀ r n i,(σ r n).testBit i=true→(τ r n).testBit i=true
theorem Le.anti {σ τ:Sg} (h:Le σ τ) (k:Le τ σ):σ=τ:=by
 funext r n
 apply Nat.eq_of_testBit_eq
 intro i
 rw [Bool.eq_iff_iff]
 exact ⟨h r n i,k r n i⟩
def orF {α:Type} (f:α→Nat) (l:List α):Nat:=l.foldl (fun o k=>o ||| f k) 0
theorem orF_snoc {α:Type} (f:α→Nat) (l:List α) (x:α):orF f (l++[x])=orF f l ||| f x:=by simp [orF]
theorem orF_from {α:Type} (f:α→Nat) (l:List α):∀ a,l.foldl (fun o k=>o ||| f k) a=a ||| orF f l:=by
 induction l with
 | nil=>intro a;simp [orF]
 | cons x l ih=>intro a;simp only [orF,List.foldl_cons];rw [ih,ih (0 ||| f x)];simp [Nat.or_assoc]
theorem orF_cons {α:Type} (f:α→Nat) (x:α) (l:List α):orF f (x::l)=f x ||| orF f l:=by
 rw [orF,List.foldl_cons,orF_from];simp
theorem zgi {α:Type} (f:α→Nat) (l:List α) (i:Nat):(orF f l).testBit i=true↔∃ x∈l,(f x).testBit i=true:=by
 induction l with
 | nil=>simp [orF]
 | cons x l ih=>rw [orF_cons,Nat.testBit_or,Bool.or_eq_true,ih];simp
def recL (c:Cd) (n:Int):List Lo:=match getI (slL c.Records) n with | some r=>slL r | none=>[]
def z9o (c:Cd) (t:Nat):List Lo:=match (slL c.Threads)[t]? with | some b=>slL b.Slots | none=>[]
def lenR (c:Cd):Rw→Nat
 | .g=>(slL c.Globals).length
 | .s t=>(z9o c t).length
 | .f k=>match (slL c.Sites)[k]? with | some x=>(recL c x.Rec).length | none=>0
def zhm (l:Lo):Bool:=decide (l.Kind=4)||decide (l.Kind=3)
def za2:Option Lo→Bool | some l=>zhm l | none=>false
def z3e (σ:Sg) (t:Nat) (l:List It):Nat:=orF (fun x=>if x.Op=2 then σ (.s t) x.N else 0) l
def zaa (c:Cd) (σ:Sg) (t:Nat) (x:In):Nat:=orF (fun k=>if x.N<lenR c (.f k) then σ (.f k) x.N.toNat else 0) (bitsOf (σ (.s t) x.Src.toNat))
def z2m (c:Cd) (σ:Sg) (t:Nat) (x:In):Nat:=
 if x.Op=1 then z3e σ t (slL x.Items)
 else if x.Op=2 then σ .g x.N.toNat
 else if x.Op=8∨x.Op=9 then 2 ^ x.N.toNat
 else if x.Op=3 then zaa c σ t x
 else 0
def dstB (c:Cd) (t:Nat) (x:In):Bool:=(decide (x.Op=1)||decide (x.Op=2)||decide (x.Op=3)||decide (x.Op=8)||decide (x.Op=9))&&za2 (getI (z9o c t) x.Dst)
def z8l (c:Cd) (k:Nat) (n:Int):Bool:=match (slL c.Sites)[k]? with | some s=>decide (s.Rec=n) | none=>false
def toF (c:Cd) (t:Nat) (x:In) (σ:Sg):Rw→Bool
 | .f k=>(σ (.s t) x.Src.toNat).testBit k&&z8l c k x.Rec
 | _=>false
def zil (c:Cd) (t:Nat) (x:In) (σ:Sg) (r:Rw) (n:Nat):Nat:=
 if dstB c t x=true∧r=.s t∧n=x.Dst.toNat then z2m c σ t x
 else if x.Op=5∧za2 (getI (slL c.Globals) x.N)=true∧r=.g∧n=x.N.toNat then z3e σ t (slL x.Items)
 else if x.Op=6∧za2 (getI (recL c x.Rec) x.N)=true∧toF c t x σ r=true∧n=x.N.toNat then z3e σ t (slL x.Items)
 else 0
theorem zix {σ τ:Sg} (h:Le σ τ) (t:Nat) (l:List It) (i:Nat) (hi:(z3e σ t l).testBit i=true):(z3e τ t l).testBit i=true:=by
 unfold z3e at *
 rw [zgi] at *
 obtain ⟨x,hx,hb⟩:=hi
 refine ⟨x,hx,?_⟩
 split at hb
 ·rename_i e;rw [if_pos e];exact h _ _ _ hb
 ·simp at hb
theorem zt9 {c:Cd} {σ τ:Sg} (h:Le σ τ) (t:Nat) (x:In) (i:Nat) (hi:(zaa c σ t x).testBit i=true):(zaa c τ t x).testBit i=true:=by
 unfold zaa at *
 rw [zgi] at *
 obtain ⟨k,hk,hb⟩:=hi
 rw [z6g] at hk
 refine ⟨k,z6g.2 ⟨hk.1,h _ _ _ hk.2⟩,?_⟩
 split at hb
 ·rename_i e;rw [if_pos e];exact h _ _ _ hb
 ·simp at hb
theorem zt4 {c:Cd} {σ τ:Sg} (h:Le σ τ) (t:Nat) (x:In) (i:Nat) (hi:(z2m c σ t x).testBit i=true):(z2m c τ t x).testBit i=true:=by
 unfold z2m at *
 split
 ·rename_i e;rw [if_pos e] at hi;exact zix h _ _ _ hi
 ·rename_i e;rw [if_neg e] at hi
  split
  ·rename_i e;rw [if_pos e] at hi;exact h _ _ _ hi
  ·rename_i e;rw [if_neg e] at hi
   split
   ·rename_i e;rw [if_pos e] at hi;exact hi
   ·rename_i e;rw [if_neg e] at hi
    split
    ·rename_i e;rw [if_pos e] at hi;exact zt9 h _ _ _ hi
    ·rename_i e;rw [if_neg e] at hi;exact hi
theorem toF_mono {c:Cd} {σ τ:Sg} (h:Le σ τ) (t:Nat) (x:In) (r:Rw) (hr:toF c t x σ r=true):toF c t x τ r=true:=by
 cases r with
 | f k=>
  simp only [toF,Bool.and_eq_true] at *
  exact ⟨h _ _ _ hr.1,hr.2⟩
 | _=>cases hr
theorem zkz (c:Cd) (t:Nat) (x:In) (σ:Sg) (r:Rw) (n i:Nat):(zil c t x σ r n).testBit i=true↔
  (dstB c t x=true∧r=.s t∧n=x.Dst.toNat∧(z2m c σ t x).testBit i=true)∨
  (x.Op=5∧za2 (getI (slL c.Globals) x.N)=true∧r=.g∧n=x.N.toNat∧(z3e σ t (slL x.Items)).testBit i=true)∨
  (x.Op=6∧za2 (getI (recL c x.Rec) x.N)=true∧toF c t x σ r=true∧n=x.N.toNat∧(z3e σ t (slL x.Items)).testBit i=true):=by
 have d5:dstB c t x=true→x.Op≠5∧x.Op≠6:=by
  intro h
  simp only [dstB,Bool.and_eq_true,Bool.or_eq_true,decide_eq_true_eq] at h
  omega
 unfold zil
 by_cases h1:dstB c t x=true∧r=.s t∧n=x.Dst.toNat
 ·rw [if_pos h1]
  have:=d5 h1.1
  constructor
  ·intro h;exact Or.inl ⟨h1.1,h1.2.1,h1.2.2,h⟩
  ·rintro (h | h | h)
   ·exact h.2.2.2
   ·exact absurd h.1 this.1
   ·exact absurd h.1 this.2
 ·rw [if_neg h1]
  by_cases h2:x.Op=5∧za2 (getI (slL c.Globals) x.N)=true∧r=.g∧n=x.N.toNat
  ·rw [if_pos h2]
   constructor
   ·intro h;exact Or.inr (Or.inl ⟨h2.1,h2.2.1,h2.2.2.1,h2.2.2.2,h⟩)
   ·rintro (h | h | h)
    ·exact absurd ⟨h.1,h.2.1,h.2.2.1⟩ h1
    ·exact h.2.2.2.2
    ·have:=h2.1;have:=h.1;omega
  ·rw [if_neg h2]
   by_cases h3:x.Op=6∧za2 (getI (recL c x.Rec) x.N)=true∧toF c t x σ r=true∧n=x.N.toNat
   ·rw [if_pos h3]
    constructor
    ·intro h;exact Or.inr (Or.inr ⟨h3.1,h3.2.1,h3.2.2.1,h3.2.2.2,h⟩)
    ·rintro (h | h | h)
     ·exact absurd ⟨h.1,h.2.1,h.2.2.1⟩ h1
     ·exact absurd ⟨h.1,h.2.1,h.2.2.1,h.2.2.2.1⟩ h2
     ·exact h.2.2.2.2
   ·rw [if_neg h3]
    constructor
    ·intro h;simp at h
    ·rintro (h | h | h)
     ·exact absurd ⟨h.1,h.2.1,h.2.2.1⟩ h1
     ·exact absurd ⟨h.1,h.2.1,h.2.2.1,h.2.2.2.1⟩ h2
     ·exact absurd ⟨h.1,h.2.1,h.2.2.1,h.2.2.2.1⟩ h3
theorem contr_mono {c:Cd} {σ τ:Sg} (h:Le σ τ) (t:Nat) (x:In):Le (zil c t x σ) (zil c t x τ):=by
 intro r n i hi
 rw [zkz] at *
 rcases hi with ⟨h1,h2,h3,h4⟩ | ⟨h1,h2,h3,h4,h5⟩ | ⟨h1,h2,h3,h4,h5⟩
 ·exact Or.inl ⟨h1,h2,h3,zt4 h _ _ _ h4⟩
 ·exact Or.inr (Or.inl ⟨h1,h2,h3,h4,zix h _ _ _ h5⟩)
 ·exact Or.inr (Or.inr ⟨h1,h2,toF_mono h _ _ _ h3,h4,zix h _ _ _ h5⟩)
def Cl (c:Cd) (σ:Sg):Prop:=∀ (t:Nat) (b:Bd) (a:Nat) (x:In),(slL c.Threads)[t]?=some b→(slL b.Code)[a]?=some x→Le (zil c t x σ) σ
def Lw (c:Cd) (σ:Sg):Prop:=∀ τ,Cl c τ→Le σ τ
theorem least_eq {c:Cd} {σ τ:Sg} (h1:Cl c σ) (h2:Lw c σ) (k1:Cl c τ) (k2:Lw c τ):σ=τ:=Le.anti (h2 τ k1) (k2 σ h1)
structure Wf (c:Cd) (b:Bd) (x:In):Prop where
 dst:(x.Op=1∨x.Op=2∨x.Op=3∨x.Op=4∨x.Op=8∨x.Op=9∨x.Op=10)→btw x.Dst (slL b.Slots).length=true
 items:(x.Op=1∨x.Op=5∨x.Op=6)→(∀ y∈slL x.Items,y.Op=2→y.N<(slL b.Slots).length)∧(slL x.Items).length≤64
 glob:(x.Op=2∨x.Op=5)→btw x.N (slL c.Globals).length=true
 fld:(x.Op=3∨x.Op=6)→∃ r,getI (slL c.Records) x.Rec=some r∧btw x.N (slL r).length=true∧btw x.Src (slL b.Slots).length=true
 site:(x.Op=8∨x.Op=9)→btw x.N (slL c.Sites).length=true
 ints:(x.Op=4∨x.Op=10)→∀ l,getI (slL b.Slots) x.Dst=some l→l.Kind=1
theorem zfz {b:Bd} {n:Int} {w:Lo} (h:isB b n w=true):btw n (slL b.Slots).length=true:=by
 cases hb:btw n (slL b.Slots).length with
 | true=>rfl
 | false=>rw [z5b hb] at h;cases h
theorem isB_kind {b:Bd} {n:Int} {w l:Lo} (h:isB b n w=true) (hl:getI (slL b.Slots) n=some l):l.Kind=w.Kind∧l.Rec=w.Rec:=by
 unfold isB at h
 rw [hl] at h
 simp only [zc1,Bool.and_eq_true,decide_eq_true_eq] at h
 exact h
theorem z7p {b:Bd} {o:Option (List It)} (h:z2z b o=true):(∀ y∈slL o,y.Op=2→y.N<(slL b.Slots).length)∧(slL o).length≤64:=by
 have h:zmr (slL o) (slL b.Slots).length:=by simpa [z2z,zff] using h
 refine ⟨fun y hy h2=>?_,h.2.2⟩
 obtain ⟨k,hk⟩:=List.getElem?_of_mem hy
 have:=(h.1 k (List.getElem?_eq_some_iff.1 hk).1 y hk).1
 unfold z3k at this
 rw [if_neg (by omega),if_pos h2] at this
 simp only [Bool.and_eq_true,decide_eq_true_eq] at this
 omega
theorem field_in {c:Cd} {b:Bd} {x:In} {f:Lo} (h:zno c b x=some f):∃ r,getI (slL c.Records) x.Rec=some r∧btw x.N (slL r).length=true∧btw x.Src (slL b.Slots).length=true:=by
 unfold zno at h
 cases h1:getI (slL c.Records) x.Rec with
 | none=>rw [h1] at h;cases h
 | some r=>
  rw [h1] at h
  simp only at h
  cases h2:getI (slL r) x.N with
  | none=>rw [h2] at h;cases h
  | some f=>
   rw [h2] at h
   simp only at h
   cases h3:isB b x.Src ⟨4,x.Rec,false⟩ with
   | false=>rw [h3] at h;simp at h
   | true=>exact ⟨r,rfl,z3c.2 ⟨f,h2⟩,zfz h3⟩
theorem zp3 {c:Cd} {t a:Int} {b:Bd} {x:In} (h:z0z c t b x a=true):Wf c b x:=by
 refine ⟨?_,?_,?_,?_,?_,?_⟩
 ·rintro (e | e | e | e | e | e | e)
  all_goals (unfold z0z z3a at h;simp only [e] at h;simp at h)
  ·exact h.1.2
  ·obtain ⟨_,_,h⟩:=h;split at h <;> first | exact zfz h | cases h
  ·obtain ⟨_,_,h⟩:=h;split at h <;> first | exact zfz h | cases h
  ·exact zfz h.2.1.1.2
  ·exact zfz h.2.1.2
  ·exact zfz h.2.1.1.2
  ·exact zfz h.1.2
 ·rintro (e | e | e)
  all_goals (unfold z0z z2j at h;simp only [e] at h;simp at h)
  ·exact z7p h.2
  ·exact z7p h.2.2
  ·exact z7p h.2.2
 ·rintro (e | e)
  all_goals (unfold z0z z3a z2j at h;simp only [e] at h;simp at h)
  ·obtain ⟨_,_,h⟩:=h
   split at h
   ·rename_i g hg;exact z3c.2 ⟨g,hg⟩
   ·cases h
  ·exact h.2.1.2
 ·rintro (e | e)
  all_goals (unfold z0z z3a z2j at h;simp only [e] at h;simp at h)
  ·obtain ⟨_,_,h⟩:=h
   split at h
   ·rename_i g hg;exact field_in hg
   ·cases h
  ·obtain ⟨_,⟨_,h⟩,_⟩:=h
   obtain ⟨f,hf⟩:=Option.isSome_iff_exists.1 h
   exact field_in hf
 ·rintro (e | e)
  all_goals (unfold z0z z3a z9w at h;simp only [e] at h;simp at h)
  ·exact z3c.2 ⟨_,h.2.2⟩
  ·exact z3c.2 ⟨_,h.2.2⟩
 ·rintro (e | e) l hl
  all_goals (unfold z0z z3a at h;simp only [e] at h;simp at h)
  ·exact (isB_kind h.2.1.1.2 hl).1
  ·exact (isB_kind h.1.2 hl).1
structure WfC (c:Cd):Prop where
 thr:(slL c.Threads).length≤4
 sit:(slL c.Sites).length≤32
 glo:(slL c.Globals).length≤8
 recs:∀ r∈slL c.Records,(slL r).length≤6
 slo:∀ (t:Nat) (b:Bd),(slL c.Threads)[t]?=some b→(slL b.Slots).length≤64∧(slL b.Code).length≤256
 ins:∀ (t a:Nat) (b:Bd) (x:In),(slL c.Threads)[t]?=some b→(slL b.Code)[a]?=some x→Wf c b x
 site:∀ (k:Nat) (s:z0s),(slL c.Sites)[k]?=some s→s.Rec=-1∨∃ r,getI (slL c.Records) s.Rec=some r
theorem zid {c:Cd} (h:okC c=true):WfC c:=by
 obtain ⟨h1,h2,h3,h4,h5,h6,h7⟩:=zbg h
 have h7':∀ (t:Nat) (b:Bd),(slL c.Threads)[t]?=some b→zb5 c t b=true:=z1p.1 h7
 have hin:∀ (t a:Nat) (b:Bd) (x:In),(slL c.Threads)[t]?=some b→(slL b.Code)[a]?=some x→z0z c t b x a=true:=by
  intro t a b x hb hx
  have ht:=h7' t b hb
  simp only [zb5,Bool.and_eq_true] at ht
  exact z1p.1 ht.2 a x hx
 have hs:(slL c.Sites).length≤32∧allK (za5 c) (slL c.Sites)=true:=by
  simpa [zsm] using h5
 refine ⟨h2,hs.1,?_,?_,?_,fun t a b x hb hx=>zp3 (hin t a b x hb hx),?_⟩
 ·simp only [zb9,Bool.and_eq_true,decide_eq_true_eq] at h3;omega
 ·intro r hr
  have:=List.all_eq_true.1 h6 r hr
  simp only [zb9,Bool.and_eq_true,decide_eq_true_eq] at this;omega
 ·intro t b hb
  have ht:=h7' t b hb
  simp only [zb5,z9s,Bool.and_eq_true,decide_eq_true_eq] at ht
  omega
 ·intro k s hk
  have hk2:=z1p.1 hs.2 k s hk
  unfold za5 z8o at hk2
  cases hb:getI (slL c.Threads) s.Thread with
  | none=>rw [hb] at hk2;cases hk2
  | some b=>
   rw [hb] at hk2
   simp only at hk2
   cases hx:getI (slL b.Code) s.At with
   | none=>rw [hx] at hk2;cases hk2
   | some x=>
    rw [hx] at hk2
    simp only [Bool.and_eq_true,Bool.or_eq_true,decide_eq_true_eq] at hk2
    obtain ⟨t,et,hb2⟩:=zhc hb
    obtain ⟨a,ea,hx2⟩:=zhc hx
    have hi:=hin t a b x hb2 hx2
    have hsk:getI (slL c.Sites) x.N=some s:=by rw [hk2.1,z1s];exact hk
    rcases hk2.2 with e | e
    ·unfold z0z z3a z9w at hi;simp only [e] at hi;simp at hi
     rw [hsk] at hi
     have:=hi.2.2
     have hrec:=hi.2.1.1.2
     obtain ⟨r,hr⟩:=z3c.1 hrec
     simp only [Option.some.injEq] at this
     right
     exact ⟨r,by rw [this];exact hr⟩
    ·unfold z0z z3a z9w at hi;simp only [e] at hi;simp at hi
     rw [hsk] at hi
     have:=hi.2.2
     simp only [Option.some.injEq] at this
     left
     rw [this]
def Bd2 (c:Cd) (σ:Sg):Prop:=∀ r n i,(σ r n).testBit i=true→i<(slL c.Sites).length
theorem zhg {c:Cd} {σ:Sg} (h:Bd2 c σ) {t:Nat} {l:List It} {i:Nat} (hi:(z3e σ t l).testBit i=true):i<(slL c.Sites).length:=by
 unfold z3e at hi
 rw [zgi] at hi
 obtain ⟨x,_,hb⟩:=hi
 split at hb
 ·exact h _ _ _ hb
 ·simp at hb
theorem zqf {c:Cd} {σ:Sg} (h:Bd2 c σ) {b:Bd} {x:In} (w:Wf c b x) {t i:Nat} (hi:(z2m c σ t x).testBit i=true):i<(slL c.Sites).length:=by
 unfold z2m at hi
 split at hi
 ·exact zhg h hi
 ·split at hi
  ·exact h _ _ _ hi
  ·split at hi
   ·rename_i e
    have:=w.site e
    simp only [btw,Bool.and_eq_true,decide_eq_true_eq] at this
    rw [Nat.testBit_two_pow] at hi
    have:=of_decide_eq_true hi
    omega
   ·split at hi
    ·unfold zaa at hi
     rw [zgi] at hi
     obtain ⟨k,_,hb⟩:=hi
     split at hb
     ·exact h _ _ _ hb
     ·simp at hb
    ·simp at hi
theorem zbf {x n:Nat} (h:∀ i,x.testBit i=true→i<n):x<2 ^ n:=by
 apply Nat.lt_pow_two_of_testBit
 intro i hi
 cases hb:x.testBit i with
 | false=>rfl
 | true=>have:=h i hb;omega
theorem Bd2.lt {c:Cd} {σ:Sg} (h:Bd2 c σ) (r:Rw) (n:Nat):σ r n<2 ^ (slL c.Sites).length:=zbf (h r n)
theorem zee {n:Nat} (h:n≤32):2 ^ n≤4294967296:=by
 have:=Nat.pow_le_pow_right (show 0<2 by decide) h
 simpa using this
def Rg (c:Cd) (σ:Sg):Prop:=∀ r n,σ r n≠0→n<lenR c r
theorem contr_rg {c:Cd} {σ:Sg} (h:Rg c σ) {t:Nat} {b:Bd} {x:In} (hb:(slL c.Threads)[t]?=some b) (w:Wf c b x) {r:Rw} {n i:Nat} (hi:(zil c t x σ r n).testBit i=true):n<lenR c r:=by
 have hsl:z9o c t=slL b.Slots:=by unfold z9o;rw [hb]
 rw [zkz] at hi
 rcases hi with ⟨h1,rfl,h3,-⟩ | ⟨h1,-,rfl,h4,-⟩ | ⟨h1,-,h3,h4,-⟩
 ·have hd:=w.dst (by simp only [dstB,Bool.and_eq_true,Bool.or_eq_true,decide_eq_true_eq] at h1;omega)
  simp only [btw,Bool.and_eq_true,decide_eq_true_eq] at hd
  simp only [lenR,hsl]
  omega
 ·have hd:=w.glob (Or.inr h1)
  simp only [btw,Bool.and_eq_true,decide_eq_true_eq] at hd
  simp only [lenR]
  omega
 ·obtain ⟨rr,hr,hn,_⟩:=w.fld (Or.inr h1)
  cases r with
  | f k=>
   simp only [toF,z8l,Bool.and_eq_true] at h3
   simp only [lenR]
   cases hk:(slL c.Sites)[k]? with
   | none=>rw [hk] at h3;simp at h3
   | some s=>
    rw [hk] at h3
    have h3:=of_decide_eq_true h3.2
    simp only [recL,h3,hr]
    simp only [btw,Bool.and_eq_true,decide_eq_true_eq] at hn
    omega
  | g=>cases h3
  | s t=>cases h3
theorem ztp {n:Nat} (h:n≠0):∃ i,n.testBit i=true:=by
 apply Classical.byContradiction
 intro hn
 apply h
 apply Nat.eq_of_testBit_eq
 intro i
 cases hb:n.testBit i with
 | false=>simp
 | true=>exact absurd ⟨i,hb⟩ hn
def keysC (c:Cd):List (Rw×Nat):=
 ((List.range (lenR c .g)).map fun n=>(Rw.g,n)) ++
 ((List.range (slL c.Threads).length).flatMap fun t=>(List.range (lenR c (.s t))).map fun n=>(Rw.s t,n)) ++
 ((List.range (slL c.Sites).length).flatMap fun k=>(List.range (lenR c (.f k))).map fun n=>(Rw.f k,n))
theorem mem_keys {c:Cd} {r:Rw} {n:Nat} (h:n<lenR c r):(r,n)∈keysC c:=by
 unfold keysC
 simp only [List.mem_append,List.mem_map,List.mem_flatMap,List.mem_range,Prod.mk.injEq]
 cases r with
 | g=>exact Or.inl (Or.inl ⟨n,h,rfl,rfl⟩)
 | s t=>
  have ht:t<(slL c.Threads).length:=by
   apply Classical.byContradiction
   intro hn
   simp only [lenR,z9o] at h
   rw [List.getElem?_eq_none (by omega)] at h
   simp at h
  exact Or.inl (Or.inr ⟨t,ht,n,h,rfl,rfl⟩)
 | f k=>
  have hk:k<(slL c.Sites).length:=by
   apply Classical.byContradiction
   intro hn
   simp only [lenR] at h
   rw [List.getElem?_eq_none (by omega)] at h
   simp at h
  exact Or.inr ⟨k,hk,n,h,rfl,rfl⟩
def leftOf (c:Cd) (σ:Sg):Nat:=((keysC c).map fun k=>2 ^ (slL c.Sites).length - σ k.1 k.2).sum
theorem sum_lt {α:Type} {f g:α→Nat} {l:List α} (h:∀ x∈l,f x≤g x) {y:α} (hy:y∈l) (hlt:f y<g y):(l.map f).sum<(l.map g).sum:=by
 induction l with
 | nil=>cases hy
 | cons x l ih=>
  simp only [List.map_cons,List.sum_cons]
  have hle:(l.map f).sum≤(l.map g).sum:=by
   clear ih hy
   induction l with
   | nil=>simp
   | cons z l ih=>
    simp only [List.map_cons,List.sum_cons]
    have:=h z (by simp)
    have:=ih (fun x hx=>h x (by
     rcases List.mem_cons.1 hx with rfl | hx
     ·simp
     ·simp [hx]))
    omega
  have hx:=h x (by simp)
  rcases List.mem_cons.1 hy with rfl | hy
  ·omega
  ·have:=ih (fun z hz=>h z (by simp [hz])) hy
   omega
theorem le_nat {a b:Nat} (h:∀ i,a.testBit i=true→b.testBit i=true):a≤b:=by
 have:b=a ||| b:=by
  apply Nat.eq_of_testBit_eq
  intro i
  rw [Nat.testBit_or]
  cases ha:a.testBit i with
  | false=>simp
  | true=>simp [h i ha]
 rw [this]
 exact Nat.left_le_or
theorem left_lt {c:Cd} {σ τ:Sg} (h:Le σ τ) (hb:Bd2 c τ) (hr:Rg c τ) (hn:τ≠σ):leftOf c τ<leftOf c σ:=by
 obtain ⟨r,n,hd⟩:∃ r n,τ r n≠σ r n:=by
  apply Classical.byContradiction
  intro hc
  apply hn
  funext r n
  apply Classical.byContradiction
  intro he
  exact hc ⟨r,n,he⟩
 have hle:∀ r n,σ r n≤τ r n:=fun r n=>le_nat (h r n)
 have hz:τ r n≠0:=by have:=hle r n;omega
 have hk:=mem_keys (hr r n hz)
 unfold leftOf
 refine sum_lt (fun k _=>?_) hk ?_
 ·have:=hle k.1 k.2;omega
 ·have:=hle r n
  have:=hb.lt r n
  simp only
  omega
end Go.Proofs.Ytjlogcfggfmacaa
end

section
set_option maxRecDepth 8000
set_option maxHeartbeats 1000000
namespace Go.Proofs.Ytjlogcfggfmacaa
open Go.Abs
theorem bld1 (e:TypeId) (b:Nat) (kk:IntKind) (n:Int) (h:z00) (z:AV) (K:AV→z00→Prop):z0m true { e:=e,sz:=1,by_:=b } [z] 1 [(0,.int kk n)] h K=K (.isl 1 [[.int kk n]]) h:=by
 simp [z0m,z8t,AV.fits,AV.cells]
def gsI (id:Nat) (l:List Int):AV:=match l with | []=>.nils | _=>.gsl id 1 (l.map encI)
@[simp] theorem gsI_len (id:Nat) (l:List Int) (K:AV→Prop):pLen .slice (gsI id l) K=K (.int .i64 l.length):=by cases l <;> simp [gsI]
theorem gsI_at {id:Nat} {l:List Int} {k:Nat} {v:Int} (hk:l[k]?=some v) (kk:IntKind) (K:AV→Prop):z0f (.slice 1) (gsI id l) (.int kk (k:Int)) K=K (.iptr [.int .i64 v]):=by
 cases l with
 | nil=>simp at hk
 | cons a l=>
  have:((a::l).map encI)[k]?=some [AV.int .i64 v]:=by rw [List.getElem?_map,hk];rfl
  simp only [gsI,z0f,Int.toNat_natCast,this]
  simp
end Go.Proofs.Ytjlogcfggfmacaa
end

section
set_option maxRecDepth 8000
set_option maxHeartbeats 1000000
namespace Go.Proofs.Ytjlogcfggfmacaa
open Go.Abs
theorem u64n (n:Int):((IntKind.u64.wrap n).toNat:Int)=IntKind.u64.wrap n:=by rw [zes];omega
theorem u64lt (n:Int):(IntKind.u64.wrap n).toNat<18446744073709551616:=by rw [zes];omega
theorem sgN_ok (n:Nat):okI (sgN n):=wrap_range n
theorem realR_bd (op:Int) (a b:Nat):zk9 op a b<18446744073709551616:=by
 have hb:∀ x:Bool,x.toNat<18446744073709551616:=fun x=>by cases x <;> decide
 unfold zk9
 split
 ·exact arN_lt
 split
 ·exact arN_lt
 split
 ·exact arN_lt
 split
 ·exact arN_lt
 split
 ·decide
 split
 ·exact hb _
 split
 ·exact hb _
 split
 ·exact hb _
 split
 ·exact hb _
 ·decide
theorem near_lt {n:Int} (h:okI n):FloatKind.f64.nearest n<18446744073709551616:=by
 have h1:=rung_lt h.1 h.2
 rw [ztq n h.1 h.2];split <;> omega
theorem unN_lt {op:Int} {a:Nat} (ha:okN a):okN (unN op a):=by
 unfold okN unN
 split
 ·exact u64lt _
 split
 ·rw [negR_eq ha];split
  ·omega
  ·exact negW_lt ha
 split
 ·exact near_lt (sgN_ok a)
 ·exact u64lt _
theorem binN_lt {x:It} {a b v:Nat} (h:binN x a b=some v):okN v:=by
 unfold binN at h
 split at h
 ·cases h;exact realR_bd _ _ _
 ·split at h
  ·cases h;exact u64lt _
  ·cases h
theorem zky (op:Int) (a:Nat) (ha:okN a) (h:z00):z01 Try.prog 61 [.int .i64 op,.int .u64 a] h (fun v h2=>v=.int .u64 (unN op a:Nat)∧h2=h):=by
 apply zoo
 unfold unN
 (repeat simp -dsimp -implicitDefEqProofs only [↓rP,rB,↓reduceIte,reduceEqDiff,reduceAdd,reduceLeDiff])
 refine z0t (fun h4=>?_) (fun h4=>?_)
 ·rw [if_pos h4]
  (repeat simp -dsimp -implicitDefEqProofs only [↓rP,rB,↓reduceIte,reduceEqDiff,reduceAdd,reduceLeDiff,u64n])
 rw [if_neg h4]
 (repeat simp -dsimp -implicitDefEqProofs only [↓rP,rB,↓reduceIte,reduceEqDiff,reduceAdd,reduceLeDiff])
 refine z0t (fun h5=>?_) (fun h5=>?_)
 ·rw [if_pos h5]
  (repeat simp -dsimp -implicitDefEqProofs only [↓rP,rB,↓reduceIte,reduceEqDiff,reduceAdd,reduceLeDiff])
  exact zk4 a ha h
 rw [if_neg h5]
 (repeat simp -dsimp -implicitDefEqProofs only [↓rP,rB,↓reduceIte,reduceEqDiff,reduceAdd,reduceLeDiff])
 refine z0t (fun h6=>?_) (fun h6=>?_)
 ·rw [if_pos h6]
  (repeat simp -dsimp -implicitDefEqProofs only [↓rP,rB,↓reduceIte,reduceEqDiff,reduceAdd,reduceLeDiff])
  exact zk3 (sgN a) h
 rw [if_neg h6]
 (repeat simp -dsimp -implicitDefEqProofs only [↓rP,rB,↓reduceIte,reduceEqDiff,reduceAdd,reduceLeDiff])
 refine (zmw a h).mono ?_
 rintro _ _ ⟨rfl,rfl⟩
 (repeat simp -dsimp -implicitDefEqProofs only [↓rP,rB,↓reduceIte,reduceEqDiff,reduceAdd,reduceLeDiff,u64n])
def binV (x:It) (a b:Nat):AV:=match binN x a b with | some v=>.tup [.int .u64 (v:Nat),.bool true] | none=>.tup [.int .u64 0,.bool false]
theorem intR_bad {op a b:Int} (h:(intR op a b).2=false):(intR op a b).1=0:=by
 revert h
 unfold intR
 by_cases h0:op=0
 ·simp [h0]
 by_cases h1:op=1
 ·simp [h1]
 by_cases h2:op=2
 ·simp [h2]
 by_cases h3:op=3
 ·by_cases hb:b=0 <;> simp [h3,hb]
 by_cases h4:op=4
 ·by_cases hb:b=0 <;> simp [h4,hb]
 by_cases h5:op=5
 ·simp [h5]
 by_cases h6:op=6
 ·simp [h6]
 by_cases h7:op=7
 ·simp [h7]
 by_cases h8:op=8
 ·simp [h8]
 ·simp [h0,h1,h2,h3,h4,h5,h6,h7,h8]
theorem zjs (x:It) (a b:Nat) (h:z00):z01 Try.prog 60 [.agg x.cells,.int .u64 a,.int .u64 b] h (fun v h2=>v=binV x a b∧h2=h):=by
 apply zmn
 have hc:x.cells=[.int .i64 x.Op,.int .i64 x.Bin,.int .u64 (x.N:Nat)]:=rfl
 rw [hc]
 unfold binV binN
 (repeat simp -dsimp -implicitDefEqProofs only [↓rP,rB,↓reduceIte,reduceEqDiff,reduceAdd,reduceLeDiff])
 refine z0t (fun h9=>?_) (fun h9=>?_)
 ·rw [if_pos h9]
  (repeat simp -dsimp -implicitDefEqProofs only [↓rP,rB,↓reduceIte,reduceEqDiff,reduceAdd,reduceLeDiff])
  refine (zpa x.Bin a b _).mono ?_
  rintro _ _ ⟨rfl,rfl⟩
  (repeat simp -dsimp -implicitDefEqProofs only [↓rP,rB,↓reduceIte,reduceEqDiff,reduceAdd,reduceLeDiff])
 ·rw [if_neg h9]
  (repeat simp -dsimp -implicitDefEqProofs only [↓rP,rB,↓reduceIte,reduceEqDiff,reduceAdd,reduceLeDiff])
  refine (zrn x.Bin (sgN a) (sgN b) _).mono ?_
  rintro _ _ ⟨rfl,rfl⟩
  unfold intV
  (repeat simp -dsimp -implicitDefEqProofs only [↓rP,rB,↓reduceIte,reduceEqDiff,reduceAdd,reduceLeDiff])
  cases hb:(intR x.Bin (sgN a) (sgN b)).2 with
  | true=>
   rw [if_pos rfl]
   simp only [u64n,and_self]
  | false=>
   rw [intR_bad hb,if_neg Bool.false_ne_true]
   first | rfl | exact ⟨rfl,trivial⟩
def zb6 (h:z00) (lo:Nat) (a:AV) (st:List Nat):Prop:=(st=[]∧a=.nils)∨∃ id,lo≤id∧id<h.next∧a=.sl id 0 st.length 1∧h.objs id=some (.row 56 (st.map fun v:Nat=>.int .u64 (v:Int)))
theorem stk_push {h:z00} {lo:Nat} {a:AV} {st:List Nat} (p:zb6 h lo a st) (hl:lo≤h.next) (hlen:st.length≤1000) (v:Nat) {K:AV→z00→Prop}
  (hK:∀ a2 h2,zb6 h2 lo a2 (st++[v])→Keeps h h2 (fun x=>lo≤x)→K a2 h2):z11 false { e:=56,sz:=1,by_:=8 } a (.isl 1 [[.int .u64 (v:Int)]]) h K:=by
 rcases p with ⟨rfl,rfl⟩ | ⟨id,p1,p2,rfl,p4⟩
 ·simp only [z11,z13,if_true,zd2,Bool.false_eq_true,if_false]
  refine ⟨by simp [bounded,maxLen],?_⟩
  refine hK _ _ (Or.inr ⟨h.next,hl,by simp,by simp,by simp⟩) ⟨by simp,fun x hx hs=>by simp;omega⟩
 ·simp only [z11,z13,if_true,p4]
  refine ⟨trivial,trivial,by simp,by simp [bounded,maxLen];omega,?_⟩
  refine hK _ _ (Or.inr ⟨h.next,hl,by simp,by simp,?_⟩) ⟨by simp,fun x hx hs=>?_⟩
  ·simp
   rw [List.take_of_length_le (by simp)]
  ·simp only [z00.z5w,z00.z5t]
   rw [if_neg (show ¬ x=(h.kill id).next by simp only [z00.zrd];omega),if_neg (by omega)]
theorem stk_two {h:z00} {lo:Nat} {a:AV} {st:List Nat} {y z:Nat} (p:zb6 h lo a (st++[y,z])) (hl:lo≤h.next) (hlen:st.length≤1000) (v:Nat) {K:AV→Prop}
  (hK:∀ s,(∀ K2:AV→z00→Prop,(∀ a2 h2,zb6 h2 lo a2 (st++[v])→Keeps h h2 (fun x=>lo≤x)→K2 a2 h2)→z11 false { e:=56,sz:=1,by_:=8 } s (.isl 1 [[.int .u64 (v:Int)]]) h K2)→K s) :
  z6h 1 a none (some (.int .i64 (st.length:Nat))) K:=by
 rcases p with ⟨p,-⟩ | ⟨id,p1,p2,rfl,p4⟩
 ·simp at p
 ·simp only [z6h,bnd]
  refine ⟨trivial,by omega,by simp,by simp;omega,?_⟩
  rw [if_pos (by rfl)]
  refine hK _ fun K2 hK2=>?_
  simp only [z11,z13,if_true,p4,Int.toNat_natCast]
  refine ⟨trivial,trivial,by simp,by simp [bounded,maxLen];omega,?_⟩
  refine hK2 _ _ (Or.inr ⟨h.next,hl,by simp,by simp,?_⟩) ⟨by simp,fun x hx hs=>?_⟩
  ·simp
  ·simp only [z00.z5w,z00.z5t]
   rw [if_neg (show ¬ x=(h.kill id).next by simp only [z00.zrd];omega),if_neg (by omega)]
theorem zb6.keeps {h h':z00} {lo:Nat} {a:AV} {st:List Nat} {S:Nat→Prop} (p:zb6 h lo a st) (k:Keeps h h' S) (hS:∀ x,lo≤x→x<h.next→¬ S x):zb6 h' lo a st:=by
 rcases p with p | ⟨id,p1,p2,p3,p4⟩
 ·exact Or.inl p
 ·exact Or.inr ⟨id,p1,Nat.lt_of_lt_of_le p2 k.next,p3,by rw [k.objs id p2 (hS id p1 p2)];exact p4⟩
theorem zb6.len {h:z00} {lo:Nat} {a:AV} {st:List Nat} (p:zb6 h lo a st) (K:AV→Prop):pLen .slice a K=K (.int .i64 (st.length:Nat)):=by
 rcases p with ⟨rfl,rfl⟩ | ⟨id,-,-,rfl,-⟩ <;> simp
theorem zb6.get {h:z00} {lo:Nat} {a:AV} {st:List Nat} (p:zb6 h lo a st) {k:Nat} {v:Nat} (hk:st[k]?=some v) (kk:IntKind) {K:AV→Prop} (hK:K (.int .u64 (v:Int))):z0f (.slice 1) a (.int kk (k:Int)) (fun x=>z0r none x h K):=by
 have hl:=(List.getElem?_eq_some_iff.1 hk).1
 rcases p with ⟨rfl,-⟩ | ⟨id,-,-,rfl,ho⟩
 ·simp at hk
 ·simp only [z0f]
  refine ⟨trivial,by omega,by omega,?_⟩
  simp only [Int.toNat_natCast,Nat.zero_add,Nat.mul_one]
  rw [z06 ho,pCells_none,List.getElem?_map,hk]
  exact hK
theorem stk_top {h:z00} {lo:Nat} {a:AV} {st:List Nat} {y:Nat} (p:zb6 h lo a (st++[y])) (v:Nat) (kk:IntKind) {K:z00→Prop}
  (hK:∀ h2,zb6 h2 lo a (st++[v])→Keeps h h2 (fun x=>lo≤x)→K h2):z0f (.slice 1) a (.int kk (st.length:Nat)) (fun x=>z1f 1 x (.int .u64 (v:Int)) h K):=by
 rcases p with ⟨p,-⟩ | ⟨id,p1,p2,rfl,p4⟩
 ·simp at p
 ·simp only [z0f]
  refine ⟨trivial,by omega,by simp;omega,?_⟩
  simp only [Int.toNat_natCast,Nat.zero_add,Nat.mul_one]
  rw [z1t p4 rfl (by simp)]
  refine hK _ (Or.inr ⟨id,p1,p2,by simp,?_⟩) ((Keeps.put h id _).mono fun x hx=>by subst hx;exact p1)
  simp
end Go.Proofs.Ytjlogcfggfmacaa
end

section
set_option maxRecDepth 8000
set_option maxHeartbeats 1000000
namespace Go.Proofs.Ytjlogcfggfmacaa
open Go.Abs
theorem encI_at {o:Option (List Int)} {k:Nat} (hk:k<(slL o).length) (kk:IntKind) (K:AV→Prop):z0f (.slice 1) (slAV 1 encI o) (.int kk (k:Int)) K=K (.iptr [.int .i64 ((slL o).getD k 0)]):=by
 rw [z02 (x:=(slL o).getD k 0) (by simp [hk])];rfl
structure Rd (h:z00) (a:AV) (vs:List Nat):Prop where
 len:∀ J,pLen .slice a J=J (.int .i64 vs.length)
 ix:∃ p:Nat→AV,∀ k,k<vs.length→(∀ kk J,z0f (.slice 1) a (.int kk (k:Nat)) J=J (p k))∧∀ hh,Keeps h hh (fun _=>False)→∀ J,z0r none (p k) hh J=J (.int .u64 (vs.getD k 0:Nat))
theorem Rd.keep {h h2:z00} {a:AV} {vs:List Nat} (r:Rd h a vs) (k:Keeps h h2 (fun _=>False)):Rd h2 a vs:=by
 obtain ⟨p,hp⟩:=r.ix
 exact ⟨r.len,p,fun i hi=>⟨(hp i hi).1,fun hh k2=>(hp i hi).2 hh (k.go k2)⟩⟩
theorem Rd.row {h:z00} {id:Nat} {vs:List Nat} {ty:TypeId} (ho:h.objs id=some (.row ty (vs.map fun v:Nat=>.int .u64 (v:Int)))) (hlt:id<h.next):Rd h (.sl id 0 vs.length 1) vs:=by
 refine ⟨fun J=>by simp,fun k=>.ptr id k,fun k hk=>⟨fun kk J=>?_,fun hh kp J=>?_⟩⟩
 ·rw [zpo (by omega) (by omega)];simp
 ·rw [z06 (by rw [kp.objs id hlt (fun e=>e)];exact ho)]
  simp [z03,hk]
theorem eval_round {slots:List Nat} {sv:AV} {inputs:Option (List Int)} {items:Option (List It)} (hi:(slL inputs).length≤1000000) (hit:(slL items).length≤1000) {h:z00} (rd:Rd h sv slots) {lo:Nat} (hlo:lo≤h.next) {a:AV} {st:List Nat} (hst:∀ v∈st,okN v) (hsl:st.length≤900) (p:zb6 h lo a st.reverse)
  {k:Nat} {x:It} (hx:(slL items)[k]?=some x) (hxok:x.ok) (hf:z3k x slots.length=true) (hn:z1r x.Op≤st.length) (Q:z1k→Fr→z00→Prop)
  (hQn:∀ a2 h2 st2,zb4 slots (slL inputs) st x=some st2→zb6 h2 lo a2 st2.reverse→Keeps h h2 (fun y=>lo≤y)→Q .normal (frOf [(0,sv),(1,slAV 1 encI inputs),(8,a2),(20,slAV 3 z09.cells items),(21,.int .i64 (slL items).length),(22,.int .i64 (k+1:Nat))]) h2)
  (hQr:∀ h2,zb4 slots (slL inputs) st x=none→Keeps h h2 (fun y=>lo≤y)→Q .ret (frOf [(6,.int .u64 0),(7,.int .i64 1)]) h2) :
  WP Try.prog 109 zc4 (frOf [(0,sv),(1,slAV 1 encI inputs),(8,a),(20,slAV 3 z09.cells items),(21,.int .i64 (slL items).length),(22,.int .i64 k)]) h Q:=by
 have hkl:=(List.getElem?_eq_some_iff.1 hx).1
 obtain ⟨-,-,hnn⟩:=hxok
 unfold okN at hnn
 apply zdf
 have d0:decide ((k:Int)<((slL items).length:Int))=true:=decide_eq_true (by omega)
 have hc:x.cells=[.int .i64 x.Op,.int .i64 x.Bin,.int .u64 (x.N:Nat)]:=rfl
 (repeat (first | simp -dsimp -implicitDefEqProofs only [↓rP,rB,↓reduceIte,reduceEqDiff,reduceAdd,reduceLeDiff,d0,z02 hx,hc] | refine Cut.go ?_))
 rw [z1a (by rfl) (by rfl)]
 have kA:=Keeps.push h (.row 58 [.int .i64 x.Op,.int .i64 x.Bin,.int .u64 (x.N:Nat)])
 have pA:=p.keeps kA (fun _ _ _ h=>h)
 have hloA:lo≤(h.push (.row 58 [.int .i64 x.Op,.int .i64 x.Bin,.int .u64 (x.N:Nat)])).next:=by simp;omega
 have wk:IntKind.i64.wrap ((k:Int)+1)=((k+1:Nat):Int):=by rw [z6o (by omega) (by omega)];omega
 have push:∀ (v:Nat),zb4 slots (slL inputs) st x=some (v::st)→z11 false { e:=56,sz:=1,by_:=8 } a (.isl 1 [[.int .u64 (v:Int)]]) (h.push (.row 58 [.int .i64 x.Op,.int .i64 x.Bin,.int .u64 (x.N:Nat)])) (fun v15 h16=>
   z9c (binA CmpK.other BinOp.add (.int .i64 (k:Int)) (AV.int IntKind.i64 1)) (fun v17=>Q z1k.normal (frOf [(0,sv),(1,slAV 1 encI inputs),(8,v15),(20,slAV 3 z09.cells items),(21,.int .i64 (slL items).length),(22,v17)]) h16)):=by
  intro v hs
  refine stk_push pA hloA (by simp;omega) v ?_
  intro a2 h2 p2 k2
  (repeat (first | simp -dsimp -implicitDefEqProofs only [↓rP,rB,↓reduceIte,reduceEqDiff,reduceAdd,reduceLeDiff,wk] | refine Cut.go ?_))
  exact hQn a2 h2 _ hs (by simpa using p2) ((kA.mono (fun _ h=>h.elim)).trans k2 (fun _ _ h=>h))
 have hstep0:z1r x.Op=0→zb4 slots (slL inputs) st x=some (zp7 slots (slL inputs) x::st):=fun h0=>by unfold zb4;rw [if_pos h0]
 have eb:∀ b:Int,x.Op=b→∀ c:Int,(x.Op == c)=decide (b=c):=fun b hb c=>by rw [hb];rfl
 have ops:∀ b:Int,x.Op=b→(x.Op == 1)=decide (b=1)∧(x.Op == 2)=decide (b=2)∧(x.Op == 3)=decide (b=3)∧(x.Op == 8)=decide (b=8)∧(x.Op == 9)=decide (b=9)∧(x.Op == 10)=decide (b=10):=by
  intro b hb;subst hb;exact ⟨rfl,rfl,rfl,rfl,rfl,rfl⟩
 by_cases h1:x.Op=1
 ·have hl:zp7 slots (slL inputs) x=x.N:=by unfold zp7;rw [if_pos h1]
  have:=push x.N (by rw [hstep0 (by rw [h1];decide),hl])
  obtain ⟨e1,-⟩:=ops 1 h1
  rw [decide_eq_true rfl] at e1
  (repeat (first | simp -dsimp -implicitDefEqProofs only [↓rP,rB,↓reduceIte,reduceEqDiff,reduceAdd,reduceLeDiff,e1,pA.len,bld1] | refine Cut.go ?_))
  exact this
 have q1:(x.Op == 1)=false:=by simp [h1]
 by_cases h2:x.Op=2
 ·have hl:zp7 slots (slL inputs) x=slots.getD x.N 0:=by unfold zp7;rw [if_neg h1,if_pos h2]
  have hb:x.N<slots.length:=by
   unfold z3k at hf
   rw [if_neg h1,if_pos h2] at hf
   simp only [Bool.and_eq_true,decide_eq_true_eq] at hf
   omega
  have:=push (slots.getD x.N 0) (by rw [hstep0 (by rw [h2];decide),hl])
  obtain ⟨-,e2,-⟩:=ops 2 h2
  rw [decide_eq_true rfl] at e2
  obtain ⟨pt,hpt⟩:=rd.ix
  obtain ⟨i1,i2⟩:=hpt x.N hb
  have i3:=i2 _ kA
  (repeat (first | simp -dsimp -implicitDefEqProofs only [↓rP,rB,↓reduceIte,reduceEqDiff,reduceAdd,reduceLeDiff,q1,e2,pA.len,bld1,i1,i3] | refine Cut.go ?_))
  exact this
 have q2:(x.Op == 2)=false:=by simp [h2]
 by_cases h3:x.Op=3
 ·have hl:zp7 slots (slL inputs) x=(IntKind.u64.wrap ((slL inputs).getD x.N 0)).toNat:=by unfold zp7;rw [if_neg h1,if_neg h2]
  have hb:x.N<16:=by
   unfold z3k at hf
   rw [if_neg h1,if_neg h2,if_pos h3] at hf
   simp only [Bool.and_eq_true,decide_eq_true_eq] at hf
   omega
  have:=push (IntKind.u64.wrap ((slL inputs).getD x.N 0)).toNat (by rw [hstep0 (by rw [h3];decide),hl])
  rw [u64n] at this
  obtain ⟨-,-,e3,-⟩:=ops 3 h3
  rw [decide_eq_true rfl] at e3
  have wn:IntKind.i64.wrap (x.N:Int)=(x.N:Int):=z6o (by omega) (by omega)
  (repeat (first | simp -dsimp -implicitDefEqProofs only [↓rP,rB,↓reduceIte,reduceEqDiff,reduceAdd,reduceLeDiff,q1,q2,e3,pA.len,wn] | refine Cut.go ?_))
  refine z0c (fun hlt=>?_) (fun hge=>?_)
  ·(repeat (first | simp -dsimp -implicitDefEqProofs only [↓rP,rB,↓reduceIte,reduceEqDiff,reduceAdd,reduceLeDiff,bld1,encI_at (o:=inputs) (k:=x.N) (by omega)] | refine Cut.go ?_))
   exact this
  ·have h00:(slL inputs).getD x.N 0=0:=by simp [List.getElem?_eq_none (show (slL inputs).length≤x.N by omega)]
   rw [h00] at this
   (repeat (first | simp -dsimp -implicitDefEqProofs only [↓rP,rB,↓reduceIte,reduceEqDiff,reduceAdd,reduceLeDiff,bld1] | refine Cut.go ?_))
   exact this
 have q3:(x.Op == 3)=false:=by simp [h3]
 have hnb:=z92 hf
 by_cases h8:8≤x.Op∧x.Op≤10
 ·have hnd:z1r x.Op=2:=by unfold z1r;rw [if_neg (by omega),if_neg (by omega),if_pos h8]
  match st,hn,hst,hsl,pA,hQn,hQr with
  | [],hn,_,_,_,_,_=>simp at hn;omega
  | [b],hn,_,_,_,_,_=>simp at hn;omega
  | b::c::r,_,hst,hsl,pA,hQn,hQr=>
   clear push
   have er:(b::c::r).reverse=r.reverse++[c,b]:=by simp
   rw [er] at pA
   have len:(r.reverse++[c,b]).length=r.length+2:=by simp
   have g1:(r.reverse++[c,b])[r.length]?=some c:=by rw [List.getElem?_append_right (by simp)];simp
   have g2:(r.reverse++[c,b])[r.length+1]?=some b:=by rw [List.getElem?_append_right (by simp)];simp
   have hr9:r.length≤898:=by simp at hsl;omega
   have w2:IntKind.i64.wrap (((r.reverse++[c,b]).length:Int)-2)=((r.length:Nat):Int):=by rw [len,z6o (by omega) (by omega)];omega
   have w1:IntKind.i64.wrap (((r.reverse++[c,b]).length:Int)-1)=((r.length+1:Nat):Int):=by rw [len,z6o (by omega) (by omega)];omega
   have body:∀ hh,hh=h.push (.row 58 [.int .i64 x.Op,.int .i64 x.Bin,.int .u64 (x.N:Nat)])→∀ K:AV→z00→Prop,
     (∀ v,binN x c b=some v→K (.tup [.int .u64 (v:Nat),.bool true]) hh)→(binN x c b=none→K (.tup [.int .u64 0,.bool false]) hh)→z01 Try.prog 60 [.agg [.int .i64 x.Op,.int .i64 x.Bin,.int .u64 (x.N:Nat)],.int .u64 c,.int .u64 b] hh K:=by
    intro hh _ K k1 k2
    refine (zjs x c b hh).mono ?_
    rintro _ _ ⟨rfl,rfl⟩
    unfold binV
    cases hb:binN x c b with
    | some v=>exact k1 v hb
    | none=>exact k2 hb
   have st1:∀ v,binN x c b=some v→zb4 slots (slL inputs) (b::c::r) x=some (v::r):=fun v hv=>by unfold zb4;rw [if_neg (by omega),if_neg (by omega)];simp only [hv,Option.map_some]
   have st0:binN x c b=none→zb4 slots (slL inputs) (b::c::r) x=none:=fun hv=>by unfold zb4;rw [if_neg (by omega),if_neg (by omega)];simp only [hv,Option.map_none]
   have lhs:List.take 3 [AV.int .i64 x.Op,.int .i64 x.Bin,.int .u64 (x.N:Nat)]=[AV.int .i64 x.Op,.int .i64 x.Bin,.int .u64 (x.N:Nat)]:=rfl
   have cases3:((x.Op == 8)=true∧(x.Op == 9)=false∧(x.Op == 10)=false)∨((x.Op == 8)=false∧(x.Op == 9)=true∧(x.Op == 10)=false)∨((x.Op == 8)=false∧(x.Op == 9)=false∧(x.Op == 10)=true):=by
    rcases (by omega:x.Op=8∨x.Op=9∨x.Op=10) with e | e | e
    ·obtain ⟨-,-,-,e8,e9,e10⟩:=ops 8 e
     exact Or.inl ⟨e8,e9,e10⟩
    ·obtain ⟨-,-,-,e8,e9,e10⟩:=ops 9 e
     exact Or.inr (Or.inl ⟨e8,e9,e10⟩)
    ·obtain ⟨-,-,-,e8,e9,e10⟩:=ops 10 e
     exact Or.inr (Or.inr ⟨e8,e9,e10⟩)
   rcases cases3 with ⟨e8,e9,e10⟩ | ⟨e8,e9,e10⟩ | ⟨e8,e9,e10⟩
   all_goals
    (repeat (first | simp -dsimp -implicitDefEqProofs only [↓rP,rB,↓reduceIte,reduceEqDiff,reduceAdd,reduceLeDiff,q1,q2,q3,e8,e9,e10,pA.len,w2,w1] | refine Cut.go ?_))
    refine zb6.get pA g1 _ ?_
    (repeat (first | simp -dsimp -implicitDefEqProofs only [↓rP,rB,↓reduceIte,reduceEqDiff,reduceAdd,reduceLeDiff,w1] | refine Cut.go ?_))
    refine zb6.get pA g2 _ ?_
    (repeat (first | simp -dsimp -implicitDefEqProofs only [↓rP,rB,↓reduceIte,reduceEqDiff,reduceAdd,reduceLeDiff] | refine Cut.go ?_))
    refine body _ rfl _ (fun v hv=>?_) (fun hv=>?_)
    ·(repeat (first | simp -dsimp -implicitDefEqProofs only [↓rP,rB,↓reduceIte,reduceEqDiff,reduceAdd,reduceLeDiff,w2] | refine Cut.go ?_))
     have lr:r.length=r.reverse.length:=by simp
     rw [lr]
     refine stk_two pA hloA (by simp;omega) v fun s hs=>?_
     (repeat (first | simp -dsimp -implicitDefEqProofs only [↓rP,rB,↓reduceIte,reduceEqDiff,reduceAdd,reduceLeDiff,bld1] | refine Cut.go ?_))
     refine hs _ fun a2 h2 p2 k2=>?_
     (repeat (first | simp -dsimp -implicitDefEqProofs only [↓rP,rB,↓reduceIte,reduceEqDiff,reduceAdd,reduceLeDiff,wk] | refine Cut.go ?_))
     exact hQn a2 h2 _ (st1 v hv) (by simpa using p2) ((kA.mono (fun _ h=>h.elim)).trans k2 (fun _ _ h=>h))
    ·(repeat (first | simp -dsimp -implicitDefEqProofs only [↓rP,rB,↓reduceIte,reduceEqDiff,reduceAdd,reduceLeDiff] | refine Cut.go ?_))
     exact hQr _ (st0 hv) (kA.mono (fun _ h=>h.elim))
 ·have hnd:z1r x.Op=1∧4≤x.Op∧x.Op≤7:=by
   by_cases c:4≤x.Op∧x.Op≤7
   ·exact ⟨by unfold z1r;rw [if_neg (by omega),if_pos c],c⟩
   ·exfalso;unfold z1r at hnb;rw [if_neg (by omega),if_neg c,if_neg h8] at hnb;omega
  match st,hn,hst,hsl,pA,hQn with
  | [],hn,_,_,_,_=>simp at hn;omega
  | b::r,_,hst,hsl,pA,hQn=>
   clear push
   have er:(b::r).reverse=r.reverse++[b]:=by simp
   rw [er] at pA
   have len:(r.reverse++[b]).length=r.length+1:=by simp
   have hr9:r.length≤899:=by simp at hsl;omega
   have g1:(r.reverse++[b])[r.length]?=some b:=by rw [List.getElem?_append_right (by simp)];simp
   have w1:IntKind.i64.wrap (((r.reverse++[b]).length:Int)-1)=((r.length:Nat):Int):=by rw [len,z6o (by omega) (by omega)];omega
   have st1:zb4 slots (slL inputs) (b::r) x=some (unN x.Op b::r):=by unfold zb4;rw [if_neg (by omega),if_pos (by omega)]
   have e8:(x.Op == 8)=false:=by rw [beqI];exact decide_eq_false (by omega)
   have e9:(x.Op == 9)=false:=by rw [beqI];exact decide_eq_false (by omega)
   have e10:(x.Op == 10)=false:=by rw [beqI];exact decide_eq_false (by omega)
   (repeat (first | simp -dsimp -implicitDefEqProofs only [↓rP,rB,↓reduceIte,reduceEqDiff,reduceAdd,reduceLeDiff,q1,q2,q3,e8,e9,e10,pA.len,w1] | refine Cut.go ?_))
   refine zb6.get pA g1 _ ?_
   (repeat (first | simp -dsimp -implicitDefEqProofs only [↓rP,rB,↓reduceIte,reduceEqDiff,reduceAdd,reduceLeDiff] | refine Cut.go ?_))
   refine (zky x.Op b (hst b (by simp)) _).mono ?_
   rintro _ _ ⟨rfl,rfl⟩
   (repeat (first | simp -dsimp -implicitDefEqProofs only [↓rP,rB,↓reduceIte,reduceEqDiff,reduceAdd,reduceLeDiff] | refine Cut.go ?_))
   have lr:r.length=r.reverse.length:=by simp
   rw [lr]
   refine stk_top pA _ _ fun h2 p2 k2=>?_
   (repeat (first | simp -dsimp -implicitDefEqProofs only [↓rP,rB,↓reduceIte,reduceEqDiff,reduceAdd,reduceLeDiff,wk] | refine Cut.go ?_))
   exact hQn a h2 _ st1 (by simpa using p2) ((kA.mono (fun _ h=>h.elim)).trans k2 (fun _ _ h=>h))
theorem stepN_ok {slots:List Nat} {inputs:List Int} {st st2:List Nat} {x:It} (hs:∀ v∈slots,okN v) (hx:x.ok) (hst:∀ v∈st,okN v) (h:zb4 slots inputs st x=some st2):∀ v∈st2,okN v:=by
 have hz:okN 0:=by unfold okN;omega
 unfold zb4 at h
 split at h
 ·cases h
  intro v hv
  rcases List.mem_cons.1 hv with rfl | hv
  ·unfold zp7
   split
   ·exact hx.2.2
   split
   ·rw [List.getD_eq_getElem?_getD]
    cases hg:slots[x.N]? with
    | none=>exact hz
    | some w=>exact hs w (List.mem_of_getElem? hg)
   ·exact u64lt _
  ·exact hst v hv
 ·split at h
  ·match st,h with
   | a::r,h=>
    cases h
    intro v hv
    rcases List.mem_cons.1 hv with rfl | hv
    ·exact unN_lt (hst a (by simp))
    ·exact hst v (by simp [hv])
   | [],h=>cases h;simp
  ·match st,h with
   | b::a::r,h=>
    simp only [Option.map_eq_some_iff] at h
    obtain ⟨w,hw,rfl⟩:=h
    intro v hv
    rcases List.mem_cons.1 hv with rfl | hv
    ·exact binN_lt hw
    ·exact hst v (by simp [hv])
   | [b],h=>cases h;simp
   | [],h=>cases h;simp
theorem zml (slots:List Nat) (sv:AV) (inputs:Option (List Int)) (items:Option (List It)) (hs:∀ v∈slots,okN v) (hsn:slots.length≤1000000) (hi:(slL inputs).length≤1000000) (hok:okSl z09.ok items) (hit:(slL items).length≤1000) (h:z00) (rd:Rd h sv slots) :
  z01 Try.prog 41 [sv,slAV 1 encI inputs,slAV 3 z09.cells items] h (fun v h2=>v=.tup [.int .u64 ((zio slots (slL inputs) (slL items)).1:Nat),.int .i64 (zio slots (slL inputs) (slL items)).2]∧Keeps h h2 (fun _=>False)):=by
 apply zqg
 (repeat (first | simp -dsimp -implicitDefEqProofs only [↓rP,rB,↓reduceIte,reduceEqDiff,reduceAdd,reduceLeDiff,rd.len] | refine Cut.go ?_))
 refine (zmm (slots.length:Nat) ⟨by omega,by omega⟩ items hok h).mono ?_
 rintro _ h2 ⟨rfl,kG⟩
 (repeat (first | simp -dsimp -implicitDefEqProofs only [↓rP,rB,↓reduceIte,reduceEqDiff,reduceAdd,reduceLeDiff] | refine Cut.go ?_))
 cases hg:zff (slL items) (slots.length:Nat) with
 | false=>
  (repeat (first | simp -dsimp -implicitDefEqProofs only [↓rP,rB,↓reduceIte,reduceEqDiff,reduceAdd,reduceLeDiff] | refine Cut.go ?_))
  have hg':¬ zmr (slL items) (slots.length:Nat):=by unfold zff at hg;simpa using hg
  have he:zio slots (slL inputs) (slL items)=(0,0):=by unfold zio;rw [if_neg hg']
  rw [he]
  exact ⟨rfl,kG⟩
 | true=>
  (repeat (first | simp -dsimp -implicitDefEqProofs only [↓rP,rB,↓reduceIte,reduceEqDiff,reduceAdd,reduceLeDiff] | refine Cut.go ?_))
  have hg':zmr (slL items) (slots.length:Nat):=by unfold zff at hg;simpa using hg
  obtain ⟨g1,g2,g3⟩:=hg'
  have he:zio slots (slL inputs) (slL items)=match runN slots (slL inputs) [] (slL items) with | some st=>(st.headD 0,0) | none=>(0,1):=by
   unfold zio;rw [if_pos ⟨g1,g2,g3⟩]
   cases runN slots (slL inputs) [] (slL items) <;> rfl
  refine z0x z08 (by kernel_rfl) (fun m fr hh=>∃ (k:Nat) (a:AV) (st:List Nat),k≤(slL items).length∧m=(slL items).length-k∧runN slots (slL inputs) [] ((slL items).take k)=some st∧(∀ v∈st,okN v)∧zb6 hh h2.next a st.reverse∧Keeps h2 hh (fun _=>False)∧
   fr=frOf [(0,sv),(1,slAV 1 encI inputs),(8,a),(20,slAV 3 z09.cells items),(21,.int .i64 (slL items).length),(22,.int .i64 k)]) (slL items).length ⟨0,.nils,[],by omega,by omega,rfl,by simp,Or.inl ⟨rfl,rfl⟩,.refl _ _,rfl⟩ ?_
  rintro m fr hh ⟨k,a,st,hk,rfl,hr,hst,p,kp,rfl⟩
  have hlen:=runN_len g1 k hk st hr
  by_cases hkl:k<(slL items).length
  ·have hx:(slL items)[k]?=some (slL items)[k]:=List.getElem?_eq_getElem hkl
   obtain ⟨f1,f2⟩:=g1 k hkl _ hx
   have hxok:=hok.2 _ (List.mem_of_getElem? hx)
   have hrs:∀ o,zb4 slots (slL inputs) st (slL items)[k]=o→runN slots (slL inputs) [] ((slL items).take (k+1))=o:=fun o ho=>by
    rw [List.take_add_one,hx]
    simp only [Option.toList_some]
    rw [zm5,hr,Option.bind_some,ho]
   have hb:=(zns _ _ rfl (okL_take (k:=k) g1))
   simp at hb
   refine eval_round hi hit (rd.keep (kG.go kp)) kp.next hst (by omega) p hx hxok f1 (by omega) _ (fun a2 h3 st2 hs2 p2 k2=>?_) (fun h3 hs2 k2=>?_)
   ·rw [z04]
    refine ⟨_,?_,k+1,a2,st2,by omega,rfl,hrs _ hs2,stepN_ok hs hxok hst hs2,p2,?_,rfl⟩
    ·omega
    ·exact kp.trans k2 (fun y hy hl=>absurd hl (by omega))
   ·(repeat (first | simp -dsimp -implicitDefEqProofs only [↓rP,rB,↓reduceIte,reduceEqDiff,reduceAdd,reduceLeDiff] | refine Cut.go ?_))
    have hrn:=hrs _ hs2
    have hall:runN slots (slL inputs) [] (slL items)=none:=by
     have:=zm4 slots (slL inputs) ((slL items).take (k+1)) ((slL items).drop (k+1)) []
     rw [List.take_append_drop,hrn] at this
     exact this
    rw [he,hall]
    exact ⟨rfl,kG.trans (kp.trans k2 (fun y hy hl=>absurd hl (by omega))) (fun _ _ h=>h)⟩
  ·have hke:k=(slL items).length:=by omega
   subst hke
   rw [List.take_length] at *
   apply zdf
   have d0:decide (((slL items).length:Int)<((slL items).length:Int))=false:=decide_eq_false (by omega)
   (repeat (first | simp -dsimp -implicitDefEqProofs only [↓rP,rB,↓reduceIte,reduceEqDiff,reduceAdd,reduceLeDiff,d0] | refine Cut.go ?_))
   rw [he,hr]
   match st,hlen,p with
   | [v],_,p=>
    refine zb6.get (k:=0) (v:=v) p (by simp) _ ?_
    (repeat (first | simp -dsimp -implicitDefEqProofs only [↓rP,rB,↓reduceIte,reduceEqDiff,reduceAdd,reduceLeDiff] | refine Cut.go ?_))
    exact ⟨rfl,kG.trans kp (fun _ _ h=>h)⟩
   | [],hlen,_=>simp at hlen;omega
   | v::w::r,hlen,_=>simp at hlen;omega
end Go.Proofs.Ytjlogcfggfmacaa
end

section
set_option maxRecDepth 8000
namespace Go.Proofs.Ytjlogcfggfmacaa
open Go.Abs
structure Tng where
 site:Int
 cls:Int
 id:Nat
 vals:List Nat
def Tng.cells (t:Tng):List AV:=[.int .i64 t.site,.int .i64 t.cls,.sl t.id 0 t.vals.length 1]
def z1b (vs:List Nat):List AV:=vs.map fun v:Nat=>.int .u64 (v:Int)
def z2k (ts:List Tng) (g:Nat):AV:=match ts with | []=>.nils | _=>.gsl g 3 (ts.map Tng.cells)
structure HpAt (h:z00) (F:Nat→Prop) (i:Nat) (ts:Nat→List Tng) (tk:Nat→Nat) (G:AV):Prop where
 own:F i
 lt:∀ x,F x→x<h.next
 row:h.objs i=some (.row 65 [G,z2k (ts 0) (tk 0),z2k (ts 1) (tk 1),z2k (ts 2) (tk 2),z2k (ts 3) (tk 3)])
 tok:∀ k,k<4→ts k≠[]→F (tk k)∧h.objs (tk k)=some (.tok 131 ((ts k).length*3))
 tkne:∀ k l,k<4→l<4→k≠l→ts k≠[]→ts l≠[]→tk k≠tk l
 cells:∀ k,k<4→∀ t∈ts k,F t.id∧h.objs t.id=some (.row 56 (z1b t.vals))
 len:∀ k,k<4→(ts k).length≤16
 dist:∀ (k l a b:Nat) (t u:Tng),k<4→l<4→(ts k)[a]?=some t→(ts l)[b]?=some u→t.id=u.id→k=l∧a=b
theorem HpAt.keeps {h h':z00} {F:Nat→Prop} {i:Nat} {ts:Nat→List Tng} {tk:Nat→Nat} {G:AV} {S:Nat→Prop} (p:HpAt h F i ts tk G) (k:Keeps h h' S) (hS:∀ x,F x→¬ S x):HpAt h' F i ts tk G:=by
 have e:∀ x,F x→h'.objs x=h.objs x:=fun x hx=>k.objs x (p.lt x hx) (hS x hx)
 exact ⟨p.own,fun x hx=>Nat.lt_of_lt_of_le (p.lt x hx) k.next,by rw [e i p.own];exact p.row,fun j hj hne=>⟨(p.tok j hj hne).1,by rw [e _ (p.tok j hj hne).1];exact (p.tok j hj hne).2⟩,p.tkne,fun j hj t ht=>⟨(p.cells j hj t ht).1,by rw [e _ (p.cells j hj t ht).1];exact (p.cells j hj t ht).2⟩,p.len,p.dist⟩
def setL {α:Type} (f:Nat→α) (k:Nat) (v:α):Nat→α:=fun j=>if j=k then v else f j
def rowOf (G:AV) (ts:Nat→List Tng) (tk:Nat→Nat):List AV:=[G,z2k (ts 0) (tk 0),z2k (ts 1) (tk 1),z2k (ts 2) (tk 2),z2k (ts 3) (tk 3)]
theorem zi2 (G:AV) (ts:Nat→List Tng) (tk:Nat→Nat) {k:Nat} (hk:k<4):(rowOf G ts tk)[1+k]?=some (z2k (ts k) (tk k)):=by
 match k,hk with
 | 0,_=>rfl
 | 1,_=>rfl
 | 2,_=>rfl
 | 3,_=>rfl
theorem rowOf_set (G:AV) (ts:Nat→List Tng) (tk:Nat→Nat) {k:Nat} (hk:k<4) (l:List Tng) (g:Nat):(rowOf G ts tk).set (1+k) (z2k l g)=rowOf G (setL ts k l) (setL tk k g):=by
 match k,hk with
 | 0,_=>rfl
 | 1,_=>rfl
 | 2,_=>rfl
 | 3,_=>rfl
theorem z95 (l:List Tng) (g:Nat) (K:AV→Prop):pLen .slice (z2k l g) K=K (.int .i64 l.length):=by
 cases l <;> simp [z2k]
theorem HpAt.grow {h h2:z00} {F:Nat→Prop} {i:Nat} {ts:Nat→List Tng} {tk:Nat→Nat} {G:AV} (p:HpAt h F i ts tk G) {k:Nat} (hk:k<4) (t:Tng) (hid:t.id=h.next) (hl:(ts k).length<16)
  (hn:h2.next=h.next+2) (hi:h2.objs i=some (.row 65 (rowOf G (setL ts k (ts k++[t])) (setL tk k (h.next+1))))) (ht:h2.objs (h.next+1)=some (.tok 131 (((ts k).length+1)*3))) (hc:h2.objs h.next=some (.row 56 (z1b t.vals)))
  (ho:∀ x,x<h.next→x≠i→(ts k≠[]→x≠tk k)→h2.objs x=h.objs x) :
  HpAt h2 (fun x=>F x∨x=h.next∨x=h.next+1) i (setL ts k (ts k++[t])) (setL tk k (h.next+1)) G∧Keeps h h2 F:=by
 have hil:=p.lt i p.own
 refine ⟨⟨Or.inl p.own,fun x hx=>?_,hi,fun j hj hne=>?_,fun j l hj hl' hjl hnj hnl=>?_,fun j hj u hu=>?_,fun j hj=>?_,fun j l a b u v hj hl' ha hb hid'=>?_⟩,⟨by omega,fun x hx hF=>ho x hx (fun e=>hF (e▸p.own)) (fun hne e=>hF (e▸(p.tok k hk hne).1))⟩⟩
 ·rcases hx with hx | hx | hx
  ·have:=p.lt x hx;omega
  ·omega
  ·omega
 ·by_cases e:j=k
  ·subst e
   simp only [setL,if_true,ht]
   exact ⟨Or.inr (Or.inr trivial),by simp⟩
  ·simp only [setL,if_neg e] at hne ⊢
   obtain ⟨t1,t2⟩:=p.tok j hj hne
   refine ⟨Or.inl t1,?_⟩
   rw [ho _ (p.lt _ t1) (fun ei=>by rw [ei,p.row] at t2;cases t2) (fun hne2=>p.tkne j k hj hk e hne hne2)]
   exact t2
 ·by_cases ej:j=k
  ·subst ej
   have el:¬ l=j:=fun e=>hjl e.symm
   simp only [setL,if_true,if_neg el] at hnl ⊢
   have:=p.lt _ (p.tok l hl' hnl).1
   omega
  ·by_cases el:l=k
   ·subst el
    simp only [setL,if_true,if_neg ej] at hnj ⊢
    have:=p.lt _ (p.tok j hj hnj).1
    omega
   ·simp only [setL,if_neg ej,if_neg el] at hnj hnl ⊢
    exact p.tkne j l hj hl' hjl hnj hnl
 ·have old:∀ j,j<4→∀ u∈ts j,(F u.id∨u.id=h.next∨u.id=h.next+1)∧h2.objs u.id=some (.row 56 (z1b u.vals)):=fun j hj u hu=>by
   obtain ⟨t1,t2⟩:=p.cells j hj u hu
   refine ⟨Or.inl t1,?_⟩
   rw [ho _ (p.lt _ t1) (fun ei=>by rw [ei,p.row] at t2;simp at t2) (fun hne e=>by rw [e,(p.tok k hk hne).2] at t2;cases t2)]
   exact t2
  by_cases e:j=k
  ·subst e
   simp only [setL,if_true,List.mem_append,List.mem_singleton] at hu
   rcases hu with hu | rfl
   ·exact old j hj u hu
   ·rw [hid];exact ⟨Or.inr (Or.inl rfl),hc⟩
  ·simp only [setL,if_neg e] at hu
   exact old j hj u hu
 ·by_cases e:j=k
  ·subst e;simp [setL];omega
  ·simp only [setL,if_neg e];exact p.len j hj
 ·have old:∀ j (a:Nat) (u:Tng),j<4→(ts j)[a]?=some u→u.id<h.next:=fun j a u hj ha=>p.lt _ (p.cells j hj u (List.mem_of_getElem? ha)).1
  have back:∀ j (a:Nat) (u:Tng),j<4→(setL ts k (ts k++[t]) j)[a]?=some u→(ts j)[a]?=some u∨(j=k∧a=(ts k).length∧u=t):=by
   intro j a u hj ha
   by_cases e:j=k
   ·subst e
    simp only [setL,if_true,List.getElem?_append] at ha
    split at ha
    ·exact Or.inl ha
    ·rename_i hal
     obtain ⟨hb,rfl⟩:=List.getElem?_eq_some_iff.1 ha
     simp at hb
     exact Or.inr ⟨rfl,by omega,by simp⟩
   ·simp only [setL,if_neg e] at ha
    exact Or.inl ha
  rcases back j a u hj ha with h1 | ⟨h1,h2',h3⟩ <;> rcases back l b v hl' hb with k1 | ⟨k1,k2,k3⟩
  ·exact p.dist j l a b u v hj hl' h1 k1 hid'
  ·have:=old j a u hj h1;rw [hid',k3,hid] at this;omega
  ·have:=old l b v hl' k1;rw [←hid',h3,hid] at this;omega
  ·exact ⟨by omega,by omega⟩
theorem znv (l:List Tng) (t:Tng) (g:Nat):z2k (l++[t]) g=.gsl g 3 ((l++[t]).map Tng.cells):=by cases l <;> rfl
theorem zdp {h:z00} {o:AObj} {x:Nat} (hx:x<h.next):(h.push o).objs x=h.objs x:=by simp;omega
theorem hpush_new (h:z00) (o:AObj):(h.push o).objs h.next=some o:=by simp
theorem kill_ne {h:z00} {g x:Nat} (hx:x≠g):(h.kill g).objs x=h.objs x:=by simp [hx]
theorem zt2 {h:z00} {F:Nat→Prop} {i:Nat} {ts:Nat→List Tng} {tk:Nat→Nat} {G:AV} (p:HpAt h F i ts tk G) {k:Nat} (hk:k<4) (t:Tng) (hl:(ts k).length<16) (o:AObj) :
  ∃ hB:z00,hB.next=h.next+2∧hB.objs (h.next+1)=some (.tok 131 (((ts k).length+1)*3))∧hB.objs h.next=some o∧(∀ x,x<h.next→(ts k≠[]→x≠tk k)→hB.objs x=h.objs x)∧
   ∀ K:AV→z00→Prop,K (z2k (ts k++[t]) (h.next+1)) hB→z11 true { e:=131,sz:=3,by_:=40 } (z2k (ts k) (tk k)) (.isl 3 [t.cells]) (h.push o) K:=by
 by_cases he:ts k=[]
 ·refine ⟨(h.push o).push (.tok 131 (1*3)),by simp,by simp [he],by simp,fun x hx _=>?_,fun K hK=>?_⟩
  ·rw [zdp (by simp;omega),zdp hx]
  ·rw [he] at hK ⊢
   simp [z11,z2k,z13,zd2]
   refine ⟨by simp [bounded,maxLen],?_⟩
   simpa [z2k,Tng.cells] using hK
 ·obtain ⟨t1,t2⟩:=p.tok k hk he
  have hlt:=p.lt _ t1
  have em:z2k (ts k) (tk k)=.gsl (tk k) 3 ((ts k).map Tng.cells):=by
   unfold z2k
   cases hts:ts k with
   | nil=>exact absurd hts he
   | cons a l=>rfl
  refine ⟨((h.push o).kill (tk k)).push (.tok 131 (((ts k).length+1)*3)),by simp,by simp,?_,fun x hx hne=>?_,fun K hK=>?_⟩
  ·rw [zdp (by simp),kill_ne (by omega),hpush_new]
  ·rw [zdp (by simp;omega),kill_ne (hne he),zdp hx]
  ·rw [znv] at hK
   rw [em]
   have ho:(h.push o).objs (tk k)=some (.tok 131 ((ts k).length*3)):=by
    simp only [z00.z5w];rw [if_neg (by omega)];exact t2
   simp only [z11,z13,if_true,ho]
   refine ⟨trivial,trivial,by simp,by simp [bounded,maxLen];omega,?_⟩
   simpa using hK
def zk2 (ts:Nat→List Tng) (thread cells:Int):Int ⊕ Nat:=
 if thread<0∨4≤thread∨16≤(ts thread.toNat).length then .inl 4 else if cells<0∨16<cells then .inl 5 else .inr thread.toNat
theorem zms {h:z00} {F:Nat→Prop} {i:Nat} {ts:Nat→List Tng} {tk:Nat→Nat} {G:AV} (p:HpAt h F i ts tk G) (thread site cls cells:Int) :
  z01 Try.prog 46 [.ptr i 0,.int .i64 thread,.int .i64 site,.int .i64 cls,.int .i64 cells] h (fun v h2=>
   match zk2 ts thread cells with
   | .inl e=>v=.tup [.int .u64 0,.int .i64 e]∧h2=h
   | .inr k=>v=.tup [.int .u64 ((k*16+(ts k).length+1:Nat):Int),.int .i64 0]∧∃ tk2,HpAt h2 (fun x=>F x∨x=h.next∨x=h.next+1) i (setL ts k (ts k++[⟨site,cls,h.next,List.replicate cells.toNat 0⟩])) tk2 G∧Keeps h h2 F):=by
 apply zit
 try simp only [qr1,qr2,qr3,qr4,Go.Abs.later]
 have hld:∀ (k:Nat),k<4→∀ K,z0r none (.ptr i (1+k)) h K=K (z2k (ts k) (tk k)):=fun k hk K=>by
  rw [z06 p.row]
  have:=zi2 G ts tk hk
  unfold rowOf at this
  simp only [pCells_none]
  rw [this]
 by_cases h1:thread<0
 ·simp [h1,zk2]
 ·by_cases h2:4≤thread
  ·simp [h1,h2,zk2]
  ·obtain ⟨k,rfl⟩:∃ k:Nat,thread=k:=⟨thread.toNat,by omega⟩
   have hk:k<4:=by omega
   have hix:∀ K,z0f (.array 4 1) (.ptr i 1) (.int .i64 (k:Int)) K=K (.ptr i (1+k)):=fun K=>by simp [z0f];omega
   by_cases h3:16≤(ts k).length
   ·have h3':(16:Int)≤((ts k).length:Int):=by omega
    have:zk2 ts k cells=.inl 4:=by simp [zk2,h3]
    rw [this]
    simp [h1,h2,hix,hld k hk,z95,h3']
   ·have h3':¬ (16:Int)≤((ts k).length:Int):=by omega
    by_cases h4:cells<0∨16<cells
    ·have:zk2 ts k cells=.inl 5:=by simp [zk2,h3,hk,h4];omega
     rw [this]
     by_cases h5:cells<0
     ·simp [h1,h2,hix,hld k hk,z95,h3',h5]
     ·have h6:16<cells:=by omega
      simp [h1,h2,hix,hld k hk,z95,h3',h5,h6]
    ·have:zk2 ts k cells=.inr k:=by simp [zk2,h3,hk,h4];omega
     rw [this]
     have h5:¬ cells<0:=by omega
     have h6:¬ 16<cells:=by omega
     obtain ⟨n,rfl⟩:∃ n:Nat,cells=n:=⟨cells.toNat,by omega⟩
     have hd0:decide ((k:Int)<0)=false:=by simp
     have hd1:decide ((4:Int)≤(k:Int))=false:=by simp;omega
     have hd2:decide ((16:Int)≤((ts k).length:Int))=false:=by simp;omega
     have hd3:decide ((n:Int)<0)=false:=by simp
     have hd4:decide ((16:Int)<(n:Int))=false:=by simp;omega
     simp only [z6f,z3n,zkk,zlr,if_true,binA_int_lss,hd0,zkj,zki,zlv,binA_int_geq,hd1,zkm,z7r,Nat.zero_add,hix,hld k hk,z95,hd2,zo0,Bool.false_eq_true,if_false,hd3,binA_int_gtr,hd4,true_and]
     simp only [z9h]
     refine ⟨by omega,by omega,by omega,by omega,rfl,?_⟩
     have hil:=p.lt i p.own
     have hldA:∀ o K,z0r none (.ptr i (1+k)) (h.push o) K=K (z2k (ts k) (tk k)):=fun o K=>by
      have hr:(h.push o).objs i=some (.row 65 (rowOf G ts tk)):=by simp only [z00.z5w];rw [if_neg (by omega)];exact p.row
      rw [z06 hr]
      simp only [pCells_none,zi2 G ts tk hk]
     have hrep:repC ((n:Int)).toNat [AV.int .u64 0]=z1b (List.replicate n 0):=by simp [repC,z1b]
     rw [hrep]
     obtain ⟨hB,b1,b2,b3,b4,b5⟩:=zt2 p hk ⟨site,cls,h.next,List.replicate n 0⟩ (by omega) (.row 56 (z1b (List.replicate n 0)))
     refine ⟨by rw [hldA];exact ⟨rfl,trivial⟩,?_⟩
     simp [z5e,zdh,AV.cells,AV.fits,z0m,z8t]
     simp only [Tng.cells,List.length_replicate] at b5
     refine b5 _ ?_
     have hio:i≠tk k∨ts k=[]:=by
      by_cases he:ts k=[]
      ·exact Or.inr he
      ·left
       rintro rfl
       have:=(p.tok k hk he).2
       rw [p.row] at this;cases this
     have hBi:hB.objs i=some (.row 65 (rowOf G ts tk)):=by
      rw [b4 i hil (fun hne=>hio.resolve_right hne)];exact p.row
     have hlf:(z2k (ts k++[⟨site,cls,h.next,List.replicate n 0⟩]) (h.next+1)).zd1=true:=by rw [znv];rfl
     rw [z1t hBi hlf (by simp [rowOf];omega),rowOf_set G ts tk hk]
     have hld2:∀ K,z0r none (.ptr i (1+k)) (hB.put i (.row 65 (rowOf G (setL ts k (ts k++[⟨site,cls,h.next,List.replicate n 0⟩])) (setL tk k (h.next+1))))) K=K (z2k (ts k++[⟨site,cls,h.next,List.replicate n 0⟩]) (h.next+1)):=fun K=>by
      rw [z06 (ty:=65) (cs:=rowOf G (setL ts k (ts k++[⟨site,cls,h.next,List.replicate n 0⟩])) (setL tk k (h.next+1))) (by simp)]
      simp only [pCells_none,zi2 _ _ _ hk]
      simp [setL]
     have ew:IntKind.i64.wrap ((k:Int)*16)=(k:Int)*16:=wrap_i64 (by omega)
     have ew2:IntKind.i64.wrap ((k:Int)*16+(((ts k++[⟨site,cls,h.next,List.replicate n 0⟩]:List Tng)).length:Int))=(k:Int)*16+((ts k).length:Int)+1:=by
      rw [wrap_i64 (by simp;omega)];simp;omega
     have ew3:IntKind.u64.wrap ((k:Int)*16+((ts k).length:Int)+1)=(k:Int)*16+((ts k).length:Int)+1:=by rw [zes];omega
     rw [hld2,z95]
     simp only [binA_int_add,z3n,ew,ew2,zhv,ew3,true_and]
     have hg:=p.grow (h2:=hB.put i (.row 65 (rowOf G (setL ts k (ts k++[⟨site,cls,h.next,List.replicate n 0⟩])) (setL tk k (h.next+1))))) hk ⟨site,cls,h.next,List.replicate n 0⟩ rfl (by omega) (by simpa using b1) (by simp) (by simp only [z00.z1x];rw [if_neg (by omega)];exact b2) (by simp only [z00.z1x];rw [if_neg (by omega)];exact b3) (fun x hx hxi hxt=>by simp only [z00.z1x];rw [if_neg hxi];exact b4 x hx hxt)
     exact ⟨⟨_,hg.1⟩,hg.2⟩
end Go.Proofs.Ytjlogcfggfmacaa
end

section
set_option maxRecDepth 8000
namespace Go.Proofs.Ytjlogcfggfmacaa
open Go.Abs
def zf3 (ts:Nat→List Tng) (r:Nat):Option Tng:=if r=0∨64<r then none else (ts ((r-1)/16))[(r-1)%16]?
def zmf:Option Tng→AV | none=>.nilp | some t=>.iptr t.cells
theorem HpAt.ld {h:z00} {F:Nat→Prop} {i:Nat} {ts:Nat→List Tng} {tk:Nat→Nat} {G:AV} (p:HpAt h F i ts tk G) {k:Nat} (hk:k<4) (K:AV→Prop):z0r none (.ptr i (1+k)) h K=K (z2k (ts k) (tk k)):=by
 rw [z06 p.row]
 have:=zi2 G ts tk hk
 unfold rowOf at this
 simp only [pCells_none]
 rw [this]
theorem zfx {h:z00} {F:Nat→Prop} {i:Nat} {ts:Nat→List Tng} {tk:Nat→Nat} {G:AV} (p:HpAt h F i ts tk G) (r:Nat) (hr:r<18446744073709551616) :
  z01 Try.prog 62 [.ptr i 0,.int .u64 r] h (fun v h2=>v=zmf (zf3 ts r)∧h2=h):=by
 apply ziw
 try simp only [qr1,qr2,qr3,qr4,Go.Abs.later]
 have hz:((r:Int) == 0)=decide (r=0):=by rw [Bool.eq_iff_iff];simp
 have hg:decide ((64:Int)<(r:Int))=decide (64<r):=by rw [Bool.eq_iff_iff];simp;omega
 by_cases h0:r=0
 ·simp [hz,h0,zf3,zmf]
 ·by_cases h64:64<r
  ·simp [hz,hg,h0,h64,zf3,zmf]
  ·have e1:IntKind.u64.wrap ((r:Int)-1)=((r-1:Nat):Int):=by rw [zes];omega
   have e2:IntKind.i64.wrap ((r-1:Nat):Int)=((r-1:Nat):Int):=wrap_i64 (by omega)
   have e3:((r-1:Nat):Int).tdiv 16=(((r-1)/16:Nat):Int):=rfl
   have e4:((r-1:Nat):Int).tmod 16=(((r-1)%16:Nat):Int):=rfl
   have e5:IntKind.i64.wrap (((r-1)/16:Nat):Int)=(((r-1)/16:Nat):Int):=wrap_i64 (by omega)
   have hk:(r-1)/16<4:=by omega
   have hf:zf3 ts r=(ts ((r-1)/16))[(r-1)%16]?:=by simp [zf3,h0,h64]
   rw [hf]
   have hz':((r:Int) == 0)=false:=by rw [hz];simp [h0]
   have hg':decide ((64:Int)<(r:Int))=false:=by rw [hg];simp [h64]
   generalize (r-1)/16=k at *
   generalize (r-1)%16=q at *
   have hix:∀ K,z0f (.array 4 1) (.ptr i 1) (.int .i64 (k:Int)) K=K (.ptr i (1+k)):=fun K=>by simp [z0f];omega
   have hl:decide ((q:Int)<((ts k).length:Int))=decide (q<(ts k).length):=by rw [Bool.eq_iff_iff];simp
   simp only [z6f,z3n,zkk,zlr,if_true,zde,hz',zkj,zki,zlv,binA_int_gtr,hg',zo0,Bool.false_eq_true,if_false,binA_int_sub,e1,zhv,e2,binA_int_quo,binA_int_rem,if_neg (show ¬ (16:Int)=0 by omega),e3,e4,e5,zkm,z7r,Nat.zero_add,hix,p.ld hk,z95,binA_int_lss,hl,decide_eq_true_eq]
   by_cases hql:q<(ts k).length
   ·rw [if_pos hql]
    have hne:ts k≠[]:=fun e=>by rw [e] at hql;simp at hql
    have em:z2k (ts k) (tk k)=.gsl (tk k) 3 ((ts k).map Tng.cells):=by
     unfold z2k
     cases hts:ts k with
     | nil=>exact absurd hts hne
     | cons a l=>rfl
    rw [em]
    simp [z0f,hql,zmf]
   ·rw [if_neg hql]
    have:(ts k)[q]?=none:=List.getElem?_eq_none (by omega)
    simp [this,zmf]
def zh0 (ts:Nat→List Tng) (r:Nat) (at_:Int):Int ⊕ (Tng×Nat):=
 match zf3 ts r with
 | none=>.inl 2
 | some t=>if at_<0∨(t.vals.length:Int)≤at_ then .inl 3 else .inr (t,at_.toNat)
def zgz:Int ⊕ (Tng×Nat)→AV
 | .inl e=>.tup [.nilp,.int .i64 e]
 | .inr (t,q)=>.tup [.ptr t.id q,.int .i64 0]
theorem zfw {h:z00} {F:Nat→Prop} {i:Nat} {ts:Nat→List Tng} {tk:Nat→Nat} {G:AV} (p:HpAt h F i ts tk G) (r:Nat) (hr:r<18446744073709551616) (at_:Int) :
  z01 Try.prog 58 [.ptr i 0,.int .u64 r,.int .i64 at_] h (fun v h2=>v=zgz (zh0 ts r at_)∧h2=h):=by
 apply ziv
 try simp only [qr1,qr2,qr3,qr4,Go.Abs.later]
 refine (zfx p r hr).mono ?_
 rintro _ h2 ⟨rfl,e⟩
 subst e
 unfold zh0
 cases hf:zf3 ts r with
 | none=>simp [zmf,zgz]
 | some t=>
  by_cases h0:at_<0
  ·simp [zmf,zgz,Tng.cells,h0]
  ·by_cases h1:(t.vals.length:Int)≤at_
   ·simp [zmf,zgz,Tng.cells,h0,h1]
   ·have h2':at_<(t.vals.length:Int):=by omega
    simp [zmf,zgz,Tng.cells,h0,h1,h2',z0f]
    omega
end Go.Proofs.Ytjlogcfggfmacaa
end

section
set_option maxRecDepth 8000
namespace Go.Proofs.Ytjlogcfggfmacaa
open Go.Abs
theorem zrh {α β:Type} (f:α→β) {l:List α} {j:Nat} {t u:α} (ht:l[j]?=some t) (hu:f u=f t):(l.set j u).map f=l.map f:=by
 apply List.ext_getElem?
 intro a
 simp only [List.getElem?_map,List.getElem?_set]
 split
 ·rename_i e;subst e
  split
  ·rw [ht];simp [hu]
  ·rename_i hl;rw [List.getElem?_eq_none (by omega)] at ht;cases ht
 ·rfl
theorem madeAV_set {l:List Tng} {j:Nat} {t u:Tng} (ht:l[j]?=some t) (hu:u.cells=t.cells) (g:Nat):z2k (l.set j u) g=z2k l g:=by
 have hm:=zrh Tng.cells ht hu
 cases l with
 | nil=>simp at ht
 | cons a l=>
  cases j with
  | zero=>simpa [z2k] using hm
  | succ j=>simpa [z2k] using hm
theorem HpAt.turn {h:z00} {F:Nat→Prop} {i:Nat} {ts:Nat→List Tng} {tk:Nat→Nat} {G:AV} (p:HpAt h F i ts tk G) {k j:Nat} {t:Tng} (hk:k<4) (ht:(ts k)[j]?=some t) (vs:List Nat) (hv:vs.length=t.vals.length) :
  HpAt (h.put t.id (.row 56 (z1b vs))) F i (setL ts k ((ts k).set j { t with vals:=vs })) tk G:=by
 have htm:=p.cells k hk t (List.mem_of_getElem? ht)
 have hi:i≠t.id:=by
  intro e;have:=htm.2;rw [←e,p.row] at this;cases this
 have hjl:j<(ts k).length:=(List.getElem?_eq_some_iff.1 ht).1
 have hlen:∀ l,(setL ts k ((ts k).set j { t with vals:=vs }) l).length=(ts l).length:=by
  intro l;unfold setL;split
  ·rename_i e;subst e;simp
  ·rfl
 have hne:∀ l,setL ts k ((ts k).set j { t with vals:=vs }) l≠[]↔ts l≠[]:=by
  intro l;rw [←List.length_pos_iff,←List.length_pos_iff,hlen]
 have hm:∀ l,z2k (setL ts k ((ts k).set j { t with vals:=vs }) l) (tk l)=z2k (ts l) (tk l):=by
  intro l;unfold setL;split
  ·rename_i e;subst e;exact madeAV_set ht (by simp [Tng.cells,hv]) _
  ·rfl
 have back:∀ l (a:Nat) (u:Tng),(setL ts k ((ts k).set j { t with vals:=vs }) l)[a]?=some u→∃ u0,(ts l)[a]?=some u0∧u.id=u0.id∧((l=k∧a=j∧u={ t with vals:=vs })∨(¬ (l=k∧a=j)∧u=u0)):=by
  intro l a u ha
  unfold setL at ha
  split at ha
  ·rename_i e;subst e
   rw [List.getElem?_set] at ha
   split at ha
   ·rename_i e;subst e
    cases ha
    exact ⟨t,ht,rfl,Or.inl ⟨rfl,rfl,rfl⟩⟩
   ·rename_i e;exact ⟨u,ha,rfl,Or.inr ⟨fun x=>e x.2.symm,rfl⟩⟩
  ·rename_i e;exact ⟨u,ha,rfl,Or.inr ⟨fun x=>e x.1,rfl⟩⟩
 refine ⟨p.own,p.lt,?_,fun l hl hn=>?_,fun l m hl hm' hlm h1 h2=>p.tkne l m hl hm' hlm ((hne l).1 h1) ((hne m).1 h2),fun l hl u hu=>?_,fun l hl=>by rw [hlen];exact p.len l hl,fun l m a b u v hl hm' ha hb hid=>?_⟩
 ·simp only [z00.z1x,if_neg hi,hm];exact p.row
 ·obtain ⟨t1,t2⟩:=p.tok l hl ((hne l).1 hn)
  refine ⟨t1,?_⟩
  rw [hlen]
  simp only [z00.z1x]
  rw [if_neg]
  ·exact t2
  ·intro e;rw [e,htm.2] at t2;cases t2
 ·obtain ⟨a,ha⟩:=List.mem_iff_getElem?.1 hu
  obtain ⟨u0,h1,h2,h3⟩:=back l a u ha
  have hu0:=p.cells l hl u0 (List.mem_of_getElem? h1)
  rcases h3 with ⟨rfl,rfl,rfl⟩ | ⟨h3,rfl⟩
  ·exact ⟨htm.1,by simp⟩
  ·refine ⟨hu0.1,?_⟩
   simp only [z00.z1x]
   rw [if_neg]
   ·exact hu0.2
   ·intro e;exact h3 (p.dist l k a j u t hl hk h1 ht e)
 ·obtain ⟨u0,h1,h2,_⟩:=back l a u ha
  obtain ⟨v0,k1,k2,_⟩:=back m b v hb
  exact p.dist l m a b u0 v0 hl hm' h1 k1 (by rw [←h2,←k2,hid])
theorem zqk {ts:Nat→List Tng} {r:Nat} {at_:Int} {t:Tng} {q:Nat} (h:zh0 ts r at_=.inr (t,q)):(r-1)/16<4∧(ts ((r-1)/16))[(r-1)%16]?=some t∧q<t.vals.length∧at_=q∧1≤r∧r≤64:=by
 unfold zh0 at h
 cases hf:zf3 ts r with
 | none=>rw [hf] at h;cases h
 | some u=>
  rw [hf] at h
  simp only at h
  split at h
  ·cases h
  ·rename_i hn
   cases h
   unfold zf3 at hf
   split at hf
   ·cases hf
   ·exact ⟨by omega,hf,by omega,by omega,by omega,by omega⟩
theorem zqj {ts:Nat→List Tng} {r:Nat} {at_:Int} {e:Int} (h:zh0 ts r at_=.inl e):e=2∨e=3:=by
 unfold zh0 at h
 cases hf:zf3 ts r with
 | none=>rw [hf] at h;cases h;exact Or.inl rfl
 | some u=>
  rw [hf] at h
  simp only at h
  split at h
  ·cases h;exact Or.inr rfl
  ·cases h
def setT (ts:Nat→List Tng) (r:Nat) (t:Tng) (q v:Nat):Nat→List Tng:=setL ts ((r-1)/16) ((ts ((r-1)/16)).set ((r-1)%16) { t with vals:=t.vals.set q v })
theorem zep (vs:List Nat) (q v:Nat):(z1b vs).set q (.int .u64 (v:Int))=z1b (vs.set q v):=by simp [z1b,List.map_set]
@[simp] theorem valCells_length (vs:List Nat):(z1b vs).length=vs.length:=by simp [z1b]
theorem valCells_get (vs:List Nat) (q:Nat) (hq:q<vs.length):(z1b vs)[q]?=some (.int .u64 ((vs.getD q 0:Nat):Int)):=by simp [z1b,hq]
theorem zp1 {h:z00} {F:Nat→Prop} {i:Nat} {ts:Nat→List Tng} {tk:Nat→Nat} {G:AV} (p:HpAt h F i ts tk G) (r:Nat) (hr:r<18446744073709551616) (at_:Int) (v:Nat) :
  z01 Try.prog 40 [.ptr i 0,.int .u64 r,.int .i64 at_,.int .u64 v] h (fun w h2=>
   match zh0 ts r at_ with
   | .inl e=>w=.int .i64 e∧h2=h
   | .inr (t,q)=>w=.int .i64 0∧HpAt h2 F i (setT ts r t q v) tk G∧Keeps h h2 F):=by
 apply zk1
 try simp only [qr1,qr2,qr3,qr4,Go.Abs.later]
 refine (zfw p r hr at_).mono ?_
 rintro _ h2 ⟨rfl,e⟩
 subst e
 cases hc:zh0 ts r at_ with
 | inl e=>
  rcases zqj hc with rfl | rfl <;> simp [zgz]
 | inr tq=>
  obtain ⟨t,q⟩:=tq
  obtain ⟨hk,ht,hq,-,-,-⟩:=zqk hc
  have htm:=p.cells _ hk t (List.mem_of_getElem? ht)
  simp [zgz]
  rw [z1t htm.2 rfl (by simpa using hq),zep]
  refine ⟨p.turn hk ht _ (by simp),(Keeps.put _ _ _).mono ?_⟩
  intro x hx;subst hx;exact htm.1
theorem zp0 {h:z00} {F:Nat→Prop} {i:Nat} {ts:Nat→List Tng} {tk:Nat→Nat} {G:AV} (p:HpAt h F i ts tk G) (r:Nat) (hr:r<18446744073709551616) (at_:Int) :
  z01 Try.prog 43 [.ptr i 0,.int .u64 r,.int .i64 at_] h (fun w h2=>
   h2=h∧match zh0 ts r at_ with
   | .inl e=>w=.tup [.int .u64 0,.int .i64 e]
   | .inr (t,q)=>w=.tup [.int .u64 ((t.vals.getD q 0:Nat):Int),.int .i64 0]):=by
 apply zk0
 try simp only [qr1,qr2,qr3,qr4,Go.Abs.later]
 refine (zfw p r hr at_).mono ?_
 rintro _ h2 ⟨rfl,e⟩
 subst e
 cases hc:zh0 ts r at_ with
 | inl e=>
  rcases zqj hc with rfl | rfl <;> simp [zgz]
 | inr tq=>
  obtain ⟨t,q⟩:=tq
  obtain ⟨hk,ht,hq,-,-,-⟩:=zqk hc
  have htm:=p.cells _ hk t (List.mem_of_getElem? ht)
  simp [zgz]
  rw [z06 htm.2,pCells_none,valCells_get _ _ hq]
  simp
theorem zmt {h:z00} {F:Nat→Prop} {i:Nat} {ts:Nat→List Tng} {tk:Nat→Nat} {G:AV} (p:HpAt h F i ts tk G) (r:Nat) (hr:r<18446744073709551616) :
  z01 Try.prog 44 [.ptr i 0,.int .u64 r] h (fun w h2=>(w=match zf3 ts r with | none=>.tup [.int .i64 0,.int .i64 2] | some t=>.tup [.int .i64 t.vals.length,.int .i64 0])∧h2=h):=by
 apply ziu
 try simp only [qr1,qr2,qr3,qr4,Go.Abs.later]
 refine (zfx p r hr).mono ?_
 rintro _ h2 ⟨rfl,e⟩
 subst e
 cases hf:zf3 ts r with
 | none=>simp [zmf]
 | some t=>simp [zmf,Tng.cells]
end Go.Proofs.Ytjlogcfggfmacaa
end

section
set_option maxRecDepth 8000
namespace Go.Proofs.Ytjlogcfggfmacaa
open Go.Abs
structure Vw where
 site:Int
 cls:Int
 vals:List Nat
 deriving DecidableEq,Inhabited
def Tng.vw (t:Tng):Vw:=⟨t.site,t.cls,t.vals⟩
def vwOf (ts:Nat→List Tng):Nat→List Vw:=fun k=>(ts k).map Tng.vw
theorem zsp (ts:Nat→List Tng) (k:Nat) (l:List Tng):vwOf (setL ts k l)=setL (vwOf ts) k (l.map Tng.vw):=by
 funext j;unfold vwOf setL;split <;> rfl
theorem vwOf_len (ts:Nat→List Tng) (k:Nat):(vwOf ts k).length=(ts k).length:=by simp [vwOf]
abbrev HSt:=Nat→List Vw
def zor (W:HSt) (r:Nat):Option Vw:=if r=0∨64<r then none else (W ((r-1)/16))[(r-1)%16]?
def cellW (W:HSt) (r:Nat) (at_:Int):Int ⊕ (Vw×Nat):=
 match zor W r with
 | none=>.inl 2
 | some t=>if at_<0∨(t.vals.length:Int)≤at_ then .inl 3 else .inr (t,at_.toNat)
def zlj (W:HSt) (thread cells:Int):Int ⊕ Nat:=
 if thread<0∨4≤thread∨16≤(W thread.toNat).length then .inl 4 else if cells<0∨16<cells then .inl 5 else .inr thread.toNat
def makeV (W:HSt) (thread cells:Int):AV:=
 match zlj W thread cells with
 | .inl e=>.tup [.int .u64 0,.int .i64 e]
 | .inr k=>.tup [.int .u64 ((k*16+(W k).length+1:Nat):Int),.int .i64 0]
def zp8 (W:HSt) (thread site cls cells:Int):HSt:=
 match zlj W thread cells with
 | .inl _=>W
 | .inr k=>setL W k (W k++[⟨site,cls,List.replicate cells.toNat 0⟩])
def setV (W:HSt) (r:Nat) (at_:Int):Int:=match cellW W r at_ with | .inl e=>e | .inr _=>0
def setW (W:HSt) (r:Nat) (at_:Int) (v:Nat):HSt:=
 match cellW W r at_ with
 | .inl _=>W
 | .inr (t,q)=>setL W ((r-1)/16) ((W ((r-1)/16)).set ((r-1)%16) { t with vals:=t.vals.set q v })
def getV (W:HSt) (r:Nat) (at_:Int):AV:=
 match cellW W r at_ with
 | .inl e=>.tup [.int .u64 0,.int .i64 e]
 | .inr (t,q)=>.tup [.int .u64 ((t.vals.getD q 0:Nat):Int),.int .i64 0]
def sizeV (W:HSt) (r:Nat):AV:=match zor W r with | none=>.tup [.int .i64 0,.int .i64 2] | some t=>.tup [.int .i64 t.vals.length,.int .i64 0]
theorem findW_of (ts:Nat→List Tng) (r:Nat):zor (vwOf ts) r=(zf3 ts r).map Tng.vw:=by
 unfold zor zf3;split <;> simp [vwOf]
theorem cellW_of (ts:Nat→List Tng) (r:Nat) (at_:Int):cellW (vwOf ts) r at_=match zh0 ts r at_ with | .inl e=>.inl e | .inr (t,q)=>.inr (t.vw,q):=by
 unfold cellW zh0;rw [findW_of]
 cases zf3 ts r with
 | none=>rfl
 | some t=>
  simp only [Option.map_some]
  have e:t.vw.vals=t.vals:=rfl
  rw [e]
  split <;> rfl
theorem makeRW_of (ts:Nat→List Tng) (a b:Int):zlj (vwOf ts) a b=zk2 ts a b:=by
 unfold zlj zk2;rw [vwOf_len]
def HpW (h:z00) (F:Nat→Prop) (i:Nat) (W:HSt) (G:AV):Prop:=∃ ts tk,HpAt h F i ts tk G∧vwOf ts=W
theorem HpW.keeps {h h':z00} {F:Nat→Prop} {i:Nat} {W:HSt} {G:AV} {S:Nat→Prop} (p:HpW h F i W G) (k:Keeps h h' S) (hS:∀ x,F x→¬ S x):HpW h' F i W G:=by
 obtain ⟨ts,tk,p,e⟩:=p
 exact ⟨ts,tk,p.keeps k hS,e⟩
theorem HpW.lt {h:z00} {F:Nat→Prop} {i:Nat} {W:HSt} {G:AV} (p:HpW h F i W G):∀ x,F x→x<h.next:=by
 obtain ⟨ts,tk,p,e⟩:=p
 exact p.lt
def st0:HSt:=fun _=>[]
theorem ztf {h:z00} {F:Nat→Prop} {i:Nat} {W:HSt} {G:AV} (p:HpW h F i W G) (thread site cls cells:Int) :
  z01 Try.prog 46 [.ptr i 0,.int .i64 thread,.int .i64 site,.int .i64 cls,.int .i64 cells] h (fun v h2=>v=makeV W thread cells∧∃ F2,HpW h2 F2 i (zp8 W thread site cls cells) G∧Keeps h h2 F∧∀ x,F2 x→F x∨h.next≤x):=by
 obtain ⟨ts,tk,p,rfl⟩:=p
 refine (zms p thread site cls cells).mono ?_
 intro v h2 hm
 unfold makeV zp8
 rw [makeRW_of]
 cases hr:zk2 ts thread cells with
 | inl e=>
  rw [hr] at hm
  obtain ⟨rfl,rfl⟩:=hm
  exact ⟨rfl,F,⟨ts,tk,p,rfl⟩,.refl _ _,fun x hx=>Or.inl hx⟩
 | inr k=>
  rw [hr] at hm
  obtain ⟨rfl,tk2,p2,k2⟩:=hm
  refine ⟨by simp only [vwOf_len],_,⟨_,_,p2,by rw [zsp];simp [vwOf,Tng.vw]⟩,k2,fun x hx=>?_⟩
  rcases hx with hx | hx | hx
  ·exact Or.inl hx
  ·omega
  ·omega
theorem heap_Set_W {h:z00} {F:Nat→Prop} {i:Nat} {W:HSt} {G:AV} (p:HpW h F i W G) (r:Nat) (hr:r<18446744073709551616) (at_:Int) (v:Nat) :
  z01 Try.prog 40 [.ptr i 0,.int .u64 r,.int .i64 at_,.int .u64 v] h (fun w h2=>w=.int .i64 (setV W r at_)∧HpW h2 F i (setW W r at_ v) G∧Keeps h h2 F):=by
 obtain ⟨ts,tk,p,rfl⟩:=p
 refine (zp1 p r hr at_ v).mono ?_
 intro w h2 hm
 unfold setV setW
 rw [cellW_of]
 cases hc:zh0 ts r at_ with
 | inl e=>
  rw [hc] at hm
  obtain ⟨rfl,rfl⟩:=hm
  exact ⟨rfl,⟨ts,tk,p,rfl⟩,.refl _ _⟩
 | inr tq=>
  obtain ⟨t,q⟩:=tq
  rw [hc] at hm
  obtain ⟨rfl,p2,k2⟩:=hm
  refine ⟨rfl,⟨_,_,p2,?_⟩,k2⟩
  unfold setT
  rw [zsp,List.map_set]
  rfl
theorem heap_Get_W {h:z00} {F:Nat→Prop} {i:Nat} {W:HSt} {G:AV} (p:HpW h F i W G) (r:Nat) (hr:r<18446744073709551616) (at_:Int) :
  z01 Try.prog 43 [.ptr i 0,.int .u64 r,.int .i64 at_] h (fun w h2=>w=getV W r at_∧h2=h):=by
 obtain ⟨ts,tk,p,rfl⟩:=p
 refine (zp0 p r hr at_).mono ?_
 rintro w h2 ⟨rfl,hm⟩
 unfold getV
 rw [cellW_of]
 cases hc:zh0 ts r at_ with
 | inl e=>rw [hc] at hm;exact ⟨hm,rfl⟩
 | inr tq=>obtain ⟨t,q⟩:=tq;rw [hc] at hm;exact ⟨hm,rfl⟩
theorem zth {h:z00} {F:Nat→Prop} {i:Nat} {W:HSt} {G:AV} (p:HpW h F i W G) (r:Nat) (hr:r<18446744073709551616) :
  z01 Try.prog 44 [.ptr i 0,.int .u64 r] h (fun w h2=>w=sizeV W r∧h2=h):=by
 obtain ⟨ts,tk,p,rfl⟩:=p
 refine (zmt p r hr).mono ?_
 rintro w h2 ⟨rfl,rfl⟩
 refine ⟨?_,rfl⟩
 unfold sizeV;rw [findW_of]
 cases zf3 ts r <;> rfl
theorem chunk_one (l:List AV):∀ n,n=l.length→chunk 1 n l=l.map fun x=>[x]:=by
 induction l with
 | nil=>intro n hn;subst hn;rfl
 | cons a l ih=>intro n hn;subst hn;simp [chunk,ih _ rfl]
end Go.Proofs.Ytjlogcfggfmacaa
end

section
set_option maxRecDepth 8000
namespace Go.Proofs.Ytjlogcfggfmacaa
open Go.Abs
structure Rf where
 ref:Nat
 t:Vw
def lk (M:List Rf) (r:Nat):Option Vw:=(M.find? fun t=>t.ref == r).map Rf.t
end Go.Proofs.Ytjlogcfggfmacaa
end

section
set_option maxRecDepth 8000
namespace Go.Proofs.Ytjlogcfggfmacaa
open Go.Abs
end Go.Proofs.Ytjlogcfggfmacaa
end

section
set_option maxRecDepth 8000
namespace Go.Proofs.Ytjlogcfggfmacaa
open Go.Abs
end Go.Proofs.Ytjlogcfggfmacaa
end

section
set_option maxRecDepth 8000
namespace Go.Proofs.Ytjlogcfggfmacaa
open Go.Abs
end Go.Proofs.Ytjlogcfggfmacaa
end

section
set_option maxRecDepth 8000
namespace Go.Proofs.Ytjlogcfggfmacaa
open Go.Abs
theorem zr8 (n:Nat) (hn:n≤8) (x:Int) (hx:max x 0=n∨(8<x∧n=8)) (h:z00):z01 Try.prog 7 [.int .i64 x] h (fun v h2=>v=.ptr (h.next+1) 0∧HpW h2 (fun y=>y=h.next+1) (h.next+1) st0 (.sl h.next 0 n 1)∧h2.objs h.next=some (.row 56 (z1b (List.replicate n 0)))∧h2.next=h.next+2∧Keeps h h2 (fun _=>False)):=by
 apply ztg
 have e1:maxA [.int .i64 x,.int .i64 0]=some (.int .i64 (max x 0)):=by
  simp only [maxA];split <;> congr 2 <;> omega
 have e2:minA [.int .i64 (max x 0),.int .i64 8]=some (.int .i64 n):=by
  simp only [minA];split <;> congr 2 <;> omega
 have e3:repC n [.int .u64 0]=z1b (List.replicate n 0):=by simp [repC,z1b]
 (repeat simp -dsimp -implicitDefEqProofs only [↓rP,rB,↓reduceIte,reduceEqDiff,reduceAdd,reduceLeDiff,e1,e2,z9h,Int.toNat_natCast,e3])
 refine ⟨by omega,by omega,by omega,by omega,?_⟩
 simp [z5e,zdh,AV.cells,AV.fits,Go.Abs.later,e3]
 refine ⟨⟨fun _=>[],fun _=>0,⟨rfl,fun x hx=>by simp [hx],by simp [z2k],fun k _ hne=>absurd rfl hne,fun k l _ _ _ hne=>absurd rfl hne,fun k _ t ht=>by simp at ht,fun k _=>by simp,fun k l a b t u _ _ ha=>by simp at ha⟩,rfl⟩,?_⟩
 exact (Keeps.push h _).trans (Keeps.push _ _) (fun _ _ h=>h)
theorem HpW.glob {h:z00} {F:Nat→Prop} {i:Nat} {W:HSt} {G:AV} (p:HpW h F i W G) (K:AV→Prop):z0r none (.ptr i 0) h K=K G:=by
 obtain ⟨ts,tk,p,-⟩:=p
 rw [z06 p.row,pCells_none];rfl
def globV (gs:List Nat) (n:Int):AV:=if n<0∨(gs.length:Int)≤n then .tup [.int .u64 0,.int .i64 3] else .tup [.int .u64 ((gs.getD n.toNat 0:Nat):Int),.int .i64 0]
theorem zjz {h:z00} {F:Nat→Prop} {i g:Nat} {W:HSt} {gs:List Nat} (p:HpW h F i W (.sl g 0 gs.length 1)) (hg:h.objs g=some (.row 56 (z1b gs))) (n:Int) :
  z01 Try.prog 42 [.ptr i 0,.int .i64 n] h (fun v h2=>v=globV gs n∧h2=h):=by
 apply zgd
 unfold globV
 by_cases c1:n<0
 ·have d1:decide (n<0)=true:=decide_eq_true c1
  rw [if_pos (Or.inl c1)]
  (repeat simp -dsimp -implicitDefEqProofs only [↓rP,rB,↓reduceIte,reduceEqDiff,reduceAdd,reduceLeDiff,d1])
  try exact ⟨rfl,rfl⟩
 have d1:decide (n<0)=false:=decide_eq_false c1
 by_cases c2:(gs.length:Int)≤n
 ·have d2:decide ((gs.length:Int)≤n)=true:=decide_eq_true c2
  rw [if_pos (Or.inr c2)]
  (repeat simp -dsimp -implicitDefEqProofs only [↓rP,rB,↓reduceIte,reduceEqDiff,reduceAdd,reduceLeDiff,d1,d2,p.glob])
  try exact ⟨rfl,rfl⟩
 have d2:decide ((gs.length:Int)≤n)=false:=decide_eq_false c2
 rw [if_neg (by omega)]
 obtain ⟨q,rfl⟩:∃ k:Nat,n=k:=⟨n.toNat,by omega⟩
 have hix:∀ K,z0f (.slice 1) (.sl g 0 gs.length 1) (.int .i64 (q:Int)) K=K (.ptr g q):=fun K=>by simp [z0f];omega
 have hld:∀ K,z0r none (.ptr g q) h K=K (.int .u64 ((gs.getD q 0:Nat):Int)):=fun K=>by rw [z06 hg,pCells_none,valCells_get _ _ (by omega)]
 (repeat simp -dsimp -implicitDefEqProofs only [↓rP,rB,↓reduceIte,reduceEqDiff,reduceAdd,reduceLeDiff,d1,d2,p.glob,hix,hld,Int.toNat_natCast])
 try exact ⟨rfl,rfl⟩
theorem zge {h:z00} {F:Nat→Prop} {i g:Nat} {W:HSt} {gs:List Nat} (p:HpW h F i W (.sl g 0 gs.length 1)) (hg:h.objs g=some (.row 56 (z1b gs))) (n:Int) (v:Nat) :
  z01 Try.prog 39 [.ptr i 0,.int .i64 n,.int .u64 (v:Int)] h (fun w h2=>if n<0∨(gs.length:Int)≤n then w=.int .i64 3∧h2=h else w=.int .i64 0∧h2=h.put g (.row 56 (z1b (gs.set n.toNat v)))):=by
 apply zd0
 by_cases c1:n<0
 ·have d1:decide (n<0)=true:=decide_eq_true c1
  (repeat simp -dsimp -implicitDefEqProofs only [↓rP,rB,↓reduceIte,reduceEqDiff,reduceAdd,reduceLeDiff,d1])
  first | trivial | (rw [if_pos (Or.inl c1)];first | exact ⟨rfl,rfl⟩ | trivial)
 have d1:decide (n<0)=false:=decide_eq_false c1
 by_cases c2:(gs.length:Int)≤n
 ·have d2:decide ((gs.length:Int)≤n)=true:=decide_eq_true c2
  (repeat simp -dsimp -implicitDefEqProofs only [↓rP,rB,↓reduceIte,reduceEqDiff,reduceAdd,reduceLeDiff,d1,d2,p.glob])
  first | trivial | (rw [if_pos (Or.inr c2)];first | exact ⟨rfl,rfl⟩ | trivial)
 have d2:decide ((gs.length:Int)≤n)=false:=decide_eq_false c2
 obtain ⟨q,rfl⟩:∃ k:Nat,n=k:=⟨n.toNat,by omega⟩
 have hix:∀ K,z0f (.slice 1) (.sl g 0 gs.length 1) (.int .i64 (q:Int)) K=K (.ptr g q):=fun K=>by simp [z0f];omega
 (repeat simp -dsimp -implicitDefEqProofs only [↓rP,rB,↓reduceIte,reduceEqDiff,reduceAdd,reduceLeDiff,d1,d2,p.glob,hix])
 rw [z1t hg rfl (by simp;omega),zep]
 (repeat simp -dsimp -implicitDefEqProofs only [↓rP,rB,↓reduceIte,reduceEqDiff,reduceAdd,reduceLeDiff])
 rw [if_neg (by omega)]
 first | exact ⟨rfl,rfl⟩ | rfl
end Go.Proofs.Ytjlogcfggfmacaa
end

section
set_option maxRecDepth 8000
set_option maxHeartbeats 1000000
namespace Go.Proofs.Ytjlogcfggfmacaa
open Go.Abs
abbrev Vl:=z0n
def vUnk:Vl:=⟨0,⟨false,0,none⟩⟩
def vFresh:Vl:=⟨1,⟨false,0,none⟩⟩
def vWay (g:Bool) (n:Int):Vl:=⟨2,⟨g,n,none⟩⟩
def dstI (x:In):Int:=if x.Op=1∨x.Op=2∨x.Op=3∨x.Op=4∨x.Op=8∨x.Op=9∨x.Op=10 then x.Dst else -1
def zog (L:List In) (n:Int):Bool:=L.any fun x=>decide (x.Op=5)&&decide (x.N=n)
def zof (L:List In) (r n:Int):Bool:=L.any fun x=>decide (x.Op=6)&&decide (x.Rec=r)&&decide (x.N=n)
def byS (L:List In) (k:Int):List In:=L.filter fun x=>decide (dstI x=k)
def longV (v:Vl) (n:Int):Vl:=⟨2,⟨v.Path.Global,v.Path.N,some (slL v.Path.Fields++[n])⟩⟩
def zp4 (K:Int→Vl) (l:List z09):Vl:=match l with | [y]=>if y.Op=2 then K y.N else vUnk | _=>vUnk
def zfu (L:List In) (K:Int→Vl) (x:In):Vl:=
 if x.Op=8∨x.Op=9 then vFresh
 else if x.Op=1 then zp4 K (slL x.Items)
 else if x.Op=2 then (if zog L x.N then vUnk else vWay true x.N)
 else if x.Op=3 then (if (K x.Src).Kind=2∧(slL (K x.Src).Path.Fields).length≤2∧zof L x.Rec x.N=false then longV (K x.Src) x.N else vUnk)
 else vUnk
def zka (L:List In) (on:Int→Bool) (G:In→Vl) (k:Int):Vl:=match byS L k with | []=>vWay false k | [x]=>if on k then G x else vUnk | _=>vUnk
def ofV (L:List In) (on:Int→Bool):Nat→Int→Vl
 | 0=>zka L on fun _=>vUnk
 | f+1=>zka L on fun x=>zfu L (ofV L on f) x
end Go.Proofs.Ytjlogcfggfmacaa
end

section
set_option maxRecDepth 8000
set_option maxHeartbeats 1000000
namespace Go.Proofs.Ytjlogcfggfmacaa
open Go.Abs
theorem rz_nils {H:z00} {D:Nat→Prop} (k:Nat):RzV H D .nils (.isl k []):=fun c c' w F v hv=>by
 simp only [VRel] at hv ⊢
 exact ⟨none,0,by simpa using hv,by simp,by simp,fun h=>absurd rfl h⟩
theorem rz_eml {H:z00} {D:Nat→Prop} (k:Nat):RzV H D .eml (.isl k []):=fun c c' w F v hv=>by
 simp only [VRel] at hv ⊢
 obtain ⟨a,rfl⟩:=hv
 exact ⟨some a,0,by simp,by simp,by simp,fun h=>absurd rfl h⟩
def zkr (l:List Int) (h:z00) (v:AV) (h2:z00):Prop:=
 (l=[]∧(v=.nils∨v=.eml)∧h2=h)∨(l≠[]∧v=.gsl h.next 1 (l.map encI)∧h2=h.push (.tok 3 l.length))
theorem zqq (l:List Int) (hb:l.length≤1000) (h:z00) (K:AV→z00→Prop) (hK:∀ v h2,zkr l h v h2→K v h2):z11 true { e:=3,sz:=1,by_:=8 } .eml (.isl 1 (l.map encI)) h K:=by
 cases l with
 | nil=>exact hK _ _ (Or.inl ⟨rfl,Or.inr rfl,rfl⟩)
 | cons x l=>
  have:=hK _ _ (Or.inr ⟨by simp,rfl,rfl⟩)
  simp only [z11,z13,List.map_cons,if_true,zd2,List.length_cons,List.length_map,Nat.mul_one] at this ⊢
  exact ⟨by simp only [List.length_cons] at hb;simp [bounded,maxLen];omega,this⟩
theorem Clone_raw (o:Option (List Int)) (hb:(slL o).length≤1000) (h:z00):z01 Try.prog 20 [slAV 1 encI o] h (fun v h2=>zkr (slL o) h v h2):=by
 apply zcm
 have b0:∀ (G:z00) (K:AV→z00→Prop),z0m false { e:=3,sz:=1,by_:=8 } [AV.int .i64 0] 0 [] G K=K .eml G:=fun G K=>rfl
 cases o with
 | none=>
  have e:binA CmpK.slice .eql (slAV 1 encI none) .nils=some (.bool true):=rfl
  (repeat simp -dsimp -implicitDefEqProofs (disch:=omega) only [↓rP,rA,↓reduceIte,reduceEqDiff,reduceAdd,reduceLeDiff,↓tyr,e])
  exact Or.inl ⟨rfl,Or.inl rfl,rfl⟩
 | some l=>
  have ca:∀ (G:z00) (K:AV→z00→Prop),(∀ v h2,zkr l G v h2→K v h2)→z11 true { e:=3,sz:=1,by_:=8 } .eml (slAV 1 encI (some l)) G K:=fun G K hK=>zqq l (by simpa using hb) G K hK
  cases l with
  | nil=>
   have e:binA CmpK.slice .eql (slAV 1 encI (some [])) .nils=some .unkb:=rfl
   (repeat simp -dsimp -implicitDefEqProofs (disch:=omega) only [↓rP,rA,↓reduceIte,reduceEqDiff,reduceAdd,reduceLeDiff,↓tyr,e])
   refine ⟨Or.inl ⟨rfl,Or.inl rfl,rfl⟩,?_⟩
   (repeat simp -dsimp -implicitDefEqProofs (disch:=omega) only [↓rP,rA,↓reduceIte,reduceEqDiff,reduceAdd,reduceLeDiff,↓tyr,↓b0])
   refine ca _ _ fun v h2 hq=>?_
   (repeat simp -dsimp -implicitDefEqProofs (disch:=omega) only [↓rP,rA,↓reduceIte,reduceEqDiff,reduceAdd,reduceLeDiff,↓tyr])
   exact hq
  | cons x l=>
   have e:binA CmpK.slice .eql (slAV 1 encI (some (x::l))) .nils=some (.bool false):=rfl
   (repeat simp -dsimp -implicitDefEqProofs (disch:=omega) only [↓rP,rA,↓reduceIte,reduceEqDiff,reduceAdd,reduceLeDiff,↓tyr,e,↓b0])
   refine ca _ _ fun v h2 hq=>?_
   (repeat simp -dsimp -implicitDefEqProofs (disch:=omega) only [↓rP,rA,↓reduceIte,reduceEqDiff,reduceAdd,reduceLeDiff,↓tyr])
   exact hq
theorem app_one {l:List Int} {h h2:z00} {v:AV} (hq:zkr l h v h2) (hl:l.length≤100) (n:Int) (K:AV→z00→Prop) (hK:∀ id h3,Keeps h h3 (fun _=>False)→K (.gsl id 1 ((l++[n]).map encI)) h3):z11 true { e:=3,sz:=1,by_:=8 } v (.isl 1 [[.int .i64 n]]) h2 K:=by
 rcases hq with ⟨rfl,rfl | rfl,rfl⟩ | ⟨hne,rfl,rfl⟩
 ·have:=hK h2.next (h2.push (.tok 3 1)) (Keeps.one _ _)
  simp only [z11,z13,if_true,zd2]
  exact ⟨by simp [bounded,maxLen],this⟩
 ·have:=hK h2.next (h2.push (.tok 3 1)) (Keeps.one _ _)
  simp only [z11,z13,if_true,zd2]
  exact ⟨by simp [bounded,maxLen],this⟩
 ·have:=hK (h.next+1) (((h.push (.tok 3 l.length)).kill h.next).push (.tok 3 (l++[n]).length)) (((Keeps.one _ _).zca (Nat.le_refl _)).zgp _)
  simp only [z11,z13,if_true,z0v,List.length_map,Nat.mul_one,List.length_cons,List.length_nil,true_and]
  refine ⟨by simp [bounded,maxLen];omega,?_⟩
  simpa [encI] using this
theorem zex (D:Nat→Prop) (o:Option (List Int)):z1u D (slAV 1 encI o):=by
 cases o with
 | none=>exact trivial
 | some l=>
  show za0 D (l.map encI)
  induction l with
  | nil=>exact trivial
  | cons a l ih=>exact ⟨⟨trivial,trivial⟩,ih⟩
end Go.Proofs.Ytjlogcfggfmacaa
end

section
set_option maxRecDepth 8000
set_option maxHeartbeats 1000000
namespace Go.Proofs.Ytjlogcfggfmacaa
open Go.Abs
def wrC (W:Int→Nat):Nat→List AV:=fun k=>[.int .i64 (W (k:Nat):Nat)]
section
end
theorem vl_ids (D:Nat→Prop) (v:Vl):z1u D (.agg v.cells):=⟨trivial,trivial,trivial,zex _ _,trivial⟩
theorem vbtw_nat {n:Int} {m:Nat} (h:btw n m=true):∃ k:Nat,n=k∧k<m:=by
 simp only [btw,Bool.and_eq_true,decide_eq_true_eq] at h
 exact ⟨n.toNat,by omega,by omega⟩
section
variable {h:z00} {rid w g f kn:Nat} {b:Bd} {L:List In} {W:Int→Nat} {kG:List Int} {fG:Int→Nat} {kF:List (Int×Int)} {fF:Int×Int→Nat} {K:Int→Vl}
end
end Go.Proofs.Ytjlogcfggfmacaa
end

section
set_option maxRecDepth 8000
set_option maxHeartbeats 1000000
namespace Go.Proofs.Ytjlogcfggfmacaa
open Go.Abs
def onB (b:Bd) (k:Int):Bool:=match getI (slL b.Slots) k with | some l=>l.Once | none=>false
theorem on_at {b:Bd} {k:Nat} {l:Lo} (hl:(slL b.Slots)[k]?=some l):onB b (k:Nat)=l.Once:=by unfold onB;rw [z1s,hl]
def wrW (L:List In) (k:Int):Nat:=(byS L k).length
def FL (K:Int→Vl):Prop:=∀ k,(slL (K k).Path.Fields).length≤3
theorem FL.gives {L:List In} {K:Int→Vl} (h:FL K) (x:In):(slL (zfu L K x).Path.Fields).length≤3:=by
 unfold zfu
 split
 ·simp [vFresh]
 ·split
  ·unfold zp4
   split
   ·split
    ·exact h _
    ·simp [vUnk]
   ·simp [vUnk]
  ·split
   ·split <;> simp [vUnk,vWay]
   ·split
    ·split
     ·rename_i hc
      simp only [longV,slL_some,List.length_append,List.length_cons,List.length_nil]
      omega
     ·simp [vUnk]
    ·simp [vUnk]
section
variable {h:z00} {rid w g f kn:Nat} {b:Bd} {L:List In} {W:Int→Nat} {kG:List Int} {fG:Int→Nat} {kF:List (Int×Int)} {fF:Int×Int→Nat} {K:Int→Vl}
theorem wkP (k:Nat) (hk:k≤1000000):IntKind.i64.wrap ((k:Int)+1)=((k+1:Nat):Int):=by rw [z6o (by omega) (by omega)];omega
end
end Go.Proofs.Ytjlogcfggfmacaa
end

section
set_option maxRecDepth 8000
set_option maxHeartbeats 1000000
namespace Go.Proofs.Ytjlogcfggfmacaa
open Go.Abs
theorem byS_snoc (L:List In) (x:In) (k:Int):byS (L++[x]) k=byS L k++if dstI x=k then [x] else []:=by
 unfold byS
 rw [List.filter_append]
 congr 1
 by_cases e:dstI x=k <;> simp [e]
theorem wrW_le (L:List In) (k:Int):wrW L k≤L.length:=List.length_filter_le _ _
section
variable {h:z00} {rid w g f kn:Nat} {b:Bd} {L:List In} {W:Int→Nat} {kG:List Int} {fG:Int→Nat} {kF:List (Int×Int)} {fF:Int×Int→Nat} {K:Int→Vl}
end
end Go.Proofs.Ytjlogcfggfmacaa
end

section
set_option maxRecDepth 8000
set_option maxHeartbeats 1000000
namespace Go.Proofs.Ytjlogcfggfmacaa
open Go.Abs
structure zok (c:Cd) (sec:z0b) (t:Nat) (b:Bd) (fr to:Nat):Prop where
 thr:sec.Thread=t
 bd:(slL c.Threads)[t]?=some b
 frm:sec.From=fr
 to_:sec.To=to
 lt:fr<to
 le:to<(slL b.Code).length
theorem sec_of {c:Cd} (h:okC c=true) {s:Nat} {sec:z0b} (hs:(slL c.Sections)[s]?=some sec):∃ t b fr to,zok c sec t b fr to:=by
 obtain ⟨-,-,-,h4,-,-,-⟩:=zbg h
 simp only [zej,Bool.and_eq_true,decide_eq_true_eq] at h4
 have h5:=z1p.1 h4.2 s sec hs
 simp only [secB,zin,z8o,Bool.and_eq_true,decide_eq_true_eq] at h5
 obtain ⟨⟨⟨⟨h0,hlt⟩,-⟩,hto⟩,-⟩:=h5
 cases hb:getI (slL c.Threads) sec.Thread with
 | none=>rw [hb] at hto;simp at hto
 | some b=>
  rw [hb] at hto
  simp only at hto
  cases hx:getI (slL b.Code) sec.To with
  | none=>rw [hx] at hto;simp at hto
  | some x=>
   obtain ⟨t,et,hb2⟩:=zhc hb
   have h6:=zoz hx
   exact ⟨t,b,sec.From.toNat,sec.To.toNat,et,hb2,by omega,by omega,by omega,by omega⟩
def secL (b:Bd) (fr to:Nat):List In:=((slL b.Code).take (to+1)).drop fr
theorem secL_mem {b:Bd} {fr to:Nat} {x:In} (h:x∈secL b fr to):∃ a:Nat,(slL b.Code)[a]?=some x:=List.getElem?_of_mem (List.mem_of_mem_take (List.mem_of_mem_drop h))
theorem zpp (b:Bd) (fr to:Nat):(secL b fr to).length≤(slL b.Code).length:=by
 unfold secL;rw [List.length_drop,List.length_take];omega
theorem sec_wf {c:Cd} (wc:WfC c) {sec:z0b} {t fr to:Nat} {b:Bd} (S:zok c sec t b fr to):∀ x∈secL b fr to,Wf c b x:=fun x hx=>by
 obtain ⟨a,ha⟩:=secL_mem hx
 exact wc.ins t a b x S.bd ha
def oW (n:Nat):AObj:=.row 3 (rowN (wrC fun _=>0) n)
theorem sl_slAV (l:List In) (fr to:Nat):slAV 8 z07.cells (some ((l.take to).drop fr))=.isl 8 (((l.map z07.cells).take to).drop fr):=by simp [slAV,List.map_take,List.map_drop]
end Go.Proofs.Ytjlogcfggfmacaa
end

section
set_option maxRecDepth 8000
set_option maxHeartbeats 1000000
namespace Go.Proofs.Ytjlogcfggfmacaa
open Go.Abs
theorem ids_vls (D:Nat→Prop) (o:Option (List Vl)):z1u D (slAV 4 z0n.cells o):=by
 cases o with
 | none=>exact trivial
 | some l=>
  show za0 D (l.map z0n.cells)
  induction l with
  | nil=>exact trivial
  | cons a l ih=>exact ⟨⟨trivial,trivial,trivial,zex _ _,trivial⟩,ih⟩
def zn5 (b:Bd) (L:List In):List Vl:=(List.range (slL b.Slots).length).map fun k=>ofV L (onB b) (slL b.Slots).length (k:Nat)
noncomputable def zk7 (c:Cd) (s:Int):Option (List Vl):=if okC c=true then (match getI (slL c.Sections) s with | some sec=>(match getI (slL c.Threads) sec.Thread with | some b=>some (zn5 b (secL b sec.From.toNat sec.To.toNat)) | none=>none) | none=>none) else none
theorem zo6 {c:Cd} (h:okC c=true) {s:Nat} {sec:z0b} (hs:(slL c.Sections)[s]?=some sec) {t fr to:Nat} {b:Bd} (S:zok c sec t b fr to):zk7 c (s:Nat)=some (zn5 b (secL b fr to)):=by
 unfold zk7
 rw [if_pos h,z1s,hs]
 simp only
 rw [S.thr,z1s,S.bd,S.frm,S.to_]
 rfl
section
variable {h:z00} {rid w g f kn:Nat} {b:Bd} {L:List In} {W:Int→Nat} {kG:List Int} {fG:Int→Nat} {kF:List (Int×Int)} {fF:Int×Int→Nat} {K:Int→Vl}
end
end Go.Proofs.Ytjlogcfggfmacaa
end

section
set_option maxRecDepth 8000
set_option maxHeartbeats 1000000
namespace Go.Proofs.Ytjlogcfggfmacaa
open Go.Abs
def sameP (p q:z0e):Bool:=(p.Global == q.Global)&&(decide (p.N=q.N)&&decide (slL p.Fields=slL q.Fields))
theorem z8k (n:Int) (h:z00) (J:AV→Prop):z0r none (.iptr (encI n)) h J=J (.int .i64 n):=by rw [z0w];rfl
theorem zkq {α:Type} {l m:List α} {j:Nat} (hl:l.length=m.length) (ht:l.take j=m.take j) (hj:j=l.length):l=m:=by
 subst hj
 rw [List.take_length,hl,List.take_length] at ht
 exact ht
theorem zi8 {α:Type} {l m:List α} {j:Nat} {x:α} (ht:l.take j=m.take j) (h1:l[j]?=some x) (h2:m[j]?=some x):l.take (j+1)=m.take (j+1):=by
 rw [List.take_add_one,List.take_add_one,ht,h1,h2]
theorem samePath_4 (p q:z0e) (hl:(slL p.Fields).length=(slL q.Fields).length) (hb:(slL p.Fields).length≤1000) (h:z00) (Q:z1k→Fr→z00→Prop)
  (h1:slL p.Fields=slL q.Fields→Q (.exit 0) (frOf []) h) (h2:slL p.Fields≠slL q.Fields→Q .ret (frOf [(4,.bool false)]) h) :
  WP Try.prog 45 (.loop z3i) (frOf [(2,.iptr p.cells),(3,.iptr q.cells),(29,.int .i64 (slL p.Fields).length),(30,.int .i64 0)]) h Q:=by
 obtain ⟨I,hI⟩:∃ I:Nat→Fr→z00→Prop,I=(fun m fr hh=>∃ j:Nat,m=(slL p.Fields).length-j∧j≤(slL p.Fields).length∧(slL p.Fields).take j=(slL q.Fields).take j∧hh=h∧fr=frOf [(2,.iptr p.cells),(3,.iptr q.cells),(29,.int .i64 (slL p.Fields).length),(30,.int .i64 j)]):=⟨_,rfl⟩
 refine z0x z08 (by kernel_rfl) I (slL p.Fields).length (by rw [hI];exact ⟨0,rfl,Nat.zero_le _,by simp,rfl,rfl⟩) ?_
 intro m fr hh hi
 rw [hI] at hi
 obtain ⟨j,rfl,hj,ht,rfl,rfl⟩:=hi
 apply z9k
 (repeat simp -dsimp -implicitDefEqProofs (disch:=omega) only [↓rP,rA,↓reduceIte,reduceEqDiff,reduceAdd,reduceLeDiff,↓tyr])
 refine z0c (fun hjl=>?_) (fun hjl=>?_)
 ·obtain ⟨x,hx⟩:∃ x,(slL p.Fields)[j]?=some x:=⟨_,List.getElem?_eq_getElem (by omega)⟩
  obtain ⟨y,hy⟩:∃ y,(slL q.Fields)[j]?=some y:=⟨_,List.getElem?_eq_getElem (by omega)⟩
  (repeat simp -dsimp -implicitDefEqProofs (disch:=omega) only [↓rP,rA,↓reduceIte,reduceEqDiff,reduceAdd,reduceLeDiff,↓tyr,z02 hx,z02 hy,↓z8k])
  refine z16 (fun he=>?_) (fun he=>?_)
  ·(repeat simp -dsimp -implicitDefEqProofs (disch:=omega) only [↓rP,rA,↓reduceIte,reduceEqDiff,reduceAdd,reduceLeDiff,↓tyr])
   exact h2 (fun e=>he (by rw [e,hy] at hx;exact Option.some.inj hx.symm))
  ·have he:x=y:=by omega
   subst he
   (repeat simp -dsimp -implicitDefEqProofs (disch:=omega) only [↓rP,rA,↓reduceIte,reduceEqDiff,reduceAdd,reduceLeDiff,↓tyr,wkP j (by omega)])
   rw [z04,hI]
   exact ⟨_,by omega,j+1,rfl,by omega,zi8 ht hx hy,rfl,rfl⟩
 ·(repeat simp -dsimp -implicitDefEqProofs (disch:=omega) only [↓rP,rA,↓reduceIte,reduceEqDiff,reduceAdd,reduceLeDiff,↓tyr])
  exact h1 (zkq hl ht (by omega))
theorem zgs (p q:z0e) (hb:(slL p.Fields).length≤1000) (h:z00):z01 Try.prog 73 [.agg p.cells,.agg q.cells] h (fun v h2=>v=.bool (sameP p q)∧h2=h):=by
 apply zbv
 have eb:∀ a b:Bool,binA CmpK.bool .neq (.bool a) (.bool b)=some (.bool (!(a == b))):=fun a b=>rfl
 (repeat simp -dsimp -implicitDefEqProofs (disch:=omega) only [↓rP,rA,↓reduceIte,reduceEqDiff,reduceAdd,reduceLeDiff,↓tyr,eb])
 unfold sameP
 cases hg:(p.Global == q.Global) with
 | false=>(repeat simp -dsimp -implicitDefEqProofs (disch:=omega) only [↓rP,rA,↓reduceIte,reduceEqDiff,reduceAdd,reduceLeDiff,↓tyr])
 | true=>
  by_cases hn:p.N=q.N
  ·have en:(p.N != q.N)=false:=by simpa using hn
   (repeat simp -dsimp -implicitDefEqProofs (disch:=omega) only [↓rP,rA,↓reduceIte,reduceEqDiff,reduceAdd,reduceLeDiff,↓tyr,en])
   by_cases hl:(slL p.Fields).length=(slL q.Fields).length
   ·have el:(((slL p.Fields).length:Int) != ((slL q.Fields).length:Int))=false:=by simp;omega
    (repeat simp -dsimp -implicitDefEqProofs (disch:=omega) only [↓rP,rA,↓reduceIte,reduceEqDiff,reduceAdd,reduceLeDiff,↓tyr,el])
    refine samePath_4 p q hl hb h _ (fun e=>?_) (fun e=>?_)
    ·(repeat simp -dsimp -implicitDefEqProofs (disch:=omega) only [↓rP,rA,↓reduceIte,reduceEqDiff,reduceAdd,reduceLeDiff,↓tyr])
     simp [hn,e]
    ·(repeat simp -dsimp -implicitDefEqProofs (disch:=omega) only [↓rP,rA,↓reduceIte,reduceEqDiff,reduceAdd,reduceLeDiff,↓tyr])
     simp [e]
   ·have el:(((slL p.Fields).length:Int) != ((slL q.Fields).length:Int))=true:=by simp;omega
    have:slL p.Fields≠slL q.Fields:=fun e=>hl (by rw [e])
    (repeat simp -dsimp -implicitDefEqProofs (disch:=omega) only [↓rP,rA,↓reduceIte,reduceEqDiff,reduceAdd,reduceLeDiff,↓tyr,el])
    simp [this]
  ·have en:(p.N != q.N)=true:=by simpa using hn
   (repeat simp -dsimp -implicitDefEqProofs (disch:=omega) only [↓rP,rA,↓reduceIte,reduceEqDiff,reduceAdd,reduceLeDiff,↓tyr,en])
   simp [hn]
end Go.Proofs.Ytjlogcfggfmacaa
end

section
set_option maxRecDepth 8000
set_option maxHeartbeats 1000000
namespace Go.Proofs.Ytjlogcfggfmacaa
open Go.Abs
abbrev Cm:=z05
def noP:z0e:=⟨false,0,none⟩
def zfs (n:Nat):List Nat→Nat
 | []=>32
 | k::l=>if n.testBit k then k else zfs n l
def zfo (n:Nat):Nat:=zfs n (List.range 32)
def zrl (x:In):Int:=if x.Op=5∨x.Op=6∨x.Op=7 then 4 else 3
def zcy (cl m:Int):Cm:=⟨4,noP,0,false,0,noP,cl,m⟩
def zqs (K:Nat→Vl) (p:z0e) (cl m:Int) (ix:List It):Cm:=
 match ix with
 | [y]=>if y.Op=1 then ⟨3,p,0,true,sgN y.N,noP,cl,m⟩ else if y.Op=2∧(K y.N).Kind=2 then ⟨3,p,0,false,0,(K y.N).Path,cl,m⟩ else zcy cl m
 | _=>zcy cl m
def cellC (cls:List Int) (K:Nat→Vl) (x:In) (s:Nat):Cm:=
 if (K x.Src.toNat).Kind≠2 then zcy (cls.getD s 0) (zrl x)
 else if x.Op=3∨x.Op=6 then ⟨2,(K x.Src.toNat).Path,x.N,false,0,noP,cls.getD s 0,zrl x⟩
 else zqs K (K x.Src.toNat).Path (cls.getD s 0) (zrl x) (slL x.Index)
def zpt (σ:Nat→Nat) (cls:List Int) (K:Nat→Vl) (x:In):Option Cm:=
 if x.Op=2∨x.Op=5 then some ⟨1,noP,x.N,false,0,noP,0,zrl x⟩
 else if x.Op=3∨x.Op=6∨x.Op=4∨x.Op=7 then
  (if (K x.Src.toNat).Kind=1∨zfo (σ x.Src.toNat)=32 then none else some (cellC cls K x (zfo (σ x.Src.toNat))))
 else none
def zib (σ:Nat→Nat) (cls:List Int) (K:Nat→Vl) (L:List In):List Cm:=L.filterMap (zpt σ cls K)
def tgB (a b:Cm):Bool:=decide (a.Op=b.Op)&&(decide (a.N=b.N)&&((a.Const == b.Const)&&(decide (a.At=b.At)&&(decide (a.Class=b.Class)&&(sameP a.Path b.Path&&sameP a.Index b.Index)))))
def cov1 (w c:Cm):Bool:=decide (w.Mode≤c.Mode)&&(decide (c.Op=5)||((decide (c.Op=4)&&(!decide (w.Op=1)&&decide (c.Class=w.Class)))||tgB c w))
def covB (l:List Cm) (w:Cm):Bool:=l.any (cov1 w)
theorem zqz {n:Nat}:∀ {l:List Nat},zfs n l=32∨(zfs n l∈l∧n.testBit (zfs n l)=true)
 | []=>Or.inl rfl
 | k::l=>by
  by_cases h:n.testBit k=true
  ·right;simp [zfs,h]
  ·have ih:=zqz (n:=n) (l:=l)
   simp only [zfs,if_neg h]
   rcases ih with ih | ih
   ·exact Or.inl ih
   ·exact Or.inr ⟨List.mem_cons_of_mem _ ih.1,ih.2⟩
theorem zsl {n:Nat} (h:zfo n≠32):n.testBit (zfo n)=true∧zfo n<32:=by
 rcases zqz (n:=n) (l:=List.range 32) with e | ⟨e1,e2⟩
 ·exact absurd e h
 ·exact ⟨e2,by have:=List.mem_range.1 e1;exact this⟩
theorem zl4 (n:Nat):∀ (m j:Nat),zfs n ((List.range' j (m+1)))=if n.testBit j then j else zfs n (List.range' (j+1) m):=fun m j=>by
 rw [List.range'_succ];rfl
theorem zod {n:Nat}:∀ (j:Nat),j≤32→(∀ k,k<j→n.testBit k=false)→zfo n=zfs n (List.range' j (32-j)):=by
 intro j
 induction j with
 | zero=>intro _ _;unfold zfo;rw [List.range_eq_range']
 | succ j ih=>
  intro hj h
  rw [ih (by omega) (fun k hk=>h k (by omega)),show 32-j=(32-(j+1))+1 by omega,zl4,h j (by omega)]
  rfl
theorem siteL_here {n j:Nat} (hj:j<32) (h:∀ k,k<j→n.testBit k=false) (hb:n.testBit j=true):zfo n=j:=by
 rw [zod j (by omega) h,show 32-j=(32-(j+1))+1 by omega,zl4,hb];rfl
theorem siteL_none {n:Nat} (h:∀ k,k<32→n.testBit k=false):zfo n=32:=by rw [zod 32 (by omega) h];rfl
structure Wx (b:Bd) (x:In):Prop where
 src:(x.Op=3∨x.Op=4∨x.Op=6∨x.Op=7∨x.Op=10)→btw x.Src (slL b.Slots).length=true
 idx:(x.Op=4∨x.Op=7)→(∀ y∈slL x.Index,y.Op=2→y.N<(slL b.Slots).length)∧(slL x.Index).length≤64
 its:(x.Op=9∨x.Op=11∨x.Op=12∨x.Op=14∨x.Op=7)→(∀ y∈slL x.Items,y.Op=2→y.N<(slL b.Slots).length)∧(slL x.Items).length≤64
 to_:(x.Op=13∨x.Op=14)→btw x.To (slL b.Code).length=true
theorem instr_wx {c:Cd} {t a:Int} {b:Bd} {x:In} (h:z0z c t b x a=true):Wx b x:=by
 have wf:=zp3 h
 refine ⟨?_,?_,?_,?_⟩
 ·rintro (e | e | e | e | e)
  ·obtain ⟨_,_,_,h2⟩:=wf.fld (Or.inl e);exact h2
  ·unfold z0z z3a at h;simp only [e] at h;simp at h;exact zfz h.2.1.2
  ·obtain ⟨_,_,_,h2⟩:=wf.fld (Or.inr e);exact h2
  ·unfold z0z z2j at h;simp only [e] at h;simp at h;exact zfz h.2.1.1.2
  ·unfold z0z z3a at h;simp only [e] at h;simp at h;exact zfz h.2
 ·rintro (e | e)
  ·unfold z0z z3a at h;simp only [e] at h;simp at h;exact z7p h.2.2
  ·unfold z0z z2j at h;simp only [e] at h;simp at h;exact z7p h.2.2
 ·rintro (e | e | e | e | e)
  ·unfold z0z z3a at h;simp only [e] at h;simp at h;exact z7p h.2.1.2
  ·unfold z0z at h;simp only [e] at h;simp at h;exact z7p h.2
  ·unfold z0z at h;simp only [e] at h;simp at h;exact z7p h.2
  ·unfold z0z at h;simp only [e] at h;simp at h;exact z7p h.2
  ·unfold z0z z2j at h;simp only [e] at h;simp at h;exact z7p h.2.1.2
 ·rintro (e | e)
  all_goals (unfold z0z zbd at h;simp only [e] at h;simp at h)
  ·exact h.2.1
  ·exact h.1.2.1
theorem wx_of {c:Cd} (h:okC c=true) {t a:Nat} {b:Bd} {x:In} (hb:(slL c.Threads)[t]?=some b) (hx:(slL b.Code)[a]?=some x):Wx b x:=by
 obtain ⟨h1,h2,h3,h4,h5,h6,h7⟩:=zbg h
 have h8:=z1p.1 h7 t b hb
 unfold zb5 zgf at h8
 simp only [Bool.and_eq_true] at h8
 exact instr_wx (z1p.1 h8.2 a x hx)
theorem sec_wx {c:Cd} (h:okC c=true) {sec:z0b} {t fr to:Nat} {b:Bd} (S:zok c sec t b fr to):∀ x∈secL b fr to,Wx b x:=fun x hx=>by
 obtain ⟨a,ha⟩:=secL_mem hx
 exact wx_of h S.bd ha
end Go.Proofs.Ytjlogcfggfmacaa
end

section

end

section
set_option maxRecDepth 100000
set_option maxHeartbeats 1000000
namespace Go.Proofs.Ytjlogcfggfmacaa
open Go.Abs
def nsAV (f:List Nat):List AV:=f.map fun (n:Nat)=>AV.int .i64 n
theorem nsAV_len (f:List Nat):(nsAV f).length=f.length:=by simp [nsAV]
theorem nsAV_set (f:List Nat) (i v:Nat):(nsAV f).set i (.int .i64 v)=nsAV (f.set i v):=by simp [nsAV,List.map_set]
theorem nsAV_get (f:List Nat) (i:Nat):(nsAV f)[i]?=f[i]?.map fun (n:Nat)=>AV.int .i64 n:=by simp [nsAV]
end Go.Proofs.Ytjlogcfggfmacaa
end

section
set_option maxRecDepth 8000
set_option maxHeartbeats 1000000
namespace Go.Proofs.Ytjlogcfggfmacaa
open Go.Abs
def rowC (f:Nat→Nat) (n:Nat):List AV:=(List.range n).map fun k=>.int .u64 (f k:Nat)
theorem zi1 (f:Nat→Nat) (n:Nat):(rowC f n).length=n:=by simp [rowC]
theorem rowC_at {f:Nat→Nat} {n k:Nat} (h:k<n):(rowC f n)[k]?=some (.int .u64 (f k:Nat)):=by simp [rowC,h]
theorem rowC_set {f:Nat→Nat} {n k:Nat} (v:Nat):(rowC f n).set k (.int .u64 (v:Nat))=rowC (fun j=>if j=k then v else f j) n:=by
 apply List.ext_getElem?
 intro i
 by_cases hi:i<n
 ·rw [List.getElem?_set,rowC_at hi,rowC_at hi,zi1]
  by_cases e:k=i
  ·subst e;simp [hi]
  ·rw [if_neg e,if_neg (fun h=>e h.symm)]
 ·rw [List.getElem?_eq_none (by rw [List.length_set,zi1];omega),List.getElem?_eq_none (by rw [zi1];omega)]
def RowAt (h:z00) (av:AV) (n:Nat) (f:Nat→Nat):Prop:=(av=.nils∧n=0)∨∃ id,av=.sl id 0 n 1∧id<h.next∧h.objs id=some (.row 56 (rowC f n))
theorem RowAt.len {h:z00} {av:AV} {n:Nat} {f:Nat→Nat} (r:RowAt h av n f) (K:AV→Prop):pLen .slice av K=K (.int .i64 n):=by
 rcases r with ⟨rfl,rfl⟩ | ⟨id,rfl,_,_⟩
 ·rfl
 ·rfl
structure z3j (h:z00) (c:Cd) (σ:Sg) (A:Rw→AV):Prop where
 row:∀ r,RowAt h (A r) (lenR c r) (σ r)
 one:∀ r r' id,A r=.sl id 0 (lenR c r) 1→A r'=.sl id 0 (lenR c r') 1→r=r'
theorem z3j.ix {h:z00} {c:Cd} {σ:Sg} {A:Rw→AV} (s:z3j h c σ A) {r:Rw} {n:Nat} (hn:n<lenR c r):∃ id,A r=.sl id 0 (lenR c r) 1∧id<h.next∧h.objs id=some (.row 56 (rowC (σ r) (lenR c r)))∧
  (∀ (kk:IntKind) (K:AV→Prop),z0f (.slice 1) (A r) (.int kk (n:Int)) K=K (.ptr id n))∧(∀ K:AV→Prop,z0r none (.ptr id n) h K=K (.int .u64 (σ r n:Nat))):=by
 rcases s.row r with ⟨_,e⟩ | ⟨id,e,hid,ho⟩
 ·omega
 ·refine ⟨id,e,hid,ho,fun kk K=>?_,fun K=>?_⟩
  ·rw [e];simp [z0f];omega
  ·rw [z06 ho];simp [z03,rowC_at hn]
theorem z3j.len {h:z00} {c:Cd} {σ:Sg} {A:Rw→AV} (s:z3j h c σ A) (r:Rw) (K:AV→Prop):pLen .slice (A r) K=K (.int .i64 (lenR c r:Nat)):=(s.row r).len K
theorem z3j.keep {h h2:z00} {c:Cd} {σ:Sg} {A:Rw→AV} {S:Nat→Prop} (s:z3j h c σ A) (k:Keeps h h2 S) (hS:∀ r id,A r=.sl id 0 (lenR c r) 1→¬ S id):z3j h2 c σ A:=by
 refine ⟨fun r=>?_,s.one⟩
 rcases s.row r with e | ⟨id,e,hid,ho⟩
 ·exact Or.inl e
 ·exact Or.inr ⟨id,e,Nat.lt_of_lt_of_le hid k.next,by rw [k.objs id hid (hS r id e)];exact ho⟩
def updS (σ:Sg) (r:Rw) (n v:Nat):Sg:=fun r' n'=>if r'=r∧n'=n then v else σ r' n'
theorem z3j.put {h:z00} {c:Cd} {σ:Sg} {A:Rw→AV} (s:z3j h c σ A) {r:Rw} {n id v:Nat} (hn:n<lenR c r) (e:A r=.sl id 0 (lenR c r) 1):z3j (h.put id (.row 56 (rowC (fun j=>if j=n then v else σ r j) (lenR c r)))) c (updS σ r n v) A:=by
 refine ⟨fun q=>?_,s.one⟩
 rcases s.row q with e2 | ⟨id2,e2,hid,ho⟩
 ·exact Or.inl e2
 ·refine Or.inr ⟨id2,e2,by simpa using hid,?_⟩
  by_cases hq:q=r
  ·subst hq
   rw [e] at e2
   cases e2
   rw [z5c]
   congr 3
   funext j
   simp [updS]
  ·have hne:id2≠id:=by rintro rfl;exact hq (s.one q r id2 e2 e)
   rw [z1n hne,ho]
   congr 3
   funext j
   simp [updS,hq]
def outA (id n:Nat) (f:Nat→AV):AV:=if n=0 then .nils else .gsl id 1 ((List.range n).map fun k=>[f k])
theorem z6m {id n k:Nat} {f:Nat→AV} (hk:k<n) (kk:IntKind) (K:AV→Prop):z0f (.slice 1) (outA id n f) (.int kk (k:Int)) K=K (.iptr [f k]):=by
 unfold outA
 rw [if_neg (by omega)]
 simp [z0f,hk]
theorem zhu (id n:Nat) (f:Nat→AV) (K:AV→Prop):pLen .slice (outA id n f) K=K (.int .i64 n):=by
 unfold outA
 split
 ·rename_i e;rw [e];rfl
 ·simp [pLen]
theorem znu (x:AV) (h:z00) (K:AV→Prop):z0r none (.iptr [x]) h K=K x:=by rw [z0w];rfl
def z10 (c:Cd) (A:Rw→AV) (i1 i2:Nat):List AV:=[outA i1 (slL c.Threads).length (fun t=>A (.s t)),A .g,outA i2 (slL c.Sites).length (fun k=>A (.f k))]
theorem setsC_0 (c:Cd) (A:Rw→AV) (i1 i2:Nat) (K:AV→Prop):z03 none (z10 c A i1 i2) 0 K=K (outA i1 (slL c.Threads).length (fun t=>A (.s t))):=by simp [z03,z10]
theorem setsC_1 (c:Cd) (A:Rw→AV) (i1 i2:Nat) (K:AV→Prop):z03 none (z10 c A i1 i2) 1 K=K (A .g):=by simp [z03,z10]
theorem setsC_2 (c:Cd) (A:Rw→AV) (i1 i2:Nat) (K:AV→Prop):z03 none (z10 c A i1 i2) 2 K=K (outA i2 (slL c.Sites).length (fun k=>A (.f k))):=by simp [z03,z10]
theorem z2w (c:Cd) (A:Rw→AV) (i1 i2:Nat) (K:AV→Prop):z03 (some 3) (z10 c A i1 i2) 0 K=K (.agg (z10 c A i1 i2)):=by simp [z03,z10]
def solC (c:Cd) (A:Rw→AV) (i1 i2:Nat) (gr:Bool):List AV:=c.cells++(z10 c A i1 i2++[.bool gr])
section
variable (c:Cd) (A:Rw→AV) (i1 i2:Nat) (gr:Bool) (K:AV→Prop)
theorem solC_0:z03 none (solC c A i1 i2 gr) 0 K=K (slAV 1 (fun o=>[slAV 3 z0a.cells o]) c.Records):=by simp [z03,solC,z10,z0l.cells]
theorem solC_1:z03 none (solC c A i1 i2 gr) 1 K=K (slAV 3 z0a.cells c.Globals):=by simp [z03,solC,z10,z0l.cells]
theorem solC_2:z03 none (solC c A i1 i2 gr) 2 K=K (slAV 3 z0q.cells c.Threads):=by simp [z03,solC,z10,z0l.cells]
theorem solC_3:z03 none (solC c A i1 i2 gr) 3 K=K (slAV 3 z0s.cells c.Sites):=by simp [z03,solC,z10,z0l.cells]
theorem solC_5:z03 none (solC c A i1 i2 gr) 5 K=K (outA i1 (slL c.Threads).length (fun t=>A (.s t))):=by simp [z03,solC,z10,z0l.cells]
theorem solC_6:z03 none (solC c A i1 i2 gr) 6 K=K (A .g):=by simp [z03,solC,z10,z0l.cells]
theorem solC_7:z03 none (solC c A i1 i2 gr) 7 K=K (outA i2 (slL c.Sites).length (fun k=>A (.f k))):=by simp [z03,solC,z10,z0l.cells]
theorem solC_8:z03 none (solC c A i1 i2 gr) 8 K=K (.bool gr):=by simp [z03,solC,z10,z0l.cells]
theorem zsn:z03 (some 3) (solC c A i1 i2 gr) 5 K=K (.agg (z10 c A i1 i2)):=by simp [z03,solC,z10,z0l.cells]
end
theorem solR:(type_of% @solC_0)∧(type_of% @solC_1)∧(type_of% @solC_2)∧(type_of% @solC_3)∧(type_of% @solC_5)∧(type_of% @solC_6)∧(type_of% @solC_7)∧(type_of% @solC_8)∧(type_of% @zsn)∧(type_of% @setsC_0)∧(type_of% @setsC_1)∧(type_of% @setsC_2)∧(type_of% @z2w)∧(type_of% @znu):=
 ⟨@solC_0,@solC_1,@solC_2,@solC_3,@solC_5,@solC_6,@solC_7,@solC_8,@zsn,@setsC_0,@setsC_1,@setsC_2,@z2w,@znu⟩
end Go.Proofs.Ytjlogcfggfmacaa
end

section
set_option maxRecDepth 8000
set_option maxHeartbeats 1000000
namespace Go.Proofs.Ytjlogcfggfmacaa
open Go.Abs
theorem orF_take {α:Type} {f:α→Nat} {l:List α} {k:Nat} {x:α} (hx:l[k]?=some x):orF f (l.take (k+1))=orF f (l.take k) ||| f x:=by
 rw [List.take_add_one,hx];exact orF_snoc _ _ _
theorem zrg {c:Cd} {t:Nat} {b:Bd} (hb:(slL c.Threads)[t]?=some b):lenR c (.s t)=(slL b.Slots).length:=by simp [lenR,z9o,hb]
theorem orF_lt {α:Type} {f:α→Nat} {l:List α} {n:Nat} (h:∀ x∈l,∀ i,(f x).testBit i=true→i<n):orF f l<2 ^ n:=zbf fun i hi=>by
 rw [zgi] at hi
 obtain ⟨x,hx,hb⟩:=hi
 exact h x hx i hb
end Go.Proofs.Ytjlogcfggfmacaa
end

section
set_option maxRecDepth 8000
set_option maxHeartbeats 1000000
namespace Go.Proofs.Ytjlogcfggfmacaa
open Go.Abs
theorem shl_one {ck:CmpK} {kk:IntKind} {n:Nat} (hn:n<64):binA ck .shl (.int .u64 1) (.int kk (n:Int))=some (.int .u64 ((2 ^ n:Nat):Int)):=by
 have h:=iShl_u64 1 n hn
 have h1:((1:Nat):Int)=1:=rfl
 rw [h1] at h
 rw [binA_shl,if_neg (by omega),h,Nat.one_mul,Nat.mod_eq_of_lt]
 exact Nat.pow_lt_pow_right (by decide) hn
theorem za8 {n:Int} {m:Nat} (h:btw n m=true):∃ k:Nat,n=k∧k<m:=by
 simp only [btw,Bool.and_eq_true,decide_eq_true_eq] at h
 exact ⟨n.toNat,by omega,by omega⟩
theorem lenR_f {c:Cd} {k:Nat} (hk:¬ k<(slL c.Sites).length):lenR c (.f k)=0:=by
 simp only [lenR];rw [List.getElem?_eq_none (by omega)]
end Go.Proofs.Ytjlogcfggfmacaa
end

section
set_option maxRecDepth 8000
set_option maxHeartbeats 1000000
namespace Go.Proofs.Ytjlogcfggfmacaa
open Go.Abs
theorem z3j.old {h:z00} {c:Cd} {σ:Sg} {A:Rw→AV} (s:z3j h c σ A) {r:Rw} {id:Nat} (e:A r=.sl id 0 (lenR c r) 1):id<h.next:=by
 rcases s.row r with ⟨e2,_⟩ | ⟨id2,e2,hid,_⟩
 ·rw [e] at e2;cases e2
 ·rw [e] at e2;cases e2;exact hid
theorem zoe {c:Cd} {k:Nat} {s:z0s} {n:Int} (hk:(slL c.Sites)[k]?=some s):z8l c k n=decide (s.Rec=n):=by simp [z8l,hk]
end Go.Proofs.Ytjlogcfggfmacaa
end

section
set_option maxRecDepth 8000
set_option maxHeartbeats 1000000
namespace Go.Proofs.Ytjlogcfggfmacaa
open Go.Abs
end Go.Proofs.Ytjlogcfggfmacaa
end

section
set_option maxRecDepth 8000
set_option maxHeartbeats 1000000
namespace Go.Proofs.Ytjlogcfggfmacaa
open Go.Abs
theorem mk_row (n:Nat) (hn:n≤1000000) (h:z00) (K:AV→z00→Prop):z9h { e:=56,sz:=1,by_:=8 } [.int .u64 0] (.int .i64 (n:Int)) (.int .i64 (n:Int)) h K=K (.sl h.next 0 n 1) (h.push (.row 56 (rowC (fun _=>0) n))):=by
 have e:repC n [AV.int .u64 0]=rowC (fun _=>0) n:=by
  simp only [repC,rowC]
  apply List.ext_getElem?
  intro i
  simp only [List.getElem?_replicate,List.getElem?_map,List.getElem?_range']
  by_cases hi:i<n
  ·simp [hi]
  ·simp [hi,List.getElem?_eq_none]
 simp only [z9h,Int.toNat_natCast,e]
 apply propext
 constructor
 ·rintro ⟨-,-,-,-,-,hk⟩;exact hk
 ·intro hk;exact ⟨by omega,by omega,by omega,by omega,rfl,hk⟩
theorem bsl_sl (id n:Nat) (h:z00) (K:AV→z00→Prop):z0m true { e:=49,sz:=1,by_:=24 } [AV.nils] 1 [(0,.sl id 0 n 1)] h K=K (.isl 1 [[.sl id 0 n 1]]) h:=by
 simp [z0m,z8t,AV.fits,AV.cells]
theorem zj0 {id n:Nat} {f g:Nat→AV} (h:∀ k,k<n→f k=g k):outA id n f=outA id n g:=by
 unfold outA
 split
 ·rfl
 ·congr 1
  apply List.map_congr_left
  intro k hk
  rw [h k (List.mem_range.1 hk)]
theorem outA_push {h:z00} {tok k:Nat} {f:Nat→AV} (hk:k≤1000) (p:k=0∨(tok<h.next∧h.objs tok=some (.tok 49 k))) {K:AV→z00→Prop}
  (hK:∀ h2,h2.objs h.next=some (.tok 49 (k+1))→h2.next=h.next+1→Keeps h h2 (fun x=>x=tok∧0<k)→K (outA h.next (k+1) f) h2):z11 true { e:=49,sz:=1,by_:=24 } (outA tok k f) (.isl 1 [[f k]]) h K:=by
 have hnew:outA h.next (k+1) f=.gsl h.next 1 (((List.range k).map fun j=>[f j])++[[f k]]):=by
  unfold outA
  rw [if_neg (by omega),List.range_succ,List.map_append];rfl
 rw [hnew] at hK
 unfold outA
 by_cases h0:k=0
 ·subst h0
  simp only [if_true,z11,z13,zd2]
  refine ⟨by simp [bounded,maxLen],?_⟩
  exact hK _ (by simp) rfl ⟨by simp,fun x hx hs=>z1j hx _⟩
 ·rcases p with p | ⟨p1,p2⟩
  ·exact absurd p h0
  ·simp only [if_neg h0,z11,z13,p2,if_true]
   refine ⟨trivial,trivial,by simp,by simp [bounded,maxLen];omega,?_⟩
   refine hK _ ?_ rfl ⟨by simp,fun x hx hs=>?_⟩
   ·have:(h.kill tok).next=h.next:=rfl
    rw [←this,z0v];simp
   ·rw [z1j (by simpa using hx),zp5 (fun e=>hs ⟨e,by omega⟩)]
def inB (k1 k2:Nat):Rw→Prop
 | .g=>True
 | .s t=>t<k1
 | .f k=>k<k2
end Go.Proofs.Ytjlogcfggfmacaa
end

section
set_option maxRecDepth 8000
set_option maxHeartbeats 1000000
namespace Go.Proofs.Ytjlogcfggfmacaa
open Go.Abs
theorem zj1 (id n:Nat) (f:Nat→AV):(outA id n f).zd1=true:=by
 unfold outA;split <;> rfl
theorem zlm {h:z00} {tok k:Nat} {f g:Nat→AV} {a:AV} (hg:∀ j,j<k→g j=f j) (ha:f k=a) (hk:k≤1000) (p:k=0∨(tok<h.next∧h.objs tok=some (.tok 49 k))) {K:AV→z00→Prop}
  (hK:∀ h2,h2.objs h.next=some (.tok 49 (k+1))→h2.next=h.next+1→Keeps h h2 (fun x=>x=tok∧0<k)→K (outA h.next (k+1) f) h2):z11 true { e:=49,sz:=1,by_:=24 } (outA tok k g) (.isl 1 [[a]]) h K:=by
 rw [zj0 hg,←ha]
 exact outA_push hk p hK
section
variable (c:Cd) (A:Rw→AV) (i1 k1 i2 k2:Nat) (K:AV→Prop)
end
end Go.Proofs.Ytjlogcfggfmacaa
end

section
set_option maxRecDepth 8000
set_option maxHeartbeats 1000000
namespace Go.Proofs.Ytjlogcfggfmacaa
open Go.Abs
theorem recL_neg {c:Cd} {n:Int} (h:n<0):recL c n=[]:=by
 unfold recL getI
 rw [if_neg (by omega)]
theorem lenR_fk {c:Cd} {k:Nat} {s:z0s} (hk:(slL c.Sites)[k]?=some s):lenR c (.f k)=(recL c s.Rec).length:=by simp [lenR,hk]
end Go.Proofs.Ytjlogcfggfmacaa
end

section
set_option maxRecDepth 8000
set_option maxHeartbeats 1000000
namespace Go.Proofs.Ytjlogcfggfmacaa
open Go.Abs
end Go.Proofs.Ytjlogcfggfmacaa
end

section
set_option maxRecDepth 8000
set_option maxHeartbeats 1000000
namespace Go.Proofs.Ytjlogcfggfmacaa
open Go.Abs
def SolvedQ (h:z00) (c:Cd) (v:AV) (h2:z00):Prop:=
 (okC c=false∧v=.agg [.nils,.nils,.nils]∧Keeps h h2 (fun _=>False))∨
 (okC c=true∧∃ σ A i1 i2,v=.agg (z10 c A i1 i2)∧z3j h2 c σ A∧(∀ r id,A r=.sl id 0 (lenR c r) 1→h.next≤id)∧Cl c σ∧Lw c σ∧Bd2 c σ∧Rg c σ∧Keeps h h2 (fun _=>False))
def A0g (c:Cd) (id:Nat):Rw→AV:=fun r=>if r=.g then .sl id 0 (lenR c .g) 1 else .nils
end Go.Proofs.Ytjlogcfggfmacaa
end

section
set_option maxRecDepth 8000
set_option maxHeartbeats 1000000
namespace Go.Proofs.Ytjlogcfggfmacaa
open Go.Abs
theorem chunk_row (l:List Nat):chunk 1 l.length (l.map fun (n:Nat)=>AV.int .u64 n)=l.map encN:=by
 induction l with
 | nil=>rfl
 | cons a l ih=>simp only [List.map_cons,List.length_cons,chunk,List.take_succ_cons,List.take_zero,List.drop_succ_cons,List.drop_zero];rw [ih];rfl
def rowO (c:Cd) (σ:Sg) (N:Rw→Bool) (r:Rw):Option (List Nat):=if N r then none else some ((List.range (lenR c r)).map (σ r))
def rowsO (n:Nat) (f:Nat→Option (List Nat)):Option (List (Option (List Nat))):=if n=0 then none else some ((List.range n).map f)
def z8y (c:Cd) (σ:Sg) (N:Rw→Bool):z15:=⟨rowsO (slL c.Threads).length (fun t=>rowO c σ N (.s t)),rowO c σ N .g,rowsO (slL c.Sites).length (fun k=>rowO c σ N (.f k))⟩
theorem ztj (D:Nat→Prop) (o:Option (List Nat)):z1u D (slAV 1 encN o):=by
 cases o with
 | none=>exact trivial
 | some l=>
  show za0 D (l.map encN)
  induction l with
  | nil=>exact trivial
  | cons a l ih=>exact ⟨⟨trivial,trivial⟩,ih⟩
theorem ids_rows (D:Nat→Prop) (o:Option (List (Option (List Nat)))):z1u D (slAV 1 (fun o=>[slAV 1 encN o]) o):=by
 cases o with
 | none=>exact trivial
 | some l=>
  show za0 D (l.map fun o=>[slAV 1 encN o])
  induction l with
  | nil=>exact trivial
  | cons a l ih=>exact ⟨⟨ztj D a,trivial⟩,ih⟩
theorem ids_sets (D:Nat→Prop) (s:z15):z1u D (.agg s.cells):=⟨ids_rows D _,ztj D _,ids_rows D _,trivial⟩
open Classical in
noncomputable def nilR (A:Rw→AV) (r:Rw):Bool:=decide (A r=.nils)
theorem rz_row {H:z00} {D:Nat→Prop} {c:Cd} {σ:Sg} {A:Rw→AV} (S:z3j H c σ A) (hD:∀ r id,A r=.sl id 0 (lenR c r) 1→D id) (r:Rw) (hl:lenR c r≤1000000):RzV H D (A r) (slAV 1 encN (rowO c σ (nilR A) r)):=by
 rcases S.row r with ⟨e,_⟩ | ⟨id,e,hid,ho⟩
 ·have:nilR A r=true:=by simp [nilR,e]
  simp only [rowO,this,if_true,e]
  exact RzV.same _
 ·have:nilR A r=false:=by simp [nilR,e]
  have e2:slAV 1 encN (rowO c σ (nilR A) r)=.isl 1 (chunk 1 (lenR c r) (rowC (σ r) (lenR c r))):=by
   simp only [rowO,this,Bool.false_eq_true,if_false,slAV]
   have:=chunk_row ((List.range (lenR c r)).map (σ r))
   rw [List.length_map,List.length_range] at this
   rw [←this]
   simp only [rowC,List.map_map]
   rfl
  rw [e2,e]
  exact RzV.row (hD r id e) ho (by rw [zi1];omega) hl rfl (fun i a a' h1 h2=>by rw [h1] at h2;cases h2;exact RzV.same _)
theorem rz_out {H:z00} {D:Nat→Prop} {id n:Nat} {f:Nat→AV} {g:Nat→Option (List Nat)} (hn:n≤1000000) (h:∀ k,k<n→RzV H D (f k) (slAV 1 encN (g k))):RzV H D (outA id n f) (slAV 1 (fun o=>[slAV 1 encN o]) (rowsO n g)):=by
 unfold outA rowsO
 by_cases e:n=0
 ·rw [if_pos e,if_pos e];exact RzV.same _
 ·rw [if_neg e,if_neg e]
  have e2:slAV 1 (fun o=>[slAV 1 encN o]) (some ((List.range n).map g))=.isl 1 ((List.range n).map fun k=>[slAV 1 encN (g k)]):=by
   simp only [slAV,List.map_map];rfl
  rw [e2]
  exact RzV.gsl (by simp;omega) (RzE.map fun k hk=>RzM.cons (h k (List.mem_range.1 hk)) RzM.nil)
def SolvedV (c:Cd) (s:z15):Prop:=(okC c=false∧s=⟨none,none,none⟩)∨(okC c=true∧∃ σ N,s=z8y c σ N∧(∀ r,N r=true→lenR c r=0)∧Cl c σ∧Lw c σ∧Bd2 c σ∧Rg c σ)
theorem lenR_le {c:Cd} (sm:Small c) (r:Rw):lenR c r≤1000:=by
 cases r with
 | g=>have:=sm.globs;simp only [lenR];omega
 | s t=>
  simp only [lenR,z9o]
  split
  ·rename_i b hb
   have:=sm.slots b (List.mem_of_getElem? hb);omega
  ·simp
 | f k=>
  simp only [lenR]
  split
  ·rename_i x hx
   simp only [recL]
   split
   ·rename_i l hl
    have:=sm.fields l (by unfold getI at hl;split at hl <;> first | exact List.mem_of_getElem? hl | cases hl);omega
   ·simp
  ·simp
end Go.Proofs.Ytjlogcfggfmacaa
end

section
set_option maxRecDepth 100000
set_option maxHeartbeats 1000000
namespace Go.Proofs.Ytjlogcfggfmacaa
open Go.Abs
theorem has_does (x:Nat) (hx:x<18446744073709551616) (k:Nat) (hk:k≤1000000) (h:z00):z01 Try.prog 56 [.int .u64 (x:Nat),.int .i64 (k:Nat)] h (fun v h2=>v=.bool (x.testBit k)∧h2=h):=by
 apply z9j
 have e0:decide ((0:Int)≤(k:Int))=true:=by simp
 by_cases h64:k<64
 ·have e1:decide ((k:Int)<64)=true:=by simp;omega
  have ec:IntKind.u64.wrap (k:Int)=(k:Int):=by rw [zes];omega
  have es:binA CmpK.other BinOp.shr (.int .u64 (x:Int)) (.int .u64 (k:Int))=some (.int .u64 ((x/2 ^ k:Nat):Int)):=by rw [binA_shr,if_neg (by omega),iShr_u64 _ _ h64]
  have er:binA CmpK.other BinOp.rem (.int .u64 ((x/2 ^ k:Nat):Int)) (.int .u64 2)=some (.int .u64 ((x/2 ^ k%2:Nat):Int)):=by
   rw [binA_int_rem,if_neg (by decide)]
   rfl
  (repeat simp -dsimp -implicitDefEqProofs (disch:=omega) only [↓rP,rA,↓reduceIte,reduceEqDiff,reduceAdd,reduceLeDiff,↓tyr,e0,e1,ec,es,er])
  congr 1
  have:x.testBit k=decide (x/2 ^ k%2=1):=by
   rw [show x/2 ^ k=x >>> k from (Nat.shiftRight_eq_div_pow x k).symm]
   have:=Nat.testBit_shiftRight (i:=k) (j:=0) x
   rw [Nat.add_zero] at this
   rw [←this,Nat.testBit_zero]
  rw [this]
  generalize x/2 ^ k=q
  rw [Bool.eq_iff_iff]
  simp
  omega
 ·have e1:decide ((k:Int)<64)=false:=by simp;omega
  (repeat simp -dsimp -implicitDefEqProofs (disch:=omega) only [↓rP,rA,↓reduceIte,reduceEqDiff,reduceAdd,reduceLeDiff,↓tyr,e0,e1])
  rw [Nat.testBit_lt_two_pow (Nat.lt_of_lt_of_le (show x<2 ^ 64 by simpa using hx) (Nat.pow_le_pow_right (by decide) (by omega)))]
theorem bsl_nil (e:TypeId) (h:z00) (K:AV→z00→Prop):z0m true { e:=e,sz:=1,by_:=24 } [AV.nils] 1 [(0,.nils)] h K=K (.isl 1 [[.nils]]) h:=by
 simp [z0m,z8t,AV.fits,AV.cells]
end Go.Proofs.Ytjlogcfggfmacaa
end

section
set_option maxRecDepth 8000
set_option maxHeartbeats 1000000
namespace Go.Proofs.Ytjlogcfggfmacaa
open Go.Abs
def nsU (l:List Nat):List AV:=l.map fun (n:Nat)=>AV.int .u64 n
theorem ztr (l:List Nat):(nsU l).length=l.length:=by simp [nsU]
def rowL (f:Nat→Nat) (n:Nat):List Nat:=(List.range n).map f
theorem z8x (f:Nat→Nat) (n:Nat):(rowL f n).length=n:=by simp [rowL]
theorem rowC_eq (f:Nat→Nat) (n:Nat):rowC f n=nsU (rowL f n):=by simp [rowC,nsU,rowL]
def zck (f:Nat→Nat) (n:Nat):List Nat:=n::rowL f n
def zg8 (c:Cd) (σ:Sg):List Nat:=
 [(slL c.Threads).length,lenR c .g,(slL c.Sites).length]++rowL (σ .g) (lenR c .g)++(List.range (slL c.Threads).length).flatMap (fun t=>zck (σ (.s t)) (lenR c (.s t)))++(List.range (slL c.Sites).length).flatMap (fun k=>zck (σ (.f k)) (lenR c (.f k)))
theorem chunk_nsU (l:List Nat) (m:List AV):chunk 1 l.length (nsU l++m)=l.map fun n:Nat=>[AV.int .u64 n]:=by
 induction l with
 | nil=>rfl
 | cons a l ih=>simp only [nsU,List.map_cons,List.length_cons,chunk,List.cons_append,List.take_succ_cons,List.take_zero,List.drop_succ_cons,List.drop_zero];rw [←ih];rfl
theorem ztb (l:List Nat):(l.map fun n:Nat=>[AV.int .u64 (n:Int)]).flatten=nsU l:=by
 induction l with
 | nil=>rfl
 | cons a l ih=>simp only [List.map_cons,List.flatten_cons,ih];simp [nsU]
theorem src_row {h:z00} {av:AV} {n:Nat} {f:Nat→Nat} (r:RowAt h av n f):z13 1 av h=some ((rowL f n).map fun k:Nat=>[AV.int .u64 k]):=by
 rcases r with ⟨rfl,rfl⟩ | ⟨id,rfl,_,ho⟩
 ·rfl
 ·simp only [z13,ho,rowC_eq,ztr,z8x,Nat.mul_one,Nat.zero_add,Nat.le_refl,and_self,if_true,List.drop_zero]
  have:=chunk_nsU (rowL f n) []
  rw [List.append_nil,z8x] at this
  rw [this]
theorem ap_nsU {h:z00} {id:Nat} {L M:List Nat} {x:AV} (ho:h.objs id=some (.row 56 (nsU L))) (hx:z13 1 x h=some (M.map fun k:Nat=>[AV.int .u64 k])) (hL:L.length+M.length≤1000000) (K:AV→z00→Prop) :
  z11 true { e:=56,sz:=1,by_:=8 } (.sl id 0 L.length 1) x h K=K (.sl h.next 0 (L++M).length 1) ((h.kill id).push (.row 56 (nsU (L++M)))):=by
 simp only [z11,hx,ho,List.length_map,Nat.mul_one,ztr,Nat.le_refl,ztb]
 have e:List.take L.length (nsU L)++nsU M=nsU (L++M):=by
  rw [List.take_of_length_le (by rw [ztr];exact Nat.le_refl _)];simp [nsU]
 rw [e,List.length_append]
 apply propext
 constructor
 ·rintro ⟨-,-,-,-,hk⟩;exact hk
 ·intro hk;exact ⟨trivial,trivial,trivial,by simp [bounded,maxLen];omega,hk⟩
theorem ap_one {h:z00} {id:Nat} {L:List Nat} {m:Nat} (ho:h.objs id=some (.row 56 (nsU L))) (hL:L.length+1≤1000000) (K:AV→z00→Prop) :
  z11 true { e:=56,sz:=1,by_:=8 } (.sl id 0 L.length 1) (.isl 1 [[.int .u64 (m:Nat)]]) h K=K (.sl h.next 0 (L++[m]).length 1) ((h.kill id).push (.row 56 (nsU (L++[m])))):=
 ap_nsU (M:=[m]) ho rfl hL K
theorem zl0 (n:Nat) (hn:n≤1000000) (h:z00) (K:AV→Prop):z2e (.int .u64) (.int .i64 (n:Int)) h K=K (.int .u64 (n:Int)):=by
 have:IntKind.u64.wrap (n:Int)=n:=wrapN (by omega) (by omega)
 simp [z2e,this]
theorem zr1 {h0 h:z00} {c:Cd} {σ:Sg} {A:Rw→AV} (S0:z3j h0 c σ A) {id:Nat} {L:List Nat} (hid:h0.next≤id) (hid2:id<h.next) (ho:h.objs id=some (.row 56 (nsU L))) (k0:Keeps h0 h (fun _=>False)) (r:Rw) (hL:L.length≤20000) (hl:lenR c r≤1000) (K:AV→z00→Prop)
  (hK:∀ id2 h2,h0.next≤id2→id2<h2.next→h2.objs id2=some (.row 56 (nsU (L++zck (σ r) (lenR c r))))→Keeps h0 h2 (fun _=>False)→K (.sl id2 0 (L++zck (σ r) (lenR c r)).length 1) h2) :
  z11 true { e:=56,sz:=1,by_:=8 } (.sl h.next 0 (L++[lenR c r]).length 1) (A r) ((h.kill id).push (.row 56 (nsU (L++[lenR c r])))) K:=by
 obtain ⟨h2,e2⟩:∃ h2,h2=(h.kill id).push (.row 56 (nsU (L++[lenR c r]))):=⟨_,rfl⟩
 have n2:h2.next=h.next+1:=by rw [e2];rfl
 have k2:Keeps h0 h2 (fun _=>False):=by rw [e2];exact (k0.zca hid).zgp _
 have o2:h2.objs h.next=some (.row 56 (nsU (L++[lenR c r]))):=by
  rw [e2]
  have:(h.kill id).next=h.next:=rfl
  rw [←this,z0v]
 have kn:=k0.next
 rw [←e2]
 have S2:=S0.keep k2 (fun _ _ _ h=>h)
 rw [ap_nsU o2 (src_row (S2.row r)) (by simp [z8x];omega)]
 have e3:L++[lenR c r]++rowL (σ r) (lenR c r)=L++zck (σ r) (lenR c r):=by simp [zck]
 rw [e3]
 refine hK h2.next _ (by omega) (by simp) ?_ ((k2.zca (by omega)).zgp _)
 have:(h2.kill h.next).next=h2.next:=rfl
 rw [←this,z0v]
theorem z8u {c:Cd} {σ:Sg} (m:Nat→Rw) (hm:∀ k,lenR c (m k)≤100) (n:Nat):((List.range n).flatMap fun k=>zck (σ (m k)) (lenR c (m k))).length≤101*n:=by
 induction n with
 | zero=>simp
 | succ n ih=>
  rw [List.range_succ,List.flatMap_append,List.length_append]
  have:=hm n
  have e:([n].flatMap fun k=>zck (σ (m k)) (lenR c (m k))).length=lenR c (m n)+1:=by simp [zck,z8x]
  rw [e]
  omega
structure Rs (c:Cd):Prop where
 thr:(slL c.Threads).length≤10
 sit:(slL c.Sites).length≤100
 rows:∀ r,lenR c r≤100
theorem WfC.rs {c:Cd} (wc:WfC c):Rs c:=by
 refine ⟨by have:=wc.thr;omega,by have:=wc.sit;omega,fun r=>?_⟩
 cases r with
 | g=>have:=wc.glo;simp only [lenR];omega
 | s t=>
  simp only [lenR,z9o]
  cases hb:(slL c.Threads)[t]? with
  | none=>simp
  | some b=>have:=(wc.slo t b hb).1;simp only;omega
 | f k=>
  simp only [lenR]
  cases hk:(slL c.Sites)[k]? with
  | none=>simp
  | some s=>
   simp only [recL]
   cases hr:getI (slL c.Records) s.Rec with
   | none=>simp
   | some r=>have:=wc.recs r (z1z hr);simp only;omega
theorem zpy {h:z00} {c:Cd} {σ:Sg} {A:Rw→AV} (S:z3j h c σ A) (rs:Rs c) (i1 i2:Nat):z01 Try.prog 71 [.agg (z10 c A i1 i2)] h (fun v h2=>∃ id,v=.sl id 0 (zg8 c σ).length 1∧h.next≤id∧id<h2.next∧h2.objs id=some (.row 56 (nsU (zg8 c σ)))∧Keeps h h2 (fun _=>False)):=by
 have ht:=rs.thr
 have hs:=rs.sit
 have hg:=rs.rows .g
 have b3:∀ (a b d:Nat) (H:z00) (K:AV→z00→Prop),z0m false { e:=56,sz:=1,by_:=8 } [AV.int .u64 0] 3 [(0,.int .u64 (a:Nat)),(1,.int .u64 (b:Nat)),(2,.int .u64 (d:Nat))] H K=K (.sl H.next 0 [a,b,d].length 1) (H.push (.row 56 (nsU [a,b,d]))):=fun a b d H K=>by
  simp [z0m,z8t,AV.fits,AV.cells,nsU]
 apply zfj
 (repeat simp -dsimp -implicitDefEqProofs (disch:=omega) only [↓rP,rA,↓reduceIte,reduceEqDiff,reduceAdd,reduceLeDiff,↓tyr,solR,zhu,S.len,zl0 _ (show (slL c.Threads).length≤1000000 by omega),zl0 _ (show lenR c .g≤1000000 by omega),zl0 _ (show (slL c.Sites).length≤1000000 by omega),b3])
 have S1:=S.keep (Keeps.one h (.row 56 (nsU [(slL c.Threads).length,lenR c .g,(slL c.Sites).length]))) (fun _ _ _ h=>h)
 refine Eq.mpr (ap_nsU (L:=[(slL c.Threads).length,lenR c .g,(slL c.Sites).length]) (z0v _ _) (src_row (S1.row .g)) (by simp [z8x];omega) _) ?_
 obtain ⟨L0,hL0⟩:∃ L0,L0=[(slL c.Threads).length,lenR c .g,(slL c.Sites).length]++rowL (σ .g) (lenR c .g):=⟨_,rfl⟩
 have hL0l:L0.length≤103:=by rw [hL0];simp [z8x];omega
 rw [←hL0]
 obtain ⟨H,hH⟩:∃ H,H=((h.push (.row 56 (nsU [(slL c.Threads).length,lenR c .g,(slL c.Sites).length]))).kill h.next).push (.row 56 (nsU L0)):=⟨_,rfl⟩
 have kH:Keeps h H (fun _=>False):=by rw [hH];exact ((Keeps.one _ _).zca (Nat.le_refl _)).zgp _
 have nH:H.next=h.next+2:=by rw [hH];rfl
 have oH:H.objs (h.next+1)=some (.row 56 (nsU L0)):=by
  rw [hH]
  have:((h.push (.row 56 (nsU [(slL c.Threads).length,lenR c .g,(slL c.Sites).length]))).kill h.next).next=h.next+1:=rfl
  rw [←this,z0v]
 have e1:(h.push (.row 56 (nsU [(slL c.Threads).length,lenR c .g,(slL c.Sites).length]))).next=h.next+1:=rfl
 rw [e1,←hH]
 (repeat simp -dsimp -implicitDefEqProofs (disch:=omega) only [↓rP,rA,↓reduceIte,reduceEqDiff,reduceAdd,reduceLeDiff,↓tyr,solR,zhu])
 have SH:=S.keep kH (fun _ _ _ h=>h)
 obtain ⟨F1,hF1⟩:∃ F1:Nat→List Nat,F1=fun k=>L0++(List.range k).flatMap fun t=>zck (σ (.s t)) (lenR c (.s t)):=⟨_,rfl⟩
 have hF1l:∀ k,k≤10→(F1 k).length≤1200:=fun k hk=>by
  have:=z8u (σ:=σ) (c:=c) (fun t=>.s t) (fun t=>rs.rows (.s t)) k
  rw [hF1];simp only [List.length_append];omega
 have hF1s:∀ k,F1 (k+1)=F1 k++zck (σ (.s k)) (lenR c (.s k)):=fun k=>by rw [hF1];simp only [List.range_succ,List.flatMap_append,List.append_assoc];simp
 obtain ⟨I,hI⟩:∃ I:Nat→Fr→z00→Prop,I=(fun n fr hh=>∃ k id:Nat,n=(slL c.Threads).length-k∧k≤(slL c.Threads).length∧h.next≤id∧id<hh.next∧hh.objs id=some (.row 56 (nsU (F1 k)))∧Keeps h hh (fun _=>False)∧fr=frOf [(1,.iptr (z10 c A i1 i2)),(3,.sl id 0 (F1 k).length 1),(26,outA i1 (slL c.Threads).length (fun t=>A (.s t))),(27,.int .i64 (slL c.Threads).length),(28,.int .i64 k)]):=⟨_,rfl⟩
 have hF10:F1 0=L0:=by rw [hF1];simp
 refine z0x z08 (by kernel_rfl) I (slL c.Threads).length (by rw [hI];exact ⟨0,h.next+1,rfl,Nat.zero_le _,by omega,by omega,by rw [hF10];exact oH,kH,by rw [hF10];rfl⟩) ?_
 intro n fr hh hi
 rw [hI] at hi
 obtain ⟨k,id,rfl,hk,hid1,hid2,ho,kp,rfl⟩:=hi
 apply zcf
 (repeat simp -dsimp -implicitDefEqProofs (disch:=omega) only [↓rP,rA,↓reduceIte,reduceEqDiff,reduceAdd,reduceLeDiff,↓tyr])
 refine z0c (fun hkl=>?_) (fun hkl=>?_)
 ·have Sk:=S.keep kp (fun _ _ _ h=>h)
  have hr:=rs.rows (.s k)
  (repeat simp -dsimp -implicitDefEqProofs (disch:=omega) only [↓rP,rA,↓reduceIte,reduceEqDiff,reduceAdd,reduceLeDiff,↓tyr,z6m (show k<(slL c.Threads).length by omega),znu,Sk.len,zl0 _ (show lenR c (.s k)≤1000000 by omega),bld1])
  rw [ap_one ho (by have:=hF1l k (by omega);omega)]
  (repeat simp -dsimp -implicitDefEqProofs (disch:=omega) only [↓rP,rA,↓reduceIte,reduceEqDiff,reduceAdd,reduceLeDiff,↓tyr])
  refine zr1 S hid1 hid2 ho kp (.s k) (by have:=hF1l k (by omega);omega) (by omega) _ ?_
  intro id2 h2 q1 q2 q3 q4
  rw [←hF1s] at q3 ⊢
  (repeat simp -dsimp -implicitDefEqProofs (disch:=omega) only [↓rP,rA,↓reduceIte,reduceEqDiff,reduceAdd,reduceLeDiff,↓tyr,wkS k (by omega)])
  rw [z04,hI]
  exact ⟨_,by omega,k+1,id2,rfl,by omega,q1,q2,q3,q4,rfl⟩
 have hke:k=(slL c.Threads).length:=by omega
 subst hke
 (repeat simp -dsimp -implicitDefEqProofs (disch:=omega) only [↓rP,rA,↓reduceIte,reduceEqDiff,reduceAdd,reduceLeDiff,↓tyr,solR,zhu])
 clear hI I hk hkl
 obtain ⟨F2,hF2⟩:∃ F2:Nat→List Nat,F2=fun k=>F1 (slL c.Threads).length++(List.range k).flatMap fun t=>zck (σ (.f t)) (lenR c (.f t)):=⟨_,rfl⟩
 have hF2l:∀ k,k≤100→(F2 k).length≤12000:=fun k hk=>by
  have:=z8u (σ:=σ) (c:=c) (fun t=>.f t) (fun t=>rs.rows (.f t)) k
  have:=hF1l (slL c.Threads).length (by omega)
  rw [hF2];simp only [List.length_append];omega
 have hF2s:∀ k,F2 (k+1)=F2 k++zck (σ (.f k)) (lenR c (.f k)):=fun k=>by rw [hF2];simp only [List.range_succ,List.flatMap_append,List.append_assoc];simp
 obtain ⟨I,hI⟩:∃ I:Nat→Fr→z00→Prop,I=(fun n fr hh=>∃ k id:Nat,n=(slL c.Sites).length-k∧k≤(slL c.Sites).length∧h.next≤id∧id<hh.next∧hh.objs id=some (.row 56 (nsU (F2 k)))∧Keeps h hh (fun _=>False)∧fr=frOf [(3,.sl id 0 (F2 k).length 1),(42,outA i2 (slL c.Sites).length (fun t=>A (.f t))),(43,.int .i64 (slL c.Sites).length),(44,.int .i64 k)]):=⟨_,rfl⟩
 have hF20:F2 0=F1 (slL c.Threads).length:=by rw [hF2];simp
 refine z0x z08 (by kernel_rfl) I (slL c.Sites).length (by rw [hI];exact ⟨0,id,rfl,Nat.zero_le _,hid1,hid2,by rw [hF20];exact ho,kp,by rw [hF20];rfl⟩) ?_
 clear ho hid1 hid2 kp hF20
 intro n fr hh hi
 rw [hI] at hi
 obtain ⟨k,id,rfl,hk,hid1,hid2,ho,kp,rfl⟩:=hi
 apply zcg
 (repeat simp -dsimp -implicitDefEqProofs (disch:=omega) only [↓rP,rA,↓reduceIte,reduceEqDiff,reduceAdd,reduceLeDiff,↓tyr])
 refine z0c (fun hkl=>?_) (fun hkl=>?_)
 ·have Sk:=S.keep kp (fun _ _ _ h=>h)
  have hr:=rs.rows (.f k)
  (repeat simp -dsimp -implicitDefEqProofs (disch:=omega) only [↓rP,rA,↓reduceIte,reduceEqDiff,reduceAdd,reduceLeDiff,↓tyr,z6m (show k<(slL c.Sites).length by omega),znu,Sk.len,zl0 _ (show lenR c (.f k)≤1000000 by omega),bld1])
  rw [ap_one ho (by have:=hF2l k (by omega);omega)]
  (repeat simp -dsimp -implicitDefEqProofs (disch:=omega) only [↓rP,rA,↓reduceIte,reduceEqDiff,reduceAdd,reduceLeDiff,↓tyr])
  refine zr1 S hid1 hid2 ho kp (.f k) (by have:=hF2l k (by omega);omega) (by omega) _ ?_
  intro id2 h2 q1 q2 q3 q4
  rw [←hF2s] at q3 ⊢
  (repeat simp -dsimp -implicitDefEqProofs (disch:=omega) only [↓rP,rA,↓reduceIte,reduceEqDiff,reduceAdd,reduceLeDiff,↓tyr,wkS k (by omega)])
  rw [z04,hI]
  exact ⟨_,by omega,k+1,id2,rfl,by omega,q1,q2,q3,q4,rfl⟩
 have hke:k=(slL c.Sites).length:=by omega
 subst hke
 (repeat simp -dsimp -implicitDefEqProofs (disch:=omega) only [↓rP,rA,↓reduceIte,reduceEqDiff,reduceAdd,reduceLeDiff,↓tyr])
 have hfl:F2 (slL c.Sites).length=zg8 c σ:=by rw [hF2,hF1,hL0];rfl
 rw [hfl] at ho ⊢
 exact ⟨id,rfl,hid1,hid2,ho,kp⟩
end Go.Proofs.Ytjlogcfggfmacaa
end

section
set_option maxRecDepth 8000
set_option maxHeartbeats 1000000
namespace Go.Proofs.Ytjlogcfggfmacaa
open Go.Abs
theorem flat_len {c:Cd} (rs:Rs c) (σ:Sg):(zg8 c σ).length≤12000:=by
 have ht:=rs.thr
 have hs:=rs.sit
 have hg:=rs.rows .g
 have h1:=z8u (σ:=σ) (c:=c) (fun t=>.s t) (fun t=>rs.rows (.s t)) (slL c.Threads).length
 have h2:=z8u (σ:=σ) (c:=c) (fun t=>.f t) (fun t=>rs.rows (.f t)) (slL c.Sites).length
 unfold zg8
 simp only [List.length_append,List.length_cons,List.length_nil,z8x]
 omega
theorem ld_nsU {h:z00} {id k:Nat} {L:List Nat} {v:Nat} (ho:h.objs id=some (.row 56 (nsU L))) (hk:L[k]?=some v) (K:AV→Prop):z0r none (.ptr id k) h K=K (.int .u64 (v:Nat)):=by
 rw [z06 ho]
 simp [z03,nsU,hk]
theorem ix_sl {id n k:Nat} (hk:k<n) (kk:IntKind) (K:AV→Prop):z0f (.slice 1) (.sl id 0 n 1) (.int kk (k:Int)) K=K (.ptr id k):=by
 simp [z0f];omega
theorem Same_does {h:z00} {c d:Cd} {σ τ:Sg} {A B:Rw→AV} (S1:z3j h c σ A) (S2:z3j h d τ B) (r1:Rs c) (r2:Rs d) (i1 i2 j1 j2:Nat) :
  z01 Try.prog 53 [.agg (z10 c A i1 i2),.agg (z10 d B j1 j2)] h (fun v h2=>v=.bool (decide (zg8 c σ=zg8 d τ))∧h2=h):=by
 refine z01.forget (by simp [z1u]) ?_
 have l1:=flat_len r1 σ
 have l2:=flat_len r2 τ
 have ls1:∀ (H:z00) (K:AV→Prop),z0r (some 3) (.iptr (z10 c A i1 i2)) H K=K (.agg (z10 c A i1 i2)):=fun H K=>by rw [z0w];exact z2w c A i1 i2 K
 have ls2:∀ (H:z00) (K:AV→Prop),z0r (some 3) (.iptr (z10 d B j1 j2)) H K=K (.agg (z10 d B j1 j2)):=fun H K=>by rw [z0w];exact z2w d B j1 j2 K
 apply zfk
 (repeat simp -dsimp -implicitDefEqProofs (disch:=omega) only [↓rP,rA,↓reduceIte,reduceEqDiff,reduceAdd,reduceLeDiff,↓tyr,↓ls1,↓ls2])
 refine (zpy S1 r1 i1 i2).mono ?_
 rintro _ h1 ⟨a,rfl,a1,a2,a3,k1⟩
 (repeat simp -dsimp -implicitDefEqProofs (disch:=omega) only [↓rP,rA,↓reduceIte,reduceEqDiff,reduceAdd,reduceLeDiff,↓tyr,↓ls2])
 refine (zpy (S2.keep k1 (fun _ _ _ h=>h)) r2 j1 j2).mono ?_
 rintro _ h2 ⟨b,rfl,b1,b2,b3,k2⟩
 have a4:h2.objs a=some (.row 56 (nsU (zg8 c σ))):=by rw [k2.objs _ a2 (fun h=>h)];exact a3
 have kp:Keeps h h2 (fun _=>False):=k1.go k2
 clear a3 k1 k2 S1 S2 ls1 ls2
 generalize zg8 c σ=L at *
 generalize zg8 d τ=M at *
 (repeat simp -dsimp -implicitDefEqProofs (disch:=omega) only [↓rP,rA,↓reduceIte,reduceEqDiff,reduceAdd,reduceLeDiff,↓tyr])
 refine z16 (fun hn=>?_) (fun hn=>?_)
 ·(repeat simp -dsimp -implicitDefEqProofs (disch:=omega) only [↓rP,rA,↓reduceIte,reduceEqDiff,reduceAdd,reduceLeDiff,↓tyr])
  rw [decide_eq_false (fun e=>hn (by rw [e]))]
  exact ⟨rfl,kp⟩
 have hn:L.length=M.length:=by omega
 (repeat simp -dsimp -implicitDefEqProofs (disch:=omega) only [↓rP,rA,↓reduceIte,reduceEqDiff,reduceAdd,reduceLeDiff,↓tyr])
 obtain ⟨I,hI⟩:∃ I:Nat→Fr→z00→Prop,I=(fun n fr hh=>∃ k:Nat,n=L.length-k∧k≤L.length∧hh=h2∧L.take k=M.take k∧fr=frOf [(5,.sl a 0 L.length 1),(6,.sl b 0 M.length 1),(18,.int .i64 L.length),(19,.int .i64 k)]):=⟨_,rfl⟩
 refine z0x z08 (by kernel_rfl) I L.length (by rw [hI];exact ⟨0,rfl,Nat.zero_le _,rfl,by simp,rfl⟩) ?_
 intro n fr hh hi
 rw [hI] at hi
 obtain ⟨k,rfl,hk,rfl,hp,rfl⟩:=hi
 apply zch
 (repeat simp -dsimp -implicitDefEqProofs (disch:=omega) only [↓rP,rA,↓reduceIte,reduceEqDiff,reduceAdd,reduceLeDiff,↓tyr])
 refine z0c (fun hkl=>?_) (fun hkl=>?_)
 ·obtain ⟨x,hx⟩:∃ x,L[k]?=some x:=⟨_,List.getElem?_eq_getElem (by omega)⟩
  obtain ⟨y,hy⟩:∃ y,M[k]?=some y:=⟨_,List.getElem?_eq_getElem (by omega)⟩
  (repeat simp -dsimp -implicitDefEqProofs (disch:=omega) only [↓rP,rA,↓reduceIte,reduceEqDiff,reduceAdd,reduceLeDiff,↓tyr,ix_sl (show k<L.length by omega),ix_sl (show k<M.length by omega),ld_nsU a4 hx,ld_nsU b3 hy])
  refine z16 (fun hxy=>?_) (fun hxy=>?_)
  ·(repeat simp -dsimp -implicitDefEqProofs (disch:=omega) only [↓rP,rA,↓reduceIte,reduceEqDiff,reduceAdd,reduceLeDiff,↓tyr])
   rw [decide_eq_false (fun e=>hxy (by rw [e,hy] at hx;cases hx;rfl))]
   exact ⟨rfl,kp⟩
  ·(repeat simp -dsimp -implicitDefEqProofs (disch:=omega) only [↓rP,rA,↓reduceIte,reduceEqDiff,reduceAdd,reduceLeDiff,↓tyr,wkS k (by omega)])
   rw [z04,hI]
   refine ⟨_,by omega,k+1,rfl,by omega,rfl,?_,rfl⟩
   have:x=y:=by omega
   rw [List.take_add_one,List.take_add_one,hp,hx,hy,this]
 ·(repeat simp -dsimp -implicitDefEqProofs (disch:=omega) only [↓rP,rA,↓reduceIte,reduceEqDiff,reduceAdd,reduceLeDiff,↓tyr])
  have:k=L.length:=by omega
  subst this
  rw [List.take_length,hn,List.take_length] at hp
  rw [decide_eq_true hp]
  exact ⟨rfl,kp⟩
theorem flat_inj {c:Cd} {σ τ:Sg} (h1:Rg c σ) (h2:Rg c τ) (h:zg8 c σ=zg8 c τ):σ=τ:=by
 have len:∀ (m:Nat→Rw) (n:Nat),((List.range n).flatMap fun k=>zck (σ (m k)) (lenR c (m k))).length=((List.range n).flatMap fun k=>zck (τ (m k)) (lenR c (m k))).length:=by
  intro m n
  induction n with
  | zero=>rfl
  | succ n ih=>simp only [List.range_succ,List.flatMap_append,List.length_append,ih];simp [zck,z8x]
 have row:∀ {f g:Nat→Nat} {n:Nat},rowL f n=rowL g n→∀ k,k<n→f k=g k:=by
  intro f g n e k hk
  have:=congrArg (fun l=>l[k]?) e
  simpa [rowL,hk] using this
 have parts:∀ (m:Nat→Rw) (n:Nat),((List.range n).flatMap fun k=>zck (σ (m k)) (lenR c (m k)))=((List.range n).flatMap fun k=>zck (τ (m k)) (lenR c (m k)))→∀ k,k<n→∀ j,j<lenR c (m k)→σ (m k) j=τ (m k) j:=by
  intro m n
  induction n with
  | zero=>intro _ k hk;omega
  | succ n ih=>
   intro e k hk
   simp only [List.range_succ,List.flatMap_append] at e
   obtain ⟨e1,e2⟩:=List.append_inj e (len m n)
   by_cases hkn:k=n
   ·subst hkn
    simp [zck] at e2
    exact row e2
   ·exact ih e1 k (by omega)
 unfold zg8 at h
 obtain ⟨h,hf⟩:=List.append_inj' h (len _ _)
 obtain ⟨h,hs⟩:=List.append_inj' h (len _ _)
 obtain ⟨_,hg⟩:=List.append_inj' h (by simp [z8x])
 have key:∀ r j,j<lenR c r→σ r j=τ r j:=by
  intro r j hj
  cases r with
  | g=>exact row hg j hj
  | s t=>
   have ht:t<(slL c.Threads).length:=by
    apply Classical.byContradiction
    intro hn
    simp only [lenR,z9o] at hj
    rw [List.getElem?_eq_none (by omega)] at hj
    simp at hj
   exact parts (fun t=>.s t) _ hs t ht j hj
  | f k=>
   have hk:k<(slL c.Sites).length:=by
    apply Classical.byContradiction
    intro hn
    rw [lenR_f hn] at hj
    omega
   exact parts (fun t=>.f t) _ hf k hk j hj
 funext r j
 by_cases hj:j<lenR c r
 ·exact key r j hj
 ·have a1:σ r j=0:=by
   apply Classical.byContradiction
   intro hn;exact hj (h1 r j hn)
  have a2:τ r j=0:=by
   apply Classical.byContradiction
   intro hn;exact hj (h2 r j hn)
  rw [a1,a2]
end Go.Proofs.Ytjlogcfggfmacaa
end

section
set_option maxRecDepth 8000
set_option maxHeartbeats 1000000
namespace Go.Proofs.Ytjlogcfggfmacaa
open Go.Abs
def setP (A:Rw→AV) (i1 k1 i2 k2:Nat):List AV:=[outA i1 k1 (fun t=>A (.s t)),A .g,outA i2 k2 (fun k=>A (.f k))]
structure z7b (h hh:z00) (sid:Nat) (c:Cd) (A:Rw→AV) (i1 k1 i2 k2:Nat):Prop where
 rows:∀ r,inB k1 k2 r→(A r=.nils∧lenR c r=0)∨∃ id,A r=.sl id 0 (lenR c r) 1∧h.next<id∧id<hh.next∧hh.objs id=some (.row 56 (rowC (fun _=>0) (lenR c r)))
 none:∀ r,¬ inB k1 k2 r→A r=.nils
 one:∀ r r' id,A r=.sl id 0 (lenR c r) 1→A r'=.sl id 0 (lenR c r') 1→r=r'
 obj:hh.objs sid=some (.row 93 (setP A i1 k1 i2 k2))
 gt:h.next<sid
 lt:sid<hh.next
 t1:k1=0∨k1=(slL c.Threads).length∨(h.next<i1∧i1<hh.next∧hh.objs i1=some (.tok 49 k1))
 t2:k2=0∨(h.next<i2∧i2<hh.next∧hh.objs i2=some (.tok 49 k2))
 res:hh.objs h.next=some (.row 93 [.nils,.nils,.nils])
 keep:Keeps h hh (fun _=>False)
theorem z7b.mono {h hh h2:z00} {sid:Nat} {c:Cd} {A:Rw→AV} {i1 k1 i2 k2:Nat} (B:z7b h hh sid c A i1 k1 i2 k2) (k:Keeps hh h2 (fun _=>False)):z7b h h2 sid c A i1 k1 i2 k2:=by
 have kk:∀ {i:Nat},i<hh.next→h2.objs i=hh.objs i:=fun hi=>k.objs _ hi (fun h=>h)
 have kn:=k.next
 have:=B.gt
 have:=B.lt
 refine ⟨fun r hr=>?_,B.none,B.one,by rw [kk B.lt];exact B.obj,B.gt,by omega,?_,?_,by rw [kk (by omega)];exact B.res,B.keep.go k⟩
 ·rcases B.rows r hr with e | ⟨id,e,h1,h2,h3⟩
  ·exact Or.inl e
  ·exact Or.inr ⟨id,e,h1,by omega,by rw [kk h2];exact h3⟩
 ·rcases B.t1 with e | e | ⟨h1,h2,h3⟩
  ·exact Or.inl e
  ·exact Or.inr (Or.inl e)
  ·exact Or.inr (Or.inr ⟨h1,by omega,by rw [kk h2];exact h3⟩)
 ·rcases B.t2 with e | ⟨h1,h2,h3⟩
  ·exact Or.inl e
  ·exact Or.inr ⟨h1,by omega,by rw [kk h2];exact h3⟩
theorem z7b.more {h hA hC:z00} {sid:Nat} {c:Cd} {A A':Rw→AV} {i1 k1 i2 k2 j1 l1 j2 l2:Nat} (B:z7b h hA sid c A i1 k1 i2 k2) {r0:Rw} (h0:¬ inB k1 k2 r0) (hin:∀ r,inB l1 l2 r↔inB k1 k2 r∨r=r0)
  (hA':A'=fun r=>if r=r0 then .sl hA.next 0 (lenR c r0) 1 else A r) {S:Nat→Prop} (kC:Keeps (hA.push (.row 56 (rowC (fun _=>0) (lenR c r0)))) hC S) (hS:∀ x,S x→h.next<x∧x<hA.next∧∃ n,hA.objs x=some (.tok 49 n))
  (t1:l1=0∨l1=(slL c.Threads).length∨(h.next<j1∧j1<hC.next∧hC.objs j1=some (.tok 49 l1))) (t2:l2=0∨(h.next<j2∧j2<hC.next∧hC.objs j2=some (.tok 49 l2))) :
  z7b h (hC.put sid (.row 93 (setP A' j1 l1 j2 l2))) sid c A' j1 l1 j2 l2:=by
 have hsid:sid<hA.next:=B.lt
 have hgt:=B.gt
 have hnC:hA.next+1≤hC.next:=kC.next
 have old:∀ {x:Nat} {ty:TypeId} {cs:List AV},x<hA.next→hA.objs x=some (.row ty cs)→hC.objs x=some (.row ty cs):=by
  intro x ty cs hx ho
  have nS:¬ S x:=fun hs=>by
   obtain ⟨_,_,n,hn⟩:=hS x hs
   rw [ho] at hn;simp at hn
  rw [kC.objs x (by simp;omega) nS,z1j hx];exact ho
 have oS:hC.objs sid=_:=old hsid B.obj
 have new:hC.objs hA.next=some (.row 56 (rowC (fun _=>0) (lenR c r0))):=by
  have nS:¬ S hA.next:=fun hs=>by have:=(hS _ hs).2.1;omega
  rw [kC.objs _ (by simp) nS,z0v]
 have ne0:∀ {r},inB k1 k2 r→r≠r0:=fun h e=>h0 (e▸h)
 have aold:∀ {r},r≠r0→A' r=A r:=fun e=>by rw [hA'];simp only;rw [if_neg e]
 have anew:A' r0=.sl hA.next 0 (lenR c r0) 1:=by rw [hA'];simp
 have rlt:∀ {r id},A r=.sl id 0 (lenR c r) 1→id<hA.next∧inB k1 k2 r:=by
  intro r id e
  by_cases hr:inB k1 k2 r
  ·rcases B.rows r hr with ⟨e2,_⟩ | ⟨id2,e2,_,h2,_⟩
   ·rw [e] at e2;cases e2
   ·rw [e] at e2;cases e2
    exact ⟨h2,hr⟩
  ·have:=B.none r hr
   rw [e] at this;cases this
 have nsid:∀ {x:Nat} {cs:List AV},x<hA.next→hA.objs x=some (.row 56 cs)→x≠sid:=by
  rintro x cs _ ho rfl
  rw [B.obj] at ho
  simp at ho
 refine ⟨fun r hr=>?_,fun r hr=>?_,?_,z5c _ _ _,hgt,by simp;omega,?_,?_,?_,?_⟩
 ·rcases (hin r).1 hr with hr | rfl
  ·rcases B.rows r hr with e | ⟨id,e,g1,g2,g3⟩
   ·exact Or.inl ⟨by rw [aold (ne0 hr)];exact e.1,e.2⟩
   ·refine Or.inr ⟨id,by rw [aold (ne0 hr)];exact e,g1,by simp;omega,?_⟩
    rw [z1n (nsid g2 g3)]
    exact old g2 g3
  ·exact Or.inr ⟨hA.next,anew,by omega,by simp;omega,by rw [z1n (by omega)];exact new⟩
 ·have h1:¬ inB k1 k2 r:=fun h=>hr ((hin r).2 (Or.inl h))
  have h2:r≠r0:=fun h=>hr ((hin r).2 (Or.inr h))
  rw [aold h2];exact B.none r h1
 ·intro r r' id e e'
  by_cases h1:r=r0
  ·by_cases h2:r'=r0
   ·rw [h1,h2]
   ·rw [aold h2] at e'
    rw [h1,anew] at e
    cases e
    have:=(rlt e').1
    omega
  ·rw [aold h1] at e
   by_cases h2:r'=r0
   ·rw [h2,anew] at e'
    cases e'
    have:=(rlt e).1
    omega
   ·rw [aold h2] at e'
    exact B.one r r' id e e'
 ·rcases t1 with e | e | ⟨g1,g2,g3⟩
  ·exact Or.inl e
  ·exact Or.inr (Or.inl e)
  ·refine Or.inr (Or.inr ⟨g1,by simpa using g2,?_⟩)
   rw [z1n]
   ·exact g3
   ·rintro rfl;rw [oS] at g3;simp at g3
 ·rcases t2 with e | ⟨g1,g2,g3⟩
  ·exact Or.inl e
  ·refine Or.inr ⟨g1,by simpa using g2,?_⟩
   rw [z1n]
   ·exact g3
   ·rintro rfl;rw [oS] at g3;simp at g3
 ·rw [z1n (by omega)]
  exact old (by omega) B.res
 ·refine ⟨by have:=B.keep.next;simp;omega,fun i hi _=>?_⟩
  have hi2:=B.keep.next
  rw [z1n (by omega),kC.objs i (by simp;omega) (fun hs=>by have:=(hS i hs).1;omega),z1j (by omega)]
  exact B.keep.objs i hi (fun h=>h)
theorem z7b.nil {h hA hC:z00} {sid:Nat} {c:Cd} {A:Rw→AV} {i1 k1 i2 k2 j1 l1 j2 l2:Nat} (B:z7b h hA sid c A i1 k1 i2 k2) {r0:Rw} (hl:lenR c r0=0) (h0:¬ inB k1 k2 r0) (hin:∀ r,inB l1 l2 r↔inB k1 k2 r∨r=r0)
  {S:Nat→Prop} (kC:Keeps hA hC S) (hS:∀ x,S x→h.next<x∧x<hA.next∧∃ n,hA.objs x=some (.tok 49 n))
  (t1:l1=0∨l1=(slL c.Threads).length∨(h.next<j1∧j1<hC.next∧hC.objs j1=some (.tok 49 l1))) (t2:l2=0∨(h.next<j2∧j2<hC.next∧hC.objs j2=some (.tok 49 l2))) :
  z7b h (hC.put sid (.row 93 (setP A j1 l1 j2 l2))) sid c A j1 l1 j2 l2:=by
 have hsid:sid<hA.next:=B.lt
 have hgt:=B.gt
 have hnC:=kC.next
 have old:∀ {x:Nat} {ty:TypeId} {cs:List AV},x<hA.next→hA.objs x=some (.row ty cs)→hC.objs x=some (.row ty cs):=by
  intro x ty cs hx ho
  have nS:¬ S x:=fun hs=>by
   obtain ⟨_,_,n,hn⟩:=hS x hs
   rw [ho] at hn;simp at hn
  rw [kC.objs x hx nS];exact ho
 have oS:hC.objs sid=_:=old hsid B.obj
 have nsid:∀ {x:Nat} {cs:List AV},x<hA.next→hA.objs x=some (.row 56 cs)→x≠sid:=by
  rintro x cs _ ho rfl
  rw [B.obj] at ho
  simp at ho
 refine ⟨fun r hr=>?_,fun r hr=>B.none r (fun h=>hr ((hin r).2 (Or.inl h))),B.one,z5c _ _ _,hgt,by simp;omega,?_,?_,?_,?_⟩
 ·rcases (hin r).1 hr with hr | rfl
  ·rcases B.rows r hr with e | ⟨id,e,g1,g2,g3⟩
   ·exact Or.inl e
   ·refine Or.inr ⟨id,e,g1,by simp;omega,?_⟩
    rw [z1n (nsid g2 g3)]
    exact old g2 g3
  ·exact Or.inl ⟨B.none _ h0,hl⟩
 ·rcases t1 with e | e | ⟨g1,g2,g3⟩
  ·exact Or.inl e
  ·exact Or.inr (Or.inl e)
  ·refine Or.inr (Or.inr ⟨g1,by simpa using g2,?_⟩)
   rw [z1n]
   ·exact g3
   ·rintro rfl;rw [oS] at g3;simp at g3
 ·rcases t2 with e | ⟨g1,g2,g3⟩
  ·exact Or.inl e
  ·refine Or.inr ⟨g1,by simpa using g2,?_⟩
   rw [z1n]
   ·exact g3
   ·rintro rfl;rw [oS] at g3;simp at g3
 ·rw [z1n (by omega)]
  exact old (by omega) B.res
 ·refine ⟨by have:=B.keep.next;simp;omega,fun i hi _=>?_⟩
  have hi2:=B.keep.next
  rw [z1n (by omega),kC.objs i (by omega) (fun hs=>by have:=(hS i hs).1;omega)]
  exact B.keep.objs i hi (fun h=>h)
theorem z7b.start {h hh:z00} {sid:Nat} {c:Cd} {A:Rw→AV} {i1 i2:Nat} (B:z7b h hh sid c A i1 (slL c.Threads).length i2 (slL c.Sites).length):z3j hh c (fun _ _=>0) A∧(∀ r id,A r=.sl id 0 (lenR c r) 1→h.next<id):=by
 have hin:∀ r,¬ inB (slL c.Threads).length (slL c.Sites).length r→lenR c r=0:=by
  intro r hr
  cases r with
  | g=>exact absurd trivial hr
  | s t=>simp only [inB] at hr;simp only [lenR,z9o];rw [List.getElem?_eq_none (by omega)];rfl
  | f k=>simp only [inB] at hr;exact lenR_f hr
 refine ⟨⟨fun r=>?_,B.one⟩,fun r id e=>?_⟩
 ·by_cases hr:inB (slL c.Threads).length (slL c.Sites).length r
  ·rcases B.rows r hr with e | ⟨id,e,g1,g2,g3⟩
   ·exact Or.inl e
   ·exact Or.inr ⟨id,e,g2,g3⟩
  ·exact Or.inl ⟨B.none r hr,hin r hr⟩
 ·by_cases hr:inB (slL c.Threads).length (slL c.Sites).length r
  ·rcases B.rows r hr with ⟨e2,_⟩ | ⟨id2,e2,g1,g2,g3⟩
   ·rw [e] at e2;cases e2
   ·rw [e] at e2;cases e2
    exact g1
  ·have:=B.none r hr
   rw [e] at this;cases this
end Go.Proofs.Ytjlogcfggfmacaa
end

