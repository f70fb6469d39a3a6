/- Own texts, merged: CdRefI3, CdRefI4, CdRefI, CdRefG, CdRefH, CdRefS, CdBoth, CdEqu, ClMath, ClBits, PtSpec, CdUses, TCC, TCD, THp, THpB, THpC, THpD, THpE, THpF, THpG. -/
import Derived.Test.YtjlogcfggfmacaaGreatM5
set_option linter.unusedVariables false
set_option linter.unusedSimpArgs false
open Nat (reduceEqDiff reduceAdd reduceLeDiff)
set_option maxRecDepth 100000
set_option maxHeartbeats 4000000
namespace Go.Proofs.YtjlogcfggfmacaaGreat
section
open Go.Abs
theorem ri_3 (c:Cd) (hc:c.ok) (hs:(slL c.Sections).length<=1000000) (t a:Int) (b:Bd) (x:In) (hb:getI (slL c.Threads) t=some b) (hx:getI (slL b.Code) a=some x) (hsl:∀ l∈slL b.Slots,z1n c l=true)
  (hn:okI (slL b.Slots).length) (hit:okSl z09.ok x.Items) (hix:okSl z09.ok x.Index) (hitl:(slL x.Items).length<=1000000) (hixl:(slL x.Index).length<=1000000) (hcl:(slL b.Code).length<=1000000) (hop:x.Op=3) (h:z00) :
  z01 Tryz.prog 77 [.agg c.cells,.int .i64 t,.int .i64 a] h (λv h2=>v=.bool (z15 c t b x a&&(decide (x.Op=17) == decide (a=(slL b.Code).length-1)))/\Keeps h h2 (λ_=>False)):=by
 have kind:∀ n:Int,btw n (slL b.Slots).length=true->((gD b.Slots n).Kind=1\/(gD b.Slots n).Kind=3)->(gD b.Slots n).Rec=0:=λn hq hk=>by
  have:=hsl _ (z2g (z1q hq));unfold z1n at this;rw [if_neg (by omega)] at this;simp only [Bool.and_eq_true,decide_eq_true_eq] at this;exact this.2
 have hl:=z3l 3;have nq:(hasS 3 == [63])=false:=rfl;have f100:(hasS 3).contains 100=true:=rfl;have f115:(hasS 3).contains 115=true:=rfl;have f114:(hasS 3).contains 114=true:=rfl;have f110:(hasS 3).contains 110=true:=rfl;have f116:(hasS 3).contains 116=false:=rfl;have f105:(hasS 3).contains 105=false:=rfl;have f120:(hasS 3).contains 120=false:=rfl;have wl:IntKind.i64.wrap (((slL b.Code).length:Int)-1)=((slL b.Code).length:Int)-1:=z2f (by omega) (by omega);apply z0s
 (repeat (first | simp -dsimp -implicitDefEqProofs (disch:=omega) only [↓rP,rA,↓reduceIte,reduceEqDiff,reduceAdd,reduceLeDiff,↓tyr,ixI hb,ixI hx] | refine Cut.go ?_))
 have e2:(h.push (.row 70 b.cells)).next=h.next+1:=rfl;have o1:((h.push (.row 70 b.cells)).push (.row 56 x.cells)).objs h.next=some (.row 70 b.cells):=by simp
 have o2:((h.push (.row 70 b.cells)).push (.row 56 x.cells)).objs (h.next+1)=some (.row 56 x.cells):=by simp
 have nx:((h.push (.row 70 b.cells)).push (.row 56 x.cells)).next=h.next+2:=rfl;have kH:Keeps h ((h.push (.row 70 b.cells)).push (.row 56 x.cells)) (λ_=>False):=(Keeps.one _ _).go (Keeps.one _ _);rw [e2];generalize ((h.push (.row 70 b.cells)).push (.row 56 x.cells))=H at *;simp only [hop];obtain ⟨l1,l2,g0,g1,std,dd0,dd1,dd3,sts,ss0,ss1,ss4,stds,ds0,ds1,ds3,ds4,px,pd,qx,kDSp,kSp,kG,kD,kS,kDS⟩:=z3q o1 o2 nx kH;refine z01.go (z1k 3 _) ?_
 repeat' (first | (simp -dsimp -implicitDefEqProofs only [↓rP,rB,↓reduceIte,reduceEqDiff,reduceAdd,reduceLeDiff,↓tyr,Int.reduceBEq,Int.reduceBNe,Int.reduceLT,Int.reduceLE,decide_true,decide_false,f100,f115,f114,f110,f116,f105,f120,nq,hop,↓l1,↓l2,wl,ixI hb,ixI hx,↓g0,↓g1,↓std,↓dd0,↓dd1,↓dd3,↓sts,↓ss0,↓ss1,↓ss4,↓stds,↓ds0,↓ds1,↓ds3,↓ds4,↓px,↓pd,↓qx]) | with_reducible refine Cut.go ?_ | with_reducible refine z01.go (z5z _ hl _) ?_ | with_reducible refine z01.go (z6d _ hl _) ?_ | with_reducible refine z01.go (z6c _ hl _) ?_ | with_reducible refine z01.go (z6b _ hl _) ?_ | with_reducible refine z01.go (z6e _ hl _) ?_ | with_reducible refine z01.go (z6a _ hl _) ?_ | with_reducible refine z01.go (z6f _ hl _) ?_ | with_reducible refine z01.go (z19 _ _ _) ?_ | with_reducible refine z01.go (z1l c hs _ _ _) ?_ | with_reducible refine z01.go (z0p _ hn _ hit hitl _) ?_ | with_reducible refine z01.go (z0p _ hn _ hix hixl _) ?_ | with_reducible refine z98 (by assumption) ?_ | unfold z0k | unfold z0l | unfold z0m | unfold z0n | unfold z0o | (with_reducible refine Split.intro (λhq=>?_) (λhq=>?_) <;> (try simp only [Bool.not_eq_true',Bool.not_eq_false'] at hq) <;> (try rw [hq])))
 all_goals clear l1 l2 g0 g1 std dd0 dd1 dd3 sts ss0 ss1 ss4 stds ds0 ds1 ds3 ds4 px pd qx o1 o2
 all_goals refine And.intro (congrArg AV.bool ?_) (by first | exact kH | exact kG | exact kD _ | exact kS _ | exact kDS _ _ | exact kDSp _ _ _ | exact kSp _ _)
 all_goals clear kH kG kD kS kDS kDSp kSp nx wl nq hl f100 f115 f114 f110 f116 f105 f120 e2 hb hx hcl hixl hitl hix hit hn hs hc
 all_goals have kd:=kind x.Dst
 all_goals have ks:=kind x.Src
 all_goals clear kind
 all_goals clear hsl
 all_goals simp_all [z2j,z15,z3h,z2m,z4d,z2o,zcp,z3g,zax,zdh,z6g,z5t,List.length_pos_iff,z1q,z5s,z3r]
 all_goals try omega
 all_goals try (rw [Bool.eq_iff_iff];simp_all [beqI];try omega)
 all_goals try (split <;> simp_all)
 all_goals try omega
theorem ri_6 (c:Cd) (hc:c.ok) (hs:(slL c.Sections).length<=1000000) (t a:Int) (b:Bd) (x:In) (hb:getI (slL c.Threads) t=some b) (hx:getI (slL b.Code) a=some x) (hsl:∀ l∈slL b.Slots,z1n c l=true)
  (hn:okI (slL b.Slots).length) (hit:okSl z09.ok x.Items) (hix:okSl z09.ok x.Index) (hitl:(slL x.Items).length<=1000000) (hixl:(slL x.Index).length<=1000000) (hcl:(slL b.Code).length<=1000000) (hop:x.Op=6) (h:z00) :
  z01 Tryz.prog 77 [.agg c.cells,.int .i64 t,.int .i64 a] h (λv h2=>v=.bool (z15 c t b x a&&(decide (x.Op=17) == decide (a=(slL b.Code).length-1)))/\Keeps h h2 (λ_=>False)):=by
 have kind:∀ n:Int,btw n (slL b.Slots).length=true->((gD b.Slots n).Kind=1\/(gD b.Slots n).Kind=3)->(gD b.Slots n).Rec=0:=λn hq hk=>by
  have:=hsl _ (z2g (z1q hq));unfold z1n at this;rw [if_neg (by omega)] at this;simp only [Bool.and_eq_true,decide_eq_true_eq] at this;exact this.2
 have hl:=z3l 6;have nq:(hasS 6 == [63])=false:=rfl;have f100:(hasS 6).contains 100=false:=rfl;have f115:(hasS 6).contains 115=true:=rfl;have f114:(hasS 6).contains 114=true:=rfl;have f110:(hasS 6).contains 110=true:=rfl;have f116:(hasS 6).contains 116=false:=rfl;have f105:(hasS 6).contains 105=true:=rfl;have f120:(hasS 6).contains 120=false:=rfl;have wl:IntKind.i64.wrap (((slL b.Code).length:Int)-1)=((slL b.Code).length:Int)-1:=z2f (by omega) (by omega);apply z0s
 (repeat (first | simp -dsimp -implicitDefEqProofs (disch:=omega) only [↓rP,rA,↓reduceIte,reduceEqDiff,reduceAdd,reduceLeDiff,↓tyr,ixI hb,ixI hx] | refine Cut.go ?_))
 have e2:(h.push (.row 70 b.cells)).next=h.next+1:=rfl;have o1:((h.push (.row 70 b.cells)).push (.row 56 x.cells)).objs h.next=some (.row 70 b.cells):=by simp
 have o2:((h.push (.row 70 b.cells)).push (.row 56 x.cells)).objs (h.next+1)=some (.row 56 x.cells):=by simp
 have nx:((h.push (.row 70 b.cells)).push (.row 56 x.cells)).next=h.next+2:=rfl;have kH:Keeps h ((h.push (.row 70 b.cells)).push (.row 56 x.cells)) (λ_=>False):=(Keeps.one _ _).go (Keeps.one _ _);rw [e2];generalize ((h.push (.row 70 b.cells)).push (.row 56 x.cells))=H at *;simp only [hop];obtain ⟨l1,l2,g0,g1,std,dd0,dd1,dd3,sts,ss0,ss1,ss4,stds,ds0,ds1,ds3,ds4,px,pd,qx,kDSp,kSp,kG,kD,kS,kDS⟩:=z3q o1 o2 nx kH;refine z01.go (z1k 6 _) ?_
 repeat' (first | (simp -dsimp -implicitDefEqProofs only [↓rP,rB,↓reduceIte,reduceEqDiff,reduceAdd,reduceLeDiff,↓tyr,Int.reduceBEq,Int.reduceBNe,Int.reduceLT,Int.reduceLE,decide_true,decide_false,f100,f115,f114,f110,f116,f105,f120,nq,hop,↓l1,↓l2,wl,ixI hb,ixI hx,↓g0,↓g1,↓std,↓dd0,↓dd1,↓dd3,↓sts,↓ss0,↓ss1,↓ss4,↓stds,↓ds0,↓ds1,↓ds3,↓ds4,↓px,↓pd,↓qx]) | with_reducible refine Cut.go ?_ | with_reducible refine z01.go (z5z _ hl _) ?_ | with_reducible refine z01.go (z6d _ hl _) ?_ | with_reducible refine z01.go (z6c _ hl _) ?_ | with_reducible refine z01.go (z6b _ hl _) ?_ | with_reducible refine z01.go (z6e _ hl _) ?_ | with_reducible refine z01.go (z6a _ hl _) ?_ | with_reducible refine z01.go (z6f _ hl _) ?_ | with_reducible refine z01.go (z19 _ _ _) ?_ | with_reducible refine z01.go (z1l c hs _ _ _) ?_ | with_reducible refine z01.go (z0p _ hn _ hit hitl _) ?_ | with_reducible refine z01.go (z0p _ hn _ hix hixl _) ?_ | with_reducible refine z98 (by assumption) ?_ | unfold z0k | unfold z0l | unfold z0m | unfold z0n | unfold z0o | (with_reducible refine Split.intro (λhq=>?_) (λhq=>?_) <;> (try simp only [Bool.not_eq_true',Bool.not_eq_false'] at hq) <;> (try rw [hq])))
 all_goals clear l1 l2 g0 g1 std dd0 dd1 dd3 sts ss0 ss1 ss4 stds ds0 ds1 ds3 ds4 px pd qx o1 o2
 all_goals refine And.intro (congrArg AV.bool ?_) (by first | exact kH | exact kG | exact kD _ | exact kS _ | exact kDS _ _ | exact kDSp _ _ _ | exact kSp _ _)
 all_goals clear kH kG kD kS kDS kDSp kSp nx wl nq hl f100 f115 f114 f110 f116 f105 f120 e2 hb hx hcl hixl hitl hix hit hn hs hc
 all_goals have kd:=kind x.Dst
 all_goals have ks:=kind x.Src
 all_goals clear kind
 all_goals clear hsl
 all_goals simp_all [z2j,z15,z3h,z2m,z4d,z2o,zcp,z3g,zax,zdh,z6g,z5t,List.length_pos_iff,z1q,z5s,z3r]
 all_goals try omega
 all_goals try (rw [Bool.eq_iff_iff];simp_all [beqI];try omega)
 all_goals try (split <;> simp_all)
 all_goals try omega
end
section
open Go.Abs
theorem ri_8 (c:Cd) (hc:c.ok) (hs:(slL c.Sections).length<=1000000) (t a:Int) (b:Bd) (x:In) (hb:getI (slL c.Threads) t=some b) (hx:getI (slL b.Code) a=some x) (hsl:∀ l∈slL b.Slots,z1n c l=true)
  (hn:okI (slL b.Slots).length) (hit:okSl z09.ok x.Items) (hix:okSl z09.ok x.Index) (hitl:(slL x.Items).length<=1000000) (hixl:(slL x.Index).length<=1000000) (hcl:(slL b.Code).length<=1000000) (hop:x.Op=8) (h:z00) :
  z01 Tryz.prog 77 [.agg c.cells,.int .i64 t,.int .i64 a] h (λv h2=>v=.bool (z15 c t b x a&&(decide (x.Op=17) == decide (a=(slL b.Code).length-1)))/\Keeps h h2 (λ_=>False)):=by
 have kind:∀ n:Int,btw n (slL b.Slots).length=true->((gD b.Slots n).Kind=1\/(gD b.Slots n).Kind=3)->(gD b.Slots n).Rec=0:=λn hq hk=>by
  have:=hsl _ (z2g (z1q hq));unfold z1n at this;rw [if_neg (by omega)] at this;simp only [Bool.and_eq_true,decide_eq_true_eq] at this;exact this.2
 have hl:=z3l 8;have nq:(hasS 8 == [63])=false:=rfl;have f100:(hasS 8).contains 100=true:=rfl;have f115:(hasS 8).contains 115=false:=rfl;have f114:(hasS 8).contains 114=true:=rfl;have f110:(hasS 8).contains 110=true:=rfl;have f116:(hasS 8).contains 116=false:=rfl;have f105:(hasS 8).contains 105=false:=rfl;have f120:(hasS 8).contains 120=false:=rfl;have wl:IntKind.i64.wrap (((slL b.Code).length:Int)-1)=((slL b.Code).length:Int)-1:=z2f (by omega) (by omega);apply z0s
 (repeat (first | simp -dsimp -implicitDefEqProofs (disch:=omega) only [↓rP,rA,↓reduceIte,reduceEqDiff,reduceAdd,reduceLeDiff,↓tyr,ixI hb,ixI hx] | refine Cut.go ?_))
 have e2:(h.push (.row 70 b.cells)).next=h.next+1:=rfl;have o1:((h.push (.row 70 b.cells)).push (.row 56 x.cells)).objs h.next=some (.row 70 b.cells):=by simp
 have o2:((h.push (.row 70 b.cells)).push (.row 56 x.cells)).objs (h.next+1)=some (.row 56 x.cells):=by simp
 have nx:((h.push (.row 70 b.cells)).push (.row 56 x.cells)).next=h.next+2:=rfl;have kH:Keeps h ((h.push (.row 70 b.cells)).push (.row 56 x.cells)) (λ_=>False):=(Keeps.one _ _).go (Keeps.one _ _);rw [e2];generalize ((h.push (.row 70 b.cells)).push (.row 56 x.cells))=H at *;simp only [hop];obtain ⟨l1,l2,g0,g1,std,dd0,dd1,dd3,sts,ss0,ss1,ss4,stds,ds0,ds1,ds3,ds4,px,pd,qx,kDSp,kSp,kG,kD,kS,kDS⟩:=z3q o1 o2 nx kH;refine z01.go (z1k 8 _) ?_
 repeat' (first | (simp -dsimp -implicitDefEqProofs only [↓rP,rB,↓reduceIte,reduceEqDiff,reduceAdd,reduceLeDiff,↓tyr,Int.reduceBEq,Int.reduceBNe,Int.reduceLT,Int.reduceLE,decide_true,decide_false,f100,f115,f114,f110,f116,f105,f120,nq,hop,↓l1,↓l2,wl,ixI hb,ixI hx,↓g0,↓g1,↓std,↓dd0,↓dd1,↓dd3,↓sts,↓ss0,↓ss1,↓ss4,↓stds,↓ds0,↓ds1,↓ds3,↓ds4,↓px,↓pd,↓qx]) | with_reducible refine Cut.go ?_ | with_reducible refine z01.go (z5z _ hl _) ?_ | with_reducible refine z01.go (z6d _ hl _) ?_ | with_reducible refine z01.go (z6c _ hl _) ?_ | with_reducible refine z01.go (z6b _ hl _) ?_ | with_reducible refine z01.go (z6e _ hl _) ?_ | with_reducible refine z01.go (z6a _ hl _) ?_ | with_reducible refine z01.go (z6f _ hl _) ?_ | with_reducible refine z01.go (z19 _ _ _) ?_ | with_reducible refine z01.go (z1l c hs _ _ _) ?_ | with_reducible refine z01.go (z0p _ hn _ hit hitl _) ?_ | with_reducible refine z01.go (z0p _ hn _ hix hixl _) ?_ | with_reducible refine z98 (by assumption) ?_ | unfold z0k | unfold z0l | unfold z0m | unfold z0n | unfold z0o | (with_reducible refine Split.intro (λhq=>?_) (λhq=>?_) <;> (try simp only [Bool.not_eq_true',Bool.not_eq_false'] at hq) <;> (try rw [hq])))
 all_goals clear l1 l2 g0 g1 std dd0 dd1 dd3 sts ss0 ss1 ss4 stds ds0 ds1 ds3 ds4 px pd qx o1 o2
 all_goals refine And.intro (congrArg AV.bool ?_) (by first | exact kH | exact kG | exact kD _ | exact kS _ | exact kDS _ _ | exact kDSp _ _ _ | exact kSp _ _)
 all_goals clear kH kG kD kS kDS kDSp kSp nx wl nq hl f100 f115 f114 f110 f116 f105 f120 e2 hb hx hcl hixl hitl hix hit hn hs hc
 all_goals have kd:=kind x.Dst
 all_goals have ks:=kind x.Src
 all_goals clear kind
 all_goals clear hsl
 all_goals simp_all [z2j,z15,z3h,z2m,z4d,z2o,zcp,z3g,zax,zdh,z6g,z5t,List.length_pos_iff,z1q,z5s,z3r]
 all_goals try omega
 all_goals try (rw [Bool.eq_iff_iff];simp_all [beqI];try omega)
 all_goals try (split <;> simp_all)
 all_goals try omega
theorem ri_9 (c:Cd) (hc:c.ok) (hs:(slL c.Sections).length<=1000000) (t a:Int) (b:Bd) (x:In) (hb:getI (slL c.Threads) t=some b) (hx:getI (slL b.Code) a=some x) (hsl:∀ l∈slL b.Slots,z1n c l=true)
  (hn:okI (slL b.Slots).length) (hit:okSl z09.ok x.Items) (hix:okSl z09.ok x.Index) (hitl:(slL x.Items).length<=1000000) (hixl:(slL x.Index).length<=1000000) (hcl:(slL b.Code).length<=1000000) (hop:x.Op=9) (h:z00) :
  z01 Tryz.prog 77 [.agg c.cells,.int .i64 t,.int .i64 a] h (λv h2=>v=.bool (z15 c t b x a&&(decide (x.Op=17) == decide (a=(slL b.Code).length-1)))/\Keeps h h2 (λ_=>False)):=by
 have kind:∀ n:Int,btw n (slL b.Slots).length=true->((gD b.Slots n).Kind=1\/(gD b.Slots n).Kind=3)->(gD b.Slots n).Rec=0:=λn hq hk=>by
  have:=hsl _ (z2g (z1q hq));unfold z1n at this;rw [if_neg (by omega)] at this;simp only [Bool.and_eq_true,decide_eq_true_eq] at this;exact this.2
 have hl:=z3l 9;have nq:(hasS 9 == [63])=false:=rfl;have f100:(hasS 9).contains 100=true:=rfl;have f115:(hasS 9).contains 115=false:=rfl;have f114:(hasS 9).contains 114=false:=rfl;have f110:(hasS 9).contains 110=true:=rfl;have f116:(hasS 9).contains 116=false:=rfl;have f105:(hasS 9).contains 105=true:=rfl;have f120:(hasS 9).contains 120=false:=rfl;have wl:IntKind.i64.wrap (((slL b.Code).length:Int)-1)=((slL b.Code).length:Int)-1:=z2f (by omega) (by omega);apply z0s
 (repeat (first | simp -dsimp -implicitDefEqProofs (disch:=omega) only [↓rP,rA,↓reduceIte,reduceEqDiff,reduceAdd,reduceLeDiff,↓tyr,ixI hb,ixI hx] | refine Cut.go ?_))
 have e2:(h.push (.row 70 b.cells)).next=h.next+1:=rfl;have o1:((h.push (.row 70 b.cells)).push (.row 56 x.cells)).objs h.next=some (.row 70 b.cells):=by simp
 have o2:((h.push (.row 70 b.cells)).push (.row 56 x.cells)).objs (h.next+1)=some (.row 56 x.cells):=by simp
 have nx:((h.push (.row 70 b.cells)).push (.row 56 x.cells)).next=h.next+2:=rfl;have kH:Keeps h ((h.push (.row 70 b.cells)).push (.row 56 x.cells)) (λ_=>False):=(Keeps.one _ _).go (Keeps.one _ _);rw [e2];generalize ((h.push (.row 70 b.cells)).push (.row 56 x.cells))=H at *;simp only [hop];obtain ⟨l1,l2,g0,g1,std,dd0,dd1,dd3,sts,ss0,ss1,ss4,stds,ds0,ds1,ds3,ds4,px,pd,qx,kDSp,kSp,kG,kD,kS,kDS⟩:=z3q o1 o2 nx kH;refine z01.go (z1k 9 _) ?_
 repeat' (first | (simp -dsimp -implicitDefEqProofs only [↓rP,rB,↓reduceIte,reduceEqDiff,reduceAdd,reduceLeDiff,↓tyr,Int.reduceBEq,Int.reduceBNe,Int.reduceLT,Int.reduceLE,decide_true,decide_false,f100,f115,f114,f110,f116,f105,f120,nq,hop,↓l1,↓l2,wl,ixI hb,ixI hx,↓g0,↓g1,↓std,↓dd0,↓dd1,↓dd3,↓sts,↓ss0,↓ss1,↓ss4,↓stds,↓ds0,↓ds1,↓ds3,↓ds4,↓px,↓pd,↓qx]) | with_reducible refine Cut.go ?_ | with_reducible refine z01.go (z5z _ hl _) ?_ | with_reducible refine z01.go (z6d _ hl _) ?_ | with_reducible refine z01.go (z6c _ hl _) ?_ | with_reducible refine z01.go (z6b _ hl _) ?_ | with_reducible refine z01.go (z6e _ hl _) ?_ | with_reducible refine z01.go (z6a _ hl _) ?_ | with_reducible refine z01.go (z6f _ hl _) ?_ | with_reducible refine z01.go (z19 _ _ _) ?_ | with_reducible refine z01.go (z1l c hs _ _ _) ?_ | with_reducible refine z01.go (z0p _ hn _ hit hitl _) ?_ | with_reducible refine z01.go (z0p _ hn _ hix hixl _) ?_ | with_reducible refine z98 (by assumption) ?_ | unfold z0k | unfold z0l | unfold z0m | unfold z0n | unfold z0o | (with_reducible refine Split.intro (λhq=>?_) (λhq=>?_) <;> (try simp only [Bool.not_eq_true',Bool.not_eq_false'] at hq) <;> (try rw [hq])))
 all_goals clear l1 l2 g0 g1 std dd0 dd1 dd3 sts ss0 ss1 ss4 stds ds0 ds1 ds3 ds4 px pd qx o1 o2
 all_goals refine And.intro (congrArg AV.bool ?_) (by first | exact kH | exact kG | exact kD _ | exact kS _ | exact kDS _ _ | exact kDSp _ _ _ | exact kSp _ _)
 all_goals clear kH kG kD kS kDS kDSp kSp nx wl nq hl f100 f115 f114 f110 f116 f105 f120 e2 hb hx hcl hixl hitl hix hit hn hs hc
 all_goals have kd:=kind x.Dst
 all_goals have ks:=kind x.Src
 all_goals clear kind
 all_goals clear hsl
 all_goals simp_all [z2j,z15,z3h,z2m,z4d,z2o,zcp,z3g,zax,zdh,z6g,z5t,List.length_pos_iff,z1q,z5s,z3r]
 all_goals try omega
 all_goals try (rw [Bool.eq_iff_iff];simp_all [beqI];try omega)
 all_goals try (split <;> simp_all)
 all_goals try omega
theorem ri_15 (c:Cd) (hc:c.ok) (hs:(slL c.Sections).length<=1000000) (t a:Int) (b:Bd) (x:In) (hb:getI (slL c.Threads) t=some b) (hx:getI (slL b.Code) a=some x) (hsl:∀ l∈slL b.Slots,z1n c l=true)
  (hn:okI (slL b.Slots).length) (hit:okSl z09.ok x.Items) (hix:okSl z09.ok x.Index) (hitl:(slL x.Items).length<=1000000) (hixl:(slL x.Index).length<=1000000) (hcl:(slL b.Code).length<=1000000) (hop:x.Op=15) (h:z00) :
  z01 Tryz.prog 77 [.agg c.cells,.int .i64 t,.int .i64 a] h (λv h2=>v=.bool (z15 c t b x a&&(decide (x.Op=17) == decide (a=(slL b.Code).length-1)))/\Keeps h h2 (λ_=>False)):=by
 have kind:∀ n:Int,btw n (slL b.Slots).length=true->((gD b.Slots n).Kind=1\/(gD b.Slots n).Kind=3)->(gD b.Slots n).Rec=0:=λn hq hk=>by
  have:=hsl _ (z2g (z1q hq));unfold z1n at this;rw [if_neg (by omega)] at this;simp only [Bool.and_eq_true,decide_eq_true_eq] at this;exact this.2
 have hl:=z3l 15;have nq:(hasS 15 == [63])=false:=rfl;have f100:(hasS 15).contains 100=false:=rfl;have f115:(hasS 15).contains 115=false:=rfl;have f114:(hasS 15).contains 114=false:=rfl;have f110:(hasS 15).contains 110=true:=rfl;have f116:(hasS 15).contains 116=false:=rfl;have f105:(hasS 15).contains 105=false:=rfl;have f120:(hasS 15).contains 120=false:=rfl;have wl:IntKind.i64.wrap (((slL b.Code).length:Int)-1)=((slL b.Code).length:Int)-1:=z2f (by omega) (by omega);apply z0s
 (repeat (first | simp -dsimp -implicitDefEqProofs (disch:=omega) only [↓rP,rA,↓reduceIte,reduceEqDiff,reduceAdd,reduceLeDiff,↓tyr,ixI hb,ixI hx] | refine Cut.go ?_))
 have e2:(h.push (.row 70 b.cells)).next=h.next+1:=rfl;have o1:((h.push (.row 70 b.cells)).push (.row 56 x.cells)).objs h.next=some (.row 70 b.cells):=by simp
 have o2:((h.push (.row 70 b.cells)).push (.row 56 x.cells)).objs (h.next+1)=some (.row 56 x.cells):=by simp
 have nx:((h.push (.row 70 b.cells)).push (.row 56 x.cells)).next=h.next+2:=rfl;have kH:Keeps h ((h.push (.row 70 b.cells)).push (.row 56 x.cells)) (λ_=>False):=(Keeps.one _ _).go (Keeps.one _ _);rw [e2];generalize ((h.push (.row 70 b.cells)).push (.row 56 x.cells))=H at *;simp only [hop];obtain ⟨l1,l2,g0,g1,std,dd0,dd1,dd3,sts,ss0,ss1,ss4,stds,ds0,ds1,ds3,ds4,px,pd,qx,kDSp,kSp,kG,kD,kS,kDS⟩:=z3q o1 o2 nx kH;refine z01.go (z1k 15 _) ?_
 repeat' (first | (simp -dsimp -implicitDefEqProofs only [↓rP,rB,↓reduceIte,reduceEqDiff,reduceAdd,reduceLeDiff,↓tyr,Int.reduceBEq,Int.reduceBNe,Int.reduceLT,Int.reduceLE,decide_true,decide_false,f100,f115,f114,f110,f116,f105,f120,nq,hop,↓l1,↓l2,wl,ixI hb,ixI hx,↓g0,↓g1,↓std,↓dd0,↓dd1,↓dd3,↓sts,↓ss0,↓ss1,↓ss4,↓stds,↓ds0,↓ds1,↓ds3,↓ds4,↓px,↓pd,↓qx]) | with_reducible refine Cut.go ?_ | with_reducible refine z01.go (z5z _ hl _) ?_ | with_reducible refine z01.go (z6d _ hl _) ?_ | with_reducible refine z01.go (z6c _ hl _) ?_ | with_reducible refine z01.go (z6b _ hl _) ?_ | with_reducible refine z01.go (z6e _ hl _) ?_ | with_reducible refine z01.go (z6a _ hl _) ?_ | with_reducible refine z01.go (z6f _ hl _) ?_ | with_reducible refine z01.go (z19 _ _ _) ?_ | with_reducible refine z01.go (z1l c hs _ _ _) ?_ | with_reducible refine z01.go (z0p _ hn _ hit hitl _) ?_ | with_reducible refine z01.go (z0p _ hn _ hix hixl _) ?_ | with_reducible refine z98 (by assumption) ?_ | unfold z0k | unfold z0l | unfold z0m | unfold z0n | unfold z0o | (with_reducible refine Split.intro (λhq=>?_) (λhq=>?_) <;> (try simp only [Bool.not_eq_true',Bool.not_eq_false'] at hq) <;> (try rw [hq])))
 all_goals clear l1 l2 g0 g1 std dd0 dd1 dd3 sts ss0 ss1 ss4 stds ds0 ds1 ds3 ds4 px pd qx o1 o2
 all_goals refine And.intro (congrArg AV.bool ?_) (by first | exact kH | exact kG | exact kD _ | exact kS _ | exact kDS _ _ | exact kDSp _ _ _ | exact kSp _ _)
 all_goals clear kH kG kD kS kDS kDSp kSp nx wl nq hl f100 f115 f114 f110 f116 f105 f120 e2 hb hx hcl hixl hitl hix hit hn hs hc
 all_goals have kd:=kind x.Dst
 all_goals have ks:=kind x.Src
 all_goals clear kind
 all_goals clear hsl
 all_goals simp_all [z2j,z15,z3h,z2m,z4d,z2o,zcp,z3g,zax,zdh,z6g,z5t,List.length_pos_iff,z1q,z5s,z3r]
 all_goals try omega
 all_goals try (rw [Bool.eq_iff_iff];simp_all [beqI];try omega)
 all_goals try (split <;> simp_all)
 all_goals try omega
theorem ri_16 (c:Cd) (hc:c.ok) (hs:(slL c.Sections).length<=1000000) (t a:Int) (b:Bd) (x:In) (hb:getI (slL c.Threads) t=some b) (hx:getI (slL b.Code) a=some x) (hsl:∀ l∈slL b.Slots,z1n c l=true)
  (hn:okI (slL b.Slots).length) (hit:okSl z09.ok x.Items) (hix:okSl z09.ok x.Index) (hitl:(slL x.Items).length<=1000000) (hixl:(slL x.Index).length<=1000000) (hcl:(slL b.Code).length<=1000000) (hop:x.Op=16) (h:z00) :
  z01 Tryz.prog 77 [.agg c.cells,.int .i64 t,.int .i64 a] h (λv h2=>v=.bool (z15 c t b x a&&(decide (x.Op=17) == decide (a=(slL b.Code).length-1)))/\Keeps h h2 (λ_=>False)):=by
 have kind:∀ n:Int,btw n (slL b.Slots).length=true->((gD b.Slots n).Kind=1\/(gD b.Slots n).Kind=3)->(gD b.Slots n).Rec=0:=λn hq hk=>by
  have:=hsl _ (z2g (z1q hq));unfold z1n at this;rw [if_neg (by omega)] at this;simp only [Bool.and_eq_true,decide_eq_true_eq] at this;exact this.2
 have hl:=z3l 16;have nq:(hasS 16 == [63])=false:=rfl;have f100:(hasS 16).contains 100=false:=rfl;have f115:(hasS 16).contains 115=false:=rfl;have f114:(hasS 16).contains 114=false:=rfl;have f110:(hasS 16).contains 110=true:=rfl;have f116:(hasS 16).contains 116=false:=rfl;have f105:(hasS 16).contains 105=false:=rfl;have f120:(hasS 16).contains 120=false:=rfl;have wl:IntKind.i64.wrap (((slL b.Code).length:Int)-1)=((slL b.Code).length:Int)-1:=z2f (by omega) (by omega);apply z0s
 (repeat (first | simp -dsimp -implicitDefEqProofs (disch:=omega) only [↓rP,rA,↓reduceIte,reduceEqDiff,reduceAdd,reduceLeDiff,↓tyr,ixI hb,ixI hx] | refine Cut.go ?_))
 have e2:(h.push (.row 70 b.cells)).next=h.next+1:=rfl;have o1:((h.push (.row 70 b.cells)).push (.row 56 x.cells)).objs h.next=some (.row 70 b.cells):=by simp
 have o2:((h.push (.row 70 b.cells)).push (.row 56 x.cells)).objs (h.next+1)=some (.row 56 x.cells):=by simp
 have nx:((h.push (.row 70 b.cells)).push (.row 56 x.cells)).next=h.next+2:=rfl;have kH:Keeps h ((h.push (.row 70 b.cells)).push (.row 56 x.cells)) (λ_=>False):=(Keeps.one _ _).go (Keeps.one _ _);rw [e2];generalize ((h.push (.row 70 b.cells)).push (.row 56 x.cells))=H at *;simp only [hop];obtain ⟨l1,l2,g0,g1,std,dd0,dd1,dd3,sts,ss0,ss1,ss4,stds,ds0,ds1,ds3,ds4,px,pd,qx,kDSp,kSp,kG,kD,kS,kDS⟩:=z3q o1 o2 nx kH;refine z01.go (z1k 16 _) ?_
 repeat' (first | (simp -dsimp -implicitDefEqProofs only [↓rP,rB,↓reduceIte,reduceEqDiff,reduceAdd,reduceLeDiff,↓tyr,Int.reduceBEq,Int.reduceBNe,Int.reduceLT,Int.reduceLE,decide_true,decide_false,f100,f115,f114,f110,f116,f105,f120,nq,hop,↓l1,↓l2,wl,ixI hb,ixI hx,↓g0,↓g1,↓std,↓dd0,↓dd1,↓dd3,↓sts,↓ss0,↓ss1,↓ss4,↓stds,↓ds0,↓ds1,↓ds3,↓ds4,↓px,↓pd,↓qx]) | with_reducible refine Cut.go ?_ | with_reducible refine z01.go (z5z _ hl _) ?_ | with_reducible refine z01.go (z6d _ hl _) ?_ | with_reducible refine z01.go (z6c _ hl _) ?_ | with_reducible refine z01.go (z6b _ hl _) ?_ | with_reducible refine z01.go (z6e _ hl _) ?_ | with_reducible refine z01.go (z6a _ hl _) ?_ | with_reducible refine z01.go (z6f _ hl _) ?_ | with_reducible refine z01.go (z19 _ _ _) ?_ | with_reducible refine z01.go (z1l c hs _ _ _) ?_ | with_reducible refine z01.go (z0p _ hn _ hit hitl _) ?_ | with_reducible refine z01.go (z0p _ hn _ hix hixl _) ?_ | with_reducible refine z98 (by assumption) ?_ | unfold z0k | unfold z0l | unfold z0m | unfold z0n | unfold z0o | (with_reducible refine Split.intro (λhq=>?_) (λhq=>?_) <;> (try simp only [Bool.not_eq_true',Bool.not_eq_false'] at hq) <;> (try rw [hq])))
 all_goals clear l1 l2 g0 g1 std dd0 dd1 dd3 sts ss0 ss1 ss4 stds ds0 ds1 ds3 ds4 px pd qx o1 o2
 all_goals refine And.intro (congrArg AV.bool ?_) (by first | exact kH | exact kG | exact kD _ | exact kS _ | exact kDS _ _ | exact kDSp _ _ _ | exact kSp _ _)
 all_goals clear kH kG kD kS kDS kDSp kSp nx wl nq hl f100 f115 f114 f110 f116 f105 f120 e2 hb hx hcl hixl hitl hix hit hn hs hc
 all_goals have kd:=kind x.Dst
 all_goals have ks:=kind x.Src
 all_goals clear kind
 all_goals clear hsl
 all_goals simp_all [z2j,z15,z3h,z2m,z4d,z2o,zcp,z3g,zax,zdh,z6g,z5t,List.length_pos_iff,z1q,z5s,z3r]
 all_goals try omega
 all_goals try (rw [Bool.eq_iff_iff];simp_all [beqI];try omega)
 all_goals try (split <;> simp_all)
 all_goals try omega
end
section
open Go.Abs
noncomputable def z9r (c:Cd) (t:Int) (b:Bd) (x:In) (a:Int):Bool:=z15 c t b x a&&(decide (x.Op=17) == decide (a=(slL b.Code).length-1))
theorem zxb {c:Cd} {t:Int} {b:Bd} {x:In} {a:Int} (ho:x.Op<1\/17<x.Op):z15 c t b x a=false:=by
 unfold z15;rw [if_neg (by omega),if_neg (by omega),if_neg (by omega),if_neg (by omega),if_neg (by omega),if_neg (by omega),if_neg (by omega),if_neg (by omega)];have:decide (x.Op=17)=false:=decide_eq_false (by omega);simp [this]
theorem ri_0 (c:Cd) (t a:Int) (b:Bd) (x:In) (hb:getI (slL c.Threads) t=some b) (hx:getI (slL b.Code) a=some x) (ho:x.Op<1\/17<x.Op) (h:z00) :
  z01 Tryz.prog 77 [.agg c.cells,.int .i64 t,.int .i64 a] h (λv h2=>v=.bool (z9r c t b x a)/\Keeps h h2 (λ_=>False)):=by
 have hs:hasS x.Op=[63]:=by unfold hasS;rw [if_pos (by omega)]
 have nq:([63] == ([63]:List UInt8))=true:=rfl;apply z0s
 (repeat (first | simp -dsimp -implicitDefEqProofs (disch:=omega) only [↓rP,rA,↓reduceIte,reduceEqDiff,reduceAdd,reduceLeDiff,↓tyr,ixI hb,ixI hx] | refine Cut.go ?_))
 refine z01.go (z1k x.Op _) ?_;rw [hs]
 repeat' (first | (simp -dsimp -implicitDefEqProofs only [↓rP,rB,↓reduceIte,reduceEqDiff,reduceAdd,reduceLeDiff,↓tyr,Int.reduceBEq,Int.reduceBNe,Int.reduceLT,Int.reduceLE,decide_true,decide_false,nq]) | with_reducible refine Cut.go ?_ | unfold z0k | unfold z0l | unfold z0m | unfold z0n | unfold z0o)
 unfold z9r;rw [zxb ho];exact ⟨rfl,(Keeps.one _ _).go (Keeps.one _ _)⟩
theorem zqd (c:Cd) (hc:c.ok) (sm:Small c) (t a:Int) (b:Bd) (x:In) (hb:getI (slL c.Threads) t=some b) (hx:getI (slL b.Code) a=some x) (hsl:∀ l∈slL b.Slots,z1n c l=true) (h:z00) :
  z01 Tryz.prog 77 [.agg c.cells,.int .i64 t,.int .i64 a] h (λv h2=>v=.bool (z9r c t b x a)/\h2=h):=by
 have mb:=z2g hb;have mx:=z2g hx;have hs:(slL c.Sections).length<=1000000:=by have:=sm.secs;omega
 have h1:=sm.slots b mb;have h2:=sm.code b mb;have h3:=sm.items b mb x mx;have h4:=sm.index b mb x mx;have hxo:=(hc.2.2.1.2 b mb).2.1.2 x mx;have hit:=hxo.2.2.2.2.2.2.1;have hix:=hxo.2.2.2.2.2.2.2;have hn:okI (slL b.Slots).length:=by unfold okI;omega
 refine z01.forget (by simp [z1x]) ?_;unfold z9r;rcases (by omega:(x.Op<1\/17<x.Op)\/x.Op=1\/x.Op=2\/x.Op=3\/x.Op=4\/x.Op=5\/x.Op=6\/x.Op=7\/x.Op=8\/x.Op=9\/x.Op=10\/x.Op=11\/x.Op=12\/x.Op=13\/x.Op=14\/x.Op=15\/x.Op=16\/x.Op=17) with ho | ho | ho | ho | ho | ho | ho | ho | ho | ho | ho | ho | ho | ho | ho | ho | ho | ho
 ·exact ri_0 c t a b x hb hx ho h
 ·exact ri_1 c hc hs t a b x hb hx hsl hn hit hix (by omega) (by omega) (by omega) ho h
 ·exact ri_2 c hc hs t a b x hb hx hsl hn hit hix (by omega) (by omega) (by omega) ho h
 ·exact ri_3 c hc hs t a b x hb hx hsl hn hit hix (by omega) (by omega) (by omega) ho h
 ·exact ri_4 c hc hs t a b x hb hx hsl hn hit hix (by omega) (by omega) (by omega) ho h
 ·exact ri_5 c hc hs t a b x hb hx hsl hn hit hix (by omega) (by omega) (by omega) ho h
 ·exact ri_6 c hc hs t a b x hb hx hsl hn hit hix (by omega) (by omega) (by omega) ho h
 ·exact ri_7 c hc hs t a b x hb hx hsl hn hit hix (by omega) (by omega) (by omega) ho h
 ·exact ri_8 c hc hs t a b x hb hx hsl hn hit hix (by omega) (by omega) (by omega) ho h
 ·exact ri_9 c hc hs t a b x hb hx hsl hn hit hix (by omega) (by omega) (by omega) ho h
 ·exact ri_10 c hc hs t a b x hb hx hsl hn hit hix (by omega) (by omega) (by omega) ho h
 ·exact ri_11 c hc hs t a b x hb hx hsl hn hit hix (by omega) (by omega) (by omega) ho h
 ·exact ri_12 c hc hs t a b x hb hx hsl hn hit hix (by omega) (by omega) (by omega) ho h
 ·exact ri_13 c hc hs t a b x hb hx hsl hn hit hix (by omega) (by omega) (by omega) ho h
 ·exact ri_14 c hc hs t a b x hb hx hsl hn hit hix (by omega) (by omega) (by omega) ho h
 ·exact ri_15 c hc hs t a b x hb hx hsl hn hit hix (by omega) (by omega) (by omega) ho h
 ·exact ri_16 c hc hs t a b x hb hx hsl hn hit hix (by omega) (by omega) (by omega) ho h
 ·exact ri_17 c hc hs t a b x hb hx hsl hn hit hix (by omega) (by omega) (by omega) ho h
end
section
open Go.Abs
theorem zya {α:Type} {p:α->Bool} {l:List α} {k:Nat} {x:α} (hx:l[k]?=some x) (hp:p x=false):l.all p=false:=List.all_eq_false.2 ⟨x,List.mem_of_getElem? hx,by simp [hp]⟩
theorem zwr {α:Type} {p:α->Bool} {l:List α} (h:upTo (λ_ x=>p x) l l.length):l.all p=true:=by
 rw [List.all_eq_true];intro x hx;obtain ⟨k,hk⟩:=List.getElem?_of_mem hx;exact h k x (List.getElem?_eq_some_iff.1 hk).1 hk
theorem g_cells (c:Cd) (o:Option (List Lo)) (hl:(slL o).length<=1000000) (a57 a58 a59:AV) (h0:z00) (Q:z1p->Fr->z00->Prop)
  (hret:∀ h2,(slL o).all (λx=>!x.Once&&z1n c x)=false->Keeps h0 h2 (λ_=>False)->Q .ret (frOf [(2,.bool false)]) h2)
  (hex:∀ h2,(slL o).all (λx=>!x.Once&&z1n c x)=true->Keeps h0 h2 (λ_=>False)->Q (.exit 2) (frOf [(1,.iptr c.cells),(57,a57),(58,a58),(59,a59)]) h2) :
  WP Tryz.prog 324 (.loop z2s) (frOf [(1,.iptr c.cells),(57,a57),(58,a58),(59,a59),(71,slAV 3 z0b.cells o),(72,.int .i64 (slL o).length),(73,.int .i64 0)]) h0 Q:=by
 obtain ⟨I,hI⟩:∃ I:Nat->Fr->z00->Prop,I=(λn fr hh=>∃ k:Nat,k<=(slL o).length/\n=(slL o).length-k/\upTo (λ_ x=>!x.Once&&z1n c x) (slL o) k/\Keeps h0 hh (λ_=>False)/\fr=frOf [(1,.iptr c.cells),(57,a57),(58,a58),(59,a59),(71,slAV 3 z0b.cells o),(72,.int .i64 (slL o).length),(73,.int .i64 k)]):=⟨_,rfl⟩;refine z14 z07 (by kernel_rfl) I (slL o).length (by rw [hI];exact ⟨0,by omega,by omega,z3s _ _,.refl _ _,rfl⟩) ?_;intro n fr hh H;rw [hI] at H;obtain ⟨k,hk,rfl,hup,kp,rfl⟩:=H;apply zbg
 (repeat simp -dsimp -implicitDefEqProofs (disch:=omega) only [↓rP,rA,↓reduceIte,reduceEqDiff,reduceAdd,reduceLeDiff,↓tyr])
 refine z0c (λhkl=>?_) (λhkl=>?_)
 ·obtain ⟨x,hx⟩:∃ x,(slL o)[k]?=some x:=⟨_,List.getElem?_eq_getElem (by omega)⟩;have kp1:=kp.go (Keeps.one hh (.row 147 x.cells));have on:(!x.Once&&z1n c x)=true->z3d I ((slL o).length-k) Q .normal (frOf [(1,.iptr c.cells),(57,a57),(58,a58),(59,a59),(71,slAV 3 z0b.cells o),(72,.int .i64 (slL o).length),(73,.int .i64 (k+1:Nat))]) (hh.push (.row 147 x.cells)):=λhp=>by
   rw [z05,hI];exact ⟨_,by omega,k+1,by omega,rfl,z3c hup hx hp,kp1,rfl⟩
  have no:(!x.Once&&z1n c x)=false->Q .ret (frOf [(2,.bool false)]) (hh.push (.row 147 x.cells)):=λhp=>hret _ (zya hx hp) kp1
  (repeat simp -dsimp -implicitDefEqProofs (disch:=omega) only [↓rP,rA,↓reduceIte,reduceEqDiff,reduceAdd,reduceLeDiff,↓tyr,z03 hx])
  rcases ho:x.Once with _ | _
  ·(repeat simp -dsimp -implicitDefEqProofs (disch:=omega) only [↓rP,rA,↓reduceIte,reduceEqDiff,reduceAdd,reduceLeDiff,↓tyr,ho])
   refine z01.go (zi3 c x _) ?_;rcases hb:z1n c x with _ | _
   ·(repeat simp -dsimp -implicitDefEqProofs (disch:=omega) only [↓rP,rA,↓reduceIte,reduceEqDiff,reduceAdd,reduceLeDiff,↓tyr,ho,Bool.not_false])
    exact no (by rw [ho,hb];rfl)
   ·(repeat simp -dsimp -implicitDefEqProofs (disch:=omega) only [↓rP,rA,↓reduceIte,reduceEqDiff,reduceAdd,reduceLeDiff,↓tyr,ho,Bool.not_true,wkS k (by omega)])
    exact on (by rw [ho,hb];rfl)
  ·(repeat simp -dsimp -implicitDefEqProofs (disch:=omega) only [↓rP,rA,↓reduceIte,reduceEqDiff,reduceAdd,reduceLeDiff,↓tyr,ho])
   exact no (by rw [ho];rfl)
 ·have hke:k=(slL o).length:=by omega
  subst hke
  (repeat simp -dsimp -implicitDefEqProofs (disch:=omega) only [↓rP,rA,↓reduceIte,reduceEqDiff,reduceAdd,reduceLeDiff,↓tyr])
  exact hex hh (zwr hup) kp
theorem g_slots (c:Cd) (o:Option (List Lo)) (hl:(slL o).length<=1000000) (a88 a89 a90:AV) (h0:z00) (Q:z1p->Fr->z00->Prop)
  (hret:∀ h2,(slL o).all (z1n c)=false->Keeps h0 h2 (λ_=>False)->Q .ret (frOf [(2,.bool false)]) h2)
  (hex:∀ h2,(slL o).all (z1n c)=true->Keeps h0 h2 (λ_=>False)->Q (.exit 6) (frOf [(1,.iptr c.cells),(88,a88),(89,a89),(90,a90)]) h2) :
  WP Tryz.prog 324 (.loop z4f) (frOf [(1,.iptr c.cells),(88,a88),(89,a89),(90,a90),(121,slAV 3 z0b.cells o),(122,.int .i64 (slL o).length),(123,.int .i64 0)]) h0 Q:=by
 obtain ⟨I,hI⟩:∃ I:Nat->Fr->z00->Prop,I=(λn fr hh=>∃ k:Nat,k<=(slL o).length/\n=(slL o).length-k/\upTo (λ_ x=>z1n c x) (slL o) k/\Keeps h0 hh (λ_=>False)/\fr=frOf [(1,.iptr c.cells),(88,a88),(89,a89),(90,a90),(121,slAV 3 z0b.cells o),(122,.int .i64 (slL o).length),(123,.int .i64 k)]):=⟨_,rfl⟩;refine z14 z07 (by kernel_rfl) I (slL o).length (by rw [hI];exact ⟨0,by omega,by omega,z3s _ _,.refl _ _,rfl⟩) ?_;intro n fr hh H;rw [hI] at H;obtain ⟨k,hk,rfl,hup,kp,rfl⟩:=H;apply zbi
 (repeat simp -dsimp -implicitDefEqProofs (disch:=omega) only [↓rP,rA,↓reduceIte,reduceEqDiff,reduceAdd,reduceLeDiff,↓tyr])
 refine z0c (λhkl=>?_) (λhkl=>?_)
 ·obtain ⟨x,hx⟩:∃ x,(slL o)[k]?=some x:=⟨_,List.getElem?_eq_getElem (by omega)⟩;have kp1:=kp.go (Keeps.one hh (.row 147 x.cells))
  (repeat simp -dsimp -implicitDefEqProofs (disch:=omega) only [↓rP,rA,↓reduceIte,reduceEqDiff,reduceAdd,reduceLeDiff,↓tyr,z03 hx])
  refine z01.go (zi3 c x _) ?_;rcases hb:z1n c x with _ | _
  ·(repeat simp -dsimp -implicitDefEqProofs (disch:=omega) only [↓rP,rA,↓reduceIte,reduceEqDiff,reduceAdd,reduceLeDiff,↓tyr,Bool.not_false])
   exact hret _ (zya hx hb) kp1
  ·(repeat simp -dsimp -implicitDefEqProofs (disch:=omega) only [↓rP,rA,↓reduceIte,reduceEqDiff,reduceAdd,reduceLeDiff,↓tyr,Bool.not_true,wkS k (by omega)])
   rw [z05,hI];exact ⟨_,by omega,k+1,by omega,rfl,z3c hup hx hb,kp1,rfl⟩
 ·have hke:k=(slL o).length:=by omega
  subst hke
  (repeat simp -dsimp -implicitDefEqProofs (disch:=omega) only [↓rP,rA,↓reduceIte,reduceEqDiff,reduceAdd,reduceLeDiff,↓tyr])
  exact hex hh (zwr hup) kp
theorem g_instrs (c:Cd) (hc:c.ok) (sm:Small c) (i:Nat) (b:Bd) (hb:(slL c.Threads)[i]?=some b) (hsl:∀ l∈slL b.Slots,z1n c l=true) (a304 a305 a306:AV) (h0:z00) (Q:z1p->Fr->z00->Prop)
  (hret:allK (λk x=>z9r c i b x k) (slL b.Code)=false->Q .ret (frOf [(2,.bool false)]) h0)
  (hex:allK (λk x=>z9r c i b x k) (slL b.Code)=true->Q (.exit 16) (frOf [(1,.iptr c.cells),(304,a304),(305,a305),(306,a306)]) h0) :
  WP Tryz.prog 324 (.loop z4k) (frOf [(1,.iptr c.cells),(20,.int .i64 i),(304,a304),(305,a305),(306,a306),(313,.int .i64 (slL b.Code).length),(314,.int .i64 0)]) h0 Q:=by
 have hcl:=sm.code b (List.mem_of_getElem? hb);obtain ⟨I,hI⟩:∃ I:Nat->Fr->z00->Prop,I=(λn fr hh=>∃ k:Nat,k<=(slL b.Code).length/\n=(slL b.Code).length-k/\upTo (λk x=>z9r c i b x k) (slL b.Code) k/\hh=h0/\fr=frOf [(1,.iptr c.cells),(20,.int .i64 i),(304,a304),(305,a305),(306,a306),(313,.int .i64 (slL b.Code).length),(314,.int .i64 k)]):=⟨_,rfl⟩;refine z14 z07 (by kernel_rfl) I (slL b.Code).length (by rw [hI];exact ⟨0,by omega,by omega,z3s _ _,rfl,rfl⟩) ?_;intro n fr hh H;rw [hI] at H;obtain ⟨k,hk,rfl,hup,rfl,rfl⟩:=H;apply zbn
 (repeat simp -dsimp -implicitDefEqProofs (disch:=omega) only [↓rP,rA,↓reduceIte,reduceEqDiff,reduceAdd,reduceLeDiff,↓tyr])
 refine z0c (λhkl=>?_) (λhkl=>?_)
 ·obtain ⟨x,hx⟩:∃ x,(slL b.Code)[k]?=some x:=⟨_,List.getElem?_eq_getElem (by omega)⟩
  (repeat simp -dsimp -implicitDefEqProofs (disch:=omega) only [↓rP,rA,↓reduceIte,reduceEqDiff,reduceAdd,reduceLeDiff,↓tyr])
  refine z01.go (zqd c hc sm i k b x (by rw [z1w];exact hb) (by rw [z1w];exact hx) hsl _) ?_;rcases hi:z9r c i b x k with _ | _
  ·(repeat simp -dsimp -implicitDefEqProofs (disch:=omega) only [↓rP,rA,↓reduceIte,reduceEqDiff,reduceAdd,reduceLeDiff,↓tyr,Bool.not_false])
   exact hret (z7j hx hi)
  ·(repeat simp -dsimp -implicitDefEqProofs (disch:=omega) only [↓rP,rA,↓reduceIte,reduceEqDiff,reduceAdd,reduceLeDiff,↓tyr,Bool.not_true,wkS k (by omega)])
   rw [z05,hI];exact ⟨_,by omega,k+1,by omega,rfl,z3c hup hx hi,rfl,rfl⟩
 ·have hke:k=(slL b.Code).length:=by omega
  subst hke
  (repeat simp -dsimp -implicitDefEqProofs (disch:=omega) only [↓rP,rA,↓reduceIte,reduceEqDiff,reduceAdd,reduceLeDiff,↓tyr])
  exact hex (zb7 hup)
end
section
open Go.Abs
def cellP (c:Cd) (o:Option (List Lo)):Bool:=(slL o).all (λx=>!x.Once&&z1n c x)
def rowP (c:Cd) (i:Nat) (o:Option (List Lo)):Bool:=!(decide (0<i)&&decide (6<(slL o).length))&&cellP c o
theorem g_rows (c:Cd) (ls:List (Option (List Lo))) (hl:ls.length<=1000) (hr:∀ o∈ls,(slL o).length<=1000) (h0:z00) (id:Nat) (hid:id<h0.next) (ho:h0.objs id=some (.row 23 (ls.map λo=>slAV 3 z0b.cells o))) (Q:z1p->Fr->z00->Prop)
  (hret:∀ h2,allK (rowP c) ls=false->Keeps h0 h2 (λ_=>False)->Q .ret (frOf [(2,.bool false)]) h2)
  (hex:∀ h2,allK (rowP c) ls=true->Keeps h0 h2 (λ_=>False)->Q (.exit 0) (frOf [(1,.iptr c.cells)]) h2) :
  WP Tryz.prog 324 (.loop z5g) (frOf [(1,.iptr c.cells),(57,.sl id 0 ls.length 1),(58,.int .i64 ls.length),(59,.int .i64 0)]) h0 Q:=by
 obtain ⟨I,hI⟩:∃ I:Nat->Fr->z00->Prop,I=(λn fr hh=>∃ k:Nat,k<=ls.length/\n=ls.length-k/\upTo (rowP c) ls k/\Keeps h0 hh (λ_=>False)/\fr=frOf [(1,.iptr c.cells),(57,.sl id 0 ls.length 1),(58,.int .i64 ls.length),(59,.int .i64 k)]):=⟨_,rfl⟩;refine z14 z07 (by kernel_rfl) I ls.length (by rw [hI];exact ⟨0,by omega,by omega,z3s _ _,.refl _ _,rfl⟩) ?_;intro n fr hh H;rw [hI] at H;obtain ⟨k,hk,rfl,hup,kp,rfl⟩:=H;apply zcx
 (repeat simp -dsimp -implicitDefEqProofs (disch:=omega) only [↓rP,rA,↓reduceIte,reduceEqDiff,reduceAdd,reduceLeDiff,↓tyr])
 refine z0c (λhkl=>?_) (λhkl=>?_)
 ·obtain ⟨o,hx⟩:∃ o,ls[k]?=some o:=⟨_,List.getElem?_eq_getElem (by omega)⟩;have hol:=hr o (List.mem_of_getElem? hx);have ix:∀ K:AV->Prop,z0d (.slice 1) (.sl id 0 ls.length 1) (.int .i64 (k:Int)) K=K (.ptr id k):=λK=>by
   simp [z0d];omega
  have ho2:hh.objs id=some (.row 23 (ls.map λo=>slAV 3 z0b.cells o)):=by rw [kp.objs id hid (by simp)];exact ho
  have ld:∀ K:AV->Prop,z0r none (.ptr id k) hh K=K (slAV 3 z0b.cells o):=λK=>by
   rw [z02 ho2,zen (v:=slAV 3 z0b.cells o) (by rw [List.getElem?_map,hx];rfl)]
  have bad:rowP c k o=false->allK (rowP c) ls=false:=λhp=>z7j hx hp;have inner:rowP c k o=cellP c o->WP Tryz.prog 324 (.loop z2s) (frOf [(1,.iptr c.cells),(57,.sl id 0 ls.length 1),(58,.int .i64 ls.length),(59,.int .i64 k),(71,slAV 3 z0b.cells o),(72,.int .i64 (slL o).length),(73,.int .i64 0)]) hh (λe fr h2=>match e with | .ret=>cellP c o=false/\Keeps hh h2 (λ_=>False)/\fr=frOf [(2,.bool false)] | .exit i=>i=2/\cellP c o=true/\Keeps hh h2 (λ_=>False)/\fr=frOf [(1,.iptr c.cells),(57,.sl id 0 ls.length 1),(58,.int .i64 ls.length),(59,.int .i64 k)] | .normal=>False):=λ_=>
   g_cells c o (by omega) _ _ _ hh _ (λh2 h k=>⟨h,k,rfl⟩) (λh2 h k=>⟨rfl,h,k,rfl⟩)
  (repeat simp -dsimp -implicitDefEqProofs (disch:=omega) only [↓rP,rA,↓reduceIte,reduceEqDiff,reduceAdd,reduceLeDiff,↓tyr,↓ix,↓ld])
  refine z0c (λh0k=>?_) (λh0k=>?_)
  ·(repeat simp -dsimp -implicitDefEqProofs (disch:=omega) only [↓rP,rA,↓reduceIte,reduceEqDiff,reduceAdd,reduceLeDiff,↓tyr,↓ix,↓ld])
   refine z0c (λh6=>?_) (λh6=>?_)
   ·(repeat simp -dsimp -implicitDefEqProofs (disch:=omega) only [↓rP,rA,↓reduceIte,reduceEqDiff,reduceAdd,reduceLeDiff,↓tyr])
    have e1:decide (0<k)=true:=decide_eq_true (by omega);have e2:decide (6<(slL o).length)=true:=decide_eq_true (by omega);exact hret hh (bad (by unfold rowP;rw [e1,e2];rfl)) kp
   ·have e2:decide (6<(slL o).length)=false:=decide_eq_false (by omega);have e:rowP c k o=cellP c o:=by unfold rowP;rw [e2,Bool.and_false];rfl
    (repeat simp -dsimp -implicitDefEqProofs (disch:=omega) only [↓rP,rA,↓reduceIte,reduceEqDiff,reduceAdd,reduceLeDiff,↓tyr])
    refine (inner e).mono ?_;rintro (_ | i | _) fr h2 hq
    ·exact hq.elim
    ·obtain ⟨rfl,q1,q2,rfl⟩:=hq
     (repeat simp -dsimp -implicitDefEqProofs (disch:=omega) only [↓rP,rA,↓reduceIte,reduceEqDiff,reduceAdd,reduceLeDiff,↓tyr,wkS k (by omega)])
     rw [z05,hI];exact ⟨_,by omega,k+1,by omega,rfl,z3c hup hx (by rw [e];exact q1),kp.go q2,rfl⟩
    ·obtain ⟨q1,q2,rfl⟩:=hq
     (repeat simp -dsimp -implicitDefEqProofs (disch:=omega) only [↓rP,rA,↓reduceIte,reduceEqDiff,reduceAdd,reduceLeDiff,↓tyr])
     exact hret h2 (bad (by rw [e];exact q1)) (kp.go q2)
  ·have e1:decide (0<k)=false:=decide_eq_false (by omega);have e:rowP c k o=cellP c o:=by unfold rowP;rw [e1,Bool.false_and];rfl
   (repeat simp -dsimp -implicitDefEqProofs (disch:=omega) only [↓rP,rA,↓reduceIte,reduceEqDiff,reduceAdd,reduceLeDiff,↓tyr])
   refine (inner e).mono ?_;rintro (_ | i | _) fr h2 hq
   ·exact hq.elim
   ·obtain ⟨rfl,q1,q2,rfl⟩:=hq
    (repeat simp -dsimp -implicitDefEqProofs (disch:=omega) only [↓rP,rA,↓reduceIte,reduceEqDiff,reduceAdd,reduceLeDiff,↓tyr,wkS k (by omega)])
    rw [z05,hI];exact ⟨_,by omega,k+1,by omega,rfl,z3c hup hx (by rw [e];exact q1),kp.go q2,rfl⟩
   ·obtain ⟨q1,q2,rfl⟩:=hq
    (repeat simp -dsimp -implicitDefEqProofs (disch:=omega) only [↓rP,rA,↓reduceIte,reduceEqDiff,reduceAdd,reduceLeDiff,↓tyr])
    exact hret h2 (bad (by rw [e];exact q1)) (kp.go q2)
 ·have hke:k=ls.length:=by omega
  subst hke
  (repeat simp -dsimp -implicitDefEqProofs (disch:=omega) only [↓rP,rA,↓reduceIte,reduceEqDiff,reduceAdd,reduceLeDiff,↓tyr])
  exact hex hh (zb7 hup) kp
theorem g_bodies (c:Cd) (sm:Small c) (h0:z00) (Q:z1p->Fr->z00->Prop)
  (hret:∀ h2,(slL c.Threads).all (zas c)=false->Keeps h0 h2 (λ_=>False)->Q .ret (frOf [(2,.bool false)]) h2)
  (hex:∀ h2,(slL c.Threads).all (zas c)=true->Keeps h0 h2 (λ_=>False)->Q (.exit 4) (frOf [(1,.iptr c.cells)]) h2) :
  WP Tryz.prog 324 (.loop z4e) (frOf [(1,.iptr c.cells),(88,slAV 3 z0t.cells c.Threads),(89,.int .i64 (slL c.Threads).length),(90,.int .i64 0)]) h0 Q:=by
 have hth:=sm.threads;obtain ⟨I,hI⟩:∃ I:Nat->Fr->z00->Prop,I=(λn fr hh=>∃ k:Nat,k<=(slL c.Threads).length/\n=(slL c.Threads).length-k/\upTo (λ_ b=>zas c b) (slL c.Threads) k/\Keeps h0 hh (λ_=>False)/\fr=frOf [(1,.iptr c.cells),(88,slAV 3 z0t.cells c.Threads),(89,.int .i64 (slL c.Threads).length),(90,.int .i64 k)]):=⟨_,rfl⟩;refine z14 z07 (by kernel_rfl) I (slL c.Threads).length (by rw [hI];exact ⟨0,by omega,by omega,z3s _ _,.refl _ _,rfl⟩) ?_;intro n fr hh H;rw [hI] at H;obtain ⟨k,hk,rfl,hup,kp,rfl⟩:=H;apply zbh
 (repeat simp -dsimp -implicitDefEqProofs (disch:=omega) only [↓rP,rA,↓reduceIte,reduceEqDiff,reduceAdd,reduceLeDiff,↓tyr])
 refine z0c (λhkl=>?_) (λhkl=>?_)
 ·obtain ⟨b,hx⟩:∃ b,(slL c.Threads)[k]?=some b:=⟨_,List.getElem?_eq_getElem (by omega)⟩;have kp1:=kp.go (Keeps.one hh (.row 70 b.cells));have hsl:=sm.slots b (List.mem_of_getElem? hx);have no:zas c b=false->Q .ret (frOf [(2,.bool false)]) (hh.push (.row 70 b.cells)):=λhp=>hret _ (zya hx hp) kp1
  (repeat simp -dsimp -implicitDefEqProofs (disch:=omega) only [↓rP,rA,↓reduceIte,reduceEqDiff,reduceAdd,reduceLeDiff,↓tyr,z03 hx])
  refine z0c (λh1=>?_) (λh1=>?_)
  ·(repeat simp -dsimp -implicitDefEqProofs (disch:=omega) only [↓rP,rA,↓reduceIte,reduceEqDiff,reduceAdd,reduceLeDiff,↓tyr])
   exact no (by simp [zas];intros;omega)
  (repeat simp -dsimp -implicitDefEqProofs (disch:=omega) only [↓rP,rA,↓reduceIte,reduceEqDiff,reduceAdd,reduceLeDiff,↓tyr])
  refine z0c (λh2=>?_) (λh2=>?_)
  ·(repeat simp -dsimp -implicitDefEqProofs (disch:=omega) only [↓rP,rA,↓reduceIte,reduceEqDiff,reduceAdd,reduceLeDiff,↓tyr])
   exact no (by simp [zas];intros;omega)
  (repeat simp -dsimp -implicitDefEqProofs (disch:=omega) only [↓rP,rA,↓reduceIte,reduceEqDiff,reduceAdd,reduceLeDiff,↓tyr])
  refine z0c (λh3=>?_) (λh3=>?_)
  ·(repeat simp -dsimp -implicitDefEqProofs (disch:=omega) only [↓rP,rA,↓reduceIte,reduceEqDiff,reduceAdd,reduceLeDiff,↓tyr])
   exact no (by simp [zas];intros;omega)
  (repeat simp -dsimp -implicitDefEqProofs (disch:=omega) only [↓rP,rA,↓reduceIte,reduceEqDiff,reduceAdd,reduceLeDiff,↓tyr])
  refine z0c (λh4=>?_) (λh4=>?_)
  ·(repeat simp -dsimp -implicitDefEqProofs (disch:=omega) only [↓rP,rA,↓reduceIte,reduceEqDiff,reduceAdd,reduceLeDiff,↓tyr])
   exact no (by simp [zas];intros;omega)
  (repeat simp -dsimp -implicitDefEqProofs (disch:=omega) only [↓rP,rA,↓reduceIte,reduceEqDiff,reduceAdd,reduceLeDiff,↓tyr])
  refine z0c (λh5=>?_) (λh5=>?_)
  ·(repeat simp -dsimp -implicitDefEqProofs (disch:=omega) only [↓rP,rA,↓reduceIte,reduceEqDiff,reduceAdd,reduceLeDiff,↓tyr])
   exact no (by simp [zas];intros;omega)
  have e:zas c b=(slL b.Slots).all (z1n c):=by
   unfold zas;rw [decide_eq_true (by omega:(slL b.Slots).length<=64),decide_eq_true (by omega:1<=(slL b.Code).length),decide_eq_true (by omega:(slL b.Code).length<=256),decide_eq_true (by omega:0<=b.Most),decide_eq_true (by omega:b.Most<=4096)]
   rfl
  (repeat simp -dsimp -implicitDefEqProofs (disch:=omega) only [↓rP,rA,↓reduceIte,reduceEqDiff,reduceAdd,reduceLeDiff,↓tyr])
  refine g_slots c b.Slots (by omega) _ _ _ _ _ (λh2 hg k2=>?_) (λh2 hg k2=>?_)
  ·(repeat simp -dsimp -implicitDefEqProofs (disch:=omega) only [↓rP,rA,↓reduceIte,reduceEqDiff,reduceAdd,reduceLeDiff,↓tyr])
   exact hret _ (zya hx (by rw [e];exact hg)) (kp1.go k2)
  ·(repeat simp -dsimp -implicitDefEqProofs (disch:=omega) only [↓rP,rA,↓reduceIte,reduceEqDiff,reduceAdd,reduceLeDiff,↓tyr,wkS k (by omega)])
   rw [z05,hI];exact ⟨_,by omega,k+1,by omega,rfl,z3c hup hx (by rw [e];exact hg),kp1.go k2,rfl⟩
 ·have hke:k=(slL c.Threads).length:=by omega
  subst hke
  (repeat simp -dsimp -implicitDefEqProofs (disch:=omega) only [↓rP,rA,↓reduceIte,reduceEqDiff,reduceAdd,reduceLeDiff,↓tyr])
  exact hex hh (zwr hup) kp
theorem g_threads (c:Cd) (hc:c.ok) (sm:Small c) (hbd:(slL c.Threads).all (zas c)=true) (h0:z00) (Q:z1p->Fr->z00->Prop)
  (hret:∀ h2,allK (λi b=>allK (λk x=>z9r c i b x k) (slL b.Code)) (slL c.Threads)=false->Keeps h0 h2 (λ_=>False)->Q .ret (frOf [(2,.bool false)]) h2)
  (hex:∀ h2,allK (λi b=>allK (λk x=>z9r c i b x k) (slL b.Code)) (slL c.Threads)=true->Keeps h0 h2 (λ_=>False)->Q (.exit 14) (frOf []) h2) :
  WP Tryz.prog 324 (.loop z4j) (frOf [(1,.iptr c.cells),(304,slAV 3 z0t.cells c.Threads),(305,.int .i64 (slL c.Threads).length),(306,.int .i64 0)]) h0 Q:=by
 have hth:=sm.threads;obtain ⟨I,hI⟩:∃ I:Nat->Fr->z00->Prop,I=(λn fr hh=>∃ k:Nat,k<=(slL c.Threads).length/\n=(slL c.Threads).length-k/\upTo (λi b=>allK (λk x=>z9r c i b x k) (slL b.Code)) (slL c.Threads) k/\Keeps h0 hh (λ_=>False)/\fr=frOf [(1,.iptr c.cells),(304,slAV 3 z0t.cells c.Threads),(305,.int .i64 (slL c.Threads).length),(306,.int .i64 k)]):=⟨_,rfl⟩;refine z14 z07 (by kernel_rfl) I (slL c.Threads).length (by rw [hI];exact ⟨0,by omega,by omega,z3s _ _,.refl _ _,rfl⟩) ?_;intro n fr hh H;rw [hI] at H;obtain ⟨k,hk,rfl,hup,kp,rfl⟩:=H;apply zbm
 (repeat simp -dsimp -implicitDefEqProofs (disch:=omega) only [↓rP,rA,↓reduceIte,reduceEqDiff,reduceAdd,reduceLeDiff,↓tyr])
 refine z0c (λhkl=>?_) (λhkl=>?_)
 ·obtain ⟨b,hx⟩:∃ b,(slL c.Threads)[k]?=some b:=⟨_,List.getElem?_eq_getElem (by omega)⟩;have kp1:=kp.go (Keeps.one hh (.row 70 b.cells));have hsl:∀ l∈slL b.Slots,z1n c l=true:=by
   have:=List.all_eq_true.1 hbd b (List.mem_of_getElem? hx);unfold zas at this;rw [Bool.and_eq_true] at this;exact List.all_eq_true.1 this.2
  (repeat simp -dsimp -implicitDefEqProofs (disch:=omega) only [↓rP,rA,↓reduceIte,reduceEqDiff,reduceAdd,reduceLeDiff,↓tyr,z03 hx])
  refine g_instrs c hc sm k b hx hsl _ _ _ _ _ (λhg=>?_) (λhg=>?_)
  ·(repeat simp -dsimp -implicitDefEqProofs (disch:=omega) only [↓rP,rA,↓reduceIte,reduceEqDiff,reduceAdd,reduceLeDiff,↓tyr])
   exact hret _ (z7j hx hg) kp1
  ·(repeat simp -dsimp -implicitDefEqProofs (disch:=omega) only [↓rP,rA,↓reduceIte,reduceEqDiff,reduceAdd,reduceLeDiff,↓tyr,wkS k (by omega)])
   rw [z05,hI];exact ⟨_,by omega,k+1,by omega,rfl,z3c hup hx hg,kp1,rfl⟩
 ·have hke:k=(slL c.Threads).length:=by omega
  subst hke
  (repeat simp -dsimp -implicitDefEqProofs (disch:=omega) only [↓rP,rA,↓reduceIte,reduceEqDiff,reduceAdd,reduceLeDiff,↓tyr])
  exact hex hh (zb7 hup) kp
end
section
open Go.Abs
def sepP (i:Nat) (s:z08) (j:Nat) (o:z08):Bool:=decide (j=i)||!zv3 s o
def secR (c:Cd) (i:Nat) (s:z08):Bool:=zlj c i s&&allK (sepP i s) (slL c.Sections)
theorem g_sep (c:Cd) (sm:Small c) (i:Nat) (hi:i<=1000) (s:z08) (a134 a135 a136:AV) (h0:z00) (id:Nat) (hid:id<h0.next) (ho:h0.objs id=some (.row 123 s.cells)) (Q:z1p->Fr->z00->Prop)
  (hret:∀ h2,allK (sepP i s) (slL c.Sections)=false->Keeps h0 h2 (λ_=>False)->Q .ret (frOf [(2,.bool false)]) h2)
  (hex:∀ h2,allK (sepP i s) (slL c.Sections)=true->Keeps h0 h2 (λ_=>False)->Q (.exit 10) (frOf [(1,.iptr c.cells),(134,a134),(135,a135),(136,a136)]) h2) :
  WP Tryz.prog 324 (.loop z4h) (frOf [(1,.iptr c.cells),(12,.int .i64 i),(13,.ptr id 0),(134,a134),(135,a135),(136,a136),(214,slAV 3 z08.cells c.Sections),(215,.int .i64 (slL c.Sections).length),(216,.int .i64 0)]) h0 Q:=by
 have hsec:=sm.secs;obtain ⟨I,hI⟩:∃ I:Nat->Fr->z00->Prop,I=(λn fr hh=>∃ k:Nat,k<=(slL c.Sections).length/\n=(slL c.Sections).length-k/\upTo (sepP i s) (slL c.Sections) k/\Keeps h0 hh (λ_=>False)/\fr=frOf [(1,.iptr c.cells),(12,.int .i64 i),(13,.ptr id 0),(134,a134),(135,a135),(136,a136),(214,slAV 3 z08.cells c.Sections),(215,.int .i64 (slL c.Sections).length),(216,.int .i64 k)]):=⟨_,rfl⟩;refine z14 z07 (by kernel_rfl) I (slL c.Sections).length (by rw [hI];exact ⟨0,by omega,by omega,z3s _ _,.refl _ _,rfl⟩) ?_;intro n fr hh H;rw [hI] at H;obtain ⟨k,hk,rfl,hup,kp,rfl⟩:=H;apply zbk
 (repeat (first | simp -dsimp -implicitDefEqProofs (disch:=omega) only [↓rP,rA,↓reduceIte,reduceEqDiff,reduceAdd,reduceLeDiff,↓tyr] | refine Cut.go ?_))
 refine z0c (λhkl=>?_) (λhkl=>?_)
 ·obtain ⟨o,hx⟩:∃ o,(slL c.Sections)[k]?=some o:=⟨_,List.getElem?_eq_getElem (by omega)⟩;have kp1:=kp.go (Keeps.one hh (.row 123 o.cells));have ho2:(hh.push (.row 123 o.cells)).objs id=some (.row 123 s.cells):=by
   have:=kp.next;simp only [z00.z4a];rw [if_neg (by omega),kp.objs id hid (by simp),ho]
  have ld:∀ (off:Nat) (q:Option Nat) (K:AV->Prop),z0r q (.ptr id off) (hh.push (.row 123 o.cells)) K=z04 q s.cells off K:=λoff q K=>z02 ho2 q K;have no:sepP i s k o=false->Q .ret (frOf [(2,.bool false)]) (hh.push (.row 123 o.cells)):=λhp=>hret _ (z7j hx hp) kp1;have on:sepP i s k o=true->z3d I ((slL c.Sections).length-k) Q .normal (frOf [(1,.iptr c.cells),(12,.int .i64 i),(13,.ptr id 0),(134,a134),(135,a135),(136,a136),(214,slAV 3 z08.cells c.Sections),(215,.int .i64 (slL c.Sections).length),(216,.int .i64 (k+1:Nat))]) (hh.push (.row 123 o.cells)):=λhp=>by
   rw [z05,hI];exact ⟨_,by omega,k+1,by omega,rfl,z3c hup hx hp,kp1,rfl⟩
  have wk:=wkS k (by omega);have end1:sepP i s k o=true\/sepP i s k o=false:=by cases sepP i s k o <;> simp
  have isno:k≠i->o.Thread=s.Thread->s.From<=o.To->o.From<=s.To->sepP i s k o=false:=λa1 a2 a3 a4=>by simp [sepP,zv3,a1,a2,a3,a4]
  have ison:(k=i\/o.Thread≠s.Thread\/o.To<s.From\/s.To<o.From)->sepP i s k o=true:=λh=>by
   simp only [sepP,zv3,Bool.or_eq_true,decide_eq_true_eq,Bool.not_eq_true',Bool.and_eq_false_iff,decide_eq_false_iff_not];omega
  repeat' (first | (simp -dsimp -implicitDefEqProofs (disch:=omega) only [↓rP,rA,↓reduceIte,reduceEqDiff,reduceAdd,reduceLeDiff,↓tyr,z03 hx,↓ld,wk]) | with_reducible refine Cut.go ?_ | with_reducible refine z0i (λ_=>?_) (λ_=>?_) | with_reducible refine z16 (λ_=>?_) (λ_=>?_) | with_reducible refine z0c (λ_=>?_) (λ_=>?_) | with_reducible refine z1b (λ_=>?_) (λ_=>?_) | with_reducible refine Split_not ?_)
  all_goals first
   | exact on (ison (by omega))
   | exact no (isno (by omega) (by omega) (by omega) (by omega))
 ·have hke:k=(slL c.Sections).length:=by omega
  subst hke
  (repeat (first | simp -dsimp -implicitDefEqProofs (disch:=omega) only [↓rP,rA,↓reduceIte,reduceEqDiff,reduceAdd,reduceLeDiff,↓tyr] | refine Cut.go ?_))
  exact hex hh (zb7 hup) kp
theorem g_sections (c:Cd) (sm:Small c) (h0:z00) (Q:z1p->Fr->z00->Prop)
  (hret:∀ h2,allK (secR c) (slL c.Sections)=false->Keeps h0 h2 (λ_=>False)->Q .ret (frOf [(2,.bool false)]) h2)
  (hex:∀ h2,allK (secR c) (slL c.Sections)=true->Keeps h0 h2 (λ_=>False)->Q (.exit 8) (frOf [(1,.iptr c.cells)]) h2) :
  WP Tryz.prog 324 (.loop z4g) (frOf [(1,.iptr c.cells),(134,slAV 3 z08.cells c.Sections),(135,.int .i64 (slL c.Sections).length),(136,.int .i64 0)]) h0 Q:=by
 have hsec:=sm.secs;obtain ⟨I,hI⟩:∃ I:Nat->Fr->z00->Prop,I=(λn fr hh=>∃ k:Nat,k<=(slL c.Sections).length/\n=(slL c.Sections).length-k/\upTo (secR c) (slL c.Sections) k/\Keeps h0 hh (λ_=>False)/\fr=frOf [(1,.iptr c.cells),(134,slAV 3 z08.cells c.Sections),(135,.int .i64 (slL c.Sections).length),(136,.int .i64 k)]):=⟨_,rfl⟩;refine z14 z07 (by kernel_rfl) I (slL c.Sections).length (by rw [hI];exact ⟨0,by omega,by omega,z3s _ _,.refl _ _,rfl⟩) ?_;intro n fr hh H;rw [hI] at H;obtain ⟨k,hk,rfl,hup,kp,rfl⟩:=H;apply zbj
 (repeat (first | simp -dsimp -implicitDefEqProofs (disch:=omega) only [↓rP,rA,↓reduceIte,reduceEqDiff,reduceAdd,reduceLeDiff,↓tyr] | refine Cut.go ?_))
 refine z0c (λhkl=>?_) (λhkl=>?_)
 ·obtain ⟨s,hx⟩:∃ s,(slL c.Sections)[k]?=some s:=⟨_,List.getElem?_eq_getElem (by omega)⟩;have kp1:=kp.go (Keeps.one hh (.row 123 s.cells));have no:zlj c k s=false->Q .ret (frOf [(2,.bool false)]) (hh.push (.row 123 s.cells)):=λhp=>hret _ (z7j hx (by unfold secR;rw [hp];rfl)) kp1
  (repeat (first | simp -dsimp -implicitDefEqProofs (disch:=omega) only [↓rP,rA,↓reduceIte,reduceEqDiff,reduceAdd,reduceLeDiff,↓tyr,z03 hx] | refine Cut.go ?_))
  refine z01.go (z19 _ _ _) ?_
  cases hb:getI (slL c.Threads) s.Thread with
  | none=>
   have hbt:=za9.2 hb
   (repeat (first | simp -dsimp -implicitDefEqProofs (disch:=omega) only [↓rP,rA,↓reduceIte,reduceEqDiff,reduceAdd,reduceLeDiff,↓tyr,hbt,Bool.not_false] | refine Cut.go ?_))
   exact no (by simp [zlj,z9n,hb])
  | some b=>
   have hbt:=z3k.2 ⟨b,hb⟩
   (repeat (first | simp -dsimp -implicitDefEqProofs (disch:=omega) only [↓rP,rA,↓reduceIte,reduceEqDiff,reduceAdd,reduceLeDiff,↓tyr,hbt,Bool.not_true] | refine Cut.go ?_))
   refine z01.go (z19 _ _ _) ?_;rcases h1:btw s.From s.To with _ | _
   ·(repeat (first | simp -dsimp -implicitDefEqProofs (disch:=omega) only [↓rP,rA,↓reduceIte,reduceEqDiff,reduceAdd,reduceLeDiff,↓tyr,hbt,h1,Bool.not_false] | refine Cut.go ?_))
    exact no (by unfold zlj;unfold btw at h1;rw [h1];rfl)
   have h1':0<=s.From/\s.From<s.To:=by simpa [btw] using h1
   (repeat (first | simp -dsimp -implicitDefEqProofs (disch:=omega) only [↓rP,rA,↓reduceIte,reduceEqDiff,reduceAdd,reduceLeDiff,↓tyr,hbt,h1,Bool.not_true,ixI hb] | refine Cut.go ?_))
   refine z01.go (z19 _ _ _) ?_;rcases h2:btw s.To (slL b.Code).length with _ | _
   ·(repeat (first | simp -dsimp -implicitDefEqProofs (disch:=omega) only [↓rP,rA,↓reduceIte,reduceEqDiff,reduceAdd,reduceLeDiff,↓tyr,hbt,h1,h2,Bool.not_false] | refine Cut.go ?_))
    exact no (by simp [zlj,z9n,hb,z5s h2])
   have h2':0<=s.To/\s.To<(slL b.Code).length:=by simpa [btw] using h2
   obtain ⟨x,hxx⟩:∃ x,getI (slL b.Code) s.From=some x:=z3k.1 (by unfold btw;simp;omega);obtain ⟨y,hyy⟩:∃ y,getI (slL b.Code) s.To=some y:=z3k.1 h2
   (repeat (first | simp -dsimp -implicitDefEqProofs (disch:=omega) only [↓rP,rA,↓reduceIte,reduceEqDiff,reduceAdd,reduceLeDiff,↓tyr,hbt,h1,h2,Bool.not_true,ixI hb,ixI hxx,ixI hyy] | refine Cut.go ?_))
   refine z16 (λh4=>?_) (λh4=>?_)
   ·(repeat (first | simp -dsimp -implicitDefEqProofs (disch:=omega) only [↓rP,rA,↓reduceIte,reduceEqDiff,reduceAdd,reduceLeDiff,↓tyr] | refine Cut.go ?_))
    exact no (by simp [zlj,z9n,hb,hxx,h4])
   (repeat (first | simp -dsimp -implicitDefEqProofs (disch:=omega) only [↓rP,rA,↓reduceIte,reduceEqDiff,reduceAdd,reduceLeDiff,↓tyr,ixI hb,ixI hxx,ixI hyy] | refine Cut.go ?_))
   refine z16 (λh5=>?_) (λh5=>?_)
   ·(repeat (first | simp -dsimp -implicitDefEqProofs (disch:=omega) only [↓rP,rA,↓reduceIte,reduceEqDiff,reduceAdd,reduceLeDiff,↓tyr] | refine Cut.go ?_))
    exact no (by simp [zlj,z9n,hb,hxx,h5])
   (repeat (first | simp -dsimp -implicitDefEqProofs (disch:=omega) only [↓rP,rA,↓reduceIte,reduceEqDiff,reduceAdd,reduceLeDiff,↓tyr,ixI hb,ixI hxx,ixI hyy] | refine Cut.go ?_))
   refine z16 (λh6=>?_) (λh6=>?_)
   ·(repeat (first | simp -dsimp -implicitDefEqProofs (disch:=omega) only [↓rP,rA,↓reduceIte,reduceEqDiff,reduceAdd,reduceLeDiff,↓tyr] | refine Cut.go ?_))
    exact no (by simp [zlj,z9n,hb,hyy,h6])
   (repeat (first | simp -dsimp -implicitDefEqProofs (disch:=omega) only [↓rP,rA,↓reduceIte,reduceEqDiff,reduceAdd,reduceLeDiff,↓tyr,ixI hb,ixI hxx,ixI hyy] | refine Cut.go ?_))
   refine z16 (λh7=>?_) (λh7=>?_)
   ·(repeat (first | simp -dsimp -implicitDefEqProofs (disch:=omega) only [↓rP,rA,↓reduceIte,reduceEqDiff,reduceAdd,reduceLeDiff,↓tyr] | refine Cut.go ?_))
    exact no (by simp [zlj,z9n,hb,hyy,h7])
   have he:zlj c k s=true:=by
    simp only [zlj,z9n,hb,hxx,hyy,h4,h5,h6,h7,decide_true,Bool.and_true,Bool.and_eq_true,decide_eq_true_eq];omega
   (repeat (first | simp -dsimp -implicitDefEqProofs (disch:=omega) only [↓rP,rA,↓reduceIte,reduceEqDiff,reduceAdd,reduceLeDiff,↓tyr] | refine Cut.go ?_))
   refine g_sep c sm k (by omega) s _ _ _ _ hh.next (by simp) (by simp) _ (λh3 hg k3=>?_) (λh3 hg k3=>?_)
   ·(repeat (first | simp -dsimp -implicitDefEqProofs (disch:=omega) only [↓rP,rA,↓reduceIte,reduceEqDiff,reduceAdd,reduceLeDiff,↓tyr] | refine Cut.go ?_))
    exact hret _ (z7j hx (by unfold secR;rw [hg,Bool.and_false])) (kp1.go k3)
   ·(repeat (first | simp -dsimp -implicitDefEqProofs (disch:=omega) only [↓rP,rA,↓reduceIte,reduceEqDiff,reduceAdd,reduceLeDiff,↓tyr,wkS k (by omega)] | refine Cut.go ?_))
    rw [z05,hI];exact ⟨_,by omega,k+1,by omega,rfl,z3c hup hx (by unfold secR;rw [hg,he];rfl),kp1.go k3,rfl⟩
 ·have hke:k=(slL c.Sections).length:=by omega
  subst hke
  (repeat (first | simp -dsimp -implicitDefEqProofs (disch:=omega) only [↓rP,rA,↓reduceIte,reduceEqDiff,reduceAdd,reduceLeDiff,↓tyr] | refine Cut.go ?_))
  exact hex hh (zb7 hup) kp
theorem g_sites (c:Cd) (sm:Small c) (h0:z00) (Q:z1p->Fr->z00->Prop)
  (hret:∀ h2,allK (zb6 c) (slL c.Sites)=false->Keeps h0 h2 (λ_=>False)->Q .ret (frOf [(2,.bool false)]) h2)
  (hex:∀ h2,allK (zb6 c) (slL c.Sites)=true->Keeps h0 h2 (λ_=>False)->Q (.exit 12) (frOf [(1,.iptr c.cells)]) h2) :
  WP Tryz.prog 324 (.loop z4i) (frOf [(1,.iptr c.cells),(249,slAV 3 z0v.cells c.Sites),(250,.int .i64 (slL c.Sites).length),(251,.int .i64 0)]) h0 Q:=by
 have hsi:=sm.sites;obtain ⟨I,hI⟩:∃ I:Nat->Fr->z00->Prop,I=(λn fr hh=>∃ k:Nat,k<=(slL c.Sites).length/\n=(slL c.Sites).length-k/\upTo (zb6 c) (slL c.Sites) k/\Keeps h0 hh (λ_=>False)/\fr=frOf [(1,.iptr c.cells),(249,slAV 3 z0v.cells c.Sites),(250,.int .i64 (slL c.Sites).length),(251,.int .i64 k)]):=⟨_,rfl⟩;refine z14 z07 (by kernel_rfl) I (slL c.Sites).length (by rw [hI];exact ⟨0,by omega,by omega,z3s _ _,.refl _ _,rfl⟩) ?_;intro n fr hh H;rw [hI] at H;obtain ⟨k,hk,rfl,hup,kp,rfl⟩:=H;apply zbl
 (repeat (first | simp -dsimp -implicitDefEqProofs (disch:=omega) only [↓rP,rA,↓reduceIte,reduceEqDiff,reduceAdd,reduceLeDiff,↓tyr] | refine Cut.go ?_))
 refine z0c (λhkl=>?_) (λhkl=>?_)
 ·obtain ⟨s,hx⟩:∃ s,(slL c.Sites)[k]?=some s:=⟨_,List.getElem?_eq_getElem (by omega)⟩;have kp1:=kp.go (Keeps.one hh (.row 151 s.cells));have no:zb6 c k s=false->Q .ret (frOf [(2,.bool false)]) (hh.push (.row 151 s.cells)):=λhp=>hret _ (z7j hx hp) kp1
  (repeat (first | simp -dsimp -implicitDefEqProofs (disch:=omega) only [↓rP,rA,↓reduceIte,reduceEqDiff,reduceAdd,reduceLeDiff,↓tyr,z03 hx] | refine Cut.go ?_))
  refine z01.go (z19 _ _ _) ?_
  cases hb:getI (slL c.Threads) s.Thread with
  | none=>
   have hbt:=za9.2 hb
   (repeat (first | simp -dsimp -implicitDefEqProofs (disch:=omega) only [↓rP,rA,↓reduceIte,reduceEqDiff,reduceAdd,reduceLeDiff,↓tyr,hbt,Bool.not_false] | refine Cut.go ?_))
   exact no (by simp [zb6,z9n,hb])
  | some b=>
   have hbt:=z3k.2 ⟨b,hb⟩
   (repeat (first | simp -dsimp -implicitDefEqProofs (disch:=omega) only [↓rP,rA,↓reduceIte,reduceEqDiff,reduceAdd,reduceLeDiff,↓tyr,hbt,ixI hb,Bool.not_true] | refine Cut.go ?_))
   refine z01.go (z19 _ _ _) ?_
   cases hx2:getI (slL b.Code) s.At with
   | none=>
    have hbt2:=za9.2 hx2
    (repeat (first | simp -dsimp -implicitDefEqProofs (disch:=omega) only [↓rP,rA,↓reduceIte,reduceEqDiff,reduceAdd,reduceLeDiff,↓tyr,hbt,hbt2,Bool.not_false] | refine Cut.go ?_))
    exact no (by simp [zb6,z9n,hb,hx2])
   | some x=>
    have hbt2:=z3k.2 ⟨x,hx2⟩;have kp2:=kp1.go (Keeps.one _ (.row 56 x.cells));have ho2:∀ o,((hh.push (.row 151 s.cells)).push o).objs hh.next=some (.row 151 s.cells):=λo=>by simp
    have ld:∀ (o:AObj) (off:Nat) (q:Option Nat) (K:AV->Prop),z0r q (.ptr hh.next off) ((hh.push (.row 151 s.cells)).push o) K=z04 q s.cells off K:=λo off q K=>z02 (ho2 o) q K;have no2:zb6 c k s=false->Q .ret (frOf [(2,.bool false)]) ((hh.push (.row 151 s.cells)).push (.row 56 x.cells)):=λhp=>hret _ (z7j hx hp) kp2;have on:zb6 c k s=true->z3d I ((slL c.Sites).length-k) Q .normal (frOf [(1,.iptr c.cells),(249,slAV 3 z0v.cells c.Sites),(250,.int .i64 (slL c.Sites).length),(251,.int .i64 (k+1:Nat))]) ((hh.push (.row 151 s.cells)).push (.row 56 x.cells)):=λhm=>by
     rw [z05,hI];exact ⟨_,by omega,k+1,by omega,rfl,z3c hup hx hm,kp2,rfl⟩
    repeat' (first | (simp -dsimp -implicitDefEqProofs (disch:=omega) only [↓rP,rA,↓reduceIte,reduceEqDiff,reduceAdd,reduceLeDiff,↓tyr,hbt,hbt2,ixI hb,ixI hx2,↓ld,wkS k (by omega),Bool.not_true]) | refine Cut.go ?_ | refine z0i (λ_=>?_) (λ_=>?_) | refine z16 (λ_=>?_) (λ_=>?_) | refine z0c (λ_=>?_) (λ_=>?_) | refine z1b (λ_=>?_) (λ_=>?_) | refine Split.intro (λ_=>?_) (λ_=>?_))
    all_goals first
     | exact on (by simp [zb6,z9n,hb,hx2, *];try omega)
     | exact no2 (by simp [zb6,z9n,hb,hx2, *];try omega)
 ·have hke:k=(slL c.Sites).length:=by omega
  subst hke
  (repeat (first | simp -dsimp -implicitDefEqProofs (disch:=omega) only [↓rP,rA,↓reduceIte,reduceEqDiff,reduceAdd,reduceLeDiff,↓tyr] | refine Cut.go ?_))
  exact hex hh (zb7 hup) kp
end
section
open Go.Abs
theorem fits_isl (sz:Nat) (es:List (List AV)):(AV.isl sz es).fits=true:=rfl
theorem cells_isl (sz:Nat) (es:List (List AV)):(AV.isl sz es).cells=[AV.isl sz es]:=rfl
theorem bsl_one (e:TypeId) (sz by_:Nat) (z cs:List AV) (h:z00) (K:AV->z00->Prop):z0j true { e:=e,sz:=sz,by_:=by_ } z 1 [(0,.agg cs)] h K=(sz<=16777216/\z.length=sz/\cs.length=sz/\K (.isl sz [cs]) h):=by
 simp [z0j,z90,AV.fits,AV.cells];by_cases hc:cs.length=sz <;> simp [hc]
theorem bsl_two (e:TypeId) (sz by_:Nat) (z cs ds:List AV) (h:z00) (K:AV->z00->Prop):z0j true { e:=e,sz:=sz,by_:=by_ } z 2 [(0,.agg cs),(1,.agg ds)] h K=(2*sz<=16777216/\z.length=sz/\cs.length=sz/\ds.length=sz/\K (.isl sz [cs,ds]) h):=by
 simp [z0j,z90,AV.fits,AV.cells];by_cases hc:cs.length=sz <;> by_cases hd:ds.length=sz <;> simp [hc,hd,List.replicate]
end
section
open Go.Abs
theorem zct {c:Cd} (h:okC c=true):(slL c.Records).length<=6/\(slL c.Threads).length<=4/\zch c (slL c.Globals) 8=true/\zge c=true/\zwb c=true/\(slL c.Records).all (λr=>zch c (slL r) 6)=true/\zgy c=true:=by
 unfold okC at h;simp only [Bool.and_eq_true,decide_eq_true_eq] at h;obtain ⟨⟨⟨⟨⟨⟨h1,h2⟩,h3⟩,h4⟩,h5⟩,h6⟩,h7⟩:=h;exact ⟨h1,h2,h3,h4,h5,h6,h7⟩
theorem meet_comm (s o:z08):zv3 s o=zv3 o s:=by
 unfold zv3;rw [Bool.eq_iff_iff];simp only [Bool.and_eq_true,decide_eq_true_eq];constructor <;> (rintro ⟨⟨a,b⟩,d⟩;exact ⟨⟨a.symm,d⟩,b⟩)
theorem zzj (c:Cd):allK (secB c) (slL c.Sections)=true↔allK (secR c) (slL c.Sections)=true:=by
 simp only [z1t];constructor
 ·intro h k s hs;have hk:=h k s hs;unfold secB at hk;rw [Bool.and_eq_true] at hk;unfold secR;rw [hk.1,Bool.true_and,z1t];intro j o hj;unfold sepP;by_cases e:j=k
  ·simp [e]
  ·have:zv3 s o=false:=by
    rcases Nat.lt_or_gt_of_ne e with hlt | hgt
    ·have:=List.all_eq_true.1 hk.2 o (List.mem_of_getElem? (i:=j) (by rw [List.getElem?_take_of_lt hlt,hj]));simpa using this
    ·have hj2:=h j o hj;unfold secB at hj2;rw [Bool.and_eq_true] at hj2;have:=List.all_eq_true.1 hj2.2 s (List.mem_of_getElem? (i:=k) (by rw [List.getElem?_take_of_lt hgt,hs]));rw [meet_comm];simpa using this
   simp [this]
 ·intro h k s hs;have hk:=h k s hs;unfold secR at hk;rw [Bool.and_eq_true,z1t] at hk;unfold secB;rw [hk.1,Bool.true_and,List.all_eq_true];intro o ho;obtain ⟨j,hj⟩:=List.getElem?_of_mem ho;have hjl:=(List.getElem?_eq_some_iff.1 hj).1;rw [List.length_take] at hjl;have hjk:j<k:=by omega
  rw [List.getElem?_take_of_lt hjk] at hj;have:=hk.2 j o hj;unfold sepP at this;simpa [show j≠k by omega] using this
theorem zzf (c:Cd) (hg:(slL c.Globals).length<=8):allK (rowP c) (c.Globals::slL c.Records)=true↔zch c (slL c.Globals) 8=true/\(slL c.Records).all (λr=>zch c (slL r) 6)=true:=by
 have e8:zch c (slL c.Globals) 8=cellP c c.Globals:=by unfold zch cellP;rw [decide_eq_true (by omega),Bool.true_and]
 rw [e8,z1t,List.all_eq_true];have e6:∀ (i:Nat) (r:Option (List Lo)),rowP c (i+1) r=zch c (slL r) 6:=λi r=>by
  unfold rowP zch cellP;by_cases h:(slL r).length<=6
  ·rw [decide_eq_false (show ¬ 6<(slL r).length by omega),decide_eq_true (show ((slL r).length:Int)<=6 by omega)];simp
  ·rw [decide_eq_true (show 6<(slL r).length by omega),decide_eq_false (show ¬ ((slL r).length:Int)<=6 by omega)];simp
 constructor
 ·intro h;refine ⟨by have:=h 0 _ rfl;simpa [rowP] using this,λr hr=>?_⟩;obtain ⟨i,hi⟩:=List.getElem?_of_mem hr;rw [<-e6 i r];exact h (i+1) r (by simpa using hi)
 ·rintro ⟨h1,h2⟩ k o hk
  cases k with
  | zero=>simp at hk;subst hk;simpa [rowP] using h1
  | succ k=>rw [e6];exact h2 o (List.mem_of_getElem? (by simpa using hk))
theorem zpi (c:Cd):zgy c=true↔(slL c.Threads).all (zas c)=true/\allK (λi b=>allK (λk x=>z9r c i b x k) (slL b.Code)) (slL c.Threads)=true:=by
 have halt:∀ (i:Nat) (b:Bd) (x:In) (k:Nat),z15 c i b x k=true->x.Op=17->(k:Int)=(slL b.Code).length-1:=λi b x k hi ho=>by
  unfold z15 at hi;rw [if_neg (by omega),if_neg (by omega),if_neg (by omega),if_neg (by omega),if_neg (by omega),if_neg (by omega),if_neg (by omega),if_neg (by omega)] at hi;simp only [Bool.and_eq_true,decide_eq_true_eq] at hi;exact hi.2
 unfold zgy;constructor
 ·intro h;rw [z1t] at h;have part:∀ (i:Nat) (b:Bd),(slL c.Threads)[i]?=some b->zas c b=true/\lastB b=true/\zil c i b=true:=λi b hb=>by
   have:=h i b hb;unfold zcc at this;simpa [and_assoc] using this
  refine ⟨List.all_eq_true.2 λb hb=>?_,z1t.2 λi b hb=>z1t.2 λk x hx=>?_⟩
  ·obtain ⟨i,hi⟩:=List.getElem?_of_mem hb;exact (part i b hi).1
  ·obtain ⟨-,h2,h3⟩:=part i b hb;have hi:=z1t.1 h3 k x hx;unfold z9r;rw [hi,Bool.true_and];by_cases ho:x.Op=17
   ·rw [decide_eq_true ho,decide_eq_true (halt i b x k hi ho)];rfl
   ·have:¬ ((k:Int)=(slL b.Code).length-1):=λe=>by
     unfold lastB at h2;rw [<-e,z1w,hx] at h2;exact ho (by simpa using h2)
    rw [decide_eq_false ho,decide_eq_false this];rfl
 ·rintro ⟨h1,h2⟩;rw [z1t] at h2 ⊢;intro i b hb;have hbd:=List.all_eq_true.1 h1 b (List.mem_of_getElem? hb);have hin:=h2 i b hb;rw [z1t] at hin;have hpos:1<=(slL b.Code).length:=by
   unfold zas at hbd;simp only [Bool.and_eq_true,decide_eq_true_eq] at hbd;exact hbd.1.1.1.1.2
  have e1:zil c i b=true:=z1t.2 λk x hx=>by
   have:=hin k x hx;unfold z9r at this;rw [Bool.and_eq_true] at this;exact this.1
  have e2:lastB b=true:=by
   obtain ⟨x,hx⟩:∃ x,(slL b.Code)[(slL b.Code).length-1]?=some x:=⟨_,List.getElem?_eq_getElem (by omega)⟩;have e:((slL b.Code).length:Int)-1=(((slL b.Code).length-1:Nat):Int):=by omega
   have:=hin _ x hx;unfold z9r at this;rw [Bool.and_eq_true,<-e] at this;unfold lastB;rw [e,z1w,hx];simpa using this.2
  unfold zcc;rw [hbd,e2,e1];rfl
theorem zae (c:Cd):okC c=true↔(slL c.Records).length<=6/\(slL c.Globals).length<=8/\(slL c.Threads).length<=4/\(slL c.Sites).length<=32/\(slL c.Sections).length<=32/\allK (rowP c) (c.Globals::slL c.Records)=true/\(slL c.Threads).all (zas c)=true/\allK (secR c) (slL c.Sections)=true/\allK (zb6 c) (slL c.Sites)=true/\allK (λi b=>allK (λk x=>z9r c i b x k) (slL b.Code)) (slL c.Threads)=true:=by
 constructor
 ·intro h;obtain ⟨h1,h2,h3,h4,h5,h6,h7⟩:=zct h;have hg:(slL c.Globals).length<=8:=by
   unfold zch at h3;simp only [Bool.and_eq_true,decide_eq_true_eq] at h3;omega
  unfold zge at h4;unfold zwb at h5;simp only [Bool.and_eq_true,decide_eq_true_eq] at h4 h5;have ht:=(zpi c).1 h7;exact ⟨h1,hg,h2,h5.1,h4.1,(zzf c hg).2 ⟨h3,h6⟩,ht.1,(zzj c).1 h4.2,h5.2,ht.2⟩
 ·rintro ⟨h1,hg,h2,h3,h4,h5,h6,h7,h8,h9⟩;obtain ⟨r1,r2⟩:=(zzf c hg).1 h5;unfold okC zge zwb;rw [decide_eq_true h1,decide_eq_true h2,r1,r2,decide_eq_true h4,decide_eq_true h3,(zzj c).2 h7,h8,(zpi c).2 ⟨h6,h9⟩]
  rfl
theorem keeps_kill {h g:z00} (k:Keeps h g (λ_=>False)) {id:Nat} (hid:h.next<=id):Keeps h (g.kill id) (λ_=>False):=
 ⟨k.next,λi hi hs=>by simp only [z00.z5c];rw [if_neg (by omega)];exact k.objs i hi hs⟩
theorem ref_Good_k (c:Cd) (hc:c.ok) (sm:Small c) (h:z00):z01 Tryz.prog 56 [.agg c.cells] h (λv h2=>v=.bool (okC c)/\Keeps h h2 (λ_=>False)):=by
 have no:∀ {p:Prop},(okC c=true->p)->¬ p->okC c=false:=λhp hn=>by
  rw [Bool.eq_false_iff];exact λe=>hn (hp e)
 have hrec:=sm.recs;have hgl:=sm.globs;apply zft
 (repeat (first | simp -dsimp -implicitDefEqProofs (disch:=omega) only [↓rP,rA,↓reduceIte,reduceEqDiff,reduceAdd,reduceLeDiff,↓tyr] | refine Cut.go ?_))
 refine z0c (λh1=>?_) (λh1=>?_)
 ·(repeat (first | simp -dsimp -implicitDefEqProofs (disch:=omega) only [↓rP,rA,↓reduceIte,reduceEqDiff,reduceAdd,reduceLeDiff,↓tyr] | refine Cut.go ?_))
  rw [no (λe=>((zae c).1 e).1) (by omega)]
  (first | (refine And.intro (by simp) ?_;(repeat (first | assumption | with_reducible exact Keeps.refl _ _ | with_reducible refine Keeps.go ?_ (Keeps.one _ _) | with_reducible refine Keeps.go ?_ (by assumption)))) | (repeat (first | assumption | with_reducible exact Keeps.refl _ _ | with_reducible refine Keeps.go ?_ (Keeps.one _ _) | with_reducible refine Keeps.go ?_ (by assumption))))
 (repeat (first | simp -dsimp -implicitDefEqProofs (disch:=omega) only [↓rP,rA,↓reduceIte,reduceEqDiff,reduceAdd,reduceLeDiff,↓tyr] | refine Cut.go ?_))
 refine z0c (λh2=>?_) (λh2=>?_)
 ·(repeat (first | simp -dsimp -implicitDefEqProofs (disch:=omega) only [↓rP,rA,↓reduceIte,reduceEqDiff,reduceAdd,reduceLeDiff,↓tyr] | refine Cut.go ?_))
  rw [no (λe=>((zae c).1 e).2.1) (by omega)]
  (first | (refine And.intro (by simp) ?_;(repeat (first | assumption | with_reducible exact Keeps.refl _ _ | with_reducible refine Keeps.go ?_ (Keeps.one _ _) | with_reducible refine Keeps.go ?_ (by assumption)))) | (repeat (first | assumption | with_reducible exact Keeps.refl _ _ | with_reducible refine Keeps.go ?_ (Keeps.one _ _) | with_reducible refine Keeps.go ?_ (by assumption))))
 (repeat (first | simp -dsimp -implicitDefEqProofs (disch:=omega) only [↓rP,rA,↓reduceIte,reduceEqDiff,reduceAdd,reduceLeDiff,↓tyr] | refine Cut.go ?_))
 refine z0c (λh3=>?_) (λh3=>?_)
 ·(repeat (first | simp -dsimp -implicitDefEqProofs (disch:=omega) only [↓rP,rA,↓reduceIte,reduceEqDiff,reduceAdd,reduceLeDiff,↓tyr] | refine Cut.go ?_))
  rw [no (λe=>((zae c).1 e).2.2.1) (by omega)]
  (first | (refine And.intro (by simp) ?_;(repeat (first | assumption | with_reducible exact Keeps.refl _ _ | with_reducible refine Keeps.go ?_ (Keeps.one _ _) | with_reducible refine Keeps.go ?_ (by assumption)))) | (repeat (first | assumption | with_reducible exact Keeps.refl _ _ | with_reducible refine Keeps.go ?_ (Keeps.one _ _) | with_reducible refine Keeps.go ?_ (by assumption))))
 (repeat (first | simp -dsimp -implicitDefEqProofs (disch:=omega) only [↓rP,rA,↓reduceIte,reduceEqDiff,reduceAdd,reduceLeDiff,↓tyr] | refine Cut.go ?_))
 refine z0c (λh4=>?_) (λh4=>?_)
 ·(repeat (first | simp -dsimp -implicitDefEqProofs (disch:=omega) only [↓rP,rA,↓reduceIte,reduceEqDiff,reduceAdd,reduceLeDiff,↓tyr] | refine Cut.go ?_))
  rw [no (λe=>((zae c).1 e).2.2.2.1) (by omega)]
  (first | (refine And.intro (by simp) ?_;(repeat (first | assumption | with_reducible exact Keeps.refl _ _ | with_reducible refine Keeps.go ?_ (Keeps.one _ _) | with_reducible refine Keeps.go ?_ (by assumption)))) | (repeat (first | assumption | with_reducible exact Keeps.refl _ _ | with_reducible refine Keeps.go ?_ (Keeps.one _ _) | with_reducible refine Keeps.go ?_ (by assumption))))
 (repeat (first | simp -dsimp -implicitDefEqProofs (disch:=omega) only [↓rP,rA,↓reduceIte,reduceEqDiff,reduceAdd,reduceLeDiff,↓tyr] | refine Cut.go ?_))
 refine z0c (λh5=>?_) (λh5=>?_)
 ·(repeat (first | simp -dsimp -implicitDefEqProofs (disch:=omega) only [↓rP,rA,↓reduceIte,reduceEqDiff,reduceAdd,reduceLeDiff,↓tyr] | refine Cut.go ?_))
  rw [no (λe=>((zae c).1 e).2.2.2.2.1) (by omega)]
  (first | (refine And.intro (by simp) ?_;(repeat (first | assumption | with_reducible exact Keeps.refl _ _ | with_reducible refine Keeps.go ?_ (Keeps.one _ _) | with_reducible refine Keeps.go ?_ (by assumption)))) | (repeat (first | assumption | with_reducible exact Keeps.refl _ _ | with_reducible refine Keeps.go ?_ (Keeps.one _ _) | with_reducible refine Keeps.go ?_ (by assumption))))
 have bs:∀ K:AV->z00->Prop,z0j false { e:=23,sz:=1,by_:=24 } [AV.nils] 1 [(0,slAV 3 z0b.cells c.Globals)] h K=K (.sl h.next 0 1 1) (h.push (.row 23 [slAV 3 z0b.cells c.Globals])):=λK=>by
  simp [z0j,z90,zfa,zle]
 have ap:∀ K:AV->z00->Prop,z0z false { e:=23,sz:=1,by_:=24 } (.sl h.next 0 1 1) (slAV 1 (λo=>[slAV 3 z0b.cells o]) c.Records) (h.push (.row 23 [slAV 3 z0b.cells c.Globals])) K
   =K (.sl (h.next+1) 0 (c.Globals::slL c.Records).length 1) (((h.push (.row 23 [slAV 3 z0b.cells c.Globals])).kill h.next).push (.row 23 ((c.Globals::slL c.Records).map λo=>slAV 3 z0b.cells o))):=λK=>by
  have ef:((slL c.Records).map λo=>[slAV 3 z0b.cells o]).flatten=(slL c.Records).map λo=>slAV 3 z0b.cells o:=by
   induction slL c.Records with
   | nil=>rfl
   | cons a l ih=>simp [ih]
  simp only [z0z,zl1,z00.z4a,if_true];rw [ef];simp [bounded,maxLen,Nat.add_comm];intro;omega
 (repeat (first | simp -dsimp -implicitDefEqProofs (disch:=omega) only [↓rP,rA,↓reduceIte,reduceEqDiff,reduceAdd,reduceLeDiff,↓tyr,↓bs,↓ap] | refine Cut.go ?_))
 have kH:Keeps h (((h.push (.row 23 [slAV 3 z0b.cells c.Globals])).kill h.next).push (.row 23 ((c.Globals::slL c.Records).map λo=>slAV 3 z0b.cells o))) (λ_=>False):=(keeps_kill (Keeps.one _ _) (Nat.le_refl _)).go (Keeps.one _ _);have hfl:∀ o∈(c.Globals::slL c.Records),(slL o).length<=1000:=λo ho=>by
  rcases List.mem_cons.1 ho with rfl | ho
  ·omega
  ·have:=sm.fields o ho;omega
 refine g_rows c (c.Globals::slL c.Records) (by simp;omega) hfl _ (h.next+1) (by simp) (by simp) _ (λh6 hg k6=>?_) (λh6 hg k6=>?_)
 ·(repeat (first | simp -dsimp -implicitDefEqProofs (disch:=omega) only [↓rP,rA,↓reduceIte,reduceEqDiff,reduceAdd,reduceLeDiff,↓tyr] | refine Cut.go ?_))
  rw [no (λe=>((zae c).1 e).2.2.2.2.2.1) (by rw [hg];simp)];exact ⟨rfl,kH.go k6⟩
 (repeat (first | simp -dsimp -implicitDefEqProofs (disch:=omega) only [↓rP,rA,↓reduceIte,reduceEqDiff,reduceAdd,reduceLeDiff,↓tyr] | refine Cut.go ?_))
 refine g_bodies c sm h6 _ (λh7 hg7 k7=>?_) (λh7 hg7 k7=>?_)
 ·(repeat (first | simp -dsimp -implicitDefEqProofs (disch:=omega) only [↓rP,rA,↓reduceIte,reduceEqDiff,reduceAdd,reduceLeDiff,↓tyr] | refine Cut.go ?_))
  rw [no (λe=>((zae c).1 e).2.2.2.2.2.2.1) (by rw [hg7];simp)];exact ⟨rfl,(kH.go k6).go k7⟩
 (repeat (first | simp -dsimp -implicitDefEqProofs (disch:=omega) only [↓rP,rA,↓reduceIte,reduceEqDiff,reduceAdd,reduceLeDiff,↓tyr] | refine Cut.go ?_))
 refine g_sections c sm h7 _ (λh8 hg8 k8=>?_) (λh8 hg8 k8=>?_)
 ·(repeat (first | simp -dsimp -implicitDefEqProofs (disch:=omega) only [↓rP,rA,↓reduceIte,reduceEqDiff,reduceAdd,reduceLeDiff,↓tyr] | refine Cut.go ?_))
  rw [no (λe=>((zae c).1 e).2.2.2.2.2.2.2.1) (by rw [hg8];simp)];exact ⟨rfl,((kH.go k6).go k7).go k8⟩
 (repeat (first | simp -dsimp -implicitDefEqProofs (disch:=omega) only [↓rP,rA,↓reduceIte,reduceEqDiff,reduceAdd,reduceLeDiff,↓tyr] | refine Cut.go ?_))
 refine g_sites c sm h8 _ (λh9 hg9 k9=>?_) (λh9 hg9 k9=>?_)
 ·(repeat (first | simp -dsimp -implicitDefEqProofs (disch:=omega) only [↓rP,rA,↓reduceIte,reduceEqDiff,reduceAdd,reduceLeDiff,↓tyr] | refine Cut.go ?_))
  rw [no (λe=>((zae c).1 e).2.2.2.2.2.2.2.2.1) (by rw [hg9];simp)];exact ⟨rfl,(((kH.go k6).go k7).go k8).go k9⟩
 (repeat (first | simp -dsimp -implicitDefEqProofs (disch:=omega) only [↓rP,rA,↓reduceIte,reduceEqDiff,reduceAdd,reduceLeDiff,↓tyr] | refine Cut.go ?_))
 refine g_threads c hc sm hg7 h9 _ (λh10 hg10 k10=>?_) (λh10 hg10 k10=>?_)
 ·(repeat (first | simp -dsimp -implicitDefEqProofs (disch:=omega) only [↓rP,rA,↓reduceIte,reduceEqDiff,reduceAdd,reduceLeDiff,↓tyr] | refine Cut.go ?_))
  rw [no (λe=>((zae c).1 e).2.2.2.2.2.2.2.2.2) (by rw [hg10];simp)];exact ⟨rfl,((((kH.go k6).go k7).go k8).go k9).go k10⟩
 (repeat (first | simp -dsimp -implicitDefEqProofs (disch:=omega) only [↓rP,rA,↓reduceIte,reduceEqDiff,reduceAdd,reduceLeDiff,↓tyr] | refine Cut.go ?_))
 rw [(zae c).2 ⟨by omega,by omega,by omega,by omega,by omega,hg,hg7,hg8,hg9,hg10⟩];exact ⟨rfl,((((kH.go k6).go k7).go k8).go k9).go k10⟩
theorem zm1 (c:Cd) (hc:c.ok) (sm:Small c) (h:z00):z01 Tryz.prog 56 [.agg c.cells] h (λv h2=>v=.bool (okC c)/\h2=h):=z01.forget (by simp [z1x]) (ref_Good_k c hc sm h)
end
end Go.Proofs.YtjlogcfggfmacaaGreat
section
namespace Go.Proofs.YtjlogcfggfmacaaGreat
inductive Conn (R:Nat->Nat->Prop):Nat->Nat->Prop
 | refl (a:Nat):Conn R a a
 | tail {a b c:Nat}:Conn R a b->R b c->Conn R a c
namespace Conn
variable {R:Nat->Nat->Prop}
theorem one {a b:Nat} (h:R a b):Conn R a b:=(Conn.refl a).tail h
theorem trans {a b c:Nat} (h:Conn R a b) (k:Conn R b c):Conn R a c:=by
 induction k with
 | refl=>exact h
 | tail _ r ih=>exact ih.tail r
theorem symm (hs:∀ a b,R a b->R b a) {a b:Nat} (h:Conn R a b):Conn R b a:=by
 induction h with
 | refl=>exact .refl _
 | tail _ r ih=>exact (one (hs _ _ r)).trans ih
theorem map {R':Nat->Nat->Prop} (hm:∀ a b,R a b->Conn R' a b) {a b:Nat} (h:Conn R a b):Conn R' a b:=by
 induction h with
 | refl=>exact .refl _
 | tail _ r ih=>exact ih.trans (hm _ _ r)
theorem closed {T:Nat->Prop} (hc:∀ a b,T a->R a b->T b) {a b:Nat} (h:Conn R a b) (ha:T a):T b:=by
 induction h with
 | refl=>exact ha
 | tail _ r ih=>exact hc _ _ ih r
end Conn
def Prs (P:List (Nat×Nat)) (a b:Nat):Prop:=(a,b)∈P\/(b,a)∈P
theorem Prs.symm {P:List (Nat×Nat)} (a b:Nat) (h:Prs P a b):Prs P b a:=Or.symm h
theorem conn_snoc {P:List (Nat×Nat)} {i j x y:Nat}:Conn (Prs (P++[(i,j)])) x y↔Conn (Prs P) x y\/(Conn (Prs P) x i/\Conn (Prs P) j y)\/(Conn (Prs P) x j/\Conn (Prs P) i y):=by
 have up:∀ {a b:Nat},Conn (Prs P) a b->Conn (Prs (P++[(i,j)])) a b:=λh=>h.map λa b r=>Conn.one (by
  rcases r with r | r
  ·exact Or.inl (by simp [r])
  ·exact Or.inr (by simp [r]))
 have hij:Conn (Prs (P++[(i,j)])) i j:=Conn.one (Or.inl (by simp));have hji:Conn (Prs (P++[(i,j)])) j i:=Conn.one (Or.inr (by simp));constructor
 ·intro h
  induction h with
  | refl=>exact Or.inl (.refl _)
  | @tail b c _ r ih=>
   have sy:∀ {a b:Nat},Conn (Prs P) a b->Conn (Prs P) b a:=λh=>h.symm Prs.symm;have hr:Prs P b c\/(b=i/\c=j)\/(b=j/\c=i):=by
    rcases r with r | r <;> simp only [List.mem_append,List.mem_singleton,Prod.mk.injEq] at r
    ·rcases r with r | r
     ·exact Or.inl (Or.inl r)
     ·exact Or.inr (Or.inl r)
    ·rcases r with r | ⟨r1,r2⟩
     ·exact Or.inl (Or.inr r)
     ·exact Or.inr (Or.inr ⟨r2,r1⟩)
   rcases hr with hr | ⟨rfl,rfl⟩ | ⟨rfl,rfl⟩
   ·rcases ih with ih | ⟨h1,h2⟩ | ⟨h1,h2⟩
    ·exact Or.inl (ih.tail hr)
    ·exact Or.inr (Or.inl ⟨h1,h2.tail hr⟩)
    ·exact Or.inr (Or.inr ⟨h1,h2.tail hr⟩)
   ·rcases ih with ih | ⟨h1,h2⟩ | ⟨h1,h2⟩
    ·exact Or.inr (Or.inl ⟨ih,.refl _⟩)
    ·exact Or.inr (Or.inl ⟨h1,.refl _⟩)
    ·exact Or.inl h1
   ·rcases ih with ih | ⟨h1,h2⟩ | ⟨h1,h2⟩
    ·exact Or.inr (Or.inr ⟨ih,.refl _⟩)
    ·exact Or.inl h1
    ·exact Or.inr (Or.inr ⟨h1,.refl _⟩)
 ·rintro (h | ⟨h1,h2⟩ | ⟨h1,h2⟩)
  ·exact up h
  ·exact ((up h1).trans hij).trans (up h2)
  ·exact ((up h1).trans hji).trans (up h2)
def Low (f:List Nat):Prop:=∀ (k v:Nat),f[k]?=some v->v<=k
def root (f:List Nat) (k:Nat):Nat:=if h:f.getD k k<k then root f (f.getD k k) else k
termination_by k
theorem zga {f:List Nat} {k:Nat} (h:f.getD k k<k):root f k=root f (f.getD k k):=by
 rw [root,dif_pos h]
theorem zao {f:List Nat} {k:Nat} (h:¬ f.getD k k<k):root f k=k:=by
 rw [root,dif_neg h]
theorem zp8 {f:List Nat}:∀ (k:Nat),root f k<=k:=by
 intro k
 induction k using Nat.strongRecOn with
 | _ k ih=>
  by_cases h:f.getD k k<k
  ·rw [zga h];have:=ih _ h;omega
  ·rw [zao h];exact Nat.le_refl _
theorem zt2 {f:List Nat}:∀ (k:Nat),¬ f.getD (root f k) (root f k)<root f k:=by
 intro k
 induction k using Nat.strongRecOn with
 | _ k ih=>
  by_cases h:f.getD k k<k
  ·rw [zga h];exact ih _ h
  ·rw [zao h];exact h
theorem zan {f:List Nat} (k:Nat):root f (root f k)=root f k:=zao (zt2 k)
theorem znh (f:List Nat) (k v j:Nat) (hk:k<f.length):(f.set k v).getD j j=if j=k then v else f.getD j j:=by
 rw [List.getD_eq_getElem?_getD,List.getElem?_set,List.getD_eq_getElem?_getD];by_cases e:k=j
 ·subst e;simp [hk]
 ·rw [if_neg e,if_neg (Ne.symm e)]
theorem Low.set {f:List Nat} (hl:Low f) {k v:Nat} (hv:v<=k):Low (f.set k v):=by
 intro j x hx;rw [List.getElem?_set] at hx;split at hx
 ·rename_i e;split at hx
  ·cases hx;omega
  ·cases hx
 ·exact hl j x hx
theorem zw4 {f:List Nat} (hl:Low f) {a b:Nat} (ha:a<f.length) (hb:b<f.length) (ra:root f a=a) (rb:root f b=b) (x:Nat):root (f.set (max a b) (min a b)) x=if root f x=max a b then min a b else root f x:=by
 have hM:max a b<f.length:=by omega
 have rM:root f (max a b)=max a b:=by
  rcases Nat.le_total a b with h | h
  ·rw [Nat.max_eq_right h,rb]
  ·rw [Nat.max_eq_left h,ra]
 have rm:root f (min a b)=min a b:=by
  rcases Nat.le_total a b with h | h
  ·rw [Nat.min_eq_left h,ra]
  ·rw [Nat.min_eq_right h,rb]
 have hmM:min a b<=max a b:=by omega
 generalize max a b=M at *;generalize min a b=m at *;have fM:¬ f.getD M M<M:=by have:=zt2 (f:=f) M;rwa [rM] at this
 have fm:¬ f.getD m m<m:=by have:=zt2 (f:=f) m;rwa [rm] at this
 induction x using Nat.strongRecOn with
 | _ x ih=>
  by_cases e:x=M
  ·subst e;rw [rM,if_pos rfl];have h1:(f.set x m).getD x x=m:=by rw [znh _ _ _ _ hM,if_pos rfl]
   rcases Nat.lt_or_eq_of_le hmM with hlt | heq
   ·rw [zga (by rw [h1];exact hlt),h1,ih m hlt,rm,if_neg (by omega)]
   ·rw [zao (by rw [h1];omega)];exact heq.symm
  ·have h1:(f.set M m).getD x x=f.getD x x:=by rw [znh _ _ _ _ hM,if_neg e]
   by_cases h2:f.getD x x<x
   ·rw [zga (by rw [h1];exact h2),h1,ih _ h2,<-zga h2]
   ·rw [zao (by rw [h1];exact h2),zao h2,if_neg e]
def Says (f:List Nat) (P:List (Nat×Nat)):Prop:=Low f/\∀ x y,root f x=root f y↔Conn (Prs P) x y
theorem Says.start (n:Nat):Says (List.range n) []:=by
 have hl:Low (List.range n):=λk v h=>by
  have:=List.getElem?_eq_some_iff.1 h;obtain ⟨h1,h2⟩:=this;simp at h2;omega
 have hr:∀ x,root (List.range n) x=x:=λx=>zao (by
  rw [List.getD_eq_getElem?_getD];by_cases h:x<n <;> simp [h])
 refine ⟨hl,λx y=>?_⟩;rw [hr,hr];constructor
 ·rintro rfl;exact .refl _
 ·intro h
  induction h with
  | refl=>rfl
  | tail _ r ih=>rcases r with r | r <;> simp at r
theorem Says.link {f:List Nat} {P:List (Nat×Nat)} (h:Says f P) {i j:Nat} (hi:i<f.length) (hj:j<f.length):Says (f.set (max (root f i) (root f j)) (min (root f i) (root f j))) (P++[(i,j)]):=by
 have h1:root f i<f.length:=Nat.lt_of_le_of_lt (zp8 i) hi;have h2:root f j<f.length:=Nat.lt_of_le_of_lt (zp8 j) hj;refine ⟨h.1.set (by omega),λx y=>?_⟩;rw [zw4 h.1 h1 h2 (zan i) (zan j),zw4 h.1 h1 h2 (zan i) (zan j),conn_snoc,<-h.2,<-h.2,<-h.2,<-h.2,<-h.2];rcases Nat.le_total (root f i) (root f j) with hle | hle
 ·rw [Nat.max_eq_right hle,Nat.min_eq_left hle];split <;> split <;> omega
 ·rw [Nat.max_eq_left hle,Nat.min_eq_right hle];split <;> split <;> omega
def MeetP (S:List Nat) (a b:Nat):Prop:=∃ x∈S,x.testBit a=true/\x.testBit b=true
def bitsOf (x:Nat):List Nat:=(List.range 64).filter λk=>x.testBit k
theorem z7a {x k:Nat}:k∈bitsOf x↔k<64/\x.testBit k=true:=by simp [bitsOf]
def zym (x:Nat):Nat:=(bitsOf x).headD 64
def zn8 (S:List Nat):List (Nat×Nat):=(S.map λx=>(bitsOf x).map λk=>(zym x,k)).flatten
theorem zlk {x k:Nat} (h:k∈bitsOf x):zym x∈bitsOf x:=by
 unfold zym
 cases hb:bitsOf x with
 | nil=>rw [hb] at h;cases h
 | cons a l=>simp
theorem conn_prs {S:List Nat} (hS:∀ x∈S,x<2 ^ 64) {x y:Nat}:Conn (Prs (zn8 S)) x y↔Conn (MeetP S) x y:=by
 have hmem:∀ a b,(a,b)∈zn8 S↔∃ x∈S,a=zym x/\b∈bitsOf x:=by
  intro a b;simp only [zn8,List.mem_flatten,List.mem_map];constructor
  ·rintro ⟨l,⟨x,hx,rfl⟩,h⟩;simp only [List.mem_map,Prod.mk.injEq] at h;obtain ⟨k,hk,rfl,rfl⟩:=h;exact ⟨x,hx,rfl,hk⟩
  ·rintro ⟨x,hx,rfl,hb⟩;exact ⟨_,⟨x,hx,rfl⟩,List.mem_map.2 ⟨b,hb,rfl⟩⟩
 constructor
 ·refine Conn.map λa b h=>Conn.one ?_;rcases h with h | h <;> obtain ⟨x,hx,e,hb⟩:=(hmem _ _).1 h
  ·exact ⟨x,hx,e▸(z7a.1 (zlk hb)).2,(z7a.1 hb).2⟩
  ·exact ⟨x,hx,(z7a.1 hb).2,e▸(z7a.1 (zlk hb)).2⟩
 ·refine Conn.map λa b h=>?_;obtain ⟨x,hx,h1,h2⟩:=h;have hlt:∀ k,x.testBit k=true->k<64:=λk hk=>by
   apply Classical.byContradiction;intro hn;have:x<2 ^ k:=Nat.lt_of_lt_of_le (hS x hx) (Nat.pow_le_pow_right (by decide) (by omega));rw [Nat.testBit_lt_two_pow this] at hk;cases hk
  have b1:=z7a.2 ⟨hlt a h1,h1⟩;have b2:=z7a.2 ⟨hlt b h2,h2⟩;exact (Conn.one (Or.inr ((hmem _ _).2 ⟨x,hx,rfl,b1⟩))).tail (Or.inl ((hmem _ _).2 ⟨x,hx,rfl,b2⟩))
def z2z (f:List Nat) (k:Nat):Nat:=(List.range k).countP λj=>decide (root f j=j)
def zat (f:List Nat) (k:Nat):Nat:=z2z f (root f k)+1
theorem zdx (f:List Nat) (k:Nat):z2z f (k+1)=z2z f k+if root f k=k then 1 else 0:=by
 unfold z2z;rw [List.range_succ,List.countP_append];simp [List.countP_cons]
theorem zux {f g:List Nat} (h:∀ x,root g x=root f x) (k:Nat):z2z g k=z2z f k:=by simp only [z2z,h]
theorem zon (f:List Nat) {i k:Nat} (h:i<=k):z2z f i<=z2z f k:=by
 induction h with
 | refl=>exact Nat.le_refl _
 | @step m _ ih=>rw [show m.succ=m+1 from rfl,zdx];omega
theorem zwv {f g:List Nat} (h:∀ x,root g x=root f x) (k:Nat):zat g k=zat f k:=by simp only [zat,h,zux h]
theorem countP_lt {n:Nat} {p q:Nat->Bool} (h:∀ j,j<n->p j=true->q j=true) {b:Nat} (hb:b<n) (h1:p b=false) (h2:q b=true):(List.range n).countP p<(List.range n).countP q:=by
 induction n with
 | zero=>omega
 | succ n ih=>
  rw [List.range_succ,List.countP_append,List.countP_append];have hle:(List.range n).countP p<=(List.range n).countP q:=List.countP_mono_left λj hj hp=>h j (by have:=List.mem_range.1 hj;omega) hp;rcases Nat.lt_or_eq_of_le (show b<=n by omega) with hbn | rfl
  ·have:=ih (λj hj=>h j (by omega)) hbn;have h3:=h n (by omega);cases hp:p n <;> cases hq:q n <;> simp_all <;> omega
  ·simp [h1,h2];omega
def Come (n:Nat) (R:Nat->Nat->Prop) (r:Nat) (T:Nat->Bool):Prop:=(∀ a b,a<n->b<n->T a=true->R a b->T b=true)\/r+1<=(List.range n).countP T
theorem Come.next {n:Nat} {R:Nat->Nat->Prop} {r:Nat} {T T':Nat->Bool} (h:Come n R r T) (hm:∀ j,j<n->T j=true->T' j=true) (hc:∀ a b,a<n->b<n->T a=true->R a b->T' b=true) (hs:(∀ a b,a<n->b<n->T a=true->R a b->T b=true)->∀ j,j<n->T' j=T j):Come n R (r+1) T':=by
 by_cases hcl:∀ a b,a<n->b<n->T a=true->R a b->T b=true
 ·have:=hs hcl
  left
  intro a b ha hb h1 h2;rw [this b hb];exact hcl a b ha hb (by rw [<-this a ha];exact h1) h2
 ·right
  have hge:=h.resolve_left hcl;obtain ⟨b,hb,h1,h2⟩:∃ b,b<n/\T b=false/\T' b=true:=by
   apply Classical.byContradiction;intro hn;apply hcl;intro a b ha hb h1 h2
   cases hT:T b with
   | true=>rfl
   | false=>exact absurd ⟨b,hb,hT,hc a b ha hb h1 h2⟩ hn
  have:=countP_lt hm hb h1 h2;omega
theorem Come.end_ {n:Nat} {R:Nat->Nat->Prop} {T:Nat->Bool} (h:Come n R n T):∀ a b,a<n->b<n->T a=true->R a b->T b=true:=by
 rcases h with h | h
 ·exact h
 ·have:(List.range n).countP T<=(List.range n).length:=List.countP_le_length;simp at this;omega
end Go.Proofs.YtjlogcfggfmacaaGreat
end
namespace Go.Proofs.YtjlogcfggfmacaaGreat
section

end
section
open Go.Abs
inductive Rw where
 | g
 | s (t:Nat)
 | f (k:Nat)
 deriving DecidableEq
abbrev Sg:=Rw->Nat->Nat
def Le (σ τ:Sg):Prop:=∀ r n i,(σ r n).testBit i=true->(τ r n).testBit i=true
theorem Le.anti {σ τ:Sg} (h:Le σ τ) (k:Le τ σ):σ=τ:=by
 funext r n;apply Nat.eq_of_testBit_eq;intro i;rw [Bool.eq_iff_iff];exact ⟨h r n i,k r n i⟩
def orF {α:Type} (f:α->Nat) (l:List α):Nat:=l.foldl (λo k=>o ||| f k) 0
theorem zz3 {α:Type} (f:α->Nat) (l:List α) (x:α):orF f (l++[x])=orF f l ||| f x:=by simp [orF]
theorem orF_from {α:Type} (f:α->Nat) (l:List α):∀ a,l.foldl (λo k=>o ||| f k) a=a ||| orF f l:=by
 induction l with
 | nil=>intro a;simp [orF]
 | cons x l ih=>intro a;simp only [orF,List.foldl_cons];rw [ih,ih (0 ||| f x)];simp [Nat.or_assoc]
theorem orF_cons {α:Type} (f:α->Nat) (x:α) (l:List α):orF f (x::l)=f x ||| orF f l:=by
 rw [orF,List.foldl_cons,orF_from];simp
theorem zio {α:Type} (f:α->Nat) (l:List α) (i:Nat):(orF f l).testBit i=true↔∃ x∈l,(f x).testBit i=true:=by
 induction l with
 | nil=>simp [orF]
 | cons x l ih=>rw [orF_cons,Nat.testBit_or,Bool.or_eq_true,ih];simp
def recL (c:Cd) (n:Int):List Lo:=match getI (slL c.Records) n with | some r=>slL r | none=>[]
def zaq (c:Cd) (t:Nat):List Lo:=match (slL c.Threads)[t]? with | some b=>slL b.Slots | none=>[]
def lenR (c:Cd):Rw->Nat
 | .g=>(slL c.Globals).length
 | .s t=>(zaq c t).length
 | .f k=>match (slL c.Sites)[k]? with | some x=>(recL c x.Rec).length | none=>0
def zk9 (l:Lo):Bool:=decide (l.Kind=4)||decide (l.Kind=3)
def zb4:Option Lo->Bool | some l=>zk9 l | none=>false
def z3m (σ:Sg) (t:Nat) (l:List It):Nat:=orF (λx=>if x.Op=2 then σ (.s t) x.N else 0) l
def zbb (c:Cd) (σ:Sg) (t:Nat) (x:In):Nat:=orF (λk=>if x.N<lenR c (.f k) then σ (.f k) x.N.toNat else 0) (bitsOf (σ (.s t) x.Src.toNat))
def z2p (c:Cd) (σ:Sg) (t:Nat) (x:In):Nat:=
 if x.Op=1 then z3m σ t (slL x.Items)
 else if x.Op=2 then σ .g x.N.toNat
 else if x.Op=8\/x.Op=9 then 2 ^ x.N.toNat
 else if x.Op=3 then zbb c σ t x
 else 0
def dstB (c:Cd) (t:Nat) (x:In):Bool:=(decide (x.Op=1)||decide (x.Op=2)||decide (x.Op=3)||decide (x.Op=8)||decide (x.Op=9))&&zb4 (getI (zaq c t) x.Dst)
def z9k (c:Cd) (k:Nat) (n:Int):Bool:=match (slL c.Sites)[k]? with | some s=>decide (s.Rec=n) | none=>false
def toF (c:Cd) (t:Nat) (x:In) (σ:Sg):Rw->Bool
 | .f k=>(σ (.s t) x.Src.toNat).testBit k&&z9k c k x.Rec
 | _=>false
def zlg (c:Cd) (t:Nat) (x:In) (σ:Sg) (r:Rw) (n:Nat):Nat:=
 if dstB c t x=true/\r=.s t/\n=x.Dst.toNat then z2p c σ t x
 else if x.Op=5/\zb4 (getI (slL c.Globals) x.N)=true/\r=.g/\n=x.N.toNat then z3m σ t (slL x.Items)
 else if x.Op=6/\zb4 (getI (recL c x.Rec) x.N)=true/\toF c t x σ r=true/\n=x.N.toNat then z3m σ t (slL x.Items)
 else 0
theorem zlt {σ τ:Sg} (h:Le σ τ) (t:Nat) (l:List It) (i:Nat) (hi:(z3m σ t l).testBit i=true):(z3m τ t l).testBit i=true:=by
 unfold z3m at *;rw [zio] at *;obtain ⟨x,hx,hb⟩:=hi;refine ⟨x,hx,?_⟩;split at hb
 ·rename_i e;rw [if_pos e];exact h _ _ _ hb
 ·simp at hb
theorem zwz {c:Cd} {σ τ:Sg} (h:Le σ τ) (t:Nat) (x:In) (i:Nat) (hi:(zbb c σ t x).testBit i=true):(zbb c τ t x).testBit i=true:=by
 unfold zbb at *;rw [zio] at *;obtain ⟨k,hk,hb⟩:=hi;rw [z7a] at hk;refine ⟨k,z7a.2 ⟨hk.1,h _ _ _ hk.2⟩,?_⟩;split at hb
 ·rename_i e;rw [if_pos e];exact h _ _ _ hb
 ·simp at hb
theorem zwu {c:Cd} {σ τ:Sg} (h:Le σ τ) (t:Nat) (x:In) (i:Nat) (hi:(z2p c σ t x).testBit i=true):(z2p c τ t x).testBit i=true:=by
 unfold z2p at *;split
 ·rename_i e;rw [if_pos e] at hi;exact zlt h _ _ _ hi
 ·rename_i e;rw [if_neg e] at hi;split
  ·rename_i e;rw [if_pos e] at hi;exact h _ _ _ hi
  ·rename_i e;rw [if_neg e] at hi;split
   ·rename_i e;rw [if_pos e] at hi;exact hi
   ·rename_i e;rw [if_neg e] at hi;split
    ·rename_i e;rw [if_pos e] at hi;exact zwz h _ _ _ hi
    ·rename_i e;rw [if_neg e] at hi;exact hi
theorem toF_mono {c:Cd} {σ τ:Sg} (h:Le σ τ) (t:Nat) (x:In) (r:Rw) (hr:toF c t x σ r=true):toF c t x τ r=true:=by
 cases r with
 | f k=>
  simp only [toF,Bool.and_eq_true] at *;exact ⟨h _ _ _ hr.1,hr.2⟩
 | _=>cases hr
theorem zo4 (c:Cd) (t:Nat) (x:In) (σ:Sg) (r:Rw) (n i:Nat):(zlg c t x σ r n).testBit i=true↔
  (dstB c t x=true/\r=.s t/\n=x.Dst.toNat/\(z2p c σ t x).testBit i=true)\/
  (x.Op=5/\zb4 (getI (slL c.Globals) x.N)=true/\r=.g/\n=x.N.toNat/\(z3m σ t (slL x.Items)).testBit i=true)\/
  (x.Op=6/\zb4 (getI (recL c x.Rec) x.N)=true/\toF c t x σ r=true/\n=x.N.toNat/\(z3m σ t (slL x.Items)).testBit i=true):=by
 have d5:dstB c t x=true->x.Op≠5/\x.Op≠6:=by
  intro h;simp only [dstB,Bool.and_eq_true,Bool.or_eq_true,decide_eq_true_eq] at h;omega
 unfold zlg;by_cases h1:dstB c t x=true/\r=.s t/\n=x.Dst.toNat
 ·rw [if_pos h1];have:=d5 h1.1;constructor
  ·intro h;exact Or.inl ⟨h1.1,h1.2.1,h1.2.2,h⟩
  ·rintro (h | h | h)
   ·exact h.2.2.2
   ·exact absurd h.1 this.1
   ·exact absurd h.1 this.2
 ·rw [if_neg h1];by_cases h2:x.Op=5/\zb4 (getI (slL c.Globals) x.N)=true/\r=.g/\n=x.N.toNat
  ·rw [if_pos h2];constructor
   ·intro h;exact Or.inr (Or.inl ⟨h2.1,h2.2.1,h2.2.2.1,h2.2.2.2,h⟩)
   ·rintro (h | h | h)
    ·exact absurd ⟨h.1,h.2.1,h.2.2.1⟩ h1
    ·exact h.2.2.2.2
    ·have:=h2.1;have:=h.1;omega
  ·rw [if_neg h2];by_cases h3:x.Op=6/\zb4 (getI (recL c x.Rec) x.N)=true/\toF c t x σ r=true/\n=x.N.toNat
   ·rw [if_pos h3];constructor
    ·intro h;exact Or.inr (Or.inr ⟨h3.1,h3.2.1,h3.2.2.1,h3.2.2.2,h⟩)
    ·rintro (h | h | h)
     ·exact absurd ⟨h.1,h.2.1,h.2.2.1⟩ h1
     ·exact absurd ⟨h.1,h.2.1,h.2.2.1,h.2.2.2.1⟩ h2
     ·exact h.2.2.2.2
   ·rw [if_neg h3];constructor
    ·intro h;simp at h
    ·rintro (h | h | h)
     ·exact absurd ⟨h.1,h.2.1,h.2.2.1⟩ h1
     ·exact absurd ⟨h.1,h.2.1,h.2.2.1,h.2.2.2.1⟩ h2
     ·exact absurd ⟨h.1,h.2.1,h.2.2.1,h.2.2.2.1⟩ h3
theorem contr_mono {c:Cd} {σ τ:Sg} (h:Le σ τ) (t:Nat) (x:In):Le (zlg c t x σ) (zlg c t x τ):=by
 intro r n i hi;rw [zo4] at *;rcases hi with ⟨h1,h2,h3,h4⟩ | ⟨h1,h2,h3,h4,h5⟩ | ⟨h1,h2,h3,h4,h5⟩
 ·exact Or.inl ⟨h1,h2,h3,zwu h _ _ _ h4⟩
 ·exact Or.inr (Or.inl ⟨h1,h2,h3,h4,zlt h _ _ _ h5⟩)
 ·exact Or.inr (Or.inr ⟨h1,h2,toF_mono h _ _ _ h3,h4,zlt h _ _ _ h5⟩)
def Cl (c:Cd) (σ:Sg):Prop:=∀ (t:Nat) (b:Bd) (a:Nat) (x:In),(slL c.Threads)[t]?=some b->(slL b.Code)[a]?=some x->Le (zlg c t x σ) σ
def Lw (c:Cd) (σ:Sg):Prop:=∀ τ,Cl c τ->Le σ τ
theorem least_eq {c:Cd} {σ τ:Sg} (h1:Cl c σ) (h2:Lw c σ) (k1:Cl c τ) (k2:Lw c τ):σ=τ:=Le.anti (h2 τ k1) (k2 σ h1)
structure Wf (c:Cd) (b:Bd) (x:In):Prop where
 dst:(x.Op=1\/x.Op=2\/x.Op=3\/x.Op=4\/x.Op=8\/x.Op=9\/x.Op=10)->btw x.Dst (slL b.Slots).length=true
 items:(x.Op=1\/x.Op=5\/x.Op=6)->(∀ y∈slL x.Items,y.Op=2->y.N<(slL b.Slots).length)/\(slL x.Items).length<=64
 glob:(x.Op=2\/x.Op=5)->btw x.N (slL c.Globals).length=true
 fld:(x.Op=3\/x.Op=6)->∃ r,getI (slL c.Records) x.Rec=some r/\btw x.N (slL r).length=true/\btw x.Src (slL b.Slots).length=true
 site:(x.Op=8\/x.Op=9)->btw x.N (slL c.Sites).length=true
 ints:(x.Op=4\/x.Op=10)->∀ l,getI (slL b.Slots) x.Dst=some l->l.Kind=1
theorem zi0 {b:Bd} {n:Int} {w:Lo} (h:isB b n w=true):btw n (slL b.Slots).length=true:=by
 cases hb:btw n (slL b.Slots).length with
 | true=>rfl
 | false=>rw [z5t hb] at h;cases h
theorem zyw {b:Bd} {n:Int} {w l:Lo} (h:isB b n w=true) (hl:getI (slL b.Slots) n=some l):l.Kind=w.Kind/\l.Rec=w.Rec:=by
 unfold isB at h;rw [hl] at h;simp only [zdh,Bool.and_eq_true,decide_eq_true_eq] at h;exact h
theorem z8o {b:Bd} {o:Option (List It)} (h:z3g b o=true):(∀ y∈slL o,y.Op=2->y.N<(slL b.Slots).length)/\(slL o).length<=64:=by
 have h:zjy (slL o) (slL b.Slots).length:=by simpa [z3g,zdv] using h
 refine ⟨λy hy h2=>?_,h.2.2⟩;obtain ⟨k,hk⟩:=List.getElem?_of_mem hy;have:=(h.1 k (List.getElem?_eq_some_iff.1 hk).1 y hk).1;unfold z3j at this;rw [if_neg (by omega),if_pos h2] at this;simp only [Bool.and_eq_true,decide_eq_true_eq] at this;omega
theorem zyl {c:Cd} {b:Bd} {x:In} {f:Lo} (h:zqw c b x=some f):∃ r,getI (slL c.Records) x.Rec=some r/\btw x.N (slL r).length=true/\btw x.Src (slL b.Slots).length=true:=by
 unfold zqw at h
 cases h1:getI (slL c.Records) x.Rec with
 | none=>rw [h1] at h;cases h
 | some r=>
  rw [h1] at h;simp only at h
  cases h2:getI (slL r) x.N with
  | none=>rw [h2] at h;cases h
  | some f=>
   rw [h2] at h;simp only at h
   cases h3:isB b x.Src ⟨4,x.Rec,false⟩ with
   | false=>rw [h3] at h;simp at h
   | true=>exact ⟨r,rfl,z3k.2 ⟨f,h2⟩,zi0 h3⟩
theorem zsh {c:Cd} {t a:Int} {b:Bd} {x:In} (h:z15 c t b x a=true):Wf c b x:=by
 refine ⟨?_,?_,?_,?_,?_,?_⟩
 ·rintro (e | e | e | e | e | e | e)
  all_goals (unfold z15 z3h at h;simp only [e] at h;simp at h)
  ·exact h.1.2
  ·obtain ⟨_,_,h⟩:=h;split at h <;> first | exact zi0 h | cases h
  ·obtain ⟨_,_,h⟩:=h;split at h <;> first | exact zi0 h | cases h
  ·exact zi0 h.2.1.1.2
  ·exact zi0 h.2.1.2
  ·exact zi0 h.2.1.1.2
  ·exact zi0 h.1.2
 ·rintro (e | e | e)
  all_goals (unfold z15 z2m at h;simp only [e] at h;simp at h)
  ·exact z8o h.2
  ·exact z8o h.2.2
  ·exact z8o h.2.2
 ·rintro (e | e)
  all_goals (unfold z15 z3h z2m at h;simp only [e] at h;simp at h)
  ·obtain ⟨_,_,h⟩:=h;split at h
   ·rename_i g hg;exact z3k.2 ⟨g,hg⟩
   ·cases h
  ·exact h.2.1.2
 ·rintro (e | e)
  all_goals (unfold z15 z3h z2m at h;simp only [e] at h;simp at h)
  ·obtain ⟨_,_,h⟩:=h;split at h
   ·rename_i g hg;exact zyl hg
   ·cases h
  ·obtain ⟨_,⟨_,h⟩,_⟩:=h;obtain ⟨f,hf⟩:=Option.isSome_iff_exists.1 h;exact zyl hf
 ·rintro (e | e)
  all_goals (unfold z15 z3h zax at h;simp only [e] at h;simp at h)
  ·exact z3k.2 ⟨_,h.2.2⟩
  ·exact z3k.2 ⟨_,h.2.2⟩
 ·rintro (e | e) l hl
  all_goals (unfold z15 z3h at h;simp only [e] at h;simp at h)
  ·exact (zyw h.2.1.1.2 hl).1
  ·exact (zyw h.1.2 hl).1
structure WfC (c:Cd):Prop where
 thr:(slL c.Threads).length<=4
 sit:(slL c.Sites).length<=32
 glo:(slL c.Globals).length<=8
 recs:∀ r∈slL c.Records,(slL r).length<=6
 slo:∀ (t:Nat) (b:Bd),(slL c.Threads)[t]?=some b->(slL b.Slots).length<=64/\(slL b.Code).length<=256
 ins:∀ (t a:Nat) (b:Bd) (x:In),(slL c.Threads)[t]?=some b->(slL b.Code)[a]?=some x->Wf c b x
 site:∀ (k:Nat) (s:z0v),(slL c.Sites)[k]?=some s->s.Rec=-1\/∃ r,getI (slL c.Records) s.Rec=some r
theorem zf7 {c:Cd} (h:okC c=true):WfC c:=by
 obtain ⟨h1,h2,h3,h4,h5,h6,h7⟩:=zct h;have h7':∀ (t:Nat) (b:Bd),(slL c.Threads)[t]?=some b->zcc c t b=true:=z1t.1 h7;have hin:∀ (t a:Nat) (b:Bd) (x:In),(slL c.Threads)[t]?=some b->(slL b.Code)[a]?=some x->z15 c t b x a=true:=by
  intro t a b x hb hx;have ht:=h7' t b hb;simp only [zcc,Bool.and_eq_true] at ht;exact z1t.1 ht.2 a x hx
 have hs:(slL c.Sites).length<=32/\allK (zb6 c) (slL c.Sites)=true:=by
  simpa [zwb] using h5
 refine ⟨h2,hs.1,?_,?_,?_,λt a b x hb hx=>zsh (hin t a b x hb hx),?_⟩
 ·simp only [zch,Bool.and_eq_true,decide_eq_true_eq] at h3;omega
 ·intro r hr;have:=List.all_eq_true.1 h6 r hr;simp only [zch,Bool.and_eq_true,decide_eq_true_eq] at this;omega
 ·intro t b hb;have ht:=h7' t b hb;simp only [zcc,zas,Bool.and_eq_true,decide_eq_true_eq] at ht;omega
 ·intro k s hk;have hk2:=z1t.1 hs.2 k s hk;unfold zb6 z9n at hk2
  cases hb:getI (slL c.Threads) s.Thread with
  | none=>rw [hb] at hk2;cases hk2
  | some b=>
   rw [hb] at hk2;simp only at hk2
   cases hx:getI (slL b.Code) s.At with
   | none=>rw [hx] at hk2;cases hk2
   | some x=>
    rw [hx] at hk2;simp only [Bool.and_eq_true,Bool.or_eq_true,decide_eq_true_eq] at hk2;obtain ⟨t,et,hb2⟩:=zjx hb;obtain ⟨a,ea,hx2⟩:=zjx hx;have hi:=hin t a b x hb2 hx2;have hsk:getI (slL c.Sites) x.N=some s:=by rw [hk2.1,z1w];exact hk
    rcases hk2.2 with e | e
    ·unfold z15 z3h zax at hi;simp only [e] at hi;simp at hi;rw [hsk] at hi;have:=hi.2.2;have hrec:=hi.2.1.1.2;obtain ⟨r,hr⟩:=z3k.1 hrec;simp only [Option.some.injEq] at this
     right
     exact ⟨r,by rw [this];exact hr⟩
    ·unfold z15 z3h zax at hi;simp only [e] at hi;simp at hi;rw [hsk] at hi;have:=hi.2.2;simp only [Option.some.injEq] at this
     left
     rw [this]
def Bd2 (c:Cd) (σ:Sg):Prop:=∀ r n i,(σ r n).testBit i=true->i<(slL c.Sites).length
theorem zk3 {c:Cd} {σ:Sg} (h:Bd2 c σ) {t:Nat} {l:List It} {i:Nat} (hi:(z3m σ t l).testBit i=true):i<(slL c.Sites).length:=by
 unfold z3m at hi;rw [zio] at hi;obtain ⟨x,_,hb⟩:=hi;split at hb
 ·exact h _ _ _ hb
 ·simp at hb
theorem ztt {c:Cd} {σ:Sg} (h:Bd2 c σ) {b:Bd} {x:In} (w:Wf c b x) {t i:Nat} (hi:(z2p c σ t x).testBit i=true):i<(slL c.Sites).length:=by
 unfold z2p at hi;split at hi
 ·exact zk3 h hi
 ·split at hi
  ·exact h _ _ _ hi
  ·split at hi
   ·rename_i e;have:=w.site e;simp only [btw,Bool.and_eq_true,decide_eq_true_eq] at this;rw [Nat.testBit_two_pow] at hi;have:=of_decide_eq_true hi;omega
   ·split at hi
    ·unfold zbb at hi;rw [zio] at hi;obtain ⟨k,_,hb⟩:=hi;split at hb
     ·exact h _ _ _ hb
     ·simp at hb
    ·simp at hi
theorem zcs {x n:Nat} (h:∀ i,x.testBit i=true->i<n):x<2 ^ n:=by
 apply Nat.lt_pow_two_of_testBit;intro i hi
 cases hb:x.testBit i with
 | false=>rfl
 | true=>have:=h i hb;omega
theorem Bd2.lt {c:Cd} {σ:Sg} (h:Bd2 c σ) (r:Rw) (n:Nat):σ r n<2 ^ (slL c.Sites).length:=zcs (h r n)
theorem zg8 {n:Nat} (h:n<=32):2 ^ n<=4294967296:=by
 have:=Nat.pow_le_pow_right (show 0<2 by decide) h;simpa using this
def Rg (c:Cd) (σ:Sg):Prop:=∀ r n,σ r n≠0->n<lenR c r
theorem contr_rg {c:Cd} {σ:Sg} (h:Rg c σ) {t:Nat} {b:Bd} {x:In} (hb:(slL c.Threads)[t]?=some b) (w:Wf c b x) {r:Rw} {n i:Nat} (hi:(zlg c t x σ r n).testBit i=true):n<lenR c r:=by
 have hsl:zaq c t=slL b.Slots:=by unfold zaq;rw [hb]
 rw [zo4] at hi;rcases hi with ⟨h1,rfl,h3,-⟩ | ⟨h1,-,rfl,h4,-⟩ | ⟨h1,-,h3,h4,-⟩
 ·have hd:=w.dst (by simp only [dstB,Bool.and_eq_true,Bool.or_eq_true,decide_eq_true_eq] at h1;omega);simp only [btw,Bool.and_eq_true,decide_eq_true_eq] at hd;simp only [lenR,hsl];omega
 ·have hd:=w.glob (Or.inr h1);simp only [btw,Bool.and_eq_true,decide_eq_true_eq] at hd;simp only [lenR];omega
 ·obtain ⟨rr,hr,hn,_⟩:=w.fld (Or.inr h1)
  cases r with
  | f k=>
   simp only [toF,z9k,Bool.and_eq_true] at h3;simp only [lenR]
   cases hk:(slL c.Sites)[k]? with
   | none=>rw [hk] at h3;simp at h3
   | some s=>
    rw [hk] at h3;have h3:=of_decide_eq_true h3.2;simp only [recL,h3,hr];simp only [btw,Bool.and_eq_true,decide_eq_true_eq] at hn;omega
  | g=>cases h3
  | s t=>cases h3
theorem zxf {n:Nat} (h:n≠0):∃ i,n.testBit i=true:=by
 apply Classical.byContradiction;intro hn;apply h;apply Nat.eq_of_testBit_eq;intro i
 cases hb:n.testBit i with
 | false=>simp
 | true=>exact absurd ⟨i,hb⟩ hn
def keysC (c:Cd):List (Rw×Nat):=
 ((List.range (lenR c .g)).map λn=>(Rw.g,n)) ++
 ((List.range (slL c.Threads).length).flatMap λt=>(List.range (lenR c (.s t))).map λn=>(Rw.s t,n)) ++
 ((List.range (slL c.Sites).length).flatMap λk=>(List.range (lenR c (.f k))).map λn=>(Rw.f k,n))
theorem mem_keys {c:Cd} {r:Rw} {n:Nat} (h:n<lenR c r):(r,n)∈keysC c:=by
 unfold keysC;simp only [List.mem_append,List.mem_map,List.mem_flatMap,List.mem_range,Prod.mk.injEq]
 cases r with
 | g=>exact Or.inl (Or.inl ⟨n,h,rfl,rfl⟩)
 | s t=>
  have ht:t<(slL c.Threads).length:=by
   apply Classical.byContradiction;intro hn;simp only [lenR,zaq] at h;rw [List.getElem?_eq_none (by omega)] at h;simp at h
  exact Or.inl (Or.inr ⟨t,ht,n,h,rfl,rfl⟩)
 | f k=>
  have hk:k<(slL c.Sites).length:=by
   apply Classical.byContradiction;intro hn;simp only [lenR] at h;rw [List.getElem?_eq_none (by omega)] at h;simp at h
  exact Or.inr ⟨k,hk,n,h,rfl,rfl⟩
def leftOf (c:Cd) (σ:Sg):Nat:=((keysC c).map λk=>2 ^ (slL c.Sites).length - σ k.1 k.2).sum
theorem sum_lt {α:Type} {f g:α->Nat} {l:List α} (h:∀ x∈l,f x<=g x) {y:α} (hy:y∈l) (hlt:f y<g y):(l.map f).sum<(l.map g).sum:=by
 induction l with
 | nil=>cases hy
 | cons x l ih=>
  simp only [List.map_cons,List.sum_cons];have hle:(l.map f).sum<=(l.map g).sum:=by
   clear ih hy
   induction l with
   | nil=>simp
   | cons z l ih=>
    simp only [List.map_cons,List.sum_cons];have:=h z (by simp);have:=ih (λx hx=>h x (by
     rcases List.mem_cons.1 hx with rfl | hx
     ·simp
     ·simp [hx]))
    omega
  have hx:=h x (by simp);rcases List.mem_cons.1 hy with rfl | hy
  ·omega
  ·have:=ih (λz hz=>h z (by simp [hz])) hy;omega
theorem le_nat {a b:Nat} (h:∀ i,a.testBit i=true->b.testBit i=true):a<=b:=by
 have:b=a ||| b:=by
  apply Nat.eq_of_testBit_eq;intro i;rw [Nat.testBit_or]
  cases ha:a.testBit i with
  | false=>simp
  | true=>simp [h i ha]
 rw [this];exact Nat.left_le_or
theorem left_lt {c:Cd} {σ τ:Sg} (h:Le σ τ) (hb:Bd2 c τ) (hr:Rg c τ) (hn:τ≠σ):leftOf c τ<leftOf c σ:=by
 obtain ⟨r,n,hd⟩:∃ r n,τ r n≠σ r n:=by
  apply Classical.byContradiction;intro hc;apply hn;funext r n;apply Classical.byContradiction;intro he;exact hc ⟨r,n,he⟩
 have hle:∀ r n,σ r n<=τ r n:=λr n=>le_nat (h r n);have hz:τ r n≠0:=by have:=hle r n;omega
 have hk:=mem_keys (hr r n hz);unfold leftOf;refine sum_lt (λk _=>?_) hk ?_
 ·have:=hle k.1 k.2;omega
 ·have:=hle r n;have:=hb.lt r n;simp only;omega
end
section
open Go.Abs
theorem bld1 (e:TypeId) (b:Nat) (kk:IntKind) (n:Int) (h:z00) (z:AV) (K:AV->z00->Prop):z0j true { e:=e,sz:=1,by_:=b } [z] 1 [(0,.int kk n)] h K=K (.isl 1 [[.int kk n]]) h:=by
 simp [z0j,z90,AV.fits,AV.cells]
def gsI (id:Nat) (l:List Int):AV:=match l with | []=>.nils | _=>.gsl id 1 (l.map encI)
@[simp] theorem gsI_len (id:Nat) (l:List Int) (K:AV->Prop):pLen .slice (gsI id l) K=K (.int .i64 l.length):=by cases l <;> simp [gsI]
theorem gsI_at {id:Nat} {l:List Int} {k:Nat} {v:Int} (hk:l[k]?=some v) (kk:IntKind) (K:AV->Prop):z0d (.slice 1) (gsI id l) (.int kk (k:Int)) K=K (.iptr [.int .i64 v]):=by
 cases l with
 | nil=>simp at hk
 | cons a l=>
  have:((a::l).map encI)[k]?=some [AV.int .i64 v]:=by rw [List.getElem?_map,hk];rfl
  simp only [gsI,z0d,Int.toNat_natCast,this];simp
end
section
open Go.Abs
theorem u64n (n:Int):((IntKind.u64.wrap n).toNat:Int)=IntKind.u64.wrap n:=by rw [z9f];omega
theorem u64lt (n:Int):(IntKind.u64.wrap n).toNat<18446744073709551616:=by rw [z9f];omega
theorem sgN_ok (n:Nat):okI (sgN n):=wrap_range n
theorem realR_bd (op:Int) (a b:Nat):z8l op a b<18446744073709551616:=by
 have hb:∀ x:Bool,x.toNat<18446744073709551616:=λx=>by cases x <;> decide
 unfold z8l;split
 ·exact zyc
 split
 ·exact zyc
 split
 ·exact zyc
 split
 ·exact zyc
 split
 ·decide
 split
 ·exact hb _
 split
 ·exact hb _
 split
 ·exact hb _
 split
 ·exact hb _
 ·decide
theorem near_lt {n:Int} (h:okI n):FloatKind.f64.nearest n<18446744073709551616:=by
 have h1:=rung_lt h.1 h.2;rw [zxg n h.1 h.2];split <;> omega
theorem unN_lt {op:Int} {a:Nat} (ha:okN a):okN (unN op a):=by
 unfold okN unN;split
 ·exact u64lt _
 split
 ·rw [negR_eq ha];split
  ·omega
  ·exact negW_lt ha
 split
 ·exact near_lt (sgN_ok a)
 ·exact u64lt _
theorem binN_lt {x:It} {a b v:Nat} (h:binN x a b=some v):okN v:=by
 unfold binN at h;split at h
 ·cases h;exact realR_bd _ _ _
 ·split at h
  ·cases h;exact u64lt _
  ·cases h
theorem zo3 (op:Int) (a:Nat) (ha:okN a) (h:z00):z01 Tryz.prog 89 [.int .i64 op,.int .u64 a] h (λv h2=>v=.int .u64 (unN op a:Nat)/\h2=h):=by
 apply zry;unfold unN
 (repeat simp -dsimp -implicitDefEqProofs only [↓rP,rB,↓reduceIte,reduceEqDiff,reduceAdd,reduceLeDiff])
 refine z0i (λh4=>?_) (λh4=>?_)
 ·rw [if_pos h4]
  (repeat simp -dsimp -implicitDefEqProofs only [↓rP,rB,↓reduceIte,reduceEqDiff,reduceAdd,reduceLeDiff,u64n])
 rw [if_neg h4]
 (repeat simp -dsimp -implicitDefEqProofs only [↓rP,rB,↓reduceIte,reduceEqDiff,reduceAdd,reduceLeDiff])
 refine z0i (λh5=>?_) (λh5=>?_)
 ·rw [if_pos h5]
  (repeat simp -dsimp -implicitDefEqProofs only [↓rP,rB,↓reduceIte,reduceEqDiff,reduceAdd,reduceLeDiff])
  exact zn4 a ha h
 rw [if_neg h5]
 (repeat simp -dsimp -implicitDefEqProofs only [↓rP,rB,↓reduceIte,reduceEqDiff,reduceAdd,reduceLeDiff])
 refine z0i (λh6=>?_) (λh6=>?_)
 ·rw [if_pos h6]
  (repeat simp -dsimp -implicitDefEqProofs only [↓rP,rB,↓reduceIte,reduceEqDiff,reduceAdd,reduceLeDiff])
  exact zn3 (sgN a) h
 rw [if_neg h6]
 (repeat simp -dsimp -implicitDefEqProofs only [↓rP,rB,↓reduceIte,reduceEqDiff,reduceAdd,reduceLeDiff])
 refine (zq0 a h).mono ?_;rintro _ _ ⟨rfl,rfl⟩
 (repeat simp -dsimp -implicitDefEqProofs only [↓rP,rB,↓reduceIte,reduceEqDiff,reduceAdd,reduceLeDiff,u64n])
def binV (x:It) (a b:Nat):AV:=match binN x a b with | some v=>.tup [.int .u64 (v:Nat),.bool true] | none=>.tup [.int .u64 0,.bool false]
theorem intR_bad {op a b:Int} (h:(intR op a b).2=false):(intR op a b).1=0:=by
 revert h
 unfold intR;by_cases h0:op=0
 ·simp [h0]
 by_cases h1:op=1
 ·simp [h1]
 by_cases h2:op=2
 ·simp [h2]
 by_cases h3:op=3
 ·by_cases hb:b=0 <;> simp [h3,hb]
 by_cases h4:op=4
 ·by_cases hb:b=0 <;> simp [h4,hb]
 by_cases h5:op=5
 ·simp [h5]
 by_cases h6:op=6
 ·simp [h6]
 by_cases h7:op=7
 ·simp [h7]
 by_cases h8:op=8
 ·simp [h8]
 ·simp [h0,h1,h2,h3,h4,h5,h6,h7,h8]
theorem zmp (x:It) (a b:Nat) (h:z00):z01 Tryz.prog 88 [.agg x.cells,.int .u64 a,.int .u64 b] h (λv h2=>v=binV x a b/\h2=h):=by
 apply zpq;have hc:x.cells=[.int .i64 x.Op,.int .i64 x.Bin,.int .u64 (x.N:Nat)]:=rfl;rw [hc];unfold binV binN
 (repeat simp -dsimp -implicitDefEqProofs only [↓rP,rB,↓reduceIte,reduceEqDiff,reduceAdd,reduceLeDiff])
 refine z0i (λh9=>?_) (λh9=>?_)
 ·rw [if_pos h9]
  (repeat simp -dsimp -implicitDefEqProofs only [↓rP,rB,↓reduceIte,reduceEqDiff,reduceAdd,reduceLeDiff])
  refine (zsm x.Bin a b _).mono ?_;rintro _ _ ⟨rfl,rfl⟩
  (repeat simp -dsimp -implicitDefEqProofs only [↓rP,rB,↓reduceIte,reduceEqDiff,reduceAdd,reduceLeDiff])
 ·rw [if_neg h9]
  (repeat simp -dsimp -implicitDefEqProofs only [↓rP,rB,↓reduceIte,reduceEqDiff,reduceAdd,reduceLeDiff])
  refine (zv8 x.Bin (sgN a) (sgN b) _).mono ?_;rintro _ _ ⟨rfl,rfl⟩;unfold intV
  (repeat simp -dsimp -implicitDefEqProofs only [↓rP,rB,↓reduceIte,reduceEqDiff,reduceAdd,reduceLeDiff])
  cases hb:(intR x.Bin (sgN a) (sgN b)).2 with
  | true=>
   rw [if_pos rfl];simp only [u64n,and_self]
  | false=>
   rw [intR_bad hb,if_neg Bool.false_ne_true]
   first | rfl | exact ⟨rfl,trivial⟩
def zcd (h:z00) (lo:Nat) (a:AV) (st:List Nat):Prop:=(st=[]/\a=.nils)\/∃ id,lo<=id/\id<h.next/\a=.sl id 0 st.length 1/\h.objs id=some (.row 65 (st.map λv:Nat=>.int .u64 (v:Int)))
theorem stk_push {h:z00} {lo:Nat} {a:AV} {st:List Nat} (p:zcd h lo a st) (hl:lo<=h.next) (hlen:st.length<=1000) (v:Nat) {K:AV->z00->Prop}
  (hK:∀ a2 h2,zcd h2 lo a2 (st++[v])->Keeps h h2 (λx=>lo<=x)->K a2 h2):z0z false { e:=65,sz:=1,by_:=8 } a (.isl 1 [[.int .u64 (v:Int)]]) h K:=by
 rcases p with ⟨rfl,rfl⟩ | ⟨id,p1,p2,rfl,p4⟩
 ·simp only [z0z,z10,if_true,zac,Bool.false_eq_true,if_false];refine ⟨by simp [bounded,maxLen],?_⟩;refine hK _ _ (Or.inr ⟨h.next,hl,by simp,by simp,by simp⟩) ⟨by simp,λx hx hs=>by simp;omega⟩
 ·simp only [z0z,z10,if_true,p4];refine ⟨trivial,trivial,by simp,by simp [bounded,maxLen];omega,?_⟩;refine hK _ _ (Or.inr ⟨h.next,hl,by simp,by simp,?_⟩) ⟨by simp,λx hx hs=>?_⟩
  ·simp;rw [List.take_of_length_le (by simp)]
  ·simp only [z00.z4a,z00.z5c];rw [if_neg (show ¬ x=(h.kill id).next by simp only [z00.zom];omega),if_neg (by omega)]
theorem stk_two {h:z00} {lo:Nat} {a:AV} {st:List Nat} {y z:Nat} (p:zcd h lo a (st++[y,z])) (hl:lo<=h.next) (hlen:st.length<=1000) (v:Nat) {K:AV->Prop}
  (hK:∀ s,(∀ K2:AV->z00->Prop,(∀ a2 h2,zcd h2 lo a2 (st++[v])->Keeps h h2 (λx=>lo<=x)->K2 a2 h2)->z0z false { e:=65,sz:=1,by_:=8 } s (.isl 1 [[.int .u64 (v:Int)]]) h K2)->K s) :
  z7b 1 a none (some (.int .i64 (st.length:Nat))) K:=by
 rcases p with ⟨p,-⟩ | ⟨id,p1,p2,rfl,p4⟩
 ·simp at p
 ·simp only [z7b,bnd];refine ⟨trivial,by omega,by simp,by simp;omega,?_⟩;rw [if_pos (by rfl)];refine hK _ λK2 hK2=>?_;simp only [z0z,z10,if_true,p4,Int.toNat_natCast];refine ⟨trivial,trivial,by simp,by simp [bounded,maxLen];omega,?_⟩;refine hK2 _ _ (Or.inr ⟨h.next,hl,by simp,by simp,?_⟩) ⟨by simp,λx hx hs=>?_⟩
  ·simp
  ·simp only [z00.z4a,z00.z5c];rw [if_neg (show ¬ x=(h.kill id).next by simp only [z00.zom];omega),if_neg (by omega)]
theorem zcd.keeps {h h':z00} {lo:Nat} {a:AV} {st:List Nat} {S:Nat->Prop} (p:zcd h lo a st) (k:Keeps h h' S) (hS:∀ x,lo<=x->x<h.next->¬ S x):zcd h' lo a st:=by
 rcases p with p | ⟨id,p1,p2,p3,p4⟩
 ·exact Or.inl p
 ·exact Or.inr ⟨id,p1,Nat.lt_of_lt_of_le p2 k.next,p3,by rw [k.objs id p2 (hS id p1 p2)];exact p4⟩
theorem zcd.len {h:z00} {lo:Nat} {a:AV} {st:List Nat} (p:zcd h lo a st) (K:AV->Prop):pLen .slice a K=K (.int .i64 (st.length:Nat)):=by
 rcases p with ⟨rfl,rfl⟩ | ⟨id,-,-,rfl,-⟩ <;> simp
theorem zcd.get {h:z00} {lo:Nat} {a:AV} {st:List Nat} (p:zcd h lo a st) {k:Nat} {v:Nat} (hk:st[k]?=some v) (kk:IntKind) {K:AV->Prop} (hK:K (.int .u64 (v:Int))):z0d (.slice 1) a (.int kk (k:Int)) (λx=>z0r none x h K):=by
 have hl:=(List.getElem?_eq_some_iff.1 hk).1;rcases p with ⟨rfl,-⟩ | ⟨id,-,-,rfl,ho⟩
 ·simp at hk
 ·simp only [z0d];refine ⟨trivial,by omega,by omega,?_⟩;simp only [Int.toNat_natCast,Nat.zero_add,Nat.mul_one];rw [z02 ho,pCells_none,List.getElem?_map,hk];exact hK
theorem stk_top {h:z00} {lo:Nat} {a:AV} {st:List Nat} {y:Nat} (p:zcd h lo a (st++[y])) (v:Nat) (kk:IntKind) {K:z00->Prop}
  (hK:∀ h2,zcd h2 lo a (st++[v])->Keeps h h2 (λx=>lo<=x)->K h2):z0d (.slice 1) a (.int kk (st.length:Nat)) (λx=>z1d 1 x (.int .u64 (v:Int)) h K):=by
 rcases p with ⟨p,-⟩ | ⟨id,p1,p2,rfl,p4⟩
 ·simp at p
 ·simp only [z0d];refine ⟨trivial,by omega,by simp;omega,?_⟩;simp only [Int.toNat_natCast,Nat.zero_add,Nat.mul_one];rw [z1g p4 rfl (by simp)];refine hK _ (Or.inr ⟨id,p1,p2,by simp,?_⟩) ((Keeps.put h id _).mono λx hx=>by subst hx;exact p1);simp
end
section
open Go.Abs
theorem encI_at {o:Option (List Int)} {k:Nat} (hk:k<(slL o).length) (kk:IntKind) (K:AV->Prop):z0d (.slice 1) (slAV 1 encI o) (.int kk (k:Int)) K=K (.iptr [.int .i64 ((slL o).getD k 0)]):=by
 rw [z03 (x:=(slL o).getD k 0) (by simp [hk])];rfl
structure Rd (h:z00) (a:AV) (vs:List Nat):Prop where
 len:∀ J,pLen .slice a J=J (.int .i64 vs.length)
 ix:∃ p:Nat->AV,∀ k,k<vs.length->(∀ kk J,z0d (.slice 1) a (.int kk (k:Nat)) J=J (p k))/\∀ hh,Keeps h hh (λ_=>False)->∀ J,z0r none (p k) hh J=J (.int .u64 (vs.getD k 0:Nat))
theorem Rd.keep {h h2:z00} {a:AV} {vs:List Nat} (r:Rd h a vs) (k:Keeps h h2 (λ_=>False)):Rd h2 a vs:=by
 obtain ⟨p,hp⟩:=r.ix;exact ⟨r.len,p,λi hi=>⟨(hp i hi).1,λhh k2=>(hp i hi).2 hh (k.go k2)⟩⟩
theorem Rd.row {h:z00} {id:Nat} {vs:List Nat} {ty:TypeId} (ho:h.objs id=some (.row ty (vs.map λv:Nat=>.int .u64 (v:Int)))) (hlt:id<h.next):Rd h (.sl id 0 vs.length 1) vs:=by
 refine ⟨λJ=>by simp,λk=>.ptr id k,λk hk=>⟨λkk J=>?_,λhh kp J=>?_⟩⟩
 ·rw [znq (by omega) (by omega)];simp
 ·rw [z02 (by rw [kp.objs id hlt (λe=>e)];exact ho)];simp [z04,hk]
theorem eval_round {slots:List Nat} {sv:AV} {inputs:Option (List Int)} {items:Option (List It)} (hi:(slL inputs).length<=1000000) (hit:(slL items).length<=1000) {h:z00} (rd:Rd h sv slots) {lo:Nat} (hlo:lo<=h.next) {a:AV} {st:List Nat} (hst:∀ v∈st,okN v) (hsl:st.length<=900) (p:zcd h lo a st.reverse)
  {k:Nat} {x:It} (hx:(slL items)[k]?=some x) (hxok:x.ok) (hf:z3j x slots.length=true) (hn:z1j x.Op<=st.length) (Q:z1p->Fr->z00->Prop)
  (hQn:∀ a2 h2 st2,za1 slots (slL inputs) st x=some st2->zcd h2 lo a2 st2.reverse->Keeps h h2 (λy=>lo<=y)->Q .normal (frOf [(0,sv),(1,slAV 1 encI inputs),(8,a2),(20,slAV 3 z09.cells items),(21,.int .i64 (slL items).length),(22,.int .i64 (k+1:Nat))]) h2)
  (hQr:∀ h2,za1 slots (slL inputs) st x=none->Keeps h h2 (λy=>lo<=y)->Q .ret (frOf [(6,.int .u64 0),(7,.int .i64 1)]) h2) :
  WP Tryz.prog 109 zdl (frOf [(0,sv),(1,slAV 1 encI inputs),(8,a),(20,slAV 3 z09.cells items),(21,.int .i64 (slL items).length),(22,.int .i64 k)]) h Q:=by
 have hkl:=(List.getElem?_eq_some_iff.1 hx).1;obtain ⟨-,-,hnn⟩:=hxok;unfold okN at hnn;apply zf8;have d0:decide ((k:Int)<((slL items).length:Int))=true:=decide_eq_true (by omega);have hc:x.cells=[.int .i64 x.Op,.int .i64 x.Bin,.int .u64 (x.N:Nat)]:=rfl
 (repeat (first | simp -dsimp -implicitDefEqProofs only [↓rP,rB,↓reduceIte,reduceEqDiff,reduceAdd,reduceLeDiff,d0,z03 hx,hc] | refine Cut.go ?_))
 rw [z13 (by rfl) (by rfl)];have kA:=Keeps.push h (.row 67 [.int .i64 x.Op,.int .i64 x.Bin,.int .u64 (x.N:Nat)]);have pA:=p.keeps kA (λ_ _ _ h=>h);have hloA:lo<=(h.push (.row 67 [.int .i64 x.Op,.int .i64 x.Bin,.int .u64 (x.N:Nat)])).next:=by simp;omega
 have wk:IntKind.i64.wrap ((k:Int)+1)=((k+1:Nat):Int):=by rw [z2f (by omega) (by omega)];omega
 have push:∀ (v:Nat),za1 slots (slL inputs) st x=some (v::st)->z0z false { e:=65,sz:=1,by_:=8 } a (.isl 1 [[.int .u64 (v:Int)]]) (h.push (.row 67 [.int .i64 x.Op,.int .i64 x.Bin,.int .u64 (x.N:Nat)])) (λv15 h16=>
   z7s (binA CmpK.other BinOp.add (.int .i64 (k:Int)) (AV.int IntKind.i64 1)) (λv17=>Q z1p.normal (frOf [(0,sv),(1,slAV 1 encI inputs),(8,v15),(20,slAV 3 z09.cells items),(21,.int .i64 (slL items).length),(22,v17)]) h16)):=by
  intro v hs;refine stk_push pA hloA (by simp;omega) v ?_;intro a2 h2 p2 k2
  (repeat (first | simp -dsimp -implicitDefEqProofs only [↓rP,rB,↓reduceIte,reduceEqDiff,reduceAdd,reduceLeDiff,wk] | refine Cut.go ?_))
  exact hQn a2 h2 _ hs (by simpa using p2) ((kA.mono (λ_ h=>h.elim)).trans k2 (λ_ _ h=>h))
 have hstep0:z1j x.Op=0->za1 slots (slL inputs) st x=some (zhf slots (slL inputs) x::st):=λh0=>by unfold za1;rw [if_pos h0]
 have eb:∀ b:Int,x.Op=b->∀ c:Int,(x.Op == c)=decide (b=c):=λb hb c=>by rw [hb];rfl
 have ops:∀ b:Int,x.Op=b->(x.Op == 1)=decide (b=1)/\(x.Op == 2)=decide (b=2)/\(x.Op == 3)=decide (b=3)/\(x.Op == 8)=decide (b=8)/\(x.Op == 9)=decide (b=9)/\(x.Op == 10)=decide (b=10):=by
  intro b hb;subst hb;exact ⟨rfl,rfl,rfl,rfl,rfl,rfl⟩
 by_cases h1:x.Op=1
 ·have hl:zhf slots (slL inputs) x=x.N:=by unfold zhf;rw [if_pos h1]
  have:=push x.N (by rw [hstep0 (by rw [h1];decide),hl]);obtain ⟨e1,-⟩:=ops 1 h1;rw [decide_eq_true rfl] at e1
  (repeat (first | simp -dsimp -implicitDefEqProofs only [↓rP,rB,↓reduceIte,reduceEqDiff,reduceAdd,reduceLeDiff,e1,pA.len,bld1] | refine Cut.go ?_))
  exact this
 have q1:(x.Op == 1)=false:=by simp [h1]
 by_cases h2:x.Op=2
 ·have hl:zhf slots (slL inputs) x=slots.getD x.N 0:=by unfold zhf;rw [if_neg h1,if_pos h2]
  have hb:x.N<slots.length:=by
   unfold z3j at hf;rw [if_neg h1,if_pos h2] at hf;simp only [Bool.and_eq_true,decide_eq_true_eq] at hf;omega
  have:=push (slots.getD x.N 0) (by rw [hstep0 (by rw [h2];decide),hl]);obtain ⟨-,e2,-⟩:=ops 2 h2;rw [decide_eq_true rfl] at e2;obtain ⟨pt,hpt⟩:=rd.ix;obtain ⟨i1,i2⟩:=hpt x.N hb;have i3:=i2 _ kA
  (repeat (first | simp -dsimp -implicitDefEqProofs only [↓rP,rB,↓reduceIte,reduceEqDiff,reduceAdd,reduceLeDiff,q1,e2,pA.len,bld1,i1,i3] | refine Cut.go ?_))
  exact this
 have q2:(x.Op == 2)=false:=by simp [h2]
 by_cases h3:x.Op=3
 ·have hl:zhf slots (slL inputs) x=(IntKind.u64.wrap ((slL inputs).getD x.N 0)).toNat:=by unfold zhf;rw [if_neg h1,if_neg h2]
  have hb:x.N<16:=by
   unfold z3j at hf;rw [if_neg h1,if_neg h2,if_pos h3] at hf;simp only [Bool.and_eq_true,decide_eq_true_eq] at hf;omega
  have:=push (IntKind.u64.wrap ((slL inputs).getD x.N 0)).toNat (by rw [hstep0 (by rw [h3];decide),hl]);rw [u64n] at this;obtain ⟨-,-,e3,-⟩:=ops 3 h3;rw [decide_eq_true rfl] at e3;have wn:IntKind.i64.wrap (x.N:Int)=(x.N:Int):=z2f (by omega) (by omega)
  (repeat (first | simp -dsimp -implicitDefEqProofs only [↓rP,rB,↓reduceIte,reduceEqDiff,reduceAdd,reduceLeDiff,q1,q2,e3,pA.len,wn] | refine Cut.go ?_))
  refine z0c (λhlt=>?_) (λhge=>?_)
  ·(repeat (first | simp -dsimp -implicitDefEqProofs only [↓rP,rB,↓reduceIte,reduceEqDiff,reduceAdd,reduceLeDiff,bld1,encI_at (o:=inputs) (k:=x.N) (by omega)] | refine Cut.go ?_))
   exact this
  ·have h00:(slL inputs).getD x.N 0=0:=by simp [List.getElem?_eq_none (show (slL inputs).length<=x.N by omega)]
   rw [h00] at this
   (repeat (first | simp -dsimp -implicitDefEqProofs only [↓rP,rB,↓reduceIte,reduceEqDiff,reduceAdd,reduceLeDiff,bld1] | refine Cut.go ?_))
   exact this
 have q3:(x.Op == 3)=false:=by simp [h3]
 have hnb:=z5e hf;by_cases h8:8<=x.Op/\x.Op<=10
 ·have hnd:z1j x.Op=2:=by unfold z1j;rw [if_neg (by omega),if_neg (by omega),if_pos h8]
  match st,hn,hst,hsl,pA,hQn,hQr with
  | [],hn,_,_,_,_,_=>simp at hn;omega
  | [b],hn,_,_,_,_,_=>simp at hn;omega
  | b::c::r,_,hst,hsl,pA,hQn,hQr=>
   clear push;have er:(b::c::r).reverse=r.reverse++[c,b]:=by simp
   rw [er] at pA;have len:(r.reverse++[c,b]).length=r.length+2:=by simp
   have g1:(r.reverse++[c,b])[r.length]?=some c:=by rw [List.getElem?_append_right (by simp)];simp
   have g2:(r.reverse++[c,b])[r.length+1]?=some b:=by rw [List.getElem?_append_right (by simp)];simp
   have hr9:r.length<=898:=by simp at hsl;omega
   have w2:IntKind.i64.wrap (((r.reverse++[c,b]).length:Int)-2)=((r.length:Nat):Int):=by rw [len,z2f (by omega) (by omega)];omega
   have w1:IntKind.i64.wrap (((r.reverse++[c,b]).length:Int)-1)=((r.length+1:Nat):Int):=by rw [len,z2f (by omega) (by omega)];omega
   have body:∀ hh,hh=h.push (.row 67 [.int .i64 x.Op,.int .i64 x.Bin,.int .u64 (x.N:Nat)])->∀ K:AV->z00->Prop,
     (∀ v,binN x c b=some v->K (.tup [.int .u64 (v:Nat),.bool true]) hh)->(binN x c b=none->K (.tup [.int .u64 0,.bool false]) hh)->z01 Tryz.prog 88 [.agg [.int .i64 x.Op,.int .i64 x.Bin,.int .u64 (x.N:Nat)],.int .u64 c,.int .u64 b] hh K:=by
    intro hh _ K k1 k2;refine (zmp x c b hh).mono ?_;rintro _ _ ⟨rfl,rfl⟩;unfold binV
    cases hb:binN x c b with
    | some v=>exact k1 v hb
    | none=>exact k2 hb
   have st1:∀ v,binN x c b=some v->za1 slots (slL inputs) (b::c::r) x=some (v::r):=λv hv=>by unfold za1;rw [if_neg (by omega),if_neg (by omega)];simp only [hv,Option.map_some]
   have st0:binN x c b=none->za1 slots (slL inputs) (b::c::r) x=none:=λhv=>by unfold za1;rw [if_neg (by omega),if_neg (by omega)];simp only [hv,Option.map_none]
   have lhs:List.take 3 [AV.int .i64 x.Op,.int .i64 x.Bin,.int .u64 (x.N:Nat)]=[AV.int .i64 x.Op,.int .i64 x.Bin,.int .u64 (x.N:Nat)]:=rfl;have cases3:((x.Op == 8)=true/\(x.Op == 9)=false/\(x.Op == 10)=false)\/((x.Op == 8)=false/\(x.Op == 9)=true/\(x.Op == 10)=false)\/((x.Op == 8)=false/\(x.Op == 9)=false/\(x.Op == 10)=true):=by
    rcases (by omega:x.Op=8\/x.Op=9\/x.Op=10) with e | e | e
    ·obtain ⟨-,-,-,e8,e9,e10⟩:=ops 8 e;exact Or.inl ⟨e8,e9,e10⟩
    ·obtain ⟨-,-,-,e8,e9,e10⟩:=ops 9 e;exact Or.inr (Or.inl ⟨e8,e9,e10⟩)
    ·obtain ⟨-,-,-,e8,e9,e10⟩:=ops 10 e;exact Or.inr (Or.inr ⟨e8,e9,e10⟩)
   rcases cases3 with ⟨e8,e9,e10⟩ | ⟨e8,e9,e10⟩ | ⟨e8,e9,e10⟩
   all_goals
    (repeat (first | simp -dsimp -implicitDefEqProofs only [↓rP,rB,↓reduceIte,reduceEqDiff,reduceAdd,reduceLeDiff,q1,q2,q3,e8,e9,e10,pA.len,w2,w1] | refine Cut.go ?_))
    refine zcd.get pA g1 _ ?_
    (repeat (first | simp -dsimp -implicitDefEqProofs only [↓rP,rB,↓reduceIte,reduceEqDiff,reduceAdd,reduceLeDiff,w1] | refine Cut.go ?_))
    refine zcd.get pA g2 _ ?_
    (repeat (first | simp -dsimp -implicitDefEqProofs only [↓rP,rB,↓reduceIte,reduceEqDiff,reduceAdd,reduceLeDiff] | refine Cut.go ?_))
    refine body _ rfl _ (λv hv=>?_) (λhv=>?_)
    ·(repeat (first | simp -dsimp -implicitDefEqProofs only [↓rP,rB,↓reduceIte,reduceEqDiff,reduceAdd,reduceLeDiff,w2] | refine Cut.go ?_))
     have lr:r.length=r.reverse.length:=by simp
     rw [lr];refine stk_two pA hloA (by simp;omega) v λs hs=>?_
     (repeat (first | simp -dsimp -implicitDefEqProofs only [↓rP,rB,↓reduceIte,reduceEqDiff,reduceAdd,reduceLeDiff,bld1] | refine Cut.go ?_))
     refine hs _ λa2 h2 p2 k2=>?_
     (repeat (first | simp -dsimp -implicitDefEqProofs only [↓rP,rB,↓reduceIte,reduceEqDiff,reduceAdd,reduceLeDiff,wk] | refine Cut.go ?_))
     exact hQn a2 h2 _ (st1 v hv) (by simpa using p2) ((kA.mono (λ_ h=>h.elim)).trans k2 (λ_ _ h=>h))
    ·(repeat (first | simp -dsimp -implicitDefEqProofs only [↓rP,rB,↓reduceIte,reduceEqDiff,reduceAdd,reduceLeDiff] | refine Cut.go ?_))
     exact hQr _ (st0 hv) (kA.mono (λ_ h=>h.elim))
 ·have hnd:z1j x.Op=1/\4<=x.Op/\x.Op<=7:=by
   by_cases c:4<=x.Op/\x.Op<=7
   ·exact ⟨by unfold z1j;rw [if_neg (by omega),if_pos c],c⟩
   ·exfalso;unfold z1j at hnb;rw [if_neg (by omega),if_neg c,if_neg h8] at hnb;omega
  match st,hn,hst,hsl,pA,hQn with
  | [],hn,_,_,_,_=>simp at hn;omega
  | b::r,_,hst,hsl,pA,hQn=>
   clear push;have er:(b::r).reverse=r.reverse++[b]:=by simp
   rw [er] at pA;have len:(r.reverse++[b]).length=r.length+1:=by simp
   have hr9:r.length<=899:=by simp at hsl;omega
   have g1:(r.reverse++[b])[r.length]?=some b:=by rw [List.getElem?_append_right (by simp)];simp
   have w1:IntKind.i64.wrap (((r.reverse++[b]).length:Int)-1)=((r.length:Nat):Int):=by rw [len,z2f (by omega) (by omega)];omega
   have st1:za1 slots (slL inputs) (b::r) x=some (unN x.Op b::r):=by unfold za1;rw [if_neg (by omega),if_pos (by omega)]
   have e8:(x.Op == 8)=false:=by rw [beqI];exact decide_eq_false (by omega)
   have e9:(x.Op == 9)=false:=by rw [beqI];exact decide_eq_false (by omega)
   have e10:(x.Op == 10)=false:=by rw [beqI];exact decide_eq_false (by omega)
   (repeat (first | simp -dsimp -implicitDefEqProofs only [↓rP,rB,↓reduceIte,reduceEqDiff,reduceAdd,reduceLeDiff,q1,q2,q3,e8,e9,e10,pA.len,w1] | refine Cut.go ?_))
   refine zcd.get pA g1 _ ?_
   (repeat (first | simp -dsimp -implicitDefEqProofs only [↓rP,rB,↓reduceIte,reduceEqDiff,reduceAdd,reduceLeDiff] | refine Cut.go ?_))
   refine (zo3 x.Op b (hst b (by simp)) _).mono ?_;rintro _ _ ⟨rfl,rfl⟩
   (repeat (first | simp -dsimp -implicitDefEqProofs only [↓rP,rB,↓reduceIte,reduceEqDiff,reduceAdd,reduceLeDiff] | refine Cut.go ?_))
   have lr:r.length=r.reverse.length:=by simp
   rw [lr];refine stk_top pA _ _ λh2 p2 k2=>?_
   (repeat (first | simp -dsimp -implicitDefEqProofs only [↓rP,rB,↓reduceIte,reduceEqDiff,reduceAdd,reduceLeDiff,wk] | refine Cut.go ?_))
   exact hQn a h2 _ st1 (by simpa using p2) ((kA.mono (λ_ h=>h.elim)).trans k2 (λ_ _ h=>h))
theorem stepN_ok {slots:List Nat} {inputs:List Int} {st st2:List Nat} {x:It} (hs:∀ v∈slots,okN v) (hx:x.ok) (hst:∀ v∈st,okN v) (h:za1 slots inputs st x=some st2):∀ v∈st2,okN v:=by
 have hz:okN 0:=by unfold okN;omega
 unfold za1 at h;split at h
 ·cases h;intro v hv;rcases List.mem_cons.1 hv with rfl | hv
  ·unfold zhf;split
   ·exact hx.2.2
   split
   ·rw [List.getD_eq_getElem?_getD]
    cases hg:slots[x.N]? with
    | none=>exact hz
    | some w=>exact hs w (List.mem_of_getElem? hg)
   ·exact u64lt _
  ·exact hst v hv
 ·split at h
  ·match st,h with
   | a::r,h=>
    cases h;intro v hv;rcases List.mem_cons.1 hv with rfl | hv
    ·exact unN_lt (hst a (by simp))
    ·exact hst v (by simp [hv])
   | [],h=>cases h;simp
  ·match st,h with
   | b::a::r,h=>
    simp only [Option.map_eq_some_iff] at h;obtain ⟨w,hw,rfl⟩:=h;intro v hv;rcases List.mem_cons.1 hv with rfl | hv
    ·exact binN_lt hw
    ·exact hst v (by simp [hv])
   | [b],h=>cases h;simp
   | [],h=>cases h;simp
theorem zpo (slots:List Nat) (sv:AV) (inputs:Option (List Int)) (items:Option (List It)) (hs:∀ v∈slots,okN v) (hsn:slots.length<=1000000) (hi:(slL inputs).length<=1000000) (hok:okSl z09.ok items) (hit:(slL items).length<=1000) (h:z00) (rd:Rd h sv slots) :
  z01 Tryz.prog 63 [sv,slAV 1 encI inputs,slAV 3 z09.cells items] h (λv h2=>v=.tup [.int .u64 ((zdo slots (slL inputs) (slL items)).1:Nat),.int .i64 (zdo slots (slL inputs) (slL items)).2]/\Keeps h h2 (λ_=>False)):=by
 apply ztu
 (repeat (first | simp -dsimp -implicitDefEqProofs only [↓rP,rB,↓reduceIte,reduceEqDiff,reduceAdd,reduceLeDiff,rd.len] | refine Cut.go ?_))
 refine (zpp (slots.length:Nat) ⟨by omega,by omega⟩ items hok h).mono ?_;rintro _ h2 ⟨rfl,kG⟩
 (repeat (first | simp -dsimp -implicitDefEqProofs only [↓rP,rB,↓reduceIte,reduceEqDiff,reduceAdd,reduceLeDiff] | refine Cut.go ?_))
 cases hg:zdv (slL items) (slots.length:Nat) with
 | false=>
  (repeat (first | simp -dsimp -implicitDefEqProofs only [↓rP,rB,↓reduceIte,reduceEqDiff,reduceAdd,reduceLeDiff] | refine Cut.go ?_))
  have hg':¬ zjy (slL items) (slots.length:Nat):=by unfold zdv at hg;simpa using hg
  have he:zdo slots (slL inputs) (slL items)=(0,0):=by unfold zdo;rw [if_neg hg']
  rw [he];exact ⟨rfl,kG⟩
 | true=>
  (repeat (first | simp -dsimp -implicitDefEqProofs only [↓rP,rB,↓reduceIte,reduceEqDiff,reduceAdd,reduceLeDiff] | refine Cut.go ?_))
  have hg':zjy (slL items) (slots.length:Nat):=by unfold zdv at hg;simpa using hg
  obtain ⟨g1,g2,g3⟩:=hg';have he:zdo slots (slL inputs) (slL items)=match runN slots (slL inputs) [] (slL items) with | some st=>(st.headD 0,0) | none=>(0,1):=by
   unfold zdo;rw [if_pos ⟨g1,g2,g3⟩];cases runN slots (slL inputs) [] (slL items) <;> rfl
  refine z14 z07 (by kernel_rfl) (λm fr hh=>∃ (k:Nat) (a:AV) (st:List Nat),k<=(slL items).length/\m=(slL items).length-k/\runN slots (slL inputs) [] ((slL items).take k)=some st/\(∀ v∈st,okN v)/\zcd hh h2.next a st.reverse/\Keeps h2 hh (λ_=>False)/\
   fr=frOf [(0,sv),(1,slAV 1 encI inputs),(8,a),(20,slAV 3 z09.cells items),(21,.int .i64 (slL items).length),(22,.int .i64 k)]) (slL items).length ⟨0,.nils,[],by omega,by omega,rfl,by simp,Or.inl ⟨rfl,rfl⟩,.refl _ _,rfl⟩ ?_
  rintro m fr hh ⟨k,a,st,hk,rfl,hr,hst,p,kp,rfl⟩;have hlen:=runN_len g1 k hk st hr;by_cases hkl:k<(slL items).length
  ·have hx:(slL items)[k]?=some (slL items)[k]:=List.getElem?_eq_getElem hkl;obtain ⟨f1,f2⟩:=g1 k hkl _ hx;have hxok:=hok.2 _ (List.mem_of_getElem? hx);have hrs:∀ o,za1 slots (slL inputs) st (slL items)[k]=o->runN slots (slL inputs) [] ((slL items).take (k+1))=o:=λo ho=>by
    rw [List.take_add_one,hx];simp only [Option.toList_some];rw [zkv,hr,Option.bind_some,ho]
   have hb:=(zr0 _ _ rfl (okL_take (k:=k) g1));simp at hb;refine eval_round hi hit (rd.keep (kG.go kp)) kp.next hst (by omega) p hx hxok f1 (by omega) _ (λa2 h3 st2 hs2 p2 k2=>?_) (λh3 hs2 k2=>?_)
   ·rw [z05];refine ⟨_,?_,k+1,a2,st2,by omega,rfl,hrs _ hs2,stepN_ok hs hxok hst hs2,p2,?_,rfl⟩
    ·omega
    ·exact kp.trans k2 (λy hy hl=>absurd hl (by omega))
   ·(repeat (first | simp -dsimp -implicitDefEqProofs only [↓rP,rB,↓reduceIte,reduceEqDiff,reduceAdd,reduceLeDiff] | refine Cut.go ?_))
    have hrn:=hrs _ hs2;have hall:runN slots (slL inputs) [] (slL items)=none:=by
     have:=zp9 slots (slL inputs) ((slL items).take (k+1)) ((slL items).drop (k+1)) [];rw [List.take_append_drop,hrn] at this;exact this
    rw [he,hall];exact ⟨rfl,kG.trans (kp.trans k2 (λy hy hl=>absurd hl (by omega))) (λ_ _ h=>h)⟩
  ·have hke:k=(slL items).length:=by omega
   subst hke;rw [List.take_length] at *;apply zf8;have d0:decide (((slL items).length:Int)<((slL items).length:Int))=false:=decide_eq_false (by omega)
   (repeat (first | simp -dsimp -implicitDefEqProofs only [↓rP,rB,↓reduceIte,reduceEqDiff,reduceAdd,reduceLeDiff,d0] | refine Cut.go ?_))
   rw [he,hr]
   match st,hlen,p with
   | [v],_,p=>
    refine zcd.get (k:=0) (v:=v) p (by simp) _ ?_
    (repeat (first | simp -dsimp -implicitDefEqProofs only [↓rP,rB,↓reduceIte,reduceEqDiff,reduceAdd,reduceLeDiff] | refine Cut.go ?_))
    exact ⟨rfl,kG.trans kp (λ_ _ h=>h)⟩
   | [],hlen,_=>simp at hlen;omega
   | v::w::r,hlen,_=>simp at hlen;omega
end
section
open Go.Abs
structure Tng where
 site:Int
 cls:Int
 id:Nat
 vals:List Nat
def Tng.cells (t:Tng):List AV:=[.int .i64 t.site,.int .i64 t.cls,.sl t.id 0 t.vals.length 1]
def z0u (vs:List Nat):List AV:=vs.map λv:Nat=>.int .u64 (v:Int)
def z2n (ts:List Tng) (g:Nat):AV:=match ts with | []=>.nils | _=>.gsl g 3 (ts.map Tng.cells)
structure HpAt (h:z00) (F:Nat->Prop) (i:Nat) (ts:Nat->List Tng) (tk:Nat->Nat) (G:AV):Prop where
 own:F i
 lt:∀ x,F x->x<h.next
 row:h.objs i=some (.row 77 [G,z2n (ts 0) (tk 0),z2n (ts 1) (tk 1),z2n (ts 2) (tk 2),z2n (ts 3) (tk 3)])
 tok:∀ k,k<4->ts k≠[]->F (tk k)/\h.objs (tk k)=some (.tok 94 ((ts k).length*3))
 tkne:∀ k l,k<4->l<4->k≠l->ts k≠[]->ts l≠[]->tk k≠tk l
 cells:∀ k,k<4->∀ t∈ts k,F t.id/\h.objs t.id=some (.row 65 (z0u t.vals))
 len:∀ k,k<4->(ts k).length<=16
 dist:∀ (k l a b:Nat) (t u:Tng),k<4->l<4->(ts k)[a]?=some t->(ts l)[b]?=some u->t.id=u.id->k=l/\a=b
theorem HpAt.keeps {h h':z00} {F:Nat->Prop} {i:Nat} {ts:Nat->List Tng} {tk:Nat->Nat} {G:AV} {S:Nat->Prop} (p:HpAt h F i ts tk G) (k:Keeps h h' S) (hS:∀ x,F x->¬ S x):HpAt h' F i ts tk G:=by
 have e:∀ x,F x->h'.objs x=h.objs x:=λx hx=>k.objs x (p.lt x hx) (hS x hx);exact ⟨p.own,λx hx=>Nat.lt_of_lt_of_le (p.lt x hx) k.next,by rw [e i p.own];exact p.row,λj hj hne=>⟨(p.tok j hj hne).1,by rw [e _ (p.tok j hj hne).1];exact (p.tok j hj hne).2⟩,p.tkne,λj hj t ht=>⟨(p.cells j hj t ht).1,by rw [e _ (p.cells j hj t ht).1];exact (p.cells j hj t ht).2⟩,p.len,p.dist⟩
def setL {α:Type} (f:Nat->α) (k:Nat) (v:α):Nat->α:=λj=>if j=k then v else f j
def rowOf (G:AV) (ts:Nat->List Tng) (tk:Nat->Nat):List AV:=[G,z2n (ts 0) (tk 0),z2n (ts 1) (tk 1),z2n (ts 2) (tk 2),z2n (ts 3) (tk 3)]
theorem zku (G:AV) (ts:Nat->List Tng) (tk:Nat->Nat) {k:Nat} (hk:k<4):(rowOf G ts tk)[1+k]?=some (z2n (ts k) (tk k)):=by
 match k,hk with
 | 0,_=>rfl
 | 1,_=>rfl
 | 2,_=>rfl
 | 3,_=>rfl
theorem rowOf_set (G:AV) (ts:Nat->List Tng) (tk:Nat->Nat) {k:Nat} (hk:k<4) (l:List Tng) (g:Nat):(rowOf G ts tk).set (1+k) (z2n l g)=rowOf G (setL ts k l) (setL tk k g):=by
 match k,hk with
 | 0,_=>rfl
 | 1,_=>rfl
 | 2,_=>rfl
 | 3,_=>rfl
theorem z8j (l:List Tng) (g:Nat) (K:AV->Prop):pLen .slice (z2n l g) K=K (.int .i64 l.length):=by
 cases l <;> simp [z2n]
theorem HpAt.grow {h h2:z00} {F:Nat->Prop} {i:Nat} {ts:Nat->List Tng} {tk:Nat->Nat} {G:AV} (p:HpAt h F i ts tk G) {k:Nat} (hk:k<4) (t:Tng) (hid:t.id=h.next) (hl:(ts k).length<16)
  (hn:h2.next=h.next+2) (hi:h2.objs i=some (.row 77 (rowOf G (setL ts k (ts k++[t])) (setL tk k (h.next+1))))) (ht:h2.objs (h.next+1)=some (.tok 94 (((ts k).length+1)*3))) (hc:h2.objs h.next=some (.row 65 (z0u t.vals)))
  (ho:∀ x,x<h.next->x≠i->(ts k≠[]->x≠tk k)->h2.objs x=h.objs x) :
  HpAt h2 (λx=>F x\/x=h.next\/x=h.next+1) i (setL ts k (ts k++[t])) (setL tk k (h.next+1)) G/\Keeps h h2 F:=by
 have hil:=p.lt i p.own;refine ⟨⟨Or.inl p.own,λx hx=>?_,hi,λj hj hne=>?_,λj l hj hl' hjl hnj hnl=>?_,λj hj u hu=>?_,λj hj=>?_,λj l a b u v hj hl' ha hb hid'=>?_⟩,⟨by omega,λx hx hF=>ho x hx (λe=>hF (e▸p.own)) (λhne e=>hF (e▸(p.tok k hk hne).1))⟩⟩
 ·rcases hx with hx | hx | hx
  ·have:=p.lt x hx;omega
  ·omega
  ·omega
 ·by_cases e:j=k
  ·subst e;simp only [setL,if_true,ht];exact ⟨Or.inr (Or.inr trivial),by simp⟩
  ·simp only [setL,if_neg e] at hne ⊢;obtain ⟨t1,t2⟩:=p.tok j hj hne;refine ⟨Or.inl t1,?_⟩;rw [ho _ (p.lt _ t1) (λei=>by rw [ei,p.row] at t2;cases t2) (λhne2=>p.tkne j k hj hk e hne hne2)];exact t2
 ·by_cases ej:j=k
  ·subst ej;have el:¬ l=j:=λe=>hjl e.symm;simp only [setL,if_true,if_neg el] at hnl ⊢;have:=p.lt _ (p.tok l hl' hnl).1;omega
  ·by_cases el:l=k
   ·subst el;simp only [setL,if_true,if_neg ej] at hnj ⊢;have:=p.lt _ (p.tok j hj hnj).1;omega
   ·simp only [setL,if_neg ej,if_neg el] at hnj hnl ⊢;exact p.tkne j l hj hl' hjl hnj hnl
 ·have old:∀ j,j<4->∀ u∈ts j,(F u.id\/u.id=h.next\/u.id=h.next+1)/\h2.objs u.id=some (.row 65 (z0u u.vals)):=λj hj u hu=>by
   obtain ⟨t1,t2⟩:=p.cells j hj u hu;refine ⟨Or.inl t1,?_⟩;rw [ho _ (p.lt _ t1) (λei=>by rw [ei,p.row] at t2;simp at t2) (λhne e=>by rw [e,(p.tok k hk hne).2] at t2;cases t2)];exact t2
  by_cases e:j=k
  ·subst e;simp only [setL,if_true,List.mem_append,List.mem_singleton] at hu;rcases hu with hu | rfl
   ·exact old j hj u hu
   ·rw [hid];exact ⟨Or.inr (Or.inl rfl),hc⟩
  ·simp only [setL,if_neg e] at hu;exact old j hj u hu
 ·by_cases e:j=k
  ·subst e;simp [setL];omega
  ·simp only [setL,if_neg e];exact p.len j hj
 ·have old:∀ j (a:Nat) (u:Tng),j<4->(ts j)[a]?=some u->u.id<h.next:=λj a u hj ha=>p.lt _ (p.cells j hj u (List.mem_of_getElem? ha)).1;have back:∀ j (a:Nat) (u:Tng),j<4->(setL ts k (ts k++[t]) j)[a]?=some u->(ts j)[a]?=some u\/(j=k/\a=(ts k).length/\u=t):=by
   intro j a u hj ha;by_cases e:j=k
   ·subst e;simp only [setL,if_true,List.getElem?_append] at ha;split at ha
    ·exact Or.inl ha
    ·rename_i hal;obtain ⟨hb,rfl⟩:=List.getElem?_eq_some_iff.1 ha;simp at hb;exact Or.inr ⟨rfl,by omega,by simp⟩
   ·simp only [setL,if_neg e] at ha;exact Or.inl ha
  rcases back j a u hj ha with h1 | ⟨h1,h2',h3⟩ <;> rcases back l b v hl' hb with k1 | ⟨k1,k2,k3⟩
  ·exact p.dist j l a b u v hj hl' h1 k1 hid'
  ·have:=old j a u hj h1;rw [hid',k3,hid] at this;omega
  ·have:=old l b v hl' k1;rw [<-hid',h3,hid] at this;omega
  ·exact ⟨by omega,by omega⟩
theorem zr3 (l:List Tng) (t:Tng) (g:Nat):z2n (l++[t]) g=.gsl g 3 ((l++[t]).map Tng.cells):=by cases l <;> rfl
theorem zaa {h:z00} {o:AObj} {x:Nat} (hx:x<h.next):(h.push o).objs x=h.objs x:=by simp;omega
theorem zcq (h:z00) (o:AObj):(h.push o).objs h.next=some o:=by simp
theorem kill_ne {h:z00} {g x:Nat} (hx:x≠g):(h.kill g).objs x=h.objs x:=by simp [hx]
theorem zws {h:z00} {F:Nat->Prop} {i:Nat} {ts:Nat->List Tng} {tk:Nat->Nat} {G:AV} (p:HpAt h F i ts tk G) {k:Nat} (hk:k<4) (t:Tng) (hl:(ts k).length<16) (o:AObj) :
  ∃ hB:z00,hB.next=h.next+2/\hB.objs (h.next+1)=some (.tok 94 (((ts k).length+1)*3))/\hB.objs h.next=some o/\(∀ x,x<h.next->(ts k≠[]->x≠tk k)->hB.objs x=h.objs x)/\
   ∀ K:AV->z00->Prop,K (z2n (ts k++[t]) (h.next+1)) hB->z0z true { e:=94,sz:=3,by_:=40 } (z2n (ts k) (tk k)) (.isl 3 [t.cells]) (h.push o) K:=by
 by_cases he:ts k=[]
 ·refine ⟨(h.push o).push (.tok 94 (1*3)),by simp,by simp [he],by simp,λx hx _=>?_,λK hK=>?_⟩
  ·rw [zaa (by simp;omega),zaa hx]
  ·rw [he] at hK ⊢;simp [z0z,z2n,z10,zac];refine ⟨by simp [bounded,maxLen],?_⟩;simpa [z2n,Tng.cells] using hK
 ·obtain ⟨t1,t2⟩:=p.tok k hk he;have hlt:=p.lt _ t1;have em:z2n (ts k) (tk k)=.gsl (tk k) 3 ((ts k).map Tng.cells):=by
   unfold z2n
   cases hts:ts k with
   | nil=>exact absurd hts he
   | cons a l=>rfl
  refine ⟨((h.push o).kill (tk k)).push (.tok 94 (((ts k).length+1)*3)),by simp,by simp,?_,λx hx hne=>?_,λK hK=>?_⟩
  ·rw [zaa (by simp),kill_ne (by omega),zcq]
  ·rw [zaa (by simp;omega),kill_ne (hne he),zaa hx]
  ·rw [zr3] at hK;rw [em];have ho:(h.push o).objs (tk k)=some (.tok 94 ((ts k).length*3)):=by
    simp only [z00.z4a];rw [if_neg (by omega)];exact t2
   simp only [z0z,z10,if_true,ho];refine ⟨trivial,trivial,by simp,by simp [bounded,maxLen];omega,?_⟩;simpa using hK
def zn2 (ts:Nat->List Tng) (thread cells:Int):Int ⊕ Nat:=
 if thread<0\/4<=thread\/16<=(ts thread.toNat).length then .inl 4 else if cells<0\/16<cells then .inl 5 else .inr thread.toNat
theorem zpw {h:z00} {F:Nat->Prop} {i:Nat} {ts:Nat->List Tng} {tk:Nat->Nat} {G:AV} (p:HpAt h F i ts tk G) (thread site cls cells:Int) :
  z01 Tryz.prog 67 [.ptr i 0,.int .i64 thread,.int .i64 site,.int .i64 cls,.int .i64 cells] h (λv h2=>
   match zn2 ts thread cells with
   | .inl e=>v=.tup [.int .u64 0,.int .i64 e]/\h2=h
   | .inr k=>v=.tup [.int .u64 ((k*16+(ts k).length+1:Nat):Int),.int .i64 0]/\∃ tk2,HpAt h2 (λx=>F x\/x=h.next\/x=h.next+1) i (setL ts k (ts k++[⟨site,cls,h.next,List.replicate cells.toNat 0⟩])) tk2 G/\Keeps h h2 F):=by
 apply zlp
 try simp only [qr1,qr2,qr3,qr4,Go.Abs.later]
 have hld:∀ (k:Nat),k<4->∀ K,z0r none (.ptr i (1+k)) h K=K (z2n (ts k) (tk k)):=λk hk K=>by
  rw [z02 p.row];have:=zku G ts tk hk;unfold rowOf at this;simp only [pCells_none];rw [this]
 by_cases h1:thread<0
 ·simp [h1,zn2]
 ·by_cases h2:4<=thread
  ·simp [h1,h2,zn2]
  ·obtain ⟨k,rfl⟩:∃ k:Nat,thread=k:=⟨thread.toNat,by omega⟩;have hk:k<4:=by omega
   have hix:∀ K,z0d (.array 4 1) (.ptr i 1) (.int .i64 (k:Int)) K=K (.ptr i (1+k)):=λK=>by simp [z0d];omega
   by_cases h3:16<=(ts k).length
   ·have h3':(16:Int)<=((ts k).length:Int):=by omega
    have:zn2 ts k cells=.inl 4:=by simp [zn2,h3]
    rw [this];simp [h1,h2,hix,hld k hk,z8j,h3']
   ·have h3':¬ (16:Int)<=((ts k).length:Int):=by omega
    by_cases h4:cells<0\/16<cells
    ·have:zn2 ts k cells=.inl 5:=by simp [zn2,h3,hk,h4];omega
     rw [this];by_cases h5:cells<0
     ·simp [h1,h2,hix,hld k hk,z8j,h3',h5]
     ·have h6:16<cells:=by omega
      simp [h1,h2,hix,hld k hk,z8j,h3',h5,h6]
    ·have:zn2 ts k cells=.inr k:=by simp [zn2,h3,hk,h4];omega
     rw [this];have h5:¬ cells<0:=by omega
     have h6:¬ 16<cells:=by omega
     obtain ⟨n,rfl⟩:∃ n:Nat,cells=n:=⟨cells.toNat,by omega⟩;have hd0:decide ((k:Int)<0)=false:=by simp
     have hd1:decide ((4:Int)<=(k:Int))=false:=by simp;omega
     have hd2:decide ((16:Int)<=((ts k).length:Int))=false:=by simp;omega
     have hd3:decide ((n:Int)<0)=false:=by simp
     have hd4:decide ((16:Int)<(n:Int))=false:=by simp;omega
     simp only [z6z,z1c,znm,zoy,if_true,binA_int_lss,hd0,znl,znk,zp2,binA_int_geq,hd1,zno,z8q,Nat.zero_add,hix,hld k hk,z8j,hd2,zr8,Bool.false_eq_true,if_false,hd3,binA_int_gtr,hd4,true_and];simp only [z6v];refine ⟨by omega,by omega,by omega,by omega,rfl,?_⟩;have hil:=p.lt i p.own;have hldA:∀ o K,z0r none (.ptr i (1+k)) (h.push o) K=K (z2n (ts k) (tk k)):=λo K=>by
      have hr:(h.push o).objs i=some (.row 77 (rowOf G ts tk)):=by simp only [z00.z4a];rw [if_neg (by omega)];exact p.row
      rw [z02 hr];simp only [pCells_none,zku G ts tk hk]
     have hrep:repC ((n:Int)).toNat [AV.int .u64 0]=z0u (List.replicate n 0):=by simp [repC,z0u]
     rw [hrep];obtain ⟨hB,b1,b2,b3,b4,b5⟩:=zws p hk ⟨site,cls,h.next,List.replicate n 0⟩ (by omega) (.row 65 (z0u (List.replicate n 0)));refine ⟨by rw [hldA];exact ⟨rfl,trivial⟩,?_⟩;simp [z3w,zcj,AV.cells,AV.fits,z0j,z90];simp only [Tng.cells,List.length_replicate] at b5;refine b5 _ ?_;have hio:i≠tk k\/ts k=[]:=by
      by_cases he:ts k=[]
      ·exact Or.inr he
      ·left
       rintro rfl;have:=(p.tok k hk he).2;rw [p.row] at this;cases this
     have hBi:hB.objs i=some (.row 77 (rowOf G ts tk)):=by
      rw [b4 i hil (λhne=>hio.resolve_right hne)];exact p.row
     have hlf:(z2n (ts k++[⟨site,cls,h.next,List.replicate n 0⟩]) (h.next+1)).zdy=true:=by rw [zr3];rfl
     rw [z1g hBi hlf (by simp [rowOf];omega),rowOf_set G ts tk hk];have hld2:∀ K,z0r none (.ptr i (1+k)) (hB.put i (.row 77 (rowOf G (setL ts k (ts k++[⟨site,cls,h.next,List.replicate n 0⟩])) (setL tk k (h.next+1))))) K=K (z2n (ts k++[⟨site,cls,h.next,List.replicate n 0⟩]) (h.next+1)):=λK=>by
      rw [z02 (ty:=77) (cs:=rowOf G (setL ts k (ts k++[⟨site,cls,h.next,List.replicate n 0⟩])) (setL tk k (h.next+1))) (by simp)];simp only [pCells_none,zku _ _ _ hk];simp [setL]
     have ew:IntKind.i64.wrap ((k:Int)*16)=(k:Int)*16:=wrap_i64 (by omega);have ew2:IntKind.i64.wrap ((k:Int)*16+(((ts k++[⟨site,cls,h.next,List.replicate n 0⟩]:List Tng)).length:Int))=(k:Int)*16+((ts k).length:Int)+1:=by
      rw [wrap_i64 (by simp;omega)];simp;omega
     have ew3:IntKind.u64.wrap ((k:Int)*16+((ts k).length:Int)+1)=(k:Int)*16+((ts k).length:Int)+1:=by rw [z9f];omega
     rw [hld2,z8j];simp only [binA_int_add,z1c,ew,ew2,zfm,ew3,true_and];have hg:=p.grow (h2:=hB.put i (.row 77 (rowOf G (setL ts k (ts k++[⟨site,cls,h.next,List.replicate n 0⟩])) (setL tk k (h.next+1))))) hk ⟨site,cls,h.next,List.replicate n 0⟩ rfl (by omega) (by simpa using b1) (by simp) (by simp only [z00.z1u];rw [if_neg (by omega)];exact b2) (by simp only [z00.z1u];rw [if_neg (by omega)];exact b3) (λx hx hxi hxt=>by simp only [z00.z1u];rw [if_neg hxi];exact b4 x hx hxt);exact ⟨⟨_,hg.1⟩,hg.2⟩
end
section
open Go.Abs
def zes (ts:Nat->List Tng) (r:Nat):Option Tng:=if r=0\/64<r then none else (ts ((r-1)/16))[(r-1)%16]?
def zna:Option Tng->AV | none=>.nilp | some t=>.iptr t.cells
theorem HpAt.ld {h:z00} {F:Nat->Prop} {i:Nat} {ts:Nat->List Tng} {tk:Nat->Nat} {G:AV} (p:HpAt h F i ts tk G) {k:Nat} (hk:k<4) (K:AV->Prop):z0r none (.ptr i (1+k)) h K=K (z2n (ts k) (tk k)):=by
 rw [z02 p.row];have:=zku G ts tk hk;unfold rowOf at this;simp only [pCells_none];rw [this]
theorem zbc {h:z00} {F:Nat->Prop} {i:Nat} {ts:Nat->List Tng} {tk:Nat->Nat} {G:AV} (p:HpAt h F i ts tk G) (r:Nat) (hr:r<18446744073709551616) :
  z01 Tryz.prog 50 [.ptr i 0,.int .u64 r] h (λv h2=>v=zna (zes ts r)/\h2=h):=by
 apply zls
 try simp only [qr1,qr2,qr3,qr4,Go.Abs.later]
 have hz:((r:Int) == 0)=decide (r=0):=by rw [Bool.eq_iff_iff];simp
 have hg:decide ((64:Int)<(r:Int))=decide (64<r):=by rw [Bool.eq_iff_iff];simp;omega
 by_cases h0:r=0
 ·simp [hz,h0,zes,zna]
 ·by_cases h64:64<r
  ·simp [hz,hg,h0,h64,zes,zna]
  ·have e1:IntKind.u64.wrap ((r:Int)-1)=((r-1:Nat):Int):=by rw [z9f];omega
   have e2:IntKind.i64.wrap ((r-1:Nat):Int)=((r-1:Nat):Int):=wrap_i64 (by omega);have e3:((r-1:Nat):Int).tdiv 16=(((r-1)/16:Nat):Int):=rfl;have e4:((r-1:Nat):Int).tmod 16=(((r-1)%16:Nat):Int):=rfl;have e5:IntKind.i64.wrap (((r-1)/16:Nat):Int)=(((r-1)/16:Nat):Int):=wrap_i64 (by omega);have hk:(r-1)/16<4:=by omega
   have hf:zes ts r=(ts ((r-1)/16))[(r-1)%16]?:=by simp [zes,h0,h64]
   rw [hf];have hz':((r:Int) == 0)=false:=by rw [hz];simp [h0]
   have hg':decide ((64:Int)<(r:Int))=false:=by rw [hg];simp [h64]
   generalize (r-1)/16=k at *;generalize (r-1)%16=q at *;have hix:∀ K,z0d (.array 4 1) (.ptr i 1) (.int .i64 (k:Int)) K=K (.ptr i (1+k)):=λK=>by simp [z0d];omega
   have hl:decide ((q:Int)<((ts k).length:Int))=decide (q<(ts k).length):=by rw [Bool.eq_iff_iff];simp
   simp only [z6z,z1c,znm,zoy,if_true,z8r,hz',znl,znk,zp2,binA_int_gtr,hg',zr8,Bool.false_eq_true,if_false,binA_int_sub,e1,zfm,e2,binA_int_quo,binA_int_rem,if_neg (show ¬ (16:Int)=0 by omega),e3,e4,e5,zno,z8q,Nat.zero_add,hix,p.ld hk,z8j,binA_int_lss,hl,decide_eq_true_eq];by_cases hql:q<(ts k).length
   ·rw [if_pos hql];have hne:ts k≠[]:=λe=>by rw [e] at hql;simp at hql
    have em:z2n (ts k) (tk k)=.gsl (tk k) 3 ((ts k).map Tng.cells):=by
     unfold z2n
     cases hts:ts k with
     | nil=>exact absurd hts hne
     | cons a l=>rfl
    rw [em];simp [z0d,hql,zna]
   ·rw [if_neg hql];have:(ts k)[q]?=none:=List.getElem?_eq_none (by omega);simp [this,zna]
def zjf (ts:Nat->List Tng) (r:Nat) (at_:Int):Int ⊕ (Tng×Nat):=
 match zes ts r with
 | none=>.inl 2
 | some t=>if at_<0\/(t.vals.length:Int)<=at_ then .inl 3 else .inr (t,at_.toNat)
def zje:Int ⊕ (Tng×Nat)->AV
 | .inl e=>.tup [.nilp,.int .i64 e]
 | .inr (t,q)=>.tup [.ptr t.id q,.int .i64 0]
theorem zhz {h:z00} {F:Nat->Prop} {i:Nat} {ts:Nat->List Tng} {tk:Nat->Nat} {G:AV} (p:HpAt h F i ts tk G) (r:Nat) (hr:r<18446744073709551616) (at_:Int) :
  z01 Tryz.prog 86 [.ptr i 0,.int .u64 r,.int .i64 at_] h (λv h2=>v=zje (zjf ts r at_)/\h2=h):=by
 apply zlr
 try simp only [qr1,qr2,qr3,qr4,Go.Abs.later]
 refine (zbc p r hr).mono ?_;rintro _ h2 ⟨rfl,e⟩;subst e;unfold zjf
 cases hf:zes ts r with
 | none=>simp [zna,zje]
 | some t=>
  by_cases h0:at_<0
  ·simp [zna,zje,Tng.cells,h0]
  ·by_cases h1:(t.vals.length:Int)<=at_
   ·simp [zna,zje,Tng.cells,h0,h1]
   ·have h2':at_<(t.vals.length:Int):=by omega
    simp [zna,zje,Tng.cells,h0,h1,h2',z0d];omega
end
section
open Go.Abs
theorem zb3 {α β:Type} (f:α->β) {l:List α} {j:Nat} {t u:α} (ht:l[j]?=some t) (hu:f u=f t):(l.set j u).map f=l.map f:=by
 apply List.ext_getElem?;intro a;simp only [List.getElem?_map,List.getElem?_set];split
 ·rename_i e;subst e;split
  ·rw [ht];simp [hu]
  ·rename_i hl;rw [List.getElem?_eq_none (by omega)] at ht;cases ht
 ·rfl
theorem madeAV_set {l:List Tng} {j:Nat} {t u:Tng} (ht:l[j]?=some t) (hu:u.cells=t.cells) (g:Nat):z2n (l.set j u) g=z2n l g:=by
 have hm:=zb3 Tng.cells ht hu
 cases l with
 | nil=>simp at ht
 | cons a l=>
  cases j with
  | zero=>simpa [z2n] using hm
  | succ j=>simpa [z2n] using hm
theorem HpAt.turn {h:z00} {F:Nat->Prop} {i:Nat} {ts:Nat->List Tng} {tk:Nat->Nat} {G:AV} (p:HpAt h F i ts tk G) {k j:Nat} {t:Tng} (hk:k<4) (ht:(ts k)[j]?=some t) (vs:List Nat) (hv:vs.length=t.vals.length) :
  HpAt (h.put t.id (.row 65 (z0u vs))) F i (setL ts k ((ts k).set j { t with vals:=vs })) tk G:=by
 have htm:=p.cells k hk t (List.mem_of_getElem? ht);have hi:i≠t.id:=by
  intro e;have:=htm.2;rw [<-e,p.row] at this;cases this
 have hjl:j<(ts k).length:=(List.getElem?_eq_some_iff.1 ht).1;have hlen:∀ l,(setL ts k ((ts k).set j { t with vals:=vs }) l).length=(ts l).length:=by
  intro l;unfold setL;split
  ·rename_i e;subst e;simp
  ·rfl
 have hne:∀ l,setL ts k ((ts k).set j { t with vals:=vs }) l≠[]↔ts l≠[]:=by
  intro l;rw [<-List.length_pos_iff,<-List.length_pos_iff,hlen]
 have hm:∀ l,z2n (setL ts k ((ts k).set j { t with vals:=vs }) l) (tk l)=z2n (ts l) (tk l):=by
  intro l;unfold setL;split
  ·rename_i e;subst e;exact madeAV_set ht (by simp [Tng.cells,hv]) _
  ·rfl
 have back:∀ l (a:Nat) (u:Tng),(setL ts k ((ts k).set j { t with vals:=vs }) l)[a]?=some u->∃ u0,(ts l)[a]?=some u0/\u.id=u0.id/\((l=k/\a=j/\u={ t with vals:=vs })\/(¬ (l=k/\a=j)/\u=u0)):=by
  intro l a u ha;unfold setL at ha;split at ha
  ·rename_i e;subst e;rw [List.getElem?_set] at ha;split at ha
   ·rename_i e;subst e;cases ha;exact ⟨t,ht,rfl,Or.inl ⟨rfl,rfl,rfl⟩⟩
   ·rename_i e;exact ⟨u,ha,rfl,Or.inr ⟨λx=>e x.2.symm,rfl⟩⟩
  ·rename_i e;exact ⟨u,ha,rfl,Or.inr ⟨λx=>e x.1,rfl⟩⟩
 refine ⟨p.own,p.lt,?_,λl hl hn=>?_,λl m hl hm' hlm h1 h2=>p.tkne l m hl hm' hlm ((hne l).1 h1) ((hne m).1 h2),λl hl u hu=>?_,λl hl=>by rw [hlen];exact p.len l hl,λl m a b u v hl hm' ha hb hid=>?_⟩
 ·simp only [z00.z1u,if_neg hi,hm];exact p.row
 ·obtain ⟨t1,t2⟩:=p.tok l hl ((hne l).1 hn);refine ⟨t1,?_⟩;rw [hlen];simp only [z00.z1u];rw [if_neg]
  ·exact t2
  ·intro e;rw [e,htm.2] at t2;cases t2
 ·obtain ⟨a,ha⟩:=List.mem_iff_getElem?.1 hu;obtain ⟨u0,h1,h2,h3⟩:=back l a u ha;have hu0:=p.cells l hl u0 (List.mem_of_getElem? h1);rcases h3 with ⟨rfl,rfl,rfl⟩ | ⟨h3,rfl⟩
  ·exact ⟨htm.1,by simp⟩
  ·refine ⟨hu0.1,?_⟩;simp only [z00.z1u];rw [if_neg]
   ·exact hu0.2
   ·intro e;exact h3 (p.dist l k a j u t hl hk h1 ht e)
 ·obtain ⟨u0,h1,h2,_⟩:=back l a u ha;obtain ⟨v0,k1,k2,_⟩:=back m b v hb;exact p.dist l m a b u0 v0 hl hm' h1 k1 (by rw [<-h2,<-k2,hid])
theorem zty {ts:Nat->List Tng} {r:Nat} {at_:Int} {t:Tng} {q:Nat} (h:zjf ts r at_=.inr (t,q)):(r-1)/16<4/\(ts ((r-1)/16))[(r-1)%16]?=some t/\q<t.vals.length/\at_=q/\1<=r/\r<=64:=by
 unfold zjf at h
 cases hf:zes ts r with
 | none=>rw [hf] at h;cases h
 | some u=>
  rw [hf] at h;simp only at h;split at h
  ·cases h
  ·rename_i hn;cases h;unfold zes at hf;split at hf
   ·cases hf
   ·exact ⟨by omega,hf,by omega,by omega,by omega,by omega⟩
theorem ztx {ts:Nat->List Tng} {r:Nat} {at_:Int} {e:Int} (h:zjf ts r at_=.inl e):e=2\/e=3:=by
 unfold zjf at h
 cases hf:zes ts r with
 | none=>rw [hf] at h;cases h;exact Or.inl rfl
 | some u=>
  rw [hf] at h;simp only at h;split at h
  ·cases h;exact Or.inr rfl
  ·cases h
def setT (ts:Nat->List Tng) (r:Nat) (t:Tng) (q v:Nat):Nat->List Tng:=setL ts ((r-1)/16) ((ts ((r-1)/16)).set ((r-1)%16) { t with vals:=t.vals.set q v })
theorem z7q (vs:List Nat) (q v:Nat):(z0u vs).set q (.int .u64 (v:Int))=z0u (vs.set q v):=by simp [z0u,List.map_set]
@[simp] theorem valCells_length (vs:List Nat):(z0u vs).length=vs.length:=by simp [z0u]
theorem valCells_get (vs:List Nat) (q:Nat) (hq:q<vs.length):(z0u vs)[q]?=some (.int .u64 ((vs.getD q 0:Nat):Int)):=by simp [z0u,hq]
theorem zse {h:z00} {F:Nat->Prop} {i:Nat} {ts:Nat->List Tng} {tk:Nat->Nat} {G:AV} (p:HpAt h F i ts tk G) (r:Nat) (hr:r<18446744073709551616) (at_:Int) (v:Nat) :
  z01 Tryz.prog 62 [.ptr i 0,.int .u64 r,.int .i64 at_,.int .u64 v] h (λw h2=>
   match zjf ts r at_ with
   | .inl e=>w=.int .i64 e/\h2=h
   | .inr (t,q)=>w=.int .i64 0/\HpAt h2 F i (setT ts r t q v) tk G/\Keeps h h2 F):=by
 apply zn0
 try simp only [qr1,qr2,qr3,qr4,Go.Abs.later]
 refine (zhz p r hr at_).mono ?_;rintro _ h2 ⟨rfl,e⟩;subst e
 cases hc:zjf ts r at_ with
 | inl e=>
  rcases ztx hc with rfl | rfl <;> simp [zje]
 | inr tq=>
  obtain ⟨t,q⟩:=tq;obtain ⟨hk,ht,hq,-,-,-⟩:=zty hc;have htm:=p.cells _ hk t (List.mem_of_getElem? ht);simp [zje];rw [z1g htm.2 rfl (by simpa using hq),z7q];refine ⟨p.turn hk ht _ (by simp),(Keeps.put _ _ _).mono ?_⟩;intro x hx;subst hx;exact htm.1
theorem zsd {h:z00} {F:Nat->Prop} {i:Nat} {ts:Nat->List Tng} {tk:Nat->Nat} {G:AV} (p:HpAt h F i ts tk G) (r:Nat) (hr:r<18446744073709551616) (at_:Int) :
  z01 Tryz.prog 64 [.ptr i 0,.int .u64 r,.int .i64 at_] h (λw h2=>
   h2=h/\match zjf ts r at_ with
   | .inl e=>w=.tup [.int .u64 0,.int .i64 e]
   | .inr (t,q)=>w=.tup [.int .u64 ((t.vals.getD q 0:Nat):Int),.int .i64 0]):=by
 apply zmz
 try simp only [qr1,qr2,qr3,qr4,Go.Abs.later]
 refine (zhz p r hr at_).mono ?_;rintro _ h2 ⟨rfl,e⟩;subst e
 cases hc:zjf ts r at_ with
 | inl e=>
  rcases ztx hc with rfl | rfl <;> simp [zje]
 | inr tq=>
  obtain ⟨t,q⟩:=tq;obtain ⟨hk,ht,hq,-,-,-⟩:=zty hc;have htm:=p.cells _ hk t (List.mem_of_getElem? ht);simp [zje];rw [z02 htm.2,pCells_none,valCells_get _ _ hq];simp
def madeR (ts:Nat->List Tng) (th:Int):Nat:=if th<0\/4<=th then 0 else (ts th.toNat).length
theorem zpv {h:z00} {F:Nat->Prop} {i:Nat} {ts:Nat->List Tng} {tk:Nat->Nat} {G:AV} (p:HpAt h F i ts tk G) (th:Int) :
  z01 Tryz.prog 34 [.ptr i 0,.int .i64 th] h (λw h2=>w=.int .i64 (madeR ts th)/\h2=h):=by
 apply zlo
 try simp only [qr1,qr2,qr3,qr4,Go.Abs.later]
 by_cases h1:th<0
 ·simp [h1,madeR]
 ·by_cases h2:4<=th
  ·simp [h1,h2,madeR]
  ·obtain ⟨k,rfl⟩:∃ k:Nat,th=k:=⟨th.toNat,by omega⟩;have hk:k<4:=by omega
   have hix:∀ K,z0d (.array 4 1) (.ptr i 1) (.int .i64 (k:Int)) K=K (.ptr i (1+k)):=λK=>by simp [z0d];omega
   have e:madeR ts k=(ts k).length:=by simp [madeR];omega
   rw [e];simp [h1,h2,hix,p.ld hk,z8j]
theorem zpx {h:z00} {F:Nat->Prop} {i:Nat} {ts:Nat->List Tng} {tk:Nat->Nat} {G:AV} (p:HpAt h F i ts tk G) (r:Nat) (hr:r<18446744073709551616) :
  z01 Tryz.prog 65 [.ptr i 0,.int .u64 r] h (λw h2=>(w=match zes ts r with | none=>.tup [.int .i64 0,.int .i64 2] | some t=>.tup [.int .i64 t.vals.length,.int .i64 0])/\h2=h):=by
 apply zlq
 try simp only [qr1,qr2,qr3,qr4,Go.Abs.later]
 refine (zbc p r hr).mono ?_;rintro _ h2 ⟨rfl,e⟩;subst e
 cases hf:zes ts r with
 | none=>simp [zna]
 | some t=>simp [zna,Tng.cells]
end
section
open Go.Abs
structure Vw where
 site:Int
 cls:Int
 vals:List Nat
 deriving DecidableEq,Inhabited
def Tng.vw (t:Tng):Vw:=⟨t.site,t.cls,t.vals⟩
def vwOf (ts:Nat->List Tng):Nat->List Vw:=λk=>(ts k).map Tng.vw
theorem zwe (ts:Nat->List Tng) (k:Nat) (l:List Tng):vwOf (setL ts k l)=setL (vwOf ts) k (l.map Tng.vw):=by
 funext j;unfold vwOf setL;split <;> rfl
theorem zt6 (ts:Nat->List Tng) (k:Nat):(vwOf ts k).length=(ts k).length:=by simp [vwOf]
abbrev HSt:=Nat->List Vw
def z7e (W:HSt) (r:Nat):Option Vw:=if r=0\/64<r then none else (W ((r-1)/16))[(r-1)%16]?
def cellW (W:HSt) (r:Nat) (at_:Int):Int ⊕ (Vw×Nat):=
 match z7e W r with
 | none=>.inl 2
 | some t=>if at_<0\/(t.vals.length:Int)<=at_ then .inl 3 else .inr (t,at_.toNat)
def zm9 (W:HSt) (thread cells:Int):Int ⊕ Nat:=
 if thread<0\/4<=thread\/16<=(W thread.toNat).length then .inl 4 else if cells<0\/16<cells then .inl 5 else .inr thread.toNat
def zv2 (W:HSt) (thread cells:Int):AV:=
 match zm9 W thread cells with
 | .inl e=>.tup [.int .u64 0,.int .i64 e]
 | .inr k=>.tup [.int .u64 ((k*16+(W k).length+1:Nat):Int),.int .i64 0]
def zfj (W:HSt) (thread site cls cells:Int):HSt:=
 match zm9 W thread cells with
 | .inl _=>W
 | .inr k=>setL W k (W k++[⟨site,cls,List.replicate cells.toNat 0⟩])
def setV (W:HSt) (r:Nat) (at_:Int):Int:=match cellW W r at_ with | .inl e=>e | .inr _=>0
def setW (W:HSt) (r:Nat) (at_:Int) (v:Nat):HSt:=
 match cellW W r at_ with
 | .inl _=>W
 | .inr (t,q)=>setL W ((r-1)/16) ((W ((r-1)/16)).set ((r-1)%16) { t with vals:=t.vals.set q v })
def getV (W:HSt) (r:Nat) (at_:Int):AV:=
 match cellW W r at_ with
 | .inl e=>.tup [.int .u64 0,.int .i64 e]
 | .inr (t,q)=>.tup [.int .u64 ((t.vals.getD q 0:Nat):Int),.int .i64 0]
def zv0 (W:HSt) (th:Int):Nat:=if th<0\/4<=th then 0 else (W th.toNat).length
def sizeV (W:HSt) (r:Nat):AV:=match z7e W r with | none=>.tup [.int .i64 0,.int .i64 2] | some t=>.tup [.int .i64 t.vals.length,.int .i64 0]
theorem zs3 (ts:Nat->List Tng) (r:Nat):z7e (vwOf ts) r=(zes ts r).map Tng.vw:=by
 unfold z7e zes;split <;> simp [vwOf]
theorem zyf (ts:Nat->List Tng) (r:Nat) (at_:Int):cellW (vwOf ts) r at_=match zjf ts r at_ with | .inl e=>.inl e | .inr (t,q)=>.inr (t.vw,q):=by
 unfold cellW zjf;rw [zs3]
 cases zes ts r with
 | none=>rfl
 | some t=>
  simp only [Option.map_some];have e:t.vw.vals=t.vals:=rfl;rw [e];split <;> rfl
theorem makeRW_of (ts:Nat->List Tng) (a b:Int):zm9 (vwOf ts) a b=zn2 ts a b:=by
 unfold zm9 zn2;rw [zt6]
def HpW (h:z00) (F:Nat->Prop) (i:Nat) (W:HSt) (G:AV):Prop:=∃ ts tk,HpAt h F i ts tk G/\vwOf ts=W
theorem HpW.keeps {h h':z00} {F:Nat->Prop} {i:Nat} {W:HSt} {G:AV} {S:Nat->Prop} (p:HpW h F i W G) (k:Keeps h h' S) (hS:∀ x,F x->¬ S x):HpW h' F i W G:=by
 obtain ⟨ts,tk,p,e⟩:=p;exact ⟨ts,tk,p.keeps k hS,e⟩
theorem HpW.lt {h:z00} {F:Nat->Prop} {i:Nat} {W:HSt} {G:AV} (p:HpW h F i W G):∀ x,F x->x<h.next:=by
 obtain ⟨ts,tk,p,e⟩:=p;exact p.lt
def st0:HSt:=λ_=>[]
theorem zx6 {h:z00} {F:Nat->Prop} {i:Nat} {W:HSt} {G:AV} (p:HpW h F i W G) (thread site cls cells:Int) :
  z01 Tryz.prog 67 [.ptr i 0,.int .i64 thread,.int .i64 site,.int .i64 cls,.int .i64 cells] h (λv h2=>v=zv2 W thread cells/\∃ F2,HpW h2 F2 i (zfj W thread site cls cells) G/\Keeps h h2 F/\∀ x,F2 x->F x\/h.next<=x):=by
 obtain ⟨ts,tk,p,rfl⟩:=p;refine (zpw p thread site cls cells).mono ?_;intro v h2 hm;unfold zv2 zfj;rw [makeRW_of]
 cases hr:zn2 ts thread cells with
 | inl e=>
  rw [hr] at hm;obtain ⟨rfl,rfl⟩:=hm;exact ⟨rfl,F,⟨ts,tk,p,rfl⟩,.refl _ _,λx hx=>Or.inl hx⟩
 | inr k=>
  rw [hr] at hm;obtain ⟨rfl,tk2,p2,k2⟩:=hm;refine ⟨by simp only [zt6],_,⟨_,_,p2,by rw [zwe];simp [vwOf,Tng.vw]⟩,k2,λx hx=>?_⟩;rcases hx with hx | hx | hx
  ·exact Or.inl hx
  ·omega
  ·omega
theorem heap_Set_W {h:z00} {F:Nat->Prop} {i:Nat} {W:HSt} {G:AV} (p:HpW h F i W G) (r:Nat) (hr:r<18446744073709551616) (at_:Int) (v:Nat) :
  z01 Tryz.prog 62 [.ptr i 0,.int .u64 r,.int .i64 at_,.int .u64 v] h (λw h2=>w=.int .i64 (setV W r at_)/\HpW h2 F i (setW W r at_ v) G/\Keeps h h2 F):=by
 obtain ⟨ts,tk,p,rfl⟩:=p;refine (zse p r hr at_ v).mono ?_;intro w h2 hm;unfold setV setW;rw [zyf]
 cases hc:zjf ts r at_ with
 | inl e=>
  rw [hc] at hm;obtain ⟨rfl,rfl⟩:=hm;exact ⟨rfl,⟨ts,tk,p,rfl⟩,.refl _ _⟩
 | inr tq=>
  obtain ⟨t,q⟩:=tq;rw [hc] at hm;obtain ⟨rfl,p2,k2⟩:=hm;refine ⟨rfl,⟨_,_,p2,?_⟩,k2⟩;unfold setT;rw [zwe,List.map_set]
  rfl
theorem heap_Get_W {h:z00} {F:Nat->Prop} {i:Nat} {W:HSt} {G:AV} (p:HpW h F i W G) (r:Nat) (hr:r<18446744073709551616) (at_:Int) :
  z01 Tryz.prog 64 [.ptr i 0,.int .u64 r,.int .i64 at_] h (λw h2=>w=getV W r at_/\h2=h):=by
 obtain ⟨ts,tk,p,rfl⟩:=p;refine (zsd p r hr at_).mono ?_;rintro w h2 ⟨rfl,hm⟩;unfold getV;rw [zyf]
 cases hc:zjf ts r at_ with
 | inl e=>rw [hc] at hm;exact ⟨hm,rfl⟩
 | inr tq=>obtain ⟨t,q⟩:=tq;rw [hc] at hm;exact ⟨hm,rfl⟩
theorem zx5 {h:z00} {F:Nat->Prop} {i:Nat} {W:HSt} {G:AV} (p:HpW h F i W G) (th:Int) :
  z01 Tryz.prog 34 [.ptr i 0,.int .i64 th] h (λw h2=>w=.int .i64 (zv0 W th)/\h2=h):=by
 obtain ⟨ts,tk,p,rfl⟩:=p;refine (zpv p th).mono ?_;rintro w h2 ⟨rfl,rfl⟩;refine ⟨?_,rfl⟩;unfold zv0 madeR;rw [zt6]
theorem zx8 {h:z00} {F:Nat->Prop} {i:Nat} {W:HSt} {G:AV} (p:HpW h F i W G) (r:Nat) (hr:r<18446744073709551616) :
  z01 Tryz.prog 65 [.ptr i 0,.int .u64 r] h (λw h2=>w=sizeV W r/\h2=h):=by
 obtain ⟨ts,tk,p,rfl⟩:=p;refine (zpx p r hr).mono ?_;rintro w h2 ⟨rfl,rfl⟩;refine ⟨?_,rfl⟩;unfold sizeV;rw [zs3];cases zes ts r <;> rfl
theorem chunk_one (l:List AV):∀ n,n=l.length->chunk 1 n l=l.map λx=>[x]:=by
 induction l with
 | nil=>intro n hn;subst hn;rfl
 | cons a l ih=>intro n hn;subst hn;simp [chunk,ih _ rfl]
end
section
open Go.Abs
structure Rf where
 ref:Nat
 t:Vw
def fnd (M:List Rf) (r:Nat):Option Nat:=M.findIdx? λt=>t.ref == r
def cntM (M:List Rf) (th:Int):Nat:=(M.map Rf.ref).countP λr=>((((r-1)/16:Nat):Int) == th)
def lk (M:List Rf) (r:Nat):Option Vw:=(M.find? λt=>t.ref == r).map Rf.t
structure Rel (W:HSt) (M:List Rf):Prop where
 rf:∀ t∈M,1<=t.ref/\t.ref<=64
 lk:∀ r,lk M r=z7e W r
 cnt:∀ k:Nat,k<4->cntM M k=(W k).length
 le:∀ k,k<4->(W k).length<=16
theorem Rel.zero:Rel st0 []:=by
 refine ⟨by simp,λr=>?_,λk _=>rfl,λk _=>by simp [st0]⟩;unfold Go.Proofs.YtjlogcfggfmacaaGreat.lk z7e st0;split <;> simp
theorem findW_push {W:HSt} {k:Nat} (hk:k<4) (hl:(W k).length<16) (v:Vw) (r:Nat):z7e (setL W k (W k++[v])) r=if r=k*16+(W k).length+1 then some v else z7e W r:=by
 unfold z7e setL;by_cases e:r=k*16+(W k).length+1
 ·subst e;rw [if_neg (by omega),if_pos rfl,if_pos (by omega)];have:(k*16+(W k).length+1-1)%16=(W k).length:=by omega
  rw [this];simp
 ·rw [if_neg e];by_cases h0:r=0\/64<r
  ·rw [if_pos h0,if_pos h0]
  ·rw [if_neg h0,if_neg h0];by_cases hq:(r-1)/16=k
   ·rw [if_pos hq,hq];by_cases hlt:(r-1)%16<(W k).length
    ·rw [List.getElem?_append_left hlt]
    ·rw [List.getElem?_eq_none (by simp;omega),List.getElem?_eq_none (by omega)]
   ·rw [if_neg hq]
theorem Rel.make {W:HSt} {M:List Rf} (p:Rel W M) {k:Nat} (hk:k<4) (hl:(W k).length<16) (v:Vw):Rel (setL W k (W k++[v])) (M++[⟨k*16+(W k).length+1,v⟩]):=by
 refine ⟨λt ht=>?_,λr=>?_,λj hj=>?_,λj hj=>?_⟩
 ·rcases List.mem_append.1 ht with ht | ht
  ·exact p.rf t ht
  ·rcases List.mem_singleton.1 ht with rfl
   simp only;omega
 ·rw [findW_push hk hl];have hp:=p.lk r;unfold Go.Proofs.YtjlogcfggfmacaaGreat.lk at hp ⊢;rw [List.find?_append];by_cases e:r=k*16+(W k).length+1
  ·rw [if_pos e];have hn:z7e W r=none:=by
    unfold z7e;rw [if_neg (by omega)];have:(r-1)/16=k:=by omega
    rw [this];exact List.getElem?_eq_none (by omega)
   rw [hn,Option.map_eq_none_iff] at hp;rw [hp];simp [e]
  ·rw [if_neg e,<-hp];have:([⟨k*16+(W k).length+1,v⟩]:List Rf).find? (λt=>t.ref == r)=none:=by
    simp;omega
   rw [this,Option.or_none]
 ·have hc:=p.cnt j hj;unfold cntM at hc ⊢;rw [List.map_append,List.countP_append,hc];unfold setL;have hd:(k*16+(W k).length+1-1)/16=k:=by omega
  by_cases e:j=k
  ·subst e;simp [hd];omega
  ·rw [if_neg e];simp [hd];omega
 ·unfold setL;split
  ·rename_i e;subst e;simp;omega
  ·exact p.le j hj
theorem lk_set (r':Nat) (v:Vw):∀ (M:List Rf) (i r:Nat) (t:Rf),fnd M r=some i->M[i]?=some t->lk (M.set i ⟨t.ref,v⟩) r'=if r'=r then some v else lk M r'
 | [],i,r,t,h,_=>by simp [fnd] at h
 | x::M,i,r,t,h,ht=>by
  unfold fnd at h;rw [List.findIdx?_cons] at h;by_cases e:x.ref=r
  ·simp only [e,beq_self_eq_true,if_true,Option.some.injEq] at h;subst h;simp only [List.getElem?_cons_zero,Option.some.injEq] at ht;subst ht;simp only [List.set_cons_zero,lk,List.find?_cons];by_cases e2:r'=r
   ·subst e2;simp [e]
   ·have:(x.ref == r')=false:=by simp;omega
    simp [this,e2]
  ·simp only [beq_eq_false_iff_ne.2 e,Bool.false_eq_true,if_false,Option.map_eq_some_iff] at h;obtain ⟨j,hj,rfl⟩:=h;have ht':M[j]?=some t:=by simpa using ht
   have ih:=lk_set r' v M j r t hj ht';simp only [List.set_cons_succ,lk,List.find?_cons] at ih ⊢;by_cases e2:x.ref=r'
   ·have:r'≠r:=λh=>e (e2.trans h);simp [e2,this]
   ·simp only [beq_eq_false_iff_ne.2 e2];exact ih
theorem findW_set {W:HSt} {r:Nat} {t:Vw} (h:z7e W r=some t) (v:Vw) (r':Nat):z7e (setL W ((r-1)/16) ((W ((r-1)/16)).set ((r-1)%16) v)) r'=if r'=r then some v else z7e W r':=by
 have hb:¬ (r=0\/64<r):=by
  intro e;unfold z7e at h;rw [if_pos e] at h;cases h
 unfold z7e at h;rw [if_neg hb] at h;have hlt:=(List.getElem?_eq_some_iff.1 h).1;unfold z7e setL;by_cases e:r'=r
 ·subst e;rw [if_neg hb,if_pos rfl,if_pos rfl];simp [hlt]
 ·rw [if_neg e];by_cases h0:r'=0\/64<r'
  ·rw [if_pos h0,if_pos h0]
  ·rw [if_neg h0,if_neg h0];by_cases hq:(r'-1)/16=(r-1)/16
   ·rw [if_pos hq,hq,List.getElem?_set,if_neg (by omega)]
   ·rw [if_neg hq]
theorem Rel.set {W:HSt} {M:List Rf} (p:Rel W M) {r i:Nat} {t:Rf} (hi:fnd M r=some i) (ht:M[i]?=some t) (v:Vw):Rel (setL W ((r-1)/16) ((W ((r-1)/16)).set ((r-1)%16) v)) (M.set i ⟨t.ref,v⟩):=by
 have hlk:Go.Proofs.YtjlogcfggfmacaaGreat.lk M r=some t.t:=by
  have h1:M.find? (λt=>t.ref == r)=some t:=by
   have hh:=List.findIdx?_eq_some_iff_getElem.1 hi;obtain ⟨h1,h2,h3⟩:=hh;have e:M[i]=t:=by rw [List.getElem?_eq_getElem h1] at ht;exact Option.some.inj ht
   refine List.find?_eq_some_iff_getElem.2 ⟨by rw [<-e];exact h2,i,h1,e,λj hj=>by simpa using h3 j hj⟩
  unfold Go.Proofs.YtjlogcfggfmacaaGreat.lk;rw [h1];rfl
 have hm:(M.set i ⟨t.ref,v⟩).map Rf.ref=M.map Rf.ref:=zb3 Rf.ref ht rfl;refine ⟨λu hu=>?_,λr'=>?_,λk hk=>?_,λk hk=>?_⟩
 ·have:u.ref∈(M.set i ⟨t.ref,v⟩).map Rf.ref:=List.mem_map.2 ⟨u,hu,rfl⟩;rw [hm] at this;obtain ⟨w,hw,e⟩:=List.mem_map.1 this;rw [<-e];exact p.rf w hw
 ·rw [lk_set r' v M i r t hi ht,findW_set (t:=t.t) (by rw [<-p.lk];exact hlk),p.lk]
 ·unfold cntM;rw [hm];have:=p.cnt k hk;unfold cntM at this;rw [this];unfold setL;split
  ·rename_i e;subst e;simp
  ·rfl
 ·unfold setL;split
  ·rename_i e;subst e;simp;exact p.le _ hk
  ·exact p.le k hk
end
section
open Go.Abs
structure Rt where
 ref:Nat
 site:Int
 cls:Int
 id:Nat
 vals:List Nat
def Rt.cells (t:Rt):List AV:=[.int .u64 (t.ref:Int),.int .i64 t.site,.int .i64 t.cls,.sl t.id 0 t.vals.length 1]
def Rt.rf (t:Rt):Rf:=⟨t.ref,t.site,t.cls,t.vals⟩
def z6y (ts:List Rt) (g:Nat):AV:=match ts with | []=>.nils | _=>.gsl g 4 (ts.map Rt.cells)
theorem zy1 (ts:List Rt) (g:Nat) (K:AV->Prop):pLen .slice (z6y ts g) K=K (.int .i64 ts.length):=by cases ts <;> simp [z6y]
theorem zmi {ts:List Rt} {k:Nat} {t:Rt} (hk:ts[k]?=some t) (g:Nat) (kk:IntKind) (K:AV->Prop):z0d (.slice 4) (z6y ts g) (.int kk (k:Int)) K=K (.iptr t.cells):=by
 cases ts with
 | nil=>simp at hk
 | cons a l=>
  have:((a::l).map Rt.cells)[k]?=some t.cells:=by rw [List.getElem?_map,hk];rfl
  simp only [z6y,z0d,Int.toNat_natCast,this];simp
structure RfAt (h:z00) (F:Nat->Prop) (j:Nat) (ts:List Rt) (GL:AV):Prop where
 own:F j
 lt:∀ x,F x->x<h.next
 row:∃ g,h.objs j=some (.row 80 [GL,z6y ts g])
 cells:∀ t∈ts,F t.id/\h.objs t.id=some (.row 65 (z0u t.vals))
 dist:∀ (a b:Nat) (u v:Rt),ts[a]?=some u->ts[b]?=some v->u.id=v.id->a=b
 len:ts.length<=64
 refs:∀ t∈ts,1<=t.ref/\t.ref<=64
theorem RfAt.keeps {h h':z00} {F:Nat->Prop} {j:Nat} {ts:List Rt} {GL:AV} {S:Nat->Prop} (p:RfAt h F j ts GL) (k:Keeps h h' S) (hS:∀ x,F x->¬ S x):RfAt h' F j ts GL:=by
 have e:∀ x,F x->h'.objs x=h.objs x:=λx hx=>k.objs x (p.lt x hx) (hS x hx);obtain ⟨g,hg⟩:=p.row;exact ⟨p.own,λx hx=>Nat.lt_of_lt_of_le (p.lt x hx) k.next,⟨g,by rw [e j p.own];exact hg⟩,λt ht=>⟨(p.cells t ht).1,by rw [e _ (p.cells t ht).1];exact (p.cells t ht).2⟩,p.dist,p.len,p.refs⟩
theorem zw1 (n:Nat) (hn:n<=8) (x:Int) (hx:max x 0=n\/(8<x/\n=8)) (h:z00):z01 Tryz.prog 8 [.int .i64 x] h (λv h2=>v=.ptr (h.next+1) 0/\h2=(h.push (.row 65 (z0u (List.replicate n 0)))).push (.row 80 [.sl h.next 0 n 1,.nils])):=by
 apply ziz;have e1:maxA [.int .i64 x,.int .i64 0]=some (.int .i64 (max x 0)):=by
  simp only [maxA];split <;> congr 2 <;> omega
 have e2:minA [.int .i64 (max x 0),.int .i64 8]=some (.int .i64 n):=by
  simp only [minA];split <;> congr 2 <;> omega
 have e3:repC n [.int .u64 0]=z0u (List.replicate n 0):=by simp [repC,z0u]
 (repeat simp -dsimp -implicitDefEqProofs only [↓rP,rB,↓reduceIte,reduceEqDiff,reduceAdd,reduceLeDiff,e1,e2,z6v,Int.toNat_natCast,e3])
 refine ⟨by omega,by omega,by omega,by omega,?_⟩;simp [z3w,zcj,AV.cells,AV.fits,Go.Abs.later,e3]
theorem zeb {h:z00} {F:Nat->Prop} {j:Nat} {ts:List Rt} {GL:AV} (p:RfAt h F j ts GL) (th:Int) :
  z01 Tryz.prog 35 [.ptr j 0,.int .i64 th] h (λv h2=>v=.int .i64 (cntM (ts.map Rt.rf) th:Nat)/\Keeps h h2 (λ_=>False)):=by
 apply zc7;obtain ⟨g,hg⟩:=p.row;have hlen:=p.len;have r1:∀ K,z0r none (.ptr j 1) h K=K (z6y ts g):=λK=>by rw [z02 hg,pCells_none];rfl
 (repeat simp -dsimp -implicitDefEqProofs only [↓rP,rB,↓reduceIte,reduceEqDiff,reduceAdd,reduceLeDiff,r1,zy1])
 refine z14 z07 (by kernel_rfl) (λm fr hh=>∃ (k:Nat),k<=ts.length/\m=ts.length-k/\Keeps h hh (λ_=>False)/\
  fr=frOf [(1,.int .i64 th),(5,.int .i64 (cntM ((ts.take k).map Rt.rf) th:Nat)),(11,z6y ts g),(12,.int .i64 ts.length),(13,.int .i64 k)]) ts.length ⟨0,by omega,by omega,.refl _ _,rfl⟩ ?_
 rintro m fr hh ⟨k,hk,rfl,kp,rfl⟩;apply z9v;generalize hI:(λ(m:Nat) (fr:Fr) (hh:z00)=>_)=I;by_cases hkl:k<ts.length
 ·have hx:ts[k]?=some ts[k]:=List.getElem?_eq_getElem hkl;have hrf:=p.refs _ (List.mem_of_getElem? hx);have hsn:ts.take (k+1)=ts.take k++[ts[k]]:=by rw [List.take_add_one,hx];rfl
  generalize ts[k]=t at *;have d0:decide ((k:Int)<(ts.length:Int))=true:=decide_eq_true (by omega);have hc:t.cells=[.int .u64 (t.ref:Int),.int .i64 t.site,.int .i64 t.cls,.sl t.id 0 t.vals.length 1]:=rfl;have wk:IntKind.i64.wrap ((k:Int)+1)=((k+1:Nat):Int):=by rw [z2f (by omega) (by omega)];omega
  have w1:IntKind.u64.wrap ((t.ref:Int)-1)=((t.ref-1:Nat):Int):=by rw [z9f,Int.emod_eq_of_lt (by omega) (by omega)];omega
  have w2:IntKind.i64.wrap ((t.ref-1:Nat):Int)=((t.ref-1:Nat):Int):=z2f (by omega) (by omega)
  (repeat simp -dsimp -implicitDefEqProofs only [↓rP,rB,↓reduceIte,reduceEqDiff,reduceAdd,reduceLeDiff,d0,zmi hx,hc])
  rw [z13 (by rfl) (by rfl)];have kA:=Keeps.push hh (.row 92 [.int .u64 (t.ref:Int),.int .i64 t.site,.int .i64 t.cls,.sl t.id 0 t.vals.length 1]);have hq:(16:Int)=0↔False:=by simp
  have e3:((t.ref-1:Nat):Int).tdiv 16=(((t.ref-1)/16:Nat):Int):=rfl;have w3:IntKind.i64.wrap (((t.ref-1)/16:Nat):Int)=(((t.ref-1)/16:Nat):Int):=z2f (by omega) (by omega);have hcn:cntM ((ts.take (k+1)).map Rt.rf) th=cntM ((ts.take k).map Rt.rf) th+if ((((t.ref-1)/16:Nat):Int) == th)=true then 1 else 0:=by
   unfold cntM;rw [hsn,List.map_append,List.map_append,List.countP_append];simp [Rt.rf,List.countP_cons]
  have hle:cntM ((ts.take k).map Rt.rf) th<=k:=by
   unfold cntM;refine Nat.le_trans List.countP_le_length ?_;simp;omega
  cases hb:((((t.ref-1)/16:Nat):Int) == th) with
  | true=>
   rw [hb,if_pos rfl] at hcn;have wn:IntKind.i64.wrap ((cntM ((ts.take k).map Rt.rf) th:Int)+1)=(cntM ((ts.take (k+1)).map Rt.rf) th:Nat):=by rw [hcn,z2f (by omega) (by omega)];omega
   (repeat simp -dsimp -implicitDefEqProofs only [↓rP,rB,↓reduceIte,reduceEqDiff,reduceAdd,reduceLeDiff,w1,w2,binA_int_quo,hq,if_false,e3,w3,hb,wn,wk])
   rw [z05,<-hI];exact ⟨_,by omega,k+1,by omega,rfl,kp.trans kA (λ_ _ h=>h),rfl⟩
  | false=>
   rw [hb,if_neg Bool.false_ne_true,Nat.add_zero] at hcn
   (repeat simp -dsimp -implicitDefEqProofs only [↓rP,rB,↓reduceIte,reduceEqDiff,reduceAdd,reduceLeDiff,w1,w2,binA_int_quo,hq,if_false,e3,w3,hb,wk])
   rw [z05,<-hI];exact ⟨_,by omega,k+1,by omega,rfl,kp.trans kA (λ_ _ h=>h),by rw [hcn];rfl⟩
 ·have hke:k=ts.length:=by omega
  subst hke;rw [List.take_length] at *;have d0:decide ((ts.length:Int)<(ts.length:Int))=false:=decide_eq_false (by omega)
  (repeat simp -dsimp -implicitDefEqProofs only [↓rP,rB,↓reduceIte,reduceEqDiff,reduceAdd,reduceLeDiff,d0])
  first | exact ⟨rfl,kp⟩ | exact kp
def fndI (ts:List Rt) (r:Nat):Int:=match fnd (ts.map Rt.rf) r with | some i=>(i:Int) | none=>-1
theorem fnd_take {M:List Rf} {r k:Nat} {x:Rf} (h:fnd (M.take k) r=none) (hx:M[k]?=some x) (e:x.ref=r):fnd M r=some k:=by
 unfold fnd at h ⊢;rw [List.findIdx?_eq_none_iff] at h;obtain ⟨hk,he⟩:=List.getElem?_eq_some_iff.1 hx;refine List.findIdx?_eq_some_iff_getElem.2 ⟨hk,by rw [he];simpa using e,λj hj=>?_⟩;have:=h M[j] (List.mem_iff_getElem?.2 ⟨j,by rw [List.getElem?_take,if_pos hj,List.getElem?_eq_getElem (by omega)]⟩);simpa using this
theorem fnd_snoc {M:List Rf} {r k:Nat} {x:Rf} (h:fnd (M.take k) r=none) (hx:M[k]?=some x) (e:x.ref≠r):fnd (M.take (k+1)) r=none:=by
 unfold fnd at h ⊢;rw [List.findIdx?_eq_none_iff] at h ⊢;intro y hy;rw [List.take_add_one,hx] at hy;rcases List.mem_append.1 hy with hy | hy
 ·exact h y hy
 ·simp at hy;subst hy;simpa using e
theorem zkq {h:z00} {F:Nat->Prop} {j:Nat} {ts:List Rt} {GL:AV} (p:RfAt h F j ts GL) (r:Nat) :
  z01 Tryz.prog 41 [.ptr j 0,.int .u64 (r:Int)] h (λv h2=>v=.int .i64 (fndI ts r)/\Keeps h h2 (λ_=>False)):=by
 apply zc6;obtain ⟨g,hg⟩:=p.row;have hlen:=p.len;have r1:∀ K,z0r none (.ptr j 1) h K=K (z6y ts g):=λK=>by rw [z02 hg,pCells_none];rfl
 (repeat simp -dsimp -implicitDefEqProofs only [↓rP,rB,↓reduceIte,reduceEqDiff,reduceAdd,reduceLeDiff,r1,zy1])
 refine z14 z07 (by kernel_rfl) (λm fr hh=>∃ (k:Nat),k<=ts.length/\m=ts.length-k/\Keeps h hh (λ_=>False)/\fnd ((ts.map Rt.rf).take k) r=none/\
  fr=frOf [(1,.int .u64 (r:Int)),(10,z6y ts g),(11,.int .i64 ts.length),(12,.int .i64 k)]) ts.length ⟨0,by omega,by omega,.refl _ _,rfl,rfl⟩ ?_
 rintro m fr hh ⟨k,hk,rfl,kp,hnone,rfl⟩;apply z9u;generalize hI:(λ(m:Nat) (fr:Fr) (hh:z00)=>_)=I;by_cases hkl:k<ts.length
 ·have hx:ts[k]?=some ts[k]:=List.getElem?_eq_getElem hkl;generalize ts[k]=t at *;have hx2:(ts.map Rt.rf)[k]?=some t.rf:=by rw [List.getElem?_map,hx];rfl
  have d0:decide ((k:Int)<(ts.length:Int))=true:=decide_eq_true (by omega);have hc:t.cells=[.int .u64 (t.ref:Int),.int .i64 t.site,.int .i64 t.cls,.sl t.id 0 t.vals.length 1]:=rfl;have wk:IntKind.i64.wrap ((k:Int)+1)=((k+1:Nat):Int):=by rw [z2f (by omega) (by omega)];omega
  (repeat simp -dsimp -implicitDefEqProofs only [↓rP,rB,↓reduceIte,reduceEqDiff,reduceAdd,reduceLeDiff,d0,zmi hx,hc])
  rw [z13 (by rfl) (by rfl)];have kA:=Keeps.push hh (.row 92 [.int .u64 (t.ref:Int),.int .i64 t.site,.int .i64 t.cls,.sl t.id 0 t.vals.length 1]);by_cases e:t.ref=r
  ·have hb:((t.ref:Int) == (r:Int))=true:=by simp [e]
   have hf:fndI ts r=k:=by unfold fndI;rw [fnd_take hnone hx2 e]
   (repeat simp -dsimp -implicitDefEqProofs only [↓rP,rB,↓reduceIte,reduceEqDiff,reduceAdd,reduceLeDiff,hb])
   rw [hf];exact ⟨rfl,kp.trans kA (λ_ _ h=>h)⟩
  ·have hb:((t.ref:Int) == (r:Int))=false:=by simp;omega
   (repeat simp -dsimp -implicitDefEqProofs only [↓rP,rB,↓reduceIte,reduceEqDiff,reduceAdd,reduceLeDiff,hb,wk])
   rw [z05,<-hI];exact ⟨_,by omega,k+1,by omega,rfl,kp.trans kA (λ_ _ h=>h),fnd_snoc hnone hx2 e,rfl⟩
 ·have hke:k=ts.length:=by omega
  subst hke;have d0:decide ((ts.length:Int)<(ts.length:Int))=false:=decide_eq_false (by omega);have hf:fndI ts r=-1:=by
   unfold fndI;rw [List.take_of_length_le (by simp)] at hnone;rw [hnone]
  (repeat simp -dsimp -implicitDefEqProofs only [↓rP,rB,↓reduceIte,reduceEqDiff,reduceAdd,reduceLeDiff,d0])
  rw [hf];exact ⟨rfl,kp⟩
end
section
open Go.Abs
theorem zjj {ts:List Rt} {r i:Nat} (h:fnd (ts.map Rt.rf) r=some i):∃ t,ts[i]?=some t/\t.ref=r/\lk (ts.map Rt.rf) r=some t.rf.t:=by
 obtain ⟨h1,h2,h3⟩:=List.findIdx?_eq_some_iff_getElem.1 h;have hl:i<ts.length:=by simpa using h1
 refine ⟨ts[i],List.getElem?_eq_getElem hl,by simpa [Rt.rf] using h2,?_⟩;unfold lk;have:(ts.map Rt.rf).find? (λt=>t.ref == r)=some (ts.map Rt.rf)[i]:=List.find?_eq_some_iff_getElem.2 ⟨h2,i,h1,rfl,λj hj=>by simpa using h3 j hj⟩;rw [this];simp
theorem znf {ts:List Rt} {r:Nat} (h:fnd (ts.map Rt.rf) r=none):lk (ts.map Rt.rf) r=none:=by
 unfold fnd at h;rw [List.findIdx?_eq_none_iff] at h;unfold lk;rw [List.find?_eq_none.2 λx hx=>by simpa using h x hx]
 rfl
def zdm (o:Option Vw) (at_:Int):Int:=match o with | none=>2 | some t=>if at_<0\/(t.vals.length:Int)<=at_ then 3 else 0
def cellI (ts:List Rt) (r:Nat) (at_:Int):Int:=if zdm (lk (ts.map Rt.rf) r) at_=0 then fndI ts r else 0
theorem zkp {h:z00} {F:Nat->Prop} {j:Nat} {ts:List Rt} {GL:AV} (p:RfAt h F j ts GL) (r:Nat) (at_:Int) :
  z01 Tryz.prog 53 [.ptr j 0,.int .u64 (r:Int),.int .i64 at_] h (λv h2=>v=.tup [.int .i64 (zdm (lk (ts.map Rt.rf) r) at_),.int .i64 (cellI ts r at_)]/\Keeps h h2 (λ_=>False)):=by
 apply zc5;refine (zkq p r).mono ?_;rintro _ h2 ⟨rfl,k2⟩;obtain ⟨g,hg⟩:=(p.keeps k2 (λ_ _ h=>h)).row;have r1:∀ K,z0r none (.ptr j 1) h2 K=K (z6y ts g):=λK=>by rw [z02 hg,pCells_none];rfl
 cases hf:fnd (ts.map Rt.rf) r with
 | none=>
  have e1:fndI ts r=-1:=by unfold fndI;rw [hf]
  have e2:zdm (lk (ts.map Rt.rf) r) at_=2:=by rw [znf hf];rfl
  have e3:cellI ts r at_=0:=by unfold cellI;rw [e2];rfl
  have d1:decide ((-1:Int)<0)=true:=rfl;rw [e1,e2,e3]
  (repeat simp -dsimp -implicitDefEqProofs only [↓rP,rB,↓reduceIte,reduceEqDiff,reduceAdd,reduceLeDiff,d1])
  first | exact ⟨rfl,k2⟩ | exact k2
 | some i=>
  obtain ⟨t,ht,hr,hl⟩:=zjj hf;have e1:fndI ts r=i:=by unfold fndI;rw [hf]
  have d1:decide ((i:Int)<0)=false:=decide_eq_false (by omega);have e2:zdm (lk (ts.map Rt.rf) r) at_=if at_<0\/(t.vals.length:Int)<=at_ then 3 else 0:=by rw [hl];rfl
  have hc:t.cells=[.int .u64 (t.ref:Int),.int .i64 t.site,.int .i64 t.cls,.sl t.id 0 t.vals.length 1]:=rfl;unfold cellI;rw [e1,e2];by_cases c1:at_<0
  ·have d2:decide (at_<0)=true:=decide_eq_true c1;rw [if_pos (Or.inl c1),if_neg (by omega)]
   (repeat simp -dsimp -implicitDefEqProofs only [↓rP,rB,↓reduceIte,reduceEqDiff,reduceAdd,reduceLeDiff,d1,d2])
   first | exact ⟨rfl,k2⟩ | exact k2
  ·have d2:decide (at_<0)=false:=decide_eq_false c1;by_cases c2:(t.vals.length:Int)<=at_
   ·have d3:decide ((t.vals.length:Int)<=at_)=true:=decide_eq_true c2;rw [if_pos (Or.inr c2),if_neg (by omega)]
    (repeat simp -dsimp -implicitDefEqProofs only [↓rP,rB,↓reduceIte,reduceEqDiff,reduceAdd,reduceLeDiff,d1,d2,r1,zmi ht,hc,d3])
    first | exact ⟨rfl,k2⟩ | exact k2
   ·have d3:decide ((t.vals.length:Int)<=at_)=false:=decide_eq_false c2;rw [if_neg (by omega),if_pos rfl]
    (repeat simp -dsimp -implicitDefEqProofs only [↓rP,rB,↓reduceIte,reduceEqDiff,reduceAdd,reduceLeDiff,d1,d2,r1,zmi ht,hc,d3])
    first | exact ⟨rfl,k2⟩ | exact k2
theorem cell_is {ts:List Rt} {r:Nat} {at_:Int} (h:zdm (lk (ts.map Rt.rf) r) at_=0):∃ (i q:Nat) (t:Rt),fnd (ts.map Rt.rf) r=some i/\ts[i]?=some t/\t.ref=r/\lk (ts.map Rt.rf) r=some t.rf.t/\at_=q/\q<t.vals.length/\cellI ts r at_=i:=by
 cases hf:fnd (ts.map Rt.rf) r with
 | none=>rw [znf hf] at h;simp [zdm] at h
 | some i=>
  obtain ⟨t,ht,hr,hl⟩:=zjj hf;have hh:=h;rw [hl] at h;simp only [zdm] at h;split at h
  ·omega
  ·rename_i hn;have hn':¬ (at_<0\/(t.vals.length:Int)<=at_):=hn;refine ⟨i,at_.toNat,t,rfl,ht,hr,hl,by omega,by omega,?_⟩;unfold cellI fndI;rw [if_pos hh,hf]
theorem RfAt.turn {h:z00} {F:Nat->Prop} {j:Nat} {ts:List Rt} {GL:AV} (p:RfAt h F j ts GL) {i:Nat} {t:Rt} (ht:ts[i]?=some t) (vs:List Nat) (hv:vs.length=t.vals.length) :
  RfAt (h.put t.id (.row 65 (z0u vs))) F j (ts.set i { t with vals:=vs }) GL:=by
 obtain ⟨g,hg⟩:=p.row;have htm:=p.cells t (List.mem_of_getElem? ht);have hi:j≠t.id:=by
  intro e;have:=htm.2;rw [<-e,hg] at this;cases this
 have hm:z6y (ts.set i { t with vals:=vs }) g=z6y ts g:=by
  have hm:=zb3 Rt.cells (u:={ t with vals:=vs }) ht (by simp [Rt.cells,hv])
  cases ts with
  | nil=>simp at ht
  | cons a l=>cases i <;> simpa [z6y] using hm
 have back:∀ (a:Nat) (u:Rt),(ts.set i { t with vals:=vs })[a]?=some u->∃ u0,ts[a]?=some u0/\u.id=u0.id/\u.ref=u0.ref/\((a=i/\u={ t with vals:=vs })\/(a≠i/\u=u0)):=by
  intro a u ha;rw [List.getElem?_set] at ha;split at ha
  ·rename_i e;subst e;split at ha
   ·cases ha;exact ⟨t,ht,rfl,rfl,Or.inl ⟨rfl,rfl⟩⟩
   ·cases ha
  ·rename_i e;exact ⟨u,ha,rfl,rfl,Or.inr ⟨λx=>e x.symm,rfl⟩⟩
 refine ⟨p.own,p.lt,⟨g,?_⟩,λu hu=>?_,λa b u v ha hb hid=>?_,by simpa using p.len,λu hu=>?_⟩
 ·simp only [z00.z1u,if_neg hi,hm];exact hg
 ·obtain ⟨a,ha⟩:=List.mem_iff_getElem?.1 hu;obtain ⟨u0,h1,h2,_,h3⟩:=back a u ha;have hu0:=p.cells u0 (List.mem_of_getElem? h1);rcases h3 with ⟨rfl,rfl⟩ | ⟨h3,rfl⟩
  ·exact ⟨htm.1,by simp⟩
  ·refine ⟨hu0.1,?_⟩;simp only [z00.z1u];rw [if_neg]
   ·exact hu0.2
   ·intro e;exact h3 (p.dist a i u t h1 ht e)
 ·obtain ⟨u0,h1,h2,_⟩:=back a u ha;obtain ⟨v0,k1,k2,_⟩:=back b v hb;exact p.dist a b u0 v0 h1 k1 (by rw [<-h2,<-k2,hid])
 ·obtain ⟨a,ha⟩:=List.mem_iff_getElem?.1 hu;obtain ⟨u0,h1,h2,h4,h3⟩:=back a u ha;rw [h4];exact p.refs u0 (List.mem_of_getElem? h1)
def setM (ts:List Rt) (r:Nat) (at_:Int) (v:Nat):List Rt:=
 match fnd (ts.map Rt.rf) r with
 | none=>ts
 | some i=>match ts[i]? with
  | none=>ts
  | some t=>if at_<0\/(t.vals.length:Int)<=at_ then ts else ts.set i { t with vals:=t.vals.set at_.toNat v }
theorem setM_bad {ts:List Rt} {r:Nat} {at_:Int} {v:Nat} (h:zdm (lk (ts.map Rt.rf) r) at_≠0):setM ts r at_ v=ts:=by
 unfold setM
 cases hf:fnd (ts.map Rt.rf) r with
 | none=>rfl
 | some i=>
  obtain ⟨t,ht,hr,hl⟩:=zjj hf;rw [hl] at h;simp only [zdm] at h;simp only [ht];split
  ·rfl
  ·rename_i hn;exact absurd (if_neg (show ¬ (at_<0\/(t.rf.t.vals.length:Int)<=at_) from hn)) h
theorem zw2 {h:z00} {F:Nat->Prop} {j:Nat} {ts:List Rt} {GL:AV} (p:RfAt h F j ts GL) (r:Nat) (at_:Int) (v:Nat) :
  z01 Tryz.prog 39 [.ptr j 0,.int .u64 (r:Int),.int .i64 at_,.int .u64 (v:Int)] h (λw h2=>w=.int .i64 (zdm (lk (ts.map Rt.rf) r) at_)/\RfAt h2 F j (setM ts r at_ v) GL/\Keeps h h2 F):=by
 apply zdc;refine (zkp p r at_).mono ?_;rintro _ h2 ⟨rfl,k2⟩;have p2:=p.keeps k2 (λ_ _ h=>h);obtain ⟨g,hg⟩:=p2.row;have r1:∀ K,z0r none (.ptr j 1) h2 K=K (z6y ts g):=λK=>by rw [z02 hg,pCells_none];rfl
 by_cases hz:zdm (lk (ts.map Rt.rf) r) at_=0
 ·obtain ⟨i,q,t,hf,ht,hr,hl,rfl,hq,hi⟩:=cell_is hz;have htm:=p2.cells t (List.mem_of_getElem? ht);have hc:t.cells=[.int .u64 (t.ref:Int),.int .i64 t.site,.int .i64 t.cls,.sl t.id 0 t.vals.length 1]:=rfl;have hs:setM ts r q v=ts.set i { t with vals:=t.vals.set q v }:=by
   unfold setM;simp only [hf,ht];rw [if_neg (by omega),Int.toNat_natCast]
  have z:((0:Int) == 0)=true:=rfl;rw [hz,hi,hs];have hix:∀ K,z0d (.slice 1) (.sl t.id 0 t.vals.length 1) (.int .i64 (q:Int)) K=K (.ptr t.id q):=λK=>by simp [z0d];omega
  (repeat simp -dsimp -implicitDefEqProofs only [↓rP,rB,↓reduceIte,reduceEqDiff,reduceAdd,reduceLeDiff,z,r1,zmi ht,hc,hix])
  rw [z1g htm.2 rfl (by simpa using hq),z7q];have pt:=p2.turn ht (t.vals.set q v) (by simp);have kk:Keeps h (h2.put t.id (.row 65 (z0u (t.vals.set q v)))) F:=(k2.mono (λ_ h=>h.elim)).trans ((Keeps.put _ _ _).mono (λx hx=>by subst hx;exact htm.1)) (λ_ _ h=>h)
  first | exact ⟨rfl,pt,kk⟩ | exact ⟨pt,kk⟩
 ·have z:(zdm (lk (ts.map Rt.rf) r) at_ == 0)=false:=by simp [hz]
  rw [setM_bad hz]
  (repeat simp -dsimp -implicitDefEqProofs only [↓rP,rB,↓reduceIte,reduceEqDiff,reduceAdd,reduceLeDiff,z])
  first | exact ⟨rfl,p2,k2.mono (λ_ h=>h.elim)⟩ | exact ⟨p2,k2.mono (λ_ h=>h.elim)⟩
def getL (o:Option Vw) (at_:Int):AV:=match o with
 | none=>.tup [.int .u64 0,.int .i64 2]
 | some t=>if at_<0\/(t.vals.length:Int)<=at_ then .tup [.int .u64 0,.int .i64 3] else .tup [.int .u64 ((t.vals.getD at_.toNat 0:Nat):Int),.int .i64 0]
theorem getL_bad {o:Option Vw} {at_:Int} (h:zdm o at_≠0):getL o at_=.tup [.int .u64 0,.int .i64 (zdm o at_)]:=by
 unfold zdm getL at *
 cases o with
 | none=>rfl
 | some t=>
  simp only at h ⊢;split
  ·rfl
  ·rename_i hn;exact absurd (if_neg hn) h
theorem zvz {h:z00} {F:Nat->Prop} {j:Nat} {ts:List Rt} {GL:AV} (p:RfAt h F j ts GL) (r:Nat) (at_:Int) :
  z01 Tryz.prog 38 [.ptr j 0,.int .u64 (r:Int),.int .i64 at_] h (λw h2=>w=getL (lk (ts.map Rt.rf) r) at_/\Keeps h h2 (λ_=>False)):=by
 apply zdb;refine (zkp p r at_).mono ?_;rintro _ h2 ⟨rfl,k2⟩;have p2:=p.keeps k2 (λ_ _ h=>h);obtain ⟨g,hg⟩:=p2.row;have r1:∀ K,z0r none (.ptr j 1) h2 K=K (z6y ts g):=λK=>by rw [z02 hg,pCells_none];rfl
 by_cases hz:zdm (lk (ts.map Rt.rf) r) at_=0
 ·obtain ⟨i,q,t,hf,ht,hr,hl,rfl,hq,hi⟩:=cell_is hz;have htm:=p2.cells t (List.mem_of_getElem? ht);have hc:t.cells=[.int .u64 (t.ref:Int),.int .i64 t.site,.int .i64 t.cls,.sl t.id 0 t.vals.length 1]:=rfl;have z:((0:Int) != 0)=false:=rfl;have hgl:getL (lk (ts.map Rt.rf) r) q=.tup [.int .u64 ((t.vals.getD q 0:Nat):Int),.int .i64 0]:=by
   rw [hl];simp only [getL];rw [if_neg (show ¬ ((q:Int)<0\/(t.rf.t.vals.length:Int)<=q) by have:t.rf.t.vals=t.vals:=rfl;rw [this];omega),Int.toNat_natCast]
   rfl
  rw [hz,hi,hgl];have hix:∀ K,z0d (.slice 1) (.sl t.id 0 t.vals.length 1) (.int .i64 (q:Int)) K=K (.ptr t.id q):=λK=>by simp [z0d];omega
  have hld:∀ K,z0r none (.ptr t.id q) h2 K=K (.int .u64 ((t.vals.getD q 0:Nat):Int)):=λK=>by rw [z02 htm.2,pCells_none,valCells_get _ _ hq]
  (repeat simp -dsimp -implicitDefEqProofs only [↓rP,rB,↓reduceIte,reduceEqDiff,reduceAdd,reduceLeDiff,z,r1,zmi ht,hc,hix,hld])
  first | exact ⟨rfl,k2⟩ | exact k2
 ·have z:(zdm (lk (ts.map Rt.rf) r) at_ != 0)=true:=by simp [hz]
  rw [getL_bad hz]
  (repeat simp -dsimp -implicitDefEqProofs only [↓rP,rB,↓reduceIte,reduceEqDiff,reduceAdd,reduceLeDiff,z])
  first | exact ⟨rfl,k2⟩ | exact k2
end
end Go.Proofs.YtjlogcfggfmacaaGreat
