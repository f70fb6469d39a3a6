/- Own texts, merged: CdRefI1, CdRefI2, CdRefI3, CdRefI4, CdRefI, CdRefG, CdRefH, CdRefS, CdBoth, CdEqu, ClMath, ClBits, PtSpec, PtLess. -/
import Derived.Test.YtopfjochppdnfaaDoorM6
set_option linter.unusedVariables false
set_option linter.unusedSimpArgs false
section
/- What the document's instr computes, kind by kind. -/
set_option maxRecDepth 100000
set_option maxHeartbeats 4000000
namespace Go.Proofs.YtopfjochppdnfaaDoor
open Go.Abs
theorem ri_1 (c : Cd) (hc : c.ok) (hs : (slL c.Sections).length ≤ 1000000) (t a : Int) (b : Bd) (x : In) (hb : getI (slL c.Threads) t = some b) (hx : getI (slL b.Code) a = some x) (hsl : ∀ l ∈ slL b.Slots, localB c l = true)
    (hn : okI (slL b.Slots).length) (hit : okSl Api_Item.ok x.Items) (hix : okSl Api_Item.ok x.Index) (hitl : (slL x.Items).length ≤ 1000000) (hixl : (slL x.Index).length ≤ 1000000) (hcl : (slL b.Code).length ≤ 1000000) (hop : x.Op = 1) (h : AHeap) :
    CallsA Tryd.prog 39 [.agg c.cells, .int .i64 t, .int .i64 a] h (fun v h2 => v = .bool (instrB c t b x a && (decide (x.Op = 17) == decide (a = (slL b.Code).length - 1))) ∧ Keeps h h2 (fun _ => False)) := by
  have kind : ∀ n : Int, btw n (slL b.Slots).length = true → ((gD b.Slots n).Kind = 1 ∨ (gD b.Slots n).Kind = 3) → (gD b.Slots n).Rec = 0 := fun n hq hk => by
    have := hsl _ (getI_mem (gD_some hq))
    unfold localB at this
    rw [if_neg (by omega)] at this
    simp only [Bool.and_eq_true, decide_eq_true_eq] at this
    exact this.2
  have hl := hasS_len 1
  have nq : (hasS 1 == [63]) = false := rfl
  have f100 : (hasS 1).contains 100 = true := rfl
  have f115 : (hasS 1).contains 115 = false := rfl
  have f114 : (hasS 1).contains 114 = false := rfl
  have f110 : (hasS 1).contains 110 = false := rfl
  have f116 : (hasS 1).contains 116 = false := rfl
  have f105 : (hasS 1).contains 105 = true := rfl
  have f120 : (hasS 1).contains 120 = false := rfl
  have wl : IntKind.i64.wrap (((slL b.Code).length : Int) - 1) = ((slL b.Code).length : Int) - 1 := wrapI (by omega) (by omega)
  apply padlockref09_instr_wp
  (repeat (first | simp -dsimp -implicitDefEqProofs (disch := omega) only [↓rP, rQ, rO, rL, ↓reduceIte, Nat.reduceEqDiff, Nat.reduceAdd, Nat.reduceLeDiff, pBuild, fillA, ↓tyr, ixI hb, ixI hx] | refine Cut.go ?_))
  have e2 : (h.push (.row 51 b.cells)).next = h.next + 1 := rfl
  have o1 : ((h.push (.row 51 b.cells)).push (.row 58 x.cells)).objs h.next = some (.row 51 b.cells) := by simp
  have o2 : ((h.push (.row 51 b.cells)).push (.row 58 x.cells)).objs (h.next + 1) = some (.row 58 x.cells) := by simp
  have nx : ((h.push (.row 51 b.cells)).push (.row 58 x.cells)).next = h.next + 2 := rfl
  have kH : Keeps h ((h.push (.row 51 b.cells)).push (.row 58 x.cells)) (fun _ => False) := (Keeps.one _ _).go (Keeps.one _ _)
  rw [e2]
  generalize ((h.push (.row 51 b.cells)).push (.row 58 x.cells)) = H at *
  simp only [hop]
  obtain ⟨l1, l2, g0, g1, std, dd0, dd1, dd3, sts, ss0, ss1, ss4, stds, ds0, ds1, ds3, ds4, px, pd, qx, kDSp, kSp, kG, kD, kS, kDS⟩ := ri_facts o1 o2 nx kH
  refine CallsA.go (ref_Has_does 1 _) ?_
  repeat' (first | (simp -dsimp -implicitDefEqProofs only [↓rP, rQ, rL, ↓reduceIte, Nat.reduceEqDiff, Nat.reduceAdd, Nat.reduceLeDiff, pBuild, fillA, ↓tyr, Int.reduceBEq, Int.reduceBNe, Int.reduceLT, Int.reduceLE, decide_true, decide_false, f100, f115, f114, f110, f116, f105, f120, nq, hop, ↓l1, ↓l2, wl, ixI hb, ixI hx, ↓g0, ↓g1, ↓std, ↓dd0, ↓dd1, ↓dd3, ↓sts, ↓ss0, ↓ss1, ↓ss4, ↓stds, ↓ds0, ↓ds1, ↓ds3, ↓ds4, ↓px, ↓pd, ↓qx]) | with_reducible refine Cut.go ?_ | with_reducible refine CallsA.go (has_100 _ hl _) ?_ | with_reducible refine CallsA.go (has_115 _ hl _) ?_ | with_reducible refine CallsA.go (has_114 _ hl _) ?_ | with_reducible refine CallsA.go (has_110 _ hl _) ?_ | with_reducible refine CallsA.go (has_116 _ hl _) ?_ | with_reducible refine CallsA.go (has_105 _ hl _) ?_ | with_reducible refine CallsA.go (has_120 _ hl _) ?_ | with_reducible refine CallsA.go (ref_in_does _ _ _) ?_ | with_reducible refine CallsA.go (ref_Inside_p c hs _ _ _) ?_ | with_reducible refine CallsA.go (ref_Good_does _ hn _ hit hitl _) ?_ | with_reducible refine CallsA.go (ref_Good_does _ hn _ hix hixl _) ?_ | with_reducible refine ixB_go (by assumption) ?_ | unfold padlockref09_instr_wp_p1 | unfold padlockref09_instr_wp_p2 | unfold padlockref09_instr_wp_p3 | unfold padlockref09_instr_wp_p4 | unfold padlockref09_instr_wp_p5 | (with_reducible refine Split.intro (fun hq => ?_) (fun hq => ?_) <;> (try simp only [Bool.not_eq_true', Bool.not_eq_false'] at hq) <;> (try rw [hq])))
  all_goals clear l1 l2 g0 g1 std dd0 dd1 dd3 sts ss0 ss1 ss4 stds ds0 ds1 ds3 ds4 px pd qx o1 o2
  all_goals refine And.intro (congrArg AV.bool ?_) (by first | exact kH | exact kG | exact kD _ | exact kS _ | exact kDS _ _ | exact kDSp _ _ _ | exact kSp _ _)
  all_goals clear kH kG kD kS kDS kDSp kSp nx wl nq hl f100 f115 f114 f110 f116 f105 f120 e2 hb hx hcl hixl hitl hix hit hn hs hc
  all_goals have kd := kind x.Dst
  all_goals have ks := kind x.Src
  all_goals clear kind
  all_goals clear hsl
  all_goals simp_all [fieldO_eq, instrB, loadsB, storesB, borderB, plainB, goesB, itemsB, siteB, sameB, isB_btw, isB_not, List.length_pos_iff, gD_some, getI_no, site_iff]
  all_goals try omega
  all_goals try (rw [Bool.eq_iff_iff]; simp_all [beqI]; try omega)
  all_goals try (split <;> simp_all)
  all_goals try omega
theorem ri_11 (c : Cd) (hc : c.ok) (hs : (slL c.Sections).length ≤ 1000000) (t a : Int) (b : Bd) (x : In) (hb : getI (slL c.Threads) t = some b) (hx : getI (slL b.Code) a = some x) (hsl : ∀ l ∈ slL b.Slots, localB c l = true)
    (hn : okI (slL b.Slots).length) (hit : okSl Api_Item.ok x.Items) (hix : okSl Api_Item.ok x.Index) (hitl : (slL x.Items).length ≤ 1000000) (hixl : (slL x.Index).length ≤ 1000000) (hcl : (slL b.Code).length ≤ 1000000) (hop : x.Op = 11) (h : AHeap) :
    CallsA Tryd.prog 39 [.agg c.cells, .int .i64 t, .int .i64 a] h (fun v h2 => v = .bool (instrB c t b x a && (decide (x.Op = 17) == decide (a = (slL b.Code).length - 1))) ∧ Keeps h h2 (fun _ => False)) := by
  have kind : ∀ n : Int, btw n (slL b.Slots).length = true → ((gD b.Slots n).Kind = 1 ∨ (gD b.Slots n).Kind = 3) → (gD b.Slots n).Rec = 0 := fun n hq hk => by
    have := hsl _ (getI_mem (gD_some hq))
    unfold localB at this
    rw [if_neg (by omega)] at this
    simp only [Bool.and_eq_true, decide_eq_true_eq] at this
    exact this.2
  have hl := hasS_len 11
  have nq : (hasS 11 == [63]) = false := rfl
  have f100 : (hasS 11).contains 100 = false := rfl
  have f115 : (hasS 11).contains 115 = false := rfl
  have f114 : (hasS 11).contains 114 = false := rfl
  have f110 : (hasS 11).contains 110 = false := rfl
  have f116 : (hasS 11).contains 116 = false := rfl
  have f105 : (hasS 11).contains 105 = true := rfl
  have f120 : (hasS 11).contains 120 = false := rfl
  have wl : IntKind.i64.wrap (((slL b.Code).length : Int) - 1) = ((slL b.Code).length : Int) - 1 := wrapI (by omega) (by omega)
  apply padlockref09_instr_wp
  (repeat (first | simp -dsimp -implicitDefEqProofs (disch := omega) only [↓rP, rQ, rO, rL, ↓reduceIte, Nat.reduceEqDiff, Nat.reduceAdd, Nat.reduceLeDiff, pBuild, fillA, ↓tyr, ixI hb, ixI hx] | refine Cut.go ?_))
  have e2 : (h.push (.row 51 b.cells)).next = h.next + 1 := rfl
  have o1 : ((h.push (.row 51 b.cells)).push (.row 58 x.cells)).objs h.next = some (.row 51 b.cells) := by simp
  have o2 : ((h.push (.row 51 b.cells)).push (.row 58 x.cells)).objs (h.next + 1) = some (.row 58 x.cells) := by simp
  have nx : ((h.push (.row 51 b.cells)).push (.row 58 x.cells)).next = h.next + 2 := rfl
  have kH : Keeps h ((h.push (.row 51 b.cells)).push (.row 58 x.cells)) (fun _ => False) := (Keeps.one _ _).go (Keeps.one _ _)
  rw [e2]
  generalize ((h.push (.row 51 b.cells)).push (.row 58 x.cells)) = H at *
  simp only [hop]
  obtain ⟨l1, l2, g0, g1, std, dd0, dd1, dd3, sts, ss0, ss1, ss4, stds, ds0, ds1, ds3, ds4, px, pd, qx, kDSp, kSp, kG, kD, kS, kDS⟩ := ri_facts o1 o2 nx kH
  refine CallsA.go (ref_Has_does 11 _) ?_
  repeat' (first | (simp -dsimp -implicitDefEqProofs only [↓rP, rQ, rL, ↓reduceIte, Nat.reduceEqDiff, Nat.reduceAdd, Nat.reduceLeDiff, pBuild, fillA, ↓tyr, Int.reduceBEq, Int.reduceBNe, Int.reduceLT, Int.reduceLE, decide_true, decide_false, f100, f115, f114, f110, f116, f105, f120, nq, hop, ↓l1, ↓l2, wl, ixI hb, ixI hx, ↓g0, ↓g1, ↓std, ↓dd0, ↓dd1, ↓dd3, ↓sts, ↓ss0, ↓ss1, ↓ss4, ↓stds, ↓ds0, ↓ds1, ↓ds3, ↓ds4, ↓px, ↓pd, ↓qx]) | with_reducible refine Cut.go ?_ | with_reducible refine CallsA.go (has_100 _ hl _) ?_ | with_reducible refine CallsA.go (has_115 _ hl _) ?_ | with_reducible refine CallsA.go (has_114 _ hl _) ?_ | with_reducible refine CallsA.go (has_110 _ hl _) ?_ | with_reducible refine CallsA.go (has_116 _ hl _) ?_ | with_reducible refine CallsA.go (has_105 _ hl _) ?_ | with_reducible refine CallsA.go (has_120 _ hl _) ?_ | with_reducible refine CallsA.go (ref_in_does _ _ _) ?_ | with_reducible refine CallsA.go (ref_Inside_p c hs _ _ _) ?_ | with_reducible refine CallsA.go (ref_Good_does _ hn _ hit hitl _) ?_ | with_reducible refine CallsA.go (ref_Good_does _ hn _ hix hixl _) ?_ | with_reducible refine ixB_go (by assumption) ?_ | unfold padlockref09_instr_wp_p1 | unfold padlockref09_instr_wp_p2 | unfold padlockref09_instr_wp_p3 | unfold padlockref09_instr_wp_p4 | unfold padlockref09_instr_wp_p5 | (with_reducible refine Split.intro (fun hq => ?_) (fun hq => ?_) <;> (try simp only [Bool.not_eq_true', Bool.not_eq_false'] at hq) <;> (try rw [hq])))
  all_goals clear l1 l2 g0 g1 std dd0 dd1 dd3 sts ss0 ss1 ss4 stds ds0 ds1 ds3 ds4 px pd qx o1 o2
  all_goals refine And.intro (congrArg AV.bool ?_) (by first | exact kH | exact kG | exact kD _ | exact kS _ | exact kDS _ _ | exact kDSp _ _ _ | exact kSp _ _)
  all_goals clear kH kG kD kS kDS kDSp kSp nx wl nq hl f100 f115 f114 f110 f116 f105 f120 e2 hb hx hcl hixl hitl hix hit hn hs hc
  all_goals have kd := kind x.Dst
  all_goals have ks := kind x.Src
  all_goals clear kind
  all_goals clear hsl
  all_goals simp_all [fieldO_eq, instrB, loadsB, storesB, borderB, plainB, goesB, itemsB, siteB, sameB, isB_btw, isB_not, List.length_pos_iff, gD_some, getI_no, site_iff]
  all_goals try omega
  all_goals try (rw [Bool.eq_iff_iff]; simp_all [beqI]; try omega)
  all_goals try (split <;> simp_all)
  all_goals try omega
theorem ri_12 (c : Cd) (hc : c.ok) (hs : (slL c.Sections).length ≤ 1000000) (t a : Int) (b : Bd) (x : In) (hb : getI (slL c.Threads) t = some b) (hx : getI (slL b.Code) a = some x) (hsl : ∀ l ∈ slL b.Slots, localB c l = true)
    (hn : okI (slL b.Slots).length) (hit : okSl Api_Item.ok x.Items) (hix : okSl Api_Item.ok x.Index) (hitl : (slL x.Items).length ≤ 1000000) (hixl : (slL x.Index).length ≤ 1000000) (hcl : (slL b.Code).length ≤ 1000000) (hop : x.Op = 12) (h : AHeap) :
    CallsA Tryd.prog 39 [.agg c.cells, .int .i64 t, .int .i64 a] h (fun v h2 => v = .bool (instrB c t b x a && (decide (x.Op = 17) == decide (a = (slL b.Code).length - 1))) ∧ Keeps h h2 (fun _ => False)) := by
  have kind : ∀ n : Int, btw n (slL b.Slots).length = true → ((gD b.Slots n).Kind = 1 ∨ (gD b.Slots n).Kind = 3) → (gD b.Slots n).Rec = 0 := fun n hq hk => by
    have := hsl _ (getI_mem (gD_some hq))
    unfold localB at this
    rw [if_neg (by omega)] at this
    simp only [Bool.and_eq_true, decide_eq_true_eq] at this
    exact this.2
  have hl := hasS_len 12
  have nq : (hasS 12 == [63]) = false := rfl
  have f100 : (hasS 12).contains 100 = false := rfl
  have f115 : (hasS 12).contains 115 = false := rfl
  have f114 : (hasS 12).contains 114 = false := rfl
  have f110 : (hasS 12).contains 110 = false := rfl
  have f116 : (hasS 12).contains 116 = false := rfl
  have f105 : (hasS 12).contains 105 = true := rfl
  have f120 : (hasS 12).contains 120 = false := rfl
  have wl : IntKind.i64.wrap (((slL b.Code).length : Int) - 1) = ((slL b.Code).length : Int) - 1 := wrapI (by omega) (by omega)
  apply padlockref09_instr_wp
  (repeat (first | simp -dsimp -implicitDefEqProofs (disch := omega) only [↓rP, rQ, rO, rL, ↓reduceIte, Nat.reduceEqDiff, Nat.reduceAdd, Nat.reduceLeDiff, pBuild, fillA, ↓tyr, ixI hb, ixI hx] | refine Cut.go ?_))
  have e2 : (h.push (.row 51 b.cells)).next = h.next + 1 := rfl
  have o1 : ((h.push (.row 51 b.cells)).push (.row 58 x.cells)).objs h.next = some (.row 51 b.cells) := by simp
  have o2 : ((h.push (.row 51 b.cells)).push (.row 58 x.cells)).objs (h.next + 1) = some (.row 58 x.cells) := by simp
  have nx : ((h.push (.row 51 b.cells)).push (.row 58 x.cells)).next = h.next + 2 := rfl
  have kH : Keeps h ((h.push (.row 51 b.cells)).push (.row 58 x.cells)) (fun _ => False) := (Keeps.one _ _).go (Keeps.one _ _)
  rw [e2]
  generalize ((h.push (.row 51 b.cells)).push (.row 58 x.cells)) = H at *
  simp only [hop]
  obtain ⟨l1, l2, g0, g1, std, dd0, dd1, dd3, sts, ss0, ss1, ss4, stds, ds0, ds1, ds3, ds4, px, pd, qx, kDSp, kSp, kG, kD, kS, kDS⟩ := ri_facts o1 o2 nx kH
  refine CallsA.go (ref_Has_does 12 _) ?_
  repeat' (first | (simp -dsimp -implicitDefEqProofs only [↓rP, rQ, rL, ↓reduceIte, Nat.reduceEqDiff, Nat.reduceAdd, Nat.reduceLeDiff, pBuild, fillA, ↓tyr, Int.reduceBEq, Int.reduceBNe, Int.reduceLT, Int.reduceLE, decide_true, decide_false, f100, f115, f114, f110, f116, f105, f120, nq, hop, ↓l1, ↓l2, wl, ixI hb, ixI hx, ↓g0, ↓g1, ↓std, ↓dd0, ↓dd1, ↓dd3, ↓sts, ↓ss0, ↓ss1, ↓ss4, ↓stds, ↓ds0, ↓ds1, ↓ds3, ↓ds4, ↓px, ↓pd, ↓qx]) | with_reducible refine Cut.go ?_ | with_reducible refine CallsA.go (has_100 _ hl _) ?_ | with_reducible refine CallsA.go (has_115 _ hl _) ?_ | with_reducible refine CallsA.go (has_114 _ hl _) ?_ | with_reducible refine CallsA.go (has_110 _ hl _) ?_ | with_reducible refine CallsA.go (has_116 _ hl _) ?_ | with_reducible refine CallsA.go (has_105 _ hl _) ?_ | with_reducible refine CallsA.go (has_120 _ hl _) ?_ | with_reducible refine CallsA.go (ref_in_does _ _ _) ?_ | with_reducible refine CallsA.go (ref_Inside_p c hs _ _ _) ?_ | with_reducible refine CallsA.go (ref_Good_does _ hn _ hit hitl _) ?_ | with_reducible refine CallsA.go (ref_Good_does _ hn _ hix hixl _) ?_ | with_reducible refine ixB_go (by assumption) ?_ | unfold padlockref09_instr_wp_p1 | unfold padlockref09_instr_wp_p2 | unfold padlockref09_instr_wp_p3 | unfold padlockref09_instr_wp_p4 | unfold padlockref09_instr_wp_p5 | (with_reducible refine Split.intro (fun hq => ?_) (fun hq => ?_) <;> (try simp only [Bool.not_eq_true', Bool.not_eq_false'] at hq) <;> (try rw [hq])))
  all_goals clear l1 l2 g0 g1 std dd0 dd1 dd3 sts ss0 ss1 ss4 stds ds0 ds1 ds3 ds4 px pd qx o1 o2
  all_goals refine And.intro (congrArg AV.bool ?_) (by first | exact kH | exact kG | exact kD _ | exact kS _ | exact kDS _ _ | exact kDSp _ _ _ | exact kSp _ _)
  all_goals clear kH kG kD kS kDS kDSp kSp nx wl nq hl f100 f115 f114 f110 f116 f105 f120 e2 hb hx hcl hixl hitl hix hit hn hs hc
  all_goals have kd := kind x.Dst
  all_goals have ks := kind x.Src
  all_goals clear kind
  all_goals clear hsl
  all_goals simp_all [fieldO_eq, instrB, loadsB, storesB, borderB, plainB, goesB, itemsB, siteB, sameB, isB_btw, isB_not, List.length_pos_iff, gD_some, getI_no, site_iff]
  all_goals try omega
  all_goals try (rw [Bool.eq_iff_iff]; simp_all [beqI]; try omega)
  all_goals try (split <;> simp_all)
  all_goals try omega
theorem ri_13 (c : Cd) (hc : c.ok) (hs : (slL c.Sections).length ≤ 1000000) (t a : Int) (b : Bd) (x : In) (hb : getI (slL c.Threads) t = some b) (hx : getI (slL b.Code) a = some x) (hsl : ∀ l ∈ slL b.Slots, localB c l = true)
    (hn : okI (slL b.Slots).length) (hit : okSl Api_Item.ok x.Items) (hix : okSl Api_Item.ok x.Index) (hitl : (slL x.Items).length ≤ 1000000) (hixl : (slL x.Index).length ≤ 1000000) (hcl : (slL b.Code).length ≤ 1000000) (hop : x.Op = 13) (h : AHeap) :
    CallsA Tryd.prog 39 [.agg c.cells, .int .i64 t, .int .i64 a] h (fun v h2 => v = .bool (instrB c t b x a && (decide (x.Op = 17) == decide (a = (slL b.Code).length - 1))) ∧ Keeps h h2 (fun _ => False)) := by
  have kind : ∀ n : Int, btw n (slL b.Slots).length = true → ((gD b.Slots n).Kind = 1 ∨ (gD b.Slots n).Kind = 3) → (gD b.Slots n).Rec = 0 := fun n hq hk => by
    have := hsl _ (getI_mem (gD_some hq))
    unfold localB at this
    rw [if_neg (by omega)] at this
    simp only [Bool.and_eq_true, decide_eq_true_eq] at this
    exact this.2
  have hl := hasS_len 13
  have nq : (hasS 13 == [63]) = false := rfl
  have f100 : (hasS 13).contains 100 = false := rfl
  have f115 : (hasS 13).contains 115 = false := rfl
  have f114 : (hasS 13).contains 114 = false := rfl
  have f110 : (hasS 13).contains 110 = false := rfl
  have f116 : (hasS 13).contains 116 = true := rfl
  have f105 : (hasS 13).contains 105 = false := rfl
  have f120 : (hasS 13).contains 120 = false := rfl
  have wl : IntKind.i64.wrap (((slL b.Code).length : Int) - 1) = ((slL b.Code).length : Int) - 1 := wrapI (by omega) (by omega)
  apply padlockref09_instr_wp
  (repeat (first | simp -dsimp -implicitDefEqProofs (disch := omega) only [↓rP, rQ, rO, rL, ↓reduceIte, Nat.reduceEqDiff, Nat.reduceAdd, Nat.reduceLeDiff, pBuild, fillA, ↓tyr, ixI hb, ixI hx] | refine Cut.go ?_))
  have e2 : (h.push (.row 51 b.cells)).next = h.next + 1 := rfl
  have o1 : ((h.push (.row 51 b.cells)).push (.row 58 x.cells)).objs h.next = some (.row 51 b.cells) := by simp
  have o2 : ((h.push (.row 51 b.cells)).push (.row 58 x.cells)).objs (h.next + 1) = some (.row 58 x.cells) := by simp
  have nx : ((h.push (.row 51 b.cells)).push (.row 58 x.cells)).next = h.next + 2 := rfl
  have kH : Keeps h ((h.push (.row 51 b.cells)).push (.row 58 x.cells)) (fun _ => False) := (Keeps.one _ _).go (Keeps.one _ _)
  rw [e2]
  generalize ((h.push (.row 51 b.cells)).push (.row 58 x.cells)) = H at *
  simp only [hop]
  obtain ⟨l1, l2, g0, g1, std, dd0, dd1, dd3, sts, ss0, ss1, ss4, stds, ds0, ds1, ds3, ds4, px, pd, qx, kDSp, kSp, kG, kD, kS, kDS⟩ := ri_facts o1 o2 nx kH
  refine CallsA.go (ref_Has_does 13 _) ?_
  repeat' (first | (simp -dsimp -implicitDefEqProofs only [↓rP, rQ, rL, ↓reduceIte, Nat.reduceEqDiff, Nat.reduceAdd, Nat.reduceLeDiff, pBuild, fillA, ↓tyr, Int.reduceBEq, Int.reduceBNe, Int.reduceLT, Int.reduceLE, decide_true, decide_false, f100, f115, f114, f110, f116, f105, f120, nq, hop, ↓l1, ↓l2, wl, ixI hb, ixI hx, ↓g0, ↓g1, ↓std, ↓dd0, ↓dd1, ↓dd3, ↓sts, ↓ss0, ↓ss1, ↓ss4, ↓stds, ↓ds0, ↓ds1, ↓ds3, ↓ds4, ↓px, ↓pd, ↓qx]) | with_reducible refine Cut.go ?_ | with_reducible refine CallsA.go (has_100 _ hl _) ?_ | with_reducible refine CallsA.go (has_115 _ hl _) ?_ | with_reducible refine CallsA.go (has_114 _ hl _) ?_ | with_reducible refine CallsA.go (has_110 _ hl _) ?_ | with_reducible refine CallsA.go (has_116 _ hl _) ?_ | with_reducible refine CallsA.go (has_105 _ hl _) ?_ | with_reducible refine CallsA.go (has_120 _ hl _) ?_ | with_reducible refine CallsA.go (ref_in_does _ _ _) ?_ | with_reducible refine CallsA.go (ref_Inside_p c hs _ _ _) ?_ | with_reducible refine CallsA.go (ref_Good_does _ hn _ hit hitl _) ?_ | with_reducible refine CallsA.go (ref_Good_does _ hn _ hix hixl _) ?_ | with_reducible refine ixB_go (by assumption) ?_ | unfold padlockref09_instr_wp_p1 | unfold padlockref09_instr_wp_p2 | unfold padlockref09_instr_wp_p3 | unfold padlockref09_instr_wp_p4 | unfold padlockref09_instr_wp_p5 | (with_reducible refine Split.intro (fun hq => ?_) (fun hq => ?_) <;> (try simp only [Bool.not_eq_true', Bool.not_eq_false'] at hq) <;> (try rw [hq])))
  all_goals clear l1 l2 g0 g1 std dd0 dd1 dd3 sts ss0 ss1 ss4 stds ds0 ds1 ds3 ds4 px pd qx o1 o2
  all_goals refine And.intro (congrArg AV.bool ?_) (by first | exact kH | exact kG | exact kD _ | exact kS _ | exact kDS _ _ | exact kDSp _ _ _ | exact kSp _ _)
  all_goals clear kH kG kD kS kDS kDSp kSp nx wl nq hl f100 f115 f114 f110 f116 f105 f120 e2 hb hx hcl hixl hitl hix hit hn hs hc
  all_goals have kd := kind x.Dst
  all_goals have ks := kind x.Src
  all_goals clear kind
  all_goals clear hsl
  all_goals simp_all [fieldO_eq, instrB, loadsB, storesB, borderB, plainB, goesB, itemsB, siteB, sameB, isB_btw, isB_not, List.length_pos_iff, gD_some, getI_no, site_iff]
  all_goals try omega
  all_goals try (rw [Bool.eq_iff_iff]; simp_all [beqI]; try omega)
  all_goals try (split <;> simp_all)
  all_goals try omega
theorem ri_14 (c : Cd) (hc : c.ok) (hs : (slL c.Sections).length ≤ 1000000) (t a : Int) (b : Bd) (x : In) (hb : getI (slL c.Threads) t = some b) (hx : getI (slL b.Code) a = some x) (hsl : ∀ l ∈ slL b.Slots, localB c l = true)
    (hn : okI (slL b.Slots).length) (hit : okSl Api_Item.ok x.Items) (hix : okSl Api_Item.ok x.Index) (hitl : (slL x.Items).length ≤ 1000000) (hixl : (slL x.Index).length ≤ 1000000) (hcl : (slL b.Code).length ≤ 1000000) (hop : x.Op = 14) (h : AHeap) :
    CallsA Tryd.prog 39 [.agg c.cells, .int .i64 t, .int .i64 a] h (fun v h2 => v = .bool (instrB c t b x a && (decide (x.Op = 17) == decide (a = (slL b.Code).length - 1))) ∧ Keeps h h2 (fun _ => False)) := by
  have kind : ∀ n : Int, btw n (slL b.Slots).length = true → ((gD b.Slots n).Kind = 1 ∨ (gD b.Slots n).Kind = 3) → (gD b.Slots n).Rec = 0 := fun n hq hk => by
    have := hsl _ (getI_mem (gD_some hq))
    unfold localB at this
    rw [if_neg (by omega)] at this
    simp only [Bool.and_eq_true, decide_eq_true_eq] at this
    exact this.2
  have hl := hasS_len 14
  have nq : (hasS 14 == [63]) = false := rfl
  have f100 : (hasS 14).contains 100 = false := rfl
  have f115 : (hasS 14).contains 115 = false := rfl
  have f114 : (hasS 14).contains 114 = false := rfl
  have f110 : (hasS 14).contains 110 = false := rfl
  have f116 : (hasS 14).contains 116 = true := rfl
  have f105 : (hasS 14).contains 105 = true := rfl
  have f120 : (hasS 14).contains 120 = false := rfl
  have wl : IntKind.i64.wrap (((slL b.Code).length : Int) - 1) = ((slL b.Code).length : Int) - 1 := wrapI (by omega) (by omega)
  apply padlockref09_instr_wp
  (repeat (first | simp -dsimp -implicitDefEqProofs (disch := omega) only [↓rP, rQ, rO, rL, ↓reduceIte, Nat.reduceEqDiff, Nat.reduceAdd, Nat.reduceLeDiff, pBuild, fillA, ↓tyr, ixI hb, ixI hx] | refine Cut.go ?_))
  have e2 : (h.push (.row 51 b.cells)).next = h.next + 1 := rfl
  have o1 : ((h.push (.row 51 b.cells)).push (.row 58 x.cells)).objs h.next = some (.row 51 b.cells) := by simp
  have o2 : ((h.push (.row 51 b.cells)).push (.row 58 x.cells)).objs (h.next + 1) = some (.row 58 x.cells) := by simp
  have nx : ((h.push (.row 51 b.cells)).push (.row 58 x.cells)).next = h.next + 2 := rfl
  have kH : Keeps h ((h.push (.row 51 b.cells)).push (.row 58 x.cells)) (fun _ => False) := (Keeps.one _ _).go (Keeps.one _ _)
  rw [e2]
  generalize ((h.push (.row 51 b.cells)).push (.row 58 x.cells)) = H at *
  simp only [hop]
  obtain ⟨l1, l2, g0, g1, std, dd0, dd1, dd3, sts, ss0, ss1, ss4, stds, ds0, ds1, ds3, ds4, px, pd, qx, kDSp, kSp, kG, kD, kS, kDS⟩ := ri_facts o1 o2 nx kH
  refine CallsA.go (ref_Has_does 14 _) ?_
  repeat' (first | (simp -dsimp -implicitDefEqProofs only [↓rP, rQ, rL, ↓reduceIte, Nat.reduceEqDiff, Nat.reduceAdd, Nat.reduceLeDiff, pBuild, fillA, ↓tyr, Int.reduceBEq, Int.reduceBNe, Int.reduceLT, Int.reduceLE, decide_true, decide_false, f100, f115, f114, f110, f116, f105, f120, nq, hop, ↓l1, ↓l2, wl, ixI hb, ixI hx, ↓g0, ↓g1, ↓std, ↓dd0, ↓dd1, ↓dd3, ↓sts, ↓ss0, ↓ss1, ↓ss4, ↓stds, ↓ds0, ↓ds1, ↓ds3, ↓ds4, ↓px, ↓pd, ↓qx]) | with_reducible refine Cut.go ?_ | with_reducible refine CallsA.go (has_100 _ hl _) ?_ | with_reducible refine CallsA.go (has_115 _ hl _) ?_ | with_reducible refine CallsA.go (has_114 _ hl _) ?_ | with_reducible refine CallsA.go (has_110 _ hl _) ?_ | with_reducible refine CallsA.go (has_116 _ hl _) ?_ | with_reducible refine CallsA.go (has_105 _ hl _) ?_ | with_reducible refine CallsA.go (has_120 _ hl _) ?_ | with_reducible refine CallsA.go (ref_in_does _ _ _) ?_ | with_reducible refine CallsA.go (ref_Inside_p c hs _ _ _) ?_ | with_reducible refine CallsA.go (ref_Good_does _ hn _ hit hitl _) ?_ | with_reducible refine CallsA.go (ref_Good_does _ hn _ hix hixl _) ?_ | with_reducible refine ixB_go (by assumption) ?_ | unfold padlockref09_instr_wp_p1 | unfold padlockref09_instr_wp_p2 | unfold padlockref09_instr_wp_p3 | unfold padlockref09_instr_wp_p4 | unfold padlockref09_instr_wp_p5 | (with_reducible refine Split.intro (fun hq => ?_) (fun hq => ?_) <;> (try simp only [Bool.not_eq_true', Bool.not_eq_false'] at hq) <;> (try rw [hq])))
  all_goals clear l1 l2 g0 g1 std dd0 dd1 dd3 sts ss0 ss1 ss4 stds ds0 ds1 ds3 ds4 px pd qx o1 o2
  all_goals refine And.intro (congrArg AV.bool ?_) (by first | exact kH | exact kG | exact kD _ | exact kS _ | exact kDS _ _ | exact kDSp _ _ _ | exact kSp _ _)
  all_goals clear kH kG kD kS kDS kDSp kSp nx wl nq hl f100 f115 f114 f110 f116 f105 f120 e2 hb hx hcl hixl hitl hix hit hn hs hc
  all_goals have kd := kind x.Dst
  all_goals have ks := kind x.Src
  all_goals clear kind
  all_goals clear hsl
  all_goals simp_all [fieldO_eq, instrB, loadsB, storesB, borderB, plainB, goesB, itemsB, siteB, sameB, isB_btw, isB_not, List.length_pos_iff, gD_some, getI_no, site_iff]
  all_goals try omega
  all_goals try (rw [Bool.eq_iff_iff]; simp_all [beqI]; try omega)
  all_goals try (split <;> simp_all)
  all_goals try omega
theorem ri_17 (c : Cd) (hc : c.ok) (hs : (slL c.Sections).length ≤ 1000000) (t a : Int) (b : Bd) (x : In) (hb : getI (slL c.Threads) t = some b) (hx : getI (slL b.Code) a = some x) (hsl : ∀ l ∈ slL b.Slots, localB c l = true)
    (hn : okI (slL b.Slots).length) (hit : okSl Api_Item.ok x.Items) (hix : okSl Api_Item.ok x.Index) (hitl : (slL x.Items).length ≤ 1000000) (hixl : (slL x.Index).length ≤ 1000000) (hcl : (slL b.Code).length ≤ 1000000) (hop : x.Op = 17) (h : AHeap) :
    CallsA Tryd.prog 39 [.agg c.cells, .int .i64 t, .int .i64 a] h (fun v h2 => v = .bool (instrB c t b x a && (decide (x.Op = 17) == decide (a = (slL b.Code).length - 1))) ∧ Keeps h h2 (fun _ => False)) := by
  have kind : ∀ n : Int, btw n (slL b.Slots).length = true → ((gD b.Slots n).Kind = 1 ∨ (gD b.Slots n).Kind = 3) → (gD b.Slots n).Rec = 0 := fun n hq hk => by
    have := hsl _ (getI_mem (gD_some hq))
    unfold localB at this
    rw [if_neg (by omega)] at this
    simp only [Bool.and_eq_true, decide_eq_true_eq] at this
    exact this.2
  have hl := hasS_len 17
  have nq : (hasS 17 == [63]) = false := rfl
  have f100 : (hasS 17).contains 100 = false := rfl
  have f115 : (hasS 17).contains 115 = false := rfl
  have f114 : (hasS 17).contains 114 = false := rfl
  have f110 : (hasS 17).contains 110 = false := rfl
  have f116 : (hasS 17).contains 116 = false := rfl
  have f105 : (hasS 17).contains 105 = false := rfl
  have f120 : (hasS 17).contains 120 = false := rfl
  have wl : IntKind.i64.wrap (((slL b.Code).length : Int) - 1) = ((slL b.Code).length : Int) - 1 := wrapI (by omega) (by omega)
  apply padlockref09_instr_wp
  (repeat (first | simp -dsimp -implicitDefEqProofs (disch := omega) only [↓rP, rQ, rO, rL, ↓reduceIte, Nat.reduceEqDiff, Nat.reduceAdd, Nat.reduceLeDiff, pBuild, fillA, ↓tyr, ixI hb, ixI hx] | refine Cut.go ?_))
  have e2 : (h.push (.row 51 b.cells)).next = h.next + 1 := rfl
  have o1 : ((h.push (.row 51 b.cells)).push (.row 58 x.cells)).objs h.next = some (.row 51 b.cells) := by simp
  have o2 : ((h.push (.row 51 b.cells)).push (.row 58 x.cells)).objs (h.next + 1) = some (.row 58 x.cells) := by simp
  have nx : ((h.push (.row 51 b.cells)).push (.row 58 x.cells)).next = h.next + 2 := rfl
  have kH : Keeps h ((h.push (.row 51 b.cells)).push (.row 58 x.cells)) (fun _ => False) := (Keeps.one _ _).go (Keeps.one _ _)
  rw [e2]
  generalize ((h.push (.row 51 b.cells)).push (.row 58 x.cells)) = H at *
  simp only [hop]
  obtain ⟨l1, l2, g0, g1, std, dd0, dd1, dd3, sts, ss0, ss1, ss4, stds, ds0, ds1, ds3, ds4, px, pd, qx, kDSp, kSp, kG, kD, kS, kDS⟩ := ri_facts o1 o2 nx kH
  refine CallsA.go (ref_Has_does 17 _) ?_
  repeat' (first | (simp -dsimp -implicitDefEqProofs only [↓rP, rQ, rL, ↓reduceIte, Nat.reduceEqDiff, Nat.reduceAdd, Nat.reduceLeDiff, pBuild, fillA, ↓tyr, Int.reduceBEq, Int.reduceBNe, Int.reduceLT, Int.reduceLE, decide_true, decide_false, f100, f115, f114, f110, f116, f105, f120, nq, hop, ↓l1, ↓l2, wl, ixI hb, ixI hx, ↓g0, ↓g1, ↓std, ↓dd0, ↓dd1, ↓dd3, ↓sts, ↓ss0, ↓ss1, ↓ss4, ↓stds, ↓ds0, ↓ds1, ↓ds3, ↓ds4, ↓px, ↓pd, ↓qx]) | with_reducible refine Cut.go ?_ | with_reducible refine CallsA.go (has_100 _ hl _) ?_ | with_reducible refine CallsA.go (has_115 _ hl _) ?_ | with_reducible refine CallsA.go (has_114 _ hl _) ?_ | with_reducible refine CallsA.go (has_110 _ hl _) ?_ | with_reducible refine CallsA.go (has_116 _ hl _) ?_ | with_reducible refine CallsA.go (has_105 _ hl _) ?_ | with_reducible refine CallsA.go (has_120 _ hl _) ?_ | with_reducible refine CallsA.go (ref_in_does _ _ _) ?_ | with_reducible refine CallsA.go (ref_Inside_p c hs _ _ _) ?_ | with_reducible refine CallsA.go (ref_Good_does _ hn _ hit hitl _) ?_ | with_reducible refine CallsA.go (ref_Good_does _ hn _ hix hixl _) ?_ | with_reducible refine ixB_go (by assumption) ?_ | unfold padlockref09_instr_wp_p1 | unfold padlockref09_instr_wp_p2 | unfold padlockref09_instr_wp_p3 | unfold padlockref09_instr_wp_p4 | unfold padlockref09_instr_wp_p5 | (with_reducible refine Split.intro (fun hq => ?_) (fun hq => ?_) <;> (try simp only [Bool.not_eq_true', Bool.not_eq_false'] at hq) <;> (try rw [hq])))
  all_goals clear l1 l2 g0 g1 std dd0 dd1 dd3 sts ss0 ss1 ss4 stds ds0 ds1 ds3 ds4 px pd qx o1 o2
  all_goals refine And.intro (congrArg AV.bool ?_) (by first | exact kH | exact kG | exact kD _ | exact kS _ | exact kDS _ _ | exact kDSp _ _ _ | exact kSp _ _)
  all_goals clear kH kG kD kS kDS kDSp kSp nx wl nq hl f100 f115 f114 f110 f116 f105 f120 e2 hb hx hcl hixl hitl hix hit hn hs hc
  all_goals have kd := kind x.Dst
  all_goals have ks := kind x.Src
  all_goals clear kind
  all_goals clear hsl
  all_goals simp_all [fieldO_eq, instrB, loadsB, storesB, borderB, plainB, goesB, itemsB, siteB, sameB, isB_btw, isB_not, List.length_pos_iff, gD_some, getI_no, site_iff]
  all_goals try omega
  all_goals try (rw [Bool.eq_iff_iff]; simp_all [beqI]; try omega)
  all_goals try (split <;> simp_all)
  all_goals try omega
end Go.Proofs.YtopfjochppdnfaaDoor
end

section
/- What the document's instr computes, kind by kind. -/
set_option maxRecDepth 100000
set_option maxHeartbeats 4000000
namespace Go.Proofs.YtopfjochppdnfaaDoor
open Go.Abs
theorem ri_2 (c : Cd) (hc : c.ok) (hs : (slL c.Sections).length ≤ 1000000) (t a : Int) (b : Bd) (x : In) (hb : getI (slL c.Threads) t = some b) (hx : getI (slL b.Code) a = some x) (hsl : ∀ l ∈ slL b.Slots, localB c l = true)
    (hn : okI (slL b.Slots).length) (hit : okSl Api_Item.ok x.Items) (hix : okSl Api_Item.ok x.Index) (hitl : (slL x.Items).length ≤ 1000000) (hixl : (slL x.Index).length ≤ 1000000) (hcl : (slL b.Code).length ≤ 1000000) (hop : x.Op = 2) (h : AHeap) :
    CallsA Tryd.prog 39 [.agg c.cells, .int .i64 t, .int .i64 a] h (fun v h2 => v = .bool (instrB c t b x a && (decide (x.Op = 17) == decide (a = (slL b.Code).length - 1))) ∧ Keeps h h2 (fun _ => False)) := by
  have kind : ∀ n : Int, btw n (slL b.Slots).length = true → ((gD b.Slots n).Kind = 1 ∨ (gD b.Slots n).Kind = 3) → (gD b.Slots n).Rec = 0 := fun n hq hk => by
    have := hsl _ (getI_mem (gD_some hq))
    unfold localB at this
    rw [if_neg (by omega)] at this
    simp only [Bool.and_eq_true, decide_eq_true_eq] at this
    exact this.2
  have hl := hasS_len 2
  have nq : (hasS 2 == [63]) = false := rfl
  have f100 : (hasS 2).contains 100 = true := rfl
  have f115 : (hasS 2).contains 115 = false := rfl
  have f114 : (hasS 2).contains 114 = false := rfl
  have f110 : (hasS 2).contains 110 = true := rfl
  have f116 : (hasS 2).contains 116 = false := rfl
  have f105 : (hasS 2).contains 105 = false := rfl
  have f120 : (hasS 2).contains 120 = false := rfl
  have wl : IntKind.i64.wrap (((slL b.Code).length : Int) - 1) = ((slL b.Code).length : Int) - 1 := wrapI (by omega) (by omega)
  apply padlockref09_instr_wp
  (repeat (first | simp -dsimp -implicitDefEqProofs (disch := omega) only [↓rP, rQ, rO, rL, ↓reduceIte, Nat.reduceEqDiff, Nat.reduceAdd, Nat.reduceLeDiff, pBuild, fillA, ↓tyr, ixI hb, ixI hx] | refine Cut.go ?_))
  have e2 : (h.push (.row 51 b.cells)).next = h.next + 1 := rfl
  have o1 : ((h.push (.row 51 b.cells)).push (.row 58 x.cells)).objs h.next = some (.row 51 b.cells) := by simp
  have o2 : ((h.push (.row 51 b.cells)).push (.row 58 x.cells)).objs (h.next + 1) = some (.row 58 x.cells) := by simp
  have nx : ((h.push (.row 51 b.cells)).push (.row 58 x.cells)).next = h.next + 2 := rfl
  have kH : Keeps h ((h.push (.row 51 b.cells)).push (.row 58 x.cells)) (fun _ => False) := (Keeps.one _ _).go (Keeps.one _ _)
  rw [e2]
  generalize ((h.push (.row 51 b.cells)).push (.row 58 x.cells)) = H at *
  simp only [hop]
  obtain ⟨l1, l2, g0, g1, std, dd0, dd1, dd3, sts, ss0, ss1, ss4, stds, ds0, ds1, ds3, ds4, px, pd, qx, kDSp, kSp, kG, kD, kS, kDS⟩ := ri_facts o1 o2 nx kH
  refine CallsA.go (ref_Has_does 2 _) ?_
  repeat' (first | (simp -dsimp -implicitDefEqProofs only [↓rP, rQ, rL, ↓reduceIte, Nat.reduceEqDiff, Nat.reduceAdd, Nat.reduceLeDiff, pBuild, fillA, ↓tyr, Int.reduceBEq, Int.reduceBNe, Int.reduceLT, Int.reduceLE, decide_true, decide_false, f100, f115, f114, f110, f116, f105, f120, nq, hop, ↓l1, ↓l2, wl, ixI hb, ixI hx, ↓g0, ↓g1, ↓std, ↓dd0, ↓dd1, ↓dd3, ↓sts, ↓ss0, ↓ss1, ↓ss4, ↓stds, ↓ds0, ↓ds1, ↓ds3, ↓ds4, ↓px, ↓pd, ↓qx]) | with_reducible refine Cut.go ?_ | with_reducible refine CallsA.go (has_100 _ hl _) ?_ | with_reducible refine CallsA.go (has_115 _ hl _) ?_ | with_reducible refine CallsA.go (has_114 _ hl _) ?_ | with_reducible refine CallsA.go (has_110 _ hl _) ?_ | with_reducible refine CallsA.go (has_116 _ hl _) ?_ | with_reducible refine CallsA.go (has_105 _ hl _) ?_ | with_reducible refine CallsA.go (has_120 _ hl _) ?_ | with_reducible refine CallsA.go (ref_in_does _ _ _) ?_ | with_reducible refine CallsA.go (ref_Inside_p c hs _ _ _) ?_ | with_reducible refine CallsA.go (ref_Good_does _ hn _ hit hitl _) ?_ | with_reducible refine CallsA.go (ref_Good_does _ hn _ hix hixl _) ?_ | with_reducible refine ixB_go (by assumption) ?_ | unfold padlockref09_instr_wp_p1 | unfold padlockref09_instr_wp_p2 | unfold padlockref09_instr_wp_p3 | unfold padlockref09_instr_wp_p4 | unfold padlockref09_instr_wp_p5 | (with_reducible refine Split.intro (fun hq => ?_) (fun hq => ?_) <;> (try simp only [Bool.not_eq_true', Bool.not_eq_false'] at hq) <;> (try rw [hq])))
  all_goals clear l1 l2 g0 g1 std dd0 dd1 dd3 sts ss0 ss1 ss4 stds ds0 ds1 ds3 ds4 px pd qx o1 o2
  all_goals refine And.intro (congrArg AV.bool ?_) (by first | exact kH | exact kG | exact kD _ | exact kS _ | exact kDS _ _ | exact kDSp _ _ _ | exact kSp _ _)
  all_goals clear kH kG kD kS kDS kDSp kSp nx wl nq hl f100 f115 f114 f110 f116 f105 f120 e2 hb hx hcl hixl hitl hix hit hn hs hc
  all_goals have kd := kind x.Dst
  all_goals have ks := kind x.Src
  all_goals clear kind
  all_goals clear hsl
  all_goals simp_all [fieldO_eq, instrB, loadsB, storesB, borderB, plainB, goesB, itemsB, siteB, sameB, isB_btw, isB_not, List.length_pos_iff, gD_some, getI_no, site_iff]
  all_goals try omega
  all_goals try (rw [Bool.eq_iff_iff]; simp_all [beqI]; try omega)
  all_goals try (split <;> simp_all)
  all_goals try omega
theorem ri_4 (c : Cd) (hc : c.ok) (hs : (slL c.Sections).length ≤ 1000000) (t a : Int) (b : Bd) (x : In) (hb : getI (slL c.Threads) t = some b) (hx : getI (slL b.Code) a = some x) (hsl : ∀ l ∈ slL b.Slots, localB c l = true)
    (hn : okI (slL b.Slots).length) (hit : okSl Api_Item.ok x.Items) (hix : okSl Api_Item.ok x.Index) (hitl : (slL x.Items).length ≤ 1000000) (hixl : (slL x.Index).length ≤ 1000000) (hcl : (slL b.Code).length ≤ 1000000) (hop : x.Op = 4) (h : AHeap) :
    CallsA Tryd.prog 39 [.agg c.cells, .int .i64 t, .int .i64 a] h (fun v h2 => v = .bool (instrB c t b x a && (decide (x.Op = 17) == decide (a = (slL b.Code).length - 1))) ∧ Keeps h h2 (fun _ => False)) := by
  have kind : ∀ n : Int, btw n (slL b.Slots).length = true → ((gD b.Slots n).Kind = 1 ∨ (gD b.Slots n).Kind = 3) → (gD b.Slots n).Rec = 0 := fun n hq hk => by
    have := hsl _ (getI_mem (gD_some hq))
    unfold localB at this
    rw [if_neg (by omega)] at this
    simp only [Bool.and_eq_true, decide_eq_true_eq] at this
    exact this.2
  have hl := hasS_len 4
  have nq : (hasS 4 == [63]) = false := rfl
  have f100 : (hasS 4).contains 100 = true := rfl
  have f115 : (hasS 4).contains 115 = true := rfl
  have f114 : (hasS 4).contains 114 = false := rfl
  have f110 : (hasS 4).contains 110 = false := rfl
  have f116 : (hasS 4).contains 116 = false := rfl
  have f105 : (hasS 4).contains 105 = false := rfl
  have f120 : (hasS 4).contains 120 = true := rfl
  have wl : IntKind.i64.wrap (((slL b.Code).length : Int) - 1) = ((slL b.Code).length : Int) - 1 := wrapI (by omega) (by omega)
  apply padlockref09_instr_wp
  (repeat (first | simp -dsimp -implicitDefEqProofs (disch := omega) only [↓rP, rQ, rO, rL, ↓reduceIte, Nat.reduceEqDiff, Nat.reduceAdd, Nat.reduceLeDiff, pBuild, fillA, ↓tyr, ixI hb, ixI hx] | refine Cut.go ?_))
  have e2 : (h.push (.row 51 b.cells)).next = h.next + 1 := rfl
  have o1 : ((h.push (.row 51 b.cells)).push (.row 58 x.cells)).objs h.next = some (.row 51 b.cells) := by simp
  have o2 : ((h.push (.row 51 b.cells)).push (.row 58 x.cells)).objs (h.next + 1) = some (.row 58 x.cells) := by simp
  have nx : ((h.push (.row 51 b.cells)).push (.row 58 x.cells)).next = h.next + 2 := rfl
  have kH : Keeps h ((h.push (.row 51 b.cells)).push (.row 58 x.cells)) (fun _ => False) := (Keeps.one _ _).go (Keeps.one _ _)
  rw [e2]
  generalize ((h.push (.row 51 b.cells)).push (.row 58 x.cells)) = H at *
  simp only [hop]
  obtain ⟨l1, l2, g0, g1, std, dd0, dd1, dd3, sts, ss0, ss1, ss4, stds, ds0, ds1, ds3, ds4, px, pd, qx, kDSp, kSp, kG, kD, kS, kDS⟩ := ri_facts o1 o2 nx kH
  refine CallsA.go (ref_Has_does 4 _) ?_
  repeat' (first | (simp -dsimp -implicitDefEqProofs only [↓rP, rQ, rL, ↓reduceIte, Nat.reduceEqDiff, Nat.reduceAdd, Nat.reduceLeDiff, pBuild, fillA, ↓tyr, Int.reduceBEq, Int.reduceBNe, Int.reduceLT, Int.reduceLE, decide_true, decide_false, f100, f115, f114, f110, f116, f105, f120, nq, hop, ↓l1, ↓l2, wl, ixI hb, ixI hx, ↓g0, ↓g1, ↓std, ↓dd0, ↓dd1, ↓dd3, ↓sts, ↓ss0, ↓ss1, ↓ss4, ↓stds, ↓ds0, ↓ds1, ↓ds3, ↓ds4, ↓px, ↓pd, ↓qx]) | with_reducible refine Cut.go ?_ | with_reducible refine CallsA.go (has_100 _ hl _) ?_ | with_reducible refine CallsA.go (has_115 _ hl _) ?_ | with_reducible refine CallsA.go (has_114 _ hl _) ?_ | with_reducible refine CallsA.go (has_110 _ hl _) ?_ | with_reducible refine CallsA.go (has_116 _ hl _) ?_ | with_reducible refine CallsA.go (has_105 _ hl _) ?_ | with_reducible refine CallsA.go (has_120 _ hl _) ?_ | with_reducible refine CallsA.go (ref_in_does _ _ _) ?_ | with_reducible refine CallsA.go (ref_Inside_p c hs _ _ _) ?_ | with_reducible refine CallsA.go (ref_Good_does _ hn _ hit hitl _) ?_ | with_reducible refine CallsA.go (ref_Good_does _ hn _ hix hixl _) ?_ | with_reducible refine ixB_go (by assumption) ?_ | unfold padlockref09_instr_wp_p1 | unfold padlockref09_instr_wp_p2 | unfold padlockref09_instr_wp_p3 | unfold padlockref09_instr_wp_p4 | unfold padlockref09_instr_wp_p5 | (with_reducible refine Split.intro (fun hq => ?_) (fun hq => ?_) <;> (try simp only [Bool.not_eq_true', Bool.not_eq_false'] at hq) <;> (try rw [hq])))
  all_goals clear l1 l2 g0 g1 std dd0 dd1 dd3 sts ss0 ss1 ss4 stds ds0 ds1 ds3 ds4 px pd qx o1 o2
  all_goals refine And.intro (congrArg AV.bool ?_) (by first | exact kH | exact kG | exact kD _ | exact kS _ | exact kDS _ _ | exact kDSp _ _ _ | exact kSp _ _)
  all_goals clear kH kG kD kS kDS kDSp kSp nx wl nq hl f100 f115 f114 f110 f116 f105 f120 e2 hb hx hcl hixl hitl hix hit hn hs hc
  all_goals have kd := kind x.Dst
  all_goals have ks := kind x.Src
  all_goals clear kind
  all_goals clear hsl
  all_goals simp_all [fieldO_eq, instrB, loadsB, storesB, borderB, plainB, goesB, itemsB, siteB, sameB, isB_btw, isB_not, List.length_pos_iff, gD_some, getI_no, site_iff]
  all_goals try omega
  all_goals try (rw [Bool.eq_iff_iff]; simp_all [beqI]; try omega)
  all_goals try (split <;> simp_all)
  all_goals try omega
theorem ri_5 (c : Cd) (hc : c.ok) (hs : (slL c.Sections).length ≤ 1000000) (t a : Int) (b : Bd) (x : In) (hb : getI (slL c.Threads) t = some b) (hx : getI (slL b.Code) a = some x) (hsl : ∀ l ∈ slL b.Slots, localB c l = true)
    (hn : okI (slL b.Slots).length) (hit : okSl Api_Item.ok x.Items) (hix : okSl Api_Item.ok x.Index) (hitl : (slL x.Items).length ≤ 1000000) (hixl : (slL x.Index).length ≤ 1000000) (hcl : (slL b.Code).length ≤ 1000000) (hop : x.Op = 5) (h : AHeap) :
    CallsA Tryd.prog 39 [.agg c.cells, .int .i64 t, .int .i64 a] h (fun v h2 => v = .bool (instrB c t b x a && (decide (x.Op = 17) == decide (a = (slL b.Code).length - 1))) ∧ Keeps h h2 (fun _ => False)) := by
  have kind : ∀ n : Int, btw n (slL b.Slots).length = true → ((gD b.Slots n).Kind = 1 ∨ (gD b.Slots n).Kind = 3) → (gD b.Slots n).Rec = 0 := fun n hq hk => by
    have := hsl _ (getI_mem (gD_some hq))
    unfold localB at this
    rw [if_neg (by omega)] at this
    simp only [Bool.and_eq_true, decide_eq_true_eq] at this
    exact this.2
  have hl := hasS_len 5
  have nq : (hasS 5 == [63]) = false := rfl
  have f100 : (hasS 5).contains 100 = false := rfl
  have f115 : (hasS 5).contains 115 = false := rfl
  have f114 : (hasS 5).contains 114 = false := rfl
  have f110 : (hasS 5).contains 110 = true := rfl
  have f116 : (hasS 5).contains 116 = false := rfl
  have f105 : (hasS 5).contains 105 = true := rfl
  have f120 : (hasS 5).contains 120 = false := rfl
  have wl : IntKind.i64.wrap (((slL b.Code).length : Int) - 1) = ((slL b.Code).length : Int) - 1 := wrapI (by omega) (by omega)
  apply padlockref09_instr_wp
  (repeat (first | simp -dsimp -implicitDefEqProofs (disch := omega) only [↓rP, rQ, rO, rL, ↓reduceIte, Nat.reduceEqDiff, Nat.reduceAdd, Nat.reduceLeDiff, pBuild, fillA, ↓tyr, ixI hb, ixI hx] | refine Cut.go ?_))
  have e2 : (h.push (.row 51 b.cells)).next = h.next + 1 := rfl
  have o1 : ((h.push (.row 51 b.cells)).push (.row 58 x.cells)).objs h.next = some (.row 51 b.cells) := by simp
  have o2 : ((h.push (.row 51 b.cells)).push (.row 58 x.cells)).objs (h.next + 1) = some (.row 58 x.cells) := by simp
  have nx : ((h.push (.row 51 b.cells)).push (.row 58 x.cells)).next = h.next + 2 := rfl
  have kH : Keeps h ((h.push (.row 51 b.cells)).push (.row 58 x.cells)) (fun _ => False) := (Keeps.one _ _).go (Keeps.one _ _)
  rw [e2]
  generalize ((h.push (.row 51 b.cells)).push (.row 58 x.cells)) = H at *
  simp only [hop]
  obtain ⟨l1, l2, g0, g1, std, dd0, dd1, dd3, sts, ss0, ss1, ss4, stds, ds0, ds1, ds3, ds4, px, pd, qx, kDSp, kSp, kG, kD, kS, kDS⟩ := ri_facts o1 o2 nx kH
  refine CallsA.go (ref_Has_does 5 _) ?_
  repeat' (first | (simp -dsimp -implicitDefEqProofs only [↓rP, rQ, rL, ↓reduceIte, Nat.reduceEqDiff, Nat.reduceAdd, Nat.reduceLeDiff, pBuild, fillA, ↓tyr, Int.reduceBEq, Int.reduceBNe, Int.reduceLT, Int.reduceLE, decide_true, decide_false, f100, f115, f114, f110, f116, f105, f120, nq, hop, ↓l1, ↓l2, wl, ixI hb, ixI hx, ↓g0, ↓g1, ↓std, ↓dd0, ↓dd1, ↓dd3, ↓sts, ↓ss0, ↓ss1, ↓ss4, ↓stds, ↓ds0, ↓ds1, ↓ds3, ↓ds4, ↓px, ↓pd, ↓qx]) | with_reducible refine Cut.go ?_ | with_reducible refine CallsA.go (has_100 _ hl _) ?_ | with_reducible refine CallsA.go (has_115 _ hl _) ?_ | with_reducible refine CallsA.go (has_114 _ hl _) ?_ | with_reducible refine CallsA.go (has_110 _ hl _) ?_ | with_reducible refine CallsA.go (has_116 _ hl _) ?_ | with_reducible refine CallsA.go (has_105 _ hl _) ?_ | with_reducible refine CallsA.go (has_120 _ hl _) ?_ | with_reducible refine CallsA.go (ref_in_does _ _ _) ?_ | with_reducible refine CallsA.go (ref_Inside_p c hs _ _ _) ?_ | with_reducible refine CallsA.go (ref_Good_does _ hn _ hit hitl _) ?_ | with_reducible refine CallsA.go (ref_Good_does _ hn _ hix hixl _) ?_ | with_reducible refine ixB_go (by assumption) ?_ | unfold padlockref09_instr_wp_p1 | unfold padlockref09_instr_wp_p2 | unfold padlockref09_instr_wp_p3 | unfold padlockref09_instr_wp_p4 | unfold padlockref09_instr_wp_p5 | (with_reducible refine Split.intro (fun hq => ?_) (fun hq => ?_) <;> (try simp only [Bool.not_eq_true', Bool.not_eq_false'] at hq) <;> (try rw [hq])))
  all_goals clear l1 l2 g0 g1 std dd0 dd1 dd3 sts ss0 ss1 ss4 stds ds0 ds1 ds3 ds4 px pd qx o1 o2
  all_goals refine And.intro (congrArg AV.bool ?_) (by first | exact kH | exact kG | exact kD _ | exact kS _ | exact kDS _ _ | exact kDSp _ _ _ | exact kSp _ _)
  all_goals clear kH kG kD kS kDS kDSp kSp nx wl nq hl f100 f115 f114 f110 f116 f105 f120 e2 hb hx hcl hixl hitl hix hit hn hs hc
  all_goals have kd := kind x.Dst
  all_goals have ks := kind x.Src
  all_goals clear kind
  all_goals clear hsl
  all_goals simp_all [fieldO_eq, instrB, loadsB, storesB, borderB, plainB, goesB, itemsB, siteB, sameB, isB_btw, isB_not, List.length_pos_iff, gD_some, getI_no, site_iff]
  all_goals try omega
  all_goals try (rw [Bool.eq_iff_iff]; simp_all [beqI]; try omega)
  all_goals try (split <;> simp_all)
  all_goals try omega
theorem ri_7 (c : Cd) (hc : c.ok) (hs : (slL c.Sections).length ≤ 1000000) (t a : Int) (b : Bd) (x : In) (hb : getI (slL c.Threads) t = some b) (hx : getI (slL b.Code) a = some x) (hsl : ∀ l ∈ slL b.Slots, localB c l = true)
    (hn : okI (slL b.Slots).length) (hit : okSl Api_Item.ok x.Items) (hix : okSl Api_Item.ok x.Index) (hitl : (slL x.Items).length ≤ 1000000) (hixl : (slL x.Index).length ≤ 1000000) (hcl : (slL b.Code).length ≤ 1000000) (hop : x.Op = 7) (h : AHeap) :
    CallsA Tryd.prog 39 [.agg c.cells, .int .i64 t, .int .i64 a] h (fun v h2 => v = .bool (instrB c t b x a && (decide (x.Op = 17) == decide (a = (slL b.Code).length - 1))) ∧ Keeps h h2 (fun _ => False)) := by
  have kind : ∀ n : Int, btw n (slL b.Slots).length = true → ((gD b.Slots n).Kind = 1 ∨ (gD b.Slots n).Kind = 3) → (gD b.Slots n).Rec = 0 := fun n hq hk => by
    have := hsl _ (getI_mem (gD_some hq))
    unfold localB at this
    rw [if_neg (by omega)] at this
    simp only [Bool.and_eq_true, decide_eq_true_eq] at this
    exact this.2
  have hl := hasS_len 7
  have nq : (hasS 7 == [63]) = false := rfl
  have f100 : (hasS 7).contains 100 = false := rfl
  have f115 : (hasS 7).contains 115 = true := rfl
  have f114 : (hasS 7).contains 114 = false := rfl
  have f110 : (hasS 7).contains 110 = false := rfl
  have f116 : (hasS 7).contains 116 = false := rfl
  have f105 : (hasS 7).contains 105 = true := rfl
  have f120 : (hasS 7).contains 120 = true := rfl
  have wl : IntKind.i64.wrap (((slL b.Code).length : Int) - 1) = ((slL b.Code).length : Int) - 1 := wrapI (by omega) (by omega)
  apply padlockref09_instr_wp
  (repeat (first | simp -dsimp -implicitDefEqProofs (disch := omega) only [↓rP, rQ, rO, rL, ↓reduceIte, Nat.reduceEqDiff, Nat.reduceAdd, Nat.reduceLeDiff, pBuild, fillA, ↓tyr, ixI hb, ixI hx] | refine Cut.go ?_))
  have e2 : (h.push (.row 51 b.cells)).next = h.next + 1 := rfl
  have o1 : ((h.push (.row 51 b.cells)).push (.row 58 x.cells)).objs h.next = some (.row 51 b.cells) := by simp
  have o2 : ((h.push (.row 51 b.cells)).push (.row 58 x.cells)).objs (h.next + 1) = some (.row 58 x.cells) := by simp
  have nx : ((h.push (.row 51 b.cells)).push (.row 58 x.cells)).next = h.next + 2 := rfl
  have kH : Keeps h ((h.push (.row 51 b.cells)).push (.row 58 x.cells)) (fun _ => False) := (Keeps.one _ _).go (Keeps.one _ _)
  rw [e2]
  generalize ((h.push (.row 51 b.cells)).push (.row 58 x.cells)) = H at *
  simp only [hop]
  obtain ⟨l1, l2, g0, g1, std, dd0, dd1, dd3, sts, ss0, ss1, ss4, stds, ds0, ds1, ds3, ds4, px, pd, qx, kDSp, kSp, kG, kD, kS, kDS⟩ := ri_facts o1 o2 nx kH
  refine CallsA.go (ref_Has_does 7 _) ?_
  repeat' (first | (simp -dsimp -implicitDefEqProofs only [↓rP, rQ, rL, ↓reduceIte, Nat.reduceEqDiff, Nat.reduceAdd, Nat.reduceLeDiff, pBuild, fillA, ↓tyr, Int.reduceBEq, Int.reduceBNe, Int.reduceLT, Int.reduceLE, decide_true, decide_false, f100, f115, f114, f110, f116, f105, f120, nq, hop, ↓l1, ↓l2, wl, ixI hb, ixI hx, ↓g0, ↓g1, ↓std, ↓dd0, ↓dd1, ↓dd3, ↓sts, ↓ss0, ↓ss1, ↓ss4, ↓stds, ↓ds0, ↓ds1, ↓ds3, ↓ds4, ↓px, ↓pd, ↓qx]) | with_reducible refine Cut.go ?_ | with_reducible refine CallsA.go (has_100 _ hl _) ?_ | with_reducible refine CallsA.go (has_115 _ hl _) ?_ | with_reducible refine CallsA.go (has_114 _ hl _) ?_ | with_reducible refine CallsA.go (has_110 _ hl _) ?_ | with_reducible refine CallsA.go (has_116 _ hl _) ?_ | with_reducible refine CallsA.go (has_105 _ hl _) ?_ | with_reducible refine CallsA.go (has_120 _ hl _) ?_ | with_reducible refine CallsA.go (ref_in_does _ _ _) ?_ | with_reducible refine CallsA.go (ref_Inside_p c hs _ _ _) ?_ | with_reducible refine CallsA.go (ref_Good_does _ hn _ hit hitl _) ?_ | with_reducible refine CallsA.go (ref_Good_does _ hn _ hix hixl _) ?_ | with_reducible refine ixB_go (by assumption) ?_ | unfold padlockref09_instr_wp_p1 | unfold padlockref09_instr_wp_p2 | unfold padlockref09_instr_wp_p3 | unfold padlockref09_instr_wp_p4 | unfold padlockref09_instr_wp_p5 | (with_reducible refine Split.intro (fun hq => ?_) (fun hq => ?_) <;> (try simp only [Bool.not_eq_true', Bool.not_eq_false'] at hq) <;> (try rw [hq])))
  all_goals clear l1 l2 g0 g1 std dd0 dd1 dd3 sts ss0 ss1 ss4 stds ds0 ds1 ds3 ds4 px pd qx o1 o2
  all_goals refine And.intro (congrArg AV.bool ?_) (by first | exact kH | exact kG | exact kD _ | exact kS _ | exact kDS _ _ | exact kDSp _ _ _ | exact kSp _ _)
  all_goals clear kH kG kD kS kDS kDSp kSp nx wl nq hl f100 f115 f114 f110 f116 f105 f120 e2 hb hx hcl hixl hitl hix hit hn hs hc
  all_goals have kd := kind x.Dst
  all_goals have ks := kind x.Src
  all_goals clear kind
  all_goals clear hsl
  all_goals simp_all [fieldO_eq, instrB, loadsB, storesB, borderB, plainB, goesB, itemsB, siteB, sameB, isB_btw, isB_not, List.length_pos_iff, gD_some, getI_no, site_iff]
  all_goals try omega
  all_goals try (rw [Bool.eq_iff_iff]; simp_all [beqI]; try omega)
  all_goals try (split <;> simp_all)
  all_goals try omega
theorem ri_10 (c : Cd) (hc : c.ok) (hs : (slL c.Sections).length ≤ 1000000) (t a : Int) (b : Bd) (x : In) (hb : getI (slL c.Threads) t = some b) (hx : getI (slL b.Code) a = some x) (hsl : ∀ l ∈ slL b.Slots, localB c l = true)
    (hn : okI (slL b.Slots).length) (hit : okSl Api_Item.ok x.Items) (hix : okSl Api_Item.ok x.Index) (hitl : (slL x.Items).length ≤ 1000000) (hixl : (slL x.Index).length ≤ 1000000) (hcl : (slL b.Code).length ≤ 1000000) (hop : x.Op = 10) (h : AHeap) :
    CallsA Tryd.prog 39 [.agg c.cells, .int .i64 t, .int .i64 a] h (fun v h2 => v = .bool (instrB c t b x a && (decide (x.Op = 17) == decide (a = (slL b.Code).length - 1))) ∧ Keeps h h2 (fun _ => False)) := by
  have kind : ∀ n : Int, btw n (slL b.Slots).length = true → ((gD b.Slots n).Kind = 1 ∨ (gD b.Slots n).Kind = 3) → (gD b.Slots n).Rec = 0 := fun n hq hk => by
    have := hsl _ (getI_mem (gD_some hq))
    unfold localB at this
    rw [if_neg (by omega)] at this
    simp only [Bool.and_eq_true, decide_eq_true_eq] at this
    exact this.2
  have hl := hasS_len 10
  have nq : (hasS 10 == [63]) = false := rfl
  have f100 : (hasS 10).contains 100 = true := rfl
  have f115 : (hasS 10).contains 115 = true := rfl
  have f114 : (hasS 10).contains 114 = false := rfl
  have f110 : (hasS 10).contains 110 = false := rfl
  have f116 : (hasS 10).contains 116 = false := rfl
  have f105 : (hasS 10).contains 105 = false := rfl
  have f120 : (hasS 10).contains 120 = false := rfl
  have wl : IntKind.i64.wrap (((slL b.Code).length : Int) - 1) = ((slL b.Code).length : Int) - 1 := wrapI (by omega) (by omega)
  apply padlockref09_instr_wp
  (repeat (first | simp -dsimp -implicitDefEqProofs (disch := omega) only [↓rP, rQ, rO, rL, ↓reduceIte, Nat.reduceEqDiff, Nat.reduceAdd, Nat.reduceLeDiff, pBuild, fillA, ↓tyr, ixI hb, ixI hx] | refine Cut.go ?_))
  have e2 : (h.push (.row 51 b.cells)).next = h.next + 1 := rfl
  have o1 : ((h.push (.row 51 b.cells)).push (.row 58 x.cells)).objs h.next = some (.row 51 b.cells) := by simp
  have o2 : ((h.push (.row 51 b.cells)).push (.row 58 x.cells)).objs (h.next + 1) = some (.row 58 x.cells) := by simp
  have nx : ((h.push (.row 51 b.cells)).push (.row 58 x.cells)).next = h.next + 2 := rfl
  have kH : Keeps h ((h.push (.row 51 b.cells)).push (.row 58 x.cells)) (fun _ => False) := (Keeps.one _ _).go (Keeps.one _ _)
  rw [e2]
  generalize ((h.push (.row 51 b.cells)).push (.row 58 x.cells)) = H at *
  simp only [hop]
  obtain ⟨l1, l2, g0, g1, std, dd0, dd1, dd3, sts, ss0, ss1, ss4, stds, ds0, ds1, ds3, ds4, px, pd, qx, kDSp, kSp, kG, kD, kS, kDS⟩ := ri_facts o1 o2 nx kH
  refine CallsA.go (ref_Has_does 10 _) ?_
  repeat' (first | (simp -dsimp -implicitDefEqProofs only [↓rP, rQ, rL, ↓reduceIte, Nat.reduceEqDiff, Nat.reduceAdd, Nat.reduceLeDiff, pBuild, fillA, ↓tyr, Int.reduceBEq, Int.reduceBNe, Int.reduceLT, Int.reduceLE, decide_true, decide_false, f100, f115, f114, f110, f116, f105, f120, nq, hop, ↓l1, ↓l2, wl, ixI hb, ixI hx, ↓g0, ↓g1, ↓std, ↓dd0, ↓dd1, ↓dd3, ↓sts, ↓ss0, ↓ss1, ↓ss4, ↓stds, ↓ds0, ↓ds1, ↓ds3, ↓ds4, ↓px, ↓pd, ↓qx]) | with_reducible refine Cut.go ?_ | with_reducible refine CallsA.go (has_100 _ hl _) ?_ | with_reducible refine CallsA.go (has_115 _ hl _) ?_ | with_reducible refine CallsA.go (has_114 _ hl _) ?_ | with_reducible refine CallsA.go (has_110 _ hl _) ?_ | with_reducible refine CallsA.go (has_116 _ hl _) ?_ | with_reducible refine CallsA.go (has_105 _ hl _) ?_ | with_reducible refine CallsA.go (has_120 _ hl _) ?_ | with_reducible refine CallsA.go (ref_in_does _ _ _) ?_ | with_reducible refine CallsA.go (ref_Inside_p c hs _ _ _) ?_ | with_reducible refine CallsA.go (ref_Good_does _ hn _ hit hitl _) ?_ | with_reducible refine CallsA.go (ref_Good_does _ hn _ hix hixl _) ?_ | with_reducible refine ixB_go (by assumption) ?_ | unfold padlockref09_instr_wp_p1 | unfold padlockref09_instr_wp_p2 | unfold padlockref09_instr_wp_p3 | unfold padlockref09_instr_wp_p4 | unfold padlockref09_instr_wp_p5 | (with_reducible refine Split.intro (fun hq => ?_) (fun hq => ?_) <;> (try simp only [Bool.not_eq_true', Bool.not_eq_false'] at hq) <;> (try rw [hq])))
  all_goals clear l1 l2 g0 g1 std dd0 dd1 dd3 sts ss0 ss1 ss4 stds ds0 ds1 ds3 ds4 px pd qx o1 o2
  all_goals refine And.intro (congrArg AV.bool ?_) (by first | exact kH | exact kG | exact kD _ | exact kS _ | exact kDS _ _ | exact kDSp _ _ _ | exact kSp _ _)
  all_goals clear kH kG kD kS kDS kDSp kSp nx wl nq hl f100 f115 f114 f110 f116 f105 f120 e2 hb hx hcl hixl hitl hix hit hn hs hc
  all_goals have kd := kind x.Dst
  all_goals have ks := kind x.Src
  all_goals clear kind
  all_goals clear hsl
  all_goals simp_all [fieldO_eq, instrB, loadsB, storesB, borderB, plainB, goesB, itemsB, siteB, sameB, isB_btw, isB_not, List.length_pos_iff, gD_some, getI_no, site_iff]
  all_goals try omega
  all_goals try (rw [Bool.eq_iff_iff]; simp_all [beqI]; try omega)
  all_goals try (split <;> simp_all)
  all_goals try omega
end Go.Proofs.YtopfjochppdnfaaDoor
end

section
/- What the document's instr computes, kind by kind. -/
set_option maxRecDepth 100000
set_option maxHeartbeats 4000000
namespace Go.Proofs.YtopfjochppdnfaaDoor
open Go.Abs
theorem ri_3 (c : Cd) (hc : c.ok) (hs : (slL c.Sections).length ≤ 1000000) (t a : Int) (b : Bd) (x : In) (hb : getI (slL c.Threads) t = some b) (hx : getI (slL b.Code) a = some x) (hsl : ∀ l ∈ slL b.Slots, localB c l = true)
    (hn : okI (slL b.Slots).length) (hit : okSl Api_Item.ok x.Items) (hix : okSl Api_Item.ok x.Index) (hitl : (slL x.Items).length ≤ 1000000) (hixl : (slL x.Index).length ≤ 1000000) (hcl : (slL b.Code).length ≤ 1000000) (hop : x.Op = 3) (h : AHeap) :
    CallsA Tryd.prog 39 [.agg c.cells, .int .i64 t, .int .i64 a] h (fun v h2 => v = .bool (instrB c t b x a && (decide (x.Op = 17) == decide (a = (slL b.Code).length - 1))) ∧ Keeps h h2 (fun _ => False)) := by
  have kind : ∀ n : Int, btw n (slL b.Slots).length = true → ((gD b.Slots n).Kind = 1 ∨ (gD b.Slots n).Kind = 3) → (gD b.Slots n).Rec = 0 := fun n hq hk => by
    have := hsl _ (getI_mem (gD_some hq))
    unfold localB at this
    rw [if_neg (by omega)] at this
    simp only [Bool.and_eq_true, decide_eq_true_eq] at this
    exact this.2
  have hl := hasS_len 3
  have nq : (hasS 3 == [63]) = false := rfl
  have f100 : (hasS 3).contains 100 = true := rfl
  have f115 : (hasS 3).contains 115 = true := rfl
  have f114 : (hasS 3).contains 114 = true := rfl
  have f110 : (hasS 3).contains 110 = true := rfl
  have f116 : (hasS 3).contains 116 = false := rfl
  have f105 : (hasS 3).contains 105 = false := rfl
  have f120 : (hasS 3).contains 120 = false := rfl
  have wl : IntKind.i64.wrap (((slL b.Code).length : Int) - 1) = ((slL b.Code).length : Int) - 1 := wrapI (by omega) (by omega)
  apply padlockref09_instr_wp
  (repeat (first | simp -dsimp -implicitDefEqProofs (disch := omega) only [↓rP, rQ, rO, rL, ↓reduceIte, Nat.reduceEqDiff, Nat.reduceAdd, Nat.reduceLeDiff, pBuild, fillA, ↓tyr, ixI hb, ixI hx] | refine Cut.go ?_))
  have e2 : (h.push (.row 51 b.cells)).next = h.next + 1 := rfl
  have o1 : ((h.push (.row 51 b.cells)).push (.row 58 x.cells)).objs h.next = some (.row 51 b.cells) := by simp
  have o2 : ((h.push (.row 51 b.cells)).push (.row 58 x.cells)).objs (h.next + 1) = some (.row 58 x.cells) := by simp
  have nx : ((h.push (.row 51 b.cells)).push (.row 58 x.cells)).next = h.next + 2 := rfl
  have kH : Keeps h ((h.push (.row 51 b.cells)).push (.row 58 x.cells)) (fun _ => False) := (Keeps.one _ _).go (Keeps.one _ _)
  rw [e2]
  generalize ((h.push (.row 51 b.cells)).push (.row 58 x.cells)) = H at *
  simp only [hop]
  obtain ⟨l1, l2, g0, g1, std, dd0, dd1, dd3, sts, ss0, ss1, ss4, stds, ds0, ds1, ds3, ds4, px, pd, qx, kDSp, kSp, kG, kD, kS, kDS⟩ := ri_facts o1 o2 nx kH
  refine CallsA.go (ref_Has_does 3 _) ?_
  repeat' (first | (simp -dsimp -implicitDefEqProofs only [↓rP, rQ, rL, ↓reduceIte, Nat.reduceEqDiff, Nat.reduceAdd, Nat.reduceLeDiff, pBuild, fillA, ↓tyr, Int.reduceBEq, Int.reduceBNe, Int.reduceLT, Int.reduceLE, decide_true, decide_false, f100, f115, f114, f110, f116, f105, f120, nq, hop, ↓l1, ↓l2, wl, ixI hb, ixI hx, ↓g0, ↓g1, ↓std, ↓dd0, ↓dd1, ↓dd3, ↓sts, ↓ss0, ↓ss1, ↓ss4, ↓stds, ↓ds0, ↓ds1, ↓ds3, ↓ds4, ↓px, ↓pd, ↓qx]) | with_reducible refine Cut.go ?_ | with_reducible refine CallsA.go (has_100 _ hl _) ?_ | with_reducible refine CallsA.go (has_115 _ hl _) ?_ | with_reducible refine CallsA.go (has_114 _ hl _) ?_ | with_reducible refine CallsA.go (has_110 _ hl _) ?_ | with_reducible refine CallsA.go (has_116 _ hl _) ?_ | with_reducible refine CallsA.go (has_105 _ hl _) ?_ | with_reducible refine CallsA.go (has_120 _ hl _) ?_ | with_reducible refine CallsA.go (ref_in_does _ _ _) ?_ | with_reducible refine CallsA.go (ref_Inside_p c hs _ _ _) ?_ | with_reducible refine CallsA.go (ref_Good_does _ hn _ hit hitl _) ?_ | with_reducible refine CallsA.go (ref_Good_does _ hn _ hix hixl _) ?_ | with_reducible refine ixB_go (by assumption) ?_ | unfold padlockref09_instr_wp_p1 | unfold padlockref09_instr_wp_p2 | unfold padlockref09_instr_wp_p3 | unfold padlockref09_instr_wp_p4 | unfold padlockref09_instr_wp_p5 | (with_reducible refine Split.intro (fun hq => ?_) (fun hq => ?_) <;> (try simp only [Bool.not_eq_true', Bool.not_eq_false'] at hq) <;> (try rw [hq])))
  all_goals clear l1 l2 g0 g1 std dd0 dd1 dd3 sts ss0 ss1 ss4 stds ds0 ds1 ds3 ds4 px pd qx o1 o2
  all_goals refine And.intro (congrArg AV.bool ?_) (by first | exact kH | exact kG | exact kD _ | exact kS _ | exact kDS _ _ | exact kDSp _ _ _ | exact kSp _ _)
  all_goals clear kH kG kD kS kDS kDSp kSp nx wl nq hl f100 f115 f114 f110 f116 f105 f120 e2 hb hx hcl hixl hitl hix hit hn hs hc
  all_goals have kd := kind x.Dst
  all_goals have ks := kind x.Src
  all_goals clear kind
  all_goals clear hsl
  all_goals simp_all [fieldO_eq, instrB, loadsB, storesB, borderB, plainB, goesB, itemsB, siteB, sameB, isB_btw, isB_not, List.length_pos_iff, gD_some, getI_no, site_iff]
  all_goals try omega
  all_goals try (rw [Bool.eq_iff_iff]; simp_all [beqI]; try omega)
  all_goals try (split <;> simp_all)
  all_goals try omega
theorem ri_6 (c : Cd) (hc : c.ok) (hs : (slL c.Sections).length ≤ 1000000) (t a : Int) (b : Bd) (x : In) (hb : getI (slL c.Threads) t = some b) (hx : getI (slL b.Code) a = some x) (hsl : ∀ l ∈ slL b.Slots, localB c l = true)
    (hn : okI (slL b.Slots).length) (hit : okSl Api_Item.ok x.Items) (hix : okSl Api_Item.ok x.Index) (hitl : (slL x.Items).length ≤ 1000000) (hixl : (slL x.Index).length ≤ 1000000) (hcl : (slL b.Code).length ≤ 1000000) (hop : x.Op = 6) (h : AHeap) :
    CallsA Tryd.prog 39 [.agg c.cells, .int .i64 t, .int .i64 a] h (fun v h2 => v = .bool (instrB c t b x a && (decide (x.Op = 17) == decide (a = (slL b.Code).length - 1))) ∧ Keeps h h2 (fun _ => False)) := by
  have kind : ∀ n : Int, btw n (slL b.Slots).length = true → ((gD b.Slots n).Kind = 1 ∨ (gD b.Slots n).Kind = 3) → (gD b.Slots n).Rec = 0 := fun n hq hk => by
    have := hsl _ (getI_mem (gD_some hq))
    unfold localB at this
    rw [if_neg (by omega)] at this
    simp only [Bool.and_eq_true, decide_eq_true_eq] at this
    exact this.2
  have hl := hasS_len 6
  have nq : (hasS 6 == [63]) = false := rfl
  have f100 : (hasS 6).contains 100 = false := rfl
  have f115 : (hasS 6).contains 115 = true := rfl
  have f114 : (hasS 6).contains 114 = true := rfl
  have f110 : (hasS 6).contains 110 = true := rfl
  have f116 : (hasS 6).contains 116 = false := rfl
  have f105 : (hasS 6).contains 105 = true := rfl
  have f120 : (hasS 6).contains 120 = false := rfl
  have wl : IntKind.i64.wrap (((slL b.Code).length : Int) - 1) = ((slL b.Code).length : Int) - 1 := wrapI (by omega) (by omega)
  apply padlockref09_instr_wp
  (repeat (first | simp -dsimp -implicitDefEqProofs (disch := omega) only [↓rP, rQ, rO, rL, ↓reduceIte, Nat.reduceEqDiff, Nat.reduceAdd, Nat.reduceLeDiff, pBuild, fillA, ↓tyr, ixI hb, ixI hx] | refine Cut.go ?_))
  have e2 : (h.push (.row 51 b.cells)).next = h.next + 1 := rfl
  have o1 : ((h.push (.row 51 b.cells)).push (.row 58 x.cells)).objs h.next = some (.row 51 b.cells) := by simp
  have o2 : ((h.push (.row 51 b.cells)).push (.row 58 x.cells)).objs (h.next + 1) = some (.row 58 x.cells) := by simp
  have nx : ((h.push (.row 51 b.cells)).push (.row 58 x.cells)).next = h.next + 2 := rfl
  have kH : Keeps h ((h.push (.row 51 b.cells)).push (.row 58 x.cells)) (fun _ => False) := (Keeps.one _ _).go (Keeps.one _ _)
  rw [e2]
  generalize ((h.push (.row 51 b.cells)).push (.row 58 x.cells)) = H at *
  simp only [hop]
  obtain ⟨l1, l2, g0, g1, std, dd0, dd1, dd3, sts, ss0, ss1, ss4, stds, ds0, ds1, ds3, ds4, px, pd, qx, kDSp, kSp, kG, kD, kS, kDS⟩ := ri_facts o1 o2 nx kH
  refine CallsA.go (ref_Has_does 6 _) ?_
  repeat' (first | (simp -dsimp -implicitDefEqProofs only [↓rP, rQ, rL, ↓reduceIte, Nat.reduceEqDiff, Nat.reduceAdd, Nat.reduceLeDiff, pBuild, fillA, ↓tyr, Int.reduceBEq, Int.reduceBNe, Int.reduceLT, Int.reduceLE, decide_true, decide_false, f100, f115, f114, f110, f116, f105, f120, nq, hop, ↓l1, ↓l2, wl, ixI hb, ixI hx, ↓g0, ↓g1, ↓std, ↓dd0, ↓dd1, ↓dd3, ↓sts, ↓ss0, ↓ss1, ↓ss4, ↓stds, ↓ds0, ↓ds1, ↓ds3, ↓ds4, ↓px, ↓pd, ↓qx]) | with_reducible refine Cut.go ?_ | with_reducible refine CallsA.go (has_100 _ hl _) ?_ | with_reducible refine CallsA.go (has_115 _ hl _) ?_ | with_reducible refine CallsA.go (has_114 _ hl _) ?_ | with_reducible refine CallsA.go (has_110 _ hl _) ?_ | with_reducible refine CallsA.go (has_116 _ hl _) ?_ | with_reducible refine CallsA.go (has_105 _ hl _) ?_ | with_reducible refine CallsA.go (has_120 _ hl _) ?_ | with_reducible refine CallsA.go (ref_in_does _ _ _) ?_ | with_reducible refine CallsA.go (ref_Inside_p c hs _ _ _) ?_ | with_reducible refine CallsA.go (ref_Good_does _ hn _ hit hitl _) ?_ | with_reducible refine CallsA.go (ref_Good_does _ hn _ hix hixl _) ?_ | with_reducible refine ixB_go (by assumption) ?_ | unfold padlockref09_instr_wp_p1 | unfold padlockref09_instr_wp_p2 | unfold padlockref09_instr_wp_p3 | unfold padlockref09_instr_wp_p4 | unfold padlockref09_instr_wp_p5 | (with_reducible refine Split.intro (fun hq => ?_) (fun hq => ?_) <;> (try simp only [Bool.not_eq_true', Bool.not_eq_false'] at hq) <;> (try rw [hq])))
  all_goals clear l1 l2 g0 g1 std dd0 dd1 dd3 sts ss0 ss1 ss4 stds ds0 ds1 ds3 ds4 px pd qx o1 o2
  all_goals refine And.intro (congrArg AV.bool ?_) (by first | exact kH | exact kG | exact kD _ | exact kS _ | exact kDS _ _ | exact kDSp _ _ _ | exact kSp _ _)
  all_goals clear kH kG kD kS kDS kDSp kSp nx wl nq hl f100 f115 f114 f110 f116 f105 f120 e2 hb hx hcl hixl hitl hix hit hn hs hc
  all_goals have kd := kind x.Dst
  all_goals have ks := kind x.Src
  all_goals clear kind
  all_goals clear hsl
  all_goals simp_all [fieldO_eq, instrB, loadsB, storesB, borderB, plainB, goesB, itemsB, siteB, sameB, isB_btw, isB_not, List.length_pos_iff, gD_some, getI_no, site_iff]
  all_goals try omega
  all_goals try (rw [Bool.eq_iff_iff]; simp_all [beqI]; try omega)
  all_goals try (split <;> simp_all)
  all_goals try omega
end Go.Proofs.YtopfjochppdnfaaDoor
end

section
/- What the document's instr computes, kind by kind. -/
set_option maxRecDepth 100000
set_option maxHeartbeats 4000000
namespace Go.Proofs.YtopfjochppdnfaaDoor
open Go.Abs
theorem ri_8 (c : Cd) (hc : c.ok) (hs : (slL c.Sections).length ≤ 1000000) (t a : Int) (b : Bd) (x : In) (hb : getI (slL c.Threads) t = some b) (hx : getI (slL b.Code) a = some x) (hsl : ∀ l ∈ slL b.Slots, localB c l = true)
    (hn : okI (slL b.Slots).length) (hit : okSl Api_Item.ok x.Items) (hix : okSl Api_Item.ok x.Index) (hitl : (slL x.Items).length ≤ 1000000) (hixl : (slL x.Index).length ≤ 1000000) (hcl : (slL b.Code).length ≤ 1000000) (hop : x.Op = 8) (h : AHeap) :
    CallsA Tryd.prog 39 [.agg c.cells, .int .i64 t, .int .i64 a] h (fun v h2 => v = .bool (instrB c t b x a && (decide (x.Op = 17) == decide (a = (slL b.Code).length - 1))) ∧ Keeps h h2 (fun _ => False)) := by
  have kind : ∀ n : Int, btw n (slL b.Slots).length = true → ((gD b.Slots n).Kind = 1 ∨ (gD b.Slots n).Kind = 3) → (gD b.Slots n).Rec = 0 := fun n hq hk => by
    have := hsl _ (getI_mem (gD_some hq))
    unfold localB at this
    rw [if_neg (by omega)] at this
    simp only [Bool.and_eq_true, decide_eq_true_eq] at this
    exact this.2
  have hl := hasS_len 8
  have nq : (hasS 8 == [63]) = false := rfl
  have f100 : (hasS 8).contains 100 = true := rfl
  have f115 : (hasS 8).contains 115 = false := rfl
  have f114 : (hasS 8).contains 114 = true := rfl
  have f110 : (hasS 8).contains 110 = true := rfl
  have f116 : (hasS 8).contains 116 = false := rfl
  have f105 : (hasS 8).contains 105 = false := rfl
  have f120 : (hasS 8).contains 120 = false := rfl
  have wl : IntKind.i64.wrap (((slL b.Code).length : Int) - 1) = ((slL b.Code).length : Int) - 1 := wrapI (by omega) (by omega)
  apply padlockref09_instr_wp
  (repeat (first | simp -dsimp -implicitDefEqProofs (disch := omega) only [↓rP, rQ, rO, rL, ↓reduceIte, Nat.reduceEqDiff, Nat.reduceAdd, Nat.reduceLeDiff, pBuild, fillA, ↓tyr, ixI hb, ixI hx] | refine Cut.go ?_))
  have e2 : (h.push (.row 51 b.cells)).next = h.next + 1 := rfl
  have o1 : ((h.push (.row 51 b.cells)).push (.row 58 x.cells)).objs h.next = some (.row 51 b.cells) := by simp
  have o2 : ((h.push (.row 51 b.cells)).push (.row 58 x.cells)).objs (h.next + 1) = some (.row 58 x.cells) := by simp
  have nx : ((h.push (.row 51 b.cells)).push (.row 58 x.cells)).next = h.next + 2 := rfl
  have kH : Keeps h ((h.push (.row 51 b.cells)).push (.row 58 x.cells)) (fun _ => False) := (Keeps.one _ _).go (Keeps.one _ _)
  rw [e2]
  generalize ((h.push (.row 51 b.cells)).push (.row 58 x.cells)) = H at *
  simp only [hop]
  obtain ⟨l1, l2, g0, g1, std, dd0, dd1, dd3, sts, ss0, ss1, ss4, stds, ds0, ds1, ds3, ds4, px, pd, qx, kDSp, kSp, kG, kD, kS, kDS⟩ := ri_facts o1 o2 nx kH
  refine CallsA.go (ref_Has_does 8 _) ?_
  repeat' (first | (simp -dsimp -implicitDefEqProofs only [↓rP, rQ, rL, ↓reduceIte, Nat.reduceEqDiff, Nat.reduceAdd, Nat.reduceLeDiff, pBuild, fillA, ↓tyr, Int.reduceBEq, Int.reduceBNe, Int.reduceLT, Int.reduceLE, decide_true, decide_false, f100, f115, f114, f110, f116, f105, f120, nq, hop, ↓l1, ↓l2, wl, ixI hb, ixI hx, ↓g0, ↓g1, ↓std, ↓dd0, ↓dd1, ↓dd3, ↓sts, ↓ss0, ↓ss1, ↓ss4, ↓stds, ↓ds0, ↓ds1, ↓ds3, ↓ds4, ↓px, ↓pd, ↓qx]) | with_reducible refine Cut.go ?_ | with_reducible refine CallsA.go (has_100 _ hl _) ?_ | with_reducible refine CallsA.go (has_115 _ hl _) ?_ | with_reducible refine CallsA.go (has_114 _ hl _) ?_ | with_reducible refine CallsA.go (has_110 _ hl _) ?_ | with_reducible refine CallsA.go (has_116 _ hl _) ?_ | with_reducible refine CallsA.go (has_105 _ hl _) ?_ | with_reducible refine CallsA.go (has_120 _ hl _) ?_ | with_reducible refine CallsA.go (ref_in_does _ _ _) ?_ | with_reducible refine CallsA.go (ref_Inside_p c hs _ _ _) ?_ | with_reducible refine CallsA.go (ref_Good_does _ hn _ hit hitl _) ?_ | with_reducible refine CallsA.go (ref_Good_does _ hn _ hix hixl _) ?_ | with_reducible refine ixB_go (by assumption) ?_ | unfold padlockref09_instr_wp_p1 | unfold padlockref09_instr_wp_p2 | unfold padlockref09_instr_wp_p3 | unfold padlockref09_instr_wp_p4 | unfold padlockref09_instr_wp_p5 | (with_reducible refine Split.intro (fun hq => ?_) (fun hq => ?_) <;> (try simp only [Bool.not_eq_true', Bool.not_eq_false'] at hq) <;> (try rw [hq])))
  all_goals clear l1 l2 g0 g1 std dd0 dd1 dd3 sts ss0 ss1 ss4 stds ds0 ds1 ds3 ds4 px pd qx o1 o2
  all_goals refine And.intro (congrArg AV.bool ?_) (by first | exact kH | exact kG | exact kD _ | exact kS _ | exact kDS _ _ | exact kDSp _ _ _ | exact kSp _ _)
  all_goals clear kH kG kD kS kDS kDSp kSp nx wl nq hl f100 f115 f114 f110 f116 f105 f120 e2 hb hx hcl hixl hitl hix hit hn hs hc
  all_goals have kd := kind x.Dst
  all_goals have ks := kind x.Src
  all_goals clear kind
  all_goals clear hsl
  all_goals simp_all [fieldO_eq, instrB, loadsB, storesB, borderB, plainB, goesB, itemsB, siteB, sameB, isB_btw, isB_not, List.length_pos_iff, gD_some, getI_no, site_iff]
  all_goals try omega
  all_goals try (rw [Bool.eq_iff_iff]; simp_all [beqI]; try omega)
  all_goals try (split <;> simp_all)
  all_goals try omega
theorem ri_9 (c : Cd) (hc : c.ok) (hs : (slL c.Sections).length ≤ 1000000) (t a : Int) (b : Bd) (x : In) (hb : getI (slL c.Threads) t = some b) (hx : getI (slL b.Code) a = some x) (hsl : ∀ l ∈ slL b.Slots, localB c l = true)
    (hn : okI (slL b.Slots).length) (hit : okSl Api_Item.ok x.Items) (hix : okSl Api_Item.ok x.Index) (hitl : (slL x.Items).length ≤ 1000000) (hixl : (slL x.Index).length ≤ 1000000) (hcl : (slL b.Code).length ≤ 1000000) (hop : x.Op = 9) (h : AHeap) :
    CallsA Tryd.prog 39 [.agg c.cells, .int .i64 t, .int .i64 a] h (fun v h2 => v = .bool (instrB c t b x a && (decide (x.Op = 17) == decide (a = (slL b.Code).length - 1))) ∧ Keeps h h2 (fun _ => False)) := by
  have kind : ∀ n : Int, btw n (slL b.Slots).length = true → ((gD b.Slots n).Kind = 1 ∨ (gD b.Slots n).Kind = 3) → (gD b.Slots n).Rec = 0 := fun n hq hk => by
    have := hsl _ (getI_mem (gD_some hq))
    unfold localB at this
    rw [if_neg (by omega)] at this
    simp only [Bool.and_eq_true, decide_eq_true_eq] at this
    exact this.2
  have hl := hasS_len 9
  have nq : (hasS 9 == [63]) = false := rfl
  have f100 : (hasS 9).contains 100 = true := rfl
  have f115 : (hasS 9).contains 115 = false := rfl
  have f114 : (hasS 9).contains 114 = false := rfl
  have f110 : (hasS 9).contains 110 = true := rfl
  have f116 : (hasS 9).contains 116 = false := rfl
  have f105 : (hasS 9).contains 105 = true := rfl
  have f120 : (hasS 9).contains 120 = false := rfl
  have wl : IntKind.i64.wrap (((slL b.Code).length : Int) - 1) = ((slL b.Code).length : Int) - 1 := wrapI (by omega) (by omega)
  apply padlockref09_instr_wp
  (repeat (first | simp -dsimp -implicitDefEqProofs (disch := omega) only [↓rP, rQ, rO, rL, ↓reduceIte, Nat.reduceEqDiff, Nat.reduceAdd, Nat.reduceLeDiff, pBuild, fillA, ↓tyr, ixI hb, ixI hx] | refine Cut.go ?_))
  have e2 : (h.push (.row 51 b.cells)).next = h.next + 1 := rfl
  have o1 : ((h.push (.row 51 b.cells)).push (.row 58 x.cells)).objs h.next = some (.row 51 b.cells) := by simp
  have o2 : ((h.push (.row 51 b.cells)).push (.row 58 x.cells)).objs (h.next + 1) = some (.row 58 x.cells) := by simp
  have nx : ((h.push (.row 51 b.cells)).push (.row 58 x.cells)).next = h.next + 2 := rfl
  have kH : Keeps h ((h.push (.row 51 b.cells)).push (.row 58 x.cells)) (fun _ => False) := (Keeps.one _ _).go (Keeps.one _ _)
  rw [e2]
  generalize ((h.push (.row 51 b.cells)).push (.row 58 x.cells)) = H at *
  simp only [hop]
  obtain ⟨l1, l2, g0, g1, std, dd0, dd1, dd3, sts, ss0, ss1, ss4, stds, ds0, ds1, ds3, ds4, px, pd, qx, kDSp, kSp, kG, kD, kS, kDS⟩ := ri_facts o1 o2 nx kH
  refine CallsA.go (ref_Has_does 9 _) ?_
  repeat' (first | (simp -dsimp -implicitDefEqProofs only [↓rP, rQ, rL, ↓reduceIte, Nat.reduceEqDiff, Nat.reduceAdd, Nat.reduceLeDiff, pBuild, fillA, ↓tyr, Int.reduceBEq, Int.reduceBNe, Int.reduceLT, Int.reduceLE, decide_true, decide_false, f100, f115, f114, f110, f116, f105, f120, nq, hop, ↓l1, ↓l2, wl, ixI hb, ixI hx, ↓g0, ↓g1, ↓std, ↓dd0, ↓dd1, ↓dd3, ↓sts, ↓ss0, ↓ss1, ↓ss4, ↓stds, ↓ds0, ↓ds1, ↓ds3, ↓ds4, ↓px, ↓pd, ↓qx]) | with_reducible refine Cut.go ?_ | with_reducible refine CallsA.go (has_100 _ hl _) ?_ | with_reducible refine CallsA.go (has_115 _ hl _) ?_ | with_reducible refine CallsA.go (has_114 _ hl _) ?_ | with_reducible refine CallsA.go (has_110 _ hl _) ?_ | with_reducible refine CallsA.go (has_116 _ hl _) ?_ | with_reducible refine CallsA.go (has_105 _ hl _) ?_ | with_reducible refine CallsA.go (has_120 _ hl _) ?_ | with_reducible refine CallsA.go (ref_in_does _ _ _) ?_ | with_reducible refine CallsA.go (ref_Inside_p c hs _ _ _) ?_ | with_reducible refine CallsA.go (ref_Good_does _ hn _ hit hitl _) ?_ | with_reducible refine CallsA.go (ref_Good_does _ hn _ hix hixl _) ?_ | with_reducible refine ixB_go (by assumption) ?_ | unfold padlockref09_instr_wp_p1 | unfold padlockref09_instr_wp_p2 | unfold padlockref09_instr_wp_p3 | unfold padlockref09_instr_wp_p4 | unfold padlockref09_instr_wp_p5 | (with_reducible refine Split.intro (fun hq => ?_) (fun hq => ?_) <;> (try simp only [Bool.not_eq_true', Bool.not_eq_false'] at hq) <;> (try rw [hq])))
  all_goals clear l1 l2 g0 g1 std dd0 dd1 dd3 sts ss0 ss1 ss4 stds ds0 ds1 ds3 ds4 px pd qx o1 o2
  all_goals refine And.intro (congrArg AV.bool ?_) (by first | exact kH | exact kG | exact kD _ | exact kS _ | exact kDS _ _ | exact kDSp _ _ _ | exact kSp _ _)
  all_goals clear kH kG kD kS kDS kDSp kSp nx wl nq hl f100 f115 f114 f110 f116 f105 f120 e2 hb hx hcl hixl hitl hix hit hn hs hc
  all_goals have kd := kind x.Dst
  all_goals have ks := kind x.Src
  all_goals clear kind
  all_goals clear hsl
  all_goals simp_all [fieldO_eq, instrB, loadsB, storesB, borderB, plainB, goesB, itemsB, siteB, sameB, isB_btw, isB_not, List.length_pos_iff, gD_some, getI_no, site_iff]
  all_goals try omega
  all_goals try (rw [Bool.eq_iff_iff]; simp_all [beqI]; try omega)
  all_goals try (split <;> simp_all)
  all_goals try omega
theorem ri_15 (c : Cd) (hc : c.ok) (hs : (slL c.Sections).length ≤ 1000000) (t a : Int) (b : Bd) (x : In) (hb : getI (slL c.Threads) t = some b) (hx : getI (slL b.Code) a = some x) (hsl : ∀ l ∈ slL b.Slots, localB c l = true)
    (hn : okI (slL b.Slots).length) (hit : okSl Api_Item.ok x.Items) (hix : okSl Api_Item.ok x.Index) (hitl : (slL x.Items).length ≤ 1000000) (hixl : (slL x.Index).length ≤ 1000000) (hcl : (slL b.Code).length ≤ 1000000) (hop : x.Op = 15) (h : AHeap) :
    CallsA Tryd.prog 39 [.agg c.cells, .int .i64 t, .int .i64 a] h (fun v h2 => v = .bool (instrB c t b x a && (decide (x.Op = 17) == decide (a = (slL b.Code).length - 1))) ∧ Keeps h h2 (fun _ => False)) := by
  have kind : ∀ n : Int, btw n (slL b.Slots).length = true → ((gD b.Slots n).Kind = 1 ∨ (gD b.Slots n).Kind = 3) → (gD b.Slots n).Rec = 0 := fun n hq hk => by
    have := hsl _ (getI_mem (gD_some hq))
    unfold localB at this
    rw [if_neg (by omega)] at this
    simp only [Bool.and_eq_true, decide_eq_true_eq] at this
    exact this.2
  have hl := hasS_len 15
  have nq : (hasS 15 == [63]) = false := rfl
  have f100 : (hasS 15).contains 100 = false := rfl
  have f115 : (hasS 15).contains 115 = false := rfl
  have f114 : (hasS 15).contains 114 = false := rfl
  have f110 : (hasS 15).contains 110 = true := rfl
  have f116 : (hasS 15).contains 116 = false := rfl
  have f105 : (hasS 15).contains 105 = false := rfl
  have f120 : (hasS 15).contains 120 = false := rfl
  have wl : IntKind.i64.wrap (((slL b.Code).length : Int) - 1) = ((slL b.Code).length : Int) - 1 := wrapI (by omega) (by omega)
  apply padlockref09_instr_wp
  (repeat (first | simp -dsimp -implicitDefEqProofs (disch := omega) only [↓rP, rQ, rO, rL, ↓reduceIte, Nat.reduceEqDiff, Nat.reduceAdd, Nat.reduceLeDiff, pBuild, fillA, ↓tyr, ixI hb, ixI hx] | refine Cut.go ?_))
  have e2 : (h.push (.row 51 b.cells)).next = h.next + 1 := rfl
  have o1 : ((h.push (.row 51 b.cells)).push (.row 58 x.cells)).objs h.next = some (.row 51 b.cells) := by simp
  have o2 : ((h.push (.row 51 b.cells)).push (.row 58 x.cells)).objs (h.next + 1) = some (.row 58 x.cells) := by simp
  have nx : ((h.push (.row 51 b.cells)).push (.row 58 x.cells)).next = h.next + 2 := rfl
  have kH : Keeps h ((h.push (.row 51 b.cells)).push (.row 58 x.cells)) (fun _ => False) := (Keeps.one _ _).go (Keeps.one _ _)
  rw [e2]
  generalize ((h.push (.row 51 b.cells)).push (.row 58 x.cells)) = H at *
  simp only [hop]
  obtain ⟨l1, l2, g0, g1, std, dd0, dd1, dd3, sts, ss0, ss1, ss4, stds, ds0, ds1, ds3, ds4, px, pd, qx, kDSp, kSp, kG, kD, kS, kDS⟩ := ri_facts o1 o2 nx kH
  refine CallsA.go (ref_Has_does 15 _) ?_
  repeat' (first | (simp -dsimp -implicitDefEqProofs only [↓rP, rQ, rL, ↓reduceIte, Nat.reduceEqDiff, Nat.reduceAdd, Nat.reduceLeDiff, pBuild, fillA, ↓tyr, Int.reduceBEq, Int.reduceBNe, Int.reduceLT, Int.reduceLE, decide_true, decide_false, f100, f115, f114, f110, f116, f105, f120, nq, hop, ↓l1, ↓l2, wl, ixI hb, ixI hx, ↓g0, ↓g1, ↓std, ↓dd0, ↓dd1, ↓dd3, ↓sts, ↓ss0, ↓ss1, ↓ss4, ↓stds, ↓ds0, ↓ds1, ↓ds3, ↓ds4, ↓px, ↓pd, ↓qx]) | with_reducible refine Cut.go ?_ | with_reducible refine CallsA.go (has_100 _ hl _) ?_ | with_reducible refine CallsA.go (has_115 _ hl _) ?_ | with_reducible refine CallsA.go (has_114 _ hl _) ?_ | with_reducible refine CallsA.go (has_110 _ hl _) ?_ | with_reducible refine CallsA.go (has_116 _ hl _) ?_ | with_reducible refine CallsA.go (has_105 _ hl _) ?_ | with_reducible refine CallsA.go (has_120 _ hl _) ?_ | with_reducible refine CallsA.go (ref_in_does _ _ _) ?_ | with_reducible refine CallsA.go (ref_Inside_p c hs _ _ _) ?_ | with_reducible refine CallsA.go (ref_Good_does _ hn _ hit hitl _) ?_ | with_reducible refine CallsA.go (ref_Good_does _ hn _ hix hixl _) ?_ | with_reducible refine ixB_go (by assumption) ?_ | unfold padlockref09_instr_wp_p1 | unfold padlockref09_instr_wp_p2 | unfold padlockref09_instr_wp_p3 | unfold padlockref09_instr_wp_p4 | unfold padlockref09_instr_wp_p5 | (with_reducible refine Split.intro (fun hq => ?_) (fun hq => ?_) <;> (try simp only [Bool.not_eq_true', Bool.not_eq_false'] at hq) <;> (try rw [hq])))
  all_goals clear l1 l2 g0 g1 std dd0 dd1 dd3 sts ss0 ss1 ss4 stds ds0 ds1 ds3 ds4 px pd qx o1 o2
  all_goals refine And.intro (congrArg AV.bool ?_) (by first | exact kH | exact kG | exact kD _ | exact kS _ | exact kDS _ _ | exact kDSp _ _ _ | exact kSp _ _)
  all_goals clear kH kG kD kS kDS kDSp kSp nx wl nq hl f100 f115 f114 f110 f116 f105 f120 e2 hb hx hcl hixl hitl hix hit hn hs hc
  all_goals have kd := kind x.Dst
  all_goals have ks := kind x.Src
  all_goals clear kind
  all_goals clear hsl
  all_goals simp_all [fieldO_eq, instrB, loadsB, storesB, borderB, plainB, goesB, itemsB, siteB, sameB, isB_btw, isB_not, List.length_pos_iff, gD_some, getI_no, site_iff]
  all_goals try omega
  all_goals try (rw [Bool.eq_iff_iff]; simp_all [beqI]; try omega)
  all_goals try (split <;> simp_all)
  all_goals try omega
theorem ri_16 (c : Cd) (hc : c.ok) (hs : (slL c.Sections).length ≤ 1000000) (t a : Int) (b : Bd) (x : In) (hb : getI (slL c.Threads) t = some b) (hx : getI (slL b.Code) a = some x) (hsl : ∀ l ∈ slL b.Slots, localB c l = true)
    (hn : okI (slL b.Slots).length) (hit : okSl Api_Item.ok x.Items) (hix : okSl Api_Item.ok x.Index) (hitl : (slL x.Items).length ≤ 1000000) (hixl : (slL x.Index).length ≤ 1000000) (hcl : (slL b.Code).length ≤ 1000000) (hop : x.Op = 16) (h : AHeap) :
    CallsA Tryd.prog 39 [.agg c.cells, .int .i64 t, .int .i64 a] h (fun v h2 => v = .bool (instrB c t b x a && (decide (x.Op = 17) == decide (a = (slL b.Code).length - 1))) ∧ Keeps h h2 (fun _ => False)) := by
  have kind : ∀ n : Int, btw n (slL b.Slots).length = true → ((gD b.Slots n).Kind = 1 ∨ (gD b.Slots n).Kind = 3) → (gD b.Slots n).Rec = 0 := fun n hq hk => by
    have := hsl _ (getI_mem (gD_some hq))
    unfold localB at this
    rw [if_neg (by omega)] at this
    simp only [Bool.and_eq_true, decide_eq_true_eq] at this
    exact this.2
  have hl := hasS_len 16
  have nq : (hasS 16 == [63]) = false := rfl
  have f100 : (hasS 16).contains 100 = false := rfl
  have f115 : (hasS 16).contains 115 = false := rfl
  have f114 : (hasS 16).contains 114 = false := rfl
  have f110 : (hasS 16).contains 110 = true := rfl
  have f116 : (hasS 16).contains 116 = false := rfl
  have f105 : (hasS 16).contains 105 = false := rfl
  have f120 : (hasS 16).contains 120 = false := rfl
  have wl : IntKind.i64.wrap (((slL b.Code).length : Int) - 1) = ((slL b.Code).length : Int) - 1 := wrapI (by omega) (by omega)
  apply padlockref09_instr_wp
  (repeat (first | simp -dsimp -implicitDefEqProofs (disch := omega) only [↓rP, rQ, rO, rL, ↓reduceIte, Nat.reduceEqDiff, Nat.reduceAdd, Nat.reduceLeDiff, pBuild, fillA, ↓tyr, ixI hb, ixI hx] | refine Cut.go ?_))
  have e2 : (h.push (.row 51 b.cells)).next = h.next + 1 := rfl
  have o1 : ((h.push (.row 51 b.cells)).push (.row 58 x.cells)).objs h.next = some (.row 51 b.cells) := by simp
  have o2 : ((h.push (.row 51 b.cells)).push (.row 58 x.cells)).objs (h.next + 1) = some (.row 58 x.cells) := by simp
  have nx : ((h.push (.row 51 b.cells)).push (.row 58 x.cells)).next = h.next + 2 := rfl
  have kH : Keeps h ((h.push (.row 51 b.cells)).push (.row 58 x.cells)) (fun _ => False) := (Keeps.one _ _).go (Keeps.one _ _)
  rw [e2]
  generalize ((h.push (.row 51 b.cells)).push (.row 58 x.cells)) = H at *
  simp only [hop]
  obtain ⟨l1, l2, g0, g1, std, dd0, dd1, dd3, sts, ss0, ss1, ss4, stds, ds0, ds1, ds3, ds4, px, pd, qx, kDSp, kSp, kG, kD, kS, kDS⟩ := ri_facts o1 o2 nx kH
  refine CallsA.go (ref_Has_does 16 _) ?_
  repeat' (first | (simp -dsimp -implicitDefEqProofs only [↓rP, rQ, rL, ↓reduceIte, Nat.reduceEqDiff, Nat.reduceAdd, Nat.reduceLeDiff, pBuild, fillA, ↓tyr, Int.reduceBEq, Int.reduceBNe, Int.reduceLT, Int.reduceLE, decide_true, decide_false, f100, f115, f114, f110, f116, f105, f120, nq, hop, ↓l1, ↓l2, wl, ixI hb, ixI hx, ↓g0, ↓g1, ↓std, ↓dd0, ↓dd1, ↓dd3, ↓sts, ↓ss0, ↓ss1, ↓ss4, ↓stds, ↓ds0, ↓ds1, ↓ds3, ↓ds4, ↓px, ↓pd, ↓qx]) | with_reducible refine Cut.go ?_ | with_reducible refine CallsA.go (has_100 _ hl _) ?_ | with_reducible refine CallsA.go (has_115 _ hl _) ?_ | with_reducible refine CallsA.go (has_114 _ hl _) ?_ | with_reducible refine CallsA.go (has_110 _ hl _) ?_ | with_reducible refine CallsA.go (has_116 _ hl _) ?_ | with_reducible refine CallsA.go (has_105 _ hl _) ?_ | with_reducible refine CallsA.go (has_120 _ hl _) ?_ | with_reducible refine CallsA.go (ref_in_does _ _ _) ?_ | with_reducible refine CallsA.go (ref_Inside_p c hs _ _ _) ?_ | with_reducible refine CallsA.go (ref_Good_does _ hn _ hit hitl _) ?_ | with_reducible refine CallsA.go (ref_Good_does _ hn _ hix hixl _) ?_ | with_reducible refine ixB_go (by assumption) ?_ | unfold padlockref09_instr_wp_p1 | unfold padlockref09_instr_wp_p2 | unfold padlockref09_instr_wp_p3 | unfold padlockref09_instr_wp_p4 | unfold padlockref09_instr_wp_p5 | (with_reducible refine Split.intro (fun hq => ?_) (fun hq => ?_) <;> (try simp only [Bool.not_eq_true', Bool.not_eq_false'] at hq) <;> (try rw [hq])))
  all_goals clear l1 l2 g0 g1 std dd0 dd1 dd3 sts ss0 ss1 ss4 stds ds0 ds1 ds3 ds4 px pd qx o1 o2
  all_goals refine And.intro (congrArg AV.bool ?_) (by first | exact kH | exact kG | exact kD _ | exact kS _ | exact kDS _ _ | exact kDSp _ _ _ | exact kSp _ _)
  all_goals clear kH kG kD kS kDS kDSp kSp nx wl nq hl f100 f115 f114 f110 f116 f105 f120 e2 hb hx hcl hixl hitl hix hit hn hs hc
  all_goals have kd := kind x.Dst
  all_goals have ks := kind x.Src
  all_goals clear kind
  all_goals clear hsl
  all_goals simp_all [fieldO_eq, instrB, loadsB, storesB, borderB, plainB, goesB, itemsB, siteB, sameB, isB_btw, isB_not, List.length_pos_iff, gD_some, getI_no, site_iff]
  all_goals try omega
  all_goals try (rw [Bool.eq_iff_iff]; simp_all [beqI]; try omega)
  all_goals try (split <;> simp_all)
  all_goals try omega
end Go.Proofs.YtopfjochppdnfaaDoor
end

section
/- What the document's instr computes, of every instruction. -/
set_option maxRecDepth 100000
set_option maxHeartbeats 1000000
namespace Go.Proofs.YtopfjochppdnfaaDoor
open Go.Abs
noncomputable def instrR (c : Cd) (t : Int) (b : Bd) (x : In) (a : Int) : Bool := instrB c t b x a && (decide (x.Op = 17) == decide (a = (slL b.Code).length - 1))
theorem instrB_none {c : Cd} {t : Int} {b : Bd} {x : In} {a : Int} (ho : x.Op < 1 ∨ 17 < x.Op) : instrB c t b x a = false := by
  unfold instrB
  rw [if_neg (by omega), if_neg (by omega), if_neg (by omega), if_neg (by omega), if_neg (by omega), if_neg (by omega), if_neg (by omega), if_neg (by omega)]
  have : decide (x.Op = 17) = false := decide_eq_false (by omega)
  simp [this]
theorem ri_0 (c : Cd) (t a : Int) (b : Bd) (x : In) (hb : getI (slL c.Threads) t = some b) (hx : getI (slL b.Code) a = some x) (ho : x.Op < 1 ∨ 17 < x.Op) (h : AHeap) :
    CallsA Tryd.prog 39 [.agg c.cells, .int .i64 t, .int .i64 a] h (fun v h2 => v = .bool (instrR c t b x a) ∧ Keeps h h2 (fun _ => False)) := by
  have hs : hasS x.Op = [63] := by unfold hasS; rw [if_pos (by omega)]
  have nq : ([63] == ([63] : List UInt8)) = true := rfl
  apply padlockref09_instr_wp
  (repeat (first | simp -dsimp -implicitDefEqProofs (disch := omega) only [↓rP, rQ, rO, rL, ↓reduceIte, Nat.reduceEqDiff, Nat.reduceAdd, Nat.reduceLeDiff, pBuild, fillA, ↓tyr, ixI hb, ixI hx] | refine Cut.go ?_))
  refine CallsA.go (ref_Has_does x.Op _) ?_
  rw [hs]
  repeat' (first | (simp -dsimp -implicitDefEqProofs only [↓rP, rQ, rL, ↓reduceIte, Nat.reduceEqDiff, Nat.reduceAdd, Nat.reduceLeDiff, pBuild, fillA, ↓tyr, Int.reduceBEq, Int.reduceBNe, Int.reduceLT, Int.reduceLE, decide_true, decide_false, nq]) | with_reducible refine Cut.go ?_ | unfold padlockref09_instr_wp_p1 | unfold padlockref09_instr_wp_p2 | unfold padlockref09_instr_wp_p3 | unfold padlockref09_instr_wp_p4 | unfold padlockref09_instr_wp_p5)
  unfold instrR
  rw [instrB_none ho]
  exact ⟨rfl, (Keeps.one _ _).go (Keeps.one _ _)⟩
theorem ref_instr_does (c : Cd) (hc : c.ok) (sm : Small c) (t a : Int) (b : Bd) (x : In) (hb : getI (slL c.Threads) t = some b) (hx : getI (slL b.Code) a = some x) (hsl : ∀ l ∈ slL b.Slots, localB c l = true) (h : AHeap) :
    CallsA Tryd.prog 39 [.agg c.cells, .int .i64 t, .int .i64 a] h (fun v h2 => v = .bool (instrR c t b x a) ∧ h2 = h) := by
  have mb := getI_mem hb
  have mx := getI_mem hx
  have hs : (slL c.Sections).length ≤ 1000000 := by have := sm.secs; omega
  have h1 := sm.slots b mb
  have h2 := sm.code b mb
  have h3 := sm.items b mb x mx
  have h4 := sm.index b mb x mx
  have hxo := (hc.2.2.1.2 b mb).2.1.2 x mx
  have hit := hxo.2.2.2.2.2.2.1
  have hix := hxo.2.2.2.2.2.2.2
  have hn : okI (slL b.Slots).length := by unfold okI; omega
  refine CallsA.forget (by simp [idsIn]) ?_
  unfold instrR
  rcases (by omega : (x.Op < 1 ∨ 17 < x.Op) ∨ x.Op = 1 ∨ x.Op = 2 ∨ x.Op = 3 ∨ x.Op = 4 ∨ x.Op = 5 ∨ x.Op = 6 ∨ x.Op = 7 ∨ x.Op = 8 ∨ x.Op = 9 ∨ x.Op = 10 ∨ x.Op = 11 ∨ x.Op = 12 ∨ x.Op = 13 ∨ x.Op = 14 ∨ x.Op = 15 ∨ x.Op = 16 ∨ x.Op = 17) with ho | ho | ho | ho | ho | ho | ho | ho | ho | ho | ho | ho | ho | ho | ho | ho | ho | ho
  · exact ri_0 c t a b x hb hx ho h
  · exact ri_1 c hc hs t a b x hb hx hsl hn hit hix (by omega) (by omega) (by omega) ho h
  · exact ri_2 c hc hs t a b x hb hx hsl hn hit hix (by omega) (by omega) (by omega) ho h
  · exact ri_3 c hc hs t a b x hb hx hsl hn hit hix (by omega) (by omega) (by omega) ho h
  · exact ri_4 c hc hs t a b x hb hx hsl hn hit hix (by omega) (by omega) (by omega) ho h
  · exact ri_5 c hc hs t a b x hb hx hsl hn hit hix (by omega) (by omega) (by omega) ho h
  · exact ri_6 c hc hs t a b x hb hx hsl hn hit hix (by omega) (by omega) (by omega) ho h
  · exact ri_7 c hc hs t a b x hb hx hsl hn hit hix (by omega) (by omega) (by omega) ho h
  · exact ri_8 c hc hs t a b x hb hx hsl hn hit hix (by omega) (by omega) (by omega) ho h
  · exact ri_9 c hc hs t a b x hb hx hsl hn hit hix (by omega) (by omega) (by omega) ho h
  · exact ri_10 c hc hs t a b x hb hx hsl hn hit hix (by omega) (by omega) (by omega) ho h
  · exact ri_11 c hc hs t a b x hb hx hsl hn hit hix (by omega) (by omega) (by omega) ho h
  · exact ri_12 c hc hs t a b x hb hx hsl hn hit hix (by omega) (by omega) (by omega) ho h
  · exact ri_13 c hc hs t a b x hb hx hsl hn hit hix (by omega) (by omega) (by omega) ho h
  · exact ri_14 c hc hs t a b x hb hx hsl hn hit hix (by omega) (by omega) (by omega) ho h
  · exact ri_15 c hc hs t a b x hb hx hsl hn hit hix (by omega) (by omega) (by omega) ho h
  · exact ri_16 c hc hs t a b x hb hx hsl hn hit hix (by omega) (by omega) (by omega) ho h
  · exact ri_17 c hc hs t a b x hb hx hsl hn hit hix (by omega) (by omega) (by omega) ho h
end Go.Proofs.YtopfjochppdnfaaDoor
end

section
/- The document's Good: its loops within loops. -/
set_option maxRecDepth 100000
set_option maxHeartbeats 1000000
namespace Go.Proofs.YtopfjochppdnfaaDoor
open Go.Abs
theorem all_no {α : Type} {p : α → Bool} {l : List α} {k : Nat} {x : α} (hx : l[k]? = some x) (hp : p x = false) : l.all p = false := List.all_eq_false.2 ⟨x, List.mem_of_getElem? hx, by simp [hp]⟩
theorem all_yes {α : Type} {p : α → Bool} {l : List α} (h : upTo (fun _ x => p x) l l.length) : l.all p = true := by
  rw [List.all_eq_true]
  intro x hx
  obtain ⟨k, hk⟩ := List.getElem?_of_mem hx
  exact h k x (List.getElem?_eq_some_iff.1 hk).1 hk
theorem g_cells (c : Cd) (o : Option (List Lo)) (hl : (slL o).length ≤ 1000000) (a57 a58 a59 : AV) (h0 : AHeap) (Q : AExit → Fr → AHeap → Prop)
    (hret : ∀ h2, (slL o).all (fun x => !x.Once && localB c x) = false → Keeps h0 h2 (fun _ => False) → Q .ret (frOf [(2, .bool false)]) h2)
    (hex : ∀ h2, (slL o).all (fun x => !x.Once && localB c x) = true → Keeps h0 h2 (fun _ => False) → Q (.exit 2) (frOf [(1, .iptr c.cells), (57, a57), (58, a58), (59, a59)]) h2) :
    WP Tryd.prog 324 (.loop c_padlockref09_GoodR_10) (frOf [(1, .iptr c.cells), (57, a57), (58, a58), (59, a59), (71, slAV 3 Api_Local.cells o), (72, .int .i64 (slL o).length), (73, .int .i64 0)]) h0 Q := by
  obtain ⟨I, hI⟩ : ∃ I : Nat → Fr → AHeap → Prop, I = (fun n fr hh => ∃ k : Nat, k ≤ (slL o).length ∧ n = (slL o).length - k ∧ upTo (fun _ x => !x.Once && localB c x) (slL o) k ∧ Keeps h0 hh (fun _ => False) ∧ fr = frOf [(1, .iptr c.cells), (57, a57), (58, a58), (59, a59), (71, slAV 3 Api_Local.cells o), (72, .int .i64 (slL o).length), (73, .int .i64 k)]) := ⟨_, rfl⟩
  refine WP_loop mixed_ (by kernel_rfl) I (slL o).length (by rw [hI]; exact ⟨0, by omega, by omega, upTo_zero _ _, .refl _ _, rfl⟩) ?_
  intro n fr hh H
  rw [hI] at H
  obtain ⟨k, hk, rfl, hup, kp, rfl⟩ := H
  apply padlockref09_GoodR_loop10
  (repeat simp -dsimp -implicitDefEqProofs (disch := omega) only [↓rP, rQ, rO, rL, ↓reduceIte, Nat.reduceEqDiff, Nat.reduceAdd, Nat.reduceLeDiff, pBuild, fillA, ↓tyr])
  refine Split_lt (fun hkl => ?_) (fun hkl => ?_)
  · obtain ⟨x, hx⟩ : ∃ x, (slL o)[k]? = some x := ⟨_, List.getElem?_eq_getElem (by omega)⟩
    have kp1 := kp.go (Keeps.one hh (.row 69 x.cells))
    have on : (!x.Once && localB c x) = true → loopPost I ((slL o).length - k) Q .normal (frOf [(1, .iptr c.cells), (57, a57), (58, a58), (59, a59), (71, slAV 3 Api_Local.cells o), (72, .int .i64 (slL o).length), (73, .int .i64 (k + 1 : Nat))]) (hh.push (.row 69 x.cells)) := fun hp => by
      rw [loopPost_normal, hI]
      exact ⟨_, by omega, k + 1, by omega, rfl, upTo_succ hup hx hp, kp1, rfl⟩
    have no : (!x.Once && localB c x) = false → Q .ret (frOf [(2, .bool false)]) (hh.push (.row 69 x.cells)) := fun hp => hret _ (all_no hx hp) kp1
    (repeat simp -dsimp -implicitDefEqProofs (disch := omega) only [↓rP, rQ, rO, rL, ↓reduceIte, Nat.reduceEqDiff, Nat.reduceAdd, Nat.reduceLeDiff, pBuild, fillA, ↓tyr, pIndexAddr_slAV hx])
    rcases ho : x.Once with _ | _
    · (repeat simp -dsimp -implicitDefEqProofs (disch := omega) only [↓rP, rQ, rO, rL, ↓reduceIte, Nat.reduceEqDiff, Nat.reduceAdd, Nat.reduceLeDiff, pBuild, fillA, ↓tyr, ho])
      refine CallsA.go (ref_local_does c x _) ?_
      rcases hb : localB c x with _ | _
      · (repeat simp -dsimp -implicitDefEqProofs (disch := omega) only [↓rP, rQ, rO, rL, ↓reduceIte, Nat.reduceEqDiff, Nat.reduceAdd, Nat.reduceLeDiff, pBuild, fillA, ↓tyr, ho, Bool.not_false])
        exact no (by rw [ho, hb]; rfl)
      · (repeat simp -dsimp -implicitDefEqProofs (disch := omega) only [↓rP, rQ, rO, rL, ↓reduceIte, Nat.reduceEqDiff, Nat.reduceAdd, Nat.reduceLeDiff, pBuild, fillA, ↓tyr, ho, Bool.not_true, wkS k (by omega)])
        exact on (by rw [ho, hb]; rfl)
    · (repeat simp -dsimp -implicitDefEqProofs (disch := omega) only [↓rP, rQ, rO, rL, ↓reduceIte, Nat.reduceEqDiff, Nat.reduceAdd, Nat.reduceLeDiff, pBuild, fillA, ↓tyr, ho])
      exact no (by rw [ho]; rfl)
  · have hke : k = (slL o).length := by omega
    subst hke
    (repeat simp -dsimp -implicitDefEqProofs (disch := omega) only [↓rP, rQ, rO, rL, ↓reduceIte, Nat.reduceEqDiff, Nat.reduceAdd, Nat.reduceLeDiff, pBuild, fillA, ↓tyr])
    exact hex hh (all_yes hup) kp
theorem g_slots (c : Cd) (o : Option (List Lo)) (hl : (slL o).length ≤ 1000000) (a88 a89 a90 : AV) (h0 : AHeap) (Q : AExit → Fr → AHeap → Prop)
    (hret : ∀ h2, (slL o).all (localB c) = false → Keeps h0 h2 (fun _ => False) → Q .ret (frOf [(2, .bool false)]) h2)
    (hex : ∀ h2, (slL o).all (localB c) = true → Keeps h0 h2 (fun _ => False) → Q (.exit 6) (frOf [(1, .iptr c.cells), (88, a88), (89, a89), (90, a90)]) h2) :
    WP Tryd.prog 324 (.loop c_padlockref09_GoodR_22) (frOf [(1, .iptr c.cells), (88, a88), (89, a89), (90, a90), (121, slAV 3 Api_Local.cells o), (122, .int .i64 (slL o).length), (123, .int .i64 0)]) h0 Q := by
  obtain ⟨I, hI⟩ : ∃ I : Nat → Fr → AHeap → Prop, I = (fun n fr hh => ∃ k : Nat, k ≤ (slL o).length ∧ n = (slL o).length - k ∧ upTo (fun _ x => localB c x) (slL o) k ∧ Keeps h0 hh (fun _ => False) ∧ fr = frOf [(1, .iptr c.cells), (88, a88), (89, a89), (90, a90), (121, slAV 3 Api_Local.cells o), (122, .int .i64 (slL o).length), (123, .int .i64 k)]) := ⟨_, rfl⟩
  refine WP_loop mixed_ (by kernel_rfl) I (slL o).length (by rw [hI]; exact ⟨0, by omega, by omega, upTo_zero _ _, .refl _ _, rfl⟩) ?_
  intro n fr hh H
  rw [hI] at H
  obtain ⟨k, hk, rfl, hup, kp, rfl⟩ := H
  apply padlockref09_GoodR_loop22
  (repeat simp -dsimp -implicitDefEqProofs (disch := omega) only [↓rP, rQ, rO, rL, ↓reduceIte, Nat.reduceEqDiff, Nat.reduceAdd, Nat.reduceLeDiff, pBuild, fillA, ↓tyr])
  refine Split_lt (fun hkl => ?_) (fun hkl => ?_)
  · obtain ⟨x, hx⟩ : ∃ x, (slL o)[k]? = some x := ⟨_, List.getElem?_eq_getElem (by omega)⟩
    have kp1 := kp.go (Keeps.one hh (.row 69 x.cells))
    (repeat simp -dsimp -implicitDefEqProofs (disch := omega) only [↓rP, rQ, rO, rL, ↓reduceIte, Nat.reduceEqDiff, Nat.reduceAdd, Nat.reduceLeDiff, pBuild, fillA, ↓tyr, pIndexAddr_slAV hx])
    refine CallsA.go (ref_local_does c x _) ?_
    rcases hb : localB c x with _ | _
    · (repeat simp -dsimp -implicitDefEqProofs (disch := omega) only [↓rP, rQ, rO, rL, ↓reduceIte, Nat.reduceEqDiff, Nat.reduceAdd, Nat.reduceLeDiff, pBuild, fillA, ↓tyr, Bool.not_false])
      exact hret _ (all_no hx hb) kp1
    · (repeat simp -dsimp -implicitDefEqProofs (disch := omega) only [↓rP, rQ, rO, rL, ↓reduceIte, Nat.reduceEqDiff, Nat.reduceAdd, Nat.reduceLeDiff, pBuild, fillA, ↓tyr, Bool.not_true, wkS k (by omega)])
      rw [loopPost_normal, hI]
      exact ⟨_, by omega, k + 1, by omega, rfl, upTo_succ hup hx hb, kp1, rfl⟩
  · have hke : k = (slL o).length := by omega
    subst hke
    (repeat simp -dsimp -implicitDefEqProofs (disch := omega) only [↓rP, rQ, rO, rL, ↓reduceIte, Nat.reduceEqDiff, Nat.reduceAdd, Nat.reduceLeDiff, pBuild, fillA, ↓tyr])
    exact hex hh (all_yes hup) kp
theorem g_instrs (c : Cd) (hc : c.ok) (sm : Small c) (i : Nat) (b : Bd) (hb : (slL c.Threads)[i]? = some b) (hsl : ∀ l ∈ slL b.Slots, localB c l = true) (a304 a305 a306 : AV) (h0 : AHeap) (Q : AExit → Fr → AHeap → Prop)
    (hret : allK (fun k x => instrR c i b x k) (slL b.Code) = false → Q .ret (frOf [(2, .bool false)]) h0)
    (hex : allK (fun k x => instrR c i b x k) (slL b.Code) = true → Q (.exit 16) (frOf [(1, .iptr c.cells), (304, a304), (305, a305), (306, a306)]) h0) :
    WP Tryd.prog 324 (.loop c_padlockref09_GoodR_56) (frOf [(1, .iptr c.cells), (20, .int .i64 i), (304, a304), (305, a305), (306, a306), (313, .int .i64 (slL b.Code).length), (314, .int .i64 0)]) h0 Q := by
  have hcl := sm.code b (List.mem_of_getElem? hb)
  obtain ⟨I, hI⟩ : ∃ I : Nat → Fr → AHeap → Prop, I = (fun n fr hh => ∃ k : Nat, k ≤ (slL b.Code).length ∧ n = (slL b.Code).length - k ∧ upTo (fun k x => instrR c i b x k) (slL b.Code) k ∧ hh = h0 ∧ fr = frOf [(1, .iptr c.cells), (20, .int .i64 i), (304, a304), (305, a305), (306, a306), (313, .int .i64 (slL b.Code).length), (314, .int .i64 k)]) := ⟨_, rfl⟩
  refine WP_loop mixed_ (by kernel_rfl) I (slL b.Code).length (by rw [hI]; exact ⟨0, by omega, by omega, upTo_zero _ _, rfl, rfl⟩) ?_
  intro n fr hh H
  rw [hI] at H
  obtain ⟨k, hk, rfl, hup, rfl, rfl⟩ := H
  apply padlockref09_GoodR_loop56
  (repeat simp -dsimp -implicitDefEqProofs (disch := omega) only [↓rP, rQ, rO, rL, ↓reduceIte, Nat.reduceEqDiff, Nat.reduceAdd, Nat.reduceLeDiff, pBuild, fillA, ↓tyr])
  refine Split_lt (fun hkl => ?_) (fun hkl => ?_)
  · obtain ⟨x, hx⟩ : ∃ x, (slL b.Code)[k]? = some x := ⟨_, List.getElem?_eq_getElem (by omega)⟩
    (repeat simp -dsimp -implicitDefEqProofs (disch := omega) only [↓rP, rQ, rO, rL, ↓reduceIte, Nat.reduceEqDiff, Nat.reduceAdd, Nat.reduceLeDiff, pBuild, fillA, ↓tyr])
    refine CallsA.go (ref_instr_does c hc sm i k b x (by rw [getI_natCast]; exact hb) (by rw [getI_natCast]; exact hx) hsl _) ?_
    rcases hi : instrR c i b x k with _ | _
    · (repeat simp -dsimp -implicitDefEqProofs (disch := omega) only [↓rP, rQ, rO, rL, ↓reduceIte, Nat.reduceEqDiff, Nat.reduceAdd, Nat.reduceLeDiff, pBuild, fillA, ↓tyr, Bool.not_false])
      exact hret (allK_false hx hi)
    · (repeat simp -dsimp -implicitDefEqProofs (disch := omega) only [↓rP, rQ, rO, rL, ↓reduceIte, Nat.reduceEqDiff, Nat.reduceAdd, Nat.reduceLeDiff, pBuild, fillA, ↓tyr, Bool.not_true, wkS k (by omega)])
      rw [loopPost_normal, hI]
      exact ⟨_, by omega, k + 1, by omega, rfl, upTo_succ hup hx hi, rfl, rfl⟩
  · have hke : k = (slL b.Code).length := by omega
    subst hke
    (repeat simp -dsimp -implicitDefEqProofs (disch := omega) only [↓rP, rQ, rO, rL, ↓reduceIte, Nat.reduceEqDiff, Nat.reduceAdd, Nat.reduceLeDiff, pBuild, fillA, ↓tyr])
    exact hex (upTo_all hup)
end Go.Proofs.YtopfjochppdnfaaDoor
end

section
/- The document's Good: its outer loops. -/
set_option maxRecDepth 100000
set_option maxHeartbeats 1000000
namespace Go.Proofs.YtopfjochppdnfaaDoor
open Go.Abs
def cellP (c : Cd) (o : Option (List Lo)) : Bool := (slL o).all (fun x => !x.Once && localB c x)
def rowP (c : Cd) (i : Nat) (o : Option (List Lo)) : Bool := !(decide (0 < i) && decide (6 < (slL o).length)) && cellP c o
theorem g_rows (c : Cd) (ls : List (Option (List Lo))) (hl : ls.length ≤ 1000) (hr : ∀ o ∈ ls, (slL o).length ≤ 1000) (h0 : AHeap) (id : Nat) (hid : id < h0.next) (ho : h0.objs id = some (.row 39 (ls.map fun o => slAV 3 Api_Local.cells o))) (Q : AExit → Fr → AHeap → Prop)
    (hret : ∀ h2, allK (rowP c) ls = false → Keeps h0 h2 (fun _ => False) → Q .ret (frOf [(2, .bool false)]) h2)
    (hex : ∀ h2, allK (rowP c) ls = true → Keeps h0 h2 (fun _ => False) → Q (.exit 0) (frOf [(1, .iptr c.cells)]) h2) :
    WP Tryd.prog 324 (.loop c_padlockref09_GoodR_5) (frOf [(1, .iptr c.cells), (57, .sl id 0 ls.length 1), (58, .int .i64 ls.length), (59, .int .i64 0)]) h0 Q := by
  obtain ⟨I, hI⟩ : ∃ I : Nat → Fr → AHeap → Prop, I = (fun n fr hh => ∃ k : Nat, k ≤ ls.length ∧ n = ls.length - k ∧ upTo (rowP c) ls k ∧ Keeps h0 hh (fun _ => False) ∧ fr = frOf [(1, .iptr c.cells), (57, .sl id 0 ls.length 1), (58, .int .i64 ls.length), (59, .int .i64 k)]) := ⟨_, rfl⟩
  refine WP_loop mixed_ (by kernel_rfl) I ls.length (by rw [hI]; exact ⟨0, by omega, by omega, upTo_zero _ _, .refl _ _, rfl⟩) ?_
  intro n fr hh H
  rw [hI] at H
  obtain ⟨k, hk, rfl, hup, kp, rfl⟩ := H
  apply padlockref09_GoodR_loop5
  (repeat simp -dsimp -implicitDefEqProofs (disch := omega) only [↓rP, rQ, rO, rL, ↓reduceIte, Nat.reduceEqDiff, Nat.reduceAdd, Nat.reduceLeDiff, pBuild, fillA, ↓tyr])
  refine Split_lt (fun hkl => ?_) (fun hkl => ?_)
  · obtain ⟨o, hx⟩ : ∃ o, ls[k]? = some o := ⟨_, List.getElem?_eq_getElem (by omega)⟩
    have hol := hr o (List.mem_of_getElem? hx)
    have ix : ∀ K : AV → Prop, pIndexAddr (.slice 1) (.sl id 0 ls.length 1) (.int .i64 (k : Int)) K = K (.ptr id k) := fun K => by
      simp [pIndexAddr]; omega
    have ho2 : hh.objs id = some (.row 39 (ls.map fun o => slAV 3 Api_Local.cells o)) := by rw [kp.objs id hid (by simp)]; exact ho
    have ld : ∀ K : AV → Prop, pLoad none (.ptr id k) hh K = K (slAV 3 Api_Local.cells o) := fun K => by
      rw [pLoad_ptr ho2, pCells_none_some (v := slAV 3 Api_Local.cells o) (by rw [List.getElem?_map, hx]; rfl)]
    have bad : rowP c k o = false → allK (rowP c) ls = false := fun hp => allK_false hx hp
    have inner : rowP c k o = cellP c o → WP Tryd.prog 324 (.loop c_padlockref09_GoodR_10) (frOf [(1, .iptr c.cells), (57, .sl id 0 ls.length 1), (58, .int .i64 ls.length), (59, .int .i64 k), (71, slAV 3 Api_Local.cells o), (72, .int .i64 (slL o).length), (73, .int .i64 0)]) hh (fun e fr h2 => match e with | .ret => cellP c o = false ∧ Keeps hh h2 (fun _ => False) ∧ fr = frOf [(2, .bool false)] | .exit i => i = 2 ∧ cellP c o = true ∧ Keeps hh h2 (fun _ => False) ∧ fr = frOf [(1, .iptr c.cells), (57, .sl id 0 ls.length 1), (58, .int .i64 ls.length), (59, .int .i64 k)] | .normal => False) := fun _ =>
      g_cells c o (by omega) _ _ _ hh _ (fun h2 h k => ⟨h, k, rfl⟩) (fun h2 h k => ⟨rfl, h, k, rfl⟩)
    (repeat simp -dsimp -implicitDefEqProofs (disch := omega) only [↓rP, rQ, rO, rL, ↓reduceIte, Nat.reduceEqDiff, Nat.reduceAdd, Nat.reduceLeDiff, pBuild, fillA, ↓tyr, ↓ix, ↓ld])
    refine Split_lt (fun h0k => ?_) (fun h0k => ?_)
    · (repeat simp -dsimp -implicitDefEqProofs (disch := omega) only [↓rP, rQ, rO, rL, ↓reduceIte, Nat.reduceEqDiff, Nat.reduceAdd, Nat.reduceLeDiff, pBuild, fillA, ↓tyr, ↓ix, ↓ld])
      refine Split_lt (fun h6 => ?_) (fun h6 => ?_)
      · (repeat simp -dsimp -implicitDefEqProofs (disch := omega) only [↓rP, rQ, rO, rL, ↓reduceIte, Nat.reduceEqDiff, Nat.reduceAdd, Nat.reduceLeDiff, pBuild, fillA, ↓tyr])
        have e1 : decide (0 < k) = true := decide_eq_true (by omega)
        have e2 : decide (6 < (slL o).length) = true := decide_eq_true (by omega)
        exact hret hh (bad (by unfold rowP; rw [e1, e2]; rfl)) kp
      · have e2 : decide (6 < (slL o).length) = false := decide_eq_false (by omega)
        have e : rowP c k o = cellP c o := by unfold rowP; rw [e2, Bool.and_false]; rfl
        (repeat simp -dsimp -implicitDefEqProofs (disch := omega) only [↓rP, rQ, rO, rL, ↓reduceIte, Nat.reduceEqDiff, Nat.reduceAdd, Nat.reduceLeDiff, pBuild, fillA, ↓tyr])
        refine (inner e).mono ?_
        rintro (_ | i | _) fr h2 hq
        · exact hq.elim
        · obtain ⟨rfl, q1, q2, rfl⟩ := hq
          (repeat simp -dsimp -implicitDefEqProofs (disch := omega) only [↓rP, rQ, rO, rL, ↓reduceIte, Nat.reduceEqDiff, Nat.reduceAdd, Nat.reduceLeDiff, pBuild, fillA, ↓tyr, wkS k (by omega)])
          rw [loopPost_normal, hI]
          exact ⟨_, by omega, k + 1, by omega, rfl, upTo_succ hup hx (by rw [e]; exact q1), kp.go q2, rfl⟩
        · obtain ⟨q1, q2, rfl⟩ := hq
          (repeat simp -dsimp -implicitDefEqProofs (disch := omega) only [↓rP, rQ, rO, rL, ↓reduceIte, Nat.reduceEqDiff, Nat.reduceAdd, Nat.reduceLeDiff, pBuild, fillA, ↓tyr])
          exact hret h2 (bad (by rw [e]; exact q1)) (kp.go q2)
    · have e1 : decide (0 < k) = false := decide_eq_false (by omega)
      have e : rowP c k o = cellP c o := by unfold rowP; rw [e1, Bool.false_and]; rfl
      (repeat simp -dsimp -implicitDefEqProofs (disch := omega) only [↓rP, rQ, rO, rL, ↓reduceIte, Nat.reduceEqDiff, Nat.reduceAdd, Nat.reduceLeDiff, pBuild, fillA, ↓tyr])
      refine (inner e).mono ?_
      rintro (_ | i | _) fr h2 hq
      · exact hq.elim
      · obtain ⟨rfl, q1, q2, rfl⟩ := hq
        (repeat simp -dsimp -implicitDefEqProofs (disch := omega) only [↓rP, rQ, rO, rL, ↓reduceIte, Nat.reduceEqDiff, Nat.reduceAdd, Nat.reduceLeDiff, pBuild, fillA, ↓tyr, wkS k (by omega)])
        rw [loopPost_normal, hI]
        exact ⟨_, by omega, k + 1, by omega, rfl, upTo_succ hup hx (by rw [e]; exact q1), kp.go q2, rfl⟩
      · obtain ⟨q1, q2, rfl⟩ := hq
        (repeat simp -dsimp -implicitDefEqProofs (disch := omega) only [↓rP, rQ, rO, rL, ↓reduceIte, Nat.reduceEqDiff, Nat.reduceAdd, Nat.reduceLeDiff, pBuild, fillA, ↓tyr])
        exact hret h2 (bad (by rw [e]; exact q1)) (kp.go q2)
  · have hke : k = ls.length := by omega
    subst hke
    (repeat simp -dsimp -implicitDefEqProofs (disch := omega) only [↓rP, rQ, rO, rL, ↓reduceIte, Nat.reduceEqDiff, Nat.reduceAdd, Nat.reduceLeDiff, pBuild, fillA, ↓tyr])
    exact hex hh (upTo_all hup) kp
theorem g_bodies (c : Cd) (sm : Small c) (h0 : AHeap) (Q : AExit → Fr → AHeap → Prop)
    (hret : ∀ h2, (slL c.Threads).all (bodyB c) = false → Keeps h0 h2 (fun _ => False) → Q .ret (frOf [(2, .bool false)]) h2)
    (hex : ∀ h2, (slL c.Threads).all (bodyB c) = true → Keeps h0 h2 (fun _ => False) → Q (.exit 4) (frOf [(1, .iptr c.cells)]) h2) :
    WP Tryd.prog 324 (.loop c_padlockref09_GoodR_17) (frOf [(1, .iptr c.cells), (88, slAV 3 Api_Body.cells c.Threads), (89, .int .i64 (slL c.Threads).length), (90, .int .i64 0)]) h0 Q := by
  have hth := sm.threads
  obtain ⟨I, hI⟩ : ∃ I : Nat → Fr → AHeap → Prop, I = (fun n fr hh => ∃ k : Nat, k ≤ (slL c.Threads).length ∧ n = (slL c.Threads).length - k ∧ upTo (fun _ b => bodyB c b) (slL c.Threads) k ∧ Keeps h0 hh (fun _ => False) ∧ fr = frOf [(1, .iptr c.cells), (88, slAV 3 Api_Body.cells c.Threads), (89, .int .i64 (slL c.Threads).length), (90, .int .i64 k)]) := ⟨_, rfl⟩
  refine WP_loop mixed_ (by kernel_rfl) I (slL c.Threads).length (by rw [hI]; exact ⟨0, by omega, by omega, upTo_zero _ _, .refl _ _, rfl⟩) ?_
  intro n fr hh H
  rw [hI] at H
  obtain ⟨k, hk, rfl, hup, kp, rfl⟩ := H
  apply padlockref09_GoodR_loop17
  (repeat simp -dsimp -implicitDefEqProofs (disch := omega) only [↓rP, rQ, rO, rL, ↓reduceIte, Nat.reduceEqDiff, Nat.reduceAdd, Nat.reduceLeDiff, pBuild, fillA, ↓tyr])
  refine Split_lt (fun hkl => ?_) (fun hkl => ?_)
  · obtain ⟨b, hx⟩ : ∃ b, (slL c.Threads)[k]? = some b := ⟨_, List.getElem?_eq_getElem (by omega)⟩
    have kp1 := kp.go (Keeps.one hh (.row 51 b.cells))
    have hsl := sm.slots b (List.mem_of_getElem? hx)
    have no : bodyB c b = false → Q .ret (frOf [(2, .bool false)]) (hh.push (.row 51 b.cells)) := fun hp => hret _ (all_no hx hp) kp1
    (repeat simp -dsimp -implicitDefEqProofs (disch := omega) only [↓rP, rQ, rO, rL, ↓reduceIte, Nat.reduceEqDiff, Nat.reduceAdd, Nat.reduceLeDiff, pBuild, fillA, ↓tyr, pIndexAddr_slAV hx])
    refine Split_lt (fun h1 => ?_) (fun h1 => ?_)
    · (repeat simp -dsimp -implicitDefEqProofs (disch := omega) only [↓rP, rQ, rO, rL, ↓reduceIte, Nat.reduceEqDiff, Nat.reduceAdd, Nat.reduceLeDiff, pBuild, fillA, ↓tyr])
      exact no (by simp [bodyB]; intros; omega)
    (repeat simp -dsimp -implicitDefEqProofs (disch := omega) only [↓rP, rQ, rO, rL, ↓reduceIte, Nat.reduceEqDiff, Nat.reduceAdd, Nat.reduceLeDiff, pBuild, fillA, ↓tyr])
    refine Split_lt (fun h2 => ?_) (fun h2 => ?_)
    · (repeat simp -dsimp -implicitDefEqProofs (disch := omega) only [↓rP, rQ, rO, rL, ↓reduceIte, Nat.reduceEqDiff, Nat.reduceAdd, Nat.reduceLeDiff, pBuild, fillA, ↓tyr])
      exact no (by simp [bodyB]; intros; omega)
    (repeat simp -dsimp -implicitDefEqProofs (disch := omega) only [↓rP, rQ, rO, rL, ↓reduceIte, Nat.reduceEqDiff, Nat.reduceAdd, Nat.reduceLeDiff, pBuild, fillA, ↓tyr])
    refine Split_lt (fun h3 => ?_) (fun h3 => ?_)
    · (repeat simp -dsimp -implicitDefEqProofs (disch := omega) only [↓rP, rQ, rO, rL, ↓reduceIte, Nat.reduceEqDiff, Nat.reduceAdd, Nat.reduceLeDiff, pBuild, fillA, ↓tyr])
      exact no (by simp [bodyB]; intros; omega)
    (repeat simp -dsimp -implicitDefEqProofs (disch := omega) only [↓rP, rQ, rO, rL, ↓reduceIte, Nat.reduceEqDiff, Nat.reduceAdd, Nat.reduceLeDiff, pBuild, fillA, ↓tyr])
    refine Split_lt (fun h4 => ?_) (fun h4 => ?_)
    · (repeat simp -dsimp -implicitDefEqProofs (disch := omega) only [↓rP, rQ, rO, rL, ↓reduceIte, Nat.reduceEqDiff, Nat.reduceAdd, Nat.reduceLeDiff, pBuild, fillA, ↓tyr])
      exact no (by simp [bodyB]; intros; omega)
    (repeat simp -dsimp -implicitDefEqProofs (disch := omega) only [↓rP, rQ, rO, rL, ↓reduceIte, Nat.reduceEqDiff, Nat.reduceAdd, Nat.reduceLeDiff, pBuild, fillA, ↓tyr])
    refine Split_lt (fun h5 => ?_) (fun h5 => ?_)
    · (repeat simp -dsimp -implicitDefEqProofs (disch := omega) only [↓rP, rQ, rO, rL, ↓reduceIte, Nat.reduceEqDiff, Nat.reduceAdd, Nat.reduceLeDiff, pBuild, fillA, ↓tyr])
      exact no (by simp [bodyB]; intros; omega)
    have e : bodyB c b = (slL b.Slots).all (localB c) := by
      unfold bodyB
      rw [decide_eq_true (by omega : (slL b.Slots).length ≤ 64), decide_eq_true (by omega : 1 ≤ (slL b.Code).length), decide_eq_true (by omega : (slL b.Code).length ≤ 256), decide_eq_true (by omega : 0 ≤ b.Most), decide_eq_true (by omega : b.Most ≤ 4096)]
      rfl
    (repeat simp -dsimp -implicitDefEqProofs (disch := omega) only [↓rP, rQ, rO, rL, ↓reduceIte, Nat.reduceEqDiff, Nat.reduceAdd, Nat.reduceLeDiff, pBuild, fillA, ↓tyr])
    refine g_slots c b.Slots (by omega) _ _ _ _ _ (fun h2 hg k2 => ?_) (fun h2 hg k2 => ?_)
    · (repeat simp -dsimp -implicitDefEqProofs (disch := omega) only [↓rP, rQ, rO, rL, ↓reduceIte, Nat.reduceEqDiff, Nat.reduceAdd, Nat.reduceLeDiff, pBuild, fillA, ↓tyr])
      exact hret _ (all_no hx (by rw [e]; exact hg)) (kp1.go k2)
    · (repeat simp -dsimp -implicitDefEqProofs (disch := omega) only [↓rP, rQ, rO, rL, ↓reduceIte, Nat.reduceEqDiff, Nat.reduceAdd, Nat.reduceLeDiff, pBuild, fillA, ↓tyr, wkS k (by omega)])
      rw [loopPost_normal, hI]
      exact ⟨_, by omega, k + 1, by omega, rfl, upTo_succ hup hx (by rw [e]; exact hg), kp1.go k2, rfl⟩
  · have hke : k = (slL c.Threads).length := by omega
    subst hke
    (repeat simp -dsimp -implicitDefEqProofs (disch := omega) only [↓rP, rQ, rO, rL, ↓reduceIte, Nat.reduceEqDiff, Nat.reduceAdd, Nat.reduceLeDiff, pBuild, fillA, ↓tyr])
    exact hex hh (all_yes hup) kp
theorem g_threads (c : Cd) (hc : c.ok) (sm : Small c) (hbd : (slL c.Threads).all (bodyB c) = true) (h0 : AHeap) (Q : AExit → Fr → AHeap → Prop)
    (hret : ∀ h2, allK (fun i b => allK (fun k x => instrR c i b x k) (slL b.Code)) (slL c.Threads) = false → Keeps h0 h2 (fun _ => False) → Q .ret (frOf [(2, .bool false)]) h2)
    (hex : ∀ h2, allK (fun i b => allK (fun k x => instrR c i b x k) (slL b.Code)) (slL c.Threads) = true → Keeps h0 h2 (fun _ => False) → Q (.exit 14) (frOf []) h2) :
    WP Tryd.prog 324 (.loop c_padlockref09_GoodR_53) (frOf [(1, .iptr c.cells), (304, slAV 3 Api_Body.cells c.Threads), (305, .int .i64 (slL c.Threads).length), (306, .int .i64 0)]) h0 Q := by
  have hth := sm.threads
  obtain ⟨I, hI⟩ : ∃ I : Nat → Fr → AHeap → Prop, I = (fun n fr hh => ∃ k : Nat, k ≤ (slL c.Threads).length ∧ n = (slL c.Threads).length - k ∧ upTo (fun i b => allK (fun k x => instrR c i b x k) (slL b.Code)) (slL c.Threads) k ∧ Keeps h0 hh (fun _ => False) ∧ fr = frOf [(1, .iptr c.cells), (304, slAV 3 Api_Body.cells c.Threads), (305, .int .i64 (slL c.Threads).length), (306, .int .i64 k)]) := ⟨_, rfl⟩
  refine WP_loop mixed_ (by kernel_rfl) I (slL c.Threads).length (by rw [hI]; exact ⟨0, by omega, by omega, upTo_zero _ _, .refl _ _, rfl⟩) ?_
  intro n fr hh H
  rw [hI] at H
  obtain ⟨k, hk, rfl, hup, kp, rfl⟩ := H
  apply padlockref09_GoodR_loop53
  (repeat simp -dsimp -implicitDefEqProofs (disch := omega) only [↓rP, rQ, rO, rL, ↓reduceIte, Nat.reduceEqDiff, Nat.reduceAdd, Nat.reduceLeDiff, pBuild, fillA, ↓tyr])
  refine Split_lt (fun hkl => ?_) (fun hkl => ?_)
  · obtain ⟨b, hx⟩ : ∃ b, (slL c.Threads)[k]? = some b := ⟨_, List.getElem?_eq_getElem (by omega)⟩
    have kp1 := kp.go (Keeps.one hh (.row 51 b.cells))
    have hsl : ∀ l ∈ slL b.Slots, localB c l = true := by
      have := List.all_eq_true.1 hbd b (List.mem_of_getElem? hx)
      unfold bodyB at this
      rw [Bool.and_eq_true] at this
      exact List.all_eq_true.1 this.2
    (repeat simp -dsimp -implicitDefEqProofs (disch := omega) only [↓rP, rQ, rO, rL, ↓reduceIte, Nat.reduceEqDiff, Nat.reduceAdd, Nat.reduceLeDiff, pBuild, fillA, ↓tyr, pIndexAddr_slAV hx])
    refine g_instrs c hc sm k b hx hsl _ _ _ _ _ (fun hg => ?_) (fun hg => ?_)
    · (repeat simp -dsimp -implicitDefEqProofs (disch := omega) only [↓rP, rQ, rO, rL, ↓reduceIte, Nat.reduceEqDiff, Nat.reduceAdd, Nat.reduceLeDiff, pBuild, fillA, ↓tyr])
      exact hret _ (allK_false hx hg) kp1
    · (repeat simp -dsimp -implicitDefEqProofs (disch := omega) only [↓rP, rQ, rO, rL, ↓reduceIte, Nat.reduceEqDiff, Nat.reduceAdd, Nat.reduceLeDiff, pBuild, fillA, ↓tyr, wkS k (by omega)])
      rw [loopPost_normal, hI]
      exact ⟨_, by omega, k + 1, by omega, rfl, upTo_succ hup hx hg, kp1, rfl⟩
  · have hke : k = (slL c.Threads).length := by omega
    subst hke
    (repeat simp -dsimp -implicitDefEqProofs (disch := omega) only [↓rP, rQ, rO, rL, ↓reduceIte, Nat.reduceEqDiff, Nat.reduceAdd, Nat.reduceLeDiff, pBuild, fillA, ↓tyr])
    exact hex hh (upTo_all hup) kp
end Go.Proofs.YtopfjochppdnfaaDoor
end

section
/- The document's Good: sections and sites. -/
set_option maxRecDepth 100000
set_option maxHeartbeats 1000000
namespace Go.Proofs.YtopfjochppdnfaaDoor
open Go.Abs
def sepP (i : Nat) (s : Api_Section) (j : Nat) (o : Api_Section) : Bool := decide (j = i) || !meetB s o
def secR (c : Cd) (i : Nat) (s : Api_Section) : Bool := endsB c i s && allK (sepP i s) (slL c.Sections)
theorem g_sep (c : Cd) (sm : Small c) (i : Nat) (hi : i ≤ 1000) (s : Api_Section) (a134 a135 a136 : AV) (h0 : AHeap) (id : Nat) (hid : id < h0.next) (ho : h0.objs id = some (.row 71 s.cells)) (Q : AExit → Fr → AHeap → Prop)
    (hret : ∀ h2, allK (sepP i s) (slL c.Sections) = false → Keeps h0 h2 (fun _ => False) → Q .ret (frOf [(2, .bool false)]) h2)
    (hex : ∀ h2, allK (sepP i s) (slL c.Sections) = true → Keeps h0 h2 (fun _ => False) → Q (.exit 10) (frOf [(1, .iptr c.cells), (134, a134), (135, a135), (136, a136)]) h2) :
    WP Tryd.prog 324 (.loop c_padlockref09_GoodR_37) (frOf [(1, .iptr c.cells), (12, .int .i64 i), (13, .ptr id 0), (134, a134), (135, a135), (136, a136), (214, slAV 3 Api_Section.cells c.Sections), (215, .int .i64 (slL c.Sections).length), (216, .int .i64 0)]) h0 Q := by
  have hsec := sm.secs
  obtain ⟨I, hI⟩ : ∃ I : Nat → Fr → AHeap → Prop, I = (fun n fr hh => ∃ k : Nat, k ≤ (slL c.Sections).length ∧ n = (slL c.Sections).length - k ∧ upTo (sepP i s) (slL c.Sections) k ∧ Keeps h0 hh (fun _ => False) ∧ fr = frOf [(1, .iptr c.cells), (12, .int .i64 i), (13, .ptr id 0), (134, a134), (135, a135), (136, a136), (214, slAV 3 Api_Section.cells c.Sections), (215, .int .i64 (slL c.Sections).length), (216, .int .i64 k)]) := ⟨_, rfl⟩
  refine WP_loop mixed_ (by kernel_rfl) I (slL c.Sections).length (by rw [hI]; exact ⟨0, by omega, by omega, upTo_zero _ _, .refl _ _, rfl⟩) ?_
  intro n fr hh H
  rw [hI] at H
  obtain ⟨k, hk, rfl, hup, kp, rfl⟩ := H
  apply padlockref09_GoodR_loop37
  (repeat (first | simp -dsimp -implicitDefEqProofs (disch := omega) only [↓rP, rQ, rO, rL, ↓reduceIte, Nat.reduceEqDiff, Nat.reduceAdd, Nat.reduceLeDiff, pBuild, fillA, ↓tyr] | refine Cut.go ?_))
  refine Split_lt (fun hkl => ?_) (fun hkl => ?_)
  · obtain ⟨o, hx⟩ : ∃ o, (slL c.Sections)[k]? = some o := ⟨_, List.getElem?_eq_getElem (by omega)⟩
    have kp1 := kp.go (Keeps.one hh (.row 71 o.cells))
    have ho2 : (hh.push (.row 71 o.cells)).objs id = some (.row 71 s.cells) := by
      have := kp.next
      simp only [AHeap.push_objs]
      rw [if_neg (by omega), kp.objs id hid (by simp), ho]
    have ld : ∀ (off : Nat) (q : Option Nat) (K : AV → Prop), pLoad q (.ptr id off) (hh.push (.row 71 o.cells)) K = pCells q s.cells off K := fun off q K => pLoad_ptr ho2 q K
    have no : sepP i s k o = false → Q .ret (frOf [(2, .bool false)]) (hh.push (.row 71 o.cells)) := fun hp => hret _ (allK_false hx hp) kp1
    have on : sepP i s k o = true → loopPost I ((slL c.Sections).length - k) Q .normal (frOf [(1, .iptr c.cells), (12, .int .i64 i), (13, .ptr id 0), (134, a134), (135, a135), (136, a136), (214, slAV 3 Api_Section.cells c.Sections), (215, .int .i64 (slL c.Sections).length), (216, .int .i64 (k + 1 : Nat))]) (hh.push (.row 71 o.cells)) := fun hp => by
      rw [loopPost_normal, hI]
      exact ⟨_, by omega, k + 1, by omega, rfl, upTo_succ hup hx hp, kp1, rfl⟩
    have wk := wkS k (by omega)
    have end1 : sepP i s k o = true ∨ sepP i s k o = false := by cases sepP i s k o <;> simp
    have isno : k ≠ i → o.Thread = s.Thread → s.From ≤ o.To → o.From ≤ s.To → sepP i s k o = false := fun a1 a2 a3 a4 => by simp [sepP, meetB, a1, a2, a3, a4]
    have ison : (k = i ∨ o.Thread ≠ s.Thread ∨ o.To < s.From ∨ s.To < o.From) → sepP i s k o = true := fun h => by
      simp only [sepP, meetB, Bool.or_eq_true, decide_eq_true_eq, Bool.not_eq_true', Bool.and_eq_false_iff, decide_eq_false_iff_not]
      omega
    repeat' (first | (simp -dsimp -implicitDefEqProofs (disch := omega) only [↓rP, rQ, rO, rL, ↓reduceIte, Nat.reduceEqDiff, Nat.reduceAdd, Nat.reduceLeDiff, pBuild, fillA, ↓tyr, pIndexAddr_slAV hx, ↓ld, wk]) | with_reducible refine Cut.go ?_ | with_reducible refine Split_eq (fun _ => ?_) (fun _ => ?_) | with_reducible refine Split_ne (fun _ => ?_) (fun _ => ?_) | with_reducible refine Split_lt (fun _ => ?_) (fun _ => ?_) | with_reducible refine Split_le (fun _ => ?_) (fun _ => ?_) | with_reducible refine Split_not ?_)
    all_goals first
      | exact on (ison (by omega))
      | exact no (isno (by omega) (by omega) (by omega) (by omega))
  · have hke : k = (slL c.Sections).length := by omega
    subst hke
    (repeat (first | simp -dsimp -implicitDefEqProofs (disch := omega) only [↓rP, rQ, rO, rL, ↓reduceIte, Nat.reduceEqDiff, Nat.reduceAdd, Nat.reduceLeDiff, pBuild, fillA, ↓tyr] | refine Cut.go ?_))
    exact hex hh (upTo_all hup) kp
theorem g_sections (c : Cd) (sm : Small c) (h0 : AHeap) (Q : AExit → Fr → AHeap → Prop)
    (hret : ∀ h2, allK (secR c) (slL c.Sections) = false → Keeps h0 h2 (fun _ => False) → Q .ret (frOf [(2, .bool false)]) h2)
    (hex : ∀ h2, allK (secR c) (slL c.Sections) = true → Keeps h0 h2 (fun _ => False) → Q (.exit 8) (frOf [(1, .iptr c.cells)]) h2) :
    WP Tryd.prog 324 (.loop c_padlockref09_GoodR_29) (frOf [(1, .iptr c.cells), (134, slAV 3 Api_Section.cells c.Sections), (135, .int .i64 (slL c.Sections).length), (136, .int .i64 0)]) h0 Q := by
  have hsec := sm.secs
  obtain ⟨I, hI⟩ : ∃ I : Nat → Fr → AHeap → Prop, I = (fun n fr hh => ∃ k : Nat, k ≤ (slL c.Sections).length ∧ n = (slL c.Sections).length - k ∧ upTo (secR c) (slL c.Sections) k ∧ Keeps h0 hh (fun _ => False) ∧ fr = frOf [(1, .iptr c.cells), (134, slAV 3 Api_Section.cells c.Sections), (135, .int .i64 (slL c.Sections).length), (136, .int .i64 k)]) := ⟨_, rfl⟩
  refine WP_loop mixed_ (by kernel_rfl) I (slL c.Sections).length (by rw [hI]; exact ⟨0, by omega, by omega, upTo_zero _ _, .refl _ _, rfl⟩) ?_
  intro n fr hh H
  rw [hI] at H
  obtain ⟨k, hk, rfl, hup, kp, rfl⟩ := H
  apply padlockref09_GoodR_loop29
  (repeat (first | simp -dsimp -implicitDefEqProofs (disch := omega) only [↓rP, rQ, rO, rL, ↓reduceIte, Nat.reduceEqDiff, Nat.reduceAdd, Nat.reduceLeDiff, pBuild, fillA, ↓tyr] | refine Cut.go ?_))
  refine Split_lt (fun hkl => ?_) (fun hkl => ?_)
  · obtain ⟨s, hx⟩ : ∃ s, (slL c.Sections)[k]? = some s := ⟨_, List.getElem?_eq_getElem (by omega)⟩
    have kp1 := kp.go (Keeps.one hh (.row 71 s.cells))
    have no : endsB c k s = false → Q .ret (frOf [(2, .bool false)]) (hh.push (.row 71 s.cells)) := fun hp => hret _ (allK_false hx (by unfold secR; rw [hp]; rfl)) kp1
    (repeat (first | simp -dsimp -implicitDefEqProofs (disch := omega) only [↓rP, rQ, rO, rL, ↓reduceIte, Nat.reduceEqDiff, Nat.reduceAdd, Nat.reduceLeDiff, pBuild, fillA, ↓tyr, pIndexAddr_slAV hx] | refine Cut.go ?_))
    refine CallsA.go (ref_in_does _ _ _) ?_
    cases hb : getI (slL c.Threads) s.Thread with
    | none =>
      have hbt := getI_none.2 hb
      (repeat (first | simp -dsimp -implicitDefEqProofs (disch := omega) only [↓rP, rQ, rO, rL, ↓reduceIte, Nat.reduceEqDiff, Nat.reduceAdd, Nat.reduceLeDiff, pBuild, fillA, ↓tyr, hbt, Bool.not_false] | refine Cut.go ?_))
      exact no (by simp [endsB, codeAt, hb])
    | some b =>
      have hbt := getI_some.2 ⟨b, hb⟩
      (repeat (first | simp -dsimp -implicitDefEqProofs (disch := omega) only [↓rP, rQ, rO, rL, ↓reduceIte, Nat.reduceEqDiff, Nat.reduceAdd, Nat.reduceLeDiff, pBuild, fillA, ↓tyr, hbt, Bool.not_true] | refine Cut.go ?_))
      refine CallsA.go (ref_in_does _ _ _) ?_
      rcases h1 : btw s.From s.To with _ | _
      · (repeat (first | simp -dsimp -implicitDefEqProofs (disch := omega) only [↓rP, rQ, rO, rL, ↓reduceIte, Nat.reduceEqDiff, Nat.reduceAdd, Nat.reduceLeDiff, pBuild, fillA, ↓tyr, hbt, h1, Bool.not_false] | refine Cut.go ?_))
        exact no (by unfold endsB; unfold btw at h1; rw [h1]; rfl)
      have h1' : 0 ≤ s.From ∧ s.From < s.To := by simpa [btw] using h1
      (repeat (first | simp -dsimp -implicitDefEqProofs (disch := omega) only [↓rP, rQ, rO, rL, ↓reduceIte, Nat.reduceEqDiff, Nat.reduceAdd, Nat.reduceLeDiff, pBuild, fillA, ↓tyr, hbt, h1, Bool.not_true, ixI hb] | refine Cut.go ?_))
      refine CallsA.go (ref_in_does _ _ _) ?_
      rcases h2 : btw s.To (slL b.Code).length with _ | _
      · (repeat (first | simp -dsimp -implicitDefEqProofs (disch := omega) only [↓rP, rQ, rO, rL, ↓reduceIte, Nat.reduceEqDiff, Nat.reduceAdd, Nat.reduceLeDiff, pBuild, fillA, ↓tyr, hbt, h1, h2, Bool.not_false] | refine Cut.go ?_))
        exact no (by simp [endsB, codeAt, hb, getI_no h2])
      have h2' : 0 ≤ s.To ∧ s.To < (slL b.Code).length := by simpa [btw] using h2
      obtain ⟨x, hxx⟩ : ∃ x, getI (slL b.Code) s.From = some x := getI_some.1 (by unfold btw; simp; omega)
      obtain ⟨y, hyy⟩ : ∃ y, getI (slL b.Code) s.To = some y := getI_some.1 h2
      (repeat (first | simp -dsimp -implicitDefEqProofs (disch := omega) only [↓rP, rQ, rO, rL, ↓reduceIte, Nat.reduceEqDiff, Nat.reduceAdd, Nat.reduceLeDiff, pBuild, fillA, ↓tyr, hbt, h1, h2, Bool.not_true, ixI hb, ixI hxx, ixI hyy] | refine Cut.go ?_))
      refine Split_ne (fun h4 => ?_) (fun h4 => ?_)
      · (repeat (first | simp -dsimp -implicitDefEqProofs (disch := omega) only [↓rP, rQ, rO, rL, ↓reduceIte, Nat.reduceEqDiff, Nat.reduceAdd, Nat.reduceLeDiff, pBuild, fillA, ↓tyr] | refine Cut.go ?_))
        exact no (by simp [endsB, codeAt, hb, hxx, h4])
      (repeat (first | simp -dsimp -implicitDefEqProofs (disch := omega) only [↓rP, rQ, rO, rL, ↓reduceIte, Nat.reduceEqDiff, Nat.reduceAdd, Nat.reduceLeDiff, pBuild, fillA, ↓tyr, ixI hb, ixI hxx, ixI hyy] | refine Cut.go ?_))
      refine Split_ne (fun h5 => ?_) (fun h5 => ?_)
      · (repeat (first | simp -dsimp -implicitDefEqProofs (disch := omega) only [↓rP, rQ, rO, rL, ↓reduceIte, Nat.reduceEqDiff, Nat.reduceAdd, Nat.reduceLeDiff, pBuild, fillA, ↓tyr] | refine Cut.go ?_))
        exact no (by simp [endsB, codeAt, hb, hxx, h5])
      (repeat (first | simp -dsimp -implicitDefEqProofs (disch := omega) only [↓rP, rQ, rO, rL, ↓reduceIte, Nat.reduceEqDiff, Nat.reduceAdd, Nat.reduceLeDiff, pBuild, fillA, ↓tyr, ixI hb, ixI hxx, ixI hyy] | refine Cut.go ?_))
      refine Split_ne (fun h6 => ?_) (fun h6 => ?_)
      · (repeat (first | simp -dsimp -implicitDefEqProofs (disch := omega) only [↓rP, rQ, rO, rL, ↓reduceIte, Nat.reduceEqDiff, Nat.reduceAdd, Nat.reduceLeDiff, pBuild, fillA, ↓tyr] | refine Cut.go ?_))
        exact no (by simp [endsB, codeAt, hb, hyy, h6])
      (repeat (first | simp -dsimp -implicitDefEqProofs (disch := omega) only [↓rP, rQ, rO, rL, ↓reduceIte, Nat.reduceEqDiff, Nat.reduceAdd, Nat.reduceLeDiff, pBuild, fillA, ↓tyr, ixI hb, ixI hxx, ixI hyy] | refine Cut.go ?_))
      refine Split_ne (fun h7 => ?_) (fun h7 => ?_)
      · (repeat (first | simp -dsimp -implicitDefEqProofs (disch := omega) only [↓rP, rQ, rO, rL, ↓reduceIte, Nat.reduceEqDiff, Nat.reduceAdd, Nat.reduceLeDiff, pBuild, fillA, ↓tyr] | refine Cut.go ?_))
        exact no (by simp [endsB, codeAt, hb, hyy, h7])
      have he : endsB c k s = true := by
        simp only [endsB, codeAt, hb, hxx, hyy, h4, h5, h6, h7, decide_true, Bool.and_true, Bool.and_eq_true, decide_eq_true_eq]
        omega
      (repeat (first | simp -dsimp -implicitDefEqProofs (disch := omega) only [↓rP, rQ, rO, rL, ↓reduceIte, Nat.reduceEqDiff, Nat.reduceAdd, Nat.reduceLeDiff, pBuild, fillA, ↓tyr] | refine Cut.go ?_))
      refine g_sep c sm k (by omega) s _ _ _ _ hh.next (by simp) (by simp) _ (fun h3 hg k3 => ?_) (fun h3 hg k3 => ?_)
      · (repeat (first | simp -dsimp -implicitDefEqProofs (disch := omega) only [↓rP, rQ, rO, rL, ↓reduceIte, Nat.reduceEqDiff, Nat.reduceAdd, Nat.reduceLeDiff, pBuild, fillA, ↓tyr] | refine Cut.go ?_))
        exact hret _ (allK_false hx (by unfold secR; rw [hg, Bool.and_false])) (kp1.go k3)
      · (repeat (first | simp -dsimp -implicitDefEqProofs (disch := omega) only [↓rP, rQ, rO, rL, ↓reduceIte, Nat.reduceEqDiff, Nat.reduceAdd, Nat.reduceLeDiff, pBuild, fillA, ↓tyr, wkS k (by omega)] | refine Cut.go ?_))
        rw [loopPost_normal, hI]
        exact ⟨_, by omega, k + 1, by omega, rfl, upTo_succ hup hx (by unfold secR; rw [hg, he]; rfl), kp1.go k3, rfl⟩
  · have hke : k = (slL c.Sections).length := by omega
    subst hke
    (repeat (first | simp -dsimp -implicitDefEqProofs (disch := omega) only [↓rP, rQ, rO, rL, ↓reduceIte, Nat.reduceEqDiff, Nat.reduceAdd, Nat.reduceLeDiff, pBuild, fillA, ↓tyr] | refine Cut.go ?_))
    exact hex hh (upTo_all hup) kp
theorem g_sites (c : Cd) (sm : Small c) (h0 : AHeap) (Q : AExit → Fr → AHeap → Prop)
    (hret : ∀ h2, allK (siteOk c) (slL c.Sites) = false → Keeps h0 h2 (fun _ => False) → Q .ret (frOf [(2, .bool false)]) h2)
    (hex : ∀ h2, allK (siteOk c) (slL c.Sites) = true → Keeps h0 h2 (fun _ => False) → Q (.exit 12) (frOf [(1, .iptr c.cells)]) h2) :
    WP Tryd.prog 324 (.loop c_padlockref09_GoodR_44) (frOf [(1, .iptr c.cells), (249, slAV 3 Api_Site.cells c.Sites), (250, .int .i64 (slL c.Sites).length), (251, .int .i64 0)]) h0 Q := by
  have hsi := sm.sites
  obtain ⟨I, hI⟩ : ∃ I : Nat → Fr → AHeap → Prop, I = (fun n fr hh => ∃ k : Nat, k ≤ (slL c.Sites).length ∧ n = (slL c.Sites).length - k ∧ upTo (siteOk c) (slL c.Sites) k ∧ Keeps h0 hh (fun _ => False) ∧ fr = frOf [(1, .iptr c.cells), (249, slAV 3 Api_Site.cells c.Sites), (250, .int .i64 (slL c.Sites).length), (251, .int .i64 k)]) := ⟨_, rfl⟩
  refine WP_loop mixed_ (by kernel_rfl) I (slL c.Sites).length (by rw [hI]; exact ⟨0, by omega, by omega, upTo_zero _ _, .refl _ _, rfl⟩) ?_
  intro n fr hh H
  rw [hI] at H
  obtain ⟨k, hk, rfl, hup, kp, rfl⟩ := H
  apply padlockref09_GoodR_loop44
  (repeat (first | simp -dsimp -implicitDefEqProofs (disch := omega) only [↓rP, rQ, rO, rL, ↓reduceIte, Nat.reduceEqDiff, Nat.reduceAdd, Nat.reduceLeDiff, pBuild, fillA, ↓tyr] | refine Cut.go ?_))
  refine Split_lt (fun hkl => ?_) (fun hkl => ?_)
  · obtain ⟨s, hx⟩ : ∃ s, (slL c.Sites)[k]? = some s := ⟨_, List.getElem?_eq_getElem (by omega)⟩
    have kp1 := kp.go (Keeps.one hh (.row 54 s.cells))
    have no : siteOk c k s = false → Q .ret (frOf [(2, .bool false)]) (hh.push (.row 54 s.cells)) := fun hp => hret _ (allK_false hx hp) kp1
    (repeat (first | simp -dsimp -implicitDefEqProofs (disch := omega) only [↓rP, rQ, rO, rL, ↓reduceIte, Nat.reduceEqDiff, Nat.reduceAdd, Nat.reduceLeDiff, pBuild, fillA, ↓tyr, pIndexAddr_slAV hx] | refine Cut.go ?_))
    refine CallsA.go (ref_in_does _ _ _) ?_
    cases hb : getI (slL c.Threads) s.Thread with
    | none =>
      have hbt := getI_none.2 hb
      (repeat (first | simp -dsimp -implicitDefEqProofs (disch := omega) only [↓rP, rQ, rO, rL, ↓reduceIte, Nat.reduceEqDiff, Nat.reduceAdd, Nat.reduceLeDiff, pBuild, fillA, ↓tyr, hbt, Bool.not_false] | refine Cut.go ?_))
      exact no (by simp [siteOk, codeAt, hb])
    | some b =>
      have hbt := getI_some.2 ⟨b, hb⟩
      (repeat (first | simp -dsimp -implicitDefEqProofs (disch := omega) only [↓rP, rQ, rO, rL, ↓reduceIte, Nat.reduceEqDiff, Nat.reduceAdd, Nat.reduceLeDiff, pBuild, fillA, ↓tyr, hbt, ixI hb, Bool.not_true] | refine Cut.go ?_))
      refine CallsA.go (ref_in_does _ _ _) ?_
      cases hx2 : getI (slL b.Code) s.At with
      | none =>
        have hbt2 := getI_none.2 hx2
        (repeat (first | simp -dsimp -implicitDefEqProofs (disch := omega) only [↓rP, rQ, rO, rL, ↓reduceIte, Nat.reduceEqDiff, Nat.reduceAdd, Nat.reduceLeDiff, pBuild, fillA, ↓tyr, hbt, hbt2, Bool.not_false] | refine Cut.go ?_))
        exact no (by simp [siteOk, codeAt, hb, hx2])
      | some x =>
        have hbt2 := getI_some.2 ⟨x, hx2⟩
        have kp2 := kp1.go (Keeps.one _ (.row 58 x.cells))
        have ho2 : ∀ o, ((hh.push (.row 54 s.cells)).push o).objs hh.next = some (.row 54 s.cells) := fun o => by simp
        have ld : ∀ (o : AObj) (off : Nat) (q : Option Nat) (K : AV → Prop), pLoad q (.ptr hh.next off) ((hh.push (.row 54 s.cells)).push o) K = pCells q s.cells off K := fun o off q K => pLoad_ptr (ho2 o) q K
        have no2 : siteOk c k s = false → Q .ret (frOf [(2, .bool false)]) ((hh.push (.row 54 s.cells)).push (.row 58 x.cells)) := fun hp => hret _ (allK_false hx hp) kp2
        have on : siteOk c k s = true → loopPost I ((slL c.Sites).length - k) Q .normal (frOf [(1, .iptr c.cells), (249, slAV 3 Api_Site.cells c.Sites), (250, .int .i64 (slL c.Sites).length), (251, .int .i64 (k + 1 : Nat))]) ((hh.push (.row 54 s.cells)).push (.row 58 x.cells)) := fun hm => by
          rw [loopPost_normal, hI]
          exact ⟨_, by omega, k + 1, by omega, rfl, upTo_succ hup hx hm, kp2, rfl⟩
        repeat' (first | (simp -dsimp -implicitDefEqProofs (disch := omega) only [↓rP, rQ, rO, rL, ↓reduceIte, Nat.reduceEqDiff, Nat.reduceAdd, Nat.reduceLeDiff, pBuild, fillA, ↓tyr, hbt, hbt2, ixI hb, ixI hx2, ↓ld, wkS k (by omega), Bool.not_true]) | refine Cut.go ?_ | refine Split_eq (fun _ => ?_) (fun _ => ?_) | refine Split_ne (fun _ => ?_) (fun _ => ?_) | refine Split_lt (fun _ => ?_) (fun _ => ?_) | refine Split_le (fun _ => ?_) (fun _ => ?_) | refine Split.intro (fun _ => ?_) (fun _ => ?_))
        all_goals first
          | exact on (by simp [siteOk, codeAt, hb, hx2, *]; try omega)
          | exact no2 (by simp [siteOk, codeAt, hb, hx2, *]; try omega)
  · have hke : k = (slL c.Sites).length := by omega
    subst hke
    (repeat (first | simp -dsimp -implicitDefEqProofs (disch := omega) only [↓rP, rQ, rO, rL, ↓reduceIte, Nat.reduceEqDiff, Nat.reduceAdd, Nat.reduceLeDiff, pBuild, fillA, ↓tyr] | refine Cut.go ?_))
    exact hex hh (upTo_all hup) kp
end Go.Proofs.YtopfjochppdnfaaDoor
end

section
/- Which codes can be: the program, of small codes. -/
set_option maxRecDepth 100000
set_option maxHeartbeats 1000000
namespace Go.Proofs.YtopfjochppdnfaaDoor
open Go.Abs
theorem fits_isl (sz : Nat) (es : List (List AV)) : (AV.isl sz es).fits = true := rfl
theorem cells_isl (sz : Nat) (es : List (List AV)) : (AV.isl sz es).cells = [AV.isl sz es] := rfl
theorem bsl_one (e : TypeId) (sz by_ : Nat) (z cs : List AV) (h : AHeap) (K : AV → AHeap → Prop) : pBuildSl true { e := e, sz := sz, by_ := by_ } z 1 [(0, .agg cs)] h K = (sz ≤ 16777216 ∧ z.length = sz ∧ cs.length = sz ∧ K (.isl sz [cs]) h) := by
  simp [pBuildSl, fillE, AV.fits, AV.cells]
  by_cases hc : cs.length = sz <;> simp [hc]
theorem bsl_two (e : TypeId) (sz by_ : Nat) (z cs ds : List AV) (h : AHeap) (K : AV → AHeap → Prop) : pBuildSl true { e := e, sz := sz, by_ := by_ } z 2 [(0, .agg cs), (1, .agg ds)] h K = (2 * sz ≤ 16777216 ∧ z.length = sz ∧ cs.length = sz ∧ ds.length = sz ∧ K (.isl sz [cs, ds]) h) := by
  simp [pBuildSl, fillE, AV.fits, AV.cells]
  by_cases hc : cs.length = sz <;> by_cases hd : ds.length = sz <;> simp [hc, hd, List.replicate]
theorem code_Good_p (c : Cd) (hc : c.ok) (hs : (slL c.Sections).length ≤ 1000000) (hsi : (slL c.Sites).length ≤ 1000000) (hg : (slL c.Globals).length ≤ 1000000) (hr : ∀ r ∈ slL c.Records, (slL r).length ≤ 1000000) (h : AHeap) : CallsA Tryd.prog 34 [.agg c.cells] h (fun v h2 => v = .bool (okC c) ∧ h2 = h) := CallsA.forget (by simp [idsIn]) (code_Good_does c hc hs hsi hg hr h)
theorem code_Good_s (c : Cd) (hc : c.ok) (s : Small c) (h : AHeap) : CallsA Tryd.prog 34 [.agg c.cells] h (fun v h2 => v = .bool (okC c) ∧ h2 = h) := code_Good_p c hc (by have := s.secs; omega) (by have := s.sites; omega) (by have := s.globs; omega) (fun r hr => by have := s.fields r hr; omega) h
end Go.Proofs.YtopfjochppdnfaaDoor
end

section
/- Which codes can be: the document and the program say the same. -/
set_option maxRecDepth 100000
set_option maxHeartbeats 1000000
namespace Go.Proofs.YtopfjochppdnfaaDoor
open Go.Abs
theorem okC_split {c : Cd} (h : okC c = true) : (slL c.Records).length ≤ 6 ∧ (slL c.Threads).length ≤ 4 ∧ cellsB c (slL c.Globals) 8 = true ∧ sectionsB c = true ∧ sitesB c = true ∧ (slL c.Records).all (fun r => cellsB c (slL r) 6) = true ∧ threadsB c = true := by
  unfold okC at h
  simp only [Bool.and_eq_true, decide_eq_true_eq] at h
  obtain ⟨⟨⟨⟨⟨⟨h1, h2⟩, h3⟩, h4⟩, h5⟩, h6⟩, h7⟩ := h
  exact ⟨h1, h2, h3, h4, h5, h6, h7⟩
theorem meet_comm (s o : Api_Section) : meetB s o = meetB o s := by
  unfold meetB
  rw [Bool.eq_iff_iff]
  simp only [Bool.and_eq_true, decide_eq_true_eq]
  constructor <;> (rintro ⟨⟨a, b⟩, d⟩; exact ⟨⟨a.symm, d⟩, b⟩)
theorem secs_iff (c : Cd) : allK (secB c) (slL c.Sections) = true ↔ allK (secR c) (slL c.Sections) = true := by
  simp only [allK_iff]
  constructor
  · intro h k s hs
    have hk := h k s hs
    unfold secB at hk
    rw [Bool.and_eq_true] at hk
    unfold secR
    rw [hk.1, Bool.true_and, allK_iff]
    intro j o hj
    unfold sepP
    by_cases e : j = k
    · simp [e]
    · have : meetB s o = false := by
        rcases Nat.lt_or_gt_of_ne e with hlt | hgt
        · have := List.all_eq_true.1 hk.2 o (List.mem_of_getElem? (i := j) (by rw [List.getElem?_take_of_lt hlt, hj]))
          simpa using this
        · have hj2 := h j o hj
          unfold secB at hj2
          rw [Bool.and_eq_true] at hj2
          have := List.all_eq_true.1 hj2.2 s (List.mem_of_getElem? (i := k) (by rw [List.getElem?_take_of_lt hgt, hs]))
          rw [meet_comm]
          simpa using this
      simp [this]
  · intro h k s hs
    have hk := h k s hs
    unfold secR at hk
    rw [Bool.and_eq_true, allK_iff] at hk
    unfold secB
    rw [hk.1, Bool.true_and, List.all_eq_true]
    intro o ho
    obtain ⟨j, hj⟩ := List.getElem?_of_mem ho
    have hjl := (List.getElem?_eq_some_iff.1 hj).1
    rw [List.length_take] at hjl
    have hjk : j < k := by omega
    rw [List.getElem?_take_of_lt hjk] at hj
    have := hk.2 j o hj
    unfold sepP at this
    simpa [show j ≠ k by omega] using this
theorem rows_iff (c : Cd) (hg : (slL c.Globals).length ≤ 8) : allK (rowP c) (c.Globals :: slL c.Records) = true ↔ cellsB c (slL c.Globals) 8 = true ∧ (slL c.Records).all (fun r => cellsB c (slL r) 6) = true := by
  have e8 : cellsB c (slL c.Globals) 8 = cellP c c.Globals := by unfold cellsB cellP; rw [decide_eq_true (by omega), Bool.true_and]
  rw [e8, allK_iff, List.all_eq_true]
  have e6 : ∀ (i : Nat) (r : Option (List Lo)), rowP c (i + 1) r = cellsB c (slL r) 6 := fun i r => by
    unfold rowP cellsB cellP
    by_cases h : (slL r).length ≤ 6
    · rw [decide_eq_false (show ¬ 6 < (slL r).length by omega), decide_eq_true (show ((slL r).length : Int) ≤ 6 by omega)]; simp
    · rw [decide_eq_true (show 6 < (slL r).length by omega), decide_eq_false (show ¬ ((slL r).length : Int) ≤ 6 by omega)]; simp
  constructor
  · intro h
    refine ⟨by have := h 0 _ rfl; simpa [rowP] using this, fun r hr => ?_⟩
    obtain ⟨i, hi⟩ := List.getElem?_of_mem hr
    rw [← e6 i r]
    exact h (i + 1) r (by simpa using hi)
  · rintro ⟨h1, h2⟩ k o hk
    cases k with
    | zero => simp at hk; subst hk; simpa [rowP] using h1
    | succ k => rw [e6]; exact h2 o (List.mem_of_getElem? (by simpa using hk))
theorem threads_iff (c : Cd) : threadsB c = true ↔ (slL c.Threads).all (bodyB c) = true ∧ allK (fun i b => allK (fun k x => instrR c i b x k) (slL b.Code)) (slL c.Threads) = true := by
  have halt : ∀ (i : Nat) (b : Bd) (x : In) (k : Nat), instrB c i b x k = true → x.Op = 17 → (k : Int) = (slL b.Code).length - 1 := fun i b x k hi ho => by
    unfold instrB at hi
    rw [if_neg (by omega), if_neg (by omega), if_neg (by omega), if_neg (by omega), if_neg (by omega), if_neg (by omega), if_neg (by omega), if_neg (by omega)] at hi
    simp only [Bool.and_eq_true, decide_eq_true_eq] at hi
    exact hi.2
  unfold threadsB
  constructor
  · intro h
    rw [allK_iff] at h
    have part : ∀ (i : Nat) (b : Bd), (slL c.Threads)[i]? = some b → bodyB c b = true ∧ lastB b = true ∧ instrsB c i b = true := fun i b hb => by
      have := h i b hb
      unfold threadB at this
      simpa [and_assoc] using this
    refine ⟨List.all_eq_true.2 fun b hb => ?_, allK_iff.2 fun i b hb => allK_iff.2 fun k x hx => ?_⟩
    · obtain ⟨i, hi⟩ := List.getElem?_of_mem hb
      exact (part i b hi).1
    · obtain ⟨-, h2, h3⟩ := part i b hb
      have hi := allK_iff.1 h3 k x hx
      unfold instrR
      rw [hi, Bool.true_and]
      by_cases ho : x.Op = 17
      · rw [decide_eq_true ho, decide_eq_true (halt i b x k hi ho)]; rfl
      · have : ¬ ((k : Int) = (slL b.Code).length - 1) := fun e => by
          unfold lastB at h2
          rw [← e, getI_natCast, hx] at h2
          exact ho (by simpa using h2)
        rw [decide_eq_false ho, decide_eq_false this]; rfl
  · rintro ⟨h1, h2⟩
    rw [allK_iff] at h2 ⊢
    intro i b hb
    have hbd := List.all_eq_true.1 h1 b (List.mem_of_getElem? hb)
    have hin := h2 i b hb
    rw [allK_iff] at hin
    have hpos : 1 ≤ (slL b.Code).length := by
      unfold bodyB at hbd
      simp only [Bool.and_eq_true, decide_eq_true_eq] at hbd
      exact hbd.1.1.1.1.2
    have e1 : instrsB c i b = true := allK_iff.2 fun k x hx => by
      have := hin k x hx
      unfold instrR at this
      rw [Bool.and_eq_true] at this
      exact this.1
    have e2 : lastB b = true := by
      obtain ⟨x, hx⟩ : ∃ x, (slL b.Code)[(slL b.Code).length - 1]? = some x := ⟨_, List.getElem?_eq_getElem (by omega)⟩
      have e : ((slL b.Code).length : Int) - 1 = (((slL b.Code).length - 1 : Nat) : Int) := by omega
      have := hin _ x hx
      unfold instrR at this
      rw [Bool.and_eq_true, ← e] at this
      unfold lastB
      rw [e, getI_natCast, hx]
      simpa using this.2
    unfold threadB
    rw [hbd, e2, e1]; rfl
theorem okC_iff (c : Cd) : okC c = true ↔ (slL c.Records).length ≤ 6 ∧ (slL c.Globals).length ≤ 8 ∧ (slL c.Threads).length ≤ 4 ∧ (slL c.Sites).length ≤ 32 ∧ (slL c.Sections).length ≤ 32 ∧ allK (rowP c) (c.Globals :: slL c.Records) = true ∧ (slL c.Threads).all (bodyB c) = true ∧ allK (secR c) (slL c.Sections) = true ∧ allK (siteOk c) (slL c.Sites) = true ∧ allK (fun i b => allK (fun k x => instrR c i b x k) (slL b.Code)) (slL c.Threads) = true := by
  constructor
  · intro h
    obtain ⟨h1, h2, h3, h4, h5, h6, h7⟩ := okC_split h
    have hg : (slL c.Globals).length ≤ 8 := by
      unfold cellsB at h3; simp only [Bool.and_eq_true, decide_eq_true_eq] at h3; omega
    unfold sectionsB at h4
    unfold sitesB at h5
    simp only [Bool.and_eq_true, decide_eq_true_eq] at h4 h5
    have ht := (threads_iff c).1 h7
    exact ⟨h1, hg, h2, h5.1, h4.1, (rows_iff c hg).2 ⟨h3, h6⟩, ht.1, (secs_iff c).1 h4.2, h5.2, ht.2⟩
  · rintro ⟨h1, hg, h2, h3, h4, h5, h6, h7, h8, h9⟩
    obtain ⟨r1, r2⟩ := (rows_iff c hg).1 h5
    unfold okC sectionsB sitesB
    rw [decide_eq_true h1, decide_eq_true h2, r1, r2, decide_eq_true h4, decide_eq_true h3, (secs_iff c).2 h7, h8, (threads_iff c).2 ⟨h6, h9⟩]
    rfl
theorem keeps_kill {h g : AHeap} (k : Keeps h g (fun _ => False)) {id : Nat} (hid : h.next ≤ id) : Keeps h (g.kill id) (fun _ => False) :=
  ⟨k.next, fun i hi hs => by simp only [AHeap.kill_objs]; rw [if_neg (by omega)]; exact k.objs i hi hs⟩
theorem ref_Good_k (c : Cd) (hc : c.ok) (sm : Small c) (h : AHeap) : CallsA Tryd.prog 24 [.agg c.cells] h (fun v h2 => v = .bool (okC c) ∧ Keeps h h2 (fun _ => False)) := by
  have no : ∀ {p : Prop}, (okC c = true → p) → ¬ p → okC c = false := fun hp hn => by
    rw [Bool.eq_false_iff]; exact fun e => hn (hp e)
  have hrec := sm.recs
  have hgl := sm.globs
  apply padlockref09_GoodR_wp
  (repeat (first | simp -dsimp -implicitDefEqProofs (disch := omega) only [↓rP, rQ, rO, rL, ↓reduceIte, Nat.reduceEqDiff, Nat.reduceAdd, Nat.reduceLeDiff, pBuild, fillA, ↓tyr] | refine Cut.go ?_))
  refine Split_lt (fun h1 => ?_) (fun h1 => ?_)
  · (repeat (first | simp -dsimp -implicitDefEqProofs (disch := omega) only [↓rP, rQ, rO, rL, ↓reduceIte, Nat.reduceEqDiff, Nat.reduceAdd, Nat.reduceLeDiff, pBuild, fillA, ↓tyr] | refine Cut.go ?_))
    rw [no (fun e => ((okC_iff c).1 e).1) (by omega)]
    (first | (refine And.intro (by simp) ?_; (repeat (first | assumption | with_reducible exact Keeps.refl _ _ | with_reducible refine Keeps.go ?_ (Keeps.one _ _) | with_reducible refine Keeps.go ?_ (by assumption)))) | (repeat (first | assumption | with_reducible exact Keeps.refl _ _ | with_reducible refine Keeps.go ?_ (Keeps.one _ _) | with_reducible refine Keeps.go ?_ (by assumption))))
  (repeat (first | simp -dsimp -implicitDefEqProofs (disch := omega) only [↓rP, rQ, rO, rL, ↓reduceIte, Nat.reduceEqDiff, Nat.reduceAdd, Nat.reduceLeDiff, pBuild, fillA, ↓tyr] | refine Cut.go ?_))
  refine Split_lt (fun h2 => ?_) (fun h2 => ?_)
  · (repeat (first | simp -dsimp -implicitDefEqProofs (disch := omega) only [↓rP, rQ, rO, rL, ↓reduceIte, Nat.reduceEqDiff, Nat.reduceAdd, Nat.reduceLeDiff, pBuild, fillA, ↓tyr] | refine Cut.go ?_))
    rw [no (fun e => ((okC_iff c).1 e).2.1) (by omega)]
    (first | (refine And.intro (by simp) ?_; (repeat (first | assumption | with_reducible exact Keeps.refl _ _ | with_reducible refine Keeps.go ?_ (Keeps.one _ _) | with_reducible refine Keeps.go ?_ (by assumption)))) | (repeat (first | assumption | with_reducible exact Keeps.refl _ _ | with_reducible refine Keeps.go ?_ (Keeps.one _ _) | with_reducible refine Keeps.go ?_ (by assumption))))
  (repeat (first | simp -dsimp -implicitDefEqProofs (disch := omega) only [↓rP, rQ, rO, rL, ↓reduceIte, Nat.reduceEqDiff, Nat.reduceAdd, Nat.reduceLeDiff, pBuild, fillA, ↓tyr] | refine Cut.go ?_))
  refine Split_lt (fun h3 => ?_) (fun h3 => ?_)
  · (repeat (first | simp -dsimp -implicitDefEqProofs (disch := omega) only [↓rP, rQ, rO, rL, ↓reduceIte, Nat.reduceEqDiff, Nat.reduceAdd, Nat.reduceLeDiff, pBuild, fillA, ↓tyr] | refine Cut.go ?_))
    rw [no (fun e => ((okC_iff c).1 e).2.2.1) (by omega)]
    (first | (refine And.intro (by simp) ?_; (repeat (first | assumption | with_reducible exact Keeps.refl _ _ | with_reducible refine Keeps.go ?_ (Keeps.one _ _) | with_reducible refine Keeps.go ?_ (by assumption)))) | (repeat (first | assumption | with_reducible exact Keeps.refl _ _ | with_reducible refine Keeps.go ?_ (Keeps.one _ _) | with_reducible refine Keeps.go ?_ (by assumption))))
  (repeat (first | simp -dsimp -implicitDefEqProofs (disch := omega) only [↓rP, rQ, rO, rL, ↓reduceIte, Nat.reduceEqDiff, Nat.reduceAdd, Nat.reduceLeDiff, pBuild, fillA, ↓tyr] | refine Cut.go ?_))
  refine Split_lt (fun h4 => ?_) (fun h4 => ?_)
  · (repeat (first | simp -dsimp -implicitDefEqProofs (disch := omega) only [↓rP, rQ, rO, rL, ↓reduceIte, Nat.reduceEqDiff, Nat.reduceAdd, Nat.reduceLeDiff, pBuild, fillA, ↓tyr] | refine Cut.go ?_))
    rw [no (fun e => ((okC_iff c).1 e).2.2.2.1) (by omega)]
    (first | (refine And.intro (by simp) ?_; (repeat (first | assumption | with_reducible exact Keeps.refl _ _ | with_reducible refine Keeps.go ?_ (Keeps.one _ _) | with_reducible refine Keeps.go ?_ (by assumption)))) | (repeat (first | assumption | with_reducible exact Keeps.refl _ _ | with_reducible refine Keeps.go ?_ (Keeps.one _ _) | with_reducible refine Keeps.go ?_ (by assumption))))
  (repeat (first | simp -dsimp -implicitDefEqProofs (disch := omega) only [↓rP, rQ, rO, rL, ↓reduceIte, Nat.reduceEqDiff, Nat.reduceAdd, Nat.reduceLeDiff, pBuild, fillA, ↓tyr] | refine Cut.go ?_))
  refine Split_lt (fun h5 => ?_) (fun h5 => ?_)
  · (repeat (first | simp -dsimp -implicitDefEqProofs (disch := omega) only [↓rP, rQ, rO, rL, ↓reduceIte, Nat.reduceEqDiff, Nat.reduceAdd, Nat.reduceLeDiff, pBuild, fillA, ↓tyr] | refine Cut.go ?_))
    rw [no (fun e => ((okC_iff c).1 e).2.2.2.2.1) (by omega)]
    (first | (refine And.intro (by simp) ?_; (repeat (first | assumption | with_reducible exact Keeps.refl _ _ | with_reducible refine Keeps.go ?_ (Keeps.one _ _) | with_reducible refine Keeps.go ?_ (by assumption)))) | (repeat (first | assumption | with_reducible exact Keeps.refl _ _ | with_reducible refine Keeps.go ?_ (Keeps.one _ _) | with_reducible refine Keeps.go ?_ (by assumption))))
  have bs : ∀ K : AV → AHeap → Prop, pBuildSl false { e := 39, sz := 1, by_ := 24 } [AV.nils] 1 [(0, slAV 3 Api_Local.cells c.Globals)] h K = K (.sl h.next 0 1 1) (h.push (.row 39 [slAV 3 Api_Local.cells c.Globals])) := fun K => by
    simp [pBuildSl, fillE, fits_slAV, cells_slAV]
  have ap : ∀ K : AV → AHeap → Prop, pAppend false { e := 39, sz := 1, by_ := 24 } (.sl h.next 0 1 1) (slAV 1 (fun o => [slAV 3 Api_Local.cells o]) c.Records) (h.push (.row 39 [slAV 3 Api_Local.cells c.Globals])) K
      = K (.sl (h.next + 1) 0 (c.Globals :: slL c.Records).length 1) (((h.push (.row 39 [slAV 3 Api_Local.cells c.Globals])).kill h.next).push (.row 39 ((c.Globals :: slL c.Records).map fun o => slAV 3 Api_Local.cells o))) := fun K => by
    have ef : ((slL c.Records).map fun o => [slAV 3 Api_Local.cells o]).flatten = (slL c.Records).map fun o => slAV 3 Api_Local.cells o := by
      induction slL c.Records with
      | nil => rfl
      | cons a l ih => simp [ih]
    simp only [pAppend, srcElems_slAV, AHeap.push_objs, if_true]
    rw [ef]
    simp [bounded, maxLen, Nat.add_comm]
    intro; omega
  (repeat (first | simp -dsimp -implicitDefEqProofs (disch := omega) only [↓rP, rQ, rO, rL, ↓reduceIte, Nat.reduceEqDiff, Nat.reduceAdd, Nat.reduceLeDiff, pBuild, fillA, ↓tyr, ↓bs, ↓ap] | refine Cut.go ?_))
  have kH : Keeps h (((h.push (.row 39 [slAV 3 Api_Local.cells c.Globals])).kill h.next).push (.row 39 ((c.Globals :: slL c.Records).map fun o => slAV 3 Api_Local.cells o))) (fun _ => False) := (keeps_kill (Keeps.one _ _) (Nat.le_refl _)).go (Keeps.one _ _)
  have hfl : ∀ o ∈ (c.Globals :: slL c.Records), (slL o).length ≤ 1000 := fun o ho => by
    rcases List.mem_cons.1 ho with rfl | ho
    · omega
    · have := sm.fields o ho; omega
  refine g_rows c (c.Globals :: slL c.Records) (by simp; omega) hfl _ (h.next + 1) (by simp) (by simp) _ (fun h6 hg k6 => ?_) (fun h6 hg k6 => ?_)
  · (repeat (first | simp -dsimp -implicitDefEqProofs (disch := omega) only [↓rP, rQ, rO, rL, ↓reduceIte, Nat.reduceEqDiff, Nat.reduceAdd, Nat.reduceLeDiff, pBuild, fillA, ↓tyr] | refine Cut.go ?_))
    rw [no (fun e => ((okC_iff c).1 e).2.2.2.2.2.1) (by rw [hg]; simp)]
    exact ⟨rfl, kH.go k6⟩
  (repeat (first | simp -dsimp -implicitDefEqProofs (disch := omega) only [↓rP, rQ, rO, rL, ↓reduceIte, Nat.reduceEqDiff, Nat.reduceAdd, Nat.reduceLeDiff, pBuild, fillA, ↓tyr] | refine Cut.go ?_))
  refine g_bodies c sm h6 _ (fun h7 hg7 k7 => ?_) (fun h7 hg7 k7 => ?_)
  · (repeat (first | simp -dsimp -implicitDefEqProofs (disch := omega) only [↓rP, rQ, rO, rL, ↓reduceIte, Nat.reduceEqDiff, Nat.reduceAdd, Nat.reduceLeDiff, pBuild, fillA, ↓tyr] | refine Cut.go ?_))
    rw [no (fun e => ((okC_iff c).1 e).2.2.2.2.2.2.1) (by rw [hg7]; simp)]
    exact ⟨rfl, (kH.go k6).go k7⟩
  (repeat (first | simp -dsimp -implicitDefEqProofs (disch := omega) only [↓rP, rQ, rO, rL, ↓reduceIte, Nat.reduceEqDiff, Nat.reduceAdd, Nat.reduceLeDiff, pBuild, fillA, ↓tyr] | refine Cut.go ?_))
  refine g_sections c sm h7 _ (fun h8 hg8 k8 => ?_) (fun h8 hg8 k8 => ?_)
  · (repeat (first | simp -dsimp -implicitDefEqProofs (disch := omega) only [↓rP, rQ, rO, rL, ↓reduceIte, Nat.reduceEqDiff, Nat.reduceAdd, Nat.reduceLeDiff, pBuild, fillA, ↓tyr] | refine Cut.go ?_))
    rw [no (fun e => ((okC_iff c).1 e).2.2.2.2.2.2.2.1) (by rw [hg8]; simp)]
    exact ⟨rfl, ((kH.go k6).go k7).go k8⟩
  (repeat (first | simp -dsimp -implicitDefEqProofs (disch := omega) only [↓rP, rQ, rO, rL, ↓reduceIte, Nat.reduceEqDiff, Nat.reduceAdd, Nat.reduceLeDiff, pBuild, fillA, ↓tyr] | refine Cut.go ?_))
  refine g_sites c sm h8 _ (fun h9 hg9 k9 => ?_) (fun h9 hg9 k9 => ?_)
  · (repeat (first | simp -dsimp -implicitDefEqProofs (disch := omega) only [↓rP, rQ, rO, rL, ↓reduceIte, Nat.reduceEqDiff, Nat.reduceAdd, Nat.reduceLeDiff, pBuild, fillA, ↓tyr] | refine Cut.go ?_))
    rw [no (fun e => ((okC_iff c).1 e).2.2.2.2.2.2.2.2.1) (by rw [hg9]; simp)]
    exact ⟨rfl, (((kH.go k6).go k7).go k8).go k9⟩
  (repeat (first | simp -dsimp -implicitDefEqProofs (disch := omega) only [↓rP, rQ, rO, rL, ↓reduceIte, Nat.reduceEqDiff, Nat.reduceAdd, Nat.reduceLeDiff, pBuild, fillA, ↓tyr] | refine Cut.go ?_))
  refine g_threads c hc sm hg7 h9 _ (fun h10 hg10 k10 => ?_) (fun h10 hg10 k10 => ?_)
  · (repeat (first | simp -dsimp -implicitDefEqProofs (disch := omega) only [↓rP, rQ, rO, rL, ↓reduceIte, Nat.reduceEqDiff, Nat.reduceAdd, Nat.reduceLeDiff, pBuild, fillA, ↓tyr] | refine Cut.go ?_))
    rw [no (fun e => ((okC_iff c).1 e).2.2.2.2.2.2.2.2.2) (by rw [hg10]; simp)]
    exact ⟨rfl, ((((kH.go k6).go k7).go k8).go k9).go k10⟩
  (repeat (first | simp -dsimp -implicitDefEqProofs (disch := omega) only [↓rP, rQ, rO, rL, ↓reduceIte, Nat.reduceEqDiff, Nat.reduceAdd, Nat.reduceLeDiff, pBuild, fillA, ↓tyr] | refine Cut.go ?_))
  rw [(okC_iff c).2 ⟨by omega, by omega, by omega, by omega, by omega, hg, hg7, hg8, hg9, hg10⟩]
  exact ⟨rfl, ((((kH.go k6).go k7).go k8).go k9).go k10⟩
theorem ref_Good_c (c : Cd) (hc : c.ok) (sm : Small c) (h : AHeap) : CallsA Tryd.prog 24 [.agg c.cells] h (fun v h2 => v = .bool (okC c) ∧ h2 = h) := CallsA.forget (by simp [idsIn]) (ref_Good_k c hc sm h)
end Go.Proofs.YtopfjochppdnfaaDoor
end

section
/- Plain: classes of sites that meet; forests; rounds that close a set. -/
namespace Go.Proofs.YtopfjochppdnfaaDoor
inductive Conn (R : Nat → Nat → Prop) : Nat → Nat → Prop
  | refl (a : Nat) : Conn R a a
  | tail {a b c : Nat} : Conn R a b → R b c → Conn R a c
namespace Conn
variable {R : Nat → Nat → Prop}
theorem one {a b : Nat} (h : R a b) : Conn R a b := (Conn.refl a).tail h
theorem trans {a b c : Nat} (h : Conn R a b) (k : Conn R b c) : Conn R a c := by
  induction k with
  | refl => exact h
  | tail _ r ih => exact ih.tail r
theorem symm (hs : ∀ a b, R a b → R b a) {a b : Nat} (h : Conn R a b) : Conn R b a := by
  induction h with
  | refl => exact .refl _
  | tail _ r ih => exact (one (hs _ _ r)).trans ih
theorem map {R' : Nat → Nat → Prop} (hm : ∀ a b, R a b → Conn R' a b) {a b : Nat} (h : Conn R a b) : Conn R' a b := by
  induction h with
  | refl => exact .refl _
  | tail _ r ih => exact ih.trans (hm _ _ r)
theorem closed {T : Nat → Prop} (hc : ∀ a b, T a → R a b → T b) {a b : Nat} (h : Conn R a b) (ha : T a) : T b := by
  induction h with
  | refl => exact ha
  | tail _ r ih => exact hc _ _ ih r
end Conn
def Prs (P : List (Nat × Nat)) (a b : Nat) : Prop := (a, b) ∈ P ∨ (b, a) ∈ P
theorem Prs.symm {P : List (Nat × Nat)} (a b : Nat) (h : Prs P a b) : Prs P b a := Or.symm h
/-! Forests -/
def Low (f : List Nat) : Prop := ∀ (k v : Nat), f[k]? = some v → v ≤ k
def root (f : List Nat) (k : Nat) : Nat := if h : f.getD k k < k then root f (f.getD k k) else k
termination_by k
theorem root_stop {f : List Nat} {k : Nat} (h : ¬ f.getD k k < k) : root f k = k := by
  rw [root, dif_neg h]
theorem Low.getD {f : List Nat} (h : Low f) (k : Nat) : f.getD k k ≤ k := by
  rw [List.getD_eq_getElem?_getD]
  cases hk : f[k]? with
  | none => simp
  | some v => simpa using h k v hk
theorem getD_set (f : List Nat) (k v j : Nat) (hk : k < f.length) : (f.set k v).getD j j = if j = k then v else f.getD j j := by
  rw [List.getD_eq_getElem?_getD, List.getElem?_set, List.getD_eq_getElem?_getD]
  by_cases e : k = j
  · subst e; simp [hk]
  · rw [if_neg e, if_neg (Ne.symm e)]
theorem Low.set {f : List Nat} (hl : Low f) {k v : Nat} (hv : v ≤ k) : Low (f.set k v) := by
  intro j x hx
  rw [List.getElem?_set] at hx
  split at hx
  · rename_i e
    split at hx
    · cases hx; omega
    · cases hx
  · exact hl j x hx
def Says (f : List Nat) (P : List (Nat × Nat)) : Prop := Low f ∧ ∀ x y, root f x = root f y ↔ Conn (Prs P) x y
theorem Says.start (n : Nat) : Says (List.range n) [] := by
  have hl : Low (List.range n) := fun k v h => by
    have := List.getElem?_eq_some_iff.1 h
    obtain ⟨h1, h2⟩ := this
    simp at h2; omega
  have hr : ∀ x, root (List.range n) x = x := fun x => root_stop (by
    rw [List.getD_eq_getElem?_getD]
    by_cases h : x < n <;> simp [h])
  refine ⟨hl, fun x y => ?_⟩
  rw [hr, hr]
  constructor
  · rintro rfl; exact .refl _
  · intro h
    induction h with
    | refl => rfl
    | tail _ r ih => rcases r with r | r <;> simp at r
theorem Says.same {f g : List Nat} {P : List (Nat × Nat)} (h : Says f P) (hl : Low g) (hr : ∀ x, root g x = root f x) : Says g P := ⟨hl, fun x y => by rw [hr, hr]; exact h.2 x y⟩
/-! Sets -/
def MeetP (S : List Nat) (a b : Nat) : Prop := ∃ x ∈ S, x.testBit a = true ∧ x.testBit b = true
theorem MeetP.symm {S : List Nat} (a b : Nat) (h : MeetP S a b) : MeetP S b a := by obtain ⟨x, hx, h1, h2⟩ := h; exact ⟨x, hx, h2, h1⟩
def bitsOf (x : Nat) : List Nat := (List.range 64).filter fun k => x.testBit k
theorem mem_bits {x k : Nat} : k ∈ bitsOf x ↔ k < 64 ∧ x.testBit k = true := by simp [bitsOf]
def firstB (x : Nat) : Nat := (bitsOf x).headD 64
/-! Rounds -/
theorem countP_lt {n : Nat} {p q : Nat → Bool} (h : ∀ j, j < n → p j = true → q j = true) {b : Nat} (hb : b < n) (h1 : p b = false) (h2 : q b = true) : (List.range n).countP p < (List.range n).countP q := by
  induction n with
  | zero => omega
  | succ n ih =>
    rw [List.range_succ, List.countP_append, List.countP_append]
    have hle : (List.range n).countP p ≤ (List.range n).countP q := List.countP_mono_left fun j hj hp => h j (by have := List.mem_range.1 hj; omega) hp
    rcases Nat.lt_or_eq_of_le (show b ≤ n by omega) with hbn | rfl
    · have := ih (fun j hj => h j (by omega)) hbn
      have h3 := h n (by omega)
      cases hp : p n <;> cases hq : q n <;> simp_all <;> omega
    · simp [h1, h2]; omega
def Come (n : Nat) (R : Nat → Nat → Prop) (r : Nat) (T : Nat → Bool) : Prop := (∀ a b, a < n → b < n → T a = true → R a b → T b = true) ∨ r + 1 ≤ (List.range n).countP T
theorem Come.next {n : Nat} {R : Nat → Nat → Prop} {r : Nat} {T T' : Nat → Bool} (h : Come n R r T) (hm : ∀ j, j < n → T j = true → T' j = true) (hc : ∀ a b, a < n → b < n → T a = true → R a b → T' b = true) (hs : (∀ a b, a < n → b < n → T a = true → R a b → T b = true) → ∀ j, j < n → T' j = T j) : Come n R (r + 1) T' := by
  by_cases hcl : ∀ a b, a < n → b < n → T a = true → R a b → T b = true
  · have := hs hcl
    left
    intro a b ha hb h1 h2
    rw [this b hb]
    exact hcl a b ha hb (by rw [← this a ha]; exact h1) h2
  · right
    have hge := h.resolve_left hcl
    obtain ⟨b, hb, h1, h2⟩ : ∃ b, b < n ∧ T b = false ∧ T' b = true := by
      apply Classical.byContradiction
      intro hn
      apply hcl
      intro a b ha hb h1 h2
      cases hT : T b with
      | true => rfl
      | false => exact absurd ⟨b, hb, hT, hc a b ha hb h1 h2⟩ hn
    have := countP_lt hm hb h1 h2
    omega
end Go.Proofs.YtopfjochppdnfaaDoor
end

section
/- Plain: the lowest bit of a set, and the set without it. -/
namespace Go.Proofs.YtopfjochppdnfaaDoor
theorem firstB_find (x : Nat) : firstB x = ((List.range 64).find? fun k => x.testBit k).getD 64 := by
  unfold firstB bitsOf
  rw [List.headD_eq_head?_getD, List.head?_filter]
theorem firstB_low {x : Nat} (h0 : x ≠ 0) (hx : x < 18446744073709551616) : firstB x < 64 ∧ x.testBit (firstB x) = true ∧ ∀ j, j < firstB x → x.testBit j = false := by
  obtain ⟨i, hi⟩ := Nat.exists_testBit_of_ne_zero h0
  have hi64 : i < 64 := by
    apply Classical.byContradiction
    intro hn
    have : x < 2 ^ i := Nat.lt_of_lt_of_le (by simpa using hx) (Nat.pow_le_pow_right (by decide) (show 64 ≤ i by omega))
    rw [Nat.testBit_lt_two_pow this] at hi; cases hi
  rw [firstB_find]
  cases hf : (List.range 64).find? fun k => x.testBit k with
  | none =>
    rw [List.find?_eq_none] at hf
    exact absurd hi (hf i (List.mem_range.2 hi64))
  | some k =>
    rw [List.find?_range_eq_some] at hf
    obtain ⟨h1, h2, h3⟩ := hf
    refine ⟨List.mem_range.1 h2, h1, fun j hj => ?_⟩
    have := h3 j hj
    simpa using this
theorem firstB_zero : firstB 0 = 64 := by decide
theorem pred_bits {x k : Nat} (hk : x.testBit k = true) (hl : ∀ j, j < k → x.testBit j = false) (i : Nat) : (x - 1).testBit i = if i < k then true else if i = k then false else x.testBit i := by
  have hm : x % 2 ^ k = 0 := by
    apply Nat.eq_of_testBit_eq
    intro j
    rw [Nat.testBit_mod_two_pow, Nat.zero_testBit]
    by_cases h : j < k
    · rw [hl j h]; simp
    · simp [h]
  obtain ⟨q, hq⟩ : ∃ q, q = x / 2 ^ k := ⟨_, rfl⟩
  have hx : x = 2 ^ k * q := by have := Nat.div_add_mod x (2 ^ k); rw [hm, ← hq] at this; omega
  have hqb : ∀ j, q.testBit j = x.testBit (k + j) := fun j => by rw [hq, Nat.testBit_div_two_pow, Nat.add_comm]
  have hq1 : q % 2 = 1 := by
    have := hqb 0
    rw [Nat.testBit_zero] at this
    simpa [hk] using this
  have hp : 0 < 2 ^ k := Nat.pow_pos (by decide)
  have hx1 : x - 1 = 2 ^ k * (q - 1) + (2 ^ k - 1) := by
    rw [hx, Nat.mul_sub]
    have : 2 ^ k ≤ 2 ^ k * q := Nat.le_mul_of_pos_right _ (by omega)
    omega
  rw [hx1, Nat.testBit_two_pow_mul_add _ (by omega : 2 ^ k - 1 < 2 ^ k)]
  by_cases h : i < k
  · rw [if_pos h, if_pos h, Nat.testBit_two_pow_sub_one]; simp [h]
  · rw [if_neg h, if_neg h]
    by_cases h2 : i = k
    · rw [if_pos h2, h2, Nat.sub_self, Nat.testBit_zero]
      simp; omega
    · rw [if_neg h2]
      obtain ⟨j, rfl⟩ : ∃ j, i = k + (j + 1) := ⟨i - k - 1, by omega⟩
      rw [← hqb, show k + (j + 1) - k = j + 1 by omega, Nat.testBit_succ, Nat.testBit_succ]
      congr 1; omega
theorem and_neg {x : Nat} (h0 : x ≠ 0) (hx : x < 18446744073709551616) : x &&& (18446744073709551616 - x) = 2 ^ firstB x := by
  obtain ⟨h1, h2, h3⟩ := firstB_low h0 hx
  apply Nat.eq_of_testBit_eq
  intro i
  have e : 18446744073709551616 - x = 2 ^ 64 - ((x - 1) + 1) := by
    rw [show (2 : Nat) ^ 64 = 18446744073709551616 by decide]; omega
  rw [Nat.testBit_and, e, Nat.testBit_two_pow_sub_succ (by rw [show (2 : Nat) ^ 64 = 18446744073709551616 by decide]; omega), pred_bits h2 h3, Nat.testBit_two_pow]
  by_cases a : i < firstB x
  · rw [if_pos a, h3 i a]
    have : ¬ firstB x = i := by omega
    simp [this]
  · rw [if_neg a]
    by_cases b : i = firstB x
    · rw [if_pos b, b, h2]; simp [h1]
    · rw [if_neg b]
      have : ¬ firstB x = i := fun e => b e.symm
      cases x.testBit i <;> simp [this]
theorem and_pred {x : Nat} (h0 : x ≠ 0) (hx : x < 18446744073709551616) : bitsOf x = firstB x :: bitsOf (x &&& (x - 1)) := by
  obtain ⟨h1, h2, h3⟩ := firstB_low h0 hx
  have hb : ∀ i, (x &&& (x - 1)).testBit i = (decide (i ≠ firstB x) && x.testBit i) := fun i => by
    rw [Nat.testBit_and, pred_bits h2 h3]
    by_cases a : i < firstB x
    · rw [if_pos a, h3 i a]; simp
    · rw [if_neg a]
      by_cases b : i = firstB x
      · rw [if_pos b, b]; simp
      · rw [if_neg b]; simp [b]
  have hf : bitsOf (x &&& (x - 1)) = (bitsOf x).filter fun i => decide (i ≠ firstB x) := by
    unfold bitsOf
    rw [List.filter_filter]
    congr 1
    funext i
    exact hb i
  have hnd : (bitsOf x).Nodup := List.nodup_range.filter _
  have hmem : firstB x ∈ bitsOf x := mem_bits.2 ⟨h1, h2⟩
  rw [hf]
  obtain ⟨k, hkk⟩ : ∃ k, k = firstB x := ⟨_, rfl⟩
  rw [← hkk] at hmem ⊢
  have hd : (bitsOf x).headD 64 = k := hkk.symm
  cases hbx : bitsOf x with
  | nil => rw [hbx] at hmem; cases hmem
  | cons a l =>
    rw [hbx] at hd hnd
    simp at hd
    subst hd
    have hn := List.nodup_cons.1 hnd
    congr 1
    rw [List.filter_cons_of_neg (by simp)]
    refine (List.filter_eq_self.2 fun y hy => ?_).symm
    simp
    rintro rfl
    exact hn.1 hy
theorem bits_zero : bitsOf 0 = [] := by decide
theorem pred_lt {x : Nat} (hx : x < 18446744073709551616) : x &&& (x - 1) < 18446744073709551616 := Nat.lt_of_le_of_lt Nat.and_le_left hx
theorem debruijn : ∀ k : Nat, k < 64 → Go.Abs.tabBits[2 ^ k * 285870213051353865 % 18446744073709551616 / 2 ^ 58]? = some (k : Int) ∧ 2 ^ k * 285870213051353865 % 18446744073709551616 / 2 ^ 58 < 64 := by decide +kernel
end Go.Proofs.YtopfjochppdnfaaDoor
end

section
/- What names may mean: what each instruction brings, and the least sets, plainly. -/
set_option maxRecDepth 8000
set_option maxHeartbeats 1000000
namespace Go.Proofs.YtopfjochppdnfaaDoor
open Go.Abs
inductive Rw where
  | g
  | s (t : Nat)
  | f (k : Nat)
  deriving DecidableEq
abbrev Sg := Rw → Nat → Nat
def Le (σ τ : Sg) : Prop := ∀ r n i, (σ r n).testBit i = true → (τ r n).testBit i = true
theorem Le.refl (σ : Sg) : Le σ σ := fun _ _ _ h => h
theorem Le.trans {σ τ ρ : Sg} (h : Le σ τ) (k : Le τ ρ) : Le σ ρ := fun r n i x => k r n i (h r n i x)
theorem Le.anti {σ τ : Sg} (h : Le σ τ) (k : Le τ σ) : σ = τ := by
  funext r n
  apply Nat.eq_of_testBit_eq
  intro i
  rw [Bool.eq_iff_iff]
  exact ⟨h r n i, k r n i⟩
def orF {α : Type} (f : α → Nat) (l : List α) : Nat := l.foldl (fun o k => o ||| f k) 0
theorem orF_snoc {α : Type} (f : α → Nat) (l : List α) (x : α) : orF f (l ++ [x]) = orF f l ||| f x := by simp [orF]
theorem orF_from {α : Type} (f : α → Nat) (l : List α) : ∀ a, l.foldl (fun o k => o ||| f k) a = a ||| orF f l := by
  induction l with
  | nil => intro a; simp [orF]
  | cons x l ih => intro a; simp only [orF, List.foldl_cons]; rw [ih, ih (0 ||| f x)]; simp [Nat.or_assoc]
theorem orF_cons {α : Type} (f : α → Nat) (x : α) (l : List α) : orF f (x :: l) = f x ||| orF f l := by
  rw [orF, List.foldl_cons, orF_from]; simp
theorem orF_bit {α : Type} (f : α → Nat) (l : List α) (i : Nat) : (orF f l).testBit i = true ↔ ∃ x ∈ l, (f x).testBit i = true := by
  induction l with
  | nil => simp [orF]
  | cons x l ih => rw [orF_cons, Nat.testBit_or, Bool.or_eq_true, ih]; simp
def recL (c : Cd) (n : Int) : List Lo := match getI (slL c.Records) n with | some r => slL r | none => []
def slotsL (c : Cd) (t : Nat) : List Lo := match (slL c.Threads)[t]? with | some b => slL b.Slots | none => []
def lenR (c : Cd) : Rw → Nat
  | .g => (slL c.Globals).length
  | .s t => (slotsL c t).length
  | .f k => match (slL c.Sites)[k]? with | some x => (recL c x.Rec).length | none => 0
def meansB (l : Lo) : Bool := decide (l.Kind = 4) || decide (l.Kind = 3)
def meansO : Option Lo → Bool | some l => meansB l | none => false
def itemsN (σ : Sg) (t : Nat) (l : List It) : Nat := orF (fun x => if x.Op = 2 then σ (.s t) x.N else 0) l
def fieldsN (c : Cd) (σ : Sg) (t : Nat) (x : In) : Nat := orF (fun k => if x.N < lenR c (.f k) then σ (.f k) x.N.toNat else 0) (bitsOf (σ (.s t) x.Src.toNat))
def bringsN (c : Cd) (σ : Sg) (t : Nat) (x : In) : Nat :=
  if x.Op = 1 then itemsN σ t (slL x.Items)
  else if x.Op = 2 then σ .g x.N.toNat
  else if x.Op = 8 ∨ x.Op = 9 then 2 ^ x.N.toNat
  else if x.Op = 3 then fieldsN c σ t x
  else 0
def dstB (c : Cd) (t : Nat) (x : In) : Bool := (decide (x.Op = 1) || decide (x.Op = 2) || decide (x.Op = 3) || decide (x.Op = 8) || decide (x.Op = 9)) && meansO (getI (slotsL c t) x.Dst)
def siteRec (c : Cd) (k : Nat) (n : Int) : Bool := match (slL c.Sites)[k]? with | some s => decide (s.Rec = n) | none => false
def toF (c : Cd) (t : Nat) (x : In) (σ : Sg) : Rw → Bool
  | .f k => (σ (.s t) x.Src.toNat).testBit k && siteRec c k x.Rec
  | _ => false
def contr (c : Cd) (t : Nat) (x : In) (σ : Sg) (r : Rw) (n : Nat) : Nat :=
  if dstB c t x = true ∧ r = .s t ∧ n = x.Dst.toNat then bringsN c σ t x
  else if x.Op = 5 ∧ meansO (getI (slL c.Globals) x.N) = true ∧ r = .g ∧ n = x.N.toNat then itemsN σ t (slL x.Items)
  else if x.Op = 6 ∧ meansO (getI (recL c x.Rec) x.N) = true ∧ toF c t x σ r = true ∧ n = x.N.toNat then itemsN σ t (slL x.Items)
  else 0
def stepS (c : Cd) (t : Nat) (x : In) (σ : Sg) : Sg := fun r n => σ r n ||| contr c t x σ r n
theorem items_mono {σ τ : Sg} (h : Le σ τ) (t : Nat) (l : List It) (i : Nat) (hi : (itemsN σ t l).testBit i = true) : (itemsN τ t l).testBit i = true := by
  unfold itemsN at *
  rw [orF_bit] at *
  obtain ⟨x, hx, hb⟩ := hi
  refine ⟨x, hx, ?_⟩
  split at hb
  · rename_i e; rw [if_pos e]; exact h _ _ _ hb
  · simp at hb
theorem fields_mono {c : Cd} {σ τ : Sg} (h : Le σ τ) (t : Nat) (x : In) (i : Nat) (hi : (fieldsN c σ t x).testBit i = true) : (fieldsN c τ t x).testBit i = true := by
  unfold fieldsN at *
  rw [orF_bit] at *
  obtain ⟨k, hk, hb⟩ := hi
  rw [mem_bits] at hk
  refine ⟨k, mem_bits.2 ⟨hk.1, h _ _ _ hk.2⟩, ?_⟩
  split at hb
  · rename_i e; rw [if_pos e]; exact h _ _ _ hb
  · simp at hb
theorem brings_mono {c : Cd} {σ τ : Sg} (h : Le σ τ) (t : Nat) (x : In) (i : Nat) (hi : (bringsN c σ t x).testBit i = true) : (bringsN c τ t x).testBit i = true := by
  unfold bringsN at *
  split
  · rename_i e; rw [if_pos e] at hi; exact items_mono h _ _ _ hi
  · rename_i e; rw [if_neg e] at hi
    split
    · rename_i e; rw [if_pos e] at hi; exact h _ _ _ hi
    · rename_i e; rw [if_neg e] at hi
      split
      · rename_i e; rw [if_pos e] at hi; exact hi
      · rename_i e; rw [if_neg e] at hi
        split
        · rename_i e; rw [if_pos e] at hi; exact fields_mono h _ _ _ hi
        · rename_i e; rw [if_neg e] at hi; exact hi
theorem toF_mono {c : Cd} {σ τ : Sg} (h : Le σ τ) (t : Nat) (x : In) (r : Rw) (hr : toF c t x σ r = true) : toF c t x τ r = true := by
  cases r with
  | f k =>
    simp only [toF, Bool.and_eq_true] at *
    exact ⟨h _ _ _ hr.1, hr.2⟩
  | _ => cases hr
theorem contr_bit (c : Cd) (t : Nat) (x : In) (σ : Sg) (r : Rw) (n i : Nat) : (contr c t x σ r n).testBit i = true ↔
    (dstB c t x = true ∧ r = .s t ∧ n = x.Dst.toNat ∧ (bringsN c σ t x).testBit i = true) ∨
    (x.Op = 5 ∧ meansO (getI (slL c.Globals) x.N) = true ∧ r = .g ∧ n = x.N.toNat ∧ (itemsN σ t (slL x.Items)).testBit i = true) ∨
    (x.Op = 6 ∧ meansO (getI (recL c x.Rec) x.N) = true ∧ toF c t x σ r = true ∧ n = x.N.toNat ∧ (itemsN σ t (slL x.Items)).testBit i = true) := by
  have d5 : dstB c t x = true → x.Op ≠ 5 ∧ x.Op ≠ 6 := by
    intro h
    simp only [dstB, Bool.and_eq_true, Bool.or_eq_true, decide_eq_true_eq] at h
    omega
  unfold contr
  by_cases h1 : dstB c t x = true ∧ r = .s t ∧ n = x.Dst.toNat
  · rw [if_pos h1]
    have := d5 h1.1
    constructor
    · intro h; exact Or.inl ⟨h1.1, h1.2.1, h1.2.2, h⟩
    · rintro (h | h | h)
      · exact h.2.2.2
      · exact absurd h.1 this.1
      · exact absurd h.1 this.2
  · rw [if_neg h1]
    by_cases h2 : x.Op = 5 ∧ meansO (getI (slL c.Globals) x.N) = true ∧ r = .g ∧ n = x.N.toNat
    · rw [if_pos h2]
      constructor
      · intro h; exact Or.inr (Or.inl ⟨h2.1, h2.2.1, h2.2.2.1, h2.2.2.2, h⟩)
      · rintro (h | h | h)
        · exact absurd ⟨h.1, h.2.1, h.2.2.1⟩ h1
        · exact h.2.2.2.2
        · have := h2.1; have := h.1; omega
    · rw [if_neg h2]
      by_cases h3 : x.Op = 6 ∧ meansO (getI (recL c x.Rec) x.N) = true ∧ toF c t x σ r = true ∧ n = x.N.toNat
      · rw [if_pos h3]
        constructor
        · intro h; exact Or.inr (Or.inr ⟨h3.1, h3.2.1, h3.2.2.1, h3.2.2.2, h⟩)
        · rintro (h | h | h)
          · exact absurd ⟨h.1, h.2.1, h.2.2.1⟩ h1
          · exact absurd ⟨h.1, h.2.1, h.2.2.1, h.2.2.2.1⟩ h2
          · exact h.2.2.2.2
      · rw [if_neg h3]
        constructor
        · intro h; simp at h
        · rintro (h | h | h)
          · exact absurd ⟨h.1, h.2.1, h.2.2.1⟩ h1
          · exact absurd ⟨h.1, h.2.1, h.2.2.1, h.2.2.2.1⟩ h2
          · exact absurd ⟨h.1, h.2.1, h.2.2.1, h.2.2.2.1⟩ h3
theorem contr_mono {c : Cd} {σ τ : Sg} (h : Le σ τ) (t : Nat) (x : In) : Le (contr c t x σ) (contr c t x τ) := by
  intro r n i hi
  rw [contr_bit] at *
  rcases hi with ⟨h1, h2, h3, h4⟩ | ⟨h1, h2, h3, h4, h5⟩ | ⟨h1, h2, h3, h4, h5⟩
  · exact Or.inl ⟨h1, h2, h3, brings_mono h _ _ _ h4⟩
  · exact Or.inr (Or.inl ⟨h1, h2, h3, h4, items_mono h _ _ _ h5⟩)
  · exact Or.inr (Or.inr ⟨h1, h2, toF_mono h _ _ _ h3, h4, items_mono h _ _ _ h5⟩)
theorem le_step (c : Cd) (t : Nat) (x : In) (σ : Sg) : Le σ (stepS c t x σ) := fun r n i h => by
  unfold stepS; rw [Nat.testBit_or, h]; rfl
theorem step_le {c : Cd} {t : Nat} {x : In} {σ τ : Sg} (h : Le σ τ) (hc : Le (contr c t x τ) τ) : Le (stepS c t x σ) τ := fun r n i hi => by
  unfold stepS at hi
  rw [Nat.testBit_or, Bool.or_eq_true] at hi
  rcases hi with hi | hi
  · exact h r n i hi
  · exact hc r n i (contr_mono h t x r n i hi)
theorem step_id {c : Cd} {t : Nat} {x : In} {σ : Sg} (h : stepS c t x σ = σ) : Le (contr c t x σ) σ := fun r n i hi => by
  rw [← h]; unfold stepS; rw [Nat.testBit_or, hi, Bool.or_true]
def Cl (c : Cd) (σ : Sg) : Prop := ∀ (t : Nat) (b : Bd) (a : Nat) (x : In), (slL c.Threads)[t]? = some b → (slL b.Code)[a]? = some x → Le (contr c t x σ) σ
def Lw (c : Cd) (σ : Sg) : Prop := ∀ τ, Cl c τ → Le σ τ
theorem Lw.step {c : Cd} {t a : Nat} {b : Bd} {x : In} {σ : Sg} (h : Lw c σ) (hb : (slL c.Threads)[t]? = some b) (hx : (slL b.Code)[a]? = some x) : Lw c (stepS c t x σ) := fun τ ht => step_le (h τ ht) (ht t b a x hb hx)
/-! What of a code that can be is known. -/
structure Wf (c : Cd) (b : Bd) (x : In) : Prop where
  dst : (x.Op = 1 ∨ x.Op = 2 ∨ x.Op = 3 ∨ x.Op = 4 ∨ x.Op = 8 ∨ x.Op = 9 ∨ x.Op = 10) → btw x.Dst (slL b.Slots).length = true
  items : (x.Op = 1 ∨ x.Op = 5 ∨ x.Op = 6) → (∀ y ∈ slL x.Items, y.Op = 2 → y.N < (slL b.Slots).length) ∧ (slL x.Items).length ≤ 64
  glob : (x.Op = 2 ∨ x.Op = 5) → btw x.N (slL c.Globals).length = true
  fld : (x.Op = 3 ∨ x.Op = 6) → ∃ r, getI (slL c.Records) x.Rec = some r ∧ btw x.N (slL r).length = true ∧ btw x.Src (slL b.Slots).length = true
  site : (x.Op = 8 ∨ x.Op = 9) → btw x.N (slL c.Sites).length = true
  ints : (x.Op = 4 ∨ x.Op = 10) → ∀ l, getI (slL b.Slots) x.Dst = some l → l.Kind = 1
theorem isB_in {b : Bd} {n : Int} {w : Lo} (h : isB b n w = true) : btw n (slL b.Slots).length = true := by
  cases hb : btw n (slL b.Slots).length with
  | true => rfl
  | false => rw [isB_not hb] at h; cases h
theorem isB_kind {b : Bd} {n : Int} {w l : Lo} (h : isB b n w = true) (hl : getI (slL b.Slots) n = some l) : l.Kind = w.Kind ∧ l.Rec = w.Rec := by
  unfold isB at h
  rw [hl] at h
  simp only [sameB, Bool.and_eq_true, decide_eq_true_eq] at h
  exact h
theorem items_in {b : Bd} {o : Option (List It)} (h : itemsB b o = true) : (∀ y ∈ slL o, y.Op = 2 → y.N < (slL b.Slots).length) ∧ (slL o).length ≤ 64 := by
  have h : goodP (slL o) (slL b.Slots).length := by simpa [itemsB, goodB] using h
  refine ⟨fun y hy h2 => ?_, h.2.2⟩
  obtain ⟨k, hk⟩ := List.getElem?_of_mem hy
  have := (h.1 k (List.getElem?_eq_some_iff.1 hk).1 y hk).1
  unfold fitsB at this
  rw [if_neg (by omega), if_pos h2] at this
  simp only [Bool.and_eq_true, decide_eq_true_eq] at this
  omega
theorem field_in {c : Cd} {b : Bd} {x : In} {f : Lo} (h : fieldO c b x = some f) : ∃ r, getI (slL c.Records) x.Rec = some r ∧ btw x.N (slL r).length = true ∧ btw x.Src (slL b.Slots).length = true := by
  unfold fieldO at h
  cases h1 : getI (slL c.Records) x.Rec with
  | none => rw [h1] at h; cases h
  | some r =>
    rw [h1] at h
    simp only at h
    cases h2 : getI (slL r) x.N with
    | none => rw [h2] at h; cases h
    | some f =>
      rw [h2] at h
      simp only at h
      cases h3 : isB b x.Src ⟨4, x.Rec, false⟩ with
      | false => rw [h3] at h; simp at h
      | true => exact ⟨r, rfl, getI_some.2 ⟨f, h2⟩, isB_in h3⟩
theorem instr_wf {c : Cd} {t a : Int} {b : Bd} {x : In} (h : instrB c t b x a = true) : Wf c b x := by
  refine ⟨?_, ?_, ?_, ?_, ?_, ?_⟩
  · rintro (e | e | e | e | e | e | e)
    all_goals (unfold instrB loadsB at h; simp only [e] at h; simp at h)
    · exact h.1.2
    · obtain ⟨_, _, h⟩ := h; split at h <;> first | exact isB_in h | cases h
    · obtain ⟨_, _, h⟩ := h; split at h <;> first | exact isB_in h | cases h
    · exact isB_in h.2.1.1.2
    · exact isB_in h.2.1.2
    · exact isB_in h.2.1.1.2
    · exact isB_in h.1.2
  · rintro (e | e | e)
    all_goals (unfold instrB storesB at h; simp only [e] at h; simp at h)
    · exact items_in h.2
    · exact items_in h.2.2
    · exact items_in h.2.2
  · rintro (e | e)
    all_goals (unfold instrB loadsB storesB at h; simp only [e] at h; simp at h)
    · obtain ⟨_, _, h⟩ := h
      split at h
      · rename_i g hg; exact getI_some.2 ⟨g, hg⟩
      · cases h
    · exact h.2.1.2
  · rintro (e | e)
    all_goals (unfold instrB loadsB storesB at h; simp only [e] at h; simp at h)
    · obtain ⟨_, _, h⟩ := h
      split at h
      · rename_i g hg; exact field_in hg
      · cases h
    · obtain ⟨_, ⟨_, h⟩, _⟩ := h
      obtain ⟨f, hf⟩ := Option.isSome_iff_exists.1 h
      exact field_in hf
  · rintro (e | e)
    all_goals (unfold instrB loadsB siteB at h; simp only [e] at h; simp at h)
    · exact getI_some.2 ⟨_, h.2.2⟩
    · exact getI_some.2 ⟨_, h.2.2⟩
  · rintro (e | e) l hl
    all_goals (unfold instrB loadsB at h; simp only [e] at h; simp at h)
    · exact (isB_kind h.2.1.1.2 hl).1
    · exact (isB_kind h.1.2 hl).1
structure WfC (c : Cd) : Prop where
  thr : (slL c.Threads).length ≤ 4
  sit : (slL c.Sites).length ≤ 32
  glo : (slL c.Globals).length ≤ 8
  recs : ∀ r ∈ slL c.Records, (slL r).length ≤ 6
  slo : ∀ (t : Nat) (b : Bd), (slL c.Threads)[t]? = some b → (slL b.Slots).length ≤ 64 ∧ (slL b.Code).length ≤ 256
  ins : ∀ (t a : Nat) (b : Bd) (x : In), (slL c.Threads)[t]? = some b → (slL b.Code)[a]? = some x → Wf c b x
  site : ∀ (k : Nat) (s : Api_Site), (slL c.Sites)[k]? = some s → s.Rec = -1 ∨ ∃ r, getI (slL c.Records) s.Rec = some r
theorem wf_of {c : Cd} (h : okC c = true) : WfC c := by
  obtain ⟨h1, h2, h3, h4, h5, h6, h7⟩ := okC_split h
  have h7' : ∀ (t : Nat) (b : Bd), (slL c.Threads)[t]? = some b → threadB c t b = true := allK_iff.1 h7
  have hin : ∀ (t a : Nat) (b : Bd) (x : In), (slL c.Threads)[t]? = some b → (slL b.Code)[a]? = some x → instrB c t b x a = true := by
    intro t a b x hb hx
    have ht := h7' t b hb
    simp only [threadB, Bool.and_eq_true] at ht
    exact allK_iff.1 ht.2 a x hx
  have hs : (slL c.Sites).length ≤ 32 ∧ allK (siteOk c) (slL c.Sites) = true := by
    simpa [sitesB] using h5
  refine ⟨h2, hs.1, ?_, ?_, ?_, fun t a b x hb hx => instr_wf (hin t a b x hb hx), ?_⟩
  · simp only [cellsB, Bool.and_eq_true, decide_eq_true_eq] at h3; omega
  · intro r hr
    have := List.all_eq_true.1 h6 r hr
    simp only [cellsB, Bool.and_eq_true, decide_eq_true_eq] at this; omega
  · intro t b hb
    have ht := h7' t b hb
    simp only [threadB, bodyB, Bool.and_eq_true, decide_eq_true_eq] at ht
    omega
  · intro k s hk
    have hk2 := allK_iff.1 hs.2 k s hk
    unfold siteOk codeAt at hk2
    cases hb : getI (slL c.Threads) s.Thread with
    | none => rw [hb] at hk2; cases hk2
    | some b =>
      rw [hb] at hk2
      simp only at hk2
      cases hx : getI (slL b.Code) s.At with
      | none => rw [hx] at hk2; cases hk2
      | some x =>
        rw [hx] at hk2
        simp only [Bool.and_eq_true, Bool.or_eq_true, decide_eq_true_eq] at hk2
        obtain ⟨t, et, hb2⟩ := getI_nat hb
        obtain ⟨a, ea, hx2⟩ := getI_nat hx
        have hi := hin t a b x hb2 hx2
        have hsk : getI (slL c.Sites) x.N = some s := by rw [hk2.1, getI_natCast]; exact hk
        rcases hk2.2 with e | e
        · unfold instrB loadsB siteB at hi; simp only [e] at hi; simp at hi
          rw [hsk] at hi
          have := hi.2.2
          have hrec := hi.2.1.1.2
          obtain ⟨r, hr⟩ := getI_some.1 hrec
          simp only [Option.some.injEq] at this
          right
          exact ⟨r, by rw [this]; exact hr⟩
        · unfold instrB loadsB siteB at hi; simp only [e] at hi; simp at hi
          rw [hsk] at hi
          have := hi.2.2
          simp only [Option.some.injEq] at this
          left
          rw [this]
def Bd2 (c : Cd) (σ : Sg) : Prop := ∀ r n i, (σ r n).testBit i = true → i < (slL c.Sites).length
theorem items_bd {c : Cd} {σ : Sg} (h : Bd2 c σ) {t : Nat} {l : List It} {i : Nat} (hi : (itemsN σ t l).testBit i = true) : i < (slL c.Sites).length := by
  unfold itemsN at hi
  rw [orF_bit] at hi
  obtain ⟨x, _, hb⟩ := hi
  split at hb
  · exact h _ _ _ hb
  · simp at hb
theorem brings_bd {c : Cd} {σ : Sg} (h : Bd2 c σ) {b : Bd} {x : In} (w : Wf c b x) {t i : Nat} (hi : (bringsN c σ t x).testBit i = true) : i < (slL c.Sites).length := by
  unfold bringsN at hi
  split at hi
  · exact items_bd h hi
  · split at hi
    · exact h _ _ _ hi
    · split at hi
      · rename_i e
        have := w.site e
        simp only [btw, Bool.and_eq_true, decide_eq_true_eq] at this
        rw [Nat.testBit_two_pow] at hi
        have := of_decide_eq_true hi
        omega
      · split at hi
        · unfold fieldsN at hi
          rw [orF_bit] at hi
          obtain ⟨k, _, hb⟩ := hi
          split at hb
          · exact h _ _ _ hb
          · simp at hb
        · simp at hi
theorem Bd2.step {c : Cd} {σ : Sg} (h : Bd2 c σ) {b : Bd} {x : In} (w : Wf c b x) (t : Nat) : Bd2 c (stepS c t x σ) := fun r n i hi => by
  unfold stepS at hi
  rw [Nat.testBit_or, Bool.or_eq_true, contr_bit] at hi
  rcases hi with hi | ⟨_, _, _, hi⟩ | ⟨_, _, _, _, hi⟩ | ⟨_, _, _, _, hi⟩
  · exact h _ _ _ hi
  · exact brings_bd h w hi
  · exact items_bd h hi
  · exact items_bd h hi
theorem lt_of_bits {x n : Nat} (h : ∀ i, x.testBit i = true → i < n) : x < 2 ^ n := by
  apply Nat.lt_pow_two_of_testBit
  intro i hi
  cases hb : x.testBit i with
  | false => rfl
  | true => have := h i hb; omega
theorem Bd2.lt {c : Cd} {σ : Sg} (h : Bd2 c σ) (r : Rw) (n : Nat) : σ r n < 2 ^ (slL c.Sites).length := lt_of_bits (h r n)
theorem pow_small {n : Nat} (h : n ≤ 32) : 2 ^ n ≤ 4294967296 := by
  have := Nat.pow_le_pow_right (show 0 < 2 by decide) h
  simpa using this
def Rg (c : Cd) (σ : Sg) : Prop := ∀ r n, σ r n ≠ 0 → n < lenR c r
theorem contr_rg {c : Cd} {σ : Sg} (h : Rg c σ) {t : Nat} {b : Bd} {x : In} (hb : (slL c.Threads)[t]? = some b) (w : Wf c b x) {r : Rw} {n i : Nat} (hi : (contr c t x σ r n).testBit i = true) : n < lenR c r := by
  have hsl : slotsL c t = slL b.Slots := by unfold slotsL; rw [hb]
  rw [contr_bit] at hi
  rcases hi with ⟨h1, rfl, h3, -⟩ | ⟨h1, -, rfl, h4, -⟩ | ⟨h1, -, h3, h4, -⟩
  · have hd := w.dst (by simp only [dstB, Bool.and_eq_true, Bool.or_eq_true, decide_eq_true_eq] at h1; omega)
    simp only [btw, Bool.and_eq_true, decide_eq_true_eq] at hd
    simp only [lenR, hsl]
    omega
  · have hd := w.glob (Or.inr h1)
    simp only [btw, Bool.and_eq_true, decide_eq_true_eq] at hd
    simp only [lenR]
    omega
  · obtain ⟨rr, hr, hn, _⟩ := w.fld (Or.inr h1)
    cases r with
    | f k =>
      simp only [toF, siteRec, Bool.and_eq_true] at h3
      simp only [lenR]
      cases hk : (slL c.Sites)[k]? with
      | none => rw [hk] at h3; simp at h3
      | some s =>
        rw [hk] at h3
        have h3 := of_decide_eq_true h3.2
        simp only [recL, h3, hr]
        simp only [btw, Bool.and_eq_true, decide_eq_true_eq] at hn
        omega
    | g => cases h3
    | s t => cases h3
theorem ne_zero_bit {n : Nat} (h : n ≠ 0) : ∃ i, n.testBit i = true := by
  apply Classical.byContradiction
  intro hn
  apply h
  apply Nat.eq_of_testBit_eq
  intro i
  cases hb : n.testBit i with
  | false => simp
  | true => exact absurd ⟨i, hb⟩ hn
theorem Rg.step {c : Cd} {σ : Sg} (h : Rg c σ) {t : Nat} {b : Bd} {x : In} (hb : (slL c.Threads)[t]? = some b) (w : Wf c b x) : Rg c (stepS c t x σ) := fun r n hn => by
  obtain ⟨i, hi⟩ := ne_zero_bit hn
  unfold stepS at hi
  rw [Nat.testBit_or, Bool.or_eq_true] at hi
  rcases hi with hi | hi
  · exact h r n (by rintro e; rw [e] at hi; simp at hi)
  · exact contr_rg h hb w hi
/-! How much may come yet. -/
def keysC (c : Cd) : List (Rw × Nat) :=
  ((List.range (lenR c .g)).map fun n => (Rw.g, n)) ++
  ((List.range (slL c.Threads).length).flatMap fun t => (List.range (lenR c (.s t))).map fun n => (Rw.s t, n)) ++
  ((List.range (slL c.Sites).length).flatMap fun k => (List.range (lenR c (.f k))).map fun n => (Rw.f k, n))
theorem mem_keys {c : Cd} {r : Rw} {n : Nat} (h : n < lenR c r) : (r, n) ∈ keysC c := by
  unfold keysC
  simp only [List.mem_append, List.mem_map, List.mem_flatMap, List.mem_range, Prod.mk.injEq]
  cases r with
  | g => exact Or.inl (Or.inl ⟨n, h, rfl, rfl⟩)
  | s t =>
    have ht : t < (slL c.Threads).length := by
      apply Classical.byContradiction
      intro hn
      simp only [lenR, slotsL] at h
      rw [List.getElem?_eq_none (by omega)] at h
      simp at h
    exact Or.inl (Or.inr ⟨t, ht, n, h, rfl, rfl⟩)
  | f k =>
    have hk : k < (slL c.Sites).length := by
      apply Classical.byContradiction
      intro hn
      simp only [lenR] at h
      rw [List.getElem?_eq_none (by omega)] at h
      simp at h
    exact Or.inr ⟨k, hk, n, h, rfl, rfl⟩
def leftOf (c : Cd) (σ : Sg) : Nat := ((keysC c).map fun k => 2 ^ (slL c.Sites).length - σ k.1 k.2).sum
theorem sum_lt {α : Type} {f g : α → Nat} {l : List α} (h : ∀ x ∈ l, f x ≤ g x) {y : α} (hy : y ∈ l) (hlt : f y < g y) : (l.map f).sum < (l.map g).sum := by
  induction l with
  | nil => cases hy
  | cons x l ih =>
    simp only [List.map_cons, List.sum_cons]
    have hle : (l.map f).sum ≤ (l.map g).sum := by
      clear ih hy
      induction l with
      | nil => simp
      | cons z l ih =>
        simp only [List.map_cons, List.sum_cons]
        have := h z (by simp)
        have := ih (fun x hx => h x (by
          rcases List.mem_cons.1 hx with rfl | hx
          · simp
          · simp [hx]))
        omega
    have hx := h x (by simp)
    rcases List.mem_cons.1 hy with rfl | hy
    · omega
    · have := ih (fun z hz => h z (by simp [hz])) hy
      omega
theorem le_nat {a b : Nat} (h : ∀ i, a.testBit i = true → b.testBit i = true) : a ≤ b := by
  have : b = a ||| b := by
    apply Nat.eq_of_testBit_eq
    intro i
    rw [Nat.testBit_or]
    cases ha : a.testBit i with
    | false => simp
    | true => simp [h i ha]
  rw [this]
  exact Nat.left_le_or
theorem left_lt {c : Cd} {σ τ : Sg} (h : Le σ τ) (hb : Bd2 c τ) (hr : Rg c τ) (hn : τ ≠ σ) : leftOf c τ < leftOf c σ := by
  obtain ⟨r, n, hd⟩ : ∃ r n, τ r n ≠ σ r n := by
    apply Classical.byContradiction
    intro hc
    apply hn
    funext r n
    apply Classical.byContradiction
    intro he
    exact hc ⟨r, n, he⟩
  have hle : ∀ r n, σ r n ≤ τ r n := fun r n => le_nat (h r n)
  have hz : τ r n ≠ 0 := by have := hle r n; omega
  have hk := mem_keys (hr r n hz)
  unfold leftOf
  refine sum_lt (fun k _ => ?_) hk ?_
  · have := hle k.1 k.2; omega
  · have := hle r n
    have := hb.lt r n
    simp only
    omega
end Go.Proofs.YtopfjochppdnfaaDoor
end

section
/- With one thing less done nothing more is meant, plainly. -/
set_option maxRecDepth 8000
set_option maxHeartbeats 1000000
namespace Go.Proofs.YtopfjochppdnfaaDoor
open Go.Abs
def lessI (x : In) : In := { x with Items := some [⟨1, 0, 0⟩] }
def lessB (b : Bd) (a : Nat) : Bd := { b with Code := some ((slL b.Code).mapIdx fun i x => if i = a then lessI x else x) }
def lessC (c : Cd) (t a : Nat) : Cd := { c with Threads := some ((slL c.Threads).mapIdx fun i b => if i = t then lessB b a else b) }
theorem lessB_get (b : Bd) (a i : Nat) : (slL (lessB b a).Code)[i]? = ((slL b.Code)[i]?).map fun x => if i = a then lessI x else x := by
  simp only [lessB, slL_some, List.getElem?_mapIdx]
theorem lessC_get (c : Cd) (t a i : Nat) : (slL (lessC c t a).Threads)[i]? = ((slL c.Threads)[i]?).map fun b => if i = t then lessB b a else b := by
  simp only [lessC, slL_some, List.getElem?_mapIdx]
theorem lessC_slots (c : Cd) (t a i : Nat) : slotsL (lessC c t a) i = slotsL c i := by
  unfold slotsL
  rw [lessC_get]
  cases (slL c.Threads)[i]? with
  | none => rfl
  | some b => simp only [Option.map_some]; split <;> rfl
theorem lessC_len (c : Cd) (t a : Nat) (r : Rw) : lenR (lessC c t a) r = lenR c r := by
  cases r with
  | g => rfl
  | s i => simp only [lenR, lessC_slots]
  | f k => rfl
theorem lessC_contr (c : Cd) (t a i : Nat) (x : In) (σ : Sg) : contr (lessC c t a) i x σ = contr c i x σ := by
  have h1 : dstB (lessC c t a) i x = dstB c i x := by unfold dstB; rw [lessC_slots]
  have h2 : bringsN (lessC c t a) σ i x = bringsN c σ i x := by unfold bringsN fieldsN; simp only [lessC_len]
  funext r n
  unfold contr
  rw [h1, h2]
  rfl
theorem lessI_contr {c : Cd} {i : Nat} {x : In} {σ : Sg} (hop : x.Op = 1 ∨ x.Op = 5 ∨ x.Op = 6) : Le (contr c i (lessI x) σ) (contr c i x σ) := by
  intro r n k hk
  have h0 : itemsN σ i (slL (lessI x).Items) = 0 := by simp [lessI, itemsN, orF]
  rw [contr_bit] at hk
  rcases hk with ⟨h1, h2, h3, h4⟩ | ⟨h1, h2, h3, h4, h5⟩ | ⟨h1, h2, h3, h4, h5⟩
  · have hb : bringsN c σ i (lessI x) = 0 := by
      have e : (lessI x).Op = 1 := by
        simp only [dstB, Bool.and_eq_true, Bool.or_eq_true, decide_eq_true_eq] at h1
        have : (lessI x).Op = x.Op := rfl
        omega
      unfold bringsN
      rw [if_pos e, h0]
    rw [hb] at h4; simp at h4
  · rw [h0] at h5; simp at h5
  · rw [h0] at h5; simp at h5
theorem less_cl {c : Cd} {t a : Nat} {b : Bd} {x : In} (hb : (slL c.Threads)[t]? = some b) (hx : (slL b.Code)[a]? = some x) (hop : x.Op = 1 ∨ x.Op = 5 ∨ x.Op = 6) {τ : Sg} (h : Cl c τ) : Cl (lessC c t a) τ := by
  intro i b' k x' hb' hx'
  rw [lessC_contr]
  rw [lessC_get] at hb'
  cases hi : (slL c.Threads)[i]? with
  | none => rw [hi] at hb'; cases hb'
  | some b0 =>
    rw [hi] at hb'
    simp only [Option.map_some, Option.some.injEq] at hb'
    by_cases e : i = t
    · subst e
      rw [hb] at hi; cases hi
      rw [if_pos rfl] at hb'
      subst hb'
      rw [lessB_get] at hx'
      cases hk : (slL b.Code)[k]? with
      | none => rw [hk] at hx'; cases hx'
      | some x0 =>
        rw [hk] at hx'
        simp only [Option.map_some, Option.some.injEq] at hx'
        by_cases e2 : k = a
        · subst e2
          rw [hx] at hk; cases hk
          rw [if_pos rfl] at hx'
          subst hx'
          exact (lessI_contr hop).trans (h i b k x hb hx)
        · rw [if_neg e2] at hx'
          subst hx'
          exact h i b k x0 hb hk
    · rw [if_neg e] at hb'
      subst hb'
      exact h i b0 k x' hi hx'
/-! The new code can be, too. -/
theorem push_good (b : Bd) : itemsB b (some [⟨1, 0, 0⟩]) = true := by
  have hg : goodP [⟨1, 0, 0⟩] (slL b.Slots).length := by
    refine ⟨?_, by decide, by decide⟩
    intro k hk x hx
    have : k = 0 := by simpa using hk
    subst this
    simp at hx
    subst hx
    refine ⟨by simp [fitsB], by decide⟩
  unfold itemsB goodB
  exact @decide_eq_true _ (Classical.propDecidable _) hg
theorem lessC_codeAt (c : Cd) (t a : Nat) (i k : Int) : (codeAt (lessC c t a) i k = codeAt c i k) ∨ ∃ x, codeAt c i k = some x ∧ codeAt (lessC c t a) i k = some (lessI x) := by
  unfold codeAt getI
  by_cases h0 : 0 ≤ i
  · rw [if_pos h0, if_pos h0, lessC_get]
    cases hb : (slL c.Threads)[i.toNat]? with
    | none => left; rfl
    | some b =>
      simp only [Option.map_some]
      by_cases e : i.toNat = t
      · rw [if_pos e]
        by_cases h1 : 0 ≤ k
        · rw [if_pos h1, if_pos h1, lessB_get]
          cases hx : (slL b.Code)[k.toNat]? with
          | none => left; rfl
          | some x =>
            simp only [Option.map_some]
            by_cases e2 : k.toNat = a
            · rw [if_pos e2]; right; exact ⟨x, rfl, rfl⟩
            · rw [if_neg e2]; left; rfl
        · rw [if_neg h1, if_neg h1]; left; rfl
      · rw [if_neg e]; left; rfl
  · rw [if_neg h0, if_neg h0]; left; rfl
theorem instr_less {c d : Cd} {t : Int} {b b' : Bd} {x : In} {a : Int} (hr : d.Records = c.Records) (hg : d.Globals = c.Globals) (hs : d.Sites = c.Sites) (hsec : d.Sections = c.Sections) (hsl : b'.Slots = b.Slots) (hcl : (slL b'.Code).length = (slL b.Code).length) : instrB d t b' x a = instrB c t b x a := by
  have ei : ∀ t a, insI d t a = insI c t a := fun t a => by unfold insI; rw [hsec]
  have e2 : ∀ n w, isB b' n w = isB b n w := fun n w => by unfold isB; rw [hsl]
  have e3 : ∀ o, itemsB b' o = itemsB b o := fun o => by unfold itemsB; rw [hsl]
  simp only [instrB, ei, goesB, borderB, loadsB, storesB, fieldO, siteB, e2, e3, hr, hg, hs, hsec, hsl, hcl]
theorem instr_lessI {c : Cd} {t : Int} {b : Bd} {x : In} {a : Int} (hop : x.Op = 1 ∨ x.Op = 5 ∨ x.Op = 6) (h : instrB c t b x a = true) : instrB c t b (lessI x) a = true := by
  have hp := push_good b
  have o1 : (lessI x).Op = x.Op := rfl
  rcases hop with e | e | e
  · unfold instrB at h ⊢
    simp only [o1, e] at h ⊢
    simp at h ⊢
    exact ⟨⟨h.1.1, h.1.2⟩, hp⟩
  · unfold instrB storesB at h ⊢
    simp only [o1, e] at h ⊢
    simp at h ⊢
    exact ⟨h.1, ⟨h.2.1.1, h.2.1.2⟩, hp⟩
  · unfold instrB storesB at h ⊢
    simp only [o1, e] at h ⊢
    simp at h ⊢
    exact ⟨h.1, ⟨h.2.1.1, h.2.1.2⟩, hp⟩
theorem less_ok {c : Cd} (h : okC c = true) {t a : Nat} {b : Bd} {x : In} (hb : (slL c.Threads)[t]? = some b) (hx : (slL b.Code)[a]? = some x) (hop : x.Op = 1 ∨ x.Op = 5 ∨ x.Op = 6) : okC (lessC c t a) = true := by
  obtain ⟨h1, h2, h3, h4, h5, h6, h7⟩ := okC_split h
  have es : sectionsB (lessC c t a) = true := by
    rw [← h4]
    have : ∀ j s, secB (lessC c t a) j s = secB c j s := fun j s => by
      unfold secB endsB
      rcases lessC_codeAt c t a s.Thread s.From with e | ⟨x1, e, e'⟩ <;> rcases lessC_codeAt c t a s.Thread s.To with f | ⟨x2, f, f'⟩
      · rw [e, f]; rfl
      · rw [e, f, f']; rfl
      · rw [e, e', f]; rfl
      · rw [e, e', f, f']; rfl
    unfold sectionsB
    have e : secB (lessC c t a) = secB c := by funext j s; exact this j s
    rw [e]; rfl
  have et : sitesB (lessC c t a) = true := by
    rw [← h5]
    unfold sitesB
    have e : siteOk (lessC c t a) = siteOk c := by
      funext j s
      unfold siteOk
      rcases lessC_codeAt c t a s.Thread s.At with e | ⟨x1, e, e'⟩
      · rw [e]
      · rw [e, e']; rfl
    rw [e]; rfl
  have eth : threadsB (lessC c t a) = true := by
    unfold threadsB
    rw [allK_iff]
    intro i b' hb'
    rw [lessC_get] at hb'
    cases hi : (slL c.Threads)[i]? with
    | none => rw [hi] at hb'; cases hb'
    | some b0 =>
      rw [hi] at hb'
      simp only [Option.map_some, Option.some.injEq] at hb'
      have h0 := allK_iff.1 h7 i b0 hi
      unfold threadB at h0
      simp only [Bool.and_eq_true] at h0
      obtain ⟨⟨p1, p2⟩, p3⟩ := h0
      have p3 := allK_iff.1 p3
      by_cases e : i = t
      · subst e
        rw [hb] at hi; cases hi
        rw [if_pos rfl] at hb'
        subst hb'
        have hlen : (slL (lessB b a).Code).length = (slL b.Code).length := by simp [lessB]
        have q1 : bodyB (lessC c i a) (lessB b a) = true := by
          have : bodyB (lessC c i a) (lessB b a) = bodyB c b := by unfold bodyB; rw [hlen]; rfl
          rw [this]; exact p1
        have q2 : lastB (lessB b a) = true := by
          unfold lastB at p2 ⊢
          rw [hlen]
          cases hg : getI (slL b.Code) (((slL b.Code).length : Int) - 1) with
          | none => rw [hg] at p2; cases p2
          | some y =>
            rw [hg] at p2
            obtain ⟨k, ek, hk⟩ := getI_nat hg
            rw [ek, getI_natCast, lessB_get, hk]
            simp only [Option.map_some]
            split
            · exact p2
            · exact p2
        have q3 : instrsB (lessC c i a) i (lessB b a) = true := by
          unfold instrsB
          rw [allK_iff]
          intro k x' hx'
          rw [lessB_get] at hx'
          cases hk : (slL b.Code)[k]? with
          | none => rw [hk] at hx'; cases hx'
          | some x0 =>
            rw [hk] at hx'
            simp only [Option.map_some, Option.some.injEq] at hx'
            rw [instr_less (c := c) (d := lessC c i a) (b := b) (b' := lessB b a) rfl rfl rfl rfl rfl hlen]
            by_cases e2 : k = a
            · subst e2
              rw [hx] at hk; cases hk
              rw [if_pos rfl] at hx'
              subst hx'
              exact instr_lessI hop (p3 k x hx)
            · rw [if_neg e2] at hx'
              subst hx'
              exact p3 k x0 hk
        unfold threadB
        rw [q1, q2, q3]; rfl
      · rw [if_neg e] at hb'
        subst hb'
        have q1 : bodyB (lessC c t a) b0 = true := p1
        have q3 : instrsB (lessC c t a) i b0 = true := by
          unfold instrsB
          rw [allK_iff]
          intro k x' hx'
          rw [instr_less (c := c) (d := lessC c t a) (b := b0) (b' := b0) rfl rfl rfl rfl rfl rfl]
          exact p3 k x' hx'
        unfold threadB
        rw [q1, p2, q3]; rfl
  have e2 : (slL (lessC c t a).Threads).length = (slL c.Threads).length := by simp [lessC]
  unfold okC
  rw [es, et, eth, e2, decide_eq_true h2]
  have e3 : cellsB (lessC c t a) (slL (lessC c t a).Globals) 8 = true := h3
  have e6 : (slL (lessC c t a).Records).all (fun r => cellsB (lessC c t a) (slL r) 6) = true := h6
  rw [e3, e6, decide_eq_true (show (slL (lessC c t a).Records).length ≤ 6 from h1)]
  simp
end Go.Proofs.YtopfjochppdnfaaDoor
end

