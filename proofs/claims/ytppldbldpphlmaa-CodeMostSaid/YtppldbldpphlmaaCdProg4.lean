/- What the program's functions of codes compute: instructions, threads. -/
import Derived.Test.YtppldbldpphlmaaCdProg3
set_option linter.unusedVariables false
set_option linter.unusedSimpArgs false
set_option maxRecDepth 100000
set_option maxHeartbeats 1000000
namespace Go.Proofs.Ytppldbldpphlmaa
open Go.Abs

theorem op18 (op : Int) : op = 1 ∨ (op = 2 ∨ op = 3 ∨ op = 4 ∨ op = 10 ∨ op = 8 ∨ op = 9) ∨ (op = 5 ∨ op = 6 ∨ op = 7) ∨ (op = 11 ∨ op = 12) ∨ op = 13 ∨ op = 14 ∨ (op = 15 ∨ op = 16) ∨ op = 17 ∨ (op < 1 ∨ 17 < op) := by omega

/-- The last part of an instruction's judging: by its kind. -/
noncomputable def kindB (c : Cd) (t : Int) (b : Bd) (x : In) (a : Int) : Bool :=
  if x.Op = 1 then plainB x true false false false false true false && btw x.Dst (slL b.Slots).length && itemsB b x.Items
  else if x.Op = 2 ∨ x.Op = 3 ∨ x.Op = 4 ∨ x.Op = 10 ∨ x.Op = 8 ∨ x.Op = 9 then loadsB c t b x a
  else if x.Op = 5 ∨ x.Op = 6 ∨ x.Op = 7 then storesB c b x
  else if x.Op = 11 ∨ x.Op = 12 then plainB x false false false false false true false && itemsB b x.Items
  else if x.Op = 13 then plainB x false false false false true false false && goesB c t b a x.To
  else if x.Op = 14 then plainB x false false false false true true false && goesB c t b a x.To && itemsB b x.Items
  else if x.Op = 15 ∨ x.Op = 16 then borderB c t x a
  else decide (x.Op = 17) && plainB x false false false false false false false && decide (a = (slL b.Code).length - 1)
theorem instrB_eq (c : Cd) (t : Int) (b : Bd) (x : In) (a : Int) : instrB c t b x a = (!((decide (2 ≤ x.Op) && decide (x.Op ≤ 9)) && decide (insI c t a < 0)) && kindB c t b x a) := by
  unfold instrB
  by_cases h : (2 ≤ x.Op ∧ x.Op ≤ 9) ∧ insI c t a < 0
  · rw [if_pos h]; simp [h]
  · rw [if_neg h]
    have : ((decide (2 ≤ x.Op) && decide (x.Op ≤ 9)) && decide (insI c t a < 0)) = false := by
      rw [Bool.eq_false_iff]; simpa [and_assoc] using h
    rw [this]; rfl

theorem code_maker_instr_does (m : Code_maker) (hm : m.ok) (hs : (slL m.Code.Sections).length ≤ 1000000) (hcl : (slL m.body.Code).length ≤ 1000000) (x : In) (hx : x.ok) (a : Int) (h : AHeap) : CallsA Try.prog 70 [.agg m.cells, .agg x.cells, .int .i64 a] h (fun v h2 => v = .bool (instrB m.Code m.thread m.body x a) ∧ Keeps h h2 (fun _ => False)) := by
  have hit := hx.2.2.2.2.2.2.1
  rw [instrB_eq]
  apply code_maker_instr_wp
  rcases op18 x.Op with hop | hop | hop | hop | hop | hop | hop | hop | hop
  · -- reckoned
    have hk : (!((decide (2 ≤ x.Op) && decide (x.Op ≤ 9)) && decide (insI m.Code m.thread a < 0)) && kindB m.Code m.thread m.body x a) = (plainB x true false false false false true false && btw x.Dst (slL m.body.Slots).length && itemsB m.body x.Items) := by simp [kindB, hop]
    rw [hk]
    (repeat (first | simp -dsimp -implicitDefEqProofs (disch := omega) only [↓gp0, ↓gp1, ↓gp2, gq0, gq1, gq2, gq3, gq4, gq5, gq6, gq7, gq8, gq9, go0, go1, gl0, gl1, gl2, gl3, ↓reduceIte, Nat.reduceEqDiff, Nat.reduceAdd, Nat.reduceLeDiff, pBuild, fillA, ↓Api_Local.r, ↓Api_Item.r, ↓Api_Instr.r, ↓Api_Body.r, ↓Api_Site.r, ↓Api_Section.r, ↓Api_Code.r, ↓Api_Path.r, ↓Code_maker.r, ↓Api_Value.r] | refine Cut.go ?_))
    refine (code_shared_does x.Op _).mono ?_
    rintro _ _ ⟨rfl, rfl⟩
    (repeat (first | simp -dsimp -implicitDefEqProofs (disch := omega) only [↓gp0, ↓gp1, ↓gp2, gq0, gq1, gq2, gq3, gq4, gq5, gq6, gq7, gq8, gq9, go0, go1, gl0, gl1, gl2, gl3, ↓reduceIte, Nat.reduceEqDiff, Nat.reduceAdd, Nat.reduceLeDiff, pBuild, fillA, ↓Api_Local.r, ↓Api_Item.r, ↓Api_Instr.r, ↓Api_Body.r, ↓Api_Site.r, ↓Api_Section.r, ↓Api_Code.r, ↓Api_Path.r, ↓Code_maker.r, ↓Api_Value.r, hop] | refine Cut.go ?_))
    refine (code_maker_slot_does m x.Dst _).mono ?_
    rintro _ h1 ⟨rfl, k1⟩
    (repeat (first | simp -dsimp -implicitDefEqProofs (disch := omega) only [↓gp0, ↓gp1, ↓gp2, gq0, gq1, gq2, gq3, gq4, gq5, gq6, gq7, gq8, gq9, go0, go1, gl0, gl1, gl2, gl3, ↓reduceIte, Nat.reduceEqDiff, Nat.reduceAdd, Nat.reduceLeDiff, pBuild, fillA, ↓Api_Local.r, ↓Api_Item.r, ↓Api_Instr.r, ↓Api_Body.r, ↓Api_Site.r, ↓Api_Section.r, ↓Api_Code.r, ↓Api_Path.r, ↓Code_maker.r, ↓Api_Value.r, hop] | refine Cut.go ?_))
    refine (plain_1000010 x _).mono ?_
    rintro _ _ ⟨rfl, rfl⟩
    (repeat (first | simp -dsimp -implicitDefEqProofs (disch := omega) only [↓gp0, ↓gp1, ↓gp2, gq0, gq1, gq2, gq3, gq4, gq5, gq6, gq7, gq8, gq9, go0, go1, gl0, gl1, gl2, gl3, ↓reduceIte, Nat.reduceEqDiff, Nat.reduceAdd, Nat.reduceLeDiff, pBuild, fillA, ↓Api_Local.r, ↓Api_Item.r, ↓Api_Instr.r, ↓Api_Body.r, ↓Api_Site.r, ↓Api_Section.r, ↓Api_Code.r, ↓Api_Path.r, ↓Code_maker.r, ↓Api_Value.r] | refine Cut.go ?_))
    have e : (getI (slL m.body.Slots) x.Dst).isSome = btw x.Dst (slL m.body.Slots).length := by
      cases hg : getI (slL m.body.Slots) x.Dst with
      | none => rw [getI_none.2 hg]; rfl
      | some y => rw [getI_some.2 ⟨y, hg⟩]; rfl
    rw [e]
    rcases hp : plainB x true false false false false true false with _ | _
    · (repeat (first | simp -dsimp -implicitDefEqProofs (disch := omega) only [↓gp0, ↓gp1, ↓gp2, gq0, gq1, gq2, gq3, gq4, gq5, gq6, gq7, gq8, gq9, go0, go1, gl0, gl1, gl2, gl3, ↓reduceIte, Nat.reduceEqDiff, Nat.reduceAdd, Nat.reduceLeDiff, pBuild, fillA, ↓Api_Local.r, ↓Api_Item.r, ↓Api_Instr.r, ↓Api_Body.r, ↓Api_Site.r, ↓Api_Section.r, ↓Api_Code.r, ↓Api_Path.r, ↓Code_maker.r, ↓Api_Value.r] | refine Cut.go ?_))
      try simp only [Bool.false_and, Bool.and_false, Bool.and_true, Bool.true_and, true_and]
      (repeat (first | assumption | with_reducible exact Keeps.refl _ _ | with_reducible refine Keeps.go ?_ (Keeps.one _ _) | with_reducible refine Keeps.go ?_ (by assumption)))
    (repeat (first | simp -dsimp -implicitDefEqProofs (disch := omega) only [↓gp0, ↓gp1, ↓gp2, gq0, gq1, gq2, gq3, gq4, gq5, gq6, gq7, gq8, gq9, go0, go1, gl0, gl1, gl2, gl3, ↓reduceIte, Nat.reduceEqDiff, Nat.reduceAdd, Nat.reduceLeDiff, pBuild, fillA, ↓Api_Local.r, ↓Api_Item.r, ↓Api_Instr.r, ↓Api_Body.r, ↓Api_Site.r, ↓Api_Section.r, ↓Api_Code.r, ↓Api_Path.r, ↓Code_maker.r, ↓Api_Value.r] | refine Cut.go ?_))
    rcases hd : btw x.Dst (slL m.body.Slots).length with _ | _
    · (repeat (first | simp -dsimp -implicitDefEqProofs (disch := omega) only [↓gp0, ↓gp1, ↓gp2, gq0, gq1, gq2, gq3, gq4, gq5, gq6, gq7, gq8, gq9, go0, go1, gl0, gl1, gl2, gl3, ↓reduceIte, Nat.reduceEqDiff, Nat.reduceAdd, Nat.reduceLeDiff, pBuild, fillA, ↓Api_Local.r, ↓Api_Item.r, ↓Api_Instr.r, ↓Api_Body.r, ↓Api_Site.r, ↓Api_Section.r, ↓Api_Code.r, ↓Api_Path.r, ↓Code_maker.r, ↓Api_Value.r] | refine Cut.go ?_))
      try simp only [Bool.false_and, Bool.and_false, Bool.and_true, Bool.true_and, true_and]
      (repeat (first | assumption | with_reducible exact Keeps.refl _ _ | with_reducible refine Keeps.go ?_ (Keeps.one _ _) | with_reducible refine Keeps.go ?_ (by assumption)))
    (repeat (first | simp -dsimp -implicitDefEqProofs (disch := omega) only [↓gp0, ↓gp1, ↓gp2, gq0, gq1, gq2, gq3, gq4, gq5, gq6, gq7, gq8, gq9, go0, go1, gl0, gl1, gl2, gl3, ↓reduceIte, Nat.reduceEqDiff, Nat.reduceAdd, Nat.reduceLeDiff, pBuild, fillA, ↓Api_Local.r, ↓Api_Item.r, ↓Api_Instr.r, ↓Api_Body.r, ↓Api_Site.r, ↓Api_Section.r, ↓Api_Code.r, ↓Api_Path.r, ↓Code_maker.r, ↓Api_Value.r] | refine Cut.go ?_))
    refine (code_maker_good_does m hm x.Items hit _).mono ?_
    rintro _ _ ⟨rfl, _⟩
    (repeat (first | simp -dsimp -implicitDefEqProofs (disch := omega) only [↓gp0, ↓gp1, ↓gp2, gq0, gq1, gq2, gq3, gq4, gq5, gq6, gq7, gq8, gq9, go0, go1, gl0, gl1, gl2, gl3, ↓reduceIte, Nat.reduceEqDiff, Nat.reduceAdd, Nat.reduceLeDiff, pBuild, fillA, ↓Api_Local.r, ↓Api_Item.r, ↓Api_Instr.r, ↓Api_Body.r, ↓Api_Site.r, ↓Api_Section.r, ↓Api_Code.r, ↓Api_Path.r, ↓Code_maker.r, ↓Api_Value.r] | refine Cut.go ?_))
    (first | (refine And.intro (by simp) ?_; (repeat (first | assumption | with_reducible exact Keeps.refl _ _ | with_reducible refine Keeps.go ?_ (Keeps.one _ _) | with_reducible refine Keeps.go ?_ (by assumption)))) | (repeat (first | assumption | with_reducible exact Keeps.refl _ _ | with_reducible refine Keeps.go ?_ (Keeps.one _ _) | with_reducible refine Keeps.go ?_ (by assumption))))
  · rcases hop with hop | hop | hop | hop | hop | hop
    · (repeat (first | simp -dsimp -implicitDefEqProofs (disch := omega) only [↓gp0, ↓gp1, ↓gp2, gq0, gq1, gq2, gq3, gq4, gq5, gq6, gq7, gq8, gq9, go0, go1, gl0, gl1, gl2, gl3, ↓reduceIte, Nat.reduceEqDiff, Nat.reduceAdd, Nat.reduceLeDiff, pBuild, fillA, ↓Api_Local.r, ↓Api_Item.r, ↓Api_Instr.r, ↓Api_Body.r, ↓Api_Site.r, ↓Api_Section.r, ↓Api_Code.r, ↓Api_Path.r, ↓Code_maker.r, ↓Api_Value.r] | refine Cut.go ?_))
      refine (code_shared_does x.Op _).mono ?_
      rintro _ _ ⟨rfl, rfl⟩
      (repeat (first | simp -dsimp -implicitDefEqProofs (disch := omega) only [↓gp0, ↓gp1, ↓gp2, gq0, gq1, gq2, gq3, gq4, gq5, gq6, gq7, gq8, gq9, go0, go1, gl0, gl1, gl2, gl3, ↓reduceIte, Nat.reduceEqDiff, Nat.reduceAdd, Nat.reduceLeDiff, pBuild, fillA, ↓Api_Local.r, ↓Api_Item.r, ↓Api_Instr.r, ↓Api_Body.r, ↓Api_Site.r, ↓Api_Section.r, ↓Api_Code.r, ↓Api_Path.r, ↓Code_maker.r, ↓Api_Value.r, hop] | refine Cut.go ?_))
      refine (code_Inside_does m.Code hm.1 hs m.thread a _).mono ?_
      rintro _ _ ⟨rfl, rfl⟩
      (repeat (first | simp -dsimp -implicitDefEqProofs (disch := omega) only [↓gp0, ↓gp1, ↓gp2, gq0, gq1, gq2, gq3, gq4, gq5, gq6, gq7, gq8, gq9, go0, go1, gl0, gl1, gl2, gl3, ↓reduceIte, Nat.reduceEqDiff, Nat.reduceAdd, Nat.reduceLeDiff, pBuild, fillA, ↓Api_Local.r, ↓Api_Item.r, ↓Api_Instr.r, ↓Api_Body.r, ↓Api_Site.r, ↓Api_Section.r, ↓Api_Code.r, ↓Api_Path.r, ↓Code_maker.r, ↓Api_Value.r, hop] | refine Cut.go ?_))
      rcases hin : decide (insI m.Code m.thread a < 0) with _ | _
      · (repeat (first | simp -dsimp -implicitDefEqProofs (disch := omega) only [↓gp0, ↓gp1, ↓gp2, gq0, gq1, gq2, gq3, gq4, gq5, gq6, gq7, gq8, gq9, go0, go1, gl0, gl1, gl2, gl3, ↓reduceIte, Nat.reduceEqDiff, Nat.reduceAdd, Nat.reduceLeDiff, pBuild, fillA, ↓Api_Local.r, ↓Api_Item.r, ↓Api_Instr.r, ↓Api_Body.r, ↓Api_Site.r, ↓Api_Section.r, ↓Api_Code.r, ↓Api_Path.r, ↓Code_maker.r, ↓Api_Value.r, hop, hin] | refine Cut.go ?_))
        refine (code_maker_loads_does m hm x hx a _).mono ?_
        rintro _ _ ⟨rfl, _⟩
        (repeat (first | simp -dsimp -implicitDefEqProofs (disch := omega) only [↓gp0, ↓gp1, ↓gp2, gq0, gq1, gq2, gq3, gq4, gq5, gq6, gq7, gq8, gq9, go0, go1, gl0, gl1, gl2, gl3, ↓reduceIte, Nat.reduceEqDiff, Nat.reduceAdd, Nat.reduceLeDiff, pBuild, fillA, ↓Api_Local.r, ↓Api_Item.r, ↓Api_Instr.r, ↓Api_Body.r, ↓Api_Site.r, ↓Api_Section.r, ↓Api_Code.r, ↓Api_Path.r, ↓Code_maker.r, ↓Api_Value.r] | refine Cut.go ?_))
        (first | (refine And.intro (by simp [kindB, hop]) ?_; (repeat (first | assumption | with_reducible exact Keeps.refl _ _ | with_reducible refine Keeps.go ?_ (Keeps.one _ _) | with_reducible refine Keeps.go ?_ (by assumption)))) | (repeat (first | assumption | with_reducible exact Keeps.refl _ _ | with_reducible refine Keeps.go ?_ (Keeps.one _ _) | with_reducible refine Keeps.go ?_ (by assumption))))
      · (repeat (first | simp -dsimp -implicitDefEqProofs (disch := omega) only [↓gp0, ↓gp1, ↓gp2, gq0, gq1, gq2, gq3, gq4, gq5, gq6, gq7, gq8, gq9, go0, go1, gl0, gl1, gl2, gl3, ↓reduceIte, Nat.reduceEqDiff, Nat.reduceAdd, Nat.reduceLeDiff, pBuild, fillA, ↓Api_Local.r, ↓Api_Item.r, ↓Api_Instr.r, ↓Api_Body.r, ↓Api_Site.r, ↓Api_Section.r, ↓Api_Code.r, ↓Api_Path.r, ↓Code_maker.r, ↓Api_Value.r, hop, hin] | refine Cut.go ?_))
        (first | (refine And.intro (by simp [hop]) ?_; (repeat (first | assumption | with_reducible exact Keeps.refl _ _ | with_reducible refine Keeps.go ?_ (Keeps.one _ _) | with_reducible refine Keeps.go ?_ (by assumption)))) | (repeat (first | assumption | with_reducible exact Keeps.refl _ _ | with_reducible refine Keeps.go ?_ (Keeps.one _ _) | with_reducible refine Keeps.go ?_ (by assumption))))
    · (repeat (first | simp -dsimp -implicitDefEqProofs (disch := omega) only [↓gp0, ↓gp1, ↓gp2, gq0, gq1, gq2, gq3, gq4, gq5, gq6, gq7, gq8, gq9, go0, go1, gl0, gl1, gl2, gl3, ↓reduceIte, Nat.reduceEqDiff, Nat.reduceAdd, Nat.reduceLeDiff, pBuild, fillA, ↓Api_Local.r, ↓Api_Item.r, ↓Api_Instr.r, ↓Api_Body.r, ↓Api_Site.r, ↓Api_Section.r, ↓Api_Code.r, ↓Api_Path.r, ↓Code_maker.r, ↓Api_Value.r] | refine Cut.go ?_))
      refine (code_shared_does x.Op _).mono ?_
      rintro _ _ ⟨rfl, rfl⟩
      (repeat (first | simp -dsimp -implicitDefEqProofs (disch := omega) only [↓gp0, ↓gp1, ↓gp2, gq0, gq1, gq2, gq3, gq4, gq5, gq6, gq7, gq8, gq9, go0, go1, gl0, gl1, gl2, gl3, ↓reduceIte, Nat.reduceEqDiff, Nat.reduceAdd, Nat.reduceLeDiff, pBuild, fillA, ↓Api_Local.r, ↓Api_Item.r, ↓Api_Instr.r, ↓Api_Body.r, ↓Api_Site.r, ↓Api_Section.r, ↓Api_Code.r, ↓Api_Path.r, ↓Code_maker.r, ↓Api_Value.r, hop] | refine Cut.go ?_))
      refine (code_Inside_does m.Code hm.1 hs m.thread a _).mono ?_
      rintro _ _ ⟨rfl, rfl⟩
      (repeat (first | simp -dsimp -implicitDefEqProofs (disch := omega) only [↓gp0, ↓gp1, ↓gp2, gq0, gq1, gq2, gq3, gq4, gq5, gq6, gq7, gq8, gq9, go0, go1, gl0, gl1, gl2, gl3, ↓reduceIte, Nat.reduceEqDiff, Nat.reduceAdd, Nat.reduceLeDiff, pBuild, fillA, ↓Api_Local.r, ↓Api_Item.r, ↓Api_Instr.r, ↓Api_Body.r, ↓Api_Site.r, ↓Api_Section.r, ↓Api_Code.r, ↓Api_Path.r, ↓Code_maker.r, ↓Api_Value.r, hop] | refine Cut.go ?_))
      rcases hin : decide (insI m.Code m.thread a < 0) with _ | _
      · (repeat (first | simp -dsimp -implicitDefEqProofs (disch := omega) only [↓gp0, ↓gp1, ↓gp2, gq0, gq1, gq2, gq3, gq4, gq5, gq6, gq7, gq8, gq9, go0, go1, gl0, gl1, gl2, gl3, ↓reduceIte, Nat.reduceEqDiff, Nat.reduceAdd, Nat.reduceLeDiff, pBuild, fillA, ↓Api_Local.r, ↓Api_Item.r, ↓Api_Instr.r, ↓Api_Body.r, ↓Api_Site.r, ↓Api_Section.r, ↓Api_Code.r, ↓Api_Path.r, ↓Code_maker.r, ↓Api_Value.r, hop, hin] | refine Cut.go ?_))
        refine (code_maker_loads_does m hm x hx a _).mono ?_
        rintro _ _ ⟨rfl, _⟩
        (repeat (first | simp -dsimp -implicitDefEqProofs (disch := omega) only [↓gp0, ↓gp1, ↓gp2, gq0, gq1, gq2, gq3, gq4, gq5, gq6, gq7, gq8, gq9, go0, go1, gl0, gl1, gl2, gl3, ↓reduceIte, Nat.reduceEqDiff, Nat.reduceAdd, Nat.reduceLeDiff, pBuild, fillA, ↓Api_Local.r, ↓Api_Item.r, ↓Api_Instr.r, ↓Api_Body.r, ↓Api_Site.r, ↓Api_Section.r, ↓Api_Code.r, ↓Api_Path.r, ↓Code_maker.r, ↓Api_Value.r] | refine Cut.go ?_))
        (first | (refine And.intro (by simp [kindB, hop]) ?_; (repeat (first | assumption | with_reducible exact Keeps.refl _ _ | with_reducible refine Keeps.go ?_ (Keeps.one _ _) | with_reducible refine Keeps.go ?_ (by assumption)))) | (repeat (first | assumption | with_reducible exact Keeps.refl _ _ | with_reducible refine Keeps.go ?_ (Keeps.one _ _) | with_reducible refine Keeps.go ?_ (by assumption))))
      · (repeat (first | simp -dsimp -implicitDefEqProofs (disch := omega) only [↓gp0, ↓gp1, ↓gp2, gq0, gq1, gq2, gq3, gq4, gq5, gq6, gq7, gq8, gq9, go0, go1, gl0, gl1, gl2, gl3, ↓reduceIte, Nat.reduceEqDiff, Nat.reduceAdd, Nat.reduceLeDiff, pBuild, fillA, ↓Api_Local.r, ↓Api_Item.r, ↓Api_Instr.r, ↓Api_Body.r, ↓Api_Site.r, ↓Api_Section.r, ↓Api_Code.r, ↓Api_Path.r, ↓Code_maker.r, ↓Api_Value.r, hop, hin] | refine Cut.go ?_))
        (first | (refine And.intro (by simp [hop]) ?_; (repeat (first | assumption | with_reducible exact Keeps.refl _ _ | with_reducible refine Keeps.go ?_ (Keeps.one _ _) | with_reducible refine Keeps.go ?_ (by assumption)))) | (repeat (first | assumption | with_reducible exact Keeps.refl _ _ | with_reducible refine Keeps.go ?_ (Keeps.one _ _) | with_reducible refine Keeps.go ?_ (by assumption))))
    · (repeat (first | simp -dsimp -implicitDefEqProofs (disch := omega) only [↓gp0, ↓gp1, ↓gp2, gq0, gq1, gq2, gq3, gq4, gq5, gq6, gq7, gq8, gq9, go0, go1, gl0, gl1, gl2, gl3, ↓reduceIte, Nat.reduceEqDiff, Nat.reduceAdd, Nat.reduceLeDiff, pBuild, fillA, ↓Api_Local.r, ↓Api_Item.r, ↓Api_Instr.r, ↓Api_Body.r, ↓Api_Site.r, ↓Api_Section.r, ↓Api_Code.r, ↓Api_Path.r, ↓Code_maker.r, ↓Api_Value.r] | refine Cut.go ?_))
      refine (code_shared_does x.Op _).mono ?_
      rintro _ _ ⟨rfl, rfl⟩
      (repeat (first | simp -dsimp -implicitDefEqProofs (disch := omega) only [↓gp0, ↓gp1, ↓gp2, gq0, gq1, gq2, gq3, gq4, gq5, gq6, gq7, gq8, gq9, go0, go1, gl0, gl1, gl2, gl3, ↓reduceIte, Nat.reduceEqDiff, Nat.reduceAdd, Nat.reduceLeDiff, pBuild, fillA, ↓Api_Local.r, ↓Api_Item.r, ↓Api_Instr.r, ↓Api_Body.r, ↓Api_Site.r, ↓Api_Section.r, ↓Api_Code.r, ↓Api_Path.r, ↓Code_maker.r, ↓Api_Value.r, hop] | refine Cut.go ?_))
      refine (code_Inside_does m.Code hm.1 hs m.thread a _).mono ?_
      rintro _ _ ⟨rfl, rfl⟩
      (repeat (first | simp -dsimp -implicitDefEqProofs (disch := omega) only [↓gp0, ↓gp1, ↓gp2, gq0, gq1, gq2, gq3, gq4, gq5, gq6, gq7, gq8, gq9, go0, go1, gl0, gl1, gl2, gl3, ↓reduceIte, Nat.reduceEqDiff, Nat.reduceAdd, Nat.reduceLeDiff, pBuild, fillA, ↓Api_Local.r, ↓Api_Item.r, ↓Api_Instr.r, ↓Api_Body.r, ↓Api_Site.r, ↓Api_Section.r, ↓Api_Code.r, ↓Api_Path.r, ↓Code_maker.r, ↓Api_Value.r, hop] | refine Cut.go ?_))
      rcases hin : decide (insI m.Code m.thread a < 0) with _ | _
      · (repeat (first | simp -dsimp -implicitDefEqProofs (disch := omega) only [↓gp0, ↓gp1, ↓gp2, gq0, gq1, gq2, gq3, gq4, gq5, gq6, gq7, gq8, gq9, go0, go1, gl0, gl1, gl2, gl3, ↓reduceIte, Nat.reduceEqDiff, Nat.reduceAdd, Nat.reduceLeDiff, pBuild, fillA, ↓Api_Local.r, ↓Api_Item.r, ↓Api_Instr.r, ↓Api_Body.r, ↓Api_Site.r, ↓Api_Section.r, ↓Api_Code.r, ↓Api_Path.r, ↓Code_maker.r, ↓Api_Value.r, hop, hin] | refine Cut.go ?_))
        refine (code_maker_loads_does m hm x hx a _).mono ?_
        rintro _ _ ⟨rfl, _⟩
        (repeat (first | simp -dsimp -implicitDefEqProofs (disch := omega) only [↓gp0, ↓gp1, ↓gp2, gq0, gq1, gq2, gq3, gq4, gq5, gq6, gq7, gq8, gq9, go0, go1, gl0, gl1, gl2, gl3, ↓reduceIte, Nat.reduceEqDiff, Nat.reduceAdd, Nat.reduceLeDiff, pBuild, fillA, ↓Api_Local.r, ↓Api_Item.r, ↓Api_Instr.r, ↓Api_Body.r, ↓Api_Site.r, ↓Api_Section.r, ↓Api_Code.r, ↓Api_Path.r, ↓Code_maker.r, ↓Api_Value.r] | refine Cut.go ?_))
        (first | (refine And.intro (by simp [kindB, hop]) ?_; (repeat (first | assumption | with_reducible exact Keeps.refl _ _ | with_reducible refine Keeps.go ?_ (Keeps.one _ _) | with_reducible refine Keeps.go ?_ (by assumption)))) | (repeat (first | assumption | with_reducible exact Keeps.refl _ _ | with_reducible refine Keeps.go ?_ (Keeps.one _ _) | with_reducible refine Keeps.go ?_ (by assumption))))
      · (repeat (first | simp -dsimp -implicitDefEqProofs (disch := omega) only [↓gp0, ↓gp1, ↓gp2, gq0, gq1, gq2, gq3, gq4, gq5, gq6, gq7, gq8, gq9, go0, go1, gl0, gl1, gl2, gl3, ↓reduceIte, Nat.reduceEqDiff, Nat.reduceAdd, Nat.reduceLeDiff, pBuild, fillA, ↓Api_Local.r, ↓Api_Item.r, ↓Api_Instr.r, ↓Api_Body.r, ↓Api_Site.r, ↓Api_Section.r, ↓Api_Code.r, ↓Api_Path.r, ↓Code_maker.r, ↓Api_Value.r, hop, hin] | refine Cut.go ?_))
        (first | (refine And.intro (by simp [hop]) ?_; (repeat (first | assumption | with_reducible exact Keeps.refl _ _ | with_reducible refine Keeps.go ?_ (Keeps.one _ _) | with_reducible refine Keeps.go ?_ (by assumption)))) | (repeat (first | assumption | with_reducible exact Keeps.refl _ _ | with_reducible refine Keeps.go ?_ (Keeps.one _ _) | with_reducible refine Keeps.go ?_ (by assumption))))
    · (repeat (first | simp -dsimp -implicitDefEqProofs (disch := omega) only [↓gp0, ↓gp1, ↓gp2, gq0, gq1, gq2, gq3, gq4, gq5, gq6, gq7, gq8, gq9, go0, go1, gl0, gl1, gl2, gl3, ↓reduceIte, Nat.reduceEqDiff, Nat.reduceAdd, Nat.reduceLeDiff, pBuild, fillA, ↓Api_Local.r, ↓Api_Item.r, ↓Api_Instr.r, ↓Api_Body.r, ↓Api_Site.r, ↓Api_Section.r, ↓Api_Code.r, ↓Api_Path.r, ↓Code_maker.r, ↓Api_Value.r] | refine Cut.go ?_))
      refine (code_shared_does x.Op _).mono ?_
      rintro _ _ ⟨rfl, rfl⟩
      (repeat (first | simp -dsimp -implicitDefEqProofs (disch := omega) only [↓gp0, ↓gp1, ↓gp2, gq0, gq1, gq2, gq3, gq4, gq5, gq6, gq7, gq8, gq9, go0, go1, gl0, gl1, gl2, gl3, ↓reduceIte, Nat.reduceEqDiff, Nat.reduceAdd, Nat.reduceLeDiff, pBuild, fillA, ↓Api_Local.r, ↓Api_Item.r, ↓Api_Instr.r, ↓Api_Body.r, ↓Api_Site.r, ↓Api_Section.r, ↓Api_Code.r, ↓Api_Path.r, ↓Code_maker.r, ↓Api_Value.r, hop] | refine Cut.go ?_))
      refine (code_maker_loads_does m hm x hx a _).mono ?_
      rintro _ _ ⟨rfl, _⟩
      (repeat (first | simp -dsimp -implicitDefEqProofs (disch := omega) only [↓gp0, ↓gp1, ↓gp2, gq0, gq1, gq2, gq3, gq4, gq5, gq6, gq7, gq8, gq9, go0, go1, gl0, gl1, gl2, gl3, ↓reduceIte, Nat.reduceEqDiff, Nat.reduceAdd, Nat.reduceLeDiff, pBuild, fillA, ↓Api_Local.r, ↓Api_Item.r, ↓Api_Instr.r, ↓Api_Body.r, ↓Api_Site.r, ↓Api_Section.r, ↓Api_Code.r, ↓Api_Path.r, ↓Code_maker.r, ↓Api_Value.r] | refine Cut.go ?_))
      (first | (refine And.intro (by simp [kindB, hop]) ?_; (repeat (first | assumption | with_reducible exact Keeps.refl _ _ | with_reducible refine Keeps.go ?_ (Keeps.one _ _) | with_reducible refine Keeps.go ?_ (by assumption)))) | (repeat (first | assumption | with_reducible exact Keeps.refl _ _ | with_reducible refine Keeps.go ?_ (Keeps.one _ _) | with_reducible refine Keeps.go ?_ (by assumption))))
    · (repeat (first | simp -dsimp -implicitDefEqProofs (disch := omega) only [↓gp0, ↓gp1, ↓gp2, gq0, gq1, gq2, gq3, gq4, gq5, gq6, gq7, gq8, gq9, go0, go1, gl0, gl1, gl2, gl3, ↓reduceIte, Nat.reduceEqDiff, Nat.reduceAdd, Nat.reduceLeDiff, pBuild, fillA, ↓Api_Local.r, ↓Api_Item.r, ↓Api_Instr.r, ↓Api_Body.r, ↓Api_Site.r, ↓Api_Section.r, ↓Api_Code.r, ↓Api_Path.r, ↓Code_maker.r, ↓Api_Value.r] | refine Cut.go ?_))
      refine (code_shared_does x.Op _).mono ?_
      rintro _ _ ⟨rfl, rfl⟩
      (repeat (first | simp -dsimp -implicitDefEqProofs (disch := omega) only [↓gp0, ↓gp1, ↓gp2, gq0, gq1, gq2, gq3, gq4, gq5, gq6, gq7, gq8, gq9, go0, go1, gl0, gl1, gl2, gl3, ↓reduceIte, Nat.reduceEqDiff, Nat.reduceAdd, Nat.reduceLeDiff, pBuild, fillA, ↓Api_Local.r, ↓Api_Item.r, ↓Api_Instr.r, ↓Api_Body.r, ↓Api_Site.r, ↓Api_Section.r, ↓Api_Code.r, ↓Api_Path.r, ↓Code_maker.r, ↓Api_Value.r, hop] | refine Cut.go ?_))
      refine (code_Inside_does m.Code hm.1 hs m.thread a _).mono ?_
      rintro _ _ ⟨rfl, rfl⟩
      (repeat (first | simp -dsimp -implicitDefEqProofs (disch := omega) only [↓gp0, ↓gp1, ↓gp2, gq0, gq1, gq2, gq3, gq4, gq5, gq6, gq7, gq8, gq9, go0, go1, gl0, gl1, gl2, gl3, ↓reduceIte, Nat.reduceEqDiff, Nat.reduceAdd, Nat.reduceLeDiff, pBuild, fillA, ↓Api_Local.r, ↓Api_Item.r, ↓Api_Instr.r, ↓Api_Body.r, ↓Api_Site.r, ↓Api_Section.r, ↓Api_Code.r, ↓Api_Path.r, ↓Code_maker.r, ↓Api_Value.r, hop] | refine Cut.go ?_))
      rcases hin : decide (insI m.Code m.thread a < 0) with _ | _
      · (repeat (first | simp -dsimp -implicitDefEqProofs (disch := omega) only [↓gp0, ↓gp1, ↓gp2, gq0, gq1, gq2, gq3, gq4, gq5, gq6, gq7, gq8, gq9, go0, go1, gl0, gl1, gl2, gl3, ↓reduceIte, Nat.reduceEqDiff, Nat.reduceAdd, Nat.reduceLeDiff, pBuild, fillA, ↓Api_Local.r, ↓Api_Item.r, ↓Api_Instr.r, ↓Api_Body.r, ↓Api_Site.r, ↓Api_Section.r, ↓Api_Code.r, ↓Api_Path.r, ↓Code_maker.r, ↓Api_Value.r, hop, hin] | refine Cut.go ?_))
        refine (code_maker_loads_does m hm x hx a _).mono ?_
        rintro _ _ ⟨rfl, _⟩
        (repeat (first | simp -dsimp -implicitDefEqProofs (disch := omega) only [↓gp0, ↓gp1, ↓gp2, gq0, gq1, gq2, gq3, gq4, gq5, gq6, gq7, gq8, gq9, go0, go1, gl0, gl1, gl2, gl3, ↓reduceIte, Nat.reduceEqDiff, Nat.reduceAdd, Nat.reduceLeDiff, pBuild, fillA, ↓Api_Local.r, ↓Api_Item.r, ↓Api_Instr.r, ↓Api_Body.r, ↓Api_Site.r, ↓Api_Section.r, ↓Api_Code.r, ↓Api_Path.r, ↓Code_maker.r, ↓Api_Value.r] | refine Cut.go ?_))
        (first | (refine And.intro (by simp [kindB, hop]) ?_; (repeat (first | assumption | with_reducible exact Keeps.refl _ _ | with_reducible refine Keeps.go ?_ (Keeps.one _ _) | with_reducible refine Keeps.go ?_ (by assumption)))) | (repeat (first | assumption | with_reducible exact Keeps.refl _ _ | with_reducible refine Keeps.go ?_ (Keeps.one _ _) | with_reducible refine Keeps.go ?_ (by assumption))))
      · (repeat (first | simp -dsimp -implicitDefEqProofs (disch := omega) only [↓gp0, ↓gp1, ↓gp2, gq0, gq1, gq2, gq3, gq4, gq5, gq6, gq7, gq8, gq9, go0, go1, gl0, gl1, gl2, gl3, ↓reduceIte, Nat.reduceEqDiff, Nat.reduceAdd, Nat.reduceLeDiff, pBuild, fillA, ↓Api_Local.r, ↓Api_Item.r, ↓Api_Instr.r, ↓Api_Body.r, ↓Api_Site.r, ↓Api_Section.r, ↓Api_Code.r, ↓Api_Path.r, ↓Code_maker.r, ↓Api_Value.r, hop, hin] | refine Cut.go ?_))
        (first | (refine And.intro (by simp [hop]) ?_; (repeat (first | assumption | with_reducible exact Keeps.refl _ _ | with_reducible refine Keeps.go ?_ (Keeps.one _ _) | with_reducible refine Keeps.go ?_ (by assumption)))) | (repeat (first | assumption | with_reducible exact Keeps.refl _ _ | with_reducible refine Keeps.go ?_ (Keeps.one _ _) | with_reducible refine Keeps.go ?_ (by assumption))))
    · (repeat (first | simp -dsimp -implicitDefEqProofs (disch := omega) only [↓gp0, ↓gp1, ↓gp2, gq0, gq1, gq2, gq3, gq4, gq5, gq6, gq7, gq8, gq9, go0, go1, gl0, gl1, gl2, gl3, ↓reduceIte, Nat.reduceEqDiff, Nat.reduceAdd, Nat.reduceLeDiff, pBuild, fillA, ↓Api_Local.r, ↓Api_Item.r, ↓Api_Instr.r, ↓Api_Body.r, ↓Api_Site.r, ↓Api_Section.r, ↓Api_Code.r, ↓Api_Path.r, ↓Code_maker.r, ↓Api_Value.r] | refine Cut.go ?_))
      refine (code_shared_does x.Op _).mono ?_
      rintro _ _ ⟨rfl, rfl⟩
      (repeat (first | simp -dsimp -implicitDefEqProofs (disch := omega) only [↓gp0, ↓gp1, ↓gp2, gq0, gq1, gq2, gq3, gq4, gq5, gq6, gq7, gq8, gq9, go0, go1, gl0, gl1, gl2, gl3, ↓reduceIte, Nat.reduceEqDiff, Nat.reduceAdd, Nat.reduceLeDiff, pBuild, fillA, ↓Api_Local.r, ↓Api_Item.r, ↓Api_Instr.r, ↓Api_Body.r, ↓Api_Site.r, ↓Api_Section.r, ↓Api_Code.r, ↓Api_Path.r, ↓Code_maker.r, ↓Api_Value.r, hop] | refine Cut.go ?_))
      refine (code_Inside_does m.Code hm.1 hs m.thread a _).mono ?_
      rintro _ _ ⟨rfl, rfl⟩
      (repeat (first | simp -dsimp -implicitDefEqProofs (disch := omega) only [↓gp0, ↓gp1, ↓gp2, gq0, gq1, gq2, gq3, gq4, gq5, gq6, gq7, gq8, gq9, go0, go1, gl0, gl1, gl2, gl3, ↓reduceIte, Nat.reduceEqDiff, Nat.reduceAdd, Nat.reduceLeDiff, pBuild, fillA, ↓Api_Local.r, ↓Api_Item.r, ↓Api_Instr.r, ↓Api_Body.r, ↓Api_Site.r, ↓Api_Section.r, ↓Api_Code.r, ↓Api_Path.r, ↓Code_maker.r, ↓Api_Value.r, hop] | refine Cut.go ?_))
      rcases hin : decide (insI m.Code m.thread a < 0) with _ | _
      · (repeat (first | simp -dsimp -implicitDefEqProofs (disch := omega) only [↓gp0, ↓gp1, ↓gp2, gq0, gq1, gq2, gq3, gq4, gq5, gq6, gq7, gq8, gq9, go0, go1, gl0, gl1, gl2, gl3, ↓reduceIte, Nat.reduceEqDiff, Nat.reduceAdd, Nat.reduceLeDiff, pBuild, fillA, ↓Api_Local.r, ↓Api_Item.r, ↓Api_Instr.r, ↓Api_Body.r, ↓Api_Site.r, ↓Api_Section.r, ↓Api_Code.r, ↓Api_Path.r, ↓Code_maker.r, ↓Api_Value.r, hop, hin] | refine Cut.go ?_))
        refine (code_maker_loads_does m hm x hx a _).mono ?_
        rintro _ _ ⟨rfl, _⟩
        (repeat (first | simp -dsimp -implicitDefEqProofs (disch := omega) only [↓gp0, ↓gp1, ↓gp2, gq0, gq1, gq2, gq3, gq4, gq5, gq6, gq7, gq8, gq9, go0, go1, gl0, gl1, gl2, gl3, ↓reduceIte, Nat.reduceEqDiff, Nat.reduceAdd, Nat.reduceLeDiff, pBuild, fillA, ↓Api_Local.r, ↓Api_Item.r, ↓Api_Instr.r, ↓Api_Body.r, ↓Api_Site.r, ↓Api_Section.r, ↓Api_Code.r, ↓Api_Path.r, ↓Code_maker.r, ↓Api_Value.r] | refine Cut.go ?_))
        (first | (refine And.intro (by simp [kindB, hop]) ?_; (repeat (first | assumption | with_reducible exact Keeps.refl _ _ | with_reducible refine Keeps.go ?_ (Keeps.one _ _) | with_reducible refine Keeps.go ?_ (by assumption)))) | (repeat (first | assumption | with_reducible exact Keeps.refl _ _ | with_reducible refine Keeps.go ?_ (Keeps.one _ _) | with_reducible refine Keeps.go ?_ (by assumption))))
      · (repeat (first | simp -dsimp -implicitDefEqProofs (disch := omega) only [↓gp0, ↓gp1, ↓gp2, gq0, gq1, gq2, gq3, gq4, gq5, gq6, gq7, gq8, gq9, go0, go1, gl0, gl1, gl2, gl3, ↓reduceIte, Nat.reduceEqDiff, Nat.reduceAdd, Nat.reduceLeDiff, pBuild, fillA, ↓Api_Local.r, ↓Api_Item.r, ↓Api_Instr.r, ↓Api_Body.r, ↓Api_Site.r, ↓Api_Section.r, ↓Api_Code.r, ↓Api_Path.r, ↓Code_maker.r, ↓Api_Value.r, hop, hin] | refine Cut.go ?_))
        (first | (refine And.intro (by simp [hop]) ?_; (repeat (first | assumption | with_reducible exact Keeps.refl _ _ | with_reducible refine Keeps.go ?_ (Keeps.one _ _) | with_reducible refine Keeps.go ?_ (by assumption)))) | (repeat (first | assumption | with_reducible exact Keeps.refl _ _ | with_reducible refine Keeps.go ?_ (Keeps.one _ _) | with_reducible refine Keeps.go ?_ (by assumption))))
  · rcases hop with hop | hop | hop
    · (repeat (first | simp -dsimp -implicitDefEqProofs (disch := omega) only [↓gp0, ↓gp1, ↓gp2, gq0, gq1, gq2, gq3, gq4, gq5, gq6, gq7, gq8, gq9, go0, go1, gl0, gl1, gl2, gl3, ↓reduceIte, Nat.reduceEqDiff, Nat.reduceAdd, Nat.reduceLeDiff, pBuild, fillA, ↓Api_Local.r, ↓Api_Item.r, ↓Api_Instr.r, ↓Api_Body.r, ↓Api_Site.r, ↓Api_Section.r, ↓Api_Code.r, ↓Api_Path.r, ↓Code_maker.r, ↓Api_Value.r] | refine Cut.go ?_))
      refine (code_shared_does x.Op _).mono ?_
      rintro _ _ ⟨rfl, rfl⟩
      (repeat (first | simp -dsimp -implicitDefEqProofs (disch := omega) only [↓gp0, ↓gp1, ↓gp2, gq0, gq1, gq2, gq3, gq4, gq5, gq6, gq7, gq8, gq9, go0, go1, gl0, gl1, gl2, gl3, ↓reduceIte, Nat.reduceEqDiff, Nat.reduceAdd, Nat.reduceLeDiff, pBuild, fillA, ↓Api_Local.r, ↓Api_Item.r, ↓Api_Instr.r, ↓Api_Body.r, ↓Api_Site.r, ↓Api_Section.r, ↓Api_Code.r, ↓Api_Path.r, ↓Code_maker.r, ↓Api_Value.r, hop] | refine Cut.go ?_))
      refine (code_Inside_does m.Code hm.1 hs m.thread a _).mono ?_
      rintro _ _ ⟨rfl, rfl⟩
      (repeat (first | simp -dsimp -implicitDefEqProofs (disch := omega) only [↓gp0, ↓gp1, ↓gp2, gq0, gq1, gq2, gq3, gq4, gq5, gq6, gq7, gq8, gq9, go0, go1, gl0, gl1, gl2, gl3, ↓reduceIte, Nat.reduceEqDiff, Nat.reduceAdd, Nat.reduceLeDiff, pBuild, fillA, ↓Api_Local.r, ↓Api_Item.r, ↓Api_Instr.r, ↓Api_Body.r, ↓Api_Site.r, ↓Api_Section.r, ↓Api_Code.r, ↓Api_Path.r, ↓Code_maker.r, ↓Api_Value.r, hop] | refine Cut.go ?_))
      rcases hin : decide (insI m.Code m.thread a < 0) with _ | _
      · (repeat (first | simp -dsimp -implicitDefEqProofs (disch := omega) only [↓gp0, ↓gp1, ↓gp2, gq0, gq1, gq2, gq3, gq4, gq5, gq6, gq7, gq8, gq9, go0, go1, gl0, gl1, gl2, gl3, ↓reduceIte, Nat.reduceEqDiff, Nat.reduceAdd, Nat.reduceLeDiff, pBuild, fillA, ↓Api_Local.r, ↓Api_Item.r, ↓Api_Instr.r, ↓Api_Body.r, ↓Api_Site.r, ↓Api_Section.r, ↓Api_Code.r, ↓Api_Path.r, ↓Code_maker.r, ↓Api_Value.r, hop, hin] | refine Cut.go ?_))
        refine (code_maker_stores_does m hm x hx _).mono ?_
        rintro _ _ ⟨rfl, _⟩
        (repeat (first | simp -dsimp -implicitDefEqProofs (disch := omega) only [↓gp0, ↓gp1, ↓gp2, gq0, gq1, gq2, gq3, gq4, gq5, gq6, gq7, gq8, gq9, go0, go1, gl0, gl1, gl2, gl3, ↓reduceIte, Nat.reduceEqDiff, Nat.reduceAdd, Nat.reduceLeDiff, pBuild, fillA, ↓Api_Local.r, ↓Api_Item.r, ↓Api_Instr.r, ↓Api_Body.r, ↓Api_Site.r, ↓Api_Section.r, ↓Api_Code.r, ↓Api_Path.r, ↓Code_maker.r, ↓Api_Value.r] | refine Cut.go ?_))
        (first | (refine And.intro (by simp [kindB, hop]) ?_; (repeat (first | assumption | with_reducible exact Keeps.refl _ _ | with_reducible refine Keeps.go ?_ (Keeps.one _ _) | with_reducible refine Keeps.go ?_ (by assumption)))) | (repeat (first | assumption | with_reducible exact Keeps.refl _ _ | with_reducible refine Keeps.go ?_ (Keeps.one _ _) | with_reducible refine Keeps.go ?_ (by assumption))))
      · (repeat (first | simp -dsimp -implicitDefEqProofs (disch := omega) only [↓gp0, ↓gp1, ↓gp2, gq0, gq1, gq2, gq3, gq4, gq5, gq6, gq7, gq8, gq9, go0, go1, gl0, gl1, gl2, gl3, ↓reduceIte, Nat.reduceEqDiff, Nat.reduceAdd, Nat.reduceLeDiff, pBuild, fillA, ↓Api_Local.r, ↓Api_Item.r, ↓Api_Instr.r, ↓Api_Body.r, ↓Api_Site.r, ↓Api_Section.r, ↓Api_Code.r, ↓Api_Path.r, ↓Code_maker.r, ↓Api_Value.r, hop, hin] | refine Cut.go ?_))
        (first | (refine And.intro (by simp [hop]) ?_; (repeat (first | assumption | with_reducible exact Keeps.refl _ _ | with_reducible refine Keeps.go ?_ (Keeps.one _ _) | with_reducible refine Keeps.go ?_ (by assumption)))) | (repeat (first | assumption | with_reducible exact Keeps.refl _ _ | with_reducible refine Keeps.go ?_ (Keeps.one _ _) | with_reducible refine Keeps.go ?_ (by assumption))))
    · (repeat (first | simp -dsimp -implicitDefEqProofs (disch := omega) only [↓gp0, ↓gp1, ↓gp2, gq0, gq1, gq2, gq3, gq4, gq5, gq6, gq7, gq8, gq9, go0, go1, gl0, gl1, gl2, gl3, ↓reduceIte, Nat.reduceEqDiff, Nat.reduceAdd, Nat.reduceLeDiff, pBuild, fillA, ↓Api_Local.r, ↓Api_Item.r, ↓Api_Instr.r, ↓Api_Body.r, ↓Api_Site.r, ↓Api_Section.r, ↓Api_Code.r, ↓Api_Path.r, ↓Code_maker.r, ↓Api_Value.r] | refine Cut.go ?_))
      refine (code_shared_does x.Op _).mono ?_
      rintro _ _ ⟨rfl, rfl⟩
      (repeat (first | simp -dsimp -implicitDefEqProofs (disch := omega) only [↓gp0, ↓gp1, ↓gp2, gq0, gq1, gq2, gq3, gq4, gq5, gq6, gq7, gq8, gq9, go0, go1, gl0, gl1, gl2, gl3, ↓reduceIte, Nat.reduceEqDiff, Nat.reduceAdd, Nat.reduceLeDiff, pBuild, fillA, ↓Api_Local.r, ↓Api_Item.r, ↓Api_Instr.r, ↓Api_Body.r, ↓Api_Site.r, ↓Api_Section.r, ↓Api_Code.r, ↓Api_Path.r, ↓Code_maker.r, ↓Api_Value.r, hop] | refine Cut.go ?_))
      refine (code_Inside_does m.Code hm.1 hs m.thread a _).mono ?_
      rintro _ _ ⟨rfl, rfl⟩
      (repeat (first | simp -dsimp -implicitDefEqProofs (disch := omega) only [↓gp0, ↓gp1, ↓gp2, gq0, gq1, gq2, gq3, gq4, gq5, gq6, gq7, gq8, gq9, go0, go1, gl0, gl1, gl2, gl3, ↓reduceIte, Nat.reduceEqDiff, Nat.reduceAdd, Nat.reduceLeDiff, pBuild, fillA, ↓Api_Local.r, ↓Api_Item.r, ↓Api_Instr.r, ↓Api_Body.r, ↓Api_Site.r, ↓Api_Section.r, ↓Api_Code.r, ↓Api_Path.r, ↓Code_maker.r, ↓Api_Value.r, hop] | refine Cut.go ?_))
      rcases hin : decide (insI m.Code m.thread a < 0) with _ | _
      · (repeat (first | simp -dsimp -implicitDefEqProofs (disch := omega) only [↓gp0, ↓gp1, ↓gp2, gq0, gq1, gq2, gq3, gq4, gq5, gq6, gq7, gq8, gq9, go0, go1, gl0, gl1, gl2, gl3, ↓reduceIte, Nat.reduceEqDiff, Nat.reduceAdd, Nat.reduceLeDiff, pBuild, fillA, ↓Api_Local.r, ↓Api_Item.r, ↓Api_Instr.r, ↓Api_Body.r, ↓Api_Site.r, ↓Api_Section.r, ↓Api_Code.r, ↓Api_Path.r, ↓Code_maker.r, ↓Api_Value.r, hop, hin] | refine Cut.go ?_))
        refine (code_maker_stores_does m hm x hx _).mono ?_
        rintro _ _ ⟨rfl, _⟩
        (repeat (first | simp -dsimp -implicitDefEqProofs (disch := omega) only [↓gp0, ↓gp1, ↓gp2, gq0, gq1, gq2, gq3, gq4, gq5, gq6, gq7, gq8, gq9, go0, go1, gl0, gl1, gl2, gl3, ↓reduceIte, Nat.reduceEqDiff, Nat.reduceAdd, Nat.reduceLeDiff, pBuild, fillA, ↓Api_Local.r, ↓Api_Item.r, ↓Api_Instr.r, ↓Api_Body.r, ↓Api_Site.r, ↓Api_Section.r, ↓Api_Code.r, ↓Api_Path.r, ↓Code_maker.r, ↓Api_Value.r] | refine Cut.go ?_))
        (first | (refine And.intro (by simp [kindB, hop]) ?_; (repeat (first | assumption | with_reducible exact Keeps.refl _ _ | with_reducible refine Keeps.go ?_ (Keeps.one _ _) | with_reducible refine Keeps.go ?_ (by assumption)))) | (repeat (first | assumption | with_reducible exact Keeps.refl _ _ | with_reducible refine Keeps.go ?_ (Keeps.one _ _) | with_reducible refine Keeps.go ?_ (by assumption))))
      · (repeat (first | simp -dsimp -implicitDefEqProofs (disch := omega) only [↓gp0, ↓gp1, ↓gp2, gq0, gq1, gq2, gq3, gq4, gq5, gq6, gq7, gq8, gq9, go0, go1, gl0, gl1, gl2, gl3, ↓reduceIte, Nat.reduceEqDiff, Nat.reduceAdd, Nat.reduceLeDiff, pBuild, fillA, ↓Api_Local.r, ↓Api_Item.r, ↓Api_Instr.r, ↓Api_Body.r, ↓Api_Site.r, ↓Api_Section.r, ↓Api_Code.r, ↓Api_Path.r, ↓Code_maker.r, ↓Api_Value.r, hop, hin] | refine Cut.go ?_))
        (first | (refine And.intro (by simp [hop]) ?_; (repeat (first | assumption | with_reducible exact Keeps.refl _ _ | with_reducible refine Keeps.go ?_ (Keeps.one _ _) | with_reducible refine Keeps.go ?_ (by assumption)))) | (repeat (first | assumption | with_reducible exact Keeps.refl _ _ | with_reducible refine Keeps.go ?_ (Keeps.one _ _) | with_reducible refine Keeps.go ?_ (by assumption))))
    · (repeat (first | simp -dsimp -implicitDefEqProofs (disch := omega) only [↓gp0, ↓gp1, ↓gp2, gq0, gq1, gq2, gq3, gq4, gq5, gq6, gq7, gq8, gq9, go0, go1, gl0, gl1, gl2, gl3, ↓reduceIte, Nat.reduceEqDiff, Nat.reduceAdd, Nat.reduceLeDiff, pBuild, fillA, ↓Api_Local.r, ↓Api_Item.r, ↓Api_Instr.r, ↓Api_Body.r, ↓Api_Site.r, ↓Api_Section.r, ↓Api_Code.r, ↓Api_Path.r, ↓Code_maker.r, ↓Api_Value.r] | refine Cut.go ?_))
      refine (code_shared_does x.Op _).mono ?_
      rintro _ _ ⟨rfl, rfl⟩
      (repeat (first | simp -dsimp -implicitDefEqProofs (disch := omega) only [↓gp0, ↓gp1, ↓gp2, gq0, gq1, gq2, gq3, gq4, gq5, gq6, gq7, gq8, gq9, go0, go1, gl0, gl1, gl2, gl3, ↓reduceIte, Nat.reduceEqDiff, Nat.reduceAdd, Nat.reduceLeDiff, pBuild, fillA, ↓Api_Local.r, ↓Api_Item.r, ↓Api_Instr.r, ↓Api_Body.r, ↓Api_Site.r, ↓Api_Section.r, ↓Api_Code.r, ↓Api_Path.r, ↓Code_maker.r, ↓Api_Value.r, hop] | refine Cut.go ?_))
      refine (code_Inside_does m.Code hm.1 hs m.thread a _).mono ?_
      rintro _ _ ⟨rfl, rfl⟩
      (repeat (first | simp -dsimp -implicitDefEqProofs (disch := omega) only [↓gp0, ↓gp1, ↓gp2, gq0, gq1, gq2, gq3, gq4, gq5, gq6, gq7, gq8, gq9, go0, go1, gl0, gl1, gl2, gl3, ↓reduceIte, Nat.reduceEqDiff, Nat.reduceAdd, Nat.reduceLeDiff, pBuild, fillA, ↓Api_Local.r, ↓Api_Item.r, ↓Api_Instr.r, ↓Api_Body.r, ↓Api_Site.r, ↓Api_Section.r, ↓Api_Code.r, ↓Api_Path.r, ↓Code_maker.r, ↓Api_Value.r, hop] | refine Cut.go ?_))
      rcases hin : decide (insI m.Code m.thread a < 0) with _ | _
      · (repeat (first | simp -dsimp -implicitDefEqProofs (disch := omega) only [↓gp0, ↓gp1, ↓gp2, gq0, gq1, gq2, gq3, gq4, gq5, gq6, gq7, gq8, gq9, go0, go1, gl0, gl1, gl2, gl3, ↓reduceIte, Nat.reduceEqDiff, Nat.reduceAdd, Nat.reduceLeDiff, pBuild, fillA, ↓Api_Local.r, ↓Api_Item.r, ↓Api_Instr.r, ↓Api_Body.r, ↓Api_Site.r, ↓Api_Section.r, ↓Api_Code.r, ↓Api_Path.r, ↓Code_maker.r, ↓Api_Value.r, hop, hin] | refine Cut.go ?_))
        refine (code_maker_stores_does m hm x hx _).mono ?_
        rintro _ _ ⟨rfl, _⟩
        (repeat (first | simp -dsimp -implicitDefEqProofs (disch := omega) only [↓gp0, ↓gp1, ↓gp2, gq0, gq1, gq2, gq3, gq4, gq5, gq6, gq7, gq8, gq9, go0, go1, gl0, gl1, gl2, gl3, ↓reduceIte, Nat.reduceEqDiff, Nat.reduceAdd, Nat.reduceLeDiff, pBuild, fillA, ↓Api_Local.r, ↓Api_Item.r, ↓Api_Instr.r, ↓Api_Body.r, ↓Api_Site.r, ↓Api_Section.r, ↓Api_Code.r, ↓Api_Path.r, ↓Code_maker.r, ↓Api_Value.r] | refine Cut.go ?_))
        (first | (refine And.intro (by simp [kindB, hop]) ?_; (repeat (first | assumption | with_reducible exact Keeps.refl _ _ | with_reducible refine Keeps.go ?_ (Keeps.one _ _) | with_reducible refine Keeps.go ?_ (by assumption)))) | (repeat (first | assumption | with_reducible exact Keeps.refl _ _ | with_reducible refine Keeps.go ?_ (Keeps.one _ _) | with_reducible refine Keeps.go ?_ (by assumption))))
      · (repeat (first | simp -dsimp -implicitDefEqProofs (disch := omega) only [↓gp0, ↓gp1, ↓gp2, gq0, gq1, gq2, gq3, gq4, gq5, gq6, gq7, gq8, gq9, go0, go1, gl0, gl1, gl2, gl3, ↓reduceIte, Nat.reduceEqDiff, Nat.reduceAdd, Nat.reduceLeDiff, pBuild, fillA, ↓Api_Local.r, ↓Api_Item.r, ↓Api_Instr.r, ↓Api_Body.r, ↓Api_Site.r, ↓Api_Section.r, ↓Api_Code.r, ↓Api_Path.r, ↓Code_maker.r, ↓Api_Value.r, hop, hin] | refine Cut.go ?_))
        (first | (refine And.intro (by simp [hop]) ?_; (repeat (first | assumption | with_reducible exact Keeps.refl _ _ | with_reducible refine Keeps.go ?_ (Keeps.one _ _) | with_reducible refine Keeps.go ?_ (by assumption)))) | (repeat (first | assumption | with_reducible exact Keeps.refl _ _ | with_reducible refine Keeps.go ?_ (Keeps.one _ _) | with_reducible refine Keeps.go ?_ (by assumption))))
  · rcases hop with hop | hop
    · (repeat (first | simp -dsimp -implicitDefEqProofs (disch := omega) only [↓gp0, ↓gp1, ↓gp2, gq0, gq1, gq2, gq3, gq4, gq5, gq6, gq7, gq8, gq9, go0, go1, gl0, gl1, gl2, gl3, ↓reduceIte, Nat.reduceEqDiff, Nat.reduceAdd, Nat.reduceLeDiff, pBuild, fillA, ↓Api_Local.r, ↓Api_Item.r, ↓Api_Instr.r, ↓Api_Body.r, ↓Api_Site.r, ↓Api_Section.r, ↓Api_Code.r, ↓Api_Path.r, ↓Code_maker.r, ↓Api_Value.r] | refine Cut.go ?_))
      refine (code_shared_does x.Op _).mono ?_
      rintro _ _ ⟨rfl, rfl⟩
      (repeat (first | simp -dsimp -implicitDefEqProofs (disch := omega) only [↓gp0, ↓gp1, ↓gp2, gq0, gq1, gq2, gq3, gq4, gq5, gq6, gq7, gq8, gq9, go0, go1, gl0, gl1, gl2, gl3, ↓reduceIte, Nat.reduceEqDiff, Nat.reduceAdd, Nat.reduceLeDiff, pBuild, fillA, ↓Api_Local.r, ↓Api_Item.r, ↓Api_Instr.r, ↓Api_Body.r, ↓Api_Site.r, ↓Api_Section.r, ↓Api_Code.r, ↓Api_Path.r, ↓Code_maker.r, ↓Api_Value.r, hop] | refine Cut.go ?_))
      have hk : (!((decide (2 ≤ x.Op) && decide (x.Op ≤ 9)) && decide (insI m.Code m.thread a < 0)) && kindB m.Code m.thread m.body x a) = (plainB x false false false false false true false && itemsB m.body x.Items) := by simp [kindB, hop]
      rw [hk]
      refine (plain_0000010 x _).mono ?_
      rintro _ _ ⟨rfl, rfl⟩
      (repeat (first | simp -dsimp -implicitDefEqProofs (disch := omega) only [↓gp0, ↓gp1, ↓gp2, gq0, gq1, gq2, gq3, gq4, gq5, gq6, gq7, gq8, gq9, go0, go1, gl0, gl1, gl2, gl3, ↓reduceIte, Nat.reduceEqDiff, Nat.reduceAdd, Nat.reduceLeDiff, pBuild, fillA, ↓Api_Local.r, ↓Api_Item.r, ↓Api_Instr.r, ↓Api_Body.r, ↓Api_Site.r, ↓Api_Section.r, ↓Api_Code.r, ↓Api_Path.r, ↓Code_maker.r, ↓Api_Value.r, hop] | refine Cut.go ?_))
      rcases hp : plainB x false false false false false true false with _ | _
      · (repeat (first | simp -dsimp -implicitDefEqProofs (disch := omega) only [↓gp0, ↓gp1, ↓gp2, gq0, gq1, gq2, gq3, gq4, gq5, gq6, gq7, gq8, gq9, go0, go1, gl0, gl1, gl2, gl3, ↓reduceIte, Nat.reduceEqDiff, Nat.reduceAdd, Nat.reduceLeDiff, pBuild, fillA, ↓Api_Local.r, ↓Api_Item.r, ↓Api_Instr.r, ↓Api_Body.r, ↓Api_Site.r, ↓Api_Section.r, ↓Api_Code.r, ↓Api_Path.r, ↓Code_maker.r, ↓Api_Value.r] | refine Cut.go ?_))
        try simp only [Bool.false_and, Bool.and_false, Bool.and_true, Bool.true_and, true_and]
        (repeat (first | assumption | with_reducible exact Keeps.refl _ _ | with_reducible refine Keeps.go ?_ (Keeps.one _ _) | with_reducible refine Keeps.go ?_ (by assumption)))
      (repeat (first | simp -dsimp -implicitDefEqProofs (disch := omega) only [↓gp0, ↓gp1, ↓gp2, gq0, gq1, gq2, gq3, gq4, gq5, gq6, gq7, gq8, gq9, go0, go1, gl0, gl1, gl2, gl3, ↓reduceIte, Nat.reduceEqDiff, Nat.reduceAdd, Nat.reduceLeDiff, pBuild, fillA, ↓Api_Local.r, ↓Api_Item.r, ↓Api_Instr.r, ↓Api_Body.r, ↓Api_Site.r, ↓Api_Section.r, ↓Api_Code.r, ↓Api_Path.r, ↓Code_maker.r, ↓Api_Value.r] | refine Cut.go ?_))
      refine (code_maker_good_does m hm x.Items hit _).mono ?_
      rintro _ _ ⟨rfl, _⟩
      (repeat (first | simp -dsimp -implicitDefEqProofs (disch := omega) only [↓gp0, ↓gp1, ↓gp2, gq0, gq1, gq2, gq3, gq4, gq5, gq6, gq7, gq8, gq9, go0, go1, gl0, gl1, gl2, gl3, ↓reduceIte, Nat.reduceEqDiff, Nat.reduceAdd, Nat.reduceLeDiff, pBuild, fillA, ↓Api_Local.r, ↓Api_Item.r, ↓Api_Instr.r, ↓Api_Body.r, ↓Api_Site.r, ↓Api_Section.r, ↓Api_Code.r, ↓Api_Path.r, ↓Code_maker.r, ↓Api_Value.r] | refine Cut.go ?_))
      (first | (refine And.intro (by simp) ?_; (repeat (first | assumption | with_reducible exact Keeps.refl _ _ | with_reducible refine Keeps.go ?_ (Keeps.one _ _) | with_reducible refine Keeps.go ?_ (by assumption)))) | (repeat (first | assumption | with_reducible exact Keeps.refl _ _ | with_reducible refine Keeps.go ?_ (Keeps.one _ _) | with_reducible refine Keeps.go ?_ (by assumption))))
    · (repeat (first | simp -dsimp -implicitDefEqProofs (disch := omega) only [↓gp0, ↓gp1, ↓gp2, gq0, gq1, gq2, gq3, gq4, gq5, gq6, gq7, gq8, gq9, go0, go1, gl0, gl1, gl2, gl3, ↓reduceIte, Nat.reduceEqDiff, Nat.reduceAdd, Nat.reduceLeDiff, pBuild, fillA, ↓Api_Local.r, ↓Api_Item.r, ↓Api_Instr.r, ↓Api_Body.r, ↓Api_Site.r, ↓Api_Section.r, ↓Api_Code.r, ↓Api_Path.r, ↓Code_maker.r, ↓Api_Value.r] | refine Cut.go ?_))
      refine (code_shared_does x.Op _).mono ?_
      rintro _ _ ⟨rfl, rfl⟩
      (repeat (first | simp -dsimp -implicitDefEqProofs (disch := omega) only [↓gp0, ↓gp1, ↓gp2, gq0, gq1, gq2, gq3, gq4, gq5, gq6, gq7, gq8, gq9, go0, go1, gl0, gl1, gl2, gl3, ↓reduceIte, Nat.reduceEqDiff, Nat.reduceAdd, Nat.reduceLeDiff, pBuild, fillA, ↓Api_Local.r, ↓Api_Item.r, ↓Api_Instr.r, ↓Api_Body.r, ↓Api_Site.r, ↓Api_Section.r, ↓Api_Code.r, ↓Api_Path.r, ↓Code_maker.r, ↓Api_Value.r, hop] | refine Cut.go ?_))
      have hk : (!((decide (2 ≤ x.Op) && decide (x.Op ≤ 9)) && decide (insI m.Code m.thread a < 0)) && kindB m.Code m.thread m.body x a) = (plainB x false false false false false true false && itemsB m.body x.Items) := by simp [kindB, hop]
      rw [hk]
      refine (plain_0000010 x _).mono ?_
      rintro _ _ ⟨rfl, rfl⟩
      (repeat (first | simp -dsimp -implicitDefEqProofs (disch := omega) only [↓gp0, ↓gp1, ↓gp2, gq0, gq1, gq2, gq3, gq4, gq5, gq6, gq7, gq8, gq9, go0, go1, gl0, gl1, gl2, gl3, ↓reduceIte, Nat.reduceEqDiff, Nat.reduceAdd, Nat.reduceLeDiff, pBuild, fillA, ↓Api_Local.r, ↓Api_Item.r, ↓Api_Instr.r, ↓Api_Body.r, ↓Api_Site.r, ↓Api_Section.r, ↓Api_Code.r, ↓Api_Path.r, ↓Code_maker.r, ↓Api_Value.r, hop] | refine Cut.go ?_))
      rcases hp : plainB x false false false false false true false with _ | _
      · (repeat (first | simp -dsimp -implicitDefEqProofs (disch := omega) only [↓gp0, ↓gp1, ↓gp2, gq0, gq1, gq2, gq3, gq4, gq5, gq6, gq7, gq8, gq9, go0, go1, gl0, gl1, gl2, gl3, ↓reduceIte, Nat.reduceEqDiff, Nat.reduceAdd, Nat.reduceLeDiff, pBuild, fillA, ↓Api_Local.r, ↓Api_Item.r, ↓Api_Instr.r, ↓Api_Body.r, ↓Api_Site.r, ↓Api_Section.r, ↓Api_Code.r, ↓Api_Path.r, ↓Code_maker.r, ↓Api_Value.r] | refine Cut.go ?_))
        try simp only [Bool.false_and, Bool.and_false, Bool.and_true, Bool.true_and, true_and]
        (repeat (first | assumption | with_reducible exact Keeps.refl _ _ | with_reducible refine Keeps.go ?_ (Keeps.one _ _) | with_reducible refine Keeps.go ?_ (by assumption)))
      (repeat (first | simp -dsimp -implicitDefEqProofs (disch := omega) only [↓gp0, ↓gp1, ↓gp2, gq0, gq1, gq2, gq3, gq4, gq5, gq6, gq7, gq8, gq9, go0, go1, gl0, gl1, gl2, gl3, ↓reduceIte, Nat.reduceEqDiff, Nat.reduceAdd, Nat.reduceLeDiff, pBuild, fillA, ↓Api_Local.r, ↓Api_Item.r, ↓Api_Instr.r, ↓Api_Body.r, ↓Api_Site.r, ↓Api_Section.r, ↓Api_Code.r, ↓Api_Path.r, ↓Code_maker.r, ↓Api_Value.r] | refine Cut.go ?_))
      refine (code_maker_good_does m hm x.Items hit _).mono ?_
      rintro _ _ ⟨rfl, _⟩
      (repeat (first | simp -dsimp -implicitDefEqProofs (disch := omega) only [↓gp0, ↓gp1, ↓gp2, gq0, gq1, gq2, gq3, gq4, gq5, gq6, gq7, gq8, gq9, go0, go1, gl0, gl1, gl2, gl3, ↓reduceIte, Nat.reduceEqDiff, Nat.reduceAdd, Nat.reduceLeDiff, pBuild, fillA, ↓Api_Local.r, ↓Api_Item.r, ↓Api_Instr.r, ↓Api_Body.r, ↓Api_Site.r, ↓Api_Section.r, ↓Api_Code.r, ↓Api_Path.r, ↓Code_maker.r, ↓Api_Value.r] | refine Cut.go ?_))
      (first | (refine And.intro (by simp) ?_; (repeat (first | assumption | with_reducible exact Keeps.refl _ _ | with_reducible refine Keeps.go ?_ (Keeps.one _ _) | with_reducible refine Keeps.go ?_ (by assumption)))) | (repeat (first | assumption | with_reducible exact Keeps.refl _ _ | with_reducible refine Keeps.go ?_ (Keeps.one _ _) | with_reducible refine Keeps.go ?_ (by assumption))))
  · (repeat (first | simp -dsimp -implicitDefEqProofs (disch := omega) only [↓gp0, ↓gp1, ↓gp2, gq0, gq1, gq2, gq3, gq4, gq5, gq6, gq7, gq8, gq9, go0, go1, gl0, gl1, gl2, gl3, ↓reduceIte, Nat.reduceEqDiff, Nat.reduceAdd, Nat.reduceLeDiff, pBuild, fillA, ↓Api_Local.r, ↓Api_Item.r, ↓Api_Instr.r, ↓Api_Body.r, ↓Api_Site.r, ↓Api_Section.r, ↓Api_Code.r, ↓Api_Path.r, ↓Code_maker.r, ↓Api_Value.r] | refine Cut.go ?_))
    refine (code_shared_does x.Op _).mono ?_
    rintro _ _ ⟨rfl, rfl⟩
    (repeat (first | simp -dsimp -implicitDefEqProofs (disch := omega) only [↓gp0, ↓gp1, ↓gp2, gq0, gq1, gq2, gq3, gq4, gq5, gq6, gq7, gq8, gq9, go0, go1, gl0, gl1, gl2, gl3, ↓reduceIte, Nat.reduceEqDiff, Nat.reduceAdd, Nat.reduceLeDiff, pBuild, fillA, ↓Api_Local.r, ↓Api_Item.r, ↓Api_Instr.r, ↓Api_Body.r, ↓Api_Site.r, ↓Api_Section.r, ↓Api_Code.r, ↓Api_Path.r, ↓Code_maker.r, ↓Api_Value.r, hop] | refine Cut.go ?_))
    have hk : (!((decide (2 ≤ x.Op) && decide (x.Op ≤ 9)) && decide (insI m.Code m.thread a < 0)) && kindB m.Code m.thread m.body x a) = (plainB x false false false false true false false && goesB m.Code m.thread m.body a x.To) := by simp [kindB, hop]
    rw [hk]
    refine (plain_0000100 x _).mono ?_
    rintro _ _ ⟨rfl, rfl⟩
    (repeat (first | simp -dsimp -implicitDefEqProofs (disch := omega) only [↓gp0, ↓gp1, ↓gp2, gq0, gq1, gq2, gq3, gq4, gq5, gq6, gq7, gq8, gq9, go0, go1, gl0, gl1, gl2, gl3, ↓reduceIte, Nat.reduceEqDiff, Nat.reduceAdd, Nat.reduceLeDiff, pBuild, fillA, ↓Api_Local.r, ↓Api_Item.r, ↓Api_Instr.r, ↓Api_Body.r, ↓Api_Site.r, ↓Api_Section.r, ↓Api_Code.r, ↓Api_Path.r, ↓Code_maker.r, ↓Api_Value.r, hop] | refine Cut.go ?_))
    rcases hp : plainB x false false false false true false false with _ | _
    · (repeat (first | simp -dsimp -implicitDefEqProofs (disch := omega) only [↓gp0, ↓gp1, ↓gp2, gq0, gq1, gq2, gq3, gq4, gq5, gq6, gq7, gq8, gq9, go0, go1, gl0, gl1, gl2, gl3, ↓reduceIte, Nat.reduceEqDiff, Nat.reduceAdd, Nat.reduceLeDiff, pBuild, fillA, ↓Api_Local.r, ↓Api_Item.r, ↓Api_Instr.r, ↓Api_Body.r, ↓Api_Site.r, ↓Api_Section.r, ↓Api_Code.r, ↓Api_Path.r, ↓Code_maker.r, ↓Api_Value.r] | refine Cut.go ?_))
      try simp only [Bool.false_and, Bool.and_false, Bool.and_true, Bool.true_and, true_and]
      (repeat (first | assumption | with_reducible exact Keeps.refl _ _ | with_reducible refine Keeps.go ?_ (Keeps.one _ _) | with_reducible refine Keeps.go ?_ (by assumption)))
    (repeat (first | simp -dsimp -implicitDefEqProofs (disch := omega) only [↓gp0, ↓gp1, ↓gp2, gq0, gq1, gq2, gq3, gq4, gq5, gq6, gq7, gq8, gq9, go0, go1, gl0, gl1, gl2, gl3, ↓reduceIte, Nat.reduceEqDiff, Nat.reduceAdd, Nat.reduceLeDiff, pBuild, fillA, ↓Api_Local.r, ↓Api_Item.r, ↓Api_Instr.r, ↓Api_Body.r, ↓Api_Site.r, ↓Api_Section.r, ↓Api_Code.r, ↓Api_Path.r, ↓Code_maker.r, ↓Api_Value.r] | refine Cut.go ?_))
    refine (code_maker_goes_does m hm hs a x.To _).mono ?_
    rintro _ _ ⟨rfl, rfl⟩
    (repeat (first | simp -dsimp -implicitDefEqProofs (disch := omega) only [↓gp0, ↓gp1, ↓gp2, gq0, gq1, gq2, gq3, gq4, gq5, gq6, gq7, gq8, gq9, go0, go1, gl0, gl1, gl2, gl3, ↓reduceIte, Nat.reduceEqDiff, Nat.reduceAdd, Nat.reduceLeDiff, pBuild, fillA, ↓Api_Local.r, ↓Api_Item.r, ↓Api_Instr.r, ↓Api_Body.r, ↓Api_Site.r, ↓Api_Section.r, ↓Api_Code.r, ↓Api_Path.r, ↓Code_maker.r, ↓Api_Value.r] | refine Cut.go ?_))
    (first | (refine And.intro (by simp) ?_; (repeat (first | assumption | with_reducible exact Keeps.refl _ _ | with_reducible refine Keeps.go ?_ (Keeps.one _ _) | with_reducible refine Keeps.go ?_ (by assumption)))) | (repeat (first | assumption | with_reducible exact Keeps.refl _ _ | with_reducible refine Keeps.go ?_ (Keeps.one _ _) | with_reducible refine Keeps.go ?_ (by assumption))))
  · (repeat (first | simp -dsimp -implicitDefEqProofs (disch := omega) only [↓gp0, ↓gp1, ↓gp2, gq0, gq1, gq2, gq3, gq4, gq5, gq6, gq7, gq8, gq9, go0, go1, gl0, gl1, gl2, gl3, ↓reduceIte, Nat.reduceEqDiff, Nat.reduceAdd, Nat.reduceLeDiff, pBuild, fillA, ↓Api_Local.r, ↓Api_Item.r, ↓Api_Instr.r, ↓Api_Body.r, ↓Api_Site.r, ↓Api_Section.r, ↓Api_Code.r, ↓Api_Path.r, ↓Code_maker.r, ↓Api_Value.r] | refine Cut.go ?_))
    refine (code_shared_does x.Op _).mono ?_
    rintro _ _ ⟨rfl, rfl⟩
    (repeat (first | simp -dsimp -implicitDefEqProofs (disch := omega) only [↓gp0, ↓gp1, ↓gp2, gq0, gq1, gq2, gq3, gq4, gq5, gq6, gq7, gq8, gq9, go0, go1, gl0, gl1, gl2, gl3, ↓reduceIte, Nat.reduceEqDiff, Nat.reduceAdd, Nat.reduceLeDiff, pBuild, fillA, ↓Api_Local.r, ↓Api_Item.r, ↓Api_Instr.r, ↓Api_Body.r, ↓Api_Site.r, ↓Api_Section.r, ↓Api_Code.r, ↓Api_Path.r, ↓Code_maker.r, ↓Api_Value.r, hop] | refine Cut.go ?_))
    have hk : (!((decide (2 ≤ x.Op) && decide (x.Op ≤ 9)) && decide (insI m.Code m.thread a < 0)) && kindB m.Code m.thread m.body x a) = (plainB x false false false false true true false && goesB m.Code m.thread m.body a x.To && itemsB m.body x.Items) := by simp [kindB, hop]
    rw [hk]
    refine (plain_0000110 x _).mono ?_
    rintro _ _ ⟨rfl, rfl⟩
    (repeat (first | simp -dsimp -implicitDefEqProofs (disch := omega) only [↓gp0, ↓gp1, ↓gp2, gq0, gq1, gq2, gq3, gq4, gq5, gq6, gq7, gq8, gq9, go0, go1, gl0, gl1, gl2, gl3, ↓reduceIte, Nat.reduceEqDiff, Nat.reduceAdd, Nat.reduceLeDiff, pBuild, fillA, ↓Api_Local.r, ↓Api_Item.r, ↓Api_Instr.r, ↓Api_Body.r, ↓Api_Site.r, ↓Api_Section.r, ↓Api_Code.r, ↓Api_Path.r, ↓Code_maker.r, ↓Api_Value.r, hop] | refine Cut.go ?_))
    rcases hp : plainB x false false false false true true false with _ | _
    · (repeat (first | simp -dsimp -implicitDefEqProofs (disch := omega) only [↓gp0, ↓gp1, ↓gp2, gq0, gq1, gq2, gq3, gq4, gq5, gq6, gq7, gq8, gq9, go0, go1, gl0, gl1, gl2, gl3, ↓reduceIte, Nat.reduceEqDiff, Nat.reduceAdd, Nat.reduceLeDiff, pBuild, fillA, ↓Api_Local.r, ↓Api_Item.r, ↓Api_Instr.r, ↓Api_Body.r, ↓Api_Site.r, ↓Api_Section.r, ↓Api_Code.r, ↓Api_Path.r, ↓Code_maker.r, ↓Api_Value.r] | refine Cut.go ?_))
      try simp only [Bool.false_and, Bool.and_false, Bool.and_true, Bool.true_and, true_and]
      (repeat (first | assumption | with_reducible exact Keeps.refl _ _ | with_reducible refine Keeps.go ?_ (Keeps.one _ _) | with_reducible refine Keeps.go ?_ (by assumption)))
    (repeat (first | simp -dsimp -implicitDefEqProofs (disch := omega) only [↓gp0, ↓gp1, ↓gp2, gq0, gq1, gq2, gq3, gq4, gq5, gq6, gq7, gq8, gq9, go0, go1, gl0, gl1, gl2, gl3, ↓reduceIte, Nat.reduceEqDiff, Nat.reduceAdd, Nat.reduceLeDiff, pBuild, fillA, ↓Api_Local.r, ↓Api_Item.r, ↓Api_Instr.r, ↓Api_Body.r, ↓Api_Site.r, ↓Api_Section.r, ↓Api_Code.r, ↓Api_Path.r, ↓Code_maker.r, ↓Api_Value.r] | refine Cut.go ?_))
    refine (code_maker_goes_does m hm hs a x.To _).mono ?_
    rintro _ _ ⟨rfl, rfl⟩
    (repeat (first | simp -dsimp -implicitDefEqProofs (disch := omega) only [↓gp0, ↓gp1, ↓gp2, gq0, gq1, gq2, gq3, gq4, gq5, gq6, gq7, gq8, gq9, go0, go1, gl0, gl1, gl2, gl3, ↓reduceIte, Nat.reduceEqDiff, Nat.reduceAdd, Nat.reduceLeDiff, pBuild, fillA, ↓Api_Local.r, ↓Api_Item.r, ↓Api_Instr.r, ↓Api_Body.r, ↓Api_Site.r, ↓Api_Section.r, ↓Api_Code.r, ↓Api_Path.r, ↓Code_maker.r, ↓Api_Value.r] | refine Cut.go ?_))
    rcases hg : goesB m.Code m.thread m.body a x.To with _ | _
    · (repeat (first | simp -dsimp -implicitDefEqProofs (disch := omega) only [↓gp0, ↓gp1, ↓gp2, gq0, gq1, gq2, gq3, gq4, gq5, gq6, gq7, gq8, gq9, go0, go1, gl0, gl1, gl2, gl3, ↓reduceIte, Nat.reduceEqDiff, Nat.reduceAdd, Nat.reduceLeDiff, pBuild, fillA, ↓Api_Local.r, ↓Api_Item.r, ↓Api_Instr.r, ↓Api_Body.r, ↓Api_Site.r, ↓Api_Section.r, ↓Api_Code.r, ↓Api_Path.r, ↓Code_maker.r, ↓Api_Value.r] | refine Cut.go ?_))
      try simp only [Bool.false_and, Bool.and_false, Bool.and_true, Bool.true_and, true_and]
      (repeat (first | assumption | with_reducible exact Keeps.refl _ _ | with_reducible refine Keeps.go ?_ (Keeps.one _ _) | with_reducible refine Keeps.go ?_ (by assumption)))
    (repeat (first | simp -dsimp -implicitDefEqProofs (disch := omega) only [↓gp0, ↓gp1, ↓gp2, gq0, gq1, gq2, gq3, gq4, gq5, gq6, gq7, gq8, gq9, go0, go1, gl0, gl1, gl2, gl3, ↓reduceIte, Nat.reduceEqDiff, Nat.reduceAdd, Nat.reduceLeDiff, pBuild, fillA, ↓Api_Local.r, ↓Api_Item.r, ↓Api_Instr.r, ↓Api_Body.r, ↓Api_Site.r, ↓Api_Section.r, ↓Api_Code.r, ↓Api_Path.r, ↓Code_maker.r, ↓Api_Value.r] | refine Cut.go ?_))
    refine (code_maker_good_does m hm x.Items hit _).mono ?_
    rintro _ _ ⟨rfl, _⟩
    (repeat (first | simp -dsimp -implicitDefEqProofs (disch := omega) only [↓gp0, ↓gp1, ↓gp2, gq0, gq1, gq2, gq3, gq4, gq5, gq6, gq7, gq8, gq9, go0, go1, gl0, gl1, gl2, gl3, ↓reduceIte, Nat.reduceEqDiff, Nat.reduceAdd, Nat.reduceLeDiff, pBuild, fillA, ↓Api_Local.r, ↓Api_Item.r, ↓Api_Instr.r, ↓Api_Body.r, ↓Api_Site.r, ↓Api_Section.r, ↓Api_Code.r, ↓Api_Path.r, ↓Code_maker.r, ↓Api_Value.r] | refine Cut.go ?_))
    (first | (refine And.intro (by simp) ?_; (repeat (first | assumption | with_reducible exact Keeps.refl _ _ | with_reducible refine Keeps.go ?_ (Keeps.one _ _) | with_reducible refine Keeps.go ?_ (by assumption)))) | (repeat (first | assumption | with_reducible exact Keeps.refl _ _ | with_reducible refine Keeps.go ?_ (Keeps.one _ _) | with_reducible refine Keeps.go ?_ (by assumption))))
  · rcases hop with hop | hop
    · (repeat (first | simp -dsimp -implicitDefEqProofs (disch := omega) only [↓gp0, ↓gp1, ↓gp2, gq0, gq1, gq2, gq3, gq4, gq5, gq6, gq7, gq8, gq9, go0, go1, gl0, gl1, gl2, gl3, ↓reduceIte, Nat.reduceEqDiff, Nat.reduceAdd, Nat.reduceLeDiff, pBuild, fillA, ↓Api_Local.r, ↓Api_Item.r, ↓Api_Instr.r, ↓Api_Body.r, ↓Api_Site.r, ↓Api_Section.r, ↓Api_Code.r, ↓Api_Path.r, ↓Code_maker.r, ↓Api_Value.r] | refine Cut.go ?_))
      refine (code_shared_does x.Op _).mono ?_
      rintro _ _ ⟨rfl, rfl⟩
      (repeat (first | simp -dsimp -implicitDefEqProofs (disch := omega) only [↓gp0, ↓gp1, ↓gp2, gq0, gq1, gq2, gq3, gq4, gq5, gq6, gq7, gq8, gq9, go0, go1, gl0, gl1, gl2, gl3, ↓reduceIte, Nat.reduceEqDiff, Nat.reduceAdd, Nat.reduceLeDiff, pBuild, fillA, ↓Api_Local.r, ↓Api_Item.r, ↓Api_Instr.r, ↓Api_Body.r, ↓Api_Site.r, ↓Api_Section.r, ↓Api_Code.r, ↓Api_Path.r, ↓Code_maker.r, ↓Api_Value.r, hop] | refine Cut.go ?_))
      refine (code_maker_border_does m x a _).mono ?_
      rintro _ _ ⟨rfl, _⟩
      (repeat (first | simp -dsimp -implicitDefEqProofs (disch := omega) only [↓gp0, ↓gp1, ↓gp2, gq0, gq1, gq2, gq3, gq4, gq5, gq6, gq7, gq8, gq9, go0, go1, gl0, gl1, gl2, gl3, ↓reduceIte, Nat.reduceEqDiff, Nat.reduceAdd, Nat.reduceLeDiff, pBuild, fillA, ↓Api_Local.r, ↓Api_Item.r, ↓Api_Instr.r, ↓Api_Body.r, ↓Api_Site.r, ↓Api_Section.r, ↓Api_Code.r, ↓Api_Path.r, ↓Code_maker.r, ↓Api_Value.r, hop] | refine Cut.go ?_))
      (first | (refine And.intro (by simp [kindB, hop]) ?_; (repeat (first | assumption | with_reducible exact Keeps.refl _ _ | with_reducible refine Keeps.go ?_ (Keeps.one _ _) | with_reducible refine Keeps.go ?_ (by assumption)))) | (repeat (first | assumption | with_reducible exact Keeps.refl _ _ | with_reducible refine Keeps.go ?_ (Keeps.one _ _) | with_reducible refine Keeps.go ?_ (by assumption))))
    · (repeat (first | simp -dsimp -implicitDefEqProofs (disch := omega) only [↓gp0, ↓gp1, ↓gp2, gq0, gq1, gq2, gq3, gq4, gq5, gq6, gq7, gq8, gq9, go0, go1, gl0, gl1, gl2, gl3, ↓reduceIte, Nat.reduceEqDiff, Nat.reduceAdd, Nat.reduceLeDiff, pBuild, fillA, ↓Api_Local.r, ↓Api_Item.r, ↓Api_Instr.r, ↓Api_Body.r, ↓Api_Site.r, ↓Api_Section.r, ↓Api_Code.r, ↓Api_Path.r, ↓Code_maker.r, ↓Api_Value.r] | refine Cut.go ?_))
      refine (code_shared_does x.Op _).mono ?_
      rintro _ _ ⟨rfl, rfl⟩
      (repeat (first | simp -dsimp -implicitDefEqProofs (disch := omega) only [↓gp0, ↓gp1, ↓gp2, gq0, gq1, gq2, gq3, gq4, gq5, gq6, gq7, gq8, gq9, go0, go1, gl0, gl1, gl2, gl3, ↓reduceIte, Nat.reduceEqDiff, Nat.reduceAdd, Nat.reduceLeDiff, pBuild, fillA, ↓Api_Local.r, ↓Api_Item.r, ↓Api_Instr.r, ↓Api_Body.r, ↓Api_Site.r, ↓Api_Section.r, ↓Api_Code.r, ↓Api_Path.r, ↓Code_maker.r, ↓Api_Value.r, hop] | refine Cut.go ?_))
      refine (code_maker_border_does m x a _).mono ?_
      rintro _ _ ⟨rfl, _⟩
      (repeat (first | simp -dsimp -implicitDefEqProofs (disch := omega) only [↓gp0, ↓gp1, ↓gp2, gq0, gq1, gq2, gq3, gq4, gq5, gq6, gq7, gq8, gq9, go0, go1, gl0, gl1, gl2, gl3, ↓reduceIte, Nat.reduceEqDiff, Nat.reduceAdd, Nat.reduceLeDiff, pBuild, fillA, ↓Api_Local.r, ↓Api_Item.r, ↓Api_Instr.r, ↓Api_Body.r, ↓Api_Site.r, ↓Api_Section.r, ↓Api_Code.r, ↓Api_Path.r, ↓Code_maker.r, ↓Api_Value.r, hop] | refine Cut.go ?_))
      (first | (refine And.intro (by simp [kindB, hop]) ?_; (repeat (first | assumption | with_reducible exact Keeps.refl _ _ | with_reducible refine Keeps.go ?_ (Keeps.one _ _) | with_reducible refine Keeps.go ?_ (by assumption)))) | (repeat (first | assumption | with_reducible exact Keeps.refl _ _ | with_reducible refine Keeps.go ?_ (Keeps.one _ _) | with_reducible refine Keeps.go ?_ (by assumption))))
  · (repeat (first | simp -dsimp -implicitDefEqProofs (disch := omega) only [↓gp0, ↓gp1, ↓gp2, gq0, gq1, gq2, gq3, gq4, gq5, gq6, gq7, gq8, gq9, go0, go1, gl0, gl1, gl2, gl3, ↓reduceIte, Nat.reduceEqDiff, Nat.reduceAdd, Nat.reduceLeDiff, pBuild, fillA, ↓Api_Local.r, ↓Api_Item.r, ↓Api_Instr.r, ↓Api_Body.r, ↓Api_Site.r, ↓Api_Section.r, ↓Api_Code.r, ↓Api_Path.r, ↓Code_maker.r, ↓Api_Value.r] | refine Cut.go ?_))
    refine (code_shared_does x.Op _).mono ?_
    rintro _ _ ⟨rfl, rfl⟩
    (repeat (first | simp -dsimp -implicitDefEqProofs (disch := omega) only [↓gp0, ↓gp1, ↓gp2, gq0, gq1, gq2, gq3, gq4, gq5, gq6, gq7, gq8, gq9, go0, go1, gl0, gl1, gl2, gl3, ↓reduceIte, Nat.reduceEqDiff, Nat.reduceAdd, Nat.reduceLeDiff, pBuild, fillA, ↓Api_Local.r, ↓Api_Item.r, ↓Api_Instr.r, ↓Api_Body.r, ↓Api_Site.r, ↓Api_Section.r, ↓Api_Code.r, ↓Api_Path.r, ↓Code_maker.r, ↓Api_Value.r, hop] | refine Cut.go ?_))
    have hk : (!((decide (2 ≤ x.Op) && decide (x.Op ≤ 9)) && decide (insI m.Code m.thread a < 0)) && kindB m.Code m.thread m.body x a) = (plainB x false false false false false false false && decide (a = (slL m.body.Code).length - 1)) := by simp [kindB, hop]
    rw [hk]
    refine (plain_0000000 x _).mono ?_
    rintro _ _ ⟨rfl, rfl⟩
    (repeat (first | simp -dsimp -implicitDefEqProofs (disch := omega) only [↓gp0, ↓gp1, ↓gp2, gq0, gq1, gq2, gq3, gq4, gq5, gq6, gq7, gq8, gq9, go0, go1, gl0, gl1, gl2, gl3, ↓reduceIte, Nat.reduceEqDiff, Nat.reduceAdd, Nat.reduceLeDiff, pBuild, fillA, ↓Api_Local.r, ↓Api_Item.r, ↓Api_Instr.r, ↓Api_Body.r, ↓Api_Site.r, ↓Api_Section.r, ↓Api_Code.r, ↓Api_Path.r, ↓Code_maker.r, ↓Api_Value.r, hop] | refine Cut.go ?_))
    rcases hp : plainB x false false false false false false false with _ | _
    · (repeat (first | simp -dsimp -implicitDefEqProofs (disch := omega) only [↓gp0, ↓gp1, ↓gp2, gq0, gq1, gq2, gq3, gq4, gq5, gq6, gq7, gq8, gq9, go0, go1, gl0, gl1, gl2, gl3, ↓reduceIte, Nat.reduceEqDiff, Nat.reduceAdd, Nat.reduceLeDiff, pBuild, fillA, ↓Api_Local.r, ↓Api_Item.r, ↓Api_Instr.r, ↓Api_Body.r, ↓Api_Site.r, ↓Api_Section.r, ↓Api_Code.r, ↓Api_Path.r, ↓Code_maker.r, ↓Api_Value.r] | refine Cut.go ?_))
      try simp only [Bool.false_and, Bool.and_false, Bool.and_true, Bool.true_and, true_and]
      (repeat (first | assumption | with_reducible exact Keeps.refl _ _ | with_reducible refine Keeps.go ?_ (Keeps.one _ _) | with_reducible refine Keeps.go ?_ (by assumption)))
    (repeat (first | simp -dsimp -implicitDefEqProofs (disch := omega) only [↓gp0, ↓gp1, ↓gp2, gq0, gq1, gq2, gq3, gq4, gq5, gq6, gq7, gq8, gq9, go0, go1, gl0, gl1, gl2, gl3, ↓reduceIte, Nat.reduceEqDiff, Nat.reduceAdd, Nat.reduceLeDiff, pBuild, fillA, ↓Api_Local.r, ↓Api_Item.r, ↓Api_Instr.r, ↓Api_Body.r, ↓Api_Site.r, ↓Api_Section.r, ↓Api_Code.r, ↓Api_Path.r, ↓Code_maker.r, ↓Api_Value.r] | refine Cut.go ?_))
    (first | (refine And.intro (by simp [beqI]) ?_; (repeat (first | assumption | with_reducible exact Keeps.refl _ _ | with_reducible refine Keeps.go ?_ (Keeps.one _ _) | with_reducible refine Keeps.go ?_ (by assumption)))) | (repeat (first | assumption | with_reducible exact Keeps.refl _ _ | with_reducible refine Keeps.go ?_ (Keeps.one _ _) | with_reducible refine Keeps.go ?_ (by assumption))))
  · have hk : (!((decide (2 ≤ x.Op) && decide (x.Op ≤ 9)) && decide (insI m.Code m.thread a < 0)) && kindB m.Code m.thread m.body x a) = false := by
      unfold kindB
      rw [if_neg (by omega), if_neg (by omega), if_neg (by omega), if_neg (by omega), if_neg (by omega), if_neg (by omega), if_neg (by omega)]
      have : decide (x.Op = 17) = false := decide_eq_false (by omega)
      simp [this]
    rw [hk]
    have hsh : (decide (2 ≤ x.Op) && decide (x.Op ≤ 9)) = false := by
      rw [Bool.eq_false_iff]; simp only [ne_eq, Bool.and_eq_true, decide_eq_true_eq]; omega
    (repeat (first | simp -dsimp -implicitDefEqProofs (disch := omega) only [↓gp0, ↓gp1, ↓gp2, gq0, gq1, gq2, gq3, gq4, gq5, gq6, gq7, gq8, gq9, go0, go1, gl0, gl1, gl2, gl3, ↓reduceIte, Nat.reduceEqDiff, Nat.reduceAdd, Nat.reduceLeDiff, pBuild, fillA, ↓Api_Local.r, ↓Api_Item.r, ↓Api_Instr.r, ↓Api_Body.r, ↓Api_Site.r, ↓Api_Section.r, ↓Api_Code.r, ↓Api_Path.r, ↓Code_maker.r, ↓Api_Value.r] | refine Cut.go ?_))
    refine (code_shared_does x.Op _).mono ?_
    rintro _ _ ⟨rfl, rfl⟩
    (repeat (first | simp -dsimp -implicitDefEqProofs (disch := omega) only [↓gp0, ↓gp1, ↓gp2, gq0, gq1, gq2, gq3, gq4, gq5, gq6, gq7, gq8, gq9, go0, go1, gl0, gl1, gl2, gl3, ↓reduceIte, Nat.reduceEqDiff, Nat.reduceAdd, Nat.reduceLeDiff, pBuild, fillA, ↓Api_Local.r, ↓Api_Item.r, ↓Api_Instr.r, ↓Api_Body.r, ↓Api_Site.r, ↓Api_Section.r, ↓Api_Code.r, ↓Api_Path.r, ↓Code_maker.r, ↓Api_Value.r, hsh] | refine Cut.go ?_))
    (first | (refine And.intro (by simp) ?_; (repeat (first | assumption | with_reducible exact Keeps.refl _ _ | with_reducible refine Keeps.go ?_ (Keeps.one _ _) | with_reducible refine Keeps.go ?_ (by assumption)))) | (repeat (first | assumption | with_reducible exact Keeps.refl _ _ | with_reducible refine Keeps.go ?_ (Keeps.one _ _) | with_reducible refine Keeps.go ?_ (by assumption))))

end Go.Proofs.Ytppldbldpphlmaa
