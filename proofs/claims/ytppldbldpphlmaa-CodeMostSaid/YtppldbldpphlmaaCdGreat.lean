/- Which codes are more than is played; what the document tells of two codes. -/
import Derived.Test.YtppldbldpphlmaaCdProg7
import Derived.Test.YtppldbldpphlmaaAbsForget
set_option linter.unusedVariables false
set_option linter.unusedSimpArgs false
set_option maxRecDepth 100000
set_option maxHeartbeats 1000000
namespace Go.Proofs.Ytppldbldpphlmaa
open Go.Abs

def greatX (x : In) : Bool := decide (200 < (slL x.Items).length) || decide (200 < (slL x.Index).length)
def greatT (b : Bd) : Bool := decide (300 < (slL b.Slots).length) || decide (600 < (slL b.Code).length) || (slL b.Code).any greatX
def greatB (c : Cd) : Bool := decide (20 < (slL c.Records).length) || (decide (100 < (slL c.Globals).length) || (decide (8 < (slL c.Threads).length) || (decide (100 < (slL c.Sites).length) || (decide (100 < (slL c.Sections).length) || ((slL c.Records).any (fun r => decide (100 < (slL r).length)) || (slL c.Threads).any greatT)))))

theorem any_yes {α : Type} {p : α → Bool} {l : List α} {k : Nat} {x : α} (hx : l[k]? = some x) (hp : p x = true) : l.any p = true := List.any_eq_true.2 ⟨x, List.mem_of_getElem? hx, hp⟩
theorem any_no {α : Type} {p : α → Bool} {l : List α} (h : upTo (fun _ x => !p x) l l.length) : l.any p = false := by
  rw [List.any_eq_false]
  intro x hx
  obtain ⟨k, hk⟩ := List.getElem?_of_mem hx
  have := h k x (List.getElem?_eq_some_iff.1 hk).1 hk
  simpa using this

theorem great_inner (b : Bd) (hcl : (slL b.Code).length ≤ 1000000) (a49 a50 a51 : AV) (h0 : AHeap) (Q : AExit → Fr → AHeap → Prop)
    (hret : ∀ h2, (slL b.Code).any greatX = true → Keeps h0 h2 (fun _ => False) → Q .ret (frOf [(2, .bool true)]) h2)
    (hex : ∀ h2, (slL b.Code).any greatX = false → Keeps h0 h2 (fun _ => False) → Q (.exit 4) (frOf [(49, a49), (50, a50), (51, a51)]) h2) :
    WP Try.prog 84 (.loop c_padlockref09_Great_15) (frOf [(49, a49), (50, a50), (51, a51), (66, slAV 8 Api_Instr.cells b.Code), (67, .int .i64 (slL b.Code).length), (68, .int .i64 0)]) h0 Q := by
  refine WP_loop mixed_ (by kernel_rfl) (fun n fr hh => ∃ k : Nat, k ≤ (slL b.Code).length ∧ n = (slL b.Code).length - k ∧ upTo (fun _ x => !greatX x) (slL b.Code) k ∧ Keeps h0 hh (fun _ => False) ∧ fr = frOf [(49, a49), (50, a50), (51, a51), (66, slAV 8 Api_Instr.cells b.Code), (67, .int .i64 (slL b.Code).length), (68, .int .i64 k)]) (slL b.Code).length ⟨0, by omega, by omega, upTo_zero _ _, .refl _ _, rfl⟩ ?_
  rintro n fr hh ⟨k, hk, rfl, hup, kp, rfl⟩
  apply padlockref09_Great_loop15
  generalize hI : (fun (n : Nat) (fr : Fr) (hh : AHeap) => _) = I
  (repeat (first | simp -dsimp -implicitDefEqProofs (disch := omega) only [↓gp0, ↓gp1, ↓gp2, gq0, gq1, gq2, gq3, gq4, gq5, gq6, gq7, gq8, gq9, go0, go1, gl0, gl1, gl2, gl3, ↓reduceIte, Nat.reduceEqDiff, Nat.reduceAdd, Nat.reduceLeDiff, pBuild, fillA, ↓Api_Local.r, ↓Api_Item.r, ↓Api_Instr.r, ↓Api_Body.r, ↓Api_Site.r, ↓Api_Section.r, ↓Api_Code.r, ↓Api_Path.r, ↓Code_maker.r, ↓Api_Value.r] | refine Cut.go ?_))
  refine Split_lt (fun hkl => ?_) (fun hkl => ?_)
  · obtain ⟨x, hx⟩ : ∃ x, (slL b.Code)[k]? = some x := ⟨_, List.getElem?_eq_getElem (by omega)⟩
    have kp1 := kp.go (Keeps.one hh (.row 56 x.cells))
    have yes : greatX x = true → Q .ret (frOf [(2, .bool true)]) (hh.push (.row 56 x.cells)) := fun hg => hret _ (any_yes hx hg) kp1
    (repeat (first | simp -dsimp -implicitDefEqProofs (disch := omega) only [↓gp0, ↓gp1, ↓gp2, gq0, gq1, gq2, gq3, gq4, gq5, gq6, gq7, gq8, gq9, go0, go1, gl0, gl1, gl2, gl3, ↓reduceIte, Nat.reduceEqDiff, Nat.reduceAdd, Nat.reduceLeDiff, pBuild, fillA, ↓Api_Local.r, ↓Api_Item.r, ↓Api_Instr.r, ↓Api_Body.r, ↓Api_Site.r, ↓Api_Section.r, ↓Api_Code.r, ↓Api_Path.r, ↓Code_maker.r, ↓Api_Value.r, pIndexAddr_slAV hx] | refine Cut.go ?_))
    refine Split_lt (fun h1 => ?_) (fun h1 => ?_)
    · (repeat (first | simp -dsimp -implicitDefEqProofs (disch := omega) only [↓gp0, ↓gp1, ↓gp2, gq0, gq1, gq2, gq3, gq4, gq5, gq6, gq7, gq8, gq9, go0, go1, gl0, gl1, gl2, gl3, ↓reduceIte, Nat.reduceEqDiff, Nat.reduceAdd, Nat.reduceLeDiff, pBuild, fillA, ↓Api_Local.r, ↓Api_Item.r, ↓Api_Instr.r, ↓Api_Body.r, ↓Api_Site.r, ↓Api_Section.r, ↓Api_Code.r, ↓Api_Path.r, ↓Code_maker.r, ↓Api_Value.r] | refine Cut.go ?_))
      exact yes (by simp [greatX]; omega)
    (repeat (first | simp -dsimp -implicitDefEqProofs (disch := omega) only [↓gp0, ↓gp1, ↓gp2, gq0, gq1, gq2, gq3, gq4, gq5, gq6, gq7, gq8, gq9, go0, go1, gl0, gl1, gl2, gl3, ↓reduceIte, Nat.reduceEqDiff, Nat.reduceAdd, Nat.reduceLeDiff, pBuild, fillA, ↓Api_Local.r, ↓Api_Item.r, ↓Api_Instr.r, ↓Api_Body.r, ↓Api_Site.r, ↓Api_Section.r, ↓Api_Code.r, ↓Api_Path.r, ↓Code_maker.r, ↓Api_Value.r] | refine Cut.go ?_))
    refine Split_lt (fun h2 => ?_) (fun h2 => ?_)
    · (repeat (first | simp -dsimp -implicitDefEqProofs (disch := omega) only [↓gp0, ↓gp1, ↓gp2, gq0, gq1, gq2, gq3, gq4, gq5, gq6, gq7, gq8, gq9, go0, go1, gl0, gl1, gl2, gl3, ↓reduceIte, Nat.reduceEqDiff, Nat.reduceAdd, Nat.reduceLeDiff, pBuild, fillA, ↓Api_Local.r, ↓Api_Item.r, ↓Api_Instr.r, ↓Api_Body.r, ↓Api_Site.r, ↓Api_Section.r, ↓Api_Code.r, ↓Api_Path.r, ↓Code_maker.r, ↓Api_Value.r] | refine Cut.go ?_))
      exact yes (by simp [greatX]; omega)
    · (repeat (first | simp -dsimp -implicitDefEqProofs (disch := omega) only [↓gp0, ↓gp1, ↓gp2, gq0, gq1, gq2, gq3, gq4, gq5, gq6, gq7, gq8, gq9, go0, go1, gl0, gl1, gl2, gl3, ↓reduceIte, Nat.reduceEqDiff, Nat.reduceAdd, Nat.reduceLeDiff, pBuild, fillA, ↓Api_Local.r, ↓Api_Item.r, ↓Api_Instr.r, ↓Api_Body.r, ↓Api_Site.r, ↓Api_Section.r, ↓Api_Code.r, ↓Api_Path.r, ↓Code_maker.r, ↓Api_Value.r, wkS k (by omega)] | refine Cut.go ?_))
      rw [loopPost_normal, ← hI]
      exact ⟨_, by omega, k + 1, by omega, rfl, upTo_succ hup hx (by simp [greatX]; omega), kp1, rfl⟩
  · have hke : k = (slL b.Code).length := by omega
    subst hke
    (repeat (first | simp -dsimp -implicitDefEqProofs (disch := omega) only [↓gp0, ↓gp1, ↓gp2, gq0, gq1, gq2, gq3, gq4, gq5, gq6, gq7, gq8, gq9, go0, go1, gl0, gl1, gl2, gl3, ↓reduceIte, Nat.reduceEqDiff, Nat.reduceAdd, Nat.reduceLeDiff, pBuild, fillA, ↓Api_Local.r, ↓Api_Item.r, ↓Api_Instr.r, ↓Api_Body.r, ↓Api_Site.r, ↓Api_Section.r, ↓Api_Code.r, ↓Api_Path.r, ↓Code_maker.r, ↓Api_Value.r] | refine Cut.go ?_))
    exact hex hh (any_no hup) kp

theorem ref_Great_k (c : Cd) (hc : c.ok) (h : AHeap) : CallsA Try.prog 25 [.agg c.cells] h (fun v h2 => v = .bool (greatB c) ∧ Keeps h h2 (fun _ => False)) := by
  apply padlockref09_Great_wp
  unfold greatB
  (repeat (first | simp -dsimp -implicitDefEqProofs (disch := omega) only [↓gp0, ↓gp1, ↓gp2, gq0, gq1, gq2, gq3, gq4, gq5, gq6, gq7, gq8, gq9, go0, go1, gl0, gl1, gl2, gl3, ↓reduceIte, Nat.reduceEqDiff, Nat.reduceAdd, Nat.reduceLeDiff, pBuild, fillA, ↓Api_Local.r, ↓Api_Item.r, ↓Api_Instr.r, ↓Api_Body.r, ↓Api_Site.r, ↓Api_Section.r, ↓Api_Code.r, ↓Api_Path.r, ↓Code_maker.r, ↓Api_Value.r] | refine Cut.go ?_))
  refine Split_lt (fun h1 => ?_) (fun h1 => ?_)
  · (repeat (first | simp -dsimp -implicitDefEqProofs (disch := omega) only [↓gp0, ↓gp1, ↓gp2, gq0, gq1, gq2, gq3, gq4, gq5, gq6, gq7, gq8, gq9, go0, go1, gl0, gl1, gl2, gl3, ↓reduceIte, Nat.reduceEqDiff, Nat.reduceAdd, Nat.reduceLeDiff, pBuild, fillA, ↓Api_Local.r, ↓Api_Item.r, ↓Api_Instr.r, ↓Api_Body.r, ↓Api_Site.r, ↓Api_Section.r, ↓Api_Code.r, ↓Api_Path.r, ↓Code_maker.r, ↓Api_Value.r] | refine Cut.go ?_))
    rw [decide_eq_true (by omega : 20 < (slL c.Records).length)]
    (first | (refine And.intro (by simp) ?_; (repeat (first | assumption | with_reducible exact Keeps.refl _ _ | with_reducible refine Keeps.go ?_ (Keeps.one _ _) | with_reducible refine Keeps.go ?_ (by assumption)))) | (repeat (first | assumption | with_reducible exact Keeps.refl _ _ | with_reducible refine Keeps.go ?_ (Keeps.one _ _) | with_reducible refine Keeps.go ?_ (by assumption))))
  rw [decide_eq_false (by omega : ¬ 20 < (slL c.Records).length)]
  (repeat (first | simp -dsimp -implicitDefEqProofs (disch := omega) only [↓gp0, ↓gp1, ↓gp2, gq0, gq1, gq2, gq3, gq4, gq5, gq6, gq7, gq8, gq9, go0, go1, gl0, gl1, gl2, gl3, ↓reduceIte, Nat.reduceEqDiff, Nat.reduceAdd, Nat.reduceLeDiff, pBuild, fillA, ↓Api_Local.r, ↓Api_Item.r, ↓Api_Instr.r, ↓Api_Body.r, ↓Api_Site.r, ↓Api_Section.r, ↓Api_Code.r, ↓Api_Path.r, ↓Code_maker.r, ↓Api_Value.r] | refine Cut.go ?_))
  refine Split_lt (fun h2 => ?_) (fun h2 => ?_)
  · (repeat (first | simp -dsimp -implicitDefEqProofs (disch := omega) only [↓gp0, ↓gp1, ↓gp2, gq0, gq1, gq2, gq3, gq4, gq5, gq6, gq7, gq8, gq9, go0, go1, gl0, gl1, gl2, gl3, ↓reduceIte, Nat.reduceEqDiff, Nat.reduceAdd, Nat.reduceLeDiff, pBuild, fillA, ↓Api_Local.r, ↓Api_Item.r, ↓Api_Instr.r, ↓Api_Body.r, ↓Api_Site.r, ↓Api_Section.r, ↓Api_Code.r, ↓Api_Path.r, ↓Code_maker.r, ↓Api_Value.r] | refine Cut.go ?_))
    rw [decide_eq_true (by omega : 100 < (slL c.Globals).length)]
    (first | (refine And.intro (by simp) ?_; (repeat (first | assumption | with_reducible exact Keeps.refl _ _ | with_reducible refine Keeps.go ?_ (Keeps.one _ _) | with_reducible refine Keeps.go ?_ (by assumption)))) | (repeat (first | assumption | with_reducible exact Keeps.refl _ _ | with_reducible refine Keeps.go ?_ (Keeps.one _ _) | with_reducible refine Keeps.go ?_ (by assumption))))
  rw [decide_eq_false (by omega : ¬ 100 < (slL c.Globals).length)]
  (repeat (first | simp -dsimp -implicitDefEqProofs (disch := omega) only [↓gp0, ↓gp1, ↓gp2, gq0, gq1, gq2, gq3, gq4, gq5, gq6, gq7, gq8, gq9, go0, go1, gl0, gl1, gl2, gl3, ↓reduceIte, Nat.reduceEqDiff, Nat.reduceAdd, Nat.reduceLeDiff, pBuild, fillA, ↓Api_Local.r, ↓Api_Item.r, ↓Api_Instr.r, ↓Api_Body.r, ↓Api_Site.r, ↓Api_Section.r, ↓Api_Code.r, ↓Api_Path.r, ↓Code_maker.r, ↓Api_Value.r] | refine Cut.go ?_))
  refine Split_lt (fun h3 => ?_) (fun h3 => ?_)
  · (repeat (first | simp -dsimp -implicitDefEqProofs (disch := omega) only [↓gp0, ↓gp1, ↓gp2, gq0, gq1, gq2, gq3, gq4, gq5, gq6, gq7, gq8, gq9, go0, go1, gl0, gl1, gl2, gl3, ↓reduceIte, Nat.reduceEqDiff, Nat.reduceAdd, Nat.reduceLeDiff, pBuild, fillA, ↓Api_Local.r, ↓Api_Item.r, ↓Api_Instr.r, ↓Api_Body.r, ↓Api_Site.r, ↓Api_Section.r, ↓Api_Code.r, ↓Api_Path.r, ↓Code_maker.r, ↓Api_Value.r] | refine Cut.go ?_))
    rw [decide_eq_true (by omega : 8 < (slL c.Threads).length)]
    (first | (refine And.intro (by simp) ?_; (repeat (first | assumption | with_reducible exact Keeps.refl _ _ | with_reducible refine Keeps.go ?_ (Keeps.one _ _) | with_reducible refine Keeps.go ?_ (by assumption)))) | (repeat (first | assumption | with_reducible exact Keeps.refl _ _ | with_reducible refine Keeps.go ?_ (Keeps.one _ _) | with_reducible refine Keeps.go ?_ (by assumption))))
  rw [decide_eq_false (by omega : ¬ 8 < (slL c.Threads).length)]
  (repeat (first | simp -dsimp -implicitDefEqProofs (disch := omega) only [↓gp0, ↓gp1, ↓gp2, gq0, gq1, gq2, gq3, gq4, gq5, gq6, gq7, gq8, gq9, go0, go1, gl0, gl1, gl2, gl3, ↓reduceIte, Nat.reduceEqDiff, Nat.reduceAdd, Nat.reduceLeDiff, pBuild, fillA, ↓Api_Local.r, ↓Api_Item.r, ↓Api_Instr.r, ↓Api_Body.r, ↓Api_Site.r, ↓Api_Section.r, ↓Api_Code.r, ↓Api_Path.r, ↓Code_maker.r, ↓Api_Value.r] | refine Cut.go ?_))
  refine Split_lt (fun h4 => ?_) (fun h4 => ?_)
  · (repeat (first | simp -dsimp -implicitDefEqProofs (disch := omega) only [↓gp0, ↓gp1, ↓gp2, gq0, gq1, gq2, gq3, gq4, gq5, gq6, gq7, gq8, gq9, go0, go1, gl0, gl1, gl2, gl3, ↓reduceIte, Nat.reduceEqDiff, Nat.reduceAdd, Nat.reduceLeDiff, pBuild, fillA, ↓Api_Local.r, ↓Api_Item.r, ↓Api_Instr.r, ↓Api_Body.r, ↓Api_Site.r, ↓Api_Section.r, ↓Api_Code.r, ↓Api_Path.r, ↓Code_maker.r, ↓Api_Value.r] | refine Cut.go ?_))
    rw [decide_eq_true (by omega : 100 < (slL c.Sites).length)]
    (first | (refine And.intro (by simp) ?_; (repeat (first | assumption | with_reducible exact Keeps.refl _ _ | with_reducible refine Keeps.go ?_ (Keeps.one _ _) | with_reducible refine Keeps.go ?_ (by assumption)))) | (repeat (first | assumption | with_reducible exact Keeps.refl _ _ | with_reducible refine Keeps.go ?_ (Keeps.one _ _) | with_reducible refine Keeps.go ?_ (by assumption))))
  rw [decide_eq_false (by omega : ¬ 100 < (slL c.Sites).length)]
  (repeat (first | simp -dsimp -implicitDefEqProofs (disch := omega) only [↓gp0, ↓gp1, ↓gp2, gq0, gq1, gq2, gq3, gq4, gq5, gq6, gq7, gq8, gq9, go0, go1, gl0, gl1, gl2, gl3, ↓reduceIte, Nat.reduceEqDiff, Nat.reduceAdd, Nat.reduceLeDiff, pBuild, fillA, ↓Api_Local.r, ↓Api_Item.r, ↓Api_Instr.r, ↓Api_Body.r, ↓Api_Site.r, ↓Api_Section.r, ↓Api_Code.r, ↓Api_Path.r, ↓Code_maker.r, ↓Api_Value.r] | refine Cut.go ?_))
  refine Split_lt (fun h5 => ?_) (fun h5 => ?_)
  · (repeat (first | simp -dsimp -implicitDefEqProofs (disch := omega) only [↓gp0, ↓gp1, ↓gp2, gq0, gq1, gq2, gq3, gq4, gq5, gq6, gq7, gq8, gq9, go0, go1, gl0, gl1, gl2, gl3, ↓reduceIte, Nat.reduceEqDiff, Nat.reduceAdd, Nat.reduceLeDiff, pBuild, fillA, ↓Api_Local.r, ↓Api_Item.r, ↓Api_Instr.r, ↓Api_Body.r, ↓Api_Site.r, ↓Api_Section.r, ↓Api_Code.r, ↓Api_Path.r, ↓Code_maker.r, ↓Api_Value.r] | refine Cut.go ?_))
    rw [decide_eq_true (by omega : 100 < (slL c.Sections).length)]
    (first | (refine And.intro (by simp) ?_; (repeat (first | assumption | with_reducible exact Keeps.refl _ _ | with_reducible refine Keeps.go ?_ (Keeps.one _ _) | with_reducible refine Keeps.go ?_ (by assumption)))) | (repeat (first | assumption | with_reducible exact Keeps.refl _ _ | with_reducible refine Keeps.go ?_ (Keeps.one _ _) | with_reducible refine Keeps.go ?_ (by assumption))))
  rw [decide_eq_false (by omega : ¬ 100 < (slL c.Sections).length)]
  (repeat (first | simp -dsimp -implicitDefEqProofs (disch := omega) only [↓gp0, ↓gp1, ↓gp2, gq0, gq1, gq2, gq3, gq4, gq5, gq6, gq7, gq8, gq9, go0, go1, gl0, gl1, gl2, gl3, ↓reduceIte, Nat.reduceEqDiff, Nat.reduceAdd, Nat.reduceLeDiff, pBuild, fillA, ↓Api_Local.r, ↓Api_Item.r, ↓Api_Instr.r, ↓Api_Body.r, ↓Api_Site.r, ↓Api_Section.r, ↓Api_Code.r, ↓Api_Path.r, ↓Code_maker.r, ↓Api_Value.r] | refine Cut.go ?_))
  refine WP_loop mixed_ (by kernel_rfl) (fun n fr hh => ∃ k : Nat, k ≤ (slL c.Records).length ∧ n = (slL c.Records).length - k ∧ upTo (fun _ r => !decide (100 < (slL r).length)) (slL c.Records) k ∧ hh = h ∧ fr = frOf [(1, .iptr c.cells), (38, slAV 1 (fun o => [slAV 3 Api_Local.cells o]) c.Records), (39, .int .i64 (slL c.Records).length), (40, .int .i64 k)]) (slL c.Records).length ⟨0, by omega, by omega, upTo_zero _ _, rfl, rfl⟩ ?_
  rintro n fr hh ⟨k, hk, rfl, hup, rfl, rfl⟩
  apply padlockref09_Great_loop4
  generalize hI : (fun (n : Nat) (fr : Fr) (hh : AHeap) => _) = I
  (repeat (first | simp -dsimp -implicitDefEqProofs (disch := omega) only [↓gp0, ↓gp1, ↓gp2, gq0, gq1, gq2, gq3, gq4, gq5, gq6, gq7, gq8, gq9, go0, go1, gl0, gl1, gl2, gl3, ↓reduceIte, Nat.reduceEqDiff, Nat.reduceAdd, Nat.reduceLeDiff, pBuild, fillA, ↓Api_Local.r, ↓Api_Item.r, ↓Api_Instr.r, ↓Api_Body.r, ↓Api_Site.r, ↓Api_Section.r, ↓Api_Code.r, ↓Api_Path.r, ↓Code_maker.r, ↓Api_Value.r] | refine Cut.go ?_))
  refine Split_lt (fun hkl => ?_) (fun hkl => ?_)
  · obtain ⟨r, hx⟩ : ∃ r, (slL c.Records)[k]? = some r := ⟨_, List.getElem?_eq_getElem (by omega)⟩
    (repeat (first | simp -dsimp -implicitDefEqProofs (disch := omega) only [↓gp0, ↓gp1, ↓gp2, gq0, gq1, gq2, gq3, gq4, gq5, gq6, gq7, gq8, gq9, go0, go1, gl0, gl1, gl2, gl3, ↓reduceIte, Nat.reduceEqDiff, Nat.reduceAdd, Nat.reduceLeDiff, pBuild, fillA, ↓Api_Local.r, ↓Api_Item.r, ↓Api_Instr.r, ↓Api_Body.r, ↓Api_Site.r, ↓Api_Section.r, ↓Api_Code.r, ↓Api_Path.r, ↓Code_maker.r, ↓Api_Value.r, pIndexAddr_slAV hx] | refine Cut.go ?_))
    refine Split_lt (fun h6 => ?_) (fun h6 => ?_)
    · (repeat (first | simp -dsimp -implicitDefEqProofs (disch := omega) only [↓gp0, ↓gp1, ↓gp2, gq0, gq1, gq2, gq3, gq4, gq5, gq6, gq7, gq8, gq9, go0, go1, gl0, gl1, gl2, gl3, ↓reduceIte, Nat.reduceEqDiff, Nat.reduceAdd, Nat.reduceLeDiff, pBuild, fillA, ↓Api_Local.r, ↓Api_Item.r, ↓Api_Instr.r, ↓Api_Body.r, ↓Api_Site.r, ↓Api_Section.r, ↓Api_Code.r, ↓Api_Path.r, ↓Code_maker.r, ↓Api_Value.r] | refine Cut.go ?_))
      have : (slL c.Records).any (fun r => decide (100 < (slL r).length)) = true := any_yes hx (by simp; omega)
      rw [this]
      (first | (refine And.intro (by simp) ?_; (repeat (first | assumption | with_reducible exact Keeps.refl _ _ | with_reducible refine Keeps.go ?_ (Keeps.one _ _) | with_reducible refine Keeps.go ?_ (by assumption)))) | (repeat (first | assumption | with_reducible exact Keeps.refl _ _ | with_reducible refine Keeps.go ?_ (Keeps.one _ _) | with_reducible refine Keeps.go ?_ (by assumption))))
    · (repeat (first | simp -dsimp -implicitDefEqProofs (disch := omega) only [↓gp0, ↓gp1, ↓gp2, gq0, gq1, gq2, gq3, gq4, gq5, gq6, gq7, gq8, gq9, go0, go1, gl0, gl1, gl2, gl3, ↓reduceIte, Nat.reduceEqDiff, Nat.reduceAdd, Nat.reduceLeDiff, pBuild, fillA, ↓Api_Local.r, ↓Api_Item.r, ↓Api_Instr.r, ↓Api_Body.r, ↓Api_Site.r, ↓Api_Section.r, ↓Api_Code.r, ↓Api_Path.r, ↓Code_maker.r, ↓Api_Value.r, wkS k (by omega)] | refine Cut.go ?_))
      rw [loopPost_normal, ← hI]
      exact ⟨_, by omega, k + 1, by omega, rfl, upTo_succ hup hx (by simp; omega), rfl, rfl⟩
  have hke : k = (slL c.Records).length := by omega
  subst hke
  rw [any_no hup]
  clear hup hI hk hkl
  (repeat (first | simp -dsimp -implicitDefEqProofs (disch := omega) only [↓gp0, ↓gp1, ↓gp2, gq0, gq1, gq2, gq3, gq4, gq5, gq6, gq7, gq8, gq9, go0, go1, gl0, gl1, gl2, gl3, ↓reduceIte, Nat.reduceEqDiff, Nat.reduceAdd, Nat.reduceLeDiff, pBuild, fillA, ↓Api_Local.r, ↓Api_Item.r, ↓Api_Instr.r, ↓Api_Body.r, ↓Api_Site.r, ↓Api_Section.r, ↓Api_Code.r, ↓Api_Path.r, ↓Code_maker.r, ↓Api_Value.r] | refine Cut.go ?_))
  refine WP_loop mixed_ (by kernel_rfl) (fun n fr h9 => ∃ k : Nat, k ≤ (slL c.Threads).length ∧ n = (slL c.Threads).length - k ∧ upTo (fun _ b => !greatT b) (slL c.Threads) k ∧ Keeps hh h9 (fun _ => False) ∧ fr = frOf [(49, slAV 3 Api_Body.cells c.Threads), (50, .int .i64 (slL c.Threads).length), (51, .int .i64 k)]) (slL c.Threads).length ⟨0, by omega, by omega, upTo_zero _ _, .refl _ _, rfl⟩ ?_
  rintro n fr h9 ⟨k, hk, rfl, hup, kp, rfl⟩
  apply padlockref09_Great_loop10
  generalize hI : (fun (n : Nat) (fr : Fr) (hh : AHeap) => _) = I
  (repeat (first | simp -dsimp -implicitDefEqProofs (disch := omega) only [↓gp0, ↓gp1, ↓gp2, gq0, gq1, gq2, gq3, gq4, gq5, gq6, gq7, gq8, gq9, go0, go1, gl0, gl1, gl2, gl3, ↓reduceIte, Nat.reduceEqDiff, Nat.reduceAdd, Nat.reduceLeDiff, pBuild, fillA, ↓Api_Local.r, ↓Api_Item.r, ↓Api_Instr.r, ↓Api_Body.r, ↓Api_Site.r, ↓Api_Section.r, ↓Api_Code.r, ↓Api_Path.r, ↓Code_maker.r, ↓Api_Value.r] | refine Cut.go ?_))
  refine Split_lt (fun hkl => ?_) (fun hkl => ?_)
  · obtain ⟨b, hx⟩ : ∃ b, (slL c.Threads)[k]? = some b := ⟨_, List.getElem?_eq_getElem (by omega)⟩
    have kp1 := kp.go (Keeps.one h9 (.row 62 b.cells))
    (repeat (first | simp -dsimp -implicitDefEqProofs (disch := omega) only [↓gp0, ↓gp1, ↓gp2, gq0, gq1, gq2, gq3, gq4, gq5, gq6, gq7, gq8, gq9, go0, go1, gl0, gl1, gl2, gl3, ↓reduceIte, Nat.reduceEqDiff, Nat.reduceAdd, Nat.reduceLeDiff, pBuild, fillA, ↓Api_Local.r, ↓Api_Item.r, ↓Api_Instr.r, ↓Api_Body.r, ↓Api_Site.r, ↓Api_Section.r, ↓Api_Code.r, ↓Api_Path.r, ↓Code_maker.r, ↓Api_Value.r, pIndexAddr_slAV hx] | refine Cut.go ?_))
    refine Split_lt (fun h1 => ?_) (fun h1 => ?_)
    · (repeat (first | simp -dsimp -implicitDefEqProofs (disch := omega) only [↓gp0, ↓gp1, ↓gp2, gq0, gq1, gq2, gq3, gq4, gq5, gq6, gq7, gq8, gq9, go0, go1, gl0, gl1, gl2, gl3, ↓reduceIte, Nat.reduceEqDiff, Nat.reduceAdd, Nat.reduceLeDiff, pBuild, fillA, ↓Api_Local.r, ↓Api_Item.r, ↓Api_Instr.r, ↓Api_Body.r, ↓Api_Site.r, ↓Api_Section.r, ↓Api_Code.r, ↓Api_Path.r, ↓Code_maker.r, ↓Api_Value.r] | refine Cut.go ?_))
      have : (slL c.Threads).any greatT = true := any_yes hx (by simp [greatT]; omega)
      rw [this]
      exact ⟨rfl, kp1⟩
    (repeat (first | simp -dsimp -implicitDefEqProofs (disch := omega) only [↓gp0, ↓gp1, ↓gp2, gq0, gq1, gq2, gq3, gq4, gq5, gq6, gq7, gq8, gq9, go0, go1, gl0, gl1, gl2, gl3, ↓reduceIte, Nat.reduceEqDiff, Nat.reduceAdd, Nat.reduceLeDiff, pBuild, fillA, ↓Api_Local.r, ↓Api_Item.r, ↓Api_Instr.r, ↓Api_Body.r, ↓Api_Site.r, ↓Api_Section.r, ↓Api_Code.r, ↓Api_Path.r, ↓Code_maker.r, ↓Api_Value.r] | refine Cut.go ?_))
    refine Split_lt (fun h2 => ?_) (fun h2 => ?_)
    · (repeat (first | simp -dsimp -implicitDefEqProofs (disch := omega) only [↓gp0, ↓gp1, ↓gp2, gq0, gq1, gq2, gq3, gq4, gq5, gq6, gq7, gq8, gq9, go0, go1, gl0, gl1, gl2, gl3, ↓reduceIte, Nat.reduceEqDiff, Nat.reduceAdd, Nat.reduceLeDiff, pBuild, fillA, ↓Api_Local.r, ↓Api_Item.r, ↓Api_Instr.r, ↓Api_Body.r, ↓Api_Site.r, ↓Api_Section.r, ↓Api_Code.r, ↓Api_Path.r, ↓Code_maker.r, ↓Api_Value.r] | refine Cut.go ?_))
      have : (slL c.Threads).any greatT = true := any_yes hx (by simp [greatT]; omega)
      rw [this]
      exact ⟨rfl, kp1⟩
    (repeat (first | simp -dsimp -implicitDefEqProofs (disch := omega) only [↓gp0, ↓gp1, ↓gp2, gq0, gq1, gq2, gq3, gq4, gq5, gq6, gq7, gq8, gq9, go0, go1, gl0, gl1, gl2, gl3, ↓reduceIte, Nat.reduceEqDiff, Nat.reduceAdd, Nat.reduceLeDiff, pBuild, fillA, ↓Api_Local.r, ↓Api_Item.r, ↓Api_Instr.r, ↓Api_Body.r, ↓Api_Site.r, ↓Api_Section.r, ↓Api_Code.r, ↓Api_Path.r, ↓Code_maker.r, ↓Api_Value.r] | refine Cut.go ?_))
    refine great_inner b (by omega) _ _ _ _ _ (fun h3 hg k3 => ?_) (fun h3 hg k3 => ?_)
    · (repeat (first | simp -dsimp -implicitDefEqProofs (disch := omega) only [↓gp0, ↓gp1, ↓gp2, gq0, gq1, gq2, gq3, gq4, gq5, gq6, gq7, gq8, gq9, go0, go1, gl0, gl1, gl2, gl3, ↓reduceIte, Nat.reduceEqDiff, Nat.reduceAdd, Nat.reduceLeDiff, pBuild, fillA, ↓Api_Local.r, ↓Api_Item.r, ↓Api_Instr.r, ↓Api_Body.r, ↓Api_Site.r, ↓Api_Section.r, ↓Api_Code.r, ↓Api_Path.r, ↓Code_maker.r, ↓Api_Value.r] | refine Cut.go ?_))
      have : (slL c.Threads).any greatT = true := any_yes hx (by unfold greatT; rw [hg]; simp)
      rw [this]
      exact ⟨rfl, kp1.go k3⟩
    · (repeat (first | simp -dsimp -implicitDefEqProofs (disch := omega) only [↓gp0, ↓gp1, ↓gp2, gq0, gq1, gq2, gq3, gq4, gq5, gq6, gq7, gq8, gq9, go0, go1, gl0, gl1, gl2, gl3, ↓reduceIte, Nat.reduceEqDiff, Nat.reduceAdd, Nat.reduceLeDiff, pBuild, fillA, ↓Api_Local.r, ↓Api_Item.r, ↓Api_Instr.r, ↓Api_Body.r, ↓Api_Site.r, ↓Api_Section.r, ↓Api_Code.r, ↓Api_Path.r, ↓Code_maker.r, ↓Api_Value.r, wkS k (by omega)] | refine Cut.go ?_))
      rw [loopPost_normal, ← hI]
      exact ⟨_, by omega, k + 1, by omega, rfl, upTo_succ hup hx (by unfold greatT; rw [hg]; simp; omega), kp1.go k3, rfl⟩
  · have hke : k = (slL c.Threads).length := by omega
    subst hke
    (repeat (first | simp -dsimp -implicitDefEqProofs (disch := omega) only [↓gp0, ↓gp1, ↓gp2, gq0, gq1, gq2, gq3, gq4, gq5, gq6, gq7, gq8, gq9, go0, go1, gl0, gl1, gl2, gl3, ↓reduceIte, Nat.reduceEqDiff, Nat.reduceAdd, Nat.reduceLeDiff, pBuild, fillA, ↓Api_Local.r, ↓Api_Item.r, ↓Api_Instr.r, ↓Api_Body.r, ↓Api_Site.r, ↓Api_Section.r, ↓Api_Code.r, ↓Api_Path.r, ↓Code_maker.r, ↓Api_Value.r] | refine Cut.go ?_))
    rw [any_no hup]
    exact ⟨rfl, kp⟩

theorem ref_Great_does (c : Cd) (hc : c.ok) (h : AHeap) : CallsA Try.prog 25 [.agg c.cells] h (fun v h2 => v = .bool (greatB c) ∧ h2 = h) := CallsA.forget (by simp [idsIn]) (ref_Great_k c hc h)

/-- What is not more than is played is small. -/
structure Small (c : Cd) : Prop where
  recs : (slL c.Records).length ≤ 20
  globs : (slL c.Globals).length ≤ 100
  threads : (slL c.Threads).length ≤ 8
  sites : (slL c.Sites).length ≤ 100
  secs : (slL c.Sections).length ≤ 100
  fields : ∀ r ∈ slL c.Records, (slL r).length ≤ 100
  slots : ∀ b ∈ slL c.Threads, (slL b.Slots).length ≤ 300
  code : ∀ b ∈ slL c.Threads, (slL b.Code).length ≤ 600
  items : ∀ b ∈ slL c.Threads, ∀ x ∈ slL b.Code, (slL x.Items).length ≤ 200
  index : ∀ b ∈ slL c.Threads, ∀ x ∈ slL b.Code, (slL x.Index).length ≤ 200
theorem small_of {c : Cd} (h : greatB c = false) : Small c := by
  simp only [greatB, Bool.or_eq_false_iff, decide_eq_false_iff_not, List.any_eq_false, greatT, greatX, Bool.or_eq_true, decide_eq_true_eq, not_or, List.any_eq_true, not_exists, not_and] at h
  obtain ⟨h1, h2, h3, h4, h5, h6, h7⟩ := h
  exact ⟨by omega, by omega, by omega, by omega, by omega, fun r hr => by have := h6 r hr; omega, fun b hb => by have := (h7 b hb).1.1; omega, fun b hb => by have := (h7 b hb).1.2; omega, fun b hb x hx => by have := ((h7 b hb).2 x hx).1; omega, fun b hb x hx => by have := ((h7 b hb).2 x hx).2; omega⟩

end Go.Proofs.Ytppldbldpphlmaa
