/- The document's Good: its loops within loops. -/
import Derived.Test.YtppldbldpphlmaaCdRefI
import Derived.Test.YtppldbldpphlmaaVcG
set_option linter.unusedVariables false
set_option linter.unusedSimpArgs false
set_option maxRecDepth 100000
set_option maxHeartbeats 1000000
namespace Go.Proofs.Ytppldbldpphlmaa
open Go.Abs

theorem all_no {α : Type} {p : α → Bool} {l : List α} {k : Nat} {x : α} (hx : l[k]? = some x) (hp : p x = false) : l.all p = false := List.all_eq_false.2 ⟨x, List.mem_of_getElem? hx, by simp [hp]⟩
theorem all_yes {α : Type} {p : α → Bool} {l : List α} (h : upTo (fun _ x => p x) l l.length) : l.all p = true := by
  rw [List.all_eq_true]
  intro x hx
  obtain ⟨k, hk⟩ := List.getElem?_of_mem hx
  exact h k x (List.getElem?_eq_some_iff.1 hk).1 hk

theorem g_cells (c : Cd) (o : Option (List Lo)) (hl : (slL o).length ≤ 1000000) (a57 a58 a59 : AV) (h0 : AHeap) (Q : AExit → Fr → AHeap → Prop)
    (hret : ∀ h2, (slL o).all (fun x => !x.Once && localB c x) = false → Keeps h0 h2 (fun _ => False) → Q .ret (frOf [(2, .bool false)]) h2)
    (hex : ∀ h2, (slL o).all (fun x => !x.Once && localB c x) = true → Keeps h0 h2 (fun _ => False) → Q (.exit 2) (frOf [(1, .iptr c.cells), (57, a57), (58, a58), (59, a59)]) h2) :
    WP Try.prog 324 (.loop c_padlockref09_GoodR_10) (frOf [(1, .iptr c.cells), (57, a57), (58, a58), (59, a59), (71, slAV 3 Api_Local.cells o), (72, .int .i64 (slL o).length), (73, .int .i64 0)]) h0 Q := by
  obtain ⟨I, hI⟩ : ∃ I : Nat → Fr → AHeap → Prop, I = (fun n fr hh => ∃ k : Nat, k ≤ (slL o).length ∧ n = (slL o).length - k ∧ upTo (fun _ x => !x.Once && localB c x) (slL o) k ∧ Keeps h0 hh (fun _ => False) ∧ fr = frOf [(1, .iptr c.cells), (57, a57), (58, a58), (59, a59), (71, slAV 3 Api_Local.cells o), (72, .int .i64 (slL o).length), (73, .int .i64 k)]) := ⟨_, rfl⟩
  refine WP_loop mixed_ (by kernel_rfl) I (slL o).length (by rw [hI]; exact ⟨0, by omega, by omega, upTo_zero _ _, .refl _ _, rfl⟩) ?_
  intro n fr hh H
  rw [hI] at H
  obtain ⟨k, hk, rfl, hup, kp, rfl⟩ := H
  apply padlockref09_GoodR_loop10
  (repeat (first | simp -dsimp -implicitDefEqProofs (disch := omega) only [↓gp0, ↓gp1, ↓gp2, gq0, gq1, gq2, gq3, gq4, gq5, gq6, gq7, gq8, gq9, go0, go1, gl0, gl1, gl2, gl3, ↓reduceIte, Nat.reduceEqDiff, Nat.reduceAdd, Nat.reduceLeDiff, pBuild, fillA, ↓Api_Local.r, ↓Api_Item.r, ↓Api_Instr.r, ↓Api_Body.r, ↓Api_Site.r, ↓Api_Section.r, ↓Api_Code.r, ↓Api_Path.r, ↓Code_maker.r, ↓Api_Value.r] | refine Cut.go ?_))
  refine Split_lt (fun hkl => ?_) (fun hkl => ?_)
  · obtain ⟨x, hx⟩ : ∃ x, (slL o)[k]? = some x := ⟨_, List.getElem?_eq_getElem (by omega)⟩
    have kp1 := kp.go (Keeps.one hh (.row 79 x.cells))
    have on : (!x.Once && localB c x) = true → loopPost I ((slL o).length - k) Q .normal (frOf [(1, .iptr c.cells), (57, a57), (58, a58), (59, a59), (71, slAV 3 Api_Local.cells o), (72, .int .i64 (slL o).length), (73, .int .i64 (k + 1 : Nat))]) (hh.push (.row 79 x.cells)) := fun hp => by
      rw [loopPost_normal, hI]
      exact ⟨_, by omega, k + 1, by omega, rfl, upTo_succ hup hx hp, kp1, rfl⟩
    have no : (!x.Once && localB c x) = false → Q .ret (frOf [(2, .bool false)]) (hh.push (.row 79 x.cells)) := fun hp => hret _ (all_no hx hp) kp1
    (repeat (first | simp -dsimp -implicitDefEqProofs (disch := omega) only [↓gp0, ↓gp1, ↓gp2, gq0, gq1, gq2, gq3, gq4, gq5, gq6, gq7, gq8, gq9, go0, go1, gl0, gl1, gl2, gl3, ↓reduceIte, Nat.reduceEqDiff, Nat.reduceAdd, Nat.reduceLeDiff, pBuild, fillA, ↓Api_Local.r, ↓Api_Item.r, ↓Api_Instr.r, ↓Api_Body.r, ↓Api_Site.r, ↓Api_Section.r, ↓Api_Code.r, ↓Api_Path.r, ↓Code_maker.r, ↓Api_Value.r, pIndexAddr_slAV hx] | refine Cut.go ?_))
    rcases ho : x.Once with _ | _
    · (repeat (first | simp -dsimp -implicitDefEqProofs (disch := omega) only [↓gp0, ↓gp1, ↓gp2, gq0, gq1, gq2, gq3, gq4, gq5, gq6, gq7, gq8, gq9, go0, go1, gl0, gl1, gl2, gl3, ↓reduceIte, Nat.reduceEqDiff, Nat.reduceAdd, Nat.reduceLeDiff, pBuild, fillA, ↓Api_Local.r, ↓Api_Item.r, ↓Api_Instr.r, ↓Api_Body.r, ↓Api_Site.r, ↓Api_Section.r, ↓Api_Code.r, ↓Api_Path.r, ↓Code_maker.r, ↓Api_Value.r, ho] | refine Cut.go ?_))
      refine CallsA.go (ref_local_does c x _) ?_
      rcases hb : localB c x with _ | _
      · (repeat (first | simp -dsimp -implicitDefEqProofs (disch := omega) only [↓gp0, ↓gp1, ↓gp2, gq0, gq1, gq2, gq3, gq4, gq5, gq6, gq7, gq8, gq9, go0, go1, gl0, gl1, gl2, gl3, ↓reduceIte, Nat.reduceEqDiff, Nat.reduceAdd, Nat.reduceLeDiff, pBuild, fillA, ↓Api_Local.r, ↓Api_Item.r, ↓Api_Instr.r, ↓Api_Body.r, ↓Api_Site.r, ↓Api_Section.r, ↓Api_Code.r, ↓Api_Path.r, ↓Code_maker.r, ↓Api_Value.r, ho, Bool.not_false] | refine Cut.go ?_))
        exact no (by rw [ho, hb]; rfl)
      · (repeat (first | simp -dsimp -implicitDefEqProofs (disch := omega) only [↓gp0, ↓gp1, ↓gp2, gq0, gq1, gq2, gq3, gq4, gq5, gq6, gq7, gq8, gq9, go0, go1, gl0, gl1, gl2, gl3, ↓reduceIte, Nat.reduceEqDiff, Nat.reduceAdd, Nat.reduceLeDiff, pBuild, fillA, ↓Api_Local.r, ↓Api_Item.r, ↓Api_Instr.r, ↓Api_Body.r, ↓Api_Site.r, ↓Api_Section.r, ↓Api_Code.r, ↓Api_Path.r, ↓Code_maker.r, ↓Api_Value.r, ho, Bool.not_true, wkS k (by omega)] | refine Cut.go ?_))
        exact on (by rw [ho, hb]; rfl)
    · (repeat (first | simp -dsimp -implicitDefEqProofs (disch := omega) only [↓gp0, ↓gp1, ↓gp2, gq0, gq1, gq2, gq3, gq4, gq5, gq6, gq7, gq8, gq9, go0, go1, gl0, gl1, gl2, gl3, ↓reduceIte, Nat.reduceEqDiff, Nat.reduceAdd, Nat.reduceLeDiff, pBuild, fillA, ↓Api_Local.r, ↓Api_Item.r, ↓Api_Instr.r, ↓Api_Body.r, ↓Api_Site.r, ↓Api_Section.r, ↓Api_Code.r, ↓Api_Path.r, ↓Code_maker.r, ↓Api_Value.r, ho] | refine Cut.go ?_))
      exact no (by rw [ho]; rfl)
  · have hke : k = (slL o).length := by omega
    subst hke
    (repeat (first | simp -dsimp -implicitDefEqProofs (disch := omega) only [↓gp0, ↓gp1, ↓gp2, gq0, gq1, gq2, gq3, gq4, gq5, gq6, gq7, gq8, gq9, go0, go1, gl0, gl1, gl2, gl3, ↓reduceIte, Nat.reduceEqDiff, Nat.reduceAdd, Nat.reduceLeDiff, pBuild, fillA, ↓Api_Local.r, ↓Api_Item.r, ↓Api_Instr.r, ↓Api_Body.r, ↓Api_Site.r, ↓Api_Section.r, ↓Api_Code.r, ↓Api_Path.r, ↓Code_maker.r, ↓Api_Value.r] | refine Cut.go ?_))
    exact hex hh (all_yes hup) kp

theorem g_slots (c : Cd) (o : Option (List Lo)) (hl : (slL o).length ≤ 1000000) (a88 a89 a90 : AV) (h0 : AHeap) (Q : AExit → Fr → AHeap → Prop)
    (hret : ∀ h2, (slL o).all (localB c) = false → Keeps h0 h2 (fun _ => False) → Q .ret (frOf [(2, .bool false)]) h2)
    (hex : ∀ h2, (slL o).all (localB c) = true → Keeps h0 h2 (fun _ => False) → Q (.exit 6) (frOf [(1, .iptr c.cells), (88, a88), (89, a89), (90, a90)]) h2) :
    WP Try.prog 324 (.loop c_padlockref09_GoodR_22) (frOf [(1, .iptr c.cells), (88, a88), (89, a89), (90, a90), (121, slAV 3 Api_Local.cells o), (122, .int .i64 (slL o).length), (123, .int .i64 0)]) h0 Q := by
  obtain ⟨I, hI⟩ : ∃ I : Nat → Fr → AHeap → Prop, I = (fun n fr hh => ∃ k : Nat, k ≤ (slL o).length ∧ n = (slL o).length - k ∧ upTo (fun _ x => localB c x) (slL o) k ∧ Keeps h0 hh (fun _ => False) ∧ fr = frOf [(1, .iptr c.cells), (88, a88), (89, a89), (90, a90), (121, slAV 3 Api_Local.cells o), (122, .int .i64 (slL o).length), (123, .int .i64 k)]) := ⟨_, rfl⟩
  refine WP_loop mixed_ (by kernel_rfl) I (slL o).length (by rw [hI]; exact ⟨0, by omega, by omega, upTo_zero _ _, .refl _ _, rfl⟩) ?_
  intro n fr hh H
  rw [hI] at H
  obtain ⟨k, hk, rfl, hup, kp, rfl⟩ := H
  apply padlockref09_GoodR_loop22
  (repeat (first | simp -dsimp -implicitDefEqProofs (disch := omega) only [↓gp0, ↓gp1, ↓gp2, gq0, gq1, gq2, gq3, gq4, gq5, gq6, gq7, gq8, gq9, go0, go1, gl0, gl1, gl2, gl3, ↓reduceIte, Nat.reduceEqDiff, Nat.reduceAdd, Nat.reduceLeDiff, pBuild, fillA, ↓Api_Local.r, ↓Api_Item.r, ↓Api_Instr.r, ↓Api_Body.r, ↓Api_Site.r, ↓Api_Section.r, ↓Api_Code.r, ↓Api_Path.r, ↓Code_maker.r, ↓Api_Value.r] | refine Cut.go ?_))
  refine Split_lt (fun hkl => ?_) (fun hkl => ?_)
  · obtain ⟨x, hx⟩ : ∃ x, (slL o)[k]? = some x := ⟨_, List.getElem?_eq_getElem (by omega)⟩
    have kp1 := kp.go (Keeps.one hh (.row 79 x.cells))
    (repeat (first | simp -dsimp -implicitDefEqProofs (disch := omega) only [↓gp0, ↓gp1, ↓gp2, gq0, gq1, gq2, gq3, gq4, gq5, gq6, gq7, gq8, gq9, go0, go1, gl0, gl1, gl2, gl3, ↓reduceIte, Nat.reduceEqDiff, Nat.reduceAdd, Nat.reduceLeDiff, pBuild, fillA, ↓Api_Local.r, ↓Api_Item.r, ↓Api_Instr.r, ↓Api_Body.r, ↓Api_Site.r, ↓Api_Section.r, ↓Api_Code.r, ↓Api_Path.r, ↓Code_maker.r, ↓Api_Value.r, pIndexAddr_slAV hx] | refine Cut.go ?_))
    refine CallsA.go (ref_local_does c x _) ?_
    rcases hb : localB c x with _ | _
    · (repeat (first | simp -dsimp -implicitDefEqProofs (disch := omega) only [↓gp0, ↓gp1, ↓gp2, gq0, gq1, gq2, gq3, gq4, gq5, gq6, gq7, gq8, gq9, go0, go1, gl0, gl1, gl2, gl3, ↓reduceIte, Nat.reduceEqDiff, Nat.reduceAdd, Nat.reduceLeDiff, pBuild, fillA, ↓Api_Local.r, ↓Api_Item.r, ↓Api_Instr.r, ↓Api_Body.r, ↓Api_Site.r, ↓Api_Section.r, ↓Api_Code.r, ↓Api_Path.r, ↓Code_maker.r, ↓Api_Value.r, Bool.not_false] | refine Cut.go ?_))
      exact hret _ (all_no hx hb) kp1
    · (repeat (first | simp -dsimp -implicitDefEqProofs (disch := omega) only [↓gp0, ↓gp1, ↓gp2, gq0, gq1, gq2, gq3, gq4, gq5, gq6, gq7, gq8, gq9, go0, go1, gl0, gl1, gl2, gl3, ↓reduceIte, Nat.reduceEqDiff, Nat.reduceAdd, Nat.reduceLeDiff, pBuild, fillA, ↓Api_Local.r, ↓Api_Item.r, ↓Api_Instr.r, ↓Api_Body.r, ↓Api_Site.r, ↓Api_Section.r, ↓Api_Code.r, ↓Api_Path.r, ↓Code_maker.r, ↓Api_Value.r, Bool.not_true, wkS k (by omega)] | refine Cut.go ?_))
      rw [loopPost_normal, hI]
      exact ⟨_, by omega, k + 1, by omega, rfl, upTo_succ hup hx hb, kp1, rfl⟩
  · have hke : k = (slL o).length := by omega
    subst hke
    (repeat (first | simp -dsimp -implicitDefEqProofs (disch := omega) only [↓gp0, ↓gp1, ↓gp2, gq0, gq1, gq2, gq3, gq4, gq5, gq6, gq7, gq8, gq9, go0, go1, gl0, gl1, gl2, gl3, ↓reduceIte, Nat.reduceEqDiff, Nat.reduceAdd, Nat.reduceLeDiff, pBuild, fillA, ↓Api_Local.r, ↓Api_Item.r, ↓Api_Instr.r, ↓Api_Body.r, ↓Api_Site.r, ↓Api_Section.r, ↓Api_Code.r, ↓Api_Path.r, ↓Code_maker.r, ↓Api_Value.r] | refine Cut.go ?_))
    exact hex hh (all_yes hup) kp

theorem g_instrs (c : Cd) (hc : c.ok) (sm : Small c) (i : Nat) (b : Bd) (hb : (slL c.Threads)[i]? = some b) (hsl : ∀ l ∈ slL b.Slots, localB c l = true) (a304 a305 a306 : AV) (h0 : AHeap) (Q : AExit → Fr → AHeap → Prop)
    (hret : allK (fun k x => instrR c i b x k) (slL b.Code) = false → Q .ret (frOf [(2, .bool false)]) h0)
    (hex : allK (fun k x => instrR c i b x k) (slL b.Code) = true → Q (.exit 16) (frOf [(1, .iptr c.cells), (304, a304), (305, a305), (306, a306)]) h0) :
    WP Try.prog 324 (.loop c_padlockref09_GoodR_56) (frOf [(1, .iptr c.cells), (20, .int .i64 i), (304, a304), (305, a305), (306, a306), (313, .int .i64 (slL b.Code).length), (314, .int .i64 0)]) h0 Q := by
  have hcl := sm.code b (List.mem_of_getElem? hb)
  obtain ⟨I, hI⟩ : ∃ I : Nat → Fr → AHeap → Prop, I = (fun n fr hh => ∃ k : Nat, k ≤ (slL b.Code).length ∧ n = (slL b.Code).length - k ∧ upTo (fun k x => instrR c i b x k) (slL b.Code) k ∧ hh = h0 ∧ fr = frOf [(1, .iptr c.cells), (20, .int .i64 i), (304, a304), (305, a305), (306, a306), (313, .int .i64 (slL b.Code).length), (314, .int .i64 k)]) := ⟨_, rfl⟩
  refine WP_loop mixed_ (by kernel_rfl) I (slL b.Code).length (by rw [hI]; exact ⟨0, by omega, by omega, upTo_zero _ _, rfl, rfl⟩) ?_
  intro n fr hh H
  rw [hI] at H
  obtain ⟨k, hk, rfl, hup, rfl, rfl⟩ := H
  apply padlockref09_GoodR_loop56
  (repeat (first | simp -dsimp -implicitDefEqProofs (disch := omega) only [↓gp0, ↓gp1, ↓gp2, gq0, gq1, gq2, gq3, gq4, gq5, gq6, gq7, gq8, gq9, go0, go1, gl0, gl1, gl2, gl3, ↓reduceIte, Nat.reduceEqDiff, Nat.reduceAdd, Nat.reduceLeDiff, pBuild, fillA, ↓Api_Local.r, ↓Api_Item.r, ↓Api_Instr.r, ↓Api_Body.r, ↓Api_Site.r, ↓Api_Section.r, ↓Api_Code.r, ↓Api_Path.r, ↓Code_maker.r, ↓Api_Value.r] | refine Cut.go ?_))
  refine Split_lt (fun hkl => ?_) (fun hkl => ?_)
  · obtain ⟨x, hx⟩ : ∃ x, (slL b.Code)[k]? = some x := ⟨_, List.getElem?_eq_getElem (by omega)⟩
    (repeat (first | simp -dsimp -implicitDefEqProofs (disch := omega) only [↓gp0, ↓gp1, ↓gp2, gq0, gq1, gq2, gq3, gq4, gq5, gq6, gq7, gq8, gq9, go0, go1, gl0, gl1, gl2, gl3, ↓reduceIte, Nat.reduceEqDiff, Nat.reduceAdd, Nat.reduceLeDiff, pBuild, fillA, ↓Api_Local.r, ↓Api_Item.r, ↓Api_Instr.r, ↓Api_Body.r, ↓Api_Site.r, ↓Api_Section.r, ↓Api_Code.r, ↓Api_Path.r, ↓Code_maker.r, ↓Api_Value.r] | refine Cut.go ?_))
    refine CallsA.go (ref_instr_does c hc sm i k b x (by rw [getI_natCast]; exact hb) (by rw [getI_natCast]; exact hx) hsl _) ?_
    rcases hi : instrR c i b x k with _ | _
    · (repeat (first | simp -dsimp -implicitDefEqProofs (disch := omega) only [↓gp0, ↓gp1, ↓gp2, gq0, gq1, gq2, gq3, gq4, gq5, gq6, gq7, gq8, gq9, go0, go1, gl0, gl1, gl2, gl3, ↓reduceIte, Nat.reduceEqDiff, Nat.reduceAdd, Nat.reduceLeDiff, pBuild, fillA, ↓Api_Local.r, ↓Api_Item.r, ↓Api_Instr.r, ↓Api_Body.r, ↓Api_Site.r, ↓Api_Section.r, ↓Api_Code.r, ↓Api_Path.r, ↓Code_maker.r, ↓Api_Value.r, Bool.not_false] | refine Cut.go ?_))
      exact hret (allK_false hx hi)
    · (repeat (first | simp -dsimp -implicitDefEqProofs (disch := omega) only [↓gp0, ↓gp1, ↓gp2, gq0, gq1, gq2, gq3, gq4, gq5, gq6, gq7, gq8, gq9, go0, go1, gl0, gl1, gl2, gl3, ↓reduceIte, Nat.reduceEqDiff, Nat.reduceAdd, Nat.reduceLeDiff, pBuild, fillA, ↓Api_Local.r, ↓Api_Item.r, ↓Api_Instr.r, ↓Api_Body.r, ↓Api_Site.r, ↓Api_Section.r, ↓Api_Code.r, ↓Api_Path.r, ↓Code_maker.r, ↓Api_Value.r, Bool.not_true, wkS k (by omega)] | refine Cut.go ?_))
      rw [loopPost_normal, hI]
      exact ⟨_, by omega, k + 1, by omega, rfl, upTo_succ hup hx hi, rfl, rfl⟩
  · have hke : k = (slL b.Code).length := by omega
    subst hke
    (repeat (first | simp -dsimp -implicitDefEqProofs (disch := omega) only [↓gp0, ↓gp1, ↓gp2, gq0, gq1, gq2, gq3, gq4, gq5, gq6, gq7, gq8, gq9, go0, go1, gl0, gl1, gl2, gl3, ↓reduceIte, Nat.reduceEqDiff, Nat.reduceAdd, Nat.reduceLeDiff, pBuild, fillA, ↓Api_Local.r, ↓Api_Item.r, ↓Api_Instr.r, ↓Api_Body.r, ↓Api_Site.r, ↓Api_Section.r, ↓Api_Code.r, ↓Api_Path.r, ↓Code_maker.r, ↓Api_Value.r] | refine Cut.go ?_))
    exact hex (upTo_all hup)

end Go.Proofs.Ytppldbldpphlmaa
