/- The document's Good: its outer loops. -/
import Derived.Test.YtppldbldpphlmaaCdRefG
set_option linter.unusedVariables false
set_option linter.unusedSimpArgs false
set_option maxRecDepth 100000
set_option maxHeartbeats 1000000
namespace Go.Proofs.Ytppldbldpphlmaa
open Go.Abs

def cellP (c : Cd) (o : Option (List Lo)) : Bool := (slL o).all (fun x => !x.Once && localB c x)
def rowP (c : Cd) (i : Nat) (o : Option (List Lo)) : Bool := !(decide (0 < i) && decide (6 < (slL o).length)) && cellP c o

theorem g_rows (c : Cd) (ls : List (Option (List Lo))) (hl : ls.length ≤ 1000) (hr : ∀ o ∈ ls, (slL o).length ≤ 1000) (h0 : AHeap) (id : Nat) (hid : id < h0.next) (ho : h0.objs id = some (.row 47 (ls.map fun o => slAV 3 Api_Local.cells o))) (Q : AExit → Fr → AHeap → Prop)
    (hret : ∀ h2, allK (rowP c) ls = false → Keeps h0 h2 (fun _ => False) → Q .ret (frOf [(2, .bool false)]) h2)
    (hex : ∀ h2, allK (rowP c) ls = true → Keeps h0 h2 (fun _ => False) → Q (.exit 0) (frOf [(1, .iptr c.cells)]) h2) :
    WP Try.prog 324 (.loop c_padlockref09_GoodR_5) (frOf [(1, .iptr c.cells), (57, .sl id 0 ls.length 1), (58, .int .i64 ls.length), (59, .int .i64 0)]) h0 Q := by
  obtain ⟨I, hI⟩ : ∃ I : Nat → Fr → AHeap → Prop, I = (fun n fr hh => ∃ k : Nat, k ≤ ls.length ∧ n = ls.length - k ∧ upTo (rowP c) ls k ∧ Keeps h0 hh (fun _ => False) ∧ fr = frOf [(1, .iptr c.cells), (57, .sl id 0 ls.length 1), (58, .int .i64 ls.length), (59, .int .i64 k)]) := ⟨_, rfl⟩
  refine WP_loop mixed_ (by kernel_rfl) I ls.length (by rw [hI]; exact ⟨0, by omega, by omega, upTo_zero _ _, .refl _ _, rfl⟩) ?_
  intro n fr hh H
  rw [hI] at H
  obtain ⟨k, hk, rfl, hup, kp, rfl⟩ := H
  apply padlockref09_GoodR_loop5
  (repeat (first | simp -dsimp -implicitDefEqProofs (disch := omega) only [↓gp0, ↓gp1, ↓gp2, gq0, gq1, gq2, gq3, gq4, gq5, gq6, gq7, gq8, gq9, go0, go1, gl0, gl1, gl2, gl3, ↓reduceIte, Nat.reduceEqDiff, Nat.reduceAdd, Nat.reduceLeDiff, pBuild, fillA, ↓Api_Local.r, ↓Api_Item.r, ↓Api_Instr.r, ↓Api_Body.r, ↓Api_Site.r, ↓Api_Section.r, ↓Api_Code.r, ↓Api_Path.r, ↓Code_maker.r, ↓Api_Value.r] | refine Cut.go ?_))
  refine Split_lt (fun hkl => ?_) (fun hkl => ?_)
  · obtain ⟨o, hx⟩ : ∃ o, ls[k]? = some o := ⟨_, List.getElem?_eq_getElem (by omega)⟩
    have hol := hr o (List.mem_of_getElem? hx)
    have ix : ∀ K : AV → Prop, pIndexAddr (.slice 1) (.sl id 0 ls.length 1) (.int .i64 (k : Int)) K = K (.ptr id k) := fun K => by
      simp [pIndexAddr]; omega
    have ho2 : hh.objs id = some (.row 47 (ls.map fun o => slAV 3 Api_Local.cells o)) := by rw [kp.objs id hid (by simp)]; exact ho
    have ld : ∀ K : AV → Prop, pLoad none (.ptr id k) hh K = K (slAV 3 Api_Local.cells o) := fun K => by
      rw [pLoad_ptr ho2, pCells_none_some (v := slAV 3 Api_Local.cells o) (by rw [List.getElem?_map, hx]; rfl)]
    have bad : rowP c k o = false → allK (rowP c) ls = false := fun hp => allK_false hx hp
    have inner : rowP c k o = cellP c o → WP Try.prog 324 (.loop c_padlockref09_GoodR_10) (frOf [(1, .iptr c.cells), (57, .sl id 0 ls.length 1), (58, .int .i64 ls.length), (59, .int .i64 k), (71, slAV 3 Api_Local.cells o), (72, .int .i64 (slL o).length), (73, .int .i64 0)]) hh (fun e fr h2 => match e with | .ret => cellP c o = false ∧ Keeps hh h2 (fun _ => False) ∧ fr = frOf [(2, .bool false)] | .exit i => i = 2 ∧ cellP c o = true ∧ Keeps hh h2 (fun _ => False) ∧ fr = frOf [(1, .iptr c.cells), (57, .sl id 0 ls.length 1), (58, .int .i64 ls.length), (59, .int .i64 k)] | .normal => False) := fun _ =>
      g_cells c o (by omega) _ _ _ hh _ (fun h2 h k => ⟨h, k, rfl⟩) (fun h2 h k => ⟨rfl, h, k, rfl⟩)
    (repeat (first | simp -dsimp -implicitDefEqProofs (disch := omega) only [↓gp0, ↓gp1, ↓gp2, gq0, gq1, gq2, gq3, gq4, gq5, gq6, gq7, gq8, gq9, go0, go1, gl0, gl1, gl2, gl3, ↓reduceIte, Nat.reduceEqDiff, Nat.reduceAdd, Nat.reduceLeDiff, pBuild, fillA, ↓Api_Local.r, ↓Api_Item.r, ↓Api_Instr.r, ↓Api_Body.r, ↓Api_Site.r, ↓Api_Section.r, ↓Api_Code.r, ↓Api_Path.r, ↓Code_maker.r, ↓Api_Value.r, ↓ix, ↓ld] | refine Cut.go ?_))
    refine Split_lt (fun h0k => ?_) (fun h0k => ?_)
    · (repeat (first | simp -dsimp -implicitDefEqProofs (disch := omega) only [↓gp0, ↓gp1, ↓gp2, gq0, gq1, gq2, gq3, gq4, gq5, gq6, gq7, gq8, gq9, go0, go1, gl0, gl1, gl2, gl3, ↓reduceIte, Nat.reduceEqDiff, Nat.reduceAdd, Nat.reduceLeDiff, pBuild, fillA, ↓Api_Local.r, ↓Api_Item.r, ↓Api_Instr.r, ↓Api_Body.r, ↓Api_Site.r, ↓Api_Section.r, ↓Api_Code.r, ↓Api_Path.r, ↓Code_maker.r, ↓Api_Value.r, ↓ix, ↓ld] | refine Cut.go ?_))
      refine Split_lt (fun h6 => ?_) (fun h6 => ?_)
      · (repeat (first | simp -dsimp -implicitDefEqProofs (disch := omega) only [↓gp0, ↓gp1, ↓gp2, gq0, gq1, gq2, gq3, gq4, gq5, gq6, gq7, gq8, gq9, go0, go1, gl0, gl1, gl2, gl3, ↓reduceIte, Nat.reduceEqDiff, Nat.reduceAdd, Nat.reduceLeDiff, pBuild, fillA, ↓Api_Local.r, ↓Api_Item.r, ↓Api_Instr.r, ↓Api_Body.r, ↓Api_Site.r, ↓Api_Section.r, ↓Api_Code.r, ↓Api_Path.r, ↓Code_maker.r, ↓Api_Value.r] | refine Cut.go ?_))
        have e1 : decide (0 < k) = true := decide_eq_true (by omega)
        have e2 : decide (6 < (slL o).length) = true := decide_eq_true (by omega)
        exact hret hh (bad (by unfold rowP; rw [e1, e2]; rfl)) kp
      · have e2 : decide (6 < (slL o).length) = false := decide_eq_false (by omega)
        have e : rowP c k o = cellP c o := by unfold rowP; rw [e2, Bool.and_false]; rfl
        (repeat (first | simp -dsimp -implicitDefEqProofs (disch := omega) only [↓gp0, ↓gp1, ↓gp2, gq0, gq1, gq2, gq3, gq4, gq5, gq6, gq7, gq8, gq9, go0, go1, gl0, gl1, gl2, gl3, ↓reduceIte, Nat.reduceEqDiff, Nat.reduceAdd, Nat.reduceLeDiff, pBuild, fillA, ↓Api_Local.r, ↓Api_Item.r, ↓Api_Instr.r, ↓Api_Body.r, ↓Api_Site.r, ↓Api_Section.r, ↓Api_Code.r, ↓Api_Path.r, ↓Code_maker.r, ↓Api_Value.r] | refine Cut.go ?_))
        refine (inner e).mono ?_
        rintro (_ | i | _) fr h2 hq
        · exact hq.elim
        · obtain ⟨rfl, q1, q2, rfl⟩ := hq
          (repeat (first | simp -dsimp -implicitDefEqProofs (disch := omega) only [↓gp0, ↓gp1, ↓gp2, gq0, gq1, gq2, gq3, gq4, gq5, gq6, gq7, gq8, gq9, go0, go1, gl0, gl1, gl2, gl3, ↓reduceIte, Nat.reduceEqDiff, Nat.reduceAdd, Nat.reduceLeDiff, pBuild, fillA, ↓Api_Local.r, ↓Api_Item.r, ↓Api_Instr.r, ↓Api_Body.r, ↓Api_Site.r, ↓Api_Section.r, ↓Api_Code.r, ↓Api_Path.r, ↓Code_maker.r, ↓Api_Value.r, wkS k (by omega)] | refine Cut.go ?_))
          rw [loopPost_normal, hI]
          exact ⟨_, by omega, k + 1, by omega, rfl, upTo_succ hup hx (by rw [e]; exact q1), kp.go q2, rfl⟩
        · obtain ⟨q1, q2, rfl⟩ := hq
          (repeat (first | simp -dsimp -implicitDefEqProofs (disch := omega) only [↓gp0, ↓gp1, ↓gp2, gq0, gq1, gq2, gq3, gq4, gq5, gq6, gq7, gq8, gq9, go0, go1, gl0, gl1, gl2, gl3, ↓reduceIte, Nat.reduceEqDiff, Nat.reduceAdd, Nat.reduceLeDiff, pBuild, fillA, ↓Api_Local.r, ↓Api_Item.r, ↓Api_Instr.r, ↓Api_Body.r, ↓Api_Site.r, ↓Api_Section.r, ↓Api_Code.r, ↓Api_Path.r, ↓Code_maker.r, ↓Api_Value.r] | refine Cut.go ?_))
          exact hret h2 (bad (by rw [e]; exact q1)) (kp.go q2)
    · have e1 : decide (0 < k) = false := decide_eq_false (by omega)
      have e : rowP c k o = cellP c o := by unfold rowP; rw [e1, Bool.false_and]; rfl
      (repeat (first | simp -dsimp -implicitDefEqProofs (disch := omega) only [↓gp0, ↓gp1, ↓gp2, gq0, gq1, gq2, gq3, gq4, gq5, gq6, gq7, gq8, gq9, go0, go1, gl0, gl1, gl2, gl3, ↓reduceIte, Nat.reduceEqDiff, Nat.reduceAdd, Nat.reduceLeDiff, pBuild, fillA, ↓Api_Local.r, ↓Api_Item.r, ↓Api_Instr.r, ↓Api_Body.r, ↓Api_Site.r, ↓Api_Section.r, ↓Api_Code.r, ↓Api_Path.r, ↓Code_maker.r, ↓Api_Value.r] | refine Cut.go ?_))
      refine (inner e).mono ?_
      rintro (_ | i | _) fr h2 hq
      · exact hq.elim
      · obtain ⟨rfl, q1, q2, rfl⟩ := hq
        (repeat (first | simp -dsimp -implicitDefEqProofs (disch := omega) only [↓gp0, ↓gp1, ↓gp2, gq0, gq1, gq2, gq3, gq4, gq5, gq6, gq7, gq8, gq9, go0, go1, gl0, gl1, gl2, gl3, ↓reduceIte, Nat.reduceEqDiff, Nat.reduceAdd, Nat.reduceLeDiff, pBuild, fillA, ↓Api_Local.r, ↓Api_Item.r, ↓Api_Instr.r, ↓Api_Body.r, ↓Api_Site.r, ↓Api_Section.r, ↓Api_Code.r, ↓Api_Path.r, ↓Code_maker.r, ↓Api_Value.r, wkS k (by omega)] | refine Cut.go ?_))
        rw [loopPost_normal, hI]
        exact ⟨_, by omega, k + 1, by omega, rfl, upTo_succ hup hx (by rw [e]; exact q1), kp.go q2, rfl⟩
      · obtain ⟨q1, q2, rfl⟩ := hq
        (repeat (first | simp -dsimp -implicitDefEqProofs (disch := omega) only [↓gp0, ↓gp1, ↓gp2, gq0, gq1, gq2, gq3, gq4, gq5, gq6, gq7, gq8, gq9, go0, go1, gl0, gl1, gl2, gl3, ↓reduceIte, Nat.reduceEqDiff, Nat.reduceAdd, Nat.reduceLeDiff, pBuild, fillA, ↓Api_Local.r, ↓Api_Item.r, ↓Api_Instr.r, ↓Api_Body.r, ↓Api_Site.r, ↓Api_Section.r, ↓Api_Code.r, ↓Api_Path.r, ↓Code_maker.r, ↓Api_Value.r] | refine Cut.go ?_))
        exact hret h2 (bad (by rw [e]; exact q1)) (kp.go q2)
  · have hke : k = ls.length := by omega
    subst hke
    (repeat (first | simp -dsimp -implicitDefEqProofs (disch := omega) only [↓gp0, ↓gp1, ↓gp2, gq0, gq1, gq2, gq3, gq4, gq5, gq6, gq7, gq8, gq9, go0, go1, gl0, gl1, gl2, gl3, ↓reduceIte, Nat.reduceEqDiff, Nat.reduceAdd, Nat.reduceLeDiff, pBuild, fillA, ↓Api_Local.r, ↓Api_Item.r, ↓Api_Instr.r, ↓Api_Body.r, ↓Api_Site.r, ↓Api_Section.r, ↓Api_Code.r, ↓Api_Path.r, ↓Code_maker.r, ↓Api_Value.r] | refine Cut.go ?_))
    exact hex hh (upTo_all hup) kp

theorem g_bodies (c : Cd) (sm : Small c) (h0 : AHeap) (Q : AExit → Fr → AHeap → Prop)
    (hret : ∀ h2, (slL c.Threads).all (bodyB c) = false → Keeps h0 h2 (fun _ => False) → Q .ret (frOf [(2, .bool false)]) h2)
    (hex : ∀ h2, (slL c.Threads).all (bodyB c) = true → Keeps h0 h2 (fun _ => False) → Q (.exit 4) (frOf [(1, .iptr c.cells)]) h2) :
    WP Try.prog 324 (.loop c_padlockref09_GoodR_17) (frOf [(1, .iptr c.cells), (88, slAV 3 Api_Body.cells c.Threads), (89, .int .i64 (slL c.Threads).length), (90, .int .i64 0)]) h0 Q := by
  have hth := sm.threads
  obtain ⟨I, hI⟩ : ∃ I : Nat → Fr → AHeap → Prop, I = (fun n fr hh => ∃ k : Nat, k ≤ (slL c.Threads).length ∧ n = (slL c.Threads).length - k ∧ upTo (fun _ b => bodyB c b) (slL c.Threads) k ∧ Keeps h0 hh (fun _ => False) ∧ fr = frOf [(1, .iptr c.cells), (88, slAV 3 Api_Body.cells c.Threads), (89, .int .i64 (slL c.Threads).length), (90, .int .i64 k)]) := ⟨_, rfl⟩
  refine WP_loop mixed_ (by kernel_rfl) I (slL c.Threads).length (by rw [hI]; exact ⟨0, by omega, by omega, upTo_zero _ _, .refl _ _, rfl⟩) ?_
  intro n fr hh H
  rw [hI] at H
  obtain ⟨k, hk, rfl, hup, kp, rfl⟩ := H
  apply padlockref09_GoodR_loop17
  (repeat (first | simp -dsimp -implicitDefEqProofs (disch := omega) only [↓gp0, ↓gp1, ↓gp2, gq0, gq1, gq2, gq3, gq4, gq5, gq6, gq7, gq8, gq9, go0, go1, gl0, gl1, gl2, gl3, ↓reduceIte, Nat.reduceEqDiff, Nat.reduceAdd, Nat.reduceLeDiff, pBuild, fillA, ↓Api_Local.r, ↓Api_Item.r, ↓Api_Instr.r, ↓Api_Body.r, ↓Api_Site.r, ↓Api_Section.r, ↓Api_Code.r, ↓Api_Path.r, ↓Code_maker.r, ↓Api_Value.r] | refine Cut.go ?_))
  refine Split_lt (fun hkl => ?_) (fun hkl => ?_)
  · obtain ⟨b, hx⟩ : ∃ b, (slL c.Threads)[k]? = some b := ⟨_, List.getElem?_eq_getElem (by omega)⟩
    have kp1 := kp.go (Keeps.one hh (.row 62 b.cells))
    have hsl := sm.slots b (List.mem_of_getElem? hx)
    have no : bodyB c b = false → Q .ret (frOf [(2, .bool false)]) (hh.push (.row 62 b.cells)) := fun hp => hret _ (all_no hx hp) kp1
    (repeat (first | simp -dsimp -implicitDefEqProofs (disch := omega) only [↓gp0, ↓gp1, ↓gp2, gq0, gq1, gq2, gq3, gq4, gq5, gq6, gq7, gq8, gq9, go0, go1, gl0, gl1, gl2, gl3, ↓reduceIte, Nat.reduceEqDiff, Nat.reduceAdd, Nat.reduceLeDiff, pBuild, fillA, ↓Api_Local.r, ↓Api_Item.r, ↓Api_Instr.r, ↓Api_Body.r, ↓Api_Site.r, ↓Api_Section.r, ↓Api_Code.r, ↓Api_Path.r, ↓Code_maker.r, ↓Api_Value.r, pIndexAddr_slAV hx] | refine Cut.go ?_))
    refine Split_lt (fun h1 => ?_) (fun h1 => ?_)
    · (repeat (first | simp -dsimp -implicitDefEqProofs (disch := omega) only [↓gp0, ↓gp1, ↓gp2, gq0, gq1, gq2, gq3, gq4, gq5, gq6, gq7, gq8, gq9, go0, go1, gl0, gl1, gl2, gl3, ↓reduceIte, Nat.reduceEqDiff, Nat.reduceAdd, Nat.reduceLeDiff, pBuild, fillA, ↓Api_Local.r, ↓Api_Item.r, ↓Api_Instr.r, ↓Api_Body.r, ↓Api_Site.r, ↓Api_Section.r, ↓Api_Code.r, ↓Api_Path.r, ↓Code_maker.r, ↓Api_Value.r] | refine Cut.go ?_))
      exact no (by simp [bodyB]; intros; omega)
    (repeat (first | simp -dsimp -implicitDefEqProofs (disch := omega) only [↓gp0, ↓gp1, ↓gp2, gq0, gq1, gq2, gq3, gq4, gq5, gq6, gq7, gq8, gq9, go0, go1, gl0, gl1, gl2, gl3, ↓reduceIte, Nat.reduceEqDiff, Nat.reduceAdd, Nat.reduceLeDiff, pBuild, fillA, ↓Api_Local.r, ↓Api_Item.r, ↓Api_Instr.r, ↓Api_Body.r, ↓Api_Site.r, ↓Api_Section.r, ↓Api_Code.r, ↓Api_Path.r, ↓Code_maker.r, ↓Api_Value.r] | refine Cut.go ?_))
    refine Split_lt (fun h2 => ?_) (fun h2 => ?_)
    · (repeat (first | simp -dsimp -implicitDefEqProofs (disch := omega) only [↓gp0, ↓gp1, ↓gp2, gq0, gq1, gq2, gq3, gq4, gq5, gq6, gq7, gq8, gq9, go0, go1, gl0, gl1, gl2, gl3, ↓reduceIte, Nat.reduceEqDiff, Nat.reduceAdd, Nat.reduceLeDiff, pBuild, fillA, ↓Api_Local.r, ↓Api_Item.r, ↓Api_Instr.r, ↓Api_Body.r, ↓Api_Site.r, ↓Api_Section.r, ↓Api_Code.r, ↓Api_Path.r, ↓Code_maker.r, ↓Api_Value.r] | refine Cut.go ?_))
      exact no (by simp [bodyB]; intros; omega)
    (repeat (first | simp -dsimp -implicitDefEqProofs (disch := omega) only [↓gp0, ↓gp1, ↓gp2, gq0, gq1, gq2, gq3, gq4, gq5, gq6, gq7, gq8, gq9, go0, go1, gl0, gl1, gl2, gl3, ↓reduceIte, Nat.reduceEqDiff, Nat.reduceAdd, Nat.reduceLeDiff, pBuild, fillA, ↓Api_Local.r, ↓Api_Item.r, ↓Api_Instr.r, ↓Api_Body.r, ↓Api_Site.r, ↓Api_Section.r, ↓Api_Code.r, ↓Api_Path.r, ↓Code_maker.r, ↓Api_Value.r] | refine Cut.go ?_))
    refine Split_lt (fun h3 => ?_) (fun h3 => ?_)
    · (repeat (first | simp -dsimp -implicitDefEqProofs (disch := omega) only [↓gp0, ↓gp1, ↓gp2, gq0, gq1, gq2, gq3, gq4, gq5, gq6, gq7, gq8, gq9, go0, go1, gl0, gl1, gl2, gl3, ↓reduceIte, Nat.reduceEqDiff, Nat.reduceAdd, Nat.reduceLeDiff, pBuild, fillA, ↓Api_Local.r, ↓Api_Item.r, ↓Api_Instr.r, ↓Api_Body.r, ↓Api_Site.r, ↓Api_Section.r, ↓Api_Code.r, ↓Api_Path.r, ↓Code_maker.r, ↓Api_Value.r] | refine Cut.go ?_))
      exact no (by simp [bodyB]; intros; omega)
    (repeat (first | simp -dsimp -implicitDefEqProofs (disch := omega) only [↓gp0, ↓gp1, ↓gp2, gq0, gq1, gq2, gq3, gq4, gq5, gq6, gq7, gq8, gq9, go0, go1, gl0, gl1, gl2, gl3, ↓reduceIte, Nat.reduceEqDiff, Nat.reduceAdd, Nat.reduceLeDiff, pBuild, fillA, ↓Api_Local.r, ↓Api_Item.r, ↓Api_Instr.r, ↓Api_Body.r, ↓Api_Site.r, ↓Api_Section.r, ↓Api_Code.r, ↓Api_Path.r, ↓Code_maker.r, ↓Api_Value.r] | refine Cut.go ?_))
    refine Split_lt (fun h4 => ?_) (fun h4 => ?_)
    · (repeat (first | simp -dsimp -implicitDefEqProofs (disch := omega) only [↓gp0, ↓gp1, ↓gp2, gq0, gq1, gq2, gq3, gq4, gq5, gq6, gq7, gq8, gq9, go0, go1, gl0, gl1, gl2, gl3, ↓reduceIte, Nat.reduceEqDiff, Nat.reduceAdd, Nat.reduceLeDiff, pBuild, fillA, ↓Api_Local.r, ↓Api_Item.r, ↓Api_Instr.r, ↓Api_Body.r, ↓Api_Site.r, ↓Api_Section.r, ↓Api_Code.r, ↓Api_Path.r, ↓Code_maker.r, ↓Api_Value.r] | refine Cut.go ?_))
      exact no (by simp [bodyB]; intros; omega)
    (repeat (first | simp -dsimp -implicitDefEqProofs (disch := omega) only [↓gp0, ↓gp1, ↓gp2, gq0, gq1, gq2, gq3, gq4, gq5, gq6, gq7, gq8, gq9, go0, go1, gl0, gl1, gl2, gl3, ↓reduceIte, Nat.reduceEqDiff, Nat.reduceAdd, Nat.reduceLeDiff, pBuild, fillA, ↓Api_Local.r, ↓Api_Item.r, ↓Api_Instr.r, ↓Api_Body.r, ↓Api_Site.r, ↓Api_Section.r, ↓Api_Code.r, ↓Api_Path.r, ↓Code_maker.r, ↓Api_Value.r] | refine Cut.go ?_))
    refine Split_lt (fun h5 => ?_) (fun h5 => ?_)
    · (repeat (first | simp -dsimp -implicitDefEqProofs (disch := omega) only [↓gp0, ↓gp1, ↓gp2, gq0, gq1, gq2, gq3, gq4, gq5, gq6, gq7, gq8, gq9, go0, go1, gl0, gl1, gl2, gl3, ↓reduceIte, Nat.reduceEqDiff, Nat.reduceAdd, Nat.reduceLeDiff, pBuild, fillA, ↓Api_Local.r, ↓Api_Item.r, ↓Api_Instr.r, ↓Api_Body.r, ↓Api_Site.r, ↓Api_Section.r, ↓Api_Code.r, ↓Api_Path.r, ↓Code_maker.r, ↓Api_Value.r] | refine Cut.go ?_))
      exact no (by simp [bodyB]; intros; omega)
    have e : bodyB c b = (slL b.Slots).all (localB c) := by
      unfold bodyB
      rw [decide_eq_true (by omega : (slL b.Slots).length ≤ 64), decide_eq_true (by omega : 1 ≤ (slL b.Code).length), decide_eq_true (by omega : (slL b.Code).length ≤ 256), decide_eq_true (by omega : 0 ≤ b.Most), decide_eq_true (by omega : b.Most ≤ 4096)]
      rfl
    (repeat (first | simp -dsimp -implicitDefEqProofs (disch := omega) only [↓gp0, ↓gp1, ↓gp2, gq0, gq1, gq2, gq3, gq4, gq5, gq6, gq7, gq8, gq9, go0, go1, gl0, gl1, gl2, gl3, ↓reduceIte, Nat.reduceEqDiff, Nat.reduceAdd, Nat.reduceLeDiff, pBuild, fillA, ↓Api_Local.r, ↓Api_Item.r, ↓Api_Instr.r, ↓Api_Body.r, ↓Api_Site.r, ↓Api_Section.r, ↓Api_Code.r, ↓Api_Path.r, ↓Code_maker.r, ↓Api_Value.r] | refine Cut.go ?_))
    refine g_slots c b.Slots (by omega) _ _ _ _ _ (fun h2 hg k2 => ?_) (fun h2 hg k2 => ?_)
    · (repeat (first | simp -dsimp -implicitDefEqProofs (disch := omega) only [↓gp0, ↓gp1, ↓gp2, gq0, gq1, gq2, gq3, gq4, gq5, gq6, gq7, gq8, gq9, go0, go1, gl0, gl1, gl2, gl3, ↓reduceIte, Nat.reduceEqDiff, Nat.reduceAdd, Nat.reduceLeDiff, pBuild, fillA, ↓Api_Local.r, ↓Api_Item.r, ↓Api_Instr.r, ↓Api_Body.r, ↓Api_Site.r, ↓Api_Section.r, ↓Api_Code.r, ↓Api_Path.r, ↓Code_maker.r, ↓Api_Value.r] | refine Cut.go ?_))
      exact hret _ (all_no hx (by rw [e]; exact hg)) (kp1.go k2)
    · (repeat (first | simp -dsimp -implicitDefEqProofs (disch := omega) only [↓gp0, ↓gp1, ↓gp2, gq0, gq1, gq2, gq3, gq4, gq5, gq6, gq7, gq8, gq9, go0, go1, gl0, gl1, gl2, gl3, ↓reduceIte, Nat.reduceEqDiff, Nat.reduceAdd, Nat.reduceLeDiff, pBuild, fillA, ↓Api_Local.r, ↓Api_Item.r, ↓Api_Instr.r, ↓Api_Body.r, ↓Api_Site.r, ↓Api_Section.r, ↓Api_Code.r, ↓Api_Path.r, ↓Code_maker.r, ↓Api_Value.r, wkS k (by omega)] | refine Cut.go ?_))
      rw [loopPost_normal, hI]
      exact ⟨_, by omega, k + 1, by omega, rfl, upTo_succ hup hx (by rw [e]; exact hg), kp1.go k2, rfl⟩
  · have hke : k = (slL c.Threads).length := by omega
    subst hke
    (repeat (first | simp -dsimp -implicitDefEqProofs (disch := omega) only [↓gp0, ↓gp1, ↓gp2, gq0, gq1, gq2, gq3, gq4, gq5, gq6, gq7, gq8, gq9, go0, go1, gl0, gl1, gl2, gl3, ↓reduceIte, Nat.reduceEqDiff, Nat.reduceAdd, Nat.reduceLeDiff, pBuild, fillA, ↓Api_Local.r, ↓Api_Item.r, ↓Api_Instr.r, ↓Api_Body.r, ↓Api_Site.r, ↓Api_Section.r, ↓Api_Code.r, ↓Api_Path.r, ↓Code_maker.r, ↓Api_Value.r] | refine Cut.go ?_))
    exact hex hh (all_yes hup) kp

theorem g_threads (c : Cd) (hc : c.ok) (sm : Small c) (hbd : (slL c.Threads).all (bodyB c) = true) (h0 : AHeap) (Q : AExit → Fr → AHeap → Prop)
    (hret : ∀ h2, allK (fun i b => allK (fun k x => instrR c i b x k) (slL b.Code)) (slL c.Threads) = false → Keeps h0 h2 (fun _ => False) → Q .ret (frOf [(2, .bool false)]) h2)
    (hex : ∀ h2, allK (fun i b => allK (fun k x => instrR c i b x k) (slL b.Code)) (slL c.Threads) = true → Keeps h0 h2 (fun _ => False) → Q (.exit 14) (frOf []) h2) :
    WP Try.prog 324 (.loop c_padlockref09_GoodR_53) (frOf [(1, .iptr c.cells), (304, slAV 3 Api_Body.cells c.Threads), (305, .int .i64 (slL c.Threads).length), (306, .int .i64 0)]) h0 Q := by
  have hth := sm.threads
  obtain ⟨I, hI⟩ : ∃ I : Nat → Fr → AHeap → Prop, I = (fun n fr hh => ∃ k : Nat, k ≤ (slL c.Threads).length ∧ n = (slL c.Threads).length - k ∧ upTo (fun i b => allK (fun k x => instrR c i b x k) (slL b.Code)) (slL c.Threads) k ∧ Keeps h0 hh (fun _ => False) ∧ fr = frOf [(1, .iptr c.cells), (304, slAV 3 Api_Body.cells c.Threads), (305, .int .i64 (slL c.Threads).length), (306, .int .i64 k)]) := ⟨_, rfl⟩
  refine WP_loop mixed_ (by kernel_rfl) I (slL c.Threads).length (by rw [hI]; exact ⟨0, by omega, by omega, upTo_zero _ _, .refl _ _, rfl⟩) ?_
  intro n fr hh H
  rw [hI] at H
  obtain ⟨k, hk, rfl, hup, kp, rfl⟩ := H
  apply padlockref09_GoodR_loop53
  (repeat (first | simp -dsimp -implicitDefEqProofs (disch := omega) only [↓gp0, ↓gp1, ↓gp2, gq0, gq1, gq2, gq3, gq4, gq5, gq6, gq7, gq8, gq9, go0, go1, gl0, gl1, gl2, gl3, ↓reduceIte, Nat.reduceEqDiff, Nat.reduceAdd, Nat.reduceLeDiff, pBuild, fillA, ↓Api_Local.r, ↓Api_Item.r, ↓Api_Instr.r, ↓Api_Body.r, ↓Api_Site.r, ↓Api_Section.r, ↓Api_Code.r, ↓Api_Path.r, ↓Code_maker.r, ↓Api_Value.r] | refine Cut.go ?_))
  refine Split_lt (fun hkl => ?_) (fun hkl => ?_)
  · obtain ⟨b, hx⟩ : ∃ b, (slL c.Threads)[k]? = some b := ⟨_, List.getElem?_eq_getElem (by omega)⟩
    have kp1 := kp.go (Keeps.one hh (.row 62 b.cells))
    have hsl : ∀ l ∈ slL b.Slots, localB c l = true := by
      have := List.all_eq_true.1 hbd b (List.mem_of_getElem? hx)
      unfold bodyB at this
      rw [Bool.and_eq_true] at this
      exact List.all_eq_true.1 this.2
    (repeat (first | simp -dsimp -implicitDefEqProofs (disch := omega) only [↓gp0, ↓gp1, ↓gp2, gq0, gq1, gq2, gq3, gq4, gq5, gq6, gq7, gq8, gq9, go0, go1, gl0, gl1, gl2, gl3, ↓reduceIte, Nat.reduceEqDiff, Nat.reduceAdd, Nat.reduceLeDiff, pBuild, fillA, ↓Api_Local.r, ↓Api_Item.r, ↓Api_Instr.r, ↓Api_Body.r, ↓Api_Site.r, ↓Api_Section.r, ↓Api_Code.r, ↓Api_Path.r, ↓Code_maker.r, ↓Api_Value.r, pIndexAddr_slAV hx] | refine Cut.go ?_))
    refine g_instrs c hc sm k b hx hsl _ _ _ _ _ (fun hg => ?_) (fun hg => ?_)
    · (repeat (first | simp -dsimp -implicitDefEqProofs (disch := omega) only [↓gp0, ↓gp1, ↓gp2, gq0, gq1, gq2, gq3, gq4, gq5, gq6, gq7, gq8, gq9, go0, go1, gl0, gl1, gl2, gl3, ↓reduceIte, Nat.reduceEqDiff, Nat.reduceAdd, Nat.reduceLeDiff, pBuild, fillA, ↓Api_Local.r, ↓Api_Item.r, ↓Api_Instr.r, ↓Api_Body.r, ↓Api_Site.r, ↓Api_Section.r, ↓Api_Code.r, ↓Api_Path.r, ↓Code_maker.r, ↓Api_Value.r] | refine Cut.go ?_))
      exact hret _ (allK_false hx hg) kp1
    · (repeat (first | simp -dsimp -implicitDefEqProofs (disch := omega) only [↓gp0, ↓gp1, ↓gp2, gq0, gq1, gq2, gq3, gq4, gq5, gq6, gq7, gq8, gq9, go0, go1, gl0, gl1, gl2, gl3, ↓reduceIte, Nat.reduceEqDiff, Nat.reduceAdd, Nat.reduceLeDiff, pBuild, fillA, ↓Api_Local.r, ↓Api_Item.r, ↓Api_Instr.r, ↓Api_Body.r, ↓Api_Site.r, ↓Api_Section.r, ↓Api_Code.r, ↓Api_Path.r, ↓Code_maker.r, ↓Api_Value.r, wkS k (by omega)] | refine Cut.go ?_))
      rw [loopPost_normal, hI]
      exact ⟨_, by omega, k + 1, by omega, rfl, upTo_succ hup hx hg, kp1, rfl⟩
  · have hke : k = (slL c.Threads).length := by omega
    subst hke
    (repeat (first | simp -dsimp -implicitDefEqProofs (disch := omega) only [↓gp0, ↓gp1, ↓gp2, gq0, gq1, gq2, gq3, gq4, gq5, gq6, gq7, gq8, gq9, go0, go1, gl0, gl1, gl2, gl3, ↓reduceIte, Nat.reduceEqDiff, Nat.reduceAdd, Nat.reduceLeDiff, pBuild, fillA, ↓Api_Local.r, ↓Api_Item.r, ↓Api_Instr.r, ↓Api_Body.r, ↓Api_Site.r, ↓Api_Section.r, ↓Api_Code.r, ↓Api_Path.r, ↓Code_maker.r, ↓Api_Value.r] | refine Cut.go ?_))
    exact hex hh (upTo_all hup) kp

end Go.Proofs.Ytppldbldpphlmaa
