/- What the program's functions of codes compute: sites; which codes can be; which slot gets a value. -/
import Derived.Test.YtppldbldpphlmaaCdProg6
set_option linter.unusedVariables false
set_option linter.unusedSimpArgs false
set_option maxRecDepth 100000
set_option maxHeartbeats 1000000
namespace Go.Proofs.Ytppldbldpphlmaa
open Go.Abs

theorem code_sites_does (c : Cd) (hc : c.ok) (hs : (slL c.Sites).length ≤ 1000000) (h : AHeap) : CallsA Try.prog 53 [.agg c.cells] h (fun v h2 => v = .bool (sitesB c) ∧ Keeps h h2 (fun _ => False)) := by
  apply code_sites_wp
  (repeat (first | simp -dsimp -implicitDefEqProofs (disch := omega) only [↓gp0, ↓gp1, ↓gp2, gq0, gq1, gq2, gq3, gq4, gq5, gq6, gq7, gq8, gq9, go0, go1, gl0, gl1, gl2, gl3, ↓reduceIte, Nat.reduceEqDiff, Nat.reduceAdd, Nat.reduceLeDiff, pBuild, fillA, ↓Api_Local.r, ↓Api_Item.r, ↓Api_Instr.r, ↓Api_Body.r, ↓Api_Site.r, ↓Api_Section.r, ↓Api_Code.r, ↓Api_Path.r, ↓Code_maker.r, ↓Api_Value.r] | refine Cut.go ?_))
  refine WP_loop mixed_ (by kernel_rfl) (fun n fr hh => ∃ k : Nat, k ≤ (slL c.Sites).length ∧ n = (slL c.Sites).length - k ∧ upTo (siteOk c) (slL c.Sites) k ∧ Keeps h hh (fun _ => False) ∧ fr = frOf [(1, .iptr c.cells), (7, slAV 3 Api_Site.cells c.Sites), (8, .int .i64 (slL c.Sites).length), (9, .int .i64 k)]) (slL c.Sites).length ⟨0, by omega, by omega, upTo_zero _ _, .refl _ _, rfl⟩ ?_
  rintro n fr hh ⟨k, hk, rfl, hup, kp, rfl⟩
  apply code_sites_loop2
  generalize hI : (fun (n : Nat) (fr : Fr) (hh : AHeap) => _) = I
  (repeat (first | simp -dsimp -implicitDefEqProofs (disch := omega) only [↓gp0, ↓gp1, ↓gp2, gq0, gq1, gq2, gq3, gq4, gq5, gq6, gq7, gq8, gq9, go0, go1, gl0, gl1, gl2, gl3, ↓reduceIte, Nat.reduceEqDiff, Nat.reduceAdd, Nat.reduceLeDiff, pBuild, fillA, ↓Api_Local.r, ↓Api_Item.r, ↓Api_Instr.r, ↓Api_Body.r, ↓Api_Site.r, ↓Api_Section.r, ↓Api_Code.r, ↓Api_Path.r, ↓Code_maker.r, ↓Api_Value.r] | refine Cut.go ?_))
  refine Split_lt (fun hkl => ?_) (fun hkl => ?_)
  · obtain ⟨s, hx⟩ : ∃ s, (slL c.Sites)[k]? = some s := ⟨_, List.getElem?_eq_getElem (by omega)⟩
    have kp1 : Keeps h (hh.push (.row 113 s.cells)) (fun _ => False) := kp.go (Keeps.one _ _)
    have bad : siteOk c k s = false → sitesB c = false := fun hb => by unfold sitesB; rw [allK_false hx hb, Bool.and_false]
    (repeat (first | simp -dsimp -implicitDefEqProofs (disch := omega) only [↓gp0, ↓gp1, ↓gp2, gq0, gq1, gq2, gq3, gq4, gq5, gq6, gq7, gq8, gq9, go0, go1, gl0, gl1, gl2, gl3, ↓reduceIte, Nat.reduceEqDiff, Nat.reduceAdd, Nat.reduceLeDiff, pBuild, fillA, ↓Api_Local.r, ↓Api_Item.r, ↓Api_Instr.r, ↓Api_Body.r, ↓Api_Site.r, ↓Api_Section.r, ↓Api_Code.r, ↓Api_Path.r, ↓Code_maker.r, ↓Api_Value.r, pIndexAddr_slAV hx] | refine Cut.go ?_))
    refine (code_between_does _ _ _).mono ?_
    rintro _ _ ⟨rfl, rfl⟩
    (repeat (first | simp -dsimp -implicitDefEqProofs (disch := omega) only [↓gp0, ↓gp1, ↓gp2, gq0, gq1, gq2, gq3, gq4, gq5, gq6, gq7, gq8, gq9, go0, go1, gl0, gl1, gl2, gl3, ↓reduceIte, Nat.reduceEqDiff, Nat.reduceAdd, Nat.reduceLeDiff, pBuild, fillA, ↓Api_Local.r, ↓Api_Item.r, ↓Api_Instr.r, ↓Api_Body.r, ↓Api_Site.r, ↓Api_Section.r, ↓Api_Code.r, ↓Api_Path.r, ↓Code_maker.r, ↓Api_Value.r] | refine Cut.go ?_))
    cases hb : getI (slL c.Threads) s.Thread with
    | none =>
      have hbt := getI_none.2 hb
      (repeat (first | simp -dsimp -implicitDefEqProofs (disch := omega) only [↓gp0, ↓gp1, ↓gp2, gq0, gq1, gq2, gq3, gq4, gq5, gq6, gq7, gq8, gq9, go0, go1, gl0, gl1, gl2, gl3, ↓reduceIte, Nat.reduceEqDiff, Nat.reduceAdd, Nat.reduceLeDiff, pBuild, fillA, ↓Api_Local.r, ↓Api_Item.r, ↓Api_Instr.r, ↓Api_Body.r, ↓Api_Site.r, ↓Api_Section.r, ↓Api_Code.r, ↓Api_Path.r, ↓Code_maker.r, ↓Api_Value.r, hbt] | refine Cut.go ?_))
      rw [bad (by simp [siteOk, codeAt, hb])]
      exact ⟨rfl, kp1⟩
    | some b =>
      have hbt := getI_some.2 ⟨b, hb⟩
      (repeat (first | simp -dsimp -implicitDefEqProofs (disch := omega) only [↓gp0, ↓gp1, ↓gp2, gq0, gq1, gq2, gq3, gq4, gq5, gq6, gq7, gq8, gq9, go0, go1, gl0, gl1, gl2, gl3, ↓reduceIte, Nat.reduceEqDiff, Nat.reduceAdd, Nat.reduceLeDiff, pBuild, fillA, ↓Api_Local.r, ↓Api_Item.r, ↓Api_Instr.r, ↓Api_Body.r, ↓Api_Site.r, ↓Api_Section.r, ↓Api_Code.r, ↓Api_Path.r, ↓Code_maker.r, ↓Api_Value.r, hbt, ixI hb] | refine Cut.go ?_))
      refine (code_between_does _ _ _).mono ?_
      rintro _ _ ⟨rfl, rfl⟩
      (repeat (first | simp -dsimp -implicitDefEqProofs (disch := omega) only [↓gp0, ↓gp1, ↓gp2, gq0, gq1, gq2, gq3, gq4, gq5, gq6, gq7, gq8, gq9, go0, go1, gl0, gl1, gl2, gl3, ↓reduceIte, Nat.reduceEqDiff, Nat.reduceAdd, Nat.reduceLeDiff, pBuild, fillA, ↓Api_Local.r, ↓Api_Item.r, ↓Api_Instr.r, ↓Api_Body.r, ↓Api_Site.r, ↓Api_Section.r, ↓Api_Code.r, ↓Api_Path.r, ↓Code_maker.r, ↓Api_Value.r, hbt, ixI hb] | refine Cut.go ?_))
      cases hx2 : getI (slL b.Code) s.At with
      | none =>
        have hbt2 := getI_none.2 hx2
        (repeat (first | simp -dsimp -implicitDefEqProofs (disch := omega) only [↓gp0, ↓gp1, ↓gp2, gq0, gq1, gq2, gq3, gq4, gq5, gq6, gq7, gq8, gq9, go0, go1, gl0, gl1, gl2, gl3, ↓reduceIte, Nat.reduceEqDiff, Nat.reduceAdd, Nat.reduceLeDiff, pBuild, fillA, ↓Api_Local.r, ↓Api_Item.r, ↓Api_Instr.r, ↓Api_Body.r, ↓Api_Site.r, ↓Api_Section.r, ↓Api_Code.r, ↓Api_Path.r, ↓Code_maker.r, ↓Api_Value.r, hbt, hbt2] | refine Cut.go ?_))
        rw [bad (by simp [siteOk, codeAt, hb, hx2])]
        exact ⟨rfl, kp1⟩
      | some x =>
        have hbt2 := getI_some.2 ⟨x, hx2⟩
        have kp2 := kp1.go (Keeps.one _ (.row 56 x.cells))
        have ho2 : ∀ o, ((hh.push (.row 113 s.cells)).push o).objs hh.next = some (.row 113 s.cells) := fun o => by simp
        have ld : ∀ (o : AObj) (off : Nat) (q : Option Nat) (K : AV → Prop), pLoad q (.ptr hh.next off) ((hh.push (.row 113 s.cells)).push o) K = pCells q s.cells off K := fun o off q K => pLoad_ptr (ho2 o) q K
        have on : siteOk c k s = true → loopPost I ((slL c.Sites).length - k) (exitQ (fun _ _ => False) (fun x4 fr5 h6 => False) (fun _ _ => False)) .normal (frOf [(1, .iptr c.cells), (7, slAV 3 Api_Site.cells c.Sites), (8, .int .i64 (slL c.Sites).length), (9, .int .i64 (k + 1 : Nat))]) ((hh.push (.row 113 s.cells)).push (.row 56 x.cells)) := fun hm => by
          rw [loopPost_normal, ← hI]
          exact ⟨_, by omega, k + 1, by omega, rfl, upTo_succ hup hx hm, kp2, rfl⟩
        simp only [loopPost_normal] at on
        repeat' (first | (simp -dsimp -implicitDefEqProofs (disch := omega) only [↓gp0, ↓gp1, ↓gp2, gq0, gq1, gq2, gq3, gq4, gq5, gq6, gq7, gq8, gq9, go0, go1, gl0, gl1, gl2, gl3, ↓reduceIte, Nat.reduceEqDiff, Nat.reduceAdd, Nat.reduceLeDiff, pBuild, fillA, ↓Api_Local.r, ↓Api_Item.r, ↓Api_Instr.r, ↓Api_Body.r, ↓Api_Site.r, ↓Api_Section.r, ↓Api_Code.r, ↓Api_Path.r, ↓Code_maker.r, ↓Api_Value.r, hbt, hbt2, ixI hb, ixI hx2, ↓ld, wkS k (by omega), loopPost_normal]) | refine Cut.go ?_ | refine Split_eq (fun _ => ?_) (fun _ => ?_) | refine Split_ne (fun _ => ?_) (fun _ => ?_) | refine Split_lt (fun _ => ?_) (fun _ => ?_) | refine Split_le (fun _ => ?_) (fun _ => ?_) | refine Split.intro (fun _ => ?_) (fun _ => ?_))
        all_goals first
          | exact on (by simp [siteOk, codeAt, hb, hx2, *]; try omega)
          | (rw [bad (by simp [siteOk, codeAt, hb, hx2, *]; try omega)]; exact ⟨rfl, kp2⟩)
  · have hke : k = (slL c.Sites).length := by omega
    subst hke
    (repeat (first | simp -dsimp -implicitDefEqProofs (disch := omega) only [↓gp0, ↓gp1, ↓gp2, gq0, gq1, gq2, gq3, gq4, gq5, gq6, gq7, gq8, gq9, go0, go1, gl0, gl1, gl2, gl3, ↓reduceIte, Nat.reduceEqDiff, Nat.reduceAdd, Nat.reduceLeDiff, pBuild, fillA, ↓Api_Local.r, ↓Api_Item.r, ↓Api_Instr.r, ↓Api_Body.r, ↓Api_Site.r, ↓Api_Section.r, ↓Api_Code.r, ↓Api_Path.r, ↓Code_maker.r, ↓Api_Value.r] | refine Cut.go ?_))
    have : allK (siteOk c) (slL c.Sites) = true := upTo_all hup
    unfold sitesB
    rw [this]
    refine ⟨by simp; try omega, kp⟩

theorem code_Writes_does (x : In) (h : AHeap) : CallsA Try.prog 30 [.agg x.cells] h (fun v h2 => v = .int .i64 (if x.Op = 1 ∨ x.Op = 2 ∨ x.Op = 3 ∨ x.Op = 4 ∨ x.Op = 8 ∨ x.Op = 9 ∨ x.Op = 10 then x.Dst else -1) ∧ h2 = h) := by
  apply code_Writes_wp
  repeat' (first | (simp -dsimp -implicitDefEqProofs (disch := omega) only [↓gp0, ↓gp1, ↓gp2, gq0, gq1, gq2, gq3, gq4, gq5, gq6, gq7, gq8, gq9, go0, go1, gl0, gl1, gl2, gl3, ↓reduceIte, Nat.reduceEqDiff, Nat.reduceAdd, Nat.reduceLeDiff, pBuild, fillA, ↓Api_Local.r, ↓Api_Item.r, ↓Api_Instr.r, ↓Api_Body.r, ↓Api_Site.r, ↓Api_Section.r, ↓Api_Code.r, ↓Api_Path.r, ↓Code_maker.r, ↓Api_Value.r]) | refine Cut.go ?_ | refine Split_eq (fun _ => ?_) (fun _ => ?_) | refine Split_ne (fun _ => ?_) (fun _ => ?_) | refine Split_lt (fun _ => ?_) (fun _ => ?_) | refine Split_le (fun _ => ?_) (fun _ => ?_) | refine Split.intro (fun _ => ?_) (fun _ => ?_))
  all_goals simp [*]

theorem code_Good_does (c : Cd) (hc : c.ok) (hs : (slL c.Sections).length ≤ 1000000) (hsi : (slL c.Sites).length ≤ 1000000) (hg : (slL c.Globals).length ≤ 1000000) (hr : ∀ r ∈ slL c.Records, (slL r).length ≤ 1000000) (h : AHeap) : CallsA Try.prog 26 [.agg c.cells] h (fun v h2 => v = .bool (okC c) ∧ Keeps h h2 (fun _ => False)) := by
  apply code_Good_wp
  have e0 : okC c = (decide ((slL c.Records).length ≤ 6) && (decide ((slL c.Threads).length ≤ 4) && (cellsB c (slL c.Globals) 8 && (sectionsB c && (sitesB c && ((slL c.Records).all (fun r => cellsB c (slL r) 6) && threadsB c)))))) := by
    unfold okC; simp only [Bool.and_assoc]
  rw [e0]
  (repeat (first | simp -dsimp -implicitDefEqProofs (disch := omega) only [↓gp0, ↓gp1, ↓gp2, gq0, gq1, gq2, gq3, gq4, gq5, gq6, gq7, gq8, gq9, go0, go1, gl0, gl1, gl2, gl3, ↓reduceIte, Nat.reduceEqDiff, Nat.reduceAdd, Nat.reduceLeDiff, pBuild, fillA, ↓Api_Local.r, ↓Api_Item.r, ↓Api_Instr.r, ↓Api_Body.r, ↓Api_Site.r, ↓Api_Section.r, ↓Api_Code.r, ↓Api_Path.r, ↓Code_maker.r, ↓Api_Value.r] | refine Cut.go ?_))
  refine Split_lt (fun h1 => ?_) (fun h1 => ?_)
  · (repeat (first | simp -dsimp -implicitDefEqProofs (disch := omega) only [↓gp0, ↓gp1, ↓gp2, gq0, gq1, gq2, gq3, gq4, gq5, gq6, gq7, gq8, gq9, go0, go1, gl0, gl1, gl2, gl3, ↓reduceIte, Nat.reduceEqDiff, Nat.reduceAdd, Nat.reduceLeDiff, pBuild, fillA, ↓Api_Local.r, ↓Api_Item.r, ↓Api_Instr.r, ↓Api_Body.r, ↓Api_Site.r, ↓Api_Section.r, ↓Api_Code.r, ↓Api_Path.r, ↓Code_maker.r, ↓Api_Value.r] | refine Cut.go ?_))
    rw [decide_eq_false (by omega : ¬ (slL c.Records).length ≤ 6)]
    (first | (refine And.intro (by simp) ?_; (repeat (first | assumption | with_reducible exact Keeps.refl _ _ | with_reducible refine Keeps.go ?_ (Keeps.one _ _) | with_reducible refine Keeps.go ?_ (by assumption)))) | (repeat (first | assumption | with_reducible exact Keeps.refl _ _ | with_reducible refine Keeps.go ?_ (Keeps.one _ _) | with_reducible refine Keeps.go ?_ (by assumption))))
  rw [decide_eq_true (by omega : (slL c.Records).length ≤ 6)]
  (repeat (first | simp -dsimp -implicitDefEqProofs (disch := omega) only [↓gp0, ↓gp1, ↓gp2, gq0, gq1, gq2, gq3, gq4, gq5, gq6, gq7, gq8, gq9, go0, go1, gl0, gl1, gl2, gl3, ↓reduceIte, Nat.reduceEqDiff, Nat.reduceAdd, Nat.reduceLeDiff, pBuild, fillA, ↓Api_Local.r, ↓Api_Item.r, ↓Api_Instr.r, ↓Api_Body.r, ↓Api_Site.r, ↓Api_Section.r, ↓Api_Code.r, ↓Api_Path.r, ↓Code_maker.r, ↓Api_Value.r] | refine Cut.go ?_))
  refine Split_lt (fun h2 => ?_) (fun h2 => ?_)
  · (repeat (first | simp -dsimp -implicitDefEqProofs (disch := omega) only [↓gp0, ↓gp1, ↓gp2, gq0, gq1, gq2, gq3, gq4, gq5, gq6, gq7, gq8, gq9, go0, go1, gl0, gl1, gl2, gl3, ↓reduceIte, Nat.reduceEqDiff, Nat.reduceAdd, Nat.reduceLeDiff, pBuild, fillA, ↓Api_Local.r, ↓Api_Item.r, ↓Api_Instr.r, ↓Api_Body.r, ↓Api_Site.r, ↓Api_Section.r, ↓Api_Code.r, ↓Api_Path.r, ↓Code_maker.r, ↓Api_Value.r] | refine Cut.go ?_))
    rw [decide_eq_false (by omega : ¬ (slL c.Threads).length ≤ 4)]
    (first | (refine And.intro (by simp) ?_; (repeat (first | assumption | with_reducible exact Keeps.refl _ _ | with_reducible refine Keeps.go ?_ (Keeps.one _ _) | with_reducible refine Keeps.go ?_ (by assumption)))) | (repeat (first | assumption | with_reducible exact Keeps.refl _ _ | with_reducible refine Keeps.go ?_ (Keeps.one _ _) | with_reducible refine Keeps.go ?_ (by assumption))))
  rw [decide_eq_true (by omega : (slL c.Threads).length ≤ 4)]
  (repeat (first | simp -dsimp -implicitDefEqProofs (disch := omega) only [↓gp0, ↓gp1, ↓gp2, gq0, gq1, gq2, gq3, gq4, gq5, gq6, gq7, gq8, gq9, go0, go1, gl0, gl1, gl2, gl3, ↓reduceIte, Nat.reduceEqDiff, Nat.reduceAdd, Nat.reduceLeDiff, pBuild, fillA, ↓Api_Local.r, ↓Api_Item.r, ↓Api_Instr.r, ↓Api_Body.r, ↓Api_Site.r, ↓Api_Section.r, ↓Api_Code.r, ↓Api_Path.r, ↓Code_maker.r, ↓Api_Value.r] | refine Cut.go ?_))
  refine (code_cells_does c c.Globals hg 8 _).mono ?_
  rintro _ h ⟨rfl, rfl⟩
  rcases hb1 : cellsB c (slL c.Globals) 8 with _ | _
  · (repeat (first | simp -dsimp -implicitDefEqProofs (disch := omega) only [↓gp0, ↓gp1, ↓gp2, gq0, gq1, gq2, gq3, gq4, gq5, gq6, gq7, gq8, gq9, go0, go1, gl0, gl1, gl2, gl3, ↓reduceIte, Nat.reduceEqDiff, Nat.reduceAdd, Nat.reduceLeDiff, pBuild, fillA, ↓Api_Local.r, ↓Api_Item.r, ↓Api_Instr.r, ↓Api_Body.r, ↓Api_Site.r, ↓Api_Section.r, ↓Api_Code.r, ↓Api_Path.r, ↓Code_maker.r, ↓Api_Value.r, Bool.not_false, Bool.not_true] | refine Cut.go ?_))
    (first | (refine And.intro (by simp) ?_; (repeat (first | assumption | with_reducible exact Keeps.refl _ _ | with_reducible refine Keeps.go ?_ (Keeps.one _ _) | with_reducible refine Keeps.go ?_ (by assumption)))) | (repeat (first | assumption | with_reducible exact Keeps.refl _ _ | with_reducible refine Keeps.go ?_ (Keeps.one _ _) | with_reducible refine Keeps.go ?_ (by assumption))))
  (repeat (first | simp -dsimp -implicitDefEqProofs (disch := omega) only [↓gp0, ↓gp1, ↓gp2, gq0, gq1, gq2, gq3, gq4, gq5, gq6, gq7, gq8, gq9, go0, go1, gl0, gl1, gl2, gl3, ↓reduceIte, Nat.reduceEqDiff, Nat.reduceAdd, Nat.reduceLeDiff, pBuild, fillA, ↓Api_Local.r, ↓Api_Item.r, ↓Api_Instr.r, ↓Api_Body.r, ↓Api_Site.r, ↓Api_Section.r, ↓Api_Code.r, ↓Api_Path.r, ↓Code_maker.r, ↓Api_Value.r, Bool.not_false, Bool.not_true] | refine Cut.go ?_))
  refine (code_sections_does c hc hs _).mono ?_
  rintro _ h3 ⟨rfl, k3⟩
  rcases hb2 : sectionsB c with _ | _
  · (repeat (first | simp -dsimp -implicitDefEqProofs (disch := omega) only [↓gp0, ↓gp1, ↓gp2, gq0, gq1, gq2, gq3, gq4, gq5, gq6, gq7, gq8, gq9, go0, go1, gl0, gl1, gl2, gl3, ↓reduceIte, Nat.reduceEqDiff, Nat.reduceAdd, Nat.reduceLeDiff, pBuild, fillA, ↓Api_Local.r, ↓Api_Item.r, ↓Api_Instr.r, ↓Api_Body.r, ↓Api_Site.r, ↓Api_Section.r, ↓Api_Code.r, ↓Api_Path.r, ↓Code_maker.r, ↓Api_Value.r, Bool.not_false, Bool.not_true] | refine Cut.go ?_))
    (first | (refine And.intro (by simp) ?_; (repeat (first | assumption | with_reducible exact Keeps.refl _ _ | with_reducible refine Keeps.go ?_ (Keeps.one _ _) | with_reducible refine Keeps.go ?_ (by assumption)))) | (repeat (first | assumption | with_reducible exact Keeps.refl _ _ | with_reducible refine Keeps.go ?_ (Keeps.one _ _) | with_reducible refine Keeps.go ?_ (by assumption))))
  (repeat (first | simp -dsimp -implicitDefEqProofs (disch := omega) only [↓gp0, ↓gp1, ↓gp2, gq0, gq1, gq2, gq3, gq4, gq5, gq6, gq7, gq8, gq9, go0, go1, gl0, gl1, gl2, gl3, ↓reduceIte, Nat.reduceEqDiff, Nat.reduceAdd, Nat.reduceLeDiff, pBuild, fillA, ↓Api_Local.r, ↓Api_Item.r, ↓Api_Instr.r, ↓Api_Body.r, ↓Api_Site.r, ↓Api_Section.r, ↓Api_Code.r, ↓Api_Path.r, ↓Code_maker.r, ↓Api_Value.r, Bool.not_false, Bool.not_true] | refine Cut.go ?_))
  refine (code_sites_does c hc hsi _).mono ?_
  rintro _ h4 ⟨rfl, k4⟩
  rcases hb3 : sitesB c with _ | _
  · (repeat (first | simp -dsimp -implicitDefEqProofs (disch := omega) only [↓gp0, ↓gp1, ↓gp2, gq0, gq1, gq2, gq3, gq4, gq5, gq6, gq7, gq8, gq9, go0, go1, gl0, gl1, gl2, gl3, ↓reduceIte, Nat.reduceEqDiff, Nat.reduceAdd, Nat.reduceLeDiff, pBuild, fillA, ↓Api_Local.r, ↓Api_Item.r, ↓Api_Instr.r, ↓Api_Body.r, ↓Api_Site.r, ↓Api_Section.r, ↓Api_Code.r, ↓Api_Path.r, ↓Code_maker.r, ↓Api_Value.r, Bool.not_false, Bool.not_true] | refine Cut.go ?_))
    (first | (refine And.intro (by simp) ?_; (repeat (first | assumption | with_reducible exact Keeps.refl _ _ | with_reducible refine Keeps.go ?_ (Keeps.one _ _) | with_reducible refine Keeps.go ?_ (by assumption)))) | (repeat (first | assumption | with_reducible exact Keeps.refl _ _ | with_reducible refine Keeps.go ?_ (Keeps.one _ _) | with_reducible refine Keeps.go ?_ (by assumption))))
  (repeat (first | simp -dsimp -implicitDefEqProofs (disch := omega) only [↓gp0, ↓gp1, ↓gp2, gq0, gq1, gq2, gq3, gq4, gq5, gq6, gq7, gq8, gq9, go0, go1, gl0, gl1, gl2, gl3, ↓reduceIte, Nat.reduceEqDiff, Nat.reduceAdd, Nat.reduceLeDiff, pBuild, fillA, ↓Api_Local.r, ↓Api_Item.r, ↓Api_Instr.r, ↓Api_Body.r, ↓Api_Site.r, ↓Api_Section.r, ↓Api_Code.r, ↓Api_Path.r, ↓Code_maker.r, ↓Api_Value.r, Bool.not_false, Bool.not_true] | refine Cut.go ?_))
  refine WP_loop mixed_ (by kernel_rfl) (fun n fr hh => ∃ k : Nat, k ≤ (slL c.Records).length ∧ n = (slL c.Records).length - k ∧ upTo (fun _ r => cellsB c (slL r) 6) (slL c.Records) k ∧ Keeps h hh (fun _ => False) ∧ fr = frOf [(1, .iptr c.cells), (35, slAV 1 (fun o => [slAV 3 Api_Local.cells o]) c.Records), (36, .int .i64 (slL c.Records).length), (37, .int .i64 k)]) (slL c.Records).length ⟨0, by omega, by omega, upTo_zero _ _, k3.go k4, rfl⟩ ?_
  rintro n fr hh ⟨k, hk, rfl, hup, kp, rfl⟩
  apply code_Good_loop4
  generalize hI : (fun (n : Nat) (fr : Fr) (hh : AHeap) => _) = I
  (repeat (first | simp -dsimp -implicitDefEqProofs (disch := omega) only [↓gp0, ↓gp1, ↓gp2, gq0, gq1, gq2, gq3, gq4, gq5, gq6, gq7, gq8, gq9, go0, go1, gl0, gl1, gl2, gl3, ↓reduceIte, Nat.reduceEqDiff, Nat.reduceAdd, Nat.reduceLeDiff, pBuild, fillA, ↓Api_Local.r, ↓Api_Item.r, ↓Api_Instr.r, ↓Api_Body.r, ↓Api_Site.r, ↓Api_Section.r, ↓Api_Code.r, ↓Api_Path.r, ↓Code_maker.r, ↓Api_Value.r] | refine Cut.go ?_))
  refine Split_lt (fun hkl => ?_) (fun hkl => ?_)
  · obtain ⟨r, hx⟩ : ∃ r, (slL c.Records)[k]? = some r := ⟨_, List.getElem?_eq_getElem (by omega)⟩
    (repeat (first | simp -dsimp -implicitDefEqProofs (disch := omega) only [↓gp0, ↓gp1, ↓gp2, gq0, gq1, gq2, gq3, gq4, gq5, gq6, gq7, gq8, gq9, go0, go1, gl0, gl1, gl2, gl3, ↓reduceIte, Nat.reduceEqDiff, Nat.reduceAdd, Nat.reduceLeDiff, pBuild, fillA, ↓Api_Local.r, ↓Api_Item.r, ↓Api_Instr.r, ↓Api_Body.r, ↓Api_Site.r, ↓Api_Section.r, ↓Api_Code.r, ↓Api_Path.r, ↓Code_maker.r, ↓Api_Value.r, pIndexAddr_slAV hx] | refine Cut.go ?_))
    refine (code_cells_does c r (hr r (List.mem_of_getElem? hx)) 6 _).mono ?_
    rintro _ hh ⟨rfl, rfl⟩
    rcases hi : cellsB c (slL r) 6 with _ | _
    · (repeat (first | simp -dsimp -implicitDefEqProofs (disch := omega) only [↓gp0, ↓gp1, ↓gp2, gq0, gq1, gq2, gq3, gq4, gq5, gq6, gq7, gq8, gq9, go0, go1, gl0, gl1, gl2, gl3, ↓reduceIte, Nat.reduceEqDiff, Nat.reduceAdd, Nat.reduceLeDiff, pBuild, fillA, ↓Api_Local.r, ↓Api_Item.r, ↓Api_Instr.r, ↓Api_Body.r, ↓Api_Site.r, ↓Api_Section.r, ↓Api_Code.r, ↓Api_Path.r, ↓Code_maker.r, ↓Api_Value.r] | refine Cut.go ?_))
      have : (slL c.Records).all (fun r => cellsB c (slL r) 6) = false := by
        rw [List.all_eq_false]; exact ⟨r, List.mem_of_getElem? hx, by simp [hi]⟩
      rw [this]
      (first | (refine And.intro (by simp) ?_; (repeat (first | assumption | with_reducible exact Keeps.refl _ _ | with_reducible refine Keeps.go ?_ (Keeps.one _ _) | with_reducible refine Keeps.go ?_ (by assumption)))) | (repeat (first | assumption | with_reducible exact Keeps.refl _ _ | with_reducible refine Keeps.go ?_ (Keeps.one _ _) | with_reducible refine Keeps.go ?_ (by assumption))))
    · (repeat (first | simp -dsimp -implicitDefEqProofs (disch := omega) only [↓gp0, ↓gp1, ↓gp2, gq0, gq1, gq2, gq3, gq4, gq5, gq6, gq7, gq8, gq9, go0, go1, gl0, gl1, gl2, gl3, ↓reduceIte, Nat.reduceEqDiff, Nat.reduceAdd, Nat.reduceLeDiff, pBuild, fillA, ↓Api_Local.r, ↓Api_Item.r, ↓Api_Instr.r, ↓Api_Body.r, ↓Api_Site.r, ↓Api_Section.r, ↓Api_Code.r, ↓Api_Path.r, ↓Code_maker.r, ↓Api_Value.r] | refine Cut.go ?_))
      rw [loopPost_normal, ← hI]
      exact ⟨_, by omega, k + 1, by omega, rfl, upTo_succ hup hx hi, kp, by simp⟩
  have hke : k = (slL c.Records).length := by omega
  subst hke
  have hall : (slL c.Records).all (fun r => cellsB c (slL r) 6) = true := by
    rw [List.all_eq_true]
    intro r hr'
    obtain ⟨i, hi⟩ := List.getElem?_of_mem hr'
    exact hup i r (List.getElem?_eq_some_iff.1 hi).1 hi
  rw [hall]
  (repeat (first | simp -dsimp -implicitDefEqProofs (disch := omega) only [↓gp0, ↓gp1, ↓gp2, gq0, gq1, gq2, gq3, gq4, gq5, gq6, gq7, gq8, gq9, go0, go1, gl0, gl1, gl2, gl3, ↓reduceIte, Nat.reduceEqDiff, Nat.reduceAdd, Nat.reduceLeDiff, pBuild, fillA, ↓Api_Local.r, ↓Api_Item.r, ↓Api_Instr.r, ↓Api_Body.r, ↓Api_Site.r, ↓Api_Section.r, ↓Api_Code.r, ↓Api_Path.r, ↓Code_maker.r, ↓Api_Value.r] | refine Cut.go ?_))
  refine WP_loop mixed_ (by kernel_rfl) (fun n fr hh => ∃ k : Nat, k ≤ (slL c.Threads).length ∧ n = (slL c.Threads).length - k ∧ upTo (fun k b => threadB c k b) (slL c.Threads) k ∧ Keeps h hh (fun _ => False) ∧ fr = frOf [(1, .iptr c.cells), (47, slAV 3 Api_Body.cells c.Threads), (48, .int .i64 (slL c.Threads).length), (49, .int .i64 k)]) (slL c.Threads).length ⟨0, by omega, by omega, upTo_zero _ _, kp, rfl⟩ ?_
  rintro n fr hh ⟨k, hk, rfl, hup, kp, rfl⟩
  apply code_Good_loop10
  generalize hI : (fun (n : Nat) (fr : Fr) (hh : AHeap) => _) = I
  (repeat (first | simp -dsimp -implicitDefEqProofs (disch := omega) only [↓gp0, ↓gp1, ↓gp2, gq0, gq1, gq2, gq3, gq4, gq5, gq6, gq7, gq8, gq9, go0, go1, gl0, gl1, gl2, gl3, ↓reduceIte, Nat.reduceEqDiff, Nat.reduceAdd, Nat.reduceLeDiff, pBuild, fillA, ↓Api_Local.r, ↓Api_Item.r, ↓Api_Instr.r, ↓Api_Body.r, ↓Api_Site.r, ↓Api_Section.r, ↓Api_Code.r, ↓Api_Path.r, ↓Code_maker.r, ↓Api_Value.r] | refine Cut.go ?_))
  refine Split_lt (fun hkl => ?_) (fun hkl => ?_)
  · obtain ⟨b, hx⟩ : ∃ b, (slL c.Threads)[k]? = some b := ⟨_, List.getElem?_eq_getElem (by omega)⟩
    have hbd : ∀ K : AV → Prop, pBuild [(0, 5), (5, 1), (6, 3)] [AV.nils, AV.nils, AV.nils, AV.nils, AV.nils, AV.int IntKind.i64 0, AV.nils, AV.nils, AV.int IntKind.i64 0] [(0, .agg c.cells), (1, .int .i64 k), (2, .agg b.cells)] K = K (.agg (Code_maker.cells ⟨c, k, b⟩)) := fun K => by
      have s1 : ∀ {α : Type} (sz : Nat) (enc : α → List AV) (o : Option (List α)), (slAV sz enc o).fits = true := fits_slAV
      simp [pBuild, fillA, AV.fits, AV.cells, Api_Code.cells, Api_Body.cells, Code_maker.cells]
    (repeat (first | simp -dsimp -implicitDefEqProofs (disch := omega) only [↓gp0, ↓gp1, ↓gp2, gq0, gq1, gq2, gq3, gq4, gq5, gq6, gq7, gq8, gq9, go0, go1, gl0, gl1, gl2, gl3, ↓reduceIte, Nat.reduceEqDiff, Nat.reduceAdd, Nat.reduceLeDiff, pBuild, fillA, ↓Api_Local.r, ↓Api_Item.r, ↓Api_Instr.r, ↓Api_Body.r, ↓Api_Site.r, ↓Api_Section.r, ↓Api_Code.r, ↓Api_Path.r, ↓Code_maker.r, ↓Api_Value.r, pIndexAddr_slAV hx, ↓hbd] | refine Cut.go ?_))
    refine (code_maker_all_does ⟨c, k, b⟩ ⟨hc, by unfold okI; constructor <;> (simp only; omega), hc.2.2.1.2 b (List.mem_of_getElem? hx)⟩ hs _).mono ?_
    rintro _ h9 ⟨rfl, k9⟩
    have k10 := kp.go ((Keeps.one _ _).go k9)
    rcases hi : threadB c k b with _ | _
    · (repeat (first | simp -dsimp -implicitDefEqProofs (disch := omega) only [↓gp0, ↓gp1, ↓gp2, gq0, gq1, gq2, gq3, gq4, gq5, gq6, gq7, gq8, gq9, go0, go1, gl0, gl1, gl2, gl3, ↓reduceIte, Nat.reduceEqDiff, Nat.reduceAdd, Nat.reduceLeDiff, pBuild, fillA, ↓Api_Local.r, ↓Api_Item.r, ↓Api_Instr.r, ↓Api_Body.r, ↓Api_Site.r, ↓Api_Section.r, ↓Api_Code.r, ↓Api_Path.r, ↓Code_maker.r, ↓Api_Value.r, hi] | refine Cut.go ?_))
      have : threadsB c = false := allK_false hx hi
      rw [this]
      exact ⟨rfl, k10⟩
    · (repeat (first | simp -dsimp -implicitDefEqProofs (disch := omega) only [↓gp0, ↓gp1, ↓gp2, gq0, gq1, gq2, gq3, gq4, gq5, gq6, gq7, gq8, gq9, go0, go1, gl0, gl1, gl2, gl3, ↓reduceIte, Nat.reduceEqDiff, Nat.reduceAdd, Nat.reduceLeDiff, pBuild, fillA, ↓Api_Local.r, ↓Api_Item.r, ↓Api_Instr.r, ↓Api_Body.r, ↓Api_Site.r, ↓Api_Section.r, ↓Api_Code.r, ↓Api_Path.r, ↓Code_maker.r, ↓Api_Value.r, hi] | refine Cut.go ?_))
      rw [loopPost_normal, ← hI]
      exact ⟨_, by omega, k + 1, by omega, rfl, upTo_succ hup hx hi, k10, by simp⟩
  have hke : k = (slL c.Threads).length := by omega
  subst hke
  (repeat (first | simp -dsimp -implicitDefEqProofs (disch := omega) only [↓gp0, ↓gp1, ↓gp2, gq0, gq1, gq2, gq3, gq4, gq5, gq6, gq7, gq8, gq9, go0, go1, gl0, gl1, gl2, gl3, ↓reduceIte, Nat.reduceEqDiff, Nat.reduceAdd, Nat.reduceLeDiff, pBuild, fillA, ↓Api_Local.r, ↓Api_Item.r, ↓Api_Instr.r, ↓Api_Body.r, ↓Api_Site.r, ↓Api_Section.r, ↓Api_Code.r, ↓Api_Path.r, ↓Code_maker.r, ↓Api_Value.r] | refine Cut.go ?_))
  have : threadsB c = true := upTo_all hup
  rw [this]
  exact ⟨rfl, kp⟩

end Go.Proofs.Ytppldbldpphlmaa
