/- What the program's functions of codes compute: the small ones. -/
import Derived.Test.YtppldbldpphlmaaCdSpec
set_option linter.unusedVariables false
set_option linter.unusedSimpArgs false
set_option maxRecDepth 100000
set_option maxHeartbeats 1000000
namespace Go.Proofs.Ytppldbldpphlmaa
open Go.Abs

theorem code_between_does (n m : Int) (h : AHeap) : CallsA Try.prog 68 [.int .i64 n, .int .i64 m] h (fun v h2 => v = .bool (btw n m) ∧ h2 = h) := by
  apply code_between_wp
  unfold btw
  repeat' (first | (simp -dsimp -implicitDefEqProofs (disch := omega) only [↓gp0, ↓gp1, ↓gp2, gq0, gq1, gq2, gq3, gq4, gq5, gq6, gq7, gq8, gq9, go0, go1, gl0, gl1, gl2, gl3, ↓reduceIte, Nat.reduceEqDiff, Nat.reduceAdd, Nat.reduceLeDiff, pBuild, fillA]) | refine Cut.go ?_ | refine Split_eq (fun _ => ?_) (fun _ => ?_) | refine Split_ne (fun _ => ?_) (fun _ => ?_) | refine Split_lt (fun _ => ?_) (fun _ => ?_) | refine Split_le (fun _ => ?_) (fun _ => ?_) | refine Split.intro (fun _ => ?_) (fun _ => ?_))
  all_goals simp [*]
  all_goals omega
theorem ref_in_does (n m : Int) (h : AHeap) : CallsA Try.prog 56 [.int .i64 n, .int .i64 m] h (fun v h2 => v = .bool (btw n m) ∧ h2 = h) := by
  apply padlockref09_in_wp
  unfold btw
  repeat' (first | (simp -dsimp -implicitDefEqProofs (disch := omega) only [↓gp0, ↓gp1, ↓gp2, gq0, gq1, gq2, gq3, gq4, gq5, gq6, gq7, gq8, gq9, go0, go1, gl0, gl1, gl2, gl3, ↓reduceIte, Nat.reduceEqDiff, Nat.reduceAdd, Nat.reduceLeDiff, pBuild, fillA]) | refine Cut.go ?_ | refine Split_eq (fun _ => ?_) (fun _ => ?_) | refine Split_ne (fun _ => ?_) (fun _ => ?_) | refine Split_lt (fun _ => ?_) (fun _ => ?_) | refine Split_le (fun _ => ?_) (fun _ => ?_) | refine Split.intro (fun _ => ?_) (fun _ => ?_))
  all_goals simp [*]
  all_goals omega

theorem ixf_Local_does (o : Option (List Api_Local)) (hl : (slL o).length ≤ 1000000) (p : Api_Local → Bool) (f : AV) (h : AHeap)
    (hf : ∀ x ∈ slL o, ∀ R : AV → AHeap → Prop, R (.bool (p x)) h → pCallF Try.prog f [.agg x.cells] h R) :
    CallsA Try.prog 75 [slAV 3 Api_Local.cells o, f] h (fun v h2 => v = .int .i64 (posI p (slL o)) ∧ h2 = h) := by
  apply slices_IndexFunc_api_Local_api_Local_wp
  (repeat (first | simp -dsimp -implicitDefEqProofs (disch := omega) only [↓gp0, ↓gp1, ↓gp2, gq0, gq1, gq2, gq3, gq4, gq5, gq6, gq7, gq8, gq9, go0, go1, gl0, gl1, gl2, gl3, ↓reduceIte, Nat.reduceEqDiff, Nat.reduceAdd, Nat.reduceLeDiff, pBuild, fillA] | refine Cut.go ?_))
  refine WP_loop mixed_ (by kernel_rfl) (fun m fr hh => ∃ k : Nat, k ≤ (slL o).length ∧ m = (slL o).length - k ∧ (∀ j x, j < k → (slL o)[j]? = some x → p x = false) ∧ hh = h ∧ fr = frOf [(0, slAV 3 Api_Local.cells o), (1, f), (7, .int .i64 (slL o).length), (8, .int .i64 k)]) (slL o).length ⟨0, by omega, by omega, fun j x hj => by omega, rfl, rfl⟩ ?_
  rintro m fr hh ⟨k, hk, rfl, hfa, rfl, rfl⟩
  apply slices_IndexFunc_api_Local_api_Local_loop2
  generalize hI : (fun (m : Nat) (fr : Fr) (hh : AHeap) => _) = I
  (repeat (first | simp -dsimp -implicitDefEqProofs (disch := omega) only [↓gp0, ↓gp1, ↓gp2, gq0, gq1, gq2, gq3, gq4, gq5, gq6, gq7, gq8, gq9, go0, go1, gl0, gl1, gl2, gl3, ↓reduceIte, Nat.reduceEqDiff, Nat.reduceAdd, Nat.reduceLeDiff, pBuild, fillA] | refine Cut.go ?_))
  refine Split_lt (fun hkl => ?_) (fun hkl => ?_)
  · obtain ⟨x, hx⟩ : ∃ x, (slL o)[k]? = some x := ⟨_, List.getElem?_eq_getElem (by omega)⟩
    have hl3 : (Api_Local.cells x).length = 3 := rfl
    have hc : (List.take 3 (Api_Local.cells x)) = x.cells := rfl
    (repeat (first | simp -dsimp -implicitDefEqProofs (disch := omega) only [↓gp0, ↓gp1, ↓gp2, gq0, gq1, gq2, gq3, gq4, gq5, gq6, gq7, gq8, gq9, go0, go1, gl0, gl1, gl2, gl3, ↓reduceIte, Nat.reduceEqDiff, Nat.reduceAdd, Nat.reduceLeDiff, pBuild, fillA, pIndexAddr_slAV hx, hl3, hc] | refine Cut.go ?_))
    refine hf x (List.mem_of_getElem? hx) _ ?_
    cases hp : p x with
    | true =>
      (repeat (first | simp -dsimp -implicitDefEqProofs (disch := omega) only [↓gp0, ↓gp1, ↓gp2, gq0, gq1, gq2, gq3, gq4, gq5, gq6, gq7, gq8, gq9, go0, go1, gl0, gl1, gl2, gl3, ↓reduceIte, Nat.reduceEqDiff, Nat.reduceAdd, Nat.reduceLeDiff, pBuild, fillA] | refine Cut.go ?_))
      rw [posI_here hx hp hfa]
    | false =>
      (repeat (first | simp -dsimp -implicitDefEqProofs (disch := omega) only [↓gp0, ↓gp1, ↓gp2, gq0, gq1, gq2, gq3, gq4, gq5, gq6, gq7, gq8, gq9, go0, go1, gl0, gl1, gl2, gl3, ↓reduceIte, Nat.reduceEqDiff, Nat.reduceAdd, Nat.reduceLeDiff, pBuild, fillA] | refine Cut.go ?_))
      rw [loopPost_normal, ← hI]
      refine ⟨_, ?_, k + 1, by omega, rfl, fun j y hj hy => ?_, rfl, rfl⟩
      · omega
      · by_cases e : j = k
        · subst e; rw [hx] at hy; cases hy; exact hp
        · exact hfa j y (by omega) hy
  · have hke : k = (slL o).length := by omega
    subst hke
    (repeat (first | simp -dsimp -implicitDefEqProofs (disch := omega) only [↓gp0, ↓gp1, ↓gp2, gq0, gq1, gq2, gq3, gq4, gq5, gq6, gq7, gq8, gq9, go0, go1, gl0, gl1, gl2, gl3, ↓reduceIte, Nat.reduceEqDiff, Nat.reduceAdd, Nat.reduceLeDiff, pBuild, fillA] | refine Cut.go ?_))
    rw [posI_none hfa]

theorem ixf_Section_does (o : Option (List Api_Section)) (hl : (slL o).length ≤ 1000000) (p : Api_Section → Bool) (f : AV) (h : AHeap)
    (hf : ∀ x ∈ slL o, ∀ R : AV → AHeap → Prop, R (.bool (p x)) h → pCallF Try.prog f [.agg x.cells] h R) :
    CallsA Try.prog 58 [slAV 3 Api_Section.cells o, f] h (fun v h2 => v = .int .i64 (posI p (slL o)) ∧ h2 = h) := by
  apply slices_IndexFunc_api_Section_api_Section_wp
  (repeat (first | simp -dsimp -implicitDefEqProofs (disch := omega) only [↓gp0, ↓gp1, ↓gp2, gq0, gq1, gq2, gq3, gq4, gq5, gq6, gq7, gq8, gq9, go0, go1, gl0, gl1, gl2, gl3, ↓reduceIte, Nat.reduceEqDiff, Nat.reduceAdd, Nat.reduceLeDiff, pBuild, fillA] | refine Cut.go ?_))
  refine WP_loop mixed_ (by kernel_rfl) (fun m fr hh => ∃ k : Nat, k ≤ (slL o).length ∧ m = (slL o).length - k ∧ (∀ j x, j < k → (slL o)[j]? = some x → p x = false) ∧ hh = h ∧ fr = frOf [(0, slAV 3 Api_Section.cells o), (1, f), (7, .int .i64 (slL o).length), (8, .int .i64 k)]) (slL o).length ⟨0, by omega, by omega, fun j x hj => by omega, rfl, rfl⟩ ?_
  rintro m fr hh ⟨k, hk, rfl, hfa, rfl, rfl⟩
  apply slices_IndexFunc_api_Section_api_Section_loop2
  generalize hI : (fun (m : Nat) (fr : Fr) (hh : AHeap) => _) = I
  (repeat (first | simp -dsimp -implicitDefEqProofs (disch := omega) only [↓gp0, ↓gp1, ↓gp2, gq0, gq1, gq2, gq3, gq4, gq5, gq6, gq7, gq8, gq9, go0, go1, gl0, gl1, gl2, gl3, ↓reduceIte, Nat.reduceEqDiff, Nat.reduceAdd, Nat.reduceLeDiff, pBuild, fillA] | refine Cut.go ?_))
  refine Split_lt (fun hkl => ?_) (fun hkl => ?_)
  · obtain ⟨x, hx⟩ : ∃ x, (slL o)[k]? = some x := ⟨_, List.getElem?_eq_getElem (by omega)⟩
    have hl3 : (Api_Section.cells x).length = 3 := rfl
    have hc : (List.take 3 (Api_Section.cells x)) = x.cells := rfl
    (repeat (first | simp -dsimp -implicitDefEqProofs (disch := omega) only [↓gp0, ↓gp1, ↓gp2, gq0, gq1, gq2, gq3, gq4, gq5, gq6, gq7, gq8, gq9, go0, go1, gl0, gl1, gl2, gl3, ↓reduceIte, Nat.reduceEqDiff, Nat.reduceAdd, Nat.reduceLeDiff, pBuild, fillA, pIndexAddr_slAV hx, hl3, hc] | refine Cut.go ?_))
    refine hf x (List.mem_of_getElem? hx) _ ?_
    cases hp : p x with
    | true =>
      (repeat (first | simp -dsimp -implicitDefEqProofs (disch := omega) only [↓gp0, ↓gp1, ↓gp2, gq0, gq1, gq2, gq3, gq4, gq5, gq6, gq7, gq8, gq9, go0, go1, gl0, gl1, gl2, gl3, ↓reduceIte, Nat.reduceEqDiff, Nat.reduceAdd, Nat.reduceLeDiff, pBuild, fillA] | refine Cut.go ?_))
      rw [posI_here hx hp hfa]
    | false =>
      (repeat (first | simp -dsimp -implicitDefEqProofs (disch := omega) only [↓gp0, ↓gp1, ↓gp2, gq0, gq1, gq2, gq3, gq4, gq5, gq6, gq7, gq8, gq9, go0, go1, gl0, gl1, gl2, gl3, ↓reduceIte, Nat.reduceEqDiff, Nat.reduceAdd, Nat.reduceLeDiff, pBuild, fillA] | refine Cut.go ?_))
      rw [loopPost_normal, ← hI]
      refine ⟨_, ?_, k + 1, by omega, rfl, fun j y hj hy => ?_, rfl, rfl⟩
      · omega
      · by_cases e : j = k
        · subst e; rw [hx] at hy; cases hy; exact hp
        · exact hfa j y (by omega) hy
  · have hke : k = (slL o).length := by omega
    subst hke
    (repeat (first | simp -dsimp -implicitDefEqProofs (disch := omega) only [↓gp0, ↓gp1, ↓gp2, gq0, gq1, gq2, gq3, gq4, gq5, gq6, gq7, gq8, gq9, go0, go1, gl0, gl1, gl2, gl3, ↓reduceIte, Nat.reduceEqDiff, Nat.reduceAdd, Nat.reduceLeDiff, pBuild, fillA] | refine Cut.go ?_))
    rw [posI_none hfa]

theorem code_Inside_does (c : Cd) (hc : c.ok) (hl : (slL c.Sections).length ≤ 1000000) (t a : Int) (h : AHeap) : CallsA Try.prog 28 [.agg c.cells, .int .i64 t, .int .i64 a] h (fun v h2 => v = .int .i64 (insI c t a) ∧ h2 = h) := by
  apply code_Inside_wp
  unfold Api_Code.cells
  (repeat (first | simp -dsimp -implicitDefEqProofs (disch := omega) only [↓gp0, ↓gp1, ↓gp2, gq0, gq1, gq2, gq3, gq4, gq5, gq6, gq7, gq8, gq9, go0, go1, gl0, gl1, gl2, gl3, ↓reduceIte, Nat.reduceEqDiff, Nat.reduceAdd, Nat.reduceLeDiff, pBuild, fillA] | refine Cut.go ?_))
  refine ixf_Section_does c.Sections hl (secP t a) _ h fun s hs R hR => ?_
  simp only [pCallF, List.nil_append, List.append_nil, List.singleton_append, List.cons_append]
  apply code_Inside_1_wp
  unfold Api_Section.cells
  unfold secP at hR
  repeat' (first | (simp -dsimp -implicitDefEqProofs (disch := omega) only [↓gp0, ↓gp1, ↓gp2, gq0, gq1, gq2, gq3, gq4, gq5, gq6, gq7, gq8, gq9, go0, go1, gl0, gl1, gl2, gl3, ↓reduceIte, Nat.reduceEqDiff, Nat.reduceAdd, Nat.reduceLeDiff, pBuild, fillA]) | refine Cut.go ?_ | refine Split_eq (fun _ => ?_) (fun _ => ?_) | refine Split_ne (fun _ => ?_) (fun _ => ?_) | refine Split_lt (fun _ => ?_) (fun _ => ?_) | refine Split_le (fun _ => ?_) (fun _ => ?_) | refine Split.intro (fun _ => ?_) (fun _ => ?_))
  all_goals (refine Eq.mp (congrArg (fun b => R (AV.bool b) h) ?_) hR; simp [*]; try omega)

theorem code_local_does (c : Cd) (l : Lo) (h : AHeap) : CallsA Try.prog 67 [.agg c.cells, .agg l.cells] h (fun v h2 => v = .bool (localB c l) ∧ h2 = h) := by
  apply code_local_wp
  unfold Api_Code.cells Api_Local.cells localB
  (repeat (first | simp -dsimp -implicitDefEqProofs (disch := omega) only [↓gp0, ↓gp1, ↓gp2, gq0, gq1, gq2, gq3, gq4, gq5, gq6, gq7, gq8, gq9, go0, go1, gl0, gl1, gl2, gl3, ↓reduceIte, Nat.reduceEqDiff, Nat.reduceAdd, Nat.reduceLeDiff, pBuild, fillA] | refine Cut.go ?_))
  refine Split_eq (fun h4 => ?_) (fun h4 => ?_)
  · (repeat (first | simp -dsimp -implicitDefEqProofs (disch := omega) only [↓gp0, ↓gp1, ↓gp2, gq0, gq1, gq2, gq3, gq4, gq5, gq6, gq7, gq8, gq9, go0, go1, gl0, gl1, gl2, gl3, ↓reduceIte, Nat.reduceEqDiff, Nat.reduceAdd, Nat.reduceLeDiff, pBuild, fillA] | refine Cut.go ?_))
    rw [if_pos h4]
    exact code_between_does _ _ _
  · rw [if_neg h4]
    repeat' (first | (simp -dsimp -implicitDefEqProofs (disch := omega) only [↓gp0, ↓gp1, ↓gp2, gq0, gq1, gq2, gq3, gq4, gq5, gq6, gq7, gq8, gq9, go0, go1, gl0, gl1, gl2, gl3, ↓reduceIte, Nat.reduceEqDiff, Nat.reduceAdd, Nat.reduceLeDiff, pBuild, fillA]) | refine Cut.go ?_ | refine Split_eq (fun _ => ?_) (fun _ => ?_) | refine Split_ne (fun _ => ?_) (fun _ => ?_) | refine Split_lt (fun _ => ?_) (fun _ => ?_) | refine Split_le (fun _ => ?_) (fun _ => ?_) | refine Split.intro (fun _ => ?_) (fun _ => ?_))
    all_goals (simp [beqI, *]; try omega)

theorem code_cells_does (c : Cd) (o : Option (List Lo)) (hl : (slL o).length ≤ 1000000) (most : Int) (h : AHeap) : CallsA Try.prog 51 [.agg c.cells, slAV 3 Api_Local.cells o, .int .i64 most] h (fun v h2 => v = .bool (cellsB c (slL o) most) ∧ h2 = h) := by
  apply code_cells_wp
  unfold cellsB
  (repeat (first | simp -dsimp -implicitDefEqProofs (disch := omega) only [↓gp0, ↓gp1, ↓gp2, gq0, gq1, gq2, gq3, gq4, gq5, gq6, gq7, gq8, gq9, go0, go1, gl0, gl1, gl2, gl3, ↓reduceIte, Nat.reduceEqDiff, Nat.reduceAdd, Nat.reduceLeDiff, pBuild, fillA, ↓Api_Local.r, ↓Api_Item.r, ↓Api_Instr.r, ↓Api_Body.r, ↓Api_Site.r, ↓Api_Section.r, ↓Api_Code.r, ↓Api_Path.r, ↓Code_maker.r, ↓Api_Value.r] | refine Cut.go ?_))
  refine Split_le (fun h4 => ?_) (fun h4 => ?_)
  · (repeat (first | simp -dsimp -implicitDefEqProofs (disch := omega) only [↓gp0, ↓gp1, ↓gp2, gq0, gq1, gq2, gq3, gq4, gq5, gq6, gq7, gq8, gq9, go0, go1, gl0, gl1, gl2, gl3, ↓reduceIte, Nat.reduceEqDiff, Nat.reduceAdd, Nat.reduceLeDiff, pBuild, fillA, ↓Api_Local.r, ↓Api_Item.r, ↓Api_Instr.r, ↓Api_Body.r, ↓Api_Site.r, ↓Api_Section.r, ↓Api_Code.r, ↓Api_Path.r, ↓Code_maker.r, ↓Api_Value.r] | refine Cut.go ?_))
    apply slices_ContainsFunc_api_Local_api_Local_wp
    refine (ixf_Local_does o hl (fun x => x.Once || !localB c x) _ h fun x hx R hR => ?_).mono ?_
    · simp only [pCallF, List.nil_append, List.append_nil, List.singleton_append, List.cons_append]
      apply code_cells_1_wp
      (repeat (first | simp -dsimp -implicitDefEqProofs (disch := omega) only [↓gp0, ↓gp1, ↓gp2, gq0, gq1, gq2, gq3, gq4, gq5, gq6, gq7, gq8, gq9, go0, go1, gl0, gl1, gl2, gl3, ↓reduceIte, Nat.reduceEqDiff, Nat.reduceAdd, Nat.reduceLeDiff, pBuild, fillA, ↓Api_Local.r, ↓Api_Item.r, ↓Api_Instr.r, ↓Api_Body.r, ↓Api_Site.r, ↓Api_Section.r, ↓Api_Code.r, ↓Api_Path.r, ↓Code_maker.r, ↓Api_Value.r] | refine Cut.go ?_))
      refine Split.intro (fun e => ?_) (fun e => ?_)
      · rw [e, Bool.true_or] at hR
        (repeat (first | simp -dsimp -implicitDefEqProofs (disch := omega) only [↓gp0, ↓gp1, ↓gp2, gq0, gq1, gq2, gq3, gq4, gq5, gq6, gq7, gq8, gq9, go0, go1, gl0, gl1, gl2, gl3, ↓reduceIte, Nat.reduceEqDiff, Nat.reduceAdd, Nat.reduceLeDiff, pBuild, fillA, ↓Api_Local.r, ↓Api_Item.r, ↓Api_Instr.r, ↓Api_Body.r, ↓Api_Site.r, ↓Api_Section.r, ↓Api_Code.r, ↓Api_Path.r, ↓Code_maker.r, ↓Api_Value.r, e] | refine Cut.go ?_))
        exact hR
      · rw [e, Bool.false_or] at hR
        (repeat (first | simp -dsimp -implicitDefEqProofs (disch := omega) only [↓gp0, ↓gp1, ↓gp2, gq0, gq1, gq2, gq3, gq4, gq5, gq6, gq7, gq8, gq9, go0, go1, gl0, gl1, gl2, gl3, ↓reduceIte, Nat.reduceEqDiff, Nat.reduceAdd, Nat.reduceLeDiff, pBuild, fillA, ↓Api_Local.r, ↓Api_Item.r, ↓Api_Instr.r, ↓Api_Body.r, ↓Api_Site.r, ↓Api_Section.r, ↓Api_Code.r, ↓Api_Path.r, ↓Code_maker.r, ↓Api_Value.r, e] | refine Cut.go ?_))
        refine (code_local_does c x h).mono ?_
        rintro _ _ ⟨rfl, rfl⟩
        (repeat (first | simp -dsimp -implicitDefEqProofs (disch := omega) only [↓gp0, ↓gp1, ↓gp2, gq0, gq1, gq2, gq3, gq4, gq5, gq6, gq7, gq8, gq9, go0, go1, gl0, gl1, gl2, gl3, ↓reduceIte, Nat.reduceEqDiff, Nat.reduceAdd, Nat.reduceLeDiff, pBuild, fillA, ↓Api_Local.r, ↓Api_Item.r, ↓Api_Instr.r, ↓Api_Body.r, ↓Api_Site.r, ↓Api_Section.r, ↓Api_Code.r, ↓Api_Path.r, ↓Code_maker.r, ↓Api_Value.r, e] | refine Cut.go ?_))
        exact hR
    · rintro _ _ ⟨rfl, rfl⟩
      have e1 : (slL o).any (fun x => x.Once || !localB c x) = !(slL o).all (fun x => !x.Once && localB c x) := by
        rw [List.not_all_eq_any_not]; congr 1; funext x; simp
      have e2 := posI_neg (p := fun x => x.Once || !localB c x) (l := slL o)
      rw [e1] at e2
      have e3 : decide (0 ≤ posI (fun x => x.Once || !localB c x) (slL o)) = !(slL o).all (fun x => !x.Once && localB c x) := by
        cases hb : (slL o).all (fun x => !x.Once && localB c x) with
        | true => rw [hb] at e2; simp at e2 ⊢; omega
        | false => rw [hb] at e2; simp at e2 ⊢; omega
      (repeat (first | simp -dsimp -implicitDefEqProofs (disch := omega) only [↓gp0, ↓gp1, ↓gp2, gq0, gq1, gq2, gq3, gq4, gq5, gq6, gq7, gq8, gq9, go0, go1, gl0, gl1, gl2, gl3, ↓reduceIte, Nat.reduceEqDiff, Nat.reduceAdd, Nat.reduceLeDiff, pBuild, fillA, ↓Api_Local.r, ↓Api_Item.r, ↓Api_Instr.r, ↓Api_Body.r, ↓Api_Site.r, ↓Api_Section.r, ↓Api_Code.r, ↓Api_Path.r, ↓Code_maker.r, ↓Api_Value.r, e3] | refine Cut.go ?_))
      try simp [h4]
  · (repeat (first | simp -dsimp -implicitDefEqProofs (disch := omega) only [↓gp0, ↓gp1, ↓gp2, gq0, gq1, gq2, gq3, gq4, gq5, gq6, gq7, gq8, gq9, go0, go1, gl0, gl1, gl2, gl3, ↓reduceIte, Nat.reduceEqDiff, Nat.reduceAdd, Nat.reduceLeDiff, pBuild, fillA, ↓Api_Local.r, ↓Api_Item.r, ↓Api_Instr.r, ↓Api_Body.r, ↓Api_Site.r, ↓Api_Section.r, ↓Api_Code.r, ↓Api_Path.r, ↓Code_maker.r, ↓Api_Value.r] | refine Cut.go ?_))
    all_goals (have : ¬ (((slL o).length : Int) ≤ most) := by omega)
    all_goals simp [this]

theorem ixI {α : Type} {sz : Nat} {enc : α → List AV} {o : Option (List α)} {n : Int} {x : α} (hx : getI (slL o) n = some x) (kk : IntKind) (K : AV → Prop) : pIndexAddr (.slice sz) (slAV sz enc o) (.int kk n) K = K (.iptr (enc x)) := by
  obtain ⟨k, rfl, hk⟩ := getI_nat hx
  exact pIndexAddr_slAV hk kk K

theorem code_same_does (a b : Lo) (h : AHeap) : CallsA Try.prog 93 [.agg a.cells, .agg b.cells] h (fun v h2 => v = .bool (sameB a b) ∧ h2 = h) := by
  apply code_same_wp
  unfold sameB
  repeat' (first | (simp -dsimp -implicitDefEqProofs (disch := omega) only [↓gp0, ↓gp1, ↓gp2, gq0, gq1, gq2, gq3, gq4, gq5, gq6, gq7, gq8, gq9, go0, go1, gl0, gl1, gl2, gl3, ↓reduceIte, Nat.reduceEqDiff, Nat.reduceAdd, Nat.reduceLeDiff, pBuild, fillA, ↓Api_Local.r, ↓Api_Item.r, ↓Api_Instr.r, ↓Api_Body.r, ↓Api_Site.r, ↓Api_Section.r, ↓Api_Code.r, ↓Api_Path.r, ↓Code_maker.r, ↓Api_Value.r]) | refine Cut.go ?_ | refine Split_eq (fun _ => ?_) (fun _ => ?_) | refine Split_ne (fun _ => ?_) (fun _ => ?_) | refine Split_lt (fun _ => ?_) (fun _ => ?_) | refine Split_le (fun _ => ?_) (fun _ => ?_) | refine Split.intro (fun _ => ?_) (fun _ => ?_))
  all_goals (simp [beqI, *]; try omega)

def slotV (b : Bd) (n : Int) : Lo := (getI (slL b.Slots) n).getD ⟨0, 0, false⟩

theorem code_maker_slot_does (m : Code_maker) (n : Int) (h : AHeap) : CallsA Try.prog 77 [.agg m.cells, .int .i64 n] h (fun v h2 => v = .tup [.agg (slotV m.body n).cells, .bool (getI (slL m.body.Slots) n).isSome] ∧ Keeps h h2 (fun _ => False)) := by
  apply code_maker_slot_wp
  unfold slotV
  (repeat (first | simp -dsimp -implicitDefEqProofs (disch := omega) only [↓gp0, ↓gp1, ↓gp2, gq0, gq1, gq2, gq3, gq4, gq5, gq6, gq7, gq8, gq9, go0, go1, gl0, gl1, gl2, gl3, ↓reduceIte, Nat.reduceEqDiff, Nat.reduceAdd, Nat.reduceLeDiff, pBuild, fillA, ↓Api_Local.r, ↓Api_Item.r, ↓Api_Instr.r, ↓Api_Body.r, ↓Api_Site.r, ↓Api_Section.r, ↓Api_Code.r, ↓Api_Path.r, ↓Code_maker.r, ↓Api_Value.r] | refine Cut.go ?_))
  refine (code_between_does _ _ _).mono ?_
  rintro _ _ ⟨rfl, rfl⟩
  (repeat (first | simp -dsimp -implicitDefEqProofs (disch := omega) only [↓gp0, ↓gp1, ↓gp2, gq0, gq1, gq2, gq3, gq4, gq5, gq6, gq7, gq8, gq9, go0, go1, gl0, gl1, gl2, gl3, ↓reduceIte, Nat.reduceEqDiff, Nat.reduceAdd, Nat.reduceLeDiff, pBuild, fillA, ↓Api_Local.r, ↓Api_Item.r, ↓Api_Instr.r, ↓Api_Body.r, ↓Api_Site.r, ↓Api_Section.r, ↓Api_Code.r, ↓Api_Path.r, ↓Code_maker.r, ↓Api_Value.r] | refine Cut.go ?_))
  cases hx : getI (slL m.body.Slots) n with
  | none =>
    have hb := getI_none.2 hx
    (repeat (first | simp -dsimp -implicitDefEqProofs (disch := omega) only [↓gp0, ↓gp1, ↓gp2, gq0, gq1, gq2, gq3, gq4, gq5, gq6, gq7, gq8, gq9, go0, go1, gl0, gl1, gl2, gl3, ↓reduceIte, Nat.reduceEqDiff, Nat.reduceAdd, Nat.reduceLeDiff, pBuild, fillA, ↓Api_Local.r, ↓Api_Item.r, ↓Api_Instr.r, ↓Api_Body.r, ↓Api_Site.r, ↓Api_Section.r, ↓Api_Code.r, ↓Api_Path.r, ↓Code_maker.r, ↓Api_Value.r, hb] | refine Cut.go ?_))
    rw [pStore_push (by rfl) (by rfl)]
    (repeat (first | simp -dsimp -implicitDefEqProofs (disch := omega) only [↓gp0, ↓gp1, ↓gp2, gq0, gq1, gq2, gq3, gq4, gq5, gq6, gq7, gq8, gq9, go0, go1, gl0, gl1, gl2, gl3, ↓reduceIte, Nat.reduceEqDiff, Nat.reduceAdd, Nat.reduceLeDiff, pBuild, fillA, ↓Api_Local.r, ↓Api_Item.r, ↓Api_Instr.r, ↓Api_Body.r, ↓Api_Site.r, ↓Api_Section.r, ↓Api_Code.r, ↓Api_Path.r, ↓Code_maker.r, ↓Api_Value.r] | refine Cut.go ?_))
    exact ⟨rfl, Keeps.one _ _⟩
  | some x =>
    have hb := getI_some.2 ⟨x, hx⟩
    (repeat (first | simp -dsimp -implicitDefEqProofs (disch := omega) only [↓gp0, ↓gp1, ↓gp2, gq0, gq1, gq2, gq3, gq4, gq5, gq6, gq7, gq8, gq9, go0, go1, gl0, gl1, gl2, gl3, ↓reduceIte, Nat.reduceEqDiff, Nat.reduceAdd, Nat.reduceLeDiff, pBuild, fillA, ↓Api_Local.r, ↓Api_Item.r, ↓Api_Instr.r, ↓Api_Body.r, ↓Api_Site.r, ↓Api_Section.r, ↓Api_Code.r, ↓Api_Path.r, ↓Code_maker.r, ↓Api_Value.r, hb, ixI hx] | refine Cut.go ?_))
    exact ⟨rfl, Keeps.one _ _⟩

theorem code_maker_is_does (m : Code_maker) (n : Int) (want : Lo) (h : AHeap) : CallsA Try.prog 87 [.agg m.cells, .int .i64 n, .agg want.cells] h (fun v h2 => v = .bool (isB m.body n want) ∧ Keeps h h2 (fun _ => False)) := by
  apply code_maker_is_wp
  unfold isB
  (repeat (first | simp -dsimp -implicitDefEqProofs (disch := omega) only [↓gp0, ↓gp1, ↓gp2, gq0, gq1, gq2, gq3, gq4, gq5, gq6, gq7, gq8, gq9, go0, go1, gl0, gl1, gl2, gl3, ↓reduceIte, Nat.reduceEqDiff, Nat.reduceAdd, Nat.reduceLeDiff, pBuild, fillA, ↓Api_Local.r, ↓Api_Item.r, ↓Api_Instr.r, ↓Api_Body.r, ↓Api_Site.r, ↓Api_Section.r, ↓Api_Code.r, ↓Api_Path.r, ↓Code_maker.r, ↓Api_Value.r] | refine Cut.go ?_))
  refine (code_maker_slot_does m n _).mono ?_
  rintro _ _ ⟨rfl, _⟩
  (repeat (first | simp -dsimp -implicitDefEqProofs (disch := omega) only [↓gp0, ↓gp1, ↓gp2, gq0, gq1, gq2, gq3, gq4, gq5, gq6, gq7, gq8, gq9, go0, go1, gl0, gl1, gl2, gl3, ↓reduceIte, Nat.reduceEqDiff, Nat.reduceAdd, Nat.reduceLeDiff, pBuild, fillA, ↓Api_Local.r, ↓Api_Item.r, ↓Api_Instr.r, ↓Api_Body.r, ↓Api_Site.r, ↓Api_Section.r, ↓Api_Code.r, ↓Api_Path.r, ↓Code_maker.r, ↓Api_Value.r] | refine Cut.go ?_))
  unfold slotV
  cases hx : getI (slL m.body.Slots) n with
  | none =>
    simp only [Option.getD_none, Option.isSome_none]
    (repeat (first | simp -dsimp -implicitDefEqProofs (disch := omega) only [↓gp0, ↓gp1, ↓gp2, gq0, gq1, gq2, gq3, gq4, gq5, gq6, gq7, gq8, gq9, go0, go1, gl0, gl1, gl2, gl3, ↓reduceIte, Nat.reduceEqDiff, Nat.reduceAdd, Nat.reduceLeDiff, pBuild, fillA, ↓Api_Local.r, ↓Api_Item.r, ↓Api_Instr.r, ↓Api_Body.r, ↓Api_Site.r, ↓Api_Section.r, ↓Api_Code.r, ↓Api_Path.r, ↓Code_maker.r, ↓Api_Value.r] | refine Cut.go ?_))
    (repeat (first | assumption | with_reducible exact Keeps.refl _ _ | with_reducible refine Keeps.go ?_ (Keeps.one _ _) | with_reducible refine Keeps.go ?_ (by assumption)))
  | some x =>
    simp only [Option.getD_some, Option.isSome_some]
    (repeat (first | simp -dsimp -implicitDefEqProofs (disch := omega) only [↓gp0, ↓gp1, ↓gp2, gq0, gq1, gq2, gq3, gq4, gq5, gq6, gq7, gq8, gq9, go0, go1, gl0, gl1, gl2, gl3, ↓reduceIte, Nat.reduceEqDiff, Nat.reduceAdd, Nat.reduceLeDiff, pBuild, fillA, ↓Api_Local.r, ↓Api_Item.r, ↓Api_Instr.r, ↓Api_Body.r, ↓Api_Site.r, ↓Api_Section.r, ↓Api_Code.r, ↓Api_Path.r, ↓Code_maker.r, ↓Api_Value.r] | refine Cut.go ?_))
    refine (code_same_does x want _).mono ?_
    rintro _ _ ⟨rfl, rfl⟩
    (repeat (first | simp -dsimp -implicitDefEqProofs (disch := omega) only [↓gp0, ↓gp1, ↓gp2, gq0, gq1, gq2, gq3, gq4, gq5, gq6, gq7, gq8, gq9, go0, go1, gl0, gl1, gl2, gl3, ↓reduceIte, Nat.reduceEqDiff, Nat.reduceAdd, Nat.reduceLeDiff, pBuild, fillA, ↓Api_Local.r, ↓Api_Item.r, ↓Api_Instr.r, ↓Api_Body.r, ↓Api_Site.r, ↓Api_Section.r, ↓Api_Code.r, ↓Api_Path.r, ↓Code_maker.r, ↓Api_Value.r] | refine Cut.go ?_))
    (repeat (first | assumption | with_reducible exact Keeps.refl _ _ | with_reducible refine Keeps.go ?_ (Keeps.one _ _) | with_reducible refine Keeps.go ?_ (by assumption)))

theorem code_maker_good_does (m : Code_maker) (hm : m.ok) (o : Option (List It)) (ho : okSl Api_Item.ok o) (h : AHeap) : CallsA Try.prog 79 [.agg m.cells, slAV 3 Api_Item.cells o] h (fun v h2 => v = .bool (itemsB m.body o) ∧ Keeps h h2 (fun _ => False)) := by
  apply code_maker_good_wp
  (repeat (first | simp -dsimp -implicitDefEqProofs (disch := omega) only [↓gp0, ↓gp1, ↓gp2, gq0, gq1, gq2, gq3, gq4, gq5, gq6, gq7, gq8, gq9, go0, go1, gl0, gl1, gl2, gl3, ↓reduceIte, Nat.reduceEqDiff, Nat.reduceAdd, Nat.reduceLeDiff, pBuild, fillA, ↓Api_Local.r, ↓Api_Item.r, ↓Api_Instr.r, ↓Api_Body.r, ↓Api_Site.r, ↓Api_Section.r, ↓Api_Code.r, ↓Api_Path.r, ↓Code_maker.r, ↓Api_Value.r] | refine Cut.go ?_))
  have := hm.2.2.1.1
  unfold maxLen at this
  exact calc_Good_does _ (by unfold okI; omega) o ho h

def fieldV (c : Cd) (b : Bd) (x : In) : Lo := (fieldO c b x).getD ⟨0, 0, false⟩

theorem code_maker_field_does (m : Code_maker) (x : In) (h : AHeap) : CallsA Try.prog 88 [.agg m.cells, .agg x.cells] h (fun v h2 => v = .tup [.agg (fieldV m.Code m.body x).cells, .bool (fieldO m.Code m.body x).isSome] ∧ Keeps h h2 (fun _ => False)) := by
  apply code_maker_field_wp
  (repeat (first | simp -dsimp -implicitDefEqProofs (disch := omega) only [↓gp0, ↓gp1, ↓gp2, gq0, gq1, gq2, gq3, gq4, gq5, gq6, gq7, gq8, gq9, go0, go1, gl0, gl1, gl2, gl3, ↓reduceIte, Nat.reduceEqDiff, Nat.reduceAdd, Nat.reduceLeDiff, pBuild, fillA, ↓Api_Local.r, ↓Api_Item.r, ↓Api_Instr.r, ↓Api_Body.r, ↓Api_Site.r, ↓Api_Section.r, ↓Api_Code.r, ↓Api_Path.r, ↓Code_maker.r, ↓Api_Value.r] | refine Cut.go ?_))
  refine (code_between_does _ _ _).mono ?_
  rintro _ _ ⟨rfl, rfl⟩
  (repeat (first | simp -dsimp -implicitDefEqProofs (disch := omega) only [↓gp0, ↓gp1, ↓gp2, gq0, gq1, gq2, gq3, gq4, gq5, gq6, gq7, gq8, gq9, go0, go1, gl0, gl1, gl2, gl3, ↓reduceIte, Nat.reduceEqDiff, Nat.reduceAdd, Nat.reduceLeDiff, pBuild, fillA, ↓Api_Local.r, ↓Api_Item.r, ↓Api_Instr.r, ↓Api_Body.r, ↓Api_Site.r, ↓Api_Section.r, ↓Api_Code.r, ↓Api_Path.r, ↓Code_maker.r, ↓Api_Value.r] | refine Cut.go ?_))
  cases hx : getI (slL m.Code.Records) x.Rec with
  | none =>
    have hb := getI_none.2 hx
    have e : fieldO m.Code m.body x = none := by unfold fieldO; rw [hx]
    (repeat (first | simp -dsimp -implicitDefEqProofs (disch := omega) only [↓gp0, ↓gp1, ↓gp2, gq0, gq1, gq2, gq3, gq4, gq5, gq6, gq7, gq8, gq9, go0, go1, gl0, gl1, gl2, gl3, ↓reduceIte, Nat.reduceEqDiff, Nat.reduceAdd, Nat.reduceLeDiff, pBuild, fillA, ↓Api_Local.r, ↓Api_Item.r, ↓Api_Instr.r, ↓Api_Body.r, ↓Api_Site.r, ↓Api_Section.r, ↓Api_Code.r, ↓Api_Path.r, ↓Code_maker.r, ↓Api_Value.r, hb] | refine Cut.go ?_))
    rw [pStore_push (by rfl) (by rfl)]
    (repeat (first | simp -dsimp -implicitDefEqProofs (disch := omega) only [↓gp0, ↓gp1, ↓gp2, gq0, gq1, gq2, gq3, gq4, gq5, gq6, gq7, gq8, gq9, go0, go1, gl0, gl1, gl2, gl3, ↓reduceIte, Nat.reduceEqDiff, Nat.reduceAdd, Nat.reduceLeDiff, pBuild, fillA, ↓Api_Local.r, ↓Api_Item.r, ↓Api_Instr.r, ↓Api_Body.r, ↓Api_Site.r, ↓Api_Section.r, ↓Api_Code.r, ↓Api_Path.r, ↓Code_maker.r, ↓Api_Value.r] | refine Cut.go ?_))
    unfold fieldV
    rw [e]
    exact ⟨rfl, Keeps.one _ _⟩
  | some r =>
    have hb := getI_some.2 ⟨r, hx⟩
    (repeat (first | simp -dsimp -implicitDefEqProofs (disch := omega) only [↓gp0, ↓gp1, ↓gp2, gq0, gq1, gq2, gq3, gq4, gq5, gq6, gq7, gq8, gq9, go0, go1, gl0, gl1, gl2, gl3, ↓reduceIte, Nat.reduceEqDiff, Nat.reduceAdd, Nat.reduceLeDiff, pBuild, fillA, ↓Api_Local.r, ↓Api_Item.r, ↓Api_Instr.r, ↓Api_Body.r, ↓Api_Site.r, ↓Api_Section.r, ↓Api_Code.r, ↓Api_Path.r, ↓Code_maker.r, ↓Api_Value.r, hb, ixI hx] | refine Cut.go ?_))
    refine (code_between_does _ _ _).mono ?_
    rintro _ _ ⟨rfl, rfl⟩
    (repeat (first | simp -dsimp -implicitDefEqProofs (disch := omega) only [↓gp0, ↓gp1, ↓gp2, gq0, gq1, gq2, gq3, gq4, gq5, gq6, gq7, gq8, gq9, go0, go1, gl0, gl1, gl2, gl3, ↓reduceIte, Nat.reduceEqDiff, Nat.reduceAdd, Nat.reduceLeDiff, pBuild, fillA, ↓Api_Local.r, ↓Api_Item.r, ↓Api_Instr.r, ↓Api_Body.r, ↓Api_Site.r, ↓Api_Section.r, ↓Api_Code.r, ↓Api_Path.r, ↓Code_maker.r, ↓Api_Value.r] | refine Cut.go ?_))
    cases hy : getI (slL r) x.N with
    | none =>
      have hc := getI_none.2 hy
      have e : fieldO m.Code m.body x = none := by unfold fieldO; rw [hx]; simp only; rw [hy]
      (repeat (first | simp -dsimp -implicitDefEqProofs (disch := omega) only [↓gp0, ↓gp1, ↓gp2, gq0, gq1, gq2, gq3, gq4, gq5, gq6, gq7, gq8, gq9, go0, go1, gl0, gl1, gl2, gl3, ↓reduceIte, Nat.reduceEqDiff, Nat.reduceAdd, Nat.reduceLeDiff, pBuild, fillA, ↓Api_Local.r, ↓Api_Item.r, ↓Api_Instr.r, ↓Api_Body.r, ↓Api_Site.r, ↓Api_Section.r, ↓Api_Code.r, ↓Api_Path.r, ↓Code_maker.r, ↓Api_Value.r, hb, hc, ixI hx] | refine Cut.go ?_))
      rw [pStore_push (by rfl) (by rfl)]
      (repeat (first | simp -dsimp -implicitDefEqProofs (disch := omega) only [↓gp0, ↓gp1, ↓gp2, gq0, gq1, gq2, gq3, gq4, gq5, gq6, gq7, gq8, gq9, go0, go1, gl0, gl1, gl2, gl3, ↓reduceIte, Nat.reduceEqDiff, Nat.reduceAdd, Nat.reduceLeDiff, pBuild, fillA, ↓Api_Local.r, ↓Api_Item.r, ↓Api_Instr.r, ↓Api_Body.r, ↓Api_Site.r, ↓Api_Section.r, ↓Api_Code.r, ↓Api_Path.r, ↓Code_maker.r, ↓Api_Value.r] | refine Cut.go ?_))
      unfold fieldV
      rw [e]
      exact ⟨rfl, Keeps.one _ _⟩
    | some f =>
      have hc := getI_some.2 ⟨f, hy⟩
      have e : fieldO m.Code m.body x = if isB m.body x.Src ⟨4, x.Rec, false⟩ then some f else none := by unfold fieldO; rw [hx]; simp only; rw [hy]
      (repeat (first | simp -dsimp -implicitDefEqProofs (disch := omega) only [↓gp0, ↓gp1, ↓gp2, gq0, gq1, gq2, gq3, gq4, gq5, gq6, gq7, gq8, gq9, go0, go1, gl0, gl1, gl2, gl3, ↓reduceIte, Nat.reduceEqDiff, Nat.reduceAdd, Nat.reduceLeDiff, pBuild, fillA, ↓Api_Local.r, ↓Api_Item.r, ↓Api_Instr.r, ↓Api_Body.r, ↓Api_Site.r, ↓Api_Section.r, ↓Api_Code.r, ↓Api_Path.r, ↓Code_maker.r, ↓Api_Value.r, hb, hc, ixI hx] | refine Cut.go ?_))
      refine (code_maker_is_does m x.Src ⟨4, x.Rec, false⟩ _).mono ?_
      rintro _ h1 ⟨rfl, k1⟩
      have ho : h1.objs h.next = some (.row 79 [.int .i64 0, .int .i64 0, .bool false]) := by
        rw [k1.objs _ (by simp) (by simp)]; simp
      have st : ∀ (l : Lo) (K : AHeap → Prop), pStore 3 (.ptr h.next 0) (.agg l.cells) h1 K = K (h1.put h.next (.row 79 l.cells)) := fun l K => by
        simp [pStore, ho, Api_Local.cells]
      have st0 : ∀ (K : AHeap → Prop), pStore 3 (.ptr h.next 0) (.agg [.int .i64 0, .int .i64 0, .bool false]) h1 K = K (h1.put h.next (.row 79 (Api_Local.cells ⟨0, 0, false⟩))) := st ⟨0, 0, false⟩
      have kp : ∀ l : Lo, Keeps h (h1.put h.next (.row 79 l.cells)) (fun _ => False) := fun l => by
        refine ⟨?_, fun i hi _ => ?_⟩
        · have := k1.next; simp at this ⊢; omega
        · simp only [AHeap.put_objs]
          rw [if_neg (by omega), k1.objs i (by simp; omega) (by simp)]
          simp; omega
      have ld : ∀ (l : Lo) (K : AV → Prop), pLoad (some 3) (.ptr h.next 0) (h1.put h.next (.row 79 l.cells)) K = K (.agg l.cells) := fun l K => by
        rw [pLoad_ptr (ty := 79) (cs := l.cells) (by simp)]; exact l.call K
      unfold fieldV
      rw [e]
      cases hi : isB m.body x.Src ⟨4, x.Rec, false⟩ with
      | false =>
        (repeat (first | simp -dsimp -implicitDefEqProofs (disch := omega) only [↓gp0, ↓gp1, ↓gp2, gq0, gq1, gq2, gq3, gq4, gq5, gq6, gq7, gq8, gq9, go0, go1, gl0, gl1, gl2, gl3, ↓reduceIte, Nat.reduceEqDiff, Nat.reduceAdd, Nat.reduceLeDiff, pBuild, fillA, ↓Api_Local.r, ↓Api_Item.r, ↓Api_Instr.r, ↓Api_Body.r, ↓Api_Site.r, ↓Api_Section.r, ↓Api_Code.r, ↓Api_Path.r, ↓Code_maker.r, ↓Api_Value.r, hb, hc, ixI hx, ixI hy, hi, st0, ld] | refine Cut.go ?_))
        exact ⟨rfl, kp _⟩
      | true =>
        (repeat (first | simp -dsimp -implicitDefEqProofs (disch := omega) only [↓gp0, ↓gp1, ↓gp2, gq0, gq1, gq2, gq3, gq4, gq5, gq6, gq7, gq8, gq9, go0, go1, gl0, gl1, gl2, gl3, ↓reduceIte, Nat.reduceEqDiff, Nat.reduceAdd, Nat.reduceLeDiff, pBuild, fillA, ↓Api_Local.r, ↓Api_Item.r, ↓Api_Instr.r, ↓Api_Body.r, ↓Api_Site.r, ↓Api_Section.r, ↓Api_Code.r, ↓Api_Path.r, ↓Code_maker.r, ↓Api_Value.r, hb, hc, ixI hx, ixI hy, hi, st, ld] | refine Cut.go ?_))
        exact ⟨rfl, kp _⟩

end Go.Proofs.Ytppldbldpphlmaa
