/- Own texts, merged: CdProg, CdProg2, CdProg3, CdProg4, CdProg5, CdProg6, CdProg7, CdGreat, CdRef. -/
import Derived.Test.YtopfjochppdnfaaDoorM5
set_option linter.unusedVariables false
set_option linter.unusedSimpArgs false
section
/- What the program's functions of codes compute: the small ones. -/
set_option maxRecDepth 100000
set_option maxHeartbeats 1000000
namespace Go.Proofs.YtopfjochppdnfaaDoor
open Go.Abs
theorem code_between_does (n m : Int) (h : AHeap) : CallsA Tryd.prog 62 [.int .i64 n, .int .i64 m] h (fun v h2 => v = .bool (btw n m) ∧ h2 = h) := by
  apply code_between_wp
  unfold btw
  repeat' (first | (simp -dsimp -implicitDefEqProofs (disch := omega) only [↓rP, rQ, rO, rL, ↓reduceIte, Nat.reduceEqDiff, Nat.reduceAdd, Nat.reduceLeDiff, pBuild, fillA]) | refine Cut.go ?_ | refine Split_eq (fun _ => ?_) (fun _ => ?_) | refine Split_ne (fun _ => ?_) (fun _ => ?_) | refine Split_lt (fun _ => ?_) (fun _ => ?_) | refine Split_le (fun _ => ?_) (fun _ => ?_) | refine Split.intro (fun _ => ?_) (fun _ => ?_))
  all_goals simp [*]
  all_goals omega
theorem ref_in_does (n m : Int) (h : AHeap) : CallsA Tryd.prog 38 [.int .i64 n, .int .i64 m] h (fun v h2 => v = .bool (btw n m) ∧ h2 = h) := by
  apply padlockref09_in_wp
  unfold btw
  repeat' (first | (simp -dsimp -implicitDefEqProofs (disch := omega) only [↓rP, rQ, rO, rL, ↓reduceIte, Nat.reduceEqDiff, Nat.reduceAdd, Nat.reduceLeDiff, pBuild, fillA]) | refine Cut.go ?_ | refine Split_eq (fun _ => ?_) (fun _ => ?_) | refine Split_ne (fun _ => ?_) (fun _ => ?_) | refine Split_lt (fun _ => ?_) (fun _ => ?_) | refine Split_le (fun _ => ?_) (fun _ => ?_) | refine Split.intro (fun _ => ?_) (fun _ => ?_))
  all_goals simp [*]
  all_goals omega
theorem ixf_Local_does (o : Option (List Api_Local)) (hl : (slL o).length ≤ 1000000) (p : Api_Local → Bool) (f : AV) (h : AHeap)
    (hf : ∀ x ∈ slL o, ∀ R : AV → AHeap → Prop, R (.bool (p x)) h → pCallF Tryd.prog f [.agg x.cells] h R) :
    CallsA Tryd.prog 67 [slAV 3 Api_Local.cells o, f] h (fun v h2 => v = .int .i64 (posI p (slL o)) ∧ h2 = h) := by
  apply slices_IndexFunc_api_Local_api_Local_wp
  (repeat simp -dsimp -implicitDefEqProofs (disch := omega) only [↓rP, rQ, rO, rL, ↓reduceIte, Nat.reduceEqDiff, Nat.reduceAdd, Nat.reduceLeDiff, pBuild, fillA])
  refine WP_loop mixed_ (by kernel_rfl) (fun m fr hh => ∃ k : Nat, k ≤ (slL o).length ∧ m = (slL o).length - k ∧ (∀ j x, j < k → (slL o)[j]? = some x → p x = false) ∧ hh = h ∧ fr = frOf [(0, slAV 3 Api_Local.cells o), (1, f), (7, .int .i64 (slL o).length), (8, .int .i64 k)]) (slL o).length ⟨0, by omega, by omega, fun j x hj => by omega, rfl, rfl⟩ ?_
  rintro m fr hh ⟨k, hk, rfl, hfa, rfl, rfl⟩
  apply slices_IndexFunc_api_Local_api_Local_loop2
  generalize hI : (fun (m : Nat) (fr : Fr) (hh : AHeap) => _) = I
  (repeat simp -dsimp -implicitDefEqProofs (disch := omega) only [↓rP, rQ, rO, rL, ↓reduceIte, Nat.reduceEqDiff, Nat.reduceAdd, Nat.reduceLeDiff, pBuild, fillA])
  refine Split_lt (fun hkl => ?_) (fun hkl => ?_)
  · obtain ⟨x, hx⟩ : ∃ x, (slL o)[k]? = some x := ⟨_, List.getElem?_eq_getElem (by omega)⟩
    have hl3 : (Api_Local.cells x).length = 3 := rfl
    have hc : (List.take 3 (Api_Local.cells x)) = x.cells := rfl
    (repeat simp -dsimp -implicitDefEqProofs (disch := omega) only [↓rP, rQ, rO, rL, ↓reduceIte, Nat.reduceEqDiff, Nat.reduceAdd, Nat.reduceLeDiff, pBuild, fillA, pIndexAddr_slAV hx, hl3, hc])
    refine hf x (List.mem_of_getElem? hx) _ ?_
    cases hp : p x with
    | true =>
      (repeat simp -dsimp -implicitDefEqProofs (disch := omega) only [↓rP, rQ, rO, rL, ↓reduceIte, Nat.reduceEqDiff, Nat.reduceAdd, Nat.reduceLeDiff, pBuild, fillA])
      rw [posI_here hx hp hfa]
    | false =>
      (repeat simp -dsimp -implicitDefEqProofs (disch := omega) only [↓rP, rQ, rO, rL, ↓reduceIte, Nat.reduceEqDiff, Nat.reduceAdd, Nat.reduceLeDiff, pBuild, fillA])
      rw [loopPost_normal, ← hI]
      refine ⟨_, ?_, k + 1, by omega, rfl, fun j y hj hy => ?_, rfl, rfl⟩
      · omega
      · by_cases e : j = k
        · subst e; rw [hx] at hy; cases hy; exact hp
        · exact hfa j y (by omega) hy
  · have hke : k = (slL o).length := by omega
    subst hke
    (repeat simp -dsimp -implicitDefEqProofs (disch := omega) only [↓rP, rQ, rO, rL, ↓reduceIte, Nat.reduceEqDiff, Nat.reduceAdd, Nat.reduceLeDiff, pBuild, fillA])
    rw [posI_none hfa]
theorem ixf_Section_does (o : Option (List Api_Section)) (hl : (slL o).length ≤ 1000000) (p : Api_Section → Bool) (f : AV) (h : AHeap)
    (hf : ∀ x ∈ slL o, ∀ R : AV → AHeap → Prop, R (.bool (p x)) h → pCallF Tryd.prog f [.agg x.cells] h R) :
    CallsA Tryd.prog 78 [slAV 3 Api_Section.cells o, f] h (fun v h2 => v = .int .i64 (posI p (slL o)) ∧ h2 = h) := by
  apply slices_IndexFunc_api_Section_api_Section_wp
  (repeat simp -dsimp -implicitDefEqProofs (disch := omega) only [↓rP, rQ, rO, rL, ↓reduceIte, Nat.reduceEqDiff, Nat.reduceAdd, Nat.reduceLeDiff, pBuild, fillA])
  refine WP_loop mixed_ (by kernel_rfl) (fun m fr hh => ∃ k : Nat, k ≤ (slL o).length ∧ m = (slL o).length - k ∧ (∀ j x, j < k → (slL o)[j]? = some x → p x = false) ∧ hh = h ∧ fr = frOf [(0, slAV 3 Api_Section.cells o), (1, f), (7, .int .i64 (slL o).length), (8, .int .i64 k)]) (slL o).length ⟨0, by omega, by omega, fun j x hj => by omega, rfl, rfl⟩ ?_
  rintro m fr hh ⟨k, hk, rfl, hfa, rfl, rfl⟩
  apply slices_IndexFunc_api_Section_api_Section_loop2
  generalize hI : (fun (m : Nat) (fr : Fr) (hh : AHeap) => _) = I
  (repeat simp -dsimp -implicitDefEqProofs (disch := omega) only [↓rP, rQ, rO, rL, ↓reduceIte, Nat.reduceEqDiff, Nat.reduceAdd, Nat.reduceLeDiff, pBuild, fillA])
  refine Split_lt (fun hkl => ?_) (fun hkl => ?_)
  · obtain ⟨x, hx⟩ : ∃ x, (slL o)[k]? = some x := ⟨_, List.getElem?_eq_getElem (by omega)⟩
    have hl3 : (Api_Section.cells x).length = 3 := rfl
    have hc : (List.take 3 (Api_Section.cells x)) = x.cells := rfl
    (repeat simp -dsimp -implicitDefEqProofs (disch := omega) only [↓rP, rQ, rO, rL, ↓reduceIte, Nat.reduceEqDiff, Nat.reduceAdd, Nat.reduceLeDiff, pBuild, fillA, pIndexAddr_slAV hx, hl3, hc])
    refine hf x (List.mem_of_getElem? hx) _ ?_
    cases hp : p x with
    | true =>
      (repeat simp -dsimp -implicitDefEqProofs (disch := omega) only [↓rP, rQ, rO, rL, ↓reduceIte, Nat.reduceEqDiff, Nat.reduceAdd, Nat.reduceLeDiff, pBuild, fillA])
      rw [posI_here hx hp hfa]
    | false =>
      (repeat simp -dsimp -implicitDefEqProofs (disch := omega) only [↓rP, rQ, rO, rL, ↓reduceIte, Nat.reduceEqDiff, Nat.reduceAdd, Nat.reduceLeDiff, pBuild, fillA])
      rw [loopPost_normal, ← hI]
      refine ⟨_, ?_, k + 1, by omega, rfl, fun j y hj hy => ?_, rfl, rfl⟩
      · omega
      · by_cases e : j = k
        · subst e; rw [hx] at hy; cases hy; exact hp
        · exact hfa j y (by omega) hy
  · have hke : k = (slL o).length := by omega
    subst hke
    (repeat simp -dsimp -implicitDefEqProofs (disch := omega) only [↓rP, rQ, rO, rL, ↓reduceIte, Nat.reduceEqDiff, Nat.reduceAdd, Nat.reduceLeDiff, pBuild, fillA])
    rw [posI_none hfa]
theorem code_Inside_does (c : Cd) (hc : c.ok) (hl : (slL c.Sections).length ≤ 1000000) (t a : Int) (h : AHeap) : CallsA Tryd.prog 69 [.agg c.cells, .int .i64 t, .int .i64 a] h (fun v h2 => v = .int .i64 (insI c t a) ∧ h2 = h) := by
  apply code_Inside_wp
  unfold Api_Code.cells
  (repeat simp -dsimp -implicitDefEqProofs (disch := omega) only [↓rP, rQ, rO, rL, ↓reduceIte, Nat.reduceEqDiff, Nat.reduceAdd, Nat.reduceLeDiff, pBuild, fillA])
  refine ixf_Section_does c.Sections hl (secP t a) _ h fun s hs R hR => ?_
  simp only [pCallF, List.nil_append, List.append_nil, List.singleton_append, List.cons_append]
  apply code_Inside_1_wp
  unfold Api_Section.cells
  unfold secP at hR
  repeat' (first | (simp -dsimp -implicitDefEqProofs (disch := omega) only [↓rP, rQ, rO, rL, ↓reduceIte, Nat.reduceEqDiff, Nat.reduceAdd, Nat.reduceLeDiff, pBuild, fillA]) | refine Cut.go ?_ | refine Split_eq (fun _ => ?_) (fun _ => ?_) | refine Split_ne (fun _ => ?_) (fun _ => ?_) | refine Split_lt (fun _ => ?_) (fun _ => ?_) | refine Split_le (fun _ => ?_) (fun _ => ?_) | refine Split.intro (fun _ => ?_) (fun _ => ?_))
  all_goals (refine Eq.mp (congrArg (fun b => R (AV.bool b) h) ?_) hR; simp [*]; try omega)
theorem code_local_does (c : Cd) (l : Lo) (h : AHeap) : CallsA Tryd.prog 61 [.agg c.cells, .agg l.cells] h (fun v h2 => v = .bool (localB c l) ∧ h2 = h) := by
  apply code_local_wp
  unfold Api_Code.cells Api_Local.cells localB
  (repeat simp -dsimp -implicitDefEqProofs (disch := omega) only [↓rP, rQ, rO, rL, ↓reduceIte, Nat.reduceEqDiff, Nat.reduceAdd, Nat.reduceLeDiff, pBuild, fillA])
  refine Split_eq (fun h4 => ?_) (fun h4 => ?_)
  · (repeat simp -dsimp -implicitDefEqProofs (disch := omega) only [↓rP, rQ, rO, rL, ↓reduceIte, Nat.reduceEqDiff, Nat.reduceAdd, Nat.reduceLeDiff, pBuild, fillA])
    rw [if_pos h4]
    exact code_between_does _ _ _
  · rw [if_neg h4]
    repeat' (first | (simp -dsimp -implicitDefEqProofs (disch := omega) only [↓rP, rQ, rO, rL, ↓reduceIte, Nat.reduceEqDiff, Nat.reduceAdd, Nat.reduceLeDiff, pBuild, fillA]) | refine Cut.go ?_ | refine Split_eq (fun _ => ?_) (fun _ => ?_) | refine Split_ne (fun _ => ?_) (fun _ => ?_) | refine Split_lt (fun _ => ?_) (fun _ => ?_) | refine Split_le (fun _ => ?_) (fun _ => ?_) | refine Split.intro (fun _ => ?_) (fun _ => ?_))
    all_goals (simp [beqI, *]; try omega)
theorem code_cells_does (c : Cd) (o : Option (List Lo)) (hl : (slL o).length ≤ 1000000) (most : Int) (h : AHeap) : CallsA Tryd.prog 45 [.agg c.cells, slAV 3 Api_Local.cells o, .int .i64 most] h (fun v h2 => v = .bool (cellsB c (slL o) most) ∧ h2 = h) := by
  apply code_cells_wp
  unfold cellsB
  (repeat simp -dsimp -implicitDefEqProofs (disch := omega) only [↓rP, rQ, rO, rL, ↓reduceIte, Nat.reduceEqDiff, Nat.reduceAdd, Nat.reduceLeDiff, pBuild, fillA, ↓tyr])
  refine Split_le (fun h4 => ?_) (fun h4 => ?_)
  · (repeat simp -dsimp -implicitDefEqProofs (disch := omega) only [↓rP, rQ, rO, rL, ↓reduceIte, Nat.reduceEqDiff, Nat.reduceAdd, Nat.reduceLeDiff, pBuild, fillA, ↓tyr])
    apply slices_ContainsFunc_api_Local_api_Local_wp
    refine (ixf_Local_does o hl (fun x => x.Once || !localB c x) _ h fun x hx R hR => ?_).mono ?_
    · simp only [pCallF, List.nil_append, List.append_nil, List.singleton_append, List.cons_append]
      apply code_cells_1_wp
      (repeat simp -dsimp -implicitDefEqProofs (disch := omega) only [↓rP, rQ, rO, rL, ↓reduceIte, Nat.reduceEqDiff, Nat.reduceAdd, Nat.reduceLeDiff, pBuild, fillA, ↓tyr])
      refine Split.intro (fun e => ?_) (fun e => ?_)
      · rw [e, Bool.true_or] at hR
        (repeat simp -dsimp -implicitDefEqProofs (disch := omega) only [↓rP, rQ, rO, rL, ↓reduceIte, Nat.reduceEqDiff, Nat.reduceAdd, Nat.reduceLeDiff, pBuild, fillA, ↓tyr, e])
        exact hR
      · rw [e, Bool.false_or] at hR
        (repeat simp -dsimp -implicitDefEqProofs (disch := omega) only [↓rP, rQ, rO, rL, ↓reduceIte, Nat.reduceEqDiff, Nat.reduceAdd, Nat.reduceLeDiff, pBuild, fillA, ↓tyr, e])
        refine (code_local_does c x h).mono ?_
        rintro _ _ ⟨rfl, rfl⟩
        (repeat simp -dsimp -implicitDefEqProofs (disch := omega) only [↓rP, rQ, rO, rL, ↓reduceIte, Nat.reduceEqDiff, Nat.reduceAdd, Nat.reduceLeDiff, pBuild, fillA, ↓tyr, e])
        exact hR
    · rintro _ _ ⟨rfl, rfl⟩
      have e1 : (slL o).any (fun x => x.Once || !localB c x) = !(slL o).all (fun x => !x.Once && localB c x) := by
        rw [List.not_all_eq_any_not]; congr 1; funext x; simp
      have e2 := posI_neg (p := fun x => x.Once || !localB c x) (l := slL o)
      rw [e1] at e2
      have e3 : decide (0 ≤ posI (fun x => x.Once || !localB c x) (slL o)) = !(slL o).all (fun x => !x.Once && localB c x) := by
        cases hb : (slL o).all (fun x => !x.Once && localB c x) with
        | true => rw [hb] at e2; simp at e2 ⊢; omega
        | false => rw [hb] at e2; simp at e2 ⊢; omega
      (repeat simp -dsimp -implicitDefEqProofs (disch := omega) only [↓rP, rQ, rO, rL, ↓reduceIte, Nat.reduceEqDiff, Nat.reduceAdd, Nat.reduceLeDiff, pBuild, fillA, ↓tyr, e3])
      try simp [h4]
  · (repeat simp -dsimp -implicitDefEqProofs (disch := omega) only [↓rP, rQ, rO, rL, ↓reduceIte, Nat.reduceEqDiff, Nat.reduceAdd, Nat.reduceLeDiff, pBuild, fillA, ↓tyr])
    all_goals (have : ¬ (((slL o).length : Int) ≤ most) := by omega)
    all_goals simp [this]
theorem ixI {α : Type} {sz : Nat} {enc : α → List AV} {o : Option (List α)} {n : Int} {x : α} (hx : getI (slL o) n = some x) (kk : IntKind) (K : AV → Prop) : pIndexAddr (.slice sz) (slAV sz enc o) (.int kk n) K = K (.iptr (enc x)) := by
  obtain ⟨k, rfl, hk⟩ := getI_nat hx
  exact pIndexAddr_slAV hk kk K
theorem code_same_does (a b : Lo) (h : AHeap) : CallsA Tryd.prog 86 [.agg a.cells, .agg b.cells] h (fun v h2 => v = .bool (sameB a b) ∧ h2 = h) := by
  apply code_same_wp
  unfold sameB
  repeat' (first | (simp -dsimp -implicitDefEqProofs (disch := omega) only [↓rP, rQ, rO, rL, ↓reduceIte, Nat.reduceEqDiff, Nat.reduceAdd, Nat.reduceLeDiff, pBuild, fillA, ↓tyr]) | refine Cut.go ?_ | refine Split_eq (fun _ => ?_) (fun _ => ?_) | refine Split_ne (fun _ => ?_) (fun _ => ?_) | refine Split_lt (fun _ => ?_) (fun _ => ?_) | refine Split_le (fun _ => ?_) (fun _ => ?_) | refine Split.intro (fun _ => ?_) (fun _ => ?_))
  all_goals (simp [beqI, *]; try omega)
def slotV (b : Bd) (n : Int) : Lo := (getI (slL b.Slots) n).getD ⟨0, 0, false⟩
theorem code_maker_slot_does (m : Code_maker) (n : Int) (h : AHeap) : CallsA Tryd.prog 70 [.agg m.cells, .int .i64 n] h (fun v h2 => v = .tup [.agg (slotV m.body n).cells, .bool (getI (slL m.body.Slots) n).isSome] ∧ Keeps h h2 (fun _ => False)) := by
  apply code_maker_slot_wp
  unfold slotV
  (repeat simp -dsimp -implicitDefEqProofs (disch := omega) only [↓rP, rQ, rO, rL, ↓reduceIte, Nat.reduceEqDiff, Nat.reduceAdd, Nat.reduceLeDiff, pBuild, fillA, ↓tyr])
  refine (code_between_does _ _ _).mono ?_
  rintro _ _ ⟨rfl, rfl⟩
  (repeat simp -dsimp -implicitDefEqProofs (disch := omega) only [↓rP, rQ, rO, rL, ↓reduceIte, Nat.reduceEqDiff, Nat.reduceAdd, Nat.reduceLeDiff, pBuild, fillA, ↓tyr])
  cases hx : getI (slL m.body.Slots) n with
  | none =>
    have hb := getI_none.2 hx
    (repeat simp -dsimp -implicitDefEqProofs (disch := omega) only [↓rP, rQ, rO, rL, ↓reduceIte, Nat.reduceEqDiff, Nat.reduceAdd, Nat.reduceLeDiff, pBuild, fillA, ↓tyr, hb])
    rw [pStore_push (by rfl) (by rfl)]
    (repeat simp -dsimp -implicitDefEqProofs (disch := omega) only [↓rP, rQ, rO, rL, ↓reduceIte, Nat.reduceEqDiff, Nat.reduceAdd, Nat.reduceLeDiff, pBuild, fillA, ↓tyr])
    exact ⟨rfl, Keeps.one _ _⟩
  | some x =>
    have hb := getI_some.2 ⟨x, hx⟩
    (repeat simp -dsimp -implicitDefEqProofs (disch := omega) only [↓rP, rQ, rO, rL, ↓reduceIte, Nat.reduceEqDiff, Nat.reduceAdd, Nat.reduceLeDiff, pBuild, fillA, ↓tyr, hb, ixI hx])
    exact ⟨rfl, Keeps.one _ _⟩
theorem code_maker_is_does (m : Code_maker) (n : Int) (want : Lo) (h : AHeap) : CallsA Tryd.prog 81 [.agg m.cells, .int .i64 n, .agg want.cells] h (fun v h2 => v = .bool (isB m.body n want) ∧ Keeps h h2 (fun _ => False)) := by
  apply code_maker_is_wp
  unfold isB
  (repeat simp -dsimp -implicitDefEqProofs (disch := omega) only [↓rP, rQ, rO, rL, ↓reduceIte, Nat.reduceEqDiff, Nat.reduceAdd, Nat.reduceLeDiff, pBuild, fillA, ↓tyr])
  refine (code_maker_slot_does m n _).mono ?_
  rintro _ _ ⟨rfl, _⟩
  (repeat simp -dsimp -implicitDefEqProofs (disch := omega) only [↓rP, rQ, rO, rL, ↓reduceIte, Nat.reduceEqDiff, Nat.reduceAdd, Nat.reduceLeDiff, pBuild, fillA, ↓tyr])
  unfold slotV
  cases hx : getI (slL m.body.Slots) n with
  | none =>
    simp only [Option.getD_none, Option.isSome_none]
    (repeat simp -dsimp -implicitDefEqProofs (disch := omega) only [↓rP, rQ, rO, rL, ↓reduceIte, Nat.reduceEqDiff, Nat.reduceAdd, Nat.reduceLeDiff, pBuild, fillA, ↓tyr])
    (repeat (first | assumption | with_reducible exact Keeps.refl _ _ | with_reducible refine Keeps.go ?_ (Keeps.one _ _) | with_reducible refine Keeps.go ?_ (by assumption)))
  | some x =>
    simp only [Option.getD_some, Option.isSome_some]
    (repeat simp -dsimp -implicitDefEqProofs (disch := omega) only [↓rP, rQ, rO, rL, ↓reduceIte, Nat.reduceEqDiff, Nat.reduceAdd, Nat.reduceLeDiff, pBuild, fillA, ↓tyr])
    refine (code_same_does x want _).mono ?_
    rintro _ _ ⟨rfl, rfl⟩
    (repeat simp -dsimp -implicitDefEqProofs (disch := omega) only [↓rP, rQ, rO, rL, ↓reduceIte, Nat.reduceEqDiff, Nat.reduceAdd, Nat.reduceLeDiff, pBuild, fillA, ↓tyr])
    (repeat (first | assumption | with_reducible exact Keeps.refl _ _ | with_reducible refine Keeps.go ?_ (Keeps.one _ _) | with_reducible refine Keeps.go ?_ (by assumption)))
theorem code_maker_good_does (m : Code_maker) (hm : m.ok) (o : Option (List It)) (ho : okSl Api_Item.ok o) (h : AHeap) : CallsA Tryd.prog 72 [.agg m.cells, slAV 3 Api_Item.cells o] h (fun v h2 => v = .bool (itemsB m.body o) ∧ Keeps h h2 (fun _ => False)) := by
  apply code_maker_good_wp
  (repeat simp -dsimp -implicitDefEqProofs (disch := omega) only [↓rP, rQ, rO, rL, ↓reduceIte, Nat.reduceEqDiff, Nat.reduceAdd, Nat.reduceLeDiff, pBuild, fillA, ↓tyr])
  have := hm.2.2.1.1
  unfold maxLen at this
  exact calc_Good_does _ (by unfold okI; omega) o ho h
def fieldV (c : Cd) (b : Bd) (x : In) : Lo := (fieldO c b x).getD ⟨0, 0, false⟩
theorem code_maker_field_does (m : Code_maker) (x : In) (h : AHeap) : CallsA Tryd.prog 82 [.agg m.cells, .agg x.cells] h (fun v h2 => v = .tup [.agg (fieldV m.Code m.body x).cells, .bool (fieldO m.Code m.body x).isSome] ∧ Keeps h h2 (fun _ => False)) := by
  apply code_maker_field_wp
  (repeat simp -dsimp -implicitDefEqProofs (disch := omega) only [↓rP, rQ, rO, rL, ↓reduceIte, Nat.reduceEqDiff, Nat.reduceAdd, Nat.reduceLeDiff, pBuild, fillA, ↓tyr])
  refine (code_between_does _ _ _).mono ?_
  rintro _ _ ⟨rfl, rfl⟩
  (repeat simp -dsimp -implicitDefEqProofs (disch := omega) only [↓rP, rQ, rO, rL, ↓reduceIte, Nat.reduceEqDiff, Nat.reduceAdd, Nat.reduceLeDiff, pBuild, fillA, ↓tyr])
  cases hx : getI (slL m.Code.Records) x.Rec with
  | none =>
    have hb := getI_none.2 hx
    have e : fieldO m.Code m.body x = none := by unfold fieldO; rw [hx]
    (repeat simp -dsimp -implicitDefEqProofs (disch := omega) only [↓rP, rQ, rO, rL, ↓reduceIte, Nat.reduceEqDiff, Nat.reduceAdd, Nat.reduceLeDiff, pBuild, fillA, ↓tyr, hb])
    rw [pStore_push (by rfl) (by rfl)]
    (repeat simp -dsimp -implicitDefEqProofs (disch := omega) only [↓rP, rQ, rO, rL, ↓reduceIte, Nat.reduceEqDiff, Nat.reduceAdd, Nat.reduceLeDiff, pBuild, fillA, ↓tyr])
    unfold fieldV
    rw [e]
    exact ⟨rfl, Keeps.one _ _⟩
  | some r =>
    have hb := getI_some.2 ⟨r, hx⟩
    (repeat simp -dsimp -implicitDefEqProofs (disch := omega) only [↓rP, rQ, rO, rL, ↓reduceIte, Nat.reduceEqDiff, Nat.reduceAdd, Nat.reduceLeDiff, pBuild, fillA, ↓tyr, hb, ixI hx])
    refine (code_between_does _ _ _).mono ?_
    rintro _ _ ⟨rfl, rfl⟩
    (repeat simp -dsimp -implicitDefEqProofs (disch := omega) only [↓rP, rQ, rO, rL, ↓reduceIte, Nat.reduceEqDiff, Nat.reduceAdd, Nat.reduceLeDiff, pBuild, fillA, ↓tyr])
    cases hy : getI (slL r) x.N with
    | none =>
      have hc := getI_none.2 hy
      have e : fieldO m.Code m.body x = none := by unfold fieldO; rw [hx]; simp only; rw [hy]
      (repeat simp -dsimp -implicitDefEqProofs (disch := omega) only [↓rP, rQ, rO, rL, ↓reduceIte, Nat.reduceEqDiff, Nat.reduceAdd, Nat.reduceLeDiff, pBuild, fillA, ↓tyr, hb, hc, ixI hx])
      rw [pStore_push (by rfl) (by rfl)]
      (repeat simp -dsimp -implicitDefEqProofs (disch := omega) only [↓rP, rQ, rO, rL, ↓reduceIte, Nat.reduceEqDiff, Nat.reduceAdd, Nat.reduceLeDiff, pBuild, fillA, ↓tyr])
      unfold fieldV
      rw [e]
      exact ⟨rfl, Keeps.one _ _⟩
    | some f =>
      have hc := getI_some.2 ⟨f, hy⟩
      have e : fieldO m.Code m.body x = if isB m.body x.Src ⟨4, x.Rec, false⟩ then some f else none := by unfold fieldO; rw [hx]; simp only; rw [hy]
      (repeat simp -dsimp -implicitDefEqProofs (disch := omega) only [↓rP, rQ, rO, rL, ↓reduceIte, Nat.reduceEqDiff, Nat.reduceAdd, Nat.reduceLeDiff, pBuild, fillA, ↓tyr, hb, hc, ixI hx])
      refine (code_maker_is_does m x.Src ⟨4, x.Rec, false⟩ _).mono ?_
      rintro _ h1 ⟨rfl, k1⟩
      have ho : h1.objs h.next = some (.row 69 [.int .i64 0, .int .i64 0, .bool false]) := by
        rw [k1.objs _ (by simp) (by simp)]; simp
      have st : ∀ (l : Lo) (K : AHeap → Prop), pStore 3 (.ptr h.next 0) (.agg l.cells) h1 K = K (h1.put h.next (.row 69 l.cells)) := fun l K => by
        simp [pStore, ho, Api_Local.cells]
      have st0 : ∀ (K : AHeap → Prop), pStore 3 (.ptr h.next 0) (.agg [.int .i64 0, .int .i64 0, .bool false]) h1 K = K (h1.put h.next (.row 69 (Api_Local.cells ⟨0, 0, false⟩))) := st ⟨0, 0, false⟩
      have kp : ∀ l : Lo, Keeps h (h1.put h.next (.row 69 l.cells)) (fun _ => False) := fun l => by
        refine ⟨?_, fun i hi _ => ?_⟩
        · have := k1.next; simp at this ⊢; omega
        · simp only [AHeap.put_objs]
          rw [if_neg (by omega), k1.objs i (by simp; omega) (by simp)]
          simp; omega
      have ld : ∀ (l : Lo) (K : AV → Prop), pLoad (some 3) (.ptr h.next 0) (h1.put h.next (.row 69 l.cells)) K = K (.agg l.cells) := fun l K => by
        rw [pLoad_ptr (ty := 69) (cs := l.cells) (by simp)]; exact l.call K
      unfold fieldV
      rw [e]
      cases hi : isB m.body x.Src ⟨4, x.Rec, false⟩ with
      | false =>
        (repeat simp -dsimp -implicitDefEqProofs (disch := omega) only [↓rP, rQ, rO, rL, ↓reduceIte, Nat.reduceEqDiff, Nat.reduceAdd, Nat.reduceLeDiff, pBuild, fillA, ↓tyr, hb, hc, ixI hx, ixI hy, hi, st0, ld])
        exact ⟨rfl, kp _⟩
      | true =>
        (repeat simp -dsimp -implicitDefEqProofs (disch := omega) only [↓rP, rQ, rO, rL, ↓reduceIte, Nat.reduceEqDiff, Nat.reduceAdd, Nat.reduceLeDiff, pBuild, fillA, ↓tyr, hb, hc, ixI hx, ixI hy, hi, st, ld])
        exact ⟨rfl, kp _⟩
end Go.Proofs.YtopfjochppdnfaaDoor
end

section
/- What the program's functions of codes compute: plain instructions, sites. -/
set_option maxRecDepth 100000
set_option maxHeartbeats 1000000
namespace Go.Proofs.YtopfjochppdnfaaDoor
open Go.Abs
theorem plain_1001000 (x : In) (h : AHeap) : CallsA Tryd.prog 71 [.agg x.cells, .bool true, .bool false, .bool false, .bool true, .bool false, .bool false, .bool false] h (fun v h2 => v = .bool (plainB x true false false true false false false) ∧ h2 = h) := by
  apply code_plain_wp
  unfold plainB
  repeat' (first | (simp -dsimp -implicitDefEqProofs (disch := omega) only [↓rP, rQ, rO, rL, ↓reduceIte, Nat.reduceEqDiff, Nat.reduceAdd, Nat.reduceLeDiff, pBuild, fillA, ↓tyr]) | refine Cut.go ?_ | refine Split_eq (fun _ => ?_) (fun _ => ?_) | refine Split_ne (fun _ => ?_) (fun _ => ?_) | refine Split_lt (fun _ => ?_) (fun _ => ?_) | refine Split_le (fun _ => ?_) (fun _ => ?_) | refine Split.intro (fun _ => ?_) (fun _ => ?_))
  all_goals (simp [beqI, *, -Int.natCast_eq_zero, -List.length_eq_zero_iff]; try omega)
theorem plain_1111000 (x : In) (h : AHeap) : CallsA Tryd.prog 71 [.agg x.cells, .bool true, .bool true, .bool true, .bool true, .bool false, .bool false, .bool false] h (fun v h2 => v = .bool (plainB x true true true true false false false) ∧ h2 = h) := by
  apply code_plain_wp
  unfold plainB
  repeat' (first | (simp -dsimp -implicitDefEqProofs (disch := omega) only [↓rP, rQ, rO, rL, ↓reduceIte, Nat.reduceEqDiff, Nat.reduceAdd, Nat.reduceLeDiff, pBuild, fillA, ↓tyr]) | refine Cut.go ?_ | refine Split_eq (fun _ => ?_) (fun _ => ?_) | refine Split_ne (fun _ => ?_) (fun _ => ?_) | refine Split_lt (fun _ => ?_) (fun _ => ?_) | refine Split_le (fun _ => ?_) (fun _ => ?_) | refine Split.intro (fun _ => ?_) (fun _ => ?_))
  all_goals (simp [beqI, *, -Int.natCast_eq_zero, -List.length_eq_zero_iff]; try omega)
theorem plain_1100001 (x : In) (h : AHeap) : CallsA Tryd.prog 71 [.agg x.cells, .bool true, .bool true, .bool false, .bool false, .bool false, .bool false, .bool true] h (fun v h2 => v = .bool (plainB x true true false false false false true) ∧ h2 = h) := by
  apply code_plain_wp
  unfold plainB
  repeat' (first | (simp -dsimp -implicitDefEqProofs (disch := omega) only [↓rP, rQ, rO, rL, ↓reduceIte, Nat.reduceEqDiff, Nat.reduceAdd, Nat.reduceLeDiff, pBuild, fillA, ↓tyr]) | refine Cut.go ?_ | refine Split_eq (fun _ => ?_) (fun _ => ?_) | refine Split_ne (fun _ => ?_) (fun _ => ?_) | refine Split_lt (fun _ => ?_) (fun _ => ?_) | refine Split_le (fun _ => ?_) (fun _ => ?_) | refine Split.intro (fun _ => ?_) (fun _ => ?_))
  all_goals (simp [beqI, *, -Int.natCast_eq_zero, -List.length_eq_zero_iff]; try omega)
theorem plain_1100000 (x : In) (h : AHeap) : CallsA Tryd.prog 71 [.agg x.cells, .bool true, .bool true, .bool false, .bool false, .bool false, .bool false, .bool false] h (fun v h2 => v = .bool (plainB x true true false false false false false) ∧ h2 = h) := by
  apply code_plain_wp
  unfold plainB
  repeat' (first | (simp -dsimp -implicitDefEqProofs (disch := omega) only [↓rP, rQ, rO, rL, ↓reduceIte, Nat.reduceEqDiff, Nat.reduceAdd, Nat.reduceLeDiff, pBuild, fillA, ↓tyr]) | refine Cut.go ?_ | refine Split_eq (fun _ => ?_) (fun _ => ?_) | refine Split_ne (fun _ => ?_) (fun _ => ?_) | refine Split_lt (fun _ => ?_) (fun _ => ?_) | refine Split_le (fun _ => ?_) (fun _ => ?_) | refine Split.intro (fun _ => ?_) (fun _ => ?_))
  all_goals (simp [beqI, *, -Int.natCast_eq_zero, -List.length_eq_zero_iff]; try omega)
theorem plain_1011000 (x : In) (h : AHeap) : CallsA Tryd.prog 71 [.agg x.cells, .bool true, .bool false, .bool true, .bool true, .bool false, .bool false, .bool false] h (fun v h2 => v = .bool (plainB x true false true true false false false) ∧ h2 = h) := by
  apply code_plain_wp
  unfold plainB
  repeat' (first | (simp -dsimp -implicitDefEqProofs (disch := omega) only [↓rP, rQ, rO, rL, ↓reduceIte, Nat.reduceEqDiff, Nat.reduceAdd, Nat.reduceLeDiff, pBuild, fillA, ↓tyr]) | refine Cut.go ?_ | refine Split_eq (fun _ => ?_) (fun _ => ?_) | refine Split_ne (fun _ => ?_) (fun _ => ?_) | refine Split_lt (fun _ => ?_) (fun _ => ?_) | refine Split_le (fun _ => ?_) (fun _ => ?_) | refine Split.intro (fun _ => ?_) (fun _ => ?_))
  all_goals (simp [beqI, *, -Int.natCast_eq_zero, -List.length_eq_zero_iff]; try omega)
theorem plain_1001010 (x : In) (h : AHeap) : CallsA Tryd.prog 71 [.agg x.cells, .bool true, .bool false, .bool false, .bool true, .bool false, .bool true, .bool false] h (fun v h2 => v = .bool (plainB x true false false true false true false) ∧ h2 = h) := by
  apply code_plain_wp
  unfold plainB
  repeat' (first | (simp -dsimp -implicitDefEqProofs (disch := omega) only [↓rP, rQ, rO, rL, ↓reduceIte, Nat.reduceEqDiff, Nat.reduceAdd, Nat.reduceLeDiff, pBuild, fillA, ↓tyr]) | refine Cut.go ?_ | refine Split_eq (fun _ => ?_) (fun _ => ?_) | refine Split_ne (fun _ => ?_) (fun _ => ?_) | refine Split_lt (fun _ => ?_) (fun _ => ?_) | refine Split_le (fun _ => ?_) (fun _ => ?_) | refine Split.intro (fun _ => ?_) (fun _ => ?_))
  all_goals (simp [beqI, *, -Int.natCast_eq_zero, -List.length_eq_zero_iff]; try omega)
theorem plain_0001010 (x : In) (h : AHeap) : CallsA Tryd.prog 71 [.agg x.cells, .bool false, .bool false, .bool false, .bool true, .bool false, .bool true, .bool false] h (fun v h2 => v = .bool (plainB x false false false true false true false) ∧ h2 = h) := by
  apply code_plain_wp
  unfold plainB
  repeat' (first | (simp -dsimp -implicitDefEqProofs (disch := omega) only [↓rP, rQ, rO, rL, ↓reduceIte, Nat.reduceEqDiff, Nat.reduceAdd, Nat.reduceLeDiff, pBuild, fillA, ↓tyr]) | refine Cut.go ?_ | refine Split_eq (fun _ => ?_) (fun _ => ?_) | refine Split_ne (fun _ => ?_) (fun _ => ?_) | refine Split_lt (fun _ => ?_) (fun _ => ?_) | refine Split_le (fun _ => ?_) (fun _ => ?_) | refine Split.intro (fun _ => ?_) (fun _ => ?_))
  all_goals (simp [beqI, *, -Int.natCast_eq_zero, -List.length_eq_zero_iff]; try omega)
theorem plain_0111010 (x : In) (h : AHeap) : CallsA Tryd.prog 71 [.agg x.cells, .bool false, .bool true, .bool true, .bool true, .bool false, .bool true, .bool false] h (fun v h2 => v = .bool (plainB x false true true true false true false) ∧ h2 = h) := by
  apply code_plain_wp
  unfold plainB
  repeat' (first | (simp -dsimp -implicitDefEqProofs (disch := omega) only [↓rP, rQ, rO, rL, ↓reduceIte, Nat.reduceEqDiff, Nat.reduceAdd, Nat.reduceLeDiff, pBuild, fillA, ↓tyr]) | refine Cut.go ?_ | refine Split_eq (fun _ => ?_) (fun _ => ?_) | refine Split_ne (fun _ => ?_) (fun _ => ?_) | refine Split_lt (fun _ => ?_) (fun _ => ?_) | refine Split_le (fun _ => ?_) (fun _ => ?_) | refine Split.intro (fun _ => ?_) (fun _ => ?_))
  all_goals (simp [beqI, *, -Int.natCast_eq_zero, -List.length_eq_zero_iff]; try omega)
theorem plain_0100011 (x : In) (h : AHeap) : CallsA Tryd.prog 71 [.agg x.cells, .bool false, .bool true, .bool false, .bool false, .bool false, .bool true, .bool true] h (fun v h2 => v = .bool (plainB x false true false false false true true) ∧ h2 = h) := by
  apply code_plain_wp
  unfold plainB
  repeat' (first | (simp -dsimp -implicitDefEqProofs (disch := omega) only [↓rP, rQ, rO, rL, ↓reduceIte, Nat.reduceEqDiff, Nat.reduceAdd, Nat.reduceLeDiff, pBuild, fillA, ↓tyr]) | refine Cut.go ?_ | refine Split_eq (fun _ => ?_) (fun _ => ?_) | refine Split_ne (fun _ => ?_) (fun _ => ?_) | refine Split_lt (fun _ => ?_) (fun _ => ?_) | refine Split_le (fun _ => ?_) (fun _ => ?_) | refine Split.intro (fun _ => ?_) (fun _ => ?_))
  all_goals (simp [beqI, *, -Int.natCast_eq_zero, -List.length_eq_zero_iff]; try omega)
theorem plain_0001000 (x : In) (h : AHeap) : CallsA Tryd.prog 71 [.agg x.cells, .bool false, .bool false, .bool false, .bool true, .bool false, .bool false, .bool false] h (fun v h2 => v = .bool (plainB x false false false true false false false) ∧ h2 = h) := by
  apply code_plain_wp
  unfold plainB
  repeat' (first | (simp -dsimp -implicitDefEqProofs (disch := omega) only [↓rP, rQ, rO, rL, ↓reduceIte, Nat.reduceEqDiff, Nat.reduceAdd, Nat.reduceLeDiff, pBuild, fillA, ↓tyr]) | refine Cut.go ?_ | refine Split_eq (fun _ => ?_) (fun _ => ?_) | refine Split_ne (fun _ => ?_) (fun _ => ?_) | refine Split_lt (fun _ => ?_) (fun _ => ?_) | refine Split_le (fun _ => ?_) (fun _ => ?_) | refine Split.intro (fun _ => ?_) (fun _ => ?_))
  all_goals (simp [beqI, *, -Int.natCast_eq_zero, -List.length_eq_zero_iff]; try omega)
theorem plain_1000010 (x : In) (h : AHeap) : CallsA Tryd.prog 71 [.agg x.cells, .bool true, .bool false, .bool false, .bool false, .bool false, .bool true, .bool false] h (fun v h2 => v = .bool (plainB x true false false false false true false) ∧ h2 = h) := by
  apply code_plain_wp
  unfold plainB
  repeat' (first | (simp -dsimp -implicitDefEqProofs (disch := omega) only [↓rP, rQ, rO, rL, ↓reduceIte, Nat.reduceEqDiff, Nat.reduceAdd, Nat.reduceLeDiff, pBuild, fillA, ↓tyr]) | refine Cut.go ?_ | refine Split_eq (fun _ => ?_) (fun _ => ?_) | refine Split_ne (fun _ => ?_) (fun _ => ?_) | refine Split_lt (fun _ => ?_) (fun _ => ?_) | refine Split_le (fun _ => ?_) (fun _ => ?_) | refine Split.intro (fun _ => ?_) (fun _ => ?_))
  all_goals (simp [beqI, *, -Int.natCast_eq_zero, -List.length_eq_zero_iff]; try omega)
theorem plain_0000010 (x : In) (h : AHeap) : CallsA Tryd.prog 71 [.agg x.cells, .bool false, .bool false, .bool false, .bool false, .bool false, .bool true, .bool false] h (fun v h2 => v = .bool (plainB x false false false false false true false) ∧ h2 = h) := by
  apply code_plain_wp
  unfold plainB
  repeat' (first | (simp -dsimp -implicitDefEqProofs (disch := omega) only [↓rP, rQ, rO, rL, ↓reduceIte, Nat.reduceEqDiff, Nat.reduceAdd, Nat.reduceLeDiff, pBuild, fillA, ↓tyr]) | refine Cut.go ?_ | refine Split_eq (fun _ => ?_) (fun _ => ?_) | refine Split_ne (fun _ => ?_) (fun _ => ?_) | refine Split_lt (fun _ => ?_) (fun _ => ?_) | refine Split_le (fun _ => ?_) (fun _ => ?_) | refine Split.intro (fun _ => ?_) (fun _ => ?_))
  all_goals (simp [beqI, *, -Int.natCast_eq_zero, -List.length_eq_zero_iff]; try omega)
theorem plain_0000100 (x : In) (h : AHeap) : CallsA Tryd.prog 71 [.agg x.cells, .bool false, .bool false, .bool false, .bool false, .bool true, .bool false, .bool false] h (fun v h2 => v = .bool (plainB x false false false false true false false) ∧ h2 = h) := by
  apply code_plain_wp
  unfold plainB
  repeat' (first | (simp -dsimp -implicitDefEqProofs (disch := omega) only [↓rP, rQ, rO, rL, ↓reduceIte, Nat.reduceEqDiff, Nat.reduceAdd, Nat.reduceLeDiff, pBuild, fillA, ↓tyr]) | refine Cut.go ?_ | refine Split_eq (fun _ => ?_) (fun _ => ?_) | refine Split_ne (fun _ => ?_) (fun _ => ?_) | refine Split_lt (fun _ => ?_) (fun _ => ?_) | refine Split_le (fun _ => ?_) (fun _ => ?_) | refine Split.intro (fun _ => ?_) (fun _ => ?_))
  all_goals (simp [beqI, *, -Int.natCast_eq_zero, -List.length_eq_zero_iff]; try omega)
theorem plain_0000110 (x : In) (h : AHeap) : CallsA Tryd.prog 71 [.agg x.cells, .bool false, .bool false, .bool false, .bool false, .bool true, .bool true, .bool false] h (fun v h2 => v = .bool (plainB x false false false false true true false) ∧ h2 = h) := by
  apply code_plain_wp
  unfold plainB
  repeat' (first | (simp -dsimp -implicitDefEqProofs (disch := omega) only [↓rP, rQ, rO, rL, ↓reduceIte, Nat.reduceEqDiff, Nat.reduceAdd, Nat.reduceLeDiff, pBuild, fillA, ↓tyr]) | refine Cut.go ?_ | refine Split_eq (fun _ => ?_) (fun _ => ?_) | refine Split_ne (fun _ => ?_) (fun _ => ?_) | refine Split_lt (fun _ => ?_) (fun _ => ?_) | refine Split_le (fun _ => ?_) (fun _ => ?_) | refine Split.intro (fun _ => ?_) (fun _ => ?_))
  all_goals (simp [beqI, *, -Int.natCast_eq_zero, -List.length_eq_zero_iff]; try omega)
theorem plain_0000000 (x : In) (h : AHeap) : CallsA Tryd.prog 71 [.agg x.cells, .bool false, .bool false, .bool false, .bool false, .bool false, .bool false, .bool false] h (fun v h2 => v = .bool (plainB x false false false false false false false) ∧ h2 = h) := by
  apply code_plain_wp
  unfold plainB
  repeat' (first | (simp -dsimp -implicitDefEqProofs (disch := omega) only [↓rP, rQ, rO, rL, ↓reduceIte, Nat.reduceEqDiff, Nat.reduceAdd, Nat.reduceLeDiff, pBuild, fillA, ↓tyr]) | refine Cut.go ?_ | refine Split_eq (fun _ => ?_) (fun _ => ?_) | refine Split_ne (fun _ => ?_) (fun _ => ?_) | refine Split_lt (fun _ => ?_) (fun _ => ?_) | refine Split_le (fun _ => ?_) (fun _ => ?_) | refine Split.intro (fun _ => ?_) (fun _ => ?_))
  all_goals (simp [beqI, *, -Int.natCast_eq_zero, -List.length_eq_zero_iff]; try omega)
theorem site_eq (a b : Api_Site) : binA (CmpK.flat [LK.int, LK.int, LK.int]) BinOp.eql (.agg a.cells) (.agg b.cells) = some (.bool (decide (a = b))) := by
  obtain ⟨a1, a2, a3⟩ := a
  obtain ⟨b1, b2, b3⟩ := b
  simp only [binA, binCmp, Api_Site.cells, eqCells, eqn]
  simp only [if_true, Option.map_some, Option.bind_some]
  congr 2
  rw [Bool.eq_iff_iff]
  simp
theorem code_maker_site_does (m : Code_maker) (x : In) (a rec : Int) (h : AHeap) : CallsA Tryd.prog 83 [.agg m.cells, .agg x.cells, .int .i64 a, .int .i64 rec] h (fun v h2 => v = .bool (siteB m.Code m.thread x a rec) ∧ h2 = h) := by
  apply code_maker_site_wp
  unfold siteB
  (repeat simp -dsimp -implicitDefEqProofs (disch := omega) only [↓rP, rQ, rO, rL, ↓reduceIte, Nat.reduceEqDiff, Nat.reduceAdd, Nat.reduceLeDiff, pBuild, fillA, ↓tyr])
  refine (code_between_does _ _ _).mono ?_
  rintro _ _ ⟨rfl, rfl⟩
  (repeat simp -dsimp -implicitDefEqProofs (disch := omega) only [↓rP, rQ, rO, rL, ↓reduceIte, Nat.reduceEqDiff, Nat.reduceAdd, Nat.reduceLeDiff, pBuild, fillA, ↓tyr])
  cases hx : getI (slL m.Code.Sites) x.N with
  | none =>
    have hb := getI_none.2 hx
    (repeat simp -dsimp -implicitDefEqProofs (disch := omega) only [↓rP, rQ, rO, rL, ↓reduceIte, Nat.reduceEqDiff, Nat.reduceAdd, Nat.reduceLeDiff, pBuild, fillA, ↓tyr, hb])
    simp
  | some r =>
    have hb := getI_some.2 ⟨r, hx⟩
    have hbc : binA (CmpK.flat [LK.int, LK.int, LK.int]) BinOp.eql (.agg r.cells) (.agg [.int .i64 m.thread, .int .i64 a, .int .i64 rec]) = some (.bool (decide (r = ⟨m.thread, a, rec⟩))) := site_eq r ⟨m.thread, a, rec⟩
    (repeat simp -dsimp -implicitDefEqProofs (disch := omega) only [↓rP, rQ, rO, rL, ↓reduceIte, Nat.reduceEqDiff, Nat.reduceAdd, Nat.reduceLeDiff, pBuild, fillA, ↓tyr, hb, ixI hx, hbc])
    simp
theorem code_shared_does (op : Int) (h : AHeap) : CallsA Tryd.prog 68 [.int .i64 op] h (fun v h2 => v = .bool (decide (2 ≤ op) && decide (op ≤ 9)) ∧ h2 = h) := by
  apply code_shared_wp
  repeat' (first | (simp -dsimp -implicitDefEqProofs (disch := omega) only [↓rP, rQ, rO, rL, ↓reduceIte, Nat.reduceEqDiff, Nat.reduceAdd, Nat.reduceLeDiff, pBuild, fillA, ↓tyr]) | refine Cut.go ?_ | refine Split_eq (fun _ => ?_) (fun _ => ?_) | refine Split_ne (fun _ => ?_) (fun _ => ?_) | refine Split_lt (fun _ => ?_) (fun _ => ?_) | refine Split_le (fun _ => ?_) (fun _ => ?_) | refine Split.intro (fun _ => ?_) (fun _ => ?_))
  all_goals (simp [beqI, *, -Int.natCast_eq_zero, -List.length_eq_zero_iff]; try omega)
theorem code_maker_goes_does (m : Code_maker) (hm : m.ok) (hs : (slL m.Code.Sections).length ≤ 1000000) (a to : Int) (h : AHeap) : CallsA Tryd.prog 75 [.agg m.cells, .int .i64 a, .int .i64 to] h (fun v h2 => v = .bool (goesB m.Code m.thread m.body a to) ∧ h2 = h) := by
  apply code_maker_goes_wp
  unfold goesB
  (repeat simp -dsimp -implicitDefEqProofs (disch := omega) only [↓rP, rQ, rO, rL, ↓reduceIte, Nat.reduceEqDiff, Nat.reduceAdd, Nat.reduceLeDiff, pBuild, fillA, ↓tyr])
  refine (code_between_does _ _ _).mono ?_
  rintro _ _ ⟨rfl, rfl⟩
  (repeat simp -dsimp -implicitDefEqProofs (disch := omega) only [↓rP, rQ, rO, rL, ↓reduceIte, Nat.reduceEqDiff, Nat.reduceAdd, Nat.reduceLeDiff, pBuild, fillA, ↓tyr])
  refine Split.intro (fun e => ?_) (fun e => ?_)
  · (repeat simp -dsimp -implicitDefEqProofs (disch := omega) only [↓rP, rQ, rO, rL, ↓reduceIte, Nat.reduceEqDiff, Nat.reduceAdd, Nat.reduceLeDiff, pBuild, fillA, ↓tyr])
    have e2 : btw to (slL m.body.Code).length = false := by simpa using e
    simp [e2]
  · have e2 : btw to (slL m.body.Code).length = true := by simpa using e
    (repeat simp -dsimp -implicitDefEqProofs (disch := omega) only [↓rP, rQ, rO, rL, ↓reduceIte, Nat.reduceEqDiff, Nat.reduceAdd, Nat.reduceLeDiff, pBuild, fillA, ↓tyr])
    refine (code_Inside_does m.Code hm.1 hs m.thread a _).mono ?_
    rintro _ _ ⟨rfl, rfl⟩
    (repeat simp -dsimp -implicitDefEqProofs (disch := omega) only [↓rP, rQ, rO, rL, ↓reduceIte, Nat.reduceEqDiff, Nat.reduceAdd, Nat.reduceLeDiff, pBuild, fillA, ↓tyr])
    refine (code_Inside_does m.Code hm.1 hs m.thread to _).mono ?_
    rintro _ _ ⟨rfl, rfl⟩
    (repeat simp -dsimp -implicitDefEqProofs (disch := omega) only [↓rP, rQ, rO, rL, ↓reduceIte, Nat.reduceEqDiff, Nat.reduceAdd, Nat.reduceLeDiff, pBuild, fillA, ↓tyr])
    simp [e2, beqI]
theorem code_maker_border_does (m : Code_maker) (x : In) (a : Int) (h : AHeap) : CallsA Tryd.prog 76 [.agg m.cells, .agg x.cells, .int .i64 a] h (fun v h2 => v = .bool (borderB m.Code m.thread x a) ∧ Keeps h h2 (fun _ => False)) := by
  apply code_maker_border_wp
  unfold borderB
  (repeat simp -dsimp -implicitDefEqProofs (disch := omega) only [↓rP, rQ, rO, rL, ↓reduceIte, Nat.reduceEqDiff, Nat.reduceAdd, Nat.reduceLeDiff, pBuild, fillA, ↓tyr])
  refine (plain_0001000 x _).mono ?_
  rintro _ _ ⟨rfl, rfl⟩
  (repeat simp -dsimp -implicitDefEqProofs (disch := omega) only [↓rP, rQ, rO, rL, ↓reduceIte, Nat.reduceEqDiff, Nat.reduceAdd, Nat.reduceLeDiff, pBuild, fillA, ↓tyr])
  cases hp : plainB x false false false true false false false with
  | false =>
    (repeat simp -dsimp -implicitDefEqProofs (disch := omega) only [↓rP, rQ, rO, rL, ↓reduceIte, Nat.reduceEqDiff, Nat.reduceAdd, Nat.reduceLeDiff, pBuild, fillA, ↓tyr])
    (first | (refine And.intro (by simp) ?_; (repeat (first | assumption | with_reducible exact Keeps.refl _ _ | with_reducible refine Keeps.go ?_ (Keeps.one _ _) | with_reducible refine Keeps.go ?_ (by assumption)))) | (repeat (first | assumption | with_reducible exact Keeps.refl _ _ | with_reducible refine Keeps.go ?_ (Keeps.one _ _) | with_reducible refine Keeps.go ?_ (by assumption))))
  | true =>
    (repeat simp -dsimp -implicitDefEqProofs (disch := omega) only [↓rP, rQ, rO, rL, ↓reduceIte, Nat.reduceEqDiff, Nat.reduceAdd, Nat.reduceLeDiff, pBuild, fillA, ↓tyr])
    refine (code_between_does _ _ _).mono ?_
    rintro _ _ ⟨rfl, rfl⟩
    (repeat simp -dsimp -implicitDefEqProofs (disch := omega) only [↓rP, rQ, rO, rL, ↓reduceIte, Nat.reduceEqDiff, Nat.reduceAdd, Nat.reduceLeDiff, pBuild, fillA, ↓tyr])
    cases hx : getI (slL m.Code.Sections) x.N with
    | none =>
      have hb := getI_none.2 hx
      (repeat simp -dsimp -implicitDefEqProofs (disch := omega) only [↓rP, rQ, rO, rL, ↓reduceIte, Nat.reduceEqDiff, Nat.reduceAdd, Nat.reduceLeDiff, pBuild, fillA, ↓tyr, hb])
      (first | (refine And.intro (by simp) ?_; (repeat (first | assumption | with_reducible exact Keeps.refl _ _ | with_reducible refine Keeps.go ?_ (Keeps.one _ _) | with_reducible refine Keeps.go ?_ (by assumption)))) | (repeat (first | assumption | with_reducible exact Keeps.refl _ _ | with_reducible refine Keeps.go ?_ (Keeps.one _ _) | with_reducible refine Keeps.go ?_ (by assumption))))
    | some s =>
      have hb := getI_some.2 ⟨s, hx⟩
      repeat' (first | (simp -dsimp -implicitDefEqProofs (disch := omega) only [↓rP, rQ, rO, rL, ↓reduceIte, Nat.reduceEqDiff, Nat.reduceAdd, Nat.reduceLeDiff, pBuild, fillA, ↓tyr, hb, ixI hx]) | refine Cut.go ?_ | refine Split_eq (fun _ => ?_) (fun _ => ?_) | refine Split_ne (fun _ => ?_) (fun _ => ?_) | refine Split_lt (fun _ => ?_) (fun _ => ?_) | refine Split_le (fun _ => ?_) (fun _ => ?_) | refine Split.intro (fun _ => ?_) (fun _ => ?_))
      all_goals refine ⟨by simp [beqI, *], ?_⟩
      all_goals (repeat (first | assumption | with_reducible exact Keeps.refl _ _ | with_reducible refine Keeps.go ?_ (Keeps.one _ _) | with_reducible refine Keeps.go ?_ (by assumption)))
end Go.Proofs.YtopfjochppdnfaaDoor
end

section
/- What the program's functions of codes compute: what loads and what stores. -/
set_option maxRecDepth 100000
set_option maxHeartbeats 1000000
namespace Go.Proofs.YtopfjochppdnfaaDoor
open Go.Abs
theorem code_maker_loads_does (m : Code_maker) (hm : m.ok) (x : In) (hx : x.ok) (a : Int) (h : AHeap) : CallsA Tryd.prog 73 [.agg m.cells, .agg x.cells, .int .i64 a] h (fun v h2 => v = .bool (loadsB m.Code m.thread m.body x a) ∧ Keeps h h2 (fun _ => False)) := by
  obtain ⟨-, -, -, -, -, -, hit, hix⟩ := hx
  apply code_maker_loads_wp
  unfold loadsB
  (repeat simp -dsimp -implicitDefEqProofs (disch := omega) only [↓rP, rQ, rO, rL, ↓reduceIte, Nat.reduceEqDiff, Nat.reduceAdd, Nat.reduceLeDiff, pBuild, fillA, ↓tyr])
  refine Split_eq (fun h2 => ?_) (fun h2 => ?_)
  · rw [if_pos h2]
    (repeat simp -dsimp -implicitDefEqProofs (disch := omega) only [↓rP, rQ, rO, rL, ↓reduceIte, Nat.reduceEqDiff, Nat.reduceAdd, Nat.reduceLeDiff, pBuild, fillA, ↓tyr])
    refine (plain_1001000 x _).mono ?_
    rintro _ _ ⟨rfl, rfl⟩
    (repeat simp -dsimp -implicitDefEqProofs (disch := omega) only [↓rP, rQ, rO, rL, ↓reduceIte, Nat.reduceEqDiff, Nat.reduceAdd, Nat.reduceLeDiff, pBuild, fillA, ↓tyr])
    rcases hp : plainB x true false false true false false false with _ | _
    · (repeat simp -dsimp -implicitDefEqProofs (disch := omega) only [↓rP, rQ, rO, rL, ↓reduceIte, Nat.reduceEqDiff, Nat.reduceAdd, Nat.reduceLeDiff, pBuild, fillA, ↓tyr])
      try simp only [Bool.false_and, Bool.and_false, Bool.and_true, Bool.true_and, true_and]
      (repeat (first | assumption | with_reducible exact Keeps.refl _ _ | with_reducible refine Keeps.go ?_ (Keeps.one _ _) | with_reducible refine Keeps.go ?_ (by assumption)))
    (repeat simp -dsimp -implicitDefEqProofs (disch := omega) only [↓rP, rQ, rO, rL, ↓reduceIte, Nat.reduceEqDiff, Nat.reduceAdd, Nat.reduceLeDiff, pBuild, fillA, ↓tyr])
    refine (code_between_does _ _ _).mono ?_
    rintro _ _ ⟨rfl, rfl⟩
    (repeat simp -dsimp -implicitDefEqProofs (disch := omega) only [↓rP, rQ, rO, rL, ↓reduceIte, Nat.reduceEqDiff, Nat.reduceAdd, Nat.reduceLeDiff, pBuild, fillA, ↓tyr])
    cases hg : getI (slL m.Code.Globals) x.N with
    | none =>
      have hb := getI_none.2 hg
      (repeat simp -dsimp -implicitDefEqProofs (disch := omega) only [↓rP, rQ, rO, rL, ↓reduceIte, Nat.reduceEqDiff, Nat.reduceAdd, Nat.reduceLeDiff, pBuild, fillA, ↓tyr, hb])
      (first | (refine And.intro (by simp) ?_; (repeat (first | assumption | with_reducible exact Keeps.refl _ _ | with_reducible refine Keeps.go ?_ (Keeps.one _ _) | with_reducible refine Keeps.go ?_ (by assumption)))) | (repeat (first | assumption | with_reducible exact Keeps.refl _ _ | with_reducible refine Keeps.go ?_ (Keeps.one _ _) | with_reducible refine Keeps.go ?_ (by assumption))))
    | some g =>
      have hb := getI_some.2 ⟨g, hg⟩
      (repeat simp -dsimp -implicitDefEqProofs (disch := omega) only [↓rP, rQ, rO, rL, ↓reduceIte, Nat.reduceEqDiff, Nat.reduceAdd, Nat.reduceLeDiff, pBuild, fillA, ↓tyr, hb, ixI hg])
      refine (code_maker_is_does m x.Dst g _).mono ?_
      rintro _ _ ⟨rfl, _⟩
      (repeat simp -dsimp -implicitDefEqProofs (disch := omega) only [↓rP, rQ, rO, rL, ↓reduceIte, Nat.reduceEqDiff, Nat.reduceAdd, Nat.reduceLeDiff, pBuild, fillA, ↓tyr, hb])
      (first | (refine And.intro (by simp) ?_; (repeat (first | assumption | with_reducible exact Keeps.refl _ _ | with_reducible refine Keeps.go ?_ (Keeps.one _ _) | with_reducible refine Keeps.go ?_ (by assumption)))) | (repeat (first | assumption | with_reducible exact Keeps.refl _ _ | with_reducible refine Keeps.go ?_ (Keeps.one _ _) | with_reducible refine Keeps.go ?_ (by assumption))))
  rw [if_neg h2]
  (repeat simp -dsimp -implicitDefEqProofs (disch := omega) only [↓rP, rQ, rO, rL, ↓reduceIte, Nat.reduceEqDiff, Nat.reduceAdd, Nat.reduceLeDiff, pBuild, fillA, ↓tyr])
  refine Split_eq (fun h3 => ?_) (fun h3 => ?_)
  · rw [if_pos h3]
    (repeat simp -dsimp -implicitDefEqProofs (disch := omega) only [↓rP, rQ, rO, rL, ↓reduceIte, Nat.reduceEqDiff, Nat.reduceAdd, Nat.reduceLeDiff, pBuild, fillA, ↓tyr])
    refine (code_maker_field_does m x _).mono ?_
    rintro _ _ ⟨rfl, _⟩
    (repeat simp -dsimp -implicitDefEqProofs (disch := omega) only [↓rP, rQ, rO, rL, ↓reduceIte, Nat.reduceEqDiff, Nat.reduceAdd, Nat.reduceLeDiff, pBuild, fillA, ↓tyr])
    refine (plain_1111000 x _).mono ?_
    rintro _ _ ⟨rfl, rfl⟩
    (repeat simp -dsimp -implicitDefEqProofs (disch := omega) only [↓rP, rQ, rO, rL, ↓reduceIte, Nat.reduceEqDiff, Nat.reduceAdd, Nat.reduceLeDiff, pBuild, fillA, ↓tyr])
    rcases hp : plainB x true true true true false false false with _ | _
    · (repeat simp -dsimp -implicitDefEqProofs (disch := omega) only [↓rP, rQ, rO, rL, ↓reduceIte, Nat.reduceEqDiff, Nat.reduceAdd, Nat.reduceLeDiff, pBuild, fillA, ↓tyr])
      try simp only [Bool.false_and, Bool.and_false, Bool.and_true, Bool.true_and, true_and]
      (repeat (first | assumption | with_reducible exact Keeps.refl _ _ | with_reducible refine Keeps.go ?_ (Keeps.one _ _) | with_reducible refine Keeps.go ?_ (by assumption)))
    (repeat simp -dsimp -implicitDefEqProofs (disch := omega) only [↓rP, rQ, rO, rL, ↓reduceIte, Nat.reduceEqDiff, Nat.reduceAdd, Nat.reduceLeDiff, pBuild, fillA, ↓tyr])
    unfold fieldV
    cases hf : fieldO m.Code m.body x with
    | none =>
      simp only [Option.isSome_none, Option.getD_none]
      (repeat simp -dsimp -implicitDefEqProofs (disch := omega) only [↓rP, rQ, rO, rL, ↓reduceIte, Nat.reduceEqDiff, Nat.reduceAdd, Nat.reduceLeDiff, pBuild, fillA, ↓tyr])
      (first | (refine And.intro (by simp) ?_; (repeat (first | assumption | with_reducible exact Keeps.refl _ _ | with_reducible refine Keeps.go ?_ (Keeps.one _ _) | with_reducible refine Keeps.go ?_ (by assumption)))) | (repeat (first | assumption | with_reducible exact Keeps.refl _ _ | with_reducible refine Keeps.go ?_ (Keeps.one _ _) | with_reducible refine Keeps.go ?_ (by assumption))))
    | some f =>
      simp only [Option.isSome_some, Option.getD_some]
      (repeat simp -dsimp -implicitDefEqProofs (disch := omega) only [↓rP, rQ, rO, rL, ↓reduceIte, Nat.reduceEqDiff, Nat.reduceAdd, Nat.reduceLeDiff, pBuild, fillA, ↓tyr])
      refine (code_maker_is_does m x.Dst f _).mono ?_
      rintro _ _ ⟨rfl, _⟩
      (repeat simp -dsimp -implicitDefEqProofs (disch := omega) only [↓rP, rQ, rO, rL, ↓reduceIte, Nat.reduceEqDiff, Nat.reduceAdd, Nat.reduceLeDiff, pBuild, fillA, ↓tyr])
      (first | (refine And.intro (by simp) ?_; (repeat (first | assumption | with_reducible exact Keeps.refl _ _ | with_reducible refine Keeps.go ?_ (Keeps.one _ _) | with_reducible refine Keeps.go ?_ (by assumption)))) | (repeat (first | assumption | with_reducible exact Keeps.refl _ _ | with_reducible refine Keeps.go ?_ (Keeps.one _ _) | with_reducible refine Keeps.go ?_ (by assumption))))
  rw [if_neg h3]
  (repeat simp -dsimp -implicitDefEqProofs (disch := omega) only [↓rP, rQ, rO, rL, ↓reduceIte, Nat.reduceEqDiff, Nat.reduceAdd, Nat.reduceLeDiff, pBuild, fillA, ↓tyr])
  refine Split_eq (fun h4 => ?_) (fun h4 => ?_)
  · rw [if_pos h4]
    (repeat simp -dsimp -implicitDefEqProofs (disch := omega) only [↓rP, rQ, rO, rL, ↓reduceIte, Nat.reduceEqDiff, Nat.reduceAdd, Nat.reduceLeDiff, pBuild, fillA, ↓tyr])
    refine (plain_1100001 x _).mono ?_
    rintro _ _ ⟨rfl, rfl⟩
    (repeat simp -dsimp -implicitDefEqProofs (disch := omega) only [↓rP, rQ, rO, rL, ↓reduceIte, Nat.reduceEqDiff, Nat.reduceAdd, Nat.reduceLeDiff, pBuild, fillA, ↓tyr])
    rcases hp : plainB x true true false false false false true with _ | _
    · (repeat simp -dsimp -implicitDefEqProofs (disch := omega) only [↓rP, rQ, rO, rL, ↓reduceIte, Nat.reduceEqDiff, Nat.reduceAdd, Nat.reduceLeDiff, pBuild, fillA, ↓tyr])
      try simp only [Bool.false_and, Bool.and_false, Bool.and_true, Bool.true_and, true_and]
      (repeat (first | assumption | with_reducible exact Keeps.refl _ _ | with_reducible refine Keeps.go ?_ (Keeps.one _ _) | with_reducible refine Keeps.go ?_ (by assumption)))
    (repeat simp -dsimp -implicitDefEqProofs (disch := omega) only [↓rP, rQ, rO, rL, ↓reduceIte, Nat.reduceEqDiff, Nat.reduceAdd, Nat.reduceLeDiff, pBuild, fillA, ↓tyr])
    refine (code_maker_is_does m x.Dst ⟨1, 0, false⟩ _).mono ?_
    rintro _ _ ⟨rfl, _⟩
    rcases hd : isB m.body x.Dst ⟨1, 0, false⟩ with _ | _
    · (repeat simp -dsimp -implicitDefEqProofs (disch := omega) only [↓rP, rQ, rO, rL, ↓reduceIte, Nat.reduceEqDiff, Nat.reduceAdd, Nat.reduceLeDiff, pBuild, fillA, ↓tyr])
      try simp only [Bool.false_and, Bool.and_false, Bool.and_true, Bool.true_and, true_and]
      (repeat (first | assumption | with_reducible exact Keeps.refl _ _ | with_reducible refine Keeps.go ?_ (Keeps.one _ _) | with_reducible refine Keeps.go ?_ (by assumption)))
    (repeat simp -dsimp -implicitDefEqProofs (disch := omega) only [↓rP, rQ, rO, rL, ↓reduceIte, Nat.reduceEqDiff, Nat.reduceAdd, Nat.reduceLeDiff, pBuild, fillA, ↓tyr])
    refine (code_maker_is_does m x.Src ⟨3, 0, false⟩ _).mono ?_
    rintro _ _ ⟨rfl, _⟩
    rcases hs : isB m.body x.Src ⟨3, 0, false⟩ with _ | _
    · (repeat simp -dsimp -implicitDefEqProofs (disch := omega) only [↓rP, rQ, rO, rL, ↓reduceIte, Nat.reduceEqDiff, Nat.reduceAdd, Nat.reduceLeDiff, pBuild, fillA, ↓tyr])
      try simp only [Bool.false_and, Bool.and_false, Bool.and_true, Bool.true_and, true_and]
      (repeat (first | assumption | with_reducible exact Keeps.refl _ _ | with_reducible refine Keeps.go ?_ (Keeps.one _ _) | with_reducible refine Keeps.go ?_ (by assumption)))
    (repeat simp -dsimp -implicitDefEqProofs (disch := omega) only [↓rP, rQ, rO, rL, ↓reduceIte, Nat.reduceEqDiff, Nat.reduceAdd, Nat.reduceLeDiff, pBuild, fillA, ↓tyr])
    refine (code_maker_good_does m hm x.Index hix _).mono ?_
    rintro _ _ ⟨rfl, _⟩
    (repeat simp -dsimp -implicitDefEqProofs (disch := omega) only [↓rP, rQ, rO, rL, ↓reduceIte, Nat.reduceEqDiff, Nat.reduceAdd, Nat.reduceLeDiff, pBuild, fillA, ↓tyr])
    (first | (refine And.intro (by simp) ?_; (repeat (first | assumption | with_reducible exact Keeps.refl _ _ | with_reducible refine Keeps.go ?_ (Keeps.one _ _) | with_reducible refine Keeps.go ?_ (by assumption)))) | (repeat (first | assumption | with_reducible exact Keeps.refl _ _ | with_reducible refine Keeps.go ?_ (Keeps.one _ _) | with_reducible refine Keeps.go ?_ (by assumption))))
  rw [if_neg h4]
  (repeat simp -dsimp -implicitDefEqProofs (disch := omega) only [↓rP, rQ, rO, rL, ↓reduceIte, Nat.reduceEqDiff, Nat.reduceAdd, Nat.reduceLeDiff, pBuild, fillA, ↓tyr])
  refine Split_eq (fun h5 => ?_) (fun h5 => ?_)
  · rw [if_pos h5]
    (repeat simp -dsimp -implicitDefEqProofs (disch := omega) only [↓rP, rQ, rO, rL, ↓reduceIte, Nat.reduceEqDiff, Nat.reduceAdd, Nat.reduceLeDiff, pBuild, fillA, ↓tyr])
    refine (plain_1100000 x _).mono ?_
    rintro _ _ ⟨rfl, rfl⟩
    (repeat simp -dsimp -implicitDefEqProofs (disch := omega) only [↓rP, rQ, rO, rL, ↓reduceIte, Nat.reduceEqDiff, Nat.reduceAdd, Nat.reduceLeDiff, pBuild, fillA, ↓tyr])
    rcases hp : plainB x true true false false false false false with _ | _
    · (repeat simp -dsimp -implicitDefEqProofs (disch := omega) only [↓rP, rQ, rO, rL, ↓reduceIte, Nat.reduceEqDiff, Nat.reduceAdd, Nat.reduceLeDiff, pBuild, fillA, ↓tyr])
      try simp only [Bool.false_and, Bool.and_false, Bool.and_true, Bool.true_and, true_and]
      (repeat (first | assumption | with_reducible exact Keeps.refl _ _ | with_reducible refine Keeps.go ?_ (Keeps.one _ _) | with_reducible refine Keeps.go ?_ (by assumption)))
    (repeat simp -dsimp -implicitDefEqProofs (disch := omega) only [↓rP, rQ, rO, rL, ↓reduceIte, Nat.reduceEqDiff, Nat.reduceAdd, Nat.reduceLeDiff, pBuild, fillA, ↓tyr])
    refine (code_maker_is_does m x.Dst ⟨1, 0, false⟩ _).mono ?_
    rintro _ _ ⟨rfl, _⟩
    rcases hd : isB m.body x.Dst ⟨1, 0, false⟩ with _ | _
    · (repeat simp -dsimp -implicitDefEqProofs (disch := omega) only [↓rP, rQ, rO, rL, ↓reduceIte, Nat.reduceEqDiff, Nat.reduceAdd, Nat.reduceLeDiff, pBuild, fillA, ↓tyr])
      try simp only [Bool.false_and, Bool.and_false, Bool.and_true, Bool.true_and, true_and]
      (repeat (first | assumption | with_reducible exact Keeps.refl _ _ | with_reducible refine Keeps.go ?_ (Keeps.one _ _) | with_reducible refine Keeps.go ?_ (by assumption)))
    (repeat simp -dsimp -implicitDefEqProofs (disch := omega) only [↓rP, rQ, rO, rL, ↓reduceIte, Nat.reduceEqDiff, Nat.reduceAdd, Nat.reduceLeDiff, pBuild, fillA, ↓tyr])
    refine (code_maker_is_does m x.Src ⟨3, 0, false⟩ _).mono ?_
    rintro _ _ ⟨rfl, _⟩
    (repeat simp -dsimp -implicitDefEqProofs (disch := omega) only [↓rP, rQ, rO, rL, ↓reduceIte, Nat.reduceEqDiff, Nat.reduceAdd, Nat.reduceLeDiff, pBuild, fillA, ↓tyr])
    (first | (refine And.intro (by simp) ?_; (repeat (first | assumption | with_reducible exact Keeps.refl _ _ | with_reducible refine Keeps.go ?_ (Keeps.one _ _) | with_reducible refine Keeps.go ?_ (by assumption)))) | (repeat (first | assumption | with_reducible exact Keeps.refl _ _ | with_reducible refine Keeps.go ?_ (Keeps.one _ _) | with_reducible refine Keeps.go ?_ (by assumption))))
  rw [if_neg h5]
  (repeat simp -dsimp -implicitDefEqProofs (disch := omega) only [↓rP, rQ, rO, rL, ↓reduceIte, Nat.reduceEqDiff, Nat.reduceAdd, Nat.reduceLeDiff, pBuild, fillA, ↓tyr])
  refine Split_eq (fun h6 => ?_) (fun h6 => ?_)
  · rw [if_pos h6]
    (repeat simp -dsimp -implicitDefEqProofs (disch := omega) only [↓rP, rQ, rO, rL, ↓reduceIte, Nat.reduceEqDiff, Nat.reduceAdd, Nat.reduceLeDiff, pBuild, fillA, ↓tyr])
    refine (plain_1011000 x _).mono ?_
    rintro _ _ ⟨rfl, rfl⟩
    (repeat simp -dsimp -implicitDefEqProofs (disch := omega) only [↓rP, rQ, rO, rL, ↓reduceIte, Nat.reduceEqDiff, Nat.reduceAdd, Nat.reduceLeDiff, pBuild, fillA, ↓tyr])
    rcases hp : plainB x true false true true false false false with _ | _
    · (repeat simp -dsimp -implicitDefEqProofs (disch := omega) only [↓rP, rQ, rO, rL, ↓reduceIte, Nat.reduceEqDiff, Nat.reduceAdd, Nat.reduceLeDiff, pBuild, fillA, ↓tyr])
      try simp only [Bool.false_and, Bool.and_false, Bool.and_true, Bool.true_and, true_and]
      (repeat (first | assumption | with_reducible exact Keeps.refl _ _ | with_reducible refine Keeps.go ?_ (Keeps.one _ _) | with_reducible refine Keeps.go ?_ (by assumption)))
    (repeat simp -dsimp -implicitDefEqProofs (disch := omega) only [↓rP, rQ, rO, rL, ↓reduceIte, Nat.reduceEqDiff, Nat.reduceAdd, Nat.reduceLeDiff, pBuild, fillA, ↓tyr])
    refine (code_between_does _ _ _).mono ?_
    rintro _ _ ⟨rfl, rfl⟩
    (repeat simp -dsimp -implicitDefEqProofs (disch := omega) only [↓rP, rQ, rO, rL, ↓reduceIte, Nat.reduceEqDiff, Nat.reduceAdd, Nat.reduceLeDiff, pBuild, fillA, ↓tyr])
    rcases hd : btw x.Rec (slL m.Code.Records).length with _ | _
    · (repeat simp -dsimp -implicitDefEqProofs (disch := omega) only [↓rP, rQ, rO, rL, ↓reduceIte, Nat.reduceEqDiff, Nat.reduceAdd, Nat.reduceLeDiff, pBuild, fillA, ↓tyr])
      try simp only [Bool.false_and, Bool.and_false, Bool.and_true, Bool.true_and, true_and]
      (repeat (first | assumption | with_reducible exact Keeps.refl _ _ | with_reducible refine Keeps.go ?_ (Keeps.one _ _) | with_reducible refine Keeps.go ?_ (by assumption)))
    (repeat simp -dsimp -implicitDefEqProofs (disch := omega) only [↓rP, rQ, rO, rL, ↓reduceIte, Nat.reduceEqDiff, Nat.reduceAdd, Nat.reduceLeDiff, pBuild, fillA, ↓tyr])
    refine (code_maker_is_does m x.Dst ⟨4, x.Rec, false⟩ _).mono ?_
    rintro _ _ ⟨rfl, _⟩
    rcases he : isB m.body x.Dst ⟨4, x.Rec, false⟩ with _ | _
    · (repeat simp -dsimp -implicitDefEqProofs (disch := omega) only [↓rP, rQ, rO, rL, ↓reduceIte, Nat.reduceEqDiff, Nat.reduceAdd, Nat.reduceLeDiff, pBuild, fillA, ↓tyr])
      try simp only [Bool.false_and, Bool.and_false, Bool.and_true, Bool.true_and, true_and]
      (repeat (first | assumption | with_reducible exact Keeps.refl _ _ | with_reducible refine Keeps.go ?_ (Keeps.one _ _) | with_reducible refine Keeps.go ?_ (by assumption)))
    (repeat simp -dsimp -implicitDefEqProofs (disch := omega) only [↓rP, rQ, rO, rL, ↓reduceIte, Nat.reduceEqDiff, Nat.reduceAdd, Nat.reduceLeDiff, pBuild, fillA, ↓tyr])
    refine (code_maker_site_does m x a x.Rec _).mono ?_
    rintro _ _ ⟨rfl, rfl⟩
    (repeat simp -dsimp -implicitDefEqProofs (disch := omega) only [↓rP, rQ, rO, rL, ↓reduceIte, Nat.reduceEqDiff, Nat.reduceAdd, Nat.reduceLeDiff, pBuild, fillA, ↓tyr])
    (first | (refine And.intro (by simp) ?_; (repeat (first | assumption | with_reducible exact Keeps.refl _ _ | with_reducible refine Keeps.go ?_ (Keeps.one _ _) | with_reducible refine Keeps.go ?_ (by assumption)))) | (repeat (first | assumption | with_reducible exact Keeps.refl _ _ | with_reducible refine Keeps.go ?_ (Keeps.one _ _) | with_reducible refine Keeps.go ?_ (by assumption))))
  rw [if_neg h6]
  (repeat simp -dsimp -implicitDefEqProofs (disch := omega) only [↓rP, rQ, rO, rL, ↓reduceIte, Nat.reduceEqDiff, Nat.reduceAdd, Nat.reduceLeDiff, pBuild, fillA, ↓tyr])
  refine (plain_1001010 x _).mono ?_
  rintro _ _ ⟨rfl, rfl⟩
  (repeat simp -dsimp -implicitDefEqProofs (disch := omega) only [↓rP, rQ, rO, rL, ↓reduceIte, Nat.reduceEqDiff, Nat.reduceAdd, Nat.reduceLeDiff, pBuild, fillA, ↓tyr])
  rcases hp : plainB x true false false true false true false with _ | _
  · (repeat simp -dsimp -implicitDefEqProofs (disch := omega) only [↓rP, rQ, rO, rL, ↓reduceIte, Nat.reduceEqDiff, Nat.reduceAdd, Nat.reduceLeDiff, pBuild, fillA, ↓tyr])
    try simp only [Bool.false_and, Bool.and_false, Bool.and_true, Bool.true_and, true_and]
    (repeat (first | assumption | with_reducible exact Keeps.refl _ _ | with_reducible refine Keeps.go ?_ (Keeps.one _ _) | with_reducible refine Keeps.go ?_ (by assumption)))
  (repeat simp -dsimp -implicitDefEqProofs (disch := omega) only [↓rP, rQ, rO, rL, ↓reduceIte, Nat.reduceEqDiff, Nat.reduceAdd, Nat.reduceLeDiff, pBuild, fillA, ↓tyr])
  refine (code_maker_is_does m x.Dst ⟨3, 0, false⟩ _).mono ?_
  rintro _ _ ⟨rfl, _⟩
  rcases he : isB m.body x.Dst ⟨3, 0, false⟩ with _ | _
  · (repeat simp -dsimp -implicitDefEqProofs (disch := omega) only [↓rP, rQ, rO, rL, ↓reduceIte, Nat.reduceEqDiff, Nat.reduceAdd, Nat.reduceLeDiff, pBuild, fillA, ↓tyr])
    try simp only [Bool.false_and, Bool.and_false, Bool.and_true, Bool.true_and, true_and]
    (repeat (first | assumption | with_reducible exact Keeps.refl _ _ | with_reducible refine Keeps.go ?_ (Keeps.one _ _) | with_reducible refine Keeps.go ?_ (by assumption)))
  (repeat simp -dsimp -implicitDefEqProofs (disch := omega) only [↓rP, rQ, rO, rL, ↓reduceIte, Nat.reduceEqDiff, Nat.reduceAdd, Nat.reduceLeDiff, pBuild, fillA, ↓tyr])
  refine (code_maker_good_does m hm x.Items hit _).mono ?_
  rintro _ _ ⟨rfl, _⟩
  (repeat simp -dsimp -implicitDefEqProofs (disch := omega) only [↓rP, rQ, rO, rL, ↓reduceIte, Nat.reduceEqDiff, Nat.reduceAdd, Nat.reduceLeDiff, pBuild, fillA, ↓tyr])
  rcases hg : itemsB m.body x.Items with _ | _
  · (repeat simp -dsimp -implicitDefEqProofs (disch := omega) only [↓rP, rQ, rO, rL, ↓reduceIte, Nat.reduceEqDiff, Nat.reduceAdd, Nat.reduceLeDiff, pBuild, fillA, ↓tyr])
    try simp only [Bool.false_and, Bool.and_false, Bool.and_true, Bool.true_and, true_and]
    (repeat (first | assumption | with_reducible exact Keeps.refl _ _ | with_reducible refine Keeps.go ?_ (Keeps.one _ _) | with_reducible refine Keeps.go ?_ (by assumption)))
  (repeat simp -dsimp -implicitDefEqProofs (disch := omega) only [↓rP, rQ, rO, rL, ↓reduceIte, Nat.reduceEqDiff, Nat.reduceAdd, Nat.reduceLeDiff, pBuild, fillA, ↓tyr])
  refine (code_maker_site_does m x a (-1) _).mono ?_
  rintro _ _ ⟨rfl, rfl⟩
  (repeat simp -dsimp -implicitDefEqProofs (disch := omega) only [↓rP, rQ, rO, rL, ↓reduceIte, Nat.reduceEqDiff, Nat.reduceAdd, Nat.reduceLeDiff, pBuild, fillA, ↓tyr])
  (first | (refine And.intro (by simp) ?_; (repeat (first | assumption | with_reducible exact Keeps.refl _ _ | with_reducible refine Keeps.go ?_ (Keeps.one _ _) | with_reducible refine Keeps.go ?_ (by assumption)))) | (repeat (first | assumption | with_reducible exact Keeps.refl _ _ | with_reducible refine Keeps.go ?_ (Keeps.one _ _) | with_reducible refine Keeps.go ?_ (by assumption))))
theorem code_maker_stores_does (m : Code_maker) (hm : m.ok) (x : In) (hx : x.ok) (h : AHeap) : CallsA Tryd.prog 74 [.agg m.cells, .agg x.cells] h (fun v h2 => v = .bool (storesB m.Code m.body x) ∧ Keeps h h2 (fun _ => False)) := by
  obtain ⟨-, -, -, -, -, -, hit, hix⟩ := hx
  apply code_maker_stores_wp
  unfold storesB
  (repeat simp -dsimp -implicitDefEqProofs (disch := omega) only [↓rP, rQ, rO, rL, ↓reduceIte, Nat.reduceEqDiff, Nat.reduceAdd, Nat.reduceLeDiff, pBuild, fillA, ↓tyr])
  refine Split_eq (fun h2 => ?_) (fun h2 => ?_)
  · rw [if_pos h2]
    (repeat simp -dsimp -implicitDefEqProofs (disch := omega) only [↓rP, rQ, rO, rL, ↓reduceIte, Nat.reduceEqDiff, Nat.reduceAdd, Nat.reduceLeDiff, pBuild, fillA, ↓tyr])
    refine (plain_0001010 x _).mono ?_
    rintro _ _ ⟨rfl, rfl⟩
    (repeat simp -dsimp -implicitDefEqProofs (disch := omega) only [↓rP, rQ, rO, rL, ↓reduceIte, Nat.reduceEqDiff, Nat.reduceAdd, Nat.reduceLeDiff, pBuild, fillA, ↓tyr])
    rcases hp : plainB x false false false true false true false with _ | _
    · (repeat simp -dsimp -implicitDefEqProofs (disch := omega) only [↓rP, rQ, rO, rL, ↓reduceIte, Nat.reduceEqDiff, Nat.reduceAdd, Nat.reduceLeDiff, pBuild, fillA, ↓tyr])
      try simp only [Bool.false_and, Bool.and_false, Bool.and_true, Bool.true_and, true_and]
      (repeat (first | assumption | with_reducible exact Keeps.refl _ _ | with_reducible refine Keeps.go ?_ (Keeps.one _ _) | with_reducible refine Keeps.go ?_ (by assumption)))
    (repeat simp -dsimp -implicitDefEqProofs (disch := omega) only [↓rP, rQ, rO, rL, ↓reduceIte, Nat.reduceEqDiff, Nat.reduceAdd, Nat.reduceLeDiff, pBuild, fillA, ↓tyr])
    refine (code_between_does _ _ _).mono ?_
    rintro _ _ ⟨rfl, rfl⟩
    (repeat simp -dsimp -implicitDefEqProofs (disch := omega) only [↓rP, rQ, rO, rL, ↓reduceIte, Nat.reduceEqDiff, Nat.reduceAdd, Nat.reduceLeDiff, pBuild, fillA, ↓tyr])
    rcases hd : btw x.N (slL m.Code.Globals).length with _ | _
    · (repeat simp -dsimp -implicitDefEqProofs (disch := omega) only [↓rP, rQ, rO, rL, ↓reduceIte, Nat.reduceEqDiff, Nat.reduceAdd, Nat.reduceLeDiff, pBuild, fillA, ↓tyr])
      try simp only [Bool.false_and, Bool.and_false, Bool.and_true, Bool.true_and, true_and]
      (repeat (first | assumption | with_reducible exact Keeps.refl _ _ | with_reducible refine Keeps.go ?_ (Keeps.one _ _) | with_reducible refine Keeps.go ?_ (by assumption)))
    (repeat simp -dsimp -implicitDefEqProofs (disch := omega) only [↓rP, rQ, rO, rL, ↓reduceIte, Nat.reduceEqDiff, Nat.reduceAdd, Nat.reduceLeDiff, pBuild, fillA, ↓tyr])
    refine (code_maker_good_does m hm x.Items hit _).mono ?_
    rintro _ _ ⟨rfl, _⟩
    (repeat simp -dsimp -implicitDefEqProofs (disch := omega) only [↓rP, rQ, rO, rL, ↓reduceIte, Nat.reduceEqDiff, Nat.reduceAdd, Nat.reduceLeDiff, pBuild, fillA, ↓tyr])
    (first | (refine And.intro (by simp) ?_; (repeat (first | assumption | with_reducible exact Keeps.refl _ _ | with_reducible refine Keeps.go ?_ (Keeps.one _ _) | with_reducible refine Keeps.go ?_ (by assumption)))) | (repeat (first | assumption | with_reducible exact Keeps.refl _ _ | with_reducible refine Keeps.go ?_ (Keeps.one _ _) | with_reducible refine Keeps.go ?_ (by assumption))))
  rw [if_neg h2]
  (repeat simp -dsimp -implicitDefEqProofs (disch := omega) only [↓rP, rQ, rO, rL, ↓reduceIte, Nat.reduceEqDiff, Nat.reduceAdd, Nat.reduceLeDiff, pBuild, fillA, ↓tyr])
  refine Split_eq (fun h3 => ?_) (fun h3 => ?_)
  · rw [if_pos h3]
    (repeat simp -dsimp -implicitDefEqProofs (disch := omega) only [↓rP, rQ, rO, rL, ↓reduceIte, Nat.reduceEqDiff, Nat.reduceAdd, Nat.reduceLeDiff, pBuild, fillA, ↓tyr])
    refine (code_maker_field_does m x _).mono ?_
    rintro _ _ ⟨rfl, _⟩
    (repeat simp -dsimp -implicitDefEqProofs (disch := omega) only [↓rP, rQ, rO, rL, ↓reduceIte, Nat.reduceEqDiff, Nat.reduceAdd, Nat.reduceLeDiff, pBuild, fillA, ↓tyr])
    refine (plain_0111010 x _).mono ?_
    rintro _ _ ⟨rfl, rfl⟩
    (repeat simp -dsimp -implicitDefEqProofs (disch := omega) only [↓rP, rQ, rO, rL, ↓reduceIte, Nat.reduceEqDiff, Nat.reduceAdd, Nat.reduceLeDiff, pBuild, fillA, ↓tyr])
    rcases hp : plainB x false true true true false true false with _ | _
    · (repeat simp -dsimp -implicitDefEqProofs (disch := omega) only [↓rP, rQ, rO, rL, ↓reduceIte, Nat.reduceEqDiff, Nat.reduceAdd, Nat.reduceLeDiff, pBuild, fillA, ↓tyr])
      try simp only [Bool.false_and, Bool.and_false, Bool.and_true, Bool.true_and, true_and]
      (repeat (first | assumption | with_reducible exact Keeps.refl _ _ | with_reducible refine Keeps.go ?_ (Keeps.one _ _) | with_reducible refine Keeps.go ?_ (by assumption)))
    (repeat simp -dsimp -implicitDefEqProofs (disch := omega) only [↓rP, rQ, rO, rL, ↓reduceIte, Nat.reduceEqDiff, Nat.reduceAdd, Nat.reduceLeDiff, pBuild, fillA, ↓tyr])
    rcases hf : (fieldO m.Code m.body x).isSome with _ | _
    · (repeat simp -dsimp -implicitDefEqProofs (disch := omega) only [↓rP, rQ, rO, rL, ↓reduceIte, Nat.reduceEqDiff, Nat.reduceAdd, Nat.reduceLeDiff, pBuild, fillA, ↓tyr])
      try simp only [Bool.false_and, Bool.and_false, Bool.and_true, Bool.true_and, true_and]
      (repeat (first | assumption | with_reducible exact Keeps.refl _ _ | with_reducible refine Keeps.go ?_ (Keeps.one _ _) | with_reducible refine Keeps.go ?_ (by assumption)))
    (repeat simp -dsimp -implicitDefEqProofs (disch := omega) only [↓rP, rQ, rO, rL, ↓reduceIte, Nat.reduceEqDiff, Nat.reduceAdd, Nat.reduceLeDiff, pBuild, fillA, ↓tyr])
    refine (code_maker_good_does m hm x.Items hit _).mono ?_
    rintro _ _ ⟨rfl, _⟩
    (repeat simp -dsimp -implicitDefEqProofs (disch := omega) only [↓rP, rQ, rO, rL, ↓reduceIte, Nat.reduceEqDiff, Nat.reduceAdd, Nat.reduceLeDiff, pBuild, fillA, ↓tyr])
    (first | (refine And.intro (by simp) ?_; (repeat (first | assumption | with_reducible exact Keeps.refl _ _ | with_reducible refine Keeps.go ?_ (Keeps.one _ _) | with_reducible refine Keeps.go ?_ (by assumption)))) | (repeat (first | assumption | with_reducible exact Keeps.refl _ _ | with_reducible refine Keeps.go ?_ (Keeps.one _ _) | with_reducible refine Keeps.go ?_ (by assumption))))
  rw [if_neg h3]
  (repeat simp -dsimp -implicitDefEqProofs (disch := omega) only [↓rP, rQ, rO, rL, ↓reduceIte, Nat.reduceEqDiff, Nat.reduceAdd, Nat.reduceLeDiff, pBuild, fillA, ↓tyr])
  refine (plain_0100011 x _).mono ?_
  rintro _ _ ⟨rfl, rfl⟩
  (repeat simp -dsimp -implicitDefEqProofs (disch := omega) only [↓rP, rQ, rO, rL, ↓reduceIte, Nat.reduceEqDiff, Nat.reduceAdd, Nat.reduceLeDiff, pBuild, fillA, ↓tyr])
  rcases hp : plainB x false true false false false true true with _ | _
  · (repeat simp -dsimp -implicitDefEqProofs (disch := omega) only [↓rP, rQ, rO, rL, ↓reduceIte, Nat.reduceEqDiff, Nat.reduceAdd, Nat.reduceLeDiff, pBuild, fillA, ↓tyr])
    try simp only [Bool.false_and, Bool.and_false, Bool.and_true, Bool.true_and, true_and]
    (repeat (first | assumption | with_reducible exact Keeps.refl _ _ | with_reducible refine Keeps.go ?_ (Keeps.one _ _) | with_reducible refine Keeps.go ?_ (by assumption)))
  (repeat simp -dsimp -implicitDefEqProofs (disch := omega) only [↓rP, rQ, rO, rL, ↓reduceIte, Nat.reduceEqDiff, Nat.reduceAdd, Nat.reduceLeDiff, pBuild, fillA, ↓tyr])
  refine (code_maker_is_does m x.Src ⟨3, 0, false⟩ _).mono ?_
  rintro _ _ ⟨rfl, _⟩
  rcases he : isB m.body x.Src ⟨3, 0, false⟩ with _ | _
  · (repeat simp -dsimp -implicitDefEqProofs (disch := omega) only [↓rP, rQ, rO, rL, ↓reduceIte, Nat.reduceEqDiff, Nat.reduceAdd, Nat.reduceLeDiff, pBuild, fillA, ↓tyr])
    try simp only [Bool.false_and, Bool.and_false, Bool.and_true, Bool.true_and, true_and]
    (repeat (first | assumption | with_reducible exact Keeps.refl _ _ | with_reducible refine Keeps.go ?_ (Keeps.one _ _) | with_reducible refine Keeps.go ?_ (by assumption)))
  (repeat simp -dsimp -implicitDefEqProofs (disch := omega) only [↓rP, rQ, rO, rL, ↓reduceIte, Nat.reduceEqDiff, Nat.reduceAdd, Nat.reduceLeDiff, pBuild, fillA, ↓tyr])
  refine (code_maker_good_does m hm x.Items hit _).mono ?_
  rintro _ _ ⟨rfl, _⟩
  (repeat simp -dsimp -implicitDefEqProofs (disch := omega) only [↓rP, rQ, rO, rL, ↓reduceIte, Nat.reduceEqDiff, Nat.reduceAdd, Nat.reduceLeDiff, pBuild, fillA, ↓tyr])
  rcases hg : itemsB m.body x.Items with _ | _
  · (repeat simp -dsimp -implicitDefEqProofs (disch := omega) only [↓rP, rQ, rO, rL, ↓reduceIte, Nat.reduceEqDiff, Nat.reduceAdd, Nat.reduceLeDiff, pBuild, fillA, ↓tyr])
    try simp only [Bool.false_and, Bool.and_false, Bool.and_true, Bool.true_and, true_and]
    (repeat (first | assumption | with_reducible exact Keeps.refl _ _ | with_reducible refine Keeps.go ?_ (Keeps.one _ _) | with_reducible refine Keeps.go ?_ (by assumption)))
  (repeat simp -dsimp -implicitDefEqProofs (disch := omega) only [↓rP, rQ, rO, rL, ↓reduceIte, Nat.reduceEqDiff, Nat.reduceAdd, Nat.reduceLeDiff, pBuild, fillA, ↓tyr])
  refine (code_maker_good_does m hm x.Index hix _).mono ?_
  rintro _ _ ⟨rfl, _⟩
  (repeat simp -dsimp -implicitDefEqProofs (disch := omega) only [↓rP, rQ, rO, rL, ↓reduceIte, Nat.reduceEqDiff, Nat.reduceAdd, Nat.reduceLeDiff, pBuild, fillA, ↓tyr])
  (first | (refine And.intro (by simp) ?_; (repeat (first | assumption | with_reducible exact Keeps.refl _ _ | with_reducible refine Keeps.go ?_ (Keeps.one _ _) | with_reducible refine Keeps.go ?_ (by assumption)))) | (repeat (first | assumption | with_reducible exact Keeps.refl _ _ | with_reducible refine Keeps.go ?_ (Keeps.one _ _) | with_reducible refine Keeps.go ?_ (by assumption))))
end Go.Proofs.YtopfjochppdnfaaDoor
end

section
/- What the program's functions of codes compute: instructions, threads. -/
set_option maxRecDepth 100000
set_option maxHeartbeats 1000000
namespace Go.Proofs.YtopfjochppdnfaaDoor
open Go.Abs
theorem op18 (op : Int) : op = 1 ∨ (op = 2 ∨ op = 3 ∨ op = 4 ∨ op = 10 ∨ op = 8 ∨ op = 9) ∨ (op = 5 ∨ op = 6 ∨ op = 7) ∨ (op = 11 ∨ op = 12) ∨ op = 13 ∨ op = 14 ∨ (op = 15 ∨ op = 16) ∨ op = 17 ∨ (op < 1 ∨ 17 < op) := by omega
noncomputable def kindB (c : Cd) (t : Int) (b : Bd) (x : In) (a : Int) : Bool :=
  if x.Op = 1 then plainB x true false false false false true false && btw x.Dst (slL b.Slots).length && itemsB b x.Items
  else if x.Op = 2 ∨ x.Op = 3 ∨ x.Op = 4 ∨ x.Op = 10 ∨ x.Op = 8 ∨ x.Op = 9 then loadsB c t b x a
  else if x.Op = 5 ∨ x.Op = 6 ∨ x.Op = 7 then storesB c b x
  else if x.Op = 11 ∨ x.Op = 12 then plainB x false false false false false true false && itemsB b x.Items
  else if x.Op = 13 then plainB x false false false false true false false && goesB c t b a x.To
  else if x.Op = 14 then plainB x false false false false true true false && goesB c t b a x.To && itemsB b x.Items
  else if x.Op = 15 ∨ x.Op = 16 then borderB c t x a
  else decide (x.Op = 17) && plainB x false false false false false false false && decide (a = (slL b.Code).length - 1)
theorem instrB_eq (c : Cd) (t : Int) (b : Bd) (x : In) (a : Int) : instrB c t b x a = (!((decide (2 ≤ x.Op) && decide (x.Op ≤ 9)) && decide (insI c t a < 0)) && kindB c t b x a) := by
  unfold instrB
  by_cases h : (2 ≤ x.Op ∧ x.Op ≤ 9) ∧ insI c t a < 0
  · rw [if_pos h]; simp [h]
  · rw [if_neg h]
    have : ((decide (2 ≤ x.Op) && decide (x.Op ≤ 9)) && decide (insI c t a < 0)) = false := by
      rw [Bool.eq_false_iff]; simpa [and_assoc] using h
    rw [this]; rfl
theorem code_maker_instr_does (m : Code_maker) (hm : m.ok) (hs : (slL m.Code.Sections).length ≤ 1000000) (hcl : (slL m.body.Code).length ≤ 1000000) (x : In) (hx : x.ok) (a : Int) (h : AHeap) : CallsA Tryd.prog 64 [.agg m.cells, .agg x.cells, .int .i64 a] h (fun v h2 => v = .bool (instrB m.Code m.thread m.body x a) ∧ Keeps h h2 (fun _ => False)) := by
  have hit := hx.2.2.2.2.2.2.1
  rw [instrB_eq]
  apply code_maker_instr_wp
  rcases op18 x.Op with hop | hop | hop | hop | hop | hop | hop | hop | hop
  · -- reckoned
    have hk : (!((decide (2 ≤ x.Op) && decide (x.Op ≤ 9)) && decide (insI m.Code m.thread a < 0)) && kindB m.Code m.thread m.body x a) = (plainB x true false false false false true false && btw x.Dst (slL m.body.Slots).length && itemsB m.body x.Items) := by simp [kindB, hop]
    rw [hk]
    (repeat (first | simp -dsimp -implicitDefEqProofs (disch := omega) only [↓rP, rQ, rO, rL, ↓reduceIte, Nat.reduceEqDiff, Nat.reduceAdd, Nat.reduceLeDiff, pBuild, fillA, ↓tyr] | refine Cut.go ?_))
    refine (code_shared_does x.Op _).mono ?_
    rintro _ _ ⟨rfl, rfl⟩
    (repeat (first | simp -dsimp -implicitDefEqProofs (disch := omega) only [↓rP, rQ, rO, rL, ↓reduceIte, Nat.reduceEqDiff, Nat.reduceAdd, Nat.reduceLeDiff, pBuild, fillA, ↓tyr, hop] | refine Cut.go ?_))
    refine (code_maker_slot_does m x.Dst _).mono ?_
    rintro _ h1 ⟨rfl, k1⟩
    (repeat (first | simp -dsimp -implicitDefEqProofs (disch := omega) only [↓rP, rQ, rO, rL, ↓reduceIte, Nat.reduceEqDiff, Nat.reduceAdd, Nat.reduceLeDiff, pBuild, fillA, ↓tyr, hop] | refine Cut.go ?_))
    refine (plain_1000010 x _).mono ?_
    rintro _ _ ⟨rfl, rfl⟩
    (repeat (first | simp -dsimp -implicitDefEqProofs (disch := omega) only [↓rP, rQ, rO, rL, ↓reduceIte, Nat.reduceEqDiff, Nat.reduceAdd, Nat.reduceLeDiff, pBuild, fillA, ↓tyr] | refine Cut.go ?_))
    have e : (getI (slL m.body.Slots) x.Dst).isSome = btw x.Dst (slL m.body.Slots).length := by
      cases hg : getI (slL m.body.Slots) x.Dst with
      | none => rw [getI_none.2 hg]; rfl
      | some y => rw [getI_some.2 ⟨y, hg⟩]; rfl
    rw [e]
    rcases hp : plainB x true false false false false true false with _ | _
    · (repeat (first | simp -dsimp -implicitDefEqProofs (disch := omega) only [↓rP, rQ, rO, rL, ↓reduceIte, Nat.reduceEqDiff, Nat.reduceAdd, Nat.reduceLeDiff, pBuild, fillA, ↓tyr] | refine Cut.go ?_))
      try simp only [Bool.false_and, Bool.and_false, Bool.and_true, Bool.true_and, true_and]
      (repeat (first | assumption | with_reducible exact Keeps.refl _ _ | with_reducible refine Keeps.go ?_ (Keeps.one _ _) | with_reducible refine Keeps.go ?_ (by assumption)))
    (repeat (first | simp -dsimp -implicitDefEqProofs (disch := omega) only [↓rP, rQ, rO, rL, ↓reduceIte, Nat.reduceEqDiff, Nat.reduceAdd, Nat.reduceLeDiff, pBuild, fillA, ↓tyr] | refine Cut.go ?_))
    rcases hd : btw x.Dst (slL m.body.Slots).length with _ | _
    · (repeat (first | simp -dsimp -implicitDefEqProofs (disch := omega) only [↓rP, rQ, rO, rL, ↓reduceIte, Nat.reduceEqDiff, Nat.reduceAdd, Nat.reduceLeDiff, pBuild, fillA, ↓tyr] | refine Cut.go ?_))
      try simp only [Bool.false_and, Bool.and_false, Bool.and_true, Bool.true_and, true_and]
      (repeat (first | assumption | with_reducible exact Keeps.refl _ _ | with_reducible refine Keeps.go ?_ (Keeps.one _ _) | with_reducible refine Keeps.go ?_ (by assumption)))
    (repeat (first | simp -dsimp -implicitDefEqProofs (disch := omega) only [↓rP, rQ, rO, rL, ↓reduceIte, Nat.reduceEqDiff, Nat.reduceAdd, Nat.reduceLeDiff, pBuild, fillA, ↓tyr] | refine Cut.go ?_))
    refine (code_maker_good_does m hm x.Items hit _).mono ?_
    rintro _ _ ⟨rfl, _⟩
    (repeat (first | simp -dsimp -implicitDefEqProofs (disch := omega) only [↓rP, rQ, rO, rL, ↓reduceIte, Nat.reduceEqDiff, Nat.reduceAdd, Nat.reduceLeDiff, pBuild, fillA, ↓tyr] | refine Cut.go ?_))
    (first | (refine And.intro (by simp) ?_; (repeat (first | assumption | with_reducible exact Keeps.refl _ _ | with_reducible refine Keeps.go ?_ (Keeps.one _ _) | with_reducible refine Keeps.go ?_ (by assumption)))) | (repeat (first | assumption | with_reducible exact Keeps.refl _ _ | with_reducible refine Keeps.go ?_ (Keeps.one _ _) | with_reducible refine Keeps.go ?_ (by assumption))))
  · rcases hop with hop | hop | hop | hop | hop | hop
    · (repeat (first | simp -dsimp -implicitDefEqProofs (disch := omega) only [↓rP, rQ, rO, rL, ↓reduceIte, Nat.reduceEqDiff, Nat.reduceAdd, Nat.reduceLeDiff, pBuild, fillA, ↓tyr] | refine Cut.go ?_))
      refine (code_shared_does x.Op _).mono ?_
      rintro _ _ ⟨rfl, rfl⟩
      (repeat (first | simp -dsimp -implicitDefEqProofs (disch := omega) only [↓rP, rQ, rO, rL, ↓reduceIte, Nat.reduceEqDiff, Nat.reduceAdd, Nat.reduceLeDiff, pBuild, fillA, ↓tyr, hop] | refine Cut.go ?_))
      refine (code_Inside_does m.Code hm.1 hs m.thread a _).mono ?_
      rintro _ _ ⟨rfl, rfl⟩
      (repeat (first | simp -dsimp -implicitDefEqProofs (disch := omega) only [↓rP, rQ, rO, rL, ↓reduceIte, Nat.reduceEqDiff, Nat.reduceAdd, Nat.reduceLeDiff, pBuild, fillA, ↓tyr, hop] | refine Cut.go ?_))
      rcases hin : decide (insI m.Code m.thread a < 0) with _ | _
      · (repeat (first | simp -dsimp -implicitDefEqProofs (disch := omega) only [↓rP, rQ, rO, rL, ↓reduceIte, Nat.reduceEqDiff, Nat.reduceAdd, Nat.reduceLeDiff, pBuild, fillA, ↓tyr, hop, hin] | refine Cut.go ?_))
        refine (code_maker_loads_does m hm x hx a _).mono ?_
        rintro _ _ ⟨rfl, _⟩
        (repeat (first | simp -dsimp -implicitDefEqProofs (disch := omega) only [↓rP, rQ, rO, rL, ↓reduceIte, Nat.reduceEqDiff, Nat.reduceAdd, Nat.reduceLeDiff, pBuild, fillA, ↓tyr] | refine Cut.go ?_))
        (first | (refine And.intro (by simp [kindB, hop]) ?_; (repeat (first | assumption | with_reducible exact Keeps.refl _ _ | with_reducible refine Keeps.go ?_ (Keeps.one _ _) | with_reducible refine Keeps.go ?_ (by assumption)))) | (repeat (first | assumption | with_reducible exact Keeps.refl _ _ | with_reducible refine Keeps.go ?_ (Keeps.one _ _) | with_reducible refine Keeps.go ?_ (by assumption))))
      · (repeat (first | simp -dsimp -implicitDefEqProofs (disch := omega) only [↓rP, rQ, rO, rL, ↓reduceIte, Nat.reduceEqDiff, Nat.reduceAdd, Nat.reduceLeDiff, pBuild, fillA, ↓tyr, hop, hin] | refine Cut.go ?_))
        (first | (refine And.intro (by simp [hop]) ?_; (repeat (first | assumption | with_reducible exact Keeps.refl _ _ | with_reducible refine Keeps.go ?_ (Keeps.one _ _) | with_reducible refine Keeps.go ?_ (by assumption)))) | (repeat (first | assumption | with_reducible exact Keeps.refl _ _ | with_reducible refine Keeps.go ?_ (Keeps.one _ _) | with_reducible refine Keeps.go ?_ (by assumption))))
    · (repeat (first | simp -dsimp -implicitDefEqProofs (disch := omega) only [↓rP, rQ, rO, rL, ↓reduceIte, Nat.reduceEqDiff, Nat.reduceAdd, Nat.reduceLeDiff, pBuild, fillA, ↓tyr] | refine Cut.go ?_))
      refine (code_shared_does x.Op _).mono ?_
      rintro _ _ ⟨rfl, rfl⟩
      (repeat (first | simp -dsimp -implicitDefEqProofs (disch := omega) only [↓rP, rQ, rO, rL, ↓reduceIte, Nat.reduceEqDiff, Nat.reduceAdd, Nat.reduceLeDiff, pBuild, fillA, ↓tyr, hop] | refine Cut.go ?_))
      refine (code_Inside_does m.Code hm.1 hs m.thread a _).mono ?_
      rintro _ _ ⟨rfl, rfl⟩
      (repeat (first | simp -dsimp -implicitDefEqProofs (disch := omega) only [↓rP, rQ, rO, rL, ↓reduceIte, Nat.reduceEqDiff, Nat.reduceAdd, Nat.reduceLeDiff, pBuild, fillA, ↓tyr, hop] | refine Cut.go ?_))
      rcases hin : decide (insI m.Code m.thread a < 0) with _ | _
      · (repeat (first | simp -dsimp -implicitDefEqProofs (disch := omega) only [↓rP, rQ, rO, rL, ↓reduceIte, Nat.reduceEqDiff, Nat.reduceAdd, Nat.reduceLeDiff, pBuild, fillA, ↓tyr, hop, hin] | refine Cut.go ?_))
        refine (code_maker_loads_does m hm x hx a _).mono ?_
        rintro _ _ ⟨rfl, _⟩
        (repeat (first | simp -dsimp -implicitDefEqProofs (disch := omega) only [↓rP, rQ, rO, rL, ↓reduceIte, Nat.reduceEqDiff, Nat.reduceAdd, Nat.reduceLeDiff, pBuild, fillA, ↓tyr] | refine Cut.go ?_))
        (first | (refine And.intro (by simp [kindB, hop]) ?_; (repeat (first | assumption | with_reducible exact Keeps.refl _ _ | with_reducible refine Keeps.go ?_ (Keeps.one _ _) | with_reducible refine Keeps.go ?_ (by assumption)))) | (repeat (first | assumption | with_reducible exact Keeps.refl _ _ | with_reducible refine Keeps.go ?_ (Keeps.one _ _) | with_reducible refine Keeps.go ?_ (by assumption))))
      · (repeat (first | simp -dsimp -implicitDefEqProofs (disch := omega) only [↓rP, rQ, rO, rL, ↓reduceIte, Nat.reduceEqDiff, Nat.reduceAdd, Nat.reduceLeDiff, pBuild, fillA, ↓tyr, hop, hin] | refine Cut.go ?_))
        (first | (refine And.intro (by simp [hop]) ?_; (repeat (first | assumption | with_reducible exact Keeps.refl _ _ | with_reducible refine Keeps.go ?_ (Keeps.one _ _) | with_reducible refine Keeps.go ?_ (by assumption)))) | (repeat (first | assumption | with_reducible exact Keeps.refl _ _ | with_reducible refine Keeps.go ?_ (Keeps.one _ _) | with_reducible refine Keeps.go ?_ (by assumption))))
    · (repeat (first | simp -dsimp -implicitDefEqProofs (disch := omega) only [↓rP, rQ, rO, rL, ↓reduceIte, Nat.reduceEqDiff, Nat.reduceAdd, Nat.reduceLeDiff, pBuild, fillA, ↓tyr] | refine Cut.go ?_))
      refine (code_shared_does x.Op _).mono ?_
      rintro _ _ ⟨rfl, rfl⟩
      (repeat (first | simp -dsimp -implicitDefEqProofs (disch := omega) only [↓rP, rQ, rO, rL, ↓reduceIte, Nat.reduceEqDiff, Nat.reduceAdd, Nat.reduceLeDiff, pBuild, fillA, ↓tyr, hop] | refine Cut.go ?_))
      refine (code_Inside_does m.Code hm.1 hs m.thread a _).mono ?_
      rintro _ _ ⟨rfl, rfl⟩
      (repeat (first | simp -dsimp -implicitDefEqProofs (disch := omega) only [↓rP, rQ, rO, rL, ↓reduceIte, Nat.reduceEqDiff, Nat.reduceAdd, Nat.reduceLeDiff, pBuild, fillA, ↓tyr, hop] | refine Cut.go ?_))
      rcases hin : decide (insI m.Code m.thread a < 0) with _ | _
      · (repeat (first | simp -dsimp -implicitDefEqProofs (disch := omega) only [↓rP, rQ, rO, rL, ↓reduceIte, Nat.reduceEqDiff, Nat.reduceAdd, Nat.reduceLeDiff, pBuild, fillA, ↓tyr, hop, hin] | refine Cut.go ?_))
        refine (code_maker_loads_does m hm x hx a _).mono ?_
        rintro _ _ ⟨rfl, _⟩
        (repeat (first | simp -dsimp -implicitDefEqProofs (disch := omega) only [↓rP, rQ, rO, rL, ↓reduceIte, Nat.reduceEqDiff, Nat.reduceAdd, Nat.reduceLeDiff, pBuild, fillA, ↓tyr] | refine Cut.go ?_))
        (first | (refine And.intro (by simp [kindB, hop]) ?_; (repeat (first | assumption | with_reducible exact Keeps.refl _ _ | with_reducible refine Keeps.go ?_ (Keeps.one _ _) | with_reducible refine Keeps.go ?_ (by assumption)))) | (repeat (first | assumption | with_reducible exact Keeps.refl _ _ | with_reducible refine Keeps.go ?_ (Keeps.one _ _) | with_reducible refine Keeps.go ?_ (by assumption))))
      · (repeat (first | simp -dsimp -implicitDefEqProofs (disch := omega) only [↓rP, rQ, rO, rL, ↓reduceIte, Nat.reduceEqDiff, Nat.reduceAdd, Nat.reduceLeDiff, pBuild, fillA, ↓tyr, hop, hin] | refine Cut.go ?_))
        (first | (refine And.intro (by simp [hop]) ?_; (repeat (first | assumption | with_reducible exact Keeps.refl _ _ | with_reducible refine Keeps.go ?_ (Keeps.one _ _) | with_reducible refine Keeps.go ?_ (by assumption)))) | (repeat (first | assumption | with_reducible exact Keeps.refl _ _ | with_reducible refine Keeps.go ?_ (Keeps.one _ _) | with_reducible refine Keeps.go ?_ (by assumption))))
    · (repeat (first | simp -dsimp -implicitDefEqProofs (disch := omega) only [↓rP, rQ, rO, rL, ↓reduceIte, Nat.reduceEqDiff, Nat.reduceAdd, Nat.reduceLeDiff, pBuild, fillA, ↓tyr] | refine Cut.go ?_))
      refine (code_shared_does x.Op _).mono ?_
      rintro _ _ ⟨rfl, rfl⟩
      (repeat (first | simp -dsimp -implicitDefEqProofs (disch := omega) only [↓rP, rQ, rO, rL, ↓reduceIte, Nat.reduceEqDiff, Nat.reduceAdd, Nat.reduceLeDiff, pBuild, fillA, ↓tyr, hop] | refine Cut.go ?_))
      refine (code_maker_loads_does m hm x hx a _).mono ?_
      rintro _ _ ⟨rfl, _⟩
      (repeat (first | simp -dsimp -implicitDefEqProofs (disch := omega) only [↓rP, rQ, rO, rL, ↓reduceIte, Nat.reduceEqDiff, Nat.reduceAdd, Nat.reduceLeDiff, pBuild, fillA, ↓tyr] | refine Cut.go ?_))
      (first | (refine And.intro (by simp [kindB, hop]) ?_; (repeat (first | assumption | with_reducible exact Keeps.refl _ _ | with_reducible refine Keeps.go ?_ (Keeps.one _ _) | with_reducible refine Keeps.go ?_ (by assumption)))) | (repeat (first | assumption | with_reducible exact Keeps.refl _ _ | with_reducible refine Keeps.go ?_ (Keeps.one _ _) | with_reducible refine Keeps.go ?_ (by assumption))))
    · (repeat (first | simp -dsimp -implicitDefEqProofs (disch := omega) only [↓rP, rQ, rO, rL, ↓reduceIte, Nat.reduceEqDiff, Nat.reduceAdd, Nat.reduceLeDiff, pBuild, fillA, ↓tyr] | refine Cut.go ?_))
      refine (code_shared_does x.Op _).mono ?_
      rintro _ _ ⟨rfl, rfl⟩
      (repeat (first | simp -dsimp -implicitDefEqProofs (disch := omega) only [↓rP, rQ, rO, rL, ↓reduceIte, Nat.reduceEqDiff, Nat.reduceAdd, Nat.reduceLeDiff, pBuild, fillA, ↓tyr, hop] | refine Cut.go ?_))
      refine (code_Inside_does m.Code hm.1 hs m.thread a _).mono ?_
      rintro _ _ ⟨rfl, rfl⟩
      (repeat (first | simp -dsimp -implicitDefEqProofs (disch := omega) only [↓rP, rQ, rO, rL, ↓reduceIte, Nat.reduceEqDiff, Nat.reduceAdd, Nat.reduceLeDiff, pBuild, fillA, ↓tyr, hop] | refine Cut.go ?_))
      rcases hin : decide (insI m.Code m.thread a < 0) with _ | _
      · (repeat (first | simp -dsimp -implicitDefEqProofs (disch := omega) only [↓rP, rQ, rO, rL, ↓reduceIte, Nat.reduceEqDiff, Nat.reduceAdd, Nat.reduceLeDiff, pBuild, fillA, ↓tyr, hop, hin] | refine Cut.go ?_))
        refine (code_maker_loads_does m hm x hx a _).mono ?_
        rintro _ _ ⟨rfl, _⟩
        (repeat (first | simp -dsimp -implicitDefEqProofs (disch := omega) only [↓rP, rQ, rO, rL, ↓reduceIte, Nat.reduceEqDiff, Nat.reduceAdd, Nat.reduceLeDiff, pBuild, fillA, ↓tyr] | refine Cut.go ?_))
        (first | (refine And.intro (by simp [kindB, hop]) ?_; (repeat (first | assumption | with_reducible exact Keeps.refl _ _ | with_reducible refine Keeps.go ?_ (Keeps.one _ _) | with_reducible refine Keeps.go ?_ (by assumption)))) | (repeat (first | assumption | with_reducible exact Keeps.refl _ _ | with_reducible refine Keeps.go ?_ (Keeps.one _ _) | with_reducible refine Keeps.go ?_ (by assumption))))
      · (repeat (first | simp -dsimp -implicitDefEqProofs (disch := omega) only [↓rP, rQ, rO, rL, ↓reduceIte, Nat.reduceEqDiff, Nat.reduceAdd, Nat.reduceLeDiff, pBuild, fillA, ↓tyr, hop, hin] | refine Cut.go ?_))
        (first | (refine And.intro (by simp [hop]) ?_; (repeat (first | assumption | with_reducible exact Keeps.refl _ _ | with_reducible refine Keeps.go ?_ (Keeps.one _ _) | with_reducible refine Keeps.go ?_ (by assumption)))) | (repeat (first | assumption | with_reducible exact Keeps.refl _ _ | with_reducible refine Keeps.go ?_ (Keeps.one _ _) | with_reducible refine Keeps.go ?_ (by assumption))))
    · (repeat (first | simp -dsimp -implicitDefEqProofs (disch := omega) only [↓rP, rQ, rO, rL, ↓reduceIte, Nat.reduceEqDiff, Nat.reduceAdd, Nat.reduceLeDiff, pBuild, fillA, ↓tyr] | refine Cut.go ?_))
      refine (code_shared_does x.Op _).mono ?_
      rintro _ _ ⟨rfl, rfl⟩
      (repeat (first | simp -dsimp -implicitDefEqProofs (disch := omega) only [↓rP, rQ, rO, rL, ↓reduceIte, Nat.reduceEqDiff, Nat.reduceAdd, Nat.reduceLeDiff, pBuild, fillA, ↓tyr, hop] | refine Cut.go ?_))
      refine (code_Inside_does m.Code hm.1 hs m.thread a _).mono ?_
      rintro _ _ ⟨rfl, rfl⟩
      (repeat (first | simp -dsimp -implicitDefEqProofs (disch := omega) only [↓rP, rQ, rO, rL, ↓reduceIte, Nat.reduceEqDiff, Nat.reduceAdd, Nat.reduceLeDiff, pBuild, fillA, ↓tyr, hop] | refine Cut.go ?_))
      rcases hin : decide (insI m.Code m.thread a < 0) with _ | _
      · (repeat (first | simp -dsimp -implicitDefEqProofs (disch := omega) only [↓rP, rQ, rO, rL, ↓reduceIte, Nat.reduceEqDiff, Nat.reduceAdd, Nat.reduceLeDiff, pBuild, fillA, ↓tyr, hop, hin] | refine Cut.go ?_))
        refine (code_maker_loads_does m hm x hx a _).mono ?_
        rintro _ _ ⟨rfl, _⟩
        (repeat (first | simp -dsimp -implicitDefEqProofs (disch := omega) only [↓rP, rQ, rO, rL, ↓reduceIte, Nat.reduceEqDiff, Nat.reduceAdd, Nat.reduceLeDiff, pBuild, fillA, ↓tyr] | refine Cut.go ?_))
        (first | (refine And.intro (by simp [kindB, hop]) ?_; (repeat (first | assumption | with_reducible exact Keeps.refl _ _ | with_reducible refine Keeps.go ?_ (Keeps.one _ _) | with_reducible refine Keeps.go ?_ (by assumption)))) | (repeat (first | assumption | with_reducible exact Keeps.refl _ _ | with_reducible refine Keeps.go ?_ (Keeps.one _ _) | with_reducible refine Keeps.go ?_ (by assumption))))
      · (repeat (first | simp -dsimp -implicitDefEqProofs (disch := omega) only [↓rP, rQ, rO, rL, ↓reduceIte, Nat.reduceEqDiff, Nat.reduceAdd, Nat.reduceLeDiff, pBuild, fillA, ↓tyr, hop, hin] | refine Cut.go ?_))
        (first | (refine And.intro (by simp [hop]) ?_; (repeat (first | assumption | with_reducible exact Keeps.refl _ _ | with_reducible refine Keeps.go ?_ (Keeps.one _ _) | with_reducible refine Keeps.go ?_ (by assumption)))) | (repeat (first | assumption | with_reducible exact Keeps.refl _ _ | with_reducible refine Keeps.go ?_ (Keeps.one _ _) | with_reducible refine Keeps.go ?_ (by assumption))))
  · rcases hop with hop | hop | hop
    · (repeat (first | simp -dsimp -implicitDefEqProofs (disch := omega) only [↓rP, rQ, rO, rL, ↓reduceIte, Nat.reduceEqDiff, Nat.reduceAdd, Nat.reduceLeDiff, pBuild, fillA, ↓tyr] | refine Cut.go ?_))
      refine (code_shared_does x.Op _).mono ?_
      rintro _ _ ⟨rfl, rfl⟩
      (repeat (first | simp -dsimp -implicitDefEqProofs (disch := omega) only [↓rP, rQ, rO, rL, ↓reduceIte, Nat.reduceEqDiff, Nat.reduceAdd, Nat.reduceLeDiff, pBuild, fillA, ↓tyr, hop] | refine Cut.go ?_))
      refine (code_Inside_does m.Code hm.1 hs m.thread a _).mono ?_
      rintro _ _ ⟨rfl, rfl⟩
      (repeat (first | simp -dsimp -implicitDefEqProofs (disch := omega) only [↓rP, rQ, rO, rL, ↓reduceIte, Nat.reduceEqDiff, Nat.reduceAdd, Nat.reduceLeDiff, pBuild, fillA, ↓tyr, hop] | refine Cut.go ?_))
      rcases hin : decide (insI m.Code m.thread a < 0) with _ | _
      · (repeat (first | simp -dsimp -implicitDefEqProofs (disch := omega) only [↓rP, rQ, rO, rL, ↓reduceIte, Nat.reduceEqDiff, Nat.reduceAdd, Nat.reduceLeDiff, pBuild, fillA, ↓tyr, hop, hin] | refine Cut.go ?_))
        refine (code_maker_stores_does m hm x hx _).mono ?_
        rintro _ _ ⟨rfl, _⟩
        (repeat (first | simp -dsimp -implicitDefEqProofs (disch := omega) only [↓rP, rQ, rO, rL, ↓reduceIte, Nat.reduceEqDiff, Nat.reduceAdd, Nat.reduceLeDiff, pBuild, fillA, ↓tyr] | refine Cut.go ?_))
        (first | (refine And.intro (by simp [kindB, hop]) ?_; (repeat (first | assumption | with_reducible exact Keeps.refl _ _ | with_reducible refine Keeps.go ?_ (Keeps.one _ _) | with_reducible refine Keeps.go ?_ (by assumption)))) | (repeat (first | assumption | with_reducible exact Keeps.refl _ _ | with_reducible refine Keeps.go ?_ (Keeps.one _ _) | with_reducible refine Keeps.go ?_ (by assumption))))
      · (repeat (first | simp -dsimp -implicitDefEqProofs (disch := omega) only [↓rP, rQ, rO, rL, ↓reduceIte, Nat.reduceEqDiff, Nat.reduceAdd, Nat.reduceLeDiff, pBuild, fillA, ↓tyr, hop, hin] | refine Cut.go ?_))
        (first | (refine And.intro (by simp [hop]) ?_; (repeat (first | assumption | with_reducible exact Keeps.refl _ _ | with_reducible refine Keeps.go ?_ (Keeps.one _ _) | with_reducible refine Keeps.go ?_ (by assumption)))) | (repeat (first | assumption | with_reducible exact Keeps.refl _ _ | with_reducible refine Keeps.go ?_ (Keeps.one _ _) | with_reducible refine Keeps.go ?_ (by assumption))))
    · (repeat (first | simp -dsimp -implicitDefEqProofs (disch := omega) only [↓rP, rQ, rO, rL, ↓reduceIte, Nat.reduceEqDiff, Nat.reduceAdd, Nat.reduceLeDiff, pBuild, fillA, ↓tyr] | refine Cut.go ?_))
      refine (code_shared_does x.Op _).mono ?_
      rintro _ _ ⟨rfl, rfl⟩
      (repeat (first | simp -dsimp -implicitDefEqProofs (disch := omega) only [↓rP, rQ, rO, rL, ↓reduceIte, Nat.reduceEqDiff, Nat.reduceAdd, Nat.reduceLeDiff, pBuild, fillA, ↓tyr, hop] | refine Cut.go ?_))
      refine (code_Inside_does m.Code hm.1 hs m.thread a _).mono ?_
      rintro _ _ ⟨rfl, rfl⟩
      (repeat (first | simp -dsimp -implicitDefEqProofs (disch := omega) only [↓rP, rQ, rO, rL, ↓reduceIte, Nat.reduceEqDiff, Nat.reduceAdd, Nat.reduceLeDiff, pBuild, fillA, ↓tyr, hop] | refine Cut.go ?_))
      rcases hin : decide (insI m.Code m.thread a < 0) with _ | _
      · (repeat (first | simp -dsimp -implicitDefEqProofs (disch := omega) only [↓rP, rQ, rO, rL, ↓reduceIte, Nat.reduceEqDiff, Nat.reduceAdd, Nat.reduceLeDiff, pBuild, fillA, ↓tyr, hop, hin] | refine Cut.go ?_))
        refine (code_maker_stores_does m hm x hx _).mono ?_
        rintro _ _ ⟨rfl, _⟩
        (repeat (first | simp -dsimp -implicitDefEqProofs (disch := omega) only [↓rP, rQ, rO, rL, ↓reduceIte, Nat.reduceEqDiff, Nat.reduceAdd, Nat.reduceLeDiff, pBuild, fillA, ↓tyr] | refine Cut.go ?_))
        (first | (refine And.intro (by simp [kindB, hop]) ?_; (repeat (first | assumption | with_reducible exact Keeps.refl _ _ | with_reducible refine Keeps.go ?_ (Keeps.one _ _) | with_reducible refine Keeps.go ?_ (by assumption)))) | (repeat (first | assumption | with_reducible exact Keeps.refl _ _ | with_reducible refine Keeps.go ?_ (Keeps.one _ _) | with_reducible refine Keeps.go ?_ (by assumption))))
      · (repeat (first | simp -dsimp -implicitDefEqProofs (disch := omega) only [↓rP, rQ, rO, rL, ↓reduceIte, Nat.reduceEqDiff, Nat.reduceAdd, Nat.reduceLeDiff, pBuild, fillA, ↓tyr, hop, hin] | refine Cut.go ?_))
        (first | (refine And.intro (by simp [hop]) ?_; (repeat (first | assumption | with_reducible exact Keeps.refl _ _ | with_reducible refine Keeps.go ?_ (Keeps.one _ _) | with_reducible refine Keeps.go ?_ (by assumption)))) | (repeat (first | assumption | with_reducible exact Keeps.refl _ _ | with_reducible refine Keeps.go ?_ (Keeps.one _ _) | with_reducible refine Keeps.go ?_ (by assumption))))
    · (repeat (first | simp -dsimp -implicitDefEqProofs (disch := omega) only [↓rP, rQ, rO, rL, ↓reduceIte, Nat.reduceEqDiff, Nat.reduceAdd, Nat.reduceLeDiff, pBuild, fillA, ↓tyr] | refine Cut.go ?_))
      refine (code_shared_does x.Op _).mono ?_
      rintro _ _ ⟨rfl, rfl⟩
      (repeat (first | simp -dsimp -implicitDefEqProofs (disch := omega) only [↓rP, rQ, rO, rL, ↓reduceIte, Nat.reduceEqDiff, Nat.reduceAdd, Nat.reduceLeDiff, pBuild, fillA, ↓tyr, hop] | refine Cut.go ?_))
      refine (code_Inside_does m.Code hm.1 hs m.thread a _).mono ?_
      rintro _ _ ⟨rfl, rfl⟩
      (repeat (first | simp -dsimp -implicitDefEqProofs (disch := omega) only [↓rP, rQ, rO, rL, ↓reduceIte, Nat.reduceEqDiff, Nat.reduceAdd, Nat.reduceLeDiff, pBuild, fillA, ↓tyr, hop] | refine Cut.go ?_))
      rcases hin : decide (insI m.Code m.thread a < 0) with _ | _
      · (repeat (first | simp -dsimp -implicitDefEqProofs (disch := omega) only [↓rP, rQ, rO, rL, ↓reduceIte, Nat.reduceEqDiff, Nat.reduceAdd, Nat.reduceLeDiff, pBuild, fillA, ↓tyr, hop, hin] | refine Cut.go ?_))
        refine (code_maker_stores_does m hm x hx _).mono ?_
        rintro _ _ ⟨rfl, _⟩
        (repeat (first | simp -dsimp -implicitDefEqProofs (disch := omega) only [↓rP, rQ, rO, rL, ↓reduceIte, Nat.reduceEqDiff, Nat.reduceAdd, Nat.reduceLeDiff, pBuild, fillA, ↓tyr] | refine Cut.go ?_))
        (first | (refine And.intro (by simp [kindB, hop]) ?_; (repeat (first | assumption | with_reducible exact Keeps.refl _ _ | with_reducible refine Keeps.go ?_ (Keeps.one _ _) | with_reducible refine Keeps.go ?_ (by assumption)))) | (repeat (first | assumption | with_reducible exact Keeps.refl _ _ | with_reducible refine Keeps.go ?_ (Keeps.one _ _) | with_reducible refine Keeps.go ?_ (by assumption))))
      · (repeat (first | simp -dsimp -implicitDefEqProofs (disch := omega) only [↓rP, rQ, rO, rL, ↓reduceIte, Nat.reduceEqDiff, Nat.reduceAdd, Nat.reduceLeDiff, pBuild, fillA, ↓tyr, hop, hin] | refine Cut.go ?_))
        (first | (refine And.intro (by simp [hop]) ?_; (repeat (first | assumption | with_reducible exact Keeps.refl _ _ | with_reducible refine Keeps.go ?_ (Keeps.one _ _) | with_reducible refine Keeps.go ?_ (by assumption)))) | (repeat (first | assumption | with_reducible exact Keeps.refl _ _ | with_reducible refine Keeps.go ?_ (Keeps.one _ _) | with_reducible refine Keeps.go ?_ (by assumption))))
  · rcases hop with hop | hop
    · (repeat (first | simp -dsimp -implicitDefEqProofs (disch := omega) only [↓rP, rQ, rO, rL, ↓reduceIte, Nat.reduceEqDiff, Nat.reduceAdd, Nat.reduceLeDiff, pBuild, fillA, ↓tyr] | refine Cut.go ?_))
      refine (code_shared_does x.Op _).mono ?_
      rintro _ _ ⟨rfl, rfl⟩
      (repeat (first | simp -dsimp -implicitDefEqProofs (disch := omega) only [↓rP, rQ, rO, rL, ↓reduceIte, Nat.reduceEqDiff, Nat.reduceAdd, Nat.reduceLeDiff, pBuild, fillA, ↓tyr, hop] | refine Cut.go ?_))
      have hk : (!((decide (2 ≤ x.Op) && decide (x.Op ≤ 9)) && decide (insI m.Code m.thread a < 0)) && kindB m.Code m.thread m.body x a) = (plainB x false false false false false true false && itemsB m.body x.Items) := by simp [kindB, hop]
      rw [hk]
      refine (plain_0000010 x _).mono ?_
      rintro _ _ ⟨rfl, rfl⟩
      (repeat (first | simp -dsimp -implicitDefEqProofs (disch := omega) only [↓rP, rQ, rO, rL, ↓reduceIte, Nat.reduceEqDiff, Nat.reduceAdd, Nat.reduceLeDiff, pBuild, fillA, ↓tyr, hop] | refine Cut.go ?_))
      rcases hp : plainB x false false false false false true false with _ | _
      · (repeat (first | simp -dsimp -implicitDefEqProofs (disch := omega) only [↓rP, rQ, rO, rL, ↓reduceIte, Nat.reduceEqDiff, Nat.reduceAdd, Nat.reduceLeDiff, pBuild, fillA, ↓tyr] | refine Cut.go ?_))
        try simp only [Bool.false_and, Bool.and_false, Bool.and_true, Bool.true_and, true_and]
        (repeat (first | assumption | with_reducible exact Keeps.refl _ _ | with_reducible refine Keeps.go ?_ (Keeps.one _ _) | with_reducible refine Keeps.go ?_ (by assumption)))
      (repeat (first | simp -dsimp -implicitDefEqProofs (disch := omega) only [↓rP, rQ, rO, rL, ↓reduceIte, Nat.reduceEqDiff, Nat.reduceAdd, Nat.reduceLeDiff, pBuild, fillA, ↓tyr] | refine Cut.go ?_))
      refine (code_maker_good_does m hm x.Items hit _).mono ?_
      rintro _ _ ⟨rfl, _⟩
      (repeat (first | simp -dsimp -implicitDefEqProofs (disch := omega) only [↓rP, rQ, rO, rL, ↓reduceIte, Nat.reduceEqDiff, Nat.reduceAdd, Nat.reduceLeDiff, pBuild, fillA, ↓tyr] | refine Cut.go ?_))
      (first | (refine And.intro (by simp) ?_; (repeat (first | assumption | with_reducible exact Keeps.refl _ _ | with_reducible refine Keeps.go ?_ (Keeps.one _ _) | with_reducible refine Keeps.go ?_ (by assumption)))) | (repeat (first | assumption | with_reducible exact Keeps.refl _ _ | with_reducible refine Keeps.go ?_ (Keeps.one _ _) | with_reducible refine Keeps.go ?_ (by assumption))))
    · (repeat (first | simp -dsimp -implicitDefEqProofs (disch := omega) only [↓rP, rQ, rO, rL, ↓reduceIte, Nat.reduceEqDiff, Nat.reduceAdd, Nat.reduceLeDiff, pBuild, fillA, ↓tyr] | refine Cut.go ?_))
      refine (code_shared_does x.Op _).mono ?_
      rintro _ _ ⟨rfl, rfl⟩
      (repeat (first | simp -dsimp -implicitDefEqProofs (disch := omega) only [↓rP, rQ, rO, rL, ↓reduceIte, Nat.reduceEqDiff, Nat.reduceAdd, Nat.reduceLeDiff, pBuild, fillA, ↓tyr, hop] | refine Cut.go ?_))
      have hk : (!((decide (2 ≤ x.Op) && decide (x.Op ≤ 9)) && decide (insI m.Code m.thread a < 0)) && kindB m.Code m.thread m.body x a) = (plainB x false false false false false true false && itemsB m.body x.Items) := by simp [kindB, hop]
      rw [hk]
      refine (plain_0000010 x _).mono ?_
      rintro _ _ ⟨rfl, rfl⟩
      (repeat (first | simp -dsimp -implicitDefEqProofs (disch := omega) only [↓rP, rQ, rO, rL, ↓reduceIte, Nat.reduceEqDiff, Nat.reduceAdd, Nat.reduceLeDiff, pBuild, fillA, ↓tyr, hop] | refine Cut.go ?_))
      rcases hp : plainB x false false false false false true false with _ | _
      · (repeat (first | simp -dsimp -implicitDefEqProofs (disch := omega) only [↓rP, rQ, rO, rL, ↓reduceIte, Nat.reduceEqDiff, Nat.reduceAdd, Nat.reduceLeDiff, pBuild, fillA, ↓tyr] | refine Cut.go ?_))
        try simp only [Bool.false_and, Bool.and_false, Bool.and_true, Bool.true_and, true_and]
        (repeat (first | assumption | with_reducible exact Keeps.refl _ _ | with_reducible refine Keeps.go ?_ (Keeps.one _ _) | with_reducible refine Keeps.go ?_ (by assumption)))
      (repeat (first | simp -dsimp -implicitDefEqProofs (disch := omega) only [↓rP, rQ, rO, rL, ↓reduceIte, Nat.reduceEqDiff, Nat.reduceAdd, Nat.reduceLeDiff, pBuild, fillA, ↓tyr] | refine Cut.go ?_))
      refine (code_maker_good_does m hm x.Items hit _).mono ?_
      rintro _ _ ⟨rfl, _⟩
      (repeat (first | simp -dsimp -implicitDefEqProofs (disch := omega) only [↓rP, rQ, rO, rL, ↓reduceIte, Nat.reduceEqDiff, Nat.reduceAdd, Nat.reduceLeDiff, pBuild, fillA, ↓tyr] | refine Cut.go ?_))
      (first | (refine And.intro (by simp) ?_; (repeat (first | assumption | with_reducible exact Keeps.refl _ _ | with_reducible refine Keeps.go ?_ (Keeps.one _ _) | with_reducible refine Keeps.go ?_ (by assumption)))) | (repeat (first | assumption | with_reducible exact Keeps.refl _ _ | with_reducible refine Keeps.go ?_ (Keeps.one _ _) | with_reducible refine Keeps.go ?_ (by assumption))))
  · (repeat (first | simp -dsimp -implicitDefEqProofs (disch := omega) only [↓rP, rQ, rO, rL, ↓reduceIte, Nat.reduceEqDiff, Nat.reduceAdd, Nat.reduceLeDiff, pBuild, fillA, ↓tyr] | refine Cut.go ?_))
    refine (code_shared_does x.Op _).mono ?_
    rintro _ _ ⟨rfl, rfl⟩
    (repeat (first | simp -dsimp -implicitDefEqProofs (disch := omega) only [↓rP, rQ, rO, rL, ↓reduceIte, Nat.reduceEqDiff, Nat.reduceAdd, Nat.reduceLeDiff, pBuild, fillA, ↓tyr, hop] | refine Cut.go ?_))
    have hk : (!((decide (2 ≤ x.Op) && decide (x.Op ≤ 9)) && decide (insI m.Code m.thread a < 0)) && kindB m.Code m.thread m.body x a) = (plainB x false false false false true false false && goesB m.Code m.thread m.body a x.To) := by simp [kindB, hop]
    rw [hk]
    refine (plain_0000100 x _).mono ?_
    rintro _ _ ⟨rfl, rfl⟩
    (repeat (first | simp -dsimp -implicitDefEqProofs (disch := omega) only [↓rP, rQ, rO, rL, ↓reduceIte, Nat.reduceEqDiff, Nat.reduceAdd, Nat.reduceLeDiff, pBuild, fillA, ↓tyr, hop] | refine Cut.go ?_))
    rcases hp : plainB x false false false false true false false with _ | _
    · (repeat (first | simp -dsimp -implicitDefEqProofs (disch := omega) only [↓rP, rQ, rO, rL, ↓reduceIte, Nat.reduceEqDiff, Nat.reduceAdd, Nat.reduceLeDiff, pBuild, fillA, ↓tyr] | refine Cut.go ?_))
      try simp only [Bool.false_and, Bool.and_false, Bool.and_true, Bool.true_and, true_and]
      (repeat (first | assumption | with_reducible exact Keeps.refl _ _ | with_reducible refine Keeps.go ?_ (Keeps.one _ _) | with_reducible refine Keeps.go ?_ (by assumption)))
    (repeat (first | simp -dsimp -implicitDefEqProofs (disch := omega) only [↓rP, rQ, rO, rL, ↓reduceIte, Nat.reduceEqDiff, Nat.reduceAdd, Nat.reduceLeDiff, pBuild, fillA, ↓tyr] | refine Cut.go ?_))
    refine (code_maker_goes_does m hm hs a x.To _).mono ?_
    rintro _ _ ⟨rfl, rfl⟩
    (repeat (first | simp -dsimp -implicitDefEqProofs (disch := omega) only [↓rP, rQ, rO, rL, ↓reduceIte, Nat.reduceEqDiff, Nat.reduceAdd, Nat.reduceLeDiff, pBuild, fillA, ↓tyr] | refine Cut.go ?_))
    (first | (refine And.intro (by simp) ?_; (repeat (first | assumption | with_reducible exact Keeps.refl _ _ | with_reducible refine Keeps.go ?_ (Keeps.one _ _) | with_reducible refine Keeps.go ?_ (by assumption)))) | (repeat (first | assumption | with_reducible exact Keeps.refl _ _ | with_reducible refine Keeps.go ?_ (Keeps.one _ _) | with_reducible refine Keeps.go ?_ (by assumption))))
  · (repeat (first | simp -dsimp -implicitDefEqProofs (disch := omega) only [↓rP, rQ, rO, rL, ↓reduceIte, Nat.reduceEqDiff, Nat.reduceAdd, Nat.reduceLeDiff, pBuild, fillA, ↓tyr] | refine Cut.go ?_))
    refine (code_shared_does x.Op _).mono ?_
    rintro _ _ ⟨rfl, rfl⟩
    (repeat (first | simp -dsimp -implicitDefEqProofs (disch := omega) only [↓rP, rQ, rO, rL, ↓reduceIte, Nat.reduceEqDiff, Nat.reduceAdd, Nat.reduceLeDiff, pBuild, fillA, ↓tyr, hop] | refine Cut.go ?_))
    have hk : (!((decide (2 ≤ x.Op) && decide (x.Op ≤ 9)) && decide (insI m.Code m.thread a < 0)) && kindB m.Code m.thread m.body x a) = (plainB x false false false false true true false && goesB m.Code m.thread m.body a x.To && itemsB m.body x.Items) := by simp [kindB, hop]
    rw [hk]
    refine (plain_0000110 x _).mono ?_
    rintro _ _ ⟨rfl, rfl⟩
    (repeat (first | simp -dsimp -implicitDefEqProofs (disch := omega) only [↓rP, rQ, rO, rL, ↓reduceIte, Nat.reduceEqDiff, Nat.reduceAdd, Nat.reduceLeDiff, pBuild, fillA, ↓tyr, hop] | refine Cut.go ?_))
    rcases hp : plainB x false false false false true true false with _ | _
    · (repeat (first | simp -dsimp -implicitDefEqProofs (disch := omega) only [↓rP, rQ, rO, rL, ↓reduceIte, Nat.reduceEqDiff, Nat.reduceAdd, Nat.reduceLeDiff, pBuild, fillA, ↓tyr] | refine Cut.go ?_))
      try simp only [Bool.false_and, Bool.and_false, Bool.and_true, Bool.true_and, true_and]
      (repeat (first | assumption | with_reducible exact Keeps.refl _ _ | with_reducible refine Keeps.go ?_ (Keeps.one _ _) | with_reducible refine Keeps.go ?_ (by assumption)))
    (repeat (first | simp -dsimp -implicitDefEqProofs (disch := omega) only [↓rP, rQ, rO, rL, ↓reduceIte, Nat.reduceEqDiff, Nat.reduceAdd, Nat.reduceLeDiff, pBuild, fillA, ↓tyr] | refine Cut.go ?_))
    refine (code_maker_goes_does m hm hs a x.To _).mono ?_
    rintro _ _ ⟨rfl, rfl⟩
    (repeat (first | simp -dsimp -implicitDefEqProofs (disch := omega) only [↓rP, rQ, rO, rL, ↓reduceIte, Nat.reduceEqDiff, Nat.reduceAdd, Nat.reduceLeDiff, pBuild, fillA, ↓tyr] | refine Cut.go ?_))
    rcases hg : goesB m.Code m.thread m.body a x.To with _ | _
    · (repeat (first | simp -dsimp -implicitDefEqProofs (disch := omega) only [↓rP, rQ, rO, rL, ↓reduceIte, Nat.reduceEqDiff, Nat.reduceAdd, Nat.reduceLeDiff, pBuild, fillA, ↓tyr] | refine Cut.go ?_))
      try simp only [Bool.false_and, Bool.and_false, Bool.and_true, Bool.true_and, true_and]
      (repeat (first | assumption | with_reducible exact Keeps.refl _ _ | with_reducible refine Keeps.go ?_ (Keeps.one _ _) | with_reducible refine Keeps.go ?_ (by assumption)))
    (repeat (first | simp -dsimp -implicitDefEqProofs (disch := omega) only [↓rP, rQ, rO, rL, ↓reduceIte, Nat.reduceEqDiff, Nat.reduceAdd, Nat.reduceLeDiff, pBuild, fillA, ↓tyr] | refine Cut.go ?_))
    refine (code_maker_good_does m hm x.Items hit _).mono ?_
    rintro _ _ ⟨rfl, _⟩
    (repeat (first | simp -dsimp -implicitDefEqProofs (disch := omega) only [↓rP, rQ, rO, rL, ↓reduceIte, Nat.reduceEqDiff, Nat.reduceAdd, Nat.reduceLeDiff, pBuild, fillA, ↓tyr] | refine Cut.go ?_))
    (first | (refine And.intro (by simp) ?_; (repeat (first | assumption | with_reducible exact Keeps.refl _ _ | with_reducible refine Keeps.go ?_ (Keeps.one _ _) | with_reducible refine Keeps.go ?_ (by assumption)))) | (repeat (first | assumption | with_reducible exact Keeps.refl _ _ | with_reducible refine Keeps.go ?_ (Keeps.one _ _) | with_reducible refine Keeps.go ?_ (by assumption))))
  · rcases hop with hop | hop
    · (repeat (first | simp -dsimp -implicitDefEqProofs (disch := omega) only [↓rP, rQ, rO, rL, ↓reduceIte, Nat.reduceEqDiff, Nat.reduceAdd, Nat.reduceLeDiff, pBuild, fillA, ↓tyr] | refine Cut.go ?_))
      refine (code_shared_does x.Op _).mono ?_
      rintro _ _ ⟨rfl, rfl⟩
      (repeat (first | simp -dsimp -implicitDefEqProofs (disch := omega) only [↓rP, rQ, rO, rL, ↓reduceIte, Nat.reduceEqDiff, Nat.reduceAdd, Nat.reduceLeDiff, pBuild, fillA, ↓tyr, hop] | refine Cut.go ?_))
      refine (code_maker_border_does m x a _).mono ?_
      rintro _ _ ⟨rfl, _⟩
      (repeat (first | simp -dsimp -implicitDefEqProofs (disch := omega) only [↓rP, rQ, rO, rL, ↓reduceIte, Nat.reduceEqDiff, Nat.reduceAdd, Nat.reduceLeDiff, pBuild, fillA, ↓tyr, hop] | refine Cut.go ?_))
      (first | (refine And.intro (by simp [kindB, hop]) ?_; (repeat (first | assumption | with_reducible exact Keeps.refl _ _ | with_reducible refine Keeps.go ?_ (Keeps.one _ _) | with_reducible refine Keeps.go ?_ (by assumption)))) | (repeat (first | assumption | with_reducible exact Keeps.refl _ _ | with_reducible refine Keeps.go ?_ (Keeps.one _ _) | with_reducible refine Keeps.go ?_ (by assumption))))
    · (repeat (first | simp -dsimp -implicitDefEqProofs (disch := omega) only [↓rP, rQ, rO, rL, ↓reduceIte, Nat.reduceEqDiff, Nat.reduceAdd, Nat.reduceLeDiff, pBuild, fillA, ↓tyr] | refine Cut.go ?_))
      refine (code_shared_does x.Op _).mono ?_
      rintro _ _ ⟨rfl, rfl⟩
      (repeat (first | simp -dsimp -implicitDefEqProofs (disch := omega) only [↓rP, rQ, rO, rL, ↓reduceIte, Nat.reduceEqDiff, Nat.reduceAdd, Nat.reduceLeDiff, pBuild, fillA, ↓tyr, hop] | refine Cut.go ?_))
      refine (code_maker_border_does m x a _).mono ?_
      rintro _ _ ⟨rfl, _⟩
      (repeat (first | simp -dsimp -implicitDefEqProofs (disch := omega) only [↓rP, rQ, rO, rL, ↓reduceIte, Nat.reduceEqDiff, Nat.reduceAdd, Nat.reduceLeDiff, pBuild, fillA, ↓tyr, hop] | refine Cut.go ?_))
      (first | (refine And.intro (by simp [kindB, hop]) ?_; (repeat (first | assumption | with_reducible exact Keeps.refl _ _ | with_reducible refine Keeps.go ?_ (Keeps.one _ _) | with_reducible refine Keeps.go ?_ (by assumption)))) | (repeat (first | assumption | with_reducible exact Keeps.refl _ _ | with_reducible refine Keeps.go ?_ (Keeps.one _ _) | with_reducible refine Keeps.go ?_ (by assumption))))
  · (repeat (first | simp -dsimp -implicitDefEqProofs (disch := omega) only [↓rP, rQ, rO, rL, ↓reduceIte, Nat.reduceEqDiff, Nat.reduceAdd, Nat.reduceLeDiff, pBuild, fillA, ↓tyr] | refine Cut.go ?_))
    refine (code_shared_does x.Op _).mono ?_
    rintro _ _ ⟨rfl, rfl⟩
    (repeat (first | simp -dsimp -implicitDefEqProofs (disch := omega) only [↓rP, rQ, rO, rL, ↓reduceIte, Nat.reduceEqDiff, Nat.reduceAdd, Nat.reduceLeDiff, pBuild, fillA, ↓tyr, hop] | refine Cut.go ?_))
    have hk : (!((decide (2 ≤ x.Op) && decide (x.Op ≤ 9)) && decide (insI m.Code m.thread a < 0)) && kindB m.Code m.thread m.body x a) = (plainB x false false false false false false false && decide (a = (slL m.body.Code).length - 1)) := by simp [kindB, hop]
    rw [hk]
    refine (plain_0000000 x _).mono ?_
    rintro _ _ ⟨rfl, rfl⟩
    (repeat (first | simp -dsimp -implicitDefEqProofs (disch := omega) only [↓rP, rQ, rO, rL, ↓reduceIte, Nat.reduceEqDiff, Nat.reduceAdd, Nat.reduceLeDiff, pBuild, fillA, ↓tyr, hop] | refine Cut.go ?_))
    rcases hp : plainB x false false false false false false false with _ | _
    · (repeat (first | simp -dsimp -implicitDefEqProofs (disch := omega) only [↓rP, rQ, rO, rL, ↓reduceIte, Nat.reduceEqDiff, Nat.reduceAdd, Nat.reduceLeDiff, pBuild, fillA, ↓tyr] | refine Cut.go ?_))
      try simp only [Bool.false_and, Bool.and_false, Bool.and_true, Bool.true_and, true_and]
      (repeat (first | assumption | with_reducible exact Keeps.refl _ _ | with_reducible refine Keeps.go ?_ (Keeps.one _ _) | with_reducible refine Keeps.go ?_ (by assumption)))
    (repeat (first | simp -dsimp -implicitDefEqProofs (disch := omega) only [↓rP, rQ, rO, rL, ↓reduceIte, Nat.reduceEqDiff, Nat.reduceAdd, Nat.reduceLeDiff, pBuild, fillA, ↓tyr] | refine Cut.go ?_))
    (first | (refine And.intro (by simp [beqI]) ?_; (repeat (first | assumption | with_reducible exact Keeps.refl _ _ | with_reducible refine Keeps.go ?_ (Keeps.one _ _) | with_reducible refine Keeps.go ?_ (by assumption)))) | (repeat (first | assumption | with_reducible exact Keeps.refl _ _ | with_reducible refine Keeps.go ?_ (Keeps.one _ _) | with_reducible refine Keeps.go ?_ (by assumption))))
  · have hk : (!((decide (2 ≤ x.Op) && decide (x.Op ≤ 9)) && decide (insI m.Code m.thread a < 0)) && kindB m.Code m.thread m.body x a) = false := by
      unfold kindB
      rw [if_neg (by omega), if_neg (by omega), if_neg (by omega), if_neg (by omega), if_neg (by omega), if_neg (by omega), if_neg (by omega)]
      have : decide (x.Op = 17) = false := decide_eq_false (by omega)
      simp [this]
    rw [hk]
    have hsh : (decide (2 ≤ x.Op) && decide (x.Op ≤ 9)) = false := by
      rw [Bool.eq_false_iff]; simp only [ne_eq, Bool.and_eq_true, decide_eq_true_eq]; omega
    (repeat (first | simp -dsimp -implicitDefEqProofs (disch := omega) only [↓rP, rQ, rO, rL, ↓reduceIte, Nat.reduceEqDiff, Nat.reduceAdd, Nat.reduceLeDiff, pBuild, fillA, ↓tyr] | refine Cut.go ?_))
    refine (code_shared_does x.Op _).mono ?_
    rintro _ _ ⟨rfl, rfl⟩
    (repeat (first | simp -dsimp -implicitDefEqProofs (disch := omega) only [↓rP, rQ, rO, rL, ↓reduceIte, Nat.reduceEqDiff, Nat.reduceAdd, Nat.reduceLeDiff, pBuild, fillA, ↓tyr, hsh] | refine Cut.go ?_))
    (first | (refine And.intro (by simp) ?_; (repeat (first | assumption | with_reducible exact Keeps.refl _ _ | with_reducible refine Keeps.go ?_ (Keeps.one _ _) | with_reducible refine Keeps.go ?_ (by assumption)))) | (repeat (first | assumption | with_reducible exact Keeps.refl _ _ | with_reducible refine Keeps.go ?_ (Keeps.one _ _) | with_reducible refine Keeps.go ?_ (by assumption))))
end Go.Proofs.YtopfjochppdnfaaDoor
end

section
/- What the program's functions of codes compute: threads. -/
set_option maxRecDepth 100000
set_option maxHeartbeats 1000000
namespace Go.Proofs.YtopfjochppdnfaaDoor
open Go.Abs
theorem ok_instr {m : Code_maker} (hm : m.ok) {x : In} (hx : x ∈ slL m.body.Code) : x.ok := hm.2.2.2.1.2 x hx
theorem code_maker_all_does (m : Code_maker) (hm : m.ok) (hs : (slL m.Code.Sections).length ≤ 1000000) (h : AHeap) : CallsA Tryd.prog 48 [.agg m.cells] h (fun v h2 => v = .bool (threadB m.Code m.thread m.body) ∧ Keeps h h2 (fun _ => False)) := by
  apply code_maker_all_wp
  have e0 : threadB m.Code m.thread m.body = (decide ((slL m.body.Slots).length ≤ 64) && (decide (1 ≤ (slL m.body.Code).length) && (decide ((slL m.body.Code).length ≤ 256) && (decide (0 ≤ m.body.Most) && (decide (m.body.Most ≤ 4096) && (lastB m.body && ((slL m.body.Slots).all (localB m.Code) && instrsB m.Code m.thread m.body))))))) := by
    unfold threadB bodyB
    simp only [Bool.and_assoc]
    congr 5
    rw [Bool.and_left_comm]
  rw [e0]
  have stop : ∀ (b r : Bool), b = false → (b && r) = false := fun b r e => by rw [e]; rfl
  (repeat simp -dsimp -implicitDefEqProofs (disch := omega) only [↓rP, rQ, rO, rL, ↓reduceIte, Nat.reduceEqDiff, Nat.reduceAdd, Nat.reduceLeDiff, pBuild, fillA, ↓tyr])
  refine Split_lt (fun h1 => ?_) (fun h1 => ?_)
  · (repeat simp -dsimp -implicitDefEqProofs (disch := omega) only [↓rP, rQ, rO, rL, ↓reduceIte, Nat.reduceEqDiff, Nat.reduceAdd, Nat.reduceLeDiff, pBuild, fillA, ↓tyr])
    try rw [decide_eq_false (by omega : ¬ (slL m.body.Slots).length ≤ 64)]
    (first | (refine And.intro (by simp) ?_; (repeat (first | assumption | with_reducible exact Keeps.refl _ _ | with_reducible refine Keeps.go ?_ (Keeps.one _ _) | with_reducible refine Keeps.go ?_ (by assumption)))) | (repeat (first | assumption | with_reducible exact Keeps.refl _ _ | with_reducible refine Keeps.go ?_ (Keeps.one _ _) | with_reducible refine Keeps.go ?_ (by assumption))))
  rw [decide_eq_true (by omega : (slL m.body.Slots).length ≤ 64)]
  (repeat simp -dsimp -implicitDefEqProofs (disch := omega) only [↓rP, rQ, rO, rL, ↓reduceIte, Nat.reduceEqDiff, Nat.reduceAdd, Nat.reduceLeDiff, pBuild, fillA, ↓tyr])
  refine Split_lt (fun h2 => ?_) (fun h2 => ?_)
  · (repeat simp -dsimp -implicitDefEqProofs (disch := omega) only [↓rP, rQ, rO, rL, ↓reduceIte, Nat.reduceEqDiff, Nat.reduceAdd, Nat.reduceLeDiff, pBuild, fillA, ↓tyr])
    try rw [decide_eq_false (by omega : ¬ 1 ≤ (slL m.body.Code).length)]
    (first | (refine And.intro (by simp) ?_; (repeat (first | assumption | with_reducible exact Keeps.refl _ _ | with_reducible refine Keeps.go ?_ (Keeps.one _ _) | with_reducible refine Keeps.go ?_ (by assumption)))) | (repeat (first | assumption | with_reducible exact Keeps.refl _ _ | with_reducible refine Keeps.go ?_ (Keeps.one _ _) | with_reducible refine Keeps.go ?_ (by assumption))))
  rw [decide_eq_true (by omega : 1 ≤ (slL m.body.Code).length)]
  (repeat simp -dsimp -implicitDefEqProofs (disch := omega) only [↓rP, rQ, rO, rL, ↓reduceIte, Nat.reduceEqDiff, Nat.reduceAdd, Nat.reduceLeDiff, pBuild, fillA, ↓tyr])
  refine Split_lt (fun h3 => ?_) (fun h3 => ?_)
  · (repeat simp -dsimp -implicitDefEqProofs (disch := omega) only [↓rP, rQ, rO, rL, ↓reduceIte, Nat.reduceEqDiff, Nat.reduceAdd, Nat.reduceLeDiff, pBuild, fillA, ↓tyr])
    try rw [decide_eq_false (by omega : ¬ (slL m.body.Code).length ≤ 256)]
    (first | (refine And.intro (by simp) ?_; (repeat (first | assumption | with_reducible exact Keeps.refl _ _ | with_reducible refine Keeps.go ?_ (Keeps.one _ _) | with_reducible refine Keeps.go ?_ (by assumption)))) | (repeat (first | assumption | with_reducible exact Keeps.refl _ _ | with_reducible refine Keeps.go ?_ (Keeps.one _ _) | with_reducible refine Keeps.go ?_ (by assumption))))
  rw [decide_eq_true (by omega : (slL m.body.Code).length ≤ 256)]
  (repeat simp -dsimp -implicitDefEqProofs (disch := omega) only [↓rP, rQ, rO, rL, ↓reduceIte, Nat.reduceEqDiff, Nat.reduceAdd, Nat.reduceLeDiff, pBuild, fillA, ↓tyr])
  refine Split_lt (fun h4 => ?_) (fun h4 => ?_)
  · (repeat simp -dsimp -implicitDefEqProofs (disch := omega) only [↓rP, rQ, rO, rL, ↓reduceIte, Nat.reduceEqDiff, Nat.reduceAdd, Nat.reduceLeDiff, pBuild, fillA, ↓tyr])
    try rw [decide_eq_false (by omega : ¬ 0 ≤ m.body.Most)]
    (first | (refine And.intro (by simp) ?_; (repeat (first | assumption | with_reducible exact Keeps.refl _ _ | with_reducible refine Keeps.go ?_ (Keeps.one _ _) | with_reducible refine Keeps.go ?_ (by assumption)))) | (repeat (first | assumption | with_reducible exact Keeps.refl _ _ | with_reducible refine Keeps.go ?_ (Keeps.one _ _) | with_reducible refine Keeps.go ?_ (by assumption))))
  rw [decide_eq_true (by omega : 0 ≤ m.body.Most)]
  (repeat simp -dsimp -implicitDefEqProofs (disch := omega) only [↓rP, rQ, rO, rL, ↓reduceIte, Nat.reduceEqDiff, Nat.reduceAdd, Nat.reduceLeDiff, pBuild, fillA, ↓tyr])
  refine Split_lt (fun h5 => ?_) (fun h5 => ?_)
  · (repeat simp -dsimp -implicitDefEqProofs (disch := omega) only [↓rP, rQ, rO, rL, ↓reduceIte, Nat.reduceEqDiff, Nat.reduceAdd, Nat.reduceLeDiff, pBuild, fillA, ↓tyr])
    try rw [decide_eq_false (by omega : ¬ m.body.Most ≤ 4096)]
    (first | (refine And.intro (by simp) ?_; (repeat (first | assumption | with_reducible exact Keeps.refl _ _ | with_reducible refine Keeps.go ?_ (Keeps.one _ _) | with_reducible refine Keeps.go ?_ (by assumption)))) | (repeat (first | assumption | with_reducible exact Keeps.refl _ _ | with_reducible refine Keeps.go ?_ (Keeps.one _ _) | with_reducible refine Keeps.go ?_ (by assumption))))
  rw [decide_eq_true (by omega : m.body.Most ≤ 4096)]
  obtain ⟨y, hy⟩ : ∃ y, getI (slL m.body.Code) ((slL m.body.Code).length - 1) = some y := getI_some.1 (by unfold btw; simp; omega)
  have hlb : lastB m.body = decide (y.Op = 17) := by unfold lastB; rw [hy]
  rw [hlb]
  (repeat simp -dsimp -implicitDefEqProofs (disch := omega) only [↓rP, rQ, rO, rL, ↓reduceIte, Nat.reduceEqDiff, Nat.reduceAdd, Nat.reduceLeDiff, pBuild, fillA, ↓tyr, ixI hy])
  refine Split_ne (fun h6 => ?_) (fun h6 => ?_)
  · (repeat simp -dsimp -implicitDefEqProofs (disch := omega) only [↓rP, rQ, rO, rL, ↓reduceIte, Nat.reduceEqDiff, Nat.reduceAdd, Nat.reduceLeDiff, pBuild, fillA, ↓tyr])
    try rw [decide_eq_false h6]
    (first | (refine And.intro (by simp) ?_; (repeat (first | assumption | with_reducible exact Keeps.refl _ _ | with_reducible refine Keeps.go ?_ (Keeps.one _ _) | with_reducible refine Keeps.go ?_ (by assumption)))) | (repeat (first | assumption | with_reducible exact Keeps.refl _ _ | with_reducible refine Keeps.go ?_ (Keeps.one _ _) | with_reducible refine Keeps.go ?_ (by assumption))))
  rw [decide_eq_true h6]
  (repeat simp -dsimp -implicitDefEqProofs (disch := omega) only [↓rP, rQ, rO, rL, ↓reduceIte, Nat.reduceEqDiff, Nat.reduceAdd, Nat.reduceLeDiff, pBuild, fillA, ↓tyr])
  apply slices_ContainsFunc_api_Local_api_Local_wp
  refine (ixf_Local_does m.body.Slots (by omega) (fun x => !localB m.Code x) _ h fun x hx R hR => ?_).mono ?_
  · simp only [pCallF, List.nil_append, List.append_nil, List.singleton_append, List.cons_append]
    apply code_maker_all_1_wp
    (repeat simp -dsimp -implicitDefEqProofs (disch := omega) only [↓rP, rQ, rO, rL, ↓reduceIte, Nat.reduceEqDiff, Nat.reduceAdd, Nat.reduceLeDiff, pBuild, fillA, ↓tyr])
    refine (code_local_does m.Code x h).mono ?_
    rintro _ _ ⟨rfl, rfl⟩
    (repeat simp -dsimp -implicitDefEqProofs (disch := omega) only [↓rP, rQ, rO, rL, ↓reduceIte, Nat.reduceEqDiff, Nat.reduceAdd, Nat.reduceLeDiff, pBuild, fillA, ↓tyr])
    exact hR
  rintro _ h ⟨rfl, rfl⟩
  have e1 : (slL m.body.Slots).any (fun x => !localB m.Code x) = !(slL m.body.Slots).all (localB m.Code) := by
    rw [List.not_all_eq_any_not]
  have e2 := posI_neg (p := fun x => !localB m.Code x) (l := slL m.body.Slots)
  rw [e1] at e2
  have e3 : decide (0 ≤ posI (fun x => !localB m.Code x) (slL m.body.Slots)) = !(slL m.body.Slots).all (localB m.Code) := by
    cases hb : (slL m.body.Slots).all (localB m.Code) with
    | true => rw [hb] at e2; simp at e2 ⊢; omega
    | false => rw [hb] at e2; simp at e2 ⊢; omega
  rcases hb : (slL m.body.Slots).all (localB m.Code) with _ | _
  · rw [hb] at e3
    (repeat simp -dsimp -implicitDefEqProofs (disch := omega) only [↓rP, rQ, rO, rL, ↓reduceIte, Nat.reduceEqDiff, Nat.reduceAdd, Nat.reduceLeDiff, pBuild, fillA, ↓tyr, e3])
    (first | (refine And.intro (by simp) ?_; (repeat (first | assumption | with_reducible exact Keeps.refl _ _ | with_reducible refine Keeps.go ?_ (Keeps.one _ _) | with_reducible refine Keeps.go ?_ (by assumption)))) | (repeat (first | assumption | with_reducible exact Keeps.refl _ _ | with_reducible refine Keeps.go ?_ (Keeps.one _ _) | with_reducible refine Keeps.go ?_ (by assumption))))
  rw [hb] at e3
  (repeat simp -dsimp -implicitDefEqProofs (disch := omega) only [↓rP, rQ, rO, rL, ↓reduceIte, Nat.reduceEqDiff, Nat.reduceAdd, Nat.reduceLeDiff, pBuild, fillA, ↓tyr, e3])
  refine WP_loop mixed_ (by kernel_rfl) (fun n fr hh => ∃ k : Nat, k ≤ (slL m.body.Code).length ∧ n = (slL m.body.Code).length - k ∧ upTo (fun k x => instrB m.Code m.thread m.body x k) (slL m.body.Code) k ∧ Keeps h hh (fun _ => False) ∧ fr = frOf [(1, .iptr m.cells), (53, slAV 8 Api_Instr.cells m.body.Code), (54, .int .i64 (slL m.body.Code).length), (55, .int .i64 k)]) (slL m.body.Code).length ⟨0, by omega, by omega, upTo_zero _ _, .refl _ _, rfl⟩ ?_
  rintro n fr hh ⟨k, hk, rfl, hup, kp, rfl⟩
  apply code_maker_all_loop7
  generalize hI : (fun (n : Nat) (fr : Fr) (hh : AHeap) => _) = I
  (repeat simp -dsimp -implicitDefEqProofs (disch := omega) only [↓rP, rQ, rO, rL, ↓reduceIte, Nat.reduceEqDiff, Nat.reduceAdd, Nat.reduceLeDiff, pBuild, fillA, ↓tyr])
  refine Split_lt (fun hkl => ?_) (fun hkl => ?_)
  · obtain ⟨x, hx⟩ : ∃ x, (slL m.body.Code)[k]? = some x := ⟨_, List.getElem?_eq_getElem (by omega)⟩
    (repeat simp -dsimp -implicitDefEqProofs (disch := omega) only [↓rP, rQ, rO, rL, ↓reduceIte, Nat.reduceEqDiff, Nat.reduceAdd, Nat.reduceLeDiff, pBuild, fillA, ↓tyr, pIndexAddr_slAV hx])
    refine (code_maker_instr_does m hm hs (by omega) x (ok_instr hm (List.mem_of_getElem? hx)) k _).mono ?_
    rintro _ h9 ⟨rfl, k9⟩
    have k10 := kp.go ((Keeps.one _ _).go k9)
    rcases hi : instrB m.Code m.thread m.body x k with _ | _
    · (repeat simp -dsimp -implicitDefEqProofs (disch := omega) only [↓rP, rQ, rO, rL, ↓reduceIte, Nat.reduceEqDiff, Nat.reduceAdd, Nat.reduceLeDiff, pBuild, fillA, ↓tyr])
      have : instrsB m.Code m.thread m.body = false := allK_false hx hi
      rw [this]
      exact ⟨rfl, k10⟩
    · (repeat simp -dsimp -implicitDefEqProofs (disch := omega) only [↓rP, rQ, rO, rL, ↓reduceIte, Nat.reduceEqDiff, Nat.reduceAdd, Nat.reduceLeDiff, pBuild, fillA, ↓tyr])
      rw [loopPost_normal, ← hI]
      exact ⟨_, by omega, k + 1, by omega, rfl, upTo_succ hup hx hi, k10, by simp⟩
  · have hke : k = (slL m.body.Code).length := by omega
    subst hke
    (repeat simp -dsimp -implicitDefEqProofs (disch := omega) only [↓rP, rQ, rO, rL, ↓reduceIte, Nat.reduceEqDiff, Nat.reduceAdd, Nat.reduceLeDiff, pBuild, fillA, ↓tyr])
    have : instrsB m.Code m.thread m.body = true := upTo_all hup
    rw [this]
    exact ⟨rfl, kp⟩
end Go.Proofs.YtopfjochppdnfaaDoor
end

section
/- What the program's functions of codes compute: sections, sites, codes. -/
set_option maxRecDepth 100000
set_option maxHeartbeats 1000000
namespace Go.Proofs.YtopfjochppdnfaaDoor
open Go.Abs
theorem wkS (k : Nat) (hk : k ≤ 1000000) : IntKind.i64.wrap ((k : Int) + 1) = ((k + 1 : Nat) : Int) := by rw [wrapI (by omega) (by omega)]; omega
theorem slice_to {α : Type} (sz : Nat) (enc : α → List AV) (o : Option (List α)) (k : Nat) (hk : k ≤ (slL o).length) (kk : IntKind) (K : AV → Prop) : pSliceSl sz (slAV sz enc o) none (some (.int kk (k : Int))) K = K (slAV sz enc (o.map (List.take k))) := by
  cases o with
  | none =>
    have : k = 0 := by simpa using hk
    subst this
    simp [pSliceSl, slAV, bnd]
  | some l =>
    have : k ≤ l.length := by simpa using hk
    simp only [pSliceSl, slAV, bnd, Option.map_some, List.length_map, Int.toNat_natCast, true_and, Int.toNat_zero, List.drop_zero, List.map_take]
    simp; omega
theorem slL_take {α : Type} (o : Option (List α)) (k : Nat) : slL (o.map (List.take k)) = (slL o).take k := by cases o <;> simp
theorem sections_inner (c : Cd) (s : Api_Section) (k : Nat) (hk : k ≤ (slL c.Sections).length) (hs : (slL c.Sections).length ≤ 1000000) (a1 a9 a10 : AV) (h0 : AHeap) (id : Nat) (hid : id < h0.next) (ho : h0.objs id = some (.row 71 s.cells)) (Q : AExit → Fr → AHeap → Prop)
    (hret : ∀ h2, ((slL c.Sections).take k).all (fun o => !meetB s o) = false → Keeps h0 h2 (fun _ => False) → Q .ret (frOf [(2, .bool false)]) h2)
    (hex : ∀ h2, ((slL c.Sections).take k).all (fun o => !meetB s o) = true → Keeps h0 h2 (fun _ => False) → Q (.exit 2) (frOf [(1, a1), (9, a9), (10, a10), (11, .int .i64 k)]) h2) :
    WP Tryd.prog 125 (.loop c_code_sections_10) (frOf [(1, a1), (4, .ptr id 0), (9, a9), (10, a10), (11, .int .i64 k), (94, slAV 3 Api_Section.cells (c.Sections.map (List.take k))), (95, .int .i64 (k : Nat)), (96, .int .i64 0)]) h0 Q := by
  have hl : (slL (c.Sections.map (List.take k))).length = k := by rw [slL_take, List.length_take]; omega
  refine WP_loop mixed_ (by kernel_rfl) (fun n fr hh => ∃ j : Nat, j ≤ k ∧ n = k - j ∧ (∀ i o, i < j → (slL c.Sections)[i]? = some o → meetB s o = false) ∧ Keeps h0 hh (fun _ => False) ∧ fr = frOf [(1, a1), (4, .ptr id 0), (9, a9), (10, a10), (11, .int .i64 k), (94, slAV 3 Api_Section.cells (c.Sections.map (List.take k))), (95, .int .i64 (k : Nat)), (96, .int .i64 j)]) k ⟨0, by omega, by omega, fun i o hi => by omega, .refl _ _, rfl⟩ ?_
  rintro n fr hh ⟨j, hj, rfl, hup, kp, rfl⟩
  apply code_sections_loop10
  generalize hI : (fun (n : Nat) (fr : Fr) (hh : AHeap) => _) = I
  (repeat simp -dsimp -implicitDefEqProofs (disch := omega) only [↓rP, rQ, rO, rL, ↓reduceIte, Nat.reduceEqDiff, Nat.reduceAdd, Nat.reduceLeDiff, pBuild, fillA, ↓tyr])
  refine Split_lt (fun hjk => ?_) (fun hjk => ?_)
  · obtain ⟨o, hx⟩ : ∃ o, (slL c.Sections)[j]? = some o := ⟨_, List.getElem?_eq_getElem (by omega)⟩
    have hx2 : (slL (c.Sections.map (List.take k)))[j]? = some o := by rw [slL_take, List.getElem?_take_of_lt (by omega), hx]
    have kp1 : Keeps h0 (hh.push (.row 71 o.cells)) (fun _ => False) := kp.go (Keeps.one _ _)
    have ho2 : (hh.push (.row 71 o.cells)).objs id = some (.row 71 s.cells) := by
      have := kp.next
      simp only [AHeap.push_objs]
      rw [if_neg (by omega), kp.objs id hid (by simp), ho]
    have ld : ∀ (off : Nat) (q : Option Nat) (K : AV → Prop), pLoad q (.ptr id off) (hh.push (.row 71 o.cells)) K = pCells q s.cells off K := fun off q K => pLoad_ptr ho2 q K
    have yes : meetB s o = true → ((slL c.Sections).take k).all (fun o => !meetB s o) = false := fun hm => by
      rw [List.all_eq_false]
      exact ⟨o, List.mem_of_getElem? (i := j) (by rw [List.getElem?_take_of_lt (by omega), hx]), by simp [hm]⟩
    have on : meetB s o = false → loopPost I (k - j) Q .normal (frOf [(1, a1), (4, .ptr id 0), (9, a9), (10, a10), (11, .int .i64 k), (94, slAV 3 Api_Section.cells (c.Sections.map (List.take k))), (95, .int .i64 (k : Nat)), (96, .int .i64 (IntKind.i64.wrap ((j : Int) + 1)))]) (hh.push (.row 71 o.cells)) := fun hm => by
      rw [loopPost_normal, ← hI, wkS j (by omega)]
      refine ⟨_, ?_, j + 1, by omega, rfl, fun i y hi hy => ?_, kp1, rfl⟩
      · omega
      · by_cases e : i = j
        · subst e; rw [hx] at hy; cases hy; exact hm
        · exact hup i y (by omega) hy
    rw [wkS j (by omega)] at on
    repeat' (first | (simp -dsimp -implicitDefEqProofs (disch := omega) only [↓rP, rQ, rO, rL, ↓reduceIte, Nat.reduceEqDiff, Nat.reduceAdd, Nat.reduceLeDiff, pBuild, fillA, ↓tyr, pIndexAddr_slAV hx2, ↓ld, wkS j (by omega)]) | refine Cut.go ?_ | refine Split_eq (fun _ => ?_) (fun _ => ?_) | refine Split_ne (fun _ => ?_) (fun _ => ?_) | refine Split_lt (fun _ => ?_) (fun _ => ?_) | refine Split_le (fun _ => ?_) (fun _ => ?_) | refine Split.intro (fun _ => ?_) (fun _ => ?_))
    all_goals first
      | exact hret _ (yes (by simp [meetB, *])) kp1
      | exact on (by simp [meetB, *]; try omega)
  · have hke : j = k := by omega
    subst hke
    (repeat simp -dsimp -implicitDefEqProofs (disch := omega) only [↓rP, rQ, rO, rL, ↓reduceIte, Nat.reduceEqDiff, Nat.reduceAdd, Nat.reduceLeDiff, pBuild, fillA, ↓tyr])
    refine hex hh ?_ kp
    rw [List.all_eq_true]
    intro o ho'
    obtain ⟨i, hi⟩ := List.getElem?_of_mem ho'
    have hij : i < j := by have := (List.getElem?_eq_some_iff.1 hi).1; rw [List.length_take] at this; omega
    rw [List.getElem?_take_of_lt hij] at hi
    rw [hup i o hij hi]; rfl
theorem code_sections_does (c : Cd) (hc : c.ok) (hs : (slL c.Sections).length ≤ 1000000) (h : AHeap) : CallsA Tryd.prog 46 [.agg c.cells] h (fun v h2 => v = .bool (sectionsB c) ∧ Keeps h h2 (fun _ => False)) := by
  apply code_sections_wp
  (repeat simp -dsimp -implicitDefEqProofs (disch := omega) only [↓rP, rQ, rO, rL, ↓reduceIte, Nat.reduceEqDiff, Nat.reduceAdd, Nat.reduceLeDiff, pBuild, fillA, ↓tyr])
  refine WP_loop mixed_ (by kernel_rfl) (fun n fr hh => ∃ k : Nat, k ≤ (slL c.Sections).length ∧ n = (slL c.Sections).length - k ∧ upTo (secB c) (slL c.Sections) k ∧ Keeps h hh (fun _ => False) ∧ fr = frOf [(1, .iptr c.cells), (9, slAV 3 Api_Section.cells c.Sections), (10, .int .i64 (slL c.Sections).length), (11, .int .i64 k)]) (slL c.Sections).length ⟨0, by omega, by omega, upTo_zero _ _, .refl _ _, rfl⟩ ?_
  rintro n fr hh ⟨k, hk, rfl, hup, kp, rfl⟩
  apply code_sections_loop2
  generalize hI : (fun (n : Nat) (fr : Fr) (hh : AHeap) => _) = I
  (repeat simp -dsimp -implicitDefEqProofs (disch := omega) only [↓rP, rQ, rO, rL, ↓reduceIte, Nat.reduceEqDiff, Nat.reduceAdd, Nat.reduceLeDiff, pBuild, fillA, ↓tyr])
  refine Split_lt (fun hkl => ?_) (fun hkl => ?_)
  · obtain ⟨s, hx⟩ : ∃ s, (slL c.Sections)[k]? = some s := ⟨_, List.getElem?_eq_getElem (by omega)⟩
    have kp1 : Keeps h (hh.push (.row 71 s.cells)) (fun _ => False) := kp.go (Keeps.one _ _)
    have bad : secB c k s = false → sectionsB c = false := fun hb => by unfold sectionsB; rw [allK_false hx hb, Bool.and_false]
    (repeat simp -dsimp -implicitDefEqProofs (disch := omega) only [↓rP, rQ, rO, rL, ↓reduceIte, Nat.reduceEqDiff, Nat.reduceAdd, Nat.reduceLeDiff, pBuild, fillA, ↓tyr, pIndexAddr_slAV hx])
    refine (code_between_does _ _ _).mono ?_
    rintro _ _ ⟨rfl, rfl⟩
    (repeat simp -dsimp -implicitDefEqProofs (disch := omega) only [↓rP, rQ, rO, rL, ↓reduceIte, Nat.reduceEqDiff, Nat.reduceAdd, Nat.reduceLeDiff, pBuild, fillA, ↓tyr])
    cases hb : getI (slL c.Threads) s.Thread with
    | none =>
      have hbt := getI_none.2 hb
      (repeat simp -dsimp -implicitDefEqProofs (disch := omega) only [↓rP, rQ, rO, rL, ↓reduceIte, Nat.reduceEqDiff, Nat.reduceAdd, Nat.reduceLeDiff, pBuild, fillA, ↓tyr, hbt])
      rw [bad (by simp [secB, endsB, codeAt, hb])]
      exact ⟨rfl, kp1⟩
    | some b =>
      have hbt := getI_some.2 ⟨b, hb⟩
      (repeat simp -dsimp -implicitDefEqProofs (disch := omega) only [↓rP, rQ, rO, rL, ↓reduceIte, Nat.reduceEqDiff, Nat.reduceAdd, Nat.reduceLeDiff, pBuild, fillA, ↓tyr, hbt])
      refine Split_lt (fun h1 => ?_) (fun h1 => ?_)
      · (repeat simp -dsimp -implicitDefEqProofs (disch := omega) only [↓rP, rQ, rO, rL, ↓reduceIte, Nat.reduceEqDiff, Nat.reduceAdd, Nat.reduceLeDiff, pBuild, fillA, ↓tyr])
        rw [bad (by simp [secB, endsB]; omega)]
        exact ⟨rfl, kp1⟩
      (repeat simp -dsimp -implicitDefEqProofs (disch := omega) only [↓rP, rQ, rO, rL, ↓reduceIte, Nat.reduceEqDiff, Nat.reduceAdd, Nat.reduceLeDiff, pBuild, fillA, ↓tyr])
      refine Split_le (fun h2 => ?_) (fun h2 => ?_)
      · (repeat simp -dsimp -implicitDefEqProofs (disch := omega) only [↓rP, rQ, rO, rL, ↓reduceIte, Nat.reduceEqDiff, Nat.reduceAdd, Nat.reduceLeDiff, pBuild, fillA, ↓tyr])
        rw [bad (by simp [secB, endsB]; omega)]
        exact ⟨rfl, kp1⟩
      (repeat simp -dsimp -implicitDefEqProofs (disch := omega) only [↓rP, rQ, rO, rL, ↓reduceIte, Nat.reduceEqDiff, Nat.reduceAdd, Nat.reduceLeDiff, pBuild, fillA, ↓tyr, ixI hb])
      refine Split_le (fun h3 => ?_) (fun h3 => ?_)
      · (repeat simp -dsimp -implicitDefEqProofs (disch := omega) only [↓rP, rQ, rO, rL, ↓reduceIte, Nat.reduceEqDiff, Nat.reduceAdd, Nat.reduceLeDiff, pBuild, fillA, ↓tyr])
        have : getI (slL b.Code) s.To = none := getI_none.1 (by unfold btw; simp; omega)
        rw [bad (by simp [secB, endsB, codeAt, hb, this])]
        exact ⟨rfl, kp1⟩
      obtain ⟨x, hxx⟩ : ∃ x, getI (slL b.Code) s.From = some x := getI_some.1 (by unfold btw; simp; omega)
      obtain ⟨y, hyy⟩ : ∃ y, getI (slL b.Code) s.To = some y := getI_some.1 (by unfold btw; simp; omega)
      (repeat simp -dsimp -implicitDefEqProofs (disch := omega) only [↓rP, rQ, rO, rL, ↓reduceIte, Nat.reduceEqDiff, Nat.reduceAdd, Nat.reduceLeDiff, pBuild, fillA, ↓tyr, ixI hb, ixI hxx, ixI hyy])
      refine Split_ne (fun h4 => ?_) (fun h4 => ?_)
      · (repeat simp -dsimp -implicitDefEqProofs (disch := omega) only [↓rP, rQ, rO, rL, ↓reduceIte, Nat.reduceEqDiff, Nat.reduceAdd, Nat.reduceLeDiff, pBuild, fillA, ↓tyr])
        rw [bad (by simp [secB, endsB, codeAt, hb, hxx, h4])]
        exact ⟨rfl, kp1⟩
      (repeat simp -dsimp -implicitDefEqProofs (disch := omega) only [↓rP, rQ, rO, rL, ↓reduceIte, Nat.reduceEqDiff, Nat.reduceAdd, Nat.reduceLeDiff, pBuild, fillA, ↓tyr, ixI hb, ixI hxx, ixI hyy])
      refine Split_ne (fun h5 => ?_) (fun h5 => ?_)
      · (repeat simp -dsimp -implicitDefEqProofs (disch := omega) only [↓rP, rQ, rO, rL, ↓reduceIte, Nat.reduceEqDiff, Nat.reduceAdd, Nat.reduceLeDiff, pBuild, fillA, ↓tyr])
        rw [bad (by simp [secB, endsB, codeAt, hb, hxx, h5])]
        exact ⟨rfl, kp1⟩
      (repeat simp -dsimp -implicitDefEqProofs (disch := omega) only [↓rP, rQ, rO, rL, ↓reduceIte, Nat.reduceEqDiff, Nat.reduceAdd, Nat.reduceLeDiff, pBuild, fillA, ↓tyr, ixI hb, ixI hxx, ixI hyy])
      refine Split_ne (fun h6 => ?_) (fun h6 => ?_)
      · (repeat simp -dsimp -implicitDefEqProofs (disch := omega) only [↓rP, rQ, rO, rL, ↓reduceIte, Nat.reduceEqDiff, Nat.reduceAdd, Nat.reduceLeDiff, pBuild, fillA, ↓tyr])
        rw [bad (by simp [secB, endsB, codeAt, hb, hyy, h6])]
        exact ⟨rfl, kp1⟩
      (repeat simp -dsimp -implicitDefEqProofs (disch := omega) only [↓rP, rQ, rO, rL, ↓reduceIte, Nat.reduceEqDiff, Nat.reduceAdd, Nat.reduceLeDiff, pBuild, fillA, ↓tyr, ixI hb, ixI hxx, ixI hyy])
      refine Split_ne (fun h7 => ?_) (fun h7 => ?_)
      · (repeat simp -dsimp -implicitDefEqProofs (disch := omega) only [↓rP, rQ, rO, rL, ↓reduceIte, Nat.reduceEqDiff, Nat.reduceAdd, Nat.reduceLeDiff, pBuild, fillA, ↓tyr])
        rw [bad (by simp [secB, endsB, codeAt, hb, hyy, h7])]
        exact ⟨rfl, kp1⟩
      (repeat simp -dsimp -implicitDefEqProofs (disch := omega) only [↓rP, rQ, rO, rL, ↓reduceIte, Nat.reduceEqDiff, Nat.reduceAdd, Nat.reduceLeDiff, pBuild, fillA, ↓tyr, slice_to 3 Api_Section.cells c.Sections k hk])
      have hlk : (slL (c.Sections.map (List.take k))).length = k := by rw [slL_take, List.length_take]; omega
      rw [hlk]
      have he : endsB c k s = true := by
        simp only [endsB, codeAt, hb, hxx, hyy, h4, h5, h6, h7, decide_true, Bool.and_true, Bool.and_eq_true, decide_eq_true_eq]
        omega
      refine sections_inner c s k hk hs _ _ _ _ _ (by simp) (by simp) _ (fun h2 hm k2 => ?_) (fun h2 hm k2 => ?_)
      · (repeat simp -dsimp -implicitDefEqProofs (disch := omega) only [↓rP, rQ, rO, rL, ↓reduceIte, Nat.reduceEqDiff, Nat.reduceAdd, Nat.reduceLeDiff, pBuild, fillA, ↓tyr])
        rw [bad (by unfold secB; rw [hm, Bool.and_false])]
        exact ⟨rfl, kp1.go k2⟩
      · (repeat simp -dsimp -implicitDefEqProofs (disch := omega) only [↓rP, rQ, rO, rL, ↓reduceIte, Nat.reduceEqDiff, Nat.reduceAdd, Nat.reduceLeDiff, pBuild, fillA, ↓tyr])
        rw [loopPost_normal, ← hI]
        exact ⟨_, by omega, k + 1, by omega, rfl, upTo_succ hup hx (by unfold secB; rw [hm, he]; rfl), kp1.go k2, by simp⟩
  · have hke : k = (slL c.Sections).length := by omega
    subst hke
    (repeat simp -dsimp -implicitDefEqProofs (disch := omega) only [↓rP, rQ, rO, rL, ↓reduceIte, Nat.reduceEqDiff, Nat.reduceAdd, Nat.reduceLeDiff, pBuild, fillA, ↓tyr])
    have : allK (secB c) (slL c.Sections) = true := upTo_all hup
    unfold sectionsB
    rw [this]
    refine ⟨by simp; try omega, kp⟩
end Go.Proofs.YtopfjochppdnfaaDoor
end

section
/- What the program's functions of codes compute: sites; which codes can be; which slot gets a value. -/
set_option maxRecDepth 100000
set_option maxHeartbeats 1000000
namespace Go.Proofs.YtopfjochppdnfaaDoor
open Go.Abs
theorem code_sites_does (c : Cd) (hc : c.ok) (hs : (slL c.Sites).length ≤ 1000000) (h : AHeap) : CallsA Tryd.prog 47 [.agg c.cells] h (fun v h2 => v = .bool (sitesB c) ∧ Keeps h h2 (fun _ => False)) := by
  apply code_sites_wp
  (repeat (first | simp -dsimp -implicitDefEqProofs (disch := omega) only [↓rP, rQ, rO, rL, ↓reduceIte, Nat.reduceEqDiff, Nat.reduceAdd, Nat.reduceLeDiff, pBuild, fillA, ↓tyr] | refine Cut.go ?_))
  refine WP_loop mixed_ (by kernel_rfl) (fun n fr hh => ∃ k : Nat, k ≤ (slL c.Sites).length ∧ n = (slL c.Sites).length - k ∧ upTo (siteOk c) (slL c.Sites) k ∧ Keeps h hh (fun _ => False) ∧ fr = frOf [(1, .iptr c.cells), (7, slAV 3 Api_Site.cells c.Sites), (8, .int .i64 (slL c.Sites).length), (9, .int .i64 k)]) (slL c.Sites).length ⟨0, by omega, by omega, upTo_zero _ _, .refl _ _, rfl⟩ ?_
  rintro n fr hh ⟨k, hk, rfl, hup, kp, rfl⟩
  apply code_sites_loop2
  generalize hI : (fun (n : Nat) (fr : Fr) (hh : AHeap) => _) = I
  (repeat (first | simp -dsimp -implicitDefEqProofs (disch := omega) only [↓rP, rQ, rO, rL, ↓reduceIte, Nat.reduceEqDiff, Nat.reduceAdd, Nat.reduceLeDiff, pBuild, fillA, ↓tyr] | refine Cut.go ?_))
  refine Split_lt (fun hkl => ?_) (fun hkl => ?_)
  · obtain ⟨s, hx⟩ : ∃ s, (slL c.Sites)[k]? = some s := ⟨_, List.getElem?_eq_getElem (by omega)⟩
    have kp1 : Keeps h (hh.push (.row 54 s.cells)) (fun _ => False) := kp.go (Keeps.one _ _)
    have bad : siteOk c k s = false → sitesB c = false := fun hb => by unfold sitesB; rw [allK_false hx hb, Bool.and_false]
    (repeat (first | simp -dsimp -implicitDefEqProofs (disch := omega) only [↓rP, rQ, rO, rL, ↓reduceIte, Nat.reduceEqDiff, Nat.reduceAdd, Nat.reduceLeDiff, pBuild, fillA, ↓tyr, pIndexAddr_slAV hx] | refine Cut.go ?_))
    refine (code_between_does _ _ _).mono ?_
    rintro _ _ ⟨rfl, rfl⟩
    (repeat (first | simp -dsimp -implicitDefEqProofs (disch := omega) only [↓rP, rQ, rO, rL, ↓reduceIte, Nat.reduceEqDiff, Nat.reduceAdd, Nat.reduceLeDiff, pBuild, fillA, ↓tyr] | refine Cut.go ?_))
    cases hb : getI (slL c.Threads) s.Thread with
    | none =>
      have hbt := getI_none.2 hb
      (repeat (first | simp -dsimp -implicitDefEqProofs (disch := omega) only [↓rP, rQ, rO, rL, ↓reduceIte, Nat.reduceEqDiff, Nat.reduceAdd, Nat.reduceLeDiff, pBuild, fillA, ↓tyr, hbt] | refine Cut.go ?_))
      rw [bad (by simp [siteOk, codeAt, hb])]
      exact ⟨rfl, kp1⟩
    | some b =>
      have hbt := getI_some.2 ⟨b, hb⟩
      (repeat (first | simp -dsimp -implicitDefEqProofs (disch := omega) only [↓rP, rQ, rO, rL, ↓reduceIte, Nat.reduceEqDiff, Nat.reduceAdd, Nat.reduceLeDiff, pBuild, fillA, ↓tyr, hbt, ixI hb] | refine Cut.go ?_))
      refine (code_between_does _ _ _).mono ?_
      rintro _ _ ⟨rfl, rfl⟩
      (repeat (first | simp -dsimp -implicitDefEqProofs (disch := omega) only [↓rP, rQ, rO, rL, ↓reduceIte, Nat.reduceEqDiff, Nat.reduceAdd, Nat.reduceLeDiff, pBuild, fillA, ↓tyr, hbt, ixI hb] | refine Cut.go ?_))
      cases hx2 : getI (slL b.Code) s.At with
      | none =>
        have hbt2 := getI_none.2 hx2
        (repeat (first | simp -dsimp -implicitDefEqProofs (disch := omega) only [↓rP, rQ, rO, rL, ↓reduceIte, Nat.reduceEqDiff, Nat.reduceAdd, Nat.reduceLeDiff, pBuild, fillA, ↓tyr, hbt, hbt2] | refine Cut.go ?_))
        rw [bad (by simp [siteOk, codeAt, hb, hx2])]
        exact ⟨rfl, kp1⟩
      | some x =>
        have hbt2 := getI_some.2 ⟨x, hx2⟩
        have kp2 := kp1.go (Keeps.one _ (.row 58 x.cells))
        have ho2 : ∀ o, ((hh.push (.row 54 s.cells)).push o).objs hh.next = some (.row 54 s.cells) := fun o => by simp
        have ld : ∀ (o : AObj) (off : Nat) (q : Option Nat) (K : AV → Prop), pLoad q (.ptr hh.next off) ((hh.push (.row 54 s.cells)).push o) K = pCells q s.cells off K := fun o off q K => pLoad_ptr (ho2 o) q K
        have on : siteOk c k s = true → loopPost I ((slL c.Sites).length - k) (exitQ (fun _ _ => False) (fun x4 fr5 h6 => False) (fun _ _ => False)) .normal (frOf [(1, .iptr c.cells), (7, slAV 3 Api_Site.cells c.Sites), (8, .int .i64 (slL c.Sites).length), (9, .int .i64 (k + 1 : Nat))]) ((hh.push (.row 54 s.cells)).push (.row 58 x.cells)) := fun hm => by
          rw [loopPost_normal, ← hI]
          exact ⟨_, by omega, k + 1, by omega, rfl, upTo_succ hup hx hm, kp2, rfl⟩
        simp only [loopPost_normal] at on
        repeat' (first | (simp -dsimp -implicitDefEqProofs (disch := omega) only [↓rP, rQ, rO, rL, ↓reduceIte, Nat.reduceEqDiff, Nat.reduceAdd, Nat.reduceLeDiff, pBuild, fillA, ↓tyr, hbt, hbt2, ixI hb, ixI hx2, ↓ld, wkS k (by omega), loopPost_normal]) | refine Cut.go ?_ | refine Split_eq (fun _ => ?_) (fun _ => ?_) | refine Split_ne (fun _ => ?_) (fun _ => ?_) | refine Split_lt (fun _ => ?_) (fun _ => ?_) | refine Split_le (fun _ => ?_) (fun _ => ?_) | refine Split.intro (fun _ => ?_) (fun _ => ?_))
        all_goals first
          | exact on (by simp [siteOk, codeAt, hb, hx2, *]; try omega)
          | (rw [bad (by simp [siteOk, codeAt, hb, hx2, *]; try omega)]; exact ⟨rfl, kp2⟩)
  · have hke : k = (slL c.Sites).length := by omega
    subst hke
    (repeat (first | simp -dsimp -implicitDefEqProofs (disch := omega) only [↓rP, rQ, rO, rL, ↓reduceIte, Nat.reduceEqDiff, Nat.reduceAdd, Nat.reduceLeDiff, pBuild, fillA, ↓tyr] | refine Cut.go ?_))
    have : allK (siteOk c) (slL c.Sites) = true := upTo_all hup
    unfold sitesB
    rw [this]
    refine ⟨by simp; try omega, kp⟩
theorem code_Writes_does (x : In) (h : AHeap) : CallsA Tryd.prog 49 [.agg x.cells] h (fun v h2 => v = .int .i64 (if x.Op = 1 ∨ x.Op = 2 ∨ x.Op = 3 ∨ x.Op = 4 ∨ x.Op = 8 ∨ x.Op = 9 ∨ x.Op = 10 then x.Dst else -1) ∧ h2 = h) := by
  apply code_Writes_wp
  repeat' (first | (simp -dsimp -implicitDefEqProofs (disch := omega) only [↓rP, rQ, rO, rL, ↓reduceIte, Nat.reduceEqDiff, Nat.reduceAdd, Nat.reduceLeDiff, pBuild, fillA, ↓tyr]) | refine Cut.go ?_ | refine Split_eq (fun _ => ?_) (fun _ => ?_) | refine Split_ne (fun _ => ?_) (fun _ => ?_) | refine Split_lt (fun _ => ?_) (fun _ => ?_) | refine Split_le (fun _ => ?_) (fun _ => ?_) | refine Split.intro (fun _ => ?_) (fun _ => ?_))
  all_goals simp [*]
theorem code_Good_does (c : Cd) (hc : c.ok) (hs : (slL c.Sections).length ≤ 1000000) (hsi : (slL c.Sites).length ≤ 1000000) (hg : (slL c.Globals).length ≤ 1000000) (hr : ∀ r ∈ slL c.Records, (slL r).length ≤ 1000000) (h : AHeap) : CallsA Tryd.prog 34 [.agg c.cells] h (fun v h2 => v = .bool (okC c) ∧ Keeps h h2 (fun _ => False)) := by
  apply code_Good_wp
  have e0 : okC c = (decide ((slL c.Records).length ≤ 6) && (decide ((slL c.Threads).length ≤ 4) && (cellsB c (slL c.Globals) 8 && (sectionsB c && (sitesB c && ((slL c.Records).all (fun r => cellsB c (slL r) 6) && threadsB c)))))) := by
    unfold okC; simp only [Bool.and_assoc]
  rw [e0]
  (repeat (first | simp -dsimp -implicitDefEqProofs (disch := omega) only [↓rP, rQ, rO, rL, ↓reduceIte, Nat.reduceEqDiff, Nat.reduceAdd, Nat.reduceLeDiff, pBuild, fillA, ↓tyr] | refine Cut.go ?_))
  refine Split_lt (fun h1 => ?_) (fun h1 => ?_)
  · (repeat (first | simp -dsimp -implicitDefEqProofs (disch := omega) only [↓rP, rQ, rO, rL, ↓reduceIte, Nat.reduceEqDiff, Nat.reduceAdd, Nat.reduceLeDiff, pBuild, fillA, ↓tyr] | refine Cut.go ?_))
    rw [decide_eq_false (by omega : ¬ (slL c.Records).length ≤ 6)]
    (first | (refine And.intro (by simp) ?_; (repeat (first | assumption | with_reducible exact Keeps.refl _ _ | with_reducible refine Keeps.go ?_ (Keeps.one _ _) | with_reducible refine Keeps.go ?_ (by assumption)))) | (repeat (first | assumption | with_reducible exact Keeps.refl _ _ | with_reducible refine Keeps.go ?_ (Keeps.one _ _) | with_reducible refine Keeps.go ?_ (by assumption))))
  rw [decide_eq_true (by omega : (slL c.Records).length ≤ 6)]
  (repeat (first | simp -dsimp -implicitDefEqProofs (disch := omega) only [↓rP, rQ, rO, rL, ↓reduceIte, Nat.reduceEqDiff, Nat.reduceAdd, Nat.reduceLeDiff, pBuild, fillA, ↓tyr] | refine Cut.go ?_))
  refine Split_lt (fun h2 => ?_) (fun h2 => ?_)
  · (repeat (first | simp -dsimp -implicitDefEqProofs (disch := omega) only [↓rP, rQ, rO, rL, ↓reduceIte, Nat.reduceEqDiff, Nat.reduceAdd, Nat.reduceLeDiff, pBuild, fillA, ↓tyr] | refine Cut.go ?_))
    rw [decide_eq_false (by omega : ¬ (slL c.Threads).length ≤ 4)]
    (first | (refine And.intro (by simp) ?_; (repeat (first | assumption | with_reducible exact Keeps.refl _ _ | with_reducible refine Keeps.go ?_ (Keeps.one _ _) | with_reducible refine Keeps.go ?_ (by assumption)))) | (repeat (first | assumption | with_reducible exact Keeps.refl _ _ | with_reducible refine Keeps.go ?_ (Keeps.one _ _) | with_reducible refine Keeps.go ?_ (by assumption))))
  rw [decide_eq_true (by omega : (slL c.Threads).length ≤ 4)]
  (repeat (first | simp -dsimp -implicitDefEqProofs (disch := omega) only [↓rP, rQ, rO, rL, ↓reduceIte, Nat.reduceEqDiff, Nat.reduceAdd, Nat.reduceLeDiff, pBuild, fillA, ↓tyr] | refine Cut.go ?_))
  refine (code_cells_does c c.Globals hg 8 _).mono ?_
  rintro _ h ⟨rfl, rfl⟩
  rcases hb1 : cellsB c (slL c.Globals) 8 with _ | _
  · (repeat (first | simp -dsimp -implicitDefEqProofs (disch := omega) only [↓rP, rQ, rO, rL, ↓reduceIte, Nat.reduceEqDiff, Nat.reduceAdd, Nat.reduceLeDiff, pBuild, fillA, ↓tyr, Bool.not_false, Bool.not_true] | refine Cut.go ?_))
    (first | (refine And.intro (by simp) ?_; (repeat (first | assumption | with_reducible exact Keeps.refl _ _ | with_reducible refine Keeps.go ?_ (Keeps.one _ _) | with_reducible refine Keeps.go ?_ (by assumption)))) | (repeat (first | assumption | with_reducible exact Keeps.refl _ _ | with_reducible refine Keeps.go ?_ (Keeps.one _ _) | with_reducible refine Keeps.go ?_ (by assumption))))
  (repeat (first | simp -dsimp -implicitDefEqProofs (disch := omega) only [↓rP, rQ, rO, rL, ↓reduceIte, Nat.reduceEqDiff, Nat.reduceAdd, Nat.reduceLeDiff, pBuild, fillA, ↓tyr, Bool.not_false, Bool.not_true] | refine Cut.go ?_))
  refine (code_sections_does c hc hs _).mono ?_
  rintro _ h3 ⟨rfl, k3⟩
  rcases hb2 : sectionsB c with _ | _
  · (repeat (first | simp -dsimp -implicitDefEqProofs (disch := omega) only [↓rP, rQ, rO, rL, ↓reduceIte, Nat.reduceEqDiff, Nat.reduceAdd, Nat.reduceLeDiff, pBuild, fillA, ↓tyr, Bool.not_false, Bool.not_true] | refine Cut.go ?_))
    (first | (refine And.intro (by simp) ?_; (repeat (first | assumption | with_reducible exact Keeps.refl _ _ | with_reducible refine Keeps.go ?_ (Keeps.one _ _) | with_reducible refine Keeps.go ?_ (by assumption)))) | (repeat (first | assumption | with_reducible exact Keeps.refl _ _ | with_reducible refine Keeps.go ?_ (Keeps.one _ _) | with_reducible refine Keeps.go ?_ (by assumption))))
  (repeat (first | simp -dsimp -implicitDefEqProofs (disch := omega) only [↓rP, rQ, rO, rL, ↓reduceIte, Nat.reduceEqDiff, Nat.reduceAdd, Nat.reduceLeDiff, pBuild, fillA, ↓tyr, Bool.not_false, Bool.not_true] | refine Cut.go ?_))
  refine (code_sites_does c hc hsi _).mono ?_
  rintro _ h4 ⟨rfl, k4⟩
  rcases hb3 : sitesB c with _ | _
  · (repeat (first | simp -dsimp -implicitDefEqProofs (disch := omega) only [↓rP, rQ, rO, rL, ↓reduceIte, Nat.reduceEqDiff, Nat.reduceAdd, Nat.reduceLeDiff, pBuild, fillA, ↓tyr, Bool.not_false, Bool.not_true] | refine Cut.go ?_))
    (first | (refine And.intro (by simp) ?_; (repeat (first | assumption | with_reducible exact Keeps.refl _ _ | with_reducible refine Keeps.go ?_ (Keeps.one _ _) | with_reducible refine Keeps.go ?_ (by assumption)))) | (repeat (first | assumption | with_reducible exact Keeps.refl _ _ | with_reducible refine Keeps.go ?_ (Keeps.one _ _) | with_reducible refine Keeps.go ?_ (by assumption))))
  (repeat (first | simp -dsimp -implicitDefEqProofs (disch := omega) only [↓rP, rQ, rO, rL, ↓reduceIte, Nat.reduceEqDiff, Nat.reduceAdd, Nat.reduceLeDiff, pBuild, fillA, ↓tyr, Bool.not_false, Bool.not_true] | refine Cut.go ?_))
  refine WP_loop mixed_ (by kernel_rfl) (fun n fr hh => ∃ k : Nat, k ≤ (slL c.Records).length ∧ n = (slL c.Records).length - k ∧ upTo (fun _ r => cellsB c (slL r) 6) (slL c.Records) k ∧ Keeps h hh (fun _ => False) ∧ fr = frOf [(1, .iptr c.cells), (35, slAV 1 (fun o => [slAV 3 Api_Local.cells o]) c.Records), (36, .int .i64 (slL c.Records).length), (37, .int .i64 k)]) (slL c.Records).length ⟨0, by omega, by omega, upTo_zero _ _, k3.go k4, rfl⟩ ?_
  rintro n fr hh ⟨k, hk, rfl, hup, kp, rfl⟩
  apply code_Good_loop4
  generalize hI : (fun (n : Nat) (fr : Fr) (hh : AHeap) => _) = I
  (repeat (first | simp -dsimp -implicitDefEqProofs (disch := omega) only [↓rP, rQ, rO, rL, ↓reduceIte, Nat.reduceEqDiff, Nat.reduceAdd, Nat.reduceLeDiff, pBuild, fillA, ↓tyr] | refine Cut.go ?_))
  refine Split_lt (fun hkl => ?_) (fun hkl => ?_)
  · obtain ⟨r, hx⟩ : ∃ r, (slL c.Records)[k]? = some r := ⟨_, List.getElem?_eq_getElem (by omega)⟩
    (repeat (first | simp -dsimp -implicitDefEqProofs (disch := omega) only [↓rP, rQ, rO, rL, ↓reduceIte, Nat.reduceEqDiff, Nat.reduceAdd, Nat.reduceLeDiff, pBuild, fillA, ↓tyr, pIndexAddr_slAV hx] | refine Cut.go ?_))
    refine (code_cells_does c r (hr r (List.mem_of_getElem? hx)) 6 _).mono ?_
    rintro _ hh ⟨rfl, rfl⟩
    rcases hi : cellsB c (slL r) 6 with _ | _
    · (repeat (first | simp -dsimp -implicitDefEqProofs (disch := omega) only [↓rP, rQ, rO, rL, ↓reduceIte, Nat.reduceEqDiff, Nat.reduceAdd, Nat.reduceLeDiff, pBuild, fillA, ↓tyr] | refine Cut.go ?_))
      have : (slL c.Records).all (fun r => cellsB c (slL r) 6) = false := by
        rw [List.all_eq_false]; exact ⟨r, List.mem_of_getElem? hx, by simp [hi]⟩
      rw [this]
      (first | (refine And.intro (by simp) ?_; (repeat (first | assumption | with_reducible exact Keeps.refl _ _ | with_reducible refine Keeps.go ?_ (Keeps.one _ _) | with_reducible refine Keeps.go ?_ (by assumption)))) | (repeat (first | assumption | with_reducible exact Keeps.refl _ _ | with_reducible refine Keeps.go ?_ (Keeps.one _ _) | with_reducible refine Keeps.go ?_ (by assumption))))
    · (repeat (first | simp -dsimp -implicitDefEqProofs (disch := omega) only [↓rP, rQ, rO, rL, ↓reduceIte, Nat.reduceEqDiff, Nat.reduceAdd, Nat.reduceLeDiff, pBuild, fillA, ↓tyr] | refine Cut.go ?_))
      rw [loopPost_normal, ← hI]
      exact ⟨_, by omega, k + 1, by omega, rfl, upTo_succ hup hx hi, kp, by simp⟩
  have hke : k = (slL c.Records).length := by omega
  subst hke
  have hall : (slL c.Records).all (fun r => cellsB c (slL r) 6) = true := by
    rw [List.all_eq_true]
    intro r hr'
    obtain ⟨i, hi⟩ := List.getElem?_of_mem hr'
    exact hup i r (List.getElem?_eq_some_iff.1 hi).1 hi
  rw [hall]
  (repeat (first | simp -dsimp -implicitDefEqProofs (disch := omega) only [↓rP, rQ, rO, rL, ↓reduceIte, Nat.reduceEqDiff, Nat.reduceAdd, Nat.reduceLeDiff, pBuild, fillA, ↓tyr] | refine Cut.go ?_))
  refine WP_loop mixed_ (by kernel_rfl) (fun n fr hh => ∃ k : Nat, k ≤ (slL c.Threads).length ∧ n = (slL c.Threads).length - k ∧ upTo (fun k b => threadB c k b) (slL c.Threads) k ∧ Keeps h hh (fun _ => False) ∧ fr = frOf [(1, .iptr c.cells), (47, slAV 3 Api_Body.cells c.Threads), (48, .int .i64 (slL c.Threads).length), (49, .int .i64 k)]) (slL c.Threads).length ⟨0, by omega, by omega, upTo_zero _ _, kp, rfl⟩ ?_
  rintro n fr hh ⟨k, hk, rfl, hup, kp, rfl⟩
  apply code_Good_loop10
  generalize hI : (fun (n : Nat) (fr : Fr) (hh : AHeap) => _) = I
  (repeat (first | simp -dsimp -implicitDefEqProofs (disch := omega) only [↓rP, rQ, rO, rL, ↓reduceIte, Nat.reduceEqDiff, Nat.reduceAdd, Nat.reduceLeDiff, pBuild, fillA, ↓tyr] | refine Cut.go ?_))
  refine Split_lt (fun hkl => ?_) (fun hkl => ?_)
  · obtain ⟨b, hx⟩ : ∃ b, (slL c.Threads)[k]? = some b := ⟨_, List.getElem?_eq_getElem (by omega)⟩
    have hbd : ∀ K : AV → Prop, pBuild [(0, 5), (5, 1), (6, 3)] [AV.nils, AV.nils, AV.nils, AV.nils, AV.nils, AV.int IntKind.i64 0, AV.nils, AV.nils, AV.int IntKind.i64 0] [(0, .agg c.cells), (1, .int .i64 k), (2, .agg b.cells)] K = K (.agg (Code_maker.cells ⟨c, k, b⟩)) := fun K => by
      have s1 : ∀ {α : Type} (sz : Nat) (enc : α → List AV) (o : Option (List α)), (slAV sz enc o).fits = true := fits_slAV
      simp [pBuild, fillA, AV.fits, AV.cells, Api_Code.cells, Api_Body.cells, Code_maker.cells]
    (repeat (first | simp -dsimp -implicitDefEqProofs (disch := omega) only [↓rP, rQ, rO, rL, ↓reduceIte, Nat.reduceEqDiff, Nat.reduceAdd, Nat.reduceLeDiff, pBuild, fillA, ↓tyr, pIndexAddr_slAV hx, ↓hbd] | refine Cut.go ?_))
    refine (code_maker_all_does ⟨c, k, b⟩ ⟨hc, by unfold okI; constructor <;> (simp only; omega), hc.2.2.1.2 b (List.mem_of_getElem? hx)⟩ hs _).mono ?_
    rintro _ h9 ⟨rfl, k9⟩
    have k10 := kp.go ((Keeps.one _ _).go k9)
    rcases hi : threadB c k b with _ | _
    · (repeat (first | simp -dsimp -implicitDefEqProofs (disch := omega) only [↓rP, rQ, rO, rL, ↓reduceIte, Nat.reduceEqDiff, Nat.reduceAdd, Nat.reduceLeDiff, pBuild, fillA, ↓tyr, hi] | refine Cut.go ?_))
      have : threadsB c = false := allK_false hx hi
      rw [this]
      exact ⟨rfl, k10⟩
    · (repeat (first | simp -dsimp -implicitDefEqProofs (disch := omega) only [↓rP, rQ, rO, rL, ↓reduceIte, Nat.reduceEqDiff, Nat.reduceAdd, Nat.reduceLeDiff, pBuild, fillA, ↓tyr, hi] | refine Cut.go ?_))
      rw [loopPost_normal, ← hI]
      exact ⟨_, by omega, k + 1, by omega, rfl, upTo_succ hup hx hi, k10, by simp⟩
  have hke : k = (slL c.Threads).length := by omega
  subst hke
  (repeat (first | simp -dsimp -implicitDefEqProofs (disch := omega) only [↓rP, rQ, rO, rL, ↓reduceIte, Nat.reduceEqDiff, Nat.reduceAdd, Nat.reduceLeDiff, pBuild, fillA, ↓tyr] | refine Cut.go ?_))
  have : threadsB c = true := upTo_all hup
  rw [this]
  exact ⟨rfl, kp⟩
end Go.Proofs.YtopfjochppdnfaaDoor
end

section
/- Which codes are more than is played; what the document tells of two codes. -/
set_option maxRecDepth 100000
set_option maxHeartbeats 1000000
namespace Go.Proofs.YtopfjochppdnfaaDoor
open Go.Abs
def greatX (x : In) : Bool := decide (200 < (slL x.Items).length) || decide (200 < (slL x.Index).length)
def greatT (b : Bd) : Bool := decide (300 < (slL b.Slots).length) || decide (600 < (slL b.Code).length) || (slL b.Code).any greatX
def greatB (c : Cd) : Bool := decide (20 < (slL c.Records).length) || (decide (100 < (slL c.Globals).length) || (decide (8 < (slL c.Threads).length) || (decide (100 < (slL c.Sites).length) || (decide (100 < (slL c.Sections).length) || ((slL c.Records).any (fun r => decide (100 < (slL r).length)) || (slL c.Threads).any greatT)))))
theorem any_yes {α : Type} {p : α → Bool} {l : List α} {k : Nat} {x : α} (hx : l[k]? = some x) (hp : p x = true) : l.any p = true := List.any_eq_true.2 ⟨x, List.mem_of_getElem? hx, hp⟩
theorem any_no {α : Type} {p : α → Bool} {l : List α} (h : upTo (fun _ x => !p x) l l.length) : l.any p = false := by
  rw [List.any_eq_false]
  intro x hx
  obtain ⟨k, hk⟩ := List.getElem?_of_mem hx
  have := h k x (List.getElem?_eq_some_iff.1 hk).1 hk
  simpa using this
theorem great_inner (b : Bd) (hcl : (slL b.Code).length ≤ 1000000) (a49 a50 a51 : AV) (h0 : AHeap) (Q : AExit → Fr → AHeap → Prop)
    (hret : ∀ h2, (slL b.Code).any greatX = true → Keeps h0 h2 (fun _ => False) → Q .ret (frOf [(2, .bool true)]) h2)
    (hex : ∀ h2, (slL b.Code).any greatX = false → Keeps h0 h2 (fun _ => False) → Q (.exit 4) (frOf [(49, a49), (50, a50), (51, a51)]) h2) :
    WP Tryd.prog 84 (.loop c_padlockref09_Great_15) (frOf [(49, a49), (50, a50), (51, a51), (66, slAV 8 Api_Instr.cells b.Code), (67, .int .i64 (slL b.Code).length), (68, .int .i64 0)]) h0 Q := by
  refine WP_loop mixed_ (by kernel_rfl) (fun n fr hh => ∃ k : Nat, k ≤ (slL b.Code).length ∧ n = (slL b.Code).length - k ∧ upTo (fun _ x => !greatX x) (slL b.Code) k ∧ Keeps h0 hh (fun _ => False) ∧ fr = frOf [(49, a49), (50, a50), (51, a51), (66, slAV 8 Api_Instr.cells b.Code), (67, .int .i64 (slL b.Code).length), (68, .int .i64 k)]) (slL b.Code).length ⟨0, by omega, by omega, upTo_zero _ _, .refl _ _, rfl⟩ ?_
  rintro n fr hh ⟨k, hk, rfl, hup, kp, rfl⟩
  apply padlockref09_Great_loop15
  generalize hI : (fun (n : Nat) (fr : Fr) (hh : AHeap) => _) = I
  (repeat simp -dsimp -implicitDefEqProofs (disch := omega) only [↓rP, rQ, rO, rL, ↓reduceIte, Nat.reduceEqDiff, Nat.reduceAdd, Nat.reduceLeDiff, pBuild, fillA, ↓tyr])
  refine Split_lt (fun hkl => ?_) (fun hkl => ?_)
  · obtain ⟨x, hx⟩ : ∃ x, (slL b.Code)[k]? = some x := ⟨_, List.getElem?_eq_getElem (by omega)⟩
    have kp1 := kp.go (Keeps.one hh (.row 58 x.cells))
    have yes : greatX x = true → Q .ret (frOf [(2, .bool true)]) (hh.push (.row 58 x.cells)) := fun hg => hret _ (any_yes hx hg) kp1
    (repeat simp -dsimp -implicitDefEqProofs (disch := omega) only [↓rP, rQ, rO, rL, ↓reduceIte, Nat.reduceEqDiff, Nat.reduceAdd, Nat.reduceLeDiff, pBuild, fillA, ↓tyr, pIndexAddr_slAV hx])
    refine Split_lt (fun h1 => ?_) (fun h1 => ?_)
    · (repeat simp -dsimp -implicitDefEqProofs (disch := omega) only [↓rP, rQ, rO, rL, ↓reduceIte, Nat.reduceEqDiff, Nat.reduceAdd, Nat.reduceLeDiff, pBuild, fillA, ↓tyr])
      exact yes (by simp [greatX]; omega)
    (repeat simp -dsimp -implicitDefEqProofs (disch := omega) only [↓rP, rQ, rO, rL, ↓reduceIte, Nat.reduceEqDiff, Nat.reduceAdd, Nat.reduceLeDiff, pBuild, fillA, ↓tyr])
    refine Split_lt (fun h2 => ?_) (fun h2 => ?_)
    · (repeat simp -dsimp -implicitDefEqProofs (disch := omega) only [↓rP, rQ, rO, rL, ↓reduceIte, Nat.reduceEqDiff, Nat.reduceAdd, Nat.reduceLeDiff, pBuild, fillA, ↓tyr])
      exact yes (by simp [greatX]; omega)
    · (repeat simp -dsimp -implicitDefEqProofs (disch := omega) only [↓rP, rQ, rO, rL, ↓reduceIte, Nat.reduceEqDiff, Nat.reduceAdd, Nat.reduceLeDiff, pBuild, fillA, ↓tyr, wkS k (by omega)])
      rw [loopPost_normal, ← hI]
      exact ⟨_, by omega, k + 1, by omega, rfl, upTo_succ hup hx (by simp [greatX]; omega), kp1, rfl⟩
  · have hke : k = (slL b.Code).length := by omega
    subst hke
    (repeat simp -dsimp -implicitDefEqProofs (disch := omega) only [↓rP, rQ, rO, rL, ↓reduceIte, Nat.reduceEqDiff, Nat.reduceAdd, Nat.reduceLeDiff, pBuild, fillA, ↓tyr])
    exact hex hh (any_no hup) kp
theorem ref_Great_k (c : Cd) (hc : c.ok) (h : AHeap) : CallsA Tryd.prog 20 [.agg c.cells] h (fun v h2 => v = .bool (greatB c) ∧ Keeps h h2 (fun _ => False)) := by
  apply padlockref09_Great_wp
  unfold greatB
  (repeat simp -dsimp -implicitDefEqProofs (disch := omega) only [↓rP, rQ, rO, rL, ↓reduceIte, Nat.reduceEqDiff, Nat.reduceAdd, Nat.reduceLeDiff, pBuild, fillA, ↓tyr])
  refine Split_lt (fun h1 => ?_) (fun h1 => ?_)
  · (repeat simp -dsimp -implicitDefEqProofs (disch := omega) only [↓rP, rQ, rO, rL, ↓reduceIte, Nat.reduceEqDiff, Nat.reduceAdd, Nat.reduceLeDiff, pBuild, fillA, ↓tyr])
    rw [decide_eq_true (by omega : 20 < (slL c.Records).length)]
    (first | (refine And.intro (by simp) ?_; (repeat (first | assumption | with_reducible exact Keeps.refl _ _ | with_reducible refine Keeps.go ?_ (Keeps.one _ _) | with_reducible refine Keeps.go ?_ (by assumption)))) | (repeat (first | assumption | with_reducible exact Keeps.refl _ _ | with_reducible refine Keeps.go ?_ (Keeps.one _ _) | with_reducible refine Keeps.go ?_ (by assumption))))
  rw [decide_eq_false (by omega : ¬ 20 < (slL c.Records).length)]
  (repeat simp -dsimp -implicitDefEqProofs (disch := omega) only [↓rP, rQ, rO, rL, ↓reduceIte, Nat.reduceEqDiff, Nat.reduceAdd, Nat.reduceLeDiff, pBuild, fillA, ↓tyr])
  refine Split_lt (fun h2 => ?_) (fun h2 => ?_)
  · (repeat simp -dsimp -implicitDefEqProofs (disch := omega) only [↓rP, rQ, rO, rL, ↓reduceIte, Nat.reduceEqDiff, Nat.reduceAdd, Nat.reduceLeDiff, pBuild, fillA, ↓tyr])
    rw [decide_eq_true (by omega : 100 < (slL c.Globals).length)]
    (first | (refine And.intro (by simp) ?_; (repeat (first | assumption | with_reducible exact Keeps.refl _ _ | with_reducible refine Keeps.go ?_ (Keeps.one _ _) | with_reducible refine Keeps.go ?_ (by assumption)))) | (repeat (first | assumption | with_reducible exact Keeps.refl _ _ | with_reducible refine Keeps.go ?_ (Keeps.one _ _) | with_reducible refine Keeps.go ?_ (by assumption))))
  rw [decide_eq_false (by omega : ¬ 100 < (slL c.Globals).length)]
  (repeat simp -dsimp -implicitDefEqProofs (disch := omega) only [↓rP, rQ, rO, rL, ↓reduceIte, Nat.reduceEqDiff, Nat.reduceAdd, Nat.reduceLeDiff, pBuild, fillA, ↓tyr])
  refine Split_lt (fun h3 => ?_) (fun h3 => ?_)
  · (repeat simp -dsimp -implicitDefEqProofs (disch := omega) only [↓rP, rQ, rO, rL, ↓reduceIte, Nat.reduceEqDiff, Nat.reduceAdd, Nat.reduceLeDiff, pBuild, fillA, ↓tyr])
    rw [decide_eq_true (by omega : 8 < (slL c.Threads).length)]
    (first | (refine And.intro (by simp) ?_; (repeat (first | assumption | with_reducible exact Keeps.refl _ _ | with_reducible refine Keeps.go ?_ (Keeps.one _ _) | with_reducible refine Keeps.go ?_ (by assumption)))) | (repeat (first | assumption | with_reducible exact Keeps.refl _ _ | with_reducible refine Keeps.go ?_ (Keeps.one _ _) | with_reducible refine Keeps.go ?_ (by assumption))))
  rw [decide_eq_false (by omega : ¬ 8 < (slL c.Threads).length)]
  (repeat simp -dsimp -implicitDefEqProofs (disch := omega) only [↓rP, rQ, rO, rL, ↓reduceIte, Nat.reduceEqDiff, Nat.reduceAdd, Nat.reduceLeDiff, pBuild, fillA, ↓tyr])
  refine Split_lt (fun h4 => ?_) (fun h4 => ?_)
  · (repeat simp -dsimp -implicitDefEqProofs (disch := omega) only [↓rP, rQ, rO, rL, ↓reduceIte, Nat.reduceEqDiff, Nat.reduceAdd, Nat.reduceLeDiff, pBuild, fillA, ↓tyr])
    rw [decide_eq_true (by omega : 100 < (slL c.Sites).length)]
    (first | (refine And.intro (by simp) ?_; (repeat (first | assumption | with_reducible exact Keeps.refl _ _ | with_reducible refine Keeps.go ?_ (Keeps.one _ _) | with_reducible refine Keeps.go ?_ (by assumption)))) | (repeat (first | assumption | with_reducible exact Keeps.refl _ _ | with_reducible refine Keeps.go ?_ (Keeps.one _ _) | with_reducible refine Keeps.go ?_ (by assumption))))
  rw [decide_eq_false (by omega : ¬ 100 < (slL c.Sites).length)]
  (repeat simp -dsimp -implicitDefEqProofs (disch := omega) only [↓rP, rQ, rO, rL, ↓reduceIte, Nat.reduceEqDiff, Nat.reduceAdd, Nat.reduceLeDiff, pBuild, fillA, ↓tyr])
  refine Split_lt (fun h5 => ?_) (fun h5 => ?_)
  · (repeat simp -dsimp -implicitDefEqProofs (disch := omega) only [↓rP, rQ, rO, rL, ↓reduceIte, Nat.reduceEqDiff, Nat.reduceAdd, Nat.reduceLeDiff, pBuild, fillA, ↓tyr])
    rw [decide_eq_true (by omega : 100 < (slL c.Sections).length)]
    (first | (refine And.intro (by simp) ?_; (repeat (first | assumption | with_reducible exact Keeps.refl _ _ | with_reducible refine Keeps.go ?_ (Keeps.one _ _) | with_reducible refine Keeps.go ?_ (by assumption)))) | (repeat (first | assumption | with_reducible exact Keeps.refl _ _ | with_reducible refine Keeps.go ?_ (Keeps.one _ _) | with_reducible refine Keeps.go ?_ (by assumption))))
  rw [decide_eq_false (by omega : ¬ 100 < (slL c.Sections).length)]
  (repeat simp -dsimp -implicitDefEqProofs (disch := omega) only [↓rP, rQ, rO, rL, ↓reduceIte, Nat.reduceEqDiff, Nat.reduceAdd, Nat.reduceLeDiff, pBuild, fillA, ↓tyr])
  refine WP_loop mixed_ (by kernel_rfl) (fun n fr hh => ∃ k : Nat, k ≤ (slL c.Records).length ∧ n = (slL c.Records).length - k ∧ upTo (fun _ r => !decide (100 < (slL r).length)) (slL c.Records) k ∧ hh = h ∧ fr = frOf [(1, .iptr c.cells), (38, slAV 1 (fun o => [slAV 3 Api_Local.cells o]) c.Records), (39, .int .i64 (slL c.Records).length), (40, .int .i64 k)]) (slL c.Records).length ⟨0, by omega, by omega, upTo_zero _ _, rfl, rfl⟩ ?_
  rintro n fr hh ⟨k, hk, rfl, hup, rfl, rfl⟩
  apply padlockref09_Great_loop4
  generalize hI : (fun (n : Nat) (fr : Fr) (hh : AHeap) => _) = I
  (repeat simp -dsimp -implicitDefEqProofs (disch := omega) only [↓rP, rQ, rO, rL, ↓reduceIte, Nat.reduceEqDiff, Nat.reduceAdd, Nat.reduceLeDiff, pBuild, fillA, ↓tyr])
  refine Split_lt (fun hkl => ?_) (fun hkl => ?_)
  · obtain ⟨r, hx⟩ : ∃ r, (slL c.Records)[k]? = some r := ⟨_, List.getElem?_eq_getElem (by omega)⟩
    (repeat simp -dsimp -implicitDefEqProofs (disch := omega) only [↓rP, rQ, rO, rL, ↓reduceIte, Nat.reduceEqDiff, Nat.reduceAdd, Nat.reduceLeDiff, pBuild, fillA, ↓tyr, pIndexAddr_slAV hx])
    refine Split_lt (fun h6 => ?_) (fun h6 => ?_)
    · (repeat simp -dsimp -implicitDefEqProofs (disch := omega) only [↓rP, rQ, rO, rL, ↓reduceIte, Nat.reduceEqDiff, Nat.reduceAdd, Nat.reduceLeDiff, pBuild, fillA, ↓tyr])
      have : (slL c.Records).any (fun r => decide (100 < (slL r).length)) = true := any_yes hx (by simp; omega)
      rw [this]
      (first | (refine And.intro (by simp) ?_; (repeat (first | assumption | with_reducible exact Keeps.refl _ _ | with_reducible refine Keeps.go ?_ (Keeps.one _ _) | with_reducible refine Keeps.go ?_ (by assumption)))) | (repeat (first | assumption | with_reducible exact Keeps.refl _ _ | with_reducible refine Keeps.go ?_ (Keeps.one _ _) | with_reducible refine Keeps.go ?_ (by assumption))))
    · (repeat simp -dsimp -implicitDefEqProofs (disch := omega) only [↓rP, rQ, rO, rL, ↓reduceIte, Nat.reduceEqDiff, Nat.reduceAdd, Nat.reduceLeDiff, pBuild, fillA, ↓tyr, wkS k (by omega)])
      rw [loopPost_normal, ← hI]
      exact ⟨_, by omega, k + 1, by omega, rfl, upTo_succ hup hx (by simp; omega), rfl, rfl⟩
  have hke : k = (slL c.Records).length := by omega
  subst hke
  rw [any_no hup]
  clear hup hI hk hkl
  (repeat simp -dsimp -implicitDefEqProofs (disch := omega) only [↓rP, rQ, rO, rL, ↓reduceIte, Nat.reduceEqDiff, Nat.reduceAdd, Nat.reduceLeDiff, pBuild, fillA, ↓tyr])
  refine WP_loop mixed_ (by kernel_rfl) (fun n fr h9 => ∃ k : Nat, k ≤ (slL c.Threads).length ∧ n = (slL c.Threads).length - k ∧ upTo (fun _ b => !greatT b) (slL c.Threads) k ∧ Keeps hh h9 (fun _ => False) ∧ fr = frOf [(49, slAV 3 Api_Body.cells c.Threads), (50, .int .i64 (slL c.Threads).length), (51, .int .i64 k)]) (slL c.Threads).length ⟨0, by omega, by omega, upTo_zero _ _, .refl _ _, rfl⟩ ?_
  rintro n fr h9 ⟨k, hk, rfl, hup, kp, rfl⟩
  apply padlockref09_Great_loop10
  generalize hI : (fun (n : Nat) (fr : Fr) (hh : AHeap) => _) = I
  (repeat simp -dsimp -implicitDefEqProofs (disch := omega) only [↓rP, rQ, rO, rL, ↓reduceIte, Nat.reduceEqDiff, Nat.reduceAdd, Nat.reduceLeDiff, pBuild, fillA, ↓tyr])
  refine Split_lt (fun hkl => ?_) (fun hkl => ?_)
  · obtain ⟨b, hx⟩ : ∃ b, (slL c.Threads)[k]? = some b := ⟨_, List.getElem?_eq_getElem (by omega)⟩
    have kp1 := kp.go (Keeps.one h9 (.row 51 b.cells))
    (repeat simp -dsimp -implicitDefEqProofs (disch := omega) only [↓rP, rQ, rO, rL, ↓reduceIte, Nat.reduceEqDiff, Nat.reduceAdd, Nat.reduceLeDiff, pBuild, fillA, ↓tyr, pIndexAddr_slAV hx])
    refine Split_lt (fun h1 => ?_) (fun h1 => ?_)
    · (repeat simp -dsimp -implicitDefEqProofs (disch := omega) only [↓rP, rQ, rO, rL, ↓reduceIte, Nat.reduceEqDiff, Nat.reduceAdd, Nat.reduceLeDiff, pBuild, fillA, ↓tyr])
      have : (slL c.Threads).any greatT = true := any_yes hx (by simp [greatT]; omega)
      rw [this]
      exact ⟨rfl, kp1⟩
    (repeat simp -dsimp -implicitDefEqProofs (disch := omega) only [↓rP, rQ, rO, rL, ↓reduceIte, Nat.reduceEqDiff, Nat.reduceAdd, Nat.reduceLeDiff, pBuild, fillA, ↓tyr])
    refine Split_lt (fun h2 => ?_) (fun h2 => ?_)
    · (repeat simp -dsimp -implicitDefEqProofs (disch := omega) only [↓rP, rQ, rO, rL, ↓reduceIte, Nat.reduceEqDiff, Nat.reduceAdd, Nat.reduceLeDiff, pBuild, fillA, ↓tyr])
      have : (slL c.Threads).any greatT = true := any_yes hx (by simp [greatT]; omega)
      rw [this]
      exact ⟨rfl, kp1⟩
    (repeat simp -dsimp -implicitDefEqProofs (disch := omega) only [↓rP, rQ, rO, rL, ↓reduceIte, Nat.reduceEqDiff, Nat.reduceAdd, Nat.reduceLeDiff, pBuild, fillA, ↓tyr])
    refine great_inner b (by omega) _ _ _ _ _ (fun h3 hg k3 => ?_) (fun h3 hg k3 => ?_)
    · (repeat simp -dsimp -implicitDefEqProofs (disch := omega) only [↓rP, rQ, rO, rL, ↓reduceIte, Nat.reduceEqDiff, Nat.reduceAdd, Nat.reduceLeDiff, pBuild, fillA, ↓tyr])
      have : (slL c.Threads).any greatT = true := any_yes hx (by unfold greatT; rw [hg]; simp)
      rw [this]
      exact ⟨rfl, kp1.go k3⟩
    · (repeat simp -dsimp -implicitDefEqProofs (disch := omega) only [↓rP, rQ, rO, rL, ↓reduceIte, Nat.reduceEqDiff, Nat.reduceAdd, Nat.reduceLeDiff, pBuild, fillA, ↓tyr, wkS k (by omega)])
      rw [loopPost_normal, ← hI]
      exact ⟨_, by omega, k + 1, by omega, rfl, upTo_succ hup hx (by unfold greatT; rw [hg]; simp; omega), kp1.go k3, rfl⟩
  · have hke : k = (slL c.Threads).length := by omega
    subst hke
    (repeat simp -dsimp -implicitDefEqProofs (disch := omega) only [↓rP, rQ, rO, rL, ↓reduceIte, Nat.reduceEqDiff, Nat.reduceAdd, Nat.reduceLeDiff, pBuild, fillA, ↓tyr])
    rw [any_no hup]
    exact ⟨rfl, kp⟩
theorem ref_Great_does (c : Cd) (hc : c.ok) (h : AHeap) : CallsA Tryd.prog 20 [.agg c.cells] h (fun v h2 => v = .bool (greatB c) ∧ h2 = h) := CallsA.forget (by simp [idsIn]) (ref_Great_k c hc h)
structure Small (c : Cd) : Prop where
  recs : (slL c.Records).length ≤ 20
  globs : (slL c.Globals).length ≤ 100
  threads : (slL c.Threads).length ≤ 8
  sites : (slL c.Sites).length ≤ 100
  secs : (slL c.Sections).length ≤ 100
  fields : ∀ r ∈ slL c.Records, (slL r).length ≤ 100
  slots : ∀ b ∈ slL c.Threads, (slL b.Slots).length ≤ 300
  code : ∀ b ∈ slL c.Threads, (slL b.Code).length ≤ 600
  items : ∀ b ∈ slL c.Threads, ∀ x ∈ slL b.Code, (slL x.Items).length ≤ 200
  index : ∀ b ∈ slL c.Threads, ∀ x ∈ slL b.Code, (slL x.Index).length ≤ 200
theorem small_of {c : Cd} (h : greatB c = false) : Small c := by
  simp only [greatB, Bool.or_eq_false_iff, decide_eq_false_iff_not, List.any_eq_false, greatT, greatX, Bool.or_eq_true, decide_eq_true_eq, not_or, List.any_eq_true, not_exists, not_and] at h
  obtain ⟨h1, h2, h3, h4, h5, h6, h7⟩ := h
  exact ⟨by omega, by omega, by omega, by omega, by omega, fun r hr => by have := h6 r hr; omega, fun b hb => by have := (h7 b hb).1.1; omega, fun b hb => by have := (h7 b hb).1.2; omega, fun b hb x hx => by have := ((h7 b hb).2 x hx).1; omega, fun b hb x hx => by have := ((h7 b hb).2 x hx).2; omega⟩
end Go.Proofs.YtopfjochppdnfaaDoor
end

section
/- What the document's functions of codes compute: the small ones. -/
set_option maxRecDepth 100000
set_option maxHeartbeats 1000000
namespace Go.Proofs.YtopfjochppdnfaaDoor
open Go.Abs
theorem ref_local_does (c : Cd) (l : Lo) (h : AHeap) : CallsA Tryd.prog 37 [.agg c.cells, .agg l.cells] h (fun v h2 => v = .bool (localB c l) ∧ h2 = h) := by
  apply padlockref09_local_wp
  unfold localB
  (repeat simp -dsimp -implicitDefEqProofs (disch := omega) only [↓rP, rQ, rO, rL, ↓reduceIte, Nat.reduceEqDiff, Nat.reduceAdd, Nat.reduceLeDiff, pBuild, fillA, ↓tyr])
  refine Split_eq (fun h4 => ?_) (fun h4 => ?_)
  · (repeat simp -dsimp -implicitDefEqProofs (disch := omega) only [↓rP, rQ, rO, rL, ↓reduceIte, Nat.reduceEqDiff, Nat.reduceAdd, Nat.reduceLeDiff, pBuild, fillA, ↓tyr])
    rw [if_pos h4]
    exact ref_in_does _ _ _
  · rw [if_neg h4]
    repeat' (first | (simp -dsimp -implicitDefEqProofs (disch := omega) only [↓rP, rQ, rO, rL, ↓reduceIte, Nat.reduceEqDiff, Nat.reduceAdd, Nat.reduceLeDiff, pBuild, fillA, ↓tyr]) | refine Cut.go ?_ | refine Split_eq (fun _ => ?_) (fun _ => ?_) | refine Split_ne (fun _ => ?_) (fun _ => ?_) | refine Split_lt (fun _ => ?_) (fun _ => ?_) | refine Split_le (fun _ => ?_) (fun _ => ?_) | refine Split.intro (fun _ => ?_) (fun _ => ?_))
    all_goals (simp [beqI, *])
    all_goals omega
theorem ref_Inside_does (c : Cd) (hl : (slL c.Sections).length ≤ 1000000) (t a : Int) (h : AHeap) : CallsA Tryd.prog 57 [.agg c.cells, .int .i64 t, .int .i64 a] h (fun v h2 => v = .int .i64 (insI c t a) ∧ Keeps h h2 (fun _ => False)) := by
  apply padlockref09_Inside_wp
  (repeat simp -dsimp -implicitDefEqProofs (disch := omega) only [↓rP, rQ, rO, rL, ↓reduceIte, Nat.reduceEqDiff, Nat.reduceAdd, Nat.reduceLeDiff, pBuild, fillA, ↓tyr])
  refine WP_loop mixed_ (by kernel_rfl) (fun n fr hh => ∃ k : Nat, k ≤ (slL c.Sections).length ∧ n = (slL c.Sections).length - k ∧ (∀ j x, j < k → (slL c.Sections)[j]? = some x → secP t a x = false) ∧ Keeps h hh (fun _ => False) ∧ fr = frOf [(1, .int .i64 t), (2, .int .i64 a), (10, slAV 3 Api_Section.cells c.Sections), (11, .int .i64 (slL c.Sections).length), (12, .int .i64 k)]) (slL c.Sections).length ⟨0, by omega, by omega, fun j x hj => by omega, .refl _ _, rfl⟩ ?_
  rintro n fr hh ⟨k, hk, rfl, hup, kp, rfl⟩
  apply padlockref09_Inside_loop2
  generalize hI : (fun (n : Nat) (fr : Fr) (hh : AHeap) => _) = I
  (repeat simp -dsimp -implicitDefEqProofs (disch := omega) only [↓rP, rQ, rO, rL, ↓reduceIte, Nat.reduceEqDiff, Nat.reduceAdd, Nat.reduceLeDiff, pBuild, fillA, ↓tyr])
  refine Split_lt (fun hkl => ?_) (fun hkl => ?_)
  · obtain ⟨s, hx⟩ : ∃ s, (slL c.Sections)[k]? = some s := ⟨_, List.getElem?_eq_getElem (by omega)⟩
    have kp1 : Keeps h (hh.push (.row 71 s.cells)) (fun _ => False) := kp.go (Keeps.one _ _)
    have yes : secP t a s = true → insI c t a = k := fun hp => posI_here hx hp hup
    have on : secP t a s = false → loopPost I ((slL c.Sections).length - k) (exitQ (fun _ _ => False) (fun _ _ _ => False) (fun _ _ => False)) .normal (frOf [(1, .int .i64 t), (2, .int .i64 a), (10, slAV 3 Api_Section.cells c.Sections), (11, .int .i64 (slL c.Sections).length), (12, .int .i64 (k + 1 : Nat))]) (hh.push (.row 71 s.cells)) := fun hm => by
      rw [loopPost_normal, ← hI]
      refine ⟨_, by omega, k + 1, by omega, rfl, fun j y hj hy => ?_, kp1, rfl⟩
      by_cases e : j = k
      · subst e; rw [hx] at hy; cases hy; exact hm
      · exact hup j y (by omega) hy
    simp only [loopPost_normal] at on
    repeat' (first | (simp -dsimp -implicitDefEqProofs (disch := omega) only [↓rP, rQ, rO, rL, ↓reduceIte, Nat.reduceEqDiff, Nat.reduceAdd, Nat.reduceLeDiff, pBuild, fillA, ↓tyr, pIndexAddr_slAV hx, wkS k (by omega), loopPost_normal]) | refine Cut.go ?_ | refine Split_eq (fun _ => ?_) (fun _ => ?_) | refine Split_ne (fun _ => ?_) (fun _ => ?_) | refine Split_lt (fun _ => ?_) (fun _ => ?_) | refine Split_le (fun _ => ?_) (fun _ => ?_) | refine Split.intro (fun _ => ?_) (fun _ => ?_))
    all_goals first
      | exact on (by simp [secP, *]; try omega)
      | (rw [yes (by simp [secP, *])]; exact ⟨rfl, kp1⟩)
  · have hke : k = (slL c.Sections).length := by omega
    subst hke
    (repeat simp -dsimp -implicitDefEqProofs (disch := omega) only [↓rP, rQ, rO, rL, ↓reduceIte, Nat.reduceEqDiff, Nat.reduceAdd, Nat.reduceLeDiff, pBuild, fillA, ↓tyr])
    exact ⟨by unfold insI; rw [posI_none hup], kp⟩
def hasT : List (List UInt8) := [[], [100, 105], [100, 110], [100, 115, 114, 110], [100, 115, 120], [110, 105], [115, 114, 110, 105], [115, 120, 105], [100, 114, 110], [100, 105, 110], [100, 115], [105], [105], [116], [116, 105], [110], [110], []]
def hasS (op : Int) : List UInt8 := if op < 1 ∨ 18 ≤ op then [63] else hasT.getD op.toNat []
theorem ref_Has_does (op : Int) (h : AHeap) : CallsA Tryd.prog 54 [.int .i64 op] h (fun v h2 => v = .str (hasS op) ∧ h2 = h) := by
  apply padlockref09_Has_wp
  refine ⟨by omega, by decide, rfl, ?_⟩
  have hf : fillE 1 (List.replicate 18 [AV.str []]) [(0, AV.str []), (1, AV.str [100, 105]), (2, AV.str [100, 110]), (3, AV.str [100, 115, 114, 110]), (4, AV.str [100, 115, 120]), (5, AV.str [110, 105]), (6, AV.str [115, 114, 110, 105]), (7, AV.str [115, 120, 105]), (8, AV.str [100, 114, 110]), (9, AV.str [100, 105, 110]), (10, AV.str [100, 115]), (11, AV.str [105]), (12, AV.str [105]), (13, AV.str [116]), (14, AV.str [116, 105]), (15, AV.str [110]), (16, AV.str [110]), (17, AV.str [])] = some (hasT.map fun s => [AV.str s]) := by
    simp [fillE, hasT, List.replicate, AV.fits, AV.cells]
  simp only [Nat.reduceAdd]
  rw [hf]
  simp only [if_true]
  (repeat simp -dsimp -implicitDefEqProofs (disch := omega) only [↓rP, rQ, rO, rL, ↓reduceIte, Nat.reduceEqDiff, Nat.reduceAdd, Nat.reduceLeDiff, pBuild, fillA, ↓tyr])
  have hl : (hasT.map fun s => [AV.str s]).length = 18 := rfl
  unfold hasS
  refine Split_lt (fun h1 => ?_) (fun h1 => ?_)
  · (repeat simp -dsimp -implicitDefEqProofs (disch := omega) only [↓rP, rQ, rO, rL, ↓reduceIte, Nat.reduceEqDiff, Nat.reduceAdd, Nat.reduceLeDiff, pBuild, fillA, ↓tyr])
    rw [if_pos (Or.inl h1)]
  (repeat simp -dsimp -implicitDefEqProofs (disch := omega) only [↓rP, rQ, rO, rL, ↓reduceIte, Nat.reduceEqDiff, Nat.reduceAdd, Nat.reduceLeDiff, pBuild, fillA, ↓tyr])
  rw [hl]
  refine Split_le (fun h2 => ?_) (fun h2 => ?_)
  · (repeat simp -dsimp -implicitDefEqProofs (disch := omega) only [↓rP, rQ, rO, rL, ↓reduceIte, Nat.reduceEqDiff, Nat.reduceAdd, Nat.reduceLeDiff, pBuild, fillA, ↓tyr])
    rw [if_pos (Or.inr (by omega))]
  · rw [if_neg (by omega)]
    have hn : op.toNat < 18 := by omega
    have hg : (hasT.map fun s => [AV.str s])[op.toNat]? = some [AV.str (hasT.getD op.toNat [])] := by
      rw [List.getElem?_map, List.getElem?_eq_getElem (by rw [show hasT.length = 18 from rfl]; exact hn)]
      simp [List.getD_eq_getElem?_getD, show op.toNat < hasT.length from hn]
    have hix : ∀ K : AV → Prop, pIndexAddr (.slice 1) (.isl 1 (hasT.map fun s => [AV.str s])) (.int .i64 op) K = K (.iptr [AV.str (hasT.getD op.toNat [])]) := fun K => by
      have h0 : 0 ≤ op := by omega
      have h18 : op < 18 := by omega
      simp only [pIndexAddr, hl, hg]
      simp [h0, h18]
    (repeat simp -dsimp -implicitDefEqProofs (disch := omega) only [↓rP, rQ, rO, rL, ↓reduceIte, Nat.reduceEqDiff, Nat.reduceAdd, Nat.reduceLeDiff, pBuild, fillA, ↓tyr, hix])
theorem ref_has_does (s : List UInt8) (hs : s.length ≤ 1000) (c : UInt8) (h : AHeap) : CallsA Tryd.prog 55 [.str s, .int .u8 (c.toNat : Int)] h (fun v h2 => v = .bool (s.contains c) ∧ h2 = h) := by
  apply padlockref09_has_wp
  (repeat simp -dsimp -implicitDefEqProofs (disch := omega) only [↓rP, rQ, rO, rL, ↓reduceIte, Nat.reduceEqDiff, Nat.reduceAdd, Nat.reduceLeDiff, pBuild, fillA, ↓tyr])
  refine WP_loop mixed_ (by kernel_rfl) (fun n fr hh => ∃ k : Nat, k ≤ s.length ∧ n = s.length - k ∧ (s.take k).contains c = false ∧ hh = h ∧ fr = frOf [(0, .str s), (1, .int .u8 (c.toNat : Int)), (5, .int .i64 k)]) s.length ⟨0, by omega, by omega, by simp, rfl, rfl⟩ ?_
  rintro n fr hh ⟨k, hk, rfl, hup, rfl, rfl⟩
  apply padlockref09_has_loop2
  generalize hI : (fun (n : Nat) (fr : Fr) (hh : AHeap) => _) = I
  (repeat simp -dsimp -implicitDefEqProofs (disch := omega) only [↓rP, rQ, rO, rL, ↓reduceIte, Nat.reduceEqDiff, Nat.reduceAdd, Nat.reduceLeDiff, pBuild, fillA, ↓tyr])
  refine Split_lt (fun hkl => ?_) (fun hkl => ?_)
  · obtain ⟨x, hx⟩ : ∃ x, s[k]? = some x := ⟨_, List.getElem?_eq_getElem (by omega)⟩
    have hix : ∀ K : AV → Prop, pIndexStr (.str s) (.int .i64 (k : Int)) K = K (.int .u8 (x.toNat : Int)) := fun K => by
      simp [pIndexStr, hx]
    have ht : s.take (k + 1) = s.take k ++ [x] := by rw [List.take_add_one, hx]; rfl
    (repeat simp -dsimp -implicitDefEqProofs (disch := omega) only [↓rP, rQ, rO, rL, ↓reduceIte, Nat.reduceEqDiff, Nat.reduceAdd, Nat.reduceLeDiff, pBuild, fillA, ↓tyr, hix])
    refine Split_eq (fun e => ?_) (fun e => ?_)
    · (repeat simp -dsimp -implicitDefEqProofs (disch := omega) only [↓rP, rQ, rO, rL, ↓reduceIte, Nat.reduceEqDiff, Nat.reduceAdd, Nat.reduceLeDiff, pBuild, fillA, ↓tyr])
      have : x = c := by
        have e' : x.toNat = c.toNat := by omega
        exact UInt8.toNat_inj.1 e'
      subst this
      simp [List.mem_of_getElem? hx]
    · have hne : x ≠ c := fun e' => e (by rw [e'])
      (repeat simp -dsimp -implicitDefEqProofs (disch := omega) only [↓rP, rQ, rO, rL, ↓reduceIte, Nat.reduceEqDiff, Nat.reduceAdd, Nat.reduceLeDiff, pBuild, fillA, ↓tyr, wkS k (by omega)])
      rw [loopPost_normal, ← hI]
      refine ⟨_, by omega, k + 1, by omega, rfl, ?_, rfl, rfl⟩
      rw [ht, Bool.eq_false_iff]
      simp only [ne_eq, List.contains_iff_mem, List.mem_append, List.mem_singleton]
      rintro (h1 | h1)
      · rw [List.contains_iff_mem.2 h1] at hup; cases hup
      · exact hne h1.symm
  · have hke : k = s.length := by omega
    subst hke
    rw [List.take_length] at hup
    (repeat simp -dsimp -implicitDefEqProofs (disch := omega) only [↓rP, rQ, rO, rL, ↓reduceIte, Nat.reduceEqDiff, Nat.reduceAdd, Nat.reduceLeDiff, pBuild, fillA, ↓tyr])
    rw [hup]
theorem CallsA.go {P : Program} {f : FuncId} {args : List AV} {h : AHeap} {v0 : AV} {K : AV → AHeap → Prop} (H : CallsA P f args h (fun v h2 => v = v0 ∧ h2 = h)) (hk : K v0 h) : CallsA P f args h K := H.mono (by rintro _ _ ⟨rfl, rfl⟩; exact hk)
theorem ref_Inside_p (c : Cd) (hl : (slL c.Sections).length ≤ 1000000) (t a : Int) (h : AHeap) : CallsA Tryd.prog 57 [.agg c.cells, .int .i64 t, .int .i64 a] h (fun v h2 => v = .int .i64 (insI c t a) ∧ h2 = h) := CallsA.forget (by simp [idsIn]) (ref_Inside_does c hl t a h)
theorem has_100 (s : List UInt8) (hs : s.length ≤ 1000) (h : AHeap) : CallsA Tryd.prog 55 [.str s, .int .u8 100] h (fun v h2 => v = .bool (s.contains 100) ∧ h2 = h) := ref_has_does s hs 100 h
theorem has_115 (s : List UInt8) (hs : s.length ≤ 1000) (h : AHeap) : CallsA Tryd.prog 55 [.str s, .int .u8 115] h (fun v h2 => v = .bool (s.contains 115) ∧ h2 = h) := ref_has_does s hs 115 h
theorem has_114 (s : List UInt8) (hs : s.length ≤ 1000) (h : AHeap) : CallsA Tryd.prog 55 [.str s, .int .u8 114] h (fun v h2 => v = .bool (s.contains 114) ∧ h2 = h) := ref_has_does s hs 114 h
theorem has_110 (s : List UInt8) (hs : s.length ≤ 1000) (h : AHeap) : CallsA Tryd.prog 55 [.str s, .int .u8 110] h (fun v h2 => v = .bool (s.contains 110) ∧ h2 = h) := ref_has_does s hs 110 h
theorem has_116 (s : List UInt8) (hs : s.length ≤ 1000) (h : AHeap) : CallsA Tryd.prog 55 [.str s, .int .u8 116] h (fun v h2 => v = .bool (s.contains 116) ∧ h2 = h) := ref_has_does s hs 116 h
theorem has_105 (s : List UInt8) (hs : s.length ≤ 1000) (h : AHeap) : CallsA Tryd.prog 55 [.str s, .int .u8 105] h (fun v h2 => v = .bool (s.contains 105) ∧ h2 = h) := ref_has_does s hs 105 h
theorem has_120 (s : List UInt8) (hs : s.length ≤ 1000) (h : AHeap) : CallsA Tryd.prog 55 [.str s, .int .u8 120] h (fun v h2 => v = .bool (s.contains 120) ∧ h2 = h) := ref_has_does s hs 120 h
theorem keeps_put {h g : AHeap} (k : Keeps h g (fun _ => False)) {id : Nat} (hid : h.next ≤ id) (o : AObj) : Keeps h (g.put id o) (fun _ => False) :=
  ⟨k.next, fun i hi hs => by simp only [AHeap.put_objs]; rw [if_neg (by omega)]; exact k.objs i hi hs⟩
def gD {α : Type} [Inhabited α] (o : Option (List α)) (n : Int) : α := (getI (slL o) n).getD default
theorem gD_some {α : Type} [Inhabited α] {o : Option (List α)} {n : Int} (hq : btw n (slL o).length = true) : getI (slL o) n = some (gD o n) := by
  obtain ⟨x, hx⟩ := getI_some.1 hq
  unfold gD; rw [hx]; rfl
theorem ixB_go {α : Type} [Inhabited α] {sz : Nat} {enc : α → List AV} {o : Option (List α)} {n : Int} {kk : IntKind} {K : AV → Prop} (hq : btw n (slL o).length = true) (hk : K (.iptr (enc (gD o n)))) : pIndexAddr (.slice sz) (slAV sz enc o) (.int kk n) K := by
  rw [ixI (gD_some hq)]; exact hk
theorem getI_no {α : Type} {o : Option (List α)} {n : Int} (hq : btw n (slL o).length = false) : getI (slL o) n = none := getI_none.1 hq
theorem site_iff (s : Api_Site) (t a r : Int) : s = ⟨t, a, r⟩ ↔ s.Thread = t ∧ s.At = a ∧ s.Rec = r := by cases s; simp
theorem isB_btw {b : Bd} {n : Int} {want : Lo} (hq : btw n (slL b.Slots).length = true) : isB b n want = sameB (gD b.Slots n) want := by unfold isB; rw [gD_some hq]
theorem isB_not {b : Bd} {n : Int} {want : Lo} (hq : btw n (slL b.Slots).length = false) : isB b n want = false := by unfold isB; rw [getI_none.1 hq]
theorem fieldO_eq (c : Cd) (b : Bd) (x : In) : fieldO c b x = if btw x.Rec (slL c.Records).length = true ∧ btw x.N (slL (gD c.Records x.Rec)).length = true ∧ isB b x.Src ⟨4, x.Rec, false⟩ = true then some (gD (gD c.Records x.Rec) x.N) else none := by
  unfold fieldO
  cases h1 : btw x.Rec (slL c.Records).length with
  | false => rw [getI_none.1 h1]; simp
  | true =>
    rw [gD_some h1]
    simp only
    cases h2 : btw x.N (slL (gD c.Records x.Rec)).length with
    | false => rw [getI_none.1 h2]; simp
    | true => rw [gD_some h2]; simp
theorem hasS_len (op : Int) : (hasS op).length ≤ 1000 := by
  unfold hasS
  split
  · decide
  · have : ∀ n : Nat, (hasT.getD n []).length ≤ 4 := fun n => by
      by_cases h : n < 18
      · have : ∀ m : Fin 18, (hasT.getD m.1 []).length ≤ 4 := by decide
        exact this ⟨n, h⟩
      · rw [List.getD_eq_getElem?_getD, List.getElem?_eq_none (by rw [show hasT.length = 18 from rfl]; omega)]; simp
    have := this op.toNat
    omega
end Go.Proofs.YtopfjochppdnfaaDoor
end

