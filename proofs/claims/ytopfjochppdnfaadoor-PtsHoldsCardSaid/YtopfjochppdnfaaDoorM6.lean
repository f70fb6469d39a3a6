/- Own texts, merged: CdGood, CdSpec, CdProg, CdProg2, CdProg3, CdProg4, CdProg5, CdProg6, CdProg7. -/
import Derived.Test.YtopfjochppdnfaaDoorM5
set_option linter.unusedVariables false
set_option linter.unusedSimpArgs false
section
/- Whether items are an expression, by the program and by the document. -/
set_option maxRecDepth 8000
set_option maxHeartbeats 1000000
namespace Go.Proofs.YtopfjochppdnfaaDoor
open Go.Abs
theorem beqI (a b : Int) : (a == b) = decide (a = b) := rfl
theorem bneI (a b : Int) : (a != b) = !decide (a = b) := rfl
theorem op_cases (op : Int) : op = 1 ∨ op = 2 ∨ op = 3 ∨ op = 4 ∨ op = 5 ∨ op = 6 ∨ op = 7 ∨ op = 8 ∨ op = 9 ∨ op = 10 ∨ (op < 1 ∨ 10 < op) := by omega
theorem calc_needs_does (x : It) (h : z04) : z03 Tryd.prog 85 [.agg x.cells] h (fun v h2 => v = .int .i64 (z3d x.Op) ∧ h2 = h) := by
  obtain ⟨op, bin, n⟩ := x
  apply calc_needs_wp
  unfold z0j.cells
  rcases op_cases op with rfl | rfl | rfl | rfl | rfl | rfl | rfl | rfl | rfl | rfl | ho
  all_goals (repeat (first | simp -dsimp -implicitDefEqProofs (disch := omega) only [↓rP, rQ, rO, rL, ↓reduceIte, Nat.reduceEqDiff, Nat.reduceAdd, Nat.reduceLeDiff, z01, z05] | refine Cut.go ?_))
  all_goals simp [z3d]
  omega
theorem maxA_two (a b : Int) : maxA [.int .i64 a, .int .i64 b] = some (.int .i64 (max a b)) := by
  simp only [maxA]
  by_cases h : a < b
  · rw [if_pos h, Int.max_eq_right (by omega)]
  · rw [if_neg h, Int.max_eq_left (by omega)]
theorem calc_fits_does (x : It) (s : Int) (hx : x.ok) (hs : okI s) (h : z04) : z03 Tryd.prog 84 [.agg x.cells, .int .i64 s] h (fun v h2 => v = .bool (z4q x s) ∧ h2 = h) := by
  obtain ⟨op, bin, n⟩ := x
  obtain ⟨-, -, hn⟩ := hx
  unfold okN at hn
  unfold okI at hs
  simp only at hn
  apply calc_fits_wp
  have cn : ∀ h, z03 Tryd.prog 85 [.agg [.int .i64 op, .int .i64 bin, .int .u64 n]] h (fun v h2 => v = .int .i64 (z3d op) ∧ h2 = h) := fun h => calc_needs_does ⟨op, bin, n⟩ h
  have hm : IntKind.u64.wrap (max s 0) = max s 0 := wrapN (by omega) (by omega)
  unfold z0j.cells
  have go : ∀ o : Int, o = op → (1 ≤ o ∧ o ≤ 3) ∨ (8 ≤ o ∧ o ≤ 10) ∨ ((4 ≤ o ∧ o ≤ 7) ∨ o < 1 ∨ 10 < o) := by omega
  rcases op_cases op with rfl | rfl | rfl | rfl | rfl | rfl | rfl | rfl | rfl | rfl | ho
  · repeat' (first | (simp -dsimp -implicitDefEqProofs (disch := omega) only [↓rP, rQ, rO, rL, ↓reduceIte, Nat.reduceEqDiff, Nat.reduceAdd, Nat.reduceLeDiff, z01, z05]) | refine Cut.go ?_ | refine z10 (fun _ => ?_) (fun _ => ?_) | refine z11 (fun _ => ?_) (fun _ => ?_) | refine z0e (fun _ => ?_) (fun _ => ?_) | refine z13 (fun _ => ?_) (fun _ => ?_) | refine Split.intro (fun _ => ?_) (fun _ => ?_))
    all_goals (simp [z4q, beqI, bneI]; try omega)
  · (repeat (first | simp -dsimp -implicitDefEqProofs (disch := omega) only [↓rP, rQ, rO, rL, ↓reduceIte, Nat.reduceEqDiff, Nat.reduceAdd, Nat.reduceLeDiff, z01, z05] | refine Cut.go ?_))
    refine z10 (fun hb => ?_) (fun hb => ?_)
    · (repeat (first | simp -dsimp -implicitDefEqProofs (disch := omega) only [↓rP, rQ, rO, rL, ↓reduceIte, Nat.reduceEqDiff, Nat.reduceAdd, Nat.reduceLeDiff, z01, z05, maxA_two, hm] | refine Cut.go ?_))
      simp [z4q, hb]
    · (repeat (first | simp -dsimp -implicitDefEqProofs (disch := omega) only [↓rP, rQ, rO, rL, ↓reduceIte, Nat.reduceEqDiff, Nat.reduceAdd, Nat.reduceLeDiff, z01, z05] | refine Cut.go ?_))
      simp [z4q, hb]
  · repeat' (first | (simp -dsimp -implicitDefEqProofs (disch := omega) only [↓rP, rQ, rO, rL, ↓reduceIte, Nat.reduceEqDiff, Nat.reduceAdd, Nat.reduceLeDiff, z01, z05]) | refine Cut.go ?_ | refine z10 (fun _ => ?_) (fun _ => ?_) | refine z11 (fun _ => ?_) (fun _ => ?_) | refine z0e (fun _ => ?_) (fun _ => ?_) | refine z13 (fun _ => ?_) (fun _ => ?_) | refine Split.intro (fun _ => ?_) (fun _ => ?_))
    all_goals (simp [z4q, beqI, bneI, *]; try omega)
  · (repeat (first | simp -dsimp -implicitDefEqProofs (disch := omega) only [↓rP, rQ, rO, rL, ↓reduceIte, Nat.reduceEqDiff, Nat.reduceAdd, Nat.reduceLeDiff, z01, z05] | refine Cut.go ?_))
    refine (cn _).mono ?_
    rintro _ _ ⟨rfl, rfl⟩
    have : z3d 4 = 1 := by decide
    rw [this]
    repeat' (first | (simp -dsimp -implicitDefEqProofs (disch := omega) only [↓rP, rQ, rO, rL, ↓reduceIte, Nat.reduceEqDiff, Nat.reduceAdd, Nat.reduceLeDiff, z01, z05]) | refine Cut.go ?_ | refine z10 (fun _ => ?_) (fun _ => ?_) | refine z11 (fun _ => ?_) (fun _ => ?_) | refine z0e (fun _ => ?_) (fun _ => ?_) | refine z13 (fun _ => ?_) (fun _ => ?_) | refine Split.intro (fun _ => ?_) (fun _ => ?_))
    all_goals (simp [z4q, beqI, bneI, *]; try omega)
  · (repeat (first | simp -dsimp -implicitDefEqProofs (disch := omega) only [↓rP, rQ, rO, rL, ↓reduceIte, Nat.reduceEqDiff, Nat.reduceAdd, Nat.reduceLeDiff, z01, z05] | refine Cut.go ?_))
    refine (cn _).mono ?_
    rintro _ _ ⟨rfl, rfl⟩
    have : z3d 5 = 1 := by decide
    rw [this]
    repeat' (first | (simp -dsimp -implicitDefEqProofs (disch := omega) only [↓rP, rQ, rO, rL, ↓reduceIte, Nat.reduceEqDiff, Nat.reduceAdd, Nat.reduceLeDiff, z01, z05]) | refine Cut.go ?_ | refine z10 (fun _ => ?_) (fun _ => ?_) | refine z11 (fun _ => ?_) (fun _ => ?_) | refine z0e (fun _ => ?_) (fun _ => ?_) | refine z13 (fun _ => ?_) (fun _ => ?_) | refine Split.intro (fun _ => ?_) (fun _ => ?_))
    all_goals (simp [z4q, beqI, bneI, *]; try omega)
  · (repeat (first | simp -dsimp -implicitDefEqProofs (disch := omega) only [↓rP, rQ, rO, rL, ↓reduceIte, Nat.reduceEqDiff, Nat.reduceAdd, Nat.reduceLeDiff, z01, z05] | refine Cut.go ?_))
    refine (cn _).mono ?_
    rintro _ _ ⟨rfl, rfl⟩
    have : z3d 6 = 1 := by decide
    rw [this]
    repeat' (first | (simp -dsimp -implicitDefEqProofs (disch := omega) only [↓rP, rQ, rO, rL, ↓reduceIte, Nat.reduceEqDiff, Nat.reduceAdd, Nat.reduceLeDiff, z01, z05]) | refine Cut.go ?_ | refine z10 (fun _ => ?_) (fun _ => ?_) | refine z11 (fun _ => ?_) (fun _ => ?_) | refine z0e (fun _ => ?_) (fun _ => ?_) | refine z13 (fun _ => ?_) (fun _ => ?_) | refine Split.intro (fun _ => ?_) (fun _ => ?_))
    all_goals (simp [z4q, beqI, bneI, *]; try omega)
  · (repeat (first | simp -dsimp -implicitDefEqProofs (disch := omega) only [↓rP, rQ, rO, rL, ↓reduceIte, Nat.reduceEqDiff, Nat.reduceAdd, Nat.reduceLeDiff, z01, z05] | refine Cut.go ?_))
    refine (cn _).mono ?_
    rintro _ _ ⟨rfl, rfl⟩
    have : z3d 7 = 1 := by decide
    rw [this]
    repeat' (first | (simp -dsimp -implicitDefEqProofs (disch := omega) only [↓rP, rQ, rO, rL, ↓reduceIte, Nat.reduceEqDiff, Nat.reduceAdd, Nat.reduceLeDiff, z01, z05]) | refine Cut.go ?_ | refine z10 (fun _ => ?_) (fun _ => ?_) | refine z11 (fun _ => ?_) (fun _ => ?_) | refine z0e (fun _ => ?_) (fun _ => ?_) | refine z13 (fun _ => ?_) (fun _ => ?_) | refine Split.intro (fun _ => ?_) (fun _ => ?_))
    all_goals (simp [z4q, beqI, bneI, *]; try omega)
  · repeat' (first | (simp -dsimp -implicitDefEqProofs (disch := omega) only [↓rP, rQ, rO, rL, ↓reduceIte, Nat.reduceEqDiff, Nat.reduceAdd, Nat.reduceLeDiff, z01, z05]) | refine Cut.go ?_ | refine z10 (fun _ => ?_) (fun _ => ?_) | refine z11 (fun _ => ?_) (fun _ => ?_) | refine z0e (fun _ => ?_) (fun _ => ?_) | refine z13 (fun _ => ?_) (fun _ => ?_) | refine Split.intro (fun _ => ?_) (fun _ => ?_))
    all_goals (simp [z4q, beqI, bneI, *]; try omega)
  · repeat' (first | (simp -dsimp -implicitDefEqProofs (disch := omega) only [↓rP, rQ, rO, rL, ↓reduceIte, Nat.reduceEqDiff, Nat.reduceAdd, Nat.reduceLeDiff, z01, z05]) | refine Cut.go ?_ | refine z10 (fun _ => ?_) (fun _ => ?_) | refine z11 (fun _ => ?_) (fun _ => ?_) | refine z0e (fun _ => ?_) (fun _ => ?_) | refine z13 (fun _ => ?_) (fun _ => ?_) | refine Split.intro (fun _ => ?_) (fun _ => ?_))
    all_goals (simp [z4q, beqI, bneI, *]; try omega)
  · repeat' (first | (simp -dsimp -implicitDefEqProofs (disch := omega) only [↓rP, rQ, rO, rL, ↓reduceIte, Nat.reduceEqDiff, Nat.reduceAdd, Nat.reduceLeDiff, z01, z05]) | refine Cut.go ?_ | refine z10 (fun _ => ?_) (fun _ => ?_) | refine z11 (fun _ => ?_) (fun _ => ?_) | refine z0e (fun _ => ?_) (fun _ => ?_) | refine z13 (fun _ => ?_) (fun _ => ?_) | refine Split.intro (fun _ => ?_) (fun _ => ?_))
    all_goals (simp [z4q, beqI, bneI, *]; try omega)
  · (repeat (first | simp -dsimp -implicitDefEqProofs (disch := omega) only [↓rP, rQ, rO, rL, ↓reduceIte, Nat.reduceEqDiff, Nat.reduceAdd, Nat.reduceLeDiff, z01, z05] | refine Cut.go ?_))
    refine (cn _).mono ?_
    rintro _ _ ⟨rfl, rfl⟩
    have : z3d op = -1 := by unfold z3d; rw [if_neg (by omega), if_neg (by omega), if_neg (by omega)]
    rw [this]
    (repeat (first | simp -dsimp -implicitDefEqProofs (disch := omega) only [↓rP, rQ, rO, rL, ↓reduceIte, Nat.reduceEqDiff, Nat.reduceAdd, Nat.reduceLeDiff, z01, z05] | refine Cut.go ?_))
    have : z4q ⟨op, bin, n⟩ s = false := by unfold z4q; simp only; rw [if_neg (by omega), if_neg (by omega), if_neg (by omega), if_neg (by omega), if_neg (by omega), if_neg (by omega), if_neg (by omega)]
    rw [this]
theorem ref_Takes_does (x : It) (s : Int) (hx : x.ok) (hs : okI s) (h : z04) : z03 Tryd.prog 66 [.agg x.cells, .int .i64 s] h (fun v h2 => v = .int .i64 (z4a x s) ∧ h2 = h) := by
  obtain ⟨op, bin, n⟩ := x
  obtain ⟨-, -, hn⟩ := hx
  unfold okN at hn
  unfold okI at hs
  simp only at hn
  apply padlockref08_Takes_wp
  unfold z0j.cells
  rcases op_cases op with rfl | rfl | rfl | rfl | rfl | rfl | rfl | rfl | rfl | rfl | ho
  · repeat' (first | (simp -dsimp -implicitDefEqProofs (disch := omega) only [↓rP, rQ, rO, rL, ↓reduceIte, Nat.reduceEqDiff, Nat.reduceAdd, Nat.reduceLeDiff, z01, z05]) | refine Cut.go ?_ | refine z10 (fun _ => ?_) (fun _ => ?_) | refine z11 (fun _ => ?_) (fun _ => ?_) | refine z0e (fun _ => ?_) (fun _ => ?_) | refine z13 (fun _ => ?_) (fun _ => ?_) | refine Split.intro (fun _ => ?_) (fun _ => ?_))
    all_goals (simp [z4a, z4q, z3d, beqI, bneI, *]; try omega)
  · (repeat (first | simp -dsimp -implicitDefEqProofs (disch := omega) only [↓rP, rQ, rO, rL, ↓reduceIte, Nat.reduceEqDiff, Nat.reduceAdd, Nat.reduceLeDiff, z01, z05] | refine Cut.go ?_))
    refine z11 (fun hb => ?_) (fun hb => ?_)
    · (repeat (first | simp -dsimp -implicitDefEqProofs (disch := omega) only [↓rP, rQ, rO, rL, ↓reduceIte, Nat.reduceEqDiff, Nat.reduceAdd, Nat.reduceLeDiff, z01, z05] | refine Cut.go ?_))
      simp [z4a, z4q, hb]
    · (repeat (first | simp -dsimp -implicitDefEqProofs (disch := omega) only [↓rP, rQ, rO, rL, ↓reduceIte, Nat.reduceEqDiff, Nat.reduceAdd, Nat.reduceLeDiff, z01, z05] | refine Cut.go ?_))
      refine z13 (fun h0 => ?_) (fun h0 => ?_)
      · (repeat (first | simp -dsimp -implicitDefEqProofs (disch := omega) only [↓rP, rQ, rO, rL, ↓reduceIte, Nat.reduceEqDiff, Nat.reduceAdd, Nat.reduceLeDiff, z01, z05] | refine Cut.go ?_))
        have : ¬ ((n : Int) < max s 0) := by omega
        simp [z4a, z4q, this]
      · have hm : IntKind.u64.wrap s = s := wrapN (by omega) (by omega)
        (repeat (first | simp -dsimp -implicitDefEqProofs (disch := omega) only [↓rP, rQ, rO, rL, ↓reduceIte, Nat.reduceEqDiff, Nat.reduceAdd, Nat.reduceLeDiff, z01, z05, hm] | refine Cut.go ?_))
        refine z13 (fun h1 => ?_) (fun h1 => ?_)
        · (repeat (first | simp -dsimp -implicitDefEqProofs (disch := omega) only [↓rP, rQ, rO, rL, ↓reduceIte, Nat.reduceEqDiff, Nat.reduceAdd, Nat.reduceLeDiff, z01, z05] | refine Cut.go ?_))
          have : ¬ ((n : Int) < max s 0) := by omega
          simp [z4a, z4q, this]
        · (repeat (first | simp -dsimp -implicitDefEqProofs (disch := omega) only [↓rP, rQ, rO, rL, ↓reduceIte, Nat.reduceEqDiff, Nat.reduceAdd, Nat.reduceLeDiff, z01, z05] | refine Cut.go ?_))
          have : ((n : Int) < max s 0) := by omega
          simp [z4a, z4q, z3d, this, hb]
  · repeat' (first | (simp -dsimp -implicitDefEqProofs (disch := omega) only [↓rP, rQ, rO, rL, ↓reduceIte, Nat.reduceEqDiff, Nat.reduceAdd, Nat.reduceLeDiff, z01, z05]) | refine Cut.go ?_ | refine z10 (fun _ => ?_) (fun _ => ?_) | refine z11 (fun _ => ?_) (fun _ => ?_) | refine z0e (fun _ => ?_) (fun _ => ?_) | refine z13 (fun _ => ?_) (fun _ => ?_) | refine Split.intro (fun _ => ?_) (fun _ => ?_))
    all_goals (simp [z4a, z4q, z3d, beqI, bneI, *]; try omega)
  · repeat' (first | (simp -dsimp -implicitDefEqProofs (disch := omega) only [↓rP, rQ, rO, rL, ↓reduceIte, Nat.reduceEqDiff, Nat.reduceAdd, Nat.reduceLeDiff, z01, z05]) | refine Cut.go ?_ | refine z10 (fun _ => ?_) (fun _ => ?_) | refine z11 (fun _ => ?_) (fun _ => ?_) | refine z0e (fun _ => ?_) (fun _ => ?_) | refine z13 (fun _ => ?_) (fun _ => ?_) | refine Split.intro (fun _ => ?_) (fun _ => ?_))
    all_goals (simp [z4a, z4q, z3d, beqI, bneI, *]; try omega)
  · repeat' (first | (simp -dsimp -implicitDefEqProofs (disch := omega) only [↓rP, rQ, rO, rL, ↓reduceIte, Nat.reduceEqDiff, Nat.reduceAdd, Nat.reduceLeDiff, z01, z05]) | refine Cut.go ?_ | refine z10 (fun _ => ?_) (fun _ => ?_) | refine z11 (fun _ => ?_) (fun _ => ?_) | refine z0e (fun _ => ?_) (fun _ => ?_) | refine z13 (fun _ => ?_) (fun _ => ?_) | refine Split.intro (fun _ => ?_) (fun _ => ?_))
    all_goals (simp [z4a, z4q, z3d, beqI, bneI, *]; try omega)
  · repeat' (first | (simp -dsimp -implicitDefEqProofs (disch := omega) only [↓rP, rQ, rO, rL, ↓reduceIte, Nat.reduceEqDiff, Nat.reduceAdd, Nat.reduceLeDiff, z01, z05]) | refine Cut.go ?_ | refine z10 (fun _ => ?_) (fun _ => ?_) | refine z11 (fun _ => ?_) (fun _ => ?_) | refine z0e (fun _ => ?_) (fun _ => ?_) | refine z13 (fun _ => ?_) (fun _ => ?_) | refine Split.intro (fun _ => ?_) (fun _ => ?_))
    all_goals (simp [z4a, z4q, z3d, beqI, bneI, *]; try omega)
  · repeat' (first | (simp -dsimp -implicitDefEqProofs (disch := omega) only [↓rP, rQ, rO, rL, ↓reduceIte, Nat.reduceEqDiff, Nat.reduceAdd, Nat.reduceLeDiff, z01, z05]) | refine Cut.go ?_ | refine z10 (fun _ => ?_) (fun _ => ?_) | refine z11 (fun _ => ?_) (fun _ => ?_) | refine z0e (fun _ => ?_) (fun _ => ?_) | refine z13 (fun _ => ?_) (fun _ => ?_) | refine Split.intro (fun _ => ?_) (fun _ => ?_))
    all_goals (simp [z4a, z4q, z3d, beqI, bneI, *]; try omega)
  · repeat' (first | (simp -dsimp -implicitDefEqProofs (disch := omega) only [↓rP, rQ, rO, rL, ↓reduceIte, Nat.reduceEqDiff, Nat.reduceAdd, Nat.reduceLeDiff, z01, z05]) | refine Cut.go ?_ | refine z10 (fun _ => ?_) (fun _ => ?_) | refine z11 (fun _ => ?_) (fun _ => ?_) | refine z0e (fun _ => ?_) (fun _ => ?_) | refine z13 (fun _ => ?_) (fun _ => ?_) | refine Split.intro (fun _ => ?_) (fun _ => ?_))
    all_goals (simp [z4a, z4q, z3d, beqI, bneI, *]; try omega)
  · repeat' (first | (simp -dsimp -implicitDefEqProofs (disch := omega) only [↓rP, rQ, rO, rL, ↓reduceIte, Nat.reduceEqDiff, Nat.reduceAdd, Nat.reduceLeDiff, z01, z05]) | refine Cut.go ?_ | refine z10 (fun _ => ?_) (fun _ => ?_) | refine z11 (fun _ => ?_) (fun _ => ?_) | refine z0e (fun _ => ?_) (fun _ => ?_) | refine z13 (fun _ => ?_) (fun _ => ?_) | refine Split.intro (fun _ => ?_) (fun _ => ?_))
    all_goals (simp [z4a, z4q, z3d, beqI, bneI, *]; try omega)
  · repeat' (first | (simp -dsimp -implicitDefEqProofs (disch := omega) only [↓rP, rQ, rO, rL, ↓reduceIte, Nat.reduceEqDiff, Nat.reduceAdd, Nat.reduceLeDiff, z01, z05]) | refine Cut.go ?_ | refine z10 (fun _ => ?_) (fun _ => ?_) | refine z11 (fun _ => ?_) (fun _ => ?_) | refine z0e (fun _ => ?_) (fun _ => ?_) | refine z13 (fun _ => ?_) (fun _ => ?_) | refine Split.intro (fun _ => ?_) (fun _ => ?_))
    all_goals (simp [z4a, z4q, z3d, beqI, bneI, *]; try omega)
  · have : z4a ⟨op, bin, n⟩ s = -1 := by
      have hf : z4q ⟨op, bin, n⟩ s = false := by unfold z4q; simp only; rw [if_neg (by omega), if_neg (by omega), if_neg (by omega), if_neg (by omega), if_neg (by omega), if_neg (by omega), if_neg (by omega)]
      unfold z4a; rw [hf]; rfl
    rw [this]
    rcases ho with ho | ho
    · have d1 : decide (1 ≤ op) = false := decide_eq_false (by omega)
      have d3 : decide (4 ≤ op) = false := decide_eq_false (by omega)
      have d5 : decide (op < 8) = true := decide_eq_true (by omega)
      (repeat (first | simp -dsimp -implicitDefEqProofs only [↓rP, rQ, rL, ↓reduceIte, Nat.reduceEqDiff, Nat.reduceAdd, Nat.reduceLeDiff, z01, z05, d1, d3, d5] | refine Cut.go ?_))
    · have d1 : decide (1 ≤ op) = true := decide_eq_true (by omega)
      have d2 : decide (op ≤ 3) = false := decide_eq_false (by omega)
      have d3 : decide (4 ≤ op) = true := decide_eq_true (by omega)
      have d4 : decide (op ≤ 7) = false := decide_eq_false (by omega)
      have d5 : decide (op < 8) = false := decide_eq_false (by omega)
      have d6 : decide (10 < op) = true := decide_eq_true (by omega)
      (repeat (first | simp -dsimp -implicitDefEqProofs only [↓rP, rQ, rL, ↓reduceIte, Nat.reduceEqDiff, Nat.reduceAdd, Nat.reduceLeDiff, z01, z05, d1, d2, d3, d4, d5, d6] | refine Cut.go ?_))
open Classical in
noncomputable def goodB (l : List It) (s : Int) : Bool := decide (goodP l s)
theorem high_bound {s : Int} : ∀ (n : Nat) (l : List It), l.length = n → okL s l → high l ≤ l.length := by
  intro n
  induction n with
  | zero =>
    intro l hl _
    have : l = [] := List.length_eq_zero_iff.1 hl
    subst this; simp [high]
  | succ n ih =>
    intro l hl h
    rcases List.eq_nil_or_concat l with rfl | ⟨m, x, rfl⟩
    · simp at hl
    · rw [List.concat_eq_append] at *
      simp at hl
      rw [okL_snoc] at h
      have := ih m hl h.1
      have := fits_needs h.2.1
      rw [high_snoc]; simp; omega
theorem calc_Good_does (s : Int) (hs : okI s) (o : Option (List It)) (hok : okSl z0j.ok o) (h : z04) :
    z03 Tryd.prog 80 [.int .i64 s, slAV 3 z0j.cells o] h (fun v h2 => v = .bool (goodB (slL o) s) ∧ Keeps h h2 (fun _ => False)) := by
  obtain ⟨hl, hok⟩ := hok
  unfold maxLen at hl
  apply calc_Good_wp
  (repeat (first | simp -dsimp -implicitDefEqProofs (disch := omega) only [↓rP, rQ, rO, rL, ↓reduceIte, Nat.reduceEqDiff, Nat.reduceAdd, Nat.reduceLeDiff, z01, z05] | refine Cut.go ?_))
  refine z1c z0l (by kernel_rfl) (fun m fr hh => ∃ k : Nat, k ≤ (slL o).length ∧ m = (slL o).length - k ∧ okL s ((slL o).take k) ∧ Keeps h hh (fun _ => False) ∧ fr = frOf [(0, .int .i64 s), (1, slAV 3 z0j.cells o), (5, .int .i64 (high ((slL o).take k))), (8, slAV 3 z0j.cells o), (9, .int .i64 (slL o).length), (10, .int .i64 k)]) (slL o).length ⟨0, by omega, by omega, fun j hj => by simp at hj, .refl _ _, rfl⟩ ?_
  rintro m fr hh ⟨k, hk, rfl, hokl, kp, rfl⟩
  apply calc_Good_loop3
  generalize hI : (fun (m : Nat) (fr : Fr) (hh : z04) => _) = I
  have hb := high_bound _ _ rfl hokl
  have hb0 := (okL_high hokl _ (Nat.le_refl _)).1
  rw [List.take_length] at hb0
  simp at hb
  have hbk : high ((slL o).take k) ≤ k := by omega
  (repeat (first | simp -dsimp -implicitDefEqProofs (disch := omega) only [↓rP, rQ, rO, rL, ↓reduceIte, Nat.reduceEqDiff, Nat.reduceAdd, Nat.reduceLeDiff, z01, z05] | refine Cut.go ?_))
  refine z0e (fun hkl => ?_) (fun hkl => ?_)
  · obtain ⟨x, hx⟩ : ∃ x, (slL o)[k]? = some x := ⟨_, List.getElem?_eq_getElem (by omega)⟩
    have hxok := hok x (List.mem_of_getElem? hx)
    have hsn : (slL o).take (k + 1) = (slL o).take k ++ [x] := by rw [List.take_add_one, hx]; rfl
    (repeat (first | simp -dsimp -implicitDefEqProofs (disch := omega) only [↓rP, rQ, rO, rL, ↓reduceIte, Nat.reduceEqDiff, Nat.reduceAdd, Nat.reduceLeDiff, z01, z05, z0k hx] | refine Cut.go ?_))
    have hc : (List.take 3 (z0j.cells x)) = x.cells := rfl
    have hl3 : (z0j.cells x).length = 3 := rfl
    rw [hl3]
    (repeat (first | simp -dsimp -implicitDefEqProofs (disch := omega) only [↓rP, rQ, rO, rL, ↓reduceIte, Nat.reduceEqDiff, Nat.reduceAdd, Nat.reduceLeDiff, z01, z05, hc] | refine Cut.go ?_))
    rw [z1e (by rfl) (by rfl)]
    have kA := Keeps.push hh (.row 60 x.cells)
    (repeat (first | simp -dsimp -implicitDefEqProofs (disch := omega) only [↓rP, rQ, rO, rL, ↓reduceIte, Nat.reduceEqDiff, Nat.reduceAdd, Nat.reduceLeDiff, z01, z05, hl3, hc] | refine Cut.go ?_))
    refine (calc_fits_does x s hxok hs _).mono ?_
    rintro _ _ ⟨rfl, rfl⟩
    have bad : ¬ (z4q x s = true ∧ z3d x.Op ≤ high ((slL o).take k)) → goodB (slL o) s = false := by
      intro hn
      unfold goodB
      rw [decide_eq_false_iff_not]
      rintro ⟨g1, -, -⟩
      exact hn (g1 k (by omega) x hx)
    cases hf : z4q x s with
    | false =>
      (repeat (first | simp -dsimp -implicitDefEqProofs (disch := omega) only [↓rP, rQ, rO, rL, ↓reduceIte, Nat.reduceEqDiff, Nat.reduceAdd, Nat.reduceLeDiff, z01, z05] | refine Cut.go ?_))
      exact ⟨by rw [bad (by rw [hf]; simp)], kp.trans kA (fun _ _ h => h)⟩
    | true =>
      have hn := fits_needs hf
      (repeat (first | simp -dsimp -implicitDefEqProofs (disch := omega) only [↓rP, rQ, rO, rL, ↓reduceIte, Nat.reduceEqDiff, Nat.reduceAdd, Nat.reduceLeDiff, z01, z05, hl3, hc] | refine Cut.go ?_))
      refine (calc_needs_does x _).mono ?_
      rintro _ _ ⟨rfl, rfl⟩
      (repeat (first | simp -dsimp -implicitDefEqProofs (disch := omega) only [↓rP, rQ, rO, rL, ↓reduceIte, Nat.reduceEqDiff, Nat.reduceAdd, Nat.reduceLeDiff, z01, z05] | refine Cut.go ?_))
      refine z0e (fun hlt => ?_) (fun hle => ?_)
      · (repeat (first | simp -dsimp -implicitDefEqProofs (disch := omega) only [↓rP, rQ, rO, rL, ↓reduceIte, Nat.reduceEqDiff, Nat.reduceAdd, Nat.reduceLeDiff, z01, z05] | refine Cut.go ?_))
        exact ⟨by rw [bad (by omega)], kp.trans kA (fun _ _ h => h)⟩
      · (repeat (first | simp -dsimp -implicitDefEqProofs (disch := omega) only [↓rP, rQ, rO, rL, ↓reduceIte, Nat.reduceEqDiff, Nat.reduceAdd, Nat.reduceLeDiff, z01, z05, hl3, hc] | refine Cut.go ?_))
        refine (calc_needs_does x _).mono ?_
        rintro _ _ ⟨rfl, rfl⟩
        have w1 : IntKind.i64.wrap (1 - z3d x.Op) = 1 - z3d x.Op := wrapI (by omega) (by omega)
        have w2 : IntKind.i64.wrap (high ((slL o).take k) + (1 - z3d x.Op)) = high ((slL o).take (k + 1)) := by rw [hsn, high_snoc]; exact wrapI (by omega) (by omega)
        (repeat (first | simp -dsimp -implicitDefEqProofs (disch := omega) only [↓rP, rQ, rO, rL, ↓reduceIte, Nat.reduceEqDiff, Nat.reduceAdd, Nat.reduceLeDiff, z01, z05, w1, w2] | refine Cut.go ?_))
        rw [z0a, ← hI]
        refine ⟨_, ?_, k + 1, by omega, rfl, ?_, kp.trans kA (fun _ _ h => h), rfl⟩
        · omega
        · rw [hsn, okL_snoc]; exact ⟨hokl, hf, hle⟩
  · have hke : k = (slL o).length := by omega
    subst hke
    rw [List.take_length] at *
    (repeat (first | simp -dsimp -implicitDefEqProofs (disch := omega) only [↓rP, rQ, rO, rL, ↓reduceIte, Nat.reduceEqDiff, Nat.reduceAdd, Nat.reduceLeDiff, z01, z05] | refine Cut.go ?_))
    have hg : goodB (slL o) s = (decide (high (slL o) = 1) && decide ((slL o).length ≤ 64)) := by
      unfold goodB goodP
      rw [Bool.eq_iff_iff]
      simp only [decide_eq_true_eq, Bool.and_eq_true]
      exact ⟨fun h => h.2, fun h => ⟨hokl, h⟩⟩
    rw [hg]
    refine z10 (fun h1 => ?_) (fun h1 => ?_)
    · (repeat (first | simp -dsimp -implicitDefEqProofs (disch := omega) only [↓rP, rQ, rO, rL, ↓reduceIte, Nat.reduceEqDiff, Nat.reduceAdd, Nat.reduceLeDiff, z01, z05] | refine Cut.go ?_))
      refine ⟨?_, kp⟩
      simp [h1]; omega
    · (repeat (first | simp -dsimp -implicitDefEqProofs (disch := omega) only [↓rP, rQ, rO, rL, ↓reduceIte, Nat.reduceEqDiff, Nat.reduceAdd, Nat.reduceLeDiff, z01, z05] | refine Cut.go ?_))
      refine ⟨?_, kp⟩
      simp [h1]
theorem z0w (s : Int) (hs : okI s) (o : Option (List It)) (hok : okSl z0j.ok o) (hlen : (slL o).length ≤ 1000000) (h : z04) :
    z03 Tryd.prog 56 [slAV 3 z0j.cells o, .int .i64 s] h (fun v h2 => v = .bool (goodB (slL o) s) ∧ h2 = h) := by
  obtain ⟨hl, hok⟩ := hok
  unfold maxLen at hl
  have key : goodB (slL o) s = (decide (wantR s (slL o).reverse 1 = some 0) && decide ((slL o).length ≤ 64)) := by
    unfold goodB goodP
    rw [Bool.eq_iff_iff]
    simp only [decide_eq_true_eq, Bool.and_eq_true]
    rw [want_good s _ (slL o) rfl 1 (by omega)]
    exact ⟨fun h => ⟨⟨h.1, h.2.1⟩, h.2.2⟩, fun h => ⟨h.1.1, h.1.2, h.2⟩⟩
  apply padlockref08_Good_wp
  (repeat (first | simp -dsimp -implicitDefEqProofs (disch := omega) only [↓rP, rQ, rO, rL, ↓reduceIte, Nat.reduceEqDiff, Nat.reduceAdd, Nat.reduceLeDiff, z01, z05] | refine Cut.go ?_))
  refine z1c z0l (by kernel_rfl) (fun m fr hh => ∃ (k : Nat) (w : Int), k ≤ (slL o).length ∧ m = k ∧ 0 ≤ w ∧ w ≤ 2 * ((slL o).length - k) + 1 ∧ hh = h ∧ wantR s (slL o).reverse 1 = wantR s ((slL o).take k).reverse w ∧ fr = frOf [(0, slAV 3 z0j.cells o), (1, .int .i64 s), (5, .int .i64 w), (6, .int .i64 ((k : Int) - 1))]) (slL o).length ⟨(slL o).length, 1, by omega, rfl, by omega, by omega, rfl, by rw [List.take_length], rfl⟩ ?_
  rintro m fr hh ⟨k, w, hk, rfl, hw0, hw, rfl, hwr, rfl⟩
  apply padlockref08_Good_loop3
  generalize hI : (fun (m : Nat) (fr : Fr) (hh : z04) => _) = I
  (repeat (first | simp -dsimp -implicitDefEqProofs (disch := omega) only [↓rP, rQ, rO, rL, ↓reduceIte, Nat.reduceEqDiff, Nat.reduceAdd, Nat.reduceLeDiff, z01, z05] | refine Cut.go ?_))
  refine z13 (fun hkl => ?_) (fun hkl => ?_)
  · obtain ⟨j, rfl⟩ : ∃ j, m = j + 1 := ⟨m - 1, by omega⟩
    obtain ⟨x, hx⟩ : ∃ x, (slL o)[j]? = some x := ⟨_, List.getElem?_eq_getElem (by omega)⟩
    have hxok := hok x (List.mem_of_getElem? hx)
    have hsn : (slL o).take (j + 1) = (slL o).take j ++ [x] := by rw [List.take_add_one, hx]; rfl
    have ej : ((j + 1 : Nat) : Int) - 1 = (j : Int) := by omega
    have hc : (List.take 3 (z0j.cells x)) = x.cells := rfl
    have hl3 : (z0j.cells x).length = 3 := rfl
    rw [hsn, List.reverse_append, List.reverse_singleton, List.singleton_append] at hwr
    simp only [wantR] at hwr
    rw [ej]
    (repeat (first | simp -dsimp -implicitDefEqProofs (disch := omega) only [↓rP, rQ, rO, rL, ↓reduceIte, Nat.reduceEqDiff, Nat.reduceAdd, Nat.reduceLeDiff, z01, z05, z0k hx, hl3, hc] | refine Cut.go ?_))
    refine (ref_Takes_does x s hxok hs _).mono ?_
    rintro _ _ ⟨rfl, rfl⟩
    have ht : -1 ≤ z4a x s ∧ z4a x s ≤ 2 := by
      unfold z4a
      split
      · rename_i hf; have := fits_needs hf; omega
      · omega
    (repeat (first | simp -dsimp -implicitDefEqProofs (disch := omega) only [↓rP, rQ, rO, rL, ↓reduceIte, Nat.reduceEqDiff, Nat.reduceAdd, Nat.reduceLeDiff, z01, z05] | refine Cut.go ?_))
    refine z0e (fun hlt => ?_) (fun hle => ?_)
    · (repeat (first | simp -dsimp -implicitDefEqProofs (disch := omega) only [↓rP, rQ, rO, rL, ↓reduceIte, Nat.reduceEqDiff, Nat.reduceAdd, Nat.reduceLeDiff, z01, z05] | refine Cut.go ?_))
      rw [if_pos (Or.inl hlt)] at hwr
      rw [key, hwr]; simp
    · (repeat (first | simp -dsimp -implicitDefEqProofs (disch := omega) only [↓rP, rQ, rO, rL, ↓reduceIte, Nat.reduceEqDiff, Nat.reduceAdd, Nat.reduceLeDiff, z01, z05] | refine Cut.go ?_))
      refine z10 (fun h0 => ?_) (fun h0 => ?_)
      · (repeat (first | simp -dsimp -implicitDefEqProofs (disch := omega) only [↓rP, rQ, rO, rL, ↓reduceIte, Nat.reduceEqDiff, Nat.reduceAdd, Nat.reduceLeDiff, z01, z05] | refine Cut.go ?_))
        rw [if_pos (Or.inr h0)] at hwr
        rw [key, hwr]; simp
      · rw [if_neg (by omega)] at hwr
        (repeat (first | simp -dsimp -implicitDefEqProofs (disch := omega) only [↓rP, rQ, rO, rL, ↓reduceIte, Nat.reduceEqDiff, Nat.reduceAdd, Nat.reduceLeDiff, z01, z05] | refine Cut.go ?_))
        rw [z0a, ← hI]
        exact ⟨j, by omega, j, w - 1 + z4a x s, by omega, rfl, by omega, by omega, rfl, hwr, rfl⟩
  · have hke : m = 0 := by omega
    subst hke
    rw [List.take_zero] at hwr
    simp only [List.reverse_nil, wantR] at hwr
    (repeat (first | simp -dsimp -implicitDefEqProofs (disch := omega) only [↓rP, rQ, rO, rL, ↓reduceIte, Nat.reduceEqDiff, Nat.reduceAdd, Nat.reduceLeDiff, z01, z05] | refine Cut.go ?_))
    rw [key, hwr]
    refine z10 (fun h1 => ?_) (fun h1 => ?_)
    · (repeat (first | simp -dsimp -implicitDefEqProofs (disch := omega) only [↓rP, rQ, rO, rL, ↓reduceIte, Nat.reduceEqDiff, Nat.reduceAdd, Nat.reduceLeDiff, z01, z05] | refine Cut.go ?_))
      simp [h1]
      try omega
    · (repeat (first | simp -dsimp -implicitDefEqProofs (disch := omega) only [↓rP, rQ, rO, rL, ↓reduceIte, Nat.reduceEqDiff, Nat.reduceAdd, Nat.reduceLeDiff, z01, z05] | refine Cut.go ?_))
      simp [h1]
end Go.Proofs.YtopfjochppdnfaaDoor
end

section
/- Which codes can be: what the program and the document compute, plainly. -/
set_option maxRecDepth 8000
set_option maxHeartbeats 1000000
namespace Go.Proofs.YtopfjochppdnfaaDoor
open Go.Abs
abbrev Cd := z0i
abbrev Lo := z0d
abbrev In := z0m
abbrev Bd := z0n
def btw (n m : Int) : Bool := decide (0 ≤ n) && decide (n < m)
def getI {α : Type} (l : List α) (n : Int) : Option α := if 0 ≤ n then l[n.toNat]? else none
theorem z1r {α : Type} {l : List α} {n : Int} : btw n l.length = true ↔ ∃ x, getI l n = some x := by
  unfold btw getI
  simp only [Bool.and_eq_true, decide_eq_true_eq]
  constructor
  · rintro ⟨h1, h2⟩
    exact ⟨l[n.toNat]'(by omega), by rw [if_pos h1]; exact List.getElem?_eq_getElem (by omega)⟩
  · rintro ⟨x, h⟩
    by_cases h1 : 0 ≤ n
    · rw [if_pos h1] at h
      have := (List.getElem?_eq_some_iff.1 h).1
      omega
    · rw [if_neg h1] at h; cases h
theorem z2n {α : Type} {l : List α} {n : Int} : btw n l.length = false ↔ getI l n = none := by
  cases h : getI l n with
  | some x => simp [z1r.2 ⟨x, h⟩]
  | none =>
    cases hb : btw n l.length with
    | false => simp
    | true => obtain ⟨x, hx⟩ := z1r.1 hb; rw [hx] at h; cases h
theorem getI_btw {α : Type} {l : List α} {n : Int} {x : α} (h : getI l n = some x) : 0 ≤ n ∧ n < l.length := by
  have := z1r.2 ⟨x, h⟩
  simpa [btw] using this
theorem getI_nat {α : Type} {l : List α} {n : Int} {x : α} (h : getI l n = some x) : ∃ k : Nat, n = k ∧ l[k]? = some x := by
  have h1 := (getI_btw h).1
  unfold getI at h
  rw [if_pos h1] at h
  exact ⟨n.toNat, by omega, h⟩
theorem z2m {α : Type} {l : List α} {n : Int} {x : α} (h : getI l n = some x) : x ∈ l := by
  obtain ⟨k, -, h⟩ := getI_nat h
  exact List.mem_of_getElem? h
theorem z2v {α : Type} (l : List α) (k : Nat) : getI l (k : Int) = l[k]? := by
  unfold getI; rw [if_pos (by omega)]; simp
def posI {α : Type} (p : α → Bool) : List α → Int
  | [] => -1
  | x :: l => if p x then 0 else let r := posI p l; if r < 0 then -1 else r + 1
def secP (t a : Int) (s : z0h) : Bool := decide (s.Thread = t) && decide (s.From < a) && decide (a ≤ s.To)
def insI (c : Cd) (t a : Int) : Int := posI (secP t a) (slL c.Sections)
def z19 (c : Cd) (l : Lo) : Bool := if l.Kind = 4 then btw l.Rec (slL c.Records).length else decide (1 ≤ l.Kind) && decide (l.Kind ≤ 3) && decide (l.Rec = 0)
def cellsB (c : Cd) (l : List Lo) (most : Int) : Bool := decide ((l.length : Int) ≤ most) && l.all (fun x => !x.Once && z19 c x)
def sameB (a b : Lo) : Bool := decide (a.Kind = b.Kind) && decide (a.Rec = b.Rec)
def isB (b : Bd) (n : Int) (want : Lo) : Bool := match getI (slL b.Slots) n with | some l => sameB l want | none => false
noncomputable def z2h (b : Bd) (l : Option (List It)) : Bool := goodB (slL l) (slL b.Slots).length
def fieldO (c : Cd) (b : Bd) (x : In) : Option Lo :=
  match getI (slL c.Records) x.Rec with
  | none => none
  | some r => match getI (slL r) x.N with
    | none => none
    | some f => if isB b x.Src ⟨4, x.Rec, false⟩ then some f else none
def siteB (c : Cd) (t : Int) (x : In) (a rec : Int) : Bool := decide (getI (slL c.Sites) x.N = some ⟨t, a, rec⟩)
def goesB (c : Cd) (t : Int) (b : Bd) (a to : Int) : Bool := btw to (slL b.Code).length && decide (insI c t a = insI c t to)
def z14 (x : In) (d s r n t i ix : Bool) : Bool :=
  (d || decide (x.Dst = 0)) && (s || decide (x.Src = 0)) && (r || decide (x.Rec = 0)) && (n || decide (x.N = 0)) && (t || decide (x.To = 0)) && (i || decide (((slL x.Items).length : Int) = 0)) && (ix || decide (((slL x.Index).length : Int) = 0))
noncomputable def z3s (c : Cd) (t : Int) (b : Bd) (x : In) (a : Int) : Bool :=
  if x.Op = 2 then z14 x true false false true false false false && (match getI (slL c.Globals) x.N with | some g => isB b x.Dst g | none => false)
  else if x.Op = 3 then z14 x true true true true false false false && (match fieldO c b x with | some f => isB b x.Dst f | none => false)
  else if x.Op = 4 then z14 x true true false false false false true && isB b x.Dst ⟨1, 0, false⟩ && isB b x.Src ⟨3, 0, false⟩ && z2h b x.Index
  else if x.Op = 10 then z14 x true true false false false false false && isB b x.Dst ⟨1, 0, false⟩ && isB b x.Src ⟨3, 0, false⟩
  else if x.Op = 8 then z14 x true false true true false false false && btw x.Rec (slL c.Records).length && isB b x.Dst ⟨4, x.Rec, false⟩ && siteB c t x a x.Rec
  else z14 x true false false true false true false && isB b x.Dst ⟨3, 0, false⟩ && z2h b x.Items && siteB c t x a (-1)
noncomputable def z3c (c : Cd) (b : Bd) (x : In) : Bool :=
  if x.Op = 5 then z14 x false false false true false true false && btw x.N (slL c.Globals).length && z2h b x.Items
  else if x.Op = 6 then z14 x false true true true false true false && (fieldO c b x).isSome && z2h b x.Items
  else z14 x false true false false false true true && isB b x.Src ⟨3, 0, false⟩ && z2h b x.Items && z2h b x.Index
def z3r (c : Cd) (t : Int) (x : In) (a : Int) : Bool :=
  z14 x false false false true false false false && (match getI (slL c.Sections) x.N with | some s => decide (s.Thread = t) && (if x.Op = 15 then decide (s.From = a) else decide (s.To = a)) | none => false)
noncomputable def z1l (c : Cd) (t : Int) (b : Bd) (x : In) (a : Int) : Bool :=
  if (2 ≤ x.Op ∧ x.Op ≤ 9) ∧ insI c t a < 0 then false
  else if x.Op = 1 then z14 x true false false false false true false && btw x.Dst (slL b.Slots).length && z2h b x.Items
  else if x.Op = 2 ∨ x.Op = 3 ∨ x.Op = 4 ∨ x.Op = 10 ∨ x.Op = 8 ∨ x.Op = 9 then z3s c t b x a
  else if x.Op = 5 ∨ x.Op = 6 ∨ x.Op = 7 then z3c c b x
  else if x.Op = 11 ∨ x.Op = 12 then z14 x false false false false false true false && z2h b x.Items
  else if x.Op = 13 then z14 x false false false false true false false && goesB c t b a x.To
  else if x.Op = 14 then z14 x false false false false true true false && goesB c t b a x.To && z2h b x.Items
  else if x.Op = 15 ∨ x.Op = 16 then z3r c t x a
  else decide (x.Op = 17) && z14 x false false false false false false false && decide (a = (slL b.Code).length - 1)
def allK {α : Type} (p : Nat → α → Bool) (l : List α) : Bool := (List.range l.length).all fun k => match l[k]? with | some x => p k x | none => true
theorem z3i {α : Type} {p : Nat → α → Bool} {l : List α} : allK p l = true ↔ ∀ k x, l[k]? = some x → p k x = true := by
  unfold allK
  simp only [List.all_eq_true, List.mem_range]
  constructor
  · intro h k x hx
    have := h k (List.getElem?_eq_some_iff.1 hx).1
    rw [hx] at this; exact this
  · intro h k hk
    rw [List.getElem?_eq_getElem hk]
    exact h k _ (List.getElem?_eq_getElem hk)
theorem z3k {α : Type} {p : Nat → α → Bool} {l : List α} {k : Nat} {x : α} (hx : l[k]? = some x) (hp : p k x = false) : allK p l = false := by
  rw [Bool.eq_false_iff]
  intro h
  have := z3i.1 h k x hx
  rw [hp] at this; cases this
def upTo {α : Type} (p : Nat → α → Bool) (l : List α) (n : Nat) : Prop := ∀ k x, k < n → l[k]? = some x → p k x = true
theorem z2w {α : Type} (p : Nat → α → Bool) (l : List α) : upTo p l 0 := fun k x h => by omega
theorem z2p {α : Type} {p : Nat → α → Bool} {l : List α} {n : Nat} {x : α} (h : upTo p l n) (hx : l[n]? = some x) (hp : p n x = true) : upTo p l (n + 1) := fun k y hk hy => by
  by_cases e : k = n
  · subst e; rw [hx] at hy; cases hy; exact hp
  · exact h k y (by omega) hy
theorem upTo_all {α : Type} {p : Nat → α → Bool} {l : List α} (h : upTo p l l.length) : allK p l = true := z3i.2 fun k x hx => h k x (List.getElem?_eq_some_iff.1 hx).1 hx
def lastB (b : Bd) : Bool := match getI (slL b.Code) ((slL b.Code).length - 1) with | some x => decide (x.Op = 17) | none => false
noncomputable def instrsB (c : Cd) (t : Int) (b : Bd) : Bool := allK (fun k x => z1l c t b x k) (slL b.Code)
def bodyB (c : Cd) (b : Bd) : Bool := decide ((slL b.Slots).length ≤ 64) && decide (1 ≤ (slL b.Code).length) && decide ((slL b.Code).length ≤ 256) && decide (0 ≤ b.Most) && decide (b.Most ≤ 4096) && (slL b.Slots).all (z19 c)
noncomputable def threadB (c : Cd) (t : Int) (b : Bd) : Bool := bodyB c b && lastB b && instrsB c t b
noncomputable def threadsB (c : Cd) : Bool := allK (fun k b => threadB c k b) (slL c.Threads)
def z3z (c : Cd) (t a : Int) : Option In := match getI (slL c.Threads) t with | some b => getI (slL b.Code) a | none => none
def endsB (c : Cd) (k : Int) (s : z0h) : Bool :=
  decide (0 ≤ s.From) && decide (s.From < s.To) &&
  (match z3z c s.Thread s.From with | some x => decide (x.Op = 15) && decide (x.N = k) | none => false) &&
  (match z3z c s.Thread s.To with | some x => decide (x.Op = 16) && decide (x.N = k) | none => false)
def meetB (s o : z0h) : Bool := decide (o.Thread = s.Thread) && decide (o.From ≤ s.To) && decide (s.From ≤ o.To)
def secB (c : Cd) (k : Nat) (s : z0h) : Bool := endsB c k s && ((slL c.Sections).take k).all (fun o => !meetB s o)
def sectionsB (c : Cd) : Bool := decide ((slL c.Sections).length ≤ 32) && allK (secB c) (slL c.Sections)
def siteOk (c : Cd) (k : Nat) (s : z0z) : Bool := match z3z c s.Thread s.At with | some x => decide (x.N = k) && (decide (x.Op = 8) || decide (x.Op = 9)) | none => false
def sitesB (c : Cd) : Bool := decide ((slL c.Sites).length ≤ 32) && allK (siteOk c) (slL c.Sites)
noncomputable def okC (c : Cd) : Bool := decide ((slL c.Records).length ≤ 6) && decide ((slL c.Threads).length ≤ 4) && cellsB c (slL c.Globals) 8 && sectionsB c && sitesB c && (slL c.Records).all (fun r => cellsB c (slL r) 6) && threadsB c
theorem posI_ge {α : Type} (p : α → Bool) : ∀ l : List α, -1 ≤ posI p l
  | [] => by simp [posI]
  | x :: l => by
    have := posI_ge p l
    simp only [posI]
    split
    · omega
    · split <;> omega
theorem posI_step {α : Type} {p : α → Bool} : ∀ {l : List α} {k : Nat}, k ≤ l.length → (∀ j x, j < k → l[j]? = some x → p x = false) →
    posI p l = if posI p (l.drop k) < 0 then -1 else posI p (l.drop k) + k
  | l, 0, _, _ => by
    have := posI_ge p l
    simp only [List.drop_zero]
    split <;> omega
  | [], k + 1, h, _ => by simp at h
  | x :: l, k + 1, h, hf => by
    have hx := hf 0 x (by omega) rfl
    have ih := posI_step (p := p) (l := l) (k := k) (by simpa using h) (fun j y hj hy => hf (j + 1) y (by omega) (by simpa using hy))
    simp only [posI, List.drop_succ_cons, hx, Bool.false_eq_true, if_false]
    rw [ih]
    have := posI_ge p (l.drop k)
    split
    · simp
    · rw [if_neg (by omega)]; omega
theorem posI_here {α : Type} {p : α → Bool} {l : List α} {k : Nat} {x : α} (hx : l[k]? = some x) (hp : p x = true) (hf : ∀ j x, j < k → l[j]? = some x → p x = false) : posI p l = k := by
  have hk := (List.getElem?_eq_some_iff.1 hx).1
  rw [posI_step (k := k) (by omega) hf, List.drop_eq_getElem_cons hk]
  have : l[k] = x := (List.getElem?_eq_some_iff.1 hx).2
  simp [posI, this, hp]
theorem posI_none {α : Type} {p : α → Bool} {l : List α} (hf : ∀ j x, j < l.length → l[j]? = some x → p x = false) : posI p l = -1 := by
  rw [posI_step (k := l.length) (Nat.le_refl _) hf]; simp [posI]
theorem posI_neg {α : Type} {p : α → Bool} : ∀ {l : List α}, posI p l < 0 ↔ l.any p = false
  | [] => by simp [posI]
  | x :: l => by
    have ih := posI_neg (p := p) (l := l)
    have := posI_ge p l
    simp only [posI, List.any_cons]
    cases hx : p x with
    | true => simp
    | false =>
      simp only [Bool.false_eq_true, if_false, Bool.false_or]
      rw [← ih]
      split <;> omega
end Go.Proofs.YtopfjochppdnfaaDoor
end

section
/- What the program's functions of codes compute: the small ones. -/
set_option maxRecDepth 100000
set_option maxHeartbeats 1000000
namespace Go.Proofs.YtopfjochppdnfaaDoor
open Go.Abs
theorem z1d (n m : Int) (h : z04) : z03 Tryd.prog 62 [.int .i64 n, .int .i64 m] h (fun v h2 => v = .bool (btw n m) ∧ h2 = h) := by
  apply code_between_wp
  unfold btw
  repeat' (first | (simp -dsimp -implicitDefEqProofs (disch := omega) only [↓rP, rQ, rO, rL, ↓reduceIte, Nat.reduceEqDiff, Nat.reduceAdd, Nat.reduceLeDiff, z01, z05]) | refine Cut.go ?_ | refine z10 (fun _ => ?_) (fun _ => ?_) | refine z11 (fun _ => ?_) (fun _ => ?_) | refine z0e (fun _ => ?_) (fun _ => ?_) | refine z13 (fun _ => ?_) (fun _ => ?_) | refine Split.intro (fun _ => ?_) (fun _ => ?_))
  all_goals simp [*]
  all_goals omega
theorem z1f (n m : Int) (h : z04) : z03 Tryd.prog 38 [.int .i64 n, .int .i64 m] h (fun v h2 => v = .bool (btw n m) ∧ h2 = h) := by
  apply padlockref09_in_wp
  unfold btw
  repeat' (first | (simp -dsimp -implicitDefEqProofs (disch := omega) only [↓rP, rQ, rO, rL, ↓reduceIte, Nat.reduceEqDiff, Nat.reduceAdd, Nat.reduceLeDiff, z01, z05]) | refine Cut.go ?_ | refine z10 (fun _ => ?_) (fun _ => ?_) | refine z11 (fun _ => ?_) (fun _ => ?_) | refine z0e (fun _ => ?_) (fun _ => ?_) | refine z13 (fun _ => ?_) (fun _ => ?_) | refine Split.intro (fun _ => ?_) (fun _ => ?_))
  all_goals simp [*]
  all_goals omega
theorem ixf_Local_does (o : Option (List z0d)) (hl : (slL o).length ≤ 1000000) (p : z0d → Bool) (f : AV) (h : z04)
    (hf : ∀ x ∈ slL o, ∀ R : AV → z04 → Prop, R (.bool (p x)) h → pCallF Tryd.prog f [.agg x.cells] h R) :
    z03 Tryd.prog 67 [slAV 3 z0d.cells o, f] h (fun v h2 => v = .int .i64 (posI p (slL o)) ∧ h2 = h) := by
  apply slices_IndexFunc_api_Local_api_Local_wp
  (repeat simp -dsimp -implicitDefEqProofs (disch := omega) only [↓rP, rQ, rO, rL, ↓reduceIte, Nat.reduceEqDiff, Nat.reduceAdd, Nat.reduceLeDiff, z01, z05])
  refine z1c z0l (by kernel_rfl) (fun m fr hh => ∃ k : Nat, k ≤ (slL o).length ∧ m = (slL o).length - k ∧ (∀ j x, j < k → (slL o)[j]? = some x → p x = false) ∧ hh = h ∧ fr = frOf [(0, slAV 3 z0d.cells o), (1, f), (7, .int .i64 (slL o).length), (8, .int .i64 k)]) (slL o).length ⟨0, by omega, by omega, fun j x hj => by omega, rfl, rfl⟩ ?_
  rintro m fr hh ⟨k, hk, rfl, hfa, rfl, rfl⟩
  apply z4r
  generalize hI : (fun (m : Nat) (fr : Fr) (hh : z04) => _) = I
  (repeat simp -dsimp -implicitDefEqProofs (disch := omega) only [↓rP, rQ, rO, rL, ↓reduceIte, Nat.reduceEqDiff, Nat.reduceAdd, Nat.reduceLeDiff, z01, z05])
  refine z0e (fun hkl => ?_) (fun hkl => ?_)
  · obtain ⟨x, hx⟩ : ∃ x, (slL o)[k]? = some x := ⟨_, List.getElem?_eq_getElem (by omega)⟩
    have hl3 : (z0d.cells x).length = 3 := rfl
    have hc : (List.take 3 (z0d.cells x)) = x.cells := rfl
    (repeat simp -dsimp -implicitDefEqProofs (disch := omega) only [↓rP, rQ, rO, rL, ↓reduceIte, Nat.reduceEqDiff, Nat.reduceAdd, Nat.reduceLeDiff, z01, z05, z0k hx, hl3, hc])
    refine hf x (List.mem_of_getElem? hx) _ ?_
    cases hp : p x with
    | true =>
      (repeat simp -dsimp -implicitDefEqProofs (disch := omega) only [↓rP, rQ, rO, rL, ↓reduceIte, Nat.reduceEqDiff, Nat.reduceAdd, Nat.reduceLeDiff, z01, z05])
      rw [posI_here hx hp hfa]
    | false =>
      (repeat simp -dsimp -implicitDefEqProofs (disch := omega) only [↓rP, rQ, rO, rL, ↓reduceIte, Nat.reduceEqDiff, Nat.reduceAdd, Nat.reduceLeDiff, z01, z05])
      rw [z0a, ← hI]
      refine ⟨_, ?_, k + 1, by omega, rfl, fun j y hj hy => ?_, rfl, rfl⟩
      · omega
      · by_cases e : j = k
        · subst e; rw [hx] at hy; cases hy; exact hp
        · exact hfa j y (by omega) hy
  · have hke : k = (slL o).length := by omega
    subst hke
    (repeat simp -dsimp -implicitDefEqProofs (disch := omega) only [↓rP, rQ, rO, rL, ↓reduceIte, Nat.reduceEqDiff, Nat.reduceAdd, Nat.reduceLeDiff, z01, z05])
    rw [posI_none hfa]
theorem ixf_Section_does (o : Option (List z0h)) (hl : (slL o).length ≤ 1000000) (p : z0h → Bool) (f : AV) (h : z04)
    (hf : ∀ x ∈ slL o, ∀ R : AV → z04 → Prop, R (.bool (p x)) h → pCallF Tryd.prog f [.agg x.cells] h R) :
    z03 Tryd.prog 78 [slAV 3 z0h.cells o, f] h (fun v h2 => v = .int .i64 (posI p (slL o)) ∧ h2 = h) := by
  apply z4p
  (repeat simp -dsimp -implicitDefEqProofs (disch := omega) only [↓rP, rQ, rO, rL, ↓reduceIte, Nat.reduceEqDiff, Nat.reduceAdd, Nat.reduceLeDiff, z01, z05])
  refine z1c z0l (by kernel_rfl) (fun m fr hh => ∃ k : Nat, k ≤ (slL o).length ∧ m = (slL o).length - k ∧ (∀ j x, j < k → (slL o)[j]? = some x → p x = false) ∧ hh = h ∧ fr = frOf [(0, slAV 3 z0h.cells o), (1, f), (7, .int .i64 (slL o).length), (8, .int .i64 k)]) (slL o).length ⟨0, by omega, by omega, fun j x hj => by omega, rfl, rfl⟩ ?_
  rintro m fr hh ⟨k, hk, rfl, hfa, rfl, rfl⟩
  apply z3t
  generalize hI : (fun (m : Nat) (fr : Fr) (hh : z04) => _) = I
  (repeat simp -dsimp -implicitDefEqProofs (disch := omega) only [↓rP, rQ, rO, rL, ↓reduceIte, Nat.reduceEqDiff, Nat.reduceAdd, Nat.reduceLeDiff, z01, z05])
  refine z0e (fun hkl => ?_) (fun hkl => ?_)
  · obtain ⟨x, hx⟩ : ∃ x, (slL o)[k]? = some x := ⟨_, List.getElem?_eq_getElem (by omega)⟩
    have hl3 : (z0h.cells x).length = 3 := rfl
    have hc : (List.take 3 (z0h.cells x)) = x.cells := rfl
    (repeat simp -dsimp -implicitDefEqProofs (disch := omega) only [↓rP, rQ, rO, rL, ↓reduceIte, Nat.reduceEqDiff, Nat.reduceAdd, Nat.reduceLeDiff, z01, z05, z0k hx, hl3, hc])
    refine hf x (List.mem_of_getElem? hx) _ ?_
    cases hp : p x with
    | true =>
      (repeat simp -dsimp -implicitDefEqProofs (disch := omega) only [↓rP, rQ, rO, rL, ↓reduceIte, Nat.reduceEqDiff, Nat.reduceAdd, Nat.reduceLeDiff, z01, z05])
      rw [posI_here hx hp hfa]
    | false =>
      (repeat simp -dsimp -implicitDefEqProofs (disch := omega) only [↓rP, rQ, rO, rL, ↓reduceIte, Nat.reduceEqDiff, Nat.reduceAdd, Nat.reduceLeDiff, z01, z05])
      rw [z0a, ← hI]
      refine ⟨_, ?_, k + 1, by omega, rfl, fun j y hj hy => ?_, rfl, rfl⟩
      · omega
      · by_cases e : j = k
        · subst e; rw [hx] at hy; cases hy; exact hp
        · exact hfa j y (by omega) hy
  · have hke : k = (slL o).length := by omega
    subst hke
    (repeat simp -dsimp -implicitDefEqProofs (disch := omega) only [↓rP, rQ, rO, rL, ↓reduceIte, Nat.reduceEqDiff, Nat.reduceAdd, Nat.reduceLeDiff, z01, z05])
    rw [posI_none hfa]
theorem z1z (c : Cd) (hc : c.ok) (hl : (slL c.Sections).length ≤ 1000000) (t a : Int) (h : z04) : z03 Tryd.prog 69 [.agg c.cells, .int .i64 t, .int .i64 a] h (fun v h2 => v = .int .i64 (insI c t a) ∧ h2 = h) := by
  apply code_Inside_wp
  unfold z0i.cells
  (repeat simp -dsimp -implicitDefEqProofs (disch := omega) only [↓rP, rQ, rO, rL, ↓reduceIte, Nat.reduceEqDiff, Nat.reduceAdd, Nat.reduceLeDiff, z01, z05])
  refine ixf_Section_does c.Sections hl (secP t a) _ h fun s hs R hR => ?_
  simp only [pCallF, List.nil_append, List.append_nil, List.singleton_append, List.cons_append]
  apply code_Inside_1_wp
  unfold z0h.cells
  unfold secP at hR
  repeat' (first | (simp -dsimp -implicitDefEqProofs (disch := omega) only [↓rP, rQ, rO, rL, ↓reduceIte, Nat.reduceEqDiff, Nat.reduceAdd, Nat.reduceLeDiff, z01, z05]) | refine Cut.go ?_ | refine z10 (fun _ => ?_) (fun _ => ?_) | refine z11 (fun _ => ?_) (fun _ => ?_) | refine z0e (fun _ => ?_) (fun _ => ?_) | refine z13 (fun _ => ?_) (fun _ => ?_) | refine Split.intro (fun _ => ?_) (fun _ => ?_))
  all_goals (refine Eq.mp (congrArg (fun b => R (AV.bool b) h) ?_) hR; simp [*]; try omega)
theorem code_local_does (c : Cd) (l : Lo) (h : z04) : z03 Tryd.prog 61 [.agg c.cells, .agg l.cells] h (fun v h2 => v = .bool (z19 c l) ∧ h2 = h) := by
  apply code_local_wp
  unfold z0i.cells z0d.cells z19
  (repeat simp -dsimp -implicitDefEqProofs (disch := omega) only [↓rP, rQ, rO, rL, ↓reduceIte, Nat.reduceEqDiff, Nat.reduceAdd, Nat.reduceLeDiff, z01, z05])
  refine z10 (fun h4 => ?_) (fun h4 => ?_)
  · (repeat simp -dsimp -implicitDefEqProofs (disch := omega) only [↓rP, rQ, rO, rL, ↓reduceIte, Nat.reduceEqDiff, Nat.reduceAdd, Nat.reduceLeDiff, z01, z05])
    rw [if_pos h4]
    exact z1d _ _ _
  · rw [if_neg h4]
    repeat' (first | (simp -dsimp -implicitDefEqProofs (disch := omega) only [↓rP, rQ, rO, rL, ↓reduceIte, Nat.reduceEqDiff, Nat.reduceAdd, Nat.reduceLeDiff, z01, z05]) | refine Cut.go ?_ | refine z10 (fun _ => ?_) (fun _ => ?_) | refine z11 (fun _ => ?_) (fun _ => ?_) | refine z0e (fun _ => ?_) (fun _ => ?_) | refine z13 (fun _ => ?_) (fun _ => ?_) | refine Split.intro (fun _ => ?_) (fun _ => ?_))
    all_goals (simp [beqI, *]; try omega)
theorem code_cells_does (c : Cd) (o : Option (List Lo)) (hl : (slL o).length ≤ 1000000) (most : Int) (h : z04) : z03 Tryd.prog 45 [.agg c.cells, slAV 3 z0d.cells o, .int .i64 most] h (fun v h2 => v = .bool (cellsB c (slL o) most) ∧ h2 = h) := by
  apply code_cells_wp
  unfold cellsB
  (repeat simp -dsimp -implicitDefEqProofs (disch := omega) only [↓rP, rQ, rO, rL, ↓reduceIte, Nat.reduceEqDiff, Nat.reduceAdd, Nat.reduceLeDiff, z01, z05, ↓tyr])
  refine z13 (fun h4 => ?_) (fun h4 => ?_)
  · (repeat simp -dsimp -implicitDefEqProofs (disch := omega) only [↓rP, rQ, rO, rL, ↓reduceIte, Nat.reduceEqDiff, Nat.reduceAdd, Nat.reduceLeDiff, z01, z05, ↓tyr])
    apply z2k
    refine (ixf_Local_does o hl (fun x => x.Once || !z19 c x) _ h fun x hx R hR => ?_).mono ?_
    · simp only [pCallF, List.nil_append, List.append_nil, List.singleton_append, List.cons_append]
      apply code_cells_1_wp
      (repeat simp -dsimp -implicitDefEqProofs (disch := omega) only [↓rP, rQ, rO, rL, ↓reduceIte, Nat.reduceEqDiff, Nat.reduceAdd, Nat.reduceLeDiff, z01, z05, ↓tyr])
      refine Split.intro (fun e => ?_) (fun e => ?_)
      · rw [e, Bool.true_or] at hR
        (repeat simp -dsimp -implicitDefEqProofs (disch := omega) only [↓rP, rQ, rO, rL, ↓reduceIte, Nat.reduceEqDiff, Nat.reduceAdd, Nat.reduceLeDiff, z01, z05, ↓tyr, e])
        exact hR
      · rw [e, Bool.false_or] at hR
        (repeat simp -dsimp -implicitDefEqProofs (disch := omega) only [↓rP, rQ, rO, rL, ↓reduceIte, Nat.reduceEqDiff, Nat.reduceAdd, Nat.reduceLeDiff, z01, z05, ↓tyr, e])
        refine (code_local_does c x h).mono ?_
        rintro _ _ ⟨rfl, rfl⟩
        (repeat simp -dsimp -implicitDefEqProofs (disch := omega) only [↓rP, rQ, rO, rL, ↓reduceIte, Nat.reduceEqDiff, Nat.reduceAdd, Nat.reduceLeDiff, z01, z05, ↓tyr, e])
        exact hR
    · rintro _ _ ⟨rfl, rfl⟩
      have e1 : (slL o).any (fun x => x.Once || !z19 c x) = !(slL o).all (fun x => !x.Once && z19 c x) := by
        rw [List.not_all_eq_any_not]; congr 1; funext x; simp
      have e2 := posI_neg (p := fun x => x.Once || !z19 c x) (l := slL o)
      rw [e1] at e2
      have e3 : decide (0 ≤ posI (fun x => x.Once || !z19 c x) (slL o)) = !(slL o).all (fun x => !x.Once && z19 c x) := by
        cases hb : (slL o).all (fun x => !x.Once && z19 c x) with
        | true => rw [hb] at e2; simp at e2 ⊢; omega
        | false => rw [hb] at e2; simp at e2 ⊢; omega
      (repeat simp -dsimp -implicitDefEqProofs (disch := omega) only [↓rP, rQ, rO, rL, ↓reduceIte, Nat.reduceEqDiff, Nat.reduceAdd, Nat.reduceLeDiff, z01, z05, ↓tyr, e3])
      try simp [h4]
  · (repeat simp -dsimp -implicitDefEqProofs (disch := omega) only [↓rP, rQ, rO, rL, ↓reduceIte, Nat.reduceEqDiff, Nat.reduceAdd, Nat.reduceLeDiff, z01, z05, ↓tyr])
    all_goals (have : ¬ (((slL o).length : Int) ≤ most) := by omega)
    all_goals simp [this]
theorem ixI {α : Type} {sz : Nat} {enc : α → List AV} {o : Option (List α)} {n : Int} {x : α} (hx : getI (slL o) n = some x) (kk : IntKind) (K : AV → Prop) : z06 (.slice sz) (slAV sz enc o) (.int kk n) K = K (.iptr (enc x)) := by
  obtain ⟨k, rfl, hk⟩ := getI_nat hx
  exact z0k hk kk K
theorem code_same_does (a b : Lo) (h : z04) : z03 Tryd.prog 86 [.agg a.cells, .agg b.cells] h (fun v h2 => v = .bool (sameB a b) ∧ h2 = h) := by
  apply code_same_wp
  unfold sameB
  repeat' (first | (simp -dsimp -implicitDefEqProofs (disch := omega) only [↓rP, rQ, rO, rL, ↓reduceIte, Nat.reduceEqDiff, Nat.reduceAdd, Nat.reduceLeDiff, z01, z05, ↓tyr]) | refine Cut.go ?_ | refine z10 (fun _ => ?_) (fun _ => ?_) | refine z11 (fun _ => ?_) (fun _ => ?_) | refine z0e (fun _ => ?_) (fun _ => ?_) | refine z13 (fun _ => ?_) (fun _ => ?_) | refine Split.intro (fun _ => ?_) (fun _ => ?_))
  all_goals (simp [beqI, *]; try omega)
def slotV (b : Bd) (n : Int) : Lo := (getI (slL b.Slots) n).getD ⟨0, 0, false⟩
theorem code_maker_slot_does (m : z0f) (n : Int) (h : z04) : z03 Tryd.prog 70 [.agg m.cells, .int .i64 n] h (fun v h2 => v = .tup [.agg (slotV m.body n).cells, .bool (getI (slL m.body.Slots) n).isSome] ∧ Keeps h h2 (fun _ => False)) := by
  apply code_maker_slot_wp
  unfold slotV
  (repeat simp -dsimp -implicitDefEqProofs (disch := omega) only [↓rP, rQ, rO, rL, ↓reduceIte, Nat.reduceEqDiff, Nat.reduceAdd, Nat.reduceLeDiff, z01, z05, ↓tyr])
  refine (z1d _ _ _).mono ?_
  rintro _ _ ⟨rfl, rfl⟩
  (repeat simp -dsimp -implicitDefEqProofs (disch := omega) only [↓rP, rQ, rO, rL, ↓reduceIte, Nat.reduceEqDiff, Nat.reduceAdd, Nat.reduceLeDiff, z01, z05, ↓tyr])
  cases hx : getI (slL m.body.Slots) n with
  | none =>
    have hb := z2n.2 hx
    (repeat simp -dsimp -implicitDefEqProofs (disch := omega) only [↓rP, rQ, rO, rL, ↓reduceIte, Nat.reduceEqDiff, Nat.reduceAdd, Nat.reduceLeDiff, z01, z05, ↓tyr, hb])
    rw [z1e (by rfl) (by rfl)]
    (repeat simp -dsimp -implicitDefEqProofs (disch := omega) only [↓rP, rQ, rO, rL, ↓reduceIte, Nat.reduceEqDiff, Nat.reduceAdd, Nat.reduceLeDiff, z01, z05, ↓tyr])
    exact ⟨rfl, Keeps.one _ _⟩
  | some x =>
    have hb := z1r.2 ⟨x, hx⟩
    (repeat simp -dsimp -implicitDefEqProofs (disch := omega) only [↓rP, rQ, rO, rL, ↓reduceIte, Nat.reduceEqDiff, Nat.reduceAdd, Nat.reduceLeDiff, z01, z05, ↓tyr, hb, ixI hx])
    exact ⟨rfl, Keeps.one _ _⟩
theorem z1t (m : z0f) (n : Int) (want : Lo) (h : z04) : z03 Tryd.prog 81 [.agg m.cells, .int .i64 n, .agg want.cells] h (fun v h2 => v = .bool (isB m.body n want) ∧ Keeps h h2 (fun _ => False)) := by
  apply code_maker_is_wp
  unfold isB
  (repeat simp -dsimp -implicitDefEqProofs (disch := omega) only [↓rP, rQ, rO, rL, ↓reduceIte, Nat.reduceEqDiff, Nat.reduceAdd, Nat.reduceLeDiff, z01, z05, ↓tyr])
  refine (code_maker_slot_does m n _).mono ?_
  rintro _ _ ⟨rfl, _⟩
  (repeat simp -dsimp -implicitDefEqProofs (disch := omega) only [↓rP, rQ, rO, rL, ↓reduceIte, Nat.reduceEqDiff, Nat.reduceAdd, Nat.reduceLeDiff, z01, z05, ↓tyr])
  unfold slotV
  cases hx : getI (slL m.body.Slots) n with
  | none =>
    simp only [Option.getD_none, Option.isSome_none]
    (repeat simp -dsimp -implicitDefEqProofs (disch := omega) only [↓rP, rQ, rO, rL, ↓reduceIte, Nat.reduceEqDiff, Nat.reduceAdd, Nat.reduceLeDiff, z01, z05, ↓tyr])
    (repeat (first | assumption | with_reducible exact Keeps.refl _ _ | with_reducible refine Keeps.go ?_ (Keeps.one _ _) | with_reducible refine Keeps.go ?_ (by assumption)))
  | some x =>
    simp only [Option.getD_some, Option.isSome_some]
    (repeat simp -dsimp -implicitDefEqProofs (disch := omega) only [↓rP, rQ, rO, rL, ↓reduceIte, Nat.reduceEqDiff, Nat.reduceAdd, Nat.reduceLeDiff, z01, z05, ↓tyr])
    refine (code_same_does x want _).mono ?_
    rintro _ _ ⟨rfl, rfl⟩
    (repeat simp -dsimp -implicitDefEqProofs (disch := omega) only [↓rP, rQ, rO, rL, ↓reduceIte, Nat.reduceEqDiff, Nat.reduceAdd, Nat.reduceLeDiff, z01, z05, ↓tyr])
    (repeat (first | assumption | with_reducible exact Keeps.refl _ _ | with_reducible refine Keeps.go ?_ (Keeps.one _ _) | with_reducible refine Keeps.go ?_ (by assumption)))
theorem z1i (m : z0f) (hm : m.ok) (o : Option (List It)) (ho : okSl z0j.ok o) (h : z04) : z03 Tryd.prog 72 [.agg m.cells, slAV 3 z0j.cells o] h (fun v h2 => v = .bool (z2h m.body o) ∧ Keeps h h2 (fun _ => False)) := by
  apply code_maker_good_wp
  (repeat simp -dsimp -implicitDefEqProofs (disch := omega) only [↓rP, rQ, rO, rL, ↓reduceIte, Nat.reduceEqDiff, Nat.reduceAdd, Nat.reduceLeDiff, z01, z05, ↓tyr])
  have := hm.2.2.1.1
  unfold maxLen at this
  exact calc_Good_does _ (by unfold okI; omega) o ho h
def fieldV (c : Cd) (b : Bd) (x : In) : Lo := (fieldO c b x).getD ⟨0, 0, false⟩
theorem code_maker_field_does (m : z0f) (x : In) (h : z04) : z03 Tryd.prog 82 [.agg m.cells, .agg x.cells] h (fun v h2 => v = .tup [.agg (fieldV m.Code m.body x).cells, .bool (fieldO m.Code m.body x).isSome] ∧ Keeps h h2 (fun _ => False)) := by
  apply code_maker_field_wp
  (repeat simp -dsimp -implicitDefEqProofs (disch := omega) only [↓rP, rQ, rO, rL, ↓reduceIte, Nat.reduceEqDiff, Nat.reduceAdd, Nat.reduceLeDiff, z01, z05, ↓tyr])
  refine (z1d _ _ _).mono ?_
  rintro _ _ ⟨rfl, rfl⟩
  (repeat simp -dsimp -implicitDefEqProofs (disch := omega) only [↓rP, rQ, rO, rL, ↓reduceIte, Nat.reduceEqDiff, Nat.reduceAdd, Nat.reduceLeDiff, z01, z05, ↓tyr])
  cases hx : getI (slL m.Code.Records) x.Rec with
  | none =>
    have hb := z2n.2 hx
    have e : fieldO m.Code m.body x = none := by unfold fieldO; rw [hx]
    (repeat simp -dsimp -implicitDefEqProofs (disch := omega) only [↓rP, rQ, rO, rL, ↓reduceIte, Nat.reduceEqDiff, Nat.reduceAdd, Nat.reduceLeDiff, z01, z05, ↓tyr, hb])
    rw [z1e (by rfl) (by rfl)]
    (repeat simp -dsimp -implicitDefEqProofs (disch := omega) only [↓rP, rQ, rO, rL, ↓reduceIte, Nat.reduceEqDiff, Nat.reduceAdd, Nat.reduceLeDiff, z01, z05, ↓tyr])
    unfold fieldV
    rw [e]
    exact ⟨rfl, Keeps.one _ _⟩
  | some r =>
    have hb := z1r.2 ⟨r, hx⟩
    (repeat simp -dsimp -implicitDefEqProofs (disch := omega) only [↓rP, rQ, rO, rL, ↓reduceIte, Nat.reduceEqDiff, Nat.reduceAdd, Nat.reduceLeDiff, z01, z05, ↓tyr, hb, ixI hx])
    refine (z1d _ _ _).mono ?_
    rintro _ _ ⟨rfl, rfl⟩
    (repeat simp -dsimp -implicitDefEqProofs (disch := omega) only [↓rP, rQ, rO, rL, ↓reduceIte, Nat.reduceEqDiff, Nat.reduceAdd, Nat.reduceLeDiff, z01, z05, ↓tyr])
    cases hy : getI (slL r) x.N with
    | none =>
      have hc := z2n.2 hy
      have e : fieldO m.Code m.body x = none := by unfold fieldO; rw [hx]; simp only; rw [hy]
      (repeat simp -dsimp -implicitDefEqProofs (disch := omega) only [↓rP, rQ, rO, rL, ↓reduceIte, Nat.reduceEqDiff, Nat.reduceAdd, Nat.reduceLeDiff, z01, z05, ↓tyr, hb, hc, ixI hx])
      rw [z1e (by rfl) (by rfl)]
      (repeat simp -dsimp -implicitDefEqProofs (disch := omega) only [↓rP, rQ, rO, rL, ↓reduceIte, Nat.reduceEqDiff, Nat.reduceAdd, Nat.reduceLeDiff, z01, z05, ↓tyr])
      unfold fieldV
      rw [e]
      exact ⟨rfl, Keeps.one _ _⟩
    | some f =>
      have hc := z1r.2 ⟨f, hy⟩
      have e : fieldO m.Code m.body x = if isB m.body x.Src ⟨4, x.Rec, false⟩ then some f else none := by unfold fieldO; rw [hx]; simp only; rw [hy]
      (repeat simp -dsimp -implicitDefEqProofs (disch := omega) only [↓rP, rQ, rO, rL, ↓reduceIte, Nat.reduceEqDiff, Nat.reduceAdd, Nat.reduceLeDiff, z01, z05, ↓tyr, hb, hc, ixI hx])
      refine (z1t m x.Src ⟨4, x.Rec, false⟩ _).mono ?_
      rintro _ h1 ⟨rfl, k1⟩
      have ho : h1.objs h.next = some (.row 69 [.int .i64 0, .int .i64 0, .bool false]) := by
        rw [k1.objs _ (by simp) (by simp)]; simp
      have st : ∀ (l : Lo) (K : z04 → Prop), z0v 3 (.ptr h.next 0) (.agg l.cells) h1 K = K (h1.put h.next (.row 69 l.cells)) := fun l K => by
        simp [z0v, ho, z0d.cells]
      have st0 : ∀ (K : z04 → Prop), z0v 3 (.ptr h.next 0) (.agg [.int .i64 0, .int .i64 0, .bool false]) h1 K = K (h1.put h.next (.row 69 (z0d.cells ⟨0, 0, false⟩))) := st ⟨0, 0, false⟩
      have kp : ∀ l : Lo, Keeps h (h1.put h.next (.row 69 l.cells)) (fun _ => False) := fun l => by
        refine ⟨?_, fun i hi _ => ?_⟩
        · have := k1.next; simp at this ⊢; omega
        · simp only [z04.put_objs]
          rw [if_neg (by omega), k1.objs i (by simp; omega) (by simp)]
          simp; omega
      have ld : ∀ (l : Lo) (K : AV → Prop), z02 (some 3) (.ptr h.next 0) (h1.put h.next (.row 69 l.cells)) K = K (.agg l.cells) := fun l K => by
        rw [z0x (ty := 69) (cs := l.cells) (by simp)]; exact l.call K
      unfold fieldV
      rw [e]
      cases hi : isB m.body x.Src ⟨4, x.Rec, false⟩ with
      | false =>
        (repeat simp -dsimp -implicitDefEqProofs (disch := omega) only [↓rP, rQ, rO, rL, ↓reduceIte, Nat.reduceEqDiff, Nat.reduceAdd, Nat.reduceLeDiff, z01, z05, ↓tyr, hb, hc, ixI hx, ixI hy, hi, st0, ld])
        exact ⟨rfl, kp _⟩
      | true =>
        (repeat simp -dsimp -implicitDefEqProofs (disch := omega) only [↓rP, rQ, rO, rL, ↓reduceIte, Nat.reduceEqDiff, Nat.reduceAdd, Nat.reduceLeDiff, z01, z05, ↓tyr, hb, hc, ixI hx, ixI hy, hi, st, ld])
        exact ⟨rfl, kp _⟩
end Go.Proofs.YtopfjochppdnfaaDoor
end

section
/- What the program's functions of codes compute: plain instructions, sites. -/
set_option maxRecDepth 100000
set_option maxHeartbeats 1000000
namespace Go.Proofs.YtopfjochppdnfaaDoor
open Go.Abs
theorem plain_1001000 (x : In) (h : z04) : z03 Tryd.prog 71 [.agg x.cells, .bool true, .bool false, .bool false, .bool true, .bool false, .bool false, .bool false] h (fun v h2 => v = .bool (z14 x true false false true false false false) ∧ h2 = h) := by
  apply z1x
  unfold z14
  repeat' (first | (simp -dsimp -implicitDefEqProofs (disch := omega) only [↓rP, rQ, rO, rL, ↓reduceIte, Nat.reduceEqDiff, Nat.reduceAdd, Nat.reduceLeDiff, z01, z05, ↓tyr]) | refine Cut.go ?_ | refine z10 (fun _ => ?_) (fun _ => ?_) | refine z11 (fun _ => ?_) (fun _ => ?_) | refine z0e (fun _ => ?_) (fun _ => ?_) | refine z13 (fun _ => ?_) (fun _ => ?_) | refine Split.intro (fun _ => ?_) (fun _ => ?_))
  all_goals (simp [beqI, *, -Int.natCast_eq_zero, -List.length_eq_zero_iff]; try omega)
theorem plain_1111000 (x : In) (h : z04) : z03 Tryd.prog 71 [.agg x.cells, .bool true, .bool true, .bool true, .bool true, .bool false, .bool false, .bool false] h (fun v h2 => v = .bool (z14 x true true true true false false false) ∧ h2 = h) := by
  apply z1x
  unfold z14
  repeat' (first | (simp -dsimp -implicitDefEqProofs (disch := omega) only [↓rP, rQ, rO, rL, ↓reduceIte, Nat.reduceEqDiff, Nat.reduceAdd, Nat.reduceLeDiff, z01, z05, ↓tyr]) | refine Cut.go ?_ | refine z10 (fun _ => ?_) (fun _ => ?_) | refine z11 (fun _ => ?_) (fun _ => ?_) | refine z0e (fun _ => ?_) (fun _ => ?_) | refine z13 (fun _ => ?_) (fun _ => ?_) | refine Split.intro (fun _ => ?_) (fun _ => ?_))
  all_goals (simp [beqI, *, -Int.natCast_eq_zero, -List.length_eq_zero_iff]; try omega)
theorem plain_1100001 (x : In) (h : z04) : z03 Tryd.prog 71 [.agg x.cells, .bool true, .bool true, .bool false, .bool false, .bool false, .bool false, .bool true] h (fun v h2 => v = .bool (z14 x true true false false false false true) ∧ h2 = h) := by
  apply z1x
  unfold z14
  repeat' (first | (simp -dsimp -implicitDefEqProofs (disch := omega) only [↓rP, rQ, rO, rL, ↓reduceIte, Nat.reduceEqDiff, Nat.reduceAdd, Nat.reduceLeDiff, z01, z05, ↓tyr]) | refine Cut.go ?_ | refine z10 (fun _ => ?_) (fun _ => ?_) | refine z11 (fun _ => ?_) (fun _ => ?_) | refine z0e (fun _ => ?_) (fun _ => ?_) | refine z13 (fun _ => ?_) (fun _ => ?_) | refine Split.intro (fun _ => ?_) (fun _ => ?_))
  all_goals (simp [beqI, *, -Int.natCast_eq_zero, -List.length_eq_zero_iff]; try omega)
theorem plain_1100000 (x : In) (h : z04) : z03 Tryd.prog 71 [.agg x.cells, .bool true, .bool true, .bool false, .bool false, .bool false, .bool false, .bool false] h (fun v h2 => v = .bool (z14 x true true false false false false false) ∧ h2 = h) := by
  apply z1x
  unfold z14
  repeat' (first | (simp -dsimp -implicitDefEqProofs (disch := omega) only [↓rP, rQ, rO, rL, ↓reduceIte, Nat.reduceEqDiff, Nat.reduceAdd, Nat.reduceLeDiff, z01, z05, ↓tyr]) | refine Cut.go ?_ | refine z10 (fun _ => ?_) (fun _ => ?_) | refine z11 (fun _ => ?_) (fun _ => ?_) | refine z0e (fun _ => ?_) (fun _ => ?_) | refine z13 (fun _ => ?_) (fun _ => ?_) | refine Split.intro (fun _ => ?_) (fun _ => ?_))
  all_goals (simp [beqI, *, -Int.natCast_eq_zero, -List.length_eq_zero_iff]; try omega)
theorem plain_1011000 (x : In) (h : z04) : z03 Tryd.prog 71 [.agg x.cells, .bool true, .bool false, .bool true, .bool true, .bool false, .bool false, .bool false] h (fun v h2 => v = .bool (z14 x true false true true false false false) ∧ h2 = h) := by
  apply z1x
  unfold z14
  repeat' (first | (simp -dsimp -implicitDefEqProofs (disch := omega) only [↓rP, rQ, rO, rL, ↓reduceIte, Nat.reduceEqDiff, Nat.reduceAdd, Nat.reduceLeDiff, z01, z05, ↓tyr]) | refine Cut.go ?_ | refine z10 (fun _ => ?_) (fun _ => ?_) | refine z11 (fun _ => ?_) (fun _ => ?_) | refine z0e (fun _ => ?_) (fun _ => ?_) | refine z13 (fun _ => ?_) (fun _ => ?_) | refine Split.intro (fun _ => ?_) (fun _ => ?_))
  all_goals (simp [beqI, *, -Int.natCast_eq_zero, -List.length_eq_zero_iff]; try omega)
theorem plain_1001010 (x : In) (h : z04) : z03 Tryd.prog 71 [.agg x.cells, .bool true, .bool false, .bool false, .bool true, .bool false, .bool true, .bool false] h (fun v h2 => v = .bool (z14 x true false false true false true false) ∧ h2 = h) := by
  apply z1x
  unfold z14
  repeat' (first | (simp -dsimp -implicitDefEqProofs (disch := omega) only [↓rP, rQ, rO, rL, ↓reduceIte, Nat.reduceEqDiff, Nat.reduceAdd, Nat.reduceLeDiff, z01, z05, ↓tyr]) | refine Cut.go ?_ | refine z10 (fun _ => ?_) (fun _ => ?_) | refine z11 (fun _ => ?_) (fun _ => ?_) | refine z0e (fun _ => ?_) (fun _ => ?_) | refine z13 (fun _ => ?_) (fun _ => ?_) | refine Split.intro (fun _ => ?_) (fun _ => ?_))
  all_goals (simp [beqI, *, -Int.natCast_eq_zero, -List.length_eq_zero_iff]; try omega)
theorem plain_0001010 (x : In) (h : z04) : z03 Tryd.prog 71 [.agg x.cells, .bool false, .bool false, .bool false, .bool true, .bool false, .bool true, .bool false] h (fun v h2 => v = .bool (z14 x false false false true false true false) ∧ h2 = h) := by
  apply z1x
  unfold z14
  repeat' (first | (simp -dsimp -implicitDefEqProofs (disch := omega) only [↓rP, rQ, rO, rL, ↓reduceIte, Nat.reduceEqDiff, Nat.reduceAdd, Nat.reduceLeDiff, z01, z05, ↓tyr]) | refine Cut.go ?_ | refine z10 (fun _ => ?_) (fun _ => ?_) | refine z11 (fun _ => ?_) (fun _ => ?_) | refine z0e (fun _ => ?_) (fun _ => ?_) | refine z13 (fun _ => ?_) (fun _ => ?_) | refine Split.intro (fun _ => ?_) (fun _ => ?_))
  all_goals (simp [beqI, *, -Int.natCast_eq_zero, -List.length_eq_zero_iff]; try omega)
theorem plain_0111010 (x : In) (h : z04) : z03 Tryd.prog 71 [.agg x.cells, .bool false, .bool true, .bool true, .bool true, .bool false, .bool true, .bool false] h (fun v h2 => v = .bool (z14 x false true true true false true false) ∧ h2 = h) := by
  apply z1x
  unfold z14
  repeat' (first | (simp -dsimp -implicitDefEqProofs (disch := omega) only [↓rP, rQ, rO, rL, ↓reduceIte, Nat.reduceEqDiff, Nat.reduceAdd, Nat.reduceLeDiff, z01, z05, ↓tyr]) | refine Cut.go ?_ | refine z10 (fun _ => ?_) (fun _ => ?_) | refine z11 (fun _ => ?_) (fun _ => ?_) | refine z0e (fun _ => ?_) (fun _ => ?_) | refine z13 (fun _ => ?_) (fun _ => ?_) | refine Split.intro (fun _ => ?_) (fun _ => ?_))
  all_goals (simp [beqI, *, -Int.natCast_eq_zero, -List.length_eq_zero_iff]; try omega)
theorem plain_0100011 (x : In) (h : z04) : z03 Tryd.prog 71 [.agg x.cells, .bool false, .bool true, .bool false, .bool false, .bool false, .bool true, .bool true] h (fun v h2 => v = .bool (z14 x false true false false false true true) ∧ h2 = h) := by
  apply z1x
  unfold z14
  repeat' (first | (simp -dsimp -implicitDefEqProofs (disch := omega) only [↓rP, rQ, rO, rL, ↓reduceIte, Nat.reduceEqDiff, Nat.reduceAdd, Nat.reduceLeDiff, z01, z05, ↓tyr]) | refine Cut.go ?_ | refine z10 (fun _ => ?_) (fun _ => ?_) | refine z11 (fun _ => ?_) (fun _ => ?_) | refine z0e (fun _ => ?_) (fun _ => ?_) | refine z13 (fun _ => ?_) (fun _ => ?_) | refine Split.intro (fun _ => ?_) (fun _ => ?_))
  all_goals (simp [beqI, *, -Int.natCast_eq_zero, -List.length_eq_zero_iff]; try omega)
theorem plain_0001000 (x : In) (h : z04) : z03 Tryd.prog 71 [.agg x.cells, .bool false, .bool false, .bool false, .bool true, .bool false, .bool false, .bool false] h (fun v h2 => v = .bool (z14 x false false false true false false false) ∧ h2 = h) := by
  apply z1x
  unfold z14
  repeat' (first | (simp -dsimp -implicitDefEqProofs (disch := omega) only [↓rP, rQ, rO, rL, ↓reduceIte, Nat.reduceEqDiff, Nat.reduceAdd, Nat.reduceLeDiff, z01, z05, ↓tyr]) | refine Cut.go ?_ | refine z10 (fun _ => ?_) (fun _ => ?_) | refine z11 (fun _ => ?_) (fun _ => ?_) | refine z0e (fun _ => ?_) (fun _ => ?_) | refine z13 (fun _ => ?_) (fun _ => ?_) | refine Split.intro (fun _ => ?_) (fun _ => ?_))
  all_goals (simp [beqI, *, -Int.natCast_eq_zero, -List.length_eq_zero_iff]; try omega)
theorem plain_1000010 (x : In) (h : z04) : z03 Tryd.prog 71 [.agg x.cells, .bool true, .bool false, .bool false, .bool false, .bool false, .bool true, .bool false] h (fun v h2 => v = .bool (z14 x true false false false false true false) ∧ h2 = h) := by
  apply z1x
  unfold z14
  repeat' (first | (simp -dsimp -implicitDefEqProofs (disch := omega) only [↓rP, rQ, rO, rL, ↓reduceIte, Nat.reduceEqDiff, Nat.reduceAdd, Nat.reduceLeDiff, z01, z05, ↓tyr]) | refine Cut.go ?_ | refine z10 (fun _ => ?_) (fun _ => ?_) | refine z11 (fun _ => ?_) (fun _ => ?_) | refine z0e (fun _ => ?_) (fun _ => ?_) | refine z13 (fun _ => ?_) (fun _ => ?_) | refine Split.intro (fun _ => ?_) (fun _ => ?_))
  all_goals (simp [beqI, *, -Int.natCast_eq_zero, -List.length_eq_zero_iff]; try omega)
theorem plain_0000010 (x : In) (h : z04) : z03 Tryd.prog 71 [.agg x.cells, .bool false, .bool false, .bool false, .bool false, .bool false, .bool true, .bool false] h (fun v h2 => v = .bool (z14 x false false false false false true false) ∧ h2 = h) := by
  apply z1x
  unfold z14
  repeat' (first | (simp -dsimp -implicitDefEqProofs (disch := omega) only [↓rP, rQ, rO, rL, ↓reduceIte, Nat.reduceEqDiff, Nat.reduceAdd, Nat.reduceLeDiff, z01, z05, ↓tyr]) | refine Cut.go ?_ | refine z10 (fun _ => ?_) (fun _ => ?_) | refine z11 (fun _ => ?_) (fun _ => ?_) | refine z0e (fun _ => ?_) (fun _ => ?_) | refine z13 (fun _ => ?_) (fun _ => ?_) | refine Split.intro (fun _ => ?_) (fun _ => ?_))
  all_goals (simp [beqI, *, -Int.natCast_eq_zero, -List.length_eq_zero_iff]; try omega)
theorem plain_0000100 (x : In) (h : z04) : z03 Tryd.prog 71 [.agg x.cells, .bool false, .bool false, .bool false, .bool false, .bool true, .bool false, .bool false] h (fun v h2 => v = .bool (z14 x false false false false true false false) ∧ h2 = h) := by
  apply z1x
  unfold z14
  repeat' (first | (simp -dsimp -implicitDefEqProofs (disch := omega) only [↓rP, rQ, rO, rL, ↓reduceIte, Nat.reduceEqDiff, Nat.reduceAdd, Nat.reduceLeDiff, z01, z05, ↓tyr]) | refine Cut.go ?_ | refine z10 (fun _ => ?_) (fun _ => ?_) | refine z11 (fun _ => ?_) (fun _ => ?_) | refine z0e (fun _ => ?_) (fun _ => ?_) | refine z13 (fun _ => ?_) (fun _ => ?_) | refine Split.intro (fun _ => ?_) (fun _ => ?_))
  all_goals (simp [beqI, *, -Int.natCast_eq_zero, -List.length_eq_zero_iff]; try omega)
theorem plain_0000110 (x : In) (h : z04) : z03 Tryd.prog 71 [.agg x.cells, .bool false, .bool false, .bool false, .bool false, .bool true, .bool true, .bool false] h (fun v h2 => v = .bool (z14 x false false false false true true false) ∧ h2 = h) := by
  apply z1x
  unfold z14
  repeat' (first | (simp -dsimp -implicitDefEqProofs (disch := omega) only [↓rP, rQ, rO, rL, ↓reduceIte, Nat.reduceEqDiff, Nat.reduceAdd, Nat.reduceLeDiff, z01, z05, ↓tyr]) | refine Cut.go ?_ | refine z10 (fun _ => ?_) (fun _ => ?_) | refine z11 (fun _ => ?_) (fun _ => ?_) | refine z0e (fun _ => ?_) (fun _ => ?_) | refine z13 (fun _ => ?_) (fun _ => ?_) | refine Split.intro (fun _ => ?_) (fun _ => ?_))
  all_goals (simp [beqI, *, -Int.natCast_eq_zero, -List.length_eq_zero_iff]; try omega)
theorem plain_0000000 (x : In) (h : z04) : z03 Tryd.prog 71 [.agg x.cells, .bool false, .bool false, .bool false, .bool false, .bool false, .bool false, .bool false] h (fun v h2 => v = .bool (z14 x false false false false false false false) ∧ h2 = h) := by
  apply z1x
  unfold z14
  repeat' (first | (simp -dsimp -implicitDefEqProofs (disch := omega) only [↓rP, rQ, rO, rL, ↓reduceIte, Nat.reduceEqDiff, Nat.reduceAdd, Nat.reduceLeDiff, z01, z05, ↓tyr]) | refine Cut.go ?_ | refine z10 (fun _ => ?_) (fun _ => ?_) | refine z11 (fun _ => ?_) (fun _ => ?_) | refine z0e (fun _ => ?_) (fun _ => ?_) | refine z13 (fun _ => ?_) (fun _ => ?_) | refine Split.intro (fun _ => ?_) (fun _ => ?_))
  all_goals (simp [beqI, *, -Int.natCast_eq_zero, -List.length_eq_zero_iff]; try omega)
theorem site_eq (a b : z0z) : binA (CmpK.flat [LK.int, LK.int, LK.int]) BinOp.eql (.agg a.cells) (.agg b.cells) = some (.bool (decide (a = b))) := by
  obtain ⟨a1, a2, a3⟩ := a
  obtain ⟨b1, b2, b3⟩ := b
  simp only [binA, binCmp, z0z.cells, eqCells, eqn]
  simp only [if_true, Option.map_some, Option.bind_some]
  congr 2
  rw [Bool.eq_iff_iff]
  simp
theorem code_maker_site_does (m : z0f) (x : In) (a rec : Int) (h : z04) : z03 Tryd.prog 83 [.agg m.cells, .agg x.cells, .int .i64 a, .int .i64 rec] h (fun v h2 => v = .bool (siteB m.Code m.thread x a rec) ∧ h2 = h) := by
  apply code_maker_site_wp
  unfold siteB
  (repeat simp -dsimp -implicitDefEqProofs (disch := omega) only [↓rP, rQ, rO, rL, ↓reduceIte, Nat.reduceEqDiff, Nat.reduceAdd, Nat.reduceLeDiff, z01, z05, ↓tyr])
  refine (z1d _ _ _).mono ?_
  rintro _ _ ⟨rfl, rfl⟩
  (repeat simp -dsimp -implicitDefEqProofs (disch := omega) only [↓rP, rQ, rO, rL, ↓reduceIte, Nat.reduceEqDiff, Nat.reduceAdd, Nat.reduceLeDiff, z01, z05, ↓tyr])
  cases hx : getI (slL m.Code.Sites) x.N with
  | none =>
    have hb := z2n.2 hx
    (repeat simp -dsimp -implicitDefEqProofs (disch := omega) only [↓rP, rQ, rO, rL, ↓reduceIte, Nat.reduceEqDiff, Nat.reduceAdd, Nat.reduceLeDiff, z01, z05, ↓tyr, hb])
    simp
  | some r =>
    have hb := z1r.2 ⟨r, hx⟩
    have hbc : binA (CmpK.flat [LK.int, LK.int, LK.int]) BinOp.eql (.agg r.cells) (.agg [.int .i64 m.thread, .int .i64 a, .int .i64 rec]) = some (.bool (decide (r = ⟨m.thread, a, rec⟩))) := site_eq r ⟨m.thread, a, rec⟩
    (repeat simp -dsimp -implicitDefEqProofs (disch := omega) only [↓rP, rQ, rO, rL, ↓reduceIte, Nat.reduceEqDiff, Nat.reduceAdd, Nat.reduceLeDiff, z01, z05, ↓tyr, hb, ixI hx, hbc])
    simp
theorem z15 (op : Int) (h : z04) : z03 Tryd.prog 68 [.int .i64 op] h (fun v h2 => v = .bool (decide (2 ≤ op) && decide (op ≤ 9)) ∧ h2 = h) := by
  apply code_shared_wp
  repeat' (first | (simp -dsimp -implicitDefEqProofs (disch := omega) only [↓rP, rQ, rO, rL, ↓reduceIte, Nat.reduceEqDiff, Nat.reduceAdd, Nat.reduceLeDiff, z01, z05, ↓tyr]) | refine Cut.go ?_ | refine z10 (fun _ => ?_) (fun _ => ?_) | refine z11 (fun _ => ?_) (fun _ => ?_) | refine z0e (fun _ => ?_) (fun _ => ?_) | refine z13 (fun _ => ?_) (fun _ => ?_) | refine Split.intro (fun _ => ?_) (fun _ => ?_))
  all_goals (simp [beqI, *, -Int.natCast_eq_zero, -List.length_eq_zero_iff]; try omega)
theorem code_maker_goes_does (m : z0f) (hm : m.ok) (hs : (slL m.Code.Sections).length ≤ 1000000) (a to : Int) (h : z04) : z03 Tryd.prog 75 [.agg m.cells, .int .i64 a, .int .i64 to] h (fun v h2 => v = .bool (goesB m.Code m.thread m.body a to) ∧ h2 = h) := by
  apply code_maker_goes_wp
  unfold goesB
  (repeat simp -dsimp -implicitDefEqProofs (disch := omega) only [↓rP, rQ, rO, rL, ↓reduceIte, Nat.reduceEqDiff, Nat.reduceAdd, Nat.reduceLeDiff, z01, z05, ↓tyr])
  refine (z1d _ _ _).mono ?_
  rintro _ _ ⟨rfl, rfl⟩
  (repeat simp -dsimp -implicitDefEqProofs (disch := omega) only [↓rP, rQ, rO, rL, ↓reduceIte, Nat.reduceEqDiff, Nat.reduceAdd, Nat.reduceLeDiff, z01, z05, ↓tyr])
  refine Split.intro (fun e => ?_) (fun e => ?_)
  · (repeat simp -dsimp -implicitDefEqProofs (disch := omega) only [↓rP, rQ, rO, rL, ↓reduceIte, Nat.reduceEqDiff, Nat.reduceAdd, Nat.reduceLeDiff, z01, z05, ↓tyr])
    have e2 : btw to (slL m.body.Code).length = false := by simpa using e
    simp [e2]
  · have e2 : btw to (slL m.body.Code).length = true := by simpa using e
    (repeat simp -dsimp -implicitDefEqProofs (disch := omega) only [↓rP, rQ, rO, rL, ↓reduceIte, Nat.reduceEqDiff, Nat.reduceAdd, Nat.reduceLeDiff, z01, z05, ↓tyr])
    refine (z1z m.Code hm.1 hs m.thread a _).mono ?_
    rintro _ _ ⟨rfl, rfl⟩
    (repeat simp -dsimp -implicitDefEqProofs (disch := omega) only [↓rP, rQ, rO, rL, ↓reduceIte, Nat.reduceEqDiff, Nat.reduceAdd, Nat.reduceLeDiff, z01, z05, ↓tyr])
    refine (z1z m.Code hm.1 hs m.thread to _).mono ?_
    rintro _ _ ⟨rfl, rfl⟩
    (repeat simp -dsimp -implicitDefEqProofs (disch := omega) only [↓rP, rQ, rO, rL, ↓reduceIte, Nat.reduceEqDiff, Nat.reduceAdd, Nat.reduceLeDiff, z01, z05, ↓tyr])
    simp [e2, beqI]
theorem code_maker_border_does (m : z0f) (x : In) (a : Int) (h : z04) : z03 Tryd.prog 76 [.agg m.cells, .agg x.cells, .int .i64 a] h (fun v h2 => v = .bool (z3r m.Code m.thread x a) ∧ Keeps h h2 (fun _ => False)) := by
  apply code_maker_border_wp
  unfold z3r
  (repeat simp -dsimp -implicitDefEqProofs (disch := omega) only [↓rP, rQ, rO, rL, ↓reduceIte, Nat.reduceEqDiff, Nat.reduceAdd, Nat.reduceLeDiff, z01, z05, ↓tyr])
  refine (plain_0001000 x _).mono ?_
  rintro _ _ ⟨rfl, rfl⟩
  (repeat simp -dsimp -implicitDefEqProofs (disch := omega) only [↓rP, rQ, rO, rL, ↓reduceIte, Nat.reduceEqDiff, Nat.reduceAdd, Nat.reduceLeDiff, z01, z05, ↓tyr])
  cases hp : z14 x false false false true false false false with
  | false =>
    (repeat simp -dsimp -implicitDefEqProofs (disch := omega) only [↓rP, rQ, rO, rL, ↓reduceIte, Nat.reduceEqDiff, Nat.reduceAdd, Nat.reduceLeDiff, z01, z05, ↓tyr])
    (first | (refine And.intro (by simp) ?_; (repeat (first | assumption | with_reducible exact Keeps.refl _ _ | with_reducible refine Keeps.go ?_ (Keeps.one _ _) | with_reducible refine Keeps.go ?_ (by assumption)))) | (repeat (first | assumption | with_reducible exact Keeps.refl _ _ | with_reducible refine Keeps.go ?_ (Keeps.one _ _) | with_reducible refine Keeps.go ?_ (by assumption))))
  | true =>
    (repeat simp -dsimp -implicitDefEqProofs (disch := omega) only [↓rP, rQ, rO, rL, ↓reduceIte, Nat.reduceEqDiff, Nat.reduceAdd, Nat.reduceLeDiff, z01, z05, ↓tyr])
    refine (z1d _ _ _).mono ?_
    rintro _ _ ⟨rfl, rfl⟩
    (repeat simp -dsimp -implicitDefEqProofs (disch := omega) only [↓rP, rQ, rO, rL, ↓reduceIte, Nat.reduceEqDiff, Nat.reduceAdd, Nat.reduceLeDiff, z01, z05, ↓tyr])
    cases hx : getI (slL m.Code.Sections) x.N with
    | none =>
      have hb := z2n.2 hx
      (repeat simp -dsimp -implicitDefEqProofs (disch := omega) only [↓rP, rQ, rO, rL, ↓reduceIte, Nat.reduceEqDiff, Nat.reduceAdd, Nat.reduceLeDiff, z01, z05, ↓tyr, hb])
      (first | (refine And.intro (by simp) ?_; (repeat (first | assumption | with_reducible exact Keeps.refl _ _ | with_reducible refine Keeps.go ?_ (Keeps.one _ _) | with_reducible refine Keeps.go ?_ (by assumption)))) | (repeat (first | assumption | with_reducible exact Keeps.refl _ _ | with_reducible refine Keeps.go ?_ (Keeps.one _ _) | with_reducible refine Keeps.go ?_ (by assumption))))
    | some s =>
      have hb := z1r.2 ⟨s, hx⟩
      repeat' (first | (simp -dsimp -implicitDefEqProofs (disch := omega) only [↓rP, rQ, rO, rL, ↓reduceIte, Nat.reduceEqDiff, Nat.reduceAdd, Nat.reduceLeDiff, z01, z05, ↓tyr, hb, ixI hx]) | refine Cut.go ?_ | refine z10 (fun _ => ?_) (fun _ => ?_) | refine z11 (fun _ => ?_) (fun _ => ?_) | refine z0e (fun _ => ?_) (fun _ => ?_) | refine z13 (fun _ => ?_) (fun _ => ?_) | refine Split.intro (fun _ => ?_) (fun _ => ?_))
      all_goals refine ⟨by simp [beqI, *], ?_⟩
      all_goals (repeat (first | assumption | with_reducible exact Keeps.refl _ _ | with_reducible refine Keeps.go ?_ (Keeps.one _ _) | with_reducible refine Keeps.go ?_ (by assumption)))
end Go.Proofs.YtopfjochppdnfaaDoor
end

section
/- What the program's functions of codes compute: what loads and what stores. -/
set_option maxRecDepth 100000
set_option maxHeartbeats 1000000
namespace Go.Proofs.YtopfjochppdnfaaDoor
open Go.Abs
theorem z2e (m : z0f) (hm : m.ok) (x : In) (hx : x.ok) (a : Int) (h : z04) : z03 Tryd.prog 73 [.agg m.cells, .agg x.cells, .int .i64 a] h (fun v h2 => v = .bool (z3s m.Code m.thread m.body x a) ∧ Keeps h h2 (fun _ => False)) := by
  obtain ⟨-, -, -, -, -, -, hit, hix⟩ := hx
  apply code_maker_loads_wp
  unfold z3s
  (repeat simp -dsimp -implicitDefEqProofs (disch := omega) only [↓rP, rQ, rO, rL, ↓reduceIte, Nat.reduceEqDiff, Nat.reduceAdd, Nat.reduceLeDiff, z01, z05, ↓tyr])
  refine z10 (fun h2 => ?_) (fun h2 => ?_)
  · rw [if_pos h2]
    (repeat simp -dsimp -implicitDefEqProofs (disch := omega) only [↓rP, rQ, rO, rL, ↓reduceIte, Nat.reduceEqDiff, Nat.reduceAdd, Nat.reduceLeDiff, z01, z05, ↓tyr])
    refine (plain_1001000 x _).mono ?_
    rintro _ _ ⟨rfl, rfl⟩
    (repeat simp -dsimp -implicitDefEqProofs (disch := omega) only [↓rP, rQ, rO, rL, ↓reduceIte, Nat.reduceEqDiff, Nat.reduceAdd, Nat.reduceLeDiff, z01, z05, ↓tyr])
    rcases hp : z14 x true false false true false false false with _ | _
    · (repeat simp -dsimp -implicitDefEqProofs (disch := omega) only [↓rP, rQ, rO, rL, ↓reduceIte, Nat.reduceEqDiff, Nat.reduceAdd, Nat.reduceLeDiff, z01, z05, ↓tyr])
      try simp only [Bool.false_and, Bool.and_false, Bool.and_true, Bool.true_and, true_and]
      (repeat (first | assumption | with_reducible exact Keeps.refl _ _ | with_reducible refine Keeps.go ?_ (Keeps.one _ _) | with_reducible refine Keeps.go ?_ (by assumption)))
    (repeat simp -dsimp -implicitDefEqProofs (disch := omega) only [↓rP, rQ, rO, rL, ↓reduceIte, Nat.reduceEqDiff, Nat.reduceAdd, Nat.reduceLeDiff, z01, z05, ↓tyr])
    refine (z1d _ _ _).mono ?_
    rintro _ _ ⟨rfl, rfl⟩
    (repeat simp -dsimp -implicitDefEqProofs (disch := omega) only [↓rP, rQ, rO, rL, ↓reduceIte, Nat.reduceEqDiff, Nat.reduceAdd, Nat.reduceLeDiff, z01, z05, ↓tyr])
    cases hg : getI (slL m.Code.Globals) x.N with
    | none =>
      have hb := z2n.2 hg
      (repeat simp -dsimp -implicitDefEqProofs (disch := omega) only [↓rP, rQ, rO, rL, ↓reduceIte, Nat.reduceEqDiff, Nat.reduceAdd, Nat.reduceLeDiff, z01, z05, ↓tyr, hb])
      (first | (refine And.intro (by simp) ?_; (repeat (first | assumption | with_reducible exact Keeps.refl _ _ | with_reducible refine Keeps.go ?_ (Keeps.one _ _) | with_reducible refine Keeps.go ?_ (by assumption)))) | (repeat (first | assumption | with_reducible exact Keeps.refl _ _ | with_reducible refine Keeps.go ?_ (Keeps.one _ _) | with_reducible refine Keeps.go ?_ (by assumption))))
    | some g =>
      have hb := z1r.2 ⟨g, hg⟩
      (repeat simp -dsimp -implicitDefEqProofs (disch := omega) only [↓rP, rQ, rO, rL, ↓reduceIte, Nat.reduceEqDiff, Nat.reduceAdd, Nat.reduceLeDiff, z01, z05, ↓tyr, hb, ixI hg])
      refine (z1t m x.Dst g _).mono ?_
      rintro _ _ ⟨rfl, _⟩
      (repeat simp -dsimp -implicitDefEqProofs (disch := omega) only [↓rP, rQ, rO, rL, ↓reduceIte, Nat.reduceEqDiff, Nat.reduceAdd, Nat.reduceLeDiff, z01, z05, ↓tyr, hb])
      (first | (refine And.intro (by simp) ?_; (repeat (first | assumption | with_reducible exact Keeps.refl _ _ | with_reducible refine Keeps.go ?_ (Keeps.one _ _) | with_reducible refine Keeps.go ?_ (by assumption)))) | (repeat (first | assumption | with_reducible exact Keeps.refl _ _ | with_reducible refine Keeps.go ?_ (Keeps.one _ _) | with_reducible refine Keeps.go ?_ (by assumption))))
  rw [if_neg h2]
  (repeat simp -dsimp -implicitDefEqProofs (disch := omega) only [↓rP, rQ, rO, rL, ↓reduceIte, Nat.reduceEqDiff, Nat.reduceAdd, Nat.reduceLeDiff, z01, z05, ↓tyr])
  refine z10 (fun h3 => ?_) (fun h3 => ?_)
  · rw [if_pos h3]
    (repeat simp -dsimp -implicitDefEqProofs (disch := omega) only [↓rP, rQ, rO, rL, ↓reduceIte, Nat.reduceEqDiff, Nat.reduceAdd, Nat.reduceLeDiff, z01, z05, ↓tyr])
    refine (code_maker_field_does m x _).mono ?_
    rintro _ _ ⟨rfl, _⟩
    (repeat simp -dsimp -implicitDefEqProofs (disch := omega) only [↓rP, rQ, rO, rL, ↓reduceIte, Nat.reduceEqDiff, Nat.reduceAdd, Nat.reduceLeDiff, z01, z05, ↓tyr])
    refine (plain_1111000 x _).mono ?_
    rintro _ _ ⟨rfl, rfl⟩
    (repeat simp -dsimp -implicitDefEqProofs (disch := omega) only [↓rP, rQ, rO, rL, ↓reduceIte, Nat.reduceEqDiff, Nat.reduceAdd, Nat.reduceLeDiff, z01, z05, ↓tyr])
    rcases hp : z14 x true true true true false false false with _ | _
    · (repeat simp -dsimp -implicitDefEqProofs (disch := omega) only [↓rP, rQ, rO, rL, ↓reduceIte, Nat.reduceEqDiff, Nat.reduceAdd, Nat.reduceLeDiff, z01, z05, ↓tyr])
      try simp only [Bool.false_and, Bool.and_false, Bool.and_true, Bool.true_and, true_and]
      (repeat (first | assumption | with_reducible exact Keeps.refl _ _ | with_reducible refine Keeps.go ?_ (Keeps.one _ _) | with_reducible refine Keeps.go ?_ (by assumption)))
    (repeat simp -dsimp -implicitDefEqProofs (disch := omega) only [↓rP, rQ, rO, rL, ↓reduceIte, Nat.reduceEqDiff, Nat.reduceAdd, Nat.reduceLeDiff, z01, z05, ↓tyr])
    unfold fieldV
    cases hf : fieldO m.Code m.body x with
    | none =>
      simp only [Option.isSome_none, Option.getD_none]
      (repeat simp -dsimp -implicitDefEqProofs (disch := omega) only [↓rP, rQ, rO, rL, ↓reduceIte, Nat.reduceEqDiff, Nat.reduceAdd, Nat.reduceLeDiff, z01, z05, ↓tyr])
      (first | (refine And.intro (by simp) ?_; (repeat (first | assumption | with_reducible exact Keeps.refl _ _ | with_reducible refine Keeps.go ?_ (Keeps.one _ _) | with_reducible refine Keeps.go ?_ (by assumption)))) | (repeat (first | assumption | with_reducible exact Keeps.refl _ _ | with_reducible refine Keeps.go ?_ (Keeps.one _ _) | with_reducible refine Keeps.go ?_ (by assumption))))
    | some f =>
      simp only [Option.isSome_some, Option.getD_some]
      (repeat simp -dsimp -implicitDefEqProofs (disch := omega) only [↓rP, rQ, rO, rL, ↓reduceIte, Nat.reduceEqDiff, Nat.reduceAdd, Nat.reduceLeDiff, z01, z05, ↓tyr])
      refine (z1t m x.Dst f _).mono ?_
      rintro _ _ ⟨rfl, _⟩
      (repeat simp -dsimp -implicitDefEqProofs (disch := omega) only [↓rP, rQ, rO, rL, ↓reduceIte, Nat.reduceEqDiff, Nat.reduceAdd, Nat.reduceLeDiff, z01, z05, ↓tyr])
      (first | (refine And.intro (by simp) ?_; (repeat (first | assumption | with_reducible exact Keeps.refl _ _ | with_reducible refine Keeps.go ?_ (Keeps.one _ _) | with_reducible refine Keeps.go ?_ (by assumption)))) | (repeat (first | assumption | with_reducible exact Keeps.refl _ _ | with_reducible refine Keeps.go ?_ (Keeps.one _ _) | with_reducible refine Keeps.go ?_ (by assumption))))
  rw [if_neg h3]
  (repeat simp -dsimp -implicitDefEqProofs (disch := omega) only [↓rP, rQ, rO, rL, ↓reduceIte, Nat.reduceEqDiff, Nat.reduceAdd, Nat.reduceLeDiff, z01, z05, ↓tyr])
  refine z10 (fun h4 => ?_) (fun h4 => ?_)
  · rw [if_pos h4]
    (repeat simp -dsimp -implicitDefEqProofs (disch := omega) only [↓rP, rQ, rO, rL, ↓reduceIte, Nat.reduceEqDiff, Nat.reduceAdd, Nat.reduceLeDiff, z01, z05, ↓tyr])
    refine (plain_1100001 x _).mono ?_
    rintro _ _ ⟨rfl, rfl⟩
    (repeat simp -dsimp -implicitDefEqProofs (disch := omega) only [↓rP, rQ, rO, rL, ↓reduceIte, Nat.reduceEqDiff, Nat.reduceAdd, Nat.reduceLeDiff, z01, z05, ↓tyr])
    rcases hp : z14 x true true false false false false true with _ | _
    · (repeat simp -dsimp -implicitDefEqProofs (disch := omega) only [↓rP, rQ, rO, rL, ↓reduceIte, Nat.reduceEqDiff, Nat.reduceAdd, Nat.reduceLeDiff, z01, z05, ↓tyr])
      try simp only [Bool.false_and, Bool.and_false, Bool.and_true, Bool.true_and, true_and]
      (repeat (first | assumption | with_reducible exact Keeps.refl _ _ | with_reducible refine Keeps.go ?_ (Keeps.one _ _) | with_reducible refine Keeps.go ?_ (by assumption)))
    (repeat simp -dsimp -implicitDefEqProofs (disch := omega) only [↓rP, rQ, rO, rL, ↓reduceIte, Nat.reduceEqDiff, Nat.reduceAdd, Nat.reduceLeDiff, z01, z05, ↓tyr])
    refine (z1t m x.Dst ⟨1, 0, false⟩ _).mono ?_
    rintro _ _ ⟨rfl, _⟩
    rcases hd : isB m.body x.Dst ⟨1, 0, false⟩ with _ | _
    · (repeat simp -dsimp -implicitDefEqProofs (disch := omega) only [↓rP, rQ, rO, rL, ↓reduceIte, Nat.reduceEqDiff, Nat.reduceAdd, Nat.reduceLeDiff, z01, z05, ↓tyr])
      try simp only [Bool.false_and, Bool.and_false, Bool.and_true, Bool.true_and, true_and]
      (repeat (first | assumption | with_reducible exact Keeps.refl _ _ | with_reducible refine Keeps.go ?_ (Keeps.one _ _) | with_reducible refine Keeps.go ?_ (by assumption)))
    (repeat simp -dsimp -implicitDefEqProofs (disch := omega) only [↓rP, rQ, rO, rL, ↓reduceIte, Nat.reduceEqDiff, Nat.reduceAdd, Nat.reduceLeDiff, z01, z05, ↓tyr])
    refine (z1t m x.Src ⟨3, 0, false⟩ _).mono ?_
    rintro _ _ ⟨rfl, _⟩
    rcases hs : isB m.body x.Src ⟨3, 0, false⟩ with _ | _
    · (repeat simp -dsimp -implicitDefEqProofs (disch := omega) only [↓rP, rQ, rO, rL, ↓reduceIte, Nat.reduceEqDiff, Nat.reduceAdd, Nat.reduceLeDiff, z01, z05, ↓tyr])
      try simp only [Bool.false_and, Bool.and_false, Bool.and_true, Bool.true_and, true_and]
      (repeat (first | assumption | with_reducible exact Keeps.refl _ _ | with_reducible refine Keeps.go ?_ (Keeps.one _ _) | with_reducible refine Keeps.go ?_ (by assumption)))
    (repeat simp -dsimp -implicitDefEqProofs (disch := omega) only [↓rP, rQ, rO, rL, ↓reduceIte, Nat.reduceEqDiff, Nat.reduceAdd, Nat.reduceLeDiff, z01, z05, ↓tyr])
    refine (z1i m hm x.Index hix _).mono ?_
    rintro _ _ ⟨rfl, _⟩
    (repeat simp -dsimp -implicitDefEqProofs (disch := omega) only [↓rP, rQ, rO, rL, ↓reduceIte, Nat.reduceEqDiff, Nat.reduceAdd, Nat.reduceLeDiff, z01, z05, ↓tyr])
    (first | (refine And.intro (by simp) ?_; (repeat (first | assumption | with_reducible exact Keeps.refl _ _ | with_reducible refine Keeps.go ?_ (Keeps.one _ _) | with_reducible refine Keeps.go ?_ (by assumption)))) | (repeat (first | assumption | with_reducible exact Keeps.refl _ _ | with_reducible refine Keeps.go ?_ (Keeps.one _ _) | with_reducible refine Keeps.go ?_ (by assumption))))
  rw [if_neg h4]
  (repeat simp -dsimp -implicitDefEqProofs (disch := omega) only [↓rP, rQ, rO, rL, ↓reduceIte, Nat.reduceEqDiff, Nat.reduceAdd, Nat.reduceLeDiff, z01, z05, ↓tyr])
  refine z10 (fun h5 => ?_) (fun h5 => ?_)
  · rw [if_pos h5]
    (repeat simp -dsimp -implicitDefEqProofs (disch := omega) only [↓rP, rQ, rO, rL, ↓reduceIte, Nat.reduceEqDiff, Nat.reduceAdd, Nat.reduceLeDiff, z01, z05, ↓tyr])
    refine (plain_1100000 x _).mono ?_
    rintro _ _ ⟨rfl, rfl⟩
    (repeat simp -dsimp -implicitDefEqProofs (disch := omega) only [↓rP, rQ, rO, rL, ↓reduceIte, Nat.reduceEqDiff, Nat.reduceAdd, Nat.reduceLeDiff, z01, z05, ↓tyr])
    rcases hp : z14 x true true false false false false false with _ | _
    · (repeat simp -dsimp -implicitDefEqProofs (disch := omega) only [↓rP, rQ, rO, rL, ↓reduceIte, Nat.reduceEqDiff, Nat.reduceAdd, Nat.reduceLeDiff, z01, z05, ↓tyr])
      try simp only [Bool.false_and, Bool.and_false, Bool.and_true, Bool.true_and, true_and]
      (repeat (first | assumption | with_reducible exact Keeps.refl _ _ | with_reducible refine Keeps.go ?_ (Keeps.one _ _) | with_reducible refine Keeps.go ?_ (by assumption)))
    (repeat simp -dsimp -implicitDefEqProofs (disch := omega) only [↓rP, rQ, rO, rL, ↓reduceIte, Nat.reduceEqDiff, Nat.reduceAdd, Nat.reduceLeDiff, z01, z05, ↓tyr])
    refine (z1t m x.Dst ⟨1, 0, false⟩ _).mono ?_
    rintro _ _ ⟨rfl, _⟩
    rcases hd : isB m.body x.Dst ⟨1, 0, false⟩ with _ | _
    · (repeat simp -dsimp -implicitDefEqProofs (disch := omega) only [↓rP, rQ, rO, rL, ↓reduceIte, Nat.reduceEqDiff, Nat.reduceAdd, Nat.reduceLeDiff, z01, z05, ↓tyr])
      try simp only [Bool.false_and, Bool.and_false, Bool.and_true, Bool.true_and, true_and]
      (repeat (first | assumption | with_reducible exact Keeps.refl _ _ | with_reducible refine Keeps.go ?_ (Keeps.one _ _) | with_reducible refine Keeps.go ?_ (by assumption)))
    (repeat simp -dsimp -implicitDefEqProofs (disch := omega) only [↓rP, rQ, rO, rL, ↓reduceIte, Nat.reduceEqDiff, Nat.reduceAdd, Nat.reduceLeDiff, z01, z05, ↓tyr])
    refine (z1t m x.Src ⟨3, 0, false⟩ _).mono ?_
    rintro _ _ ⟨rfl, _⟩
    (repeat simp -dsimp -implicitDefEqProofs (disch := omega) only [↓rP, rQ, rO, rL, ↓reduceIte, Nat.reduceEqDiff, Nat.reduceAdd, Nat.reduceLeDiff, z01, z05, ↓tyr])
    (first | (refine And.intro (by simp) ?_; (repeat (first | assumption | with_reducible exact Keeps.refl _ _ | with_reducible refine Keeps.go ?_ (Keeps.one _ _) | with_reducible refine Keeps.go ?_ (by assumption)))) | (repeat (first | assumption | with_reducible exact Keeps.refl _ _ | with_reducible refine Keeps.go ?_ (Keeps.one _ _) | with_reducible refine Keeps.go ?_ (by assumption))))
  rw [if_neg h5]
  (repeat simp -dsimp -implicitDefEqProofs (disch := omega) only [↓rP, rQ, rO, rL, ↓reduceIte, Nat.reduceEqDiff, Nat.reduceAdd, Nat.reduceLeDiff, z01, z05, ↓tyr])
  refine z10 (fun h6 => ?_) (fun h6 => ?_)
  · rw [if_pos h6]
    (repeat simp -dsimp -implicitDefEqProofs (disch := omega) only [↓rP, rQ, rO, rL, ↓reduceIte, Nat.reduceEqDiff, Nat.reduceAdd, Nat.reduceLeDiff, z01, z05, ↓tyr])
    refine (plain_1011000 x _).mono ?_
    rintro _ _ ⟨rfl, rfl⟩
    (repeat simp -dsimp -implicitDefEqProofs (disch := omega) only [↓rP, rQ, rO, rL, ↓reduceIte, Nat.reduceEqDiff, Nat.reduceAdd, Nat.reduceLeDiff, z01, z05, ↓tyr])
    rcases hp : z14 x true false true true false false false with _ | _
    · (repeat simp -dsimp -implicitDefEqProofs (disch := omega) only [↓rP, rQ, rO, rL, ↓reduceIte, Nat.reduceEqDiff, Nat.reduceAdd, Nat.reduceLeDiff, z01, z05, ↓tyr])
      try simp only [Bool.false_and, Bool.and_false, Bool.and_true, Bool.true_and, true_and]
      (repeat (first | assumption | with_reducible exact Keeps.refl _ _ | with_reducible refine Keeps.go ?_ (Keeps.one _ _) | with_reducible refine Keeps.go ?_ (by assumption)))
    (repeat simp -dsimp -implicitDefEqProofs (disch := omega) only [↓rP, rQ, rO, rL, ↓reduceIte, Nat.reduceEqDiff, Nat.reduceAdd, Nat.reduceLeDiff, z01, z05, ↓tyr])
    refine (z1d _ _ _).mono ?_
    rintro _ _ ⟨rfl, rfl⟩
    (repeat simp -dsimp -implicitDefEqProofs (disch := omega) only [↓rP, rQ, rO, rL, ↓reduceIte, Nat.reduceEqDiff, Nat.reduceAdd, Nat.reduceLeDiff, z01, z05, ↓tyr])
    rcases hd : btw x.Rec (slL m.Code.Records).length with _ | _
    · (repeat simp -dsimp -implicitDefEqProofs (disch := omega) only [↓rP, rQ, rO, rL, ↓reduceIte, Nat.reduceEqDiff, Nat.reduceAdd, Nat.reduceLeDiff, z01, z05, ↓tyr])
      try simp only [Bool.false_and, Bool.and_false, Bool.and_true, Bool.true_and, true_and]
      (repeat (first | assumption | with_reducible exact Keeps.refl _ _ | with_reducible refine Keeps.go ?_ (Keeps.one _ _) | with_reducible refine Keeps.go ?_ (by assumption)))
    (repeat simp -dsimp -implicitDefEqProofs (disch := omega) only [↓rP, rQ, rO, rL, ↓reduceIte, Nat.reduceEqDiff, Nat.reduceAdd, Nat.reduceLeDiff, z01, z05, ↓tyr])
    refine (z1t m x.Dst ⟨4, x.Rec, false⟩ _).mono ?_
    rintro _ _ ⟨rfl, _⟩
    rcases he : isB m.body x.Dst ⟨4, x.Rec, false⟩ with _ | _
    · (repeat simp -dsimp -implicitDefEqProofs (disch := omega) only [↓rP, rQ, rO, rL, ↓reduceIte, Nat.reduceEqDiff, Nat.reduceAdd, Nat.reduceLeDiff, z01, z05, ↓tyr])
      try simp only [Bool.false_and, Bool.and_false, Bool.and_true, Bool.true_and, true_and]
      (repeat (first | assumption | with_reducible exact Keeps.refl _ _ | with_reducible refine Keeps.go ?_ (Keeps.one _ _) | with_reducible refine Keeps.go ?_ (by assumption)))
    (repeat simp -dsimp -implicitDefEqProofs (disch := omega) only [↓rP, rQ, rO, rL, ↓reduceIte, Nat.reduceEqDiff, Nat.reduceAdd, Nat.reduceLeDiff, z01, z05, ↓tyr])
    refine (code_maker_site_does m x a x.Rec _).mono ?_
    rintro _ _ ⟨rfl, rfl⟩
    (repeat simp -dsimp -implicitDefEqProofs (disch := omega) only [↓rP, rQ, rO, rL, ↓reduceIte, Nat.reduceEqDiff, Nat.reduceAdd, Nat.reduceLeDiff, z01, z05, ↓tyr])
    (first | (refine And.intro (by simp) ?_; (repeat (first | assumption | with_reducible exact Keeps.refl _ _ | with_reducible refine Keeps.go ?_ (Keeps.one _ _) | with_reducible refine Keeps.go ?_ (by assumption)))) | (repeat (first | assumption | with_reducible exact Keeps.refl _ _ | with_reducible refine Keeps.go ?_ (Keeps.one _ _) | with_reducible refine Keeps.go ?_ (by assumption))))
  rw [if_neg h6]
  (repeat simp -dsimp -implicitDefEqProofs (disch := omega) only [↓rP, rQ, rO, rL, ↓reduceIte, Nat.reduceEqDiff, Nat.reduceAdd, Nat.reduceLeDiff, z01, z05, ↓tyr])
  refine (plain_1001010 x _).mono ?_
  rintro _ _ ⟨rfl, rfl⟩
  (repeat simp -dsimp -implicitDefEqProofs (disch := omega) only [↓rP, rQ, rO, rL, ↓reduceIte, Nat.reduceEqDiff, Nat.reduceAdd, Nat.reduceLeDiff, z01, z05, ↓tyr])
  rcases hp : z14 x true false false true false true false with _ | _
  · (repeat simp -dsimp -implicitDefEqProofs (disch := omega) only [↓rP, rQ, rO, rL, ↓reduceIte, Nat.reduceEqDiff, Nat.reduceAdd, Nat.reduceLeDiff, z01, z05, ↓tyr])
    try simp only [Bool.false_and, Bool.and_false, Bool.and_true, Bool.true_and, true_and]
    (repeat (first | assumption | with_reducible exact Keeps.refl _ _ | with_reducible refine Keeps.go ?_ (Keeps.one _ _) | with_reducible refine Keeps.go ?_ (by assumption)))
  (repeat simp -dsimp -implicitDefEqProofs (disch := omega) only [↓rP, rQ, rO, rL, ↓reduceIte, Nat.reduceEqDiff, Nat.reduceAdd, Nat.reduceLeDiff, z01, z05, ↓tyr])
  refine (z1t m x.Dst ⟨3, 0, false⟩ _).mono ?_
  rintro _ _ ⟨rfl, _⟩
  rcases he : isB m.body x.Dst ⟨3, 0, false⟩ with _ | _
  · (repeat simp -dsimp -implicitDefEqProofs (disch := omega) only [↓rP, rQ, rO, rL, ↓reduceIte, Nat.reduceEqDiff, Nat.reduceAdd, Nat.reduceLeDiff, z01, z05, ↓tyr])
    try simp only [Bool.false_and, Bool.and_false, Bool.and_true, Bool.true_and, true_and]
    (repeat (first | assumption | with_reducible exact Keeps.refl _ _ | with_reducible refine Keeps.go ?_ (Keeps.one _ _) | with_reducible refine Keeps.go ?_ (by assumption)))
  (repeat simp -dsimp -implicitDefEqProofs (disch := omega) only [↓rP, rQ, rO, rL, ↓reduceIte, Nat.reduceEqDiff, Nat.reduceAdd, Nat.reduceLeDiff, z01, z05, ↓tyr])
  refine (z1i m hm x.Items hit _).mono ?_
  rintro _ _ ⟨rfl, _⟩
  (repeat simp -dsimp -implicitDefEqProofs (disch := omega) only [↓rP, rQ, rO, rL, ↓reduceIte, Nat.reduceEqDiff, Nat.reduceAdd, Nat.reduceLeDiff, z01, z05, ↓tyr])
  rcases hg : z2h m.body x.Items with _ | _
  · (repeat simp -dsimp -implicitDefEqProofs (disch := omega) only [↓rP, rQ, rO, rL, ↓reduceIte, Nat.reduceEqDiff, Nat.reduceAdd, Nat.reduceLeDiff, z01, z05, ↓tyr])
    try simp only [Bool.false_and, Bool.and_false, Bool.and_true, Bool.true_and, true_and]
    (repeat (first | assumption | with_reducible exact Keeps.refl _ _ | with_reducible refine Keeps.go ?_ (Keeps.one _ _) | with_reducible refine Keeps.go ?_ (by assumption)))
  (repeat simp -dsimp -implicitDefEqProofs (disch := omega) only [↓rP, rQ, rO, rL, ↓reduceIte, Nat.reduceEqDiff, Nat.reduceAdd, Nat.reduceLeDiff, z01, z05, ↓tyr])
  refine (code_maker_site_does m x a (-1) _).mono ?_
  rintro _ _ ⟨rfl, rfl⟩
  (repeat simp -dsimp -implicitDefEqProofs (disch := omega) only [↓rP, rQ, rO, rL, ↓reduceIte, Nat.reduceEqDiff, Nat.reduceAdd, Nat.reduceLeDiff, z01, z05, ↓tyr])
  (first | (refine And.intro (by simp) ?_; (repeat (first | assumption | with_reducible exact Keeps.refl _ _ | with_reducible refine Keeps.go ?_ (Keeps.one _ _) | with_reducible refine Keeps.go ?_ (by assumption)))) | (repeat (first | assumption | with_reducible exact Keeps.refl _ _ | with_reducible refine Keeps.go ?_ (Keeps.one _ _) | with_reducible refine Keeps.go ?_ (by assumption))))
theorem z4z (m : z0f) (hm : m.ok) (x : In) (hx : x.ok) (h : z04) : z03 Tryd.prog 74 [.agg m.cells, .agg x.cells] h (fun v h2 => v = .bool (z3c m.Code m.body x) ∧ Keeps h h2 (fun _ => False)) := by
  obtain ⟨-, -, -, -, -, -, hit, hix⟩ := hx
  apply code_maker_stores_wp
  unfold z3c
  (repeat simp -dsimp -implicitDefEqProofs (disch := omega) only [↓rP, rQ, rO, rL, ↓reduceIte, Nat.reduceEqDiff, Nat.reduceAdd, Nat.reduceLeDiff, z01, z05, ↓tyr])
  refine z10 (fun h2 => ?_) (fun h2 => ?_)
  · rw [if_pos h2]
    (repeat simp -dsimp -implicitDefEqProofs (disch := omega) only [↓rP, rQ, rO, rL, ↓reduceIte, Nat.reduceEqDiff, Nat.reduceAdd, Nat.reduceLeDiff, z01, z05, ↓tyr])
    refine (plain_0001010 x _).mono ?_
    rintro _ _ ⟨rfl, rfl⟩
    (repeat simp -dsimp -implicitDefEqProofs (disch := omega) only [↓rP, rQ, rO, rL, ↓reduceIte, Nat.reduceEqDiff, Nat.reduceAdd, Nat.reduceLeDiff, z01, z05, ↓tyr])
    rcases hp : z14 x false false false true false true false with _ | _
    · (repeat simp -dsimp -implicitDefEqProofs (disch := omega) only [↓rP, rQ, rO, rL, ↓reduceIte, Nat.reduceEqDiff, Nat.reduceAdd, Nat.reduceLeDiff, z01, z05, ↓tyr])
      try simp only [Bool.false_and, Bool.and_false, Bool.and_true, Bool.true_and, true_and]
      (repeat (first | assumption | with_reducible exact Keeps.refl _ _ | with_reducible refine Keeps.go ?_ (Keeps.one _ _) | with_reducible refine Keeps.go ?_ (by assumption)))
    (repeat simp -dsimp -implicitDefEqProofs (disch := omega) only [↓rP, rQ, rO, rL, ↓reduceIte, Nat.reduceEqDiff, Nat.reduceAdd, Nat.reduceLeDiff, z01, z05, ↓tyr])
    refine (z1d _ _ _).mono ?_
    rintro _ _ ⟨rfl, rfl⟩
    (repeat simp -dsimp -implicitDefEqProofs (disch := omega) only [↓rP, rQ, rO, rL, ↓reduceIte, Nat.reduceEqDiff, Nat.reduceAdd, Nat.reduceLeDiff, z01, z05, ↓tyr])
    rcases hd : btw x.N (slL m.Code.Globals).length with _ | _
    · (repeat simp -dsimp -implicitDefEqProofs (disch := omega) only [↓rP, rQ, rO, rL, ↓reduceIte, Nat.reduceEqDiff, Nat.reduceAdd, Nat.reduceLeDiff, z01, z05, ↓tyr])
      try simp only [Bool.false_and, Bool.and_false, Bool.and_true, Bool.true_and, true_and]
      (repeat (first | assumption | with_reducible exact Keeps.refl _ _ | with_reducible refine Keeps.go ?_ (Keeps.one _ _) | with_reducible refine Keeps.go ?_ (by assumption)))
    (repeat simp -dsimp -implicitDefEqProofs (disch := omega) only [↓rP, rQ, rO, rL, ↓reduceIte, Nat.reduceEqDiff, Nat.reduceAdd, Nat.reduceLeDiff, z01, z05, ↓tyr])
    refine (z1i m hm x.Items hit _).mono ?_
    rintro _ _ ⟨rfl, _⟩
    (repeat simp -dsimp -implicitDefEqProofs (disch := omega) only [↓rP, rQ, rO, rL, ↓reduceIte, Nat.reduceEqDiff, Nat.reduceAdd, Nat.reduceLeDiff, z01, z05, ↓tyr])
    (first | (refine And.intro (by simp) ?_; (repeat (first | assumption | with_reducible exact Keeps.refl _ _ | with_reducible refine Keeps.go ?_ (Keeps.one _ _) | with_reducible refine Keeps.go ?_ (by assumption)))) | (repeat (first | assumption | with_reducible exact Keeps.refl _ _ | with_reducible refine Keeps.go ?_ (Keeps.one _ _) | with_reducible refine Keeps.go ?_ (by assumption))))
  rw [if_neg h2]
  (repeat simp -dsimp -implicitDefEqProofs (disch := omega) only [↓rP, rQ, rO, rL, ↓reduceIte, Nat.reduceEqDiff, Nat.reduceAdd, Nat.reduceLeDiff, z01, z05, ↓tyr])
  refine z10 (fun h3 => ?_) (fun h3 => ?_)
  · rw [if_pos h3]
    (repeat simp -dsimp -implicitDefEqProofs (disch := omega) only [↓rP, rQ, rO, rL, ↓reduceIte, Nat.reduceEqDiff, Nat.reduceAdd, Nat.reduceLeDiff, z01, z05, ↓tyr])
    refine (code_maker_field_does m x _).mono ?_
    rintro _ _ ⟨rfl, _⟩
    (repeat simp -dsimp -implicitDefEqProofs (disch := omega) only [↓rP, rQ, rO, rL, ↓reduceIte, Nat.reduceEqDiff, Nat.reduceAdd, Nat.reduceLeDiff, z01, z05, ↓tyr])
    refine (plain_0111010 x _).mono ?_
    rintro _ _ ⟨rfl, rfl⟩
    (repeat simp -dsimp -implicitDefEqProofs (disch := omega) only [↓rP, rQ, rO, rL, ↓reduceIte, Nat.reduceEqDiff, Nat.reduceAdd, Nat.reduceLeDiff, z01, z05, ↓tyr])
    rcases hp : z14 x false true true true false true false with _ | _
    · (repeat simp -dsimp -implicitDefEqProofs (disch := omega) only [↓rP, rQ, rO, rL, ↓reduceIte, Nat.reduceEqDiff, Nat.reduceAdd, Nat.reduceLeDiff, z01, z05, ↓tyr])
      try simp only [Bool.false_and, Bool.and_false, Bool.and_true, Bool.true_and, true_and]
      (repeat (first | assumption | with_reducible exact Keeps.refl _ _ | with_reducible refine Keeps.go ?_ (Keeps.one _ _) | with_reducible refine Keeps.go ?_ (by assumption)))
    (repeat simp -dsimp -implicitDefEqProofs (disch := omega) only [↓rP, rQ, rO, rL, ↓reduceIte, Nat.reduceEqDiff, Nat.reduceAdd, Nat.reduceLeDiff, z01, z05, ↓tyr])
    rcases hf : (fieldO m.Code m.body x).isSome with _ | _
    · (repeat simp -dsimp -implicitDefEqProofs (disch := omega) only [↓rP, rQ, rO, rL, ↓reduceIte, Nat.reduceEqDiff, Nat.reduceAdd, Nat.reduceLeDiff, z01, z05, ↓tyr])
      try simp only [Bool.false_and, Bool.and_false, Bool.and_true, Bool.true_and, true_and]
      (repeat (first | assumption | with_reducible exact Keeps.refl _ _ | with_reducible refine Keeps.go ?_ (Keeps.one _ _) | with_reducible refine Keeps.go ?_ (by assumption)))
    (repeat simp -dsimp -implicitDefEqProofs (disch := omega) only [↓rP, rQ, rO, rL, ↓reduceIte, Nat.reduceEqDiff, Nat.reduceAdd, Nat.reduceLeDiff, z01, z05, ↓tyr])
    refine (z1i m hm x.Items hit _).mono ?_
    rintro _ _ ⟨rfl, _⟩
    (repeat simp -dsimp -implicitDefEqProofs (disch := omega) only [↓rP, rQ, rO, rL, ↓reduceIte, Nat.reduceEqDiff, Nat.reduceAdd, Nat.reduceLeDiff, z01, z05, ↓tyr])
    (first | (refine And.intro (by simp) ?_; (repeat (first | assumption | with_reducible exact Keeps.refl _ _ | with_reducible refine Keeps.go ?_ (Keeps.one _ _) | with_reducible refine Keeps.go ?_ (by assumption)))) | (repeat (first | assumption | with_reducible exact Keeps.refl _ _ | with_reducible refine Keeps.go ?_ (Keeps.one _ _) | with_reducible refine Keeps.go ?_ (by assumption))))
  rw [if_neg h3]
  (repeat simp -dsimp -implicitDefEqProofs (disch := omega) only [↓rP, rQ, rO, rL, ↓reduceIte, Nat.reduceEqDiff, Nat.reduceAdd, Nat.reduceLeDiff, z01, z05, ↓tyr])
  refine (plain_0100011 x _).mono ?_
  rintro _ _ ⟨rfl, rfl⟩
  (repeat simp -dsimp -implicitDefEqProofs (disch := omega) only [↓rP, rQ, rO, rL, ↓reduceIte, Nat.reduceEqDiff, Nat.reduceAdd, Nat.reduceLeDiff, z01, z05, ↓tyr])
  rcases hp : z14 x false true false false false true true with _ | _
  · (repeat simp -dsimp -implicitDefEqProofs (disch := omega) only [↓rP, rQ, rO, rL, ↓reduceIte, Nat.reduceEqDiff, Nat.reduceAdd, Nat.reduceLeDiff, z01, z05, ↓tyr])
    try simp only [Bool.false_and, Bool.and_false, Bool.and_true, Bool.true_and, true_and]
    (repeat (first | assumption | with_reducible exact Keeps.refl _ _ | with_reducible refine Keeps.go ?_ (Keeps.one _ _) | with_reducible refine Keeps.go ?_ (by assumption)))
  (repeat simp -dsimp -implicitDefEqProofs (disch := omega) only [↓rP, rQ, rO, rL, ↓reduceIte, Nat.reduceEqDiff, Nat.reduceAdd, Nat.reduceLeDiff, z01, z05, ↓tyr])
  refine (z1t m x.Src ⟨3, 0, false⟩ _).mono ?_
  rintro _ _ ⟨rfl, _⟩
  rcases he : isB m.body x.Src ⟨3, 0, false⟩ with _ | _
  · (repeat simp -dsimp -implicitDefEqProofs (disch := omega) only [↓rP, rQ, rO, rL, ↓reduceIte, Nat.reduceEqDiff, Nat.reduceAdd, Nat.reduceLeDiff, z01, z05, ↓tyr])
    try simp only [Bool.false_and, Bool.and_false, Bool.and_true, Bool.true_and, true_and]
    (repeat (first | assumption | with_reducible exact Keeps.refl _ _ | with_reducible refine Keeps.go ?_ (Keeps.one _ _) | with_reducible refine Keeps.go ?_ (by assumption)))
  (repeat simp -dsimp -implicitDefEqProofs (disch := omega) only [↓rP, rQ, rO, rL, ↓reduceIte, Nat.reduceEqDiff, Nat.reduceAdd, Nat.reduceLeDiff, z01, z05, ↓tyr])
  refine (z1i m hm x.Items hit _).mono ?_
  rintro _ _ ⟨rfl, _⟩
  (repeat simp -dsimp -implicitDefEqProofs (disch := omega) only [↓rP, rQ, rO, rL, ↓reduceIte, Nat.reduceEqDiff, Nat.reduceAdd, Nat.reduceLeDiff, z01, z05, ↓tyr])
  rcases hg : z2h m.body x.Items with _ | _
  · (repeat simp -dsimp -implicitDefEqProofs (disch := omega) only [↓rP, rQ, rO, rL, ↓reduceIte, Nat.reduceEqDiff, Nat.reduceAdd, Nat.reduceLeDiff, z01, z05, ↓tyr])
    try simp only [Bool.false_and, Bool.and_false, Bool.and_true, Bool.true_and, true_and]
    (repeat (first | assumption | with_reducible exact Keeps.refl _ _ | with_reducible refine Keeps.go ?_ (Keeps.one _ _) | with_reducible refine Keeps.go ?_ (by assumption)))
  (repeat simp -dsimp -implicitDefEqProofs (disch := omega) only [↓rP, rQ, rO, rL, ↓reduceIte, Nat.reduceEqDiff, Nat.reduceAdd, Nat.reduceLeDiff, z01, z05, ↓tyr])
  refine (z1i m hm x.Index hix _).mono ?_
  rintro _ _ ⟨rfl, _⟩
  (repeat simp -dsimp -implicitDefEqProofs (disch := omega) only [↓rP, rQ, rO, rL, ↓reduceIte, Nat.reduceEqDiff, Nat.reduceAdd, Nat.reduceLeDiff, z01, z05, ↓tyr])
  (first | (refine And.intro (by simp) ?_; (repeat (first | assumption | with_reducible exact Keeps.refl _ _ | with_reducible refine Keeps.go ?_ (Keeps.one _ _) | with_reducible refine Keeps.go ?_ (by assumption)))) | (repeat (first | assumption | with_reducible exact Keeps.refl _ _ | with_reducible refine Keeps.go ?_ (Keeps.one _ _) | with_reducible refine Keeps.go ?_ (by assumption))))
end Go.Proofs.YtopfjochppdnfaaDoor
end

section
/- What the program's functions of codes compute: instructions, threads. -/
set_option maxRecDepth 100000
set_option maxHeartbeats 1000000
namespace Go.Proofs.YtopfjochppdnfaaDoor
open Go.Abs
theorem op18 (op : Int) : op = 1 ∨ (op = 2 ∨ op = 3 ∨ op = 4 ∨ op = 10 ∨ op = 8 ∨ op = 9) ∨ (op = 5 ∨ op = 6 ∨ op = 7) ∨ (op = 11 ∨ op = 12) ∨ op = 13 ∨ op = 14 ∨ (op = 15 ∨ op = 16) ∨ op = 17 ∨ (op < 1 ∨ 17 < op) := by omega
noncomputable def kindB (c : Cd) (t : Int) (b : Bd) (x : In) (a : Int) : Bool :=
  if x.Op = 1 then z14 x true false false false false true false && btw x.Dst (slL b.Slots).length && z2h b x.Items
  else if x.Op = 2 ∨ x.Op = 3 ∨ x.Op = 4 ∨ x.Op = 10 ∨ x.Op = 8 ∨ x.Op = 9 then z3s c t b x a
  else if x.Op = 5 ∨ x.Op = 6 ∨ x.Op = 7 then z3c c b x
  else if x.Op = 11 ∨ x.Op = 12 then z14 x false false false false false true false && z2h b x.Items
  else if x.Op = 13 then z14 x false false false false true false false && goesB c t b a x.To
  else if x.Op = 14 then z14 x false false false false true true false && goesB c t b a x.To && z2h b x.Items
  else if x.Op = 15 ∨ x.Op = 16 then z3r c t x a
  else decide (x.Op = 17) && z14 x false false false false false false false && decide (a = (slL b.Code).length - 1)
theorem instrB_eq (c : Cd) (t : Int) (b : Bd) (x : In) (a : Int) : z1l c t b x a = (!((decide (2 ≤ x.Op) && decide (x.Op ≤ 9)) && decide (insI c t a < 0)) && kindB c t b x a) := by
  unfold z1l
  by_cases h : (2 ≤ x.Op ∧ x.Op ≤ 9) ∧ insI c t a < 0
  · rw [if_pos h]; simp [h]
  · rw [if_neg h]
    have : ((decide (2 ≤ x.Op) && decide (x.Op ≤ 9)) && decide (insI c t a < 0)) = false := by
      rw [Bool.eq_false_iff]; simpa [and_assoc] using h
    rw [this]; rfl
theorem code_maker_instr_does (m : z0f) (hm : m.ok) (hs : (slL m.Code.Sections).length ≤ 1000000) (hcl : (slL m.body.Code).length ≤ 1000000) (x : In) (hx : x.ok) (a : Int) (h : z04) : z03 Tryd.prog 64 [.agg m.cells, .agg x.cells, .int .i64 a] h (fun v h2 => v = .bool (z1l m.Code m.thread m.body x a) ∧ Keeps h h2 (fun _ => False)) := by
  have hit := hx.2.2.2.2.2.2.1
  rw [instrB_eq]
  apply code_maker_instr_wp
  rcases op18 x.Op with hop | hop | hop | hop | hop | hop | hop | hop | hop
  · -- reckoned
    have hk : (!((decide (2 ≤ x.Op) && decide (x.Op ≤ 9)) && decide (insI m.Code m.thread a < 0)) && kindB m.Code m.thread m.body x a) = (z14 x true false false false false true false && btw x.Dst (slL m.body.Slots).length && z2h m.body x.Items) := by simp [kindB, hop]
    rw [hk]
    (repeat (first | simp -dsimp -implicitDefEqProofs (disch := omega) only [↓rP, rQ, rO, rL, ↓reduceIte, Nat.reduceEqDiff, Nat.reduceAdd, Nat.reduceLeDiff, z01, z05, ↓tyr] | refine Cut.go ?_))
    refine (z15 x.Op _).mono ?_
    rintro _ _ ⟨rfl, rfl⟩
    (repeat (first | simp -dsimp -implicitDefEqProofs (disch := omega) only [↓rP, rQ, rO, rL, ↓reduceIte, Nat.reduceEqDiff, Nat.reduceAdd, Nat.reduceLeDiff, z01, z05, ↓tyr, hop] | refine Cut.go ?_))
    refine (code_maker_slot_does m x.Dst _).mono ?_
    rintro _ h1 ⟨rfl, k1⟩
    (repeat (first | simp -dsimp -implicitDefEqProofs (disch := omega) only [↓rP, rQ, rO, rL, ↓reduceIte, Nat.reduceEqDiff, Nat.reduceAdd, Nat.reduceLeDiff, z01, z05, ↓tyr, hop] | refine Cut.go ?_))
    refine (plain_1000010 x _).mono ?_
    rintro _ _ ⟨rfl, rfl⟩
    (repeat (first | simp -dsimp -implicitDefEqProofs (disch := omega) only [↓rP, rQ, rO, rL, ↓reduceIte, Nat.reduceEqDiff, Nat.reduceAdd, Nat.reduceLeDiff, z01, z05, ↓tyr] | refine Cut.go ?_))
    have e : (getI (slL m.body.Slots) x.Dst).isSome = btw x.Dst (slL m.body.Slots).length := by
      cases hg : getI (slL m.body.Slots) x.Dst with
      | none => rw [z2n.2 hg]; rfl
      | some y => rw [z1r.2 ⟨y, hg⟩]; rfl
    rw [e]
    rcases hp : z14 x true false false false false true false with _ | _
    · (repeat (first | simp -dsimp -implicitDefEqProofs (disch := omega) only [↓rP, rQ, rO, rL, ↓reduceIte, Nat.reduceEqDiff, Nat.reduceAdd, Nat.reduceLeDiff, z01, z05, ↓tyr] | refine Cut.go ?_))
      try simp only [Bool.false_and, Bool.and_false, Bool.and_true, Bool.true_and, true_and]
      (repeat (first | assumption | with_reducible exact Keeps.refl _ _ | with_reducible refine Keeps.go ?_ (Keeps.one _ _) | with_reducible refine Keeps.go ?_ (by assumption)))
    (repeat (first | simp -dsimp -implicitDefEqProofs (disch := omega) only [↓rP, rQ, rO, rL, ↓reduceIte, Nat.reduceEqDiff, Nat.reduceAdd, Nat.reduceLeDiff, z01, z05, ↓tyr] | refine Cut.go ?_))
    rcases hd : btw x.Dst (slL m.body.Slots).length with _ | _
    · (repeat (first | simp -dsimp -implicitDefEqProofs (disch := omega) only [↓rP, rQ, rO, rL, ↓reduceIte, Nat.reduceEqDiff, Nat.reduceAdd, Nat.reduceLeDiff, z01, z05, ↓tyr] | refine Cut.go ?_))
      try simp only [Bool.false_and, Bool.and_false, Bool.and_true, Bool.true_and, true_and]
      (repeat (first | assumption | with_reducible exact Keeps.refl _ _ | with_reducible refine Keeps.go ?_ (Keeps.one _ _) | with_reducible refine Keeps.go ?_ (by assumption)))
    (repeat (first | simp -dsimp -implicitDefEqProofs (disch := omega) only [↓rP, rQ, rO, rL, ↓reduceIte, Nat.reduceEqDiff, Nat.reduceAdd, Nat.reduceLeDiff, z01, z05, ↓tyr] | refine Cut.go ?_))
    refine (z1i m hm x.Items hit _).mono ?_
    rintro _ _ ⟨rfl, _⟩
    (repeat (first | simp -dsimp -implicitDefEqProofs (disch := omega) only [↓rP, rQ, rO, rL, ↓reduceIte, Nat.reduceEqDiff, Nat.reduceAdd, Nat.reduceLeDiff, z01, z05, ↓tyr] | refine Cut.go ?_))
    (first | (refine And.intro (by simp) ?_; (repeat (first | assumption | with_reducible exact Keeps.refl _ _ | with_reducible refine Keeps.go ?_ (Keeps.one _ _) | with_reducible refine Keeps.go ?_ (by assumption)))) | (repeat (first | assumption | with_reducible exact Keeps.refl _ _ | with_reducible refine Keeps.go ?_ (Keeps.one _ _) | with_reducible refine Keeps.go ?_ (by assumption))))
  · rcases hop with hop | hop | hop | hop | hop | hop
    · (repeat (first | simp -dsimp -implicitDefEqProofs (disch := omega) only [↓rP, rQ, rO, rL, ↓reduceIte, Nat.reduceEqDiff, Nat.reduceAdd, Nat.reduceLeDiff, z01, z05, ↓tyr] | refine Cut.go ?_))
      refine (z15 x.Op _).mono ?_
      rintro _ _ ⟨rfl, rfl⟩
      (repeat (first | simp -dsimp -implicitDefEqProofs (disch := omega) only [↓rP, rQ, rO, rL, ↓reduceIte, Nat.reduceEqDiff, Nat.reduceAdd, Nat.reduceLeDiff, z01, z05, ↓tyr, hop] | refine Cut.go ?_))
      refine (z1z m.Code hm.1 hs m.thread a _).mono ?_
      rintro _ _ ⟨rfl, rfl⟩
      (repeat (first | simp -dsimp -implicitDefEqProofs (disch := omega) only [↓rP, rQ, rO, rL, ↓reduceIte, Nat.reduceEqDiff, Nat.reduceAdd, Nat.reduceLeDiff, z01, z05, ↓tyr, hop] | refine Cut.go ?_))
      rcases hin : decide (insI m.Code m.thread a < 0) with _ | _
      · (repeat (first | simp -dsimp -implicitDefEqProofs (disch := omega) only [↓rP, rQ, rO, rL, ↓reduceIte, Nat.reduceEqDiff, Nat.reduceAdd, Nat.reduceLeDiff, z01, z05, ↓tyr, hop, hin] | refine Cut.go ?_))
        refine (z2e m hm x hx a _).mono ?_
        rintro _ _ ⟨rfl, _⟩
        (repeat (first | simp -dsimp -implicitDefEqProofs (disch := omega) only [↓rP, rQ, rO, rL, ↓reduceIte, Nat.reduceEqDiff, Nat.reduceAdd, Nat.reduceLeDiff, z01, z05, ↓tyr] | refine Cut.go ?_))
        (first | (refine And.intro (by simp [kindB, hop]) ?_; (repeat (first | assumption | with_reducible exact Keeps.refl _ _ | with_reducible refine Keeps.go ?_ (Keeps.one _ _) | with_reducible refine Keeps.go ?_ (by assumption)))) | (repeat (first | assumption | with_reducible exact Keeps.refl _ _ | with_reducible refine Keeps.go ?_ (Keeps.one _ _) | with_reducible refine Keeps.go ?_ (by assumption))))
      · (repeat (first | simp -dsimp -implicitDefEqProofs (disch := omega) only [↓rP, rQ, rO, rL, ↓reduceIte, Nat.reduceEqDiff, Nat.reduceAdd, Nat.reduceLeDiff, z01, z05, ↓tyr, hop, hin] | refine Cut.go ?_))
        (first | (refine And.intro (by simp [hop]) ?_; (repeat (first | assumption | with_reducible exact Keeps.refl _ _ | with_reducible refine Keeps.go ?_ (Keeps.one _ _) | with_reducible refine Keeps.go ?_ (by assumption)))) | (repeat (first | assumption | with_reducible exact Keeps.refl _ _ | with_reducible refine Keeps.go ?_ (Keeps.one _ _) | with_reducible refine Keeps.go ?_ (by assumption))))
    · (repeat (first | simp -dsimp -implicitDefEqProofs (disch := omega) only [↓rP, rQ, rO, rL, ↓reduceIte, Nat.reduceEqDiff, Nat.reduceAdd, Nat.reduceLeDiff, z01, z05, ↓tyr] | refine Cut.go ?_))
      refine (z15 x.Op _).mono ?_
      rintro _ _ ⟨rfl, rfl⟩
      (repeat (first | simp -dsimp -implicitDefEqProofs (disch := omega) only [↓rP, rQ, rO, rL, ↓reduceIte, Nat.reduceEqDiff, Nat.reduceAdd, Nat.reduceLeDiff, z01, z05, ↓tyr, hop] | refine Cut.go ?_))
      refine (z1z m.Code hm.1 hs m.thread a _).mono ?_
      rintro _ _ ⟨rfl, rfl⟩
      (repeat (first | simp -dsimp -implicitDefEqProofs (disch := omega) only [↓rP, rQ, rO, rL, ↓reduceIte, Nat.reduceEqDiff, Nat.reduceAdd, Nat.reduceLeDiff, z01, z05, ↓tyr, hop] | refine Cut.go ?_))
      rcases hin : decide (insI m.Code m.thread a < 0) with _ | _
      · (repeat (first | simp -dsimp -implicitDefEqProofs (disch := omega) only [↓rP, rQ, rO, rL, ↓reduceIte, Nat.reduceEqDiff, Nat.reduceAdd, Nat.reduceLeDiff, z01, z05, ↓tyr, hop, hin] | refine Cut.go ?_))
        refine (z2e m hm x hx a _).mono ?_
        rintro _ _ ⟨rfl, _⟩
        (repeat (first | simp -dsimp -implicitDefEqProofs (disch := omega) only [↓rP, rQ, rO, rL, ↓reduceIte, Nat.reduceEqDiff, Nat.reduceAdd, Nat.reduceLeDiff, z01, z05, ↓tyr] | refine Cut.go ?_))
        (first | (refine And.intro (by simp [kindB, hop]) ?_; (repeat (first | assumption | with_reducible exact Keeps.refl _ _ | with_reducible refine Keeps.go ?_ (Keeps.one _ _) | with_reducible refine Keeps.go ?_ (by assumption)))) | (repeat (first | assumption | with_reducible exact Keeps.refl _ _ | with_reducible refine Keeps.go ?_ (Keeps.one _ _) | with_reducible refine Keeps.go ?_ (by assumption))))
      · (repeat (first | simp -dsimp -implicitDefEqProofs (disch := omega) only [↓rP, rQ, rO, rL, ↓reduceIte, Nat.reduceEqDiff, Nat.reduceAdd, Nat.reduceLeDiff, z01, z05, ↓tyr, hop, hin] | refine Cut.go ?_))
        (first | (refine And.intro (by simp [hop]) ?_; (repeat (first | assumption | with_reducible exact Keeps.refl _ _ | with_reducible refine Keeps.go ?_ (Keeps.one _ _) | with_reducible refine Keeps.go ?_ (by assumption)))) | (repeat (first | assumption | with_reducible exact Keeps.refl _ _ | with_reducible refine Keeps.go ?_ (Keeps.one _ _) | with_reducible refine Keeps.go ?_ (by assumption))))
    · (repeat (first | simp -dsimp -implicitDefEqProofs (disch := omega) only [↓rP, rQ, rO, rL, ↓reduceIte, Nat.reduceEqDiff, Nat.reduceAdd, Nat.reduceLeDiff, z01, z05, ↓tyr] | refine Cut.go ?_))
      refine (z15 x.Op _).mono ?_
      rintro _ _ ⟨rfl, rfl⟩
      (repeat (first | simp -dsimp -implicitDefEqProofs (disch := omega) only [↓rP, rQ, rO, rL, ↓reduceIte, Nat.reduceEqDiff, Nat.reduceAdd, Nat.reduceLeDiff, z01, z05, ↓tyr, hop] | refine Cut.go ?_))
      refine (z1z m.Code hm.1 hs m.thread a _).mono ?_
      rintro _ _ ⟨rfl, rfl⟩
      (repeat (first | simp -dsimp -implicitDefEqProofs (disch := omega) only [↓rP, rQ, rO, rL, ↓reduceIte, Nat.reduceEqDiff, Nat.reduceAdd, Nat.reduceLeDiff, z01, z05, ↓tyr, hop] | refine Cut.go ?_))
      rcases hin : decide (insI m.Code m.thread a < 0) with _ | _
      · (repeat (first | simp -dsimp -implicitDefEqProofs (disch := omega) only [↓rP, rQ, rO, rL, ↓reduceIte, Nat.reduceEqDiff, Nat.reduceAdd, Nat.reduceLeDiff, z01, z05, ↓tyr, hop, hin] | refine Cut.go ?_))
        refine (z2e m hm x hx a _).mono ?_
        rintro _ _ ⟨rfl, _⟩
        (repeat (first | simp -dsimp -implicitDefEqProofs (disch := omega) only [↓rP, rQ, rO, rL, ↓reduceIte, Nat.reduceEqDiff, Nat.reduceAdd, Nat.reduceLeDiff, z01, z05, ↓tyr] | refine Cut.go ?_))
        (first | (refine And.intro (by simp [kindB, hop]) ?_; (repeat (first | assumption | with_reducible exact Keeps.refl _ _ | with_reducible refine Keeps.go ?_ (Keeps.one _ _) | with_reducible refine Keeps.go ?_ (by assumption)))) | (repeat (first | assumption | with_reducible exact Keeps.refl _ _ | with_reducible refine Keeps.go ?_ (Keeps.one _ _) | with_reducible refine Keeps.go ?_ (by assumption))))
      · (repeat (first | simp -dsimp -implicitDefEqProofs (disch := omega) only [↓rP, rQ, rO, rL, ↓reduceIte, Nat.reduceEqDiff, Nat.reduceAdd, Nat.reduceLeDiff, z01, z05, ↓tyr, hop, hin] | refine Cut.go ?_))
        (first | (refine And.intro (by simp [hop]) ?_; (repeat (first | assumption | with_reducible exact Keeps.refl _ _ | with_reducible refine Keeps.go ?_ (Keeps.one _ _) | with_reducible refine Keeps.go ?_ (by assumption)))) | (repeat (first | assumption | with_reducible exact Keeps.refl _ _ | with_reducible refine Keeps.go ?_ (Keeps.one _ _) | with_reducible refine Keeps.go ?_ (by assumption))))
    · (repeat (first | simp -dsimp -implicitDefEqProofs (disch := omega) only [↓rP, rQ, rO, rL, ↓reduceIte, Nat.reduceEqDiff, Nat.reduceAdd, Nat.reduceLeDiff, z01, z05, ↓tyr] | refine Cut.go ?_))
      refine (z15 x.Op _).mono ?_
      rintro _ _ ⟨rfl, rfl⟩
      (repeat (first | simp -dsimp -implicitDefEqProofs (disch := omega) only [↓rP, rQ, rO, rL, ↓reduceIte, Nat.reduceEqDiff, Nat.reduceAdd, Nat.reduceLeDiff, z01, z05, ↓tyr, hop] | refine Cut.go ?_))
      refine (z2e m hm x hx a _).mono ?_
      rintro _ _ ⟨rfl, _⟩
      (repeat (first | simp -dsimp -implicitDefEqProofs (disch := omega) only [↓rP, rQ, rO, rL, ↓reduceIte, Nat.reduceEqDiff, Nat.reduceAdd, Nat.reduceLeDiff, z01, z05, ↓tyr] | refine Cut.go ?_))
      (first | (refine And.intro (by simp [kindB, hop]) ?_; (repeat (first | assumption | with_reducible exact Keeps.refl _ _ | with_reducible refine Keeps.go ?_ (Keeps.one _ _) | with_reducible refine Keeps.go ?_ (by assumption)))) | (repeat (first | assumption | with_reducible exact Keeps.refl _ _ | with_reducible refine Keeps.go ?_ (Keeps.one _ _) | with_reducible refine Keeps.go ?_ (by assumption))))
    · (repeat (first | simp -dsimp -implicitDefEqProofs (disch := omega) only [↓rP, rQ, rO, rL, ↓reduceIte, Nat.reduceEqDiff, Nat.reduceAdd, Nat.reduceLeDiff, z01, z05, ↓tyr] | refine Cut.go ?_))
      refine (z15 x.Op _).mono ?_
      rintro _ _ ⟨rfl, rfl⟩
      (repeat (first | simp -dsimp -implicitDefEqProofs (disch := omega) only [↓rP, rQ, rO, rL, ↓reduceIte, Nat.reduceEqDiff, Nat.reduceAdd, Nat.reduceLeDiff, z01, z05, ↓tyr, hop] | refine Cut.go ?_))
      refine (z1z m.Code hm.1 hs m.thread a _).mono ?_
      rintro _ _ ⟨rfl, rfl⟩
      (repeat (first | simp -dsimp -implicitDefEqProofs (disch := omega) only [↓rP, rQ, rO, rL, ↓reduceIte, Nat.reduceEqDiff, Nat.reduceAdd, Nat.reduceLeDiff, z01, z05, ↓tyr, hop] | refine Cut.go ?_))
      rcases hin : decide (insI m.Code m.thread a < 0) with _ | _
      · (repeat (first | simp -dsimp -implicitDefEqProofs (disch := omega) only [↓rP, rQ, rO, rL, ↓reduceIte, Nat.reduceEqDiff, Nat.reduceAdd, Nat.reduceLeDiff, z01, z05, ↓tyr, hop, hin] | refine Cut.go ?_))
        refine (z2e m hm x hx a _).mono ?_
        rintro _ _ ⟨rfl, _⟩
        (repeat (first | simp -dsimp -implicitDefEqProofs (disch := omega) only [↓rP, rQ, rO, rL, ↓reduceIte, Nat.reduceEqDiff, Nat.reduceAdd, Nat.reduceLeDiff, z01, z05, ↓tyr] | refine Cut.go ?_))
        (first | (refine And.intro (by simp [kindB, hop]) ?_; (repeat (first | assumption | with_reducible exact Keeps.refl _ _ | with_reducible refine Keeps.go ?_ (Keeps.one _ _) | with_reducible refine Keeps.go ?_ (by assumption)))) | (repeat (first | assumption | with_reducible exact Keeps.refl _ _ | with_reducible refine Keeps.go ?_ (Keeps.one _ _) | with_reducible refine Keeps.go ?_ (by assumption))))
      · (repeat (first | simp -dsimp -implicitDefEqProofs (disch := omega) only [↓rP, rQ, rO, rL, ↓reduceIte, Nat.reduceEqDiff, Nat.reduceAdd, Nat.reduceLeDiff, z01, z05, ↓tyr, hop, hin] | refine Cut.go ?_))
        (first | (refine And.intro (by simp [hop]) ?_; (repeat (first | assumption | with_reducible exact Keeps.refl _ _ | with_reducible refine Keeps.go ?_ (Keeps.one _ _) | with_reducible refine Keeps.go ?_ (by assumption)))) | (repeat (first | assumption | with_reducible exact Keeps.refl _ _ | with_reducible refine Keeps.go ?_ (Keeps.one _ _) | with_reducible refine Keeps.go ?_ (by assumption))))
    · (repeat (first | simp -dsimp -implicitDefEqProofs (disch := omega) only [↓rP, rQ, rO, rL, ↓reduceIte, Nat.reduceEqDiff, Nat.reduceAdd, Nat.reduceLeDiff, z01, z05, ↓tyr] | refine Cut.go ?_))
      refine (z15 x.Op _).mono ?_
      rintro _ _ ⟨rfl, rfl⟩
      (repeat (first | simp -dsimp -implicitDefEqProofs (disch := omega) only [↓rP, rQ, rO, rL, ↓reduceIte, Nat.reduceEqDiff, Nat.reduceAdd, Nat.reduceLeDiff, z01, z05, ↓tyr, hop] | refine Cut.go ?_))
      refine (z1z m.Code hm.1 hs m.thread a _).mono ?_
      rintro _ _ ⟨rfl, rfl⟩
      (repeat (first | simp -dsimp -implicitDefEqProofs (disch := omega) only [↓rP, rQ, rO, rL, ↓reduceIte, Nat.reduceEqDiff, Nat.reduceAdd, Nat.reduceLeDiff, z01, z05, ↓tyr, hop] | refine Cut.go ?_))
      rcases hin : decide (insI m.Code m.thread a < 0) with _ | _
      · (repeat (first | simp -dsimp -implicitDefEqProofs (disch := omega) only [↓rP, rQ, rO, rL, ↓reduceIte, Nat.reduceEqDiff, Nat.reduceAdd, Nat.reduceLeDiff, z01, z05, ↓tyr, hop, hin] | refine Cut.go ?_))
        refine (z2e m hm x hx a _).mono ?_
        rintro _ _ ⟨rfl, _⟩
        (repeat (first | simp -dsimp -implicitDefEqProofs (disch := omega) only [↓rP, rQ, rO, rL, ↓reduceIte, Nat.reduceEqDiff, Nat.reduceAdd, Nat.reduceLeDiff, z01, z05, ↓tyr] | refine Cut.go ?_))
        (first | (refine And.intro (by simp [kindB, hop]) ?_; (repeat (first | assumption | with_reducible exact Keeps.refl _ _ | with_reducible refine Keeps.go ?_ (Keeps.one _ _) | with_reducible refine Keeps.go ?_ (by assumption)))) | (repeat (first | assumption | with_reducible exact Keeps.refl _ _ | with_reducible refine Keeps.go ?_ (Keeps.one _ _) | with_reducible refine Keeps.go ?_ (by assumption))))
      · (repeat (first | simp -dsimp -implicitDefEqProofs (disch := omega) only [↓rP, rQ, rO, rL, ↓reduceIte, Nat.reduceEqDiff, Nat.reduceAdd, Nat.reduceLeDiff, z01, z05, ↓tyr, hop, hin] | refine Cut.go ?_))
        (first | (refine And.intro (by simp [hop]) ?_; (repeat (first | assumption | with_reducible exact Keeps.refl _ _ | with_reducible refine Keeps.go ?_ (Keeps.one _ _) | with_reducible refine Keeps.go ?_ (by assumption)))) | (repeat (first | assumption | with_reducible exact Keeps.refl _ _ | with_reducible refine Keeps.go ?_ (Keeps.one _ _) | with_reducible refine Keeps.go ?_ (by assumption))))
  · rcases hop with hop | hop | hop
    · (repeat (first | simp -dsimp -implicitDefEqProofs (disch := omega) only [↓rP, rQ, rO, rL, ↓reduceIte, Nat.reduceEqDiff, Nat.reduceAdd, Nat.reduceLeDiff, z01, z05, ↓tyr] | refine Cut.go ?_))
      refine (z15 x.Op _).mono ?_
      rintro _ _ ⟨rfl, rfl⟩
      (repeat (first | simp -dsimp -implicitDefEqProofs (disch := omega) only [↓rP, rQ, rO, rL, ↓reduceIte, Nat.reduceEqDiff, Nat.reduceAdd, Nat.reduceLeDiff, z01, z05, ↓tyr, hop] | refine Cut.go ?_))
      refine (z1z m.Code hm.1 hs m.thread a _).mono ?_
      rintro _ _ ⟨rfl, rfl⟩
      (repeat (first | simp -dsimp -implicitDefEqProofs (disch := omega) only [↓rP, rQ, rO, rL, ↓reduceIte, Nat.reduceEqDiff, Nat.reduceAdd, Nat.reduceLeDiff, z01, z05, ↓tyr, hop] | refine Cut.go ?_))
      rcases hin : decide (insI m.Code m.thread a < 0) with _ | _
      · (repeat (first | simp -dsimp -implicitDefEqProofs (disch := omega) only [↓rP, rQ, rO, rL, ↓reduceIte, Nat.reduceEqDiff, Nat.reduceAdd, Nat.reduceLeDiff, z01, z05, ↓tyr, hop, hin] | refine Cut.go ?_))
        refine (z4z m hm x hx _).mono ?_
        rintro _ _ ⟨rfl, _⟩
        (repeat (first | simp -dsimp -implicitDefEqProofs (disch := omega) only [↓rP, rQ, rO, rL, ↓reduceIte, Nat.reduceEqDiff, Nat.reduceAdd, Nat.reduceLeDiff, z01, z05, ↓tyr] | refine Cut.go ?_))
        (first | (refine And.intro (by simp [kindB, hop]) ?_; (repeat (first | assumption | with_reducible exact Keeps.refl _ _ | with_reducible refine Keeps.go ?_ (Keeps.one _ _) | with_reducible refine Keeps.go ?_ (by assumption)))) | (repeat (first | assumption | with_reducible exact Keeps.refl _ _ | with_reducible refine Keeps.go ?_ (Keeps.one _ _) | with_reducible refine Keeps.go ?_ (by assumption))))
      · (repeat (first | simp -dsimp -implicitDefEqProofs (disch := omega) only [↓rP, rQ, rO, rL, ↓reduceIte, Nat.reduceEqDiff, Nat.reduceAdd, Nat.reduceLeDiff, z01, z05, ↓tyr, hop, hin] | refine Cut.go ?_))
        (first | (refine And.intro (by simp [hop]) ?_; (repeat (first | assumption | with_reducible exact Keeps.refl _ _ | with_reducible refine Keeps.go ?_ (Keeps.one _ _) | with_reducible refine Keeps.go ?_ (by assumption)))) | (repeat (first | assumption | with_reducible exact Keeps.refl _ _ | with_reducible refine Keeps.go ?_ (Keeps.one _ _) | with_reducible refine Keeps.go ?_ (by assumption))))
    · (repeat (first | simp -dsimp -implicitDefEqProofs (disch := omega) only [↓rP, rQ, rO, rL, ↓reduceIte, Nat.reduceEqDiff, Nat.reduceAdd, Nat.reduceLeDiff, z01, z05, ↓tyr] | refine Cut.go ?_))
      refine (z15 x.Op _).mono ?_
      rintro _ _ ⟨rfl, rfl⟩
      (repeat (first | simp -dsimp -implicitDefEqProofs (disch := omega) only [↓rP, rQ, rO, rL, ↓reduceIte, Nat.reduceEqDiff, Nat.reduceAdd, Nat.reduceLeDiff, z01, z05, ↓tyr, hop] | refine Cut.go ?_))
      refine (z1z m.Code hm.1 hs m.thread a _).mono ?_
      rintro _ _ ⟨rfl, rfl⟩
      (repeat (first | simp -dsimp -implicitDefEqProofs (disch := omega) only [↓rP, rQ, rO, rL, ↓reduceIte, Nat.reduceEqDiff, Nat.reduceAdd, Nat.reduceLeDiff, z01, z05, ↓tyr, hop] | refine Cut.go ?_))
      rcases hin : decide (insI m.Code m.thread a < 0) with _ | _
      · (repeat (first | simp -dsimp -implicitDefEqProofs (disch := omega) only [↓rP, rQ, rO, rL, ↓reduceIte, Nat.reduceEqDiff, Nat.reduceAdd, Nat.reduceLeDiff, z01, z05, ↓tyr, hop, hin] | refine Cut.go ?_))
        refine (z4z m hm x hx _).mono ?_
        rintro _ _ ⟨rfl, _⟩
        (repeat (first | simp -dsimp -implicitDefEqProofs (disch := omega) only [↓rP, rQ, rO, rL, ↓reduceIte, Nat.reduceEqDiff, Nat.reduceAdd, Nat.reduceLeDiff, z01, z05, ↓tyr] | refine Cut.go ?_))
        (first | (refine And.intro (by simp [kindB, hop]) ?_; (repeat (first | assumption | with_reducible exact Keeps.refl _ _ | with_reducible refine Keeps.go ?_ (Keeps.one _ _) | with_reducible refine Keeps.go ?_ (by assumption)))) | (repeat (first | assumption | with_reducible exact Keeps.refl _ _ | with_reducible refine Keeps.go ?_ (Keeps.one _ _) | with_reducible refine Keeps.go ?_ (by assumption))))
      · (repeat (first | simp -dsimp -implicitDefEqProofs (disch := omega) only [↓rP, rQ, rO, rL, ↓reduceIte, Nat.reduceEqDiff, Nat.reduceAdd, Nat.reduceLeDiff, z01, z05, ↓tyr, hop, hin] | refine Cut.go ?_))
        (first | (refine And.intro (by simp [hop]) ?_; (repeat (first | assumption | with_reducible exact Keeps.refl _ _ | with_reducible refine Keeps.go ?_ (Keeps.one _ _) | with_reducible refine Keeps.go ?_ (by assumption)))) | (repeat (first | assumption | with_reducible exact Keeps.refl _ _ | with_reducible refine Keeps.go ?_ (Keeps.one _ _) | with_reducible refine Keeps.go ?_ (by assumption))))
    · (repeat (first | simp -dsimp -implicitDefEqProofs (disch := omega) only [↓rP, rQ, rO, rL, ↓reduceIte, Nat.reduceEqDiff, Nat.reduceAdd, Nat.reduceLeDiff, z01, z05, ↓tyr] | refine Cut.go ?_))
      refine (z15 x.Op _).mono ?_
      rintro _ _ ⟨rfl, rfl⟩
      (repeat (first | simp -dsimp -implicitDefEqProofs (disch := omega) only [↓rP, rQ, rO, rL, ↓reduceIte, Nat.reduceEqDiff, Nat.reduceAdd, Nat.reduceLeDiff, z01, z05, ↓tyr, hop] | refine Cut.go ?_))
      refine (z1z m.Code hm.1 hs m.thread a _).mono ?_
      rintro _ _ ⟨rfl, rfl⟩
      (repeat (first | simp -dsimp -implicitDefEqProofs (disch := omega) only [↓rP, rQ, rO, rL, ↓reduceIte, Nat.reduceEqDiff, Nat.reduceAdd, Nat.reduceLeDiff, z01, z05, ↓tyr, hop] | refine Cut.go ?_))
      rcases hin : decide (insI m.Code m.thread a < 0) with _ | _
      · (repeat (first | simp -dsimp -implicitDefEqProofs (disch := omega) only [↓rP, rQ, rO, rL, ↓reduceIte, Nat.reduceEqDiff, Nat.reduceAdd, Nat.reduceLeDiff, z01, z05, ↓tyr, hop, hin] | refine Cut.go ?_))
        refine (z4z m hm x hx _).mono ?_
        rintro _ _ ⟨rfl, _⟩
        (repeat (first | simp -dsimp -implicitDefEqProofs (disch := omega) only [↓rP, rQ, rO, rL, ↓reduceIte, Nat.reduceEqDiff, Nat.reduceAdd, Nat.reduceLeDiff, z01, z05, ↓tyr] | refine Cut.go ?_))
        (first | (refine And.intro (by simp [kindB, hop]) ?_; (repeat (first | assumption | with_reducible exact Keeps.refl _ _ | with_reducible refine Keeps.go ?_ (Keeps.one _ _) | with_reducible refine Keeps.go ?_ (by assumption)))) | (repeat (first | assumption | with_reducible exact Keeps.refl _ _ | with_reducible refine Keeps.go ?_ (Keeps.one _ _) | with_reducible refine Keeps.go ?_ (by assumption))))
      · (repeat (first | simp -dsimp -implicitDefEqProofs (disch := omega) only [↓rP, rQ, rO, rL, ↓reduceIte, Nat.reduceEqDiff, Nat.reduceAdd, Nat.reduceLeDiff, z01, z05, ↓tyr, hop, hin] | refine Cut.go ?_))
        (first | (refine And.intro (by simp [hop]) ?_; (repeat (first | assumption | with_reducible exact Keeps.refl _ _ | with_reducible refine Keeps.go ?_ (Keeps.one _ _) | with_reducible refine Keeps.go ?_ (by assumption)))) | (repeat (first | assumption | with_reducible exact Keeps.refl _ _ | with_reducible refine Keeps.go ?_ (Keeps.one _ _) | with_reducible refine Keeps.go ?_ (by assumption))))
  · rcases hop with hop | hop
    · (repeat (first | simp -dsimp -implicitDefEqProofs (disch := omega) only [↓rP, rQ, rO, rL, ↓reduceIte, Nat.reduceEqDiff, Nat.reduceAdd, Nat.reduceLeDiff, z01, z05, ↓tyr] | refine Cut.go ?_))
      refine (z15 x.Op _).mono ?_
      rintro _ _ ⟨rfl, rfl⟩
      (repeat (first | simp -dsimp -implicitDefEqProofs (disch := omega) only [↓rP, rQ, rO, rL, ↓reduceIte, Nat.reduceEqDiff, Nat.reduceAdd, Nat.reduceLeDiff, z01, z05, ↓tyr, hop] | refine Cut.go ?_))
      have hk : (!((decide (2 ≤ x.Op) && decide (x.Op ≤ 9)) && decide (insI m.Code m.thread a < 0)) && kindB m.Code m.thread m.body x a) = (z14 x false false false false false true false && z2h m.body x.Items) := by simp [kindB, hop]
      rw [hk]
      refine (plain_0000010 x _).mono ?_
      rintro _ _ ⟨rfl, rfl⟩
      (repeat (first | simp -dsimp -implicitDefEqProofs (disch := omega) only [↓rP, rQ, rO, rL, ↓reduceIte, Nat.reduceEqDiff, Nat.reduceAdd, Nat.reduceLeDiff, z01, z05, ↓tyr, hop] | refine Cut.go ?_))
      rcases hp : z14 x false false false false false true false with _ | _
      · (repeat (first | simp -dsimp -implicitDefEqProofs (disch := omega) only [↓rP, rQ, rO, rL, ↓reduceIte, Nat.reduceEqDiff, Nat.reduceAdd, Nat.reduceLeDiff, z01, z05, ↓tyr] | refine Cut.go ?_))
        try simp only [Bool.false_and, Bool.and_false, Bool.and_true, Bool.true_and, true_and]
        (repeat (first | assumption | with_reducible exact Keeps.refl _ _ | with_reducible refine Keeps.go ?_ (Keeps.one _ _) | with_reducible refine Keeps.go ?_ (by assumption)))
      (repeat (first | simp -dsimp -implicitDefEqProofs (disch := omega) only [↓rP, rQ, rO, rL, ↓reduceIte, Nat.reduceEqDiff, Nat.reduceAdd, Nat.reduceLeDiff, z01, z05, ↓tyr] | refine Cut.go ?_))
      refine (z1i m hm x.Items hit _).mono ?_
      rintro _ _ ⟨rfl, _⟩
      (repeat (first | simp -dsimp -implicitDefEqProofs (disch := omega) only [↓rP, rQ, rO, rL, ↓reduceIte, Nat.reduceEqDiff, Nat.reduceAdd, Nat.reduceLeDiff, z01, z05, ↓tyr] | refine Cut.go ?_))
      (first | (refine And.intro (by simp) ?_; (repeat (first | assumption | with_reducible exact Keeps.refl _ _ | with_reducible refine Keeps.go ?_ (Keeps.one _ _) | with_reducible refine Keeps.go ?_ (by assumption)))) | (repeat (first | assumption | with_reducible exact Keeps.refl _ _ | with_reducible refine Keeps.go ?_ (Keeps.one _ _) | with_reducible refine Keeps.go ?_ (by assumption))))
    · (repeat (first | simp -dsimp -implicitDefEqProofs (disch := omega) only [↓rP, rQ, rO, rL, ↓reduceIte, Nat.reduceEqDiff, Nat.reduceAdd, Nat.reduceLeDiff, z01, z05, ↓tyr] | refine Cut.go ?_))
      refine (z15 x.Op _).mono ?_
      rintro _ _ ⟨rfl, rfl⟩
      (repeat (first | simp -dsimp -implicitDefEqProofs (disch := omega) only [↓rP, rQ, rO, rL, ↓reduceIte, Nat.reduceEqDiff, Nat.reduceAdd, Nat.reduceLeDiff, z01, z05, ↓tyr, hop] | refine Cut.go ?_))
      have hk : (!((decide (2 ≤ x.Op) && decide (x.Op ≤ 9)) && decide (insI m.Code m.thread a < 0)) && kindB m.Code m.thread m.body x a) = (z14 x false false false false false true false && z2h m.body x.Items) := by simp [kindB, hop]
      rw [hk]
      refine (plain_0000010 x _).mono ?_
      rintro _ _ ⟨rfl, rfl⟩
      (repeat (first | simp -dsimp -implicitDefEqProofs (disch := omega) only [↓rP, rQ, rO, rL, ↓reduceIte, Nat.reduceEqDiff, Nat.reduceAdd, Nat.reduceLeDiff, z01, z05, ↓tyr, hop] | refine Cut.go ?_))
      rcases hp : z14 x false false false false false true false with _ | _
      · (repeat (first | simp -dsimp -implicitDefEqProofs (disch := omega) only [↓rP, rQ, rO, rL, ↓reduceIte, Nat.reduceEqDiff, Nat.reduceAdd, Nat.reduceLeDiff, z01, z05, ↓tyr] | refine Cut.go ?_))
        try simp only [Bool.false_and, Bool.and_false, Bool.and_true, Bool.true_and, true_and]
        (repeat (first | assumption | with_reducible exact Keeps.refl _ _ | with_reducible refine Keeps.go ?_ (Keeps.one _ _) | with_reducible refine Keeps.go ?_ (by assumption)))
      (repeat (first | simp -dsimp -implicitDefEqProofs (disch := omega) only [↓rP, rQ, rO, rL, ↓reduceIte, Nat.reduceEqDiff, Nat.reduceAdd, Nat.reduceLeDiff, z01, z05, ↓tyr] | refine Cut.go ?_))
      refine (z1i m hm x.Items hit _).mono ?_
      rintro _ _ ⟨rfl, _⟩
      (repeat (first | simp -dsimp -implicitDefEqProofs (disch := omega) only [↓rP, rQ, rO, rL, ↓reduceIte, Nat.reduceEqDiff, Nat.reduceAdd, Nat.reduceLeDiff, z01, z05, ↓tyr] | refine Cut.go ?_))
      (first | (refine And.intro (by simp) ?_; (repeat (first | assumption | with_reducible exact Keeps.refl _ _ | with_reducible refine Keeps.go ?_ (Keeps.one _ _) | with_reducible refine Keeps.go ?_ (by assumption)))) | (repeat (first | assumption | with_reducible exact Keeps.refl _ _ | with_reducible refine Keeps.go ?_ (Keeps.one _ _) | with_reducible refine Keeps.go ?_ (by assumption))))
  · (repeat (first | simp -dsimp -implicitDefEqProofs (disch := omega) only [↓rP, rQ, rO, rL, ↓reduceIte, Nat.reduceEqDiff, Nat.reduceAdd, Nat.reduceLeDiff, z01, z05, ↓tyr] | refine Cut.go ?_))
    refine (z15 x.Op _).mono ?_
    rintro _ _ ⟨rfl, rfl⟩
    (repeat (first | simp -dsimp -implicitDefEqProofs (disch := omega) only [↓rP, rQ, rO, rL, ↓reduceIte, Nat.reduceEqDiff, Nat.reduceAdd, Nat.reduceLeDiff, z01, z05, ↓tyr, hop] | refine Cut.go ?_))
    have hk : (!((decide (2 ≤ x.Op) && decide (x.Op ≤ 9)) && decide (insI m.Code m.thread a < 0)) && kindB m.Code m.thread m.body x a) = (z14 x false false false false true false false && goesB m.Code m.thread m.body a x.To) := by simp [kindB, hop]
    rw [hk]
    refine (plain_0000100 x _).mono ?_
    rintro _ _ ⟨rfl, rfl⟩
    (repeat (first | simp -dsimp -implicitDefEqProofs (disch := omega) only [↓rP, rQ, rO, rL, ↓reduceIte, Nat.reduceEqDiff, Nat.reduceAdd, Nat.reduceLeDiff, z01, z05, ↓tyr, hop] | refine Cut.go ?_))
    rcases hp : z14 x false false false false true false false with _ | _
    · (repeat (first | simp -dsimp -implicitDefEqProofs (disch := omega) only [↓rP, rQ, rO, rL, ↓reduceIte, Nat.reduceEqDiff, Nat.reduceAdd, Nat.reduceLeDiff, z01, z05, ↓tyr] | refine Cut.go ?_))
      try simp only [Bool.false_and, Bool.and_false, Bool.and_true, Bool.true_and, true_and]
      (repeat (first | assumption | with_reducible exact Keeps.refl _ _ | with_reducible refine Keeps.go ?_ (Keeps.one _ _) | with_reducible refine Keeps.go ?_ (by assumption)))
    (repeat (first | simp -dsimp -implicitDefEqProofs (disch := omega) only [↓rP, rQ, rO, rL, ↓reduceIte, Nat.reduceEqDiff, Nat.reduceAdd, Nat.reduceLeDiff, z01, z05, ↓tyr] | refine Cut.go ?_))
    refine (code_maker_goes_does m hm hs a x.To _).mono ?_
    rintro _ _ ⟨rfl, rfl⟩
    (repeat (first | simp -dsimp -implicitDefEqProofs (disch := omega) only [↓rP, rQ, rO, rL, ↓reduceIte, Nat.reduceEqDiff, Nat.reduceAdd, Nat.reduceLeDiff, z01, z05, ↓tyr] | refine Cut.go ?_))
    (first | (refine And.intro (by simp) ?_; (repeat (first | assumption | with_reducible exact Keeps.refl _ _ | with_reducible refine Keeps.go ?_ (Keeps.one _ _) | with_reducible refine Keeps.go ?_ (by assumption)))) | (repeat (first | assumption | with_reducible exact Keeps.refl _ _ | with_reducible refine Keeps.go ?_ (Keeps.one _ _) | with_reducible refine Keeps.go ?_ (by assumption))))
  · (repeat (first | simp -dsimp -implicitDefEqProofs (disch := omega) only [↓rP, rQ, rO, rL, ↓reduceIte, Nat.reduceEqDiff, Nat.reduceAdd, Nat.reduceLeDiff, z01, z05, ↓tyr] | refine Cut.go ?_))
    refine (z15 x.Op _).mono ?_
    rintro _ _ ⟨rfl, rfl⟩
    (repeat (first | simp -dsimp -implicitDefEqProofs (disch := omega) only [↓rP, rQ, rO, rL, ↓reduceIte, Nat.reduceEqDiff, Nat.reduceAdd, Nat.reduceLeDiff, z01, z05, ↓tyr, hop] | refine Cut.go ?_))
    have hk : (!((decide (2 ≤ x.Op) && decide (x.Op ≤ 9)) && decide (insI m.Code m.thread a < 0)) && kindB m.Code m.thread m.body x a) = (z14 x false false false false true true false && goesB m.Code m.thread m.body a x.To && z2h m.body x.Items) := by simp [kindB, hop]
    rw [hk]
    refine (plain_0000110 x _).mono ?_
    rintro _ _ ⟨rfl, rfl⟩
    (repeat (first | simp -dsimp -implicitDefEqProofs (disch := omega) only [↓rP, rQ, rO, rL, ↓reduceIte, Nat.reduceEqDiff, Nat.reduceAdd, Nat.reduceLeDiff, z01, z05, ↓tyr, hop] | refine Cut.go ?_))
    rcases hp : z14 x false false false false true true false with _ | _
    · (repeat (first | simp -dsimp -implicitDefEqProofs (disch := omega) only [↓rP, rQ, rO, rL, ↓reduceIte, Nat.reduceEqDiff, Nat.reduceAdd, Nat.reduceLeDiff, z01, z05, ↓tyr] | refine Cut.go ?_))
      try simp only [Bool.false_and, Bool.and_false, Bool.and_true, Bool.true_and, true_and]
      (repeat (first | assumption | with_reducible exact Keeps.refl _ _ | with_reducible refine Keeps.go ?_ (Keeps.one _ _) | with_reducible refine Keeps.go ?_ (by assumption)))
    (repeat (first | simp -dsimp -implicitDefEqProofs (disch := omega) only [↓rP, rQ, rO, rL, ↓reduceIte, Nat.reduceEqDiff, Nat.reduceAdd, Nat.reduceLeDiff, z01, z05, ↓tyr] | refine Cut.go ?_))
    refine (code_maker_goes_does m hm hs a x.To _).mono ?_
    rintro _ _ ⟨rfl, rfl⟩
    (repeat (first | simp -dsimp -implicitDefEqProofs (disch := omega) only [↓rP, rQ, rO, rL, ↓reduceIte, Nat.reduceEqDiff, Nat.reduceAdd, Nat.reduceLeDiff, z01, z05, ↓tyr] | refine Cut.go ?_))
    rcases hg : goesB m.Code m.thread m.body a x.To with _ | _
    · (repeat (first | simp -dsimp -implicitDefEqProofs (disch := omega) only [↓rP, rQ, rO, rL, ↓reduceIte, Nat.reduceEqDiff, Nat.reduceAdd, Nat.reduceLeDiff, z01, z05, ↓tyr] | refine Cut.go ?_))
      try simp only [Bool.false_and, Bool.and_false, Bool.and_true, Bool.true_and, true_and]
      (repeat (first | assumption | with_reducible exact Keeps.refl _ _ | with_reducible refine Keeps.go ?_ (Keeps.one _ _) | with_reducible refine Keeps.go ?_ (by assumption)))
    (repeat (first | simp -dsimp -implicitDefEqProofs (disch := omega) only [↓rP, rQ, rO, rL, ↓reduceIte, Nat.reduceEqDiff, Nat.reduceAdd, Nat.reduceLeDiff, z01, z05, ↓tyr] | refine Cut.go ?_))
    refine (z1i m hm x.Items hit _).mono ?_
    rintro _ _ ⟨rfl, _⟩
    (repeat (first | simp -dsimp -implicitDefEqProofs (disch := omega) only [↓rP, rQ, rO, rL, ↓reduceIte, Nat.reduceEqDiff, Nat.reduceAdd, Nat.reduceLeDiff, z01, z05, ↓tyr] | refine Cut.go ?_))
    (first | (refine And.intro (by simp) ?_; (repeat (first | assumption | with_reducible exact Keeps.refl _ _ | with_reducible refine Keeps.go ?_ (Keeps.one _ _) | with_reducible refine Keeps.go ?_ (by assumption)))) | (repeat (first | assumption | with_reducible exact Keeps.refl _ _ | with_reducible refine Keeps.go ?_ (Keeps.one _ _) | with_reducible refine Keeps.go ?_ (by assumption))))
  · rcases hop with hop | hop
    · (repeat (first | simp -dsimp -implicitDefEqProofs (disch := omega) only [↓rP, rQ, rO, rL, ↓reduceIte, Nat.reduceEqDiff, Nat.reduceAdd, Nat.reduceLeDiff, z01, z05, ↓tyr] | refine Cut.go ?_))
      refine (z15 x.Op _).mono ?_
      rintro _ _ ⟨rfl, rfl⟩
      (repeat (first | simp -dsimp -implicitDefEqProofs (disch := omega) only [↓rP, rQ, rO, rL, ↓reduceIte, Nat.reduceEqDiff, Nat.reduceAdd, Nat.reduceLeDiff, z01, z05, ↓tyr, hop] | refine Cut.go ?_))
      refine (code_maker_border_does m x a _).mono ?_
      rintro _ _ ⟨rfl, _⟩
      (repeat (first | simp -dsimp -implicitDefEqProofs (disch := omega) only [↓rP, rQ, rO, rL, ↓reduceIte, Nat.reduceEqDiff, Nat.reduceAdd, Nat.reduceLeDiff, z01, z05, ↓tyr, hop] | refine Cut.go ?_))
      (first | (refine And.intro (by simp [kindB, hop]) ?_; (repeat (first | assumption | with_reducible exact Keeps.refl _ _ | with_reducible refine Keeps.go ?_ (Keeps.one _ _) | with_reducible refine Keeps.go ?_ (by assumption)))) | (repeat (first | assumption | with_reducible exact Keeps.refl _ _ | with_reducible refine Keeps.go ?_ (Keeps.one _ _) | with_reducible refine Keeps.go ?_ (by assumption))))
    · (repeat (first | simp -dsimp -implicitDefEqProofs (disch := omega) only [↓rP, rQ, rO, rL, ↓reduceIte, Nat.reduceEqDiff, Nat.reduceAdd, Nat.reduceLeDiff, z01, z05, ↓tyr] | refine Cut.go ?_))
      refine (z15 x.Op _).mono ?_
      rintro _ _ ⟨rfl, rfl⟩
      (repeat (first | simp -dsimp -implicitDefEqProofs (disch := omega) only [↓rP, rQ, rO, rL, ↓reduceIte, Nat.reduceEqDiff, Nat.reduceAdd, Nat.reduceLeDiff, z01, z05, ↓tyr, hop] | refine Cut.go ?_))
      refine (code_maker_border_does m x a _).mono ?_
      rintro _ _ ⟨rfl, _⟩
      (repeat (first | simp -dsimp -implicitDefEqProofs (disch := omega) only [↓rP, rQ, rO, rL, ↓reduceIte, Nat.reduceEqDiff, Nat.reduceAdd, Nat.reduceLeDiff, z01, z05, ↓tyr, hop] | refine Cut.go ?_))
      (first | (refine And.intro (by simp [kindB, hop]) ?_; (repeat (first | assumption | with_reducible exact Keeps.refl _ _ | with_reducible refine Keeps.go ?_ (Keeps.one _ _) | with_reducible refine Keeps.go ?_ (by assumption)))) | (repeat (first | assumption | with_reducible exact Keeps.refl _ _ | with_reducible refine Keeps.go ?_ (Keeps.one _ _) | with_reducible refine Keeps.go ?_ (by assumption))))
  · (repeat (first | simp -dsimp -implicitDefEqProofs (disch := omega) only [↓rP, rQ, rO, rL, ↓reduceIte, Nat.reduceEqDiff, Nat.reduceAdd, Nat.reduceLeDiff, z01, z05, ↓tyr] | refine Cut.go ?_))
    refine (z15 x.Op _).mono ?_
    rintro _ _ ⟨rfl, rfl⟩
    (repeat (first | simp -dsimp -implicitDefEqProofs (disch := omega) only [↓rP, rQ, rO, rL, ↓reduceIte, Nat.reduceEqDiff, Nat.reduceAdd, Nat.reduceLeDiff, z01, z05, ↓tyr, hop] | refine Cut.go ?_))
    have hk : (!((decide (2 ≤ x.Op) && decide (x.Op ≤ 9)) && decide (insI m.Code m.thread a < 0)) && kindB m.Code m.thread m.body x a) = (z14 x false false false false false false false && decide (a = (slL m.body.Code).length - 1)) := by simp [kindB, hop]
    rw [hk]
    refine (plain_0000000 x _).mono ?_
    rintro _ _ ⟨rfl, rfl⟩
    (repeat (first | simp -dsimp -implicitDefEqProofs (disch := omega) only [↓rP, rQ, rO, rL, ↓reduceIte, Nat.reduceEqDiff, Nat.reduceAdd, Nat.reduceLeDiff, z01, z05, ↓tyr, hop] | refine Cut.go ?_))
    rcases hp : z14 x false false false false false false false with _ | _
    · (repeat (first | simp -dsimp -implicitDefEqProofs (disch := omega) only [↓rP, rQ, rO, rL, ↓reduceIte, Nat.reduceEqDiff, Nat.reduceAdd, Nat.reduceLeDiff, z01, z05, ↓tyr] | refine Cut.go ?_))
      try simp only [Bool.false_and, Bool.and_false, Bool.and_true, Bool.true_and, true_and]
      (repeat (first | assumption | with_reducible exact Keeps.refl _ _ | with_reducible refine Keeps.go ?_ (Keeps.one _ _) | with_reducible refine Keeps.go ?_ (by assumption)))
    (repeat (first | simp -dsimp -implicitDefEqProofs (disch := omega) only [↓rP, rQ, rO, rL, ↓reduceIte, Nat.reduceEqDiff, Nat.reduceAdd, Nat.reduceLeDiff, z01, z05, ↓tyr] | refine Cut.go ?_))
    (first | (refine And.intro (by simp [beqI]) ?_; (repeat (first | assumption | with_reducible exact Keeps.refl _ _ | with_reducible refine Keeps.go ?_ (Keeps.one _ _) | with_reducible refine Keeps.go ?_ (by assumption)))) | (repeat (first | assumption | with_reducible exact Keeps.refl _ _ | with_reducible refine Keeps.go ?_ (Keeps.one _ _) | with_reducible refine Keeps.go ?_ (by assumption))))
  · have hk : (!((decide (2 ≤ x.Op) && decide (x.Op ≤ 9)) && decide (insI m.Code m.thread a < 0)) && kindB m.Code m.thread m.body x a) = false := by
      unfold kindB
      rw [if_neg (by omega), if_neg (by omega), if_neg (by omega), if_neg (by omega), if_neg (by omega), if_neg (by omega), if_neg (by omega)]
      have : decide (x.Op = 17) = false := decide_eq_false (by omega)
      simp [this]
    rw [hk]
    have hsh : (decide (2 ≤ x.Op) && decide (x.Op ≤ 9)) = false := by
      rw [Bool.eq_false_iff]; simp only [ne_eq, Bool.and_eq_true, decide_eq_true_eq]; omega
    (repeat (first | simp -dsimp -implicitDefEqProofs (disch := omega) only [↓rP, rQ, rO, rL, ↓reduceIte, Nat.reduceEqDiff, Nat.reduceAdd, Nat.reduceLeDiff, z01, z05, ↓tyr] | refine Cut.go ?_))
    refine (z15 x.Op _).mono ?_
    rintro _ _ ⟨rfl, rfl⟩
    (repeat (first | simp -dsimp -implicitDefEqProofs (disch := omega) only [↓rP, rQ, rO, rL, ↓reduceIte, Nat.reduceEqDiff, Nat.reduceAdd, Nat.reduceLeDiff, z01, z05, ↓tyr, hsh] | refine Cut.go ?_))
    (first | (refine And.intro (by simp) ?_; (repeat (first | assumption | with_reducible exact Keeps.refl _ _ | with_reducible refine Keeps.go ?_ (Keeps.one _ _) | with_reducible refine Keeps.go ?_ (by assumption)))) | (repeat (first | assumption | with_reducible exact Keeps.refl _ _ | with_reducible refine Keeps.go ?_ (Keeps.one _ _) | with_reducible refine Keeps.go ?_ (by assumption))))
end Go.Proofs.YtopfjochppdnfaaDoor
end

section
/- What the program's functions of codes compute: threads. -/
set_option maxRecDepth 100000
set_option maxHeartbeats 1000000
namespace Go.Proofs.YtopfjochppdnfaaDoor
open Go.Abs
theorem ok_instr {m : z0f} (hm : m.ok) {x : In} (hx : x ∈ slL m.body.Code) : x.ok := hm.2.2.2.1.2 x hx
theorem code_maker_all_does (m : z0f) (hm : m.ok) (hs : (slL m.Code.Sections).length ≤ 1000000) (h : z04) : z03 Tryd.prog 48 [.agg m.cells] h (fun v h2 => v = .bool (threadB m.Code m.thread m.body) ∧ Keeps h h2 (fun _ => False)) := by
  apply code_maker_all_wp
  have e0 : threadB m.Code m.thread m.body = (decide ((slL m.body.Slots).length ≤ 64) && (decide (1 ≤ (slL m.body.Code).length) && (decide ((slL m.body.Code).length ≤ 256) && (decide (0 ≤ m.body.Most) && (decide (m.body.Most ≤ 4096) && (lastB m.body && ((slL m.body.Slots).all (z19 m.Code) && instrsB m.Code m.thread m.body))))))) := by
    unfold threadB bodyB
    simp only [Bool.and_assoc]
    congr 5
    rw [Bool.and_left_comm]
  rw [e0]
  have stop : ∀ (b r : Bool), b = false → (b && r) = false := fun b r e => by rw [e]; rfl
  (repeat simp -dsimp -implicitDefEqProofs (disch := omega) only [↓rP, rQ, rO, rL, ↓reduceIte, Nat.reduceEqDiff, Nat.reduceAdd, Nat.reduceLeDiff, z01, z05, ↓tyr])
  refine z0e (fun h1 => ?_) (fun h1 => ?_)
  · (repeat simp -dsimp -implicitDefEqProofs (disch := omega) only [↓rP, rQ, rO, rL, ↓reduceIte, Nat.reduceEqDiff, Nat.reduceAdd, Nat.reduceLeDiff, z01, z05, ↓tyr])
    try rw [decide_eq_false (by omega : ¬ (slL m.body.Slots).length ≤ 64)]
    (first | (refine And.intro (by simp) ?_; (repeat (first | assumption | with_reducible exact Keeps.refl _ _ | with_reducible refine Keeps.go ?_ (Keeps.one _ _) | with_reducible refine Keeps.go ?_ (by assumption)))) | (repeat (first | assumption | with_reducible exact Keeps.refl _ _ | with_reducible refine Keeps.go ?_ (Keeps.one _ _) | with_reducible refine Keeps.go ?_ (by assumption))))
  rw [decide_eq_true (by omega : (slL m.body.Slots).length ≤ 64)]
  (repeat simp -dsimp -implicitDefEqProofs (disch := omega) only [↓rP, rQ, rO, rL, ↓reduceIte, Nat.reduceEqDiff, Nat.reduceAdd, Nat.reduceLeDiff, z01, z05, ↓tyr])
  refine z0e (fun h2 => ?_) (fun h2 => ?_)
  · (repeat simp -dsimp -implicitDefEqProofs (disch := omega) only [↓rP, rQ, rO, rL, ↓reduceIte, Nat.reduceEqDiff, Nat.reduceAdd, Nat.reduceLeDiff, z01, z05, ↓tyr])
    try rw [decide_eq_false (by omega : ¬ 1 ≤ (slL m.body.Code).length)]
    (first | (refine And.intro (by simp) ?_; (repeat (first | assumption | with_reducible exact Keeps.refl _ _ | with_reducible refine Keeps.go ?_ (Keeps.one _ _) | with_reducible refine Keeps.go ?_ (by assumption)))) | (repeat (first | assumption | with_reducible exact Keeps.refl _ _ | with_reducible refine Keeps.go ?_ (Keeps.one _ _) | with_reducible refine Keeps.go ?_ (by assumption))))
  rw [decide_eq_true (by omega : 1 ≤ (slL m.body.Code).length)]
  (repeat simp -dsimp -implicitDefEqProofs (disch := omega) only [↓rP, rQ, rO, rL, ↓reduceIte, Nat.reduceEqDiff, Nat.reduceAdd, Nat.reduceLeDiff, z01, z05, ↓tyr])
  refine z0e (fun h3 => ?_) (fun h3 => ?_)
  · (repeat simp -dsimp -implicitDefEqProofs (disch := omega) only [↓rP, rQ, rO, rL, ↓reduceIte, Nat.reduceEqDiff, Nat.reduceAdd, Nat.reduceLeDiff, z01, z05, ↓tyr])
    try rw [decide_eq_false (by omega : ¬ (slL m.body.Code).length ≤ 256)]
    (first | (refine And.intro (by simp) ?_; (repeat (first | assumption | with_reducible exact Keeps.refl _ _ | with_reducible refine Keeps.go ?_ (Keeps.one _ _) | with_reducible refine Keeps.go ?_ (by assumption)))) | (repeat (first | assumption | with_reducible exact Keeps.refl _ _ | with_reducible refine Keeps.go ?_ (Keeps.one _ _) | with_reducible refine Keeps.go ?_ (by assumption))))
  rw [decide_eq_true (by omega : (slL m.body.Code).length ≤ 256)]
  (repeat simp -dsimp -implicitDefEqProofs (disch := omega) only [↓rP, rQ, rO, rL, ↓reduceIte, Nat.reduceEqDiff, Nat.reduceAdd, Nat.reduceLeDiff, z01, z05, ↓tyr])
  refine z0e (fun h4 => ?_) (fun h4 => ?_)
  · (repeat simp -dsimp -implicitDefEqProofs (disch := omega) only [↓rP, rQ, rO, rL, ↓reduceIte, Nat.reduceEqDiff, Nat.reduceAdd, Nat.reduceLeDiff, z01, z05, ↓tyr])
    try rw [decide_eq_false (by omega : ¬ 0 ≤ m.body.Most)]
    (first | (refine And.intro (by simp) ?_; (repeat (first | assumption | with_reducible exact Keeps.refl _ _ | with_reducible refine Keeps.go ?_ (Keeps.one _ _) | with_reducible refine Keeps.go ?_ (by assumption)))) | (repeat (first | assumption | with_reducible exact Keeps.refl _ _ | with_reducible refine Keeps.go ?_ (Keeps.one _ _) | with_reducible refine Keeps.go ?_ (by assumption))))
  rw [decide_eq_true (by omega : 0 ≤ m.body.Most)]
  (repeat simp -dsimp -implicitDefEqProofs (disch := omega) only [↓rP, rQ, rO, rL, ↓reduceIte, Nat.reduceEqDiff, Nat.reduceAdd, Nat.reduceLeDiff, z01, z05, ↓tyr])
  refine z0e (fun h5 => ?_) (fun h5 => ?_)
  · (repeat simp -dsimp -implicitDefEqProofs (disch := omega) only [↓rP, rQ, rO, rL, ↓reduceIte, Nat.reduceEqDiff, Nat.reduceAdd, Nat.reduceLeDiff, z01, z05, ↓tyr])
    try rw [decide_eq_false (by omega : ¬ m.body.Most ≤ 4096)]
    (first | (refine And.intro (by simp) ?_; (repeat (first | assumption | with_reducible exact Keeps.refl _ _ | with_reducible refine Keeps.go ?_ (Keeps.one _ _) | with_reducible refine Keeps.go ?_ (by assumption)))) | (repeat (first | assumption | with_reducible exact Keeps.refl _ _ | with_reducible refine Keeps.go ?_ (Keeps.one _ _) | with_reducible refine Keeps.go ?_ (by assumption))))
  rw [decide_eq_true (by omega : m.body.Most ≤ 4096)]
  obtain ⟨y, hy⟩ : ∃ y, getI (slL m.body.Code) ((slL m.body.Code).length - 1) = some y := z1r.1 (by unfold btw; simp; omega)
  have hlb : lastB m.body = decide (y.Op = 17) := by unfold lastB; rw [hy]
  rw [hlb]
  (repeat simp -dsimp -implicitDefEqProofs (disch := omega) only [↓rP, rQ, rO, rL, ↓reduceIte, Nat.reduceEqDiff, Nat.reduceAdd, Nat.reduceLeDiff, z01, z05, ↓tyr, ixI hy])
  refine z11 (fun h6 => ?_) (fun h6 => ?_)
  · (repeat simp -dsimp -implicitDefEqProofs (disch := omega) only [↓rP, rQ, rO, rL, ↓reduceIte, Nat.reduceEqDiff, Nat.reduceAdd, Nat.reduceLeDiff, z01, z05, ↓tyr])
    try rw [decide_eq_false h6]
    (first | (refine And.intro (by simp) ?_; (repeat (first | assumption | with_reducible exact Keeps.refl _ _ | with_reducible refine Keeps.go ?_ (Keeps.one _ _) | with_reducible refine Keeps.go ?_ (by assumption)))) | (repeat (first | assumption | with_reducible exact Keeps.refl _ _ | with_reducible refine Keeps.go ?_ (Keeps.one _ _) | with_reducible refine Keeps.go ?_ (by assumption))))
  rw [decide_eq_true h6]
  (repeat simp -dsimp -implicitDefEqProofs (disch := omega) only [↓rP, rQ, rO, rL, ↓reduceIte, Nat.reduceEqDiff, Nat.reduceAdd, Nat.reduceLeDiff, z01, z05, ↓tyr])
  apply z2k
  refine (ixf_Local_does m.body.Slots (by omega) (fun x => !z19 m.Code x) _ h fun x hx R hR => ?_).mono ?_
  · simp only [pCallF, List.nil_append, List.append_nil, List.singleton_append, List.cons_append]
    apply code_maker_all_1_wp
    (repeat simp -dsimp -implicitDefEqProofs (disch := omega) only [↓rP, rQ, rO, rL, ↓reduceIte, Nat.reduceEqDiff, Nat.reduceAdd, Nat.reduceLeDiff, z01, z05, ↓tyr])
    refine (code_local_does m.Code x h).mono ?_
    rintro _ _ ⟨rfl, rfl⟩
    (repeat simp -dsimp -implicitDefEqProofs (disch := omega) only [↓rP, rQ, rO, rL, ↓reduceIte, Nat.reduceEqDiff, Nat.reduceAdd, Nat.reduceLeDiff, z01, z05, ↓tyr])
    exact hR
  rintro _ h ⟨rfl, rfl⟩
  have e1 : (slL m.body.Slots).any (fun x => !z19 m.Code x) = !(slL m.body.Slots).all (z19 m.Code) := by
    rw [List.not_all_eq_any_not]
  have e2 := posI_neg (p := fun x => !z19 m.Code x) (l := slL m.body.Slots)
  rw [e1] at e2
  have e3 : decide (0 ≤ posI (fun x => !z19 m.Code x) (slL m.body.Slots)) = !(slL m.body.Slots).all (z19 m.Code) := by
    cases hb : (slL m.body.Slots).all (z19 m.Code) with
    | true => rw [hb] at e2; simp at e2 ⊢; omega
    | false => rw [hb] at e2; simp at e2 ⊢; omega
  rcases hb : (slL m.body.Slots).all (z19 m.Code) with _ | _
  · rw [hb] at e3
    (repeat simp -dsimp -implicitDefEqProofs (disch := omega) only [↓rP, rQ, rO, rL, ↓reduceIte, Nat.reduceEqDiff, Nat.reduceAdd, Nat.reduceLeDiff, z01, z05, ↓tyr, e3])
    (first | (refine And.intro (by simp) ?_; (repeat (first | assumption | with_reducible exact Keeps.refl _ _ | with_reducible refine Keeps.go ?_ (Keeps.one _ _) | with_reducible refine Keeps.go ?_ (by assumption)))) | (repeat (first | assumption | with_reducible exact Keeps.refl _ _ | with_reducible refine Keeps.go ?_ (Keeps.one _ _) | with_reducible refine Keeps.go ?_ (by assumption))))
  rw [hb] at e3
  (repeat simp -dsimp -implicitDefEqProofs (disch := omega) only [↓rP, rQ, rO, rL, ↓reduceIte, Nat.reduceEqDiff, Nat.reduceAdd, Nat.reduceLeDiff, z01, z05, ↓tyr, e3])
  refine z1c z0l (by kernel_rfl) (fun n fr hh => ∃ k : Nat, k ≤ (slL m.body.Code).length ∧ n = (slL m.body.Code).length - k ∧ upTo (fun k x => z1l m.Code m.thread m.body x k) (slL m.body.Code) k ∧ Keeps h hh (fun _ => False) ∧ fr = frOf [(1, .iptr m.cells), (53, slAV 8 z0m.cells m.body.Code), (54, .int .i64 (slL m.body.Code).length), (55, .int .i64 k)]) (slL m.body.Code).length ⟨0, by omega, by omega, z2w _ _, .refl _ _, rfl⟩ ?_
  rintro n fr hh ⟨k, hk, rfl, hup, kp, rfl⟩
  apply code_maker_all_loop7
  generalize hI : (fun (n : Nat) (fr : Fr) (hh : z04) => _) = I
  (repeat simp -dsimp -implicitDefEqProofs (disch := omega) only [↓rP, rQ, rO, rL, ↓reduceIte, Nat.reduceEqDiff, Nat.reduceAdd, Nat.reduceLeDiff, z01, z05, ↓tyr])
  refine z0e (fun hkl => ?_) (fun hkl => ?_)
  · obtain ⟨x, hx⟩ : ∃ x, (slL m.body.Code)[k]? = some x := ⟨_, List.getElem?_eq_getElem (by omega)⟩
    (repeat simp -dsimp -implicitDefEqProofs (disch := omega) only [↓rP, rQ, rO, rL, ↓reduceIte, Nat.reduceEqDiff, Nat.reduceAdd, Nat.reduceLeDiff, z01, z05, ↓tyr, z0k hx])
    refine (code_maker_instr_does m hm hs (by omega) x (ok_instr hm (List.mem_of_getElem? hx)) k _).mono ?_
    rintro _ h9 ⟨rfl, k9⟩
    have k10 := kp.go ((Keeps.one _ _).go k9)
    rcases hi : z1l m.Code m.thread m.body x k with _ | _
    · (repeat simp -dsimp -implicitDefEqProofs (disch := omega) only [↓rP, rQ, rO, rL, ↓reduceIte, Nat.reduceEqDiff, Nat.reduceAdd, Nat.reduceLeDiff, z01, z05, ↓tyr])
      have : instrsB m.Code m.thread m.body = false := z3k hx hi
      rw [this]
      exact ⟨rfl, k10⟩
    · (repeat simp -dsimp -implicitDefEqProofs (disch := omega) only [↓rP, rQ, rO, rL, ↓reduceIte, Nat.reduceEqDiff, Nat.reduceAdd, Nat.reduceLeDiff, z01, z05, ↓tyr])
      rw [z0a, ← hI]
      exact ⟨_, by omega, k + 1, by omega, rfl, z2p hup hx hi, k10, by simp⟩
  · have hke : k = (slL m.body.Code).length := by omega
    subst hke
    (repeat simp -dsimp -implicitDefEqProofs (disch := omega) only [↓rP, rQ, rO, rL, ↓reduceIte, Nat.reduceEqDiff, Nat.reduceAdd, Nat.reduceLeDiff, z01, z05, ↓tyr])
    have : instrsB m.Code m.thread m.body = true := upTo_all hup
    rw [this]
    exact ⟨rfl, kp⟩
end Go.Proofs.YtopfjochppdnfaaDoor
end

section
/- What the program's functions of codes compute: sections, sites, codes. -/
set_option maxRecDepth 100000
set_option maxHeartbeats 1000000
namespace Go.Proofs.YtopfjochppdnfaaDoor
open Go.Abs
theorem wkS (k : Nat) (hk : k ≤ 1000000) : IntKind.i64.wrap ((k : Int) + 1) = ((k + 1 : Nat) : Int) := by rw [wrapI (by omega) (by omega)]; omega
theorem slice_to {α : Type} (sz : Nat) (enc : α → List AV) (o : Option (List α)) (k : Nat) (hk : k ≤ (slL o).length) (kk : IntKind) (K : AV → Prop) : pSliceSl sz (slAV sz enc o) none (some (.int kk (k : Int))) K = K (slAV sz enc (o.map (List.take k))) := by
  cases o with
  | none =>
    have : k = 0 := by simpa using hk
    subst this
    simp [pSliceSl, slAV, bnd]
  | some l =>
    have : k ≤ l.length := by simpa using hk
    simp only [pSliceSl, slAV, bnd, Option.map_some, List.length_map, Int.toNat_natCast, true_and, Int.toNat_zero, List.drop_zero, List.map_take]
    simp; omega
theorem slL_take {α : Type} (o : Option (List α)) (k : Nat) : slL (o.map (List.take k)) = (slL o).take k := by cases o <;> simp
theorem sections_inner (c : Cd) (s : z0h) (k : Nat) (hk : k ≤ (slL c.Sections).length) (hs : (slL c.Sections).length ≤ 1000000) (a1 a9 a10 : AV) (h0 : z04) (id : Nat) (hid : id < h0.next) (ho : h0.objs id = some (.row 71 s.cells)) (Q : z18 → Fr → z04 → Prop)
    (hret : ∀ h2, ((slL c.Sections).take k).all (fun o => !meetB s o) = false → Keeps h0 h2 (fun _ => False) → Q .ret (frOf [(2, .bool false)]) h2)
    (hex : ∀ h2, ((slL c.Sections).take k).all (fun o => !meetB s o) = true → Keeps h0 h2 (fun _ => False) → Q (.exit 2) (frOf [(1, a1), (9, a9), (10, a10), (11, .int .i64 k)]) h2) :
    WP Tryd.prog 125 (.loop c_code_sections_10) (frOf [(1, a1), (4, .ptr id 0), (9, a9), (10, a10), (11, .int .i64 k), (94, slAV 3 z0h.cells (c.Sections.map (List.take k))), (95, .int .i64 (k : Nat)), (96, .int .i64 0)]) h0 Q := by
  have hl : (slL (c.Sections.map (List.take k))).length = k := by rw [slL_take, List.length_take]; omega
  refine z1c z0l (by kernel_rfl) (fun n fr hh => ∃ j : Nat, j ≤ k ∧ n = k - j ∧ (∀ i o, i < j → (slL c.Sections)[i]? = some o → meetB s o = false) ∧ Keeps h0 hh (fun _ => False) ∧ fr = frOf [(1, a1), (4, .ptr id 0), (9, a9), (10, a10), (11, .int .i64 k), (94, slAV 3 z0h.cells (c.Sections.map (List.take k))), (95, .int .i64 (k : Nat)), (96, .int .i64 j)]) k ⟨0, by omega, by omega, fun i o hi => by omega, .refl _ _, rfl⟩ ?_
  rintro n fr hh ⟨j, hj, rfl, hup, kp, rfl⟩
  apply code_sections_loop10
  generalize hI : (fun (n : Nat) (fr : Fr) (hh : z04) => _) = I
  (repeat simp -dsimp -implicitDefEqProofs (disch := omega) only [↓rP, rQ, rO, rL, ↓reduceIte, Nat.reduceEqDiff, Nat.reduceAdd, Nat.reduceLeDiff, z01, z05, ↓tyr])
  refine z0e (fun hjk => ?_) (fun hjk => ?_)
  · obtain ⟨o, hx⟩ : ∃ o, (slL c.Sections)[j]? = some o := ⟨_, List.getElem?_eq_getElem (by omega)⟩
    have hx2 : (slL (c.Sections.map (List.take k)))[j]? = some o := by rw [slL_take, List.getElem?_take_of_lt (by omega), hx]
    have kp1 : Keeps h0 (hh.push (.row 71 o.cells)) (fun _ => False) := kp.go (Keeps.one _ _)
    have ho2 : (hh.push (.row 71 o.cells)).objs id = some (.row 71 s.cells) := by
      have := kp.next
      simp only [z04.push_objs]
      rw [if_neg (by omega), kp.objs id hid (by simp), ho]
    have ld : ∀ (off : Nat) (q : Option Nat) (K : AV → Prop), z02 q (.ptr id off) (hh.push (.row 71 o.cells)) K = z0b q s.cells off K := fun off q K => z0x ho2 q K
    have yes : meetB s o = true → ((slL c.Sections).take k).all (fun o => !meetB s o) = false := fun hm => by
      rw [List.all_eq_false]
      exact ⟨o, List.mem_of_getElem? (i := j) (by rw [List.getElem?_take_of_lt (by omega), hx]), by simp [hm]⟩
    have on : meetB s o = false → loopPost I (k - j) Q .normal (frOf [(1, a1), (4, .ptr id 0), (9, a9), (10, a10), (11, .int .i64 k), (94, slAV 3 z0h.cells (c.Sections.map (List.take k))), (95, .int .i64 (k : Nat)), (96, .int .i64 (IntKind.i64.wrap ((j : Int) + 1)))]) (hh.push (.row 71 o.cells)) := fun hm => by
      rw [z0a, ← hI, wkS j (by omega)]
      refine ⟨_, ?_, j + 1, by omega, rfl, fun i y hi hy => ?_, kp1, rfl⟩
      · omega
      · by_cases e : i = j
        · subst e; rw [hx] at hy; cases hy; exact hm
        · exact hup i y (by omega) hy
    rw [wkS j (by omega)] at on
    repeat' (first | (simp -dsimp -implicitDefEqProofs (disch := omega) only [↓rP, rQ, rO, rL, ↓reduceIte, Nat.reduceEqDiff, Nat.reduceAdd, Nat.reduceLeDiff, z01, z05, ↓tyr, z0k hx2, ↓ld, wkS j (by omega)]) | refine Cut.go ?_ | refine z10 (fun _ => ?_) (fun _ => ?_) | refine z11 (fun _ => ?_) (fun _ => ?_) | refine z0e (fun _ => ?_) (fun _ => ?_) | refine z13 (fun _ => ?_) (fun _ => ?_) | refine Split.intro (fun _ => ?_) (fun _ => ?_))
    all_goals first
      | exact hret _ (yes (by simp [meetB, *])) kp1
      | exact on (by simp [meetB, *]; try omega)
  · have hke : j = k := by omega
    subst hke
    (repeat simp -dsimp -implicitDefEqProofs (disch := omega) only [↓rP, rQ, rO, rL, ↓reduceIte, Nat.reduceEqDiff, Nat.reduceAdd, Nat.reduceLeDiff, z01, z05, ↓tyr])
    refine hex hh ?_ kp
    rw [List.all_eq_true]
    intro o ho'
    obtain ⟨i, hi⟩ := List.getElem?_of_mem ho'
    have hij : i < j := by have := (List.getElem?_eq_some_iff.1 hi).1; rw [List.length_take] at this; omega
    rw [List.getElem?_take_of_lt hij] at hi
    rw [hup i o hij hi]; rfl
theorem code_sections_does (c : Cd) (hc : c.ok) (hs : (slL c.Sections).length ≤ 1000000) (h : z04) : z03 Tryd.prog 46 [.agg c.cells] h (fun v h2 => v = .bool (sectionsB c) ∧ Keeps h h2 (fun _ => False)) := by
  apply code_sections_wp
  (repeat simp -dsimp -implicitDefEqProofs (disch := omega) only [↓rP, rQ, rO, rL, ↓reduceIte, Nat.reduceEqDiff, Nat.reduceAdd, Nat.reduceLeDiff, z01, z05, ↓tyr])
  refine z1c z0l (by kernel_rfl) (fun n fr hh => ∃ k : Nat, k ≤ (slL c.Sections).length ∧ n = (slL c.Sections).length - k ∧ upTo (secB c) (slL c.Sections) k ∧ Keeps h hh (fun _ => False) ∧ fr = frOf [(1, .iptr c.cells), (9, slAV 3 z0h.cells c.Sections), (10, .int .i64 (slL c.Sections).length), (11, .int .i64 k)]) (slL c.Sections).length ⟨0, by omega, by omega, z2w _ _, .refl _ _, rfl⟩ ?_
  rintro n fr hh ⟨k, hk, rfl, hup, kp, rfl⟩
  apply code_sections_loop2
  generalize hI : (fun (n : Nat) (fr : Fr) (hh : z04) => _) = I
  (repeat simp -dsimp -implicitDefEqProofs (disch := omega) only [↓rP, rQ, rO, rL, ↓reduceIte, Nat.reduceEqDiff, Nat.reduceAdd, Nat.reduceLeDiff, z01, z05, ↓tyr])
  refine z0e (fun hkl => ?_) (fun hkl => ?_)
  · obtain ⟨s, hx⟩ : ∃ s, (slL c.Sections)[k]? = some s := ⟨_, List.getElem?_eq_getElem (by omega)⟩
    have kp1 : Keeps h (hh.push (.row 71 s.cells)) (fun _ => False) := kp.go (Keeps.one _ _)
    have bad : secB c k s = false → sectionsB c = false := fun hb => by unfold sectionsB; rw [z3k hx hb, Bool.and_false]
    (repeat simp -dsimp -implicitDefEqProofs (disch := omega) only [↓rP, rQ, rO, rL, ↓reduceIte, Nat.reduceEqDiff, Nat.reduceAdd, Nat.reduceLeDiff, z01, z05, ↓tyr, z0k hx])
    refine (z1d _ _ _).mono ?_
    rintro _ _ ⟨rfl, rfl⟩
    (repeat simp -dsimp -implicitDefEqProofs (disch := omega) only [↓rP, rQ, rO, rL, ↓reduceIte, Nat.reduceEqDiff, Nat.reduceAdd, Nat.reduceLeDiff, z01, z05, ↓tyr])
    cases hb : getI (slL c.Threads) s.Thread with
    | none =>
      have hbt := z2n.2 hb
      (repeat simp -dsimp -implicitDefEqProofs (disch := omega) only [↓rP, rQ, rO, rL, ↓reduceIte, Nat.reduceEqDiff, Nat.reduceAdd, Nat.reduceLeDiff, z01, z05, ↓tyr, hbt])
      rw [bad (by simp [secB, endsB, z3z, hb])]
      exact ⟨rfl, kp1⟩
    | some b =>
      have hbt := z1r.2 ⟨b, hb⟩
      (repeat simp -dsimp -implicitDefEqProofs (disch := omega) only [↓rP, rQ, rO, rL, ↓reduceIte, Nat.reduceEqDiff, Nat.reduceAdd, Nat.reduceLeDiff, z01, z05, ↓tyr, hbt])
      refine z0e (fun h1 => ?_) (fun h1 => ?_)
      · (repeat simp -dsimp -implicitDefEqProofs (disch := omega) only [↓rP, rQ, rO, rL, ↓reduceIte, Nat.reduceEqDiff, Nat.reduceAdd, Nat.reduceLeDiff, z01, z05, ↓tyr])
        rw [bad (by simp [secB, endsB]; omega)]
        exact ⟨rfl, kp1⟩
      (repeat simp -dsimp -implicitDefEqProofs (disch := omega) only [↓rP, rQ, rO, rL, ↓reduceIte, Nat.reduceEqDiff, Nat.reduceAdd, Nat.reduceLeDiff, z01, z05, ↓tyr])
      refine z13 (fun h2 => ?_) (fun h2 => ?_)
      · (repeat simp -dsimp -implicitDefEqProofs (disch := omega) only [↓rP, rQ, rO, rL, ↓reduceIte, Nat.reduceEqDiff, Nat.reduceAdd, Nat.reduceLeDiff, z01, z05, ↓tyr])
        rw [bad (by simp [secB, endsB]; omega)]
        exact ⟨rfl, kp1⟩
      (repeat simp -dsimp -implicitDefEqProofs (disch := omega) only [↓rP, rQ, rO, rL, ↓reduceIte, Nat.reduceEqDiff, Nat.reduceAdd, Nat.reduceLeDiff, z01, z05, ↓tyr, ixI hb])
      refine z13 (fun h3 => ?_) (fun h3 => ?_)
      · (repeat simp -dsimp -implicitDefEqProofs (disch := omega) only [↓rP, rQ, rO, rL, ↓reduceIte, Nat.reduceEqDiff, Nat.reduceAdd, Nat.reduceLeDiff, z01, z05, ↓tyr])
        have : getI (slL b.Code) s.To = none := z2n.1 (by unfold btw; simp; omega)
        rw [bad (by simp [secB, endsB, z3z, hb, this])]
        exact ⟨rfl, kp1⟩
      obtain ⟨x, hxx⟩ : ∃ x, getI (slL b.Code) s.From = some x := z1r.1 (by unfold btw; simp; omega)
      obtain ⟨y, hyy⟩ : ∃ y, getI (slL b.Code) s.To = some y := z1r.1 (by unfold btw; simp; omega)
      (repeat simp -dsimp -implicitDefEqProofs (disch := omega) only [↓rP, rQ, rO, rL, ↓reduceIte, Nat.reduceEqDiff, Nat.reduceAdd, Nat.reduceLeDiff, z01, z05, ↓tyr, ixI hb, ixI hxx, ixI hyy])
      refine z11 (fun h4 => ?_) (fun h4 => ?_)
      · (repeat simp -dsimp -implicitDefEqProofs (disch := omega) only [↓rP, rQ, rO, rL, ↓reduceIte, Nat.reduceEqDiff, Nat.reduceAdd, Nat.reduceLeDiff, z01, z05, ↓tyr])
        rw [bad (by simp [secB, endsB, z3z, hb, hxx, h4])]
        exact ⟨rfl, kp1⟩
      (repeat simp -dsimp -implicitDefEqProofs (disch := omega) only [↓rP, rQ, rO, rL, ↓reduceIte, Nat.reduceEqDiff, Nat.reduceAdd, Nat.reduceLeDiff, z01, z05, ↓tyr, ixI hb, ixI hxx, ixI hyy])
      refine z11 (fun h5 => ?_) (fun h5 => ?_)
      · (repeat simp -dsimp -implicitDefEqProofs (disch := omega) only [↓rP, rQ, rO, rL, ↓reduceIte, Nat.reduceEqDiff, Nat.reduceAdd, Nat.reduceLeDiff, z01, z05, ↓tyr])
        rw [bad (by simp [secB, endsB, z3z, hb, hxx, h5])]
        exact ⟨rfl, kp1⟩
      (repeat simp -dsimp -implicitDefEqProofs (disch := omega) only [↓rP, rQ, rO, rL, ↓reduceIte, Nat.reduceEqDiff, Nat.reduceAdd, Nat.reduceLeDiff, z01, z05, ↓tyr, ixI hb, ixI hxx, ixI hyy])
      refine z11 (fun h6 => ?_) (fun h6 => ?_)
      · (repeat simp -dsimp -implicitDefEqProofs (disch := omega) only [↓rP, rQ, rO, rL, ↓reduceIte, Nat.reduceEqDiff, Nat.reduceAdd, Nat.reduceLeDiff, z01, z05, ↓tyr])
        rw [bad (by simp [secB, endsB, z3z, hb, hyy, h6])]
        exact ⟨rfl, kp1⟩
      (repeat simp -dsimp -implicitDefEqProofs (disch := omega) only [↓rP, rQ, rO, rL, ↓reduceIte, Nat.reduceEqDiff, Nat.reduceAdd, Nat.reduceLeDiff, z01, z05, ↓tyr, ixI hb, ixI hxx, ixI hyy])
      refine z11 (fun h7 => ?_) (fun h7 => ?_)
      · (repeat simp -dsimp -implicitDefEqProofs (disch := omega) only [↓rP, rQ, rO, rL, ↓reduceIte, Nat.reduceEqDiff, Nat.reduceAdd, Nat.reduceLeDiff, z01, z05, ↓tyr])
        rw [bad (by simp [secB, endsB, z3z, hb, hyy, h7])]
        exact ⟨rfl, kp1⟩
      (repeat simp -dsimp -implicitDefEqProofs (disch := omega) only [↓rP, rQ, rO, rL, ↓reduceIte, Nat.reduceEqDiff, Nat.reduceAdd, Nat.reduceLeDiff, z01, z05, ↓tyr, slice_to 3 z0h.cells c.Sections k hk])
      have hlk : (slL (c.Sections.map (List.take k))).length = k := by rw [slL_take, List.length_take]; omega
      rw [hlk]
      have he : endsB c k s = true := by
        simp only [endsB, z3z, hb, hxx, hyy, h4, h5, h6, h7, decide_true, Bool.and_true, Bool.and_eq_true, decide_eq_true_eq]
        omega
      refine sections_inner c s k hk hs _ _ _ _ _ (by simp) (by simp) _ (fun h2 hm k2 => ?_) (fun h2 hm k2 => ?_)
      · (repeat simp -dsimp -implicitDefEqProofs (disch := omega) only [↓rP, rQ, rO, rL, ↓reduceIte, Nat.reduceEqDiff, Nat.reduceAdd, Nat.reduceLeDiff, z01, z05, ↓tyr])
        rw [bad (by unfold secB; rw [hm, Bool.and_false])]
        exact ⟨rfl, kp1.go k2⟩
      · (repeat simp -dsimp -implicitDefEqProofs (disch := omega) only [↓rP, rQ, rO, rL, ↓reduceIte, Nat.reduceEqDiff, Nat.reduceAdd, Nat.reduceLeDiff, z01, z05, ↓tyr])
        rw [z0a, ← hI]
        exact ⟨_, by omega, k + 1, by omega, rfl, z2p hup hx (by unfold secB; rw [hm, he]; rfl), kp1.go k2, by simp⟩
  · have hke : k = (slL c.Sections).length := by omega
    subst hke
    (repeat simp -dsimp -implicitDefEqProofs (disch := omega) only [↓rP, rQ, rO, rL, ↓reduceIte, Nat.reduceEqDiff, Nat.reduceAdd, Nat.reduceLeDiff, z01, z05, ↓tyr])
    have : allK (secB c) (slL c.Sections) = true := upTo_all hup
    unfold sectionsB
    rw [this]
    refine ⟨by simp; try omega, kp⟩
end Go.Proofs.YtopfjochppdnfaaDoor
end

section
/- What the program's functions of codes compute: sites; which codes can be; which slot gets a value. -/
set_option maxRecDepth 100000
set_option maxHeartbeats 1000000
namespace Go.Proofs.YtopfjochppdnfaaDoor
open Go.Abs
theorem code_sites_does (c : Cd) (hc : c.ok) (hs : (slL c.Sites).length ≤ 1000000) (h : z04) : z03 Tryd.prog 47 [.agg c.cells] h (fun v h2 => v = .bool (sitesB c) ∧ Keeps h h2 (fun _ => False)) := by
  apply code_sites_wp
  (repeat (first | simp -dsimp -implicitDefEqProofs (disch := omega) only [↓rP, rQ, rO, rL, ↓reduceIte, Nat.reduceEqDiff, Nat.reduceAdd, Nat.reduceLeDiff, z01, z05, ↓tyr] | refine Cut.go ?_))
  refine z1c z0l (by kernel_rfl) (fun n fr hh => ∃ k : Nat, k ≤ (slL c.Sites).length ∧ n = (slL c.Sites).length - k ∧ upTo (siteOk c) (slL c.Sites) k ∧ Keeps h hh (fun _ => False) ∧ fr = frOf [(1, .iptr c.cells), (7, slAV 3 z0z.cells c.Sites), (8, .int .i64 (slL c.Sites).length), (9, .int .i64 k)]) (slL c.Sites).length ⟨0, by omega, by omega, z2w _ _, .refl _ _, rfl⟩ ?_
  rintro n fr hh ⟨k, hk, rfl, hup, kp, rfl⟩
  apply code_sites_loop2
  generalize hI : (fun (n : Nat) (fr : Fr) (hh : z04) => _) = I
  (repeat (first | simp -dsimp -implicitDefEqProofs (disch := omega) only [↓rP, rQ, rO, rL, ↓reduceIte, Nat.reduceEqDiff, Nat.reduceAdd, Nat.reduceLeDiff, z01, z05, ↓tyr] | refine Cut.go ?_))
  refine z0e (fun hkl => ?_) (fun hkl => ?_)
  · obtain ⟨s, hx⟩ : ∃ s, (slL c.Sites)[k]? = some s := ⟨_, List.getElem?_eq_getElem (by omega)⟩
    have kp1 : Keeps h (hh.push (.row 54 s.cells)) (fun _ => False) := kp.go (Keeps.one _ _)
    have bad : siteOk c k s = false → sitesB c = false := fun hb => by unfold sitesB; rw [z3k hx hb, Bool.and_false]
    (repeat (first | simp -dsimp -implicitDefEqProofs (disch := omega) only [↓rP, rQ, rO, rL, ↓reduceIte, Nat.reduceEqDiff, Nat.reduceAdd, Nat.reduceLeDiff, z01, z05, ↓tyr, z0k hx] | refine Cut.go ?_))
    refine (z1d _ _ _).mono ?_
    rintro _ _ ⟨rfl, rfl⟩
    (repeat (first | simp -dsimp -implicitDefEqProofs (disch := omega) only [↓rP, rQ, rO, rL, ↓reduceIte, Nat.reduceEqDiff, Nat.reduceAdd, Nat.reduceLeDiff, z01, z05, ↓tyr] | refine Cut.go ?_))
    cases hb : getI (slL c.Threads) s.Thread with
    | none =>
      have hbt := z2n.2 hb
      (repeat (first | simp -dsimp -implicitDefEqProofs (disch := omega) only [↓rP, rQ, rO, rL, ↓reduceIte, Nat.reduceEqDiff, Nat.reduceAdd, Nat.reduceLeDiff, z01, z05, ↓tyr, hbt] | refine Cut.go ?_))
      rw [bad (by simp [siteOk, z3z, hb])]
      exact ⟨rfl, kp1⟩
    | some b =>
      have hbt := z1r.2 ⟨b, hb⟩
      (repeat (first | simp -dsimp -implicitDefEqProofs (disch := omega) only [↓rP, rQ, rO, rL, ↓reduceIte, Nat.reduceEqDiff, Nat.reduceAdd, Nat.reduceLeDiff, z01, z05, ↓tyr, hbt, ixI hb] | refine Cut.go ?_))
      refine (z1d _ _ _).mono ?_
      rintro _ _ ⟨rfl, rfl⟩
      (repeat (first | simp -dsimp -implicitDefEqProofs (disch := omega) only [↓rP, rQ, rO, rL, ↓reduceIte, Nat.reduceEqDiff, Nat.reduceAdd, Nat.reduceLeDiff, z01, z05, ↓tyr, hbt, ixI hb] | refine Cut.go ?_))
      cases hx2 : getI (slL b.Code) s.At with
      | none =>
        have hbt2 := z2n.2 hx2
        (repeat (first | simp -dsimp -implicitDefEqProofs (disch := omega) only [↓rP, rQ, rO, rL, ↓reduceIte, Nat.reduceEqDiff, Nat.reduceAdd, Nat.reduceLeDiff, z01, z05, ↓tyr, hbt, hbt2] | refine Cut.go ?_))
        rw [bad (by simp [siteOk, z3z, hb, hx2])]
        exact ⟨rfl, kp1⟩
      | some x =>
        have hbt2 := z1r.2 ⟨x, hx2⟩
        have kp2 := kp1.go (Keeps.one _ (.row 58 x.cells))
        have ho2 : ∀ o, ((hh.push (.row 54 s.cells)).push o).objs hh.next = some (.row 54 s.cells) := fun o => by simp
        have ld : ∀ (o : AObj) (off : Nat) (q : Option Nat) (K : AV → Prop), z02 q (.ptr hh.next off) ((hh.push (.row 54 s.cells)).push o) K = z0b q s.cells off K := fun o off q K => z0x (ho2 o) q K
        have on : siteOk c k s = true → loopPost I ((slL c.Sites).length - k) (z2a (fun _ _ => False) (fun x4 fr5 h6 => False) (fun _ _ => False)) .normal (frOf [(1, .iptr c.cells), (7, slAV 3 z0z.cells c.Sites), (8, .int .i64 (slL c.Sites).length), (9, .int .i64 (k + 1 : Nat))]) ((hh.push (.row 54 s.cells)).push (.row 58 x.cells)) := fun hm => by
          rw [z0a, ← hI]
          exact ⟨_, by omega, k + 1, by omega, rfl, z2p hup hx hm, kp2, rfl⟩
        simp only [z0a] at on
        repeat' (first | (simp -dsimp -implicitDefEqProofs (disch := omega) only [↓rP, rQ, rO, rL, ↓reduceIte, Nat.reduceEqDiff, Nat.reduceAdd, Nat.reduceLeDiff, z01, z05, ↓tyr, hbt, hbt2, ixI hb, ixI hx2, ↓ld, wkS k (by omega), z0a]) | refine Cut.go ?_ | refine z10 (fun _ => ?_) (fun _ => ?_) | refine z11 (fun _ => ?_) (fun _ => ?_) | refine z0e (fun _ => ?_) (fun _ => ?_) | refine z13 (fun _ => ?_) (fun _ => ?_) | refine Split.intro (fun _ => ?_) (fun _ => ?_))
        all_goals first
          | exact on (by simp [siteOk, z3z, hb, hx2, *]; try omega)
          | (rw [bad (by simp [siteOk, z3z, hb, hx2, *]; try omega)]; exact ⟨rfl, kp2⟩)
  · have hke : k = (slL c.Sites).length := by omega
    subst hke
    (repeat (first | simp -dsimp -implicitDefEqProofs (disch := omega) only [↓rP, rQ, rO, rL, ↓reduceIte, Nat.reduceEqDiff, Nat.reduceAdd, Nat.reduceLeDiff, z01, z05, ↓tyr] | refine Cut.go ?_))
    have : allK (siteOk c) (slL c.Sites) = true := upTo_all hup
    unfold sitesB
    rw [this]
    refine ⟨by simp; try omega, kp⟩
theorem code_Writes_does (x : In) (h : z04) : z03 Tryd.prog 49 [.agg x.cells] h (fun v h2 => v = .int .i64 (if x.Op = 1 ∨ x.Op = 2 ∨ x.Op = 3 ∨ x.Op = 4 ∨ x.Op = 8 ∨ x.Op = 9 ∨ x.Op = 10 then x.Dst else -1) ∧ h2 = h) := by
  apply code_Writes_wp
  repeat' (first | (simp -dsimp -implicitDefEqProofs (disch := omega) only [↓rP, rQ, rO, rL, ↓reduceIte, Nat.reduceEqDiff, Nat.reduceAdd, Nat.reduceLeDiff, z01, z05, ↓tyr]) | refine Cut.go ?_ | refine z10 (fun _ => ?_) (fun _ => ?_) | refine z11 (fun _ => ?_) (fun _ => ?_) | refine z0e (fun _ => ?_) (fun _ => ?_) | refine z13 (fun _ => ?_) (fun _ => ?_) | refine Split.intro (fun _ => ?_) (fun _ => ?_))
  all_goals simp [*]
theorem code_Good_does (c : Cd) (hc : c.ok) (hs : (slL c.Sections).length ≤ 1000000) (hsi : (slL c.Sites).length ≤ 1000000) (hg : (slL c.Globals).length ≤ 1000000) (hr : ∀ r ∈ slL c.Records, (slL r).length ≤ 1000000) (h : z04) : z03 Tryd.prog 34 [.agg c.cells] h (fun v h2 => v = .bool (okC c) ∧ Keeps h h2 (fun _ => False)) := by
  apply code_Good_wp
  have e0 : okC c = (decide ((slL c.Records).length ≤ 6) && (decide ((slL c.Threads).length ≤ 4) && (cellsB c (slL c.Globals) 8 && (sectionsB c && (sitesB c && ((slL c.Records).all (fun r => cellsB c (slL r) 6) && threadsB c)))))) := by
    unfold okC; simp only [Bool.and_assoc]
  rw [e0]
  (repeat (first | simp -dsimp -implicitDefEqProofs (disch := omega) only [↓rP, rQ, rO, rL, ↓reduceIte, Nat.reduceEqDiff, Nat.reduceAdd, Nat.reduceLeDiff, z01, z05, ↓tyr] | refine Cut.go ?_))
  refine z0e (fun h1 => ?_) (fun h1 => ?_)
  · (repeat (first | simp -dsimp -implicitDefEqProofs (disch := omega) only [↓rP, rQ, rO, rL, ↓reduceIte, Nat.reduceEqDiff, Nat.reduceAdd, Nat.reduceLeDiff, z01, z05, ↓tyr] | refine Cut.go ?_))
    rw [decide_eq_false (by omega : ¬ (slL c.Records).length ≤ 6)]
    (first | (refine And.intro (by simp) ?_; (repeat (first | assumption | with_reducible exact Keeps.refl _ _ | with_reducible refine Keeps.go ?_ (Keeps.one _ _) | with_reducible refine Keeps.go ?_ (by assumption)))) | (repeat (first | assumption | with_reducible exact Keeps.refl _ _ | with_reducible refine Keeps.go ?_ (Keeps.one _ _) | with_reducible refine Keeps.go ?_ (by assumption))))
  rw [decide_eq_true (by omega : (slL c.Records).length ≤ 6)]
  (repeat (first | simp -dsimp -implicitDefEqProofs (disch := omega) only [↓rP, rQ, rO, rL, ↓reduceIte, Nat.reduceEqDiff, Nat.reduceAdd, Nat.reduceLeDiff, z01, z05, ↓tyr] | refine Cut.go ?_))
  refine z0e (fun h2 => ?_) (fun h2 => ?_)
  · (repeat (first | simp -dsimp -implicitDefEqProofs (disch := omega) only [↓rP, rQ, rO, rL, ↓reduceIte, Nat.reduceEqDiff, Nat.reduceAdd, Nat.reduceLeDiff, z01, z05, ↓tyr] | refine Cut.go ?_))
    rw [decide_eq_false (by omega : ¬ (slL c.Threads).length ≤ 4)]
    (first | (refine And.intro (by simp) ?_; (repeat (first | assumption | with_reducible exact Keeps.refl _ _ | with_reducible refine Keeps.go ?_ (Keeps.one _ _) | with_reducible refine Keeps.go ?_ (by assumption)))) | (repeat (first | assumption | with_reducible exact Keeps.refl _ _ | with_reducible refine Keeps.go ?_ (Keeps.one _ _) | with_reducible refine Keeps.go ?_ (by assumption))))
  rw [decide_eq_true (by omega : (slL c.Threads).length ≤ 4)]
  (repeat (first | simp -dsimp -implicitDefEqProofs (disch := omega) only [↓rP, rQ, rO, rL, ↓reduceIte, Nat.reduceEqDiff, Nat.reduceAdd, Nat.reduceLeDiff, z01, z05, ↓tyr] | refine Cut.go ?_))
  refine (code_cells_does c c.Globals hg 8 _).mono ?_
  rintro _ h ⟨rfl, rfl⟩
  rcases hb1 : cellsB c (slL c.Globals) 8 with _ | _
  · (repeat (first | simp -dsimp -implicitDefEqProofs (disch := omega) only [↓rP, rQ, rO, rL, ↓reduceIte, Nat.reduceEqDiff, Nat.reduceAdd, Nat.reduceLeDiff, z01, z05, ↓tyr, Bool.not_false, Bool.not_true] | refine Cut.go ?_))
    (first | (refine And.intro (by simp) ?_; (repeat (first | assumption | with_reducible exact Keeps.refl _ _ | with_reducible refine Keeps.go ?_ (Keeps.one _ _) | with_reducible refine Keeps.go ?_ (by assumption)))) | (repeat (first | assumption | with_reducible exact Keeps.refl _ _ | with_reducible refine Keeps.go ?_ (Keeps.one _ _) | with_reducible refine Keeps.go ?_ (by assumption))))
  (repeat (first | simp -dsimp -implicitDefEqProofs (disch := omega) only [↓rP, rQ, rO, rL, ↓reduceIte, Nat.reduceEqDiff, Nat.reduceAdd, Nat.reduceLeDiff, z01, z05, ↓tyr, Bool.not_false, Bool.not_true] | refine Cut.go ?_))
  refine (code_sections_does c hc hs _).mono ?_
  rintro _ h3 ⟨rfl, k3⟩
  rcases hb2 : sectionsB c with _ | _
  · (repeat (first | simp -dsimp -implicitDefEqProofs (disch := omega) only [↓rP, rQ, rO, rL, ↓reduceIte, Nat.reduceEqDiff, Nat.reduceAdd, Nat.reduceLeDiff, z01, z05, ↓tyr, Bool.not_false, Bool.not_true] | refine Cut.go ?_))
    (first | (refine And.intro (by simp) ?_; (repeat (first | assumption | with_reducible exact Keeps.refl _ _ | with_reducible refine Keeps.go ?_ (Keeps.one _ _) | with_reducible refine Keeps.go ?_ (by assumption)))) | (repeat (first | assumption | with_reducible exact Keeps.refl _ _ | with_reducible refine Keeps.go ?_ (Keeps.one _ _) | with_reducible refine Keeps.go ?_ (by assumption))))
  (repeat (first | simp -dsimp -implicitDefEqProofs (disch := omega) only [↓rP, rQ, rO, rL, ↓reduceIte, Nat.reduceEqDiff, Nat.reduceAdd, Nat.reduceLeDiff, z01, z05, ↓tyr, Bool.not_false, Bool.not_true] | refine Cut.go ?_))
  refine (code_sites_does c hc hsi _).mono ?_
  rintro _ h4 ⟨rfl, k4⟩
  rcases hb3 : sitesB c with _ | _
  · (repeat (first | simp -dsimp -implicitDefEqProofs (disch := omega) only [↓rP, rQ, rO, rL, ↓reduceIte, Nat.reduceEqDiff, Nat.reduceAdd, Nat.reduceLeDiff, z01, z05, ↓tyr, Bool.not_false, Bool.not_true] | refine Cut.go ?_))
    (first | (refine And.intro (by simp) ?_; (repeat (first | assumption | with_reducible exact Keeps.refl _ _ | with_reducible refine Keeps.go ?_ (Keeps.one _ _) | with_reducible refine Keeps.go ?_ (by assumption)))) | (repeat (first | assumption | with_reducible exact Keeps.refl _ _ | with_reducible refine Keeps.go ?_ (Keeps.one _ _) | with_reducible refine Keeps.go ?_ (by assumption))))
  (repeat (first | simp -dsimp -implicitDefEqProofs (disch := omega) only [↓rP, rQ, rO, rL, ↓reduceIte, Nat.reduceEqDiff, Nat.reduceAdd, Nat.reduceLeDiff, z01, z05, ↓tyr, Bool.not_false, Bool.not_true] | refine Cut.go ?_))
  refine z1c z0l (by kernel_rfl) (fun n fr hh => ∃ k : Nat, k ≤ (slL c.Records).length ∧ n = (slL c.Records).length - k ∧ upTo (fun _ r => cellsB c (slL r) 6) (slL c.Records) k ∧ Keeps h hh (fun _ => False) ∧ fr = frOf [(1, .iptr c.cells), (35, slAV 1 (fun o => [slAV 3 z0d.cells o]) c.Records), (36, .int .i64 (slL c.Records).length), (37, .int .i64 k)]) (slL c.Records).length ⟨0, by omega, by omega, z2w _ _, k3.go k4, rfl⟩ ?_
  rintro n fr hh ⟨k, hk, rfl, hup, kp, rfl⟩
  apply code_Good_loop4
  generalize hI : (fun (n : Nat) (fr : Fr) (hh : z04) => _) = I
  (repeat (first | simp -dsimp -implicitDefEqProofs (disch := omega) only [↓rP, rQ, rO, rL, ↓reduceIte, Nat.reduceEqDiff, Nat.reduceAdd, Nat.reduceLeDiff, z01, z05, ↓tyr] | refine Cut.go ?_))
  refine z0e (fun hkl => ?_) (fun hkl => ?_)
  · obtain ⟨r, hx⟩ : ∃ r, (slL c.Records)[k]? = some r := ⟨_, List.getElem?_eq_getElem (by omega)⟩
    (repeat (first | simp -dsimp -implicitDefEqProofs (disch := omega) only [↓rP, rQ, rO, rL, ↓reduceIte, Nat.reduceEqDiff, Nat.reduceAdd, Nat.reduceLeDiff, z01, z05, ↓tyr, z0k hx] | refine Cut.go ?_))
    refine (code_cells_does c r (hr r (List.mem_of_getElem? hx)) 6 _).mono ?_
    rintro _ hh ⟨rfl, rfl⟩
    rcases hi : cellsB c (slL r) 6 with _ | _
    · (repeat (first | simp -dsimp -implicitDefEqProofs (disch := omega) only [↓rP, rQ, rO, rL, ↓reduceIte, Nat.reduceEqDiff, Nat.reduceAdd, Nat.reduceLeDiff, z01, z05, ↓tyr] | refine Cut.go ?_))
      have : (slL c.Records).all (fun r => cellsB c (slL r) 6) = false := by
        rw [List.all_eq_false]; exact ⟨r, List.mem_of_getElem? hx, by simp [hi]⟩
      rw [this]
      (first | (refine And.intro (by simp) ?_; (repeat (first | assumption | with_reducible exact Keeps.refl _ _ | with_reducible refine Keeps.go ?_ (Keeps.one _ _) | with_reducible refine Keeps.go ?_ (by assumption)))) | (repeat (first | assumption | with_reducible exact Keeps.refl _ _ | with_reducible refine Keeps.go ?_ (Keeps.one _ _) | with_reducible refine Keeps.go ?_ (by assumption))))
    · (repeat (first | simp -dsimp -implicitDefEqProofs (disch := omega) only [↓rP, rQ, rO, rL, ↓reduceIte, Nat.reduceEqDiff, Nat.reduceAdd, Nat.reduceLeDiff, z01, z05, ↓tyr] | refine Cut.go ?_))
      rw [z0a, ← hI]
      exact ⟨_, by omega, k + 1, by omega, rfl, z2p hup hx hi, kp, by simp⟩
  have hke : k = (slL c.Records).length := by omega
  subst hke
  have hall : (slL c.Records).all (fun r => cellsB c (slL r) 6) = true := by
    rw [List.all_eq_true]
    intro r hr'
    obtain ⟨i, hi⟩ := List.getElem?_of_mem hr'
    exact hup i r (List.getElem?_eq_some_iff.1 hi).1 hi
  rw [hall]
  (repeat (first | simp -dsimp -implicitDefEqProofs (disch := omega) only [↓rP, rQ, rO, rL, ↓reduceIte, Nat.reduceEqDiff, Nat.reduceAdd, Nat.reduceLeDiff, z01, z05, ↓tyr] | refine Cut.go ?_))
  refine z1c z0l (by kernel_rfl) (fun n fr hh => ∃ k : Nat, k ≤ (slL c.Threads).length ∧ n = (slL c.Threads).length - k ∧ upTo (fun k b => threadB c k b) (slL c.Threads) k ∧ Keeps h hh (fun _ => False) ∧ fr = frOf [(1, .iptr c.cells), (47, slAV 3 z0n.cells c.Threads), (48, .int .i64 (slL c.Threads).length), (49, .int .i64 k)]) (slL c.Threads).length ⟨0, by omega, by omega, z2w _ _, kp, rfl⟩ ?_
  rintro n fr hh ⟨k, hk, rfl, hup, kp, rfl⟩
  apply code_Good_loop10
  generalize hI : (fun (n : Nat) (fr : Fr) (hh : z04) => _) = I
  (repeat (first | simp -dsimp -implicitDefEqProofs (disch := omega) only [↓rP, rQ, rO, rL, ↓reduceIte, Nat.reduceEqDiff, Nat.reduceAdd, Nat.reduceLeDiff, z01, z05, ↓tyr] | refine Cut.go ?_))
  refine z0e (fun hkl => ?_) (fun hkl => ?_)
  · obtain ⟨b, hx⟩ : ∃ b, (slL c.Threads)[k]? = some b := ⟨_, List.getElem?_eq_getElem (by omega)⟩
    have hbd : ∀ K : AV → Prop, z01 [(0, 5), (5, 1), (6, 3)] [AV.nils, AV.nils, AV.nils, AV.nils, AV.nils, AV.int IntKind.i64 0, AV.nils, AV.nils, AV.int IntKind.i64 0] [(0, .agg c.cells), (1, .int .i64 k), (2, .agg b.cells)] K = K (.agg (z0f.cells ⟨c, k, b⟩)) := fun K => by
      have s1 : ∀ {α : Type} (sz : Nat) (enc : α → List AV) (o : Option (List α)), (slAV sz enc o).fits = true := fits_slAV
      simp [z01, z05, AV.fits, AV.cells, z0i.cells, z0n.cells, z0f.cells]
    (repeat (first | simp -dsimp -implicitDefEqProofs (disch := omega) only [↓rP, rQ, rO, rL, ↓reduceIte, Nat.reduceEqDiff, Nat.reduceAdd, Nat.reduceLeDiff, z01, z05, ↓tyr, z0k hx, ↓hbd] | refine Cut.go ?_))
    refine (code_maker_all_does ⟨c, k, b⟩ ⟨hc, by unfold okI; constructor <;> (simp only; omega), hc.2.2.1.2 b (List.mem_of_getElem? hx)⟩ hs _).mono ?_
    rintro _ h9 ⟨rfl, k9⟩
    have k10 := kp.go ((Keeps.one _ _).go k9)
    rcases hi : threadB c k b with _ | _
    · (repeat (first | simp -dsimp -implicitDefEqProofs (disch := omega) only [↓rP, rQ, rO, rL, ↓reduceIte, Nat.reduceEqDiff, Nat.reduceAdd, Nat.reduceLeDiff, z01, z05, ↓tyr, hi] | refine Cut.go ?_))
      have : threadsB c = false := z3k hx hi
      rw [this]
      exact ⟨rfl, k10⟩
    · (repeat (first | simp -dsimp -implicitDefEqProofs (disch := omega) only [↓rP, rQ, rO, rL, ↓reduceIte, Nat.reduceEqDiff, Nat.reduceAdd, Nat.reduceLeDiff, z01, z05, ↓tyr, hi] | refine Cut.go ?_))
      rw [z0a, ← hI]
      exact ⟨_, by omega, k + 1, by omega, rfl, z2p hup hx hi, k10, by simp⟩
  have hke : k = (slL c.Threads).length := by omega
  subst hke
  (repeat (first | simp -dsimp -implicitDefEqProofs (disch := omega) only [↓rP, rQ, rO, rL, ↓reduceIte, Nat.reduceEqDiff, Nat.reduceAdd, Nat.reduceLeDiff, z01, z05, ↓tyr] | refine Cut.go ?_))
  have : threadsB c = true := upTo_all hup
  rw [this]
  exact ⟨rfl, kp⟩
end Go.Proofs.YtopfjochppdnfaaDoor
end

