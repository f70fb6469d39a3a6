/- Whether items are an expression, by the program and by the document. -/
import Derived.Test.YtppldbldpphlmaaVcK
import Derived.Test.YtppldbldpphlmaaCdMath
set_option linter.unusedVariables false
set_option linter.unusedSimpArgs false
set_option maxRecDepth 8000
set_option maxHeartbeats 1000000
namespace Go.Proofs.Ytppldbldpphlmaa
open Go.Abs


theorem beqI (a b : Int) : (a == b) = decide (a = b) := rfl
theorem bneI (a b : Int) : (a != b) = !decide (a = b) := rfl

theorem op_cases (op : Int) : op = 1 ∨ op = 2 ∨ op = 3 ∨ op = 4 ∨ op = 5 ∨ op = 6 ∨ op = 7 ∨ op = 8 ∨ op = 9 ∨ op = 10 ∨ (op < 1 ∨ 10 < op) := by omega

theorem calc_needs_does (x : It) (h : AHeap) : CallsA Try.prog 92 [.agg x.cells] h (fun v h2 => v = .int .i64 (needsI x.Op) ∧ h2 = h) := by
  obtain ⟨op, bin, n⟩ := x
  apply calc_needs_wp
  unfold Api_Item.cells
  rcases op_cases op with rfl | rfl | rfl | rfl | rfl | rfl | rfl | rfl | rfl | rfl | ho
  all_goals (repeat (first | simp -dsimp -implicitDefEqProofs (disch := omega) only [↓gp0, ↓gp1, ↓gp2, gq0, gq1, gq2, gq3, gq4, gq5, gq6, gq7, gq8, gq9, go0, go1, gl0, gl1, gl2, gl3, ↓reduceIte, Nat.reduceEqDiff, Nat.reduceAdd, Nat.reduceLeDiff, pBuild, fillA] | refine Cut.go ?_))
  all_goals simp [needsI]
  omega

theorem maxA_two (a b : Int) : maxA [.int .i64 a, .int .i64 b] = some (.int .i64 (max a b)) := by
  simp only [maxA]
  by_cases h : a < b
  · rw [if_pos h, Int.max_eq_right (by omega)]
  · rw [if_neg h, Int.max_eq_left (by omega)]

theorem calc_fits_does (x : It) (s : Int) (hx : x.ok) (hs : okI s) (h : AHeap) : CallsA Try.prog 91 [.agg x.cells, .int .i64 s] h (fun v h2 => v = .bool (fitsB x s) ∧ h2 = h) := by
  obtain ⟨op, bin, n⟩ := x
  obtain ⟨-, -, hn⟩ := hx
  unfold okN at hn
  unfold okI at hs
  simp only at hn
  apply calc_fits_wp
  have cn : ∀ h, CallsA Try.prog 92 [.agg [.int .i64 op, .int .i64 bin, .int .u64 n]] h (fun v h2 => v = .int .i64 (needsI op) ∧ h2 = h) := fun h => calc_needs_does ⟨op, bin, n⟩ h
  have hm : IntKind.u64.wrap (max s 0) = max s 0 := wrapN (by omega) (by omega)
  unfold Api_Item.cells
  have go : ∀ o : Int, o = op → (1 ≤ o ∧ o ≤ 3) ∨ (8 ≤ o ∧ o ≤ 10) ∨ ((4 ≤ o ∧ o ≤ 7) ∨ o < 1 ∨ 10 < o) := by omega
  rcases op_cases op with rfl | rfl | rfl | rfl | rfl | rfl | rfl | rfl | rfl | rfl | ho
  · repeat' (first | (simp -dsimp -implicitDefEqProofs (disch := omega) only [↓gp0, ↓gp1, ↓gp2, gq0, gq1, gq2, gq3, gq4, gq5, gq6, gq7, gq8, gq9, go0, go1, gl0, gl1, gl2, gl3, ↓reduceIte, Nat.reduceEqDiff, Nat.reduceAdd, Nat.reduceLeDiff, pBuild, fillA]) | refine Cut.go ?_ | refine Split_eq (fun _ => ?_) (fun _ => ?_) | refine Split_ne (fun _ => ?_) (fun _ => ?_) | refine Split_lt (fun _ => ?_) (fun _ => ?_) | refine Split_le (fun _ => ?_) (fun _ => ?_) | refine Split.intro (fun _ => ?_) (fun _ => ?_))
    all_goals (simp [fitsB, beqI, bneI]; try omega)
  · (repeat (first | simp -dsimp -implicitDefEqProofs (disch := omega) only [↓gp0, ↓gp1, ↓gp2, gq0, gq1, gq2, gq3, gq4, gq5, gq6, gq7, gq8, gq9, go0, go1, gl0, gl1, gl2, gl3, ↓reduceIte, Nat.reduceEqDiff, Nat.reduceAdd, Nat.reduceLeDiff, pBuild, fillA] | refine Cut.go ?_))
    refine Split_eq (fun hb => ?_) (fun hb => ?_)
    · (repeat (first | simp -dsimp -implicitDefEqProofs (disch := omega) only [↓gp0, ↓gp1, ↓gp2, gq0, gq1, gq2, gq3, gq4, gq5, gq6, gq7, gq8, gq9, go0, go1, gl0, gl1, gl2, gl3, ↓reduceIte, Nat.reduceEqDiff, Nat.reduceAdd, Nat.reduceLeDiff, pBuild, fillA, maxA_two, hm] | refine Cut.go ?_))
      simp [fitsB, hb]
    · (repeat (first | simp -dsimp -implicitDefEqProofs (disch := omega) only [↓gp0, ↓gp1, ↓gp2, gq0, gq1, gq2, gq3, gq4, gq5, gq6, gq7, gq8, gq9, go0, go1, gl0, gl1, gl2, gl3, ↓reduceIte, Nat.reduceEqDiff, Nat.reduceAdd, Nat.reduceLeDiff, pBuild, fillA] | refine Cut.go ?_))
      simp [fitsB, hb]
  · repeat' (first | (simp -dsimp -implicitDefEqProofs (disch := omega) only [↓gp0, ↓gp1, ↓gp2, gq0, gq1, gq2, gq3, gq4, gq5, gq6, gq7, gq8, gq9, go0, go1, gl0, gl1, gl2, gl3, ↓reduceIte, Nat.reduceEqDiff, Nat.reduceAdd, Nat.reduceLeDiff, pBuild, fillA]) | refine Cut.go ?_ | refine Split_eq (fun _ => ?_) (fun _ => ?_) | refine Split_ne (fun _ => ?_) (fun _ => ?_) | refine Split_lt (fun _ => ?_) (fun _ => ?_) | refine Split_le (fun _ => ?_) (fun _ => ?_) | refine Split.intro (fun _ => ?_) (fun _ => ?_))
    all_goals (simp [fitsB, beqI, bneI, *]; try omega)
  · (repeat (first | simp -dsimp -implicitDefEqProofs (disch := omega) only [↓gp0, ↓gp1, ↓gp2, gq0, gq1, gq2, gq3, gq4, gq5, gq6, gq7, gq8, gq9, go0, go1, gl0, gl1, gl2, gl3, ↓reduceIte, Nat.reduceEqDiff, Nat.reduceAdd, Nat.reduceLeDiff, pBuild, fillA] | refine Cut.go ?_))
    refine (cn _).mono ?_
    rintro _ _ ⟨rfl, rfl⟩
    have : needsI 4 = 1 := by decide
    rw [this]
    repeat' (first | (simp -dsimp -implicitDefEqProofs (disch := omega) only [↓gp0, ↓gp1, ↓gp2, gq0, gq1, gq2, gq3, gq4, gq5, gq6, gq7, gq8, gq9, go0, go1, gl0, gl1, gl2, gl3, ↓reduceIte, Nat.reduceEqDiff, Nat.reduceAdd, Nat.reduceLeDiff, pBuild, fillA]) | refine Cut.go ?_ | refine Split_eq (fun _ => ?_) (fun _ => ?_) | refine Split_ne (fun _ => ?_) (fun _ => ?_) | refine Split_lt (fun _ => ?_) (fun _ => ?_) | refine Split_le (fun _ => ?_) (fun _ => ?_) | refine Split.intro (fun _ => ?_) (fun _ => ?_))
    all_goals (simp [fitsB, beqI, bneI, *]; try omega)
  · (repeat (first | simp -dsimp -implicitDefEqProofs (disch := omega) only [↓gp0, ↓gp1, ↓gp2, gq0, gq1, gq2, gq3, gq4, gq5, gq6, gq7, gq8, gq9, go0, go1, gl0, gl1, gl2, gl3, ↓reduceIte, Nat.reduceEqDiff, Nat.reduceAdd, Nat.reduceLeDiff, pBuild, fillA] | refine Cut.go ?_))
    refine (cn _).mono ?_
    rintro _ _ ⟨rfl, rfl⟩
    have : needsI 5 = 1 := by decide
    rw [this]
    repeat' (first | (simp -dsimp -implicitDefEqProofs (disch := omega) only [↓gp0, ↓gp1, ↓gp2, gq0, gq1, gq2, gq3, gq4, gq5, gq6, gq7, gq8, gq9, go0, go1, gl0, gl1, gl2, gl3, ↓reduceIte, Nat.reduceEqDiff, Nat.reduceAdd, Nat.reduceLeDiff, pBuild, fillA]) | refine Cut.go ?_ | refine Split_eq (fun _ => ?_) (fun _ => ?_) | refine Split_ne (fun _ => ?_) (fun _ => ?_) | refine Split_lt (fun _ => ?_) (fun _ => ?_) | refine Split_le (fun _ => ?_) (fun _ => ?_) | refine Split.intro (fun _ => ?_) (fun _ => ?_))
    all_goals (simp [fitsB, beqI, bneI, *]; try omega)
  · (repeat (first | simp -dsimp -implicitDefEqProofs (disch := omega) only [↓gp0, ↓gp1, ↓gp2, gq0, gq1, gq2, gq3, gq4, gq5, gq6, gq7, gq8, gq9, go0, go1, gl0, gl1, gl2, gl3, ↓reduceIte, Nat.reduceEqDiff, Nat.reduceAdd, Nat.reduceLeDiff, pBuild, fillA] | refine Cut.go ?_))
    refine (cn _).mono ?_
    rintro _ _ ⟨rfl, rfl⟩
    have : needsI 6 = 1 := by decide
    rw [this]
    repeat' (first | (simp -dsimp -implicitDefEqProofs (disch := omega) only [↓gp0, ↓gp1, ↓gp2, gq0, gq1, gq2, gq3, gq4, gq5, gq6, gq7, gq8, gq9, go0, go1, gl0, gl1, gl2, gl3, ↓reduceIte, Nat.reduceEqDiff, Nat.reduceAdd, Nat.reduceLeDiff, pBuild, fillA]) | refine Cut.go ?_ | refine Split_eq (fun _ => ?_) (fun _ => ?_) | refine Split_ne (fun _ => ?_) (fun _ => ?_) | refine Split_lt (fun _ => ?_) (fun _ => ?_) | refine Split_le (fun _ => ?_) (fun _ => ?_) | refine Split.intro (fun _ => ?_) (fun _ => ?_))
    all_goals (simp [fitsB, beqI, bneI, *]; try omega)
  · (repeat (first | simp -dsimp -implicitDefEqProofs (disch := omega) only [↓gp0, ↓gp1, ↓gp2, gq0, gq1, gq2, gq3, gq4, gq5, gq6, gq7, gq8, gq9, go0, go1, gl0, gl1, gl2, gl3, ↓reduceIte, Nat.reduceEqDiff, Nat.reduceAdd, Nat.reduceLeDiff, pBuild, fillA] | refine Cut.go ?_))
    refine (cn _).mono ?_
    rintro _ _ ⟨rfl, rfl⟩
    have : needsI 7 = 1 := by decide
    rw [this]
    repeat' (first | (simp -dsimp -implicitDefEqProofs (disch := omega) only [↓gp0, ↓gp1, ↓gp2, gq0, gq1, gq2, gq3, gq4, gq5, gq6, gq7, gq8, gq9, go0, go1, gl0, gl1, gl2, gl3, ↓reduceIte, Nat.reduceEqDiff, Nat.reduceAdd, Nat.reduceLeDiff, pBuild, fillA]) | refine Cut.go ?_ | refine Split_eq (fun _ => ?_) (fun _ => ?_) | refine Split_ne (fun _ => ?_) (fun _ => ?_) | refine Split_lt (fun _ => ?_) (fun _ => ?_) | refine Split_le (fun _ => ?_) (fun _ => ?_) | refine Split.intro (fun _ => ?_) (fun _ => ?_))
    all_goals (simp [fitsB, beqI, bneI, *]; try omega)
  · repeat' (first | (simp -dsimp -implicitDefEqProofs (disch := omega) only [↓gp0, ↓gp1, ↓gp2, gq0, gq1, gq2, gq3, gq4, gq5, gq6, gq7, gq8, gq9, go0, go1, gl0, gl1, gl2, gl3, ↓reduceIte, Nat.reduceEqDiff, Nat.reduceAdd, Nat.reduceLeDiff, pBuild, fillA]) | refine Cut.go ?_ | refine Split_eq (fun _ => ?_) (fun _ => ?_) | refine Split_ne (fun _ => ?_) (fun _ => ?_) | refine Split_lt (fun _ => ?_) (fun _ => ?_) | refine Split_le (fun _ => ?_) (fun _ => ?_) | refine Split.intro (fun _ => ?_) (fun _ => ?_))
    all_goals (simp [fitsB, beqI, bneI, *]; try omega)
  · repeat' (first | (simp -dsimp -implicitDefEqProofs (disch := omega) only [↓gp0, ↓gp1, ↓gp2, gq0, gq1, gq2, gq3, gq4, gq5, gq6, gq7, gq8, gq9, go0, go1, gl0, gl1, gl2, gl3, ↓reduceIte, Nat.reduceEqDiff, Nat.reduceAdd, Nat.reduceLeDiff, pBuild, fillA]) | refine Cut.go ?_ | refine Split_eq (fun _ => ?_) (fun _ => ?_) | refine Split_ne (fun _ => ?_) (fun _ => ?_) | refine Split_lt (fun _ => ?_) (fun _ => ?_) | refine Split_le (fun _ => ?_) (fun _ => ?_) | refine Split.intro (fun _ => ?_) (fun _ => ?_))
    all_goals (simp [fitsB, beqI, bneI, *]; try omega)
  · repeat' (first | (simp -dsimp -implicitDefEqProofs (disch := omega) only [↓gp0, ↓gp1, ↓gp2, gq0, gq1, gq2, gq3, gq4, gq5, gq6, gq7, gq8, gq9, go0, go1, gl0, gl1, gl2, gl3, ↓reduceIte, Nat.reduceEqDiff, Nat.reduceAdd, Nat.reduceLeDiff, pBuild, fillA]) | refine Cut.go ?_ | refine Split_eq (fun _ => ?_) (fun _ => ?_) | refine Split_ne (fun _ => ?_) (fun _ => ?_) | refine Split_lt (fun _ => ?_) (fun _ => ?_) | refine Split_le (fun _ => ?_) (fun _ => ?_) | refine Split.intro (fun _ => ?_) (fun _ => ?_))
    all_goals (simp [fitsB, beqI, bneI, *]; try omega)
  · (repeat (first | simp -dsimp -implicitDefEqProofs (disch := omega) only [↓gp0, ↓gp1, ↓gp2, gq0, gq1, gq2, gq3, gq4, gq5, gq6, gq7, gq8, gq9, go0, go1, gl0, gl1, gl2, gl3, ↓reduceIte, Nat.reduceEqDiff, Nat.reduceAdd, Nat.reduceLeDiff, pBuild, fillA] | refine Cut.go ?_))
    refine (cn _).mono ?_
    rintro _ _ ⟨rfl, rfl⟩
    have : needsI op = -1 := by unfold needsI; rw [if_neg (by omega), if_neg (by omega), if_neg (by omega)]
    rw [this]
    (repeat (first | simp -dsimp -implicitDefEqProofs (disch := omega) only [↓gp0, ↓gp1, ↓gp2, gq0, gq1, gq2, gq3, gq4, gq5, gq6, gq7, gq8, gq9, go0, go1, gl0, gl1, gl2, gl3, ↓reduceIte, Nat.reduceEqDiff, Nat.reduceAdd, Nat.reduceLeDiff, pBuild, fillA] | refine Cut.go ?_))
    have : fitsB ⟨op, bin, n⟩ s = false := by unfold fitsB; simp only; rw [if_neg (by omega), if_neg (by omega), if_neg (by omega), if_neg (by omega), if_neg (by omega), if_neg (by omega), if_neg (by omega)]
    rw [this]



theorem ref_Takes_does (x : It) (s : Int) (hx : x.ok) (hs : okI s) (h : AHeap) : CallsA Try.prog 84 [.agg x.cells, .int .i64 s] h (fun v h2 => v = .int .i64 (takesI x s) ∧ h2 = h) := by
  obtain ⟨op, bin, n⟩ := x
  obtain ⟨-, -, hn⟩ := hx
  unfold okN at hn
  unfold okI at hs
  simp only at hn
  apply padlockref08_Takes_wp
  unfold Api_Item.cells
  rcases op_cases op with rfl | rfl | rfl | rfl | rfl | rfl | rfl | rfl | rfl | rfl | ho
  · repeat' (first | (simp -dsimp -implicitDefEqProofs (disch := omega) only [↓gp0, ↓gp1, ↓gp2, gq0, gq1, gq2, gq3, gq4, gq5, gq6, gq7, gq8, gq9, go0, go1, gl0, gl1, gl2, gl3, ↓reduceIte, Nat.reduceEqDiff, Nat.reduceAdd, Nat.reduceLeDiff, pBuild, fillA]) | refine Cut.go ?_ | refine Split_eq (fun _ => ?_) (fun _ => ?_) | refine Split_ne (fun _ => ?_) (fun _ => ?_) | refine Split_lt (fun _ => ?_) (fun _ => ?_) | refine Split_le (fun _ => ?_) (fun _ => ?_) | refine Split.intro (fun _ => ?_) (fun _ => ?_))
    all_goals (simp [takesI, fitsB, needsI, beqI, bneI, *]; try omega)
  · (repeat (first | simp -dsimp -implicitDefEqProofs (disch := omega) only [↓gp0, ↓gp1, ↓gp2, gq0, gq1, gq2, gq3, gq4, gq5, gq6, gq7, gq8, gq9, go0, go1, gl0, gl1, gl2, gl3, ↓reduceIte, Nat.reduceEqDiff, Nat.reduceAdd, Nat.reduceLeDiff, pBuild, fillA] | refine Cut.go ?_))
    refine Split_ne (fun hb => ?_) (fun hb => ?_)
    · (repeat (first | simp -dsimp -implicitDefEqProofs (disch := omega) only [↓gp0, ↓gp1, ↓gp2, gq0, gq1, gq2, gq3, gq4, gq5, gq6, gq7, gq8, gq9, go0, go1, gl0, gl1, gl2, gl3, ↓reduceIte, Nat.reduceEqDiff, Nat.reduceAdd, Nat.reduceLeDiff, pBuild, fillA] | refine Cut.go ?_))
      simp [takesI, fitsB, hb]
    · (repeat (first | simp -dsimp -implicitDefEqProofs (disch := omega) only [↓gp0, ↓gp1, ↓gp2, gq0, gq1, gq2, gq3, gq4, gq5, gq6, gq7, gq8, gq9, go0, go1, gl0, gl1, gl2, gl3, ↓reduceIte, Nat.reduceEqDiff, Nat.reduceAdd, Nat.reduceLeDiff, pBuild, fillA] | refine Cut.go ?_))
      refine Split_le (fun h0 => ?_) (fun h0 => ?_)
      · (repeat (first | simp -dsimp -implicitDefEqProofs (disch := omega) only [↓gp0, ↓gp1, ↓gp2, gq0, gq1, gq2, gq3, gq4, gq5, gq6, gq7, gq8, gq9, go0, go1, gl0, gl1, gl2, gl3, ↓reduceIte, Nat.reduceEqDiff, Nat.reduceAdd, Nat.reduceLeDiff, pBuild, fillA] | refine Cut.go ?_))
        have : ¬ ((n : Int) < max s 0) := by omega
        simp [takesI, fitsB, this]
      · have hm : IntKind.u64.wrap s = s := wrapN (by omega) (by omega)
        (repeat (first | simp -dsimp -implicitDefEqProofs (disch := omega) only [↓gp0, ↓gp1, ↓gp2, gq0, gq1, gq2, gq3, gq4, gq5, gq6, gq7, gq8, gq9, go0, go1, gl0, gl1, gl2, gl3, ↓reduceIte, Nat.reduceEqDiff, Nat.reduceAdd, Nat.reduceLeDiff, pBuild, fillA, hm] | refine Cut.go ?_))
        refine Split_le (fun h1 => ?_) (fun h1 => ?_)
        · (repeat (first | simp -dsimp -implicitDefEqProofs (disch := omega) only [↓gp0, ↓gp1, ↓gp2, gq0, gq1, gq2, gq3, gq4, gq5, gq6, gq7, gq8, gq9, go0, go1, gl0, gl1, gl2, gl3, ↓reduceIte, Nat.reduceEqDiff, Nat.reduceAdd, Nat.reduceLeDiff, pBuild, fillA] | refine Cut.go ?_))
          have : ¬ ((n : Int) < max s 0) := by omega
          simp [takesI, fitsB, this]
        · (repeat (first | simp -dsimp -implicitDefEqProofs (disch := omega) only [↓gp0, ↓gp1, ↓gp2, gq0, gq1, gq2, gq3, gq4, gq5, gq6, gq7, gq8, gq9, go0, go1, gl0, gl1, gl2, gl3, ↓reduceIte, Nat.reduceEqDiff, Nat.reduceAdd, Nat.reduceLeDiff, pBuild, fillA] | refine Cut.go ?_))
          have : ((n : Int) < max s 0) := by omega
          simp [takesI, fitsB, needsI, this, hb]
  · repeat' (first | (simp -dsimp -implicitDefEqProofs (disch := omega) only [↓gp0, ↓gp1, ↓gp2, gq0, gq1, gq2, gq3, gq4, gq5, gq6, gq7, gq8, gq9, go0, go1, gl0, gl1, gl2, gl3, ↓reduceIte, Nat.reduceEqDiff, Nat.reduceAdd, Nat.reduceLeDiff, pBuild, fillA]) | refine Cut.go ?_ | refine Split_eq (fun _ => ?_) (fun _ => ?_) | refine Split_ne (fun _ => ?_) (fun _ => ?_) | refine Split_lt (fun _ => ?_) (fun _ => ?_) | refine Split_le (fun _ => ?_) (fun _ => ?_) | refine Split.intro (fun _ => ?_) (fun _ => ?_))
    all_goals (simp [takesI, fitsB, needsI, beqI, bneI, *]; try omega)
  · repeat' (first | (simp -dsimp -implicitDefEqProofs (disch := omega) only [↓gp0, ↓gp1, ↓gp2, gq0, gq1, gq2, gq3, gq4, gq5, gq6, gq7, gq8, gq9, go0, go1, gl0, gl1, gl2, gl3, ↓reduceIte, Nat.reduceEqDiff, Nat.reduceAdd, Nat.reduceLeDiff, pBuild, fillA]) | refine Cut.go ?_ | refine Split_eq (fun _ => ?_) (fun _ => ?_) | refine Split_ne (fun _ => ?_) (fun _ => ?_) | refine Split_lt (fun _ => ?_) (fun _ => ?_) | refine Split_le (fun _ => ?_) (fun _ => ?_) | refine Split.intro (fun _ => ?_) (fun _ => ?_))
    all_goals (simp [takesI, fitsB, needsI, beqI, bneI, *]; try omega)
  · repeat' (first | (simp -dsimp -implicitDefEqProofs (disch := omega) only [↓gp0, ↓gp1, ↓gp2, gq0, gq1, gq2, gq3, gq4, gq5, gq6, gq7, gq8, gq9, go0, go1, gl0, gl1, gl2, gl3, ↓reduceIte, Nat.reduceEqDiff, Nat.reduceAdd, Nat.reduceLeDiff, pBuild, fillA]) | refine Cut.go ?_ | refine Split_eq (fun _ => ?_) (fun _ => ?_) | refine Split_ne (fun _ => ?_) (fun _ => ?_) | refine Split_lt (fun _ => ?_) (fun _ => ?_) | refine Split_le (fun _ => ?_) (fun _ => ?_) | refine Split.intro (fun _ => ?_) (fun _ => ?_))
    all_goals (simp [takesI, fitsB, needsI, beqI, bneI, *]; try omega)
  · repeat' (first | (simp -dsimp -implicitDefEqProofs (disch := omega) only [↓gp0, ↓gp1, ↓gp2, gq0, gq1, gq2, gq3, gq4, gq5, gq6, gq7, gq8, gq9, go0, go1, gl0, gl1, gl2, gl3, ↓reduceIte, Nat.reduceEqDiff, Nat.reduceAdd, Nat.reduceLeDiff, pBuild, fillA]) | refine Cut.go ?_ | refine Split_eq (fun _ => ?_) (fun _ => ?_) | refine Split_ne (fun _ => ?_) (fun _ => ?_) | refine Split_lt (fun _ => ?_) (fun _ => ?_) | refine Split_le (fun _ => ?_) (fun _ => ?_) | refine Split.intro (fun _ => ?_) (fun _ => ?_))
    all_goals (simp [takesI, fitsB, needsI, beqI, bneI, *]; try omega)
  · repeat' (first | (simp -dsimp -implicitDefEqProofs (disch := omega) only [↓gp0, ↓gp1, ↓gp2, gq0, gq1, gq2, gq3, gq4, gq5, gq6, gq7, gq8, gq9, go0, go1, gl0, gl1, gl2, gl3, ↓reduceIte, Nat.reduceEqDiff, Nat.reduceAdd, Nat.reduceLeDiff, pBuild, fillA]) | refine Cut.go ?_ | refine Split_eq (fun _ => ?_) (fun _ => ?_) | refine Split_ne (fun _ => ?_) (fun _ => ?_) | refine Split_lt (fun _ => ?_) (fun _ => ?_) | refine Split_le (fun _ => ?_) (fun _ => ?_) | refine Split.intro (fun _ => ?_) (fun _ => ?_))
    all_goals (simp [takesI, fitsB, needsI, beqI, bneI, *]; try omega)
  · repeat' (first | (simp -dsimp -implicitDefEqProofs (disch := omega) only [↓gp0, ↓gp1, ↓gp2, gq0, gq1, gq2, gq3, gq4, gq5, gq6, gq7, gq8, gq9, go0, go1, gl0, gl1, gl2, gl3, ↓reduceIte, Nat.reduceEqDiff, Nat.reduceAdd, Nat.reduceLeDiff, pBuild, fillA]) | refine Cut.go ?_ | refine Split_eq (fun _ => ?_) (fun _ => ?_) | refine Split_ne (fun _ => ?_) (fun _ => ?_) | refine Split_lt (fun _ => ?_) (fun _ => ?_) | refine Split_le (fun _ => ?_) (fun _ => ?_) | refine Split.intro (fun _ => ?_) (fun _ => ?_))
    all_goals (simp [takesI, fitsB, needsI, beqI, bneI, *]; try omega)
  · repeat' (first | (simp -dsimp -implicitDefEqProofs (disch := omega) only [↓gp0, ↓gp1, ↓gp2, gq0, gq1, gq2, gq3, gq4, gq5, gq6, gq7, gq8, gq9, go0, go1, gl0, gl1, gl2, gl3, ↓reduceIte, Nat.reduceEqDiff, Nat.reduceAdd, Nat.reduceLeDiff, pBuild, fillA]) | refine Cut.go ?_ | refine Split_eq (fun _ => ?_) (fun _ => ?_) | refine Split_ne (fun _ => ?_) (fun _ => ?_) | refine Split_lt (fun _ => ?_) (fun _ => ?_) | refine Split_le (fun _ => ?_) (fun _ => ?_) | refine Split.intro (fun _ => ?_) (fun _ => ?_))
    all_goals (simp [takesI, fitsB, needsI, beqI, bneI, *]; try omega)
  · repeat' (first | (simp -dsimp -implicitDefEqProofs (disch := omega) only [↓gp0, ↓gp1, ↓gp2, gq0, gq1, gq2, gq3, gq4, gq5, gq6, gq7, gq8, gq9, go0, go1, gl0, gl1, gl2, gl3, ↓reduceIte, Nat.reduceEqDiff, Nat.reduceAdd, Nat.reduceLeDiff, pBuild, fillA]) | refine Cut.go ?_ | refine Split_eq (fun _ => ?_) (fun _ => ?_) | refine Split_ne (fun _ => ?_) (fun _ => ?_) | refine Split_lt (fun _ => ?_) (fun _ => ?_) | refine Split_le (fun _ => ?_) (fun _ => ?_) | refine Split.intro (fun _ => ?_) (fun _ => ?_))
    all_goals (simp [takesI, fitsB, needsI, beqI, bneI, *]; try omega)
  · have : takesI ⟨op, bin, n⟩ s = -1 := by
      have hf : fitsB ⟨op, bin, n⟩ s = false := by unfold fitsB; simp only; rw [if_neg (by omega), if_neg (by omega), if_neg (by omega), if_neg (by omega), if_neg (by omega), if_neg (by omega), if_neg (by omega)]
      unfold takesI; rw [hf]; rfl
    rw [this]
    rcases ho with ho | ho
    · have d1 : decide (1 ≤ op) = false := decide_eq_false (by omega)
      have d3 : decide (4 ≤ op) = false := decide_eq_false (by omega)
      have d5 : decide (op < 8) = true := decide_eq_true (by omega)
      (repeat (first | simp -dsimp -implicitDefEqProofs only [↓gp0, ↓gp1, ↓gp2, gq0, gq1, gq2, gq3, gq4, gq5, gq6, gq7, gq8, gq9, gl0, gl1, gl2, gl3, ↓reduceIte, Nat.reduceEqDiff, Nat.reduceAdd, Nat.reduceLeDiff, pBuild, fillA, d1, d3, d5] | refine Cut.go ?_))
    · have d1 : decide (1 ≤ op) = true := decide_eq_true (by omega)
      have d2 : decide (op ≤ 3) = false := decide_eq_false (by omega)
      have d3 : decide (4 ≤ op) = true := decide_eq_true (by omega)
      have d4 : decide (op ≤ 7) = false := decide_eq_false (by omega)
      have d5 : decide (op < 8) = false := decide_eq_false (by omega)
      have d6 : decide (10 < op) = true := decide_eq_true (by omega)
      (repeat (first | simp -dsimp -implicitDefEqProofs only [↓gp0, ↓gp1, ↓gp2, gq0, gq1, gq2, gq3, gq4, gq5, gq6, gq7, gq8, gq9, gl0, gl1, gl2, gl3, ↓reduceIte, Nat.reduceEqDiff, Nat.reduceAdd, Nat.reduceLeDiff, pBuild, fillA, d1, d2, d3, d4, d5, d6] | refine Cut.go ?_))



open Classical in
/-- Whether items are an expression. -/
noncomputable def goodB (l : List It) (s : Int) : Bool := decide (goodP l s)

theorem okL_take {s : Int} {l : List It} {k : Nat} (h : okL s l) : okL s (l.take k) := by
  intro j hj x hx
  have hj' : j < l.length := by simp at hj; omega
  have hjk : j < k := by simp at hj; omega
  rw [List.getElem?_take_of_lt hjk] at hx
  obtain ⟨h1, h2⟩ := h j hj' x hx
  refine ⟨h1, ?_⟩
  rw [List.take_take, Nat.min_eq_left (by omega)]
  exact h2
theorem high_bound {s : Int} : ∀ (n : Nat) (l : List It), l.length = n → okL s l → high l ≤ l.length := by
  intro n
  induction n with
  | zero =>
    intro l hl _
    have : l = [] := List.length_eq_zero_iff.1 hl
    subst this; simp [high]
  | succ n ih =>
    intro l hl h
    rcases List.eq_nil_or_concat l with rfl | ⟨m, x, rfl⟩
    · simp at hl
    · rw [List.concat_eq_append] at *
      simp at hl
      rw [okL_snoc] at h
      have := ih m hl h.1
      have := fits_needs h.2.1
      rw [high_snoc]; simp; omega

theorem calc_Good_does (s : Int) (hs : okI s) (o : Option (List It)) (hok : okSl Api_Item.ok o) (h : AHeap) :
    CallsA Try.prog 86 [.int .i64 s, slAV 3 Api_Item.cells o] h (fun v h2 => v = .bool (goodB (slL o) s) ∧ Keeps h h2 (fun _ => False)) := by
  obtain ⟨hl, hok⟩ := hok
  unfold maxLen at hl
  apply calc_Good_wp
  (repeat (first | simp -dsimp -implicitDefEqProofs (disch := omega) only [↓gp0, ↓gp1, ↓gp2, gq0, gq1, gq2, gq3, gq4, gq5, gq6, gq7, gq8, gq9, go0, go1, gl0, gl1, gl2, gl3, ↓reduceIte, Nat.reduceEqDiff, Nat.reduceAdd, Nat.reduceLeDiff, pBuild, fillA] | refine Cut.go ?_))
  refine WP_loop mixed_ (by kernel_rfl) (fun m fr hh => ∃ k : Nat, k ≤ (slL o).length ∧ m = (slL o).length - k ∧ okL s ((slL o).take k) ∧ Keeps h hh (fun _ => False) ∧ fr = frOf [(0, .int .i64 s), (1, slAV 3 Api_Item.cells o), (5, .int .i64 (high ((slL o).take k))), (8, slAV 3 Api_Item.cells o), (9, .int .i64 (slL o).length), (10, .int .i64 k)]) (slL o).length ⟨0, by omega, by omega, fun j hj => by simp at hj, .refl _ _, rfl⟩ ?_
  rintro m fr hh ⟨k, hk, rfl, hokl, kp, rfl⟩
  apply calc_Good_loop3
  generalize hI : (fun (m : Nat) (fr : Fr) (hh : AHeap) => _) = I
  have hb := high_bound _ _ rfl hokl
  have hb0 := (okL_high hokl _ (Nat.le_refl _)).1
  rw [List.take_length] at hb0
  simp at hb
  have hbk : high ((slL o).take k) ≤ k := by omega
  (repeat (first | simp -dsimp -implicitDefEqProofs (disch := omega) only [↓gp0, ↓gp1, ↓gp2, gq0, gq1, gq2, gq3, gq4, gq5, gq6, gq7, gq8, gq9, go0, go1, gl0, gl1, gl2, gl3, ↓reduceIte, Nat.reduceEqDiff, Nat.reduceAdd, Nat.reduceLeDiff, pBuild, fillA] | refine Cut.go ?_))
  refine Split_lt (fun hkl => ?_) (fun hkl => ?_)
  · obtain ⟨x, hx⟩ : ∃ x, (slL o)[k]? = some x := ⟨_, List.getElem?_eq_getElem (by omega)⟩
    have hxok := hok x (List.mem_of_getElem? hx)
    have hsn : (slL o).take (k + 1) = (slL o).take k ++ [x] := by rw [List.take_add_one, hx]; rfl
    (repeat (first | simp -dsimp -implicitDefEqProofs (disch := omega) only [↓gp0, ↓gp1, ↓gp2, gq0, gq1, gq2, gq3, gq4, gq5, gq6, gq7, gq8, gq9, go0, go1, gl0, gl1, gl2, gl3, ↓reduceIte, Nat.reduceEqDiff, Nat.reduceAdd, Nat.reduceLeDiff, pBuild, fillA, pIndexAddr_slAV hx] | refine Cut.go ?_))
    have hc : (List.take 3 (Api_Item.cells x)) = x.cells := rfl
    have hl3 : (Api_Item.cells x).length = 3 := rfl
    rw [hl3]
    (repeat (first | simp -dsimp -implicitDefEqProofs (disch := omega) only [↓gp0, ↓gp1, ↓gp2, gq0, gq1, gq2, gq3, gq4, gq5, gq6, gq7, gq8, gq9, go0, go1, gl0, gl1, gl2, gl3, ↓reduceIte, Nat.reduceEqDiff, Nat.reduceAdd, Nat.reduceLeDiff, pBuild, fillA, hc] | refine Cut.go ?_))
    rw [pStore_push (by rfl) (by rfl)]
    have kA := Keeps.push hh (.row 136 x.cells)
    (repeat (first | simp -dsimp -implicitDefEqProofs (disch := omega) only [↓gp0, ↓gp1, ↓gp2, gq0, gq1, gq2, gq3, gq4, gq5, gq6, gq7, gq8, gq9, go0, go1, gl0, gl1, gl2, gl3, ↓reduceIte, Nat.reduceEqDiff, Nat.reduceAdd, Nat.reduceLeDiff, pBuild, fillA, hl3, hc] | refine Cut.go ?_))
    refine (calc_fits_does x s hxok hs _).mono ?_
    rintro _ _ ⟨rfl, rfl⟩
    have bad : ¬ (fitsB x s = true ∧ needsI x.Op ≤ high ((slL o).take k)) → goodB (slL o) s = false := by
      intro hn
      unfold goodB
      rw [decide_eq_false_iff_not]
      rintro ⟨g1, -, -⟩
      exact hn (g1 k (by omega) x hx)
    cases hf : fitsB x s with
    | false =>
      (repeat (first | simp -dsimp -implicitDefEqProofs (disch := omega) only [↓gp0, ↓gp1, ↓gp2, gq0, gq1, gq2, gq3, gq4, gq5, gq6, gq7, gq8, gq9, go0, go1, gl0, gl1, gl2, gl3, ↓reduceIte, Nat.reduceEqDiff, Nat.reduceAdd, Nat.reduceLeDiff, pBuild, fillA] | refine Cut.go ?_))
      exact ⟨by rw [bad (by rw [hf]; simp)], kp.trans kA (fun _ _ h => h)⟩
    | true =>
      have hn := fits_needs hf
      (repeat (first | simp -dsimp -implicitDefEqProofs (disch := omega) only [↓gp0, ↓gp1, ↓gp2, gq0, gq1, gq2, gq3, gq4, gq5, gq6, gq7, gq8, gq9, go0, go1, gl0, gl1, gl2, gl3, ↓reduceIte, Nat.reduceEqDiff, Nat.reduceAdd, Nat.reduceLeDiff, pBuild, fillA, hl3, hc] | refine Cut.go ?_))
      refine (calc_needs_does x _).mono ?_
      rintro _ _ ⟨rfl, rfl⟩
      (repeat (first | simp -dsimp -implicitDefEqProofs (disch := omega) only [↓gp0, ↓gp1, ↓gp2, gq0, gq1, gq2, gq3, gq4, gq5, gq6, gq7, gq8, gq9, go0, go1, gl0, gl1, gl2, gl3, ↓reduceIte, Nat.reduceEqDiff, Nat.reduceAdd, Nat.reduceLeDiff, pBuild, fillA] | refine Cut.go ?_))
      refine Split_lt (fun hlt => ?_) (fun hle => ?_)
      · (repeat (first | simp -dsimp -implicitDefEqProofs (disch := omega) only [↓gp0, ↓gp1, ↓gp2, gq0, gq1, gq2, gq3, gq4, gq5, gq6, gq7, gq8, gq9, go0, go1, gl0, gl1, gl2, gl3, ↓reduceIte, Nat.reduceEqDiff, Nat.reduceAdd, Nat.reduceLeDiff, pBuild, fillA] | refine Cut.go ?_))
        exact ⟨by rw [bad (by omega)], kp.trans kA (fun _ _ h => h)⟩
      · (repeat (first | simp -dsimp -implicitDefEqProofs (disch := omega) only [↓gp0, ↓gp1, ↓gp2, gq0, gq1, gq2, gq3, gq4, gq5, gq6, gq7, gq8, gq9, go0, go1, gl0, gl1, gl2, gl3, ↓reduceIte, Nat.reduceEqDiff, Nat.reduceAdd, Nat.reduceLeDiff, pBuild, fillA, hl3, hc] | refine Cut.go ?_))
        refine (calc_needs_does x _).mono ?_
        rintro _ _ ⟨rfl, rfl⟩
        have w1 : IntKind.i64.wrap (1 - needsI x.Op) = 1 - needsI x.Op := wrapI (by omega) (by omega)
        have w2 : IntKind.i64.wrap (high ((slL o).take k) + (1 - needsI x.Op)) = high ((slL o).take (k + 1)) := by rw [hsn, high_snoc]; exact wrapI (by omega) (by omega)
        (repeat (first | simp -dsimp -implicitDefEqProofs (disch := omega) only [↓gp0, ↓gp1, ↓gp2, gq0, gq1, gq2, gq3, gq4, gq5, gq6, gq7, gq8, gq9, go0, go1, gl0, gl1, gl2, gl3, ↓reduceIte, Nat.reduceEqDiff, Nat.reduceAdd, Nat.reduceLeDiff, pBuild, fillA, w1, w2] | refine Cut.go ?_))
        rw [loopPost_normal, ← hI]
        refine ⟨_, ?_, k + 1, by omega, rfl, ?_, kp.trans kA (fun _ _ h => h), rfl⟩
        · omega
        · rw [hsn, okL_snoc]; exact ⟨hokl, hf, hle⟩
  · have hke : k = (slL o).length := by omega
    subst hke
    rw [List.take_length] at *
    (repeat (first | simp -dsimp -implicitDefEqProofs (disch := omega) only [↓gp0, ↓gp1, ↓gp2, gq0, gq1, gq2, gq3, gq4, gq5, gq6, gq7, gq8, gq9, go0, go1, gl0, gl1, gl2, gl3, ↓reduceIte, Nat.reduceEqDiff, Nat.reduceAdd, Nat.reduceLeDiff, pBuild, fillA] | refine Cut.go ?_))
    have hg : goodB (slL o) s = (decide (high (slL o) = 1) && decide ((slL o).length ≤ 64)) := by
      unfold goodB goodP
      rw [Bool.eq_iff_iff]
      simp only [decide_eq_true_eq, Bool.and_eq_true]
      exact ⟨fun h => h.2, fun h => ⟨hokl, h⟩⟩
    rw [hg]
    refine Split_eq (fun h1 => ?_) (fun h1 => ?_)
    · (repeat (first | simp -dsimp -implicitDefEqProofs (disch := omega) only [↓gp0, ↓gp1, ↓gp2, gq0, gq1, gq2, gq3, gq4, gq5, gq6, gq7, gq8, gq9, go0, go1, gl0, gl1, gl2, gl3, ↓reduceIte, Nat.reduceEqDiff, Nat.reduceAdd, Nat.reduceLeDiff, pBuild, fillA] | refine Cut.go ?_))
      refine ⟨?_, kp⟩
      simp [h1]; omega
    · (repeat (first | simp -dsimp -implicitDefEqProofs (disch := omega) only [↓gp0, ↓gp1, ↓gp2, gq0, gq1, gq2, gq3, gq4, gq5, gq6, gq7, gq8, gq9, go0, go1, gl0, gl1, gl2, gl3, ↓reduceIte, Nat.reduceEqDiff, Nat.reduceAdd, Nat.reduceLeDiff, pBuild, fillA] | refine Cut.go ?_))
      refine ⟨?_, kp⟩
      simp [h1]

theorem ref_Good_does (s : Int) (hs : okI s) (o : Option (List It)) (hok : okSl Api_Item.ok o) (hlen : (slL o).length ≤ 1000000) (h : AHeap) :
    CallsA Try.prog 73 [slAV 3 Api_Item.cells o, .int .i64 s] h (fun v h2 => v = .bool (goodB (slL o) s) ∧ h2 = h) := by
  obtain ⟨hl, hok⟩ := hok
  unfold maxLen at hl
  have key : goodB (slL o) s = (decide (wantR s (slL o).reverse 1 = some 0) && decide ((slL o).length ≤ 64)) := by
    unfold goodB goodP
    rw [Bool.eq_iff_iff]
    simp only [decide_eq_true_eq, Bool.and_eq_true]
    rw [want_good s _ (slL o) rfl 1 (by omega)]
    exact ⟨fun h => ⟨⟨h.1, h.2.1⟩, h.2.2⟩, fun h => ⟨h.1.1, h.1.2, h.2⟩⟩
  apply padlockref08_Good_wp
  (repeat (first | simp -dsimp -implicitDefEqProofs (disch := omega) only [↓gp0, ↓gp1, ↓gp2, gq0, gq1, gq2, gq3, gq4, gq5, gq6, gq7, gq8, gq9, go0, go1, gl0, gl1, gl2, gl3, ↓reduceIte, Nat.reduceEqDiff, Nat.reduceAdd, Nat.reduceLeDiff, pBuild, fillA] | refine Cut.go ?_))
  refine WP_loop mixed_ (by kernel_rfl) (fun m fr hh => ∃ (k : Nat) (w : Int), k ≤ (slL o).length ∧ m = k ∧ 0 ≤ w ∧ w ≤ 2 * ((slL o).length - k) + 1 ∧ hh = h ∧ wantR s (slL o).reverse 1 = wantR s ((slL o).take k).reverse w ∧ fr = frOf [(0, slAV 3 Api_Item.cells o), (1, .int .i64 s), (5, .int .i64 w), (6, .int .i64 ((k : Int) - 1))]) (slL o).length ⟨(slL o).length, 1, by omega, rfl, by omega, by omega, rfl, by rw [List.take_length], rfl⟩ ?_
  rintro m fr hh ⟨k, w, hk, rfl, hw0, hw, rfl, hwr, rfl⟩
  apply padlockref08_Good_loop3
  generalize hI : (fun (m : Nat) (fr : Fr) (hh : AHeap) => _) = I
  (repeat (first | simp -dsimp -implicitDefEqProofs (disch := omega) only [↓gp0, ↓gp1, ↓gp2, gq0, gq1, gq2, gq3, gq4, gq5, gq6, gq7, gq8, gq9, go0, go1, gl0, gl1, gl2, gl3, ↓reduceIte, Nat.reduceEqDiff, Nat.reduceAdd, Nat.reduceLeDiff, pBuild, fillA] | refine Cut.go ?_))
  refine Split_le (fun hkl => ?_) (fun hkl => ?_)
  · obtain ⟨j, rfl⟩ : ∃ j, m = j + 1 := ⟨m - 1, by omega⟩
    obtain ⟨x, hx⟩ : ∃ x, (slL o)[j]? = some x := ⟨_, List.getElem?_eq_getElem (by omega)⟩
    have hxok := hok x (List.mem_of_getElem? hx)
    have hsn : (slL o).take (j + 1) = (slL o).take j ++ [x] := by rw [List.take_add_one, hx]; rfl
    have ej : ((j + 1 : Nat) : Int) - 1 = (j : Int) := by omega
    have hc : (List.take 3 (Api_Item.cells x)) = x.cells := rfl
    have hl3 : (Api_Item.cells x).length = 3 := rfl
    rw [hsn, List.reverse_append, List.reverse_singleton, List.singleton_append] at hwr
    simp only [wantR] at hwr
    rw [ej]
    (repeat (first | simp -dsimp -implicitDefEqProofs (disch := omega) only [↓gp0, ↓gp1, ↓gp2, gq0, gq1, gq2, gq3, gq4, gq5, gq6, gq7, gq8, gq9, go0, go1, gl0, gl1, gl2, gl3, ↓reduceIte, Nat.reduceEqDiff, Nat.reduceAdd, Nat.reduceLeDiff, pBuild, fillA, pIndexAddr_slAV hx, hl3, hc] | refine Cut.go ?_))
    refine (ref_Takes_does x s hxok hs _).mono ?_
    rintro _ _ ⟨rfl, rfl⟩
    have ht : -1 ≤ takesI x s ∧ takesI x s ≤ 2 := by
      unfold takesI
      split
      · rename_i hf; have := fits_needs hf; omega
      · omega
    (repeat (first | simp -dsimp -implicitDefEqProofs (disch := omega) only [↓gp0, ↓gp1, ↓gp2, gq0, gq1, gq2, gq3, gq4, gq5, gq6, gq7, gq8, gq9, go0, go1, gl0, gl1, gl2, gl3, ↓reduceIte, Nat.reduceEqDiff, Nat.reduceAdd, Nat.reduceLeDiff, pBuild, fillA] | refine Cut.go ?_))
    refine Split_lt (fun hlt => ?_) (fun hle => ?_)
    · (repeat (first | simp -dsimp -implicitDefEqProofs (disch := omega) only [↓gp0, ↓gp1, ↓gp2, gq0, gq1, gq2, gq3, gq4, gq5, gq6, gq7, gq8, gq9, go0, go1, gl0, gl1, gl2, gl3, ↓reduceIte, Nat.reduceEqDiff, Nat.reduceAdd, Nat.reduceLeDiff, pBuild, fillA] | refine Cut.go ?_))
      rw [if_pos (Or.inl hlt)] at hwr
      rw [key, hwr]; simp
    · (repeat (first | simp -dsimp -implicitDefEqProofs (disch := omega) only [↓gp0, ↓gp1, ↓gp2, gq0, gq1, gq2, gq3, gq4, gq5, gq6, gq7, gq8, gq9, go0, go1, gl0, gl1, gl2, gl3, ↓reduceIte, Nat.reduceEqDiff, Nat.reduceAdd, Nat.reduceLeDiff, pBuild, fillA] | refine Cut.go ?_))
      refine Split_eq (fun h0 => ?_) (fun h0 => ?_)
      · (repeat (first | simp -dsimp -implicitDefEqProofs (disch := omega) only [↓gp0, ↓gp1, ↓gp2, gq0, gq1, gq2, gq3, gq4, gq5, gq6, gq7, gq8, gq9, go0, go1, gl0, gl1, gl2, gl3, ↓reduceIte, Nat.reduceEqDiff, Nat.reduceAdd, Nat.reduceLeDiff, pBuild, fillA] | refine Cut.go ?_))
        rw [if_pos (Or.inr h0)] at hwr
        rw [key, hwr]; simp
      · rw [if_neg (by omega)] at hwr
        (repeat (first | simp -dsimp -implicitDefEqProofs (disch := omega) only [↓gp0, ↓gp1, ↓gp2, gq0, gq1, gq2, gq3, gq4, gq5, gq6, gq7, gq8, gq9, go0, go1, gl0, gl1, gl2, gl3, ↓reduceIte, Nat.reduceEqDiff, Nat.reduceAdd, Nat.reduceLeDiff, pBuild, fillA] | refine Cut.go ?_))
        rw [loopPost_normal, ← hI]
        exact ⟨j, by omega, j, w - 1 + takesI x s, by omega, rfl, by omega, by omega, rfl, hwr, rfl⟩
  · have hke : m = 0 := by omega
    subst hke
    rw [List.take_zero] at hwr
    simp only [List.reverse_nil, wantR] at hwr
    (repeat (first | simp -dsimp -implicitDefEqProofs (disch := omega) only [↓gp0, ↓gp1, ↓gp2, gq0, gq1, gq2, gq3, gq4, gq5, gq6, gq7, gq8, gq9, go0, go1, gl0, gl1, gl2, gl3, ↓reduceIte, Nat.reduceEqDiff, Nat.reduceAdd, Nat.reduceLeDiff, pBuild, fillA] | refine Cut.go ?_))
    rw [key, hwr]
    refine Split_eq (fun h1 => ?_) (fun h1 => ?_)
    · (repeat (first | simp -dsimp -implicitDefEqProofs (disch := omega) only [↓gp0, ↓gp1, ↓gp2, gq0, gq1, gq2, gq3, gq4, gq5, gq6, gq7, gq8, gq9, go0, go1, gl0, gl1, gl2, gl3, ↓reduceIte, Nat.reduceEqDiff, Nat.reduceAdd, Nat.reduceLeDiff, pBuild, fillA] | refine Cut.go ?_))
      simp [h1]
      try omega
    · (repeat (first | simp -dsimp -implicitDefEqProofs (disch := omega) only [↓gp0, ↓gp1, ↓gp2, gq0, gq1, gq2, gq3, gq4, gq5, gq6, gq7, gq8, gq9, go0, go1, gl0, gl1, gl2, gl3, ↓reduceIte, Nat.reduceEqDiff, Nat.reduceAdd, Nat.reduceLeDiff, pBuild, fillA] | refine Cut.go ?_))
      simp [h1]


end Go.Proofs.Ytppldbldpphlmaa
