/- The rows that the laws let in. -/
import Derived.Test.YtopfjochppdnfaaDoorClLaw
set_option linter.unusedVariables false
set_option linter.unusedSimpArgs false
set_option maxRecDepth 100000
set_option maxHeartbeats 1000000
namespace Go.Proofs.YtopfjochppdnfaaDoor
open Go.Abs

theorem ClassIs_row {m : Nat} (hm : m ≤ 12) (rows : Option Rws) (set : Nat) (i : Nat) {o : Option (List Nat)} (hl : (slL o).length ≤ 9223372036854775807) (ho : ∀ x ∈ slL o, x < 18446744073709551616)  (h0 : AHeap) (Q : AExit → Fr → AHeap → Prop) (hret : Q .ret (frOf [(6, .bool true)]) h0)
    (hex : (slL o).length ≤ 8 → (∀ x ∈ slL o, x < 2 ^ m) → Q (.exit 2) (frOf [(0, .int .i64 m), (1, slAV 1 (fun o => [slAV 1 encN o]) rows), (2, .int .u64 (set : Nat)), (42, slAV 1 (fun o => [slAV 1 encN o]) rows), (43, .int .i64 (slL rows).length), (44, .int .i64 i)]) h0) :
    WP Tryd.prog 120 (.loop c_padlocklaw12_ClassIs_9) (frOf [(0, .int .i64 m), (1, slAV 1 (fun o => [slAV 1 encN o]) rows), (2, .int .u64 (set : Nat)), (8, slAV 1 encN o), (42, slAV 1 (fun o => [slAV 1 encN o]) rows), (43, .int .i64 (slL rows).length), (44, .int .i64 i), (48, slAV 1 encN o), (49, .int .i64 (slL o).length), (50, .int .i64 0)]) h0 Q := by
  have hpow : (2 : Nat) ^ m ≤ 4096 := by
    have : (2 : Nat) ^ m ≤ 2 ^ 12 := Nat.pow_le_pow_right (by decide) hm
    simpa using this
  obtain ⟨I, hI⟩ : ∃ I : Nat → Fr → AHeap → Prop, I = (fun r fr hh => ∃ (j : Nat), r = (slL o).length - j ∧ j ≤ (slL o).length ∧ hh = h0 ∧ (0 < j → (slL o).length ≤ 8) ∧ (∀ x ∈ (slL o).take j, x < 2 ^ m) ∧ fr = frOf [(0, .int .i64 m), (1, slAV 1 (fun o => [slAV 1 encN o]) rows), (2, .int .u64 (set : Nat)), (8, slAV 1 encN o), (42, slAV 1 (fun o => [slAV 1 encN o]) rows), (43, .int .i64 (slL rows).length), (44, .int .i64 i), (48, slAV 1 encN o), (49, .int .i64 (slL o).length), (50, .int .i64 j)]) := ⟨_, rfl⟩
  refine WP_loop mixed_ (by kernel_rfl) I (slL o).length (by rw [hI]; exact ⟨0, rfl, Nat.zero_le _, rfl, by omega, by simp, rfl⟩) ?_
  intro r fr hh hi
  rw [hI] at hi
  obtain ⟨j, rfl, hj, rfl, h8, hlt, rfl⟩ := hi
  apply padlocklaw12_ClassIs_loop9
  (repeat (first | simp -dsimp -implicitDefEqProofs (disch := omega) only [↓gp0, ↓gp1, ↓gp2, gq0, gq1, gq2, gq3, gq4, gq5, gq6, gq7, gq8, gq9, go0, go1, gl0, gl1, gl2, gl3, ↓reduceIte, Nat.reduceEqDiff, Nat.reduceAdd, Nat.reduceLeDiff, pBuild, fillA, ↓Api_Sets.r] | refine Cut.go ?_))
  refine Split_lt (fun hjl => ?_) (fun hjl => ?_)
  · obtain ⟨x, hxj⟩ : ∃ x, (slL o)[j]? = some x := ⟨_, List.getElem?_eq_getElem (by omega)⟩
    have hx1 := ho x (List.mem_of_getElem? hxj)
    have ld : ∀ (H : AHeap) (K : AV → Prop), pLoad none (.iptr (encN x)) H K = K (.int .u64 (x : Nat)) := fun H K => by rw [pLoad_iptr]; simp [pCells, encN]
    have ec : IntKind.u64.wrap (m : Int) = (m : Int) := by rw [wr_u64]; omega
    have es : binA CmpK.other BinOp.shl (.int .u64 1) (.int .u64 (m : Int)) = some (.int .u64 ((2 ^ m : Nat) : Int)) := by
      have := iShl_u64 1 m (by omega)
      rw [binA_shl, if_neg (by omega)]
      rw [show ((1 : Nat) : Int) = 1 from rfl] at this
      rw [this, Nat.one_mul, Nat.mod_eq_of_lt (by omega)]
    (repeat (first | simp -dsimp -implicitDefEqProofs (disch := omega) only [↓gp0, ↓gp1, ↓gp2, gq0, gq1, gq2, gq3, gq4, gq5, gq6, gq7, gq8, gq9, go0, go1, gl0, gl1, gl2, gl3, ↓reduceIte, Nat.reduceEqDiff, Nat.reduceAdd, Nat.reduceLeDiff, pBuild, fillA, ↓Api_Sets.r, pIndexAddr_slAV hxj, ld] | refine Cut.go ?_))
    refine Split_lt (fun h9 => ?_) (fun h9 => ?_)
    · (repeat (first | simp -dsimp -implicitDefEqProofs (disch := omega) only [↓gp0, ↓gp1, ↓gp2, gq0, gq1, gq2, gq3, gq4, gq5, gq6, gq7, gq8, gq9, go0, go1, gl0, gl1, gl2, gl3, ↓reduceIte, Nat.reduceEqDiff, Nat.reduceAdd, Nat.reduceLeDiff, pBuild, fillA, ↓Api_Sets.r] | refine Cut.go ?_))
      exact hret
    · have eg : binA CmpK.other BinOp.geq (.int .u64 (x : Int)) (.int .u64 ((2 ^ m : Nat) : Int)) = some (.bool (decide (2 ^ m ≤ x))) := by
        rw [binA_int_geq]
        congr 2
        rw [Bool.eq_iff_iff]
        simp only [decide_eq_true_eq]
        omega
      (repeat (first | simp -dsimp -implicitDefEqProofs (disch := omega) only [↓gp0, ↓gp1, ↓gp2, gq0, gq1, gq2, gq3, gq4, gq5, gq6, gq7, gq8, gq9, go0, go1, gl0, gl1, gl2, gl3, ↓reduceIte, Nat.reduceEqDiff, Nat.reduceAdd, Nat.reduceLeDiff, pBuild, fillA, ↓Api_Sets.r, ec, es, eg] | refine Cut.go ?_))
      by_cases hb : 2 ^ m ≤ x
      · rw [decide_eq_true hb]
        (repeat (first | simp -dsimp -implicitDefEqProofs (disch := omega) only [↓gp0, ↓gp1, ↓gp2, gq0, gq1, gq2, gq3, gq4, gq5, gq6, gq7, gq8, gq9, go0, go1, gl0, gl1, gl2, gl3, ↓reduceIte, Nat.reduceEqDiff, Nat.reduceAdd, Nat.reduceLeDiff, pBuild, fillA, ↓Api_Sets.r] | refine Cut.go ?_))
        exact hret
      · rw [decide_eq_false hb]
        (repeat (first | simp -dsimp -implicitDefEqProofs (disch := omega) only [↓gp0, ↓gp1, ↓gp2, gq0, gq1, gq2, gq3, gq4, gq5, gq6, gq7, gq8, gq9, go0, go1, gl0, gl1, gl2, gl3, ↓reduceIte, Nat.reduceEqDiff, Nat.reduceAdd, Nat.reduceLeDiff, pBuild, fillA, ↓Api_Sets.r, wrapI (show -9223372036854775808 ≤ (j : Int) + 1 by omega) (by omega)] | refine Cut.go ?_))
        rw [loopPost_normal, hI]
        refine ⟨(slL o).length - (j + 1), by omega, j + 1, rfl, by omega, rfl, fun _ => by omega, fun y hy => ?_, rfl⟩
        rw [List.take_add_one, hxj] at hy
        simp at hy
        rcases hy with hy | rfl
        · exact hlt y hy
        · omega
  · (repeat (first | simp -dsimp -implicitDefEqProofs (disch := omega) only [↓gp0, ↓gp1, ↓gp2, gq0, gq1, gq2, gq3, gq4, gq5, gq6, gq7, gq8, gq9, go0, go1, gl0, gl1, gl2, gl3, ↓reduceIte, Nat.reduceEqDiff, Nat.reduceAdd, Nat.reduceLeDiff, pBuild, fillA, ↓Api_Sets.r] | refine Cut.go ?_))
    have e : j = (slL o).length := by omega
    subst e
    rw [List.take_length] at hlt
    refine hex ?_ hlt
    by_cases h0 : (slL o).length = 0
    · omega
    · exact h8 (by omega)

theorem ClassIs_rows {m : Nat} (hm : m ≤ 12) (rows : Option Rws) (hr : (slL rows).length ≤ 6) (hok : okSl (okSl okN) rows) (set : Nat)  (h0 : AHeap) (Q : AExit → Fr → AHeap → Prop) (hret : Q .ret (frOf [(6, .bool true)]) h0)
    (hex : (∀ o ∈ slL rows, (slL o).length ≤ 8 ∧ ∀ x ∈ slL o, x < 2 ^ m) → Q (.exit 0) (frOf [(0, .int .i64 m), (1, slAV 1 (fun o => [slAV 1 encN o]) rows), (2, .int .u64 (set : Nat))]) h0) :
    WP Tryd.prog 120 (.loop c_padlocklaw12_ClassIs_6) (frOf [(0, .int .i64 m), (1, slAV 1 (fun o => [slAV 1 encN o]) rows), (2, .int .u64 (set : Nat)), (42, slAV 1 (fun o => [slAV 1 encN o]) rows), (43, .int .i64 (slL rows).length), (44, .int .i64 0)]) h0 Q := by
  obtain ⟨I, hI⟩ : ∃ I : Nat → Fr → AHeap → Prop, I = (fun r fr hh => ∃ (i : Nat), r = (slL rows).length - i ∧ i ≤ (slL rows).length ∧ hh = h0 ∧ (∀ o ∈ (slL rows).take i, (slL o).length ≤ 8 ∧ ∀ x ∈ slL o, x < 2 ^ m) ∧ fr = frOf [(0, .int .i64 m), (1, slAV 1 (fun o => [slAV 1 encN o]) rows), (2, .int .u64 (set : Nat)), (42, slAV 1 (fun o => [slAV 1 encN o]) rows), (43, .int .i64 (slL rows).length), (44, .int .i64 i)]) := ⟨_, rfl⟩
  refine WP_loop mixed_ (by kernel_rfl) I (slL rows).length (by rw [hI]; exact ⟨0, rfl, Nat.zero_le _, rfl, by simp, rfl⟩) ?_
  intro r fr hh hi
  rw [hI] at hi
  obtain ⟨i, rfl, hi, rfl, hall, rfl⟩ := hi
  apply padlocklaw12_ClassIs_loop6
  (repeat (first | simp -dsimp -implicitDefEqProofs (disch := omega) only [↓gp0, ↓gp1, ↓gp2, gq0, gq1, gq2, gq3, gq4, gq5, gq6, gq7, gq8, gq9, go0, go1, gl0, gl1, gl2, gl3, ↓reduceIte, Nat.reduceEqDiff, Nat.reduceAdd, Nat.reduceLeDiff, pBuild, fillA, ↓Api_Sets.r] | refine Cut.go ?_))
  refine Split_lt (fun hil => ?_) (fun hil => ?_)
  · obtain ⟨o, hxo⟩ : ∃ o, (slL rows)[i]? = some o := ⟨_, List.getElem?_eq_getElem (by omega)⟩
    obtain ⟨ho1, ho2⟩ := hok.2 o (List.mem_of_getElem? hxo)
    have ld : ∀ (H : AHeap) (K : AV → Prop), pLoad none (.iptr [slAV 1 encN o]) H K = K (slAV 1 encN o) := fun H K => by rw [pLoad_iptr]; simp [pCells]
    (repeat (first | simp -dsimp -implicitDefEqProofs (disch := omega) only [↓gp0, ↓gp1, ↓gp2, gq0, gq1, gq2, gq3, gq4, gq5, gq6, gq7, gq8, gq9, go0, go1, gl0, gl1, gl2, gl3, ↓reduceIte, Nat.reduceEqDiff, Nat.reduceAdd, Nat.reduceLeDiff, pBuild, fillA, ↓Api_Sets.r, pIndexAddr_slAV hxo, ld] | refine Cut.go ?_))
    refine ClassIs_row hm rows set i (Nat.le_trans ho1 (by decide)) ho2 hh _ ?_ (fun h8 hlt => ?_)
    · (repeat (first | simp -dsimp -implicitDefEqProofs (disch := omega) only [↓gp0, ↓gp1, ↓gp2, gq0, gq1, gq2, gq3, gq4, gq5, gq6, gq7, gq8, gq9, go0, go1, gl0, gl1, gl2, gl3, ↓reduceIte, Nat.reduceEqDiff, Nat.reduceAdd, Nat.reduceLeDiff, pBuild, fillA, ↓Api_Sets.r] | refine Cut.go ?_))
      exact hret
    · (repeat (first | simp -dsimp -implicitDefEqProofs (disch := omega) only [↓gp0, ↓gp1, ↓gp2, gq0, gq1, gq2, gq3, gq4, gq5, gq6, gq7, gq8, gq9, go0, go1, gl0, gl1, gl2, gl3, ↓reduceIte, Nat.reduceEqDiff, Nat.reduceAdd, Nat.reduceLeDiff, pBuild, fillA, ↓Api_Sets.r, wk1 i (by omega)] | refine Cut.go ?_))
      rw [loopPost_normal, hI]
      refine ⟨(slL rows).length - (i + 1), by omega, i + 1, rfl, by omega, rfl, fun y hy => ?_, rfl⟩
      rw [List.take_add_one, hxo] at hy
      simp at hy
      rcases hy with hy | rfl
      · exact hall y hy
      · exact ⟨h8, hlt⟩
  · (repeat (first | simp -dsimp -implicitDefEqProofs (disch := omega) only [↓gp0, ↓gp1, ↓gp2, gq0, gq1, gq2, gq3, gq4, gq5, gq6, gq7, gq8, gq9, go0, go1, gl0, gl1, gl2, gl3, ↓reduceIte, Nat.reduceEqDiff, Nat.reduceAdd, Nat.reduceLeDiff, pBuild, fillA, ↓Api_Sets.r] | refine Cut.go ?_))
    have e : i = (slL rows).length := by omega
    subst e
    rw [List.take_length] at hall
    exact hex hall

theorem ClassFine_row {m : Nat} (hm : m ≤ 12) (rows : Option Rws) (i : Nat) {o : Option (List Nat)} (hl : (slL o).length ≤ 9223372036854775807) (ho : ∀ x ∈ slL o, x < 18446744073709551616)  (h0 : AHeap) (Q : AExit → Fr → AHeap → Prop) (hret : Q .ret (frOf [(4, .bool true)]) h0)
    (hex : (slL o).length ≤ 8 → (∀ x ∈ slL o, x < 2 ^ m) → Q (.exit 2) (frOf [(0, .int .i64 m), (1, slAV 1 (fun o => [slAV 1 encN o]) rows), (33, slAV 1 (fun o => [slAV 1 encN o]) rows), (34, .int .i64 (slL rows).length), (35, .int .i64 i)]) h0) :
    WP Tryd.prog 144 (.loop c_padlocklaw12_ClassFine_9) (frOf [(0, .int .i64 m), (1, slAV 1 (fun o => [slAV 1 encN o]) rows), (6, slAV 1 encN o), (33, slAV 1 (fun o => [slAV 1 encN o]) rows), (34, .int .i64 (slL rows).length), (35, .int .i64 i), (39, slAV 1 encN o), (40, .int .i64 (slL o).length), (41, .int .i64 0)]) h0 Q := by
  have hpow : (2 : Nat) ^ m ≤ 4096 := by
    have : (2 : Nat) ^ m ≤ 2 ^ 12 := Nat.pow_le_pow_right (by decide) hm
    simpa using this
  obtain ⟨I, hI⟩ : ∃ I : Nat → Fr → AHeap → Prop, I = (fun r fr hh => ∃ (j : Nat), r = (slL o).length - j ∧ j ≤ (slL o).length ∧ hh = h0 ∧ (0 < j → (slL o).length ≤ 8) ∧ (∀ x ∈ (slL o).take j, x < 2 ^ m) ∧ fr = frOf [(0, .int .i64 m), (1, slAV 1 (fun o => [slAV 1 encN o]) rows), (6, slAV 1 encN o), (33, slAV 1 (fun o => [slAV 1 encN o]) rows), (34, .int .i64 (slL rows).length), (35, .int .i64 i), (39, slAV 1 encN o), (40, .int .i64 (slL o).length), (41, .int .i64 j)]) := ⟨_, rfl⟩
  refine WP_loop mixed_ (by kernel_rfl) I (slL o).length (by rw [hI]; exact ⟨0, rfl, Nat.zero_le _, rfl, by omega, by simp, rfl⟩) ?_
  intro r fr hh hi
  rw [hI] at hi
  obtain ⟨j, rfl, hj, rfl, h8, hlt, rfl⟩ := hi
  apply padlocklaw12_ClassFine_loop9
  (repeat (first | simp -dsimp -implicitDefEqProofs (disch := omega) only [↓gp0, ↓gp1, ↓gp2, gq0, gq1, gq2, gq3, gq4, gq5, gq6, gq7, gq8, gq9, go0, go1, gl0, gl1, gl2, gl3, ↓reduceIte, Nat.reduceEqDiff, Nat.reduceAdd, Nat.reduceLeDiff, pBuild, fillA, ↓Api_Sets.r] | refine Cut.go ?_))
  refine Split_lt (fun hjl => ?_) (fun hjl => ?_)
  · obtain ⟨x, hxj⟩ : ∃ x, (slL o)[j]? = some x := ⟨_, List.getElem?_eq_getElem (by omega)⟩
    have hx1 := ho x (List.mem_of_getElem? hxj)
    have ld : ∀ (H : AHeap) (K : AV → Prop), pLoad none (.iptr (encN x)) H K = K (.int .u64 (x : Nat)) := fun H K => by rw [pLoad_iptr]; simp [pCells, encN]
    have ec : IntKind.u64.wrap (m : Int) = (m : Int) := by rw [wr_u64]; omega
    have es : binA CmpK.other BinOp.shl (.int .u64 1) (.int .u64 (m : Int)) = some (.int .u64 ((2 ^ m : Nat) : Int)) := by
      have := iShl_u64 1 m (by omega)
      rw [binA_shl, if_neg (by omega)]
      rw [show ((1 : Nat) : Int) = 1 from rfl] at this
      rw [this, Nat.one_mul, Nat.mod_eq_of_lt (by omega)]
    (repeat (first | simp -dsimp -implicitDefEqProofs (disch := omega) only [↓gp0, ↓gp1, ↓gp2, gq0, gq1, gq2, gq3, gq4, gq5, gq6, gq7, gq8, gq9, go0, go1, gl0, gl1, gl2, gl3, ↓reduceIte, Nat.reduceEqDiff, Nat.reduceAdd, Nat.reduceLeDiff, pBuild, fillA, ↓Api_Sets.r, pIndexAddr_slAV hxj, ld] | refine Cut.go ?_))
    refine Split_lt (fun h9 => ?_) (fun h9 => ?_)
    · (repeat (first | simp -dsimp -implicitDefEqProofs (disch := omega) only [↓gp0, ↓gp1, ↓gp2, gq0, gq1, gq2, gq3, gq4, gq5, gq6, gq7, gq8, gq9, go0, go1, gl0, gl1, gl2, gl3, ↓reduceIte, Nat.reduceEqDiff, Nat.reduceAdd, Nat.reduceLeDiff, pBuild, fillA, ↓Api_Sets.r] | refine Cut.go ?_))
      exact hret
    · have eg : binA CmpK.other BinOp.geq (.int .u64 (x : Int)) (.int .u64 ((2 ^ m : Nat) : Int)) = some (.bool (decide (2 ^ m ≤ x))) := by
        rw [binA_int_geq]
        congr 2
        rw [Bool.eq_iff_iff]
        simp only [decide_eq_true_eq]
        omega
      (repeat (first | simp -dsimp -implicitDefEqProofs (disch := omega) only [↓gp0, ↓gp1, ↓gp2, gq0, gq1, gq2, gq3, gq4, gq5, gq6, gq7, gq8, gq9, go0, go1, gl0, gl1, gl2, gl3, ↓reduceIte, Nat.reduceEqDiff, Nat.reduceAdd, Nat.reduceLeDiff, pBuild, fillA, ↓Api_Sets.r, ec, es, eg] | refine Cut.go ?_))
      by_cases hb : 2 ^ m ≤ x
      · rw [decide_eq_true hb]
        (repeat (first | simp -dsimp -implicitDefEqProofs (disch := omega) only [↓gp0, ↓gp1, ↓gp2, gq0, gq1, gq2, gq3, gq4, gq5, gq6, gq7, gq8, gq9, go0, go1, gl0, gl1, gl2, gl3, ↓reduceIte, Nat.reduceEqDiff, Nat.reduceAdd, Nat.reduceLeDiff, pBuild, fillA, ↓Api_Sets.r] | refine Cut.go ?_))
        exact hret
      · rw [decide_eq_false hb]
        (repeat (first | simp -dsimp -implicitDefEqProofs (disch := omega) only [↓gp0, ↓gp1, ↓gp2, gq0, gq1, gq2, gq3, gq4, gq5, gq6, gq7, gq8, gq9, go0, go1, gl0, gl1, gl2, gl3, ↓reduceIte, Nat.reduceEqDiff, Nat.reduceAdd, Nat.reduceLeDiff, pBuild, fillA, ↓Api_Sets.r, wrapI (show -9223372036854775808 ≤ (j : Int) + 1 by omega) (by omega)] | refine Cut.go ?_))
        rw [loopPost_normal, hI]
        refine ⟨(slL o).length - (j + 1), by omega, j + 1, rfl, by omega, rfl, fun _ => by omega, fun y hy => ?_, rfl⟩
        rw [List.take_add_one, hxj] at hy
        simp at hy
        rcases hy with hy | rfl
        · exact hlt y hy
        · omega
  · (repeat (first | simp -dsimp -implicitDefEqProofs (disch := omega) only [↓gp0, ↓gp1, ↓gp2, gq0, gq1, gq2, gq3, gq4, gq5, gq6, gq7, gq8, gq9, go0, go1, gl0, gl1, gl2, gl3, ↓reduceIte, Nat.reduceEqDiff, Nat.reduceAdd, Nat.reduceLeDiff, pBuild, fillA, ↓Api_Sets.r] | refine Cut.go ?_))
    have e : j = (slL o).length := by omega
    subst e
    rw [List.take_length] at hlt
    refine hex ?_ hlt
    by_cases h0 : (slL o).length = 0
    · omega
    · exact h8 (by omega)

theorem ClassFine_rows {m : Nat} (hm : m ≤ 12) (rows : Option Rws) (hr : (slL rows).length ≤ 6) (hok : okSl (okSl okN) rows)  (h0 : AHeap) (Q : AExit → Fr → AHeap → Prop) (hret : Q .ret (frOf [(4, .bool true)]) h0)
    (hex : (∀ o ∈ slL rows, (slL o).length ≤ 8 ∧ ∀ x ∈ slL o, x < 2 ^ m) → Q (.exit 0) (frOf [(0, .int .i64 m), (1, slAV 1 (fun o => [slAV 1 encN o]) rows)]) h0) :
    WP Tryd.prog 144 (.loop c_padlocklaw12_ClassFine_6) (frOf [(0, .int .i64 m), (1, slAV 1 (fun o => [slAV 1 encN o]) rows), (33, slAV 1 (fun o => [slAV 1 encN o]) rows), (34, .int .i64 (slL rows).length), (35, .int .i64 0)]) h0 Q := by
  obtain ⟨I, hI⟩ : ∃ I : Nat → Fr → AHeap → Prop, I = (fun r fr hh => ∃ (i : Nat), r = (slL rows).length - i ∧ i ≤ (slL rows).length ∧ hh = h0 ∧ (∀ o ∈ (slL rows).take i, (slL o).length ≤ 8 ∧ ∀ x ∈ slL o, x < 2 ^ m) ∧ fr = frOf [(0, .int .i64 m), (1, slAV 1 (fun o => [slAV 1 encN o]) rows), (33, slAV 1 (fun o => [slAV 1 encN o]) rows), (34, .int .i64 (slL rows).length), (35, .int .i64 i)]) := ⟨_, rfl⟩
  refine WP_loop mixed_ (by kernel_rfl) I (slL rows).length (by rw [hI]; exact ⟨0, rfl, Nat.zero_le _, rfl, by simp, rfl⟩) ?_
  intro r fr hh hi
  rw [hI] at hi
  obtain ⟨i, rfl, hi, rfl, hall, rfl⟩ := hi
  apply padlocklaw12_ClassFine_loop6
  (repeat (first | simp -dsimp -implicitDefEqProofs (disch := omega) only [↓gp0, ↓gp1, ↓gp2, gq0, gq1, gq2, gq3, gq4, gq5, gq6, gq7, gq8, gq9, go0, go1, gl0, gl1, gl2, gl3, ↓reduceIte, Nat.reduceEqDiff, Nat.reduceAdd, Nat.reduceLeDiff, pBuild, fillA, ↓Api_Sets.r] | refine Cut.go ?_))
  refine Split_lt (fun hil => ?_) (fun hil => ?_)
  · obtain ⟨o, hxo⟩ : ∃ o, (slL rows)[i]? = some o := ⟨_, List.getElem?_eq_getElem (by omega)⟩
    obtain ⟨ho1, ho2⟩ := hok.2 o (List.mem_of_getElem? hxo)
    have ld : ∀ (H : AHeap) (K : AV → Prop), pLoad none (.iptr [slAV 1 encN o]) H K = K (slAV 1 encN o) := fun H K => by rw [pLoad_iptr]; simp [pCells]
    (repeat (first | simp -dsimp -implicitDefEqProofs (disch := omega) only [↓gp0, ↓gp1, ↓gp2, gq0, gq1, gq2, gq3, gq4, gq5, gq6, gq7, gq8, gq9, go0, go1, gl0, gl1, gl2, gl3, ↓reduceIte, Nat.reduceEqDiff, Nat.reduceAdd, Nat.reduceLeDiff, pBuild, fillA, ↓Api_Sets.r, pIndexAddr_slAV hxo, ld] | refine Cut.go ?_))
    refine ClassFine_row hm rows i (Nat.le_trans ho1 (by decide)) ho2 hh _ ?_ (fun h8 hlt => ?_)
    · (repeat (first | simp -dsimp -implicitDefEqProofs (disch := omega) only [↓gp0, ↓gp1, ↓gp2, gq0, gq1, gq2, gq3, gq4, gq5, gq6, gq7, gq8, gq9, go0, go1, gl0, gl1, gl2, gl3, ↓reduceIte, Nat.reduceEqDiff, Nat.reduceAdd, Nat.reduceLeDiff, pBuild, fillA, ↓Api_Sets.r] | refine Cut.go ?_))
      exact hret
    · (repeat (first | simp -dsimp -implicitDefEqProofs (disch := omega) only [↓gp0, ↓gp1, ↓gp2, gq0, gq1, gq2, gq3, gq4, gq5, gq6, gq7, gq8, gq9, go0, go1, gl0, gl1, gl2, gl3, ↓reduceIte, Nat.reduceEqDiff, Nat.reduceAdd, Nat.reduceLeDiff, pBuild, fillA, ↓Api_Sets.r, wk1 i (by omega)] | refine Cut.go ?_))
      rw [loopPost_normal, hI]
      refine ⟨(slL rows).length - (i + 1), by omega, i + 1, rfl, by omega, rfl, fun y hy => ?_, rfl⟩
      rw [List.take_add_one, hxo] at hy
      simp at hy
      rcases hy with hy | rfl
      · exact hall y hy
      · exact ⟨h8, hlt⟩
  · (repeat (first | simp -dsimp -implicitDefEqProofs (disch := omega) only [↓gp0, ↓gp1, ↓gp2, gq0, gq1, gq2, gq3, gq4, gq5, gq6, gq7, gq8, gq9, go0, go1, gl0, gl1, gl2, gl3, ↓reduceIte, Nat.reduceEqDiff, Nat.reduceAdd, Nat.reduceLeDiff, pBuild, fillA, ↓Api_Sets.r] | refine Cut.go ?_))
    have e : i = (slL rows).length := by omega
    subst e
    rw [List.take_length] at hall
    exact hex hall

theorem ClassMore_row {m : Nat} (hm : m ≤ 12) (rows : Option Rws) (set : Nat) (i : Nat) {o : Option (List Nat)} (hl : (slL o).length ≤ 9223372036854775807) (ho : ∀ x ∈ slL o, x < 18446744073709551616)  (h0 : AHeap) (Q : AExit → Fr → AHeap → Prop) (hret : Q .ret (frOf [(6, .bool true)]) h0)
    (hex : (slL o).length ≤ 8 → (∀ x ∈ slL o, x < 2 ^ m) → Q (.exit 2) (frOf [(0, .int .i64 m), (1, slAV 1 (fun o => [slAV 1 encN o]) rows), (2, .int .u64 (set : Nat)), (35, slAV 1 (fun o => [slAV 1 encN o]) rows), (36, .int .i64 (slL rows).length), (37, .int .i64 i)]) h0) :
    WP Tryd.prog 136 (.loop c_padlocklaw12_ClassMore_9) (frOf [(0, .int .i64 m), (1, slAV 1 (fun o => [slAV 1 encN o]) rows), (2, .int .u64 (set : Nat)), (8, slAV 1 encN o), (35, slAV 1 (fun o => [slAV 1 encN o]) rows), (36, .int .i64 (slL rows).length), (37, .int .i64 i), (41, slAV 1 encN o), (42, .int .i64 (slL o).length), (43, .int .i64 0)]) h0 Q := by
  have hpow : (2 : Nat) ^ m ≤ 4096 := by
    have : (2 : Nat) ^ m ≤ 2 ^ 12 := Nat.pow_le_pow_right (by decide) hm
    simpa using this
  obtain ⟨I, hI⟩ : ∃ I : Nat → Fr → AHeap → Prop, I = (fun r fr hh => ∃ (j : Nat), r = (slL o).length - j ∧ j ≤ (slL o).length ∧ hh = h0 ∧ (0 < j → (slL o).length ≤ 8) ∧ (∀ x ∈ (slL o).take j, x < 2 ^ m) ∧ fr = frOf [(0, .int .i64 m), (1, slAV 1 (fun o => [slAV 1 encN o]) rows), (2, .int .u64 (set : Nat)), (8, slAV 1 encN o), (35, slAV 1 (fun o => [slAV 1 encN o]) rows), (36, .int .i64 (slL rows).length), (37, .int .i64 i), (41, slAV 1 encN o), (42, .int .i64 (slL o).length), (43, .int .i64 j)]) := ⟨_, rfl⟩
  refine WP_loop mixed_ (by kernel_rfl) I (slL o).length (by rw [hI]; exact ⟨0, rfl, Nat.zero_le _, rfl, by omega, by simp, rfl⟩) ?_
  intro r fr hh hi
  rw [hI] at hi
  obtain ⟨j, rfl, hj, rfl, h8, hlt, rfl⟩ := hi
  apply padlocklaw12_ClassMore_loop9
  (repeat (first | simp -dsimp -implicitDefEqProofs (disch := omega) only [↓gp0, ↓gp1, ↓gp2, gq0, gq1, gq2, gq3, gq4, gq5, gq6, gq7, gq8, gq9, go0, go1, gl0, gl1, gl2, gl3, ↓reduceIte, Nat.reduceEqDiff, Nat.reduceAdd, Nat.reduceLeDiff, pBuild, fillA, ↓Api_Sets.r] | refine Cut.go ?_))
  refine Split_lt (fun hjl => ?_) (fun hjl => ?_)
  · obtain ⟨x, hxj⟩ : ∃ x, (slL o)[j]? = some x := ⟨_, List.getElem?_eq_getElem (by omega)⟩
    have hx1 := ho x (List.mem_of_getElem? hxj)
    have ld : ∀ (H : AHeap) (K : AV → Prop), pLoad none (.iptr (encN x)) H K = K (.int .u64 (x : Nat)) := fun H K => by rw [pLoad_iptr]; simp [pCells, encN]
    have ec : IntKind.u64.wrap (m : Int) = (m : Int) := by rw [wr_u64]; omega
    have es : binA CmpK.other BinOp.shl (.int .u64 1) (.int .u64 (m : Int)) = some (.int .u64 ((2 ^ m : Nat) : Int)) := by
      have := iShl_u64 1 m (by omega)
      rw [binA_shl, if_neg (by omega)]
      rw [show ((1 : Nat) : Int) = 1 from rfl] at this
      rw [this, Nat.one_mul, Nat.mod_eq_of_lt (by omega)]
    (repeat (first | simp -dsimp -implicitDefEqProofs (disch := omega) only [↓gp0, ↓gp1, ↓gp2, gq0, gq1, gq2, gq3, gq4, gq5, gq6, gq7, gq8, gq9, go0, go1, gl0, gl1, gl2, gl3, ↓reduceIte, Nat.reduceEqDiff, Nat.reduceAdd, Nat.reduceLeDiff, pBuild, fillA, ↓Api_Sets.r, pIndexAddr_slAV hxj, ld] | refine Cut.go ?_))
    refine Split_lt (fun h9 => ?_) (fun h9 => ?_)
    · (repeat (first | simp -dsimp -implicitDefEqProofs (disch := omega) only [↓gp0, ↓gp1, ↓gp2, gq0, gq1, gq2, gq3, gq4, gq5, gq6, gq7, gq8, gq9, go0, go1, gl0, gl1, gl2, gl3, ↓reduceIte, Nat.reduceEqDiff, Nat.reduceAdd, Nat.reduceLeDiff, pBuild, fillA, ↓Api_Sets.r] | refine Cut.go ?_))
      exact hret
    · have eg : binA CmpK.other BinOp.geq (.int .u64 (x : Int)) (.int .u64 ((2 ^ m : Nat) : Int)) = some (.bool (decide (2 ^ m ≤ x))) := by
        rw [binA_int_geq]
        congr 2
        rw [Bool.eq_iff_iff]
        simp only [decide_eq_true_eq]
        omega
      (repeat (first | simp -dsimp -implicitDefEqProofs (disch := omega) only [↓gp0, ↓gp1, ↓gp2, gq0, gq1, gq2, gq3, gq4, gq5, gq6, gq7, gq8, gq9, go0, go1, gl0, gl1, gl2, gl3, ↓reduceIte, Nat.reduceEqDiff, Nat.reduceAdd, Nat.reduceLeDiff, pBuild, fillA, ↓Api_Sets.r, ec, es, eg] | refine Cut.go ?_))
      by_cases hb : 2 ^ m ≤ x
      · rw [decide_eq_true hb]
        (repeat (first | simp -dsimp -implicitDefEqProofs (disch := omega) only [↓gp0, ↓gp1, ↓gp2, gq0, gq1, gq2, gq3, gq4, gq5, gq6, gq7, gq8, gq9, go0, go1, gl0, gl1, gl2, gl3, ↓reduceIte, Nat.reduceEqDiff, Nat.reduceAdd, Nat.reduceLeDiff, pBuild, fillA, ↓Api_Sets.r] | refine Cut.go ?_))
        exact hret
      · rw [decide_eq_false hb]
        (repeat (first | simp -dsimp -implicitDefEqProofs (disch := omega) only [↓gp0, ↓gp1, ↓gp2, gq0, gq1, gq2, gq3, gq4, gq5, gq6, gq7, gq8, gq9, go0, go1, gl0, gl1, gl2, gl3, ↓reduceIte, Nat.reduceEqDiff, Nat.reduceAdd, Nat.reduceLeDiff, pBuild, fillA, ↓Api_Sets.r, wrapI (show -9223372036854775808 ≤ (j : Int) + 1 by omega) (by omega)] | refine Cut.go ?_))
        rw [loopPost_normal, hI]
        refine ⟨(slL o).length - (j + 1), by omega, j + 1, rfl, by omega, rfl, fun _ => by omega, fun y hy => ?_, rfl⟩
        rw [List.take_add_one, hxj] at hy
        simp at hy
        rcases hy with hy | rfl
        · exact hlt y hy
        · omega
  · (repeat (first | simp -dsimp -implicitDefEqProofs (disch := omega) only [↓gp0, ↓gp1, ↓gp2, gq0, gq1, gq2, gq3, gq4, gq5, gq6, gq7, gq8, gq9, go0, go1, gl0, gl1, gl2, gl3, ↓reduceIte, Nat.reduceEqDiff, Nat.reduceAdd, Nat.reduceLeDiff, pBuild, fillA, ↓Api_Sets.r] | refine Cut.go ?_))
    have e : j = (slL o).length := by omega
    subst e
    rw [List.take_length] at hlt
    refine hex ?_ hlt
    by_cases h0 : (slL o).length = 0
    · omega
    · exact h8 (by omega)

theorem ClassMore_rows {m : Nat} (hm : m ≤ 12) (rows : Option Rws) (hr : (slL rows).length ≤ 6) (hok : okSl (okSl okN) rows) (set : Nat)  (h0 : AHeap) (Q : AExit → Fr → AHeap → Prop) (hret : Q .ret (frOf [(6, .bool true)]) h0)
    (hex : (∀ o ∈ slL rows, (slL o).length ≤ 8 ∧ ∀ x ∈ slL o, x < 2 ^ m) → Q (.exit 0) (frOf [(0, .int .i64 m), (1, slAV 1 (fun o => [slAV 1 encN o]) rows), (2, .int .u64 (set : Nat))]) h0) :
    WP Tryd.prog 136 (.loop c_padlocklaw12_ClassMore_6) (frOf [(0, .int .i64 m), (1, slAV 1 (fun o => [slAV 1 encN o]) rows), (2, .int .u64 (set : Nat)), (35, slAV 1 (fun o => [slAV 1 encN o]) rows), (36, .int .i64 (slL rows).length), (37, .int .i64 0)]) h0 Q := by
  obtain ⟨I, hI⟩ : ∃ I : Nat → Fr → AHeap → Prop, I = (fun r fr hh => ∃ (i : Nat), r = (slL rows).length - i ∧ i ≤ (slL rows).length ∧ hh = h0 ∧ (∀ o ∈ (slL rows).take i, (slL o).length ≤ 8 ∧ ∀ x ∈ slL o, x < 2 ^ m) ∧ fr = frOf [(0, .int .i64 m), (1, slAV 1 (fun o => [slAV 1 encN o]) rows), (2, .int .u64 (set : Nat)), (35, slAV 1 (fun o => [slAV 1 encN o]) rows), (36, .int .i64 (slL rows).length), (37, .int .i64 i)]) := ⟨_, rfl⟩
  refine WP_loop mixed_ (by kernel_rfl) I (slL rows).length (by rw [hI]; exact ⟨0, rfl, Nat.zero_le _, rfl, by simp, rfl⟩) ?_
  intro r fr hh hi
  rw [hI] at hi
  obtain ⟨i, rfl, hi, rfl, hall, rfl⟩ := hi
  apply padlocklaw12_ClassMore_loop6
  (repeat (first | simp -dsimp -implicitDefEqProofs (disch := omega) only [↓gp0, ↓gp1, ↓gp2, gq0, gq1, gq2, gq3, gq4, gq5, gq6, gq7, gq8, gq9, go0, go1, gl0, gl1, gl2, gl3, ↓reduceIte, Nat.reduceEqDiff, Nat.reduceAdd, Nat.reduceLeDiff, pBuild, fillA, ↓Api_Sets.r] | refine Cut.go ?_))
  refine Split_lt (fun hil => ?_) (fun hil => ?_)
  · obtain ⟨o, hxo⟩ : ∃ o, (slL rows)[i]? = some o := ⟨_, List.getElem?_eq_getElem (by omega)⟩
    obtain ⟨ho1, ho2⟩ := hok.2 o (List.mem_of_getElem? hxo)
    have ld : ∀ (H : AHeap) (K : AV → Prop), pLoad none (.iptr [slAV 1 encN o]) H K = K (slAV 1 encN o) := fun H K => by rw [pLoad_iptr]; simp [pCells]
    (repeat (first | simp -dsimp -implicitDefEqProofs (disch := omega) only [↓gp0, ↓gp1, ↓gp2, gq0, gq1, gq2, gq3, gq4, gq5, gq6, gq7, gq8, gq9, go0, go1, gl0, gl1, gl2, gl3, ↓reduceIte, Nat.reduceEqDiff, Nat.reduceAdd, Nat.reduceLeDiff, pBuild, fillA, ↓Api_Sets.r, pIndexAddr_slAV hxo, ld] | refine Cut.go ?_))
    refine ClassMore_row hm rows set i (Nat.le_trans ho1 (by decide)) ho2 hh _ ?_ (fun h8 hlt => ?_)
    · (repeat (first | simp -dsimp -implicitDefEqProofs (disch := omega) only [↓gp0, ↓gp1, ↓gp2, gq0, gq1, gq2, gq3, gq4, gq5, gq6, gq7, gq8, gq9, go0, go1, gl0, gl1, gl2, gl3, ↓reduceIte, Nat.reduceEqDiff, Nat.reduceAdd, Nat.reduceLeDiff, pBuild, fillA, ↓Api_Sets.r] | refine Cut.go ?_))
      exact hret
    · (repeat (first | simp -dsimp -implicitDefEqProofs (disch := omega) only [↓gp0, ↓gp1, ↓gp2, gq0, gq1, gq2, gq3, gq4, gq5, gq6, gq7, gq8, gq9, go0, go1, gl0, gl1, gl2, gl3, ↓reduceIte, Nat.reduceEqDiff, Nat.reduceAdd, Nat.reduceLeDiff, pBuild, fillA, ↓Api_Sets.r, wk1 i (by omega)] | refine Cut.go ?_))
      rw [loopPost_normal, hI]
      refine ⟨(slL rows).length - (i + 1), by omega, i + 1, rfl, by omega, rfl, fun y hy => ?_, rfl⟩
      rw [List.take_add_one, hxo] at hy
      simp at hy
      rcases hy with hy | rfl
      · exact hall y hy
      · exact ⟨h8, hlt⟩
  · (repeat (first | simp -dsimp -implicitDefEqProofs (disch := omega) only [↓gp0, ↓gp1, ↓gp2, gq0, gq1, gq2, gq3, gq4, gq5, gq6, gq7, gq8, gq9, go0, go1, gl0, gl1, gl2, gl3, ↓reduceIte, Nat.reduceEqDiff, Nat.reduceAdd, Nat.reduceLeDiff, pBuild, fillA, ↓Api_Sets.r] | refine Cut.go ?_))
    have e : i = (slL rows).length := by omega
    subst e
    rw [List.take_length] at hall
    exact hex hall

end Go.Proofs.YtopfjochppdnfaaDoor
