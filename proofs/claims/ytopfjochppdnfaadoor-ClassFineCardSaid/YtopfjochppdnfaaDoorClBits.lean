/- Plain: the lowest bit of a set, and the set without it. -/
import Derived.Test.YtopfjochppdnfaaDoorClMath
set_option linter.unusedVariables false
set_option linter.unusedSimpArgs false
namespace Go.Proofs.YtopfjochppdnfaaDoor

theorem firstB_find (x : Nat) : firstB x = ((List.range 64).find? fun k => x.testBit k).getD 64 := by
  unfold firstB bitsOf
  rw [List.headD_eq_head?_getD, List.head?_filter]
theorem firstB_low {x : Nat} (h0 : x ≠ 0) (hx : x < 18446744073709551616) : firstB x < 64 ∧ x.testBit (firstB x) = true ∧ ∀ j, j < firstB x → x.testBit j = false := by
  obtain ⟨i, hi⟩ := Nat.exists_testBit_of_ne_zero h0
  have hi64 : i < 64 := by
    apply Classical.byContradiction
    intro hn
    have : x < 2 ^ i := Nat.lt_of_lt_of_le (by simpa using hx) (Nat.pow_le_pow_right (by decide) (show 64 ≤ i by omega))
    rw [Nat.testBit_lt_two_pow this] at hi; cases hi
  rw [firstB_find]
  cases hf : (List.range 64).find? fun k => x.testBit k with
  | none =>
    rw [List.find?_eq_none] at hf
    exact absurd hi (hf i (List.mem_range.2 hi64))
  | some k =>
    rw [List.find?_range_eq_some] at hf
    obtain ⟨h1, h2, h3⟩ := hf
    refine ⟨List.mem_range.1 h2, h1, fun j hj => ?_⟩
    have := h3 j hj
    simpa using this
theorem firstB_zero : firstB 0 = 64 := by decide

theorem pred_bits {x k : Nat} (hk : x.testBit k = true) (hl : ∀ j, j < k → x.testBit j = false) (i : Nat) : (x - 1).testBit i = if i < k then true else if i = k then false else x.testBit i := by
  have hm : x % 2 ^ k = 0 := by
    apply Nat.eq_of_testBit_eq
    intro j
    rw [Nat.testBit_mod_two_pow, Nat.zero_testBit]
    by_cases h : j < k
    · rw [hl j h]; simp
    · simp [h]
  obtain ⟨q, hq⟩ : ∃ q, q = x / 2 ^ k := ⟨_, rfl⟩
  have hx : x = 2 ^ k * q := by have := Nat.div_add_mod x (2 ^ k); rw [hm, ← hq] at this; omega
  have hqb : ∀ j, q.testBit j = x.testBit (k + j) := fun j => by rw [hq, Nat.testBit_div_two_pow, Nat.add_comm]
  have hq1 : q % 2 = 1 := by
    have := hqb 0
    rw [Nat.testBit_zero] at this
    simpa [hk] using this
  have hp : 0 < 2 ^ k := Nat.pow_pos (by decide)
  have hx1 : x - 1 = 2 ^ k * (q - 1) + (2 ^ k - 1) := by
    rw [hx, Nat.mul_sub]
    have : 2 ^ k ≤ 2 ^ k * q := Nat.le_mul_of_pos_right _ (by omega)
    omega
  rw [hx1, Nat.testBit_two_pow_mul_add _ (by omega : 2 ^ k - 1 < 2 ^ k)]
  by_cases h : i < k
  · rw [if_pos h, if_pos h, Nat.testBit_two_pow_sub_one]; simp [h]
  · rw [if_neg h, if_neg h]
    by_cases h2 : i = k
    · rw [if_pos h2, h2, Nat.sub_self, Nat.testBit_zero]
      simp; omega
    · rw [if_neg h2]
      obtain ⟨j, rfl⟩ : ∃ j, i = k + (j + 1) := ⟨i - k - 1, by omega⟩
      rw [← hqb, show k + (j + 1) - k = j + 1 by omega, Nat.testBit_succ, Nat.testBit_succ]
      congr 1; omega

theorem and_neg {x : Nat} (h0 : x ≠ 0) (hx : x < 18446744073709551616) : x &&& (18446744073709551616 - x) = 2 ^ firstB x := by
  obtain ⟨h1, h2, h3⟩ := firstB_low h0 hx
  apply Nat.eq_of_testBit_eq
  intro i
  have e : 18446744073709551616 - x = 2 ^ 64 - ((x - 1) + 1) := by
    rw [show (2 : Nat) ^ 64 = 18446744073709551616 by decide]; omega
  rw [Nat.testBit_and, e, Nat.testBit_two_pow_sub_succ (by rw [show (2 : Nat) ^ 64 = 18446744073709551616 by decide]; omega), pred_bits h2 h3, Nat.testBit_two_pow]
  by_cases a : i < firstB x
  · rw [if_pos a, h3 i a]
    have : ¬ firstB x = i := by omega
    simp [this]
  · rw [if_neg a]
    by_cases b : i = firstB x
    · rw [if_pos b, b, h2]; simp [h1]
    · rw [if_neg b]
      have : ¬ firstB x = i := fun e => b e.symm
      cases x.testBit i <;> simp [this]

theorem and_pred {x : Nat} (h0 : x ≠ 0) (hx : x < 18446744073709551616) : bitsOf x = firstB x :: bitsOf (x &&& (x - 1)) := by
  obtain ⟨h1, h2, h3⟩ := firstB_low h0 hx
  have hb : ∀ i, (x &&& (x - 1)).testBit i = (decide (i ≠ firstB x) && x.testBit i) := fun i => by
    rw [Nat.testBit_and, pred_bits h2 h3]
    by_cases a : i < firstB x
    · rw [if_pos a, h3 i a]; simp
    · rw [if_neg a]
      by_cases b : i = firstB x
      · rw [if_pos b, b]; simp
      · rw [if_neg b]; simp [b]
  have hf : bitsOf (x &&& (x - 1)) = (bitsOf x).filter fun i => decide (i ≠ firstB x) := by
    unfold bitsOf
    rw [List.filter_filter]
    congr 1
    funext i
    exact hb i
  have hnd : (bitsOf x).Nodup := List.nodup_range.filter _
  have hmem : firstB x ∈ bitsOf x := mem_bits.2 ⟨h1, h2⟩
  rw [hf]
  obtain ⟨k, hkk⟩ : ∃ k, k = firstB x := ⟨_, rfl⟩
  rw [← hkk] at hmem ⊢
  have hd : (bitsOf x).headD 64 = k := hkk.symm
  cases hbx : bitsOf x with
  | nil => rw [hbx] at hmem; cases hmem
  | cons a l =>
    rw [hbx] at hd hnd
    simp at hd
    subst hd
    have hn := List.nodup_cons.1 hnd
    congr 1
    rw [List.filter_cons_of_neg (by simp)]
    refine (List.filter_eq_self.2 fun y hy => ?_).symm
    simp
    rintro rfl
    exact hn.1 hy
theorem bits_zero : bitsOf 0 = [] := by decide
theorem pred_lt {x : Nat} (hx : x < 18446744073709551616) : x &&& (x - 1) < 18446744073709551616 := Nat.lt_of_le_of_lt Nat.and_le_left hx
theorem bits_len (x : Nat) : (bitsOf x).length ≤ 64 := by
  have : (bitsOf x).length ≤ (List.range 64).length := List.length_filter_le _ _
  simpa using this
theorem debruijn : ∀ k : Nat, k < 64 → Go.Abs.tabBits[2 ^ k * 285870213051353865 % 18446744073709551616 / 2 ^ 58]? = some (k : Int) ∧ 2 ^ k * 285870213051353865 % 18446744073709551616 / 2 ^ 58 < 64 := by decide +kernel

end Go.Proofs.YtopfjochppdnfaaDoor
