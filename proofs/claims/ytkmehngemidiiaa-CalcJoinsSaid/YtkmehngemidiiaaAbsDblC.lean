/- Whole numbers as doubles: the nearest one; in their order; back again. -/
import Derived.Test.YtkmehngemidiiaaAbsInt
set_option linter.unusedVariables false
set_option linter.unusedSimpArgs false
namespace Go.Abs

/-- The rung of a whole number's magnitude. -/
def rung (m : Nat) : Nat := if m = 0 then 0 else if m.log2 ≤ 52 then (m.log2 + 1022) * 4503599627370496 + m * 2 ^ (52 - m.log2) else (m.log2 + 1022) * 4503599627370496 + Ieee.Toward.even.cut false m (m.log2 - 52)

theorem cut_even (s : Bool) (n d : Nat) (hd : d ≤ n.log2 + 2) : Ieee.Toward.even.cut s n d = n / 2 ^ d + (decide (2 ^ d < 2 * (n % 2 ^ d)) || ((2 ^ d == 2 * (n % 2 ^ d)) && (n / 2 ^ d % 2 == 1))).toNat := by
  unfold Ieee.Toward.cut
  simp only [Nat.one_shiftLeft, Nat.min_eq_left hd]

theorem log2_facts {m : Nat} (hm : m ≠ 0) : 2 ^ m.log2 ≤ m ∧ m < 2 ^ (m.log2 + 1) := ⟨Nat.log2_self_le hm, Nat.lt_log2_self⟩

theorem log2_le {m : Nat} (hm : m ≠ 0) (h : m ≤ 9223372036854775808) : m.log2 ≤ 63 := by
  have h1 := (log2_facts hm).1
  by_cases hl : m.log2 ≤ 63
  · exact hl
  · have : 2 ^ 64 ≤ 2 ^ m.log2 := Nat.pow_le_pow_right (by omega) (by omega)
    omega

theorem cut_bounds {m : Nat} (hm : m ≠ 0) (hl : 52 < m.log2) : 4503599627370496 ≤ Ieee.Toward.even.cut false m (m.log2 - 52) ∧ Ieee.Toward.even.cut false m (m.log2 - 52) ≤ 9007199254740992 := by
  obtain ⟨h1, h2⟩ := log2_facts hm
  rw [cut_even _ _ _ (by omega)]
  have hp : 0 < 2 ^ (m.log2 - 52) := Nat.pow_pos (by omega)
  have e1 : 2 ^ m.log2 = 4503599627370496 * 2 ^ (m.log2 - 52) := by
    have : m.log2 = 52 + (m.log2 - 52) := by omega
    rw [this, Nat.pow_add]; simp
  have e2 : 2 ^ (m.log2 + 1) = 9007199254740992 * 2 ^ (m.log2 - 52) := by rw [Nat.pow_succ, e1]; omega
  have a1 : 4503599627370496 ≤ m / 2 ^ (m.log2 - 52) := by rw [Nat.le_div_iff_mul_le hp, ← e1]; exact h1
  have a2 : m / 2 ^ (m.log2 - 52) < 9007199254740992 := by rw [Nat.div_lt_iff_lt_mul hp, ← e2]; exact h2
  have hb : ∀ b : Bool, b.toNat ≤ 1 := fun b => by cases b <;> decide
  have := hb (decide (2 ^ (m.log2 - 52) < 2 * (m % 2 ^ (m.log2 - 52))) || ((2 ^ (m.log2 - 52) == 2 * (m % 2 ^ (m.log2 - 52))) && (m / 2 ^ (m.log2 - 52) % 2 == 1)))
  omega

theorem exact_bounds {m : Nat} (hm : m ≠ 0) (hl : m.log2 ≤ 52) : 4503599627370496 ≤ m * 2 ^ (52 - m.log2) ∧ m * 2 ^ (52 - m.log2) < 9007199254740992 := by
  obtain ⟨h1, h2⟩ := log2_facts hm
  have hp : 0 < 2 ^ (52 - m.log2) := Nat.pow_pos (by omega)
  have e1 : 2 ^ m.log2 * 2 ^ (52 - m.log2) = 4503599627370496 := by rw [← Nat.pow_add, show m.log2 + (52 - m.log2) = 52 by omega]
  have e2 : 2 ^ (m.log2 + 1) * 2 ^ (52 - m.log2) = 9007199254740992 := by rw [← Nat.pow_add, show m.log2 + 1 + (52 - m.log2) = 53 by omega]
  have a1 := Nat.mul_le_mul_right (2 ^ (52 - m.log2)) h1
  have a2 := Nat.mul_lt_mul_of_pos_right h2 hp
  omega

theorem rung_bounds {m : Nat} (hm : m ≠ 0) : (m.log2 + 1023) * 4503599627370496 ≤ rung m ∧ rung m ≤ (m.log2 + 1024) * 4503599627370496 := by
  unfold rung
  rw [if_neg hm]
  split
  · rename_i h
    have := exact_bounds hm h
    generalize m * 2 ^ (52 - m.log2) = X at *
    generalize m.log2 = l at *
    constructor <;> omega
  · rename_i h
    have := cut_bounds hm (by omega)
    generalize Ieee.Toward.even.cut false m (m.log2 - 52) = X at *
    generalize m.log2 = l at *
    constructor <;> omega

theorem cut_mono {n n' d : Nat} (hn : n ≤ n') (h1 : d ≤ n.log2 + 2) (h2 : d ≤ n'.log2 + 2) : Ieee.Toward.even.cut false n d ≤ Ieee.Toward.even.cut false n' d := by
  rw [cut_even _ _ _ h1, cut_even _ _ _ h2]
  have hp : 0 < 2 ^ d := Nat.pow_pos (by omega)
  have hq : n / 2 ^ d ≤ n' / 2 ^ d := Nat.div_le_div_right hn
  have hb : ∀ b : Bool, b.toNat ≤ 1 := fun b => by cases b <;> decide
  by_cases he : n / 2 ^ d = n' / 2 ^ d
  · have d1 := Nat.div_add_mod n (2 ^ d)
    have d2 := Nat.div_add_mod n' (2 ^ d)
    rw [he] at d1
    have hr : n % 2 ^ d ≤ n' % 2 ^ d := by omega
    rw [he]
    generalize 2 ^ d = g at *
    generalize n' / g = q at *
    generalize n % g = r at *
    generalize n' % g = r' at *
    apply Nat.add_le_add_left
    by_cases c1 : g < 2 * r
    · have c2 : g < 2 * r' := by omega
      simp [c1, c2]
    · by_cases c2 : g < 2 * r'
      · have := hb (decide (g < 2 * r) || (g == 2 * r && q % 2 == 1))
        simp only [c2, decide_true, Bool.true_or, Bool.toNat_true]
        exact this
      · by_cases c3 : g = 2 * r
        · have c4 : g = 2 * r' := by omega
          have : r = r' := by omega
          subst this
          exact Nat.le_refl _
        · have : (g == 2 * r) = false := by simp [c3]
          simp [c1, this]
  · have := hb (decide (2 ^ d < 2 * (n % 2 ^ d)) || ((2 ^ d == 2 * (n % 2 ^ d)) && (n / 2 ^ d % 2 == 1)))
    omega

theorem log2_mono {m n : Nat} (hm : m ≠ 0) (h : m ≤ n) : m.log2 ≤ n.log2 := by
  by_cases hl : m.log2 ≤ n.log2
  · exact hl
  · have h1 := (log2_facts hm).1
    have h2 := (log2_facts (show n ≠ 0 by omega)).2
    have : 2 ^ (n.log2 + 1) ≤ 2 ^ m.log2 := Nat.pow_le_pow_right (by omega) (by omega)
    omega

theorem rung_mono {m n : Nat} (h : m ≤ n) : rung m ≤ rung n := by
  by_cases hm : m = 0
  · unfold rung; rw [if_pos hm]; omega
  · have hn : n ≠ 0 := by omega
    have hl := log2_mono hm h
    by_cases he : m.log2 = n.log2
    · unfold rung
      rw [if_neg hm, if_neg hn, he]
      split
      · have := Nat.mul_le_mul_right (2 ^ (52 - n.log2)) h; omega
      · have := cut_mono h (d := n.log2 - 52) (by omega) (by omega); omega
    · have h1 := (rung_bounds hm).2
      have h2 := (rung_bounds hn).1
      omega

theorem nearest_int (n : Int) (h1 : -9223372036854775808 ≤ n) (h2 : n ≤ 9223372036854775807) : FloatKind.f64.nearest n = if n < 0 then 9223372036854775808 + rung n.natAbs else rung n.natAbs := by
  have b1 : Ieee.double.signWeight = 9223372036854775808 := by decide
  have b2 : Ieee.double.binade = 4503599627370496 := by decide
  have b3 : Ieee.double.infRung = 9218868437227405312 := by decide
  have b4 : Ieee.double.leastPlace = -1074 := by decide
  have b5 : Ieee.double.fractionBits = 52 := rfl
  show Ieee.double.write (.number (decide (n < 0)) n.natAbs 0) = _
  unfold Ieee.Format.write Ieee.Format.nearest Ieee.Format.word
  simp only [b1, b2, b3, b4, b5]
  by_cases h0 : n.natAbs = 0
  · have : ¬ n < 0 := by omega
    rw [if_pos h0, if_neg this]
    simp [this, rung, h0]
  · rw [if_neg h0]
    have hl := log2_le h0 (by omega)
    have hb := rung_bounds h0
    have key : min ((max ((0 : Int) + (n.natAbs.log2 : Int) - ((52 : Nat) : Int)) (-1074) - -1074).toNat * 4503599627370496 + Ieee.Toward.even.cut (decide (n < 0)) (n.natAbs <<< ((0 : Int) - max ((0 : Int) + (n.natAbs.log2 : Int) - ((52 : Nat) : Int)) (-1074)).toNat) (max ((0 : Int) + (n.natAbs.log2 : Int) - ((52 : Nat) : Int)) (-1074) - 0).toNat) 9218868437227405312 = rung n.natAbs := by
      have e0 : max ((0 : Int) + (n.natAbs.log2 : Int) - ((52 : Nat) : Int)) (-1074) = (n.natAbs.log2 : Int) - 52 := by omega
      rw [e0]
      have e1 : ((n.natAbs.log2 : Int) - 52 - -1074).toNat = n.natAbs.log2 + 1022 := by omega
      rw [e1]
      have er : (n.natAbs.log2 + 1022) * 4503599627370496 + Ieee.Toward.even.cut (decide (n < 0)) (n.natAbs <<< ((0 : Int) - ((n.natAbs.log2 : Int) - 52)).toNat) ((n.natAbs.log2 : Int) - 52 - 0).toNat = rung n.natAbs := by
        unfold rung
        rw [if_neg h0]
        by_cases hc : n.natAbs.log2 ≤ 52
        · rw [if_pos hc]
          have e2 : ((0 : Int) - ((n.natAbs.log2 : Int) - 52)).toNat = 52 - n.natAbs.log2 := by omega
          have e3 : ((n.natAbs.log2 : Int) - 52 - 0).toNat = 0 := by omega
          rw [e2, e3, cut_even _ _ _ (by omega), Nat.shiftLeft_eq, Nat.pow_zero, Nat.div_one, Nat.mod_one]
          simp
        · rw [if_neg hc]
          have e2 : ((0 : Int) - ((n.natAbs.log2 : Int) - 52)).toNat = 0 := by omega
          have e3 : ((n.natAbs.log2 : Int) - 52 - 0).toNat = n.natAbs.log2 - 52 := by omega
          rw [e2, e3, Nat.shiftLeft_zero]
          rfl
      rw [er]
      omega
    simp only [key]
    by_cases hn : n < 0
    · simp [hn]
    · simp [hn]

theorem rung_lt {n : Int} (h1 : -9223372036854775808 ≤ n) (h2 : n ≤ 9223372036854775807) : rung n.natAbs < 9218868437227405312 := by
  by_cases h0 : n.natAbs = 0
  · unfold rung; rw [if_pos h0]; omega
  · have hl := log2_le h0 (by omega)
    have hb := (rung_bounds h0).2
    omega

theorem near_facts {n : Int} (h1 : -9223372036854775808 ≤ n) (h2 : n ≤ 9223372036854775807) : rgB (FloatKind.f64.nearest n) = rung n.natAbs ∧ sgB (FloatKind.f64.nearest n) = decide (n < 0) := by
  have hl := rung_lt h1 h2
  rw [nearest_int n h1 h2]
  unfold rgB sgB
  by_cases hn : n < 0
  · rw [if_pos hn]
    refine ⟨by omega, ?_⟩
    have : (9223372036854775808 + rung n.natAbs) / 9223372036854775808 % 2 = 1 := by omega
    rw [this]; simp [hn]
  · rw [if_neg hn]
    refine ⟨by omega, ?_⟩
    have : rung n.natAbs / 9223372036854775808 % 2 = 0 := by omega
    rw [this]; simp [hn]

theorem near_nan {n : Int} (h1 : -9223372036854775808 ≤ n) (h2 : n ≤ 9223372036854775807) : isNan (FloatKind.f64.nearest n) = false := by
  unfold isNan
  rw [(near_facts h1 h2).1]
  have := rung_lt h1 h2
  exact decide_eq_false (by omega)

theorem near_le {a b : Int} (ha : okI a) (hb : okI b) (h : a < b) : rk (FloatKind.f64.nearest a) ≤ rk (FloatKind.f64.nearest b) := by
  obtain ⟨a1, a2⟩ := near_facts ha.1 ha.2
  obtain ⟨b1, b2⟩ := near_facts hb.1 hb.2
  unfold rk
  rw [a1, a2, b1, b2]
  by_cases c1 : a < 0
  · by_cases c2 : b < 0
    · have := rung_mono (show b.natAbs ≤ a.natAbs by omega)
      simp only [c1, c2, decide_true, if_true]; omega
    · simp only [c1, c2, decide_true, decide_false, if_true, Bool.false_eq_true, if_false]; omega
  · have c2 : ¬ b < 0 := by omega
    have := rung_mono (show a.natAbs ≤ b.natAbs by omega)
    simp only [c1, c2, decide_false, Bool.false_eq_true, if_false]; omega

theorem near_trunc {n : Int} (h1 : -9007199254740992 ≤ n) (h2 : n ≤ 9007199254740992) : truncN (FloatKind.f64.nearest n) = n := by
  obtain ⟨a1, a2⟩ := near_facts (n := n) (by omega) (by omega)
  unfold truncN
  rw [near_nan (by omega) (by omega), a1, a2]
  rw [if_neg Bool.false_ne_true]
  by_cases h0 : n.natAbs = 0
  · have e : rung n.natAbs = 0 := by unfold rung; rw [if_pos h0]
    rw [e, if_pos (by omega)]; omega
  · by_cases hc : n.natAbs.log2 ≤ 52
    · have hx := exact_bounds h0 hc
      have e : rung n.natAbs = (n.natAbs.log2 + 1022) * 4503599627370496 + n.natAbs * 2 ^ (52 - n.natAbs.log2) := by unfold rung; rw [if_neg h0, if_pos hc]
      have ed : rung n.natAbs / 4503599627370496 = n.natAbs.log2 + 1023 := by omega
      have em : 4503599627370496 + rung n.natAbs % 4503599627370496 = n.natAbs * 2 ^ (52 - n.natAbs.log2) := by omega
      rw [ed, em, if_neg (by omega), if_neg (by omega), if_neg (by omega)]
      have hm : (if n.natAbs.log2 + 1023 < 1075 then n.natAbs * 2 ^ (52 - n.natAbs.log2) / 2 ^ (1075 - (n.natAbs.log2 + 1023)) else n.natAbs * 2 ^ (52 - n.natAbs.log2) * 2 ^ (n.natAbs.log2 + 1023 - 1075)) = n.natAbs := by
        split
        · rw [show 1075 - (n.natAbs.log2 + 1023) = 52 - n.natAbs.log2 by omega]
          exact Nat.mul_div_cancel _ (Nat.pow_pos (by omega))
        · have e5 : n.natAbs.log2 = 52 := by omega
          rw [e5]; simp
      simp only [hm]
      by_cases hn : n < 0
      · simp only [hn, decide_true, if_true]; omega
      · simp only [hn, decide_false, Bool.false_eq_true, if_false]; omega
    · have h3 := (log2_facts h0).1
      have h4 : 2 ^ 53 ≤ 2 ^ n.natAbs.log2 := Nat.pow_le_pow_right (by omega) (by omega)
      have h5 : n.natAbs = 9007199254740992 := by omega
      have e : rung n.natAbs = 4845873199050653696 := by rw [h5]; decide +kernel
      rw [e]
      have d1 : (4845873199050653696 / 4503599627370496 : Nat) = 1076 := by decide
      have d2 : (4845873199050653696 % 4503599627370496 : Nat) = 0 := by decide
      rw [d1, d2]
      simp
      by_cases hn : n < 0
      · simp only [hn, if_true]; omega
      · simp only [hn, if_false]; omega

end Go.Abs
