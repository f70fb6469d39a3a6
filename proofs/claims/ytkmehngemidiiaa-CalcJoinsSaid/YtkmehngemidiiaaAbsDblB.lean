/- Doubles: what is no number; whole parts; whole numbers as doubles. -/
import Derived.Test.YtkmehngemidiiaaAbsDbl
set_option linter.unusedVariables false
set_option linter.unusedSimpArgs false
namespace Go.Abs

def nanW : Nat := 9221120237041090560
def tidyN (w : Nat) : Nat := if isNan w then 9221120237041090560 else w

theorem cmpI_self (x : Int) : cmpI x x = .eq := by simp [cmpI]
theorem selfNe (a : Nat) : (FloatKind.f64.format.order a a != some .eq) = isNan a := by
  show (Ieee.double.order a a != some .eq) = isNan a
  cases h : isNan a with
  | true => rw [order_nan (Or.inl h)]; rfl
  | false => rw [order_num h h, cmpI_self]; rfl

theorem nanB_isNan {r : Nat} (h : nanB .f64 r) : isNan r = true ∧ r < 18446744073709551616 := by
  obtain ⟨s, f, hs, hf, rfl⟩ := h
  refine ⟨?_, by omega⟩
  unfold isNan rgB
  refine decide_eq_true ?_
  omega
theorem isNan_iff (a : Nat) : isNan a = true ↔ 9218868437227405312 < a % 9223372036854775808 := by unfold isNan rgB; exact decide_eq_true_iff

/-! ### Comparisons -/
def ltN (a b : Nat) : Bool := !isNan a && !isNan b && decide (rk a < rk b)
def eqN (a b : Nat) : Bool := !isNan a && !isNan b && decide (rk a = rk b)

theorem order_ltN (a b : Nat) : (FloatKind.f64.format.order a b == some .lt) = ltN a b := by
  show (Ieee.double.order a b == some .lt) = ltN a b
  unfold ltN
  by_cases h : isNan a = true ∨ isNan b = true
  · rw [order_nan h]
    rcases h with h | h <;> simp [h]
  · have h1 : isNan a = false := by simpa using fun x => h (Or.inl x)
    have h2 : isNan b = false := by simpa using fun x => h (Or.inr x)
    rw [order_num h1 h2, h1, h2]
    unfold cmpI
    by_cases h3 : rk a < rk b
    · simp [h3]
    · rw [if_neg h3]
      by_cases h4 : rk a = rk b <;> simp [h3, h4]
theorem order_eqN (a b : Nat) : (FloatKind.f64.format.order a b == some .eq) = eqN a b := by
  show (Ieee.double.order a b == some .eq) = eqN a b
  unfold eqN
  by_cases h : isNan a = true ∨ isNan b = true
  · rw [order_nan h]
    rcases h with h | h <;> simp [h]
  · have h1 : isNan a = false := by simpa using fun x => h (Or.inl x)
    have h2 : isNan b = false := by simpa using fun x => h (Or.inr x)
    rw [order_num h1 h2, h1, h2]
    unfold cmpI
    by_cases h3 : rk a < rk b
    · have : ¬ rk a = rk b := by omega
      simp [h3, this]
    · rw [if_neg h3]
      by_cases h4 : rk a = rk b <;> simp [h4]
theorem order_gtN (a b : Nat) : (FloatKind.f64.format.order a b == some .gt) = ltN b a := by
  show (Ieee.double.order a b == some .gt) = ltN b a
  unfold ltN
  by_cases h : isNan a = true ∨ isNan b = true
  · rw [order_nan h]
    rcases h with h | h <;> simp [h]
  · have h1 : isNan a = false := by simpa using fun x => h (Or.inl x)
    have h2 : isNan b = false := by simpa using fun x => h (Or.inr x)
    rw [order_num h1 h2, h1, h2]
    unfold cmpI
    by_cases h3 : rk a < rk b
    · have : ¬ rk b < rk a := by omega
      simp [h3, this]
    · rw [if_neg h3]
      by_cases h4 : rk a = rk b
      · have : ¬ rk b < rk a := by omega
        simp [h4]
      · have : rk b < rk a := by omega
        simp [h4, this]

/-! ### Signs -/
def negW (w : Nat) : Nat := w ^^^ 9223372036854775808
theorem negW_eq {w : Nat} (hw : w < 18446744073709551616) : negW w = if w < 9223372036854775808 then w + 9223372036854775808 else w - 9223372036854775808 := by
  unfold negW
  have h : (9223372036854775808 : Nat) = 2 ^ 63 := by decide
  by_cases hl : w < 9223372036854775808
  · rw [if_pos hl]
    have := Nat.two_pow_add_eq_or_of_lt (b := w) (i := 63) (by simpa using hl) 1
    rw [Nat.mul_one] at this
    rw [h, Nat.add_comm, this]
    apply Nat.eq_of_testBit_eq
    intro i
    rw [Nat.testBit_xor, Nat.testBit_or, Nat.testBit_two_pow]
    by_cases hi : 63 = i
    · subst hi
      have : w.testBit 63 = false := Nat.testBit_lt_two_pow (by simpa using hl)
      simp [this]
    · simp [hi]
  · rw [if_neg hl]
    obtain ⟨v, hv, rfl⟩ : ∃ v, v < 2 ^ 63 ∧ w = 2 ^ 63 + v := ⟨w - 2 ^ 63, by omega, by omega⟩
    have hv' := Nat.two_pow_add_eq_or_of_lt hv 1
    rw [Nat.mul_one] at hv'
    rw [hv', h]
    have e : (2 ^ 63 ||| v) - 2 ^ 63 = v := by rw [← hv']; omega
    rw [e]
    apply Nat.eq_of_testBit_eq
    intro i
    rw [Nat.testBit_xor, Nat.testBit_or, Nat.testBit_two_pow]
    by_cases hi : 63 = i
    · subst hi
      have : v.testBit 63 = false := Nat.testBit_lt_two_pow hv
      simp [this]
    · simp [hi]
theorem negW_lt {w : Nat} (hw : w < 18446744073709551616) : negW w < 18446744073709551616 := by rw [negW_eq hw]; split <;> omega
theorem rgB_neg {w : Nat} (hw : w < 18446744073709551616) : rgB (negW w) = rgB w := by rw [negW_eq hw]; unfold rgB; split <;> omega
theorem sgB_neg {w : Nat} (hw : w < 18446744073709551616) : sgB (negW w) = !sgB w := by
  rw [negW_eq hw]; unfold sgB
  split
  · have h1 : (w + 9223372036854775808) / 9223372036854775808 % 2 = 1 := by omega
    have h2 : w / 9223372036854775808 % 2 = 0 := by omega
    rw [h1, h2]; rfl
  · have h1 : (w - 9223372036854775808) / 9223372036854775808 % 2 = 0 := by omega
    have h2 : w / 9223372036854775808 % 2 = 1 := by omega
    rw [h1, h2]; rfl
theorem isNan_neg {w : Nat} (hw : w < 18446744073709551616) : isNan (negW w) = isNan w := by unfold isNan; rw [rgB_neg hw]
theorem negW_neg (w : Nat) : negW (negW w) = w := by unfold negW; rw [Nat.xor_assoc, Nat.xor_self, Nat.xor_zero]
theorem read_neg {w : Nat} (hw : w < 18446744073709551616) (hn : isNan w = false) : Ieee.double.read (negW w) = (Ieee.double.read w).opposite := by
  rw [read_dbl, read_dbl, rgB_neg hw, sgB_neg hw]
  simp only [isNan, decide_eq_false_iff_not] at hn
  by_cases h1 : rgB w < 4503599627370496
  · simp [h1, Ieee.Datum.opposite]
  · by_cases h2 : rgB w < 9218868437227405312
    · simp [h1, h2, Ieee.Datum.opposite]
    · have h3 : rgB w = 9218868437227405312 := by omega
      simp [h3, Ieee.Datum.opposite]
theorem tidyN_lt {w : Nat} (hw : w < 18446744073709551616) : tidyN w < 18446744073709551616 := by unfold tidyN; split <;> omega
def negR (w : Nat) : Nat := tidyN (negW (tidyN w))
theorem negR_eq {w : Nat} (hw : w < 18446744073709551616) : negR w = if isNan w then 9221120237041090560 else negW w := by
  unfold negR tidyN
  cases h : isNan w with
  | true =>
    simp only [if_true]
    rw [if_pos]
    rw [isNan_neg (by omega)]; decide
  | false =>
    simp only [Bool.false_eq_true, if_false]
    rw [isNan_neg hw, h]; simp
theorem isNan_tidy (w : Nat) : isNan (tidyN w) = isNan w := by
  unfold tidyN
  cases h : isNan w with
  | true => simp; decide
  | false => simp [h]
theorem tidy_tidy (w : Nat) : tidyN (tidyN w) = tidyN w := by
  have := isNan_tidy w
  unfold tidyN at this ⊢
  split <;> simp_all

/-! ### Arithmetic -/
theorem floatBits_nan {op : BinOp} {a b : Nat} (h : isNan a = true ∨ isNan b = true) : floatBits op .f64 a b = none := by
  simp only [isNan, decide_eq_true_eq] at h
  have hs : ∀ x : Ieee.Datum, (∃ s f, x = .nan s f) ∨ (∀ s f, x ≠ .nan s f) := fun x => by cases x <;> simp
  unfold floatBits
  rcases h with h | h
  · cases op <;> simp only <;> (show Option.map _ _ = none) <;> simp [Ieee.Format.add, Ieee.Format.sub, Ieee.Format.mul, Ieee.Format.div, FloatKind.format, read_nan h, Ieee.Datum.sum, Ieee.Datum.product, Ieee.Datum.quotient]
  · cases op <;> simp only <;> simp only [Ieee.Format.add, Ieee.Format.sub, Ieee.Format.mul, Ieee.Format.div, FloatKind.format, read_nan h] <;> cases Ieee.double.read a <;> simp [Ieee.Datum.sum, Ieee.Datum.product, Ieee.Datum.quotient, Ieee.Datum.opposite]

theorem sum_comm (x y : Ieee.Datum) : x.sum y = y.sum x := by
  cases x with
  | nan s f => cases y <;> rfl
  | infinity s =>
    cases y with
    | nan t g => rfl
    | infinity t =>
      simp only [Ieee.Datum.sum]
      by_cases h : s = t
      · subst h; rfl
      · rw [if_neg h, if_neg (Ne.symm h)]
    | number t n j => rfl
  | number s m i =>
    cases y with
    | nan t g => rfl
    | infinity t => rfl
    | number t n j =>
      simp only [Ieee.Datum.sum]
      rw [Int.min_comm i j, Int.add_comm, Bool.and_comm]
theorem product_comm (x y : Ieee.Datum) : x.product y = y.product x := by
  match x, y with
  | .nan .., .nan .. => rfl
  | .nan .., .infinity _ => rfl
  | .nan .., .number .. => rfl
  | .infinity _, .nan .. => rfl
  | .number .., .nan .. => rfl
  | .infinity s, .infinity t => simp only [Ieee.Datum.product, Bool.xor_comm]
  | .infinity s, .number t n j => simp only [Ieee.Datum.product, Bool.xor_comm]
  | .number t n j, .infinity s => simp only [Ieee.Datum.product, Bool.xor_comm]
  | .number s m i, .number t n j => simp only [Ieee.Datum.product, Bool.xor_comm, Nat.mul_comm, Int.add_comm]
theorem add_comm_f (a b : Nat) : floatBits .add .f64 a b = floatBits .add .f64 b a := by
  simp only [floatBits, Ieee.Format.add]; rw [sum_comm]
theorem mul_comm_f (a b : Nat) : floatBits .mul .f64 a b = floatBits .mul .f64 b a := by
  simp only [floatBits, Ieee.Format.mul]; rw [product_comm]
theorem sub_neg_f {b : Nat} (a : Nat) (hb : b < 18446744073709551616) (hn : isNan b = false) : floatBits .sub .f64 a b = floatBits .add .f64 a (negW b) := by
  simp only [floatBits, Ieee.Format.add, Ieee.Format.sub, FloatKind.format]; rw [read_neg hb hn]

/-- What reckoning with doubles comes to: just one row of bits of no number. -/
def arN (op : BinOp) (a b : Nat) : Nat := match floatBits op .f64 a b with | some r => tidyN r | none => 9221120237041090560
theorem arN_lt {op : BinOp} {a b : Nat} : arN op a b < 18446744073709551616 := by
  unfold arN
  cases h : floatBits op .f64 a b with
  | none => decide
  | some r =>
    have hw := floatBits_wf h
    simp [Lit.wf] at hw
    exact tidyN_lt hw

/-! ### Whole parts -/
theorem cut_zero (s : Bool) (n d : Nat) : Ieee.Toward.zero.cut s n d = n / 2 ^ d := by
  unfold Ieee.Toward.cut
  simp only [Bool.toNat_false, Nat.add_zero, Nat.one_shiftLeft]
  by_cases h : d ≤ n.log2 + 2
  · rw [Nat.min_eq_left h]
  · rw [Nat.min_eq_right (by omega)]
    have hn : n < 2 ^ (n.log2 + 1) := Nat.lt_log2_self
    rw [Nat.div_eq_of_lt (Nat.lt_of_lt_of_le hn (Nat.pow_le_pow_right (by omega) (by omega))), Nat.div_eq_of_lt (Nat.lt_of_lt_of_le hn (Nat.pow_le_pow_right (by omega) (by omega)))]

/-- Without what is behind the point. -/
def truncN (w : Nat) : Int :=
  if isNan w then 0
  else if rgB w / 4503599627370496 = 0 then 0
  else if 1086 ≤ rgB w / 4503599627370496 then (if sgB w then -9223372036854775808 else 9223372036854775807)
  else if rgB w / 4503599627370496 ≤ 1022 then 0
  else
    let n : Nat := if rgB w / 4503599627370496 < 1075 then (4503599627370496 + rgB w % 4503599627370496) / 2 ^ (1075 - rgB w / 4503599627370496) else (4503599627370496 + rgB w % 4503599627370496) * 2 ^ (rgB w / 4503599627370496 - 1075)
    if sgB w then -(n : Int) else n

theorem truncN_val {w : Nat} (h : rgB w < 4890909195324358656) : floatToIntVal .f64 w .i64 = some (truncN w) := by
  have hr : FloatKind.f64.decode w = .number (sgB w) (mag (rgB w)) (-1074 + (exn (rgB w) : Int)) := read_fin (by omega)
  have hnan : isNan w = false := by simp [isNan]; omega
  unfold floatToIntVal
  rw [hr]
  simp only [Ieee.Datum.toInt, Ieee.Datum.integral, cut_zero, Nat.shiftLeft_eq]
  have key : ∃ m : Nat, mag (rgB w) * 2 ^ (-1074 + (exn (rgB w) : Int)).toNat / 2 ^ (-(-1074 + (exn (rgB w) : Int))).toNat = m ∧ m < 9223372036854775808 ∧ truncN w = (if sgB w then -(m : Int) else m) := by
    refine ⟨_, rfl, ?_⟩
    unfold truncN mag exn
    rw [hnan]
    simp only [Bool.false_eq_true, if_false]
    by_cases h1 : rgB w < 4503599627370496
    · have e0 : rgB w / 4503599627370496 = 0 := by omega
      rw [if_pos h1, if_pos h1, e0, if_pos rfl]
      have : rgB w * 2 ^ (-1074 + ((0 : Nat) : Int)).toNat / 2 ^ (-(-1074 + ((0 : Nat) : Int))).toNat = 0 := by
        have e1 : (-1074 + ((0 : Nat) : Int)).toNat = 0 := by omega
        have e2 : (-(-1074 + ((0 : Nat) : Int))).toNat = 1074 := by omega
        rw [e1, e2, Nat.pow_zero, Nat.mul_one]
        generalize hK : (1074 : Nat) = K
        refine Nat.div_eq_of_lt (Nat.lt_of_lt_of_le h1 ?_)
        have : (4503599627370496 : Nat) = 2 ^ 52 := by decide
        rw [this]
        exact Nat.pow_le_pow_right (by omega) (by omega)
      rw [this]
      exact ⟨by omega, by cases sgB w <;> rfl⟩
    · have hE : 1 ≤ rgB w / 4503599627370496 ∧ rgB w / 4503599627370496 < 1086 := by omega
      rw [if_neg h1, if_neg h1, if_neg (show ¬ rgB w / 4503599627370496 = 0 by omega), if_neg (show ¬ 1086 ≤ rgB w / 4503599627370496 by omega)]
      generalize rgB w / 4503599627370496 = e at *
      have hf : rgB w % 4503599627370496 < 4503599627370496 := Nat.mod_lt _ (by omega)
      generalize rgB w % 4503599627370496 = f at *
      by_cases h2 : e < 1075
      · have e1 : (-1074 + ((e - 1 : Nat) : Int)).toNat = 0 := by omega
        have e2 : (-(-1074 + ((e - 1 : Nat) : Int))).toNat = 1075 - e := by omega
        rw [e1, e2, Nat.pow_zero, Nat.mul_one]
        have hlt : (4503599627370496 + f) / 2 ^ (1075 - e) ≤ 4503599627370496 + f := Nat.div_le_self _ _
        refine ⟨by omega, ?_⟩
        by_cases h3 : e ≤ 1022
        · rw [if_pos h3]
          have : (4503599627370496 + f) / 2 ^ (1075 - e) = 0 := by
            refine Nat.div_eq_of_lt (Nat.lt_of_lt_of_le (show 4503599627370496 + f < 2 ^ 53 by omega) (Nat.pow_le_pow_right (by omega) (by omega)))
          rw [this]; cases sgB w <;> rfl
        · rw [if_neg h3, if_pos h2]
      · have e1 : (-1074 + ((e - 1 : Nat) : Int)).toNat = e - 1075 := by omega
        have e2 : (-(-1074 + ((e - 1 : Nat) : Int))).toNat = 0 := by omega
        rw [e1, e2, Nat.pow_zero, Nat.div_one]
        have hp : 2 ^ (e - 1075) ≤ 2 ^ 10 := Nat.pow_le_pow_right (by omega) (by omega)
        have hm : (4503599627370496 + f) * 2 ^ (e - 1075) ≤ (4503599627370496 + f) * 2 ^ 10 := Nat.mul_le_mul_left _ hp
        refine ⟨by omega, ?_⟩
        rw [if_neg (show ¬ e ≤ 1022 by omega), if_neg h2]
  obtain ⟨m, hm, hlt, ht⟩ := key
  rw [hm, ht]
  have hsg : Ieee.signed (sgB w) m 0 = if sgB w then -(m : Int) else m := by unfold Ieee.signed; simp [Nat.shiftLeft_eq]
  rw [hsg]
  have h1 : IntKind.i64.min = -9223372036854775808 := by decide
  have h2 : IntKind.i64.max = 9223372036854775807 := by decide
  rw [h1, h2]
  rw [if_pos]
  cases sgB w <;> simp <;> omega

end Go.Abs
