/- Doubles by their bits: order, signs, whole parts. -/
import Derived.Test.YtkmehngemidiiaaAbsFlt
set_option linter.unusedVariables false
set_option linter.unusedSimpArgs false
namespace Go.Abs

def sgB (w : Nat) : Bool := w / 9223372036854775808 % 2 == 1
def rgB (w : Nat) : Nat := w % 9223372036854775808
def rk (w : Nat) : Int := if sgB w then -(rgB w : Int) else rgB w
def isNan (w : Nat) : Bool := decide (9218868437227405312 < rgB w)
def mag (r : Nat) : Nat := if r < 4503599627370496 then r else 4503599627370496 + r % 4503599627370496
def exn (r : Nat) : Nat := if r < 4503599627370496 then 0 else r / 4503599627370496 - 1
def vl (r : Nat) : Nat := mag r * 2 ^ exn r

theorem rgB_lt (w : Nat) : rgB w < 9223372036854775808 := Nat.mod_lt _ (by omega)

theorem read_dbl (w : Nat) : Ieee.double.read w = if rgB w < 4503599627370496 then .number (sgB w) (rgB w) (-1074) else if rgB w < 9218868437227405312 then .number (sgB w) (4503599627370496 + rgB w % 4503599627370496) (-1074 + ((rgB w / 4503599627370496 - 1 : Nat) : Int))
    else if rgB w = 9218868437227405312 then .infinity (sgB w) else .nan (sgB w) (rgB w - 9218868437227405312) := by
  have h1 : Ieee.double.signWeight = 9223372036854775808 := by decide
  have h2 : Ieee.double.binade = 4503599627370496 := by decide
  have h3 : Ieee.double.infRung = 9218868437227405312 := by decide
  have h4 : Ieee.double.leastPlace = -1074 := by decide
  unfold Ieee.Format.read
  simp only [h1, h2, h3, h4]
  rfl

theorem read_fin {w : Nat} (h : rgB w < 9218868437227405312) : Ieee.double.read w = .number (sgB w) (mag (rgB w)) (-1074 + (exn (rgB w) : Int)) := by
  rw [read_dbl]
  unfold mag exn
  split
  · simp
  · first | rfl | rw [if_pos h]
theorem read_inf {w : Nat} (h : rgB w = 9218868437227405312) : Ieee.double.read w = .infinity (sgB w) := by
  rw [read_dbl, if_neg (by omega), if_neg (by omega), if_pos h]
theorem read_nan {w : Nat} (h : 9218868437227405312 < rgB w) : Ieee.double.read w = .nan (sgB w) (rgB w - 9218868437227405312) := by
  rw [read_dbl, if_neg (by omega), if_neg (by omega), if_neg (by omega)]

theorem vl_mono {r r' : Nat} (h : r < r') : vl r < vl r' := by
  unfold vl mag exn
  by_cases h1 : r < 4503599627370496
  · rw [if_pos h1, if_pos h1]
    by_cases h2 : r' < 4503599627370496
    · rw [if_pos h2, if_pos h2]; omega
    · rw [if_neg h2, if_neg h2]
      have hp : 0 < 2 ^ (r' / 4503599627370496 - 1) := Nat.pow_pos (by omega)
      have : 4503599627370496 * 1 ≤ (4503599627370496 + r' % 4503599627370496) * 2 ^ (r' / 4503599627370496 - 1) := Nat.mul_le_mul (by omega) hp
      omega
  · have h2 : ¬ r' < 4503599627370496 := by omega
    rw [if_neg h1, if_neg h1, if_neg h2, if_neg h2]
    by_cases he : r / 4503599627370496 = r' / 4503599627370496
    · rw [he]
      exact Nat.mul_lt_mul_of_pos_right (by omega) (Nat.pow_pos (by omega))
    · have hlt : r / 4503599627370496 < r' / 4503599627370496 := by omega
      have e1 : (4503599627370496 + r % 4503599627370496) * 2 ^ (r / 4503599627370496 - 1) < 9007199254740992 * 2 ^ (r / 4503599627370496 - 1) := Nat.mul_lt_mul_of_pos_right (by omega) (Nat.pow_pos (by omega))
      have e2 : 9007199254740992 * 2 ^ (r / 4503599627370496 - 1) = 4503599627370496 * 2 ^ (r / 4503599627370496) := by
        have : r / 4503599627370496 = (r / 4503599627370496 - 1) + 1 := by omega
        rw [this, Nat.pow_succ]; simp only [Nat.add_sub_cancel]; omega
      have e3 : 4503599627370496 * 2 ^ (r / 4503599627370496) ≤ (4503599627370496 + r' % 4503599627370496) * 2 ^ (r' / 4503599627370496 - 1) := Nat.mul_le_mul (by omega) (Nat.pow_le_pow_right (by omega) (by omega))
      omega

def cmpI (x y : Int) : Ordering := if x < y then .lt else if x = y then .eq else .gt
theorem compare_int (x y : Int) : compare x y = cmpI x y := rfl
theorem compare_nat (x y : Nat) : compare x y = cmpI x y := by
  show compareOfLessAndEq x y = _
  unfold compareOfLessAndEq cmpI
  rcases Nat.lt_trichotomy x y with h | h | h
  · rw [if_pos h, if_pos (by omega)]
  · subst h; simp
  · have h1 : ¬ x < y := by omega
    have h2 : ¬ x = y := by omega
    have h3 : ¬ (x : Int) < (y : Int) := by omega
    have h4 : ¬ (x : Int) = (y : Int) := by omega
    simp only [h1, h2, h3, h4, if_false]

theorem cmpI_iff {x y u v : Int} (h1 : x < y ↔ u < v) (h2 : x = y ↔ u = v) : cmpI x y = cmpI u v := by
  unfold cmpI
  by_cases h : x < y
  · rw [if_pos h, if_pos (h1.1 h)]
  · rw [if_neg h, if_neg (fun k => h (h1.2 k))]
    by_cases h' : x = y
    · rw [if_pos h', if_pos (h2.1 h')]
    · rw [if_neg h', if_neg (fun k => h' (h2.2 k))]

def sv (w : Nat) : Int := if sgB w then -(vl (rgB w) : Int) else vl (rgB w)

theorem vl_zero : vl 0 = 0 := by decide
theorem sv_rk (a b : Nat) : cmpI (sv a) (sv b) = cmpI (rk a) (rk b) := by
  have m1 : ∀ r r' : Nat, vl r < vl r' ↔ r < r' := fun r r' => ⟨fun h => by
    by_cases h' : r < r'
    · exact h'
    · rcases Nat.lt_or_eq_of_le (Nat.le_of_not_lt h') with h2 | h2
      · have := vl_mono h2; omega
      · subst h2; omega, vl_mono⟩
  have m2 : ∀ r r' : Nat, vl r = vl r' ↔ r = r' := fun r r' => ⟨fun h => by
    have a1 := m1 r r'; have a2 := m1 r' r; omega, fun h => by rw [h]⟩
  have z : ∀ r : Nat, vl r = 0 ↔ r = 0 := fun r => by rw [← m2 r 0, vl_zero]
  unfold sv rk
  have h1 := m1 (rgB a) (rgB b)
  have h2 := m1 (rgB b) (rgB a)
  have h3 := m2 (rgB a) (rgB b)
  have h4 := z (rgB a)
  have h5 := z (rgB b)
  apply cmpI_iff <;> split <;> split <;> omega

theorem signed_mul (s : Bool) (m k p : Nat) : Ieee.signed s m k * ((2 ^ p : Nat) : Int) = if s then -((m * 2 ^ (k + p) : Nat) : Int) else ((m * 2 ^ (k + p) : Nat) : Int) := by
  unfold Ieee.signed
  rw [Nat.shiftLeft_eq, Nat.pow_add, ← Nat.mul_assoc]
  split
  · rw [Int.neg_mul]; norm_cast
  · norm_cast

theorem cmpI_mul (x y : Int) (p : Nat) (hp : 0 < p) : cmpI (x * (p : Int)) (y * (p : Int)) = cmpI x y := by
  have hp' : (0 : Int) < (p : Int) := by omega
  apply cmpI_iff
  · exact ⟨fun h => Int.lt_of_mul_lt_mul_right h (by omega), fun h => Int.mul_lt_mul_of_pos_right h hp'⟩
  · exact ⟨fun h => Int.eq_of_mul_eq_mul_right (by omega) h, fun h => by rw [h]⟩

theorem order_fin {a b : Nat} (ha : rgB a < 9218868437227405312) (hb : rgB b < 9218868437227405312) : Ieee.double.order a b = some (cmpI (rk a) (rk b)) := by
  unfold Ieee.Format.order
  rw [read_fin ha, read_fin hb]
  simp only [Ieee.Datum.order, compare_int, Option.some.injEq]
  rw [← sv_rk, ← cmpI_mul _ _ (2 ^ min (exn (rgB a)) (exn (rgB b))) (Nat.pow_pos (by omega)), signed_mul, signed_mul]
  have e1 : (-1074 + (exn (rgB a) : Int) - min (-1074 + (exn (rgB a) : Int)) (-1074 + (exn (rgB b) : Int))).toNat + min (exn (rgB a)) (exn (rgB b)) = exn (rgB a) := by omega
  have e2 : (-1074 + (exn (rgB b) : Int) - min (-1074 + (exn (rgB a) : Int)) (-1074 + (exn (rgB b) : Int))).toNat + min (exn (rgB a)) (exn (rgB b)) = exn (rgB b) := by omega
  rw [e1, e2]
  rfl

theorem order_num {a b : Nat} (ha : isNan a = false) (hb : isNan b = false) : Ieee.double.order a b = some (cmpI (rk a) (rk b)) := by
  simp only [isNan, decide_eq_false_iff_not] at ha hb
  by_cases h1 : rgB a = 9218868437227405312
  · by_cases h2 : rgB b = 9218868437227405312
    · unfold Ieee.Format.order rk
      rw [read_inf h1, read_inf h2, h1, h2]
      cases sgB a <;> cases sgB b <;> decide
    · unfold Ieee.Format.order rk
      rw [read_inf h1, read_fin (by omega), h1]
      simp only [Ieee.Datum.order, Option.some.injEq]
      unfold cmpI
      cases sgB a <;> cases sgB b <;> simp only [Bool.false_eq_true, if_false, if_true] <;> first | (rw [if_pos (by omega)]; done) | (rw [if_neg (by omega), if_neg (by omega)]; done)
  · by_cases h2 : rgB b = 9218868437227405312
    · unfold Ieee.Format.order rk
      rw [read_inf h2, read_fin (by omega), h2]
      simp only [Ieee.Datum.order, Option.some.injEq]
      unfold cmpI
      cases sgB a <;> cases sgB b <;> simp only [Bool.false_eq_true, if_false, if_true] <;> first | (rw [if_pos (by omega)]; done) | (rw [if_neg (by omega), if_neg (by omega)]; done)
    · exact order_fin (by omega) (by omega)

theorem order_nan {a b : Nat} (h : isNan a = true ∨ isNan b = true) : Ieee.double.order a b = none := by
  unfold Ieee.Format.order
  simp only [isNan, decide_eq_true_eq] at h
  rcases h with h | h
  · rw [read_nan h]; rfl
  · rw [read_nan h]
    cases Ieee.double.read a <;> rfl

end Go.Abs
