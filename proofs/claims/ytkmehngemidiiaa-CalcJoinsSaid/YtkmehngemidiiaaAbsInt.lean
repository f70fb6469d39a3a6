/- Whole numbers that go round: quotients, rests. -/
import Derived.Test.YtkmehngemidiiaaAbsDblB
set_option linter.unusedVariables false
set_option linter.unusedSimpArgs false
namespace Go.Abs

theorem wrap_ex (n : Int) : ∃ k : Int, IntKind.i64.wrap n = n + k * 18446744073709551616 := by
  rw [IntKind.wrap_i64]
  exact ⟨-((n + 9223372036854775808) / 18446744073709551616), by omega⟩
theorem wrap_of {n a k : Int} (h : n = a + k * 18446744073709551616) (h1 : -9223372036854775808 ≤ a) (h2 : a ≤ 9223372036854775807) : IntKind.i64.wrap n = a := by
  rw [IntKind.wrap_i64]; omega
theorem wrap_range (n : Int) : -9223372036854775808 ≤ IntKind.i64.wrap n ∧ IntKind.i64.wrap n ≤ 9223372036854775807 := by
  rw [IntKind.wrap_i64]; omega

theorem tmod_facts (a : Int) {b : Int} (hb : b ≠ 0) : (0 ≤ a → 0 ≤ a.tmod b ∧ a.tmod b ≤ a) ∧ (a ≤ 0 → a ≤ a.tmod b ∧ a.tmod b ≤ 0) ∧ (0 < b → -b < a.tmod b ∧ a.tmod b < b) ∧ (b < 0 → b < a.tmod b ∧ a.tmod b < -b) := by
  have h1 : (a.tmod b).natAbs = a.natAbs % b.natAbs := Int.natAbs_tmod a b
  have h2 : a.natAbs % b.natAbs < b.natAbs := Nat.mod_lt _ (by omega)
  have h3 : a.natAbs % b.natAbs ≤ a.natAbs := Nat.mod_le _ _
  have h4 : 0 ≤ a → 0 ≤ a.tmod b := fun h => Int.tmod_nonneg b h
  have h5 : a ≤ 0 → a.tmod b ≤ 0 := fun h => by
    have := Int.tmod_nonneg b (show 0 ≤ -a by omega)
    rw [Int.neg_tmod] at this; omega
  refine ⟨fun h => ?_, fun h => ?_, fun h => ?_, fun h => ?_⟩
  · have := h4 h; omega
  · have := h5 h; omega
  · omega
  · omega
theorem tdiv_tmod (a b : Int) : b * a.tdiv b + a.tmod b = a := Int.mul_tdiv_add_tmod a b
theorem tdiv_range {a b : Int} (h1 : -9223372036854775808 ≤ a) (h2 : a ≤ 9223372036854775807) (hb : b ≠ 0) (hm : b ≠ -1) : -9223372036854775808 ≤ a.tdiv b ∧ a.tdiv b ≤ 9223372036854775807 := by
  by_cases h : b = 1
  · subst h; rw [Int.tdiv_one]; omega
  · have e : (a.tdiv b).natAbs = a.natAbs / b.natAbs := Int.natAbs_tdiv a b
    have hb2 : 2 ≤ b.natAbs := by omega
    have : a.natAbs / b.natAbs ≤ a.natAbs / 2 := Nat.div_le_div_left hb2 (by omega)
    omega

/-- What the document's Int answers. -/
def intR (op a b : Int) : Int × Bool :=
  if op = 0 then (IntKind.i64.wrap (a + b), true)
  else if op = 1 then (IntKind.i64.wrap (a - b), true)
  else if op = 2 then (IntKind.i64.wrap (a * b), true)
  else if op = 3 then (if b = 0 then (0, false) else (IntKind.i64.wrap (a.tdiv b), true))
  else if op = 4 then (if b = 0 then (0, false) else (a.tmod b, true))
  else if op = 5 then (if a = b then 1 else 0, true)
  else if op = 6 then (if a ≠ b then 1 else 0, true)
  else if op = 7 then (if a < b then 1 else 0, true)
  else if op = 8 then (if a ≤ b then 1 else 0, true)
  else (0, true)
def intV (op a b : Int) : AV := .tup [.int .i64 (intR op a b).1, .bool (intR op a b).2]

/-- What the document's Real answers. -/
def realR (op : Int) (a b : Nat) : Nat :=
  if op = 0 then arN .add a b
  else if op = 1 then arN .sub a b
  else if op = 2 then arN .mul a b
  else if op = 3 then arN .quo a b
  else if op = 4 then 9221120237041090560
  else if op = 5 then (eqN a b).toNat
  else if op = 6 then (!eqN a b).toNat
  else if op = 7 then (ltN a b).toNat
  else if op = 8 then (ltN a b || eqN a b).toNat
  else 0

/-- What a comparison says of less, and equal. -/
def cmpB (op : Int) (l e : Bool) : Bool := if op = 5 then e else if op = 6 then !e else if op = 7 then l else if op = 8 then l || e else false

theorem real_arith {op : BinOp} {a b : Nat} {h : AHeap} {K : AV → AHeap → Prop} (H : ∀ r, arN op a b = tidyN r → K (.flt .f64 r) h) : pFArith .f64 op (.flt .f64 a) (.flt .f64 b) h K := by
  unfold pFArith
  refine ⟨rfl, rfl, ?_⟩
  cases hf : floatBits op .f64 a b with
  | some r => exact H r (by unfold arN; rw [hf])
  | none =>
    intro r hr
    refine H r ?_
    unfold arN tidyN
    rw [hf, if_pos (nanB_isNan hr).1]

/-- A real's rank, an Odd real: as the document reckons them. -/
theorem odd_bits {a : Nat} (ha : a < 18446744073709551616) : isNan a = (decide (a * 2 % 18446744073709551616 / 9007199254740992 = 2047) && decide (a * 4096 % 18446744073709551616 ≠ 0)) := by
  rw [Bool.eq_iff_iff, isNan_iff]
  simp only [Bool.and_eq_true, decide_eq_true_eq]
  omega
theorem rank_bits {a : Nat} (ha : a < 18446744073709551616) : a * 2 % 18446744073709551616 / 2 = rgB a ∧ (sgB a = decide (a / 9223372036854775808 = 1)) := by
  unfold rgB sgB
  refine ⟨by omega, ?_⟩
  rw [Bool.eq_iff_iff]
  simp only [beq_iff_eq, decide_eq_true_eq]
  omega
end Go.Abs
