/- For all numbers and counts of signs: an expression of a number and at most 63 signs is that number or its opposite; a longer one is none. -/
import Derived.Test.YtkmehngemidiiaaRows
import Derived.Test.YtkmehngemidiiaaCalcLongDoes
set_option linter.unusedVariables false
set_option linter.unusedSimpArgs false
set_option maxRecDepth 100000
namespace Go.Proofs.Ytkmehngemidiiaa
open Go.Abs Go.RowKit

theorem CalcLong_own : ownKnob Try.prog.godebug = none := by kernel_rfl
theorem CalcLong_laid : laidOutB Try.prog = true := by kernel_rfl

theorem CalcLong_typed : ∀ xs, TyVs Try.prog Try.f12.params.toList xs → CallsA Try.prog 12 xs noHeap (fun v _ => v = .bool true) := by
  intro xs h
  obtain ⟨x0, x1, rfl, k0, k1⟩ := CalcLong_args h
  exact CalcLong_does x0 x1 k0 k1 noHeap

theorem CalcLong_lifted (os : Os) (started : os.Started) (H : Type) (enc : TypeId × Value → H) :
    ReturnsInHanded {} Try.checked os 12 .any (Rows.calcLongSpec.pre6 enc Try.prog Try.f12 Rows.calcLongRow.domain false) (Rows.calcLongSpec.post enc Try.prog Try.f12 false true false false) :=
  law_lifted (C := Try.checked) (t := 4) CalcLong_own started (by kernel_rfl) Try.func12
    (ChangeSpec.witness6 (enc := enc) (C := Try.checked) false ⟨#[], #[.int .u64 0,.int .i64 0], []⟩ 8 (by kernel_rfl) (by kernel_rfl) (by kernel_rfl) (by kernel_rfl))
    CalcLong_laid (by kernel_rfl) (by kernel_rfl) (by kernel_rfl) rfl (fun xs hx => by
      have hx' : xs.length = Try.f12.params.size := hx
      rw [Try.params12] at hx'
      match xs, hx' with
      | [d0, d1], _ => rfl) Try.call12 CalcLong_typed

theorem CalcLong_holds : Rows.CalcLongSaid :=
  OpenClaim.holds_of_wide 12 Try.f12 rfl rfl rfl rfl rfl rfl rfl ⟨rfl, rfl, rfl, rfl, rfl⟩ rfl rfl rfl rfl rfl (by kernel_rfl) Try.func12 (by kernel_rfl)
    (of_decide_eq_true (by kernel_rfl)) (by unfold Func.isWrapper; first | (rw [if_pos (by decide +kernel)]; kernel_rfl) | (rw [if_neg (by decide +kernel)]; exact ⟨rfl, rfl⟩))
    (fun os started H enc _ => CalcLong_lifted os started H enc)

end Go.Proofs.Ytkmehngemidiiaa
