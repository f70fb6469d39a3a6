/- NumOdd: what is no number stays no number, whatever is reckoned with it; for every op and all bits, under no condition. -/
import Derived.Test.YtkmehngemidiiaaRows
import Derived.Test.YtkmehngemidiiaaNumLaws
set_option linter.unusedVariables false
set_option linter.unusedSimpArgs false
set_option maxRecDepth 100000
namespace Go.Proofs.Ytkmehngemidiiaa
open Go.Abs Go.RowKit

theorem NumOdd_own : ownKnob Try.prog.godebug = none := by kernel_rfl
theorem NumOdd_laid : laidOutB Try.prog = true := by kernel_rfl

theorem NumOdd_typed : ∀ xs, TyVs Try.prog Try.f8.params.toList xs → CallsA Try.prog 8 xs noHeap (fun v _ => v = .bool true) := by
  intro xs h
  obtain ⟨x0, x1, x2, rfl, k0, k1, k2⟩ := NumOdd_args h
  exact NumOdd_does x0 x1 x2 k1 k2 noHeap

theorem NumOdd_lifted (os : Os) (started : os.Started) (H : Type) (enc : TypeId × Value → H) :
    ReturnsInHanded {} Try.checked os 8 .any (Rows.numOddSpec.pre6 enc Try.prog Try.f8 Rows.numOddRow.domain false) (Rows.numOddSpec.post enc Try.prog Try.f8 false true false false) :=
  law_lifted (C := Try.checked) (t := 4) NumOdd_own started (by kernel_rfl) Try.func8
    (ChangeSpec.witness6 (enc := enc) (C := Try.checked) false ⟨#[], #[.int .i64 0,.int .u64 0,.int .u64 0], []⟩ 8 (by kernel_rfl) (by kernel_rfl) (by kernel_rfl) (by kernel_rfl))
    NumOdd_laid (by kernel_rfl) (by kernel_rfl) (by kernel_rfl) rfl (fun xs hx => by
      have hx' : xs.length = Try.f8.params.size := hx
      rw [Try.params8] at hx'
      match xs, hx' with
      | [d0, d1, d2], _ => rfl) Try.call8 NumOdd_typed

theorem NumOdd_holds : Rows.NumOddSaid :=
  OpenClaim.holds_of_wide 8 Try.f8 rfl rfl rfl rfl rfl rfl rfl ⟨rfl, rfl, rfl, rfl, rfl⟩ rfl rfl rfl rfl rfl (by kernel_rfl) Try.func8 (by kernel_rfl)
    (of_decide_eq_true (by kernel_rfl)) (by unfold Func.isWrapper; first | (rw [if_pos (by decide +kernel)]; kernel_rfl) | (rw [if_neg (by decide +kernel)]; exact ⟨rfl, rfl⟩))
    (fun os started H enc _ => NumOdd_lifted os started H enc)

end Go.Proofs.Ytkmehngemidiiaa
