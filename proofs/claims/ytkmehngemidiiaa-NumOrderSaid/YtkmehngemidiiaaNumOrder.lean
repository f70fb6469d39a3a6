/- NumOrder: of two reals that are numbers just one of less, equal, greater holds; for all bits, under no condition. -/
import Derived.Test.YtkmehngemidiiaaRows
import Derived.Test.YtkmehngemidiiaaNumLaws
set_option linter.unusedVariables false
set_option linter.unusedSimpArgs false
set_option maxRecDepth 100000
namespace Go.Proofs.Ytkmehngemidiiaa
open Go.Abs Go.RowKit

theorem NumOrder_own : ownKnob Try.prog.godebug = none := by kernel_rfl
theorem NumOrder_laid : laidOutB Try.prog = true := by kernel_rfl

theorem NumOrder_typed : ∀ xs, TyVs Try.prog Try.f4.params.toList xs → CallsA Try.prog 4 xs noHeap (fun v _ => v = .bool true) := by
  intro xs h
  obtain ⟨x0, x1, rfl, k0, k1⟩ := NumOrder_args h
  exact NumOrder_does x0 x1 k0 k1 noHeap

theorem NumOrder_lifted (os : Os) (started : os.Started) (H : Type) (enc : TypeId × Value → H) :
    ReturnsInHanded {} Try.checked os 4 .any (Rows.numOrderSpec.pre6 enc Try.prog Try.f4 Rows.numOrderRow.domain false) (Rows.numOrderSpec.post enc Try.prog Try.f4 false true false false) :=
  law_lifted (C := Try.checked) (t := 4) NumOrder_own started (by kernel_rfl) Try.func4
    (ChangeSpec.witness6 (enc := enc) (C := Try.checked) false ⟨#[], #[.int .u64 0,.int .u64 0], []⟩ 8 (by kernel_rfl) (by kernel_rfl) (by kernel_rfl) (by kernel_rfl))
    NumOrder_laid (by kernel_rfl) (by kernel_rfl) (by kernel_rfl) rfl (fun xs hx => by
      have hx' : xs.length = Try.f4.params.size := hx
      rw [Try.params4] at hx'
      match xs, hx' with
      | [d0, d1], _ => rfl) Try.call4 NumOrder_typed

theorem NumOrder_holds : Rows.NumOrderSaid :=
  OpenClaim.holds_of_wide 4 Try.f4 rfl rfl rfl rfl rfl rfl rfl ⟨rfl, rfl, rfl, rfl, rfl⟩ rfl rfl rfl rfl rfl (by kernel_rfl) Try.func4 (by kernel_rfl)
    (of_decide_eq_true (by kernel_rfl)) (by unfold Func.isWrapper; first | (rw [if_pos (by decide +kernel)]; kernel_rfl) | (rw [if_neg (by decide +kernel)]; exact ⟨rfl, rfl⟩))
    (fun os started H enc _ => NumOrder_lifted os started H enc)

end Go.Proofs.Ytkmehngemidiiaa
