/- NumWhole: whole numbers up to 2^53 come back from reals as they were; others as the nearest, in their order; for all numbers, under no condition. -/
import Derived.Test.YtkmehngemidiiaaRows
import Derived.Test.YtkmehngemidiiaaNumWholeDoes
set_option linter.unusedVariables false
set_option linter.unusedSimpArgs false
set_option maxRecDepth 100000
namespace Go.Proofs.Ytkmehngemidiiaa
open Go.Abs Go.RowKit

theorem NumWhole_own : ownKnob Try.prog.godebug = none := by kernel_rfl
theorem NumWhole_laid : laidOutB Try.prog = true := by kernel_rfl

theorem NumWhole_typed : ∀ xs, TyVs Try.prog Try.f5.params.toList xs → CallsA Try.prog 5 xs noHeap (fun v _ => v = .bool true) := by
  intro xs h
  obtain ⟨x0, x1, rfl, k0, k1⟩ := NumWhole_args h
  exact NumWhole_does x0 x1 k0 k1 noHeap

theorem NumWhole_lifted (os : Os) (started : os.Started) (H : Type) (enc : TypeId × Value → H) :
    ReturnsInHanded {} Try.checked os 5 .any (Rows.numWholeSpec.pre6 enc Try.prog Try.f5 Rows.numWholeRow.domain false) (Rows.numWholeSpec.post enc Try.prog Try.f5 false true false false) :=
  law_lifted (C := Try.checked) (t := 4) NumWhole_own started (by kernel_rfl) Try.func5
    (ChangeSpec.witness6 (enc := enc) (C := Try.checked) false ⟨#[], #[.int .i64 0,.int .i64 0], []⟩ 8 (by kernel_rfl) (by kernel_rfl) (by kernel_rfl) (by kernel_rfl))
    NumWhole_laid (by kernel_rfl) (by kernel_rfl) (by kernel_rfl) rfl (fun xs hx => by
      have hx' : xs.length = Try.f5.params.size := hx
      rw [Try.params5] at hx'
      match xs, hx' with
      | [d0, d1], _ => rfl) Try.call5 NumWhole_typed

theorem NumWhole_holds : Rows.NumWholeSaid :=
  OpenClaim.holds_of_wide 5 Try.f5 rfl rfl rfl rfl rfl rfl rfl ⟨rfl, rfl, rfl, rfl, rfl⟩ rfl rfl rfl rfl rfl (by kernel_rfl) Try.func5 (by kernel_rfl)
    (of_decide_eq_true (by kernel_rfl)) (by unfold Func.isWrapper; first | (rw [if_pos (by decide +kernel)]; kernel_rfl) | (rw [if_neg (by decide +kernel)]; exact ⟨rfl, rfl⟩))
    (fun os started H enc _ => NumWhole_lifted os started H enc)

end Go.Proofs.Ytkmehngemidiiaa
