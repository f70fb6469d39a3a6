/- NumDivs: a quotient, times what divided, and the rest are the number; for all numbers, under no condition. -/
import Derived.Test.YtkmehngemidiiaaRows
import Derived.Test.YtkmehngemidiiaaNumDivsDoes
set_option linter.unusedVariables false
set_option linter.unusedSimpArgs false
set_option maxRecDepth 100000
namespace Go.Proofs.Ytkmehngemidiiaa
open Go.Abs Go.RowKit

theorem NumDivs_own : ownKnob Try.prog.godebug = none := by kernel_rfl
theorem NumDivs_laid : laidOutB Try.prog = true := by kernel_rfl

theorem NumDivs_typed : ∀ xs, TyVs Try.prog Try.f6.params.toList xs → CallsA Try.prog 6 xs noHeap (fun v _ => v = .bool true) := by
  intro xs h
  obtain ⟨x0, x1, rfl, k0, k1⟩ := NumDivs_args h
  exact NumDivs_does x0 x1 k0 k1 noHeap

theorem NumDivs_lifted (os : Os) (started : os.Started) (H : Type) (enc : TypeId × Value → H) :
    ReturnsInHanded {} Try.checked os 6 .any (Rows.numDivsSpec.pre6 enc Try.prog Try.f6 Rows.numDivsRow.domain false) (Rows.numDivsSpec.post enc Try.prog Try.f6 false true false false) :=
  law_lifted (C := Try.checked) (t := 4) NumDivs_own started (by kernel_rfl) Try.func6
    (ChangeSpec.witness6 (enc := enc) (C := Try.checked) false ⟨#[], #[.int .i64 0,.int .i64 0], []⟩ 8 (by kernel_rfl) (by kernel_rfl) (by kernel_rfl) (by kernel_rfl))
    NumDivs_laid (by kernel_rfl) (by kernel_rfl) (by kernel_rfl) rfl (fun xs hx => by
      have hx' : xs.length = Try.f6.params.size := hx
      rw [Try.params6] at hx'
      match xs, hx' with
      | [d0, d1], _ => rfl) Try.call6 NumDivs_typed

theorem NumDivs_holds : Rows.NumDivsSaid :=
  OpenClaim.holds_of_wide 6 Try.f6 rfl rfl rfl rfl rfl rfl rfl ⟨rfl, rfl, rfl, rfl, rfl⟩ rfl rfl rfl rfl rfl (by kernel_rfl) Try.func6 (by kernel_rfl)
    (of_decide_eq_true (by kernel_rfl)) (by unfold Func.isWrapper; first | (rw [if_pos (by decide +kernel)]; kernel_rfl) | (rw [if_neg (by decide +kernel)]; exact ⟨rfl, rfl⟩))
    (fun os started H enc _ => NumDivs_lifted os started H enc)

end Go.Proofs.Ytkmehngemidiiaa
