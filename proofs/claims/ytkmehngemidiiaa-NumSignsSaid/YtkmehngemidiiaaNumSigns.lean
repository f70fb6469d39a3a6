/- NumSigns: to take away is to add the opposite; a sign turned twice is as it was; for all bits, under no condition. -/
import Derived.Test.YtkmehngemidiiaaRows
import Derived.Test.YtkmehngemidiiaaNumLaws
set_option linter.unusedVariables false
set_option linter.unusedSimpArgs false
set_option maxRecDepth 100000
namespace Go.Proofs.Ytkmehngemidiiaa
open Go.Abs Go.RowKit

theorem NumSigns_own : ownKnob Try.prog.godebug = none := by kernel_rfl
theorem NumSigns_laid : laidOutB Try.prog = true := by kernel_rfl

theorem NumSigns_typed : ∀ xs, TyVs Try.prog Try.f9.params.toList xs → CallsA Try.prog 9 xs noHeap (fun v _ => v = .bool true) := by
  intro xs h
  obtain ⟨x0, x1, rfl, k0, k1⟩ := NumSigns_args h
  exact NumSigns_does x0 x1 k0 k1 noHeap

theorem NumSigns_lifted (os : Os) (started : os.Started) (H : Type) (enc : TypeId × Value → H) :
    ReturnsInHanded {} Try.checked os 9 .any (Rows.numSignsSpec.pre6 enc Try.prog Try.f9 Rows.numSignsRow.domain false) (Rows.numSignsSpec.post enc Try.prog Try.f9 false true false false) :=
  law_lifted (C := Try.checked) (t := 4) NumSigns_own started (by kernel_rfl) Try.func9
    (ChangeSpec.witness6 (enc := enc) (C := Try.checked) false ⟨#[], #[.int .u64 0,.int .u64 0], []⟩ 8 (by kernel_rfl) (by kernel_rfl) (by kernel_rfl) (by kernel_rfl))
    NumSigns_laid (by kernel_rfl) (by kernel_rfl) (by kernel_rfl) rfl (fun xs hx => by
      have hx' : xs.length = Try.f9.params.size := hx
      rw [Try.params9] at hx'
      match xs, hx' with
      | [d0, d1], _ => rfl) Try.call9 NumSigns_typed

theorem NumSigns_holds : Rows.NumSignsSaid :=
  OpenClaim.holds_of_wide 9 Try.f9 rfl rfl rfl rfl rfl rfl rfl ⟨rfl, rfl, rfl, rfl, rfl⟩ rfl rfl rfl rfl rfl (by kernel_rfl) Try.func9 (by kernel_rfl)
    (of_decide_eq_true (by kernel_rfl)) (by unfold Func.isWrapper; first | (rw [if_pos (by decide +kernel)]; kernel_rfl) | (rw [if_neg (by decide +kernel)]; exact ⟨rfl, rfl⟩))
    (fun os started H enc _ => NumSigns_lifted os started H enc)

end Go.Proofs.Ytkmehngemidiiaa
