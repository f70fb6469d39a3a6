/- NumReals: Real, Tidy, NegReal and Trunc answer what the document says; for every op and all bits, under no condition. -/
import Derived.Test.YtkmehngemidiiaaRows
import Derived.Test.YtkmehngemidiiaaNumLaws
set_option linter.unusedVariables false
set_option linter.unusedSimpArgs false
set_option maxRecDepth 100000
namespace Go.Proofs.Ytkmehngemidiiaa
open Go.Abs Go.RowKit

theorem NumReals_own : ownKnob Try.prog.godebug = none := by kernel_rfl
theorem NumReals_laid : laidOutB Try.prog = true := by kernel_rfl

theorem NumReals_typed : ∀ xs, TyVs Try.prog Try.f7.params.toList xs → CallsA Try.prog 7 xs noHeap (fun v _ => v = .bool true) := by
  intro xs h
  obtain ⟨x0, x1, x2, rfl, k0, k1, k2⟩ := NumReals_args h
  exact NumReals_does x0 x1 x2 k1 k2 noHeap

theorem NumReals_lifted (os : Os) (started : os.Started) (H : Type) (enc : TypeId × Value → H) :
    ReturnsInHanded {} Try.checked os 7 .any (Rows.numRealsSpec.pre6 enc Try.prog Try.f7 Rows.numRealsRow.domain false) (Rows.numRealsSpec.post enc Try.prog Try.f7 false true false false) :=
  law_lifted (C := Try.checked) (t := 4) NumReals_own started (by kernel_rfl) Try.func7
    (ChangeSpec.witness6 (enc := enc) (C := Try.checked) false ⟨#[], #[.int .i64 0,.int .u64 0,.int .u64 0], []⟩ 8 (by kernel_rfl) (by kernel_rfl) (by kernel_rfl) (by kernel_rfl))
    NumReals_laid (by kernel_rfl) (by kernel_rfl) (by kernel_rfl) rfl (fun xs hx => by
      have hx' : xs.length = Try.f7.params.size := hx
      rw [Try.params7] at hx'
      match xs, hx' with
      | [d0, d1, d2], _ => rfl) Try.call7 NumReals_typed

theorem NumReals_holds : Rows.NumRealsSaid :=
  OpenClaim.holds_of_wide 7 Try.f7 rfl rfl rfl rfl rfl rfl rfl ⟨rfl, rfl, rfl, rfl, rfl⟩ rfl rfl rfl rfl rfl (by kernel_rfl) Try.func7 (by kernel_rfl)
    (of_decide_eq_true (by kernel_rfl)) (by unfold Func.isWrapper; first | (rw [if_pos (by decide +kernel)]; kernel_rfl) | (rw [if_neg (by decide +kernel)]; exact ⟨rfl, rfl⟩))
    (fun os started H enc _ => NumReals_lifted os started H enc)

end Go.Proofs.Ytkmehngemidiiaa
