/- For all codes that are not more than is played: Good answers what the document says. -/
import Derived.Test.YtppldbldpphlmaaRows
import Derived.Test.YtppldbldpphlmaaCdIs
set_option linter.unusedVariables false
set_option linter.unusedSimpArgs false
set_option maxRecDepth 100000
namespace Go.Proofs.Ytppldbldpphlmaa
open Go.Abs Go.RowKit

theorem CodeIs_own : ownKnob Try.prog.godebug = none := by kernel_rfl
theorem CodeIs_laid : laidOutB Try.prog = true := by kernel_rfl

theorem CodeIs_typed : ∀ xs, TyVs Try.prog Try.f4.params.toList xs → CallsA Try.prog 4 xs noHeap (fun v _ => v = .bool true) := by
  intro xs h
  obtain ⟨x0, rfl, k0⟩ := CodeIs_args h
  exact CodeIs_does x0 k0 noHeap

theorem CodeIs_lifted (os : Os) (started : os.Started) (H : Type) (enc : TypeId × Value → H) :
    ReturnsInHanded {} Try.checked os 4 .any (Rows.codeIsSpec.pre6 enc Try.prog Try.f4 Rows.codeIsRow.domain false) (Rows.codeIsSpec.post enc Try.prog Try.f4 false true false false) :=
  law_lifted (C := Try.checked) (t := 4) CodeIs_own started (by kernel_rfl) Try.func4
    (ChangeSpec.witness6 (enc := enc) (C := Try.checked) false ⟨#[], #[.agg #[.slice none 0 0, .slice none 0 0, .slice none 0 0, .slice none 0 0, .slice none 0 0]], []⟩ 8 (by kernel_rfl) (by kernel_rfl) (by kernel_rfl) (by kernel_rfl))
    CodeIs_laid (by kernel_rfl) (by kernel_rfl) (by kernel_rfl) rfl (fun xs hx => by
      have hx' : xs.length = Try.f4.params.size := hx
      rw [Try.params4] at hx'
      match xs, hx' with
      | [d0], _ => rfl) Try.call4 CodeIs_typed

theorem CodeIs_holds : Rows.CodeIsSaid :=
  OpenClaim.holds_of_wide 4 Try.f4 rfl rfl rfl rfl rfl rfl rfl ⟨rfl, rfl, rfl, rfl, rfl⟩ rfl rfl rfl rfl rfl (by kernel_rfl) Try.func4 (by kernel_rfl)
    (of_decide_eq_true (by kernel_rfl)) (by unfold Func.isWrapper; first | (rw [if_pos (by decide +kernel)]; kernel_rfl) | (rw [if_neg (by decide +kernel)]; exact ⟨rfl, rfl⟩))
    (fun os started H enc _ => CodeIs_lifted os started H enc)

end Go.Proofs.Ytppldbldpphlmaa
