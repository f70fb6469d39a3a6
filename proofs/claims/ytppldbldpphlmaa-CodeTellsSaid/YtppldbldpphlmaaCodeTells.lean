/- For all codes that are not more than is played, all threads, places and instructions: Inside and Writes answer what the document says. -/
import Derived.Test.YtppldbldpphlmaaRows
import Derived.Test.YtppldbldpphlmaaCdAlive
set_option linter.unusedVariables false
set_option linter.unusedSimpArgs false
set_option maxRecDepth 100000
namespace Go.Proofs.Ytppldbldpphlmaa
open Go.Abs Go.RowKit

theorem CodeTells_own : ownKnob Try.prog.godebug = none := by kernel_rfl
theorem CodeTells_laid : laidOutB Try.prog = true := by kernel_rfl

theorem CodeTells_typed : ∀ xs, TyVs Try.prog Try.f5.params.toList xs → CallsA Try.prog 5 xs noHeap (fun v _ => v = .bool true) := by
  intro xs h
  obtain ⟨x0, x1, x2, x3, rfl, k0, k1, k2, k3⟩ := CodeTells_args h
  exact CodeTells_does x0 x1 x2 x3 k0 noHeap

theorem CodeTells_lifted (os : Os) (started : os.Started) (H : Type) (enc : TypeId × Value → H) :
    ReturnsInHanded {} Try.checked os 5 .any (Rows.codeTellsSpec.pre6 enc Try.prog Try.f5 Rows.codeTellsRow.domain false) (Rows.codeTellsSpec.post enc Try.prog Try.f5 false true false false) :=
  law_lifted (C := Try.checked) (t := 4) CodeTells_own started (by kernel_rfl) Try.func5
    (ChangeSpec.witness6 (enc := enc) (C := Try.checked) false ⟨#[], #[.agg #[.slice none 0 0, .slice none 0 0, .slice none 0 0, .slice none 0 0, .slice none 0 0],.int .i64 0,.int .i64 0,.agg #[.int .i64 0, .int .i64 0, .int .i64 0, .int .i64 0, .int .i64 0, .int .i64 0, .slice none 0 0, .slice none 0 0]], []⟩ 8 (by kernel_rfl) (by kernel_rfl) (by kernel_rfl) (by kernel_rfl))
    CodeTells_laid (by kernel_rfl) (by kernel_rfl) (by kernel_rfl) rfl (fun xs hx => by
      have hx' : xs.length = Try.f5.params.size := hx
      rw [Try.params5] at hx'
      match xs, hx' with
      | [d0, d1, d2, d3], _ => rfl) Try.call5 CodeTells_typed

theorem CodeTells_holds : Rows.CodeTellsSaid :=
  OpenClaim.holds_of_wide 5 Try.f5 rfl rfl rfl rfl rfl rfl rfl ⟨rfl, rfl, rfl, rfl, rfl⟩ rfl rfl rfl rfl rfl (by kernel_rfl) Try.func5 (by kernel_rfl)
    (of_decide_eq_true (by kernel_rfl)) (by unfold Func.isWrapper; first | (rw [if_pos (by decide +kernel)]; kernel_rfl) | (rw [if_neg (by decide +kernel)]; exact ⟨rfl, rfl⟩))
    (fun os started H enc _ => CodeTells_lifted os started H enc)

end Go.Proofs.Ytppldbldpphlmaa
