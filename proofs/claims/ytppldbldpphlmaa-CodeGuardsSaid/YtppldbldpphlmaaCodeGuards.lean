/- For all codes that are not more than is played and that can be: nothing shared is touched outside sections, no jump goes into one or out of one, and from each instruction but the last one it goes on within the thread. -/
import Derived.Test.YtppldbldpphlmaaRows
import Derived.Test.YtppldbldpphlmaaCdGuards
set_option linter.unusedVariables false
set_option linter.unusedSimpArgs false
set_option maxRecDepth 100000
namespace Go.Proofs.Ytppldbldpphlmaa
open Go.Abs Go.RowKit

theorem CodeGuards_own : ownKnob Try.prog.godebug = none := by kernel_rfl
theorem CodeGuards_laid : laidOutB Try.prog = true := by kernel_rfl

theorem CodeGuards_typed : ∀ xs, TyVs Try.prog Try.f6.params.toList xs → CallsA Try.prog 6 xs noHeap (fun v _ => v = .bool true) := by
  intro xs h
  obtain ⟨x0, rfl, k0⟩ := CodeGuards_args h
  exact CodeGuards_does x0 k0 noHeap

theorem CodeGuards_lifted (os : Os) (started : os.Started) (H : Type) (enc : TypeId × Value → H) :
    ReturnsInHanded {} Try.checked os 6 .any (Rows.codeGuardsSpec.pre6 enc Try.prog Try.f6 Rows.codeGuardsRow.domain false) (Rows.codeGuardsSpec.post enc Try.prog Try.f6 false true false false) :=
  law_lifted (C := Try.checked) (t := 4) CodeGuards_own started (by kernel_rfl) Try.func6
    (ChangeSpec.witness6 (enc := enc) (C := Try.checked) false ⟨#[], #[.agg #[.slice none 0 0, .slice none 0 0, .slice none 0 0, .slice none 0 0, .slice none 0 0]], []⟩ 8 (by kernel_rfl) (by kernel_rfl) (by kernel_rfl) (by kernel_rfl))
    CodeGuards_laid (by kernel_rfl) (by kernel_rfl) (by kernel_rfl) rfl (fun xs hx => by
      have hx' : xs.length = Try.f6.params.size := hx
      rw [Try.params6] at hx'
      match xs, hx' with
      | [d0], _ => rfl) Try.call6 CodeGuards_typed

theorem CodeGuards_holds : Rows.CodeGuardsSaid :=
  OpenClaim.holds_of_wide 6 Try.f6 rfl rfl rfl rfl rfl rfl rfl ⟨rfl, rfl, rfl, rfl, rfl⟩ rfl rfl rfl rfl rfl (by kernel_rfl) Try.func6 (by kernel_rfl)
    (of_decide_eq_true (by kernel_rfl)) (by unfold Func.isWrapper; first | (rw [if_pos (by decide +kernel)]; kernel_rfl) | (rw [if_neg (by decide +kernel)]; exact ⟨rfl, rfl⟩))
    (fun os started H enc _ => CodeGuards_lifted os started H enc)

end Go.Proofs.Ytppldbldpphlmaa
