/- For all paths of up to a hundred fields, path.Same answers whether they are the same, as the document does. -/
import Derived.Test.YtnggcokgnblpgaaM10
import Derived.Test.YtnggcokgnblpgaaRows
set_option linter.unusedVariables false
set_option linter.unusedSimpArgs false
set_option maxRecDepth 100000
namespace Go.Proofs.Ytnggcokgnblpgaa
open Go.Abs Go.RowKit

theorem PathSame_own : ownKnob Try.prog.godebug = none := by kernel_rfl
theorem PathSame_laid : laidOutB Try.prog = true := by kernel_rfl

theorem PathSame_typed : ∀ xs, TyVs Try.prog Try.f5.params.toList xs → z03 Try.prog 5 xs noHeap (fun v _ => v = .bool true) := by
  intro xs h
  obtain ⟨x0, x1, rfl, k0, k1⟩ := PathSame_args h
  exact PathSame_does x0 x1 noHeap

theorem PathSame_lifted (os : Os) (started : os.Started) (H : Type) (enc : TypeId × Value → H) :
    ReturnsInHanded {} Try.checked os 5 .any (Rows.pathSameSpec.pre6 enc Try.prog Try.f5 Rows.pathSameRow.domain false) (Rows.pathSameSpec.post enc Try.prog Try.f5 false true false false) :=
  law_lifted (C := Try.checked) (t := 4) PathSame_own started (by kernel_rfl) Try.func5
    (ChangeSpec.witness6 (enc := enc) (C := Try.checked) false ⟨#[], #[.agg #[.bool false, .int .i64 0, .slice none 0 0],.agg #[.bool false, .int .i64 0, .slice none 0 0]], []⟩ 8 (by kernel_rfl) (by kernel_rfl) (by kernel_rfl) (by kernel_rfl))
    PathSame_laid (by kernel_rfl) (by kernel_rfl) (by kernel_rfl) rfl (fun xs hx => by
      have hx' : xs.length = Try.f5.params.size := hx
      rw [Try.params5] at hx'
      match xs, hx' with
      | [d0, d1], _ => rfl) Try.call5 (fun _ => rfl) PathSame_typed

theorem PathSame_holds : Rows.PathSameSaid :=
  OpenClaim.holds_of_wide 5 Try.f5 rfl rfl rfl rfl rfl rfl rfl ⟨rfl, rfl, rfl, rfl, rfl⟩ rfl rfl rfl rfl rfl (by kernel_rfl) Try.func5 (by kernel_rfl)
    (of_decide_eq_true (by kernel_rfl)) (by unfold Func.isWrapper; first | (rw [if_pos (by decide +kernel)]; kernel_rfl) | (rw [if_neg (by decide +kernel)]; exact ⟨rfl, rfl⟩))
    (fun os started H enc _ => PathSame_lifted os started H enc)

end Go.Proofs.Ytnggcokgnblpgaa
