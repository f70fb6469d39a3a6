/- For every code and section, what a path goes by is not stored in the section, and no path is longer than three fields. -/
import Derived.Test.YtnggcokgnblpgaaM10
import Derived.Test.YtnggcokgnblpgaaRows
set_option linter.unusedVariables false
set_option linter.unusedSimpArgs false
set_option maxRecDepth 100000
namespace Go.Proofs.Ytnggcokgnblpgaa
open Go.Abs Go.RowKit

theorem PathKeeps_own : ownKnob Try.prog.godebug = none := by kernel_rfl
theorem PathKeeps_laid : laidOutB Try.prog = true := by kernel_rfl

theorem PathKeeps_typed : ∀ xs, TyVs Try.prog Try.f4.params.toList xs → z03 Try.prog 4 xs noHeap (fun v _ => v = .bool true) := by
  intro xs h
  obtain ⟨x0, x1, rfl, k0, k1⟩ := PathKeeps_args h
  exact PathKeeps_does x0 k0 x1 noHeap

theorem PathKeeps_lifted (os : Os) (started : os.Started) (H : Type) (enc : TypeId × Value → H) :
    ReturnsInHanded {} Try.checked os 4 .any (Rows.pathKeepsSpec.pre6 enc Try.prog Try.f4 Rows.pathKeepsRow.domain false) (Rows.pathKeepsSpec.post enc Try.prog Try.f4 false true false false) :=
  law_lifted (C := Try.checked) (t := 4) PathKeeps_own started (by kernel_rfl) Try.func4
    (ChangeSpec.witness6 (enc := enc) (C := Try.checked) false ⟨#[], #[.agg #[.slice none 0 0, .slice none 0 0, .slice none 0 0, .slice none 0 0, .slice none 0 0],.int .i64 0], []⟩ 8 (by kernel_rfl) (by kernel_rfl) (by kernel_rfl) (by kernel_rfl))
    PathKeeps_laid (by kernel_rfl) (by kernel_rfl) (by kernel_rfl) rfl (fun xs hx => by
      have hx' : xs.length = Try.f4.params.size := hx
      rw [Try.params4] at hx'
      match xs, hx' with
      | [d0, d1], _ => rfl) Try.call4 (fun _ => rfl) PathKeeps_typed

theorem PathKeeps_holds : Rows.PathKeepsSaid :=
  OpenClaim.holds_of_wide 4 Try.f4 rfl rfl rfl rfl rfl rfl rfl ⟨rfl, rfl, rfl, rfl, rfl⟩ rfl rfl rfl rfl rfl (by kernel_rfl) Try.func4 (by kernel_rfl)
    (of_decide_eq_true (by kernel_rfl)) (by unfold Func.isWrapper; first | (rw [if_pos (by decide +kernel)]; kernel_rfl) | (rw [if_neg (by decide +kernel)]; exact ⟨rfl, rfl⟩))
    (fun os started H enc _ => PathKeeps_lifted os started H enc)

end Go.Proofs.Ytnggcokgnblpgaa
