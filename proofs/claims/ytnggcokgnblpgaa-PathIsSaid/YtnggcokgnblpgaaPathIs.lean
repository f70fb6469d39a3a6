/- For every code and section, path.Of answers what the document says. -/
import Derived.Test.YtnggcokgnblpgaaM10
import Derived.Test.YtnggcokgnblpgaaRows
set_option linter.unusedVariables false
set_option linter.unusedSimpArgs false
set_option maxRecDepth 100000
namespace Go.Proofs.Ytnggcokgnblpgaa
open Go.Abs Go.RowKit

theorem PathIs_own : ownKnob Try.prog.godebug = none := by kernel_rfl
theorem PathIs_laid : laidOutB Try.prog = true := by kernel_rfl

theorem PathIs_typed : ∀ xs, TyVs Try.prog Try.f3.params.toList xs → z03 Try.prog 3 xs noHeap (fun v _ => v = .bool true) := by
  intro xs h
  obtain ⟨x0, x1, rfl, k0, k1⟩ := PathIs_args h
  exact PathIs_does x0 k0 x1 noHeap

theorem PathIs_lifted (os : Os) (started : os.Started) (H : Type) (enc : TypeId × Value → H) :
    ReturnsInHanded {} Try.checked os 3 .any (Rows.pathIsSpec.pre6 enc Try.prog Try.f3 Rows.pathIsRow.domain false) (Rows.pathIsSpec.post enc Try.prog Try.f3 false true false false) :=
  law_lifted (C := Try.checked) (t := 4) PathIs_own started (by kernel_rfl) Try.func3
    (ChangeSpec.witness6 (enc := enc) (C := Try.checked) false ⟨#[], #[.agg #[.slice none 0 0, .slice none 0 0, .slice none 0 0, .slice none 0 0, .slice none 0 0],.int .i64 0], []⟩ 8 (by kernel_rfl) (by kernel_rfl) (by kernel_rfl) (by kernel_rfl))
    PathIs_laid (by kernel_rfl) (by kernel_rfl) (by kernel_rfl) rfl (fun xs hx => by
      have hx' : xs.length = Try.f3.params.size := hx
      rw [Try.params3] at hx'
      match xs, hx' with
      | [d0, d1], _ => rfl) Try.call3 (fun _ => rfl) PathIs_typed

theorem PathIs_holds : Rows.PathIsSaid :=
  OpenClaim.holds_of_wide 3 Try.f3 rfl rfl rfl rfl rfl rfl rfl ⟨rfl, rfl, rfl, rfl, rfl⟩ rfl rfl rfl rfl rfl (by kernel_rfl) Try.func3 (by kernel_rfl)
    (of_decide_eq_true (by kernel_rfl)) (by unfold Func.isWrapper; first | (rw [if_pos (by decide +kernel)]; kernel_rfl) | (rw [if_neg (by decide +kernel)]; exact ⟨rfl, rfl⟩))
    (fun os started H enc _ => PathIs_lifted os started H enc)

end Go.Proofs.Ytnggcokgnblpgaa
