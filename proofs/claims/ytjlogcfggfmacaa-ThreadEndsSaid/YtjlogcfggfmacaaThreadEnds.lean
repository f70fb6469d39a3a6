/- A thread does no more instructions than its Most, and at its end nothing; a thread that is none is at its end. No condition beside the statement's own. -/
import Derived.Test.YtjlogcfggfmacaaM8
import Derived.Test.YtjlogcfggfmacaaRows
set_option linter.unusedVariables false
set_option linter.unusedSimpArgs false
set_option maxRecDepth 100000
namespace Go.Proofs.Ytjlogcfggfmacaa
open Go.Abs Go.RowKit

theorem ThreadEnds_own : ownKnob Try.prog.godebug = none := by kernel_rfl
theorem ThreadEnds_laid : laidOutB Try.prog = true := by kernel_rfl

theorem ThreadEnds_typed : ∀ xs, TyVs Try.prog Try.f4.params.toList xs → z01 Try.prog 4 xs noHeap (fun v _ => v = .bool true) := by
  intro xs h
  obtain ⟨x0, x1, x2, rfl, k0, k1, k2⟩ := ThreadEnds_args h
  exact ThreadEnds_does x0 x1 x2 k0 noHeap

theorem ThreadEnds_lifted (os : Os) (started : os.Started) (H : Type) (enc : TypeId × Value → H) :
    ReturnsInHanded {} Try.checked os 4 .any (Rows.threadEndsSpec.pre6 enc Try.prog Try.f4 Rows.threadEndsRow.domain false) (Rows.threadEndsSpec.post enc Try.prog Try.f4 false true false false) :=
  law_lifted (C := Try.checked) (t := 4) ThreadEnds_own started (by kernel_rfl) Try.func4
    (ChangeSpec.witness6 (enc := enc) (C := Try.checked) false ⟨#[], #[.agg #[.slice none 0 0, .slice none 0 0, .slice none 0 0, .slice none 0 0, .slice none 0 0, .slice none 0 0, .slice none 0 0, .int .i64 0],.int .i64 0,.slice none 0 0], []⟩ 8 (by kernel_rfl) (by kernel_rfl) (by kernel_rfl) (by kernel_rfl))
    ThreadEnds_laid (by kernel_rfl) (by kernel_rfl) (by kernel_rfl) rfl (fun xs hx => by
      have hx' : xs.length = Try.f4.params.size := hx
      rw [Try.params4] at hx'
      match xs, hx' with
      | [d0, d1, d2], _ => rfl) Try.call4 (fun _ => rfl) ThreadEnds_typed

theorem ThreadEnds_holds : Rows.ThreadEndsSaid :=
  OpenClaim.holds_of_wide 4 Try.f4 rfl rfl rfl rfl rfl rfl rfl ⟨rfl, rfl, rfl, rfl, rfl⟩ rfl rfl rfl rfl rfl (by kernel_rfl) Try.func4 (by kernel_rfl)
    (of_decide_eq_true (by kernel_rfl)) (by unfold Func.isWrapper; first | (rw [if_pos (by decide +kernel)]; kernel_rfl) | (rw [if_neg (by decide +kernel)]; exact ⟨rfl, rfl⟩))
    (fun os started H enc _ => ThreadEnds_lifted os started H enc)

end Go.Proofs.Ytjlogcfggfmacaa
