/- Each instruction does what the document says, of all images that can be, threads that take turns, and inputs. No condition beside the statement's own. -/
import Derived.Test.YtjlogcfggfmacaaGreatM9
import Derived.Test.YtjlogcfggfmacaaGreatRows
set_option linter.unusedVariables false
set_option linter.unusedSimpArgs false
set_option maxRecDepth 100000
namespace Go.Proofs.YtjlogcfggfmacaaGreat
open Go.Abs Go.RowKit

theorem ThreadDoes_own : ownKnob Tryz.prog.godebug = none := by kernel_rfl
theorem ThreadDoes_laid : laidOutB Tryz.prog = true := by kernel_rfl

theorem ThreadDoes_typed : ∀ xs, TyVs Tryz.prog Tryz.f4.params.toList xs → z01 Tryz.prog 4 xs noHeap (fun v _ => v = .bool true) := by
  intro xs h
  obtain ⟨x0, x1, x2, rfl, k0, k1, k2⟩ := ThreadDoes_args h
  exact ThreadDoes_does x0 x1 x2 k0 noHeap

theorem ThreadDoes_lifted (os : Os) (started : os.Started) (H : Type) (enc : TypeId × Value → H) :
    ReturnsInHanded {} Tryz.checked os 4 .any (Rows.threadDoesSpec.pre6 enc Tryz.prog Tryz.f4 Rows.threadDoesRow.domain false) (Rows.threadDoesSpec.post enc Tryz.prog Tryz.f4 false true false false) :=
  law_lifted (C := Tryz.checked) (t := 4) ThreadDoes_own started (by kernel_rfl) Tryz.func4
    (ChangeSpec.witness6 (enc := enc) (C := Tryz.checked) false ⟨#[], #[.agg #[.slice none 0 0, .slice none 0 0, .slice none 0 0, .slice none 0 0, .slice none 0 0, .slice none 0 0, .slice none 0 0, .int .i64 0],.slice none 0 0,.slice none 0 0], []⟩ 8 (by kernel_rfl) (by kernel_rfl) (by kernel_rfl) (by kernel_rfl))
    ThreadDoes_laid (by kernel_rfl) (by kernel_rfl) (by kernel_rfl) rfl (fun xs hx => by
      have hx' : xs.length = Tryz.f4.params.size := hx
      rw [Tryz.params4] at hx'
      match xs, hx' with
      | [d0, d1, d2], _ => rfl) Tryz.call4 (fun _ => rfl) ThreadDoes_typed

theorem ThreadDoes_holds : Rows.ThreadDoesSaid :=
  OpenClaim.holds_of_wide 4 Tryz.f4 rfl rfl rfl rfl rfl rfl rfl ⟨rfl, rfl, rfl, rfl, rfl⟩ rfl rfl rfl rfl rfl (by kernel_rfl) Tryz.func4 (by kernel_rfl)
    (of_decide_eq_true (by kernel_rfl)) (by unfold Func.isWrapper; first | (rw [if_pos (by decide +kernel)]; kernel_rfl) | (rw [if_neg (by decide +kernel)]; exact ⟨rfl, rfl⟩))
    (fun os started H enc _ => ThreadDoes_lifted os started H enc)

end Go.Proofs.YtjlogcfggfmacaaGreat
