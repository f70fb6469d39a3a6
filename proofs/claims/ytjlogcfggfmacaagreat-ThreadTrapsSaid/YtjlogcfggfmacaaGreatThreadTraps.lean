/- Beside a trap nothing is otherwise: the thread is where it was, with the same slots, and the heap too; asked again it traps again. No condition beside the statement's own. -/
import Derived.Test.YtjlogcfggfmacaaGreatM9
import Derived.Test.YtjlogcfggfmacaaGreatRows
set_option linter.unusedVariables false
set_option linter.unusedSimpArgs false
set_option maxRecDepth 100000
namespace Go.Proofs.YtjlogcfggfmacaaGreat
open Go.Abs Go.RowKit

theorem ThreadTraps_own : ownKnob Tryz.prog.godebug = none := by kernel_rfl
theorem ThreadTraps_laid : laidOutB Tryz.prog = true := by kernel_rfl

theorem ThreadTraps_typed : ∀ xs, TyVs Tryz.prog Tryz.f3.params.toList xs → z01 Tryz.prog 3 xs noHeap (fun v _ => v = .bool true) := by
  intro xs h
  obtain ⟨x0, x1, x2, rfl, k0, k1, k2⟩ := ThreadTraps_args h
  exact ThreadTraps_does x0 x1 x2 k0 noHeap

theorem ThreadTraps_lifted (os : Os) (started : os.Started) (H : Type) (enc : TypeId × Value → H) :
    ReturnsInHanded {} Tryz.checked os 3 .any (Rows.threadTrapsSpec.pre6 enc Tryz.prog Tryz.f3 Rows.threadTrapsRow.domain false) (Rows.threadTrapsSpec.post enc Tryz.prog Tryz.f3 false true false false) :=
  law_lifted (C := Tryz.checked) (t := 4) ThreadTraps_own started (by kernel_rfl) Tryz.func3
    (ChangeSpec.witness6 (enc := enc) (C := Tryz.checked) false ⟨#[], #[.agg #[.slice none 0 0, .slice none 0 0, .slice none 0 0, .slice none 0 0, .slice none 0 0, .slice none 0 0, .slice none 0 0, .int .i64 0],.int .i64 0,.slice none 0 0], []⟩ 8 (by kernel_rfl) (by kernel_rfl) (by kernel_rfl) (by kernel_rfl))
    ThreadTraps_laid (by kernel_rfl) (by kernel_rfl) (by kernel_rfl) rfl (fun xs hx => by
      have hx' : xs.length = Tryz.f3.params.size := hx
      rw [Tryz.params3] at hx'
      match xs, hx' with
      | [d0, d1, d2], _ => rfl) Tryz.call3 (fun _ => rfl) ThreadTraps_typed

theorem ThreadTraps_holds : Rows.ThreadTrapsSaid :=
  OpenClaim.holds_of_wide 3 Tryz.f3 rfl rfl rfl rfl rfl rfl rfl ⟨rfl, rfl, rfl, rfl, rfl⟩ rfl rfl rfl rfl rfl (by kernel_rfl) Tryz.func3 (by kernel_rfl)
    (of_decide_eq_true (by kernel_rfl)) (by unfold Func.isWrapper; first | (rw [if_pos (by decide +kernel)]; kernel_rfl) | (rw [if_neg (by decide +kernel)]; exact ⟨rfl, rfl⟩))
    (fun os started H enc _ => ThreadTraps_lifted os started H enc)

end Go.Proofs.YtjlogcfggfmacaaGreat
