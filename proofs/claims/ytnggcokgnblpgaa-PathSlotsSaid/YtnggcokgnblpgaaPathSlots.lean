/- For every code and section, a slot that gets no value is come to by itself, and one that gets several, or is not given once, is not known. -/
import Derived.Test.YtnggcokgnblpgaaM10
import Derived.Test.YtnggcokgnblpgaaRows
set_option linter.unusedVariables false
set_option linter.unusedSimpArgs false
set_option maxRecDepth 100000
namespace Go.Proofs.Ytnggcokgnblpgaa
open Go.Abs Go.RowKit

theorem PathSlots_own : ownKnob Try.prog.godebug = none := by kernel_rfl
theorem PathSlots_laid : laidOutB Try.prog = true := by kernel_rfl

theorem PathSlots_typed : ∀ xs, TyVs Try.prog Try.f6.params.toList xs → z03 Try.prog 6 xs noHeap (fun v _ => v = .bool true) := by
  intro xs h
  obtain ⟨x0, x1, rfl, k0, k1⟩ := PathSlots_args h
  exact PathSlots_does x0 k0 x1 noHeap

theorem PathSlots_lifted (os : Os) (started : os.Started) (H : Type) (enc : TypeId × Value → H) :
    ReturnsInHanded {} Try.checked os 6 .any (Rows.pathSlotsSpec.pre6 enc Try.prog Try.f6 Rows.pathSlotsRow.domain false) (Rows.pathSlotsSpec.post enc Try.prog Try.f6 false true false false) :=
  law_lifted (C := Try.checked) (t := 4) PathSlots_own started (by kernel_rfl) Try.func6
    (ChangeSpec.witness6 (enc := enc) (C := Try.checked) false ⟨#[], #[.agg #[.slice none 0 0, .slice none 0 0, .slice none 0 0, .slice none 0 0, .slice none 0 0],.int .i64 0], []⟩ 8 (by kernel_rfl) (by kernel_rfl) (by kernel_rfl) (by kernel_rfl))
    PathSlots_laid (by kernel_rfl) (by kernel_rfl) (by kernel_rfl) rfl (fun xs hx => by
      have hx' : xs.length = Try.f6.params.size := hx
      rw [Try.params6] at hx'
      match xs, hx' with
      | [d0, d1], _ => rfl) Try.call6 (fun _ => rfl) PathSlots_typed

theorem PathSlots_holds : Rows.PathSlotsSaid :=
  OpenClaim.holds_of_wide 6 Try.f6 rfl rfl rfl rfl rfl rfl rfl ⟨rfl, rfl, rfl, rfl, rfl⟩ rfl rfl rfl rfl rfl (by kernel_rfl) Try.func6 (by kernel_rfl)
    (of_decide_eq_true (by kernel_rfl)) (by unfold Func.isWrapper; first | (rw [if_pos (by decide +kernel)]; kernel_rfl) | (rw [if_neg (by decide +kernel)]; exact ⟨rfl, rfl⟩))
    (fun os started H enc _ => PathSlots_lifted os started H enc)

end Go.Proofs.Ytnggcokgnblpgaa
