/- For all items, slots and inputs: the value traps only where a quotient or a rest of whole numbers stands in a whole expression. -/
import Derived.Test.YtkmehngemidiiaaRows
import Derived.Test.YtkmehngemidiiaaCalcTrapsDoes
set_option linter.unusedVariables false
set_option linter.unusedSimpArgs false
set_option maxRecDepth 100000
namespace Go.Proofs.Ytkmehngemidiiaa
open Go.Abs Go.RowKit

theorem CalcTraps_own : ownKnob Try.prog.godebug = none := by kernel_rfl
theorem CalcTraps_laid : laidOutB Try.prog = true := by kernel_rfl

theorem CalcTraps_typed : ∀ xs, TyVs Try.prog Try.f11.params.toList xs → CallsA Try.prog 11 xs noHeap (fun v _ => v = .bool true) := by
  intro xs h
  obtain ⟨x0, x1, x2, rfl, k0, k1, k2⟩ := CalcTraps_args h
  exact CalcTraps_does x0 x1 x2 k0 k1 k2 noHeap

theorem CalcTraps_lifted (os : Os) (started : os.Started) (H : Type) (enc : TypeId × Value → H) :
    ReturnsInHanded {} Try.checked os 11 .any (Rows.calcTrapsSpec.pre6 enc Try.prog Try.f11 Rows.calcTrapsRow.domain false) (Rows.calcTrapsSpec.post enc Try.prog Try.f11 false true false false) :=
  law_lifted (C := Try.checked) (t := 4) CalcTraps_own started (by kernel_rfl) Try.func11
    (ChangeSpec.witness6 (enc := enc) (C := Try.checked) false ⟨#[], #[.slice none 0 0,.slice none 0 0,.slice none 0 0], []⟩ 8 (by kernel_rfl) (by kernel_rfl) (by kernel_rfl) (by kernel_rfl))
    CalcTraps_laid (by kernel_rfl) (by kernel_rfl) (by kernel_rfl) rfl (fun xs hx => by
      have hx' : xs.length = Try.f11.params.size := hx
      rw [Try.params11] at hx'
      match xs, hx' with
      | [d0, d1, d2], _ => rfl) Try.call11 CalcTraps_typed

theorem CalcTraps_holds : Rows.CalcTrapsSaid :=
  OpenClaim.holds_of_wide 11 Try.f11 rfl rfl rfl rfl rfl rfl rfl ⟨rfl, rfl, rfl, rfl, rfl⟩ rfl rfl rfl rfl rfl (by kernel_rfl) Try.func11 (by kernel_rfl)
    (of_decide_eq_true (by kernel_rfl)) (by unfold Func.isWrapper; first | (rw [if_pos (by decide +kernel)]; kernel_rfl) | (rw [if_neg (by decide +kernel)]; exact ⟨rfl, rfl⟩))
    (fun os started H enc _ => CalcTraps_lifted os started H enc)

end Go.Proofs.Ytkmehngemidiiaa
