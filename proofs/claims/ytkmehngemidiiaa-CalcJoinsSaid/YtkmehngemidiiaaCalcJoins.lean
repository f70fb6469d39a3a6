/- For all items, slots and operations: two whole expressions, one behind the other, and an item that takes both are one whole expression with the value that the item makes of both values. -/
import Derived.Test.YtkmehngemidiiaaRows
import Derived.Test.YtkmehngemidiiaaCalcJoinsDoes
set_option linter.unusedVariables false
set_option linter.unusedSimpArgs false
set_option maxRecDepth 100000
namespace Go.Proofs.Ytkmehngemidiiaa
open Go.Abs Go.RowKit

theorem CalcJoins_own : ownKnob Try.prog.godebug = none := by kernel_rfl
theorem CalcJoins_laid : laidOutB Try.prog = true := by kernel_rfl

theorem CalcJoins_typed : ∀ xs, TyVs Try.prog Try.f10.params.toList xs → CallsA Try.prog 10 xs noHeap (fun v _ => v = .bool true) := by
  intro xs h
  obtain ⟨x0, x1, x2, x3, rfl, k0, k1, k2, k3⟩ := CalcJoins_args h
  exact CalcJoins_does x0 x1 x2 x3 k0 k1 k2 k3 noHeap

theorem CalcJoins_lifted (os : Os) (started : os.Started) (H : Type) (enc : TypeId × Value → H) :
    ReturnsInHanded {} Try.checked os 10 .any (Rows.calcJoinsSpec.pre6 enc Try.prog Try.f10 Rows.calcJoinsRow.domain false) (Rows.calcJoinsSpec.post enc Try.prog Try.f10 false true false false) :=
  law_lifted (C := Try.checked) (t := 4) CalcJoins_own started (by kernel_rfl) Try.func10
    (ChangeSpec.witness6 (enc := enc) (C := Try.checked) false ⟨#[], #[.slice none 0 0,.slice none 0 0,.slice none 0 0,.int .i64 0], []⟩ 8 (by kernel_rfl) (by kernel_rfl) (by kernel_rfl) (by kernel_rfl))
    CalcJoins_laid (by kernel_rfl) (by kernel_rfl) (by kernel_rfl) rfl (fun xs hx => by
      have hx' : xs.length = Try.f10.params.size := hx
      rw [Try.params10] at hx'
      match xs, hx' with
      | [d0, d1, d2, d3], _ => rfl) Try.call10 CalcJoins_typed

theorem CalcJoins_holds : Rows.CalcJoinsSaid :=
  OpenClaim.holds_of_wide 10 Try.f10 rfl rfl rfl rfl rfl rfl rfl ⟨rfl, rfl, rfl, rfl, rfl⟩ rfl rfl rfl rfl rfl (by kernel_rfl) Try.func10 (by kernel_rfl)
    (of_decide_eq_true (by kernel_rfl)) (by unfold Func.isWrapper; first | (rw [if_pos (by decide +kernel)]; kernel_rfl) | (rw [if_neg (by decide +kernel)]; exact ⟨rfl, rfl⟩))
    (fun os started H enc _ => CalcJoins_lifted os started H enc)

end Go.Proofs.Ytkmehngemidiiaa
