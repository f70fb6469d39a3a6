/- For all items, slots, inputs and numbers: the program and its document give the same value and the same trap, agree on which expressions are whole, and name the slots in their order. -/
import Derived.Test.YtkmehngemidiiaaRows
import Derived.Test.YtkmehngemidiiaaCalcIsDoes
set_option linter.unusedVariables false
set_option linter.unusedSimpArgs false
set_option maxRecDepth 100000
namespace Go.Proofs.Ytkmehngemidiiaa
open Go.Abs Go.RowKit

theorem CalcIs_own : ownKnob Try.prog.godebug = none := by kernel_rfl
theorem CalcIs_laid : laidOutB Try.prog = true := by kernel_rfl

theorem CalcIs_typed : ∀ xs, TyVs Try.prog Try.f13.params.toList xs → CallsA Try.prog 13 xs noHeap (fun v _ => v = .bool true) := by
  intro xs h
  obtain ⟨x0, x1, x2, x3, rfl, k0, k1, k2, k3⟩ := CalcIs_args h
  exact CalcIs_does x0 x1 x2 x3 k0 k1 k2 k3 noHeap

theorem CalcIs_lifted (os : Os) (started : os.Started) (H : Type) (enc : TypeId × Value → H) :
    ReturnsInHanded {} Try.checked os 13 .any (Rows.calcIsSpec.pre6 enc Try.prog Try.f13 Rows.calcIsRow.domain false) (Rows.calcIsSpec.post enc Try.prog Try.f13 false true false false) :=
  law_lifted (C := Try.checked) (t := 4) CalcIs_own started (by kernel_rfl) Try.func13
    (ChangeSpec.witness6 (enc := enc) (C := Try.checked) false ⟨#[], #[.slice none 0 0,.slice none 0 0,.slice none 0 0,.int .i64 0], []⟩ 8 (by kernel_rfl) (by kernel_rfl) (by kernel_rfl) (by kernel_rfl))
    CalcIs_laid (by kernel_rfl) (by kernel_rfl) (by kernel_rfl) rfl (fun xs hx => by
      have hx' : xs.length = Try.f13.params.size := hx
      rw [Try.params13] at hx'
      match xs, hx' with
      | [d0, d1, d2, d3], _ => rfl) Try.call13 CalcIs_typed

theorem CalcIs_holds : Rows.CalcIsSaid :=
  OpenClaim.holds_of_wide 13 Try.f13 rfl rfl rfl rfl rfl rfl rfl ⟨rfl, rfl, rfl, rfl, rfl⟩ rfl rfl rfl rfl rfl (by kernel_rfl) Try.func13 (by kernel_rfl)
    (of_decide_eq_true (by kernel_rfl)) (by unfold Func.isWrapper; first | (rw [if_pos (by decide +kernel)]; kernel_rfl) | (rw [if_neg (by decide +kernel)]; exact ⟨rfl, rfl⟩))
    (fun os started H enc _ => CalcIs_lifted os started H enc)

end Go.Proofs.Ytkmehngemidiiaa
