/- For all items, slots, other slots and inputs: the value of a whole expression hangs on the slots alone that it names. -/
import Derived.Test.YtkmehngemidiiaaRows
import Derived.Test.YtkmehngemidiiaaCalcHangsDoes
set_option linter.unusedVariables false
set_option linter.unusedSimpArgs false
set_option maxRecDepth 100000
namespace Go.Proofs.Ytkmehngemidiiaa
open Go.Abs Go.RowKit

theorem CalcHangs_own : ownKnob Try.prog.godebug = none := by kernel_rfl
theorem CalcHangs_laid : laidOutB Try.prog = true := by kernel_rfl

theorem CalcHangs_typed : ∀ xs, TyVs Try.prog Try.f14.params.toList xs → CallsA Try.prog 14 xs noHeap (fun v _ => v = .bool true) := by
  intro xs h
  obtain ⟨x0, x1, x2, x3, rfl, k0, k1, k2, k3⟩ := CalcHangs_args h
  exact CalcHangs_does x0 x1 x2 x3 k0 k1 k2 k3 noHeap

theorem CalcHangs_lifted (os : Os) (started : os.Started) (H : Type) (enc : TypeId × Value → H) :
    ReturnsInHanded {} Try.checked os 14 .any (Rows.calcHangsSpec.pre6 enc Try.prog Try.f14 Rows.calcHangsRow.domain false) (Rows.calcHangsSpec.post enc Try.prog Try.f14 false true false false) :=
  law_lifted (C := Try.checked) (t := 4) CalcHangs_own started (by kernel_rfl) Try.func14
    (ChangeSpec.witness6 (enc := enc) (C := Try.checked) false ⟨#[], #[.slice none 0 0,.slice none 0 0,.slice none 0 0,.slice none 0 0], []⟩ 8 (by kernel_rfl) (by kernel_rfl) (by kernel_rfl) (by kernel_rfl))
    CalcHangs_laid (by kernel_rfl) (by kernel_rfl) (by kernel_rfl) rfl (fun xs hx => by
      have hx' : xs.length = Try.f14.params.size := hx
      rw [Try.params14] at hx'
      match xs, hx' with
      | [d0, d1, d2, d3], _ => rfl) Try.call14 CalcHangs_typed

theorem CalcHangs_holds : Rows.CalcHangsSaid :=
  OpenClaim.holds_of_wide 14 Try.f14 rfl rfl rfl rfl rfl rfl rfl ⟨rfl, rfl, rfl, rfl, rfl⟩ rfl rfl rfl rfl rfl (by kernel_rfl) Try.func14 (by kernel_rfl)
    (of_decide_eq_true (by kernel_rfl)) (by unfold Func.isWrapper; first | (rw [if_pos (by decide +kernel)]; kernel_rfl) | (rw [if_neg (by decide +kernel)]; exact ⟨rfl, rfl⟩))
    (fun os started H enc _ => CalcHangs_lifted os started H enc)

end Go.Proofs.Ytkmehngemidiiaa
