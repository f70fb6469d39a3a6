/- NumInts: Int answers what the document says, of all ops and numbers; for every op and all numbers, under no condition. -/
import Derived.Test.YtkmehngemidiiaaRows
import Derived.Test.YtkmehngemidiiaaNumLaws
set_option linter.unusedVariables false
set_option linter.unusedSimpArgs false
set_option maxRecDepth 100000
namespace Go.Proofs.Ytkmehngemidiiaa
open Go.Abs Go.RowKit

theorem NumInts_own : ownKnob Try.prog.godebug = none := by kernel_rfl
theorem NumInts_laid : laidOutB Try.prog = true := by kernel_rfl

theorem NumInts_typed : ∀ xs, TyVs Try.prog Try.f3.params.toList xs → CallsA Try.prog 3 xs noHeap (fun v _ => v = .bool true) := by
  intro xs h
  obtain ⟨x0, x1, x2, rfl, k0, k1, k2⟩ := NumInts_args h
  exact NumInts_does x0 x1 x2 k1 k2 noHeap

theorem NumInts_lifted (os : Os) (started : os.Started) (H : Type) (enc : TypeId × Value → H) :
    ReturnsInHanded {} Try.checked os 3 .any (Rows.numIntsSpec.pre6 enc Try.prog Try.f3 Rows.numIntsRow.domain false) (Rows.numIntsSpec.post enc Try.prog Try.f3 false true false false) :=
  law_lifted (C := Try.checked) (t := 4) NumInts_own started (by kernel_rfl) Try.func3
    (ChangeSpec.witness6 (enc := enc) (C := Try.checked) false ⟨#[], #[.int .i64 0,.int .i64 0,.int .i64 0], []⟩ 8 (by kernel_rfl) (by kernel_rfl) (by kernel_rfl) (by kernel_rfl))
    NumInts_laid (by kernel_rfl) (by kernel_rfl) (by kernel_rfl) rfl (fun xs hx => by
      have hx' : xs.length = Try.f3.params.size := hx
      rw [Try.params3] at hx'
      match xs, hx' with
      | [d0, d1, d2], _ => rfl) Try.call3 NumInts_typed

theorem NumInts_holds : Rows.NumIntsSaid :=
  OpenClaim.holds_of_wide 3 Try.f3 rfl rfl rfl rfl rfl rfl rfl ⟨rfl, rfl, rfl, rfl, rfl⟩ rfl rfl rfl rfl rfl (by kernel_rfl) Try.func3 (by kernel_rfl)
    (of_decide_eq_true (by kernel_rfl)) (by unfold Func.isWrapper; first | (rw [if_pos (by decide +kernel)]; kernel_rfl) | (rw [if_neg (by decide +kernel)]; exact ⟨rfl, rfl⟩))
    (fun os started H enc _ => NumInts_lifted os started H enc)

end Go.Proofs.Ytkmehngemidiiaa
