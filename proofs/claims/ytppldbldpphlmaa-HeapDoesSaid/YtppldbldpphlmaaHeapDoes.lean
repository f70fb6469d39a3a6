/- For all counts of globals and all scripts of at most 200 calls: each answer of the heap, and all that was made, are the document its answers; a nil heap answers too. -/
import Derived.Test.YtppldbldpphlmaaRows
import Derived.Test.YtppldbldpphlmaaHeapDoesDoes
set_option linter.unusedVariables false
set_option linter.unusedSimpArgs false
set_option maxRecDepth 100000
namespace Go.Proofs.Ytppldbldpphlmaa
open Go.Abs Go.RowKit

theorem HeapDoes_own : ownKnob Try.prog.godebug = none := by kernel_rfl
theorem HeapDoes_laid : laidOutB Try.prog = true := by kernel_rfl

theorem HeapDoes_typed : ∀ xs, TyVs Try.prog Try.f3.params.toList xs → CallsA Try.prog 3 xs noHeap (fun v _ => v = .bool true) := by
  intro xs h
  obtain ⟨x0, x1, rfl, k0, k1⟩ := HeapDoes_args h
  exact HeapDoes_does x0 x1 k1 noHeap

theorem HeapDoes_lifted (os : Os) (started : os.Started) (H : Type) (enc : TypeId × Value → H) :
    ReturnsInHanded {} Try.checked os 3 .any (Rows.heapDoesSpec.pre6 enc Try.prog Try.f3 Rows.heapDoesRow.domain false) (Rows.heapDoesSpec.post enc Try.prog Try.f3 false true false false) :=
  law_lifted (C := Try.checked) (t := 4) HeapDoes_own started (by kernel_rfl) Try.func3
    (ChangeSpec.witness6 (enc := enc) (C := Try.checked) false ⟨#[], #[.int .i64 0,.slice none 0 0], []⟩ 8 (by kernel_rfl) (by kernel_rfl) (by kernel_rfl) (by kernel_rfl))
    HeapDoes_laid (by kernel_rfl) (by kernel_rfl) (by kernel_rfl) rfl (fun xs hx => by
      have hx' : xs.length = Try.f3.params.size := hx
      rw [Try.params3] at hx'
      match xs, hx' with
      | [d0, d1], _ => rfl) Try.call3 HeapDoes_typed

theorem HeapDoes_holds : Rows.HeapDoesSaid :=
  OpenClaim.holds_of_wide 3 Try.f3 rfl rfl rfl rfl rfl rfl rfl ⟨rfl, rfl, rfl, rfl, rfl⟩ rfl rfl rfl rfl rfl (by kernel_rfl) Try.func3 (by kernel_rfl)
    (of_decide_eq_true (by kernel_rfl)) (by unfold Func.isWrapper; first | (rw [if_pos (by decide +kernel)]; kernel_rfl) | (rw [if_neg (by decide +kernel)]; exact ⟨rfl, rfl⟩))
    (fun os started H enc _ => HeapDoes_lifted os started H enc)

end Go.Proofs.Ytppldbldpphlmaa
