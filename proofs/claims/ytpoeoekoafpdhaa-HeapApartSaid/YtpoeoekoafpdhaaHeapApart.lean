/- HeapApart: what is put into a cell is there, and in no other one; for every script, reference, place and value, under no condition. -/
import Derived.Test.YtpoeoekoafpdhaaRows
import Derived.Test.YtpoeoekoafpdhaaHeapApartDoes
set_option linter.unusedVariables false
set_option linter.unusedSimpArgs false
set_option maxRecDepth 100000
namespace Go.Proofs.Ytpoeoekoafpdhaa
open Go.Abs Go.RowKit

theorem HeapApart_own : ownKnob Try.prog.godebug = none := by kernel_rfl
theorem HeapApart_laid : laidOutB Try.prog = true := by kernel_rfl

theorem HeapApart_typed : ∀ xs, TyVs Try.prog Try.f10.params.toList xs → CallsA Try.prog 10 xs noHeap (fun v _ => v = .bool true) := by
  intro xs h
  obtain ⟨x0, x1, x2, x3, rfl, k0, k1, k2, k3⟩ := HeapApart_args h
  exact HeapApart_does x0 k0.2 x1 k1 x2 x3 noHeap

theorem HeapApart_lifted (os : Os) (started : os.Started) (H : Type) (enc : TypeId × Value → H) :
    ReturnsInHanded {} Try.checked os 10 .any (Rows.heapApartSpec.pre6 enc Try.prog Try.f10 Rows.heapApartRow.domain false) (Rows.heapApartSpec.post enc Try.prog Try.f10 false true false false) :=
  law_lifted (C := Try.checked) (t := 4) HeapApart_own started (by kernel_rfl) Try.func10
    (ChangeSpec.witness6 (enc := enc) (C := Try.checked) false ⟨#[], #[.slice none 0 0,.int .u64 0,.int .i64 0,.int .u64 0], []⟩ 8 (by kernel_rfl) (by kernel_rfl) (by kernel_rfl) (by kernel_rfl))
    HeapApart_laid (by kernel_rfl) (by kernel_rfl) (by kernel_rfl) rfl (fun xs hx => by
      have hx' : xs.length = Try.f10.params.size := hx
      rw [Try.params10] at hx'
      match xs, hx' with
      | [d0, d1, d2, d3], _ => rfl) HeapApart_typed

theorem HeapApart_holds : Rows.HeapApartSaid :=
  OpenClaim.holds_of_wide 10 Try.f10 rfl rfl rfl rfl rfl rfl rfl ⟨rfl, rfl, rfl, rfl, rfl⟩ rfl rfl rfl rfl rfl (by kernel_rfl) Try.func10 (by kernel_rfl)
    (of_decide_eq_true (by kernel_rfl)) (by unfold Func.isWrapper; first | (rw [if_pos (by decide +kernel)]; kernel_rfl) | (rw [if_neg (by decide +kernel)]; exact ⟨rfl, rfl⟩))
    (fun os started H enc _ => HeapApart_lifted os started H enc)

end Go.Proofs.Ytpoeoekoafpdhaa
