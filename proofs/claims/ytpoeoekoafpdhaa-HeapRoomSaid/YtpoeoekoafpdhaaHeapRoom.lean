/- HeapRoom: each thread has room for sixteen things and no more; for every script, thread and number of cells, under no condition. -/
import Derived.Test.YtpoeoekoafpdhaaRows
import Derived.Test.YtpoeoekoafpdhaaHeapRoomDoes
set_option linter.unusedVariables false
set_option linter.unusedSimpArgs false
set_option maxRecDepth 100000
namespace Go.Proofs.Ytpoeoekoafpdhaa
open Go.Abs Go.RowKit

theorem HeapRoom_own : ownKnob Try.prog.godebug = none := by kernel_rfl
theorem HeapRoom_laid : laidOutB Try.prog = true := by kernel_rfl

theorem HeapRoom_typed : ∀ xs, TyVs Try.prog Try.f7.params.toList xs → CallsA Try.prog 7 xs noHeap (fun v _ => v = .bool true) := by
  intro xs h
  obtain ⟨x0, x1, x2, rfl, k0, k1, k2⟩ := HeapRoom_args h
  exact HeapRoom_does x0 x1 x2 noHeap

theorem HeapRoom_lifted (os : Os) (started : os.Started) (H : Type) (enc : TypeId × Value → H) :
    ReturnsInHanded {} Try.checked os 7 .any (Rows.heapRoomSpec.pre6 enc Try.prog Try.f7 Rows.heapRoomRow.domain false) (Rows.heapRoomSpec.post enc Try.prog Try.f7 false true false false) :=
  law_lifted (C := Try.checked) (t := 4) HeapRoom_own started (by kernel_rfl) Try.func7
    (ChangeSpec.witness6 (enc := enc) (C := Try.checked) false ⟨#[], #[.slice none 0 0,.int .i64 0,.int .i64 0], []⟩ 8 (by kernel_rfl) (by kernel_rfl) (by kernel_rfl) (by kernel_rfl))
    HeapRoom_laid (by kernel_rfl) (by kernel_rfl) (by kernel_rfl) rfl (fun xs hx => by
      have hx' : xs.length = Try.f7.params.size := hx
      rw [Try.params7] at hx'
      match xs, hx' with
      | [d0, d1, d2], _ => rfl) HeapRoom_typed

theorem HeapRoom_holds : Rows.HeapRoomSaid :=
  OpenClaim.holds_of_wide 7 Try.f7 rfl rfl rfl rfl rfl rfl rfl ⟨rfl, rfl, rfl, rfl, rfl⟩ rfl rfl rfl rfl rfl (by kernel_rfl) Try.func7 (by kernel_rfl)
    (of_decide_eq_true (by kernel_rfl)) (by unfold Func.isWrapper; first | (rw [if_pos (by decide +kernel)]; kernel_rfl) | (rw [if_neg (by decide +kernel)]; exact ⟨rfl, rfl⟩))
    (fun os started H enc _ => HeapRoom_lifted os started H enc)

end Go.Proofs.Ytpoeoekoafpdhaa
