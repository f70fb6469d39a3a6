/- PenBack: what was put is read again, item by item, and nothing is left; for every slice of items, under no condition. -/
import Derived.Test.YtpoeoekoafpdhaaRows
import Derived.Test.YtpoeoekoafpdhaaBackDoes
set_option linter.unusedVariables false
set_option linter.unusedSimpArgs false
set_option maxRecDepth 100000
namespace Go.Proofs.Ytpoeoekoafpdhaa
open Go.Abs Go.RowKit

theorem PenBack_own : ownKnob Try.prog.godebug = none := by kernel_rfl
theorem PenBack_laid : laidOutB Try.prog = true := by kernel_rfl

theorem PenBack_typed : ∀ xs, TyVs Try.prog Try.f11.params.toList xs → CallsA Try.prog 11 xs noHeap (fun v _ => v = .bool true) := by
  intro xs h
  rw [Try.params11] at h
  obtain ⟨a, bs, rfl, h1, h2⟩ := h.cons_inv
  obtain rfl := h2.nil_inv
  obtain ⟨items, hi, hok⟩ := items_of h1
  exact PenBack_does hi hok noHeap

theorem PenBack_lifted (os : Os) (started : os.Started) (H : Type) (enc : TypeId × Value → H) :
    ReturnsInHanded {} Try.checked os 11 .any (Rows.penBackSpec.pre6 enc Try.prog Try.f11 Rows.penBackRow.domain false) (Rows.penBackSpec.post enc Try.prog Try.f11 false true false false) :=
  law_lifted (C := Try.checked) (t := 4) PenBack_own started (by kernel_rfl) Try.func11
    (ChangeSpec.witness6 (enc := enc) (C := Try.checked) false ⟨#[], #[.slice none 0 0], []⟩ 8 (by kernel_rfl) (by kernel_rfl) (by kernel_rfl) (by kernel_rfl))
    PenBack_laid (by kernel_rfl) (by kernel_rfl) (by kernel_rfl) rfl (fun xs hx => by
      have hx' : xs.length = Try.f11.params.size := hx
      rw [Try.params11] at hx'
      match xs, hx' with
      | [d0], _ => rfl) PenBack_typed

theorem PenBack_holds : Rows.PenBackSaid :=
  OpenClaim.holds_of_wide 11 Try.f11 rfl rfl rfl rfl rfl rfl rfl ⟨rfl, rfl, rfl, rfl, rfl⟩ rfl rfl rfl rfl rfl (by kernel_rfl) Try.func11 (by kernel_rfl)
    (of_decide_eq_true (by kernel_rfl)) (by unfold Func.isWrapper; first | (rw [if_pos (by decide +kernel)]; kernel_rfl) | (rw [if_neg (by decide +kernel)]; exact ⟨rfl, rfl⟩))
    (fun os started H enc _ => PenBack_lifted os started H enc)

end Go.Proofs.Ytpoeoekoafpdhaa
