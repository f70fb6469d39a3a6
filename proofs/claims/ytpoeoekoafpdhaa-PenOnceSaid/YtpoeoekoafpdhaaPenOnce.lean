/- PenOnce: what is read of any bytes, number by number, is put as just these bytes; at every string, under no condition. -/
import Derived.Test.YtpoeoekoafpdhaaRows
import Derived.Test.YtpoeoekoafpdhaaPenB
set_option linter.unusedVariables false
set_option linter.unusedSimpArgs false
set_option maxRecDepth 100000
namespace Go.Proofs.Ytpoeoekoafpdhaa
open Go.Abs Go.RowKit

theorem PenOnce_own : ownKnob Try.prog.godebug = none := by kernel_rfl
theorem PenOnce_laid : laidOutB Try.prog = true := by kernel_rfl

theorem PenOnce_typed : ∀ xs, TyVs Try.prog Try.f3.params.toList xs → CallsA Try.prog 3 xs noHeap (fun v _ => v = .bool true) := by
  intro xs h
  rw [Try.params3] at h
  obtain ⟨a, bs, rfl, h1, h2⟩ := h.cons_inv
  obtain rfl := h2.nil_inv
  obtain ⟨s, rfl, -⟩ := h1.inv_str Try.underlying9
  exact PenOnce_does s noHeap

theorem PenOnce_lifted (os : Os) (started : os.Started) (H : Type) (enc : TypeId × Value → H) :
    ReturnsInHanded {} Try.checked os 3 .any (Rows.penOnceSpec.pre6 enc Try.prog Try.f3 Rows.penOnceRow.domain false) (Rows.penOnceSpec.post enc Try.prog Try.f3 false true false false) :=
  law_lifted (C := Try.checked) (t := 4) PenOnce_own started (by kernel_rfl) Try.func3
    (ChangeSpec.witness6 (enc := enc) (C := Try.checked) false ⟨#[], #[.string ⟨#[]⟩], []⟩ 8 (by kernel_rfl) (by kernel_rfl) (by kernel_rfl) (by kernel_rfl))
    PenOnce_laid (by kernel_rfl) (by kernel_rfl) (by kernel_rfl) rfl (fun xs hx => by
      have hx' : xs.length = Try.f3.params.size := hx
      rw [Try.params3] at hx'
      match xs, hx' with
      | [d0], _ => rfl) PenOnce_typed

theorem PenOnce_holds : Rows.PenOnceSaid :=
  OpenClaim.holds_of_wide 3 Try.f3 rfl rfl rfl rfl rfl rfl rfl ⟨rfl, rfl, rfl, rfl, rfl⟩ rfl rfl rfl rfl rfl (by kernel_rfl) Try.func3 (by kernel_rfl)
    (of_decide_eq_true (by kernel_rfl)) (by unfold Func.isWrapper; first | (rw [if_pos (by decide +kernel)]; kernel_rfl) | (rw [if_neg (by decide +kernel)]; exact ⟨rfl, rfl⟩))
    (fun os started H enc _ => PenOnce_lifted os started H enc)

end Go.Proofs.Ytpoeoekoafpdhaa
