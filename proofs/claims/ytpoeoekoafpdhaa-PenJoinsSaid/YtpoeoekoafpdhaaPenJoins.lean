/- PenJoins: what is put by one pen is what two put, one behind the other; for every two slices of items, under no condition. -/
import Derived.Test.YtpoeoekoafpdhaaRows
import Derived.Test.YtpoeoekoafpdhaaJoinsDoes
set_option linter.unusedVariables false
set_option linter.unusedSimpArgs false
set_option maxRecDepth 100000
namespace Go.Proofs.Ytpoeoekoafpdhaa
open Go.Abs Go.RowKit

theorem PenJoins_own : ownKnob Try.prog.godebug = none := by kernel_rfl
theorem PenJoins_laid : laidOutB Try.prog = true := by kernel_rfl

theorem PenJoins_typed : ∀ xs, TyVs Try.prog Try.f6.params.toList xs → CallsA Try.prog 6 xs noHeap (fun v _ => v = .bool true) := by
  intro xs h
  rw [Try.params6] at h
  obtain ⟨a, bs, rfl, h1, h2⟩ := h.cons_inv
  obtain ⟨b, cs, rfl, h3, h4⟩ := h2.cons_inv
  obtain rfl := h4.nil_inv
  obtain ⟨items, hi, hok⟩ := items_of h1
  obtain ⟨items2, hi2, hok2⟩ := items_of h3
  exact PenJoins_does hi hok hi2 hok2 noHeap

theorem PenJoins_lifted (os : Os) (started : os.Started) (H : Type) (enc : TypeId × Value → H) :
    ReturnsInHanded {} Try.checked os 6 .any (Rows.penJoinsSpec.pre6 enc Try.prog Try.f6 Rows.penJoinsRow.domain false) (Rows.penJoinsSpec.post enc Try.prog Try.f6 false true false false) :=
  law_lifted (C := Try.checked) (t := 4) PenJoins_own started (by kernel_rfl) Try.func6
    (ChangeSpec.witness6 (enc := enc) (C := Try.checked) false ⟨#[], #[.slice none 0 0,.slice none 0 0], []⟩ 8 (by kernel_rfl) (by kernel_rfl) (by kernel_rfl) (by kernel_rfl))
    PenJoins_laid (by kernel_rfl) (by kernel_rfl) (by kernel_rfl) rfl (fun xs hx => by
      have hx' : xs.length = Try.f6.params.size := hx
      rw [Try.params6] at hx'
      match xs, hx' with
      | [d0, d1], _ => rfl) PenJoins_typed

theorem PenJoins_holds : Rows.PenJoinsSaid :=
  OpenClaim.holds_of_wide 6 Try.f6 rfl rfl rfl rfl rfl rfl rfl ⟨rfl, rfl, rfl, rfl, rfl⟩ rfl rfl rfl rfl rfl (by kernel_rfl) Try.func6 (by kernel_rfl)
    (of_decide_eq_true (by kernel_rfl)) (by unfold Func.isWrapper; first | (rw [if_pos (by decide +kernel)]; kernel_rfl) | (rw [if_neg (by decide +kernel)]; exact ⟨rfl, rfl⟩))
    (fun os started H enc _ => PenJoins_lifted os started H enc)

end Go.Proofs.Ytpoeoekoafpdhaa
