/- PenReads: what is read of any bytes is what the document says, whatever is asked for, and a nil eye is bad; for every string and slice of items, under no condition. -/
import Derived.Test.YtpoeoekoafpdhaaRows
import Derived.Test.YtpoeoekoafpdhaaReadsDoes
set_option linter.unusedVariables false
set_option linter.unusedSimpArgs false
set_option maxRecDepth 100000
namespace Go.Proofs.Ytpoeoekoafpdhaa
open Go.Abs Go.RowKit

theorem PenReads_own : ownKnob Try.prog.godebug = none := by kernel_rfl
theorem PenReads_laid : laidOutB Try.prog = true := by kernel_rfl

theorem PenReads_typed : ∀ xs, TyVs Try.prog Try.f8.params.toList xs → CallsA Try.prog 8 xs noHeap (fun v _ => v = .bool true) := by
  intro xs h
  rw [Try.params8] at h
  obtain ⟨a, bs, rfl, h1, h2⟩ := h.cons_inv
  obtain ⟨b, cs, rfl, h3, h4⟩ := h2.cons_inv
  obtain rfl := h4.nil_inv
  obtain ⟨s, rfl, -⟩ := h1.inv_str Try.underlying9
  obtain ⟨items, hi, hok⟩ := items_of h3
  exact PenReads_does s hi hok noHeap

theorem PenReads_lifted (os : Os) (started : os.Started) (H : Type) (enc : TypeId × Value → H) :
    ReturnsInHanded {} Try.checked os 8 .any (Rows.penReadsSpec.pre6 enc Try.prog Try.f8 Rows.penReadsRow.domain false) (Rows.penReadsSpec.post enc Try.prog Try.f8 false true false false) :=
  law_lifted (C := Try.checked) (t := 4) PenReads_own started (by kernel_rfl) Try.func8
    (ChangeSpec.witness6 (enc := enc) (C := Try.checked) false ⟨#[], #[.string ⟨#[]⟩,.slice none 0 0], []⟩ 8 (by kernel_rfl) (by kernel_rfl) (by kernel_rfl) (by kernel_rfl))
    PenReads_laid (by kernel_rfl) (by kernel_rfl) (by kernel_rfl) rfl (fun xs hx => by
      have hx' : xs.length = Try.f8.params.size := hx
      rw [Try.params8] at hx'
      match xs, hx' with
      | [d0, d1], _ => rfl) PenReads_typed

theorem PenReads_holds : Rows.PenReadsSaid :=
  OpenClaim.holds_of_wide 8 Try.f8 rfl rfl rfl rfl rfl rfl rfl ⟨rfl, rfl, rfl, rfl, rfl⟩ rfl rfl rfl rfl rfl (by kernel_rfl) Try.func8 (by kernel_rfl)
    (of_decide_eq_true (by kernel_rfl)) (by unfold Func.isWrapper; first | (rw [if_pos (by decide +kernel)]; kernel_rfl) | (rw [if_neg (by decide +kernel)]; exact ⟨rfl, rfl⟩))
    (fun os started H enc _ => PenReads_lifted os started H enc)

end Go.Proofs.Ytpoeoekoafpdhaa
