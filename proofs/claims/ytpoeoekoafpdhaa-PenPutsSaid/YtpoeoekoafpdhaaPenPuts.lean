/- PenPuts: what is put is what the document says, in every order, and a nil pen puts nothing; for every slice of items, under no condition. -/
import Derived.Test.YtpoeoekoafpdhaaRows
import Derived.Test.YtpoeoekoafpdhaaPutsDoes
set_option linter.unusedVariables false
set_option linter.unusedSimpArgs false
set_option maxRecDepth 100000
namespace Go.Proofs.Ytpoeoekoafpdhaa
open Go.Abs Go.RowKit

theorem PenPuts_own : ownKnob Try.prog.godebug = none := by kernel_rfl
theorem PenPuts_laid : laidOutB Try.prog = true := by kernel_rfl

theorem PenPuts_typed : ∀ xs, TyVs Try.prog Try.f5.params.toList xs → CallsA Try.prog 5 xs noHeap (fun v _ => v = .bool true) := by
  intro xs h
  rw [Try.params5] at h
  obtain ⟨a, bs, rfl, h1, h2⟩ := h.cons_inv
  obtain rfl := h2.nil_inv
  obtain ⟨items, hi, hok⟩ := items_of h1
  exact PenPuts_does hi hok noHeap

theorem PenPuts_lifted (os : Os) (started : os.Started) (H : Type) (enc : TypeId × Value → H) :
    ReturnsInHanded {} Try.checked os 5 .any (Rows.penPutsSpec.pre6 enc Try.prog Try.f5 Rows.penPutsRow.domain false) (Rows.penPutsSpec.post enc Try.prog Try.f5 false true false false) :=
  law_lifted (C := Try.checked) (t := 4) PenPuts_own started (by kernel_rfl) Try.func5
    (ChangeSpec.witness6 (enc := enc) (C := Try.checked) false ⟨#[], #[.slice none 0 0], []⟩ 8 (by kernel_rfl) (by kernel_rfl) (by kernel_rfl) (by kernel_rfl))
    PenPuts_laid (by kernel_rfl) (by kernel_rfl) (by kernel_rfl) rfl (fun xs hx => by
      have hx' : xs.length = Try.f5.params.size := hx
      rw [Try.params5] at hx'
      match xs, hx' with
      | [d0], _ => rfl) PenPuts_typed

theorem PenPuts_holds : Rows.PenPutsSaid :=
  OpenClaim.holds_of_wide 5 Try.f5 rfl rfl rfl rfl rfl rfl rfl ⟨rfl, rfl, rfl, rfl, rfl⟩ rfl rfl rfl rfl rfl (by kernel_rfl) Try.func5 (by kernel_rfl)
    (of_decide_eq_true (by kernel_rfl)) (by unfold Func.isWrapper; first | (rw [if_pos (by decide +kernel)]; kernel_rfl) | (rw [if_neg (by decide +kernel)]; exact ⟨rfl, rfl⟩))
    (fun os started H enc _ => PenPuts_lifted os started H enc)

end Go.Proofs.Ytpoeoekoafpdhaa
