/- PenCuts: a number's bytes that break off are no number, and the eye is bad for good; for every number and cut, under no condition. -/
import Derived.Test.YtpoeoekoafpdhaaRows
import Derived.Test.YtpoeoekoafpdhaaPenCutsDoes
set_option linter.unusedVariables false
set_option linter.unusedSimpArgs false
set_option maxRecDepth 100000
namespace Go.Proofs.Ytpoeoekoafpdhaa
open Go.Abs Go.RowKit

theorem PenCuts_own : ownKnob Try.prog.godebug = none := by kernel_rfl
theorem PenCuts_laid : laidOutB Try.prog = true := by kernel_rfl

theorem PenCuts_typed : ∀ xs, TyVs Try.prog Try.f9.params.toList xs → CallsA Try.prog 9 xs noHeap (fun v _ => v = .bool true) := by
  intro xs h
  rw [Try.params9] at h
  obtain ⟨a, bs, rfl, h1, h2⟩ := h.cons_inv
  obtain ⟨b, cs, rfl, h3, h4⟩ := h2.cons_inv
  obtain rfl := h4.nil_inv
  obtain ⟨n, rfl, hn, hn2⟩ := h1.inv_int Try.underlying28
  obtain ⟨m, rfl, -, -⟩ := h3.inv_int Try.underlying3
  obtain ⟨n, rfl⟩ : ∃ k : Nat, n = k := ⟨n.toNat, by simp [IntKind.min, IntKind.signed] at hn; omega⟩
  simp [IntKind.max, IntKind.signed, IntKind.bits] at hn2
  exact PenCuts_does n m (by omega) noHeap

theorem PenCuts_lifted (os : Os) (started : os.Started) (H : Type) (enc : TypeId × Value → H) :
    ReturnsInHanded {} Try.checked os 9 .any (Rows.penCutsSpec.pre6 enc Try.prog Try.f9 Rows.penCutsRow.domain false) (Rows.penCutsSpec.post enc Try.prog Try.f9 false true false false) :=
  law_lifted (C := Try.checked) (t := 4) PenCuts_own started (by kernel_rfl) Try.func9
    (ChangeSpec.witness6 (enc := enc) (C := Try.checked) false ⟨#[], #[.int .u64 0,.int .i64 0], []⟩ 8 (by kernel_rfl) (by kernel_rfl) (by kernel_rfl) (by kernel_rfl))
    PenCuts_laid (by kernel_rfl) (by kernel_rfl) (by kernel_rfl) rfl (fun xs hx => by
      have hx' : xs.length = Try.f9.params.size := hx
      rw [Try.params9] at hx'
      match xs, hx' with
      | [d0, d1], _ => rfl) PenCuts_typed

theorem PenCuts_holds : Rows.PenCutsSaid :=
  OpenClaim.holds_of_wide 9 Try.f9 rfl rfl rfl rfl rfl rfl rfl ⟨rfl, rfl, rfl, rfl, rfl⟩ rfl rfl rfl rfl rfl (by kernel_rfl) Try.func9 (by kernel_rfl)
    (of_decide_eq_true (by kernel_rfl)) (by unfold Func.isWrapper; first | (rw [if_pos (by decide +kernel)]; kernel_rfl) | (rw [if_neg (by decide +kernel)]; exact ⟨rfl, rfl⟩))
    (fun os started H enc _ => PenCuts_lifted os started H enc)

end Go.Proofs.Ytpoeoekoafpdhaa
