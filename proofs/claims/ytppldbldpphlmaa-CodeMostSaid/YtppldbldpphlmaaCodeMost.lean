/- Of a code that can be, the most steps of a thread may be stated as any number from 0 to 4096, and as no other one; and without its sections it can be only if nothing shared is touched: for codes of at most 8 threads of 600 instructions of 200 items. -/
import Derived.Test.YtppldbldpphlmaaRows
import Derived.Test.YtppldbldpphlmaaCdMost
set_option linter.unusedVariables false
set_option linter.unusedSimpArgs false
set_option maxRecDepth 100000
namespace Go.Proofs.Ytppldbldpphlmaa
open Go.Abs Go.RowKit

theorem CodeMost_own : ownKnob Try.prog.godebug = none := by kernel_rfl
theorem CodeMost_laid : laidOutB Try.prog = true := by kernel_rfl

theorem CodeMost_typed : ∀ xs, TyVs Try.prog Try.f7.params.toList xs → CallsA Try.prog 7 xs noHeap (fun v _ => v = .bool true) := by
  intro xs h
  obtain ⟨x0, x1, x2, rfl, k0, k1, k2⟩ := CodeMost_args h
  exact CodeMost_does x0 x1 x2 k0 k2 noHeap

theorem CodeMost_lifted (os : Os) (started : os.Started) (H : Type) (enc : TypeId × Value → H) :
    ReturnsInHanded {} Try.checked os 7 .any (Rows.codeMostSpec.pre6 enc Try.prog Try.f7 Rows.codeMostRow.domain false) (Rows.codeMostSpec.post enc Try.prog Try.f7 false true false false) :=
  law_lifted (C := Try.checked) (t := 4) CodeMost_own started (by kernel_rfl) Try.func7
    (ChangeSpec.witness6 (enc := enc) (C := Try.checked) false ⟨#[], #[.agg #[.slice none 0 0, .slice none 0 0, .slice none 0 0, .slice none 0 0, .slice none 0 0],.int .i64 0,.int .i64 0], []⟩ 8 (by kernel_rfl) (by kernel_rfl) (by kernel_rfl) (by kernel_rfl))
    CodeMost_laid (by kernel_rfl) (by kernel_rfl) (by kernel_rfl) rfl (fun xs hx => by
      have hx' : xs.length = Try.f7.params.size := hx
      rw [Try.params7] at hx'
      match xs, hx' with
      | [d0, d1, d2], _ => rfl) Try.call7 CodeMost_typed

theorem CodeMost_holds : Rows.CodeMostSaid :=
  OpenClaim.holds_of_wide 7 Try.f7 rfl rfl rfl rfl rfl rfl rfl ⟨rfl, rfl, rfl, rfl, rfl⟩ rfl rfl rfl rfl rfl (by kernel_rfl) Try.func7 (by kernel_rfl)
    (of_decide_eq_true (by kernel_rfl)) (by unfold Func.isWrapper; first | (rw [if_pos (by decide +kernel)]; kernel_rfl) | (rw [if_neg (by decide +kernel)]; exact ⟨rfl, rfl⟩))
    (fun os started H enc _ => CodeMost_lifted os started H enc)

end Go.Proofs.Ytppldbldpphlmaa
