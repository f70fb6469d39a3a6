/- Two threads of an image, of which neither touches a heap, do the same in turns as one behind the other. No condition beside the statement's own. -/
import Derived.Test.YtjlogcfggfmacaaM8
import Derived.Test.YtjlogcfggfmacaaRows
set_option linter.unusedVariables false
set_option linter.unusedSimpArgs false
set_option maxRecDepth 100000
namespace Go.Proofs.Ytjlogcfggfmacaa
open Go.Abs Go.RowKit

theorem ThreadApart_own : ownKnob Try.prog.godebug = none := by kernel_rfl
theorem ThreadApart_laid : laidOutB Try.prog = true := by kernel_rfl

theorem ThreadApart_typed : ∀ xs, TyVs Try.prog Try.f3.params.toList xs → z01 Try.prog 3 xs noHeap (fun v _ => v = .bool true) := by
  intro xs h
  obtain ⟨x0, x1, x2, x3, rfl, k0, k1, k2, k3⟩ := ThreadApart_args h
  exact ThreadApart_does x0 x1 x2 x3 k0 noHeap

theorem ThreadApart_lifted (os : Os) (started : os.Started) (H : Type) (enc : TypeId × Value → H) :
    ReturnsInHanded {} Try.checked os 3 .any (Rows.threadApartSpec.pre6 enc Try.prog Try.f3 Rows.threadApartRow.domain false) (Rows.threadApartSpec.post enc Try.prog Try.f3 false true false false) :=
  law_lifted (C := Try.checked) (t := 4) ThreadApart_own started (by kernel_rfl) Try.func3
    (ChangeSpec.witness6 (enc := enc) (C := Try.checked) false ⟨#[], #[.agg #[.slice none 0 0, .slice none 0 0, .slice none 0 0, .slice none 0 0, .slice none 0 0, .slice none 0 0, .slice none 0 0, .int .i64 0],.int .i64 0,.int .i64 0,.slice none 0 0], []⟩ 8 (by kernel_rfl) (by kernel_rfl) (by kernel_rfl) (by kernel_rfl))
    ThreadApart_laid (by kernel_rfl) (by kernel_rfl) (by kernel_rfl) rfl (fun xs hx => by
      have hx' : xs.length = Try.f3.params.size := hx
      rw [Try.params3] at hx'
      match xs, hx' with
      | [d0, d1, d2, d3], _ => rfl) Try.call3 (fun _ => rfl) ThreadApart_typed

theorem ThreadApart_holds : Rows.ThreadApartSaid :=
  OpenClaim.holds_of_wide 3 Try.f3 rfl rfl rfl rfl rfl rfl rfl ⟨rfl, rfl, rfl, rfl, rfl⟩ rfl rfl rfl rfl rfl (by kernel_rfl) Try.func3 (by kernel_rfl)
    (of_decide_eq_true (by kernel_rfl)) (by unfold Func.isWrapper; first | (rw [if_pos (by decide +kernel)]; kernel_rfl) | (rw [if_neg (by decide +kernel)]; exact ⟨rfl, rfl⟩))
    (fun os started H enc _ => ThreadApart_lifted os started H enc)

end Go.Proofs.Ytjlogcfggfmacaa
