/- With a set more classes are joined, never parted: two sites of one class stay of one: for 12 sites at most and 5 rows of 8 sets. -/
import Derived.Test.YtopfjochppdnfaaDoorRows
import Derived.Test.YtopfjochppdnfaaDoorCards
import Derived.Test.YtopfjochppdnfaaDoorTie
import Derived.Test.YtopfjochppdnfaaDoorClassMoreDoes
import Derived.Test.YtopfjochppdnfaaDoorAbsLaid
import Derived.SevenTiedAt
set_option linter.unusedVariables false
set_option linter.unusedSimpArgs false
set_option maxRecDepth 100000
namespace Go.Proofs.YtopfjochppdnfaaDoor
open Go.Abs Go.RowKit

theorem ClassMore_own : ownKnob Tryd.prog.godebug = none := by kernel_rfl
theorem ClassMore_laid : laidOutB Tryd.prog = true := by kernel_rfl
abbrev ClassMore_list : List (String × DataW Unit) := [("math/bits.deBruijn64tab", Rows.laid_math_bits_deBruijn64tab)]
theorem ClassMore_door (os : Os) (args : Array Value) : laidMetH Tryd.prog ClassMore_list ((World.doorLaid Tryd.prog 14 os).forCall (fun _ _ => 0) ⟨#[], args, []⟩).memory :=
  laidMetH_of_parts3 (fuel := 8) (laidMet_of_run' 8 (by kernel_rfl) (by kernel_rfl)) (by kernel_rfl) (by kernel_rfl)
theorem ClassMore_tab (W : World) (h : laidMetH Tryd.prog ClassMore_list W) (c : Go.Abs.Ctx) (hc : ∀ b o, (W.cell? ⟨b, o, none⟩).isSome = true → c.im b o) : GlR c W :=
  gl_tab (g := 0) (ks := tabBits) rfl (fun i k hk => tab_cells (n := 64) (te := 5) (ks := tabBits) rfl (by kernel_rfl) (by kernel_rfl) Tryd.underlying85 Tryd.underlying5 (by kernel_rfl) h i k hk (List.getElem?_eq_some_iff.1 hk).1) c hc

theorem ClassMore_typed : ∀ xs, TyVs Tryd.prog Tryd.f5.params.toList xs → CallsA Tryd.prog 5 xs noHeap (fun v _ => v = .bool true) := by
  intro xs h
  obtain ⟨x0, x1, x2, rfl, k0, k1, k2⟩ := ClassMore_args h
  exact ClassMore_does x0 x1 x2 k0 k1 k2 noHeap

theorem ClassMore_lifted (os : Os) (started : os.Started) (H : Type) (enc : TypeId × Value → H) :
    ReturnsInHanded {} Tryd.checked os 5 .any (fun w args => (Rows.classMoreSpec.pre enc Tryd.prog Tryd.f5 [] false w args ∧ laidMetH Tryd.prog ClassMore_list w) ∧ sizedMet enc Tryd.prog Tryd.f5 (OpenSpec.ofChange Rows.classMoreSpec) false w args) (Rows.classMoreSpec.post enc Tryd.prog Tryd.f5 false true false false) :=
  law_lifted_laid (C := Tryd.checked) (t := 4) ClassMore_own started (by kernel_rfl) Tryd.func5
    (ChangeSpec.witness_shaped (enc := enc) (C := Tryd.checked) (os := os) (X := fun w _ => laidMetH Tryd.prog ClassMore_list w) false (World.doorLaid Tryd.prog 14 os) #[.int .i64 0,.slice none 0 0,.int .u64 0] 8 rfl (World.shaped_of_RefB (by kernel_rfl) (by kernel_rfl)) (by kernel_rfl) (by kernel_rfl) (by kernel_rfl) (ClassMore_door os _))
    ClassMore_laid (by kernel_rfl) (by kernel_rfl) (by kernel_rfl) rfl (fun xs hx => by
      have hx' : xs.length = Tryd.f5.params.size := hx
      rw [Tryd.params5] at hx'
      match xs, hx' with
      | [d0, d1, d2], _ => rfl) Tryd.call5 ClassMore_tab ClassMore_typed

theorem ClassMore_holds : Rows.ClassMoreSaid :=
  OpenClaim.holds_of_wide 5 Tryd.f5 rfl rfl rfl rfl rfl rfl rfl ⟨rfl, rfl, rfl, rfl, rfl⟩ rfl rfl rfl rfl rfl (by kernel_rfl) Tryd.func5 (by kernel_rfl)
    (of_decide_eq_true (by kernel_rfl)) (by unfold Func.isWrapper; first | (rw [if_pos (by decide +kernel)]; kernel_rfl) | (rw [if_neg (by decide +kernel)]; exact ⟨rfl, rfl⟩))
    (fun os started H enc _ => ClassMore_lifted os started H enc)

theorem ClassMore_card : Rows.ClassMoreCardSaid :=
  Claim7.holds_tied_plain_at .later [] [.data] true (true, "bab8513b6af16df8ecbc2e910b0b2e9b558db069f784bddfcf3c09070c27411c") false
    ClassMore_holds (fun _ h => by cases h) (by kernel_rfl) (fun _ h => by cases h) classMore_row_tie rfl ⟨rfl, rfl⟩ (by kernel_rfl) rfl
    (fun f fn hf hfn => by
      obtain rfl : f = 5 := Option.some.inj ((show Tryd.prog.funcNamed "padlock/padlocklaw12.ClassMore" = some 5 by kernel_rfl).symm.trans hf) |>.symm
      obtain rfl : fn = Tryd.f5 := (Option.some.inj (Tryd.func5.symm.trans hfn)).symm
      exact ⟨by kernel_rfl, fun j t ht => by
        have hall : (Tryd.f5.params.toList.all fun u => !Tryd.prog.wantsStandIn u) = true := by kernel_rfl
        have hm : t ∈ Tryd.f5.params.toList := by simpa using Array.mem_of_getElem? ht
        have h5 := List.all_eq_true.1 hall t hm
        exact (show Tryd.prog.wantsStandIn t = false by simpa using h5)⟩)
    (by kernel_rfl)

end Go.Proofs.YtopfjochppdnfaaDoor
