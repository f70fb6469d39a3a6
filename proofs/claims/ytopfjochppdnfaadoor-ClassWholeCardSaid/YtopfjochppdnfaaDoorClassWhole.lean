/- For every code, all sites that a solved set may mean are of one class, and classes count on from 1 in the order of their least sites. -/
import Derived.Test.YtopfjochppdnfaaDoorML
import Derived.Test.YtopfjochppdnfaaDoorM9
import Derived.Test.YtopfjochppdnfaaDoorRows
import Derived.Test.YtopfjochppdnfaaDoorCards
import Derived.Test.YtopfjochppdnfaaDoorTie
import Derived.SevenTiedAt
set_option linter.unusedVariables false
set_option linter.unusedSimpArgs false
set_option maxRecDepth 100000
namespace Go.Proofs.YtopfjochppdnfaaDoor
open Go.Abs Go.RowKit

theorem ClassWhole_own : ownKnob Tryd.prog.godebug = none := by kernel_rfl
theorem ClassWhole_laid : laidOutB Tryd.prog = true := by kernel_rfl
abbrev ClassWhole_list : List (String × DataW Unit) := [("math/bits.deBruijn64tab", Rows.laid_math_bits_deBruijn64tab)]
theorem ClassWhole_door (os : Os) (args : Array Value) : laidMetH Tryd.prog ClassWhole_list ((World.doorLaid Tryd.prog 14 os).forCall (fun _ _ => 0) ⟨#[], args, []⟩).memory :=
  laidMetH_of_parts3 (fuel := 8) (laidMet_of_run' 8 (by kernel_rfl) (by kernel_rfl)) (by kernel_rfl) (by kernel_rfl)
theorem ClassWhole_tab (W : World) (h : laidMetH Tryd.prog ClassWhole_list W) (c : Go.Abs.Ctx) (hc : ∀ b o, (W.cell? ⟨b, o, none⟩).isSome = true → c.im b o) : GlR c W :=
  gl_tab (g := 0) (ks := tabBits) rfl (fun i k hk => tab_cells (n := 64) (te := 5) (ks := tabBits) rfl (by kernel_rfl) (by kernel_rfl) Tryd.underlying85 Tryd.underlying5 (by kernel_rfl) h i k hk (List.getElem?_eq_some_iff.1 hk).1) c hc

theorem ClassWhole_typed : ∀ xs, TyVs Tryd.prog Tryd.f11.params.toList xs → CallsA Tryd.prog 11 xs noHeap (fun v _ => v = .bool true) := by
  intro xs h
  obtain ⟨x0, rfl, k0⟩ := ClassWhole_args h
  exact ClassWhole_does x0 k0 noHeap

theorem ClassWhole_lifted (os : Os) (started : os.Started) (H : Type) (enc : TypeId × Value → H) :
    ReturnsInHanded {} Tryd.checked os 11 .any (fun w args => (Rows.classWholeSpec.pre enc Tryd.prog Tryd.f11 [] false w args ∧ laidMetH Tryd.prog ClassWhole_list w) ∧ sizedMet enc Tryd.prog Tryd.f11 (OpenSpec.ofChange Rows.classWholeSpec) false w args) (Rows.classWholeSpec.post enc Tryd.prog Tryd.f11 false true false false) :=
  law_lifted_laid (C := Tryd.checked) (t := 4) ClassWhole_own started (by kernel_rfl) Tryd.func11
    (ChangeSpec.witness_shaped (enc := enc) (C := Tryd.checked) (os := os) (X := fun w _ => laidMetH Tryd.prog ClassWhole_list w) false (World.doorLaid Tryd.prog 14 os) #[.agg #[.slice none 0 0, .slice none 0 0, .slice none 0 0, .slice none 0 0, .slice none 0 0]] 8 rfl (World.shaped_of_RefB (by kernel_rfl) (by kernel_rfl)) (by kernel_rfl) (by kernel_rfl) (by kernel_rfl) (ClassWhole_door os _))
    ClassWhole_laid (by kernel_rfl) (by kernel_rfl) (by kernel_rfl) rfl (fun xs hx => by
      have hx' : xs.length = Tryd.f11.params.size := hx
      rw [Tryd.params11] at hx'
      match xs, hx' with
      | [d0], _ => rfl) Tryd.call11 ClassWhole_tab ClassWhole_typed

theorem ClassWhole_holds : Rows.ClassWholeSaid :=
  OpenClaim.holds_of_wide 11 Tryd.f11 rfl rfl rfl rfl rfl rfl rfl ⟨rfl, rfl, rfl, rfl, rfl⟩ rfl rfl rfl rfl rfl (by kernel_rfl) Tryd.func11 (by kernel_rfl)
    (of_decide_eq_true (by kernel_rfl)) (by unfold Func.isWrapper; first | (rw [if_pos (by decide +kernel)]; kernel_rfl) | (rw [if_neg (by decide +kernel)]; exact ⟨rfl, rfl⟩))
    (fun os started H enc _ => ClassWhole_lifted os started H enc)

theorem ClassWhole_card : Rows.ClassWholeCardSaid :=
  Claim7.holds_tied_plain_at .later [] [.data] true (true, "bab8513b6af16df8ecbc2e910b0b2e9b558db069f784bddfcf3c09070c27411c") false
    ClassWhole_holds (fun _ h => by cases h) (by kernel_rfl) (fun _ h => by cases h) classWhole_row_tie rfl ⟨rfl, rfl⟩ (by kernel_rfl) rfl
    (fun f fn hf hfn => by
      obtain rfl : f = 11 := Option.some.inj ((show Tryd.prog.funcNamed "padlock/padlocklaw12.ClassWhole" = some 11 by kernel_rfl).symm.trans hf) |>.symm
      obtain rfl : fn = Tryd.f11 := (Option.some.inj (Tryd.func11.symm.trans hfn)).symm
      exact ⟨by kernel_rfl, fun j t ht => by
        have hall : (Tryd.f11.params.toList.all fun u => !Tryd.prog.wantsStandIn u) = true := by kernel_rfl
        have hm : t ∈ Tryd.f11.params.toList := by simpa using Array.mem_of_getElem? ht
        have h5 := List.all_eq_true.1 hall t hm
        exact (show Tryd.prog.wantsStandIn t = false by simpa using h5)⟩)
    (by kernel_rfl)

end Go.Proofs.YtopfjochppdnfaaDoor
