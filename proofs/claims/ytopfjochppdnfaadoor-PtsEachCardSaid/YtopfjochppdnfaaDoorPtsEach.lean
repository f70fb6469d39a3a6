/- Each goes over the bits of a set, rising, and it may be left at any time: of all sets of 64 bits and numbers. -/
import Derived.Test.YtopfjochppdnfaaDoorML
import Derived.Test.YtopfjochppdnfaaDoorM8
import Derived.Test.YtopfjochppdnfaaDoorRows
import Derived.Test.YtopfjochppdnfaaDoorCards
import Derived.Test.YtopfjochppdnfaaDoorTie
import Derived.SevenTiedAt
set_option linter.unusedVariables false
set_option linter.unusedSimpArgs false
set_option maxRecDepth 100000
namespace Go.Proofs.YtopfjochppdnfaaDoor
open Go.Abs Go.RowKit

theorem PtsEach_own : ownKnob Tryd.prog.godebug = none := by kernel_rfl
theorem PtsEach_laid : laidOutB Tryd.prog = true := by kernel_rfl
abbrev PtsEach_list : List (String × DataW Unit) := [("math/bits.deBruijn64tab", Rows.laid_math_bits_deBruijn64tab)]
theorem PtsEach_door (os : Os) (args : Array Value) : laidMetH Tryd.prog PtsEach_list ((World.doorLaid Tryd.prog 14 os).forCall (fun _ _ => 0) ⟨#[], args, []⟩).memory :=
  laidMetH_of_parts3 (fuel := 8) (laidMet_of_run' 8 (by kernel_rfl) (by kernel_rfl)) (by kernel_rfl) (by kernel_rfl)
theorem PtsEach_tab (W : World) (h : laidMetH Tryd.prog PtsEach_list W) (c : Go.Abs.Ctx) (hc : ∀ b o, (W.cell? ⟨b, o, none⟩).isSome = true → c.im b o) : GlR c W :=
  gl_tab (g := 0) (ks := tabBits) rfl (fun i k hk => tab_cells (n := 64) (te := 5) (ks := tabBits) rfl (by kernel_rfl) (by kernel_rfl) Tryd.underlying85 Tryd.underlying5 (by kernel_rfl) h i k hk (List.getElem?_eq_some_iff.1 hk).1) c hc

theorem PtsEach_typed : ∀ xs, TyVs Tryd.prog Tryd.f9.params.toList xs → CallsA Tryd.prog 9 xs noHeap (fun v _ => v = .bool true) := by
  intro xs h
  obtain ⟨x0, x1, rfl, k0, k1⟩ := PtsEach_args h
  exact PtsEach_does x0 x1 k0 k1 noHeap

theorem PtsEach_lifted (os : Os) (started : os.Started) (H : Type) (enc : TypeId × Value → H) :
    ReturnsInHanded {} Tryd.checked os 9 .any (fun w args => (Rows.ptsEachSpec.pre enc Tryd.prog Tryd.f9 [] false w args ∧ laidMetH Tryd.prog PtsEach_list w) ∧ sizedMet enc Tryd.prog Tryd.f9 (OpenSpec.ofChange Rows.ptsEachSpec) false w args) (Rows.ptsEachSpec.post enc Tryd.prog Tryd.f9 false true false false) :=
  law_lifted_laid (C := Tryd.checked) (t := 4) PtsEach_own started (by kernel_rfl) Tryd.func9
    (ChangeSpec.witness_shaped (enc := enc) (C := Tryd.checked) (os := os) (X := fun w _ => laidMetH Tryd.prog PtsEach_list w) false (World.doorLaid Tryd.prog 14 os) #[.int .u64 0,.int .i64 0] 8 rfl (World.shaped_of_RefB (by kernel_rfl) (by kernel_rfl)) (by kernel_rfl) (by kernel_rfl) (by kernel_rfl) (PtsEach_door os _))
    PtsEach_laid (by kernel_rfl) (by kernel_rfl) (by kernel_rfl) rfl (fun xs hx => by
      have hx' : xs.length = Tryd.f9.params.size := hx
      rw [Tryd.params9] at hx'
      match xs, hx' with
      | [d0, d1], _ => rfl) Tryd.call9 PtsEach_tab PtsEach_typed

theorem PtsEach_holds : Rows.PtsEachSaid :=
  OpenClaim.holds_of_wide 9 Tryd.f9 rfl rfl rfl rfl rfl rfl rfl ⟨rfl, rfl, rfl, rfl, rfl⟩ rfl rfl rfl rfl rfl (by kernel_rfl) Tryd.func9 (by kernel_rfl)
    (of_decide_eq_true (by kernel_rfl)) (by unfold Func.isWrapper; first | (rw [if_pos (by decide +kernel)]; kernel_rfl) | (rw [if_neg (by decide +kernel)]; exact ⟨rfl, rfl⟩))
    (fun os started H enc _ => PtsEach_lifted os started H enc)

theorem PtsEach_card : Rows.PtsEachCardSaid :=
  Claim7.holds_tied_plain_at .later [] [.data] true (true, "bab8513b6af16df8ecbc2e910b0b2e9b558db069f784bddfcf3c09070c27411c") false
    PtsEach_holds (fun _ h => by cases h) (by kernel_rfl) (fun _ h => by cases h) ptsEach_row_tie rfl ⟨rfl, rfl⟩ (by kernel_rfl) rfl
    (fun f fn hf hfn => by
      obtain rfl : f = 9 := Option.some.inj ((show Tryd.prog.funcNamed "padlock/padlocklaw11.PtsEach" = some 9 by kernel_rfl).symm.trans hf) |>.symm
      obtain rfl : fn = Tryd.f9 := (Option.some.inj (Tryd.func9.symm.trans hfn)).symm
      exact ⟨by kernel_rfl, fun j t ht => by
        have hall : (Tryd.f9.params.toList.all fun u => !Tryd.prog.wantsStandIn u) = true := by kernel_rfl
        have hm : t ∈ Tryd.f9.params.toList := by simpa using Array.mem_of_getElem? ht
        have h5 := List.all_eq_true.1 hall t hm
        exact (show Tryd.prog.wantsStandIn t = false by simpa using h5)⟩)
    (by kernel_rfl)

end Go.Proofs.YtopfjochppdnfaaDoor
