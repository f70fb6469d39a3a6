/- WITH LIMITS OF 0 a section locks globals alone, or all. -/
import Derived.Test.YtjlogcfggfmacaaDoorML
import Derived.Test.YtjlogcfggfmacaaDoorM8
import Derived.Test.YtjlogcfggfmacaaDoorRows
import Derived.Test.YtjlogcfggfmacaaDoorCards
import Derived.Test.YtjlogcfggfmacaaDoorTie
import Derived.SevenTiedAt
set_option linter.unusedVariables false
set_option linter.unusedSimpArgs false
set_option maxRecDepth 100000
namespace Go.Proofs.YtjlogcfggfmacaaDoor
open Go.Abs Go.RowKit

theorem PlanAll_own : ownKnob Tryd.prog.godebug = none := by kernel_rfl
theorem PlanAll_laid : laidOutB Tryd.prog = true := by kernel_rfl
abbrev PlanAll_list : List (String × DataW Unit) := [("math/bits.deBruijn64tab", Rows.laid_math_bits_deBruijn64tab)]
theorem PlanAll_door (os : Os) (args : Array Value) : laidMetH Tryd.prog PlanAll_list ((World.doorLaid Tryd.prog 14 os).forCall (fun _ _ => 0) ⟨#[], args, []⟩).memory :=
  laidMetH_of_parts3 (fuel := 8) (laidMet_of_run' 8 (by kernel_rfl) (by kernel_rfl)) (by kernel_rfl) (by kernel_rfl)
theorem PlanAll_tab (W : World) (h : laidMetH Tryd.prog PlanAll_list W) (c : Go.Abs.Ctx) (hc : ∀ b o, (W.cell? ⟨b, o, none⟩).isSome = true → c.im b o) : GlR c W :=
  gl_tab (g := 0) (ks := zi6) rfl (fun i k hk => tab_cells (n := 64) (te := 5) (ks := zi6) rfl (by kernel_rfl) (by kernel_rfl) Tryd.underlying135 Tryd.underlying5 (by kernel_rfl) h i k hk (List.getElem?_eq_some_iff.1 hk).1) c hc

theorem PlanAll_typed : ∀ xs, TyVs Tryd.prog Tryd.f4.params.toList xs → z01 Tryd.prog 4 xs noHeap (fun v _ => v = .bool true) := by
  intro xs h
  obtain ⟨x0, x1, rfl, k0, k1⟩ := PlanAll_args h
  exact PlanAll_does x0 x1 k0 noHeap

theorem PlanAll_lifted (os : Os) (started : os.Started) (H : Type) (enc : TypeId × Value → H) :
    ReturnsInHanded {} Tryd.checked os 4 .any (fun w args => (Rows.planAllSpec.pre enc Tryd.prog Tryd.f4 [] false w args ∧ laidMetH Tryd.prog PlanAll_list w) ∧ sizedMet enc Tryd.prog Tryd.f4 (OpenSpec.ofChange Rows.planAllSpec) false w args) (Rows.planAllSpec.post enc Tryd.prog Tryd.f4 false true false false) :=
  law_lifted_laid (C := Tryd.checked) (t := 4) PlanAll_own started (by kernel_rfl) Tryd.func4
    (ChangeSpec.witness_shaped (enc := enc) (C := Tryd.checked) (os := os) (X := fun w _ => laidMetH Tryd.prog PlanAll_list w) false (World.doorLaid Tryd.prog 14 os) #[.agg #[.slice none 0 0, .slice none 0 0, .slice none 0 0, .slice none 0 0, .slice none 0 0],.int .i64 0] 8 rfl (World.shaped_of_RefB (by kernel_rfl) (by kernel_rfl)) (by kernel_rfl) (by kernel_rfl) (by kernel_rfl) (PlanAll_door os _))
    PlanAll_laid (by kernel_rfl) (by kernel_rfl) (by kernel_rfl) rfl (fun xs hx => by
      have hx' : xs.length = Tryd.f4.params.size := hx
      rw [Tryd.params4] at hx'
      match xs, hx' with
      | [d0, d1], _ => rfl) Tryd.call4 PlanAll_tab PlanAll_typed

theorem PlanAll_holds : Rows.PlanAllSaid :=
  OpenClaim.holds_of_wide 4 Tryd.f4 rfl rfl rfl rfl rfl rfl rfl ⟨rfl, rfl, rfl, rfl, rfl⟩ rfl rfl rfl rfl rfl (by kernel_rfl) Tryd.func4 (by kernel_rfl)
    (of_decide_eq_true (by kernel_rfl)) (by unfold Func.isWrapper; first | (rw [if_pos (by decide +kernel)]; kernel_rfl) | (rw [if_neg (by decide +kernel)]; exact ⟨rfl, rfl⟩))
    (fun os started H enc _ => PlanAll_lifted os started H enc)

theorem PlanAll_card : Rows.PlanAllCardSaid :=
  Claim7.holds_tied_plain_at .later [] [.data] true (true, "e06adaeba8af371efcabf8b8e2ef762563ac1f7fb290fa986a9bcd4a7697c663") false
    PlanAll_holds (fun _ h => by cases h) (by kernel_rfl) (fun _ h => by cases h) planAll_row_tie rfl ⟨rfl, rfl⟩ (by kernel_rfl) rfl
    (fun f fn hf hfn => by
      obtain rfl : f = 4 := Option.some.inj ((show Tryd.prog.funcNamed "padlock/padlocklaw16.PlanAll" = some 4 by kernel_rfl).symm.trans hf) |>.symm
      obtain rfl : fn = Tryd.f4 := (Option.some.inj (Tryd.func4.symm.trans hfn)).symm
      exact ⟨by kernel_rfl, fun j t ht => by
        have hall : (Tryd.f4.params.toList.all fun u => !Tryd.prog.wantsStandIn u) = true := by kernel_rfl
        have hm : t ∈ Tryd.f4.params.toList := by simpa using Array.mem_of_getElem? ht
        have h5 := List.all_eq_true.1 hall t hm
        exact (show Tryd.prog.wantsStandIn t = false by simpa using h5)⟩)
    (by kernel_rfl)

end Go.Proofs.YtjlogcfggfmacaaDoor
