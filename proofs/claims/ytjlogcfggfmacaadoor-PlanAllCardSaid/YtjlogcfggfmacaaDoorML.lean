/- A law whose row lists a package variable: a table of bytes. -/

import Derived.Test.YtjlogcfggfmacaaDoorM8
import Derived.LaidMore
import Derived.OpenShut
import Derived.Stop.Joined
set_option linter.unusedVariables false
set_option linter.unusedSimpArgs false
namespace Go.Abs
open Go.RowKit Go.ChangeShapes Go.WideShapes Go.WideElems

/-- A law whose function answers true at every abstract input, beside what its row lists. -/
theorem law_lifted_laid {C : Checked} {os : Os} {f : FuncId} {fn : Func} {s : ChangeSpec} {H : Type} {enc : TypeId × Value → H} {apart fresh handsOn : Bool} {t : TypeId} {laid : List (String × DataW Unit)}
    (own : ownKnob C.prog.godebug = none) (started : os.Started) (noInit : C.prog.inits.idxOf? f = none) (hfn : C.prog.funcs[f]? = some fn)
    (witness : ∃ (w : World) (tape : Tape) (i : Input), w.os = os ∧ (w.forCall tape i).Shaped C.prog ∧ i.vars = [] ∧ Input.okWide C.prog (w.forCall tape i) .any w.heap.size f i ∧
      ((s.pre enc C.prog fn [] apart (w.forCall tape i).memory i.args ∧ laidMetH C.prog laid (w.forCall tape i).memory) ∧ sizedMet enc C.prog fn (OpenSpec.ofChange s) apart (w.forCall tape i).memory i.args) ∧ ({} : Assume).holds C.prog (lone (Frame.enter C.prog f i.args .normal) [] (w.forCall tape i)))
    (hl : laidOutB C.prog = true) (hp : parsOk C.prog fn = true) (hres : fn.resultTypes = #[t]) (htb : C.prog.underlying t = some .bool)
    (hvars : s.vars = []) (hsf : ∀ xs : List (DataW H), xs.length = fn.params.size → s.fn H xs = { results := [.lit (.bool true)], args := xs })
    (hcall : ∀ qs w, (callFunc f qs).run C.prog w = .ok (.enter f qs) w) (hgl : ∀ W : World, laidMetH C.prog laid W → ∀ c : Ctx, (∀ b o, (W.cell? ⟨b, o, none⟩).isSome = true → c.im b o) → GlR c W)
    (Hc : ∀ qs, TyVs C.prog fn.params.toList qs → z01 C.prog f qs noHeap (fun v _ => v = .bool true)) :
    ReturnsInHanded {} C os f .any (fun w args => (s.pre enc C.prog fn [] apart w args ∧ laidMetH C.prog laid w) ∧ sizedMet enc C.prog fn (OpenSpec.ofChange s) apart w args) (s.post enc C.prog fn apart fresh handsOn false) := by
  simp only [parsOk, List.all_eq_true, Bool.and_eq_true, decide_eq_true_eq] at hp
  refine returnsInHanded_of_change_and (X := fun w _ => laidMetH C.prog laid w) (fun _ _ _ hh h => h.of_heap hh) own started noInit hfn witness ?_
  intro W base args ds gs before hval hW _ _ hL _
  have hW' := hW
  obtain ⟨p, q, hA, -, -, -, -⟩ := hW'
  refine (law_calls hl (fun t ht => (hp t ht).1) (fun j t v h1 h2 => hval j t v (by simpa using h1) (by simpa using h2)) hA hcall (hgl W hL) Hc).mono fun e W' ⟨he, hB⟩ => ⟨_, he, ?_⟩
  exact law_post hl (fun t ht => (hp t ht).1) (fun t ht => (hp t ht).2) hres htb hvars hsf hW hB

/-- A table of bytes that a row lists: its cells. -/
theorem tab_cells {P : Program} {W : World} {name : String} {g n : Nat} {t te : TypeId} {ks : List Int} {d : DataW Unit} (hd : d = .agg (ks.map fun k => .lit (.int .u8 k))) (hname : P.globalNamed name = some g) (ht : (P.globals[g]?).map (·.type) = some t) (hu : P.underlying t = some (.array n te)) (hte : P.underlying te = some (.int .u8))
    (hc1 : P.cellsOf te = 1) (h : laidMetH P [(name, d)] W) : ∀ i k, ks[i]? = some k → i < n → W.cell? ⟨g, i, none⟩ = some (.int .u8 k) := by
  subst hd
  rw [MakeChecks.laidMetH_plain _ _ _ (by rfl)] at h
  obtain ⟨ps, ⟨g0, t0, cs0, f0, p0, q0, hg0, ht0, hv0, hd0, _, _⟩, _, _⟩ := h
  obtain rfl := Option.some.inj (hname.symm.trans hg0)
  obtain rfl := Option.some.inj (ht.symm.trans ht0)
  obtain ⟨xs, m1, rfl, hx1, hlen, hn3, hel⟩ := DataW.trod_array hu hd0
  intro i k hi hin
  have h0 := hel i hin
  simp only [Prod.mk.injEq, DataW.agg.injEq] at hx1
  have hxi : i < xs.length := by omega
  obtain ⟨k', e1, e2, _⟩ := DataW.trod_int hte (show DataW.trod _ P W 0 _ false m1 te _ = some xs[i] by rw [h0]; exact List.getElem?_eq_getElem hxi)
  have hk : (xs.map (·.1))[i]? = some (.lit (.int .u8 k)) := by rw [← hx1.1, List.getElem?_map, hi]; rfl
  rw [List.getElem?_map, List.getElem?_eq_getElem hxi, e2] at hk
  simp at hk
  subst hk
  have hv := World.var?_cell hname hv0 i
  rw [hv]
  rw [hc1, Nat.mul_one] at e1
  have h3 := congrArg (fun l : List Value => l[0]?) e1
  simpa [List.getElem?_take, List.getElem?_drop] using h3

/-- The listed table as the layer's variable. -/
theorem gl_tab {W : World} {g : Nat} {ks : List Int} (hG : Globs = fun i => if i = g then ks.map (.int .u8 ·) else []) (h : ∀ i k, ks[i]? = some k → W.cell? ⟨g, i, none⟩ = some (.int .u8 k)) (c : Ctx) (hc : ∀ b o, (W.cell? ⟨b, o, none⟩).isSome = true → c.im b o) : GlR c W := by
  intro i
  rw [hG]
  by_cases e : i = g
  · subst e
    simp only [if_true]
    refine MRel.ofFn fun j a hj => ?_
    rw [List.getElem?_map] at hj
    cases hk : ks[j]? with
    | none => rw [hk] at hj; cases hj
    | some k =>
      rw [hk] at hj
      simp at hj
      subst hj
      have := h j k hk
      refine ⟨hc _ _ (by simp [this]), .int .u8 k, by simpa using this, rfl, by simp [VRel]⟩
  · simp only [if_neg e]; simp [MRel]

end Go.Abs
