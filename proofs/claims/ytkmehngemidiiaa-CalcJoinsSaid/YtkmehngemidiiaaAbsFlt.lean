/- Floats: their bits, by calls without a body; rules for simp. -/
import Derived.Test.YtkmehngemidiiaaAbsRun
set_option linter.unusedVariables false
set_option linter.unusedSimpArgs false
namespace Go.Abs
open Go.RowKit

theorem ext_calls {P : Program} {f : FuncId} {fn : Func} {e : Array Value → Sem Value} {args : List AV} {h : AHeap} {R : AV → AHeap → Prop} (hf : P.funcs[f]? = some fn) (hname : (fn.name == "runtime.NumGoroutine") = false) (hb : fn.body.isNone = true) (hn : Extern.findNext fn = none)
    (he : Extern.find fn = some e) (H : ∀ (c : Ctx) (w : World) (vs : List Value), LRel c w args vs → ∃ u v, (e vs.toArray).run P w = .ok u w ∧ VRel c w v u ∧ R v h) : CallsA P f args h R := by
  refine Or.inr fun B c w vs W L => ?_
  obtain ⟨u, v, h1, h2, h3⟩ := H c w vs L
  refine ⟨c, u, v, h, w, ?_, Ext.refl _ _ _, W, h2, h3⟩
  have hname' : fn.name ≠ "runtime.NumGoroutine" := by simpa using hname
  have hb' : fn.body = none := by simpa using hb
  simp [callFunc, hf, hname', hb', hn, he, h1]

theorem bits_calls {P : Program} {f : FuncId} {fn : Func} (hf : P.funcs[f]? = some fn) (hname : (fn.name == "runtime.NumGoroutine") = false) (hb : fn.body.isNone = true) (hn : Extern.findNext fn = none)
    (he : Extern.find fn = some Extern.MathFloatBits.float64bits) (b : Nat) (h : AHeap) : CallsA P f [.flt .f64 b] h (fun v h2 => v = .int .u64 b ∧ h2 = h) := by
  refine ext_calls hf hname hb hn he fun c w vs L => ?_
  simp only [LRel] at L
  obtain ⟨v, vs', rfl, h2, rfl⟩ := L
  simp only [VRel] at h2
  subst h2
  exact ⟨.int .u64 b, .int .u64 b, rfl, VRel.int_mk _ _ _ _, rfl, rfl⟩

theorem frombits_calls {P : Program} {f : FuncId} {fn : Func} (hf : P.funcs[f]? = some fn) (hname : (fn.name == "runtime.NumGoroutine") = false) (hb : fn.body.isNone = true) (hn : Extern.findNext fn = none)
    (he : Extern.find fn = some Extern.MathFloatBits.float64frombits) (b : Nat) (h : AHeap) : CallsA P f [.int .u64 b] h (fun v h2 => v = .flt .f64 b ∧ h2 = h) := by
  refine ext_calls hf hname hb hn he fun c w vs L => ?_
  simp only [LRel] at L
  obtain ⟨v, vs', rfl, h2, rfl⟩ := L
  have := h2.int_inv
  subst this
  exact ⟨.float .f64 b, .flt .f64 b, rfl, by simp [VRel], rfl, rfl⟩

section
variable {h : AHeap}
theorem binA_flt_eql (ck : CmpK) (k : FloatKind) (a b : Nat) : binA ck .eql (.flt k a) (.flt k b) = some (.bool (k.format.order a b == some .eq)) := by simp [binA, binFlt]
theorem binA_flt_neq (ck : CmpK) (k : FloatKind) (a b : Nat) : binA ck .neq (.flt k a) (.flt k b) = some (.bool (k.format.order a b != some .eq)) := by simp [binA, binFlt]
theorem binA_flt_lss (ck : CmpK) (k : FloatKind) (a b : Nat) : binA ck .lss (.flt k a) (.flt k b) = some (.bool (k.format.order a b == some .lt)) := by simp [binA, binFlt]
theorem binA_flt_leq (ck : CmpK) (k : FloatKind) (a b : Nat) : binA ck .leq (.flt k a) (.flt k b) = some (.bool (k.format.order a b == some .lt || k.format.order a b == some .eq)) := by simp [binA, binFlt]
theorem binA_flt_gtr (ck : CmpK) (k : FloatKind) (a b : Nat) : binA ck .gtr (.flt k a) (.flt k b) = some (.bool (k.format.order a b == some .gt)) := by simp [binA, binFlt]
theorem binA_flt_geq (ck : CmpK) (k : FloatKind) (a b : Nat) : binA ck .geq (.flt k a) (.flt k b) = some (.bool (k.format.order a b == some .gt || k.format.order a b == some .eq)) := by simp [binA, binFlt]
theorem pConv_i2f (k : FloatKind) (k' : IntKind) (n : Int) (h : AHeap) (K : AV → Prop) : pConv (.i2f k) (.int k' n) h K = K (.flt k (k.nearest n)) := rfl
theorem pConv_f2i {k : IntKind} {s : FloatKind} {b : Nat} {n : Int} (hn : floatToIntVal s b k = some n) (h : AHeap) (K : AV → Prop) : pConv (.f2i k) (.flt s b) h K = K (.int k n) := by simp [pConv, hn]
theorem pFArith_some {k : FloatKind} {op : BinOp} {a b r : Nat} (hr : floatBits op k a b = some r) (h : AHeap) (K : AV → AHeap → Prop) : pFArith k op (.flt k a) (.flt k b) h K = K (.flt k r) h := by simp [pFArith, hr]
theorem pFArith_none {k : FloatKind} {op : BinOp} {a b : Nat} (hr : floatBits op k a b = none) (h : AHeap) (K : AV → AHeap → Prop) : pFArith k op (.flt k a) (.flt k b) h K = ∀ r, nanB k r → K (.flt k r) h := by simp [pFArith, hr]
end
theorem cg_pFArith {k : FloatKind} {op : BinOp} {x y u v : AV} {h : AHeap} {K : AV → AHeap → Prop} (h0 : x = y) (h1 : u = v) : pFArith k op x u h K = pFArith k op y v h K := by subst h0; subst h1; rfl

end Go.Abs
