/- The program's plain types in Lean: their cells, their bounds, how they are read out of a typed value. -/
import Derived.Test.YtppldbldpphlmaaProg
import Derived.Test.YtppldbldpphlmaaAbsRun
set_option linter.unusedVariables false
set_option linter.unusedSimpArgs false
set_option maxRecDepth 100000
namespace Go.Proofs.Ytppldbldpphlmaa
open Go.Abs

/-- padlock/padlocklaw17.Call -/
structure Law17_Call where
  Kind : Int
  Thread : Int
  Site : Int
  Class : Int
  N : Int
  Ref : Nat
  V : Nat
  deriving DecidableEq, Inhabited
def Law17_Call.cells (x : Law17_Call) : List AV := [.int .i64 x.Kind, .int .i64 x.Thread, .int .i64 x.Site, .int .i64 x.Class, .int .i64 x.N, .int .u64 (x.Ref : Nat), .int .u64 (x.V : Nat)]
def Law17_Call.ok (x : Law17_Call) : Prop := okI x.Kind ∧ okI x.Thread ∧ okI x.Site ∧ okI x.Class ∧ okI x.N ∧ okN x.Ref ∧ okN x.V
theorem Law17_Call.of {cs : List AV} (h : TyA Try.prog 42 cs) : ∃ x : Law17_Call, cs = x.cells ∧ x.ok := by
  obtain ⟨parts, rfl, hp⟩ := h.inv_struct Try.underlying42
  simp only [List.map_cons, List.map_nil] at hp
  obtain ⟨p0, r0, rfl, t0, hp⟩ := hp.cons_inv
  obtain ⟨p1, r1, rfl, t1, hp⟩ := hp.cons_inv
  obtain ⟨p2, r2, rfl, t2, hp⟩ := hp.cons_inv
  obtain ⟨p3, r3, rfl, t3, hp⟩ := hp.cons_inv
  obtain ⟨p4, r4, rfl, t4, hp⟩ := hp.cons_inv
  obtain ⟨p5, r5, rfl, t5, hp⟩ := hp.cons_inv
  obtain ⟨p6, r6, rfl, t6, hp⟩ := hp.cons_inv
  obtain rfl := hp.nil_inv
  obtain ⟨x0, rfl, k0⟩ := ((fun _ h => h.i64_of Try.underlying3 : ∀ cs, TyA Try.prog 3 cs → ∃ x : Int, cs = (encI) x ∧ (okI) x)) _ t0
  obtain ⟨x1, rfl, k1⟩ := ((fun _ h => h.i64_of Try.underlying3 : ∀ cs, TyA Try.prog 3 cs → ∃ x : Int, cs = (encI) x ∧ (okI) x)) _ t1
  obtain ⟨x2, rfl, k2⟩ := ((fun _ h => h.i64_of Try.underlying3 : ∀ cs, TyA Try.prog 3 cs → ∃ x : Int, cs = (encI) x ∧ (okI) x)) _ t2
  obtain ⟨x3, rfl, k3⟩ := ((fun _ h => h.i64_of Try.underlying3 : ∀ cs, TyA Try.prog 3 cs → ∃ x : Int, cs = (encI) x ∧ (okI) x)) _ t3
  obtain ⟨x4, rfl, k4⟩ := ((fun _ h => h.i64_of Try.underlying3 : ∀ cs, TyA Try.prog 3 cs → ∃ x : Int, cs = (encI) x ∧ (okI) x)) _ t4
  obtain ⟨x5, rfl, k5⟩ := ((fun _ h => h.u64_of Try.underlying28 : ∀ cs, TyA Try.prog 28 cs → ∃ x : Nat, cs = (encN) x ∧ (okN) x)) _ t5
  obtain ⟨x6, rfl, k6⟩ := ((fun _ h => h.u64_of Try.underlying28 : ∀ cs, TyA Try.prog 28 cs → ∃ x : Nat, cs = (encN) x ∧ (okN) x)) _ t6
  exact ⟨⟨x0, x1, x2, x3, x4, x5, x6⟩, rfl, ⟨k0, k1, k2, k3, k4, k5, k6⟩⟩

theorem HeapDoes_args {xs : List AV} (h : TyVs Try.prog Try.f3.params.toList xs) : ∃ (x0 : Int) (x1 : Option (List Law17_Call)), xs = [.int .i64 x0, slAV 7 (Law17_Call.cells) x1] ∧ (okI) x0 ∧ (okSl (Law17_Call.ok)) x1 := by
  rw [Try.params3] at h
  obtain ⟨a0, b0, rfl, h0, h⟩ := h.cons_inv
  obtain ⟨a1, b1, rfl, h1, h⟩ := h.cons_inv
  obtain rfl := h.nil_inv
  obtain ⟨x0, rfl, k0⟩ := h0.one_of (enc := fun x => .int .i64 x) (by kernel_rfl) (fun _ h => h.i64_of Try.underlying3 : ∀ cs, TyA Try.prog 3 cs → ∃ x : Int, cs = (encI) x ∧ (okI) x)
  obtain ⟨x1, rfl, k1⟩ := h1.one_of (enc := fun x => slAV 7 (Law17_Call.cells) x) (by kernel_rfl) (fun _ h => h.sl_of Try.underlying22 (show Try.prog.cellsOf 42 = 7 by kernel_rfl) (by omega) (fun _ h => Law17_Call.of h) : ∀ cs, TyA Try.prog 22 cs → ∃ x : Option (List Law17_Call), cs = (fun o => [slAV 7 (Law17_Call.cells) o]) x ∧ (okSl (Law17_Call.ok)) x)
  exact ⟨x0, x1, rfl, k0, k1⟩

end Go.Proofs.Ytppldbldpphlmaa
