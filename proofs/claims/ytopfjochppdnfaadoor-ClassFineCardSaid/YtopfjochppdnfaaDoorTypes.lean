/- The program's plain types in Lean: their cells, their bounds, how they are read out of a typed value. -/
import Derived.Test.YtopfjochppdnfaaDoorProg
import Derived.Test.YtopfjochppdnfaaDoorAbsRun
set_option linter.unusedVariables false
set_option linter.unusedSimpArgs false
set_option maxRecDepth 100000
namespace Go.Proofs.YtopfjochppdnfaaDoor
open Go.Abs

theorem ClassIs_args {xs : List AV} (h : TyVs Tryd.prog Tryd.f3.params.toList xs) : ∃ (x0 : Int) (x1 : Option (List (Option (List Nat)))) (x2 : Nat), xs = [.int .i64 x0, slAV 1 (fun o => [slAV 1 (encN) o]) x1, .int .u64 (x2 : Nat)] ∧ (okI) x0 ∧ (okSl (okSl (okN))) x1 ∧ (okN) x2 := by
  rw [Tryd.params3] at h
  obtain ⟨a0, b0, rfl, h0, h⟩ := h.cons_inv
  obtain ⟨a1, b1, rfl, h1, h⟩ := h.cons_inv
  obtain ⟨a2, b2, rfl, h2, h⟩ := h.cons_inv
  obtain rfl := h.nil_inv
  obtain ⟨x0, rfl, k0⟩ := h0.one_of (enc := fun x => .int .i64 x) (by kernel_rfl) (fun _ h => h.i64_of Tryd.underlying3 : ∀ cs, TyA Tryd.prog 3 cs → ∃ x : Int, cs = (encI) x ∧ (okI) x)
  obtain ⟨x1, rfl, k1⟩ := h1.one_of (enc := fun x => slAV 1 (fun o => [slAV 1 (encN) o]) x) (by kernel_rfl) (fun _ h => h.sl_of Tryd.underlying22 (show Tryd.prog.cellsOf 27 = 1 by kernel_rfl) (by omega) (fun _ h => h.sl_of Tryd.underlying27 (show Tryd.prog.cellsOf 23 = 1 by kernel_rfl) (by omega) (fun _ h => h.u64_of Tryd.underlying23)) : ∀ cs, TyA Tryd.prog 22 cs → ∃ x : Option (List (Option (List Nat))), cs = (fun o => [slAV 1 (fun o => [slAV 1 (encN) o]) o]) x ∧ (okSl (okSl (okN))) x)
  obtain ⟨x2, rfl, k2⟩ := h2.one_of (enc := fun x => .int .u64 (x : Nat)) (by kernel_rfl) (fun _ h => h.u64_of Tryd.underlying23 : ∀ cs, TyA Tryd.prog 23 cs → ∃ x : Nat, cs = (encN) x ∧ (okN) x)
  exact ⟨x0, x1, x2, rfl, k0, k1, k2⟩

theorem ClassFine_args {xs : List AV} (h : TyVs Tryd.prog Tryd.f4.params.toList xs) : ∃ (x0 : Int) (x1 : Option (List (Option (List Nat)))), xs = [.int .i64 x0, slAV 1 (fun o => [slAV 1 (encN) o]) x1] ∧ (okI) x0 ∧ (okSl (okSl (okN))) x1 := by
  rw [Tryd.params4] at h
  obtain ⟨a0, b0, rfl, h0, h⟩ := h.cons_inv
  obtain ⟨a1, b1, rfl, h1, h⟩ := h.cons_inv
  obtain rfl := h.nil_inv
  obtain ⟨x0, rfl, k0⟩ := h0.one_of (enc := fun x => .int .i64 x) (by kernel_rfl) (fun _ h => h.i64_of Tryd.underlying3 : ∀ cs, TyA Tryd.prog 3 cs → ∃ x : Int, cs = (encI) x ∧ (okI) x)
  obtain ⟨x1, rfl, k1⟩ := h1.one_of (enc := fun x => slAV 1 (fun o => [slAV 1 (encN) o]) x) (by kernel_rfl) (fun _ h => h.sl_of Tryd.underlying22 (show Tryd.prog.cellsOf 27 = 1 by kernel_rfl) (by omega) (fun _ h => h.sl_of Tryd.underlying27 (show Tryd.prog.cellsOf 23 = 1 by kernel_rfl) (by omega) (fun _ h => h.u64_of Tryd.underlying23)) : ∀ cs, TyA Tryd.prog 22 cs → ∃ x : Option (List (Option (List Nat))), cs = (fun o => [slAV 1 (fun o => [slAV 1 (encN) o]) o]) x ∧ (okSl (okSl (okN))) x)
  exact ⟨x0, x1, rfl, k0, k1⟩

theorem ClassMore_args {xs : List AV} (h : TyVs Tryd.prog Tryd.f5.params.toList xs) : ∃ (x0 : Int) (x1 : Option (List (Option (List Nat)))) (x2 : Nat), xs = [.int .i64 x0, slAV 1 (fun o => [slAV 1 (encN) o]) x1, .int .u64 (x2 : Nat)] ∧ (okI) x0 ∧ (okSl (okSl (okN))) x1 ∧ (okN) x2 := by
  rw [Tryd.params5] at h
  obtain ⟨a0, b0, rfl, h0, h⟩ := h.cons_inv
  obtain ⟨a1, b1, rfl, h1, h⟩ := h.cons_inv
  obtain ⟨a2, b2, rfl, h2, h⟩ := h.cons_inv
  obtain rfl := h.nil_inv
  obtain ⟨x0, rfl, k0⟩ := h0.one_of (enc := fun x => .int .i64 x) (by kernel_rfl) (fun _ h => h.i64_of Tryd.underlying3 : ∀ cs, TyA Tryd.prog 3 cs → ∃ x : Int, cs = (encI) x ∧ (okI) x)
  obtain ⟨x1, rfl, k1⟩ := h1.one_of (enc := fun x => slAV 1 (fun o => [slAV 1 (encN) o]) x) (by kernel_rfl) (fun _ h => h.sl_of Tryd.underlying22 (show Tryd.prog.cellsOf 27 = 1 by kernel_rfl) (by omega) (fun _ h => h.sl_of Tryd.underlying27 (show Tryd.prog.cellsOf 23 = 1 by kernel_rfl) (by omega) (fun _ h => h.u64_of Tryd.underlying23)) : ∀ cs, TyA Tryd.prog 22 cs → ∃ x : Option (List (Option (List Nat))), cs = (fun o => [slAV 1 (fun o => [slAV 1 (encN) o]) o]) x ∧ (okSl (okSl (okN))) x)
  obtain ⟨x2, rfl, k2⟩ := h2.one_of (enc := fun x => .int .u64 (x : Nat)) (by kernel_rfl) (fun _ h => h.u64_of Tryd.underlying23 : ∀ cs, TyA Tryd.prog 23 cs → ∃ x : Nat, cs = (encN) x ∧ (okN) x)
  exact ⟨x0, x1, x2, rfl, k0, k1, k2⟩

/-- padlock/api.Sets -/
structure Api_Sets where
  Slots : Option (List (Option (List Nat)))
  Globals : Option (List Nat)
  Fields : Option (List (Option (List Nat)))
  deriving DecidableEq, Inhabited
def Api_Sets.cells (x : Api_Sets) : List AV := [slAV 1 (fun o => [slAV 1 (encN) o]) x.Slots, slAV 1 (encN) x.Globals, slAV 1 (fun o => [slAV 1 (encN) o]) x.Fields]
def Api_Sets.ok (x : Api_Sets) : Prop := (okSl (okSl (okN))) x.Slots ∧ (okSl (okN)) x.Globals ∧ (okSl (okSl (okN))) x.Fields
theorem Api_Sets.of {cs : List AV} (h : TyA Tryd.prog 29 cs) : ∃ x : Api_Sets, cs = x.cells ∧ x.ok := by
  obtain ⟨parts, rfl, hp⟩ := h.inv_struct Tryd.underlying29
  simp only [List.map_cons, List.map_nil] at hp
  obtain ⟨p0, r0, rfl, t0, hp⟩ := hp.cons_inv
  obtain ⟨p1, r1, rfl, t1, hp⟩ := hp.cons_inv
  obtain ⟨p2, r2, rfl, t2, hp⟩ := hp.cons_inv
  obtain rfl := hp.nil_inv
  obtain ⟨x0, rfl, k0⟩ := ((fun _ h => h.sl_of Tryd.underlying22 (show Tryd.prog.cellsOf 27 = 1 by kernel_rfl) (by omega) (fun _ h => h.sl_of Tryd.underlying27 (show Tryd.prog.cellsOf 23 = 1 by kernel_rfl) (by omega) (fun _ h => h.u64_of Tryd.underlying23)) : ∀ cs, TyA Tryd.prog 22 cs → ∃ x : Option (List (Option (List Nat))), cs = (fun o => [slAV 1 (fun o => [slAV 1 (encN) o]) o]) x ∧ (okSl (okSl (okN))) x)) _ t0
  obtain ⟨x1, rfl, k1⟩ := ((fun _ h => h.sl_of Tryd.underlying27 (show Tryd.prog.cellsOf 23 = 1 by kernel_rfl) (by omega) (fun _ h => h.u64_of Tryd.underlying23) : ∀ cs, TyA Tryd.prog 27 cs → ∃ x : Option (List Nat), cs = (fun o => [slAV 1 (encN) o]) x ∧ (okSl (okN)) x)) _ t1
  obtain ⟨x2, rfl, k2⟩ := ((fun _ h => h.sl_of Tryd.underlying22 (show Tryd.prog.cellsOf 27 = 1 by kernel_rfl) (by omega) (fun _ h => h.sl_of Tryd.underlying27 (show Tryd.prog.cellsOf 23 = 1 by kernel_rfl) (by omega) (fun _ h => h.u64_of Tryd.underlying23)) : ∀ cs, TyA Tryd.prog 22 cs → ∃ x : Option (List (Option (List Nat))), cs = (fun o => [slAV 1 (fun o => [slAV 1 (encN) o]) o]) x ∧ (okSl (okSl (okN))) x)) _ t2
  exact ⟨⟨x0, x1, x2⟩, rfl, ⟨k0, k1, k2⟩⟩
theorem Api_Sets.c0 (x : Api_Sets) (K : AV → Prop) : pCells none x.cells 0 K = K (slAV 1 (fun o => [slAV 1 (encN) o]) x.Slots) := by simp [pCells, Api_Sets.cells]
theorem Api_Sets.c1 (x : Api_Sets) (K : AV → Prop) : pCells none x.cells 1 K = K (slAV 1 (encN) x.Globals) := by simp [pCells, Api_Sets.cells]
theorem Api_Sets.c2 (x : Api_Sets) (K : AV → Prop) : pCells none x.cells 2 K = K (slAV 1 (fun o => [slAV 1 (encN) o]) x.Fields) := by simp [pCells, Api_Sets.cells]
theorem Api_Sets.call (x : Api_Sets) (K : AV → Prop) : pCells (some 3) x.cells 0 K = K (.agg x.cells) := by simp [pCells, Api_Sets.cells]
theorem Api_Sets.put (x : Api_Sets) (h : AHeap) (ty : TypeId) (K : AHeap → Prop) : pStore 3 (.ptr h.next 0) (.agg x.cells) (h.push (.row ty [.nils, .nils, .nils])) K = K (h.push (.row ty x.cells)) := pStore_push (by rfl) (by rfl) K
theorem Api_Sets.r : (type_of% @Api_Sets.c0) ∧ (type_of% @Api_Sets.c1) ∧ (type_of% @Api_Sets.c2) ∧ (type_of% @Api_Sets.call) ∧ (type_of% @Api_Sets.put) := ⟨@Api_Sets.c0, @Api_Sets.c1, @Api_Sets.c2, @Api_Sets.call, @Api_Sets.put⟩

end Go.Proofs.YtopfjochppdnfaaDoor
