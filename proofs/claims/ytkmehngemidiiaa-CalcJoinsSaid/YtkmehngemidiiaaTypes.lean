/- The program's plain types in Lean: their cells, their bounds, how they are read out of a typed value. -/
import Derived.Test.YtkmehngemidiiaaProg
import Derived.Test.YtkmehngemidiiaaAbsRun
set_option linter.unusedVariables false
set_option linter.unusedSimpArgs false
set_option maxRecDepth 100000
namespace Go.Proofs.Ytkmehngemidiiaa
open Go.Abs

/-- padlock/api.Item -/
structure Api_Item where
  Op : Int
  Bin : Int
  N : Nat
  deriving DecidableEq, Inhabited
def Api_Item.cells (x : Api_Item) : List AV := [.int .i64 x.Op, .int .i64 x.Bin, .int .u64 (x.N : Nat)]
def Api_Item.ok (x : Api_Item) : Prop := okI x.Op ∧ okI x.Bin ∧ okN x.N
theorem Api_Item.of {cs : List AV} (h : TyA Try.prog 44 cs) : ∃ x : Api_Item, cs = x.cells ∧ x.ok := by
  obtain ⟨parts, rfl, hp⟩ := h.inv_struct Try.underlying44
  simp only [List.map_cons, List.map_nil] at hp
  obtain ⟨p0, r0, rfl, t0, hp⟩ := hp.cons_inv
  obtain ⟨p1, r1, rfl, t1, hp⟩ := hp.cons_inv
  obtain ⟨p2, r2, rfl, t2, hp⟩ := hp.cons_inv
  obtain rfl := hp.nil_inv
  obtain ⟨x0, rfl, k0⟩ := ((fun _ h => h.i64_of Try.underlying3 : ∀ cs, TyA Try.prog 3 cs → ∃ x : Int, cs = (encI) x ∧ (okI) x)) _ t0
  obtain ⟨x1, rfl, k1⟩ := ((fun _ h => h.i64_of Try.underlying3 : ∀ cs, TyA Try.prog 3 cs → ∃ x : Int, cs = (encI) x ∧ (okI) x)) _ t1
  obtain ⟨x2, rfl, k2⟩ := ((fun _ h => h.u64_of Try.underlying28 : ∀ cs, TyA Try.prog 28 cs → ∃ x : Nat, cs = (encN) x ∧ (okN) x)) _ t2
  exact ⟨⟨x0, x1, x2⟩, rfl, ⟨k0, k1, k2⟩⟩

theorem NumInts_args {xs : List AV} (h : TyVs Try.prog Try.f3.params.toList xs) : ∃ (x0 : Int) (x1 : Int) (x2 : Int), xs = [.int .i64 x0, .int .i64 x1, .int .i64 x2] ∧ (okI) x0 ∧ (okI) x1 ∧ (okI) x2 := by
  rw [Try.params3] at h
  obtain ⟨a0, b0, rfl, h0, h⟩ := h.cons_inv
  obtain ⟨a1, b1, rfl, h1, h⟩ := h.cons_inv
  obtain ⟨a2, b2, rfl, h2, h⟩ := h.cons_inv
  obtain rfl := h.nil_inv
  obtain ⟨x0, rfl, k0⟩ := h0.one_of (enc := fun x => .int .i64 x) (by kernel_rfl) (fun _ h => h.i64_of Try.underlying3 : ∀ cs, TyA Try.prog 3 cs → ∃ x : Int, cs = (encI) x ∧ (okI) x)
  obtain ⟨x1, rfl, k1⟩ := h1.one_of (enc := fun x => .int .i64 x) (by kernel_rfl) (fun _ h => h.i64_of Try.underlying3 : ∀ cs, TyA Try.prog 3 cs → ∃ x : Int, cs = (encI) x ∧ (okI) x)
  obtain ⟨x2, rfl, k2⟩ := h2.one_of (enc := fun x => .int .i64 x) (by kernel_rfl) (fun _ h => h.i64_of Try.underlying3 : ∀ cs, TyA Try.prog 3 cs → ∃ x : Int, cs = (encI) x ∧ (okI) x)
  exact ⟨x0, x1, x2, rfl, k0, k1, k2⟩

theorem NumReals_args {xs : List AV} (h : TyVs Try.prog Try.f7.params.toList xs) : ∃ (x0 : Int) (x1 : Nat) (x2 : Nat), xs = [.int .i64 x0, .int .u64 (x1 : Nat), .int .u64 (x2 : Nat)] ∧ (okI) x0 ∧ (okN) x1 ∧ (okN) x2 := by
  rw [Try.params7] at h
  obtain ⟨a0, b0, rfl, h0, h⟩ := h.cons_inv
  obtain ⟨a1, b1, rfl, h1, h⟩ := h.cons_inv
  obtain ⟨a2, b2, rfl, h2, h⟩ := h.cons_inv
  obtain rfl := h.nil_inv
  obtain ⟨x0, rfl, k0⟩ := h0.one_of (enc := fun x => .int .i64 x) (by kernel_rfl) (fun _ h => h.i64_of Try.underlying3 : ∀ cs, TyA Try.prog 3 cs → ∃ x : Int, cs = (encI) x ∧ (okI) x)
  obtain ⟨x1, rfl, k1⟩ := h1.one_of (enc := fun x => .int .u64 (x : Nat)) (by kernel_rfl) (fun _ h => h.u64_of Try.underlying28 : ∀ cs, TyA Try.prog 28 cs → ∃ x : Nat, cs = (encN) x ∧ (okN) x)
  obtain ⟨x2, rfl, k2⟩ := h2.one_of (enc := fun x => .int .u64 (x : Nat)) (by kernel_rfl) (fun _ h => h.u64_of Try.underlying28 : ∀ cs, TyA Try.prog 28 cs → ∃ x : Nat, cs = (encN) x ∧ (okN) x)
  exact ⟨x0, x1, x2, rfl, k0, k1, k2⟩

theorem NumOrder_args {xs : List AV} (h : TyVs Try.prog Try.f4.params.toList xs) : ∃ (x0 : Nat) (x1 : Nat), xs = [.int .u64 (x0 : Nat), .int .u64 (x1 : Nat)] ∧ (okN) x0 ∧ (okN) x1 := by
  rw [Try.params4] at h
  obtain ⟨a0, b0, rfl, h0, h⟩ := h.cons_inv
  obtain ⟨a1, b1, rfl, h1, h⟩ := h.cons_inv
  obtain rfl := h.nil_inv
  obtain ⟨x0, rfl, k0⟩ := h0.one_of (enc := fun x => .int .u64 (x : Nat)) (by kernel_rfl) (fun _ h => h.u64_of Try.underlying28 : ∀ cs, TyA Try.prog 28 cs → ∃ x : Nat, cs = (encN) x ∧ (okN) x)
  obtain ⟨x1, rfl, k1⟩ := h1.one_of (enc := fun x => .int .u64 (x : Nat)) (by kernel_rfl) (fun _ h => h.u64_of Try.underlying28 : ∀ cs, TyA Try.prog 28 cs → ∃ x : Nat, cs = (encN) x ∧ (okN) x)
  exact ⟨x0, x1, rfl, k0, k1⟩

theorem NumOdd_args {xs : List AV} (h : TyVs Try.prog Try.f8.params.toList xs) : ∃ (x0 : Int) (x1 : Nat) (x2 : Nat), xs = [.int .i64 x0, .int .u64 (x1 : Nat), .int .u64 (x2 : Nat)] ∧ (okI) x0 ∧ (okN) x1 ∧ (okN) x2 := by
  rw [Try.params8] at h
  obtain ⟨a0, b0, rfl, h0, h⟩ := h.cons_inv
  obtain ⟨a1, b1, rfl, h1, h⟩ := h.cons_inv
  obtain ⟨a2, b2, rfl, h2, h⟩ := h.cons_inv
  obtain rfl := h.nil_inv
  obtain ⟨x0, rfl, k0⟩ := h0.one_of (enc := fun x => .int .i64 x) (by kernel_rfl) (fun _ h => h.i64_of Try.underlying3 : ∀ cs, TyA Try.prog 3 cs → ∃ x : Int, cs = (encI) x ∧ (okI) x)
  obtain ⟨x1, rfl, k1⟩ := h1.one_of (enc := fun x => .int .u64 (x : Nat)) (by kernel_rfl) (fun _ h => h.u64_of Try.underlying28 : ∀ cs, TyA Try.prog 28 cs → ∃ x : Nat, cs = (encN) x ∧ (okN) x)
  obtain ⟨x2, rfl, k2⟩ := h2.one_of (enc := fun x => .int .u64 (x : Nat)) (by kernel_rfl) (fun _ h => h.u64_of Try.underlying28 : ∀ cs, TyA Try.prog 28 cs → ∃ x : Nat, cs = (encN) x ∧ (okN) x)
  exact ⟨x0, x1, x2, rfl, k0, k1, k2⟩

theorem NumSigns_args {xs : List AV} (h : TyVs Try.prog Try.f9.params.toList xs) : ∃ (x0 : Nat) (x1 : Nat), xs = [.int .u64 (x0 : Nat), .int .u64 (x1 : Nat)] ∧ (okN) x0 ∧ (okN) x1 := by
  rw [Try.params9] at h
  obtain ⟨a0, b0, rfl, h0, h⟩ := h.cons_inv
  obtain ⟨a1, b1, rfl, h1, h⟩ := h.cons_inv
  obtain rfl := h.nil_inv
  obtain ⟨x0, rfl, k0⟩ := h0.one_of (enc := fun x => .int .u64 (x : Nat)) (by kernel_rfl) (fun _ h => h.u64_of Try.underlying28 : ∀ cs, TyA Try.prog 28 cs → ∃ x : Nat, cs = (encN) x ∧ (okN) x)
  obtain ⟨x1, rfl, k1⟩ := h1.one_of (enc := fun x => .int .u64 (x : Nat)) (by kernel_rfl) (fun _ h => h.u64_of Try.underlying28 : ∀ cs, TyA Try.prog 28 cs → ∃ x : Nat, cs = (encN) x ∧ (okN) x)
  exact ⟨x0, x1, rfl, k0, k1⟩

theorem NumDivs_args {xs : List AV} (h : TyVs Try.prog Try.f6.params.toList xs) : ∃ (x0 : Int) (x1 : Int), xs = [.int .i64 x0, .int .i64 x1] ∧ (okI) x0 ∧ (okI) x1 := by
  rw [Try.params6] at h
  obtain ⟨a0, b0, rfl, h0, h⟩ := h.cons_inv
  obtain ⟨a1, b1, rfl, h1, h⟩ := h.cons_inv
  obtain rfl := h.nil_inv
  obtain ⟨x0, rfl, k0⟩ := h0.one_of (enc := fun x => .int .i64 x) (by kernel_rfl) (fun _ h => h.i64_of Try.underlying3 : ∀ cs, TyA Try.prog 3 cs → ∃ x : Int, cs = (encI) x ∧ (okI) x)
  obtain ⟨x1, rfl, k1⟩ := h1.one_of (enc := fun x => .int .i64 x) (by kernel_rfl) (fun _ h => h.i64_of Try.underlying3 : ∀ cs, TyA Try.prog 3 cs → ∃ x : Int, cs = (encI) x ∧ (okI) x)
  exact ⟨x0, x1, rfl, k0, k1⟩

theorem NumWhole_args {xs : List AV} (h : TyVs Try.prog Try.f5.params.toList xs) : ∃ (x0 : Int) (x1 : Int), xs = [.int .i64 x0, .int .i64 x1] ∧ (okI) x0 ∧ (okI) x1 := by
  rw [Try.params5] at h
  obtain ⟨a0, b0, rfl, h0, h⟩ := h.cons_inv
  obtain ⟨a1, b1, rfl, h1, h⟩ := h.cons_inv
  obtain rfl := h.nil_inv
  obtain ⟨x0, rfl, k0⟩ := h0.one_of (enc := fun x => .int .i64 x) (by kernel_rfl) (fun _ h => h.i64_of Try.underlying3 : ∀ cs, TyA Try.prog 3 cs → ∃ x : Int, cs = (encI) x ∧ (okI) x)
  obtain ⟨x1, rfl, k1⟩ := h1.one_of (enc := fun x => .int .i64 x) (by kernel_rfl) (fun _ h => h.i64_of Try.underlying3 : ∀ cs, TyA Try.prog 3 cs → ∃ x : Int, cs = (encI) x ∧ (okI) x)
  exact ⟨x0, x1, rfl, k0, k1⟩

theorem CalcJoins_args {xs : List AV} (h : TyVs Try.prog Try.f10.params.toList xs) : ∃ (x0 : Option (List Api_Item)) (x1 : Option (List Api_Item)) (x2 : Option (List Nat)) (x3 : Int), xs = [slAV 3 (Api_Item.cells) x0, slAV 3 (Api_Item.cells) x1, slAV 1 (encN) x2, .int .i64 x3] ∧ (okSl (Api_Item.ok)) x0 ∧ (okSl (Api_Item.ok)) x1 ∧ (okSl (okN)) x2 ∧ (okI) x3 := by
  rw [Try.params10] at h
  obtain ⟨a0, b0, rfl, h0, h⟩ := h.cons_inv
  obtain ⟨a1, b1, rfl, h1, h⟩ := h.cons_inv
  obtain ⟨a2, b2, rfl, h2, h⟩ := h.cons_inv
  obtain ⟨a3, b3, rfl, h3, h⟩ := h.cons_inv
  obtain rfl := h.nil_inv
  obtain ⟨x0, rfl, k0⟩ := h0.one_of (enc := fun x => slAV 3 (Api_Item.cells) x) (by kernel_rfl) (fun _ h => h.sl_of Try.underlying40 (show Try.prog.cellsOf 44 = 3 by kernel_rfl) (by omega) (fun _ h => Api_Item.of h) : ∀ cs, TyA Try.prog 40 cs → ∃ x : Option (List Api_Item), cs = (fun o => [slAV 3 (Api_Item.cells) o]) x ∧ (okSl (Api_Item.ok)) x)
  obtain ⟨x1, rfl, k1⟩ := h1.one_of (enc := fun x => slAV 3 (Api_Item.cells) x) (by kernel_rfl) (fun _ h => h.sl_of Try.underlying40 (show Try.prog.cellsOf 44 = 3 by kernel_rfl) (by omega) (fun _ h => Api_Item.of h) : ∀ cs, TyA Try.prog 40 cs → ∃ x : Option (List Api_Item), cs = (fun o => [slAV 3 (Api_Item.cells) o]) x ∧ (okSl (Api_Item.ok)) x)
  obtain ⟨x2, rfl, k2⟩ := h2.one_of (enc := fun x => slAV 1 (encN) x) (by kernel_rfl) (fun _ h => h.sl_of Try.underlying41 (show Try.prog.cellsOf 28 = 1 by kernel_rfl) (by omega) (fun _ h => h.u64_of Try.underlying28) : ∀ cs, TyA Try.prog 41 cs → ∃ x : Option (List Nat), cs = (fun o => [slAV 1 (encN) o]) x ∧ (okSl (okN)) x)
  obtain ⟨x3, rfl, k3⟩ := h3.one_of (enc := fun x => .int .i64 x) (by kernel_rfl) (fun _ h => h.i64_of Try.underlying3 : ∀ cs, TyA Try.prog 3 cs → ∃ x : Int, cs = (encI) x ∧ (okI) x)
  exact ⟨x0, x1, x2, x3, rfl, k0, k1, k2, k3⟩

theorem CalcTraps_args {xs : List AV} (h : TyVs Try.prog Try.f11.params.toList xs) : ∃ (x0 : Option (List Api_Item)) (x1 : Option (List Nat)) (x2 : Option (List Int)), xs = [slAV 3 (Api_Item.cells) x0, slAV 1 (encN) x1, slAV 1 (encI) x2] ∧ (okSl (Api_Item.ok)) x0 ∧ (okSl (okN)) x1 ∧ (okSl (okI)) x2 := by
  rw [Try.params11] at h
  obtain ⟨a0, b0, rfl, h0, h⟩ := h.cons_inv
  obtain ⟨a1, b1, rfl, h1, h⟩ := h.cons_inv
  obtain ⟨a2, b2, rfl, h2, h⟩ := h.cons_inv
  obtain rfl := h.nil_inv
  obtain ⟨x0, rfl, k0⟩ := h0.one_of (enc := fun x => slAV 3 (Api_Item.cells) x) (by kernel_rfl) (fun _ h => h.sl_of Try.underlying40 (show Try.prog.cellsOf 44 = 3 by kernel_rfl) (by omega) (fun _ h => Api_Item.of h) : ∀ cs, TyA Try.prog 40 cs → ∃ x : Option (List Api_Item), cs = (fun o => [slAV 3 (Api_Item.cells) o]) x ∧ (okSl (Api_Item.ok)) x)
  obtain ⟨x1, rfl, k1⟩ := h1.one_of (enc := fun x => slAV 1 (encN) x) (by kernel_rfl) (fun _ h => h.sl_of Try.underlying41 (show Try.prog.cellsOf 28 = 1 by kernel_rfl) (by omega) (fun _ h => h.u64_of Try.underlying28) : ∀ cs, TyA Try.prog 41 cs → ∃ x : Option (List Nat), cs = (fun o => [slAV 1 (encN) o]) x ∧ (okSl (okN)) x)
  obtain ⟨x2, rfl, k2⟩ := h2.one_of (enc := fun x => slAV 1 (encI) x) (by kernel_rfl) (fun _ h => h.sl_of Try.underlying50 (show Try.prog.cellsOf 3 = 1 by kernel_rfl) (by omega) (fun _ h => h.i64_of Try.underlying3) : ∀ cs, TyA Try.prog 50 cs → ∃ x : Option (List Int), cs = (fun o => [slAV 1 (encI) o]) x ∧ (okSl (okI)) x)
  exact ⟨x0, x1, x2, rfl, k0, k1, k2⟩

theorem CalcLong_args {xs : List AV} (h : TyVs Try.prog Try.f12.params.toList xs) : ∃ (x0 : Nat) (x1 : Int), xs = [.int .u64 (x0 : Nat), .int .i64 x1] ∧ (okN) x0 ∧ (okI) x1 := by
  rw [Try.params12] at h
  obtain ⟨a0, b0, rfl, h0, h⟩ := h.cons_inv
  obtain ⟨a1, b1, rfl, h1, h⟩ := h.cons_inv
  obtain rfl := h.nil_inv
  obtain ⟨x0, rfl, k0⟩ := h0.one_of (enc := fun x => .int .u64 (x : Nat)) (by kernel_rfl) (fun _ h => h.u64_of Try.underlying28 : ∀ cs, TyA Try.prog 28 cs → ∃ x : Nat, cs = (encN) x ∧ (okN) x)
  obtain ⟨x1, rfl, k1⟩ := h1.one_of (enc := fun x => .int .i64 x) (by kernel_rfl) (fun _ h => h.i64_of Try.underlying3 : ∀ cs, TyA Try.prog 3 cs → ∃ x : Int, cs = (encI) x ∧ (okI) x)
  exact ⟨x0, x1, rfl, k0, k1⟩

theorem CalcIs_args {xs : List AV} (h : TyVs Try.prog Try.f13.params.toList xs) : ∃ (x0 : Option (List Api_Item)) (x1 : Option (List Nat)) (x2 : Option (List Int)) (x3 : Int), xs = [slAV 3 (Api_Item.cells) x0, slAV 1 (encN) x1, slAV 1 (encI) x2, .int .i64 x3] ∧ (okSl (Api_Item.ok)) x0 ∧ (okSl (okN)) x1 ∧ (okSl (okI)) x2 ∧ (okI) x3 := by
  rw [Try.params13] at h
  obtain ⟨a0, b0, rfl, h0, h⟩ := h.cons_inv
  obtain ⟨a1, b1, rfl, h1, h⟩ := h.cons_inv
  obtain ⟨a2, b2, rfl, h2, h⟩ := h.cons_inv
  obtain ⟨a3, b3, rfl, h3, h⟩ := h.cons_inv
  obtain rfl := h.nil_inv
  obtain ⟨x0, rfl, k0⟩ := h0.one_of (enc := fun x => slAV 3 (Api_Item.cells) x) (by kernel_rfl) (fun _ h => h.sl_of Try.underlying40 (show Try.prog.cellsOf 44 = 3 by kernel_rfl) (by omega) (fun _ h => Api_Item.of h) : ∀ cs, TyA Try.prog 40 cs → ∃ x : Option (List Api_Item), cs = (fun o => [slAV 3 (Api_Item.cells) o]) x ∧ (okSl (Api_Item.ok)) x)
  obtain ⟨x1, rfl, k1⟩ := h1.one_of (enc := fun x => slAV 1 (encN) x) (by kernel_rfl) (fun _ h => h.sl_of Try.underlying41 (show Try.prog.cellsOf 28 = 1 by kernel_rfl) (by omega) (fun _ h => h.u64_of Try.underlying28) : ∀ cs, TyA Try.prog 41 cs → ∃ x : Option (List Nat), cs = (fun o => [slAV 1 (encN) o]) x ∧ (okSl (okN)) x)
  obtain ⟨x2, rfl, k2⟩ := h2.one_of (enc := fun x => slAV 1 (encI) x) (by kernel_rfl) (fun _ h => h.sl_of Try.underlying50 (show Try.prog.cellsOf 3 = 1 by kernel_rfl) (by omega) (fun _ h => h.i64_of Try.underlying3) : ∀ cs, TyA Try.prog 50 cs → ∃ x : Option (List Int), cs = (fun o => [slAV 1 (encI) o]) x ∧ (okSl (okI)) x)
  obtain ⟨x3, rfl, k3⟩ := h3.one_of (enc := fun x => .int .i64 x) (by kernel_rfl) (fun _ h => h.i64_of Try.underlying3 : ∀ cs, TyA Try.prog 3 cs → ∃ x : Int, cs = (encI) x ∧ (okI) x)
  exact ⟨x0, x1, x2, x3, rfl, k0, k1, k2, k3⟩

theorem CalcHangs_args {xs : List AV} (h : TyVs Try.prog Try.f14.params.toList xs) : ∃ (x0 : Option (List Api_Item)) (x1 : Option (List Nat)) (x2 : Option (List Nat)) (x3 : Option (List Int)), xs = [slAV 3 (Api_Item.cells) x0, slAV 1 (encN) x1, slAV 1 (encN) x2, slAV 1 (encI) x3] ∧ (okSl (Api_Item.ok)) x0 ∧ (okSl (okN)) x1 ∧ (okSl (okN)) x2 ∧ (okSl (okI)) x3 := by
  rw [Try.params14] at h
  obtain ⟨a0, b0, rfl, h0, h⟩ := h.cons_inv
  obtain ⟨a1, b1, rfl, h1, h⟩ := h.cons_inv
  obtain ⟨a2, b2, rfl, h2, h⟩ := h.cons_inv
  obtain ⟨a3, b3, rfl, h3, h⟩ := h.cons_inv
  obtain rfl := h.nil_inv
  obtain ⟨x0, rfl, k0⟩ := h0.one_of (enc := fun x => slAV 3 (Api_Item.cells) x) (by kernel_rfl) (fun _ h => h.sl_of Try.underlying40 (show Try.prog.cellsOf 44 = 3 by kernel_rfl) (by omega) (fun _ h => Api_Item.of h) : ∀ cs, TyA Try.prog 40 cs → ∃ x : Option (List Api_Item), cs = (fun o => [slAV 3 (Api_Item.cells) o]) x ∧ (okSl (Api_Item.ok)) x)
  obtain ⟨x1, rfl, k1⟩ := h1.one_of (enc := fun x => slAV 1 (encN) x) (by kernel_rfl) (fun _ h => h.sl_of Try.underlying41 (show Try.prog.cellsOf 28 = 1 by kernel_rfl) (by omega) (fun _ h => h.u64_of Try.underlying28) : ∀ cs, TyA Try.prog 41 cs → ∃ x : Option (List Nat), cs = (fun o => [slAV 1 (encN) o]) x ∧ (okSl (okN)) x)
  obtain ⟨x2, rfl, k2⟩ := h2.one_of (enc := fun x => slAV 1 (encN) x) (by kernel_rfl) (fun _ h => h.sl_of Try.underlying41 (show Try.prog.cellsOf 28 = 1 by kernel_rfl) (by omega) (fun _ h => h.u64_of Try.underlying28) : ∀ cs, TyA Try.prog 41 cs → ∃ x : Option (List Nat), cs = (fun o => [slAV 1 (encN) o]) x ∧ (okSl (okN)) x)
  obtain ⟨x3, rfl, k3⟩ := h3.one_of (enc := fun x => slAV 1 (encI) x) (by kernel_rfl) (fun _ h => h.sl_of Try.underlying50 (show Try.prog.cellsOf 3 = 1 by kernel_rfl) (by omega) (fun _ h => h.i64_of Try.underlying3) : ∀ cs, TyA Try.prog 50 cs → ∃ x : Option (List Int), cs = (fun o => [slAV 1 (encI) o]) x ∧ (okSl (okI)) x)
  exact ⟨x0, x1, x2, x3, rfl, k0, k1, k2, k3⟩

end Go.Proofs.Ytkmehngemidiiaa
