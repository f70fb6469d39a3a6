/- Own texts, merged: Types, VcK. -/
import Derived.Test.YtopfjochppdnfaaDoorM3
import Derived.Test.YtopfjochppdnfaaDoorProg
set_option linter.unusedVariables false
set_option linter.unusedSimpArgs false
section
/- The program's plain types in Lean: their cells, their bounds, how they are read out of a typed value. -/
set_option maxRecDepth 100000
namespace Go.Proofs.YtopfjochppdnfaaDoor
open Go.Abs
structure Api_Local where
  Kind : Int
  Rec : Int
  Once : Bool
  deriving DecidableEq, Inhabited
def Api_Local.cells (x : Api_Local) : List AV := [.int .i64 x.Kind, .int .i64 x.Rec, .bool x.Once]
def Api_Local.ok (x : Api_Local) : Prop := okI x.Kind ∧ okI x.Rec ∧ okT x.Once
theorem Api_Local.of {cs : List AV} (h : TyA Tryd.prog 69 cs) : ∃ x : Api_Local, cs = x.cells ∧ x.ok := by
  obtain ⟨parts, rfl, hp⟩ := h.inv_struct Tryd.underlying69
  simp only [List.map_cons, List.map_nil] at hp
  obtain ⟨p0, r0, rfl, t0, hp⟩ := hp.cons_inv
  obtain ⟨p1, r1, rfl, t1, hp⟩ := hp.cons_inv
  obtain ⟨p2, r2, rfl, t2, hp⟩ := hp.cons_inv
  obtain rfl := hp.nil_inv
  obtain ⟨x0, rfl, k0⟩ := ((fun _ h => h.i64_of Tryd.underlying3 : ∀ cs, TyA Tryd.prog 3 cs → ∃ x : Int, cs = (encI) x ∧ (okI) x)) _ t0
  obtain ⟨x1, rfl, k1⟩ := ((fun _ h => h.i64_of Tryd.underlying3 : ∀ cs, TyA Tryd.prog 3 cs → ∃ x : Int, cs = (encI) x ∧ (okI) x)) _ t1
  obtain ⟨x2, rfl, k2⟩ := ((fun _ h => h.bool_of Tryd.underlying4 : ∀ cs, TyA Tryd.prog 4 cs → ∃ x : Bool, cs = (encT) x ∧ (okT) x)) _ t2
  exact ⟨⟨x0, x1, x2⟩, rfl, ⟨k0, k1, k2⟩⟩
theorem Api_Local.c0 (x : Api_Local) (K : AV → Prop) : pCells none x.cells 0 K = K (.int .i64 x.Kind) := by simp [pCells, Api_Local.cells]
theorem Api_Local.c1 (x : Api_Local) (K : AV → Prop) : pCells none x.cells 1 K = K (.int .i64 x.Rec) := by simp [pCells, Api_Local.cells]
theorem Api_Local.c2 (x : Api_Local) (K : AV → Prop) : pCells none x.cells 2 K = K (.bool x.Once) := by simp [pCells, Api_Local.cells]
theorem Api_Local.call (x : Api_Local) (K : AV → Prop) : pCells (some 3) x.cells 0 K = K (.agg x.cells) := by simp [pCells, Api_Local.cells]
theorem Api_Local.put (x : Api_Local) (h : AHeap) (ty : TypeId) (K : AHeap → Prop) : pStore 3 (.ptr h.next 0) (.agg x.cells) (h.push (.row ty [.int .i64 0, .int .i64 0, .bool false])) K = K (h.push (.row ty x.cells)) := pStore_push (by rfl) (by rfl) K
theorem Api_Local.r : (type_of% @Api_Local.c0) ∧ (type_of% @Api_Local.c1) ∧ (type_of% @Api_Local.c2) ∧ (type_of% @Api_Local.call) ∧ (type_of% @Api_Local.put) := ⟨@Api_Local.c0, @Api_Local.c1, @Api_Local.c2, @Api_Local.call, @Api_Local.put⟩
structure Api_Item where
  Op : Int
  Bin : Int
  N : Nat
  deriving DecidableEq, Inhabited
def Api_Item.cells (x : Api_Item) : List AV := [.int .i64 x.Op, .int .i64 x.Bin, .int .u64 (x.N : Nat)]
def Api_Item.ok (x : Api_Item) : Prop := okI x.Op ∧ okI x.Bin ∧ okN x.N
theorem Api_Item.of {cs : List AV} (h : TyA Tryd.prog 60 cs) : ∃ x : Api_Item, cs = x.cells ∧ x.ok := by
  obtain ⟨parts, rfl, hp⟩ := h.inv_struct Tryd.underlying60
  simp only [List.map_cons, List.map_nil] at hp
  obtain ⟨p0, r0, rfl, t0, hp⟩ := hp.cons_inv
  obtain ⟨p1, r1, rfl, t1, hp⟩ := hp.cons_inv
  obtain ⟨p2, r2, rfl, t2, hp⟩ := hp.cons_inv
  obtain rfl := hp.nil_inv
  obtain ⟨x0, rfl, k0⟩ := ((fun _ h => h.i64_of Tryd.underlying3 : ∀ cs, TyA Tryd.prog 3 cs → ∃ x : Int, cs = (encI) x ∧ (okI) x)) _ t0
  obtain ⟨x1, rfl, k1⟩ := ((fun _ h => h.i64_of Tryd.underlying3 : ∀ cs, TyA Tryd.prog 3 cs → ∃ x : Int, cs = (encI) x ∧ (okI) x)) _ t1
  obtain ⟨x2, rfl, k2⟩ := ((fun _ h => h.u64_of Tryd.underlying23 : ∀ cs, TyA Tryd.prog 23 cs → ∃ x : Nat, cs = (encN) x ∧ (okN) x)) _ t2
  exact ⟨⟨x0, x1, x2⟩, rfl, ⟨k0, k1, k2⟩⟩
theorem Api_Item.c0 (x : Api_Item) (K : AV → Prop) : pCells none x.cells 0 K = K (.int .i64 x.Op) := by simp [pCells, Api_Item.cells]
theorem Api_Item.c1 (x : Api_Item) (K : AV → Prop) : pCells none x.cells 1 K = K (.int .i64 x.Bin) := by simp [pCells, Api_Item.cells]
theorem Api_Item.c2 (x : Api_Item) (K : AV → Prop) : pCells none x.cells 2 K = K (.int .u64 (x.N : Nat)) := by simp [pCells, Api_Item.cells]
theorem Api_Item.call (x : Api_Item) (K : AV → Prop) : pCells (some 3) x.cells 0 K = K (.agg x.cells) := by simp [pCells, Api_Item.cells]
theorem Api_Item.put (x : Api_Item) (h : AHeap) (ty : TypeId) (K : AHeap → Prop) : pStore 3 (.ptr h.next 0) (.agg x.cells) (h.push (.row ty [.int .i64 0, .int .i64 0, .int .u64 0])) K = K (h.push (.row ty x.cells)) := pStore_push (by rfl) (by rfl) K
theorem Api_Item.r : (type_of% @Api_Item.c0) ∧ (type_of% @Api_Item.c1) ∧ (type_of% @Api_Item.c2) ∧ (type_of% @Api_Item.call) ∧ (type_of% @Api_Item.put) := ⟨@Api_Item.c0, @Api_Item.c1, @Api_Item.c2, @Api_Item.call, @Api_Item.put⟩
structure Api_Instr where
  Op : Int
  Dst : Int
  Src : Int
  Rec : Int
  N : Int
  To : Int
  Items : Option (List Api_Item)
  Index : Option (List Api_Item)
  deriving DecidableEq, Inhabited
def Api_Instr.cells (x : Api_Instr) : List AV := [.int .i64 x.Op, .int .i64 x.Dst, .int .i64 x.Src, .int .i64 x.Rec, .int .i64 x.N, .int .i64 x.To, slAV 3 (Api_Item.cells) x.Items, slAV 3 (Api_Item.cells) x.Index]
def Api_Instr.ok (x : Api_Instr) : Prop := okI x.Op ∧ okI x.Dst ∧ okI x.Src ∧ okI x.Rec ∧ okI x.N ∧ okI x.To ∧ (okSl (Api_Item.ok)) x.Items ∧ (okSl (Api_Item.ok)) x.Index
theorem Api_Instr.of {cs : List AV} (h : TyA Tryd.prog 58 cs) : ∃ x : Api_Instr, cs = x.cells ∧ x.ok := by
  obtain ⟨parts, rfl, hp⟩ := h.inv_struct Tryd.underlying58
  simp only [List.map_cons, List.map_nil] at hp
  obtain ⟨p0, r0, rfl, t0, hp⟩ := hp.cons_inv
  obtain ⟨p1, r1, rfl, t1, hp⟩ := hp.cons_inv
  obtain ⟨p2, r2, rfl, t2, hp⟩ := hp.cons_inv
  obtain ⟨p3, r3, rfl, t3, hp⟩ := hp.cons_inv
  obtain ⟨p4, r4, rfl, t4, hp⟩ := hp.cons_inv
  obtain ⟨p5, r5, rfl, t5, hp⟩ := hp.cons_inv
  obtain ⟨p6, r6, rfl, t6, hp⟩ := hp.cons_inv
  obtain ⟨p7, r7, rfl, t7, hp⟩ := hp.cons_inv
  obtain rfl := hp.nil_inv
  obtain ⟨x0, rfl, k0⟩ := ((fun _ h => h.i64_of Tryd.underlying3 : ∀ cs, TyA Tryd.prog 3 cs → ∃ x : Int, cs = (encI) x ∧ (okI) x)) _ t0
  obtain ⟨x1, rfl, k1⟩ := ((fun _ h => h.i64_of Tryd.underlying3 : ∀ cs, TyA Tryd.prog 3 cs → ∃ x : Int, cs = (encI) x ∧ (okI) x)) _ t1
  obtain ⟨x2, rfl, k2⟩ := ((fun _ h => h.i64_of Tryd.underlying3 : ∀ cs, TyA Tryd.prog 3 cs → ∃ x : Int, cs = (encI) x ∧ (okI) x)) _ t2
  obtain ⟨x3, rfl, k3⟩ := ((fun _ h => h.i64_of Tryd.underlying3 : ∀ cs, TyA Tryd.prog 3 cs → ∃ x : Int, cs = (encI) x ∧ (okI) x)) _ t3
  obtain ⟨x4, rfl, k4⟩ := ((fun _ h => h.i64_of Tryd.underlying3 : ∀ cs, TyA Tryd.prog 3 cs → ∃ x : Int, cs = (encI) x ∧ (okI) x)) _ t4
  obtain ⟨x5, rfl, k5⟩ := ((fun _ h => h.i64_of Tryd.underlying3 : ∀ cs, TyA Tryd.prog 3 cs → ∃ x : Int, cs = (encI) x ∧ (okI) x)) _ t5
  obtain ⟨x6, rfl, k6⟩ := ((fun _ h => h.sl_of Tryd.underlying56 (show Tryd.prog.cellsOf 60 = 3 by kernel_rfl) (by omega) (fun _ h => Api_Item.of h) : ∀ cs, TyA Tryd.prog 56 cs → ∃ x : Option (List Api_Item), cs = (fun o => [slAV 3 (Api_Item.cells) o]) x ∧ (okSl (Api_Item.ok)) x)) _ t6
  obtain ⟨x7, rfl, k7⟩ := ((fun _ h => h.sl_of Tryd.underlying56 (show Tryd.prog.cellsOf 60 = 3 by kernel_rfl) (by omega) (fun _ h => Api_Item.of h) : ∀ cs, TyA Tryd.prog 56 cs → ∃ x : Option (List Api_Item), cs = (fun o => [slAV 3 (Api_Item.cells) o]) x ∧ (okSl (Api_Item.ok)) x)) _ t7
  exact ⟨⟨x0, x1, x2, x3, x4, x5, x6, x7⟩, rfl, ⟨k0, k1, k2, k3, k4, k5, k6, k7⟩⟩
theorem Api_Instr.c0 (x : Api_Instr) (K : AV → Prop) : pCells none x.cells 0 K = K (.int .i64 x.Op) := by simp [pCells, Api_Instr.cells]
theorem Api_Instr.c1 (x : Api_Instr) (K : AV → Prop) : pCells none x.cells 1 K = K (.int .i64 x.Dst) := by simp [pCells, Api_Instr.cells]
theorem Api_Instr.c2 (x : Api_Instr) (K : AV → Prop) : pCells none x.cells 2 K = K (.int .i64 x.Src) := by simp [pCells, Api_Instr.cells]
theorem Api_Instr.c3 (x : Api_Instr) (K : AV → Prop) : pCells none x.cells 3 K = K (.int .i64 x.Rec) := by simp [pCells, Api_Instr.cells]
theorem Api_Instr.c4 (x : Api_Instr) (K : AV → Prop) : pCells none x.cells 4 K = K (.int .i64 x.N) := by simp [pCells, Api_Instr.cells]
theorem Api_Instr.c5 (x : Api_Instr) (K : AV → Prop) : pCells none x.cells 5 K = K (.int .i64 x.To) := by simp [pCells, Api_Instr.cells]
theorem Api_Instr.c6 (x : Api_Instr) (K : AV → Prop) : pCells none x.cells 6 K = K (slAV 3 (Api_Item.cells) x.Items) := by simp [pCells, Api_Instr.cells]
theorem Api_Instr.c7 (x : Api_Instr) (K : AV → Prop) : pCells none x.cells 7 K = K (slAV 3 (Api_Item.cells) x.Index) := by simp [pCells, Api_Instr.cells]
theorem Api_Instr.call (x : Api_Instr) (K : AV → Prop) : pCells (some 8) x.cells 0 K = K (.agg x.cells) := by simp [pCells, Api_Instr.cells]
theorem Api_Instr.put (x : Api_Instr) (h : AHeap) (ty : TypeId) (K : AHeap → Prop) : pStore 8 (.ptr h.next 0) (.agg x.cells) (h.push (.row ty [.int .i64 0, .int .i64 0, .int .i64 0, .int .i64 0, .int .i64 0, .int .i64 0, .nils, .nils])) K = K (h.push (.row ty x.cells)) := pStore_push (by rfl) (by rfl) K
theorem Api_Instr.r : (type_of% @Api_Instr.c0) ∧ (type_of% @Api_Instr.c1) ∧ (type_of% @Api_Instr.c2) ∧ (type_of% @Api_Instr.c3) ∧ (type_of% @Api_Instr.c4) ∧ (type_of% @Api_Instr.c5) ∧ (type_of% @Api_Instr.c6) ∧ (type_of% @Api_Instr.c7) ∧ (type_of% @Api_Instr.call) ∧ (type_of% @Api_Instr.put) := ⟨@Api_Instr.c0, @Api_Instr.c1, @Api_Instr.c2, @Api_Instr.c3, @Api_Instr.c4, @Api_Instr.c5, @Api_Instr.c6, @Api_Instr.c7, @Api_Instr.call, @Api_Instr.put⟩
structure Api_Body where
  Slots : Option (List Api_Local)
  Code : Option (List Api_Instr)
  Most : Int
  deriving DecidableEq, Inhabited
def Api_Body.cells (x : Api_Body) : List AV := [slAV 3 (Api_Local.cells) x.Slots, slAV 8 (Api_Instr.cells) x.Code, .int .i64 x.Most]
def Api_Body.ok (x : Api_Body) : Prop := (okSl (Api_Local.ok)) x.Slots ∧ (okSl (Api_Instr.ok)) x.Code ∧ okI x.Most
theorem Api_Body.of {cs : List AV} (h : TyA Tryd.prog 51 cs) : ∃ x : Api_Body, cs = x.cells ∧ x.ok := by
  obtain ⟨parts, rfl, hp⟩ := h.inv_struct Tryd.underlying51
  simp only [List.map_cons, List.map_nil] at hp
  obtain ⟨p0, r0, rfl, t0, hp⟩ := hp.cons_inv
  obtain ⟨p1, r1, rfl, t1, hp⟩ := hp.cons_inv
  obtain ⟨p2, r2, rfl, t2, hp⟩ := hp.cons_inv
  obtain rfl := hp.nil_inv
  obtain ⟨x0, rfl, k0⟩ := ((fun _ h => h.sl_of Tryd.underlying39 (show Tryd.prog.cellsOf 69 = 3 by kernel_rfl) (by omega) (fun _ h => Api_Local.of h) : ∀ cs, TyA Tryd.prog 39 cs → ∃ x : Option (List Api_Local), cs = (fun o => [slAV 3 (Api_Local.cells) o]) x ∧ (okSl (Api_Local.ok)) x)) _ t0
  obtain ⟨x1, rfl, k1⟩ := ((fun _ h => h.sl_of Tryd.underlying49 (show Tryd.prog.cellsOf 58 = 8 by kernel_rfl) (by omega) (fun _ h => Api_Instr.of h) : ∀ cs, TyA Tryd.prog 49 cs → ∃ x : Option (List Api_Instr), cs = (fun o => [slAV 8 (Api_Instr.cells) o]) x ∧ (okSl (Api_Instr.ok)) x)) _ t1
  obtain ⟨x2, rfl, k2⟩ := ((fun _ h => h.i64_of Tryd.underlying3 : ∀ cs, TyA Tryd.prog 3 cs → ∃ x : Int, cs = (encI) x ∧ (okI) x)) _ t2
  exact ⟨⟨x0, x1, x2⟩, rfl, ⟨k0, k1, k2⟩⟩
theorem Api_Body.c0 (x : Api_Body) (K : AV → Prop) : pCells none x.cells 0 K = K (slAV 3 (Api_Local.cells) x.Slots) := by simp [pCells, Api_Body.cells]
theorem Api_Body.c1 (x : Api_Body) (K : AV → Prop) : pCells none x.cells 1 K = K (slAV 8 (Api_Instr.cells) x.Code) := by simp [pCells, Api_Body.cells]
theorem Api_Body.c2 (x : Api_Body) (K : AV → Prop) : pCells none x.cells 2 K = K (.int .i64 x.Most) := by simp [pCells, Api_Body.cells]
theorem Api_Body.call (x : Api_Body) (K : AV → Prop) : pCells (some 3) x.cells 0 K = K (.agg x.cells) := by simp [pCells, Api_Body.cells]
theorem Api_Body.put (x : Api_Body) (h : AHeap) (ty : TypeId) (K : AHeap → Prop) : pStore 3 (.ptr h.next 0) (.agg x.cells) (h.push (.row ty [.nils, .nils, .int .i64 0])) K = K (h.push (.row ty x.cells)) := pStore_push (by rfl) (by rfl) K
theorem Api_Body.r : (type_of% @Api_Body.c0) ∧ (type_of% @Api_Body.c1) ∧ (type_of% @Api_Body.c2) ∧ (type_of% @Api_Body.call) ∧ (type_of% @Api_Body.put) := ⟨@Api_Body.c0, @Api_Body.c1, @Api_Body.c2, @Api_Body.call, @Api_Body.put⟩
structure Api_Site where
  Thread : Int
  At : Int
  Rec : Int
  deriving DecidableEq, Inhabited
def Api_Site.cells (x : Api_Site) : List AV := [.int .i64 x.Thread, .int .i64 x.At, .int .i64 x.Rec]
def Api_Site.ok (x : Api_Site) : Prop := okI x.Thread ∧ okI x.At ∧ okI x.Rec
theorem Api_Site.of {cs : List AV} (h : TyA Tryd.prog 54 cs) : ∃ x : Api_Site, cs = x.cells ∧ x.ok := by
  obtain ⟨parts, rfl, hp⟩ := h.inv_struct Tryd.underlying54
  simp only [List.map_cons, List.map_nil] at hp
  obtain ⟨p0, r0, rfl, t0, hp⟩ := hp.cons_inv
  obtain ⟨p1, r1, rfl, t1, hp⟩ := hp.cons_inv
  obtain ⟨p2, r2, rfl, t2, hp⟩ := hp.cons_inv
  obtain rfl := hp.nil_inv
  obtain ⟨x0, rfl, k0⟩ := ((fun _ h => h.i64_of Tryd.underlying3 : ∀ cs, TyA Tryd.prog 3 cs → ∃ x : Int, cs = (encI) x ∧ (okI) x)) _ t0
  obtain ⟨x1, rfl, k1⟩ := ((fun _ h => h.i64_of Tryd.underlying3 : ∀ cs, TyA Tryd.prog 3 cs → ∃ x : Int, cs = (encI) x ∧ (okI) x)) _ t1
  obtain ⟨x2, rfl, k2⟩ := ((fun _ h => h.i64_of Tryd.underlying3 : ∀ cs, TyA Tryd.prog 3 cs → ∃ x : Int, cs = (encI) x ∧ (okI) x)) _ t2
  exact ⟨⟨x0, x1, x2⟩, rfl, ⟨k0, k1, k2⟩⟩
theorem Api_Site.c0 (x : Api_Site) (K : AV → Prop) : pCells none x.cells 0 K = K (.int .i64 x.Thread) := by simp [pCells, Api_Site.cells]
theorem Api_Site.c1 (x : Api_Site) (K : AV → Prop) : pCells none x.cells 1 K = K (.int .i64 x.At) := by simp [pCells, Api_Site.cells]
theorem Api_Site.c2 (x : Api_Site) (K : AV → Prop) : pCells none x.cells 2 K = K (.int .i64 x.Rec) := by simp [pCells, Api_Site.cells]
theorem Api_Site.call (x : Api_Site) (K : AV → Prop) : pCells (some 3) x.cells 0 K = K (.agg x.cells) := by simp [pCells, Api_Site.cells]
theorem Api_Site.put (x : Api_Site) (h : AHeap) (ty : TypeId) (K : AHeap → Prop) : pStore 3 (.ptr h.next 0) (.agg x.cells) (h.push (.row ty [.int .i64 0, .int .i64 0, .int .i64 0])) K = K (h.push (.row ty x.cells)) := pStore_push (by rfl) (by rfl) K
theorem Api_Site.r : (type_of% @Api_Site.c0) ∧ (type_of% @Api_Site.c1) ∧ (type_of% @Api_Site.c2) ∧ (type_of% @Api_Site.call) ∧ (type_of% @Api_Site.put) := ⟨@Api_Site.c0, @Api_Site.c1, @Api_Site.c2, @Api_Site.call, @Api_Site.put⟩
structure Api_Section where
  Thread : Int
  From : Int
  To : Int
  deriving DecidableEq, Inhabited
def Api_Section.cells (x : Api_Section) : List AV := [.int .i64 x.Thread, .int .i64 x.From, .int .i64 x.To]
def Api_Section.ok (x : Api_Section) : Prop := okI x.Thread ∧ okI x.From ∧ okI x.To
theorem Api_Section.of {cs : List AV} (h : TyA Tryd.prog 71 cs) : ∃ x : Api_Section, cs = x.cells ∧ x.ok := by
  obtain ⟨parts, rfl, hp⟩ := h.inv_struct Tryd.underlying71
  simp only [List.map_cons, List.map_nil] at hp
  obtain ⟨p0, r0, rfl, t0, hp⟩ := hp.cons_inv
  obtain ⟨p1, r1, rfl, t1, hp⟩ := hp.cons_inv
  obtain ⟨p2, r2, rfl, t2, hp⟩ := hp.cons_inv
  obtain rfl := hp.nil_inv
  obtain ⟨x0, rfl, k0⟩ := ((fun _ h => h.i64_of Tryd.underlying3 : ∀ cs, TyA Tryd.prog 3 cs → ∃ x : Int, cs = (encI) x ∧ (okI) x)) _ t0
  obtain ⟨x1, rfl, k1⟩ := ((fun _ h => h.i64_of Tryd.underlying3 : ∀ cs, TyA Tryd.prog 3 cs → ∃ x : Int, cs = (encI) x ∧ (okI) x)) _ t1
  obtain ⟨x2, rfl, k2⟩ := ((fun _ h => h.i64_of Tryd.underlying3 : ∀ cs, TyA Tryd.prog 3 cs → ∃ x : Int, cs = (encI) x ∧ (okI) x)) _ t2
  exact ⟨⟨x0, x1, x2⟩, rfl, ⟨k0, k1, k2⟩⟩
theorem Api_Section.c0 (x : Api_Section) (K : AV → Prop) : pCells none x.cells 0 K = K (.int .i64 x.Thread) := by simp [pCells, Api_Section.cells]
theorem Api_Section.c1 (x : Api_Section) (K : AV → Prop) : pCells none x.cells 1 K = K (.int .i64 x.From) := by simp [pCells, Api_Section.cells]
theorem Api_Section.c2 (x : Api_Section) (K : AV → Prop) : pCells none x.cells 2 K = K (.int .i64 x.To) := by simp [pCells, Api_Section.cells]
theorem Api_Section.call (x : Api_Section) (K : AV → Prop) : pCells (some 3) x.cells 0 K = K (.agg x.cells) := by simp [pCells, Api_Section.cells]
theorem Api_Section.put (x : Api_Section) (h : AHeap) (ty : TypeId) (K : AHeap → Prop) : pStore 3 (.ptr h.next 0) (.agg x.cells) (h.push (.row ty [.int .i64 0, .int .i64 0, .int .i64 0])) K = K (h.push (.row ty x.cells)) := pStore_push (by rfl) (by rfl) K
theorem Api_Section.r : (type_of% @Api_Section.c0) ∧ (type_of% @Api_Section.c1) ∧ (type_of% @Api_Section.c2) ∧ (type_of% @Api_Section.call) ∧ (type_of% @Api_Section.put) := ⟨@Api_Section.c0, @Api_Section.c1, @Api_Section.c2, @Api_Section.call, @Api_Section.put⟩
structure Api_Code where
  Records : Option (List (Option (List Api_Local)))
  Globals : Option (List Api_Local)
  Threads : Option (List Api_Body)
  Sites : Option (List Api_Site)
  Sections : Option (List Api_Section)
  deriving DecidableEq, Inhabited
def Api_Code.cells (x : Api_Code) : List AV := [slAV 1 (fun o => [slAV 3 (Api_Local.cells) o]) x.Records, slAV 3 (Api_Local.cells) x.Globals, slAV 3 (Api_Body.cells) x.Threads, slAV 3 (Api_Site.cells) x.Sites, slAV 3 (Api_Section.cells) x.Sections]
def Api_Code.ok (x : Api_Code) : Prop := (okSl (okSl (Api_Local.ok))) x.Records ∧ (okSl (Api_Local.ok)) x.Globals ∧ (okSl (Api_Body.ok)) x.Threads ∧ (okSl (Api_Site.ok)) x.Sites ∧ (okSl (Api_Section.ok)) x.Sections
theorem Api_Code.of {cs : List AV} (h : TyA Tryd.prog 44 cs) : ∃ x : Api_Code, cs = x.cells ∧ x.ok := by
  obtain ⟨parts, rfl, hp⟩ := h.inv_struct Tryd.underlying44
  simp only [List.map_cons, List.map_nil] at hp
  obtain ⟨p0, r0, rfl, t0, hp⟩ := hp.cons_inv
  obtain ⟨p1, r1, rfl, t1, hp⟩ := hp.cons_inv
  obtain ⟨p2, r2, rfl, t2, hp⟩ := hp.cons_inv
  obtain ⟨p3, r3, rfl, t3, hp⟩ := hp.cons_inv
  obtain ⟨p4, r4, rfl, t4, hp⟩ := hp.cons_inv
  obtain rfl := hp.nil_inv
  obtain ⟨x0, rfl, k0⟩ := ((fun _ h => h.sl_of Tryd.underlying38 (show Tryd.prog.cellsOf 39 = 1 by kernel_rfl) (by omega) (fun _ h => h.sl_of Tryd.underlying39 (show Tryd.prog.cellsOf 69 = 3 by kernel_rfl) (by omega) (fun _ h => Api_Local.of h)) : ∀ cs, TyA Tryd.prog 38 cs → ∃ x : Option (List (Option (List Api_Local))), cs = (fun o => [slAV 1 (fun o => [slAV 3 (Api_Local.cells) o]) o]) x ∧ (okSl (okSl (Api_Local.ok))) x)) _ t0
  obtain ⟨x1, rfl, k1⟩ := ((fun _ h => h.sl_of Tryd.underlying39 (show Tryd.prog.cellsOf 69 = 3 by kernel_rfl) (by omega) (fun _ h => Api_Local.of h) : ∀ cs, TyA Tryd.prog 39 cs → ∃ x : Option (List Api_Local), cs = (fun o => [slAV 3 (Api_Local.cells) o]) x ∧ (okSl (Api_Local.ok)) x)) _ t1
  obtain ⟨x2, rfl, k2⟩ := ((fun _ h => h.sl_of Tryd.underlying40 (show Tryd.prog.cellsOf 51 = 3 by kernel_rfl) (by omega) (fun _ h => Api_Body.of h) : ∀ cs, TyA Tryd.prog 40 cs → ∃ x : Option (List Api_Body), cs = (fun o => [slAV 3 (Api_Body.cells) o]) x ∧ (okSl (Api_Body.ok)) x)) _ t2
  obtain ⟨x3, rfl, k3⟩ := ((fun _ h => h.sl_of Tryd.underlying41 (show Tryd.prog.cellsOf 54 = 3 by kernel_rfl) (by omega) (fun _ h => Api_Site.of h) : ∀ cs, TyA Tryd.prog 41 cs → ∃ x : Option (List Api_Site), cs = (fun o => [slAV 3 (Api_Site.cells) o]) x ∧ (okSl (Api_Site.ok)) x)) _ t3
  obtain ⟨x4, rfl, k4⟩ := ((fun _ h => h.sl_of Tryd.underlying42 (show Tryd.prog.cellsOf 71 = 3 by kernel_rfl) (by omega) (fun _ h => Api_Section.of h) : ∀ cs, TyA Tryd.prog 42 cs → ∃ x : Option (List Api_Section), cs = (fun o => [slAV 3 (Api_Section.cells) o]) x ∧ (okSl (Api_Section.ok)) x)) _ t4
  exact ⟨⟨x0, x1, x2, x3, x4⟩, rfl, ⟨k0, k1, k2, k3, k4⟩⟩
theorem Api_Code.c0 (x : Api_Code) (K : AV → Prop) : pCells none x.cells 0 K = K (slAV 1 (fun o => [slAV 3 (Api_Local.cells) o]) x.Records) := by simp [pCells, Api_Code.cells]
theorem Api_Code.c1 (x : Api_Code) (K : AV → Prop) : pCells none x.cells 1 K = K (slAV 3 (Api_Local.cells) x.Globals) := by simp [pCells, Api_Code.cells]
theorem Api_Code.c2 (x : Api_Code) (K : AV → Prop) : pCells none x.cells 2 K = K (slAV 3 (Api_Body.cells) x.Threads) := by simp [pCells, Api_Code.cells]
theorem Api_Code.c3 (x : Api_Code) (K : AV → Prop) : pCells none x.cells 3 K = K (slAV 3 (Api_Site.cells) x.Sites) := by simp [pCells, Api_Code.cells]
theorem Api_Code.c4 (x : Api_Code) (K : AV → Prop) : pCells none x.cells 4 K = K (slAV 3 (Api_Section.cells) x.Sections) := by simp [pCells, Api_Code.cells]
theorem Api_Code.call (x : Api_Code) (K : AV → Prop) : pCells (some 5) x.cells 0 K = K (.agg x.cells) := by simp [pCells, Api_Code.cells]
theorem Api_Code.put (x : Api_Code) (h : AHeap) (ty : TypeId) (K : AHeap → Prop) : pStore 5 (.ptr h.next 0) (.agg x.cells) (h.push (.row ty [.nils, .nils, .nils, .nils, .nils])) K = K (h.push (.row ty x.cells)) := pStore_push (by rfl) (by rfl) K
theorem Api_Code.r : (type_of% @Api_Code.c0) ∧ (type_of% @Api_Code.c1) ∧ (type_of% @Api_Code.c2) ∧ (type_of% @Api_Code.c3) ∧ (type_of% @Api_Code.c4) ∧ (type_of% @Api_Code.call) ∧ (type_of% @Api_Code.put) := ⟨@Api_Code.c0, @Api_Code.c1, @Api_Code.c2, @Api_Code.c3, @Api_Code.c4, @Api_Code.call, @Api_Code.put⟩
theorem PtsIs_args {xs : List AV} (h : TyVs Tryd.prog Tryd.f6.params.toList xs) : ∃ (x0 : Api_Code), xs = [.agg x0.cells] ∧ (Api_Code.ok) x0 := by
  rw [Tryd.params6] at h
  obtain ⟨a0, b0, rfl, h0, h⟩ := h.cons_inv
  obtain rfl := h.nil_inv
  obtain ⟨x0, rfl, k0⟩ := h0.agg_of (by kernel_rfl) (fun _ h => Api_Code.of h : ∀ cs, TyA Tryd.prog 44 cs → ∃ x : Api_Code, cs = (Api_Code.cells) x ∧ (Api_Code.ok) x)
  exact ⟨x0, rfl, k0⟩
theorem PtsHolds_args {xs : List AV} (h : TyVs Tryd.prog Tryd.f7.params.toList xs) : ∃ (x0 : Api_Code), xs = [.agg x0.cells] ∧ (Api_Code.ok) x0 := by
  rw [Tryd.params7] at h
  obtain ⟨a0, b0, rfl, h0, h⟩ := h.cons_inv
  obtain rfl := h.nil_inv
  obtain ⟨x0, rfl, k0⟩ := h0.agg_of (by kernel_rfl) (fun _ h => Api_Code.of h : ∀ cs, TyA Tryd.prog 44 cs → ∃ x : Api_Code, cs = (Api_Code.cells) x ∧ (Api_Code.ok) x)
  exact ⟨x0, rfl, k0⟩
theorem PtsTyped_args {xs : List AV} (h : TyVs Tryd.prog Tryd.f8.params.toList xs) : ∃ (x0 : Api_Code), xs = [.agg x0.cells] ∧ (Api_Code.ok) x0 := by
  rw [Tryd.params8] at h
  obtain ⟨a0, b0, rfl, h0, h⟩ := h.cons_inv
  obtain rfl := h.nil_inv
  obtain ⟨x0, rfl, k0⟩ := h0.agg_of (by kernel_rfl) (fun _ h => Api_Code.of h : ∀ cs, TyA Tryd.prog 44 cs → ∃ x : Api_Code, cs = (Api_Code.cells) x ∧ (Api_Code.ok) x)
  exact ⟨x0, rfl, k0⟩
theorem PtsEach_args {xs : List AV} (h : TyVs Tryd.prog Tryd.f9.params.toList xs) : ∃ (x0 : Nat) (x1 : Int), xs = [.int .u64 (x0 : Nat), .int .i64 x1] ∧ (okN) x0 ∧ (okI) x1 := by
  rw [Tryd.params9] at h
  obtain ⟨a0, b0, rfl, h0, h⟩ := h.cons_inv
  obtain ⟨a1, b1, rfl, h1, h⟩ := h.cons_inv
  obtain rfl := h.nil_inv
  obtain ⟨x0, rfl, k0⟩ := h0.one_of (enc := fun x => .int .u64 (x : Nat)) (by kernel_rfl) (fun _ h => h.u64_of Tryd.underlying23 : ∀ cs, TyA Tryd.prog 23 cs → ∃ x : Nat, cs = (encN) x ∧ (okN) x)
  obtain ⟨x1, rfl, k1⟩ := h1.one_of (enc := fun x => .int .i64 x) (by kernel_rfl) (fun _ h => h.i64_of Tryd.underlying3 : ∀ cs, TyA Tryd.prog 3 cs → ∃ x : Int, cs = (encI) x ∧ (okI) x)
  exact ⟨x0, x1, rfl, k0, k1⟩
theorem PtsLess_args {xs : List AV} (h : TyVs Tryd.prog Tryd.f10.params.toList xs) : ∃ (x0 : Api_Code) (x1 : Int) (x2 : Int), xs = [.agg x0.cells, .int .i64 x1, .int .i64 x2] ∧ (Api_Code.ok) x0 ∧ (okI) x1 ∧ (okI) x2 := by
  rw [Tryd.params10] at h
  obtain ⟨a0, b0, rfl, h0, h⟩ := h.cons_inv
  obtain ⟨a1, b1, rfl, h1, h⟩ := h.cons_inv
  obtain ⟨a2, b2, rfl, h2, h⟩ := h.cons_inv
  obtain rfl := h.nil_inv
  obtain ⟨x0, rfl, k0⟩ := h0.agg_of (by kernel_rfl) (fun _ h => Api_Code.of h : ∀ cs, TyA Tryd.prog 44 cs → ∃ x : Api_Code, cs = (Api_Code.cells) x ∧ (Api_Code.ok) x)
  obtain ⟨x1, rfl, k1⟩ := h1.one_of (enc := fun x => .int .i64 x) (by kernel_rfl) (fun _ h => h.i64_of Tryd.underlying3 : ∀ cs, TyA Tryd.prog 3 cs → ∃ x : Int, cs = (encI) x ∧ (okI) x)
  obtain ⟨x2, rfl, k2⟩ := h2.one_of (enc := fun x => .int .i64 x) (by kernel_rfl) (fun _ h => h.i64_of Tryd.underlying3 : ∀ cs, TyA Tryd.prog 3 cs → ∃ x : Int, cs = (encI) x ∧ (okI) x)
  exact ⟨x0, x1, x2, rfl, k0, k1, k2⟩
theorem ClassWhole_args {xs : List AV} (h : TyVs Tryd.prog Tryd.f11.params.toList xs) : ∃ (x0 : Api_Code), xs = [.agg x0.cells] ∧ (Api_Code.ok) x0 := by
  rw [Tryd.params11] at h
  obtain ⟨a0, b0, rfl, h0, h⟩ := h.cons_inv
  obtain rfl := h.nil_inv
  obtain ⟨x0, rfl, k0⟩ := h0.agg_of (by kernel_rfl) (fun _ h => Api_Code.of h : ∀ cs, TyA Tryd.prog 44 cs → ∃ x : Api_Code, cs = (Api_Code.cells) x ∧ (Api_Code.ok) x)
  exact ⟨x0, rfl, k0⟩
structure Code_maker where
  Code : Api_Code
  thread : Int
  body : Api_Body
  deriving DecidableEq, Inhabited
def Code_maker.cells (x : Code_maker) : List AV := [slAV 1 (fun o => [slAV 3 (Api_Local.cells) o]) x.Code.Records, slAV 3 (Api_Local.cells) x.Code.Globals, slAV 3 (Api_Body.cells) x.Code.Threads, slAV 3 (Api_Site.cells) x.Code.Sites, slAV 3 (Api_Section.cells) x.Code.Sections, .int .i64 x.thread, slAV 3 (Api_Local.cells) x.body.Slots, slAV 8 (Api_Instr.cells) x.body.Code, .int .i64 x.body.Most]
def Code_maker.ok (x : Code_maker) : Prop := Api_Code.ok x.Code ∧ okI x.thread ∧ Api_Body.ok x.body
theorem Code_maker.of {cs : List AV} (h : TyA Tryd.prog 88 cs) : ∃ x : Code_maker, cs = x.cells ∧ x.ok := by
  obtain ⟨parts, rfl, hp⟩ := h.inv_struct Tryd.underlying88
  simp only [List.map_cons, List.map_nil] at hp
  obtain ⟨p0, r0, rfl, t0, hp⟩ := hp.cons_inv
  obtain ⟨p1, r1, rfl, t1, hp⟩ := hp.cons_inv
  obtain ⟨p2, r2, rfl, t2, hp⟩ := hp.cons_inv
  obtain rfl := hp.nil_inv
  obtain ⟨x0, rfl, k0⟩ := ((fun _ h => Api_Code.of h : ∀ cs, TyA Tryd.prog 44 cs → ∃ x : Api_Code, cs = (Api_Code.cells) x ∧ (Api_Code.ok) x)) _ t0
  obtain ⟨x1, rfl, k1⟩ := ((fun _ h => h.i64_of Tryd.underlying3 : ∀ cs, TyA Tryd.prog 3 cs → ∃ x : Int, cs = (encI) x ∧ (okI) x)) _ t1
  obtain ⟨x2, rfl, k2⟩ := ((fun _ h => Api_Body.of h : ∀ cs, TyA Tryd.prog 51 cs → ∃ x : Api_Body, cs = (Api_Body.cells) x ∧ (Api_Body.ok) x)) _ t2
  exact ⟨⟨x0, x1, x2⟩, rfl, ⟨k0, k1, k2⟩⟩
theorem Code_maker.c0 (x : Code_maker) (K : AV → Prop) : pCells none x.cells 0 K = K (slAV 1 (fun o => [slAV 3 (Api_Local.cells) o]) x.Code.Records) := by simp [pCells, Code_maker.cells, Api_Code.cells, Api_Body.cells]
theorem Code_maker.c1 (x : Code_maker) (K : AV → Prop) : pCells none x.cells 1 K = K (slAV 3 (Api_Local.cells) x.Code.Globals) := by simp [pCells, Code_maker.cells, Api_Code.cells, Api_Body.cells]
theorem Code_maker.c2 (x : Code_maker) (K : AV → Prop) : pCells none x.cells 2 K = K (slAV 3 (Api_Body.cells) x.Code.Threads) := by simp [pCells, Code_maker.cells, Api_Code.cells, Api_Body.cells]
theorem Code_maker.c3 (x : Code_maker) (K : AV → Prop) : pCells none x.cells 3 K = K (slAV 3 (Api_Site.cells) x.Code.Sites) := by simp [pCells, Code_maker.cells, Api_Code.cells, Api_Body.cells]
theorem Code_maker.c4 (x : Code_maker) (K : AV → Prop) : pCells none x.cells 4 K = K (slAV 3 (Api_Section.cells) x.Code.Sections) := by simp [pCells, Code_maker.cells, Api_Code.cells, Api_Body.cells]
theorem Code_maker.c5 (x : Code_maker) (K : AV → Prop) : pCells none x.cells 5 K = K (.int .i64 x.thread) := by simp [pCells, Code_maker.cells, Api_Code.cells, Api_Body.cells]
theorem Code_maker.c6 (x : Code_maker) (K : AV → Prop) : pCells none x.cells 6 K = K (slAV 3 (Api_Local.cells) x.body.Slots) := by simp [pCells, Code_maker.cells, Api_Code.cells, Api_Body.cells]
theorem Code_maker.c7 (x : Code_maker) (K : AV → Prop) : pCells none x.cells 7 K = K (slAV 8 (Api_Instr.cells) x.body.Code) := by simp [pCells, Code_maker.cells, Api_Code.cells, Api_Body.cells]
theorem Code_maker.c8 (x : Code_maker) (K : AV → Prop) : pCells none x.cells 8 K = K (.int .i64 x.body.Most) := by simp [pCells, Code_maker.cells, Api_Code.cells, Api_Body.cells]
theorem Code_maker.call (x : Code_maker) (K : AV → Prop) : pCells (some 9) x.cells 0 K = K (.agg x.cells) := by simp [pCells, Code_maker.cells, Api_Code.cells, Api_Body.cells]
theorem Code_maker.cs0_5 (x : Code_maker) (K : AV → Prop) : pCells (some 5) x.cells 0 K = K (.agg x.Code.cells) := by simp [pCells, Code_maker.cells, Api_Code.cells, Api_Body.cells]
theorem Code_maker.cs6_3 (x : Code_maker) (K : AV → Prop) : pCells (some 3) x.cells 6 K = K (.agg x.body.cells) := by simp [pCells, Code_maker.cells, Api_Code.cells, Api_Body.cells]
theorem Code_maker.put (x : Code_maker) (h : AHeap) (ty : TypeId) (K : AHeap → Prop) : pStore 9 (.ptr h.next 0) (.agg x.cells) (h.push (.row ty [.nils, .nils, .nils, .nils, .nils, .int .i64 0, .nils, .nils, .int .i64 0])) K = K (h.push (.row ty x.cells)) := pStore_push (by rfl) (by rfl) K
theorem Code_maker.r : (type_of% @Code_maker.c0) ∧ (type_of% @Code_maker.c1) ∧ (type_of% @Code_maker.c2) ∧ (type_of% @Code_maker.c3) ∧ (type_of% @Code_maker.c4) ∧ (type_of% @Code_maker.c5) ∧ (type_of% @Code_maker.c6) ∧ (type_of% @Code_maker.c7) ∧ (type_of% @Code_maker.c8) ∧ (type_of% @Code_maker.call) ∧ (type_of% @Code_maker.cs0_5) ∧ (type_of% @Code_maker.cs6_3) ∧ (type_of% @Code_maker.put) := ⟨@Code_maker.c0, @Code_maker.c1, @Code_maker.c2, @Code_maker.c3, @Code_maker.c4, @Code_maker.c5, @Code_maker.c6, @Code_maker.c7, @Code_maker.c8, @Code_maker.call, @Code_maker.cs0_5, @Code_maker.cs6_3, @Code_maker.put⟩
structure Api_Sets where
  Slots : Option (List (Option (List Nat)))
  Globals : Option (List Nat)
  Fields : Option (List (Option (List Nat)))
  deriving DecidableEq, Inhabited
def Api_Sets.cells (x : Api_Sets) : List AV := [slAV 1 (fun o => [slAV 1 (encN) o]) x.Slots, slAV 1 (encN) x.Globals, slAV 1 (fun o => [slAV 1 (encN) o]) x.Fields]
def Api_Sets.ok (x : Api_Sets) : Prop := (okSl (okSl (okN))) x.Slots ∧ (okSl (okN)) x.Globals ∧ (okSl (okSl (okN))) x.Fields
theorem Api_Sets.of {cs : List AV} (h : TyA Tryd.prog 29 cs) : ∃ x : Api_Sets, cs = x.cells ∧ x.ok := by
  obtain ⟨parts, rfl, hp⟩ := h.inv_struct Tryd.underlying29
  simp only [List.map_cons, List.map_nil] at hp
  obtain ⟨p0, r0, rfl, t0, hp⟩ := hp.cons_inv
  obtain ⟨p1, r1, rfl, t1, hp⟩ := hp.cons_inv
  obtain ⟨p2, r2, rfl, t2, hp⟩ := hp.cons_inv
  obtain rfl := hp.nil_inv
  obtain ⟨x0, rfl, k0⟩ := ((fun _ h => h.sl_of Tryd.underlying22 (show Tryd.prog.cellsOf 27 = 1 by kernel_rfl) (by omega) (fun _ h => h.sl_of Tryd.underlying27 (show Tryd.prog.cellsOf 23 = 1 by kernel_rfl) (by omega) (fun _ h => h.u64_of Tryd.underlying23)) : ∀ cs, TyA Tryd.prog 22 cs → ∃ x : Option (List (Option (List Nat))), cs = (fun o => [slAV 1 (fun o => [slAV 1 (encN) o]) o]) x ∧ (okSl (okSl (okN))) x)) _ t0
  obtain ⟨x1, rfl, k1⟩ := ((fun _ h => h.sl_of Tryd.underlying27 (show Tryd.prog.cellsOf 23 = 1 by kernel_rfl) (by omega) (fun _ h => h.u64_of Tryd.underlying23) : ∀ cs, TyA Tryd.prog 27 cs → ∃ x : Option (List Nat), cs = (fun o => [slAV 1 (encN) o]) x ∧ (okSl (okN)) x)) _ t1
  obtain ⟨x2, rfl, k2⟩ := ((fun _ h => h.sl_of Tryd.underlying22 (show Tryd.prog.cellsOf 27 = 1 by kernel_rfl) (by omega) (fun _ h => h.sl_of Tryd.underlying27 (show Tryd.prog.cellsOf 23 = 1 by kernel_rfl) (by omega) (fun _ h => h.u64_of Tryd.underlying23)) : ∀ cs, TyA Tryd.prog 22 cs → ∃ x : Option (List (Option (List Nat))), cs = (fun o => [slAV 1 (fun o => [slAV 1 (encN) o]) o]) x ∧ (okSl (okSl (okN))) x)) _ t2
  exact ⟨⟨x0, x1, x2⟩, rfl, ⟨k0, k1, k2⟩⟩
theorem Api_Sets.c0 (x : Api_Sets) (K : AV → Prop) : pCells none x.cells 0 K = K (slAV 1 (fun o => [slAV 1 (encN) o]) x.Slots) := by simp [pCells, Api_Sets.cells]
theorem Api_Sets.c1 (x : Api_Sets) (K : AV → Prop) : pCells none x.cells 1 K = K (slAV 1 (encN) x.Globals) := by simp [pCells, Api_Sets.cells]
theorem Api_Sets.c2 (x : Api_Sets) (K : AV → Prop) : pCells none x.cells 2 K = K (slAV 1 (fun o => [slAV 1 (encN) o]) x.Fields) := by simp [pCells, Api_Sets.cells]
theorem Api_Sets.call (x : Api_Sets) (K : AV → Prop) : pCells (some 3) x.cells 0 K = K (.agg x.cells) := by simp [pCells, Api_Sets.cells]
theorem Api_Sets.put (x : Api_Sets) (h : AHeap) (ty : TypeId) (K : AHeap → Prop) : pStore 3 (.ptr h.next 0) (.agg x.cells) (h.push (.row ty [.nils, .nils, .nils])) K = K (h.push (.row ty x.cells)) := pStore_push (by rfl) (by rfl) K
theorem Api_Sets.r : (type_of% @Api_Sets.c0) ∧ (type_of% @Api_Sets.c1) ∧ (type_of% @Api_Sets.c2) ∧ (type_of% @Api_Sets.call) ∧ (type_of% @Api_Sets.put) := ⟨@Api_Sets.c0, @Api_Sets.c1, @Api_Sets.c2, @Api_Sets.call, @Api_Sets.put⟩
theorem tyr : (type_of% @Api_Local.r) ∧ (type_of% @Api_Item.r) ∧ (type_of% @Api_Instr.r) ∧ (type_of% @Api_Body.r) ∧ (type_of% @Api_Site.r) ∧ (type_of% @Api_Section.r) ∧ (type_of% @Api_Code.r) ∧ (type_of% @Code_maker.r) ∧ (type_of% @Api_Sets.r) := ⟨@Api_Local.r, @Api_Item.r, @Api_Instr.r, @Api_Body.r, @Api_Site.r, @Api_Section.r, @Api_Code.r, @Code_maker.r, @Api_Sets.r⟩
end Go.Proofs.YtopfjochppdnfaaDoor
end

section
/- The conditions of the functions, computed: each theorem says what suffices for a call's contract, or for a loop's round. -/
set_option maxRecDepth 100000
namespace Go.Proofs.YtopfjochppdnfaaDoor
open Go.Abs
theorem mixed_ : Tryd.prog.follows .mixedOrders = true := by kernel_rfl
/- slices.IndexFunc[[]padlock/api.Local,padlock/api.Local] -/
noncomputable def c_slices_IndexFunc_api_Local_api_Local : Code := (Tryd.f67.body).getD .skip
noncomputable def g_slices_IndexFunc_api_Local_api_Local : Cfg := { ch := fun d => List.contains [7, 16] d, lv := fun k => ((List.lookup k ([(2, [0, 1, 7, 8])] : List (Nat × List Nat))).getD []), cut := fun k => List.contains [] k, rc := fun i n => none }
noncomputable def c_slices_IndexFunc_api_Local_api_Local_2 : Code := (loopOf 2 c_slices_IndexFunc_api_Local_api_Local).getD .skip
theorem slices_IndexFunc_api_Local_api_Local_wp (a0 a1 : AV) (h : AHeap) (R : AV → AHeap → Prop) (H :
 pLen .slice a0 (later (fun v1 =>
 WP Tryd.prog 19 (Code.loop c_slices_IndexFunc_api_Local_api_Local_2) (frOf [(0, a0), (1, a1), (7, v1), (8, .int .i64 0)]) h (exitQ (later (fun fr2 h3 =>
 False) ()) (later (fun x4 fr5 h6 =>
 pIdx x4 0 (pIdx 0 0 (R (.int .i64 (-1)) h6) False) False) ()) (later (fun fr7 h8 =>
 R (fr7 4) h8) ()))) ())) : CallsA Tryd.prog 67 [a0, a1] h R :=
 CallsA_intro g_slices_IndexFunc_api_Local_api_Local mixed_ Tryd.func67 (show Tryd.f67.body = some c_slices_IndexFunc_api_Local_api_Local by kernel_rfl) Tryd.ntmps67 (by kernel_rfl) (Nat.le_of_ble_eq_true rfl) Tryd.call67 (Eq.mpr (by kernel_rfl) H)
theorem slices_IndexFunc_api_Local_api_Local_loop2 (s0 s1 s7 s8 : AV) (h : AHeap) (Q : AExit → Fr → AHeap → Prop) (H :
 obind (binA .other .lss s8 s7) (later (fun v1 =>
 pCond v1 (pIndexAddr (.slice 3) s0 s8 (later (fun v2 =>
 pLoad (some 3) v2 h (later (fun v3 =>
 pCallF Tryd.prog s1 [v3] h (later (fun v4 h5 =>
 pCond v4 (Q .ret (frOf [(4, s8)]) h5) (obind (binA .other .add s8 (.int .i64 1)) (later (fun v6 =>
 Q .normal (frOf [(0, s0), (1, s1), (7, s7), (8, v6)]) h5) ()))) ())) ())) ())) (Q (.exit 0) (frOf []) h)) ())) : WP Tryd.prog 19 c_slices_IndexFunc_api_Local_api_Local_2 (frOf [(0, s0), (1, s1), (7, s7), (8, s8)]) h Q :=
 WP_body g_slices_IndexFunc_api_Local_api_Local [0] [0, 1, 7, 8] [] [4] mixed_ (by kernel_rfl) (Eq.mpr (by kernel_rfl) H)
/- slices.ContainsFunc[[]padlock/api.Local,padlock/api.Local] -/
noncomputable def c_slices_ContainsFunc_api_Local_api_Local : Code := (Tryd.f59.body).getD .skip
noncomputable def g_slices_ContainsFunc_api_Local_api_Local : Cfg := { ch := fun d => List.contains [7] d, lv := fun k => ((List.lookup k ([] : List (Nat × List Nat))).getD []), cut := fun k => List.contains [] k, rc := fun i n => none }
theorem slices_ContainsFunc_api_Local_api_Local_wp (a0 a1 : AV) (h : AHeap) (R : AV → AHeap → Prop) (H :
 CallsA Tryd.prog 67 [a0, a1] h (later (fun v1 h2 =>
 obind (binA .other .geq v1 (.int .i64 0)) (later (fun v3 =>
 R v3 h2) ())) ())) : CallsA Tryd.prog 59 [a0, a1] h R :=
 CallsA_intro g_slices_ContainsFunc_api_Local_api_Local mixed_ Tryd.func59 (show Tryd.f59.body = some c_slices_ContainsFunc_api_Local_api_Local by kernel_rfl) Tryd.ntmps59 (by kernel_rfl) (Nat.le_of_ble_eq_true rfl) Tryd.call59 (Eq.mpr (by kernel_rfl) H)
/- padlock/code.between -/
noncomputable def c_code_between : Code := (Tryd.f62.body).getD .skip
noncomputable def g_code_between : Cfg := { ch := fun d => List.contains [] d, lv := fun k => ((List.lookup k ([] : List (Nat × List Nat))).getD []), cut := fun k => List.contains [] k, rc := fun i n => none }
theorem code_between_wp (a0 a1 : AV) (h : AHeap) (R : AV → AHeap → Prop) (H :
 obind (binA .other .geq a0 (.int .i64 0)) (later (fun v1 =>
 pJoin (later (fun x2 =>
 pGuard v1 true (obind (binA .other .lss a0 a1) (later (fun v3 =>
 x2 [a0, a1, v3] h) ())) (x2 [.tup [], .tup [], .tup []] h)) ()) (later (fun x4 h5 =>
 pPick v1 (nth x4 2) (.bool false) (later (fun v6 =>
 R v6 h5) ())) ())) ())) : CallsA Tryd.prog 62 [a0, a1] h R :=
 CallsA_intro g_code_between mixed_ Tryd.func62 (show Tryd.f62.body = some c_code_between by kernel_rfl) Tryd.ntmps62 (by kernel_rfl) (Nat.le_of_ble_eq_true rfl) Tryd.call62 (Eq.mpr (by kernel_rfl) H)
/- padlock/code.local -/
noncomputable def c_code_local : Code := (Tryd.f61.body).getD .skip
noncomputable def g_code_local : Cfg := { ch := fun d => List.contains [2, 3, 12, 13] d, lv := fun k => ((List.lookup k ([] : List (Nat × List Nat))).getD []), cut := fun k => List.contains [] k, rc := fun i n => none }
theorem code_local_wp (a0 a1 : AV) (h : AHeap) (R : AV → AHeap → Prop) (H :
 pBox true 44 a0 h (later (fun v1 h2 =>
 pBox true 69 a1 h2 (later (fun v3 h4 =>
 pFieldAddr 0 v3 (later (fun v5 =>
 pLoad none v5 h4 (later (fun v6 =>
 obind (binA .other .eql v6 (.int .i64 4)) (later (fun v7 =>
 pCond v7 (pFieldAddr 1 v3 (later (fun v8 =>
 pLoad none v8 h4 (later (fun v9 =>
 pFieldAddr 0 v1 (later (fun v10 =>
 pLoad none v10 h4 (later (fun v11 =>
 pLen .slice v11 (later (fun v12 =>
 CallsA Tryd.prog 62 [v9, v12] h4 (later (fun v13 h14 =>
 R v13 h14) ())) ())) ())) ())) ())) ())) (pFieldAddr 0 v3 (later (fun v15 =>
 pLoad none v15 h4 (later (fun v16 =>
 obind (binA .other .geq v16 (.int .i64 1)) (later (fun v17 =>
 pJoin (later (fun x18 =>
 pGuard v17 true (pFieldAddr 0 v3 (later (fun v19 =>
 pLoad none v19 h4 (later (fun v20 =>
 obind (binA .other .leq v20 (.int .i64 3)) (later (fun v21 =>
 x18 [v19, v20, v21] h4) ())) ())) ())) (x18 [.tup [], .tup [], .tup []] h4)) ()) (later (fun x22 h23 =>
 pPick v17 (nth x22 2) (.bool false) (later (fun v24 =>
 pJoin (later (fun x25 =>
 pGuard v24 true (pFieldAddr 1 v3 (later (fun v26 =>
 pLoad none v26 h23 (later (fun v27 =>
 obind (binA .other .eql v27 (.int .i64 0)) (later (fun v28 =>
 x25 [v26, v27, v28] h23) ())) ())) ())) (x25 [.tup [], .tup [], .tup []] h23)) ()) (later (fun x29 h30 =>
 pPick v24 (nth x29 2) (.bool false) (later (fun v31 =>
 R v31 h30) ())) ())) ())) ())) ())) ())) ()))) ())) ())) ())) ())) ())) : CallsA Tryd.prog 61 [a0, a1] h R :=
 CallsA_intro g_code_local mixed_ Tryd.func61 (show Tryd.f61.body = some c_code_local by kernel_rfl) Tryd.ntmps61 (by kernel_rfl) (Nat.le_of_ble_eq_true rfl) Tryd.call61 (Eq.mpr (by kernel_rfl) H)
/- padlock/code.cells$1 -/
noncomputable def c_code_cells_1 : Code := (Tryd.f60.body).getD .skip
noncomputable def g_code_cells_1 : Cfg := { ch := fun d => List.contains [2, 9] d, lv := fun k => ((List.lookup k ([] : List (Nat × List Nat))).getD []), cut := fun k => List.contains [] k, rc := fun i n => none }
theorem code_cells_1_wp (a0 a1 : AV) (h : AHeap) (R : AV → AHeap → Prop) (H :
 pBox true 69 a0 h (later (fun v1 h2 =>
 pFieldAddr 2 v1 (later (fun v3 =>
 pLoad none v3 h2 (later (fun v4 =>
 pJoin (later (fun x5 =>
 pGuard v4 false (pLoad (some 5) a1 h2 (later (fun v6 =>
 pLoad (some 3) v1 h2 (later (fun v7 =>
 CallsA Tryd.prog 61 [v6, v7] h2 (later (fun v8 h9 =>
 obind (unA .not v8) (later (fun v10 =>
 x5 [v6, v7, v8, v10] h9) ())) ())) ())) ())) (x5 [.tup [], .tup [], .tup [], .tup []] h2)) ()) (later (fun x11 h12 =>
 pPick v4 (.bool true) (nth x11 3) (later (fun v13 =>
 R v13 h12) ())) ())) ())) ())) ())) : CallsA Tryd.prog 60 [a0, a1] h R :=
 CallsA_intro g_code_cells_1 mixed_ Tryd.func60 (show Tryd.f60.body = some c_code_cells_1 by kernel_rfl) Tryd.ntmps60 (by kernel_rfl) (Nat.le_of_ble_eq_true rfl) Tryd.call60 (Eq.mpr (by kernel_rfl) H)
/- padlock/code.cells -/
noncomputable def c_code_cells : Code := (Tryd.f45.body).getD .skip
noncomputable def g_code_cells : Cfg := { ch := fun d => List.contains [3, 8, 14] d, lv := fun k => ((List.lookup k ([] : List (Nat × List Nat))).getD []), cut := fun k => List.contains [] k, rc := fun i n => none }
theorem code_cells_wp (a0 a1 a2 : AV) (h : AHeap) (R : AV → AHeap → Prop) (H :
 pBox true 44 a0 h (later (fun v1 h2 =>
 pLen .slice a1 (later (fun v3 =>
 obind (binA .other .leq v3 a2) (later (fun v4 =>
 pJoin (later (fun x5 =>
 pGuard v4 true (CallsA Tryd.prog 59 [a1, .fn (Fn.func 60) [] [v1]] h2 (later (fun v6 h7 =>
 obind (unA .not v6) (later (fun v8 =>
 x5 [a1, .fn (Fn.func 60) [] [v1], v6, v8] h7) ())) ())) (x5 [.tup [], .tup [], .tup [], .tup []] h2)) ()) (later (fun x9 h10 =>
 pPick v4 (nth x9 3) (.bool false) (later (fun v11 =>
 R v11 h10) ())) ())) ())) ())) ())) : CallsA Tryd.prog 45 [a0, a1, a2] h R :=
 CallsA_intro g_code_cells mixed_ Tryd.func45 (show Tryd.f45.body = some c_code_cells by kernel_rfl) Tryd.ntmps45 (by kernel_rfl) (Nat.le_of_ble_eq_true rfl) Tryd.call45 (Eq.mpr (by kernel_rfl) H)
/- padlock/code.sections -/
noncomputable def c_code_sections : Code := (Tryd.f46.body).getD .skip
noncomputable def g_code_sections : Cfg := { ch := fun d => List.contains [1, 10, 20, 21, 45, 95, 123] d, lv := fun k => ((List.lookup k ([(2, [1, 9, 10, 11]), (10, [1, 4, 9, 10, 11, 94, 95, 96])] : List (Nat × List Nat))).getD []), cut := fun k => List.contains [] k, rc := fun i n => ((List.lookup i ([(7, [(11, [1, 3, 4, 5, 9, 10, 11, 72, 79])])] : List (Nat × List (Nat × List Nat)))).getD []).lookup n }
noncomputable def c_code_sections_2 : Code := (loopOf 2 c_code_sections).getD .skip
noncomputable def c_code_sections_10 : Code := (loopOf 10 c_code_sections).getD .skip
theorem code_sections_wp (a0 : AV) (h : AHeap) (R : AV → AHeap → Prop) (H :
 pBox true 44 a0 h (later (fun v1 h2 =>
 pFieldAddr 4 v1 (later (fun v3 =>
 pLoad none v3 h2 (later (fun v4 =>
 pLen .slice v4 (later (fun v5 =>
 WP Tryd.prog 125 (Code.loop c_code_sections_2) (frOf [(1, v1), (9, v4), (10, v5), (11, .int .i64 0)]) h2 (exitQ (later (fun fr6 h7 =>
 False) ()) (later (fun x8 fr9 h10 =>
 pIdx x8 0 (pIdx 0 0 (pFieldAddr 4 (fr9 1) (later (fun v11 =>
 pLoad none v11 h10 (later (fun v12 =>
 pLen .slice v12 (later (fun v13 =>
 obind (binA .other .leq v13 (.int .i64 32)) (later (fun v14 =>
 R v14 h10) ())) ())) ())) ())) False) False) ()) (later (fun fr15 h16 =>
 R (fr15 2) h16) ()))) ())) ())) ())) ())) : CallsA Tryd.prog 46 [a0] h R :=
 CallsA_intro g_code_sections mixed_ Tryd.func46 (show Tryd.f46.body = some c_code_sections by kernel_rfl) Tryd.ntmps46 (by kernel_rfl) (Nat.le_of_ble_eq_true rfl) Tryd.call46 (Eq.mpr (by kernel_rfl) H)
theorem code_sections_loop2 (s1 s9 s10 s11 : AV) (h : AHeap) (Q : AExit → Fr → AHeap → Prop) (H :
 obind (binA .other .lss s11 s10) (later (fun v1 =>
 pCond v1 (pIndexAddr (.slice 3) s9 s11 (later (fun v2 =>
 pLoad (some 3) v2 h (later (fun v3 =>
 pAlloc 71 [.int .i64 0, .int .i64 0, .int .i64 0] h (later (fun v4 h5 =>
 pStore 3 v4 v3 h5 (later (fun h6 =>
 true = true ∧ pFieldAddr 0 v4 (later (fun v7 =>
 pLoad none v7 h6 (later (fun v8 =>
 pFieldAddr 2 s1 (later (fun v9 =>
 pLoad none v9 h6 (later (fun v10 =>
 pLen .slice v10 (later (fun v11 =>
 CallsA Tryd.prog 62 [v8, v11] h6 (later (fun v12 h13 =>
 True ∧ obind (unA .not v12) (later (fun v14 =>
 pJoin (later (fun x15 =>
 pGuardS v14 false (pFieldAddr 1 v4 (later (fun v16 =>
 x15 [v16] h13) ())) (x15 [.tup []] h13)) ()) (later (fun x17 h18 =>
 pJoin (later (fun x19 =>
 pGuardS v14 false (pLoad none (nth x17 0) h18 (later (fun v20 =>
 x19 [v20] h18) ())) (x19 [.tup []] h18)) ()) (later (fun x21 h22 =>
 pJoin (later (fun x23 =>
 pGuardS v14 false (obind (binA .other .lss (nth x21 0) (.int .i64 0)) (later (fun v24 =>
 x23 [v24] h22) ())) (x23 [.tup []] h22)) ()) (later (fun x25 h26 =>
 pPick v14 (.bool true) (nth x25 0) (later (fun v27 =>
 pJoin (later (fun x28 =>
 pGuardS v27 false (pFieldAddr 1 v4 (later (fun v29 =>
 x28 [v29] h26) ())) (x28 [.tup []] h26)) ()) (later (fun x30 h31 =>
 pJoin (later (fun x32 =>
 pGuardS v27 false (pLoad none (nth x30 0) h31 (later (fun v33 =>
 x32 [v33] h31) ())) (x32 [.tup []] h31)) ()) (later (fun x34 h35 =>
 pJoin (later (fun x36 =>
 pGuardS v27 false (pFieldAddr 2 v4 (later (fun v37 =>
 x36 [v37] h35) ())) (x36 [.tup []] h35)) ()) (later (fun x38 h39 =>
 pJoin (later (fun x40 =>
 pGuardS v27 false (pLoad none (nth x38 0) h39 (later (fun v41 =>
 x40 [v41] h39) ())) (x40 [.tup []] h39)) ()) (later (fun x42 h43 =>
 pJoin (later (fun x44 =>
 pGuardS v27 false (obind (binA .other .geq (nth x34 0) (nth x42 0)) (later (fun v45 =>
 x44 [v45] h43) ())) (x44 [.tup []] h43)) ()) (later (fun x46 h47 =>
 pPick v27 (.bool true) (nth x46 0) (later (fun v48 =>
 pJoin (later (fun x49 =>
 pGuardS v48 false (pFieldAddr 2 v4 (later (fun v50 =>
 x49 [v50] h47) ())) (x49 [.tup []] h47)) ()) (later (fun x51 h52 =>
 pJoin (later (fun x53 =>
 pGuardS v48 false (pLoad none (nth x51 0) h52 (later (fun v54 =>
 x53 [v54] h52) ())) (x53 [.tup []] h52)) ()) (later (fun x55 h56 =>
 pJoin (later (fun x57 =>
 pGuardS v48 false (pFieldAddr 2 s1 (later (fun v58 =>
 x57 [v58] h56) ())) (x57 [.tup []] h56)) ()) (later (fun x59 h60 =>
 pJoin (later (fun x61 =>
 pGuardS v48 false (pLoad none (nth x59 0) h60 (later (fun v62 =>
 x61 [v62] h60) ())) (x61 [.tup []] h60)) ()) (later (fun x63 h64 =>
 pJoin (later (fun x65 =>
 pGuardS v48 false (pFieldAddr 0 v4 (later (fun v66 =>
 x65 [v66] h64) ())) (x65 [.tup []] h64)) ()) (later (fun x67 h68 =>
 pJoin (later (fun x69 =>
 pGuardS v48 false (pLoad none (nth x67 0) h68 (later (fun v70 =>
 x69 [v70] h68) ())) (x69 [.tup []] h68)) ()) (later (fun x71 h72 =>
 pJoin (later (fun x73 =>
 pGuardS v48 false (pIndexAddr (.slice 3) (nth x63 0) (nth x71 0) (later (fun v74 =>
 x73 [v74] h72) ())) (x73 [.tup []] h72)) ()) (later (fun x75 h76 =>
 pJoin (later (fun x77 =>
 pGuardS v48 false (pFieldAddr 1 (nth x75 0) (later (fun v78 =>
 x77 [v78] h76) ())) (x77 [.tup []] h76)) ()) (later (fun x79 h80 =>
 pJoin (later (fun x81 =>
 pGuardS v48 false (pLoad none (nth x79 0) h80 (later (fun v82 =>
 x81 [v82] h80) ())) (x81 [.tup []] h80)) ()) (later (fun x83 h84 =>
 pJoin (later (fun x85 =>
 pGuardS v48 false (pLen .slice (nth x83 0) (later (fun v86 =>
 x85 [v86] h84) ())) (x85 [.tup []] h84)) ()) (later (fun x87 h88 =>
 pJoin (later (fun x89 =>
 pGuardS v48 false (obind (binA .other .geq (nth x55 0) (nth x87 0)) (later (fun v90 =>
 x89 [v90] h88) ())) (x89 [.tup []] h88)) ()) (later (fun x91 h92 =>
 pPick v48 (.bool true) (nth x91 0) (later (fun v93 =>
 pCond v93 (Q .ret (frOf [(2, .bool false)]) h92) (pFieldAddr 2 s1 (later (fun v94 =>
 pLoad none v94 h92 (later (fun v95 =>
 pFieldAddr 0 v4 (later (fun v96 =>
 pLoad none v96 h92 (later (fun v97 =>
 pIndexAddr (.slice 3) v95 v97 (later (fun v98 =>
 pFieldAddr 1 v98 (later (fun v99 =>
 pLoad none v99 h92 (later (fun v100 =>
 pFieldAddr 1 v4 (later (fun v101 =>
 pLoad none v101 h92 (later (fun v102 =>
 pIndexAddr (.slice 8) v100 v102 (later (fun v103 =>
 pFieldAddr 0 v103 (later (fun v104 =>
 pLoad none v104 h92 (later (fun v105 =>
 obind (binA .other .neq v105 (.int .i64 15)) (later (fun v106 =>
 pJoin (later (fun x107 =>
 pGuard v106 false (pFieldAddr 1 v4 (later (fun v108 =>
 pLoad none v108 h92 (later (fun v109 =>
 pIndexAddr (.slice 8) v100 v109 (later (fun v110 =>
 pFieldAddr 4 v110 (later (fun v111 =>
 pLoad none v111 h92 (later (fun v112 =>
 obind (binA .other .neq v112 s11) (later (fun v113 =>
 x107 [v100, v108, v109, v110, v111, v112, s11, v113] h92) ())) ())) ())) ())) ())) ())) (x107 [.tup [], .tup [], .tup [], .tup [], .tup [], .tup [], .tup [], .tup []] h92)) ()) (later (fun x114 h115 =>
 pPick v106 (.bool true) (nth x114 7) (later (fun v116 =>
 pJoin (later (fun x117 =>
 pGuard v116 false (pFieldAddr 2 v4 (later (fun v118 =>
 pLoad none v118 h115 (later (fun v119 =>
 pIndexAddr (.slice 8) v100 v119 (later (fun v120 =>
 pFieldAddr 0 v120 (later (fun v121 =>
 pLoad none v121 h115 (later (fun v122 =>
 obind (binA .other .neq v122 (.int .i64 16)) (later (fun v123 =>
 x117 [v100, v118, v119, v120, v121, v122, v123] h115) ())) ())) ())) ())) ())) ())) (x117 [.tup [], .tup [], .tup [], .tup [], .tup [], .tup [], .tup []] h115)) ()) (later (fun x124 h125 =>
 pChunk [s1, s11, v4, v100, s9, s10, s11, v116, nth x124 6] (later (fun x126 =>
 pPick (nth x126 7) (.bool true) (nth x126 8) (later (fun v127 =>
 pJoin (later (fun x128 =>
 pGuard v127 false (pFieldAddr 2 (nth x126 2) (later (fun v129 =>
 pLoad none v129 h125 (later (fun v130 =>
 pIndexAddr (.slice 8) (nth x126 3) v130 (later (fun v131 =>
 pFieldAddr 4 v131 (later (fun v132 =>
 pLoad none v132 h125 (later (fun v133 =>
 obind (binA .other .neq v133 (nth x126 1)) (later (fun v134 =>
 x128 [nth x126 3, v129, v130, v131, v132, v133, nth x126 1, v134] h125) ())) ())) ())) ())) ())) ())) (x128 [.tup [], .tup [], .tup [], .tup [], .tup [], .tup [], .tup [], .tup []] h125)) ()) (later (fun x135 h136 =>
 pPick v127 (.bool true) (nth x135 7) (later (fun v137 =>
 pCond v137 (Q .ret (frOf [(2, .bool false)]) h136) (pFieldAddr 4 (nth x126 0) (later (fun v138 =>
 pLoad none v138 h136 (later (fun v139 =>
 pSliceSl 3 v139 none (some (nth x126 1)) (later (fun v140 =>
 pLen .slice v140 (later (fun v141 =>
 WP Tryd.prog 125 (Code.loop c_code_sections_10) (frOf [(1, nth x126 0), (4, nth x126 2), (9, nth x126 4), (10, nth x126 5), (11, nth x126 6), (94, v140), (95, v141), (96, .int .i64 0)]) h136 (exitQ (later (fun fr142 h143 =>
 False) ()) (later (fun x144 fr145 h146 =>
 pIdx x144 2 (pIdx 2 2 (obind (binA .other .add (fr145 11) (.int .i64 1)) (later (fun v147 =>
 Q .normal (frOf [(1, fr145 1), (9, fr145 9), (10, fr145 10), (11, v147)]) h146) ())) (pIdx 2 1 (obind (binA .other .add (fr145 11) (.int .i64 1)) (later (fun v148 =>
 Q .normal (frOf [(1, fr145 1), (9, fr145 9), (10, fr145 10), (11, v148)]) h146) ())) (Q (.exit 2) (frOf [(1, fr145 1)]) h146))) False) ()) (later (fun fr149 h150 =>
 Q .ret (frOf [(2, fr149 2)]) h150) ()))) ())) ())) ())) ()))) ())) ())) ())) ())) ())) ())) ())) ())) ())) ())) ())) ())) ())) ())) ())) ())) ())) ())) ())) ()))) ())) ())) ())) ())) ())) ())) ())) ())) ())) ())) ())) ())) ())) ())) ())) ())) ())) ())) ())) ())) ())) ())) ())) ())) ())) ())) ())) ())) ())) ())) ())) ())) ())) (Q (.exit 0) (frOf [(1, s1)]) h)) ())) : WP Tryd.prog 125 c_code_sections_2 (frOf [(1, s1), (9, s9), (10, s10), (11, s11)]) h Q :=
 WP_body g_code_sections [0] [1, 9, 10, 11] [1] [2] mixed_ (by kernel_rfl) (Eq.mpr (by kernel_rfl) H)
theorem code_sections_loop10 (s1 s4 s9 s10 s11 s94 s95 s96 : AV) (h : AHeap) (Q : AExit → Fr → AHeap → Prop) (H :
 obind (binA .other .lss s96 s95) (later (fun v1 =>
 pCond v1 (pIndexAddr (.slice 3) s94 s96 (later (fun v2 =>
 pLoad (some 3) v2 h (later (fun v3 =>
 pAlloc 71 [.int .i64 0, .int .i64 0, .int .i64 0] h (later (fun v4 h5 =>
 pStore 3 v4 v3 h5 (later (fun h6 =>
 pFieldAddr 0 v4 (later (fun v7 =>
 pLoad none v7 h6 (later (fun v8 =>
 pFieldAddr 0 s4 (later (fun v9 =>
 pLoad none v9 h6 (later (fun v10 =>
 obind (binA .other .eql v8 v10) (later (fun v11 =>
 pJoin (later (fun x12 =>
 pGuard v11 true (pFieldAddr 1 v4 (later (fun v13 =>
 pLoad none v13 h6 (later (fun v14 =>
 pFieldAddr 2 s4 (later (fun v15 =>
 pLoad none v15 h6 (later (fun v16 =>
 obind (binA .other .leq v14 v16) (later (fun v17 =>
 x12 [v13, v14, v15, v16, v17] h6) ())) ())) ())) ())) ())) (x12 [.tup [], .tup [], .tup [], .tup [], .tup []] h6)) ()) (later (fun x18 h19 =>
 pPick v11 (nth x18 4) (.bool false) (later (fun v20 =>
 pJoin (later (fun x21 =>
 pGuard v20 true (pFieldAddr 1 s4 (later (fun v22 =>
 pLoad none v22 h19 (later (fun v23 =>
 pFieldAddr 2 v4 (later (fun v24 =>
 pLoad none v24 h19 (later (fun v25 =>
 obind (binA .other .leq v23 v25) (later (fun v26 =>
 x21 [v22, v23, v24, v25, v26] h19) ())) ())) ())) ())) ())) (x21 [.tup [], .tup [], .tup [], .tup [], .tup []] h19)) ()) (later (fun x27 h28 =>
 pPick v20 (nth x27 4) (.bool false) (later (fun v29 =>
 pCond v29 (Q .ret (frOf [(2, .bool false)]) h28) (obind (binA .other .add s96 (.int .i64 1)) (later (fun v30 =>
 Q .normal (frOf [(1, s1), (4, s4), (9, s9), (10, s10), (11, s11), (94, s94), (95, s95), (96, v30)]) h28) ()))) ())) ())) ())) ())) ())) ())) ())) ())) ())) ())) ())) ())) ())) (Q (.exit 2) (frOf [(1, s1), (9, s9), (10, s10), (11, s11)]) h)) ())) : WP Tryd.prog 125 c_code_sections_10 (frOf [(1, s1), (4, s4), (9, s9), (10, s10), (11, s11), (94, s94), (95, s95), (96, s96)]) h Q :=
 WP_body g_code_sections [2, 1, 0] [1, 4, 9, 10, 11, 94, 95, 96] [1, 9, 10, 11] [2] mixed_ (by kernel_rfl) (Eq.mpr (by kernel_rfl) H)
/- padlock/code.sites -/
noncomputable def c_code_sites : Code := (Tryd.f47.body).getD .skip
noncomputable def g_code_sites : Cfg := { ch := fun d => List.contains [1, 8, 18, 19, 31, 32, 63] d, lv := fun k => ((List.lookup k ([(2, [1, 7, 8, 9])] : List (Nat × List Nat))).getD []), cut := fun k => List.contains [] k, rc := fun i n => none }
noncomputable def c_code_sites_2 : Code := (loopOf 2 c_code_sites).getD .skip
theorem code_sites_wp (a0 : AV) (h : AHeap) (R : AV → AHeap → Prop) (H :
 pBox true 44 a0 h (later (fun v1 h2 =>
 pFieldAddr 3 v1 (later (fun v3 =>
 pLoad none v3 h2 (later (fun v4 =>
 pLen .slice v4 (later (fun v5 =>
 WP Tryd.prog 65 (Code.loop c_code_sites_2) (frOf [(1, v1), (7, v4), (8, v5), (9, .int .i64 0)]) h2 (exitQ (later (fun fr6 h7 =>
 False) ()) (later (fun x8 fr9 h10 =>
 pIdx x8 0 (pIdx 0 0 (pFieldAddr 3 (fr9 1) (later (fun v11 =>
 pLoad none v11 h10 (later (fun v12 =>
 pLen .slice v12 (later (fun v13 =>
 obind (binA .other .leq v13 (.int .i64 32)) (later (fun v14 =>
 R v14 h10) ())) ())) ())) ())) False) False) ()) (later (fun fr15 h16 =>
 R (fr15 2) h16) ()))) ())) ())) ())) ())) : CallsA Tryd.prog 47 [a0] h R :=
 CallsA_intro g_code_sites mixed_ Tryd.func47 (show Tryd.f47.body = some c_code_sites by kernel_rfl) Tryd.ntmps47 (by kernel_rfl) (Nat.le_of_ble_eq_true rfl) Tryd.call47 (Eq.mpr (by kernel_rfl) H)
theorem code_sites_loop2 (s1 s7 s8 s9 : AV) (h : AHeap) (Q : AExit → Fr → AHeap → Prop) (H :
 obind (binA .other .lss s9 s8) (later (fun v1 =>
 pCond v1 (pIndexAddr (.slice 3) s7 s9 (later (fun v2 =>
 pLoad (some 3) v2 h (later (fun v3 =>
 pAlloc 54 [.int .i64 0, .int .i64 0, .int .i64 0] h (later (fun v4 h5 =>
 pStore 3 v4 v3 h5 (later (fun h6 =>
 true = true ∧ pFieldAddr 0 v4 (later (fun v7 =>
 pLoad none v7 h6 (later (fun v8 =>
 pFieldAddr 2 s1 (later (fun v9 =>
 pLoad none v9 h6 (later (fun v10 =>
 pLen .slice v10 (later (fun v11 =>
 CallsA Tryd.prog 62 [v8, v11] h6 (later (fun v12 h13 =>
 True ∧ obind (unA .not v12) (later (fun v14 =>
 pJoin (later (fun x15 =>
 pGuardS v14 false (pFieldAddr 1 v4 (later (fun v16 =>
 x15 [v16] h13) ())) (x15 [.tup []] h13)) ()) (later (fun x17 h18 =>
 pJoin (later (fun x19 =>
 pGuardS v14 false (pLoad none (nth x17 0) h18 (later (fun v20 =>
 x19 [v20] h18) ())) (x19 [.tup []] h18)) ()) (later (fun x21 h22 =>
 pJoin (later (fun x23 =>
 pGuardS v14 false (pFieldAddr 2 s1 (later (fun v24 =>
 x23 [v24] h22) ())) (x23 [.tup []] h22)) ()) (later (fun x25 h26 =>
 pJoin (later (fun x27 =>
 pGuardS v14 false (pLoad none (nth x25 0) h26 (later (fun v28 =>
 x27 [v28] h26) ())) (x27 [.tup []] h26)) ()) (later (fun x29 h30 =>
 pJoin (later (fun x31 =>
 pGuardS v14 false (pFieldAddr 0 v4 (later (fun v32 =>
 x31 [v32] h30) ())) (x31 [.tup []] h30)) ()) (later (fun x33 h34 =>
 pJoin (later (fun x35 =>
 pGuardS v14 false (pLoad none (nth x33 0) h34 (later (fun v36 =>
 x35 [v36] h34) ())) (x35 [.tup []] h34)) ()) (later (fun x37 h38 =>
 pJoin (later (fun x39 =>
 pGuardS v14 false (pIndexAddr (.slice 3) (nth x29 0) (nth x37 0) (later (fun v40 =>
 x39 [v40] h38) ())) (x39 [.tup []] h38)) ()) (later (fun x41 h42 =>
 pJoin (later (fun x43 =>
 pGuardS v14 false (pFieldAddr 1 (nth x41 0) (later (fun v44 =>
 x43 [v44] h42) ())) (x43 [.tup []] h42)) ()) (later (fun x45 h46 =>
 pJoin (later (fun x47 =>
 pGuardS v14 false (pLoad none (nth x45 0) h46 (later (fun v48 =>
 x47 [v48] h46) ())) (x47 [.tup []] h46)) ()) (later (fun x49 h50 =>
 pJoin (later (fun x51 =>
 pGuardS v14 false (pLen .slice (nth x49 0) (later (fun v52 =>
 x51 [v52] h50) ())) (x51 [.tup []] h50)) ()) (later (fun x53 h54 =>
 pJoin (later (fun x55 =>
 pGuardS v14 false (CallsA Tryd.prog 62 [nth x21 0, nth x53 0] h54 (later (fun v56 h57 =>
 x55 [v56] h57) ())) (x55 [.tup []] h54)) ()) (later (fun x58 h59 =>
 True ∧ pJoin (later (fun x60 =>
 pGuardS v14 false (obind (unA .not (nth x58 0)) (later (fun v61 =>
 x60 [v61] h59) ())) (x60 [.tup []] h59)) ()) (later (fun x62 h63 =>
 pPick v14 (.bool true) (nth x62 0) (later (fun v64 =>
 pCond v64 (Q .ret (frOf [(2, .bool false)]) h63) (true = true ∧ pFieldAddr 2 s1 (later (fun v65 =>
 pLoad none v65 h63 (later (fun v66 =>
 pFieldAddr 0 v4 (later (fun v67 =>
 pLoad none v67 h63 (later (fun v68 =>
 pIndexAddr (.slice 3) v66 v68 (later (fun v69 =>
 pFieldAddr 1 v69 (later (fun v70 =>
 pLoad none v70 h63 (later (fun v71 =>
 pFieldAddr 1 v4 (later (fun v72 =>
 pLoad none v72 h63 (later (fun v73 =>
 pIndexAddr (.slice 8) v71 v73 (later (fun v74 =>
 pLoad (some 8) v74 h63 (later (fun v75 =>
 pAlloc 58 [.int .i64 0, .int .i64 0, .int .i64 0, .int .i64 0, .int .i64 0, .int .i64 0, .nils, .nils] h63 (later (fun v76 h77 =>
 ((pLoad (some 8) v74 h77 (later (fun v78 =>
 v78 = v75 ∧ h77 = h77) ())) ∧ (pLoad none v72 h77 (later (fun v79 =>
 v79 = v73 ∧ h77 = h77) ())) ∧ (pLoad none v70 h77 (later (fun v80 =>
 v80 = v71 ∧ h77 = h77) ())) ∧ (pLoad none v67 h77 (later (fun v81 =>
 v81 = v68 ∧ h77 = h77) ())) ∧ pLoad none v65 h77 (later (fun v82 =>
 v82 = v66 ∧ h77 = h77) ())) ∧ pStore 8 v76 v75 h77 (later (fun h83 =>
 True ∧ pFieldAddr 4 v76 (later (fun v84 =>
 pLoad none v84 h83 (later (fun v85 =>
 obind (binA .other .neq v85 s9) (later (fun v86 =>
 pJoin (later (fun x87 =>
 pGuard v86 false (pFieldAddr 0 v76 (later (fun v88 =>
 pLoad none v88 h83 (later (fun v89 =>
 obind (binA .other .neq v89 (.int .i64 8)) (later (fun v90 =>
 x87 [v88, v89, v90, v90] h83) ())) ())) ())) (x87 [.tup [], .tup [], .tup [], .tup []] h83)) ()) (later (fun x91 h92 =>
 pJoin (later (fun x93 =>
 pGuard (nth x91 3) true (pFieldAddr 0 v76 (later (fun v94 =>
 pLoad none v94 h92 (later (fun v95 =>
 obind (binA .other .neq v95 (.int .i64 9)) (later (fun v96 =>
 x93 [v94, v95, v96] h92) ())) ())) ())) (x93 [.tup [], .tup [], .tup []] h92)) ()) (later (fun x97 h98 =>
 pJoin (later (fun x99 =>
 pGuard v86 false (pPick (nth x91 3) (nth x97 2) (.bool false) (later (fun v100 =>
 x99 [v100] h98) ())) (x99 [.tup []] h98)) ()) (later (fun x101 h102 =>
 pPick v86 (.bool true) (nth x101 0) (later (fun v103 =>
 pCond v103 (Q .ret (frOf [(2, .bool false)]) h102) (obind (binA .other .add s9 (.int .i64 1)) (later (fun v104 =>
 Q .normal (frOf [(1, s1), (7, s7), (8, s8), (9, v104)]) h102) ()))) ())) ())) ())) ())) ())) ())) ())) ())) ())) ())) ())) ())) ())) ())) ())) ())) ())) ())) ())) ()))) ())) ())) ())) ())) ())) ())) ())) ())) ())) ())) ())) ())) ())) ())) ())) ())) ())) ())) ())) ())) ())) ())) ())) ())) (Q (.exit 0) (frOf [(1, s1)]) h)) ())) : WP Tryd.prog 65 c_code_sites_2 (frOf [(1, s1), (7, s7), (8, s8), (9, s9)]) h Q :=
 WP_body g_code_sites [0] [1, 7, 8, 9] [1] [2] mixed_ (by kernel_rfl) (Eq.mpr (by kernel_rfl) H)
/- (padlock/code.maker).all$1 -/
noncomputable def c_code_maker_all_1 : Code := (Tryd.f63.body).getD .skip
noncomputable def g_code_maker_all_1 : Cfg := { ch := fun d => List.contains [2, 7] d, lv := fun k => ((List.lookup k ([] : List (Nat × List Nat))).getD []), cut := fun k => List.contains [] k, rc := fun i n => none }
theorem code_maker_all_1_wp (a0 a1 : AV) (h : AHeap) (R : AV → AHeap → Prop) (H :
 pBox true 69 a0 h (later (fun v1 h2 =>
 pFieldAddr 0 a1 (later (fun v3 =>
 pLoad (some 5) v3 h2 (later (fun v4 =>
 pLoad (some 3) v1 h2 (later (fun v5 =>
 CallsA Tryd.prog 61 [v4, v5] h2 (later (fun v6 h7 =>
 obind (unA .not v6) (later (fun v8 =>
 R v8 h7) ())) ())) ())) ())) ())) ())) : CallsA Tryd.prog 63 [a0, a1] h R :=
 CallsA_intro g_code_maker_all_1 mixed_ Tryd.func63 (show Tryd.f63.body = some c_code_maker_all_1 by kernel_rfl) Tryd.ntmps63 (by kernel_rfl) (Nat.le_of_ble_eq_true rfl) Tryd.call63 (Eq.mpr (by kernel_rfl) H)
/- padlock/code.shared -/
noncomputable def c_code_shared : Code := (Tryd.f68.body).getD .skip
noncomputable def g_code_shared : Cfg := { ch := fun d => List.contains [] d, lv := fun k => ((List.lookup k ([] : List (Nat × List Nat))).getD []), cut := fun k => List.contains [] k, rc := fun i n => none }
theorem code_shared_wp (a0 : AV) (h : AHeap) (R : AV → AHeap → Prop) (H :
 obind (binA .other .geq a0 (.int .i64 2)) (later (fun v1 =>
 pJoin (later (fun x2 =>
 pGuard v1 true (obind (binA .other .leq a0 (.int .i64 9)) (later (fun v3 =>
 x2 [a0, v3] h) ())) (x2 [.tup [], .tup []] h)) ()) (later (fun x4 h5 =>
 pPick v1 (nth x4 1) (.bool false) (later (fun v6 =>
 R v6 h5) ())) ())) ())) : CallsA Tryd.prog 68 [a0] h R :=
 CallsA_intro g_code_shared mixed_ Tryd.func68 (show Tryd.f68.body = some c_code_shared by kernel_rfl) Tryd.ntmps68 (by kernel_rfl) (Nat.le_of_ble_eq_true rfl) Tryd.call68 (Eq.mpr (by kernel_rfl) H)
/- slices.IndexFunc[[]padlock/api.Section,padlock/api.Section] -/
noncomputable def c_slices_IndexFunc_api_Section_api_Section : Code := (Tryd.f78.body).getD .skip
noncomputable def g_slices_IndexFunc_api_Section_api_Section : Cfg := { ch := fun d => List.contains [7, 16] d, lv := fun k => ((List.lookup k ([(2, [0, 1, 7, 8])] : List (Nat × List Nat))).getD []), cut := fun k => List.contains [] k, rc := fun i n => none }
noncomputable def c_slices_IndexFunc_api_Section_api_Section_2 : Code := (loopOf 2 c_slices_IndexFunc_api_Section_api_Section).getD .skip
theorem slices_IndexFunc_api_Section_api_Section_wp (a0 a1 : AV) (h : AHeap) (R : AV → AHeap → Prop) (H :
 pLen .slice a0 (later (fun v1 =>
 WP Tryd.prog 19 (Code.loop c_slices_IndexFunc_api_Section_api_Section_2) (frOf [(0, a0), (1, a1), (7, v1), (8, .int .i64 0)]) h (exitQ (later (fun fr2 h3 =>
 False) ()) (later (fun x4 fr5 h6 =>
 pIdx x4 0 (pIdx 0 0 (R (.int .i64 (-1)) h6) False) False) ()) (later (fun fr7 h8 =>
 R (fr7 4) h8) ()))) ())) : CallsA Tryd.prog 78 [a0, a1] h R :=
 CallsA_intro g_slices_IndexFunc_api_Section_api_Section mixed_ Tryd.func78 (show Tryd.f78.body = some c_slices_IndexFunc_api_Section_api_Section by kernel_rfl) Tryd.ntmps78 (by kernel_rfl) (Nat.le_of_ble_eq_true rfl) Tryd.call78 (Eq.mpr (by kernel_rfl) H)
theorem slices_IndexFunc_api_Section_api_Section_loop2 (s0 s1 s7 s8 : AV) (h : AHeap) (Q : AExit → Fr → AHeap → Prop) (H :
 obind (binA .other .lss s8 s7) (later (fun v1 =>
 pCond v1 (pIndexAddr (.slice 3) s0 s8 (later (fun v2 =>
 pLoad (some 3) v2 h (later (fun v3 =>
 pCallF Tryd.prog s1 [v3] h (later (fun v4 h5 =>
 pCond v4 (Q .ret (frOf [(4, s8)]) h5) (obind (binA .other .add s8 (.int .i64 1)) (later (fun v6 =>
 Q .normal (frOf [(0, s0), (1, s1), (7, s7), (8, v6)]) h5) ()))) ())) ())) ())) (Q (.exit 0) (frOf []) h)) ())) : WP Tryd.prog 19 c_slices_IndexFunc_api_Section_api_Section_2 (frOf [(0, s0), (1, s1), (7, s7), (8, s8)]) h Q :=
 WP_body g_slices_IndexFunc_api_Section_api_Section [0] [0, 1, 7, 8] [] [4] mixed_ (by kernel_rfl) (Eq.mpr (by kernel_rfl) H)
/- padlock/code.Inside$1 -/
noncomputable def c_code_Inside_1 : Code := (Tryd.f79.body).getD .skip
noncomputable def g_code_Inside_1 : Cfg := { ch := fun d => List.contains [3] d, lv := fun k => ((List.lookup k ([] : List (Nat × List Nat))).getD []), cut := fun k => List.contains [] k, rc := fun i n => none }
theorem code_Inside_1_wp (a0 a1 a2 : AV) (h : AHeap) (R : AV → AHeap → Prop) (H :
 pBox true 71 a0 h (later (fun v1 h2 =>
 pFieldAddr 0 v1 (later (fun v3 =>
 pLoad none v3 h2 (later (fun v4 =>
 pLoad none a1 h2 (later (fun v5 =>
 obind (binA .other .eql v4 v5) (later (fun v6 =>
 pJoin (later (fun x7 =>
 pGuard v6 true (pLoad none a2 h2 (later (fun v8 =>
 pFieldAddr 1 v1 (later (fun v9 =>
 pLoad none v9 h2 (later (fun v10 =>
 obind (binA .other .gtr v8 v10) (later (fun v11 =>
 x7 [v8, v9, v10, v11] h2) ())) ())) ())) ())) (x7 [.tup [], .tup [], .tup [], .tup []] h2)) ()) (later (fun x12 h13 =>
 pPick v6 (nth x12 3) (.bool false) (later (fun v14 =>
 pJoin (later (fun x15 =>
 pGuard v14 true (pLoad none a2 h13 (later (fun v16 =>
 pFieldAddr 2 v1 (later (fun v17 =>
 pLoad none v17 h13 (later (fun v18 =>
 obind (binA .other .leq v16 v18) (later (fun v19 =>
 x15 [v16, v17, v18, v19] h13) ())) ())) ())) ())) (x15 [.tup [], .tup [], .tup [], .tup []] h13)) ()) (later (fun x20 h21 =>
 pPick v14 (nth x20 3) (.bool false) (later (fun v22 =>
 R v22 h21) ())) ())) ())) ())) ())) ())) ())) ())) ())) : CallsA Tryd.prog 79 [a0, a1, a2] h R :=
 CallsA_intro g_code_Inside_1 mixed_ Tryd.func79 (show Tryd.f79.body = some c_code_Inside_1 by kernel_rfl) Tryd.ntmps79 (by kernel_rfl) (Nat.le_of_ble_eq_true rfl) Tryd.call79 (Eq.mpr (by kernel_rfl) H)
/- padlock/code.Inside -/
noncomputable def c_code_Inside : Code := (Tryd.f69.body).getD .skip
noncomputable def g_code_Inside : Cfg := { ch := fun d => List.contains [3, 4, 5, 10] d, lv := fun k => ((List.lookup k ([] : List (Nat × List Nat))).getD []), cut := fun k => List.contains [] k, rc := fun i n => none }
theorem code_Inside_wp (a0 a1 a2 : AV) (h : AHeap) (R : AV → AHeap → Prop) (H :
 pBox true 44 a0 h (later (fun v1 h2 =>
 pBox true 3 a1 h2 (later (fun v3 h4 =>
 pBox true 3 a2 h4 (later (fun v5 h6 =>
 pFieldAddr 4 v1 (later (fun v7 =>
 pLoad none v7 h6 (later (fun v8 =>
 CallsA Tryd.prog 78 [v8, .fn (Fn.func 79) [] [v3, v5]] h6 (later (fun v9 h10 =>
 R v9 h10) ())) ())) ())) ())) ())) ())) : CallsA Tryd.prog 69 [a0, a1, a2] h R :=
 CallsA_intro g_code_Inside mixed_ Tryd.func69 (show Tryd.f69.body = some c_code_Inside by kernel_rfl) Tryd.ntmps69 (by kernel_rfl) (Nat.le_of_ble_eq_true rfl) Tryd.call69 (Eq.mpr (by kernel_rfl) H)
/- (padlock/code.maker).slot -/
noncomputable def c_code_maker_slot : Code := (Tryd.f70.body).getD .skip
noncomputable def g_code_maker_slot : Cfg := { ch := fun d => List.contains [2, 10, 11] d, lv := fun k => ((List.lookup k ([] : List (Nat × List Nat))).getD []), cut := fun k => List.contains [] k, rc := fun i n => none }
theorem code_maker_slot_wp (a0 a1 : AV) (h : AHeap) (R : AV → AHeap → Prop) (H :
 pBox true 88 a0 h (later (fun v1 h2 =>
 pAlloc 69 [.int .i64 0, .int .i64 0, .bool false] h2 (later (fun v3 h4 =>
 pFieldAddr 6 v1 (later (fun v5 =>
 pFieldAddr 0 v5 (later (fun v6 =>
 pLoad none v6 h4 (later (fun v7 =>
 pLen .slice v7 (later (fun v8 =>
 CallsA Tryd.prog 62 [a1, v8] h4 (later (fun v9 h10 =>
 obind (unA .not v9) (later (fun v11 =>
 pCond v11 (pBuild [(0, 1), (1, 1), (2, 1)] [.int .i64 0, .int .i64 0, .bool false] [] (later (fun v12 =>
 pStore 3 v3 v12 h10 (later (fun h13 =>
 pLoad (some 3) v3 h13 (later (fun v14 =>
 R (.tup [v14, .bool false]) h13) ())) ())) ())) (pFieldAddr 6 v1 (later (fun v15 =>
 pFieldAddr 0 v15 (later (fun v16 =>
 pLoad none v16 h10 (later (fun v17 =>
 pIndexAddr (.slice 3) v17 a1 (later (fun v18 =>
 pLoad (some 3) v18 h10 (later (fun v19 =>
 pStore 3 v3 v19 h10 (later (fun h20 =>
 pLoad (some 3) v3 h20 (later (fun v21 =>
 R (.tup [v21, .bool true]) h20) ())) ())) ())) ())) ())) ())) ()))) ())) ())) ())) ())) ())) ())) ())) ())) : CallsA Tryd.prog 70 [a0, a1] h R :=
 CallsA_intro g_code_maker_slot mixed_ Tryd.func70 (show Tryd.f70.body = some c_code_maker_slot by kernel_rfl) Tryd.ntmps70 (by kernel_rfl) (Nat.le_of_ble_eq_true rfl) Tryd.call70 (Eq.mpr (by kernel_rfl) H)
/- padlock/code.plain -/
noncomputable def c_code_plain : Code := (Tryd.f71.body).getD .skip
noncomputable def g_code_plain : Cfg := { ch := fun d => List.contains [8, 60, 69] d, lv := fun k => ((List.lookup k ([] : List (Nat × List Nat))).getD []), cut := fun k => List.contains [] k, rc := fun i n => ((List.lookup i ([(1, [(30, [8, 64, 66]), (15, [5, 6, 7, 8, 39, 41])])] : List (Nat × List (Nat × List Nat)))).getD []).lookup n }
theorem code_plain_wp (a0 a1 a2 a3 a4 a5 a6 a7 : AV) (h : AHeap) (R : AV → AHeap → Prop) (H :
 pBox true 58 a0 h (later (fun v1 h2 =>
 pJoin (later (fun x3 =>
 pGuard a1 false (pFieldAddr 1 v1 (later (fun v4 =>
 pLoad none v4 h2 (later (fun v5 =>
 obind (binA .other .eql v5 (.int .i64 0)) (later (fun v6 =>
 x3 [v4, v5, v6] h2) ())) ())) ())) (x3 [.tup [], .tup [], .tup []] h2)) ()) (later (fun x7 h8 =>
 pPick a1 (.bool true) (nth x7 2) (later (fun v9 =>
 pJoin (later (fun x10 =>
 pGuard v9 true (x10 [a2, a2] h8) (x10 [.tup [], .tup []] h8)) ()) (later (fun x11 h12 =>
 pJoin (later (fun x13 =>
 pGuard (nth x11 1) false (pFieldAddr 2 v1 (later (fun v14 =>
 pLoad none v14 h12 (later (fun v15 =>
 obind (binA .other .eql v15 (.int .i64 0)) (later (fun v16 =>
 x13 [v14, v15, v16] h12) ())) ())) ())) (x13 [.tup [], .tup [], .tup []] h12)) ()) (later (fun x17 h18 =>
 pJoin (later (fun x19 =>
 pGuard v9 true (pPick (nth x11 1) (.bool true) (nth x17 2) (later (fun v20 =>
 x19 [v20] h18) ())) (x19 [.tup []] h18)) ()) (later (fun x21 h22 =>
 pPick v9 (nth x21 0) (.bool false) (later (fun v23 =>
 pJoin (later (fun x24 =>
 pGuard v23 true (x24 [a3, a3] h22) (x24 [.tup [], .tup []] h22)) ()) (later (fun x25 h26 =>
 pJoin (later (fun x27 =>
 pGuard (nth x25 1) false (pFieldAddr 3 v1 (later (fun v28 =>
 pLoad none v28 h26 (later (fun v29 =>
 obind (binA .other .eql v29 (.int .i64 0)) (later (fun v30 =>
 x27 [v28, v29, v30] h26) ())) ())) ())) (x27 [.tup [], .tup [], .tup []] h26)) ()) (later (fun x31 h32 =>
 pJoin (later (fun x33 =>
 pGuard v23 true (pPick (nth x25 1) (.bool true) (nth x31 2) (later (fun v34 =>
 x33 [v34] h32) ())) (x33 [.tup []] h32)) ()) (later (fun x35 h36 =>
 pPick v23 (nth x35 0) (.bool false) (later (fun v37 =>
 pJoin (later (fun x38 =>
 pGuard v37 true (x38 [a4, a4] h36) (x38 [.tup [], .tup []] h36)) ()) (later (fun x39 h40 =>
 pChunk [a5, a6, a7, v1, v37, nth x39 1] (later (fun x41 =>
 pJoin (later (fun x42 =>
 pGuard (nth x41 5) false (pFieldAddr 4 (nth x41 3) (later (fun v43 =>
 pLoad none v43 h40 (later (fun v44 =>
 obind (binA .other .eql v44 (.int .i64 0)) (later (fun v45 =>
 x42 [v43, v44, v45] h40) ())) ())) ())) (x42 [.tup [], .tup [], .tup []] h40)) ()) (later (fun x46 h47 =>
 pJoin (later (fun x48 =>
 pGuard (nth x41 4) true (pPick (nth x41 5) (.bool true) (nth x46 2) (later (fun v49 =>
 x48 [v49] h47) ())) (x48 [.tup []] h47)) ()) (later (fun x50 h51 =>
 pPick (nth x41 4) (nth x50 0) (.bool false) (later (fun v52 =>
 pJoin (later (fun x53 =>
 pGuard v52 true (x53 [nth x41 0, nth x41 0] h51) (x53 [.tup [], .tup []] h51)) ()) (later (fun x54 h55 =>
 pJoin (later (fun x56 =>
 pGuard (nth x54 1) false (pFieldAddr 5 (nth x41 3) (later (fun v57 =>
 pLoad none v57 h55 (later (fun v58 =>
 obind (binA .other .eql v58 (.int .i64 0)) (later (fun v59 =>
 x56 [v57, v58, v59] h55) ())) ())) ())) (x56 [.tup [], .tup [], .tup []] h55)) ()) (later (fun x60 h61 =>
 pJoin (later (fun x62 =>
 pGuard v52 true (pPick (nth x54 1) (.bool true) (nth x60 2) (later (fun v63 =>
 x62 [v63] h61) ())) (x62 [.tup []] h61)) ()) (later (fun x64 h65 =>
 pPick v52 (nth x64 0) (.bool false) (later (fun v66 =>
 pJoin (later (fun x67 =>
 pGuard v66 true (x67 [nth x41 1, nth x41 1] h65) (x67 [.tup [], .tup []] h65)) ()) (later (fun x68 h69 =>
 pJoin (later (fun x70 =>
 pGuard (nth x68 1) false (pFieldAddr 6 (nth x41 3) (later (fun v71 =>
 pLoad none v71 h69 (later (fun v72 =>
 pLen .slice v72 (later (fun v73 =>
 obind (binA .other .eql v73 (.int .i64 0)) (later (fun v74 =>
 x70 [v71, v72, v73, v74] h69) ())) ())) ())) ())) (x70 [.tup [], .tup [], .tup [], .tup []] h69)) ()) (later (fun x75 h76 =>
 pJoin (later (fun x77 =>
 pGuard v66 true (pPick (nth x68 1) (.bool true) (nth x75 3) (later (fun v78 =>
 x77 [v78] h76) ())) (x77 [.tup []] h76)) ()) (later (fun x79 h80 =>
 pPick v66 (nth x79 0) (.bool false) (later (fun v81 =>
 pJoin (later (fun x82 =>
 pGuard v81 true (x82 [nth x41 2, nth x41 2] h80) (x82 [.tup [], .tup []] h80)) ()) (later (fun x83 h84 =>
 pChunk [nth x41 3, v81, nth x83 1] (later (fun x85 =>
 pJoin (later (fun x86 =>
 pGuard (nth x85 2) false (pFieldAddr 7 (nth x85 0) (later (fun v87 =>
 pLoad none v87 h84 (later (fun v88 =>
 pLen .slice v88 (later (fun v89 =>
 obind (binA .other .eql v89 (.int .i64 0)) (later (fun v90 =>
 x86 [v87, v88, v89, v90] h84) ())) ())) ())) ())) (x86 [.tup [], .tup [], .tup [], .tup []] h84)) ()) (later (fun x91 h92 =>
 pJoin (later (fun x93 =>
 pGuard (nth x85 1) true (pPick (nth x85 2) (.bool true) (nth x91 3) (later (fun v94 =>
 x93 [v94] h92) ())) (x93 [.tup []] h92)) ()) (later (fun x95 h96 =>
 pPick (nth x85 1) (nth x95 0) (.bool false) (later (fun v97 =>
 R v97 h96) ())) ())) ())) ())) ())) ())) ())) ())) ())) ())) ())) ())) ())) ())) ())) ())) ())) ())) ())) ())) ())) ())) ())) ())) ())) ())) ())) ())) ())) : CallsA Tryd.prog 71 [a0, a1, a2, a3, a4, a5, a6, a7] h R :=
 CallsA_intro g_code_plain mixed_ Tryd.func71 (show Tryd.f71.body = some c_code_plain by kernel_rfl) Tryd.ntmps71 (by kernel_rfl) (Nat.le_of_ble_eq_true rfl) Tryd.call71 (Eq.mpr (by kernel_rfl) H)
/- padlock/calc.needs -/
noncomputable def c_calc_needs : Code := (Tryd.f85.body).getD .skip
noncomputable def g_calc_needs : Cfg := { ch := fun d => List.contains [1] d, lv := fun k => ((List.lookup k ([(5, [4, 5]), (10, [4, 9])] : List (Nat × List Nat))).getD []), cut := fun k => List.contains [5, 10] k, rc := fun i n => none }
theorem calc_needs_wp (a0 : AV) (h : AHeap) (R : AV → AHeap → Prop) (H :
 pBox true 60 a0 h (later (fun v1 h2 =>
 pFieldAddr 0 v1 (later (fun v3 =>
 pLoad none v3 h2 (later (fun v4 =>
 Cut (later (fun J =>
 obind (binA .other .eql v4 (.int .i64 1)) (later (fun v5 =>
 pCond v5 (J (frOf [(4, v4), (5, v5)]) h2) (obind (binA .other .eql v4 (.int .i64 2)) (later (fun v6 =>
 pCond v6 (J (frOf [(4, v4), (5, v6)]) h2) (obind (binA .other .eql v4 (.int .i64 3)) (later (fun v7 =>
 J (frOf [(4, v4), (5, v7)]) h2) ()))) ()))) ())) ()) (later (fun fr' h' =>
 pCond (fr' 5) (R (.int .i64 0) h') (Cut (later (fun J =>
 obind (binA .other .eql (fr' 4) (.int .i64 4)) (later (fun v8 =>
 pCond v8 (J (frOf [(4, fr' 4), (9, v8)]) h') (obind (binA .other .eql (fr' 4) (.int .i64 5)) (later (fun v9 =>
 pCond v9 (J (frOf [(4, fr' 4), (9, v9)]) h') (obind (binA .other .eql (fr' 4) (.int .i64 6)) (later (fun v10 =>
 pCond v10 (J (frOf [(4, fr' 4), (9, v10)]) h') (obind (binA .other .eql (fr' 4) (.int .i64 7)) (later (fun v11 =>
 J (frOf [(4, fr' 4), (9, v11)]) h') ()))) ()))) ()))) ())) ()) (later (fun fr' h' =>
 pCond (fr' 9) (R (.int .i64 1) h') (obind (binA .other .eql (fr' 4) (.int .i64 8)) (later (fun v12 =>
 pCond v12 (pCond v12 (R (.int .i64 2) h') (R (.int .i64 (-1)) h')) (obind (binA .other .eql (fr' 4) (.int .i64 9)) (later (fun v13 =>
 pCond v13 (pCond v13 (R (.int .i64 2) h') (R (.int .i64 (-1)) h')) (obind (binA .other .eql (fr' 4) (.int .i64 10)) (later (fun v14 =>
 pCond v14 (R (.int .i64 2) h') (R (.int .i64 (-1)) h')) ()))) ()))) ()))) ()))) ())) ())) ())) ())) : CallsA Tryd.prog 85 [a0] h R :=
 CallsA_intro g_calc_needs mixed_ Tryd.func85 (show Tryd.f85.body = some c_calc_needs by kernel_rfl) Tryd.ntmps85 (by kernel_rfl) (Nat.le_of_ble_eq_true rfl) Tryd.call85 (Eq.mpr (by kernel_rfl) H)
/- padlock/calc.fits -/
noncomputable def c_calc_fits : Code := (Tryd.f84.body).getD .skip
noncomputable def g_calc_fits : Cfg := { ch := fun d => List.contains [2, 21, 86] d, lv := fun k => ((List.lookup k ([] : List (Nat × List Nat))).getD []), cut := fun k => List.contains [] k, rc := fun i n => none }
theorem calc_fits_wp (a0 a1 : AV) (h : AHeap) (R : AV → AHeap → Prop) (H :
 pBox true 60 a0 h (later (fun v1 h2 =>
 pFieldAddr 0 v1 (later (fun v3 =>
 pLoad none v3 h2 (later (fun v4 =>
 obind (binA .other .eql v4 (.int .i64 1)) (later (fun v5 =>
 pCond v5 (pFieldAddr 1 v1 (later (fun v6 =>
 pLoad none v6 h2 (later (fun v7 =>
 obind (binA .other .eql v7 (.int .i64 0)) (later (fun v8 =>
 R v8 h2) ())) ())) ())) (obind (binA .other .eql v4 (.int .i64 2)) (later (fun v9 =>
 pCond v9 (pFieldAddr 1 v1 (later (fun v10 =>
 pLoad none v10 h2 (later (fun v11 =>
 obind (binA .other .eql v11 (.int .i64 0)) (later (fun v12 =>
 pJoin (later (fun x13 =>
 pGuard v12 true (pFieldAddr 2 v1 (later (fun v14 =>
 pLoad none v14 h2 (later (fun v15 =>
 obind (maxA [a1, .int .i64 0]) (later (fun v16 =>
 pConv (CvK.int .u64) v16 h2 (later (fun v17 =>
 obind (binA .other .lss v15 v17) (later (fun v18 =>
 x13 [v14, v15, a1, v16, v17, v18] h2) ())) ())) ())) ())) ())) (x13 [.tup [], .tup [], .tup [], .tup [], .tup [], .tup []] h2)) ()) (later (fun x19 h20 =>
 pPick v12 (nth x19 5) (.bool false) (later (fun v21 =>
 R v21 h20) ())) ())) ())) ())) ())) (obind (binA .other .eql v4 (.int .i64 3)) (later (fun v22 =>
 pCond v22 (pFieldAddr 1 v1 (later (fun v23 =>
 pLoad none v23 h2 (later (fun v24 =>
 obind (binA .other .eql v24 (.int .i64 0)) (later (fun v25 =>
 pJoin (later (fun x26 =>
 pGuard v25 true (pFieldAddr 2 v1 (later (fun v27 =>
 pLoad none v27 h2 (later (fun v28 =>
 obind (binA .other .lss v28 (.int .u64 16)) (later (fun v29 =>
 x26 [v27, v28, v29] h2) ())) ())) ())) (x26 [.tup [], .tup [], .tup []] h2)) ()) (later (fun x30 h31 =>
 pPick v25 (nth x30 2) (.bool false) (later (fun v32 =>
 R v32 h31) ())) ())) ())) ())) ())) (obind (binA .other .eql v4 (.int .i64 8)) (later (fun v33 =>
 pCond v33 (pFieldAddr 2 v1 (later (fun v34 =>
 pLoad none v34 h2 (later (fun v35 =>
 obind (binA .other .eql v35 (.int .u64 0)) (later (fun v36 =>
 pJoin (later (fun x37 =>
 pGuard v36 true (pFieldAddr 1 v1 (later (fun v38 =>
 pLoad none v38 h2 (later (fun v39 =>
 obind (binA .other .geq v39 (.int .i64 0)) (later (fun v40 =>
 x37 [v38, v39, v40] h2) ())) ())) ())) (x37 [.tup [], .tup [], .tup []] h2)) ()) (later (fun x41 h42 =>
 pPick v36 (nth x41 2) (.bool false) (later (fun v43 =>
 pJoin (later (fun x44 =>
 pGuard v43 true (pFieldAddr 1 v1 (later (fun v45 =>
 pLoad none v45 h42 (later (fun v46 =>
 obind (binA .other .leq v46 (.int .i64 8)) (later (fun v47 =>
 x44 [v45, v46, v47] h42) ())) ())) ())) (x44 [.tup [], .tup [], .tup []] h42)) ()) (later (fun x48 h49 =>
 pPick v43 (nth x48 2) (.bool false) (later (fun v50 =>
 R v50 h49) ())) ())) ())) ())) ())) ())) ())) (obind (binA .other .eql v4 (.int .i64 9)) (later (fun v51 =>
 pCond v51 (pFieldAddr 2 v1 (later (fun v52 =>
 pLoad none v52 h2 (later (fun v53 =>
 obind (binA .other .eql v53 (.int .u64 0)) (later (fun v54 =>
 pJoin (later (fun x55 =>
 pGuard v54 true (pFieldAddr 1 v1 (later (fun v56 =>
 pLoad none v56 h2 (later (fun v57 =>
 obind (binA .other .geq v57 (.int .i64 0)) (later (fun v58 =>
 x55 [v56, v57, v58] h2) ())) ())) ())) (x55 [.tup [], .tup [], .tup []] h2)) ()) (later (fun x59 h60 =>
 pPick v54 (nth x59 2) (.bool false) (later (fun v61 =>
 pJoin (later (fun x62 =>
 pGuard v61 true (pFieldAddr 1 v1 (later (fun v63 =>
 pLoad none v63 h60 (later (fun v64 =>
 obind (binA .other .leq v64 (.int .i64 8)) (later (fun v65 =>
 x62 [v63, v64, v65] h60) ())) ())) ())) (x62 [.tup [], .tup [], .tup []] h60)) ()) (later (fun x66 h67 =>
 pPick v61 (nth x66 2) (.bool false) (later (fun v68 =>
 pJoin (later (fun x69 =>
 pGuard v68 true (pFieldAddr 1 v1 (later (fun v70 =>
 pLoad none v70 h67 (later (fun v71 =>
 obind (binA .other .neq v71 (.int .i64 4)) (later (fun v72 =>
 x69 [v70, v71, v72] h67) ())) ())) ())) (x69 [.tup [], .tup [], .tup []] h67)) ()) (later (fun x73 h74 =>
 pPick v68 (nth x73 2) (.bool false) (later (fun v75 =>
 R v75 h74) ())) ())) ())) ())) ())) ())) ())) ())) ())) (obind (binA .other .eql v4 (.int .i64 10)) (later (fun v76 =>
 pCond v76 (pFieldAddr 2 v1 (later (fun v77 =>
 pLoad none v77 h2 (later (fun v78 =>
 obind (binA .other .eql v78 (.int .u64 0)) (later (fun v79 =>
 pJoin (later (fun x80 =>
 pGuard v79 true (pFieldAddr 1 v1 (later (fun v81 =>
 pLoad none v81 h2 (later (fun v82 =>
 obind (binA .other .eql v82 (.int .i64 5)) (later (fun v83 =>
 x80 [v81, v82, v83, v83] h2) ())) ())) ())) (x80 [.tup [], .tup [], .tup [], .tup []] h2)) ()) (later (fun x84 h85 =>
 pJoin (later (fun x86 =>
 pGuard (nth x84 3) false (pFieldAddr 1 v1 (later (fun v87 =>
 pLoad none v87 h85 (later (fun v88 =>
 obind (binA .other .eql v88 (.int .i64 6)) (later (fun v89 =>
 x86 [v87, v88, v89] h85) ())) ())) ())) (x86 [.tup [], .tup [], .tup []] h85)) ()) (later (fun x90 h91 =>
 pJoin (later (fun x92 =>
 pGuard v79 true (pPick (nth x84 3) (.bool true) (nth x90 2) (later (fun v93 =>
 x92 [v93] h91) ())) (x92 [.tup []] h91)) ()) (later (fun x94 h95 =>
 pPick v79 (nth x94 0) (.bool false) (later (fun v96 =>
 R v96 h95) ())) ())) ())) ())) ())) ())) ())) (pLoad (some 3) v1 h2 (later (fun v97 =>
 CallsA Tryd.prog 85 [v97] h2 (later (fun v98 h99 =>
 obind (binA .other .eql v98 (.int .i64 1)) (later (fun v100 =>
 pJoin (later (fun x101 =>
 pGuard v100 true (pFieldAddr 1 v1 (later (fun v102 =>
 pLoad none v102 h99 (later (fun v103 =>
 obind (binA .other .eql v103 (.int .i64 0)) (later (fun v104 =>
 x101 [v102, v103, v104] h99) ())) ())) ())) (x101 [.tup [], .tup [], .tup []] h99)) ()) (later (fun x105 h106 =>
 pPick v100 (nth x105 2) (.bool false) (later (fun v107 =>
 pJoin (later (fun x108 =>
 pGuard v107 true (pFieldAddr 2 v1 (later (fun v109 =>
 pLoad none v109 h106 (later (fun v110 =>
 obind (binA .other .eql v110 (.int .u64 0)) (later (fun v111 =>
 x108 [v109, v110, v111] h106) ())) ())) ())) (x108 [.tup [], .tup [], .tup []] h106)) ()) (later (fun x112 h113 =>
 pPick v107 (nth x112 2) (.bool false) (later (fun v114 =>
 R v114 h113) ())) ())) ())) ())) ())) ())) ()))) ()))) ()))) ()))) ()))) ()))) ())) ())) ())) ())) : CallsA Tryd.prog 84 [a0, a1] h R :=
 CallsA_intro g_calc_fits mixed_ Tryd.func84 (show Tryd.f84.body = some c_calc_fits by kernel_rfl) Tryd.ntmps84 (by kernel_rfl) (Nat.le_of_ble_eq_true rfl) Tryd.call84 (Eq.mpr (by kernel_rfl) H)
/- padlock/calc.Good -/
noncomputable def c_calc_Good : Code := (Tryd.f80.body).getD .skip
noncomputable def g_calc_Good : Cfg := { ch := fun d => List.contains [9, 16, 21, 26, 34] d, lv := fun k => ((List.lookup k ([(3, [0, 1, 5, 8, 9, 10])] : List (Nat × List Nat))).getD []), cut := fun k => List.contains [] k, rc := fun i n => none }
noncomputable def c_calc_Good_3 : Code := (loopOf 3 c_calc_Good).getD .skip
theorem calc_Good_wp (a0 a1 : AV) (h : AHeap) (R : AV → AHeap → Prop) (H :
 pLen .slice a1 (later (fun v1 =>
 WP Tryd.prog 37 (Code.loop c_calc_Good_3) (frOf [(0, a0), (1, a1), (5, .int .i64 0), (8, a1), (9, v1), (10, .int .i64 0)]) h (exitQ (later (fun fr2 h3 =>
 False) ()) (later (fun x4 fr5 h6 =>
 pIdx x4 0 (pIdx 0 0 (obind (binA .other .eql (fr5 5) (.int .i64 1)) (later (fun v7 =>
 pJoin (later (fun x8 =>
 pGuard v7 true (pLen .slice (fr5 1) (later (fun v9 =>
 obind (binA .other .leq v9 (.int .i64 64)) (later (fun v10 =>
 x8 [fr5 1, v9, v10] h6) ())) ())) (x8 [.tup [], .tup [], .tup []] h6)) ()) (later (fun x11 h12 =>
 pPick v7 (nth x11 2) (.bool false) (later (fun v13 =>
 R v13 h12) ())) ())) ())) False) False) ()) (later (fun fr14 h15 =>
 R (fr14 4) h15) ()))) ())) : CallsA Tryd.prog 80 [a0, a1] h R :=
 CallsA_intro g_calc_Good mixed_ Tryd.func80 (show Tryd.f80.body = some c_calc_Good by kernel_rfl) Tryd.ntmps80 (by kernel_rfl) (Nat.le_of_ble_eq_true rfl) Tryd.call80 (Eq.mpr (by kernel_rfl) H)
theorem calc_Good_loop3 (s0 s1 s5 s8 s9 s10 : AV) (h : AHeap) (Q : AExit → Fr → AHeap → Prop) (H :
 obind (binA .other .lss s10 s9) (later (fun v1 =>
 pCond v1 (pIndexAddr (.slice 3) s8 s10 (later (fun v2 =>
 pLoad (some 3) v2 h (later (fun v3 =>
 pAlloc 60 [.int .i64 0, .int .i64 0, .int .u64 0] h (later (fun v4 h5 =>
 pStore 3 v4 v3 h5 (later (fun h6 =>
 pLoad (some 3) v4 h6 (later (fun v7 =>
 CallsA Tryd.prog 84 [v7, s0] h6 (later (fun v8 h9 =>
 obind (unA .not v8) (later (fun v10 =>
 pJoin (later (fun x11 =>
 pGuard v10 false (pLoad (some 3) v4 h9 (later (fun v12 =>
 CallsA Tryd.prog 85 [v12] h9 (later (fun v13 h14 =>
 obind (binA .other .lss s5 v13) (later (fun v15 =>
 x11 [s5, v12, v13, v15] h14) ())) ())) ())) (x11 [.tup [], .tup [], .tup [], .tup []] h9)) ()) (later (fun x16 h17 =>
 pPick v10 (.bool true) (nth x16 3) (later (fun v18 =>
 pCond v18 (Q .ret (frOf [(4, .bool false)]) h17) (pLoad (some 3) v4 h17 (later (fun v19 =>
 CallsA Tryd.prog 85 [v19] h17 (later (fun v20 h21 =>
 obind (binA .other .sub (.int .i64 1) v20) (later (fun v22 =>
 obind (binA .other .add s5 v22) (later (fun v23 =>
 obind (binA .other .add s10 (.int .i64 1)) (later (fun v24 =>
 Q .normal (frOf [(0, s0), (1, s1), (5, v23), (8, s8), (9, s9), (10, v24)]) h21) ())) ())) ())) ())) ()))) ())) ())) ())) ())) ())) ())) ())) ())) ())) (Q (.exit 0) (frOf [(1, s1), (5, s5)]) h)) ())) : WP Tryd.prog 37 c_calc_Good_3 (frOf [(0, s0), (1, s1), (5, s5), (8, s8), (9, s9), (10, s10)]) h Q :=
 WP_body g_calc_Good [0] [0, 1, 5, 8, 9, 10] [1, 5] [4] mixed_ (by kernel_rfl) (Eq.mpr (by kernel_rfl) H)
/- (padlock/code.maker).good -/
noncomputable def c_code_maker_good : Code := (Tryd.f72.body).getD .skip
noncomputable def g_code_maker_good : Cfg := { ch := fun d => List.contains [2, 8, 10] d, lv := fun k => ((List.lookup k ([] : List (Nat × List Nat))).getD []), cut := fun k => List.contains [] k, rc := fun i n => none }
theorem code_maker_good_wp (a0 a1 : AV) (h : AHeap) (R : AV → AHeap → Prop) (H :
 pBox true 88 a0 h (later (fun v1 h2 =>
 pFieldAddr 6 v1 (later (fun v3 =>
 pFieldAddr 0 v3 (later (fun v4 =>
 pLoad none v4 h2 (later (fun v5 =>
 pLen .slice v5 (later (fun v6 =>
 CallsA Tryd.prog 80 [v6, a1] h2 (later (fun v7 h8 =>
 R v7 h8) ())) ())) ())) ())) ())) ())) : CallsA Tryd.prog 72 [a0, a1] h R :=
 CallsA_intro g_code_maker_good mixed_ Tryd.func72 (show Tryd.f72.body = some c_code_maker_good by kernel_rfl) Tryd.ntmps72 (by kernel_rfl) (Nat.le_of_ble_eq_true rfl) Tryd.call72 (Eq.mpr (by kernel_rfl) H)
/- padlock/code.same -/
noncomputable def c_code_same : Code := (Tryd.f86.body).getD .skip
noncomputable def g_code_same : Cfg := { ch := fun d => List.contains [2, 3] d, lv := fun k => ((List.lookup k ([] : List (Nat × List Nat))).getD []), cut := fun k => List.contains [] k, rc := fun i n => none }
theorem code_same_wp (a0 a1 : AV) (h : AHeap) (R : AV → AHeap → Prop) (H :
 pBox true 69 a0 h (later (fun v1 h2 =>
 pBox true 69 a1 h2 (later (fun v3 h4 =>
 pFieldAddr 0 v1 (later (fun v5 =>
 pLoad none v5 h4 (later (fun v6 =>
 pFieldAddr 0 v3 (later (fun v7 =>
 pLoad none v7 h4 (later (fun v8 =>
 obind (binA .other .eql v6 v8) (later (fun v9 =>
 pJoin (later (fun x10 =>
 pGuard v9 true (pFieldAddr 1 v1 (later (fun v11 =>
 pLoad none v11 h4 (later (fun v12 =>
 pFieldAddr 1 v3 (later (fun v13 =>
 pLoad none v13 h4 (later (fun v14 =>
 obind (binA .other .eql v12 v14) (later (fun v15 =>
 x10 [v11, v12, v13, v14, v15] h4) ())) ())) ())) ())) ())) (x10 [.tup [], .tup [], .tup [], .tup [], .tup []] h4)) ()) (later (fun x16 h17 =>
 pPick v9 (nth x16 4) (.bool false) (later (fun v18 =>
 R v18 h17) ())) ())) ())) ())) ())) ())) ())) ())) ())) : CallsA Tryd.prog 86 [a0, a1] h R :=
 CallsA_intro g_code_same mixed_ Tryd.func86 (show Tryd.f86.body = some c_code_same by kernel_rfl) Tryd.ntmps86 (by kernel_rfl) (Nat.le_of_ble_eq_true rfl) Tryd.call86 (Eq.mpr (by kernel_rfl) H)
/- (padlock/code.maker).is -/
noncomputable def c_code_maker_is : Code := (Tryd.f81.body).getD .skip
noncomputable def g_code_maker_is : Cfg := { ch := fun d => List.contains [3, 5, 12, 19] d, lv := fun k => ((List.lookup k ([] : List (Nat × List Nat))).getD []), cut := fun k => List.contains [] k, rc := fun i n => none }
theorem code_maker_is_wp (a0 a1 a2 : AV) (h : AHeap) (R : AV → AHeap → Prop) (H :
 pBox true 88 a0 h (later (fun v1 h2 =>
 pBox true 69 a2 h2 (later (fun v3 h4 =>
 pLoad (some 9) v1 h4 (later (fun v5 =>
 CallsA Tryd.prog 70 [v5, a1] h4 (later (fun v6 h7 =>
 pExtract 0 v6 (later (fun v8 =>
 pExtract 1 v6 (later (fun v9 =>
 pAlloc 69 [.int .i64 0, .int .i64 0, .bool false] h7 (later (fun v10 h11 =>
 pStore 3 v10 v8 h11 (later (fun h12 =>
 pJoin (later (fun x13 =>
 pGuard v9 true (pLoad (some 3) v10 h12 (later (fun v14 =>
 pLoad (some 3) v3 h12 (later (fun v15 =>
 CallsA Tryd.prog 86 [v14, v15] h12 (later (fun v16 h17 =>
 x13 [v14, v15, v16] h17) ())) ())) ())) (x13 [.tup [], .tup [], .tup []] h12)) ()) (later (fun x18 h19 =>
 pPick v9 (nth x18 2) (.bool false) (later (fun v20 =>
 R v20 h19) ())) ())) ())) ())) ())) ())) ())) ())) ())) ())) : CallsA Tryd.prog 81 [a0, a1, a2] h R :=
 CallsA_intro g_code_maker_is mixed_ Tryd.func81 (show Tryd.f81.body = some c_code_maker_is by kernel_rfl) Tryd.ntmps81 (by kernel_rfl) (Nat.le_of_ble_eq_true rfl) Tryd.call81 (Eq.mpr (by kernel_rfl) H)
/- (padlock/code.maker).field -/
noncomputable def c_code_maker_field : Code := (Tryd.f82.body).getD .skip
noncomputable def g_code_maker_field : Cfg := { ch := fun d => List.contains [2, 3, 11, 12, 24, 25, 35] d, lv := fun k => ((List.lookup k ([] : List (Nat × List Nat))).getD []), cut := fun k => List.contains [] k, rc := fun i n => none }
theorem code_maker_field_wp (a0 a1 : AV) (h : AHeap) (R : AV → AHeap → Prop) (H :
 pBox true 88 a0 h (later (fun v1 h2 =>
 pBox true 58 a1 h2 (later (fun v3 h4 =>
 pAlloc 69 [.int .i64 0, .int .i64 0, .bool false] h4 (later (fun v5 h6 =>
 true = true ∧ pFieldAddr 3 v3 (later (fun v7 =>
 pLoad none v7 h6 (later (fun v8 =>
 pFieldAddr 0 v1 (later (fun v9 =>
 pFieldAddr 0 v9 (later (fun v10 =>
 pLoad none v10 h6 (later (fun v11 =>
 pLen .slice v11 (later (fun v12 =>
 CallsA Tryd.prog 62 [v8, v12] h6 (later (fun v13 h14 =>
 True ∧ obind (unA .not v13) (later (fun v15 =>
 pJoin (later (fun x16 =>
 pGuardS v15 false (pFieldAddr 4 v3 (later (fun v17 =>
 x16 [v17] h14) ())) (x16 [.tup []] h14)) ()) (later (fun x18 h19 =>
 pJoin (later (fun x20 =>
 pGuardS v15 false (pLoad none (nth x18 0) h19 (later (fun v21 =>
 x20 [v21] h19) ())) (x20 [.tup []] h19)) ()) (later (fun x22 h23 =>
 pJoin (later (fun x24 =>
 pGuardS v15 false (pFieldAddr 0 v1 (later (fun v25 =>
 x24 [v25] h23) ())) (x24 [.tup []] h23)) ()) (later (fun x26 h27 =>
 pJoin (later (fun x28 =>
 pGuardS v15 false (pFieldAddr 0 (nth x26 0) (later (fun v29 =>
 x28 [v29] h27) ())) (x28 [.tup []] h27)) ()) (later (fun x30 h31 =>
 pJoin (later (fun x32 =>
 pGuardS v15 false (pLoad none (nth x30 0) h31 (later (fun v33 =>
 x32 [v33] h31) ())) (x32 [.tup []] h31)) ()) (later (fun x34 h35 =>
 pJoin (later (fun x36 =>
 pGuardS v15 false (pFieldAddr 3 v3 (later (fun v37 =>
 x36 [v37] h35) ())) (x36 [.tup []] h35)) ()) (later (fun x38 h39 =>
 pJoin (later (fun x40 =>
 pGuardS v15 false (pLoad none (nth x38 0) h39 (later (fun v41 =>
 x40 [v41] h39) ())) (x40 [.tup []] h39)) ()) (later (fun x42 h43 =>
 pJoin (later (fun x44 =>
 pGuardS v15 false (pIndexAddr (.slice 1) (nth x34 0) (nth x42 0) (later (fun v45 =>
 x44 [v45] h43) ())) (x44 [.tup []] h43)) ()) (later (fun x46 h47 =>
 pJoin (later (fun x48 =>
 pGuardS v15 false (pLoad none (nth x46 0) h47 (later (fun v49 =>
 x48 [v49] h47) ())) (x48 [.tup []] h47)) ()) (later (fun x50 h51 =>
 pJoin (later (fun x52 =>
 pGuardS v15 false (pLen .slice (nth x50 0) (later (fun v53 =>
 x52 [v53] h51) ())) (x52 [.tup []] h51)) ()) (later (fun x54 h55 =>
 pJoin (later (fun x56 =>
 pGuardS v15 false (CallsA Tryd.prog 62 [nth x22 0, nth x54 0] h55 (later (fun v57 h58 =>
 x56 [v57] h58) ())) (x56 [.tup []] h55)) ()) (later (fun x59 h60 =>
 True ∧ pJoin (later (fun x61 =>
 pGuardS v15 false (obind (unA .not (nth x59 0)) (later (fun v62 =>
 x61 [v62] h60) ())) (x61 [.tup []] h60)) ()) (later (fun x63 h64 =>
 pPick v15 (.bool true) (nth x63 0) (later (fun v65 =>
 pJoin (later (fun x66 =>
 pGuardS v65 false (pLoad (some 9) v1 h64 (later (fun v67 =>
 x66 [v67] h64) ())) (x66 [.tup []] h64)) ()) (later (fun x68 h69 =>
 pJoin (later (fun x70 =>
 pGuardS v65 false (pFieldAddr 2 v3 (later (fun v71 =>
 x70 [v71] h69) ())) (x70 [.tup []] h69)) ()) (later (fun x72 h73 =>
 pJoin (later (fun x74 =>
 pGuardS v65 false (pLoad none (nth x72 0) h73 (later (fun v75 =>
 x74 [v75] h73) ())) (x74 [.tup []] h73)) ()) (later (fun x76 h77 =>
 pJoin (later (fun x78 =>
 pGuardS v65 false (pFieldAddr 3 v3 (later (fun v79 =>
 x78 [v79] h77) ())) (x78 [.tup []] h77)) ()) (later (fun x80 h81 =>
 pJoin (later (fun x82 =>
 pGuardS v65 false (pLoad none (nth x80 0) h81 (later (fun v83 =>
 x82 [v83] h81) ())) (x82 [.tup []] h81)) ()) (later (fun x84 h85 =>
 pJoin (later (fun x86 =>
 pGuardS v65 false (pBuild [(0, 1), (1, 1), (2, 1)] [.int .i64 0, .int .i64 0, .bool false] [(0, .int .i64 4), (1, nth x84 0)] (later (fun v87 =>
 x86 [v87] h85) ())) (x86 [.tup []] h85)) ()) (later (fun x88 h89 =>
 pJoin (later (fun x90 =>
 pGuardS v65 false (CallsA Tryd.prog 81 [nth x68 0, nth x76 0, nth x88 0] h89 (later (fun v91 h92 =>
 x90 [v91] h92) ())) (x90 [.tup []] h89)) ()) (later (fun x93 h94 =>
 True ∧ pJoin (later (fun x95 =>
 pGuardS v65 false (obind (unA .not (nth x93 0)) (later (fun v96 =>
 x95 [v96] h94) ())) (x95 [.tup []] h94)) ()) (later (fun x97 h98 =>
 pPick v65 (.bool true) (nth x97 0) (later (fun v99 =>
 pCond v99 (pBuild [(0, 1), (1, 1), (2, 1)] [.int .i64 0, .int .i64 0, .bool false] [] (later (fun v100 =>
 pStore 3 v5 v100 h98 (later (fun h101 =>
 pLoad (some 3) v5 h101 (later (fun v102 =>
 R (.tup [v102, .bool false]) h101) ())) ())) ())) (true = true ∧ pFieldAddr 0 v1 (later (fun v103 =>
 pFieldAddr 0 v103 (later (fun v104 =>
 pLoad none v104 h98 (later (fun v105 =>
 pFieldAddr 3 v3 (later (fun v106 =>
 pLoad none v106 h98 (later (fun v107 =>
 pIndexAddr (.slice 1) v105 v107 (later (fun v108 =>
 pLoad none v108 h98 (later (fun v109 =>
 pFieldAddr 4 v3 (later (fun v110 =>
 pLoad none v110 h98 (later (fun v111 =>
 pIndexAddr (.slice 3) v109 v111 (later (fun v112 =>
 pLoad (some 3) v112 h98 (later (fun v113 =>
 pStore 3 v5 v113 h98 (later (fun h114 =>
 True ∧ pLoad (some 3) v5 h114 (later (fun v115 =>
 R (.tup [v115, .bool true]) h114) ())) ())) ())) ())) ())) ())) ())) ())) ())) ())) ())) ())) ()))) ())) ())) ())) ())) ())) ())) ())) ())) ())) ())) ())) ())) ())) ())) ())) ())) ())) ())) ())) ())) ())) ())) ())) ())) ())) ())) ())) ())) ())) ())) ())) ())) ())) : CallsA Tryd.prog 82 [a0, a1] h R :=
 CallsA_intro g_code_maker_field mixed_ Tryd.func82 (show Tryd.f82.body = some c_code_maker_field by kernel_rfl) Tryd.ntmps82 (by kernel_rfl) (Nat.le_of_ble_eq_true rfl) Tryd.call82 (Eq.mpr (by kernel_rfl) H)
/- (padlock/code.maker).site -/
noncomputable def c_code_maker_site : Code := (Tryd.f83.body).getD .skip
noncomputable def g_code_maker_site : Cfg := { ch := fun d => List.contains [4, 5, 14, 15] d, lv := fun k => ((List.lookup k ([] : List (Nat × List Nat))).getD []), cut := fun k => List.contains [] k, rc := fun i n => none }
theorem code_maker_site_wp (a0 a1 a2 a3 : AV) (h : AHeap) (R : AV → AHeap → Prop) (H :
 pBox true 88 a0 h (later (fun v1 h2 =>
 pBox true 58 a1 h2 (later (fun v3 h4 =>
 true = true ∧ pFieldAddr 4 v3 (later (fun v5 =>
 pLoad none v5 h4 (later (fun v6 =>
 pFieldAddr 0 v1 (later (fun v7 =>
 pFieldAddr 3 v7 (later (fun v8 =>
 pLoad none v8 h4 (later (fun v9 =>
 pLen .slice v9 (later (fun v10 =>
 CallsA Tryd.prog 62 [v6, v10] h4 (later (fun v11 h12 =>
 True ∧ pJoin (later (fun x13 =>
 pGuardS v11 true (pFieldAddr 0 v1 (later (fun v14 =>
 x13 [v14] h12) ())) (x13 [.tup []] h12)) ()) (later (fun x15 h16 =>
 pJoin (later (fun x17 =>
 pGuardS v11 true (pFieldAddr 3 (nth x15 0) (later (fun v18 =>
 x17 [v18] h16) ())) (x17 [.tup []] h16)) ()) (later (fun x19 h20 =>
 pJoin (later (fun x21 =>
 pGuardS v11 true (pLoad none (nth x19 0) h20 (later (fun v22 =>
 x21 [v22] h20) ())) (x21 [.tup []] h20)) ()) (later (fun x23 h24 =>
 pJoin (later (fun x25 =>
 pGuardS v11 true (pFieldAddr 4 v3 (later (fun v26 =>
 x25 [v26] h24) ())) (x25 [.tup []] h24)) ()) (later (fun x27 h28 =>
 pJoin (later (fun x29 =>
 pGuardS v11 true (pLoad none (nth x27 0) h28 (later (fun v30 =>
 x29 [v30] h28) ())) (x29 [.tup []] h28)) ()) (later (fun x31 h32 =>
 pJoin (later (fun x33 =>
 pGuardS v11 true (pIndexAddr (.slice 3) (nth x23 0) (nth x31 0) (later (fun v34 =>
 x33 [v34] h32) ())) (x33 [.tup []] h32)) ()) (later (fun x35 h36 =>
 pJoin (later (fun x37 =>
 pGuardS v11 true (pLoad (some 3) (nth x35 0) h36 (later (fun v38 =>
 x37 [v38] h36) ())) (x37 [.tup []] h36)) ()) (later (fun x39 h40 =>
 pJoin (later (fun x41 =>
 pGuardS v11 true (pFieldAddr 5 v1 (later (fun v42 =>
 x41 [v42] h40) ())) (x41 [.tup []] h40)) ()) (later (fun x43 h44 =>
 pJoin (later (fun x45 =>
 pGuardS v11 true (pLoad none (nth x43 0) h44 (later (fun v46 =>
 x45 [v46] h44) ())) (x45 [.tup []] h44)) ()) (later (fun x47 h48 =>
 pJoin (later (fun x49 =>
 pGuardS v11 true (x49 [a2] h48) (x49 [.tup []] h48)) ()) (later (fun x50 h51 =>
 pJoin (later (fun x52 =>
 pGuardS v11 true (x52 [a3] h51) (x52 [.tup []] h51)) ()) (later (fun x53 h54 =>
 pJoin (later (fun x55 =>
 pGuardS v11 true (pBuild [(0, 1), (1, 1), (2, 1)] [.int .i64 0, .int .i64 0, .int .i64 0] [(0, nth x47 0), (1, nth x50 0), (2, nth x53 0)] (later (fun v56 =>
 x55 [v56] h54) ())) (x55 [.tup []] h54)) ()) (later (fun x57 h58 =>
 pJoin (later (fun x59 =>
 pGuardS v11 true (obind (binA (.flat [LK.int, LK.int, LK.int]) .eql (nth x39 0) (nth x57 0)) (later (fun v60 =>
 x59 [v60] h58) ())) (x59 [.tup []] h58)) ()) (later (fun x61 h62 =>
 pPick v11 (nth x61 0) (.bool false) (later (fun v63 =>
 R v63 h62) ())) ())) ())) ())) ())) ())) ())) ())) ())) ())) ())) ())) ())) ())) ())) ())) ())) ())) ())) ())) ())) ())) ())) : CallsA Tryd.prog 83 [a0, a1, a2, a3] h R :=
 CallsA_intro g_code_maker_site mixed_ Tryd.func83 (show Tryd.f83.body = some c_code_maker_site by kernel_rfl) Tryd.ntmps83 (by kernel_rfl) (Nat.le_of_ble_eq_true rfl) Tryd.call83 (Eq.mpr (by kernel_rfl) H)
/- (padlock/code.maker).loads -/
noncomputable def c_code_maker_loads : Code := (Tryd.f73.body).getD .skip
noncomputable def g_code_maker_loads : Cfg := { ch := fun d => List.contains [3, 4, 14, 21, 22, 35, 42, 46, 55, 60, 66, 73, 79, 84, 90, 97, 102, 109, 110, 119, 127, 130, 136, 142, 148] d, lv := fun k => ((List.lookup k ([] : List (Nat × List Nat))).getD []), cut := fun k => List.contains [] k, rc := fun i n => ((List.lookup i ([(12, [(9, [121, 127])])] : List (Nat × List (Nat × List Nat)))).getD []).lookup n }
theorem code_maker_loads_wp (a0 a1 a2 : AV) (h : AHeap) (R : AV → AHeap → Prop) (H :
 pBox true 88 a0 h (later (fun v1 h2 =>
 pBox true 58 a1 h2 (later (fun v3 h4 =>
 pFieldAddr 0 v3 (later (fun v5 =>
 pLoad none v5 h4 (later (fun v6 =>
 obind (binA .other .eql v6 (.int .i64 2)) (later (fun v7 =>
 pCond v7 (true = true ∧ pLoad (some 8) v3 h4 (later (fun v8 =>
 CallsA Tryd.prog 71 [v8, .bool true, .bool false, .bool false, .bool true, .bool false, .bool false, .bool false] h4 (later (fun v9 h10 =>
 True ∧ pJoin (later (fun x11 =>
 pGuardS v9 true (pFieldAddr 4 v3 (later (fun v12 =>
 x11 [v12] h10) ())) (x11 [.tup []] h10)) ()) (later (fun x13 h14 =>
 pJoin (later (fun x15 =>
 pGuardS v9 true (pLoad none (nth x13 0) h14 (later (fun v16 =>
 x15 [v16] h14) ())) (x15 [.tup []] h14)) ()) (later (fun x17 h18 =>
 pJoin (later (fun x19 =>
 pGuardS v9 true (pFieldAddr 0 v1 (later (fun v20 =>
 x19 [v20] h18) ())) (x19 [.tup []] h18)) ()) (later (fun x21 h22 =>
 pJoin (later (fun x23 =>
 pGuardS v9 true (pFieldAddr 1 (nth x21 0) (later (fun v24 =>
 x23 [v24] h22) ())) (x23 [.tup []] h22)) ()) (later (fun x25 h26 =>
 pJoin (later (fun x27 =>
 pGuardS v9 true (pLoad none (nth x25 0) h26 (later (fun v28 =>
 x27 [v28] h26) ())) (x27 [.tup []] h26)) ()) (later (fun x29 h30 =>
 pJoin (later (fun x31 =>
 pGuardS v9 true (pLen .slice (nth x29 0) (later (fun v32 =>
 x31 [v32] h30) ())) (x31 [.tup []] h30)) ()) (later (fun x33 h34 =>
 pJoin (later (fun x35 =>
 pGuardS v9 true (CallsA Tryd.prog 62 [nth x17 0, nth x33 0] h34 (later (fun v36 h37 =>
 x35 [v36] h37) ())) (x35 [.tup []] h34)) ()) (later (fun x38 h39 =>
 True ∧ pPick v9 (nth x38 0) (.bool false) (later (fun v40 =>
 pJoin (later (fun x41 =>
 pGuardS v40 true (pLoad (some 9) v1 h39 (later (fun v42 =>
 x41 [v42] h39) ())) (x41 [.tup []] h39)) ()) (later (fun x43 h44 =>
 pJoin (later (fun x45 =>
 pGuardS v40 true (pFieldAddr 1 v3 (later (fun v46 =>
 x45 [v46] h44) ())) (x45 [.tup []] h44)) ()) (later (fun x47 h48 =>
 pJoin (later (fun x49 =>
 pGuardS v40 true (pLoad none (nth x47 0) h48 (later (fun v50 =>
 x49 [v50] h48) ())) (x49 [.tup []] h48)) ()) (later (fun x51 h52 =>
 pJoin (later (fun x53 =>
 pGuardS v40 true (pFieldAddr 0 v1 (later (fun v54 =>
 x53 [v54] h52) ())) (x53 [.tup []] h52)) ()) (later (fun x55 h56 =>
 pJoin (later (fun x57 =>
 pGuardS v40 true (pFieldAddr 1 (nth x55 0) (later (fun v58 =>
 x57 [v58] h56) ())) (x57 [.tup []] h56)) ()) (later (fun x59 h60 =>
 pJoin (later (fun x61 =>
 pGuardS v40 true (pLoad none (nth x59 0) h60 (later (fun v62 =>
 x61 [v62] h60) ())) (x61 [.tup []] h60)) ()) (later (fun x63 h64 =>
 pJoin (later (fun x65 =>
 pGuardS v40 true (pFieldAddr 4 v3 (later (fun v66 =>
 x65 [v66] h64) ())) (x65 [.tup []] h64)) ()) (later (fun x67 h68 =>
 pJoin (later (fun x69 =>
 pGuardS v40 true (pLoad none (nth x67 0) h68 (later (fun v70 =>
 x69 [v70] h68) ())) (x69 [.tup []] h68)) ()) (later (fun x71 h72 =>
 pJoin (later (fun x73 =>
 pGuardS v40 true (pIndexAddr (.slice 3) (nth x63 0) (nth x71 0) (later (fun v74 =>
 x73 [v74] h72) ())) (x73 [.tup []] h72)) ()) (later (fun x75 h76 =>
 pJoin (later (fun x77 =>
 pGuardS v40 true (pLoad (some 3) (nth x75 0) h76 (later (fun v78 =>
 x77 [v78] h76) ())) (x77 [.tup []] h76)) ()) (later (fun x79 h80 =>
 pJoin (later (fun x81 =>
 pGuardS v40 true (CallsA Tryd.prog 81 [nth x43 0, nth x51 0, nth x79 0] h80 (later (fun v82 h83 =>
 x81 [v82] h83) ())) (x81 [.tup []] h80)) ()) (later (fun x84 h85 =>
 True ∧ pPick v40 (nth x84 0) (.bool false) (later (fun v86 =>
 R v86 h85) ())) ())) ())) ())) ())) ())) ())) ())) ())) ())) ())) ())) ())) ())) ())) ())) ())) ())) ())) ())) ())) ())) (obind (binA .other .eql v6 (.int .i64 3)) (later (fun v87 =>
 pCond v87 (pLoad (some 9) v1 h4 (later (fun v88 =>
 pLoad (some 8) v3 h4 (later (fun v89 =>
 CallsA Tryd.prog 82 [v88, v89] h4 (later (fun v90 h91 =>
 pExtract 0 v90 (later (fun v92 =>
 pExtract 1 v90 (later (fun v93 =>
 pAlloc 69 [.int .i64 0, .int .i64 0, .bool false] h91 (later (fun v94 h95 =>
 pStore 3 v94 v92 h95 (later (fun h96 =>
 pLoad (some 8) v3 h96 (later (fun v97 =>
 CallsA Tryd.prog 71 [v97, .bool true, .bool true, .bool true, .bool true, .bool false, .bool false, .bool false] h96 (later (fun v98 h99 =>
 pJoin (later (fun x100 =>
 pGuard v98 true (x100 [v93] h99) (x100 [.tup []] h99)) ()) (later (fun x101 h102 =>
 pPick v98 (nth x101 0) (.bool false) (later (fun v103 =>
 pJoin (later (fun x104 =>
 pGuard v103 true (pLoad (some 9) v1 h102 (later (fun v105 =>
 pFieldAddr 1 v3 (later (fun v106 =>
 pLoad none v106 h102 (later (fun v107 =>
 pLoad (some 3) v94 h102 (later (fun v108 =>
 CallsA Tryd.prog 81 [v105, v107, v108] h102 (later (fun v109 h110 =>
 x104 [v105, v106, v107, v108, v109] h110) ())) ())) ())) ())) ())) (x104 [.tup [], .tup [], .tup [], .tup [], .tup []] h102)) ()) (later (fun x111 h112 =>
 pPick v103 (nth x111 4) (.bool false) (later (fun v113 =>
 R v113 h112) ())) ())) ())) ())) ())) ())) ())) ())) ())) ())) ())) ())) ())) (obind (binA .other .eql v6 (.int .i64 4)) (later (fun v114 =>
 pCond v114 (pLoad (some 8) v3 h4 (later (fun v115 =>
 CallsA Tryd.prog 71 [v115, .bool true, .bool true, .bool false, .bool false, .bool false, .bool false, .bool true] h4 (later (fun v116 h117 =>
 pJoin (later (fun x118 =>
 pGuard v116 true (pLoad (some 9) v1 h117 (later (fun v119 =>
 pFieldAddr 1 v3 (later (fun v120 =>
 pLoad none v120 h117 (later (fun v121 =>
 pBuild [(0, 1), (1, 1), (2, 1)] [.int .i64 0, .int .i64 0, .bool false] [(0, .int .i64 1)] (later (fun v122 =>
 CallsA Tryd.prog 81 [v119, v121, v122] h117 (later (fun v123 h124 =>
 x118 [v119, v120, v121, v122, v123] h124) ())) ())) ())) ())) ())) (x118 [.tup [], .tup [], .tup [], .tup [], .tup []] h117)) ()) (later (fun x125 h126 =>
 pPick v116 (nth x125 4) (.bool false) (later (fun v127 =>
 pJoin (later (fun x128 =>
 pGuard v127 true (pLoad (some 9) v1 h126 (later (fun v129 =>
 pFieldAddr 2 v3 (later (fun v130 =>
 pLoad none v130 h126 (later (fun v131 =>
 pBuild [(0, 1), (1, 1), (2, 1)] [.int .i64 0, .int .i64 0, .bool false] [(0, .int .i64 3)] (later (fun v132 =>
 CallsA Tryd.prog 81 [v129, v131, v132] h126 (later (fun v133 h134 =>
 x128 [v129, v130, v131, v132, v133] h134) ())) ())) ())) ())) ())) (x128 [.tup [], .tup [], .tup [], .tup [], .tup []] h126)) ()) (later (fun x135 h136 =>
 pPick v127 (nth x135 4) (.bool false) (later (fun v137 =>
 pJoin (later (fun x138 =>
 pGuard v137 true (pLoad (some 9) v1 h136 (later (fun v139 =>
 pFieldAddr 7 v3 (later (fun v140 =>
 pLoad none v140 h136 (later (fun v141 =>
 CallsA Tryd.prog 72 [v139, v141] h136 (later (fun v142 h143 =>
 x138 [v139, v140, v141, v142] h143) ())) ())) ())) ())) (x138 [.tup [], .tup [], .tup [], .tup []] h136)) ()) (later (fun x144 h145 =>
 pPick v137 (nth x144 3) (.bool false) (later (fun v146 =>
 R v146 h145) ())) ())) ())) ())) ())) ())) ())) ())) (obind (binA .other .eql v6 (.int .i64 10)) (later (fun v147 =>
 pCond v147 (pLoad (some 8) v3 h4 (later (fun v148 =>
 CallsA Tryd.prog 71 [v148, .bool true, .bool true, .bool false, .bool false, .bool false, .bool false, .bool false] h4 (later (fun v149 h150 =>
 pJoin (later (fun x151 =>
 pGuard v149 true (pLoad (some 9) v1 h150 (later (fun v152 =>
 pFieldAddr 1 v3 (later (fun v153 =>
 pLoad none v153 h150 (later (fun v154 =>
 pBuild [(0, 1), (1, 1), (2, 1)] [.int .i64 0, .int .i64 0, .bool false] [(0, .int .i64 1)] (later (fun v155 =>
 CallsA Tryd.prog 81 [v152, v154, v155] h150 (later (fun v156 h157 =>
 x151 [v152, v153, v154, v155, v156] h157) ())) ())) ())) ())) ())) (x151 [.tup [], .tup [], .tup [], .tup [], .tup []] h150)) ()) (later (fun x158 h159 =>
 pPick v149 (nth x158 4) (.bool false) (later (fun v160 =>
 pJoin (later (fun x161 =>
 pGuard v160 true (pLoad (some 9) v1 h159 (later (fun v162 =>
 pFieldAddr 2 v3 (later (fun v163 =>
 pLoad none v163 h159 (later (fun v164 =>
 pBuild [(0, 1), (1, 1), (2, 1)] [.int .i64 0, .int .i64 0, .bool false] [(0, .int .i64 3)] (later (fun v165 =>
 CallsA Tryd.prog 81 [v162, v164, v165] h159 (later (fun v166 h167 =>
 x161 [v162, v163, v164, v165, v166] h167) ())) ())) ())) ())) ())) (x161 [.tup [], .tup [], .tup [], .tup [], .tup []] h159)) ()) (later (fun x168 h169 =>
 pPick v160 (nth x168 4) (.bool false) (later (fun v170 =>
 R v170 h169) ())) ())) ())) ())) ())) ())) (obind (binA .other .eql v6 (.int .i64 8)) (later (fun v171 =>
 pCond v171 (pLoad (some 8) v3 h4 (later (fun v172 =>
 CallsA Tryd.prog 71 [v172, .bool true, .bool false, .bool true, .bool true, .bool false, .bool false, .bool false] h4 (later (fun v173 h174 =>
 pJoin (later (fun x175 =>
 pGuard v173 true (pFieldAddr 3 v3 (later (fun v176 =>
 pLoad none v176 h174 (later (fun v177 =>
 pFieldAddr 0 v1 (later (fun v178 =>
 pFieldAddr 0 v178 (later (fun v179 =>
 pLoad none v179 h174 (later (fun v180 =>
 pLen .slice v180 (later (fun v181 =>
 CallsA Tryd.prog 62 [v177, v181] h174 (later (fun v182 h183 =>
 x175 [v176, v177, v178, v179, v180, v181, v182] h183) ())) ())) ())) ())) ())) ())) ())) (x175 [.tup [], .tup [], .tup [], .tup [], .tup [], .tup [], .tup []] h174)) ()) (later (fun x184 h185 =>
 pPick v173 (nth x184 6) (.bool false) (later (fun v186 =>
 pJoin (later (fun x187 =>
 pGuard v186 true (pLoad (some 9) v1 h185 (later (fun v188 =>
 pFieldAddr 1 v3 (later (fun v189 =>
 pLoad none v189 h185 (later (fun v190 =>
 pFieldAddr 3 v3 (later (fun v191 =>
 pLoad none v191 h185 (later (fun v192 =>
 pBuild [(0, 1), (1, 1), (2, 1)] [.int .i64 0, .int .i64 0, .bool false] [(0, .int .i64 4), (1, v192)] (later (fun v193 =>
 CallsA Tryd.prog 81 [v188, v190, v193] h185 (later (fun v194 h195 =>
 x187 [v188, v189, v190, v191, v192, v193, v194] h195) ())) ())) ())) ())) ())) ())) ())) (x187 [.tup [], .tup [], .tup [], .tup [], .tup [], .tup [], .tup []] h185)) ()) (later (fun x196 h197 =>
 pPick v186 (nth x196 6) (.bool false) (later (fun v198 =>
 pJoin (later (fun x199 =>
 pGuard v198 true (pLoad (some 9) v1 h197 (later (fun v200 =>
 pLoad (some 8) v3 h197 (later (fun v201 =>
 pFieldAddr 3 v3 (later (fun v202 =>
 pLoad none v202 h197 (later (fun v203 =>
 CallsA Tryd.prog 83 [v200, v201, a2, v203] h197 (later (fun v204 h205 =>
 x199 [v200, v201, a2, v202, v203, v204] h205) ())) ())) ())) ())) ())) (x199 [.tup [], .tup [], .tup [], .tup [], .tup [], .tup []] h197)) ()) (later (fun x206 h207 =>
 pChunk [v198, nth x206 5] (later (fun x208 =>
 pPick (nth x208 0) (nth x208 1) (.bool false) (later (fun v209 =>
 R v209 h207) ())) ())) ())) ())) ())) ())) ())) ())) ())) (pLoad (some 8) v3 h4 (later (fun v210 =>
 CallsA Tryd.prog 71 [v210, .bool true, .bool false, .bool false, .bool true, .bool false, .bool true, .bool false] h4 (later (fun v211 h212 =>
 pJoin (later (fun x213 =>
 pGuard v211 true (pLoad (some 9) v1 h212 (later (fun v214 =>
 pFieldAddr 1 v3 (later (fun v215 =>
 pLoad none v215 h212 (later (fun v216 =>
 pBuild [(0, 1), (1, 1), (2, 1)] [.int .i64 0, .int .i64 0, .bool false] [(0, .int .i64 3)] (later (fun v217 =>
 CallsA Tryd.prog 81 [v214, v216, v217] h212 (later (fun v218 h219 =>
 x213 [v214, v215, v216, v217, v218] h219) ())) ())) ())) ())) ())) (x213 [.tup [], .tup [], .tup [], .tup [], .tup []] h212)) ()) (later (fun x220 h221 =>
 pPick v211 (nth x220 4) (.bool false) (later (fun v222 =>
 pJoin (later (fun x223 =>
 pGuard v222 true (pLoad (some 9) v1 h221 (later (fun v224 =>
 pFieldAddr 6 v3 (later (fun v225 =>
 pLoad none v225 h221 (later (fun v226 =>
 CallsA Tryd.prog 72 [v224, v226] h221 (later (fun v227 h228 =>
 x223 [v224, v225, v226, v227] h228) ())) ())) ())) ())) (x223 [.tup [], .tup [], .tup [], .tup []] h221)) ()) (later (fun x229 h230 =>
 pPick v222 (nth x229 3) (.bool false) (later (fun v231 =>
 pJoin (later (fun x232 =>
 pGuard v231 true (pLoad (some 9) v1 h230 (later (fun v233 =>
 pLoad (some 8) v3 h230 (later (fun v234 =>
 CallsA Tryd.prog 83 [v233, v234, a2, .int .i64 (-1)] h230 (later (fun v235 h236 =>
 x232 [v233, v234, a2, v235] h236) ())) ())) ())) (x232 [.tup [], .tup [], .tup [], .tup []] h230)) ()) (later (fun x237 h238 =>
 pPick v231 (nth x237 3) (.bool false) (later (fun v239 =>
 R v239 h238) ())) ())) ())) ())) ())) ())) ())) ()))) ()))) ()))) ()))) ()))) ())) ())) ())) ())) ())) : CallsA Tryd.prog 73 [a0, a1, a2] h R :=
 CallsA_intro g_code_maker_loads mixed_ Tryd.func73 (show Tryd.f73.body = some c_code_maker_loads by kernel_rfl) Tryd.ntmps73 (by kernel_rfl) (Nat.le_of_ble_eq_true rfl) Tryd.call73 (Eq.mpr (by kernel_rfl) H)
/- (padlock/code.maker).stores -/
noncomputable def c_code_maker_stores : Code := (Tryd.f74.body).getD .skip
noncomputable def g_code_maker_stores : Cfg := { ch := fun d => List.contains [2, 3, 12, 19, 20, 26, 33, 37, 45, 48, 54, 60, 66] d, lv := fun k => ((List.lookup k ([] : List (Nat × List Nat))).getD []), cut := fun k => List.contains [] k, rc := fun i n => none }
theorem code_maker_stores_wp (a0 a1 : AV) (h : AHeap) (R : AV → AHeap → Prop) (H :
 pBox true 88 a0 h (later (fun v1 h2 =>
 pBox true 58 a1 h2 (later (fun v3 h4 =>
 pFieldAddr 0 v3 (later (fun v5 =>
 pLoad none v5 h4 (later (fun v6 =>
 obind (binA .other .eql v6 (.int .i64 5)) (later (fun v7 =>
 pCond v7 (pLoad (some 8) v3 h4 (later (fun v8 =>
 CallsA Tryd.prog 71 [v8, .bool false, .bool false, .bool false, .bool true, .bool false, .bool true, .bool false] h4 (later (fun v9 h10 =>
 pJoin (later (fun x11 =>
 pGuard v9 true (pFieldAddr 4 v3 (later (fun v12 =>
 pLoad none v12 h10 (later (fun v13 =>
 pFieldAddr 0 v1 (later (fun v14 =>
 pFieldAddr 1 v14 (later (fun v15 =>
 pLoad none v15 h10 (later (fun v16 =>
 pLen .slice v16 (later (fun v17 =>
 CallsA Tryd.prog 62 [v13, v17] h10 (later (fun v18 h19 =>
 x11 [v12, v13, v14, v15, v16, v17, v18] h19) ())) ())) ())) ())) ())) ())) ())) (x11 [.tup [], .tup [], .tup [], .tup [], .tup [], .tup [], .tup []] h10)) ()) (later (fun x20 h21 =>
 pPick v9 (nth x20 6) (.bool false) (later (fun v22 =>
 pJoin (later (fun x23 =>
 pGuard v22 true (pLoad (some 9) v1 h21 (later (fun v24 =>
 pFieldAddr 6 v3 (later (fun v25 =>
 pLoad none v25 h21 (later (fun v26 =>
 CallsA Tryd.prog 72 [v24, v26] h21 (later (fun v27 h28 =>
 x23 [v24, v25, v26, v27] h28) ())) ())) ())) ())) (x23 [.tup [], .tup [], .tup [], .tup []] h21)) ()) (later (fun x29 h30 =>
 pPick v22 (nth x29 3) (.bool false) (later (fun v31 =>
 R v31 h30) ())) ())) ())) ())) ())) ())) (obind (binA .other .eql v6 (.int .i64 6)) (later (fun v32 =>
 pCond v32 (pLoad (some 9) v1 h4 (later (fun v33 =>
 pLoad (some 8) v3 h4 (later (fun v34 =>
 CallsA Tryd.prog 82 [v33, v34] h4 (later (fun v35 h36 =>
 pExtract 0 v35 (later (fun v37 =>
 pExtract 1 v35 (later (fun v38 =>
 pAlloc 69 [.int .i64 0, .int .i64 0, .bool false] h36 (later (fun v39 h40 =>
 pStore 3 v39 v37 h40 (later (fun h41 =>
 pLoad (some 8) v3 h41 (later (fun v42 =>
 CallsA Tryd.prog 71 [v42, .bool false, .bool true, .bool true, .bool true, .bool false, .bool true, .bool false] h41 (later (fun v43 h44 =>
 pJoin (later (fun x45 =>
 pGuard v43 true (x45 [v38] h44) (x45 [.tup []] h44)) ()) (later (fun x46 h47 =>
 pPick v43 (nth x46 0) (.bool false) (later (fun v48 =>
 pJoin (later (fun x49 =>
 pGuard v48 true (pLoad (some 9) v1 h47 (later (fun v50 =>
 pFieldAddr 6 v3 (later (fun v51 =>
 pLoad none v51 h47 (later (fun v52 =>
 CallsA Tryd.prog 72 [v50, v52] h47 (later (fun v53 h54 =>
 x49 [v50, v51, v52, v53] h54) ())) ())) ())) ())) (x49 [.tup [], .tup [], .tup [], .tup []] h47)) ()) (later (fun x55 h56 =>
 pPick v48 (nth x55 3) (.bool false) (later (fun v57 =>
 R v57 h56) ())) ())) ())) ())) ())) ())) ())) ())) ())) ())) ())) ())) ())) (pLoad (some 8) v3 h4 (later (fun v58 =>
 CallsA Tryd.prog 71 [v58, .bool false, .bool true, .bool false, .bool false, .bool false, .bool true, .bool true] h4 (later (fun v59 h60 =>
 pJoin (later (fun x61 =>
 pGuard v59 true (pLoad (some 9) v1 h60 (later (fun v62 =>
 pFieldAddr 2 v3 (later (fun v63 =>
 pLoad none v63 h60 (later (fun v64 =>
 pBuild [(0, 1), (1, 1), (2, 1)] [.int .i64 0, .int .i64 0, .bool false] [(0, .int .i64 3)] (later (fun v65 =>
 CallsA Tryd.prog 81 [v62, v64, v65] h60 (later (fun v66 h67 =>
 x61 [v62, v63, v64, v65, v66] h67) ())) ())) ())) ())) ())) (x61 [.tup [], .tup [], .tup [], .tup [], .tup []] h60)) ()) (later (fun x68 h69 =>
 pPick v59 (nth x68 4) (.bool false) (later (fun v70 =>
 pJoin (later (fun x71 =>
 pGuard v70 true (pLoad (some 9) v1 h69 (later (fun v72 =>
 pFieldAddr 6 v3 (later (fun v73 =>
 pLoad none v73 h69 (later (fun v74 =>
 CallsA Tryd.prog 72 [v72, v74] h69 (later (fun v75 h76 =>
 x71 [v72, v73, v74, v75] h76) ())) ())) ())) ())) (x71 [.tup [], .tup [], .tup [], .tup []] h69)) ()) (later (fun x77 h78 =>
 pPick v70 (nth x77 3) (.bool false) (later (fun v79 =>
 pJoin (later (fun x80 =>
 pGuard v79 true (pLoad (some 9) v1 h78 (later (fun v81 =>
 pFieldAddr 7 v3 (later (fun v82 =>
 pLoad none v82 h78 (later (fun v83 =>
 CallsA Tryd.prog 72 [v81, v83] h78 (later (fun v84 h85 =>
 x80 [v81, v82, v83, v84] h85) ())) ())) ())) ())) (x80 [.tup [], .tup [], .tup [], .tup []] h78)) ()) (later (fun x86 h87 =>
 pPick v79 (nth x86 3) (.bool false) (later (fun v88 =>
 R v88 h87) ())) ())) ())) ())) ())) ())) ())) ()))) ()))) ())) ())) ())) ())) ())) : CallsA Tryd.prog 74 [a0, a1] h R :=
 CallsA_intro g_code_maker_stores mixed_ Tryd.func74 (show Tryd.f74.body = some c_code_maker_stores by kernel_rfl) Tryd.ntmps74 (by kernel_rfl) (Nat.le_of_ble_eq_true rfl) Tryd.call74 (Eq.mpr (by kernel_rfl) H)
/- (padlock/code.maker).goes -/
noncomputable def c_code_maker_goes : Code := (Tryd.f75.body).getD .skip
noncomputable def g_code_maker_goes : Cfg := { ch := fun d => List.contains [3, 11, 12, 19, 25] d, lv := fun k => ((List.lookup k ([] : List (Nat × List Nat))).getD []), cut := fun k => List.contains [] k, rc := fun i n => none }
theorem code_maker_goes_wp (a0 a1 a2 : AV) (h : AHeap) (R : AV → AHeap → Prop) (H :
 pBox true 88 a0 h (later (fun v1 h2 =>
 pFieldAddr 6 v1 (later (fun v3 =>
 pFieldAddr 1 v3 (later (fun v4 =>
 pLoad none v4 h2 (later (fun v5 =>
 pLen .slice v5 (later (fun v6 =>
 CallsA Tryd.prog 62 [a2, v6] h2 (later (fun v7 h8 =>
 obind (unA .not v7) (later (fun v9 =>
 pCond v9 (R (.bool false) h8) (true = true ∧ pFieldAddr 0 v1 (later (fun v10 =>
 pLoad (some 5) v10 h8 (later (fun v11 =>
 pFieldAddr 5 v1 (later (fun v12 =>
 pLoad none v12 h8 (later (fun v13 =>
 pFieldAddr 0 v1 (later (fun v14 =>
 pLoad (some 5) v14 h8 (later (fun v15 =>
 pFieldAddr 5 v1 (later (fun v16 =>
 pLoad none v16 h8 (later (fun v17 =>
 CallsA Tryd.prog 69 [v11, v13, a1] h8 (later (fun v18 h19 =>
 ((pLoad none v16 h19 (later (fun v20 =>
 v20 = v17 ∧ h19 = h19) ())) ∧ pLoad (some 5) v14 h19 (later (fun v21 =>
 v21 = v15 ∧ h19 = h19) ())) ∧ CallsA Tryd.prog 69 [v15, v17, a2] h19 (later (fun v22 h23 =>
 True ∧ obind (binA .other .eql v18 v22) (later (fun v24 =>
 R v24 h23) ())) ())) ())) ())) ())) ())) ())) ())) ())) ())) ()))) ())) ())) ())) ())) ())) ())) ())) : CallsA Tryd.prog 75 [a0, a1, a2] h R :=
 CallsA_intro g_code_maker_goes mixed_ Tryd.func75 (show Tryd.f75.body = some c_code_maker_goes by kernel_rfl) Tryd.ntmps75 (by kernel_rfl) (Nat.le_of_ble_eq_true rfl) Tryd.call75 (Eq.mpr (by kernel_rfl) H)
/- (padlock/code.maker).border -/
noncomputable def c_code_maker_border : Code := (Tryd.f76.body).getD .skip
noncomputable def g_code_maker_border : Cfg := { ch := fun d => List.contains [3, 4, 9, 17, 18] d, lv := fun k => ((List.lookup k ([] : List (Nat × List Nat))).getD []), cut := fun k => List.contains [] k, rc := fun i n => none }
theorem code_maker_border_wp (a0 a1 a2 : AV) (h : AHeap) (R : AV → AHeap → Prop) (H :
 pBox true 88 a0 h (later (fun v1 h2 =>
 pBox true 58 a1 h2 (later (fun v3 h4 =>
 pLoad (some 8) v3 h4 (later (fun v5 =>
 CallsA Tryd.prog 71 [v5, .bool false, .bool false, .bool false, .bool true, .bool false, .bool false, .bool false] h4 (later (fun v6 h7 =>
 obind (unA .not v6) (later (fun v8 =>
 pJoin (later (fun x9 =>
 pGuard v8 false (pFieldAddr 4 v3 (later (fun v10 =>
 pLoad none v10 h7 (later (fun v11 =>
 pFieldAddr 0 v1 (later (fun v12 =>
 pFieldAddr 4 v12 (later (fun v13 =>
 pLoad none v13 h7 (later (fun v14 =>
 pLen .slice v14 (later (fun v15 =>
 CallsA Tryd.prog 62 [v11, v15] h7 (later (fun v16 h17 =>
 obind (unA .not v16) (later (fun v18 =>
 x9 [v10, v11, v12, v13, v14, v15, v16, v18] h17) ())) ())) ())) ())) ())) ())) ())) ())) (x9 [.tup [], .tup [], .tup [], .tup [], .tup [], .tup [], .tup [], .tup []] h7)) ()) (later (fun x19 h20 =>
 pPick v8 (.bool true) (nth x19 7) (later (fun v21 =>
 pCond v21 (R (.bool false) h20) (pFieldAddr 0 v1 (later (fun v22 =>
 pFieldAddr 4 v22 (later (fun v23 =>
 pLoad none v23 h20 (later (fun v24 =>
 pFieldAddr 4 v3 (later (fun v25 =>
 pLoad none v25 h20 (later (fun v26 =>
 pIndexAddr (.slice 3) v24 v26 (later (fun v27 =>
 pLoad (some 3) v27 h20 (later (fun v28 =>
 pAlloc 71 [.int .i64 0, .int .i64 0, .int .i64 0] h20 (later (fun v29 h30 =>
 pStore 3 v29 v28 h30 (later (fun h31 =>
 pFieldAddr 0 v3 (later (fun v32 =>
 pLoad none v32 h31 (later (fun v33 =>
 obind (binA .other .eql v33 (.int .i64 15)) (later (fun v34 =>
 pCond v34 (pFieldAddr 0 v29 (later (fun v35 =>
 pLoad none v35 h31 (later (fun v36 =>
 pFieldAddr 5 v1 (later (fun v37 =>
 pLoad none v37 h31 (later (fun v38 =>
 obind (binA .other .eql v36 v38) (later (fun v39 =>
 pJoin (later (fun x40 =>
 pGuard v39 true (pFieldAddr 1 v29 (later (fun v41 =>
 pLoad none v41 h31 (later (fun v42 =>
 obind (binA .other .eql v42 a2) (later (fun v43 =>
 x40 [v41, v42, a2, v43] h31) ())) ())) ())) (x40 [.tup [], .tup [], .tup [], .tup []] h31)) ()) (later (fun x44 h45 =>
 pPick v39 (nth x44 3) (.bool false) (later (fun v46 =>
 R v46 h45) ())) ())) ())) ())) ())) ())) ())) (pFieldAddr 0 v29 (later (fun v47 =>
 pLoad none v47 h31 (later (fun v48 =>
 pFieldAddr 5 v1 (later (fun v49 =>
 pLoad none v49 h31 (later (fun v50 =>
 obind (binA .other .eql v48 v50) (later (fun v51 =>
 pJoin (later (fun x52 =>
 pGuard v51 true (pFieldAddr 2 v29 (later (fun v53 =>
 pLoad none v53 h31 (later (fun v54 =>
 obind (binA .other .eql v54 a2) (later (fun v55 =>
 x52 [v53, v54, a2, v55] h31) ())) ())) ())) (x52 [.tup [], .tup [], .tup [], .tup []] h31)) ()) (later (fun x56 h57 =>
 pPick v51 (nth x56 3) (.bool false) (later (fun v58 =>
 R v58 h57) ())) ())) ())) ())) ())) ())) ()))) ())) ())) ())) ())) ())) ())) ())) ())) ())) ())) ())) ()))) ())) ())) ())) ())) ())) ())) ())) : CallsA Tryd.prog 76 [a0, a1, a2] h R :=
 CallsA_intro g_code_maker_border mixed_ Tryd.func76 (show Tryd.f76.body = some c_code_maker_border by kernel_rfl) Tryd.ntmps76 (by kernel_rfl) (Nat.le_of_ble_eq_true rfl) Tryd.call76 (Eq.mpr (by kernel_rfl) H)
/- (padlock/code.maker).instr -/
noncomputable def c_code_maker_instr : Code := (Tryd.f64.body).getD .skip
noncomputable def g_code_maker_instr : Cfg := { ch := fun d => List.contains [3, 4, 11, 18, 29, 33, 41, 53, 60, 65, 70, 75, 81, 86, 92, 98, 106, 112, 119] d, lv := fun k => ((List.lookup k ([(13, [2, 3, 4, 22, 43]), (17, [2, 3, 4, 22, 54]), (20, [2, 3, 4, 22, 61])] : List (Nat × List Nat))).getD []), cut := fun k => List.contains [13, 17, 20] k, rc := fun i n => none }
theorem code_maker_instr_wp (a0 a1 a2 : AV) (h : AHeap) (R : AV → AHeap → Prop) (H :
 pBox true 88 a0 h (later (fun v1 h2 =>
 pBox true 58 a1 h2 (later (fun v3 h4 =>
 pFieldAddr 0 v3 (later (fun v5 =>
 pLoad none v5 h4 (later (fun v6 =>
 CallsA Tryd.prog 68 [v6] h4 (later (fun v7 h8 =>
 pJoin (later (fun x9 =>
 pGuard v7 true (pFieldAddr 0 v1 (later (fun v10 =>
 pLoad (some 5) v10 h8 (later (fun v11 =>
 pFieldAddr 5 v1 (later (fun v12 =>
 pLoad none v12 h8 (later (fun v13 =>
 CallsA Tryd.prog 69 [v11, v13, a2] h8 (later (fun v14 h15 =>
 obind (binA .other .lss v14 (.int .i64 0)) (later (fun v16 =>
 x9 [v10, v11, v12, v13, a2, v14, v16] h15) ())) ())) ())) ())) ())) ())) (x9 [.tup [], .tup [], .tup [], .tup [], .tup [], .tup [], .tup []] h8)) ()) (later (fun x17 h18 =>
 pPick v7 (nth x17 6) (.bool false) (later (fun v19 =>
 pCond v19 (R (.bool false) h18) (pFieldAddr 0 v3 (later (fun v20 =>
 pLoad none v20 h18 (later (fun v21 =>
 obind (binA .other .eql v21 (.int .i64 1)) (later (fun v22 =>
 pCond v22 (pLoad (some 9) v1 h18 (later (fun v23 =>
 pFieldAddr 1 v3 (later (fun v24 =>
 pLoad none v24 h18 (later (fun v25 =>
 CallsA Tryd.prog 70 [v23, v25] h18 (later (fun v26 h27 =>
 pExtract 0 v26 (later (fun v28 =>
 pExtract 1 v26 (later (fun v29 =>
 pAlloc 69 [.int .i64 0, .int .i64 0, .bool false] h27 (later (fun v30 h31 =>
 pStore 3 v30 v28 h31 (later (fun h32 =>
 pLoad (some 8) v3 h32 (later (fun v33 =>
 CallsA Tryd.prog 71 [v33, .bool true, .bool false, .bool false, .bool false, .bool false, .bool true, .bool false] h32 (later (fun v34 h35 =>
 pJoin (later (fun x36 =>
 pGuard v34 true (x36 [v29] h35) (x36 [.tup []] h35)) ()) (later (fun x37 h38 =>
 pPick v34 (nth x37 0) (.bool false) (later (fun v39 =>
 pJoin (later (fun x40 =>
 pGuard v39 true (pLoad (some 9) v1 h38 (later (fun v41 =>
 pFieldAddr 6 v3 (later (fun v42 =>
 pLoad none v42 h38 (later (fun v43 =>
 CallsA Tryd.prog 72 [v41, v43] h38 (later (fun v44 h45 =>
 x40 [v41, v42, v43, v44] h45) ())) ())) ())) ())) (x40 [.tup [], .tup [], .tup [], .tup []] h38)) ()) (later (fun x46 h47 =>
 pPick v39 (nth x46 3) (.bool false) (later (fun v48 =>
 R v48 h47) ())) ())) ())) ())) ())) ())) ())) ())) ())) ())) ())) ())) ())) ())) (Cut (later (fun J =>
 obind (binA .other .eql v21 (.int .i64 2)) (later (fun v49 =>
 pCond v49 (J (frOf [(2, a2), (3, v1), (4, v3), (22, v21), (43, v49)]) h18) (obind (binA .other .eql v21 (.int .i64 3)) (later (fun v50 =>
 pCond v50 (J (frOf [(2, a2), (3, v1), (4, v3), (22, v21), (43, v50)]) h18) (obind (binA .other .eql v21 (.int .i64 4)) (later (fun v51 =>
 pCond v51 (J (frOf [(2, a2), (3, v1), (4, v3), (22, v21), (43, v51)]) h18) (obind (binA .other .eql v21 (.int .i64 10)) (later (fun v52 =>
 pCond v52 (J (frOf [(2, a2), (3, v1), (4, v3), (22, v21), (43, v52)]) h18) (obind (binA .other .eql v21 (.int .i64 8)) (later (fun v53 =>
 pCond v53 (J (frOf [(2, a2), (3, v1), (4, v3), (22, v21), (43, v53)]) h18) (obind (binA .other .eql v21 (.int .i64 9)) (later (fun v54 =>
 J (frOf [(2, a2), (3, v1), (4, v3), (22, v21), (43, v54)]) h18) ()))) ()))) ()))) ()))) ()))) ())) ()) (later (fun fr' h' =>
 pCond (fr' 43) (pLoad (some 9) (fr' 3) h' (later (fun v55 =>
 pLoad (some 8) (fr' 4) h' (later (fun v56 =>
 CallsA Tryd.prog 73 [v55, v56, fr' 2] h' (later (fun v57 h58 =>
 R v57 h58) ())) ())) ())) (Cut (later (fun J =>
 obind (binA .other .eql (fr' 22) (.int .i64 5)) (later (fun v59 =>
 pCond v59 (J (frOf [(2, fr' 2), (3, fr' 3), (4, fr' 4), (22, fr' 22), (54, v59)]) h') (obind (binA .other .eql (fr' 22) (.int .i64 6)) (later (fun v60 =>
 pCond v60 (J (frOf [(2, fr' 2), (3, fr' 3), (4, fr' 4), (22, fr' 22), (54, v60)]) h') (obind (binA .other .eql (fr' 22) (.int .i64 7)) (later (fun v61 =>
 J (frOf [(2, fr' 2), (3, fr' 3), (4, fr' 4), (22, fr' 22), (54, v61)]) h') ()))) ()))) ())) ()) (later (fun fr' h' =>
 pCond (fr' 54) (pLoad (some 9) (fr' 3) h' (later (fun v62 =>
 pLoad (some 8) (fr' 4) h' (later (fun v63 =>
 CallsA Tryd.prog 74 [v62, v63] h' (later (fun v64 h65 =>
 R v64 h65) ())) ())) ())) (Cut (later (fun J =>
 obind (binA .other .eql (fr' 22) (.int .i64 11)) (later (fun v66 =>
 pCond v66 (J (frOf [(2, fr' 2), (3, fr' 3), (4, fr' 4), (22, fr' 22), (61, v66)]) h') (obind (binA .other .eql (fr' 22) (.int .i64 12)) (later (fun v67 =>
 J (frOf [(2, fr' 2), (3, fr' 3), (4, fr' 4), (22, fr' 22), (61, v67)]) h') ()))) ())) ()) (later (fun fr' h' =>
 pCond (fr' 61) (pLoad (some 8) (fr' 4) h' (later (fun v68 =>
 CallsA Tryd.prog 71 [v68, .bool false, .bool false, .bool false, .bool false, .bool false, .bool true, .bool false] h' (later (fun v69 h70 =>
 pJoin (later (fun x71 =>
 pGuard v69 true (pLoad (some 9) (fr' 3) h70 (later (fun v72 =>
 pFieldAddr 6 (fr' 4) (later (fun v73 =>
 pLoad none v73 h70 (later (fun v74 =>
 CallsA Tryd.prog 72 [v72, v74] h70 (later (fun v75 h76 =>
 x71 [v72, v73, v74, v75] h76) ())) ())) ())) ())) (x71 [.tup [], .tup [], .tup [], .tup []] h70)) ()) (later (fun x77 h78 =>
 pPick v69 (nth x77 3) (.bool false) (later (fun v79 =>
 R v79 h78) ())) ())) ())) ())) (obind (binA .other .eql (fr' 22) (.int .i64 13)) (later (fun v80 =>
 pCond v80 (pLoad (some 8) (fr' 4) h' (later (fun v81 =>
 CallsA Tryd.prog 71 [v81, .bool false, .bool false, .bool false, .bool false, .bool true, .bool false, .bool false] h' (later (fun v82 h83 =>
 pJoin (later (fun x84 =>
 pGuard v82 true (pLoad (some 9) (fr' 3) h83 (later (fun v85 =>
 pFieldAddr 5 (fr' 4) (later (fun v86 =>
 pLoad none v86 h83 (later (fun v87 =>
 CallsA Tryd.prog 75 [v85, fr' 2, v87] h83 (later (fun v88 h89 =>
 x84 [v85, fr' 2, v86, v87, v88] h89) ())) ())) ())) ())) (x84 [.tup [], .tup [], .tup [], .tup [], .tup []] h83)) ()) (later (fun x90 h91 =>
 pPick v82 (nth x90 4) (.bool false) (later (fun v92 =>
 R v92 h91) ())) ())) ())) ())) (obind (binA .other .eql (fr' 22) (.int .i64 14)) (later (fun v93 =>
 pCond v93 (pLoad (some 8) (fr' 4) h' (later (fun v94 =>
 CallsA Tryd.prog 71 [v94, .bool false, .bool false, .bool false, .bool false, .bool true, .bool true, .bool false] h' (later (fun v95 h96 =>
 pJoin (later (fun x97 =>
 pGuard v95 true (pLoad (some 9) (fr' 3) h96 (later (fun v98 =>
 pFieldAddr 5 (fr' 4) (later (fun v99 =>
 pLoad none v99 h96 (later (fun v100 =>
 CallsA Tryd.prog 75 [v98, fr' 2, v100] h96 (later (fun v101 h102 =>
 x97 [v98, fr' 2, v99, v100, v101] h102) ())) ())) ())) ())) (x97 [.tup [], .tup [], .tup [], .tup [], .tup []] h96)) ()) (later (fun x103 h104 =>
 pPick v95 (nth x103 4) (.bool false) (later (fun v105 =>
 pJoin (later (fun x106 =>
 pGuard v105 true (pLoad (some 9) (fr' 3) h104 (later (fun v107 =>
 pFieldAddr 6 (fr' 4) (later (fun v108 =>
 pLoad none v108 h104 (later (fun v109 =>
 CallsA Tryd.prog 72 [v107, v109] h104 (later (fun v110 h111 =>
 x106 [v107, v108, v109, v110] h111) ())) ())) ())) ())) (x106 [.tup [], .tup [], .tup [], .tup []] h104)) ()) (later (fun x112 h113 =>
 pPick v105 (nth x112 3) (.bool false) (later (fun v114 =>
 R v114 h113) ())) ())) ())) ())) ())) ())) (obind (binA .other .eql (fr' 22) (.int .i64 15)) (later (fun v115 =>
 pCond v115 (pCond v115 (pLoad (some 9) (fr' 3) h' (later (fun v116 =>
 pLoad (some 8) (fr' 4) h' (later (fun v117 =>
 CallsA Tryd.prog 76 [v116, v117, fr' 2] h' (later (fun v118 h119 =>
 R v118 h119) ())) ())) ())) (pFieldAddr 0 (fr' 4) (later (fun v120 =>
 pLoad none v120 h' (later (fun v121 =>
 obind (binA .other .eql v121 (.int .i64 17)) (later (fun v122 =>
 pJoin (later (fun x123 =>
 pGuard v122 true (pLoad (some 8) (fr' 4) h' (later (fun v124 =>
 CallsA Tryd.prog 71 [v124, .bool false, .bool false, .bool false, .bool false, .bool false, .bool false, .bool false] h' (later (fun v125 h126 =>
 x123 [v124, v125] h126) ())) ())) (x123 [.tup [], .tup []] h')) ()) (later (fun x127 h128 =>
 pPick v122 (nth x127 1) (.bool false) (later (fun v129 =>
 pJoin (later (fun x130 =>
 pGuard v129 true (pFieldAddr 6 (fr' 3) (later (fun v131 =>
 pFieldAddr 1 v131 (later (fun v132 =>
 pLoad none v132 h128 (later (fun v133 =>
 pLen .slice v133 (later (fun v134 =>
 obind (binA .other .sub v134 (.int .i64 1)) (later (fun v135 =>
 obind (binA .other .eql (fr' 2) v135) (later (fun v136 =>
 x130 [fr' 2, v131, v132, v133, v134, v135, v136] h128) ())) ())) ())) ())) ())) ())) (x130 [.tup [], .tup [], .tup [], .tup [], .tup [], .tup [], .tup []] h128)) ()) (later (fun x137 h138 =>
 pPick v129 (nth x137 6) (.bool false) (later (fun v139 =>
 R v139 h138) ())) ())) ())) ())) ())) ())) ()))) (obind (binA .other .eql (fr' 22) (.int .i64 16)) (later (fun v140 =>
 pCond v140 (pLoad (some 9) (fr' 3) h' (later (fun v141 =>
 pLoad (some 8) (fr' 4) h' (later (fun v142 =>
 CallsA Tryd.prog 76 [v141, v142, fr' 2] h' (later (fun v143 h144 =>
 R v143 h144) ())) ())) ())) (pFieldAddr 0 (fr' 4) (later (fun v145 =>
 pLoad none v145 h' (later (fun v146 =>
 obind (binA .other .eql v146 (.int .i64 17)) (later (fun v147 =>
 pJoin (later (fun x148 =>
 pGuard v147 true (pLoad (some 8) (fr' 4) h' (later (fun v149 =>
 CallsA Tryd.prog 71 [v149, .bool false, .bool false, .bool false, .bool false, .bool false, .bool false, .bool false] h' (later (fun v150 h151 =>
 x148 [v149, v150] h151) ())) ())) (x148 [.tup [], .tup []] h')) ()) (later (fun x152 h153 =>
 pPick v147 (nth x152 1) (.bool false) (later (fun v154 =>
 pJoin (later (fun x155 =>
 pGuard v154 true (pFieldAddr 6 (fr' 3) (later (fun v156 =>
 pFieldAddr 1 v156 (later (fun v157 =>
 pLoad none v157 h153 (later (fun v158 =>
 pLen .slice v158 (later (fun v159 =>
 obind (binA .other .sub v159 (.int .i64 1)) (later (fun v160 =>
 obind (binA .other .eql (fr' 2) v160) (later (fun v161 =>
 x155 [fr' 2, v156, v157, v158, v159, v160, v161] h153) ())) ())) ())) ())) ())) ())) (x155 [.tup [], .tup [], .tup [], .tup [], .tup [], .tup [], .tup []] h153)) ()) (later (fun x162 h163 =>
 pPick v154 (nth x162 6) (.bool false) (later (fun v164 =>
 R v164 h163) ())) ())) ())) ())) ())) ())) ()))) ()))) ()))) ()))) ()))) ()))) ()))) ()))) ())) ())) ()))) ())) ())) ())) ())) ())) ())) ())) : CallsA Tryd.prog 64 [a0, a1, a2] h R :=
 CallsA_intro g_code_maker_instr mixed_ Tryd.func64 (show Tryd.f64.body = some c_code_maker_instr by kernel_rfl) Tryd.ntmps64 (by kernel_rfl) (Nat.le_of_ble_eq_true rfl) Tryd.call64 (Eq.mpr (by kernel_rfl) H)
/- (padlock/code.maker).all -/
noncomputable def c_code_maker_all : Code := (Tryd.f48.body).getD .skip
noncomputable def g_code_maker_all : Cfg := { ch := fun d => List.contains [1, 9, 13, 50, 54, 63] d, lv := fun k => ((List.lookup k ([(7, [1, 53, 54, 55])] : List (Nat × List Nat))).getD []), cut := fun k => List.contains [] k, rc := fun i n => ((List.lookup i ([(2, [(15, [1, 3, 29, 33])])] : List (Nat × List (Nat × List Nat)))).getD []).lookup n }
noncomputable def c_code_maker_all_7 : Code := (loopOf 7 c_code_maker_all).getD .skip
theorem code_maker_all_wp (a0 : AV) (h : AHeap) (R : AV → AHeap → Prop) (H :
 pBox true 88 a0 h (later (fun v1 h2 =>
 pFieldAddr 6 v1 (later (fun v3 =>
 pFieldAddr 1 v3 (later (fun v4 =>
 pLoad none v4 h2 (later (fun v5 =>
 pLen .slice v5 (later (fun v6 =>
 pFieldAddr 6 v1 (later (fun v7 =>
 pFieldAddr 0 v7 (later (fun v8 =>
 pLoad none v8 h2 (later (fun v9 =>
 pLen .slice v9 (later (fun v10 =>
 obind (binA .other .gtr v10 (.int .i64 64)) (later (fun v11 =>
 pJoin (later (fun x12 =>
 pGuard v11 false (obind (binA .other .lss v6 (.int .i64 1)) (later (fun v13 =>
 x12 [v6, v13] h2) ())) (x12 [.tup [], .tup []] h2)) ()) (later (fun x14 h15 =>
 pPick v11 (.bool true) (nth x14 1) (later (fun v16 =>
 pJoin (later (fun x17 =>
 pGuard v16 false (obind (binA .other .gtr v6 (.int .i64 256)) (later (fun v18 =>
 x17 [v6, v18] h15) ())) (x17 [.tup [], .tup []] h15)) ()) (later (fun x19 h20 =>
 pPick v16 (.bool true) (nth x19 1) (later (fun v21 =>
 pJoin (later (fun x22 =>
 pGuard v21 false (pFieldAddr 6 v1 (later (fun v23 =>
 pFieldAddr 2 v23 (later (fun v24 =>
 pLoad none v24 h20 (later (fun v25 =>
 obind (binA .other .lss v25 (.int .i64 0)) (later (fun v26 =>
 x22 [v23, v24, v25, v26] h20) ())) ())) ())) ())) (x22 [.tup [], .tup [], .tup [], .tup []] h20)) ()) (later (fun x27 h28 =>
 pPick v21 (.bool true) (nth x27 3) (later (fun v29 =>
 pJoin (later (fun x30 =>
 pGuard v29 false (pFieldAddr 6 v1 (later (fun v31 =>
 pFieldAddr 2 v31 (later (fun v32 =>
 pLoad none v32 h28 (later (fun v33 =>
 obind (binA .other .gtr v33 (.int .i64 4096)) (later (fun v34 =>
 x30 [v31, v32, v33, v34] h28) ())) ())) ())) ())) (x30 [.tup [], .tup [], .tup [], .tup []] h28)) ()) (later (fun x35 h36 =>
 pChunk [v1, v6, v29, nth x35 3] (later (fun x37 =>
 pPick (nth x37 2) (.bool true) (nth x37 3) (later (fun v38 =>
 pJoin (later (fun x39 =>
 pGuard v38 false (pFieldAddr 6 (nth x37 0) (later (fun v40 =>
 pFieldAddr 1 v40 (later (fun v41 =>
 pLoad none v41 h36 (later (fun v42 =>
 obind (binA .other .sub (nth x37 1) (.int .i64 1)) (later (fun v43 =>
 pIndexAddr (.slice 8) v42 v43 (later (fun v44 =>
 pFieldAddr 0 v44 (later (fun v45 =>
 pLoad none v45 h36 (later (fun v46 =>
 obind (binA .other .neq v46 (.int .i64 17)) (later (fun v47 =>
 x39 [v40, v41, v42, nth x37 1, v43, v44, v45, v46, v47] h36) ())) ())) ())) ())) ())) ())) ())) ())) (x39 [.tup [], .tup [], .tup [], .tup [], .tup [], .tup [], .tup [], .tup [], .tup []] h36)) ()) (later (fun x48 h49 =>
 pPick v38 (.bool true) (nth x48 8) (later (fun v50 =>
 pCond v50 (R (.bool false) h49) (pFieldAddr 6 (nth x37 0) (later (fun v51 =>
 pFieldAddr 0 v51 (later (fun v52 =>
 pLoad none v52 h49 (later (fun v53 =>
 CallsA Tryd.prog 59 [v53, .fn (Fn.func 63) [] [nth x37 0]] h49 (later (fun v54 h55 =>
 pCond v54 (R (.bool false) h55) (pFieldAddr 6 (nth x37 0) (later (fun v56 =>
 pFieldAddr 1 v56 (later (fun v57 =>
 pLoad none v57 h55 (later (fun v58 =>
 pLen .slice v58 (later (fun v59 =>
 WP Tryd.prog 66 (Code.loop c_code_maker_all_7) (frOf [(1, nth x37 0), (53, v58), (54, v59), (55, .int .i64 0)]) h55 (exitQ (later (fun fr60 h61 =>
 False) ()) (later (fun x62 fr63 h64 =>
 pIdx x62 0 (pIdx 0 0 (R (.bool true) h64) False) False) ()) (later (fun fr65 h66 =>
 R (fr65 2) h66) ()))) ())) ())) ())) ()))) ())) ())) ())) ()))) ())) ())) ())) ())) ())) ())) ())) ())) ())) ())) ())) ())) ())) ())) ())) ())) ())) ())) ())) ())) ())) : CallsA Tryd.prog 48 [a0] h R :=
 CallsA_intro g_code_maker_all mixed_ Tryd.func48 (show Tryd.f48.body = some c_code_maker_all by kernel_rfl) Tryd.ntmps48 (by kernel_rfl) (Nat.le_of_ble_eq_true rfl) Tryd.call48 (Eq.mpr (by kernel_rfl) H)
theorem code_maker_all_loop7 (s1 s53 s54 s55 : AV) (h : AHeap) (Q : AExit → Fr → AHeap → Prop) (H :
 obind (binA .other .lss s55 s54) (later (fun v1 =>
 pCond v1 (pIndexAddr (.slice 8) s53 s55 (later (fun v2 =>
 pLoad (some 8) v2 h (later (fun v3 =>
 pAlloc 58 [.int .i64 0, .int .i64 0, .int .i64 0, .int .i64 0, .int .i64 0, .int .i64 0, .nils, .nils] h (later (fun v4 h5 =>
 pStore 8 v4 v3 h5 (later (fun h6 =>
 pLoad (some 9) s1 h6 (later (fun v7 =>
 pLoad (some 8) v4 h6 (later (fun v8 =>
 CallsA Tryd.prog 64 [v7, v8, s55] h6 (later (fun v9 h10 =>
 obind (unA .not v9) (later (fun v11 =>
 pCond v11 (Q .ret (frOf [(2, .bool false)]) h10) (obind (binA .other .add s55 (.int .i64 1)) (later (fun v12 =>
 Q .normal (frOf [(1, s1), (53, s53), (54, s54), (55, v12)]) h10) ()))) ())) ())) ())) ())) ())) ())) ())) ())) (Q (.exit 0) (frOf []) h)) ())) : WP Tryd.prog 66 c_code_maker_all_7 (frOf [(1, s1), (53, s53), (54, s54), (55, s55)]) h Q :=
 WP_body g_code_maker_all [0] [1, 53, 54, 55] [] [2] mixed_ (by kernel_rfl) (Eq.mpr (by kernel_rfl) H)
/- padlock/code.Good -/
noncomputable def c_code_Good : Code := (Tryd.f34.body).getD .skip
noncomputable def g_code_Good : Cfg := { ch := fun d => List.contains [1, 9, 14, 21, 26, 31, 36, 43, 48, 58] d, lv := fun k => ((List.lookup k ([(4, [1, 35, 36, 37]), (10, [1, 47, 48, 49])] : List (Nat × List Nat))).getD []), cut := fun k => List.contains [] k, rc := fun i n => ((List.lookup i ([(1, [(14, [1, 29, 32])])] : List (Nat × List (Nat × List Nat)))).getD []).lookup n }
noncomputable def c_code_Good_4 : Code := (loopOf 4 c_code_Good).getD .skip
noncomputable def c_code_Good_10 : Code := (loopOf 10 c_code_Good).getD .skip
theorem code_Good_wp (a0 : AV) (h : AHeap) (R : AV → AHeap → Prop) (H :
 pBox true 44 a0 h (later (fun v1 h2 =>
 pFieldAddr 0 v1 (later (fun v3 =>
 pLoad none v3 h2 (later (fun v4 =>
 pLen .slice v4 (later (fun v5 =>
 obind (binA .other .gtr v5 (.int .i64 6)) (later (fun v6 =>
 pJoin (later (fun x7 =>
 pGuard v6 false (pFieldAddr 2 v1 (later (fun v8 =>
 pLoad none v8 h2 (later (fun v9 =>
 pLen .slice v9 (later (fun v10 =>
 obind (binA .other .gtr v10 (.int .i64 4)) (later (fun v11 =>
 x7 [v8, v9, v10, v11] h2) ())) ())) ())) ())) (x7 [.tup [], .tup [], .tup [], .tup []] h2)) ()) (later (fun x12 h13 =>
 pPick v6 (.bool true) (nth x12 3) (later (fun v14 =>
 pJoin (later (fun x15 =>
 pGuard v14 false (pLoad (some 5) v1 h13 (later (fun v16 =>
 pFieldAddr 1 v1 (later (fun v17 =>
 pLoad none v17 h13 (later (fun v18 =>
 CallsA Tryd.prog 45 [v16, v18, .int .i64 8] h13 (later (fun v19 h20 =>
 obind (unA .not v19) (later (fun v21 =>
 x15 [v16, v17, v18, v19, v21] h20) ())) ())) ())) ())) ())) (x15 [.tup [], .tup [], .tup [], .tup [], .tup []] h13)) ()) (later (fun x22 h23 =>
 pPick v14 (.bool true) (nth x22 4) (later (fun v24 =>
 pJoin (later (fun x25 =>
 pGuard v24 false (pLoad (some 5) v1 h23 (later (fun v26 =>
 CallsA Tryd.prog 46 [v26] h23 (later (fun v27 h28 =>
 obind (unA .not v27) (later (fun v29 =>
 x25 [v26, v27, v29] h28) ())) ())) ())) (x25 [.tup [], .tup [], .tup []] h23)) ()) (later (fun x30 h31 =>
 pPick v24 (.bool true) (nth x30 2) (later (fun v32 =>
 pJoin (later (fun x33 =>
 pGuard v32 false (pLoad (some 5) v1 h31 (later (fun v34 =>
 CallsA Tryd.prog 47 [v34] h31 (later (fun v35 h36 =>
 obind (unA .not v35) (later (fun v37 =>
 x33 [v34, v35, v37] h36) ())) ())) ())) (x33 [.tup [], .tup [], .tup []] h31)) ()) (later (fun x38 h39 =>
 pChunk [v1, v32, nth x38 2] (later (fun x40 =>
 pPick (nth x40 1) (.bool true) (nth x40 2) (later (fun v41 =>
 pCond v41 (R (.bool false) h39) (pFieldAddr 0 (nth x40 0) (later (fun v42 =>
 pLoad none v42 h39 (later (fun v43 =>
 pLen .slice v43 (later (fun v44 =>
 WP Tryd.prog 61 (Code.loop c_code_Good_4) (frOf [(1, nth x40 0), (35, v43), (36, v44), (37, .int .i64 0)]) h39 (exitQ (later (fun fr45 h46 =>
 False) ()) (later (fun x47 fr48 h49 =>
 pIdx x47 0 (pIdx 0 0 (pFieldAddr 2 (fr48 1) (later (fun v50 =>
 pLoad none v50 h49 (later (fun v51 =>
 pLen .slice v51 (later (fun v52 =>
 WP Tryd.prog 61 (Code.loop c_code_Good_10) (frOf [(1, fr48 1), (47, v51), (48, v52), (49, .int .i64 0)]) h49 (exitQ (later (fun fr53 h54 =>
 False) ()) (later (fun x55 fr56 h57 =>
 pIdx x55 2 (pIdx 2 2 (R (.bool true) h57) False) False) ()) (later (fun fr58 h59 =>
 R (fr58 2) h59) ()))) ())) ())) ())) False) False) ()) (later (fun fr60 h61 =>
 R (fr60 2) h61) ()))) ())) ())) ()))) ())) ())) ())) ())) ())) ())) ())) ())) ())) ())) ())) ())) ())) ())) : CallsA Tryd.prog 34 [a0] h R :=
 CallsA_intro g_code_Good mixed_ Tryd.func34 (show Tryd.f34.body = some c_code_Good by kernel_rfl) Tryd.ntmps34 (by kernel_rfl) (Nat.le_of_ble_eq_true rfl) Tryd.call34 (Eq.mpr (by kernel_rfl) H)
theorem code_Good_loop4 (s1 s35 s36 s37 : AV) (h : AHeap) (Q : AExit → Fr → AHeap → Prop) (H :
 obind (binA .other .lss s37 s36) (later (fun v1 =>
 pCond v1 (pIndexAddr (.slice 1) s35 s37 (later (fun v2 =>
 pLoad none v2 h (later (fun v3 =>
 pLoad (some 5) s1 h (later (fun v4 =>
 CallsA Tryd.prog 45 [v4, v3, .int .i64 6] h (later (fun v5 h6 =>
 obind (unA .not v5) (later (fun v7 =>
 pCond v7 (Q .ret (frOf [(2, .bool false)]) h6) (obind (binA .other .add s37 (.int .i64 1)) (later (fun v8 =>
 Q .normal (frOf [(1, s1), (35, s35), (36, s36), (37, v8)]) h6) ()))) ())) ())) ())) ())) ())) (Q (.exit 0) (frOf [(1, s1)]) h)) ())) : WP Tryd.prog 61 c_code_Good_4 (frOf [(1, s1), (35, s35), (36, s36), (37, s37)]) h Q :=
 WP_body g_code_Good [0] [1, 35, 36, 37] [1] [2] mixed_ (by kernel_rfl) (Eq.mpr (by kernel_rfl) H)
theorem code_Good_loop10 (s1 s47 s48 s49 : AV) (h : AHeap) (Q : AExit → Fr → AHeap → Prop) (H :
 obind (binA .other .lss s49 s48) (later (fun v1 =>
 pCond v1 (pIndexAddr (.slice 3) s47 s49 (later (fun v2 =>
 pLoad (some 3) v2 h (later (fun v3 =>
 pAlloc 51 [.nils, .nils, .int .i64 0] h (later (fun v4 h5 =>
 pStore 3 v4 v3 h5 (later (fun h6 =>
 pLoad (some 5) s1 h6 (later (fun v7 =>
 pLoad (some 3) v4 h6 (later (fun v8 =>
 pBuild [(0, 5), (5, 1), (6, 3)] [.nils, .nils, .nils, .nils, .nils, .int .i64 0, .nils, .nils, .int .i64 0] [(0, v7), (1, s49), (2, v8)] (later (fun v9 =>
 CallsA Tryd.prog 48 [v9] h6 (later (fun v10 h11 =>
 obind (unA .not v10) (later (fun v12 =>
 pCond v12 (Q .ret (frOf [(2, .bool false)]) h11) (obind (binA .other .add s49 (.int .i64 1)) (later (fun v13 =>
 Q .normal (frOf [(1, s1), (47, s47), (48, s48), (49, v13)]) h11) ()))) ())) ())) ())) ())) ())) ())) ())) ())) ())) (Q (.exit 2) (frOf []) h)) ())) : WP Tryd.prog 61 c_code_Good_10 (frOf [(1, s1), (47, s47), (48, s48), (49, s49)]) h Q :=
 WP_body g_code_Good [2] [1, 47, 48, 49] [] [2] mixed_ (by kernel_rfl) (Eq.mpr (by kernel_rfl) H)
/- padlock/code.Writes -/
noncomputable def c_code_Writes : Code := (Tryd.f49.body).getD .skip
noncomputable def g_code_Writes : Cfg := { ch := fun d => List.contains [1] d, lv := fun k => ((List.lookup k ([(9, [1, 5])] : List (Nat × List Nat))).getD []), cut := fun k => List.contains [9] k, rc := fun i n => none }
theorem code_Writes_wp (a0 : AV) (h : AHeap) (R : AV → AHeap → Prop) (H :
 pBox true 58 a0 h (later (fun v1 h2 =>
 pFieldAddr 0 v1 (later (fun v3 =>
 pLoad none v3 h2 (later (fun v4 =>
 Cut (later (fun J =>
 obind (binA .other .eql v4 (.int .i64 1)) (later (fun v5 =>
 pCond v5 (J (frOf [(1, v1), (5, v5)]) h2) (obind (binA .other .eql v4 (.int .i64 2)) (later (fun v6 =>
 pCond v6 (J (frOf [(1, v1), (5, v6)]) h2) (obind (binA .other .eql v4 (.int .i64 3)) (later (fun v7 =>
 pCond v7 (J (frOf [(1, v1), (5, v7)]) h2) (obind (binA .other .eql v4 (.int .i64 4)) (later (fun v8 =>
 pCond v8 (J (frOf [(1, v1), (5, v8)]) h2) (obind (binA .other .eql v4 (.int .i64 8)) (later (fun v9 =>
 pCond v9 (J (frOf [(1, v1), (5, v9)]) h2) (obind (binA .other .eql v4 (.int .i64 9)) (later (fun v10 =>
 pCond v10 (J (frOf [(1, v1), (5, v10)]) h2) (obind (binA .other .eql v4 (.int .i64 10)) (later (fun v11 =>
 J (frOf [(1, v1), (5, v11)]) h2) ()))) ()))) ()))) ()))) ()))) ()))) ())) ()) (later (fun fr' h' =>
 pCond (fr' 5) (pFieldAddr 1 (fr' 1) (later (fun v12 =>
 pLoad none v12 h' (later (fun v13 =>
 R v13 h') ())) ())) (R (.int .i64 (-1)) h')) ())) ())) ())) ())) : CallsA Tryd.prog 49 [a0] h R :=
 CallsA_intro g_code_Writes mixed_ Tryd.func49 (show Tryd.f49.body = some c_code_Writes by kernel_rfl) Tryd.ntmps49 (by kernel_rfl) (Nat.le_of_ble_eq_true rfl) Tryd.call49 (Eq.mpr (by kernel_rfl) H)
/- math/bits.TrailingZeros64 -/
noncomputable def c_math_bits_TrailingZeros64 : Code := (Tryd.f33.body).getD .skip
noncomputable def g_math_bits_TrailingZeros64 : Cfg := { ch := fun d => List.contains [] d, lv := fun k => ((List.lookup k ([] : List (Nat × List Nat))).getD []), cut := fun k => List.contains [] k, rc := fun i n => none }
theorem math_bits_TrailingZeros64_wp (a0 : AV) (h : AHeap) (R : AV → AHeap → Prop) (H :
 obind (binA .other .eql a0 (.int .u64 0)) (later (fun v1 =>
 pCond v1 (R (.int .i64 64) h) (obind (unA .neg a0) (later (fun v2 =>
 obind (binA .other .and a0 v2) (later (fun v3 =>
 obind (binA .other .mul v3 (.int .u64 285870213051353865)) (later (fun v4 =>
 obind (binA .other .shr v4 (.int .u64 58)) (later (fun v5 =>
 pIndexAddr (.array 64 1) (.iptr [.int .u8 0, .int .u8 1, .int .u8 56, .int .u8 2, .int .u8 57, .int .u8 49, .int .u8 28, .int .u8 3, .int .u8 61, .int .u8 58, .int .u8 42, .int .u8 50, .int .u8 38, .int .u8 29, .int .u8 17, .int .u8 4, .int .u8 62, .int .u8 47, .int .u8 59, .int .u8 36, .int .u8 45, .int .u8 43, .int .u8 51, .int .u8 22, .int .u8 53, .int .u8 39, .int .u8 33, .int .u8 30, .int .u8 24, .int .u8 18, .int .u8 12, .int .u8 5, .int .u8 63, .int .u8 55, .int .u8 48, .int .u8 27, .int .u8 60, .int .u8 41, .int .u8 37, .int .u8 16, .int .u8 46, .int .u8 35, .int .u8 44, .int .u8 21, .int .u8 52, .int .u8 32, .int .u8 23, .int .u8 11, .int .u8 54, .int .u8 26, .int .u8 40, .int .u8 15, .int .u8 34, .int .u8 20, .int .u8 31, .int .u8 10, .int .u8 25, .int .u8 14, .int .u8 19, .int .u8 9, .int .u8 13, .int .u8 8, .int .u8 7, .int .u8 6]) v5 (later (fun v6 =>
 pLoad none v6 h (later (fun v7 =>
 pConv (CvK.int .i64) v7 h (later (fun v8 =>
 R v8 h) ())) ())) ())) ())) ())) ())) ()))) ())) : CallsA Tryd.prog 33 [a0] h R :=
 CallsA_intro g_math_bits_TrailingZeros64 mixed_ Tryd.func33 (show Tryd.f33.body = some c_math_bits_TrailingZeros64 by kernel_rfl) Tryd.ntmps33 (by kernel_rfl) (Nat.le_of_ble_eq_true rfl) Tryd.call33 (Eq.mpr (by kernel_rfl) H)
/- padlock/calc.Uses -/
noncomputable def c_calc_Uses : Code := (Tryd.f77.body).getD .skip
noncomputable def g_calc_Uses : Cfg := { ch := fun d => List.contains [7, 19, 20] d, lv := fun k => ((List.lookup k ([(3, [3, 6, 7, 8])] : List (Nat × List Nat))).getD []), cut := fun k => List.contains [] k, rc := fun i n => none }
noncomputable def c_calc_Uses_3 : Code := (loopOf 3 c_calc_Uses).getD .skip
theorem calc_Uses_wp (a0 : AV) (h : AHeap) (R : AV → AHeap → Prop) (H :
 pLen .slice a0 (later (fun v1 =>
 WP Tryd.prog 23 (Code.loop c_calc_Uses_3) (frOf [(3, .nils), (6, a0), (7, v1), (8, .int .i64 0)]) h (exitQ (later (fun fr2 h3 =>
 False) ()) (later (fun x4 fr5 h6 =>
 pIdx x4 0 (pIdx 0 0 (R (fr5 3) h6) False) False) ()) (later (fun fr7 h8 =>
 R (fr7 2) h8) ()))) ())) : CallsA Tryd.prog 77 [a0] h R :=
 CallsA_intro g_calc_Uses mixed_ Tryd.func77 (show Tryd.f77.body = some c_calc_Uses by kernel_rfl) Tryd.ntmps77 (by kernel_rfl) (Nat.le_of_ble_eq_true rfl) Tryd.call77 (Eq.mpr (by kernel_rfl) H)
theorem calc_Uses_loop3 (s3 s6 s7 s8 : AV) (h : AHeap) (Q : AExit → Fr → AHeap → Prop) (H :
 obind (binA .other .lss s8 s7) (later (fun v1 =>
 pCond v1 (pIndexAddr (.slice 3) s6 s8 (later (fun v2 =>
 pLoad (some 3) v2 h (later (fun v3 =>
 pAlloc 60 [.int .i64 0, .int .i64 0, .int .u64 0] h (later (fun v4 h5 =>
 pStore 3 v4 v3 h5 (later (fun h6 =>
 pFieldAddr 0 v4 (later (fun v7 =>
 pLoad none v7 h6 (later (fun v8 =>
 obind (binA .other .eql v8 (.int .i64 2)) (later (fun v9 =>
 pCond v9 (pFieldAddr 2 v4 (later (fun v10 =>
 pLoad none v10 h6 (later (fun v11 =>
 pConv (CvK.int .i64) v11 h6 (later (fun v12 =>
 (1 = 0 → [(0, Operand.tmp 18)] = []) ∧ pBuildSl true { e := 3, sz := 1, by_ := 8 } [.int .i64 0] 1 [(0, v12)] h6 (later (fun v13 h14 =>
 true = true ∧ pAppend true { e := 3, sz := 1, by_ := 8 } s3 v13 h14 (later (fun v15 h16 =>
 obind (binA .other .add s8 (.int .i64 1)) (later (fun v17 =>
 Q .normal (frOf [(3, v15), (6, s6), (7, s7), (8, v17)]) h16) ())) ())) ())) ())) ())) ())) (obind (binA .other .add s8 (.int .i64 1)) (later (fun v18 =>
 Q .normal (frOf [(3, s3), (6, s6), (7, s7), (8, v18)]) h6) ()))) ())) ())) ())) ())) ())) ())) ())) (Q (.exit 0) (frOf [(3, s3)]) h)) ())) : WP Tryd.prog 23 c_calc_Uses_3 (frOf [(3, s3), (6, s6), (7, s7), (8, s8)]) h Q :=
 WP_body g_calc_Uses [0] [3, 6, 7, 8] [3] [2] mixed_ (by kernel_rfl) (Eq.mpr (by kernel_rfl) H)
/- padlock/padlockref09.Great -/
noncomputable def c_padlockref09_Great : Code := (Tryd.f20.body).getD .skip
noncomputable def g_padlockref09_Great : Cfg := { ch := fun d => List.contains [1, 11, 16, 22, 28, 34, 39, 45, 50, 57, 62, 67, 74, 79] d, lv := fun k => ((List.lookup k ([(4, [1, 38, 39, 40]), (10, [49, 50, 51]), (15, [49, 50, 51, 66, 67, 68])] : List (Nat × List Nat))).getD []), cut := fun k => List.contains [] k, rc := fun i n => ((List.lookup i ([(1, [(14, [1, 31, 35])])] : List (Nat × List (Nat × List Nat)))).getD []).lookup n }
noncomputable def c_padlockref09_Great_4 : Code := (loopOf 4 c_padlockref09_Great).getD .skip
noncomputable def c_padlockref09_Great_10 : Code := (loopOf 10 c_padlockref09_Great).getD .skip
noncomputable def c_padlockref09_Great_15 : Code := (loopOf 15 c_padlockref09_Great).getD .skip
theorem padlockref09_Great_wp (a0 : AV) (h : AHeap) (R : AV → AHeap → Prop) (H :
 pBox true 44 a0 h (later (fun v1 h2 =>
 pFieldAddr 0 v1 (later (fun v3 =>
 pLoad none v3 h2 (later (fun v4 =>
 pLen .slice v4 (later (fun v5 =>
 obind (binA .other .gtr v5 (.int .i64 20)) (later (fun v6 =>
 pJoin (later (fun x7 =>
 pGuard v6 false (pFieldAddr 1 v1 (later (fun v8 =>
 pLoad none v8 h2 (later (fun v9 =>
 pLen .slice v9 (later (fun v10 =>
 obind (binA .other .gtr v10 (.int .i64 100)) (later (fun v11 =>
 x7 [v8, v9, v10, v11] h2) ())) ())) ())) ())) (x7 [.tup [], .tup [], .tup [], .tup []] h2)) ()) (later (fun x12 h13 =>
 pPick v6 (.bool true) (nth x12 3) (later (fun v14 =>
 pJoin (later (fun x15 =>
 pGuard v14 false (pFieldAddr 2 v1 (later (fun v16 =>
 pLoad none v16 h13 (later (fun v17 =>
 pLen .slice v17 (later (fun v18 =>
 obind (binA .other .gtr v18 (.int .i64 8)) (later (fun v19 =>
 x15 [v16, v17, v18, v19] h13) ())) ())) ())) ())) (x15 [.tup [], .tup [], .tup [], .tup []] h13)) ()) (later (fun x20 h21 =>
 pPick v14 (.bool true) (nth x20 3) (later (fun v22 =>
 pJoin (later (fun x23 =>
 pGuard v22 false (pFieldAddr 3 v1 (later (fun v24 =>
 pLoad none v24 h21 (later (fun v25 =>
 pLen .slice v25 (later (fun v26 =>
 obind (binA .other .gtr v26 (.int .i64 100)) (later (fun v27 =>
 x23 [v24, v25, v26, v27] h21) ())) ())) ())) ())) (x23 [.tup [], .tup [], .tup [], .tup []] h21)) ()) (later (fun x28 h29 =>
 pPick v22 (.bool true) (nth x28 3) (later (fun v30 =>
 pJoin (later (fun x31 =>
 pGuard v30 false (pFieldAddr 4 v1 (later (fun v32 =>
 pLoad none v32 h29 (later (fun v33 =>
 pLen .slice v33 (later (fun v34 =>
 obind (binA .other .gtr v34 (.int .i64 100)) (later (fun v35 =>
 x31 [v32, v33, v34, v35] h29) ())) ())) ())) ())) (x31 [.tup [], .tup [], .tup [], .tup []] h29)) ()) (later (fun x36 h37 =>
 pChunk [v1, v30, nth x36 3] (later (fun x38 =>
 pPick (nth x38 1) (.bool true) (nth x38 2) (later (fun v39 =>
 pCond v39 (R (.bool true) h37) (pFieldAddr 0 (nth x38 0) (later (fun v40 =>
 pLoad none v40 h37 (later (fun v41 =>
 pLen .slice v41 (later (fun v42 =>
 WP Tryd.prog 84 (Code.loop c_padlockref09_Great_4) (frOf [(1, nth x38 0), (38, v41), (39, v42), (40, .int .i64 0)]) h37 (exitQ (later (fun fr43 h44 =>
 False) ()) (later (fun x45 fr46 h47 =>
 pIdx x45 0 (pIdx 0 0 (pFieldAddr 2 (fr46 1) (later (fun v48 =>
 pLoad none v48 h47 (later (fun v49 =>
 pLen .slice v49 (later (fun v50 =>
 WP Tryd.prog 84 (Code.loop c_padlockref09_Great_10) (frOf [(49, v49), (50, v50), (51, .int .i64 0)]) h47 (exitQ (later (fun fr51 h52 =>
 False) ()) (later (fun x53 fr54 h55 =>
 pIdx x53 2 (pIdx 2 2 (R (.bool false) h55) False) False) ()) (later (fun fr56 h57 =>
 R (fr56 2) h57) ()))) ())) ())) ())) False) False) ()) (later (fun fr58 h59 =>
 R (fr58 2) h59) ()))) ())) ())) ()))) ())) ())) ())) ())) ())) ())) ())) ())) ())) ())) ())) ())) ())) ())) : CallsA Tryd.prog 20 [a0] h R :=
 CallsA_intro g_padlockref09_Great mixed_ Tryd.func20 (show Tryd.f20.body = some c_padlockref09_Great by kernel_rfl) Tryd.ntmps20 (by kernel_rfl) (Nat.le_of_ble_eq_true rfl) Tryd.call20 (Eq.mpr (by kernel_rfl) H)
theorem padlockref09_Great_loop4 (s1 s38 s39 s40 : AV) (h : AHeap) (Q : AExit → Fr → AHeap → Prop) (H :
 obind (binA .other .lss s40 s39) (later (fun v1 =>
 pCond v1 (pIndexAddr (.slice 1) s38 s40 (later (fun v2 =>
 pLoad none v2 h (later (fun v3 =>
 pLen .slice v3 (later (fun v4 =>
 obind (binA .other .gtr v4 (.int .i64 100)) (later (fun v5 =>
 pCond v5 (Q .ret (frOf [(2, .bool true)]) h) (obind (binA .other .add s40 (.int .i64 1)) (later (fun v6 =>
 Q .normal (frOf [(1, s1), (38, s38), (39, s39), (40, v6)]) h) ()))) ())) ())) ())) ())) (Q (.exit 0) (frOf [(1, s1)]) h)) ())) : WP Tryd.prog 84 c_padlockref09_Great_4 (frOf [(1, s1), (38, s38), (39, s39), (40, s40)]) h Q :=
 WP_body g_padlockref09_Great [0] [1, 38, 39, 40] [1] [2] mixed_ (by kernel_rfl) (Eq.mpr (by kernel_rfl) H)
theorem padlockref09_Great_loop10 (s49 s50 s51 : AV) (h : AHeap) (Q : AExit → Fr → AHeap → Prop) (H :
 obind (binA .other .lss s51 s50) (later (fun v1 =>
 pCond v1 (pIndexAddr (.slice 3) s49 s51 (later (fun v2 =>
 pLoad (some 3) v2 h (later (fun v3 =>
 pAlloc 51 [.nils, .nils, .int .i64 0] h (later (fun v4 h5 =>
 pStore 3 v4 v3 h5 (later (fun h6 =>
 pFieldAddr 0 v4 (later (fun v7 =>
 pLoad none v7 h6 (later (fun v8 =>
 pLen .slice v8 (later (fun v9 =>
 obind (binA .other .gtr v9 (.int .i64 300)) (later (fun v10 =>
 pJoin (later (fun x11 =>
 pGuard v10 false (pFieldAddr 1 v4 (later (fun v12 =>
 pLoad none v12 h6 (later (fun v13 =>
 pLen .slice v13 (later (fun v14 =>
 obind (binA .other .gtr v14 (.int .i64 600)) (later (fun v15 =>
 x11 [v12, v13, v14, v15] h6) ())) ())) ())) ())) (x11 [.tup [], .tup [], .tup [], .tup []] h6)) ()) (later (fun x16 h17 =>
 pPick v10 (.bool true) (nth x16 3) (later (fun v18 =>
 pCond v18 (Q .ret (frOf [(2, .bool true)]) h17) (pFieldAddr 1 v4 (later (fun v19 =>
 pLoad none v19 h17 (later (fun v20 =>
 pLen .slice v20 (later (fun v21 =>
 WP Tryd.prog 84 (Code.loop c_padlockref09_Great_15) (frOf [(49, s49), (50, s50), (51, s51), (66, v20), (67, v21), (68, .int .i64 0)]) h17 (exitQ (later (fun fr22 h23 =>
 False) ()) (later (fun x24 fr25 h26 =>
 pIdx x24 4 (pIdx 4 4 (obind (binA .other .add (fr25 51) (.int .i64 1)) (later (fun v27 =>
 Q .normal (frOf [(49, fr25 49), (50, fr25 50), (51, v27)]) h26) ())) (pIdx 4 3 (obind (binA .other .add (fr25 51) (.int .i64 1)) (later (fun v28 =>
 Q .normal (frOf [(49, fr25 49), (50, fr25 50), (51, v28)]) h26) ())) (Q (.exit 4) (frOf []) h26))) False) ()) (later (fun fr29 h30 =>
 Q .ret (frOf [(2, fr29 2)]) h30) ()))) ())) ())) ()))) ())) ())) ())) ())) ())) ())) ())) ())) ())) ())) (Q (.exit 2) (frOf []) h)) ())) : WP Tryd.prog 84 c_padlockref09_Great_10 (frOf [(49, s49), (50, s50), (51, s51)]) h Q :=
 WP_body g_padlockref09_Great [2] [49, 50, 51] [] [2] mixed_ (by kernel_rfl) (Eq.mpr (by kernel_rfl) H)
theorem padlockref09_Great_loop15 (s49 s50 s51 s66 s67 s68 : AV) (h : AHeap) (Q : AExit → Fr → AHeap → Prop) (H :
 obind (binA .other .lss s68 s67) (later (fun v1 =>
 pCond v1 (pIndexAddr (.slice 8) s66 s68 (later (fun v2 =>
 pLoad (some 8) v2 h (later (fun v3 =>
 pAlloc 58 [.int .i64 0, .int .i64 0, .int .i64 0, .int .i64 0, .int .i64 0, .int .i64 0, .nils, .nils] h (later (fun v4 h5 =>
 pStore 8 v4 v3 h5 (later (fun h6 =>
 pFieldAddr 6 v4 (later (fun v7 =>
 pLoad none v7 h6 (later (fun v8 =>
 pLen .slice v8 (later (fun v9 =>
 obind (binA .other .gtr v9 (.int .i64 200)) (later (fun v10 =>
 pJoin (later (fun x11 =>
 pGuard v10 false (pFieldAddr 7 v4 (later (fun v12 =>
 pLoad none v12 h6 (later (fun v13 =>
 pLen .slice v13 (later (fun v14 =>
 obind (binA .other .gtr v14 (.int .i64 200)) (later (fun v15 =>
 x11 [v12, v13, v14, v15] h6) ())) ())) ())) ())) (x11 [.tup [], .tup [], .tup [], .tup []] h6)) ()) (later (fun x16 h17 =>
 pPick v10 (.bool true) (nth x16 3) (later (fun v18 =>
 pCond v18 (Q .ret (frOf [(2, .bool true)]) h17) (obind (binA .other .add s68 (.int .i64 1)) (later (fun v19 =>
 Q .normal (frOf [(49, s49), (50, s50), (51, s51), (66, s66), (67, s67), (68, v19)]) h17) ()))) ())) ())) ())) ())) ())) ())) ())) ())) ())) ())) (Q (.exit 4) (frOf [(49, s49), (50, s50), (51, s51)]) h)) ())) : WP Tryd.prog 84 c_padlockref09_Great_15 (frOf [(49, s49), (50, s50), (51, s51), (66, s66), (67, s67), (68, s68)]) h Q :=
 WP_body g_padlockref09_Great [4, 3, 2] [49, 50, 51, 66, 67, 68] [49, 50, 51] [2] mixed_ (by kernel_rfl) (Eq.mpr (by kernel_rfl) H)
/- padlock/padlockref09.in -/
noncomputable def c_padlockref09_in : Code := (Tryd.f38.body).getD .skip
noncomputable def g_padlockref09_in : Cfg := { ch := fun d => List.contains [] d, lv := fun k => ((List.lookup k ([] : List (Nat × List Nat))).getD []), cut := fun k => List.contains [] k, rc := fun i n => none }
theorem padlockref09_in_wp (a0 a1 : AV) (h : AHeap) (R : AV → AHeap → Prop) (H :
 obind (binA .other .geq a0 (.int .i64 0)) (later (fun v1 =>
 pJoin (later (fun x2 =>
 pGuard v1 true (obind (binA .other .lss a0 a1) (later (fun v3 =>
 x2 [a0, a1, v3] h) ())) (x2 [.tup [], .tup [], .tup []] h)) ()) (later (fun x4 h5 =>
 pPick v1 (nth x4 2) (.bool false) (later (fun v6 =>
 R v6 h5) ())) ())) ())) : CallsA Tryd.prog 38 [a0, a1] h R :=
 CallsA_intro g_padlockref09_in mixed_ Tryd.func38 (show Tryd.f38.body = some c_padlockref09_in by kernel_rfl) Tryd.ntmps38 (by kernel_rfl) (Nat.le_of_ble_eq_true rfl) Tryd.call38 (Eq.mpr (by kernel_rfl) H)
/- padlock/padlockref09.local -/
noncomputable def c_padlockref09_local : Code := (Tryd.f37.body).getD .skip
noncomputable def g_padlockref09_local : Cfg := { ch := fun d => List.contains [2, 3, 12, 13] d, lv := fun k => ((List.lookup k ([] : List (Nat × List Nat))).getD []), cut := fun k => List.contains [] k, rc := fun i n => none }
theorem padlockref09_local_wp (a0 a1 : AV) (h : AHeap) (R : AV → AHeap → Prop) (H :
 pBox true 44 a0 h (later (fun v1 h2 =>
 pBox true 69 a1 h2 (later (fun v3 h4 =>
 pFieldAddr 0 v3 (later (fun v5 =>
 pLoad none v5 h4 (later (fun v6 =>
 obind (binA .other .eql v6 (.int .i64 4)) (later (fun v7 =>
 pCond v7 (pFieldAddr 1 v3 (later (fun v8 =>
 pLoad none v8 h4 (later (fun v9 =>
 pFieldAddr 0 v1 (later (fun v10 =>
 pLoad none v10 h4 (later (fun v11 =>
 pLen .slice v11 (later (fun v12 =>
 CallsA Tryd.prog 38 [v9, v12] h4 (later (fun v13 h14 =>
 R v13 h14) ())) ())) ())) ())) ())) ())) (pFieldAddr 0 v3 (later (fun v15 =>
 pLoad none v15 h4 (later (fun v16 =>
 obind (binA .other .eql v16 (.int .i64 1)) (later (fun v17 =>
 pJoin (later (fun x18 =>
 pGuard v17 false (pFieldAddr 0 v3 (later (fun v19 =>
 pLoad none v19 h4 (later (fun v20 =>
 obind (binA .other .eql v20 (.int .i64 2)) (later (fun v21 =>
 x18 [v19, v20, v21] h4) ())) ())) ())) (x18 [.tup [], .tup [], .tup []] h4)) ()) (later (fun x22 h23 =>
 pPick v17 (.bool true) (nth x22 2) (later (fun v24 =>
 pJoin (later (fun x25 =>
 pGuard v24 false (pFieldAddr 0 v3 (later (fun v26 =>
 pLoad none v26 h23 (later (fun v27 =>
 obind (binA .other .eql v27 (.int .i64 3)) (later (fun v28 =>
 x25 [v26, v27, v28] h23) ())) ())) ())) (x25 [.tup [], .tup [], .tup []] h23)) ()) (later (fun x29 h30 =>
 pPick v24 (.bool true) (nth x29 2) (later (fun v31 =>
 pJoin (later (fun x32 =>
 pGuard v31 true (pFieldAddr 1 v3 (later (fun v33 =>
 pLoad none v33 h30 (later (fun v34 =>
 obind (binA .other .eql v34 (.int .i64 0)) (later (fun v35 =>
 x32 [v33, v34, v35] h30) ())) ())) ())) (x32 [.tup [], .tup [], .tup []] h30)) ()) (later (fun x36 h37 =>
 pPick v31 (nth x36 2) (.bool false) (later (fun v38 =>
 R v38 h37) ())) ())) ())) ())) ())) ())) ())) ())) ()))) ())) ())) ())) ())) ())) : CallsA Tryd.prog 37 [a0, a1] h R :=
 CallsA_intro g_padlockref09_local mixed_ Tryd.func37 (show Tryd.f37.body = some c_padlockref09_local by kernel_rfl) Tryd.ntmps37 (by kernel_rfl) (Nat.le_of_ble_eq_true rfl) Tryd.call37 (Eq.mpr (by kernel_rfl) H)
/- padlock/padlockref09.Has -/
noncomputable def c_padlockref09_Has : Code := (Tryd.f54.body).getD .skip
noncomputable def g_padlockref09_Has : Cfg := { ch := fun d => List.contains [4, 10] d, lv := fun k => ((List.lookup k ([] : List (Nat × List Nat))).getD []), cut := fun k => List.contains [] k, rc := fun i n => none }
theorem padlockref09_Has_wp (a0 : AV) (h : AHeap) (R : AV → AHeap → Prop) (H :
 (18 = 0 → [(0, Operand.const (Value.string { data := { toList := [] } })), (1, Operand.const (Value.string { data := { toList := [100, 105] } })), (2, Operand.const (Value.string { data := { toList := [100, 110] } })), (3, Operand.const (Value.string { data := { toList := [100, 115, 114, 110] } })), (4, Operand.const (Value.string { data := { toList := [100, 115, 120] } })), (5, Operand.const (Value.string { data := { toList := [110, 105] } })), (6, Operand.const (Value.string { data := { toList := [115, 114, 110, 105] } })), (7, Operand.const (Value.string { data := { toList := [115, 120, 105] } })), (8, Operand.const (Value.string { data := { toList := [100, 114, 110] } })), (9, Operand.const (Value.string { data := { toList := [100, 105, 110] } })), (10, Operand.const (Value.string { data := { toList := [100, 115] } })), (11, Operand.const (Value.string { data := { toList := [105] } })), (12, Operand.const (Value.string { data := { toList := [105] } })), (13, Operand.const (Value.string { data := { toList := [116] } })), (14, Operand.const (Value.string { data := { toList := [116, 105] } })), (15, Operand.const (Value.string { data := { toList := [110] } })), (16, Operand.const (Value.string { data := { toList := [110] } })), (17, Operand.const (Value.string { data := { toList := [] } }))] = []) ∧ pBuildSl true { e := 9, sz := 1, by_ := 16 } [.str []] 18 [(0, .str []), (1, .str [100, 105]), (2, .str [100, 110]), (3, .str [100, 115, 114, 110]), (4, .str [100, 115, 120]), (5, .str [110, 105]), (6, .str [115, 114, 110, 105]), (7, .str [115, 120, 105]), (8, .str [100, 114, 110]), (9, .str [100, 105, 110]), (10, .str [100, 115]), (11, .str [105]), (12, .str [105]), (13, .str [116]), (14, .str [116, 105]), (15, .str [110]), (16, .str [110]), (17, .str [])] h (later (fun v1 h2 =>
 obind (binA .other .lss a0 (.int .i64 1)) (later (fun v3 =>
 pJoin (later (fun x4 =>
 pGuard v3 false (pLen .slice v1 (later (fun v5 =>
 obind (binA .other .geq a0 v5) (later (fun v6 =>
 x4 [a0, v1, v5, v6] h2) ())) ())) (x4 [.tup [], .tup [], .tup [], .tup []] h2)) ()) (later (fun x7 h8 =>
 pPick v3 (.bool true) (nth x7 3) (later (fun v9 =>
 pCond v9 (R (.str [63]) h8) (pIndexAddr (.slice 1) v1 a0 (later (fun v10 =>
 pLoad none v10 h8 (later (fun v11 =>
 R v11 h8) ())) ()))) ())) ())) ())) ())) : CallsA Tryd.prog 54 [a0] h R :=
 CallsA_intro g_padlockref09_Has mixed_ Tryd.func54 (show Tryd.f54.body = some c_padlockref09_Has by kernel_rfl) Tryd.ntmps54 (by kernel_rfl) (Nat.le_of_ble_eq_true rfl) Tryd.call54 (Eq.mpr (by kernel_rfl) H)
/- padlock/padlockref09.has -/
noncomputable def c_padlockref09_has : Code := (Tryd.f55.body).getD .skip
noncomputable def g_padlockref09_has : Cfg := { ch := fun d => List.contains [8] d, lv := fun k => ((List.lookup k ([(2, [0, 1, 5])] : List (Nat × List Nat))).getD []), cut := fun k => List.contains [] k, rc := fun i n => none }
noncomputable def c_padlockref09_has_2 : Code := (loopOf 2 c_padlockref09_has).getD .skip
theorem padlockref09_has_wp (a0 a1 : AV) (h : AHeap) (R : AV → AHeap → Prop) (H :
 WP Tryd.prog 17 (Code.loop c_padlockref09_has_2) (frOf [(0, a0), (1, a1), (5, .int .i64 0)]) h (exitQ (later (fun fr1 h2 =>
 False) ()) (later (fun x3 fr4 h5 =>
 pIdx x3 0 (pIdx 0 0 (R (.bool false) h5) False) False) ()) (later (fun fr6 h7 =>
 R (fr6 4) h7) ()))) : CallsA Tryd.prog 55 [a0, a1] h R :=
 CallsA_intro g_padlockref09_has mixed_ Tryd.func55 (show Tryd.f55.body = some c_padlockref09_has by kernel_rfl) Tryd.ntmps55 (by kernel_rfl) (Nat.le_of_ble_eq_true rfl) Tryd.call55 (Eq.mpr (by kernel_rfl) H)
theorem padlockref09_has_loop2 (s0 s1 s5 : AV) (h : AHeap) (Q : AExit → Fr → AHeap → Prop) (H :
 pLen .str s0 (later (fun v1 =>
 obind (binA .other .lss s5 v1) (later (fun v2 =>
 pCond v2 (pIndexStr s0 s5 (later (fun v3 =>
 obind (binA .other .eql v3 s1) (later (fun v4 =>
 pCond v4 (Q .ret (frOf [(4, .bool true)]) h) (obind (binA .other .add s5 (.int .i64 1)) (later (fun v5 =>
 Q .normal (frOf [(0, s0), (1, s1), (5, v5)]) h) ()))) ())) ())) (Q (.exit 0) (frOf []) h)) ())) ())) : WP Tryd.prog 17 c_padlockref09_has_2 (frOf [(0, s0), (1, s1), (5, s5)]) h Q :=
 WP_body g_padlockref09_has [0] [0, 1, 5] [] [4] mixed_ (by kernel_rfl) (Eq.mpr (by kernel_rfl) H)
/- padlock/padlockref08.Takes -/
noncomputable def c_padlockref08_Takes : Code := (Tryd.f66.body).getD .skip
noncomputable def g_padlockref08_Takes : Cfg := { ch := fun d => List.contains [2] d, lv := fun k => ((List.lookup k ([] : List (Nat × List Nat))).getD []), cut := fun k => List.contains [] k, rc := fun i n => ((List.lookup i ([(2, [(11, [2, 32, 36])]), (9, [(15, [2, 81])])] : List (Nat × List (Nat × List Nat)))).getD []).lookup n }
theorem padlockref08_Takes_wp (a0 a1 : AV) (h : AHeap) (R : AV → AHeap → Prop) (H :
 pBox true 60 a0 h (later (fun v1 h2 =>
 pFieldAddr 0 v1 (later (fun v3 =>
 pLoad none v3 h2 (later (fun v4 =>
 obind (binA .other .geq v4 (.int .i64 1)) (later (fun v5 =>
 pJoin (later (fun x6 =>
 pGuard v5 true (pFieldAddr 0 v1 (later (fun v7 =>
 pLoad none v7 h2 (later (fun v8 =>
 obind (binA .other .leq v8 (.int .i64 3)) (later (fun v9 =>
 x6 [v7, v8, v9] h2) ())) ())) ())) (x6 [.tup [], .tup [], .tup []] h2)) ()) (later (fun x10 h11 =>
 pPick v5 (nth x10 2) (.bool false) (later (fun v12 =>
 pCond v12 (pFieldAddr 1 v1 (later (fun v13 =>
 pLoad none v13 h11 (later (fun v14 =>
 obind (binA .other .neq v14 (.int .i64 0)) (later (fun v15 =>
 pJoin (later (fun x16 =>
 pGuard v15 false (pFieldAddr 0 v1 (later (fun v17 =>
 pLoad none v17 h11 (later (fun v18 =>
 obind (binA .other .eql v18 (.int .i64 2)) (later (fun v19 =>
 x16 [v17, v18, v19, v19] h11) ())) ())) ())) (x16 [.tup [], .tup [], .tup [], .tup []] h11)) ()) (later (fun x20 h21 =>
 pJoin (later (fun x22 =>
 pGuard (nth x20 3) true (obind (binA .other .leq a1 (.int .i64 0)) (later (fun v23 =>
 x22 [a1, v23, v23] h21) ())) (x22 [.tup [], .tup [], .tup []] h21)) ()) (later (fun x24 h25 =>
 pJoin (later (fun x26 =>
 pGuard (nth x24 2) false (pFieldAddr 2 v1 (later (fun v27 =>
 pLoad none v27 h25 (later (fun v28 =>
 pConv (CvK.int .u64) a1 h25 (later (fun v29 =>
 obind (binA .other .geq v28 v29) (later (fun v30 =>
 x26 [v27, v28, a1, v29, v30] h25) ())) ())) ())) ())) (x26 [.tup [], .tup [], .tup [], .tup [], .tup []] h25)) ()) (later (fun x31 h32 =>
 pJoin (later (fun x33 =>
 pGuard (nth x20 3) true (pPick (nth x24 2) (.bool true) (nth x31 4) (later (fun v34 =>
 x33 [v34] h32) ())) (x33 [.tup []] h32)) ()) (later (fun x35 h36 =>
 pJoin (later (fun x37 =>
 pGuard v15 false (pPick (nth x20 3) (nth x35 0) (.bool false) (later (fun v38 =>
 x37 [v38] h36) ())) (x37 [.tup []] h36)) ()) (later (fun x39 h40 =>
 pPick v15 (.bool true) (nth x39 0) (later (fun v41 =>
 pJoin (later (fun x42 =>
 pGuard v41 false (pFieldAddr 0 v1 (later (fun v43 =>
 pLoad none v43 h40 (later (fun v44 =>
 obind (binA .other .eql v44 (.int .i64 3)) (later (fun v45 =>
 x42 [v43, v44, v45, v45] h40) ())) ())) ())) (x42 [.tup [], .tup [], .tup [], .tup []] h40)) ()) (later (fun x46 h47 =>
 pChunk [v1, v41, nth x46 3] (later (fun x48 =>
 pJoin (later (fun x49 =>
 pGuard (nth x48 2) true (pFieldAddr 2 (nth x48 0) (later (fun v50 =>
 pLoad none v50 h47 (later (fun v51 =>
 obind (binA .other .geq v51 (.int .u64 16)) (later (fun v52 =>
 x49 [v50, v51, v52] h47) ())) ())) ())) (x49 [.tup [], .tup [], .tup []] h47)) ()) (later (fun x53 h54 =>
 pJoin (later (fun x55 =>
 pGuard (nth x48 1) false (pPick (nth x48 2) (nth x53 2) (.bool false) (later (fun v56 =>
 x55 [v56] h54) ())) (x55 [.tup []] h54)) ()) (later (fun x57 h58 =>
 pPick (nth x48 1) (.bool true) (nth x57 0) (later (fun v59 =>
 pCond v59 (R (.int .i64 (-1)) h58) (R (.int .i64 0) h58)) ())) ())) ())) ())) ())) ())) ())) ())) ())) ())) ())) ())) ())) ())) (pFieldAddr 0 v1 (later (fun v60 =>
 pLoad none v60 h11 (later (fun v61 =>
 obind (binA .other .geq v61 (.int .i64 4)) (later (fun v62 =>
 pJoin (later (fun x63 =>
 pGuard v62 true (pFieldAddr 0 v1 (later (fun v64 =>
 pLoad none v64 h11 (later (fun v65 =>
 obind (binA .other .leq v65 (.int .i64 7)) (later (fun v66 =>
 x63 [v64, v65, v66] h11) ())) ())) ())) (x63 [.tup [], .tup [], .tup []] h11)) ()) (later (fun x67 h68 =>
 pPick v62 (nth x67 2) (.bool false) (later (fun v69 =>
 pCond v69 (pFieldAddr 1 v1 (later (fun v70 =>
 pLoad none v70 h68 (later (fun v71 =>
 obind (binA .other .neq v71 (.int .i64 0)) (later (fun v72 =>
 pJoin (later (fun x73 =>
 pGuard v72 false (pFieldAddr 2 v1 (later (fun v74 =>
 pLoad none v74 h68 (later (fun v75 =>
 obind (binA .other .neq v75 (.int .u64 0)) (later (fun v76 =>
 x73 [v74, v75, v76] h68) ())) ())) ())) (x73 [.tup [], .tup [], .tup []] h68)) ()) (later (fun x77 h78 =>
 pPick v72 (.bool true) (nth x77 2) (later (fun v79 =>
 pCond v79 (R (.int .i64 (-1)) h78) (R (.int .i64 1) h78)) ())) ())) ())) ())) ())) (pFieldAddr 0 v1 (later (fun v80 =>
 pLoad none v80 h68 (later (fun v81 =>
 obind (binA .other .lss v81 (.int .i64 8)) (later (fun v82 =>
 pJoin (later (fun x83 =>
 pGuard v82 false (pFieldAddr 0 v1 (later (fun v84 =>
 pLoad none v84 h68 (later (fun v85 =>
 obind (binA .other .gtr v85 (.int .i64 10)) (later (fun v86 =>
 x83 [v84, v85, v86] h68) ())) ())) ())) (x83 [.tup [], .tup [], .tup []] h68)) ()) (later (fun x87 h88 =>
 pPick v82 (.bool true) (nth x87 2) (later (fun v89 =>
 pJoin (later (fun x90 =>
 pGuard v89 false (pFieldAddr 2 v1 (later (fun v91 =>
 pLoad none v91 h88 (later (fun v92 =>
 obind (binA .other .neq v92 (.int .u64 0)) (later (fun v93 =>
 x90 [v91, v92, v93] h88) ())) ())) ())) (x90 [.tup [], .tup [], .tup []] h88)) ()) (later (fun x94 h95 =>
 pPick v89 (.bool true) (nth x94 2) (later (fun v96 =>
 pJoin (later (fun x97 =>
 pGuard v96 false (pFieldAddr 1 v1 (later (fun v98 =>
 pLoad none v98 h95 (later (fun v99 =>
 obind (binA .other .lss v99 (.int .i64 0)) (later (fun v100 =>
 x97 [v98, v99, v100] h95) ())) ())) ())) (x97 [.tup [], .tup [], .tup []] h95)) ()) (later (fun x101 h102 =>
 pPick v96 (.bool true) (nth x101 2) (later (fun v103 =>
 pJoin (later (fun x104 =>
 pGuard v103 false (pFieldAddr 1 v1 (later (fun v105 =>
 pLoad none v105 h102 (later (fun v106 =>
 obind (binA .other .gtr v106 (.int .i64 8)) (later (fun v107 =>
 x104 [v105, v106, v107] h102) ())) ())) ())) (x104 [.tup [], .tup [], .tup []] h102)) ()) (later (fun x108 h109 =>
 pPick v103 (.bool true) (nth x108 2) (later (fun v110 =>
 pChunk [v1, v110] (later (fun x111 =>
 pJoin (later (fun x112 =>
 pGuard (nth x111 1) false (pFieldAddr 0 (nth x111 0) (later (fun v113 =>
 pLoad none v113 h109 (later (fun v114 =>
 obind (binA .other .eql v114 (.int .i64 9)) (later (fun v115 =>
 x112 [v113, v114, v115, v115] h109) ())) ())) ())) (x112 [.tup [], .tup [], .tup [], .tup []] h109)) ()) (later (fun x116 h117 =>
 pJoin (later (fun x118 =>
 pGuard (nth x116 3) true (pFieldAddr 1 (nth x111 0) (later (fun v119 =>
 pLoad none v119 h117 (later (fun v120 =>
 obind (binA .other .eql v120 (.int .i64 4)) (later (fun v121 =>
 x118 [v119, v120, v121] h117) ())) ())) ())) (x118 [.tup [], .tup [], .tup []] h117)) ()) (later (fun x122 h123 =>
 pJoin (later (fun x124 =>
 pGuard (nth x111 1) false (pPick (nth x116 3) (nth x122 2) (.bool false) (later (fun v125 =>
 x124 [v125] h123) ())) (x124 [.tup []] h123)) ()) (later (fun x126 h127 =>
 pPick (nth x111 1) (.bool true) (nth x126 0) (later (fun v128 =>
 pJoin (later (fun x129 =>
 pGuard v128 false (pFieldAddr 0 (nth x111 0) (later (fun v130 =>
 pLoad none v130 h127 (later (fun v131 =>
 obind (binA .other .eql v131 (.int .i64 10)) (later (fun v132 =>
 x129 [v130, v131, v132, v132] h127) ())) ())) ())) (x129 [.tup [], .tup [], .tup [], .tup []] h127)) ()) (later (fun x133 h134 =>
 pJoin (later (fun x135 =>
 pGuard (nth x133 3) true (pFieldAddr 1 (nth x111 0) (later (fun v136 =>
 pLoad none v136 h134 (later (fun v137 =>
 obind (binA .other .neq v137 (.int .i64 5)) (later (fun v138 =>
 x135 [v136, v137, v138] h134) ())) ())) ())) (x135 [.tup [], .tup [], .tup []] h134)) ()) (later (fun x139 h140 =>
 pJoin (later (fun x141 =>
 pGuard v128 false (pPick (nth x133 3) (nth x139 2) (.bool false) (later (fun v142 =>
 x141 [v142, v142] h140) ())) (x141 [.tup [], .tup []] h140)) ()) (later (fun x143 h144 =>
 pJoin (later (fun x145 =>
 pGuard (nth x143 1) true (pFieldAddr 1 (nth x111 0) (later (fun v146 =>
 pLoad none v146 h144 (later (fun v147 =>
 obind (binA .other .neq v147 (.int .i64 6)) (later (fun v148 =>
 x145 [v146, v147, v148] h144) ())) ())) ())) (x145 [.tup [], .tup [], .tup []] h144)) ()) (later (fun x149 h150 =>
 pJoin (later (fun x151 =>
 pGuard v128 false (pPick (nth x143 1) (nth x149 2) (.bool false) (later (fun v152 =>
 x151 [v152] h150) ())) (x151 [.tup []] h150)) ()) (later (fun x153 h154 =>
 pPick v128 (.bool true) (nth x153 0) (later (fun v155 =>
 pCond v155 (R (.int .i64 (-1)) h154) (R (.int .i64 2) h154)) ())) ())) ())) ())) ())) ())) ())) ())) ())) ())) ())) ())) ())) ())) ())) ())) ())) ())) ())) ())) ())) ()))) ())) ())) ())) ())) ()))) ())) ())) ())) ())) ())) ())) : CallsA Tryd.prog 66 [a0, a1] h R :=
 CallsA_intro g_padlockref08_Takes mixed_ Tryd.func66 (show Tryd.f66.body = some c_padlockref08_Takes by kernel_rfl) Tryd.ntmps66 (by kernel_rfl) (Nat.le_of_ble_eq_true rfl) Tryd.call66 (Eq.mpr (by kernel_rfl) H)
/- padlock/padlockref08.Good -/
noncomputable def c_padlockref08_Good : Code := (Tryd.f56.body).getD .skip
noncomputable def g_padlockref08_Good : Cfg := { ch := fun d => List.contains [9, 20, 35] d, lv := fun k => ((List.lookup k ([(3, [0, 1, 5, 6])] : List (Nat × List Nat))).getD []), cut := fun k => List.contains [] k, rc := fun i n => none }
noncomputable def c_padlockref08_Good_3 : Code := (loopOf 3 c_padlockref08_Good).getD .skip
theorem padlockref08_Good_wp (a0 a1 : AV) (h : AHeap) (R : AV → AHeap → Prop) (H :
 pLen .slice a0 (later (fun v1 =>
 obind (binA .other .sub v1 (.int .i64 1)) (later (fun v2 =>
 WP Tryd.prog 38 (Code.loop c_padlockref08_Good_3) (frOf [(0, a0), (1, a1), (5, .int .i64 1), (6, v2)]) h (exitQ (later (fun fr3 h4 =>
 False) ()) (later (fun x5 fr6 h7 =>
 pIdx x5 0 (pIdx 0 0 (obind (binA .other .eql (fr6 5) (.int .i64 0)) (later (fun v8 =>
 pJoin (later (fun x9 =>
 pGuard v8 true (pLen .slice (fr6 0) (later (fun v10 =>
 obind (binA .other .leq v10 (.int .i64 64)) (later (fun v11 =>
 x9 [fr6 0, v10, v11] h7) ())) ())) (x9 [.tup [], .tup [], .tup []] h7)) ()) (later (fun x12 h13 =>
 pPick v8 (nth x12 2) (.bool false) (later (fun v14 =>
 R v14 h13) ())) ())) ())) False) False) ()) (later (fun fr15 h16 =>
 R (fr15 4) h16) ()))) ())) ())) : CallsA Tryd.prog 56 [a0, a1] h R :=
 CallsA_intro g_padlockref08_Good mixed_ Tryd.func56 (show Tryd.f56.body = some c_padlockref08_Good by kernel_rfl) Tryd.ntmps56 (by kernel_rfl) (Nat.le_of_ble_eq_true rfl) Tryd.call56 (Eq.mpr (by kernel_rfl) H)
theorem padlockref08_Good_loop3 (s0 s1 s5 s6 : AV) (h : AHeap) (Q : AExit → Fr → AHeap → Prop) (H :
 obind (binA .other .geq s6 (.int .i64 0)) (later (fun v1 =>
 pCond v1 (pIndexAddr (.slice 3) s0 s6 (later (fun v2 =>
 pLoad (some 3) v2 h (later (fun v3 =>
 CallsA Tryd.prog 66 [v3, s1] h (later (fun v4 h5 =>
 obind (binA .other .lss v4 (.int .i64 0)) (later (fun v6 =>
 pJoin (later (fun x7 =>
 pGuard v6 false (obind (binA .other .eql s5 (.int .i64 0)) (later (fun v8 =>
 x7 [s5, v8] h5) ())) (x7 [.tup [], .tup []] h5)) ()) (later (fun x9 h10 =>
 pPick v6 (.bool true) (nth x9 1) (later (fun v11 =>
 pCond v11 (Q .ret (frOf [(4, .bool false)]) h10) (obind (binA .other .sub s5 (.int .i64 1)) (later (fun v12 =>
 obind (binA .other .add v12 v4) (later (fun v13 =>
 obind (binA .other .sub s6 (.int .i64 1)) (later (fun v14 =>
 Q .normal (frOf [(0, s0), (1, s1), (5, v13), (6, v14)]) h10) ())) ())) ()))) ())) ())) ())) ())) ())) ())) (Q (.exit 0) (frOf [(0, s0), (5, s5)]) h)) ())) : WP Tryd.prog 38 c_padlockref08_Good_3 (frOf [(0, s0), (1, s1), (5, s5), (6, s6)]) h Q :=
 WP_body g_padlockref08_Good [0] [0, 1, 5, 6] [0, 5] [4] mixed_ (by kernel_rfl) (Eq.mpr (by kernel_rfl) H)
/- padlock/padlockref09.Inside -/
noncomputable def c_padlockref09_Inside : Code := (Tryd.f57.body).getD .skip
noncomputable def g_padlockref09_Inside : Cfg := { ch := fun d => List.contains [3, 11] d, lv := fun k => ((List.lookup k ([(2, [1, 2, 10, 11, 12])] : List (Nat × List Nat))).getD []), cut := fun k => List.contains [] k, rc := fun i n => none }
noncomputable def c_padlockref09_Inside_2 : Code := (loopOf 2 c_padlockref09_Inside).getD .skip
theorem padlockref09_Inside_wp (a0 a1 a2 : AV) (h : AHeap) (R : AV → AHeap → Prop) (H :
 pBox true 44 a0 h (later (fun v1 h2 =>
 pFieldAddr 4 v1 (later (fun v3 =>
 pLoad none v3 h2 (later (fun v4 =>
 pLen .slice v4 (later (fun v5 =>
 WP Tryd.prog 35 (Code.loop c_padlockref09_Inside_2) (frOf [(1, a1), (2, a2), (10, v4), (11, v5), (12, .int .i64 0)]) h2 (exitQ (later (fun fr6 h7 =>
 False) ()) (later (fun x8 fr9 h10 =>
 pIdx x8 0 (pIdx 0 0 (R (.int .i64 (-1)) h10) False) False) ()) (later (fun fr11 h12 =>
 R (fr11 6) h12) ()))) ())) ())) ())) ())) : CallsA Tryd.prog 57 [a0, a1, a2] h R :=
 CallsA_intro g_padlockref09_Inside mixed_ Tryd.func57 (show Tryd.f57.body = some c_padlockref09_Inside by kernel_rfl) Tryd.ntmps57 (by kernel_rfl) (Nat.le_of_ble_eq_true rfl) Tryd.call57 (Eq.mpr (by kernel_rfl) H)
theorem padlockref09_Inside_loop2 (s1 s2 s10 s11 s12 : AV) (h : AHeap) (Q : AExit → Fr → AHeap → Prop) (H :
 obind (binA .other .lss s12 s11) (later (fun v1 =>
 pCond v1 (pIndexAddr (.slice 3) s10 s12 (later (fun v2 =>
 pLoad (some 3) v2 h (later (fun v3 =>
 pAlloc 71 [.int .i64 0, .int .i64 0, .int .i64 0] h (later (fun v4 h5 =>
 pStore 3 v4 v3 h5 (later (fun h6 =>
 pFieldAddr 0 v4 (later (fun v7 =>
 pLoad none v7 h6 (later (fun v8 =>
 obind (binA .other .eql v8 s1) (later (fun v9 =>
 pJoin (later (fun x10 =>
 pGuard v9 true (pFieldAddr 1 v4 (later (fun v11 =>
 pLoad none v11 h6 (later (fun v12 =>
 obind (binA .other .lss v12 s2) (later (fun v13 =>
 x10 [v11, v12, s2, v13] h6) ())) ())) ())) (x10 [.tup [], .tup [], .tup [], .tup []] h6)) ()) (later (fun x14 h15 =>
 pPick v9 (nth x14 3) (.bool false) (later (fun v16 =>
 pJoin (later (fun x17 =>
 pGuard v16 true (pFieldAddr 2 v4 (later (fun v18 =>
 pLoad none v18 h15 (later (fun v19 =>
 obind (binA .other .leq s2 v19) (later (fun v20 =>
 x17 [s2, v18, v19, v20] h15) ())) ())) ())) (x17 [.tup [], .tup [], .tup [], .tup []] h15)) ()) (later (fun x21 h22 =>
 pPick v16 (nth x21 3) (.bool false) (later (fun v23 =>
 pCond v23 (Q .ret (frOf [(6, s12)]) h22) (obind (binA .other .add s12 (.int .i64 1)) (later (fun v24 =>
 Q .normal (frOf [(1, s1), (2, s2), (10, s10), (11, s11), (12, v24)]) h22) ()))) ())) ())) ())) ())) ())) ())) ())) ())) ())) ())) ())) (Q (.exit 0) (frOf []) h)) ())) : WP Tryd.prog 35 c_padlockref09_Inside_2 (frOf [(1, s1), (2, s2), (10, s10), (11, s11), (12, s12)]) h Q :=
 WP_body g_padlockref09_Inside [0] [1, 2, 10, 11, 12] [] [6] mixed_ (by kernel_rfl) (Eq.mpr (by kernel_rfl) H)
end Go.Proofs.YtopfjochppdnfaaDoor
end

