/- The program's plain types in Lean: their cells, their bounds, how they are read out of a typed value. -/
import Derived.Test.YtppldbldpphlmaaProg
import Derived.Test.YtppldbldpphlmaaAbsRun
set_option linter.unusedVariables false
set_option linter.unusedSimpArgs false
set_option maxRecDepth 100000
namespace Go.Proofs.Ytppldbldpphlmaa
open Go.Abs

/-- padlock/api.Local -/
structure Api_Local where
  Kind : Int
  Rec : Int
  Once : Bool
  deriving DecidableEq, Inhabited
def Api_Local.cells (x : Api_Local) : List AV := [.int .i64 x.Kind, .int .i64 x.Rec, .bool x.Once]
def Api_Local.ok (x : Api_Local) : Prop := okI x.Kind ∧ okI x.Rec ∧ okT x.Once
theorem Api_Local.of {cs : List AV} (h : TyA Try.prog 79 cs) : ∃ x : Api_Local, cs = x.cells ∧ x.ok := by
  obtain ⟨parts, rfl, hp⟩ := h.inv_struct Try.underlying79
  simp only [List.map_cons, List.map_nil] at hp
  obtain ⟨p0, r0, rfl, t0, hp⟩ := hp.cons_inv
  obtain ⟨p1, r1, rfl, t1, hp⟩ := hp.cons_inv
  obtain ⟨p2, r2, rfl, t2, hp⟩ := hp.cons_inv
  obtain rfl := hp.nil_inv
  obtain ⟨x0, rfl, k0⟩ := ((fun _ h => h.i64_of Try.underlying3 : ∀ cs, TyA Try.prog 3 cs → ∃ x : Int, cs = (encI) x ∧ (okI) x)) _ t0
  obtain ⟨x1, rfl, k1⟩ := ((fun _ h => h.i64_of Try.underlying3 : ∀ cs, TyA Try.prog 3 cs → ∃ x : Int, cs = (encI) x ∧ (okI) x)) _ t1
  obtain ⟨x2, rfl, k2⟩ := ((fun _ h => h.bool_of Try.underlying4 : ∀ cs, TyA Try.prog 4 cs → ∃ x : Bool, cs = (encT) x ∧ (okT) x)) _ t2
  exact ⟨⟨x0, x1, x2⟩, rfl, ⟨k0, k1, k2⟩⟩
theorem Api_Local.c0 (x : Api_Local) (K : AV → Prop) : pCells none x.cells 0 K = K (.int .i64 x.Kind) := by simp [pCells, Api_Local.cells]
theorem Api_Local.c1 (x : Api_Local) (K : AV → Prop) : pCells none x.cells 1 K = K (.int .i64 x.Rec) := by simp [pCells, Api_Local.cells]
theorem Api_Local.c2 (x : Api_Local) (K : AV → Prop) : pCells none x.cells 2 K = K (.bool x.Once) := by simp [pCells, Api_Local.cells]
theorem Api_Local.call (x : Api_Local) (K : AV → Prop) : pCells (some 3) x.cells 0 K = K (.agg x.cells) := by simp [pCells, Api_Local.cells]
theorem Api_Local.put (x : Api_Local) (h : AHeap) (ty : TypeId) (K : AHeap → Prop) : pStore 3 (.ptr h.next 0) (.agg x.cells) (h.push (.row ty [.int .i64 0, .int .i64 0, .bool false])) K = K (h.push (.row ty x.cells)) := pStore_push (by rfl) (by rfl) K
theorem Api_Local.r : (type_of% @Api_Local.c0) ∧ (type_of% @Api_Local.c1) ∧ (type_of% @Api_Local.c2) ∧ (type_of% @Api_Local.call) ∧ (type_of% @Api_Local.put) := ⟨@Api_Local.c0, @Api_Local.c1, @Api_Local.c2, @Api_Local.call, @Api_Local.put⟩

/-- padlock/api.Item -/
structure Api_Item where
  Op : Int
  Bin : Int
  N : Nat
  deriving DecidableEq, Inhabited
def Api_Item.cells (x : Api_Item) : List AV := [.int .i64 x.Op, .int .i64 x.Bin, .int .u64 (x.N : Nat)]
def Api_Item.ok (x : Api_Item) : Prop := okI x.Op ∧ okI x.Bin ∧ okN x.N
theorem Api_Item.of {cs : List AV} (h : TyA Try.prog 136 cs) : ∃ x : Api_Item, cs = x.cells ∧ x.ok := by
  obtain ⟨parts, rfl, hp⟩ := h.inv_struct Try.underlying136
  simp only [List.map_cons, List.map_nil] at hp
  obtain ⟨p0, r0, rfl, t0, hp⟩ := hp.cons_inv
  obtain ⟨p1, r1, rfl, t1, hp⟩ := hp.cons_inv
  obtain ⟨p2, r2, rfl, t2, hp⟩ := hp.cons_inv
  obtain rfl := hp.nil_inv
  obtain ⟨x0, rfl, k0⟩ := ((fun _ h => h.i64_of Try.underlying3 : ∀ cs, TyA Try.prog 3 cs → ∃ x : Int, cs = (encI) x ∧ (okI) x)) _ t0
  obtain ⟨x1, rfl, k1⟩ := ((fun _ h => h.i64_of Try.underlying3 : ∀ cs, TyA Try.prog 3 cs → ∃ x : Int, cs = (encI) x ∧ (okI) x)) _ t1
  obtain ⟨x2, rfl, k2⟩ := ((fun _ h => h.u64_of Try.underlying28 : ∀ cs, TyA Try.prog 28 cs → ∃ x : Nat, cs = (encN) x ∧ (okN) x)) _ t2
  exact ⟨⟨x0, x1, x2⟩, rfl, ⟨k0, k1, k2⟩⟩
theorem Api_Item.c0 (x : Api_Item) (K : AV → Prop) : pCells none x.cells 0 K = K (.int .i64 x.Op) := by simp [pCells, Api_Item.cells]
theorem Api_Item.c1 (x : Api_Item) (K : AV → Prop) : pCells none x.cells 1 K = K (.int .i64 x.Bin) := by simp [pCells, Api_Item.cells]
theorem Api_Item.c2 (x : Api_Item) (K : AV → Prop) : pCells none x.cells 2 K = K (.int .u64 (x.N : Nat)) := by simp [pCells, Api_Item.cells]
theorem Api_Item.call (x : Api_Item) (K : AV → Prop) : pCells (some 3) x.cells 0 K = K (.agg x.cells) := by simp [pCells, Api_Item.cells]
theorem Api_Item.put (x : Api_Item) (h : AHeap) (ty : TypeId) (K : AHeap → Prop) : pStore 3 (.ptr h.next 0) (.agg x.cells) (h.push (.row ty [.int .i64 0, .int .i64 0, .int .u64 0])) K = K (h.push (.row ty x.cells)) := pStore_push (by rfl) (by rfl) K
theorem Api_Item.r : (type_of% @Api_Item.c0) ∧ (type_of% @Api_Item.c1) ∧ (type_of% @Api_Item.c2) ∧ (type_of% @Api_Item.call) ∧ (type_of% @Api_Item.put) := ⟨@Api_Item.c0, @Api_Item.c1, @Api_Item.c2, @Api_Item.call, @Api_Item.put⟩

/-- padlock/api.Instr -/
structure Api_Instr where
  Op : Int
  Dst : Int
  Src : Int
  Rec : Int
  N : Int
  To : Int
  Items : Option (List Api_Item)
  Index : Option (List Api_Item)
  deriving DecidableEq, Inhabited
def Api_Instr.cells (x : Api_Instr) : List AV := [.int .i64 x.Op, .int .i64 x.Dst, .int .i64 x.Src, .int .i64 x.Rec, .int .i64 x.N, .int .i64 x.To, slAV 3 (Api_Item.cells) x.Items, slAV 3 (Api_Item.cells) x.Index]
def Api_Instr.ok (x : Api_Instr) : Prop := okI x.Op ∧ okI x.Dst ∧ okI x.Src ∧ okI x.Rec ∧ okI x.N ∧ okI x.To ∧ (okSl (Api_Item.ok)) x.Items ∧ (okSl (Api_Item.ok)) x.Index
theorem Api_Instr.of {cs : List AV} (h : TyA Try.prog 56 cs) : ∃ x : Api_Instr, cs = x.cells ∧ x.ok := by
  obtain ⟨parts, rfl, hp⟩ := h.inv_struct Try.underlying56
  simp only [List.map_cons, List.map_nil] at hp
  obtain ⟨p0, r0, rfl, t0, hp⟩ := hp.cons_inv
  obtain ⟨p1, r1, rfl, t1, hp⟩ := hp.cons_inv
  obtain ⟨p2, r2, rfl, t2, hp⟩ := hp.cons_inv
  obtain ⟨p3, r3, rfl, t3, hp⟩ := hp.cons_inv
  obtain ⟨p4, r4, rfl, t4, hp⟩ := hp.cons_inv
  obtain ⟨p5, r5, rfl, t5, hp⟩ := hp.cons_inv
  obtain ⟨p6, r6, rfl, t6, hp⟩ := hp.cons_inv
  obtain ⟨p7, r7, rfl, t7, hp⟩ := hp.cons_inv
  obtain rfl := hp.nil_inv
  obtain ⟨x0, rfl, k0⟩ := ((fun _ h => h.i64_of Try.underlying3 : ∀ cs, TyA Try.prog 3 cs → ∃ x : Int, cs = (encI) x ∧ (okI) x)) _ t0
  obtain ⟨x1, rfl, k1⟩ := ((fun _ h => h.i64_of Try.underlying3 : ∀ cs, TyA Try.prog 3 cs → ∃ x : Int, cs = (encI) x ∧ (okI) x)) _ t1
  obtain ⟨x2, rfl, k2⟩ := ((fun _ h => h.i64_of Try.underlying3 : ∀ cs, TyA Try.prog 3 cs → ∃ x : Int, cs = (encI) x ∧ (okI) x)) _ t2
  obtain ⟨x3, rfl, k3⟩ := ((fun _ h => h.i64_of Try.underlying3 : ∀ cs, TyA Try.prog 3 cs → ∃ x : Int, cs = (encI) x ∧ (okI) x)) _ t3
  obtain ⟨x4, rfl, k4⟩ := ((fun _ h => h.i64_of Try.underlying3 : ∀ cs, TyA Try.prog 3 cs → ∃ x : Int, cs = (encI) x ∧ (okI) x)) _ t4
  obtain ⟨x5, rfl, k5⟩ := ((fun _ h => h.i64_of Try.underlying3 : ∀ cs, TyA Try.prog 3 cs → ∃ x : Int, cs = (encI) x ∧ (okI) x)) _ t5
  obtain ⟨x6, rfl, k6⟩ := ((fun _ h => h.sl_of Try.underlying54 (show Try.prog.cellsOf 136 = 3 by kernel_rfl) (by omega) (fun _ h => Api_Item.of h) : ∀ cs, TyA Try.prog 54 cs → ∃ x : Option (List Api_Item), cs = (fun o => [slAV 3 (Api_Item.cells) o]) x ∧ (okSl (Api_Item.ok)) x)) _ t6
  obtain ⟨x7, rfl, k7⟩ := ((fun _ h => h.sl_of Try.underlying54 (show Try.prog.cellsOf 136 = 3 by kernel_rfl) (by omega) (fun _ h => Api_Item.of h) : ∀ cs, TyA Try.prog 54 cs → ∃ x : Option (List Api_Item), cs = (fun o => [slAV 3 (Api_Item.cells) o]) x ∧ (okSl (Api_Item.ok)) x)) _ t7
  exact ⟨⟨x0, x1, x2, x3, x4, x5, x6, x7⟩, rfl, ⟨k0, k1, k2, k3, k4, k5, k6, k7⟩⟩
theorem Api_Instr.c0 (x : Api_Instr) (K : AV → Prop) : pCells none x.cells 0 K = K (.int .i64 x.Op) := by simp [pCells, Api_Instr.cells]
theorem Api_Instr.c1 (x : Api_Instr) (K : AV → Prop) : pCells none x.cells 1 K = K (.int .i64 x.Dst) := by simp [pCells, Api_Instr.cells]
theorem Api_Instr.c2 (x : Api_Instr) (K : AV → Prop) : pCells none x.cells 2 K = K (.int .i64 x.Src) := by simp [pCells, Api_Instr.cells]
theorem Api_Instr.c3 (x : Api_Instr) (K : AV → Prop) : pCells none x.cells 3 K = K (.int .i64 x.Rec) := by simp [pCells, Api_Instr.cells]
theorem Api_Instr.c4 (x : Api_Instr) (K : AV → Prop) : pCells none x.cells 4 K = K (.int .i64 x.N) := by simp [pCells, Api_Instr.cells]
theorem Api_Instr.c5 (x : Api_Instr) (K : AV → Prop) : pCells none x.cells 5 K = K (.int .i64 x.To) := by simp [pCells, Api_Instr.cells]
theorem Api_Instr.c6 (x : Api_Instr) (K : AV → Prop) : pCells none x.cells 6 K = K (slAV 3 (Api_Item.cells) x.Items) := by simp [pCells, Api_Instr.cells]
theorem Api_Instr.c7 (x : Api_Instr) (K : AV → Prop) : pCells none x.cells 7 K = K (slAV 3 (Api_Item.cells) x.Index) := by simp [pCells, Api_Instr.cells]
theorem Api_Instr.call (x : Api_Instr) (K : AV → Prop) : pCells (some 8) x.cells 0 K = K (.agg x.cells) := by simp [pCells, Api_Instr.cells]
theorem Api_Instr.put (x : Api_Instr) (h : AHeap) (ty : TypeId) (K : AHeap → Prop) : pStore 8 (.ptr h.next 0) (.agg x.cells) (h.push (.row ty [.int .i64 0, .int .i64 0, .int .i64 0, .int .i64 0, .int .i64 0, .int .i64 0, .nils, .nils])) K = K (h.push (.row ty x.cells)) := pStore_push (by rfl) (by rfl) K
theorem Api_Instr.r : (type_of% @Api_Instr.c0) ∧ (type_of% @Api_Instr.c1) ∧ (type_of% @Api_Instr.c2) ∧ (type_of% @Api_Instr.c3) ∧ (type_of% @Api_Instr.c4) ∧ (type_of% @Api_Instr.c5) ∧ (type_of% @Api_Instr.c6) ∧ (type_of% @Api_Instr.c7) ∧ (type_of% @Api_Instr.call) ∧ (type_of% @Api_Instr.put) := ⟨@Api_Instr.c0, @Api_Instr.c1, @Api_Instr.c2, @Api_Instr.c3, @Api_Instr.c4, @Api_Instr.c5, @Api_Instr.c6, @Api_Instr.c7, @Api_Instr.call, @Api_Instr.put⟩

/-- padlock/api.Body -/
structure Api_Body where
  Slots : Option (List Api_Local)
  Code : Option (List Api_Instr)
  Most : Int
  deriving DecidableEq, Inhabited
def Api_Body.cells (x : Api_Body) : List AV := [slAV 3 (Api_Local.cells) x.Slots, slAV 8 (Api_Instr.cells) x.Code, .int .i64 x.Most]
def Api_Body.ok (x : Api_Body) : Prop := (okSl (Api_Local.ok)) x.Slots ∧ (okSl (Api_Instr.ok)) x.Code ∧ okI x.Most
theorem Api_Body.of {cs : List AV} (h : TyA Try.prog 62 cs) : ∃ x : Api_Body, cs = x.cells ∧ x.ok := by
  obtain ⟨parts, rfl, hp⟩ := h.inv_struct Try.underlying62
  simp only [List.map_cons, List.map_nil] at hp
  obtain ⟨p0, r0, rfl, t0, hp⟩ := hp.cons_inv
  obtain ⟨p1, r1, rfl, t1, hp⟩ := hp.cons_inv
  obtain ⟨p2, r2, rfl, t2, hp⟩ := hp.cons_inv
  obtain rfl := hp.nil_inv
  obtain ⟨x0, rfl, k0⟩ := ((fun _ h => h.sl_of Try.underlying47 (show Try.prog.cellsOf 79 = 3 by kernel_rfl) (by omega) (fun _ h => Api_Local.of h) : ∀ cs, TyA Try.prog 47 cs → ∃ x : Option (List Api_Local), cs = (fun o => [slAV 3 (Api_Local.cells) o]) x ∧ (okSl (Api_Local.ok)) x)) _ t0
  obtain ⟨x1, rfl, k1⟩ := ((fun _ h => h.sl_of Try.underlying60 (show Try.prog.cellsOf 56 = 8 by kernel_rfl) (by omega) (fun _ h => Api_Instr.of h) : ∀ cs, TyA Try.prog 60 cs → ∃ x : Option (List Api_Instr), cs = (fun o => [slAV 8 (Api_Instr.cells) o]) x ∧ (okSl (Api_Instr.ok)) x)) _ t1
  obtain ⟨x2, rfl, k2⟩ := ((fun _ h => h.i64_of Try.underlying3 : ∀ cs, TyA Try.prog 3 cs → ∃ x : Int, cs = (encI) x ∧ (okI) x)) _ t2
  exact ⟨⟨x0, x1, x2⟩, rfl, ⟨k0, k1, k2⟩⟩
theorem Api_Body.c0 (x : Api_Body) (K : AV → Prop) : pCells none x.cells 0 K = K (slAV 3 (Api_Local.cells) x.Slots) := by simp [pCells, Api_Body.cells]
theorem Api_Body.c1 (x : Api_Body) (K : AV → Prop) : pCells none x.cells 1 K = K (slAV 8 (Api_Instr.cells) x.Code) := by simp [pCells, Api_Body.cells]
theorem Api_Body.c2 (x : Api_Body) (K : AV → Prop) : pCells none x.cells 2 K = K (.int .i64 x.Most) := by simp [pCells, Api_Body.cells]
theorem Api_Body.call (x : Api_Body) (K : AV → Prop) : pCells (some 3) x.cells 0 K = K (.agg x.cells) := by simp [pCells, Api_Body.cells]
theorem Api_Body.put (x : Api_Body) (h : AHeap) (ty : TypeId) (K : AHeap → Prop) : pStore 3 (.ptr h.next 0) (.agg x.cells) (h.push (.row ty [.nils, .nils, .int .i64 0])) K = K (h.push (.row ty x.cells)) := pStore_push (by rfl) (by rfl) K
theorem Api_Body.r : (type_of% @Api_Body.c0) ∧ (type_of% @Api_Body.c1) ∧ (type_of% @Api_Body.c2) ∧ (type_of% @Api_Body.call) ∧ (type_of% @Api_Body.put) := ⟨@Api_Body.c0, @Api_Body.c1, @Api_Body.c2, @Api_Body.call, @Api_Body.put⟩

/-- padlock/api.Site -/
structure Api_Site where
  Thread : Int
  At : Int
  Rec : Int
  deriving DecidableEq, Inhabited
def Api_Site.cells (x : Api_Site) : List AV := [.int .i64 x.Thread, .int .i64 x.At, .int .i64 x.Rec]
def Api_Site.ok (x : Api_Site) : Prop := okI x.Thread ∧ okI x.At ∧ okI x.Rec
theorem Api_Site.of {cs : List AV} (h : TyA Try.prog 113 cs) : ∃ x : Api_Site, cs = x.cells ∧ x.ok := by
  obtain ⟨parts, rfl, hp⟩ := h.inv_struct Try.underlying113
  simp only [List.map_cons, List.map_nil] at hp
  obtain ⟨p0, r0, rfl, t0, hp⟩ := hp.cons_inv
  obtain ⟨p1, r1, rfl, t1, hp⟩ := hp.cons_inv
  obtain ⟨p2, r2, rfl, t2, hp⟩ := hp.cons_inv
  obtain rfl := hp.nil_inv
  obtain ⟨x0, rfl, k0⟩ := ((fun _ h => h.i64_of Try.underlying3 : ∀ cs, TyA Try.prog 3 cs → ∃ x : Int, cs = (encI) x ∧ (okI) x)) _ t0
  obtain ⟨x1, rfl, k1⟩ := ((fun _ h => h.i64_of Try.underlying3 : ∀ cs, TyA Try.prog 3 cs → ∃ x : Int, cs = (encI) x ∧ (okI) x)) _ t1
  obtain ⟨x2, rfl, k2⟩ := ((fun _ h => h.i64_of Try.underlying3 : ∀ cs, TyA Try.prog 3 cs → ∃ x : Int, cs = (encI) x ∧ (okI) x)) _ t2
  exact ⟨⟨x0, x1, x2⟩, rfl, ⟨k0, k1, k2⟩⟩
theorem Api_Site.c0 (x : Api_Site) (K : AV → Prop) : pCells none x.cells 0 K = K (.int .i64 x.Thread) := by simp [pCells, Api_Site.cells]
theorem Api_Site.c1 (x : Api_Site) (K : AV → Prop) : pCells none x.cells 1 K = K (.int .i64 x.At) := by simp [pCells, Api_Site.cells]
theorem Api_Site.c2 (x : Api_Site) (K : AV → Prop) : pCells none x.cells 2 K = K (.int .i64 x.Rec) := by simp [pCells, Api_Site.cells]
theorem Api_Site.call (x : Api_Site) (K : AV → Prop) : pCells (some 3) x.cells 0 K = K (.agg x.cells) := by simp [pCells, Api_Site.cells]
theorem Api_Site.put (x : Api_Site) (h : AHeap) (ty : TypeId) (K : AHeap → Prop) : pStore 3 (.ptr h.next 0) (.agg x.cells) (h.push (.row ty [.int .i64 0, .int .i64 0, .int .i64 0])) K = K (h.push (.row ty x.cells)) := pStore_push (by rfl) (by rfl) K
theorem Api_Site.r : (type_of% @Api_Site.c0) ∧ (type_of% @Api_Site.c1) ∧ (type_of% @Api_Site.c2) ∧ (type_of% @Api_Site.call) ∧ (type_of% @Api_Site.put) := ⟨@Api_Site.c0, @Api_Site.c1, @Api_Site.c2, @Api_Site.call, @Api_Site.put⟩

/-- padlock/api.Section -/
structure Api_Section where
  Thread : Int
  From : Int
  To : Int
  deriving DecidableEq, Inhabited
def Api_Section.cells (x : Api_Section) : List AV := [.int .i64 x.Thread, .int .i64 x.From, .int .i64 x.To]
def Api_Section.ok (x : Api_Section) : Prop := okI x.Thread ∧ okI x.From ∧ okI x.To
theorem Api_Section.of {cs : List AV} (h : TyA Try.prog 77 cs) : ∃ x : Api_Section, cs = x.cells ∧ x.ok := by
  obtain ⟨parts, rfl, hp⟩ := h.inv_struct Try.underlying77
  simp only [List.map_cons, List.map_nil] at hp
  obtain ⟨p0, r0, rfl, t0, hp⟩ := hp.cons_inv
  obtain ⟨p1, r1, rfl, t1, hp⟩ := hp.cons_inv
  obtain ⟨p2, r2, rfl, t2, hp⟩ := hp.cons_inv
  obtain rfl := hp.nil_inv
  obtain ⟨x0, rfl, k0⟩ := ((fun _ h => h.i64_of Try.underlying3 : ∀ cs, TyA Try.prog 3 cs → ∃ x : Int, cs = (encI) x ∧ (okI) x)) _ t0
  obtain ⟨x1, rfl, k1⟩ := ((fun _ h => h.i64_of Try.underlying3 : ∀ cs, TyA Try.prog 3 cs → ∃ x : Int, cs = (encI) x ∧ (okI) x)) _ t1
  obtain ⟨x2, rfl, k2⟩ := ((fun _ h => h.i64_of Try.underlying3 : ∀ cs, TyA Try.prog 3 cs → ∃ x : Int, cs = (encI) x ∧ (okI) x)) _ t2
  exact ⟨⟨x0, x1, x2⟩, rfl, ⟨k0, k1, k2⟩⟩
theorem Api_Section.c0 (x : Api_Section) (K : AV → Prop) : pCells none x.cells 0 K = K (.int .i64 x.Thread) := by simp [pCells, Api_Section.cells]
theorem Api_Section.c1 (x : Api_Section) (K : AV → Prop) : pCells none x.cells 1 K = K (.int .i64 x.From) := by simp [pCells, Api_Section.cells]
theorem Api_Section.c2 (x : Api_Section) (K : AV → Prop) : pCells none x.cells 2 K = K (.int .i64 x.To) := by simp [pCells, Api_Section.cells]
theorem Api_Section.call (x : Api_Section) (K : AV → Prop) : pCells (some 3) x.cells 0 K = K (.agg x.cells) := by simp [pCells, Api_Section.cells]
theorem Api_Section.put (x : Api_Section) (h : AHeap) (ty : TypeId) (K : AHeap → Prop) : pStore 3 (.ptr h.next 0) (.agg x.cells) (h.push (.row ty [.int .i64 0, .int .i64 0, .int .i64 0])) K = K (h.push (.row ty x.cells)) := pStore_push (by rfl) (by rfl) K
theorem Api_Section.r : (type_of% @Api_Section.c0) ∧ (type_of% @Api_Section.c1) ∧ (type_of% @Api_Section.c2) ∧ (type_of% @Api_Section.call) ∧ (type_of% @Api_Section.put) := ⟨@Api_Section.c0, @Api_Section.c1, @Api_Section.c2, @Api_Section.call, @Api_Section.put⟩

/-- padlock/api.Code -/
structure Api_Code where
  Records : Option (List (Option (List Api_Local)))
  Globals : Option (List Api_Local)
  Threads : Option (List Api_Body)
  Sites : Option (List Api_Site)
  Sections : Option (List Api_Section)
  deriving DecidableEq, Inhabited
def Api_Code.cells (x : Api_Code) : List AV := [slAV 1 (fun o => [slAV 3 (Api_Local.cells) o]) x.Records, slAV 3 (Api_Local.cells) x.Globals, slAV 3 (Api_Body.cells) x.Threads, slAV 3 (Api_Site.cells) x.Sites, slAV 3 (Api_Section.cells) x.Sections]
def Api_Code.ok (x : Api_Code) : Prop := (okSl (okSl (Api_Local.ok))) x.Records ∧ (okSl (Api_Local.ok)) x.Globals ∧ (okSl (Api_Body.ok)) x.Threads ∧ (okSl (Api_Site.ok)) x.Sites ∧ (okSl (Api_Section.ok)) x.Sections
theorem Api_Code.of {cs : List AV} (h : TyA Try.prog 52 cs) : ∃ x : Api_Code, cs = x.cells ∧ x.ok := by
  obtain ⟨parts, rfl, hp⟩ := h.inv_struct Try.underlying52
  simp only [List.map_cons, List.map_nil] at hp
  obtain ⟨p0, r0, rfl, t0, hp⟩ := hp.cons_inv
  obtain ⟨p1, r1, rfl, t1, hp⟩ := hp.cons_inv
  obtain ⟨p2, r2, rfl, t2, hp⟩ := hp.cons_inv
  obtain ⟨p3, r3, rfl, t3, hp⟩ := hp.cons_inv
  obtain ⟨p4, r4, rfl, t4, hp⟩ := hp.cons_inv
  obtain rfl := hp.nil_inv
  obtain ⟨x0, rfl, k0⟩ := ((fun _ h => h.sl_of Try.underlying46 (show Try.prog.cellsOf 47 = 1 by kernel_rfl) (by omega) (fun _ h => h.sl_of Try.underlying47 (show Try.prog.cellsOf 79 = 3 by kernel_rfl) (by omega) (fun _ h => Api_Local.of h)) : ∀ cs, TyA Try.prog 46 cs → ∃ x : Option (List (Option (List Api_Local))), cs = (fun o => [slAV 1 (fun o => [slAV 3 (Api_Local.cells) o]) o]) x ∧ (okSl (okSl (Api_Local.ok))) x)) _ t0
  obtain ⟨x1, rfl, k1⟩ := ((fun _ h => h.sl_of Try.underlying47 (show Try.prog.cellsOf 79 = 3 by kernel_rfl) (by omega) (fun _ h => Api_Local.of h) : ∀ cs, TyA Try.prog 47 cs → ∃ x : Option (List Api_Local), cs = (fun o => [slAV 3 (Api_Local.cells) o]) x ∧ (okSl (Api_Local.ok)) x)) _ t1
  obtain ⟨x2, rfl, k2⟩ := ((fun _ h => h.sl_of Try.underlying48 (show Try.prog.cellsOf 62 = 3 by kernel_rfl) (by omega) (fun _ h => Api_Body.of h) : ∀ cs, TyA Try.prog 48 cs → ∃ x : Option (List Api_Body), cs = (fun o => [slAV 3 (Api_Body.cells) o]) x ∧ (okSl (Api_Body.ok)) x)) _ t2
  obtain ⟨x3, rfl, k3⟩ := ((fun _ h => h.sl_of Try.underlying49 (show Try.prog.cellsOf 113 = 3 by kernel_rfl) (by omega) (fun _ h => Api_Site.of h) : ∀ cs, TyA Try.prog 49 cs → ∃ x : Option (List Api_Site), cs = (fun o => [slAV 3 (Api_Site.cells) o]) x ∧ (okSl (Api_Site.ok)) x)) _ t3
  obtain ⟨x4, rfl, k4⟩ := ((fun _ h => h.sl_of Try.underlying50 (show Try.prog.cellsOf 77 = 3 by kernel_rfl) (by omega) (fun _ h => Api_Section.of h) : ∀ cs, TyA Try.prog 50 cs → ∃ x : Option (List Api_Section), cs = (fun o => [slAV 3 (Api_Section.cells) o]) x ∧ (okSl (Api_Section.ok)) x)) _ t4
  exact ⟨⟨x0, x1, x2, x3, x4⟩, rfl, ⟨k0, k1, k2, k3, k4⟩⟩
theorem Api_Code.c0 (x : Api_Code) (K : AV → Prop) : pCells none x.cells 0 K = K (slAV 1 (fun o => [slAV 3 (Api_Local.cells) o]) x.Records) := by simp [pCells, Api_Code.cells]
theorem Api_Code.c1 (x : Api_Code) (K : AV → Prop) : pCells none x.cells 1 K = K (slAV 3 (Api_Local.cells) x.Globals) := by simp [pCells, Api_Code.cells]
theorem Api_Code.c2 (x : Api_Code) (K : AV → Prop) : pCells none x.cells 2 K = K (slAV 3 (Api_Body.cells) x.Threads) := by simp [pCells, Api_Code.cells]
theorem Api_Code.c3 (x : Api_Code) (K : AV → Prop) : pCells none x.cells 3 K = K (slAV 3 (Api_Site.cells) x.Sites) := by simp [pCells, Api_Code.cells]
theorem Api_Code.c4 (x : Api_Code) (K : AV → Prop) : pCells none x.cells 4 K = K (slAV 3 (Api_Section.cells) x.Sections) := by simp [pCells, Api_Code.cells]
theorem Api_Code.call (x : Api_Code) (K : AV → Prop) : pCells (some 5) x.cells 0 K = K (.agg x.cells) := by simp [pCells, Api_Code.cells]
theorem Api_Code.put (x : Api_Code) (h : AHeap) (ty : TypeId) (K : AHeap → Prop) : pStore 5 (.ptr h.next 0) (.agg x.cells) (h.push (.row ty [.nils, .nils, .nils, .nils, .nils])) K = K (h.push (.row ty x.cells)) := pStore_push (by rfl) (by rfl) K
theorem Api_Code.r : (type_of% @Api_Code.c0) ∧ (type_of% @Api_Code.c1) ∧ (type_of% @Api_Code.c2) ∧ (type_of% @Api_Code.c3) ∧ (type_of% @Api_Code.c4) ∧ (type_of% @Api_Code.call) ∧ (type_of% @Api_Code.put) := ⟨@Api_Code.c0, @Api_Code.c1, @Api_Code.c2, @Api_Code.c3, @Api_Code.c4, @Api_Code.call, @Api_Code.put⟩

theorem CodeIs_args {xs : List AV} (h : TyVs Try.prog Try.f4.params.toList xs) : ∃ (x0 : Api_Code), xs = [.agg x0.cells] ∧ (Api_Code.ok) x0 := by
  rw [Try.params4] at h
  obtain ⟨a0, b0, rfl, h0, h⟩ := h.cons_inv
  obtain rfl := h.nil_inv
  obtain ⟨x0, rfl, k0⟩ := h0.agg_of (by kernel_rfl) (fun _ h => Api_Code.of h : ∀ cs, TyA Try.prog 52 cs → ∃ x : Api_Code, cs = (Api_Code.cells) x ∧ (Api_Code.ok) x)
  exact ⟨x0, rfl, k0⟩

theorem CodeTells_args {xs : List AV} (h : TyVs Try.prog Try.f5.params.toList xs) : ∃ (x0 : Api_Code) (x1 : Int) (x2 : Int) (x3 : Api_Instr), xs = [.agg x0.cells, .int .i64 x1, .int .i64 x2, .agg x3.cells] ∧ (Api_Code.ok) x0 ∧ (okI) x1 ∧ (okI) x2 ∧ (Api_Instr.ok) x3 := by
  rw [Try.params5] at h
  obtain ⟨a0, b0, rfl, h0, h⟩ := h.cons_inv
  obtain ⟨a1, b1, rfl, h1, h⟩ := h.cons_inv
  obtain ⟨a2, b2, rfl, h2, h⟩ := h.cons_inv
  obtain ⟨a3, b3, rfl, h3, h⟩ := h.cons_inv
  obtain rfl := h.nil_inv
  obtain ⟨x0, rfl, k0⟩ := h0.agg_of (by kernel_rfl) (fun _ h => Api_Code.of h : ∀ cs, TyA Try.prog 52 cs → ∃ x : Api_Code, cs = (Api_Code.cells) x ∧ (Api_Code.ok) x)
  obtain ⟨x1, rfl, k1⟩ := h1.one_of (enc := fun x => .int .i64 x) (by kernel_rfl) (fun _ h => h.i64_of Try.underlying3 : ∀ cs, TyA Try.prog 3 cs → ∃ x : Int, cs = (encI) x ∧ (okI) x)
  obtain ⟨x2, rfl, k2⟩ := h2.one_of (enc := fun x => .int .i64 x) (by kernel_rfl) (fun _ h => h.i64_of Try.underlying3 : ∀ cs, TyA Try.prog 3 cs → ∃ x : Int, cs = (encI) x ∧ (okI) x)
  obtain ⟨x3, rfl, k3⟩ := h3.agg_of (by kernel_rfl) (fun _ h => Api_Instr.of h : ∀ cs, TyA Try.prog 56 cs → ∃ x : Api_Instr, cs = (Api_Instr.cells) x ∧ (Api_Instr.ok) x)
  exact ⟨x0, x1, x2, x3, rfl, k0, k1, k2, k3⟩

theorem CodeGuards_args {xs : List AV} (h : TyVs Try.prog Try.f6.params.toList xs) : ∃ (x0 : Api_Code), xs = [.agg x0.cells] ∧ (Api_Code.ok) x0 := by
  rw [Try.params6] at h
  obtain ⟨a0, b0, rfl, h0, h⟩ := h.cons_inv
  obtain rfl := h.nil_inv
  obtain ⟨x0, rfl, k0⟩ := h0.agg_of (by kernel_rfl) (fun _ h => Api_Code.of h : ∀ cs, TyA Try.prog 52 cs → ∃ x : Api_Code, cs = (Api_Code.cells) x ∧ (Api_Code.ok) x)
  exact ⟨x0, rfl, k0⟩

theorem CodeMost_args {xs : List AV} (h : TyVs Try.prog Try.f7.params.toList xs) : ∃ (x0 : Api_Code) (x1 : Int) (x2 : Int), xs = [.agg x0.cells, .int .i64 x1, .int .i64 x2] ∧ (Api_Code.ok) x0 ∧ (okI) x1 ∧ (okI) x2 := by
  rw [Try.params7] at h
  obtain ⟨a0, b0, rfl, h0, h⟩ := h.cons_inv
  obtain ⟨a1, b1, rfl, h1, h⟩ := h.cons_inv
  obtain ⟨a2, b2, rfl, h2, h⟩ := h.cons_inv
  obtain rfl := h.nil_inv
  obtain ⟨x0, rfl, k0⟩ := h0.agg_of (by kernel_rfl) (fun _ h => Api_Code.of h : ∀ cs, TyA Try.prog 52 cs → ∃ x : Api_Code, cs = (Api_Code.cells) x ∧ (Api_Code.ok) x)
  obtain ⟨x1, rfl, k1⟩ := h1.one_of (enc := fun x => .int .i64 x) (by kernel_rfl) (fun _ h => h.i64_of Try.underlying3 : ∀ cs, TyA Try.prog 3 cs → ∃ x : Int, cs = (encI) x ∧ (okI) x)
  obtain ⟨x2, rfl, k2⟩ := h2.one_of (enc := fun x => .int .i64 x) (by kernel_rfl) (fun _ h => h.i64_of Try.underlying3 : ∀ cs, TyA Try.prog 3 cs → ∃ x : Int, cs = (encI) x ∧ (okI) x)
  exact ⟨x0, x1, x2, rfl, k0, k1, k2⟩

theorem PathIs_args {xs : List AV} (h : TyVs Try.prog Try.f8.params.toList xs) : ∃ (x0 : Api_Code) (x1 : Int), xs = [.agg x0.cells, .int .i64 x1] ∧ (Api_Code.ok) x0 ∧ (okI) x1 := by
  rw [Try.params8] at h
  obtain ⟨a0, b0, rfl, h0, h⟩ := h.cons_inv
  obtain ⟨a1, b1, rfl, h1, h⟩ := h.cons_inv
  obtain rfl := h.nil_inv
  obtain ⟨x0, rfl, k0⟩ := h0.agg_of (by kernel_rfl) (fun _ h => Api_Code.of h : ∀ cs, TyA Try.prog 52 cs → ∃ x : Api_Code, cs = (Api_Code.cells) x ∧ (Api_Code.ok) x)
  obtain ⟨x1, rfl, k1⟩ := h1.one_of (enc := fun x => .int .i64 x) (by kernel_rfl) (fun _ h => h.i64_of Try.underlying3 : ∀ cs, TyA Try.prog 3 cs → ∃ x : Int, cs = (encI) x ∧ (okI) x)
  exact ⟨x0, x1, rfl, k0, k1⟩

theorem PathKeeps_args {xs : List AV} (h : TyVs Try.prog Try.f9.params.toList xs) : ∃ (x0 : Api_Code) (x1 : Int), xs = [.agg x0.cells, .int .i64 x1] ∧ (Api_Code.ok) x0 ∧ (okI) x1 := by
  rw [Try.params9] at h
  obtain ⟨a0, b0, rfl, h0, h⟩ := h.cons_inv
  obtain ⟨a1, b1, rfl, h1, h⟩ := h.cons_inv
  obtain rfl := h.nil_inv
  obtain ⟨x0, rfl, k0⟩ := h0.agg_of (by kernel_rfl) (fun _ h => Api_Code.of h : ∀ cs, TyA Try.prog 52 cs → ∃ x : Api_Code, cs = (Api_Code.cells) x ∧ (Api_Code.ok) x)
  obtain ⟨x1, rfl, k1⟩ := h1.one_of (enc := fun x => .int .i64 x) (by kernel_rfl) (fun _ h => h.i64_of Try.underlying3 : ∀ cs, TyA Try.prog 3 cs → ∃ x : Int, cs = (encI) x ∧ (okI) x)
  exact ⟨x0, x1, rfl, k0, k1⟩

/-- padlock/api.Path -/
structure Api_Path where
  Global : Bool
  N : Int
  Fields : Option (List Int)
  deriving DecidableEq, Inhabited
def Api_Path.cells (x : Api_Path) : List AV := [.bool x.Global, .int .i64 x.N, slAV 1 (encI) x.Fields]
def Api_Path.ok (x : Api_Path) : Prop := okT x.Global ∧ okI x.N ∧ (okSl (okI)) x.Fields
theorem Api_Path.of {cs : List AV} (h : TyA Try.prog 71 cs) : ∃ x : Api_Path, cs = x.cells ∧ x.ok := by
  obtain ⟨parts, rfl, hp⟩ := h.inv_struct Try.underlying71
  simp only [List.map_cons, List.map_nil] at hp
  obtain ⟨p0, r0, rfl, t0, hp⟩ := hp.cons_inv
  obtain ⟨p1, r1, rfl, t1, hp⟩ := hp.cons_inv
  obtain ⟨p2, r2, rfl, t2, hp⟩ := hp.cons_inv
  obtain rfl := hp.nil_inv
  obtain ⟨x0, rfl, k0⟩ := ((fun _ h => h.bool_of Try.underlying4 : ∀ cs, TyA Try.prog 4 cs → ∃ x : Bool, cs = (encT) x ∧ (okT) x)) _ t0
  obtain ⟨x1, rfl, k1⟩ := ((fun _ h => h.i64_of Try.underlying3 : ∀ cs, TyA Try.prog 3 cs → ∃ x : Int, cs = (encI) x ∧ (okI) x)) _ t1
  obtain ⟨x2, rfl, k2⟩ := ((fun _ h => h.sl_of Try.underlying69 (show Try.prog.cellsOf 3 = 1 by kernel_rfl) (by omega) (fun _ h => h.i64_of Try.underlying3) : ∀ cs, TyA Try.prog 69 cs → ∃ x : Option (List Int), cs = (fun o => [slAV 1 (encI) o]) x ∧ (okSl (okI)) x)) _ t2
  exact ⟨⟨x0, x1, x2⟩, rfl, ⟨k0, k1, k2⟩⟩
theorem Api_Path.c0 (x : Api_Path) (K : AV → Prop) : pCells none x.cells 0 K = K (.bool x.Global) := by simp [pCells, Api_Path.cells]
theorem Api_Path.c1 (x : Api_Path) (K : AV → Prop) : pCells none x.cells 1 K = K (.int .i64 x.N) := by simp [pCells, Api_Path.cells]
theorem Api_Path.c2 (x : Api_Path) (K : AV → Prop) : pCells none x.cells 2 K = K (slAV 1 (encI) x.Fields) := by simp [pCells, Api_Path.cells]
theorem Api_Path.call (x : Api_Path) (K : AV → Prop) : pCells (some 3) x.cells 0 K = K (.agg x.cells) := by simp [pCells, Api_Path.cells]
theorem Api_Path.put (x : Api_Path) (h : AHeap) (ty : TypeId) (K : AHeap → Prop) : pStore 3 (.ptr h.next 0) (.agg x.cells) (h.push (.row ty [.bool false, .int .i64 0, .nils])) K = K (h.push (.row ty x.cells)) := pStore_push (by rfl) (by rfl) K
theorem Api_Path.r : (type_of% @Api_Path.c0) ∧ (type_of% @Api_Path.c1) ∧ (type_of% @Api_Path.c2) ∧ (type_of% @Api_Path.call) ∧ (type_of% @Api_Path.put) := ⟨@Api_Path.c0, @Api_Path.c1, @Api_Path.c2, @Api_Path.call, @Api_Path.put⟩

theorem PathSame_args {xs : List AV} (h : TyVs Try.prog Try.f10.params.toList xs) : ∃ (x0 : Api_Path) (x1 : Api_Path), xs = [.agg x0.cells, .agg x1.cells] ∧ (Api_Path.ok) x0 ∧ (Api_Path.ok) x1 := by
  rw [Try.params10] at h
  obtain ⟨a0, b0, rfl, h0, h⟩ := h.cons_inv
  obtain ⟨a1, b1, rfl, h1, h⟩ := h.cons_inv
  obtain rfl := h.nil_inv
  obtain ⟨x0, rfl, k0⟩ := h0.agg_of (by kernel_rfl) (fun _ h => Api_Path.of h : ∀ cs, TyA Try.prog 71 cs → ∃ x : Api_Path, cs = (Api_Path.cells) x ∧ (Api_Path.ok) x)
  obtain ⟨x1, rfl, k1⟩ := h1.agg_of (by kernel_rfl) (fun _ h => Api_Path.of h : ∀ cs, TyA Try.prog 71 cs → ∃ x : Api_Path, cs = (Api_Path.cells) x ∧ (Api_Path.ok) x)
  exact ⟨x0, x1, rfl, k0, k1⟩

theorem PathSlots_args {xs : List AV} (h : TyVs Try.prog Try.f11.params.toList xs) : ∃ (x0 : Api_Code) (x1 : Int), xs = [.agg x0.cells, .int .i64 x1] ∧ (Api_Code.ok) x0 ∧ (okI) x1 := by
  rw [Try.params11] at h
  obtain ⟨a0, b0, rfl, h0, h⟩ := h.cons_inv
  obtain ⟨a1, b1, rfl, h1, h⟩ := h.cons_inv
  obtain rfl := h.nil_inv
  obtain ⟨x0, rfl, k0⟩ := h0.agg_of (by kernel_rfl) (fun _ h => Api_Code.of h : ∀ cs, TyA Try.prog 52 cs → ∃ x : Api_Code, cs = (Api_Code.cells) x ∧ (Api_Code.ok) x)
  obtain ⟨x1, rfl, k1⟩ := h1.one_of (enc := fun x => .int .i64 x) (by kernel_rfl) (fun _ h => h.i64_of Try.underlying3 : ∀ cs, TyA Try.prog 3 cs → ∃ x : Int, cs = (encI) x ∧ (okI) x)
  exact ⟨x0, x1, rfl, k0, k1⟩

/-- padlock/code.maker -/
structure Code_maker where
  Code : Api_Code
  thread : Int
  body : Api_Body
  deriving DecidableEq, Inhabited
def Code_maker.cells (x : Code_maker) : List AV := [slAV 1 (fun o => [slAV 3 (Api_Local.cells) o]) x.Code.Records, slAV 3 (Api_Local.cells) x.Code.Globals, slAV 3 (Api_Body.cells) x.Code.Threads, slAV 3 (Api_Site.cells) x.Code.Sites, slAV 3 (Api_Section.cells) x.Code.Sections, .int .i64 x.thread, slAV 3 (Api_Local.cells) x.body.Slots, slAV 8 (Api_Instr.cells) x.body.Code, .int .i64 x.body.Most]
def Code_maker.ok (x : Code_maker) : Prop := Api_Code.ok x.Code ∧ okI x.thread ∧ Api_Body.ok x.body
theorem Code_maker.of {cs : List AV} (h : TyA Try.prog 109 cs) : ∃ x : Code_maker, cs = x.cells ∧ x.ok := by
  obtain ⟨parts, rfl, hp⟩ := h.inv_struct Try.underlying109
  simp only [List.map_cons, List.map_nil] at hp
  obtain ⟨p0, r0, rfl, t0, hp⟩ := hp.cons_inv
  obtain ⟨p1, r1, rfl, t1, hp⟩ := hp.cons_inv
  obtain ⟨p2, r2, rfl, t2, hp⟩ := hp.cons_inv
  obtain rfl := hp.nil_inv
  obtain ⟨x0, rfl, k0⟩ := ((fun _ h => Api_Code.of h : ∀ cs, TyA Try.prog 52 cs → ∃ x : Api_Code, cs = (Api_Code.cells) x ∧ (Api_Code.ok) x)) _ t0
  obtain ⟨x1, rfl, k1⟩ := ((fun _ h => h.i64_of Try.underlying3 : ∀ cs, TyA Try.prog 3 cs → ∃ x : Int, cs = (encI) x ∧ (okI) x)) _ t1
  obtain ⟨x2, rfl, k2⟩ := ((fun _ h => Api_Body.of h : ∀ cs, TyA Try.prog 62 cs → ∃ x : Api_Body, cs = (Api_Body.cells) x ∧ (Api_Body.ok) x)) _ t2
  exact ⟨⟨x0, x1, x2⟩, rfl, ⟨k0, k1, k2⟩⟩
theorem Code_maker.c0 (x : Code_maker) (K : AV → Prop) : pCells none x.cells 0 K = K (slAV 1 (fun o => [slAV 3 (Api_Local.cells) o]) x.Code.Records) := by simp [pCells, Code_maker.cells, Api_Code.cells, Api_Body.cells]
theorem Code_maker.c1 (x : Code_maker) (K : AV → Prop) : pCells none x.cells 1 K = K (slAV 3 (Api_Local.cells) x.Code.Globals) := by simp [pCells, Code_maker.cells, Api_Code.cells, Api_Body.cells]
theorem Code_maker.c2 (x : Code_maker) (K : AV → Prop) : pCells none x.cells 2 K = K (slAV 3 (Api_Body.cells) x.Code.Threads) := by simp [pCells, Code_maker.cells, Api_Code.cells, Api_Body.cells]
theorem Code_maker.c3 (x : Code_maker) (K : AV → Prop) : pCells none x.cells 3 K = K (slAV 3 (Api_Site.cells) x.Code.Sites) := by simp [pCells, Code_maker.cells, Api_Code.cells, Api_Body.cells]
theorem Code_maker.c4 (x : Code_maker) (K : AV → Prop) : pCells none x.cells 4 K = K (slAV 3 (Api_Section.cells) x.Code.Sections) := by simp [pCells, Code_maker.cells, Api_Code.cells, Api_Body.cells]
theorem Code_maker.c5 (x : Code_maker) (K : AV → Prop) : pCells none x.cells 5 K = K (.int .i64 x.thread) := by simp [pCells, Code_maker.cells, Api_Code.cells, Api_Body.cells]
theorem Code_maker.c6 (x : Code_maker) (K : AV → Prop) : pCells none x.cells 6 K = K (slAV 3 (Api_Local.cells) x.body.Slots) := by simp [pCells, Code_maker.cells, Api_Code.cells, Api_Body.cells]
theorem Code_maker.c7 (x : Code_maker) (K : AV → Prop) : pCells none x.cells 7 K = K (slAV 8 (Api_Instr.cells) x.body.Code) := by simp [pCells, Code_maker.cells, Api_Code.cells, Api_Body.cells]
theorem Code_maker.c8 (x : Code_maker) (K : AV → Prop) : pCells none x.cells 8 K = K (.int .i64 x.body.Most) := by simp [pCells, Code_maker.cells, Api_Code.cells, Api_Body.cells]
theorem Code_maker.call (x : Code_maker) (K : AV → Prop) : pCells (some 9) x.cells 0 K = K (.agg x.cells) := by simp [pCells, Code_maker.cells, Api_Code.cells, Api_Body.cells]
theorem Code_maker.cs0_5 (x : Code_maker) (K : AV → Prop) : pCells (some 5) x.cells 0 K = K (.agg x.Code.cells) := by simp [pCells, Code_maker.cells, Api_Code.cells, Api_Body.cells]
theorem Code_maker.cs6_3 (x : Code_maker) (K : AV → Prop) : pCells (some 3) x.cells 6 K = K (.agg x.body.cells) := by simp [pCells, Code_maker.cells, Api_Code.cells, Api_Body.cells]
theorem Code_maker.put (x : Code_maker) (h : AHeap) (ty : TypeId) (K : AHeap → Prop) : pStore 9 (.ptr h.next 0) (.agg x.cells) (h.push (.row ty [.nils, .nils, .nils, .nils, .nils, .int .i64 0, .nils, .nils, .int .i64 0])) K = K (h.push (.row ty x.cells)) := pStore_push (by rfl) (by rfl) K
theorem Code_maker.r : (type_of% @Code_maker.c0) ∧ (type_of% @Code_maker.c1) ∧ (type_of% @Code_maker.c2) ∧ (type_of% @Code_maker.c3) ∧ (type_of% @Code_maker.c4) ∧ (type_of% @Code_maker.c5) ∧ (type_of% @Code_maker.c6) ∧ (type_of% @Code_maker.c7) ∧ (type_of% @Code_maker.c8) ∧ (type_of% @Code_maker.call) ∧ (type_of% @Code_maker.cs0_5) ∧ (type_of% @Code_maker.cs6_3) ∧ (type_of% @Code_maker.put) := ⟨@Code_maker.c0, @Code_maker.c1, @Code_maker.c2, @Code_maker.c3, @Code_maker.c4, @Code_maker.c5, @Code_maker.c6, @Code_maker.c7, @Code_maker.c8, @Code_maker.call, @Code_maker.cs0_5, @Code_maker.cs6_3, @Code_maker.put⟩

/-- padlock/api.Value -/
structure Api_Value where
  Kind : Int
  Path : Api_Path
  deriving DecidableEq, Inhabited
def Api_Value.cells (x : Api_Value) : List AV := [.int .i64 x.Kind, .bool x.Path.Global, .int .i64 x.Path.N, slAV 1 (encI) x.Path.Fields]
def Api_Value.ok (x : Api_Value) : Prop := okI x.Kind ∧ Api_Path.ok x.Path
theorem Api_Value.of {cs : List AV} (h : TyA Try.prog 73 cs) : ∃ x : Api_Value, cs = x.cells ∧ x.ok := by
  obtain ⟨parts, rfl, hp⟩ := h.inv_struct Try.underlying73
  simp only [List.map_cons, List.map_nil] at hp
  obtain ⟨p0, r0, rfl, t0, hp⟩ := hp.cons_inv
  obtain ⟨p1, r1, rfl, t1, hp⟩ := hp.cons_inv
  obtain rfl := hp.nil_inv
  obtain ⟨x0, rfl, k0⟩ := ((fun _ h => h.i64_of Try.underlying3 : ∀ cs, TyA Try.prog 3 cs → ∃ x : Int, cs = (encI) x ∧ (okI) x)) _ t0
  obtain ⟨x1, rfl, k1⟩ := ((fun _ h => Api_Path.of h : ∀ cs, TyA Try.prog 71 cs → ∃ x : Api_Path, cs = (Api_Path.cells) x ∧ (Api_Path.ok) x)) _ t1
  exact ⟨⟨x0, x1⟩, rfl, ⟨k0, k1⟩⟩
theorem Api_Value.c0 (x : Api_Value) (K : AV → Prop) : pCells none x.cells 0 K = K (.int .i64 x.Kind) := by simp [pCells, Api_Value.cells, Api_Path.cells]
theorem Api_Value.c1 (x : Api_Value) (K : AV → Prop) : pCells none x.cells 1 K = K (.bool x.Path.Global) := by simp [pCells, Api_Value.cells, Api_Path.cells]
theorem Api_Value.c2 (x : Api_Value) (K : AV → Prop) : pCells none x.cells 2 K = K (.int .i64 x.Path.N) := by simp [pCells, Api_Value.cells, Api_Path.cells]
theorem Api_Value.c3 (x : Api_Value) (K : AV → Prop) : pCells none x.cells 3 K = K (slAV 1 (encI) x.Path.Fields) := by simp [pCells, Api_Value.cells, Api_Path.cells]
theorem Api_Value.call (x : Api_Value) (K : AV → Prop) : pCells (some 4) x.cells 0 K = K (.agg x.cells) := by simp [pCells, Api_Value.cells, Api_Path.cells]
theorem Api_Value.cs1_3 (x : Api_Value) (K : AV → Prop) : pCells (some 3) x.cells 1 K = K (.agg x.Path.cells) := by simp [pCells, Api_Value.cells, Api_Path.cells]
theorem Api_Value.put (x : Api_Value) (h : AHeap) (ty : TypeId) (K : AHeap → Prop) : pStore 4 (.ptr h.next 0) (.agg x.cells) (h.push (.row ty [.int .i64 0, .bool false, .int .i64 0, .nils])) K = K (h.push (.row ty x.cells)) := pStore_push (by rfl) (by rfl) K
theorem Api_Value.r : (type_of% @Api_Value.c0) ∧ (type_of% @Api_Value.c1) ∧ (type_of% @Api_Value.c2) ∧ (type_of% @Api_Value.c3) ∧ (type_of% @Api_Value.call) ∧ (type_of% @Api_Value.cs1_3) ∧ (type_of% @Api_Value.put) := ⟨@Api_Value.c0, @Api_Value.c1, @Api_Value.c2, @Api_Value.c3, @Api_Value.call, @Api_Value.cs1_3, @Api_Value.put⟩

end Go.Proofs.Ytppldbldpphlmaa
