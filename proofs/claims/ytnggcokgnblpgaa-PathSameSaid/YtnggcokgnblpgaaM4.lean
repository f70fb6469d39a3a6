/- Own texts, merged: Types, VcK. -/
import Derived.Test.YtnggcokgnblpgaaM3
import Derived.Test.YtnggcokgnblpgaaProg
set_option linter.unusedVariables false
set_option linter.unusedSimpArgs false
section
/- The program's plain types in Lean: their cells, their bounds, how they are read out of a typed value. -/
set_option maxRecDepth 100000
namespace Go.Proofs.Ytnggcokgnblpgaa
open Go.Abs
structure z0f where
  Kind : Int
  Rec : Int
  Once : Bool
  deriving DecidableEq, Inhabited
def z0f.cells (x : z0f) : List AV := [.int .i64 x.Kind, .int .i64 x.Rec, .bool x.Once]
def z0f.ok (x : z0f) : Prop := okI x.Kind ∧ okI x.Rec ∧ okT x.Once
theorem z0f.of {cs : List AV} (h : TyA Try.prog 53 cs) : ∃ x : z0f, cs = x.cells ∧ x.ok := by
  obtain ⟨parts, rfl, hp⟩ := h.z4w Try.underlying53
  simp only [List.map_cons, List.map_nil] at hp
  obtain ⟨p0, r0, rfl, t0, hp⟩ := hp.cons_inv
  obtain ⟨p1, r1, rfl, t1, hp⟩ := hp.cons_inv
  obtain ⟨p2, r2, rfl, t2, hp⟩ := hp.cons_inv
  obtain rfl := hp.nil_inv
  obtain ⟨x0, rfl, k0⟩ := ((fun _ h => h.i64_of Try.underlying3 : ∀ cs, TyA Try.prog 3 cs → ∃ x : Int, cs = (encI) x ∧ (okI) x)) _ t0
  obtain ⟨x1, rfl, k1⟩ := ((fun _ h => h.i64_of Try.underlying3 : ∀ cs, TyA Try.prog 3 cs → ∃ x : Int, cs = (encI) x ∧ (okI) x)) _ t1
  obtain ⟨x2, rfl, k2⟩ := ((fun _ h => h.bool_of Try.underlying4 : ∀ cs, TyA Try.prog 4 cs → ∃ x : Bool, cs = (encT) x ∧ (okT) x)) _ t2
  exact ⟨⟨x0, x1, x2⟩, rfl, ⟨k0, k1, k2⟩⟩
theorem z0f.c0 (x : z0f) (K : AV → Prop) : z0h none x.cells 0 K = K (.int .i64 x.Kind) := by simp [z0h, z0f.cells]
theorem z0f.c1 (x : z0f) (K : AV → Prop) : z0h none x.cells 1 K = K (.int .i64 x.Rec) := by simp [z0h, z0f.cells]
theorem z0f.c2 (x : z0f) (K : AV → Prop) : z0h none x.cells 2 K = K (.bool x.Once) := by simp [z0h, z0f.cells]
theorem z0f.call (x : z0f) (K : AV → Prop) : z0h (some 3) x.cells 0 K = K (.agg x.cells) := by simp [z0h, z0f.cells]
theorem z0f.put (x : z0f) (h : z04) (ty : TypeId) (K : z04 → Prop) : z0y 3 (.ptr h.next 0) (.agg x.cells) (h.push (.row ty [.int .i64 0, .int .i64 0, .bool false])) K = K (h.push (.row ty x.cells)) := z2d (by rfl) (by rfl) K
theorem z0f.r : (type_of% @z0f.c0) ∧ (type_of% @z0f.c1) ∧ (type_of% @z0f.c2) ∧ (type_of% @z0f.call) ∧ (type_of% @z0f.put) := ⟨@z0f.c0, @z0f.c1, @z0f.c2, @z0f.call, @z0f.put⟩
structure z0k where
  Op : Int
  Bin : Int
  N : Nat
  deriving DecidableEq, Inhabited
def z0k.cells (x : z0k) : List AV := [.int .i64 x.Op, .int .i64 x.Bin, .int .u64 (x.N : Nat)]
def z0k.ok (x : z0k) : Prop := okI x.Op ∧ okI x.Bin ∧ okN x.N
theorem z0k.of {cs : List AV} (h : TyA Try.prog 75 cs) : ∃ x : z0k, cs = x.cells ∧ x.ok := by
  obtain ⟨parts, rfl, hp⟩ := h.z4w Try.underlying75
  simp only [List.map_cons, List.map_nil] at hp
  obtain ⟨p0, r0, rfl, t0, hp⟩ := hp.cons_inv
  obtain ⟨p1, r1, rfl, t1, hp⟩ := hp.cons_inv
  obtain ⟨p2, r2, rfl, t2, hp⟩ := hp.cons_inv
  obtain rfl := hp.nil_inv
  obtain ⟨x0, rfl, k0⟩ := ((fun _ h => h.i64_of Try.underlying3 : ∀ cs, TyA Try.prog 3 cs → ∃ x : Int, cs = (encI) x ∧ (okI) x)) _ t0
  obtain ⟨x1, rfl, k1⟩ := ((fun _ h => h.i64_of Try.underlying3 : ∀ cs, TyA Try.prog 3 cs → ∃ x : Int, cs = (encI) x ∧ (okI) x)) _ t1
  obtain ⟨x2, rfl, k2⟩ := ((fun _ h => h.u64_of Try.underlying73 : ∀ cs, TyA Try.prog 73 cs → ∃ x : Nat, cs = (encN) x ∧ (okN) x)) _ t2
  exact ⟨⟨x0, x1, x2⟩, rfl, ⟨k0, k1, k2⟩⟩
theorem z0k.c0 (x : z0k) (K : AV → Prop) : z0h none x.cells 0 K = K (.int .i64 x.Op) := by simp [z0h, z0k.cells]
theorem z0k.c1 (x : z0k) (K : AV → Prop) : z0h none x.cells 1 K = K (.int .i64 x.Bin) := by simp [z0h, z0k.cells]
theorem z0k.c2 (x : z0k) (K : AV → Prop) : z0h none x.cells 2 K = K (.int .u64 (x.N : Nat)) := by simp [z0h, z0k.cells]
theorem z0k.call (x : z0k) (K : AV → Prop) : z0h (some 3) x.cells 0 K = K (.agg x.cells) := by simp [z0h, z0k.cells]
theorem z0k.put (x : z0k) (h : z04) (ty : TypeId) (K : z04 → Prop) : z0y 3 (.ptr h.next 0) (.agg x.cells) (h.push (.row ty [.int .i64 0, .int .i64 0, .int .u64 0])) K = K (h.push (.row ty x.cells)) := z2d (by rfl) (by rfl) K
theorem z0k.r : (type_of% @z0k.c0) ∧ (type_of% @z0k.c1) ∧ (type_of% @z0k.c2) ∧ (type_of% @z0k.call) ∧ (type_of% @z0k.put) := ⟨@z0k.c0, @z0k.c1, @z0k.c2, @z0k.call, @z0k.put⟩
structure z0b where
  Op : Int
  Dst : Int
  Src : Int
  Rec : Int
  N : Int
  To : Int
  Items : Option (List z0k)
  Index : Option (List z0k)
  deriving DecidableEq, Inhabited
def z0b.cells (x : z0b) : List AV := [.int .i64 x.Op, .int .i64 x.Dst, .int .i64 x.Src, .int .i64 x.Rec, .int .i64 x.N, .int .i64 x.To, slAV 3 (z0k.cells) x.Items, slAV 3 (z0k.cells) x.Index]
def z0b.ok (x : z0b) : Prop := okI x.Op ∧ okI x.Dst ∧ okI x.Src ∧ okI x.Rec ∧ okI x.N ∧ okI x.To ∧ (okSl (z0k.ok)) x.Items ∧ (okSl (z0k.ok)) x.Index
theorem z0b.of {cs : List AV} (h : TyA Try.prog 45 cs) : ∃ x : z0b, cs = x.cells ∧ x.ok := by
  obtain ⟨parts, rfl, hp⟩ := h.z4w Try.underlying45
  simp only [List.map_cons, List.map_nil] at hp
  obtain ⟨p0, r0, rfl, t0, hp⟩ := hp.cons_inv
  obtain ⟨p1, r1, rfl, t1, hp⟩ := hp.cons_inv
  obtain ⟨p2, r2, rfl, t2, hp⟩ := hp.cons_inv
  obtain ⟨p3, r3, rfl, t3, hp⟩ := hp.cons_inv
  obtain ⟨p4, r4, rfl, t4, hp⟩ := hp.cons_inv
  obtain ⟨p5, r5, rfl, t5, hp⟩ := hp.cons_inv
  obtain ⟨p6, r6, rfl, t6, hp⟩ := hp.cons_inv
  obtain ⟨p7, r7, rfl, t7, hp⟩ := hp.cons_inv
  obtain rfl := hp.nil_inv
  obtain ⟨x0, rfl, k0⟩ := ((fun _ h => h.i64_of Try.underlying3 : ∀ cs, TyA Try.prog 3 cs → ∃ x : Int, cs = (encI) x ∧ (okI) x)) _ t0
  obtain ⟨x1, rfl, k1⟩ := ((fun _ h => h.i64_of Try.underlying3 : ∀ cs, TyA Try.prog 3 cs → ∃ x : Int, cs = (encI) x ∧ (okI) x)) _ t1
  obtain ⟨x2, rfl, k2⟩ := ((fun _ h => h.i64_of Try.underlying3 : ∀ cs, TyA Try.prog 3 cs → ∃ x : Int, cs = (encI) x ∧ (okI) x)) _ t2
  obtain ⟨x3, rfl, k3⟩ := ((fun _ h => h.i64_of Try.underlying3 : ∀ cs, TyA Try.prog 3 cs → ∃ x : Int, cs = (encI) x ∧ (okI) x)) _ t3
  obtain ⟨x4, rfl, k4⟩ := ((fun _ h => h.i64_of Try.underlying3 : ∀ cs, TyA Try.prog 3 cs → ∃ x : Int, cs = (encI) x ∧ (okI) x)) _ t4
  obtain ⟨x5, rfl, k5⟩ := ((fun _ h => h.i64_of Try.underlying3 : ∀ cs, TyA Try.prog 3 cs → ∃ x : Int, cs = (encI) x ∧ (okI) x)) _ t5
  obtain ⟨x6, rfl, k6⟩ := ((fun _ h => h.sl_of Try.underlying43 (show Try.prog.cellsOf 75 = 3 by kernel_rfl) (by omega) (fun _ h => z0k.of h) : ∀ cs, TyA Try.prog 43 cs → ∃ x : Option (List z0k), cs = (fun o => [slAV 3 (z0k.cells) o]) x ∧ (okSl (z0k.ok)) x)) _ t6
  obtain ⟨x7, rfl, k7⟩ := ((fun _ h => h.sl_of Try.underlying43 (show Try.prog.cellsOf 75 = 3 by kernel_rfl) (by omega) (fun _ h => z0k.of h) : ∀ cs, TyA Try.prog 43 cs → ∃ x : Option (List z0k), cs = (fun o => [slAV 3 (z0k.cells) o]) x ∧ (okSl (z0k.ok)) x)) _ t7
  exact ⟨⟨x0, x1, x2, x3, x4, x5, x6, x7⟩, rfl, ⟨k0, k1, k2, k3, k4, k5, k6, k7⟩⟩
theorem z0b.c0 (x : z0b) (K : AV → Prop) : z0h none x.cells 0 K = K (.int .i64 x.Op) := by simp [z0h, z0b.cells]
theorem z0b.c1 (x : z0b) (K : AV → Prop) : z0h none x.cells 1 K = K (.int .i64 x.Dst) := by simp [z0h, z0b.cells]
theorem z0b.c2 (x : z0b) (K : AV → Prop) : z0h none x.cells 2 K = K (.int .i64 x.Src) := by simp [z0h, z0b.cells]
theorem z0b.c3 (x : z0b) (K : AV → Prop) : z0h none x.cells 3 K = K (.int .i64 x.Rec) := by simp [z0h, z0b.cells]
theorem z0b.c4 (x : z0b) (K : AV → Prop) : z0h none x.cells 4 K = K (.int .i64 x.N) := by simp [z0h, z0b.cells]
theorem z0b.c5 (x : z0b) (K : AV → Prop) : z0h none x.cells 5 K = K (.int .i64 x.To) := by simp [z0h, z0b.cells]
theorem z0b.c6 (x : z0b) (K : AV → Prop) : z0h none x.cells 6 K = K (slAV 3 (z0k.cells) x.Items) := by simp [z0h, z0b.cells]
theorem z0b.c7 (x : z0b) (K : AV → Prop) : z0h none x.cells 7 K = K (slAV 3 (z0k.cells) x.Index) := by simp [z0h, z0b.cells]
theorem z0b.call (x : z0b) (K : AV → Prop) : z0h (some 8) x.cells 0 K = K (.agg x.cells) := by simp [z0h, z0b.cells]
theorem z0b.put (x : z0b) (h : z04) (ty : TypeId) (K : z04 → Prop) : z0y 8 (.ptr h.next 0) (.agg x.cells) (h.push (.row ty [.int .i64 0, .int .i64 0, .int .i64 0, .int .i64 0, .int .i64 0, .int .i64 0, .nils, .nils])) K = K (h.push (.row ty x.cells)) := z2d (by rfl) (by rfl) K
theorem z0b.r : (type_of% @z0b.c0) ∧ (type_of% @z0b.c1) ∧ (type_of% @z0b.c2) ∧ (type_of% @z0b.c3) ∧ (type_of% @z0b.c4) ∧ (type_of% @z0b.c5) ∧ (type_of% @z0b.c6) ∧ (type_of% @z0b.c7) ∧ (type_of% @z0b.call) ∧ (type_of% @z0b.put) := ⟨@z0b.c0, @z0b.c1, @z0b.c2, @z0b.c3, @z0b.c4, @z0b.c5, @z0b.c6, @z0b.c7, @z0b.call, @z0b.put⟩
structure z0z where
  Slots : Option (List z0f)
  Code : Option (List z0b)
  Most : Int
  deriving DecidableEq, Inhabited
def z0z.cells (x : z0z) : List AV := [slAV 3 (z0f.cells) x.Slots, slAV 8 (z0b.cells) x.Code, .int .i64 x.Most]
def z0z.ok (x : z0z) : Prop := (okSl (z0f.ok)) x.Slots ∧ (okSl (z0b.ok)) x.Code ∧ okI x.Most
theorem z0z.of {cs : List AV} (h : TyA Try.prog 49 cs) : ∃ x : z0z, cs = x.cells ∧ x.ok := by
  obtain ⟨parts, rfl, hp⟩ := h.z4w Try.underlying49
  simp only [List.map_cons, List.map_nil] at hp
  obtain ⟨p0, r0, rfl, t0, hp⟩ := hp.cons_inv
  obtain ⟨p1, r1, rfl, t1, hp⟩ := hp.cons_inv
  obtain ⟨p2, r2, rfl, t2, hp⟩ := hp.cons_inv
  obtain rfl := hp.nil_inv
  obtain ⟨x0, rfl, k0⟩ := ((fun _ h => h.sl_of Try.underlying23 (show Try.prog.cellsOf 53 = 3 by kernel_rfl) (by omega) (fun _ h => z0f.of h) : ∀ cs, TyA Try.prog 23 cs → ∃ x : Option (List z0f), cs = (fun o => [slAV 3 (z0f.cells) o]) x ∧ (okSl (z0f.ok)) x)) _ t0
  obtain ⟨x1, rfl, k1⟩ := ((fun _ h => h.sl_of Try.underlying35 (show Try.prog.cellsOf 45 = 8 by kernel_rfl) (by omega) (fun _ h => z0b.of h) : ∀ cs, TyA Try.prog 35 cs → ∃ x : Option (List z0b), cs = (fun o => [slAV 8 (z0b.cells) o]) x ∧ (okSl (z0b.ok)) x)) _ t1
  obtain ⟨x2, rfl, k2⟩ := ((fun _ h => h.i64_of Try.underlying3 : ∀ cs, TyA Try.prog 3 cs → ∃ x : Int, cs = (encI) x ∧ (okI) x)) _ t2
  exact ⟨⟨x0, x1, x2⟩, rfl, ⟨k0, k1, k2⟩⟩
theorem z0z.c0 (x : z0z) (K : AV → Prop) : z0h none x.cells 0 K = K (slAV 3 (z0f.cells) x.Slots) := by simp [z0h, z0z.cells]
theorem z0z.c1 (x : z0z) (K : AV → Prop) : z0h none x.cells 1 K = K (slAV 8 (z0b.cells) x.Code) := by simp [z0h, z0z.cells]
theorem z0z.c2 (x : z0z) (K : AV → Prop) : z0h none x.cells 2 K = K (.int .i64 x.Most) := by simp [z0h, z0z.cells]
theorem z0z.call (x : z0z) (K : AV → Prop) : z0h (some 3) x.cells 0 K = K (.agg x.cells) := by simp [z0h, z0z.cells]
theorem z0z.put (x : z0z) (h : z04) (ty : TypeId) (K : z04 → Prop) : z0y 3 (.ptr h.next 0) (.agg x.cells) (h.push (.row ty [.nils, .nils, .int .i64 0])) K = K (h.push (.row ty x.cells)) := z2d (by rfl) (by rfl) K
theorem z0z.r : (type_of% @z0z.c0) ∧ (type_of% @z0z.c1) ∧ (type_of% @z0z.c2) ∧ (type_of% @z0z.call) ∧ (type_of% @z0z.put) := ⟨@z0z.c0, @z0z.c1, @z0z.c2, @z0z.call, @z0z.put⟩
structure z15 where
  Thread : Int
  At : Int
  Rec : Int
  deriving DecidableEq, Inhabited
def z15.cells (x : z15) : List AV := [.int .i64 x.Thread, .int .i64 x.At, .int .i64 x.Rec]
def z15.ok (x : z15) : Prop := okI x.Thread ∧ okI x.At ∧ okI x.Rec
theorem z15.of {cs : List AV} (h : TyA Try.prog 64 cs) : ∃ x : z15, cs = x.cells ∧ x.ok := by
  obtain ⟨parts, rfl, hp⟩ := h.z4w Try.underlying64
  simp only [List.map_cons, List.map_nil] at hp
  obtain ⟨p0, r0, rfl, t0, hp⟩ := hp.cons_inv
  obtain ⟨p1, r1, rfl, t1, hp⟩ := hp.cons_inv
  obtain ⟨p2, r2, rfl, t2, hp⟩ := hp.cons_inv
  obtain rfl := hp.nil_inv
  obtain ⟨x0, rfl, k0⟩ := ((fun _ h => h.i64_of Try.underlying3 : ∀ cs, TyA Try.prog 3 cs → ∃ x : Int, cs = (encI) x ∧ (okI) x)) _ t0
  obtain ⟨x1, rfl, k1⟩ := ((fun _ h => h.i64_of Try.underlying3 : ∀ cs, TyA Try.prog 3 cs → ∃ x : Int, cs = (encI) x ∧ (okI) x)) _ t1
  obtain ⟨x2, rfl, k2⟩ := ((fun _ h => h.i64_of Try.underlying3 : ∀ cs, TyA Try.prog 3 cs → ∃ x : Int, cs = (encI) x ∧ (okI) x)) _ t2
  exact ⟨⟨x0, x1, x2⟩, rfl, ⟨k0, k1, k2⟩⟩
theorem z15.c0 (x : z15) (K : AV → Prop) : z0h none x.cells 0 K = K (.int .i64 x.Thread) := by simp [z0h, z15.cells]
theorem z15.c1 (x : z15) (K : AV → Prop) : z0h none x.cells 1 K = K (.int .i64 x.At) := by simp [z0h, z15.cells]
theorem z15.c2 (x : z15) (K : AV → Prop) : z0h none x.cells 2 K = K (.int .i64 x.Rec) := by simp [z0h, z15.cells]
theorem z15.call (x : z15) (K : AV → Prop) : z0h (some 3) x.cells 0 K = K (.agg x.cells) := by simp [z0h, z15.cells]
theorem z15.put (x : z15) (h : z04) (ty : TypeId) (K : z04 → Prop) : z0y 3 (.ptr h.next 0) (.agg x.cells) (h.push (.row ty [.int .i64 0, .int .i64 0, .int .i64 0])) K = K (h.push (.row ty x.cells)) := z2d (by rfl) (by rfl) K
theorem z15.r : (type_of% @z15.c0) ∧ (type_of% @z15.c1) ∧ (type_of% @z15.c2) ∧ (type_of% @z15.call) ∧ (type_of% @z15.put) := ⟨@z15.c0, @z15.c1, @z15.c2, @z15.call, @z15.put⟩
structure z0e where
  Thread : Int
  From : Int
  To : Int
  deriving DecidableEq, Inhabited
def z0e.cells (x : z0e) : List AV := [.int .i64 x.Thread, .int .i64 x.From, .int .i64 x.To]
def z0e.ok (x : z0e) : Prop := okI x.Thread ∧ okI x.From ∧ okI x.To
theorem z0e.of {cs : List AV} (h : TyA Try.prog 51 cs) : ∃ x : z0e, cs = x.cells ∧ x.ok := by
  obtain ⟨parts, rfl, hp⟩ := h.z4w Try.underlying51
  simp only [List.map_cons, List.map_nil] at hp
  obtain ⟨p0, r0, rfl, t0, hp⟩ := hp.cons_inv
  obtain ⟨p1, r1, rfl, t1, hp⟩ := hp.cons_inv
  obtain ⟨p2, r2, rfl, t2, hp⟩ := hp.cons_inv
  obtain rfl := hp.nil_inv
  obtain ⟨x0, rfl, k0⟩ := ((fun _ h => h.i64_of Try.underlying3 : ∀ cs, TyA Try.prog 3 cs → ∃ x : Int, cs = (encI) x ∧ (okI) x)) _ t0
  obtain ⟨x1, rfl, k1⟩ := ((fun _ h => h.i64_of Try.underlying3 : ∀ cs, TyA Try.prog 3 cs → ∃ x : Int, cs = (encI) x ∧ (okI) x)) _ t1
  obtain ⟨x2, rfl, k2⟩ := ((fun _ h => h.i64_of Try.underlying3 : ∀ cs, TyA Try.prog 3 cs → ∃ x : Int, cs = (encI) x ∧ (okI) x)) _ t2
  exact ⟨⟨x0, x1, x2⟩, rfl, ⟨k0, k1, k2⟩⟩
theorem z0e.c0 (x : z0e) (K : AV → Prop) : z0h none x.cells 0 K = K (.int .i64 x.Thread) := by simp [z0h, z0e.cells]
theorem z0e.c1 (x : z0e) (K : AV → Prop) : z0h none x.cells 1 K = K (.int .i64 x.From) := by simp [z0h, z0e.cells]
theorem z0e.c2 (x : z0e) (K : AV → Prop) : z0h none x.cells 2 K = K (.int .i64 x.To) := by simp [z0h, z0e.cells]
theorem z0e.call (x : z0e) (K : AV → Prop) : z0h (some 3) x.cells 0 K = K (.agg x.cells) := by simp [z0h, z0e.cells]
theorem z0e.put (x : z0e) (h : z04) (ty : TypeId) (K : z04 → Prop) : z0y 3 (.ptr h.next 0) (.agg x.cells) (h.push (.row ty [.int .i64 0, .int .i64 0, .int .i64 0])) K = K (h.push (.row ty x.cells)) := z2d (by rfl) (by rfl) K
theorem z0e.r : (type_of% @z0e.c0) ∧ (type_of% @z0e.c1) ∧ (type_of% @z0e.c2) ∧ (type_of% @z0e.call) ∧ (type_of% @z0e.put) := ⟨@z0e.c0, @z0e.c1, @z0e.c2, @z0e.call, @z0e.put⟩
structure z0n where
  Records : Option (List (Option (List z0f)))
  Globals : Option (List z0f)
  Threads : Option (List z0z)
  Sites : Option (List z15)
  Sections : Option (List z0e)
  deriving DecidableEq, Inhabited
def z0n.cells (x : z0n) : List AV := [slAV 1 (fun o => [slAV 3 (z0f.cells) o]) x.Records, slAV 3 (z0f.cells) x.Globals, slAV 3 (z0z.cells) x.Threads, slAV 3 (z15.cells) x.Sites, slAV 3 (z0e.cells) x.Sections]
def z0n.ok (x : z0n) : Prop := (okSl (okSl (z0f.ok))) x.Records ∧ (okSl (z0f.ok)) x.Globals ∧ (okSl (z0z.ok)) x.Threads ∧ (okSl (z15.ok)) x.Sites ∧ (okSl (z0e.ok)) x.Sections
theorem z0n.of {cs : List AV} (h : TyA Try.prog 28 cs) : ∃ x : z0n, cs = x.cells ∧ x.ok := by
  obtain ⟨parts, rfl, hp⟩ := h.z4w Try.underlying28
  simp only [List.map_cons, List.map_nil] at hp
  obtain ⟨p0, r0, rfl, t0, hp⟩ := hp.cons_inv
  obtain ⟨p1, r1, rfl, t1, hp⟩ := hp.cons_inv
  obtain ⟨p2, r2, rfl, t2, hp⟩ := hp.cons_inv
  obtain ⟨p3, r3, rfl, t3, hp⟩ := hp.cons_inv
  obtain ⟨p4, r4, rfl, t4, hp⟩ := hp.cons_inv
  obtain rfl := hp.nil_inv
  obtain ⟨x0, rfl, k0⟩ := ((fun _ h => h.sl_of Try.underlying22 (show Try.prog.cellsOf 23 = 1 by kernel_rfl) (by omega) (fun _ h => h.sl_of Try.underlying23 (show Try.prog.cellsOf 53 = 3 by kernel_rfl) (by omega) (fun _ h => z0f.of h)) : ∀ cs, TyA Try.prog 22 cs → ∃ x : Option (List (Option (List z0f))), cs = (fun o => [slAV 1 (fun o => [slAV 3 (z0f.cells) o]) o]) x ∧ (okSl (okSl (z0f.ok))) x)) _ t0
  obtain ⟨x1, rfl, k1⟩ := ((fun _ h => h.sl_of Try.underlying23 (show Try.prog.cellsOf 53 = 3 by kernel_rfl) (by omega) (fun _ h => z0f.of h) : ∀ cs, TyA Try.prog 23 cs → ∃ x : Option (List z0f), cs = (fun o => [slAV 3 (z0f.cells) o]) x ∧ (okSl (z0f.ok)) x)) _ t1
  obtain ⟨x2, rfl, k2⟩ := ((fun _ h => h.sl_of Try.underlying24 (show Try.prog.cellsOf 49 = 3 by kernel_rfl) (by omega) (fun _ h => z0z.of h) : ∀ cs, TyA Try.prog 24 cs → ∃ x : Option (List z0z), cs = (fun o => [slAV 3 (z0z.cells) o]) x ∧ (okSl (z0z.ok)) x)) _ t2
  obtain ⟨x3, rfl, k3⟩ := ((fun _ h => h.sl_of Try.underlying25 (show Try.prog.cellsOf 64 = 3 by kernel_rfl) (by omega) (fun _ h => z15.of h) : ∀ cs, TyA Try.prog 25 cs → ∃ x : Option (List z15), cs = (fun o => [slAV 3 (z15.cells) o]) x ∧ (okSl (z15.ok)) x)) _ t3
  obtain ⟨x4, rfl, k4⟩ := ((fun _ h => h.sl_of Try.underlying26 (show Try.prog.cellsOf 51 = 3 by kernel_rfl) (by omega) (fun _ h => z0e.of h) : ∀ cs, TyA Try.prog 26 cs → ∃ x : Option (List z0e), cs = (fun o => [slAV 3 (z0e.cells) o]) x ∧ (okSl (z0e.ok)) x)) _ t4
  exact ⟨⟨x0, x1, x2, x3, x4⟩, rfl, ⟨k0, k1, k2, k3, k4⟩⟩
theorem z0n.c0 (x : z0n) (K : AV → Prop) : z0h none x.cells 0 K = K (slAV 1 (fun o => [slAV 3 (z0f.cells) o]) x.Records) := by simp [z0h, z0n.cells]
theorem z0n.c1 (x : z0n) (K : AV → Prop) : z0h none x.cells 1 K = K (slAV 3 (z0f.cells) x.Globals) := by simp [z0h, z0n.cells]
theorem z0n.c2 (x : z0n) (K : AV → Prop) : z0h none x.cells 2 K = K (slAV 3 (z0z.cells) x.Threads) := by simp [z0h, z0n.cells]
theorem z0n.c3 (x : z0n) (K : AV → Prop) : z0h none x.cells 3 K = K (slAV 3 (z15.cells) x.Sites) := by simp [z0h, z0n.cells]
theorem z0n.c4 (x : z0n) (K : AV → Prop) : z0h none x.cells 4 K = K (slAV 3 (z0e.cells) x.Sections) := by simp [z0h, z0n.cells]
theorem z0n.call (x : z0n) (K : AV → Prop) : z0h (some 5) x.cells 0 K = K (.agg x.cells) := by simp [z0h, z0n.cells]
theorem z0n.put (x : z0n) (h : z04) (ty : TypeId) (K : z04 → Prop) : z0y 5 (.ptr h.next 0) (.agg x.cells) (h.push (.row ty [.nils, .nils, .nils, .nils, .nils])) K = K (h.push (.row ty x.cells)) := z2d (by rfl) (by rfl) K
theorem z0n.r : (type_of% @z0n.c0) ∧ (type_of% @z0n.c1) ∧ (type_of% @z0n.c2) ∧ (type_of% @z0n.c3) ∧ (type_of% @z0n.c4) ∧ (type_of% @z0n.call) ∧ (type_of% @z0n.put) := ⟨@z0n.c0, @z0n.c1, @z0n.c2, @z0n.c3, @z0n.c4, @z0n.call, @z0n.put⟩
theorem PathIs_args {xs : List AV} (h : TyVs Try.prog Try.f3.params.toList xs) : ∃ (x0 : z0n) (x1 : Int), xs = [.agg x0.cells, .int .i64 x1] ∧ (z0n.ok) x0 ∧ (okI) x1 := by
  rw [Try.params3] at h
  obtain ⟨a0, b0, rfl, h0, h⟩ := h.cons_inv
  obtain ⟨a1, b1, rfl, h1, h⟩ := h.cons_inv
  obtain rfl := h.nil_inv
  obtain ⟨x0, rfl, k0⟩ := h0.agg_of (by kernel_rfl) (fun _ h => z0n.of h : ∀ cs, TyA Try.prog 28 cs → ∃ x : z0n, cs = (z0n.cells) x ∧ (z0n.ok) x)
  obtain ⟨x1, rfl, k1⟩ := h1.one_of (enc := fun x => .int .i64 x) (by kernel_rfl) (fun _ h => h.i64_of Try.underlying3 : ∀ cs, TyA Try.prog 3 cs → ∃ x : Int, cs = (encI) x ∧ (okI) x)
  exact ⟨x0, x1, rfl, k0, k1⟩
theorem PathKeeps_args {xs : List AV} (h : TyVs Try.prog Try.f4.params.toList xs) : ∃ (x0 : z0n) (x1 : Int), xs = [.agg x0.cells, .int .i64 x1] ∧ (z0n.ok) x0 ∧ (okI) x1 := by
  rw [Try.params4] at h
  obtain ⟨a0, b0, rfl, h0, h⟩ := h.cons_inv
  obtain ⟨a1, b1, rfl, h1, h⟩ := h.cons_inv
  obtain rfl := h.nil_inv
  obtain ⟨x0, rfl, k0⟩ := h0.agg_of (by kernel_rfl) (fun _ h => z0n.of h : ∀ cs, TyA Try.prog 28 cs → ∃ x : z0n, cs = (z0n.cells) x ∧ (z0n.ok) x)
  obtain ⟨x1, rfl, k1⟩ := h1.one_of (enc := fun x => .int .i64 x) (by kernel_rfl) (fun _ h => h.i64_of Try.underlying3 : ∀ cs, TyA Try.prog 3 cs → ∃ x : Int, cs = (encI) x ∧ (okI) x)
  exact ⟨x0, x1, rfl, k0, k1⟩
structure z0w where
  Global : Bool
  N : Int
  Fields : Option (List Int)
  deriving DecidableEq, Inhabited
def z0w.cells (x : z0w) : List AV := [.bool x.Global, .int .i64 x.N, slAV 1 (encI) x.Fields]
def z0w.ok (x : z0w) : Prop := okT x.Global ∧ okI x.N ∧ (okSl (okI)) x.Fields
theorem z0w.of {cs : List AV} (h : TyA Try.prog 39 cs) : ∃ x : z0w, cs = x.cells ∧ x.ok := by
  obtain ⟨parts, rfl, hp⟩ := h.z4w Try.underlying39
  simp only [List.map_cons, List.map_nil] at hp
  obtain ⟨p0, r0, rfl, t0, hp⟩ := hp.cons_inv
  obtain ⟨p1, r1, rfl, t1, hp⟩ := hp.cons_inv
  obtain ⟨p2, r2, rfl, t2, hp⟩ := hp.cons_inv
  obtain rfl := hp.nil_inv
  obtain ⟨x0, rfl, k0⟩ := ((fun _ h => h.bool_of Try.underlying4 : ∀ cs, TyA Try.prog 4 cs → ∃ x : Bool, cs = (encT) x ∧ (okT) x)) _ t0
  obtain ⟨x1, rfl, k1⟩ := ((fun _ h => h.i64_of Try.underlying3 : ∀ cs, TyA Try.prog 3 cs → ∃ x : Int, cs = (encI) x ∧ (okI) x)) _ t1
  obtain ⟨x2, rfl, k2⟩ := ((fun _ h => h.sl_of Try.underlying37 (show Try.prog.cellsOf 3 = 1 by kernel_rfl) (by omega) (fun _ h => h.i64_of Try.underlying3) : ∀ cs, TyA Try.prog 37 cs → ∃ x : Option (List Int), cs = (fun o => [slAV 1 (encI) o]) x ∧ (okSl (okI)) x)) _ t2
  exact ⟨⟨x0, x1, x2⟩, rfl, ⟨k0, k1, k2⟩⟩
theorem z0w.c0 (x : z0w) (K : AV → Prop) : z0h none x.cells 0 K = K (.bool x.Global) := by simp [z0h, z0w.cells]
theorem z0w.c1 (x : z0w) (K : AV → Prop) : z0h none x.cells 1 K = K (.int .i64 x.N) := by simp [z0h, z0w.cells]
theorem z0w.c2 (x : z0w) (K : AV → Prop) : z0h none x.cells 2 K = K (slAV 1 (encI) x.Fields) := by simp [z0h, z0w.cells]
theorem z0w.call (x : z0w) (K : AV → Prop) : z0h (some 3) x.cells 0 K = K (.agg x.cells) := by simp [z0h, z0w.cells]
theorem z0w.put (x : z0w) (h : z04) (ty : TypeId) (K : z04 → Prop) : z0y 3 (.ptr h.next 0) (.agg x.cells) (h.push (.row ty [.bool false, .int .i64 0, .nils])) K = K (h.push (.row ty x.cells)) := z2d (by rfl) (by rfl) K
theorem z0w.r : (type_of% @z0w.c0) ∧ (type_of% @z0w.c1) ∧ (type_of% @z0w.c2) ∧ (type_of% @z0w.call) ∧ (type_of% @z0w.put) := ⟨@z0w.c0, @z0w.c1, @z0w.c2, @z0w.call, @z0w.put⟩
theorem PathSame_args {xs : List AV} (h : TyVs Try.prog Try.f5.params.toList xs) : ∃ (x0 : z0w) (x1 : z0w), xs = [.agg x0.cells, .agg x1.cells] ∧ (z0w.ok) x0 ∧ (z0w.ok) x1 := by
  rw [Try.params5] at h
  obtain ⟨a0, b0, rfl, h0, h⟩ := h.cons_inv
  obtain ⟨a1, b1, rfl, h1, h⟩ := h.cons_inv
  obtain rfl := h.nil_inv
  obtain ⟨x0, rfl, k0⟩ := h0.agg_of (by kernel_rfl) (fun _ h => z0w.of h : ∀ cs, TyA Try.prog 39 cs → ∃ x : z0w, cs = (z0w.cells) x ∧ (z0w.ok) x)
  obtain ⟨x1, rfl, k1⟩ := h1.agg_of (by kernel_rfl) (fun _ h => z0w.of h : ∀ cs, TyA Try.prog 39 cs → ∃ x : z0w, cs = (z0w.cells) x ∧ (z0w.ok) x)
  exact ⟨x0, x1, rfl, k0, k1⟩
theorem PathSlots_args {xs : List AV} (h : TyVs Try.prog Try.f6.params.toList xs) : ∃ (x0 : z0n) (x1 : Int), xs = [.agg x0.cells, .int .i64 x1] ∧ (z0n.ok) x0 ∧ (okI) x1 := by
  rw [Try.params6] at h
  obtain ⟨a0, b0, rfl, h0, h⟩ := h.cons_inv
  obtain ⟨a1, b1, rfl, h1, h⟩ := h.cons_inv
  obtain rfl := h.nil_inv
  obtain ⟨x0, rfl, k0⟩ := h0.agg_of (by kernel_rfl) (fun _ h => z0n.of h : ∀ cs, TyA Try.prog 28 cs → ∃ x : z0n, cs = (z0n.cells) x ∧ (z0n.ok) x)
  obtain ⟨x1, rfl, k1⟩ := h1.one_of (enc := fun x => .int .i64 x) (by kernel_rfl) (fun _ h => h.i64_of Try.underlying3 : ∀ cs, TyA Try.prog 3 cs → ∃ x : Int, cs = (encI) x ∧ (okI) x)
  exact ⟨x0, x1, rfl, k0, k1⟩
structure z0g where
  Code : z0n
  thread : Int
  body : z0z
  deriving DecidableEq, Inhabited
def z0g.cells (x : z0g) : List AV := [slAV 1 (fun o => [slAV 3 (z0f.cells) o]) x.Code.Records, slAV 3 (z0f.cells) x.Code.Globals, slAV 3 (z0z.cells) x.Code.Threads, slAV 3 (z15.cells) x.Code.Sites, slAV 3 (z0e.cells) x.Code.Sections, .int .i64 x.thread, slAV 3 (z0f.cells) x.body.Slots, slAV 8 (z0b.cells) x.body.Code, .int .i64 x.body.Most]
def z0g.ok (x : z0g) : Prop := z0n.ok x.Code ∧ okI x.thread ∧ z0z.ok x.body
theorem z0g.of {cs : List AV} (h : TyA Try.prog 69 cs) : ∃ x : z0g, cs = x.cells ∧ x.ok := by
  obtain ⟨parts, rfl, hp⟩ := h.z4w Try.underlying69
  simp only [List.map_cons, List.map_nil] at hp
  obtain ⟨p0, r0, rfl, t0, hp⟩ := hp.cons_inv
  obtain ⟨p1, r1, rfl, t1, hp⟩ := hp.cons_inv
  obtain ⟨p2, r2, rfl, t2, hp⟩ := hp.cons_inv
  obtain rfl := hp.nil_inv
  obtain ⟨x0, rfl, k0⟩ := ((fun _ h => z0n.of h : ∀ cs, TyA Try.prog 28 cs → ∃ x : z0n, cs = (z0n.cells) x ∧ (z0n.ok) x)) _ t0
  obtain ⟨x1, rfl, k1⟩ := ((fun _ h => h.i64_of Try.underlying3 : ∀ cs, TyA Try.prog 3 cs → ∃ x : Int, cs = (encI) x ∧ (okI) x)) _ t1
  obtain ⟨x2, rfl, k2⟩ := ((fun _ h => z0z.of h : ∀ cs, TyA Try.prog 49 cs → ∃ x : z0z, cs = (z0z.cells) x ∧ (z0z.ok) x)) _ t2
  exact ⟨⟨x0, x1, x2⟩, rfl, ⟨k0, k1, k2⟩⟩
theorem z0g.c0 (x : z0g) (K : AV → Prop) : z0h none x.cells 0 K = K (slAV 1 (fun o => [slAV 3 (z0f.cells) o]) x.Code.Records) := by simp [z0h, z0g.cells, z0n.cells, z0z.cells]
theorem z0g.c1 (x : z0g) (K : AV → Prop) : z0h none x.cells 1 K = K (slAV 3 (z0f.cells) x.Code.Globals) := by simp [z0h, z0g.cells, z0n.cells, z0z.cells]
theorem z0g.c2 (x : z0g) (K : AV → Prop) : z0h none x.cells 2 K = K (slAV 3 (z0z.cells) x.Code.Threads) := by simp [z0h, z0g.cells, z0n.cells, z0z.cells]
theorem z0g.c3 (x : z0g) (K : AV → Prop) : z0h none x.cells 3 K = K (slAV 3 (z15.cells) x.Code.Sites) := by simp [z0h, z0g.cells, z0n.cells, z0z.cells]
theorem z0g.c4 (x : z0g) (K : AV → Prop) : z0h none x.cells 4 K = K (slAV 3 (z0e.cells) x.Code.Sections) := by simp [z0h, z0g.cells, z0n.cells, z0z.cells]
theorem z0g.c5 (x : z0g) (K : AV → Prop) : z0h none x.cells 5 K = K (.int .i64 x.thread) := by simp [z0h, z0g.cells, z0n.cells, z0z.cells]
theorem z0g.c6 (x : z0g) (K : AV → Prop) : z0h none x.cells 6 K = K (slAV 3 (z0f.cells) x.body.Slots) := by simp [z0h, z0g.cells, z0n.cells, z0z.cells]
theorem z0g.c7 (x : z0g) (K : AV → Prop) : z0h none x.cells 7 K = K (slAV 8 (z0b.cells) x.body.Code) := by simp [z0h, z0g.cells, z0n.cells, z0z.cells]
theorem z0g.c8 (x : z0g) (K : AV → Prop) : z0h none x.cells 8 K = K (.int .i64 x.body.Most) := by simp [z0h, z0g.cells, z0n.cells, z0z.cells]
theorem z0g.call (x : z0g) (K : AV → Prop) : z0h (some 9) x.cells 0 K = K (.agg x.cells) := by simp [z0h, z0g.cells, z0n.cells, z0z.cells]
theorem z0g.cs0_5 (x : z0g) (K : AV → Prop) : z0h (some 5) x.cells 0 K = K (.agg x.Code.cells) := by simp [z0h, z0g.cells, z0n.cells, z0z.cells]
theorem z0g.cs6_3 (x : z0g) (K : AV → Prop) : z0h (some 3) x.cells 6 K = K (.agg x.body.cells) := by simp [z0h, z0g.cells, z0n.cells, z0z.cells]
theorem z0g.put (x : z0g) (h : z04) (ty : TypeId) (K : z04 → Prop) : z0y 9 (.ptr h.next 0) (.agg x.cells) (h.push (.row ty [.nils, .nils, .nils, .nils, .nils, .int .i64 0, .nils, .nils, .int .i64 0])) K = K (h.push (.row ty x.cells)) := z2d (by rfl) (by rfl) K
theorem z0g.r : (type_of% @z0g.c0) ∧ (type_of% @z0g.c1) ∧ (type_of% @z0g.c2) ∧ (type_of% @z0g.c3) ∧ (type_of% @z0g.c4) ∧ (type_of% @z0g.c5) ∧ (type_of% @z0g.c6) ∧ (type_of% @z0g.c7) ∧ (type_of% @z0g.c8) ∧ (type_of% @z0g.call) ∧ (type_of% @z0g.cs0_5) ∧ (type_of% @z0g.cs6_3) ∧ (type_of% @z0g.put) := ⟨@z0g.c0, @z0g.c1, @z0g.c2, @z0g.c3, @z0g.c4, @z0g.c5, @z0g.c6, @z0g.c7, @z0g.c8, @z0g.call, @z0g.cs0_5, @z0g.cs6_3, @z0g.put⟩
structure z0l where
  Kind : Int
  Path : z0w
  deriving DecidableEq, Inhabited
def z0l.cells (x : z0l) : List AV := [.int .i64 x.Kind, .bool x.Path.Global, .int .i64 x.Path.N, slAV 1 (encI) x.Path.Fields]
def z0l.ok (x : z0l) : Prop := okI x.Kind ∧ z0w.ok x.Path
theorem z0l.of {cs : List AV} (h : TyA Try.prog 41 cs) : ∃ x : z0l, cs = x.cells ∧ x.ok := by
  obtain ⟨parts, rfl, hp⟩ := h.z4w Try.underlying41
  simp only [List.map_cons, List.map_nil] at hp
  obtain ⟨p0, r0, rfl, t0, hp⟩ := hp.cons_inv
  obtain ⟨p1, r1, rfl, t1, hp⟩ := hp.cons_inv
  obtain rfl := hp.nil_inv
  obtain ⟨x0, rfl, k0⟩ := ((fun _ h => h.i64_of Try.underlying3 : ∀ cs, TyA Try.prog 3 cs → ∃ x : Int, cs = (encI) x ∧ (okI) x)) _ t0
  obtain ⟨x1, rfl, k1⟩ := ((fun _ h => z0w.of h : ∀ cs, TyA Try.prog 39 cs → ∃ x : z0w, cs = (z0w.cells) x ∧ (z0w.ok) x)) _ t1
  exact ⟨⟨x0, x1⟩, rfl, ⟨k0, k1⟩⟩
theorem z0l.c0 (x : z0l) (K : AV → Prop) : z0h none x.cells 0 K = K (.int .i64 x.Kind) := by simp [z0h, z0l.cells, z0w.cells]
theorem z0l.c1 (x : z0l) (K : AV → Prop) : z0h none x.cells 1 K = K (.bool x.Path.Global) := by simp [z0h, z0l.cells, z0w.cells]
theorem z0l.c2 (x : z0l) (K : AV → Prop) : z0h none x.cells 2 K = K (.int .i64 x.Path.N) := by simp [z0h, z0l.cells, z0w.cells]
theorem z0l.c3 (x : z0l) (K : AV → Prop) : z0h none x.cells 3 K = K (slAV 1 (encI) x.Path.Fields) := by simp [z0h, z0l.cells, z0w.cells]
theorem z0l.call (x : z0l) (K : AV → Prop) : z0h (some 4) x.cells 0 K = K (.agg x.cells) := by simp [z0h, z0l.cells, z0w.cells]
theorem z0l.cs1_3 (x : z0l) (K : AV → Prop) : z0h (some 3) x.cells 1 K = K (.agg x.Path.cells) := by simp [z0h, z0l.cells, z0w.cells]
theorem z0l.put (x : z0l) (h : z04) (ty : TypeId) (K : z04 → Prop) : z0y 4 (.ptr h.next 0) (.agg x.cells) (h.push (.row ty [.int .i64 0, .bool false, .int .i64 0, .nils])) K = K (h.push (.row ty x.cells)) := z2d (by rfl) (by rfl) K
theorem z0l.r : (type_of% @z0l.c0) ∧ (type_of% @z0l.c1) ∧ (type_of% @z0l.c2) ∧ (type_of% @z0l.c3) ∧ (type_of% @z0l.call) ∧ (type_of% @z0l.cs1_3) ∧ (type_of% @z0l.put) := ⟨@z0l.c0, @z0l.c1, @z0l.c2, @z0l.c3, @z0l.call, @z0l.cs1_3, @z0l.put⟩
theorem tyr : (type_of% @z0f.r) ∧ (type_of% @z0k.r) ∧ (type_of% @z0b.r) ∧ (type_of% @z0z.r) ∧ (type_of% @z15.r) ∧ (type_of% @z0e.r) ∧ (type_of% @z0n.r) ∧ (type_of% @z0w.r) ∧ (type_of% @z0g.r) ∧ (type_of% @z0l.r) := ⟨@z0f.r, @z0k.r, @z0b.r, @z0z.r, @z15.r, @z0e.r, @z0n.r, @z0w.r, @z0g.r, @z0l.r⟩
end Go.Proofs.Ytnggcokgnblpgaa
end

section
/- The conditions of the functions, computed: each theorem says what suffices for a call's contract, or for a loop's round. -/
set_option maxRecDepth 100000
namespace Go.Proofs.Ytnggcokgnblpgaa
open Go.Abs
theorem z0v : Try.prog.follows .mixedOrders = true := by kernel_rfl
/- slices.IndexFunc[[]padlock/api.Local,padlock/api.Local] -/
noncomputable def z2z : Code := (Try.f44.body).getD .skip
noncomputable def z3a : Cfg := { ch := fun d => List.contains [7, 16] d, lv := fun k => ((List.lookup k ([(2, [0, 1, 7, 8])] : List (Nat × List Nat))).getD []), cut := fun k => List.contains [] k, rc := fun i n => none }
noncomputable def z2r : Code := (z2a 2 z2z).getD .skip
theorem slices_IndexFunc_api_Local_api_Local_wp (a0 a1 : AV) (h : z04) (R : AV → z04 → Prop) (H :
 pLen .slice a0 (later (fun v1 =>
 WP Try.prog 19 (Code.loop z2r) (frOf [(0, a0), (1, a1), (7, v1), (8, .int .i64 0)]) h (z1q (later (fun fr2 h3 =>
 False) ()) (later (fun x4 fr5 h6 =>
 pIdx x4 0 (pIdx 0 0 (R (.int .i64 (-1)) h6) False) False) ()) (later (fun fr7 h8 =>
 R (fr7 4) h8) ()))) ())) : z03 Try.prog 44 [a0, a1] h R :=
 z0j z3a z0v Try.func44 (show Try.f44.body = some z2z by kernel_rfl) Try.ntmps44 (by kernel_rfl) (Nat.le_of_ble_eq_true rfl) Try.call44 (Eq.mpr (by kernel_rfl) H)
theorem z4v (s0 s1 s7 s8 : AV) (h : z04) (Q : z1j → Fr → z04 → Prop) (H :
 z08 (binA .other .lss s8 s7) (later (fun v1 =>
 z0p v1 (z09 (.slice 3) s0 s8 (later (fun v2 =>
 z02 (some 3) v2 h (later (fun v3 =>
 pCallF Try.prog s1 [v3] h (later (fun v4 h5 =>
 z0p v4 (Q .ret (frOf [(4, s8)]) h5) (z08 (binA .other .add s8 (.int .i64 1)) (later (fun v6 =>
 Q .normal (frOf [(0, s0), (1, s1), (7, s7), (8, v6)]) h5) ()))) ())) ())) ())) (Q (.exit 0) (frOf []) h)) ())) : WP Try.prog 19 z2r (frOf [(0, s0), (1, s1), (7, s7), (8, s8)]) h Q :=
 z1t z3a [0] [0, 1, 7, 8] [] [4] z0v (by kernel_rfl) (Eq.mpr (by kernel_rfl) H)
/- slices.ContainsFunc[[]padlock/api.Local,padlock/api.Local] -/
noncomputable def z4y : Code := (Try.f36.body).getD .skip
noncomputable def z5a : Cfg := { ch := fun d => List.contains [7] d, lv := fun k => ((List.lookup k ([] : List (Nat × List Nat))).getD []), cut := fun k => List.contains [] k, rc := fun i n => none }
theorem z2n (a0 a1 : AV) (h : z04) (R : AV → z04 → Prop) (H :
 z03 Try.prog 44 [a0, a1] h (later (fun v1 h2 =>
 z08 (binA .other .geq v1 (.int .i64 0)) (later (fun v3 =>
 R v3 h2) ())) ())) : z03 Try.prog 36 [a0, a1] h R :=
 z0j z5a z0v Try.func36 (show Try.f36.body = some z4y by kernel_rfl) Try.ntmps36 (by kernel_rfl) (Nat.le_of_ble_eq_true rfl) Try.call36 (Eq.mpr (by kernel_rfl) H)
/- padlock/code.between -/
noncomputable def c_code_between : Code := (Try.f39.body).getD .skip
noncomputable def g_code_between : Cfg := { ch := fun d => List.contains [] d, lv := fun k => ((List.lookup k ([] : List (Nat × List Nat))).getD []), cut := fun k => List.contains [] k, rc := fun i n => none }
theorem code_between_wp (a0 a1 : AV) (h : z04) (R : AV → z04 → Prop) (H :
 z08 (binA .other .geq a0 (.int .i64 0)) (later (fun v1 =>
 z07 (later (fun x2 =>
 z0c v1 true (z08 (binA .other .lss a0 a1) (later (fun v3 =>
 x2 [a0, a1, v3] h) ())) (x2 [.tup [], .tup [], .tup []] h)) ()) (later (fun x4 h5 =>
 z0m v1 (nth x4 2) (.bool false) (later (fun v6 =>
 R v6 h5) ())) ())) ())) : z03 Try.prog 39 [a0, a1] h R :=
 z0j g_code_between z0v Try.func39 (show Try.f39.body = some c_code_between by kernel_rfl) Try.ntmps39 (by kernel_rfl) (Nat.le_of_ble_eq_true rfl) Try.call39 (Eq.mpr (by kernel_rfl) H)
/- padlock/code.local -/
noncomputable def c_code_local : Code := (Try.f38.body).getD .skip
noncomputable def g_code_local : Cfg := { ch := fun d => List.contains [2, 3, 12, 13] d, lv := fun k => ((List.lookup k ([] : List (Nat × List Nat))).getD []), cut := fun k => List.contains [] k, rc := fun i n => none }
theorem code_local_wp (a0 a1 : AV) (h : z04) (R : AV → z04 → Prop) (H :
 pBox true 28 a0 h (later (fun v1 h2 =>
 pBox true 53 a1 h2 (later (fun v3 h4 =>
 z00 0 v3 (later (fun v5 =>
 z02 none v5 h4 (later (fun v6 =>
 z08 (binA .other .eql v6 (.int .i64 4)) (later (fun v7 =>
 z0p v7 (z00 1 v3 (later (fun v8 =>
 z02 none v8 h4 (later (fun v9 =>
 z00 0 v1 (later (fun v10 =>
 z02 none v10 h4 (later (fun v11 =>
 pLen .slice v11 (later (fun v12 =>
 z03 Try.prog 39 [v9, v12] h4 (later (fun v13 h14 =>
 R v13 h14) ())) ())) ())) ())) ())) ())) (z00 0 v3 (later (fun v15 =>
 z02 none v15 h4 (later (fun v16 =>
 z08 (binA .other .geq v16 (.int .i64 1)) (later (fun v17 =>
 z07 (later (fun x18 =>
 z0c v17 true (z00 0 v3 (later (fun v19 =>
 z02 none v19 h4 (later (fun v20 =>
 z08 (binA .other .leq v20 (.int .i64 3)) (later (fun v21 =>
 x18 [v19, v20, v21] h4) ())) ())) ())) (x18 [.tup [], .tup [], .tup []] h4)) ()) (later (fun x22 h23 =>
 z0m v17 (nth x22 2) (.bool false) (later (fun v24 =>
 z07 (later (fun x25 =>
 z0c v24 true (z00 1 v3 (later (fun v26 =>
 z02 none v26 h23 (later (fun v27 =>
 z08 (binA .other .eql v27 (.int .i64 0)) (later (fun v28 =>
 x25 [v26, v27, v28] h23) ())) ())) ())) (x25 [.tup [], .tup [], .tup []] h23)) ()) (later (fun x29 h30 =>
 z0m v24 (nth x29 2) (.bool false) (later (fun v31 =>
 R v31 h30) ())) ())) ())) ())) ())) ())) ()))) ())) ())) ())) ())) ())) : z03 Try.prog 38 [a0, a1] h R :=
 z0j g_code_local z0v Try.func38 (show Try.f38.body = some c_code_local by kernel_rfl) Try.ntmps38 (by kernel_rfl) (Nat.le_of_ble_eq_true rfl) Try.call38 (Eq.mpr (by kernel_rfl) H)
/- padlock/code.cells$1 -/
noncomputable def c_code_cells_1 : Code := (Try.f37.body).getD .skip
noncomputable def g_code_cells_1 : Cfg := { ch := fun d => List.contains [2, 9] d, lv := fun k => ((List.lookup k ([] : List (Nat × List Nat))).getD []), cut := fun k => List.contains [] k, rc := fun i n => none }
theorem code_cells_1_wp (a0 a1 : AV) (h : z04) (R : AV → z04 → Prop) (H :
 pBox true 53 a0 h (later (fun v1 h2 =>
 z00 2 v1 (later (fun v3 =>
 z02 none v3 h2 (later (fun v4 =>
 z07 (later (fun x5 =>
 z0c v4 false (z02 (some 5) a1 h2 (later (fun v6 =>
 z02 (some 3) v1 h2 (later (fun v7 =>
 z03 Try.prog 38 [v6, v7] h2 (later (fun v8 h9 =>
 z08 (unA .not v8) (later (fun v10 =>
 x5 [v6, v7, v8, v10] h9) ())) ())) ())) ())) (x5 [.tup [], .tup [], .tup [], .tup []] h2)) ()) (later (fun x11 h12 =>
 z0m v4 (.bool true) (nth x11 3) (later (fun v13 =>
 R v13 h12) ())) ())) ())) ())) ())) : z03 Try.prog 37 [a0, a1] h R :=
 z0j g_code_cells_1 z0v Try.func37 (show Try.f37.body = some c_code_cells_1 by kernel_rfl) Try.ntmps37 (by kernel_rfl) (Nat.le_of_ble_eq_true rfl) Try.call37 (Eq.mpr (by kernel_rfl) H)
/- padlock/code.cells -/
noncomputable def c_code_cells : Code := (Try.f26.body).getD .skip
noncomputable def g_code_cells : Cfg := { ch := fun d => List.contains [3, 8, 14] d, lv := fun k => ((List.lookup k ([] : List (Nat × List Nat))).getD []), cut := fun k => List.contains [] k, rc := fun i n => none }
theorem code_cells_wp (a0 a1 a2 : AV) (h : z04) (R : AV → z04 → Prop) (H :
 pBox true 28 a0 h (later (fun v1 h2 =>
 pLen .slice a1 (later (fun v3 =>
 z08 (binA .other .leq v3 a2) (later (fun v4 =>
 z07 (later (fun x5 =>
 z0c v4 true (z03 Try.prog 36 [a1, .fn (Fn.func 37) [] [v1]] h2 (later (fun v6 h7 =>
 z08 (unA .not v6) (later (fun v8 =>
 x5 [a1, .fn (Fn.func 37) [] [v1], v6, v8] h7) ())) ())) (x5 [.tup [], .tup [], .tup [], .tup []] h2)) ()) (later (fun x9 h10 =>
 z0m v4 (nth x9 3) (.bool false) (later (fun v11 =>
 R v11 h10) ())) ())) ())) ())) ())) : z03 Try.prog 26 [a0, a1, a2] h R :=
 z0j g_code_cells z0v Try.func26 (show Try.f26.body = some c_code_cells by kernel_rfl) Try.ntmps26 (by kernel_rfl) (Nat.le_of_ble_eq_true rfl) Try.call26 (Eq.mpr (by kernel_rfl) H)
/- padlock/code.sections -/
noncomputable def c_code_sections : Code := (Try.f27.body).getD .skip
noncomputable def g_code_sections : Cfg := { ch := fun d => List.contains [1, 10, 20, 21, 45, 95, 123] d, lv := fun k => ((List.lookup k ([(2, [1, 9, 10, 11]), (10, [1, 4, 9, 10, 11, 94, 95, 96])] : List (Nat × List Nat))).getD []), cut := fun k => List.contains [] k, rc := fun i n => ((List.lookup i ([(7, [(11, [1, 3, 4, 5, 9, 10, 11, 72, 79])])] : List (Nat × List (Nat × List Nat)))).getD []).lookup n }
noncomputable def c_code_sections_2 : Code := (z2a 2 c_code_sections).getD .skip
noncomputable def c_code_sections_10 : Code := (z2a 10 c_code_sections).getD .skip
theorem code_sections_wp (a0 : AV) (h : z04) (R : AV → z04 → Prop) (H :
 pBox true 28 a0 h (later (fun v1 h2 =>
 z00 4 v1 (later (fun v3 =>
 z02 none v3 h2 (later (fun v4 =>
 pLen .slice v4 (later (fun v5 =>
 WP Try.prog 125 (Code.loop c_code_sections_2) (frOf [(1, v1), (9, v4), (10, v5), (11, .int .i64 0)]) h2 (z1q (later (fun fr6 h7 =>
 False) ()) (later (fun x8 fr9 h10 =>
 pIdx x8 0 (pIdx 0 0 (z00 4 (fr9 1) (later (fun v11 =>
 z02 none v11 h10 (later (fun v12 =>
 pLen .slice v12 (later (fun v13 =>
 z08 (binA .other .leq v13 (.int .i64 32)) (later (fun v14 =>
 R v14 h10) ())) ())) ())) ())) False) False) ()) (later (fun fr15 h16 =>
 R (fr15 2) h16) ()))) ())) ())) ())) ())) : z03 Try.prog 27 [a0] h R :=
 z0j g_code_sections z0v Try.func27 (show Try.f27.body = some c_code_sections by kernel_rfl) Try.ntmps27 (by kernel_rfl) (Nat.le_of_ble_eq_true rfl) Try.call27 (Eq.mpr (by kernel_rfl) H)
theorem code_sections_loop2 (s1 s9 s10 s11 : AV) (h : z04) (Q : z1j → Fr → z04 → Prop) (H :
 z08 (binA .other .lss s11 s10) (later (fun v1 =>
 z0p v1 (z09 (.slice 3) s9 s11 (later (fun v2 =>
 z02 (some 3) v2 h (later (fun v3 =>
 z1s 51 [.int .i64 0, .int .i64 0, .int .i64 0] h (later (fun v4 h5 =>
 z0y 3 v4 v3 h5 (later (fun h6 =>
 true = true ∧ z00 0 v4 (later (fun v7 =>
 z02 none v7 h6 (later (fun v8 =>
 z00 2 s1 (later (fun v9 =>
 z02 none v9 h6 (later (fun v10 =>
 pLen .slice v10 (later (fun v11 =>
 z03 Try.prog 39 [v8, v11] h6 (later (fun v12 h13 =>
 True ∧ z08 (unA .not v12) (later (fun v14 =>
 z07 (later (fun x15 =>
 z06 v14 false (z00 1 v4 (later (fun v16 =>
 x15 [v16] h13) ())) (x15 [.tup []] h13)) ()) (later (fun x17 h18 =>
 z07 (later (fun x19 =>
 z06 v14 false (z02 none (nth x17 0) h18 (later (fun v20 =>
 x19 [v20] h18) ())) (x19 [.tup []] h18)) ()) (later (fun x21 h22 =>
 z07 (later (fun x23 =>
 z06 v14 false (z08 (binA .other .lss (nth x21 0) (.int .i64 0)) (later (fun v24 =>
 x23 [v24] h22) ())) (x23 [.tup []] h22)) ()) (later (fun x25 h26 =>
 z0m v14 (.bool true) (nth x25 0) (later (fun v27 =>
 z07 (later (fun x28 =>
 z06 v27 false (z00 1 v4 (later (fun v29 =>
 x28 [v29] h26) ())) (x28 [.tup []] h26)) ()) (later (fun x30 h31 =>
 z07 (later (fun x32 =>
 z06 v27 false (z02 none (nth x30 0) h31 (later (fun v33 =>
 x32 [v33] h31) ())) (x32 [.tup []] h31)) ()) (later (fun x34 h35 =>
 z07 (later (fun x36 =>
 z06 v27 false (z00 2 v4 (later (fun v37 =>
 x36 [v37] h35) ())) (x36 [.tup []] h35)) ()) (later (fun x38 h39 =>
 z07 (later (fun x40 =>
 z06 v27 false (z02 none (nth x38 0) h39 (later (fun v41 =>
 x40 [v41] h39) ())) (x40 [.tup []] h39)) ()) (later (fun x42 h43 =>
 z07 (later (fun x44 =>
 z06 v27 false (z08 (binA .other .geq (nth x34 0) (nth x42 0)) (later (fun v45 =>
 x44 [v45] h43) ())) (x44 [.tup []] h43)) ()) (later (fun x46 h47 =>
 z0m v27 (.bool true) (nth x46 0) (later (fun v48 =>
 z07 (later (fun x49 =>
 z06 v48 false (z00 2 v4 (later (fun v50 =>
 x49 [v50] h47) ())) (x49 [.tup []] h47)) ()) (later (fun x51 h52 =>
 z07 (later (fun x53 =>
 z06 v48 false (z02 none (nth x51 0) h52 (later (fun v54 =>
 x53 [v54] h52) ())) (x53 [.tup []] h52)) ()) (later (fun x55 h56 =>
 z07 (later (fun x57 =>
 z06 v48 false (z00 2 s1 (later (fun v58 =>
 x57 [v58] h56) ())) (x57 [.tup []] h56)) ()) (later (fun x59 h60 =>
 z07 (later (fun x61 =>
 z06 v48 false (z02 none (nth x59 0) h60 (later (fun v62 =>
 x61 [v62] h60) ())) (x61 [.tup []] h60)) ()) (later (fun x63 h64 =>
 z07 (later (fun x65 =>
 z06 v48 false (z00 0 v4 (later (fun v66 =>
 x65 [v66] h64) ())) (x65 [.tup []] h64)) ()) (later (fun x67 h68 =>
 z07 (later (fun x69 =>
 z06 v48 false (z02 none (nth x67 0) h68 (later (fun v70 =>
 x69 [v70] h68) ())) (x69 [.tup []] h68)) ()) (later (fun x71 h72 =>
 z07 (later (fun x73 =>
 z06 v48 false (z09 (.slice 3) (nth x63 0) (nth x71 0) (later (fun v74 =>
 x73 [v74] h72) ())) (x73 [.tup []] h72)) ()) (later (fun x75 h76 =>
 z07 (later (fun x77 =>
 z06 v48 false (z00 1 (nth x75 0) (later (fun v78 =>
 x77 [v78] h76) ())) (x77 [.tup []] h76)) ()) (later (fun x79 h80 =>
 z07 (later (fun x81 =>
 z06 v48 false (z02 none (nth x79 0) h80 (later (fun v82 =>
 x81 [v82] h80) ())) (x81 [.tup []] h80)) ()) (later (fun x83 h84 =>
 z07 (later (fun x85 =>
 z06 v48 false (pLen .slice (nth x83 0) (later (fun v86 =>
 x85 [v86] h84) ())) (x85 [.tup []] h84)) ()) (later (fun x87 h88 =>
 z07 (later (fun x89 =>
 z06 v48 false (z08 (binA .other .geq (nth x55 0) (nth x87 0)) (later (fun v90 =>
 x89 [v90] h88) ())) (x89 [.tup []] h88)) ()) (later (fun x91 h92 =>
 z0m v48 (.bool true) (nth x91 0) (later (fun v93 =>
 z0p v93 (Q .ret (frOf [(2, .bool false)]) h92) (z00 2 s1 (later (fun v94 =>
 z02 none v94 h92 (later (fun v95 =>
 z00 0 v4 (later (fun v96 =>
 z02 none v96 h92 (later (fun v97 =>
 z09 (.slice 3) v95 v97 (later (fun v98 =>
 z00 1 v98 (later (fun v99 =>
 z02 none v99 h92 (later (fun v100 =>
 z00 1 v4 (later (fun v101 =>
 z02 none v101 h92 (later (fun v102 =>
 z09 (.slice 8) v100 v102 (later (fun v103 =>
 z00 0 v103 (later (fun v104 =>
 z02 none v104 h92 (later (fun v105 =>
 z08 (binA .other .neq v105 (.int .i64 15)) (later (fun v106 =>
 z07 (later (fun x107 =>
 z0c v106 false (z00 1 v4 (later (fun v108 =>
 z02 none v108 h92 (later (fun v109 =>
 z09 (.slice 8) v100 v109 (later (fun v110 =>
 z00 4 v110 (later (fun v111 =>
 z02 none v111 h92 (later (fun v112 =>
 z08 (binA .other .neq v112 s11) (later (fun v113 =>
 x107 [v100, v108, v109, v110, v111, v112, s11, v113] h92) ())) ())) ())) ())) ())) ())) (x107 [.tup [], .tup [], .tup [], .tup [], .tup [], .tup [], .tup [], .tup []] h92)) ()) (later (fun x114 h115 =>
 z0m v106 (.bool true) (nth x114 7) (later (fun v116 =>
 z07 (later (fun x117 =>
 z0c v116 false (z00 2 v4 (later (fun v118 =>
 z02 none v118 h115 (later (fun v119 =>
 z09 (.slice 8) v100 v119 (later (fun v120 =>
 z00 0 v120 (later (fun v121 =>
 z02 none v121 h115 (later (fun v122 =>
 z08 (binA .other .neq v122 (.int .i64 16)) (later (fun v123 =>
 x117 [v100, v118, v119, v120, v121, v122, v123] h115) ())) ())) ())) ())) ())) ())) (x117 [.tup [], .tup [], .tup [], .tup [], .tup [], .tup [], .tup []] h115)) ()) (later (fun x124 h125 =>
 pChunk [s1, s11, v4, v100, s9, s10, s11, v116, nth x124 6] (later (fun x126 =>
 z0m (nth x126 7) (.bool true) (nth x126 8) (later (fun v127 =>
 z07 (later (fun x128 =>
 z0c v127 false (z00 2 (nth x126 2) (later (fun v129 =>
 z02 none v129 h125 (later (fun v130 =>
 z09 (.slice 8) (nth x126 3) v130 (later (fun v131 =>
 z00 4 v131 (later (fun v132 =>
 z02 none v132 h125 (later (fun v133 =>
 z08 (binA .other .neq v133 (nth x126 1)) (later (fun v134 =>
 x128 [nth x126 3, v129, v130, v131, v132, v133, nth x126 1, v134] h125) ())) ())) ())) ())) ())) ())) (x128 [.tup [], .tup [], .tup [], .tup [], .tup [], .tup [], .tup [], .tup []] h125)) ()) (later (fun x135 h136 =>
 z0m v127 (.bool true) (nth x135 7) (later (fun v137 =>
 z0p v137 (Q .ret (frOf [(2, .bool false)]) h136) (z00 4 (nth x126 0) (later (fun v138 =>
 z02 none v138 h136 (later (fun v139 =>
 z3y 3 v139 none (some (nth x126 1)) (later (fun v140 =>
 pLen .slice v140 (later (fun v141 =>
 WP Try.prog 125 (Code.loop c_code_sections_10) (frOf [(1, nth x126 0), (4, nth x126 2), (9, nth x126 4), (10, nth x126 5), (11, nth x126 6), (94, v140), (95, v141), (96, .int .i64 0)]) h136 (z1q (later (fun fr142 h143 =>
 False) ()) (later (fun x144 fr145 h146 =>
 pIdx x144 2 (pIdx 2 2 (z08 (binA .other .add (fr145 11) (.int .i64 1)) (later (fun v147 =>
 Q .normal (frOf [(1, fr145 1), (9, fr145 9), (10, fr145 10), (11, v147)]) h146) ())) (pIdx 2 1 (z08 (binA .other .add (fr145 11) (.int .i64 1)) (later (fun v148 =>
 Q .normal (frOf [(1, fr145 1), (9, fr145 9), (10, fr145 10), (11, v148)]) h146) ())) (Q (.exit 2) (frOf [(1, fr145 1)]) h146))) False) ()) (later (fun fr149 h150 =>
 Q .ret (frOf [(2, fr149 2)]) h150) ()))) ())) ())) ())) ()))) ())) ())) ())) ())) ())) ())) ())) ())) ())) ())) ())) ())) ())) ())) ())) ())) ())) ())) ())) ()))) ())) ())) ())) ())) ())) ())) ())) ())) ())) ())) ())) ())) ())) ())) ())) ())) ())) ())) ())) ())) ())) ())) ())) ())) ())) ())) ())) ())) ())) ())) ())) ())) ())) (Q (.exit 0) (frOf [(1, s1)]) h)) ())) : WP Try.prog 125 c_code_sections_2 (frOf [(1, s1), (9, s9), (10, s10), (11, s11)]) h Q :=
 z1t g_code_sections [0] [1, 9, 10, 11] [1] [2] z0v (by kernel_rfl) (Eq.mpr (by kernel_rfl) H)
theorem code_sections_loop10 (s1 s4 s9 s10 s11 s94 s95 s96 : AV) (h : z04) (Q : z1j → Fr → z04 → Prop) (H :
 z08 (binA .other .lss s96 s95) (later (fun v1 =>
 z0p v1 (z09 (.slice 3) s94 s96 (later (fun v2 =>
 z02 (some 3) v2 h (later (fun v3 =>
 z1s 51 [.int .i64 0, .int .i64 0, .int .i64 0] h (later (fun v4 h5 =>
 z0y 3 v4 v3 h5 (later (fun h6 =>
 z00 0 v4 (later (fun v7 =>
 z02 none v7 h6 (later (fun v8 =>
 z00 0 s4 (later (fun v9 =>
 z02 none v9 h6 (later (fun v10 =>
 z08 (binA .other .eql v8 v10) (later (fun v11 =>
 z07 (later (fun x12 =>
 z0c v11 true (z00 1 v4 (later (fun v13 =>
 z02 none v13 h6 (later (fun v14 =>
 z00 2 s4 (later (fun v15 =>
 z02 none v15 h6 (later (fun v16 =>
 z08 (binA .other .leq v14 v16) (later (fun v17 =>
 x12 [v13, v14, v15, v16, v17] h6) ())) ())) ())) ())) ())) (x12 [.tup [], .tup [], .tup [], .tup [], .tup []] h6)) ()) (later (fun x18 h19 =>
 z0m v11 (nth x18 4) (.bool false) (later (fun v20 =>
 z07 (later (fun x21 =>
 z0c v20 true (z00 1 s4 (later (fun v22 =>
 z02 none v22 h19 (later (fun v23 =>
 z00 2 v4 (later (fun v24 =>
 z02 none v24 h19 (later (fun v25 =>
 z08 (binA .other .leq v23 v25) (later (fun v26 =>
 x21 [v22, v23, v24, v25, v26] h19) ())) ())) ())) ())) ())) (x21 [.tup [], .tup [], .tup [], .tup [], .tup []] h19)) ()) (later (fun x27 h28 =>
 z0m v20 (nth x27 4) (.bool false) (later (fun v29 =>
 z0p v29 (Q .ret (frOf [(2, .bool false)]) h28) (z08 (binA .other .add s96 (.int .i64 1)) (later (fun v30 =>
 Q .normal (frOf [(1, s1), (4, s4), (9, s9), (10, s10), (11, s11), (94, s94), (95, s95), (96, v30)]) h28) ()))) ())) ())) ())) ())) ())) ())) ())) ())) ())) ())) ())) ())) ())) (Q (.exit 2) (frOf [(1, s1), (9, s9), (10, s10), (11, s11)]) h)) ())) : WP Try.prog 125 c_code_sections_10 (frOf [(1, s1), (4, s4), (9, s9), (10, s10), (11, s11), (94, s94), (95, s95), (96, s96)]) h Q :=
 z1t g_code_sections [2, 1, 0] [1, 4, 9, 10, 11, 94, 95, 96] [1, 9, 10, 11] [2] z0v (by kernel_rfl) (Eq.mpr (by kernel_rfl) H)
/- padlock/code.sites -/
noncomputable def c_code_sites : Code := (Try.f28.body).getD .skip
noncomputable def g_code_sites : Cfg := { ch := fun d => List.contains [1, 8, 18, 19, 31, 32, 63] d, lv := fun k => ((List.lookup k ([(2, [1, 7, 8, 9])] : List (Nat × List Nat))).getD []), cut := fun k => List.contains [] k, rc := fun i n => none }
noncomputable def c_code_sites_2 : Code := (z2a 2 c_code_sites).getD .skip
theorem code_sites_wp (a0 : AV) (h : z04) (R : AV → z04 → Prop) (H :
 pBox true 28 a0 h (later (fun v1 h2 =>
 z00 3 v1 (later (fun v3 =>
 z02 none v3 h2 (later (fun v4 =>
 pLen .slice v4 (later (fun v5 =>
 WP Try.prog 65 (Code.loop c_code_sites_2) (frOf [(1, v1), (7, v4), (8, v5), (9, .int .i64 0)]) h2 (z1q (later (fun fr6 h7 =>
 False) ()) (later (fun x8 fr9 h10 =>
 pIdx x8 0 (pIdx 0 0 (z00 3 (fr9 1) (later (fun v11 =>
 z02 none v11 h10 (later (fun v12 =>
 pLen .slice v12 (later (fun v13 =>
 z08 (binA .other .leq v13 (.int .i64 32)) (later (fun v14 =>
 R v14 h10) ())) ())) ())) ())) False) False) ()) (later (fun fr15 h16 =>
 R (fr15 2) h16) ()))) ())) ())) ())) ())) : z03 Try.prog 28 [a0] h R :=
 z0j g_code_sites z0v Try.func28 (show Try.f28.body = some c_code_sites by kernel_rfl) Try.ntmps28 (by kernel_rfl) (Nat.le_of_ble_eq_true rfl) Try.call28 (Eq.mpr (by kernel_rfl) H)
theorem code_sites_loop2 (s1 s7 s8 s9 : AV) (h : z04) (Q : z1j → Fr → z04 → Prop) (H :
 z08 (binA .other .lss s9 s8) (later (fun v1 =>
 z0p v1 (z09 (.slice 3) s7 s9 (later (fun v2 =>
 z02 (some 3) v2 h (later (fun v3 =>
 z1s 64 [.int .i64 0, .int .i64 0, .int .i64 0] h (later (fun v4 h5 =>
 z0y 3 v4 v3 h5 (later (fun h6 =>
 true = true ∧ z00 0 v4 (later (fun v7 =>
 z02 none v7 h6 (later (fun v8 =>
 z00 2 s1 (later (fun v9 =>
 z02 none v9 h6 (later (fun v10 =>
 pLen .slice v10 (later (fun v11 =>
 z03 Try.prog 39 [v8, v11] h6 (later (fun v12 h13 =>
 True ∧ z08 (unA .not v12) (later (fun v14 =>
 z07 (later (fun x15 =>
 z06 v14 false (z00 1 v4 (later (fun v16 =>
 x15 [v16] h13) ())) (x15 [.tup []] h13)) ()) (later (fun x17 h18 =>
 z07 (later (fun x19 =>
 z06 v14 false (z02 none (nth x17 0) h18 (later (fun v20 =>
 x19 [v20] h18) ())) (x19 [.tup []] h18)) ()) (later (fun x21 h22 =>
 z07 (later (fun x23 =>
 z06 v14 false (z00 2 s1 (later (fun v24 =>
 x23 [v24] h22) ())) (x23 [.tup []] h22)) ()) (later (fun x25 h26 =>
 z07 (later (fun x27 =>
 z06 v14 false (z02 none (nth x25 0) h26 (later (fun v28 =>
 x27 [v28] h26) ())) (x27 [.tup []] h26)) ()) (later (fun x29 h30 =>
 z07 (later (fun x31 =>
 z06 v14 false (z00 0 v4 (later (fun v32 =>
 x31 [v32] h30) ())) (x31 [.tup []] h30)) ()) (later (fun x33 h34 =>
 z07 (later (fun x35 =>
 z06 v14 false (z02 none (nth x33 0) h34 (later (fun v36 =>
 x35 [v36] h34) ())) (x35 [.tup []] h34)) ()) (later (fun x37 h38 =>
 z07 (later (fun x39 =>
 z06 v14 false (z09 (.slice 3) (nth x29 0) (nth x37 0) (later (fun v40 =>
 x39 [v40] h38) ())) (x39 [.tup []] h38)) ()) (later (fun x41 h42 =>
 z07 (later (fun x43 =>
 z06 v14 false (z00 1 (nth x41 0) (later (fun v44 =>
 x43 [v44] h42) ())) (x43 [.tup []] h42)) ()) (later (fun x45 h46 =>
 z07 (later (fun x47 =>
 z06 v14 false (z02 none (nth x45 0) h46 (later (fun v48 =>
 x47 [v48] h46) ())) (x47 [.tup []] h46)) ()) (later (fun x49 h50 =>
 z07 (later (fun x51 =>
 z06 v14 false (pLen .slice (nth x49 0) (later (fun v52 =>
 x51 [v52] h50) ())) (x51 [.tup []] h50)) ()) (later (fun x53 h54 =>
 z07 (later (fun x55 =>
 z06 v14 false (z03 Try.prog 39 [nth x21 0, nth x53 0] h54 (later (fun v56 h57 =>
 x55 [v56] h57) ())) (x55 [.tup []] h54)) ()) (later (fun x58 h59 =>
 True ∧ z07 (later (fun x60 =>
 z06 v14 false (z08 (unA .not (nth x58 0)) (later (fun v61 =>
 x60 [v61] h59) ())) (x60 [.tup []] h59)) ()) (later (fun x62 h63 =>
 z0m v14 (.bool true) (nth x62 0) (later (fun v64 =>
 z0p v64 (Q .ret (frOf [(2, .bool false)]) h63) (true = true ∧ z00 2 s1 (later (fun v65 =>
 z02 none v65 h63 (later (fun v66 =>
 z00 0 v4 (later (fun v67 =>
 z02 none v67 h63 (later (fun v68 =>
 z09 (.slice 3) v66 v68 (later (fun v69 =>
 z00 1 v69 (later (fun v70 =>
 z02 none v70 h63 (later (fun v71 =>
 z00 1 v4 (later (fun v72 =>
 z02 none v72 h63 (later (fun v73 =>
 z09 (.slice 8) v71 v73 (later (fun v74 =>
 z02 (some 8) v74 h63 (later (fun v75 =>
 z1s 45 [.int .i64 0, .int .i64 0, .int .i64 0, .int .i64 0, .int .i64 0, .int .i64 0, .nils, .nils] h63 (later (fun v76 h77 =>
 ((z02 (some 8) v74 h77 (later (fun v78 =>
 v78 = v75 ∧ h77 = h77) ())) ∧ (z02 none v72 h77 (later (fun v79 =>
 v79 = v73 ∧ h77 = h77) ())) ∧ (z02 none v70 h77 (later (fun v80 =>
 v80 = v71 ∧ h77 = h77) ())) ∧ (z02 none v67 h77 (later (fun v81 =>
 v81 = v68 ∧ h77 = h77) ())) ∧ z02 none v65 h77 (later (fun v82 =>
 v82 = v66 ∧ h77 = h77) ())) ∧ z0y 8 v76 v75 h77 (later (fun h83 =>
 True ∧ z00 4 v76 (later (fun v84 =>
 z02 none v84 h83 (later (fun v85 =>
 z08 (binA .other .neq v85 s9) (later (fun v86 =>
 z07 (later (fun x87 =>
 z0c v86 false (z00 0 v76 (later (fun v88 =>
 z02 none v88 h83 (later (fun v89 =>
 z08 (binA .other .neq v89 (.int .i64 8)) (later (fun v90 =>
 x87 [v88, v89, v90, v90] h83) ())) ())) ())) (x87 [.tup [], .tup [], .tup [], .tup []] h83)) ()) (later (fun x91 h92 =>
 z07 (later (fun x93 =>
 z0c (nth x91 3) true (z00 0 v76 (later (fun v94 =>
 z02 none v94 h92 (later (fun v95 =>
 z08 (binA .other .neq v95 (.int .i64 9)) (later (fun v96 =>
 x93 [v94, v95, v96] h92) ())) ())) ())) (x93 [.tup [], .tup [], .tup []] h92)) ()) (later (fun x97 h98 =>
 z07 (later (fun x99 =>
 z0c v86 false (z0m (nth x91 3) (nth x97 2) (.bool false) (later (fun v100 =>
 x99 [v100] h98) ())) (x99 [.tup []] h98)) ()) (later (fun x101 h102 =>
 z0m v86 (.bool true) (nth x101 0) (later (fun v103 =>
 z0p v103 (Q .ret (frOf [(2, .bool false)]) h102) (z08 (binA .other .add s9 (.int .i64 1)) (later (fun v104 =>
 Q .normal (frOf [(1, s1), (7, s7), (8, s8), (9, v104)]) h102) ()))) ())) ())) ())) ())) ())) ())) ())) ())) ())) ())) ())) ())) ())) ())) ())) ())) ())) ())) ())) ()))) ())) ())) ())) ())) ())) ())) ())) ())) ())) ())) ())) ())) ())) ())) ())) ())) ())) ())) ())) ())) ())) ())) ())) ())) (Q (.exit 0) (frOf [(1, s1)]) h)) ())) : WP Try.prog 65 c_code_sites_2 (frOf [(1, s1), (7, s7), (8, s8), (9, s9)]) h Q :=
 z1t g_code_sites [0] [1, 7, 8, 9] [1] [2] z0v (by kernel_rfl) (Eq.mpr (by kernel_rfl) H)
/- (padlock/code.maker).all$1 -/
noncomputable def c_code_maker_all_1 : Code := (Try.f40.body).getD .skip
noncomputable def g_code_maker_all_1 : Cfg := { ch := fun d => List.contains [2, 7] d, lv := fun k => ((List.lookup k ([] : List (Nat × List Nat))).getD []), cut := fun k => List.contains [] k, rc := fun i n => none }
theorem code_maker_all_1_wp (a0 a1 : AV) (h : z04) (R : AV → z04 → Prop) (H :
 pBox true 53 a0 h (later (fun v1 h2 =>
 z00 0 a1 (later (fun v3 =>
 z02 (some 5) v3 h2 (later (fun v4 =>
 z02 (some 3) v1 h2 (later (fun v5 =>
 z03 Try.prog 38 [v4, v5] h2 (later (fun v6 h7 =>
 z08 (unA .not v6) (later (fun v8 =>
 R v8 h7) ())) ())) ())) ())) ())) ())) : z03 Try.prog 40 [a0, a1] h R :=
 z0j g_code_maker_all_1 z0v Try.func40 (show Try.f40.body = some c_code_maker_all_1 by kernel_rfl) Try.ntmps40 (by kernel_rfl) (Nat.le_of_ble_eq_true rfl) Try.call40 (Eq.mpr (by kernel_rfl) H)
/- padlock/code.shared -/
noncomputable def c_code_shared : Code := (Try.f45.body).getD .skip
noncomputable def g_code_shared : Cfg := { ch := fun d => List.contains [] d, lv := fun k => ((List.lookup k ([] : List (Nat × List Nat))).getD []), cut := fun k => List.contains [] k, rc := fun i n => none }
theorem code_shared_wp (a0 : AV) (h : z04) (R : AV → z04 → Prop) (H :
 z08 (binA .other .geq a0 (.int .i64 2)) (later (fun v1 =>
 z07 (later (fun x2 =>
 z0c v1 true (z08 (binA .other .leq a0 (.int .i64 9)) (later (fun v3 =>
 x2 [a0, v3] h) ())) (x2 [.tup [], .tup []] h)) ()) (later (fun x4 h5 =>
 z0m v1 (nth x4 1) (.bool false) (later (fun v6 =>
 R v6 h5) ())) ())) ())) : z03 Try.prog 45 [a0] h R :=
 z0j g_code_shared z0v Try.func45 (show Try.f45.body = some c_code_shared by kernel_rfl) Try.ntmps45 (by kernel_rfl) (Nat.le_of_ble_eq_true rfl) Try.call45 (Eq.mpr (by kernel_rfl) H)
/- slices.IndexFunc[[]padlock/api.Section,padlock/api.Section] -/
noncomputable def z2k : Code := (Try.f55.body).getD .skip
noncomputable def z2l : Cfg := { ch := fun d => List.contains [7, 16] d, lv := fun k => ((List.lookup k ([(2, [0, 1, 7, 8])] : List (Nat × List Nat))).getD []), cut := fun k => List.contains [] k, rc := fun i n => none }
noncomputable def z2f : Code := (z2a 2 z2k).getD .skip
theorem z4r (a0 a1 : AV) (h : z04) (R : AV → z04 → Prop) (H :
 pLen .slice a0 (later (fun v1 =>
 WP Try.prog 19 (Code.loop z2f) (frOf [(0, a0), (1, a1), (7, v1), (8, .int .i64 0)]) h (z1q (later (fun fr2 h3 =>
 False) ()) (later (fun x4 fr5 h6 =>
 pIdx x4 0 (pIdx 0 0 (R (.int .i64 (-1)) h6) False) False) ()) (later (fun fr7 h8 =>
 R (fr7 4) h8) ()))) ())) : z03 Try.prog 55 [a0, a1] h R :=
 z0j z2l z0v Try.func55 (show Try.f55.body = some z2k by kernel_rfl) Try.ntmps55 (by kernel_rfl) (Nat.le_of_ble_eq_true rfl) Try.call55 (Eq.mpr (by kernel_rfl) H)
theorem z3v (s0 s1 s7 s8 : AV) (h : z04) (Q : z1j → Fr → z04 → Prop) (H :
 z08 (binA .other .lss s8 s7) (later (fun v1 =>
 z0p v1 (z09 (.slice 3) s0 s8 (later (fun v2 =>
 z02 (some 3) v2 h (later (fun v3 =>
 pCallF Try.prog s1 [v3] h (later (fun v4 h5 =>
 z0p v4 (Q .ret (frOf [(4, s8)]) h5) (z08 (binA .other .add s8 (.int .i64 1)) (later (fun v6 =>
 Q .normal (frOf [(0, s0), (1, s1), (7, s7), (8, v6)]) h5) ()))) ())) ())) ())) (Q (.exit 0) (frOf []) h)) ())) : WP Try.prog 19 z2f (frOf [(0, s0), (1, s1), (7, s7), (8, s8)]) h Q :=
 z1t z2l [0] [0, 1, 7, 8] [] [4] z0v (by kernel_rfl) (Eq.mpr (by kernel_rfl) H)
/- padlock/code.Inside$1 -/
noncomputable def c_code_Inside_1 : Code := (Try.f56.body).getD .skip
noncomputable def g_code_Inside_1 : Cfg := { ch := fun d => List.contains [3] d, lv := fun k => ((List.lookup k ([] : List (Nat × List Nat))).getD []), cut := fun k => List.contains [] k, rc := fun i n => none }
theorem code_Inside_1_wp (a0 a1 a2 : AV) (h : z04) (R : AV → z04 → Prop) (H :
 pBox true 51 a0 h (later (fun v1 h2 =>
 z00 0 v1 (later (fun v3 =>
 z02 none v3 h2 (later (fun v4 =>
 z02 none a1 h2 (later (fun v5 =>
 z08 (binA .other .eql v4 v5) (later (fun v6 =>
 z07 (later (fun x7 =>
 z0c v6 true (z02 none a2 h2 (later (fun v8 =>
 z00 1 v1 (later (fun v9 =>
 z02 none v9 h2 (later (fun v10 =>
 z08 (binA .other .gtr v8 v10) (later (fun v11 =>
 x7 [v8, v9, v10, v11] h2) ())) ())) ())) ())) (x7 [.tup [], .tup [], .tup [], .tup []] h2)) ()) (later (fun x12 h13 =>
 z0m v6 (nth x12 3) (.bool false) (later (fun v14 =>
 z07 (later (fun x15 =>
 z0c v14 true (z02 none a2 h13 (later (fun v16 =>
 z00 2 v1 (later (fun v17 =>
 z02 none v17 h13 (later (fun v18 =>
 z08 (binA .other .leq v16 v18) (later (fun v19 =>
 x15 [v16, v17, v18, v19] h13) ())) ())) ())) ())) (x15 [.tup [], .tup [], .tup [], .tup []] h13)) ()) (later (fun x20 h21 =>
 z0m v14 (nth x20 3) (.bool false) (later (fun v22 =>
 R v22 h21) ())) ())) ())) ())) ())) ())) ())) ())) ())) : z03 Try.prog 56 [a0, a1, a2] h R :=
 z0j g_code_Inside_1 z0v Try.func56 (show Try.f56.body = some c_code_Inside_1 by kernel_rfl) Try.ntmps56 (by kernel_rfl) (Nat.le_of_ble_eq_true rfl) Try.call56 (Eq.mpr (by kernel_rfl) H)
/- padlock/code.Inside -/
noncomputable def c_code_Inside : Code := (Try.f46.body).getD .skip
noncomputable def g_code_Inside : Cfg := { ch := fun d => List.contains [3, 4, 5, 10] d, lv := fun k => ((List.lookup k ([] : List (Nat × List Nat))).getD []), cut := fun k => List.contains [] k, rc := fun i n => none }
theorem code_Inside_wp (a0 a1 a2 : AV) (h : z04) (R : AV → z04 → Prop) (H :
 pBox true 28 a0 h (later (fun v1 h2 =>
 pBox true 3 a1 h2 (later (fun v3 h4 =>
 pBox true 3 a2 h4 (later (fun v5 h6 =>
 z00 4 v1 (later (fun v7 =>
 z02 none v7 h6 (later (fun v8 =>
 z03 Try.prog 55 [v8, .fn (Fn.func 56) [] [v3, v5]] h6 (later (fun v9 h10 =>
 R v9 h10) ())) ())) ())) ())) ())) ())) : z03 Try.prog 46 [a0, a1, a2] h R :=
 z0j g_code_Inside z0v Try.func46 (show Try.f46.body = some c_code_Inside by kernel_rfl) Try.ntmps46 (by kernel_rfl) (Nat.le_of_ble_eq_true rfl) Try.call46 (Eq.mpr (by kernel_rfl) H)
/- (padlock/code.maker).slot -/
noncomputable def c_code_maker_slot : Code := (Try.f47.body).getD .skip
noncomputable def g_code_maker_slot : Cfg := { ch := fun d => List.contains [2, 10, 11] d, lv := fun k => ((List.lookup k ([] : List (Nat × List Nat))).getD []), cut := fun k => List.contains [] k, rc := fun i n => none }
theorem code_maker_slot_wp (a0 a1 : AV) (h : z04) (R : AV → z04 → Prop) (H :
 pBox true 69 a0 h (later (fun v1 h2 =>
 z1s 53 [.int .i64 0, .int .i64 0, .bool false] h2 (later (fun v3 h4 =>
 z00 6 v1 (later (fun v5 =>
 z00 0 v5 (later (fun v6 =>
 z02 none v6 h4 (later (fun v7 =>
 pLen .slice v7 (later (fun v8 =>
 z03 Try.prog 39 [a1, v8] h4 (later (fun v9 h10 =>
 z08 (unA .not v9) (later (fun v11 =>
 z0p v11 (z01 [(0, 1), (1, 1), (2, 1)] [.int .i64 0, .int .i64 0, .bool false] [] (later (fun v12 =>
 z0y 3 v3 v12 h10 (later (fun h13 =>
 z02 (some 3) v3 h13 (later (fun v14 =>
 R (.tup [v14, .bool false]) h13) ())) ())) ())) (z00 6 v1 (later (fun v15 =>
 z00 0 v15 (later (fun v16 =>
 z02 none v16 h10 (later (fun v17 =>
 z09 (.slice 3) v17 a1 (later (fun v18 =>
 z02 (some 3) v18 h10 (later (fun v19 =>
 z0y 3 v3 v19 h10 (later (fun h20 =>
 z02 (some 3) v3 h20 (later (fun v21 =>
 R (.tup [v21, .bool true]) h20) ())) ())) ())) ())) ())) ())) ()))) ())) ())) ())) ())) ())) ())) ())) ())) : z03 Try.prog 47 [a0, a1] h R :=
 z0j g_code_maker_slot z0v Try.func47 (show Try.f47.body = some c_code_maker_slot by kernel_rfl) Try.ntmps47 (by kernel_rfl) (Nat.le_of_ble_eq_true rfl) Try.call47 (Eq.mpr (by kernel_rfl) H)
/- padlock/code.plain -/
noncomputable def c_code_plain : Code := (Try.f48.body).getD .skip
noncomputable def g_code_plain : Cfg := { ch := fun d => List.contains [8, 60, 69] d, lv := fun k => ((List.lookup k ([] : List (Nat × List Nat))).getD []), cut := fun k => List.contains [] k, rc := fun i n => ((List.lookup i ([(1, [(30, [8, 64, 66]), (15, [5, 6, 7, 8, 39, 41])])] : List (Nat × List (Nat × List Nat)))).getD []).lookup n }
theorem z1p (a0 a1 a2 a3 a4 a5 a6 a7 : AV) (h : z04) (R : AV → z04 → Prop) (H :
 pBox true 45 a0 h (later (fun v1 h2 =>
 z07 (later (fun x3 =>
 z0c a1 false (z00 1 v1 (later (fun v4 =>
 z02 none v4 h2 (later (fun v5 =>
 z08 (binA .other .eql v5 (.int .i64 0)) (later (fun v6 =>
 x3 [v4, v5, v6] h2) ())) ())) ())) (x3 [.tup [], .tup [], .tup []] h2)) ()) (later (fun x7 h8 =>
 z0m a1 (.bool true) (nth x7 2) (later (fun v9 =>
 z07 (later (fun x10 =>
 z0c v9 true (x10 [a2, a2] h8) (x10 [.tup [], .tup []] h8)) ()) (later (fun x11 h12 =>
 z07 (later (fun x13 =>
 z0c (nth x11 1) false (z00 2 v1 (later (fun v14 =>
 z02 none v14 h12 (later (fun v15 =>
 z08 (binA .other .eql v15 (.int .i64 0)) (later (fun v16 =>
 x13 [v14, v15, v16] h12) ())) ())) ())) (x13 [.tup [], .tup [], .tup []] h12)) ()) (later (fun x17 h18 =>
 z07 (later (fun x19 =>
 z0c v9 true (z0m (nth x11 1) (.bool true) (nth x17 2) (later (fun v20 =>
 x19 [v20] h18) ())) (x19 [.tup []] h18)) ()) (later (fun x21 h22 =>
 z0m v9 (nth x21 0) (.bool false) (later (fun v23 =>
 z07 (later (fun x24 =>
 z0c v23 true (x24 [a3, a3] h22) (x24 [.tup [], .tup []] h22)) ()) (later (fun x25 h26 =>
 z07 (later (fun x27 =>
 z0c (nth x25 1) false (z00 3 v1 (later (fun v28 =>
 z02 none v28 h26 (later (fun v29 =>
 z08 (binA .other .eql v29 (.int .i64 0)) (later (fun v30 =>
 x27 [v28, v29, v30] h26) ())) ())) ())) (x27 [.tup [], .tup [], .tup []] h26)) ()) (later (fun x31 h32 =>
 z07 (later (fun x33 =>
 z0c v23 true (z0m (nth x25 1) (.bool true) (nth x31 2) (later (fun v34 =>
 x33 [v34] h32) ())) (x33 [.tup []] h32)) ()) (later (fun x35 h36 =>
 z0m v23 (nth x35 0) (.bool false) (later (fun v37 =>
 z07 (later (fun x38 =>
 z0c v37 true (x38 [a4, a4] h36) (x38 [.tup [], .tup []] h36)) ()) (later (fun x39 h40 =>
 pChunk [a5, a6, a7, v1, v37, nth x39 1] (later (fun x41 =>
 z07 (later (fun x42 =>
 z0c (nth x41 5) false (z00 4 (nth x41 3) (later (fun v43 =>
 z02 none v43 h40 (later (fun v44 =>
 z08 (binA .other .eql v44 (.int .i64 0)) (later (fun v45 =>
 x42 [v43, v44, v45] h40) ())) ())) ())) (x42 [.tup [], .tup [], .tup []] h40)) ()) (later (fun x46 h47 =>
 z07 (later (fun x48 =>
 z0c (nth x41 4) true (z0m (nth x41 5) (.bool true) (nth x46 2) (later (fun v49 =>
 x48 [v49] h47) ())) (x48 [.tup []] h47)) ()) (later (fun x50 h51 =>
 z0m (nth x41 4) (nth x50 0) (.bool false) (later (fun v52 =>
 z07 (later (fun x53 =>
 z0c v52 true (x53 [nth x41 0, nth x41 0] h51) (x53 [.tup [], .tup []] h51)) ()) (later (fun x54 h55 =>
 z07 (later (fun x56 =>
 z0c (nth x54 1) false (z00 5 (nth x41 3) (later (fun v57 =>
 z02 none v57 h55 (later (fun v58 =>
 z08 (binA .other .eql v58 (.int .i64 0)) (later (fun v59 =>
 x56 [v57, v58, v59] h55) ())) ())) ())) (x56 [.tup [], .tup [], .tup []] h55)) ()) (later (fun x60 h61 =>
 z07 (later (fun x62 =>
 z0c v52 true (z0m (nth x54 1) (.bool true) (nth x60 2) (later (fun v63 =>
 x62 [v63] h61) ())) (x62 [.tup []] h61)) ()) (later (fun x64 h65 =>
 z0m v52 (nth x64 0) (.bool false) (later (fun v66 =>
 z07 (later (fun x67 =>
 z0c v66 true (x67 [nth x41 1, nth x41 1] h65) (x67 [.tup [], .tup []] h65)) ()) (later (fun x68 h69 =>
 z07 (later (fun x70 =>
 z0c (nth x68 1) false (z00 6 (nth x41 3) (later (fun v71 =>
 z02 none v71 h69 (later (fun v72 =>
 pLen .slice v72 (later (fun v73 =>
 z08 (binA .other .eql v73 (.int .i64 0)) (later (fun v74 =>
 x70 [v71, v72, v73, v74] h69) ())) ())) ())) ())) (x70 [.tup [], .tup [], .tup [], .tup []] h69)) ()) (later (fun x75 h76 =>
 z07 (later (fun x77 =>
 z0c v66 true (z0m (nth x68 1) (.bool true) (nth x75 3) (later (fun v78 =>
 x77 [v78] h76) ())) (x77 [.tup []] h76)) ()) (later (fun x79 h80 =>
 z0m v66 (nth x79 0) (.bool false) (later (fun v81 =>
 z07 (later (fun x82 =>
 z0c v81 true (x82 [nth x41 2, nth x41 2] h80) (x82 [.tup [], .tup []] h80)) ()) (later (fun x83 h84 =>
 pChunk [nth x41 3, v81, nth x83 1] (later (fun x85 =>
 z07 (later (fun x86 =>
 z0c (nth x85 2) false (z00 7 (nth x85 0) (later (fun v87 =>
 z02 none v87 h84 (later (fun v88 =>
 pLen .slice v88 (later (fun v89 =>
 z08 (binA .other .eql v89 (.int .i64 0)) (later (fun v90 =>
 x86 [v87, v88, v89, v90] h84) ())) ())) ())) ())) (x86 [.tup [], .tup [], .tup [], .tup []] h84)) ()) (later (fun x91 h92 =>
 z07 (later (fun x93 =>
 z0c (nth x85 1) true (z0m (nth x85 2) (.bool true) (nth x91 3) (later (fun v94 =>
 x93 [v94] h92) ())) (x93 [.tup []] h92)) ()) (later (fun x95 h96 =>
 z0m (nth x85 1) (nth x95 0) (.bool false) (later (fun v97 =>
 R v97 h96) ())) ())) ())) ())) ())) ())) ())) ())) ())) ())) ())) ())) ())) ())) ())) ())) ())) ())) ())) ())) ())) ())) ())) ())) ())) ())) ())) ())) ())) : z03 Try.prog 48 [a0, a1, a2, a3, a4, a5, a6, a7] h R :=
 z0j g_code_plain z0v Try.func48 (show Try.f48.body = some c_code_plain by kernel_rfl) Try.ntmps48 (by kernel_rfl) (Nat.le_of_ble_eq_true rfl) Try.call48 (Eq.mpr (by kernel_rfl) H)
/- padlock/calc.needs -/
noncomputable def c_calc_needs : Code := (Try.f62.body).getD .skip
noncomputable def g_calc_needs : Cfg := { ch := fun d => List.contains [1] d, lv := fun k => ((List.lookup k ([(5, [4, 5]), (10, [4, 9])] : List (Nat × List Nat))).getD []), cut := fun k => List.contains [5, 10] k, rc := fun i n => none }
theorem calc_needs_wp (a0 : AV) (h : z04) (R : AV → z04 → Prop) (H :
 pBox true 75 a0 h (later (fun v1 h2 =>
 z00 0 v1 (later (fun v3 =>
 z02 none v3 h2 (later (fun v4 =>
 Cut (later (fun J =>
 z08 (binA .other .eql v4 (.int .i64 1)) (later (fun v5 =>
 z0p v5 (J (frOf [(4, v4), (5, v5)]) h2) (z08 (binA .other .eql v4 (.int .i64 2)) (later (fun v6 =>
 z0p v6 (J (frOf [(4, v4), (5, v6)]) h2) (z08 (binA .other .eql v4 (.int .i64 3)) (later (fun v7 =>
 J (frOf [(4, v4), (5, v7)]) h2) ()))) ()))) ())) ()) (later (fun fr' h' =>
 z0p (fr' 5) (R (.int .i64 0) h') (Cut (later (fun J =>
 z08 (binA .other .eql (fr' 4) (.int .i64 4)) (later (fun v8 =>
 z0p v8 (J (frOf [(4, fr' 4), (9, v8)]) h') (z08 (binA .other .eql (fr' 4) (.int .i64 5)) (later (fun v9 =>
 z0p v9 (J (frOf [(4, fr' 4), (9, v9)]) h') (z08 (binA .other .eql (fr' 4) (.int .i64 6)) (later (fun v10 =>
 z0p v10 (J (frOf [(4, fr' 4), (9, v10)]) h') (z08 (binA .other .eql (fr' 4) (.int .i64 7)) (later (fun v11 =>
 J (frOf [(4, fr' 4), (9, v11)]) h') ()))) ()))) ()))) ())) ()) (later (fun fr' h' =>
 z0p (fr' 9) (R (.int .i64 1) h') (z08 (binA .other .eql (fr' 4) (.int .i64 8)) (later (fun v12 =>
 z0p v12 (z0p v12 (R (.int .i64 2) h') (R (.int .i64 (-1)) h')) (z08 (binA .other .eql (fr' 4) (.int .i64 9)) (later (fun v13 =>
 z0p v13 (z0p v13 (R (.int .i64 2) h') (R (.int .i64 (-1)) h')) (z08 (binA .other .eql (fr' 4) (.int .i64 10)) (later (fun v14 =>
 z0p v14 (R (.int .i64 2) h') (R (.int .i64 (-1)) h')) ()))) ()))) ()))) ()))) ())) ())) ())) ())) : z03 Try.prog 62 [a0] h R :=
 z0j g_calc_needs z0v Try.func62 (show Try.f62.body = some c_calc_needs by kernel_rfl) Try.ntmps62 (by kernel_rfl) (Nat.le_of_ble_eq_true rfl) Try.call62 (Eq.mpr (by kernel_rfl) H)
/- padlock/calc.fits -/
noncomputable def c_calc_fits : Code := (Try.f61.body).getD .skip
noncomputable def g_calc_fits : Cfg := { ch := fun d => List.contains [2, 21, 86] d, lv := fun k => ((List.lookup k ([] : List (Nat × List Nat))).getD []), cut := fun k => List.contains [] k, rc := fun i n => none }
theorem calc_fits_wp (a0 a1 : AV) (h : z04) (R : AV → z04 → Prop) (H :
 pBox true 75 a0 h (later (fun v1 h2 =>
 z00 0 v1 (later (fun v3 =>
 z02 none v3 h2 (later (fun v4 =>
 z08 (binA .other .eql v4 (.int .i64 1)) (later (fun v5 =>
 z0p v5 (z00 1 v1 (later (fun v6 =>
 z02 none v6 h2 (later (fun v7 =>
 z08 (binA .other .eql v7 (.int .i64 0)) (later (fun v8 =>
 R v8 h2) ())) ())) ())) (z08 (binA .other .eql v4 (.int .i64 2)) (later (fun v9 =>
 z0p v9 (z00 1 v1 (later (fun v10 =>
 z02 none v10 h2 (later (fun v11 =>
 z08 (binA .other .eql v11 (.int .i64 0)) (later (fun v12 =>
 z07 (later (fun x13 =>
 z0c v12 true (z00 2 v1 (later (fun v14 =>
 z02 none v14 h2 (later (fun v15 =>
 z08 (maxA [a1, .int .i64 0]) (later (fun v16 =>
 pConv (CvK.int .u64) v16 h2 (later (fun v17 =>
 z08 (binA .other .lss v15 v17) (later (fun v18 =>
 x13 [v14, v15, a1, v16, v17, v18] h2) ())) ())) ())) ())) ())) (x13 [.tup [], .tup [], .tup [], .tup [], .tup [], .tup []] h2)) ()) (later (fun x19 h20 =>
 z0m v12 (nth x19 5) (.bool false) (later (fun v21 =>
 R v21 h20) ())) ())) ())) ())) ())) (z08 (binA .other .eql v4 (.int .i64 3)) (later (fun v22 =>
 z0p v22 (z00 1 v1 (later (fun v23 =>
 z02 none v23 h2 (later (fun v24 =>
 z08 (binA .other .eql v24 (.int .i64 0)) (later (fun v25 =>
 z07 (later (fun x26 =>
 z0c v25 true (z00 2 v1 (later (fun v27 =>
 z02 none v27 h2 (later (fun v28 =>
 z08 (binA .other .lss v28 (.int .u64 16)) (later (fun v29 =>
 x26 [v27, v28, v29] h2) ())) ())) ())) (x26 [.tup [], .tup [], .tup []] h2)) ()) (later (fun x30 h31 =>
 z0m v25 (nth x30 2) (.bool false) (later (fun v32 =>
 R v32 h31) ())) ())) ())) ())) ())) (z08 (binA .other .eql v4 (.int .i64 8)) (later (fun v33 =>
 z0p v33 (z00 2 v1 (later (fun v34 =>
 z02 none v34 h2 (later (fun v35 =>
 z08 (binA .other .eql v35 (.int .u64 0)) (later (fun v36 =>
 z07 (later (fun x37 =>
 z0c v36 true (z00 1 v1 (later (fun v38 =>
 z02 none v38 h2 (later (fun v39 =>
 z08 (binA .other .geq v39 (.int .i64 0)) (later (fun v40 =>
 x37 [v38, v39, v40] h2) ())) ())) ())) (x37 [.tup [], .tup [], .tup []] h2)) ()) (later (fun x41 h42 =>
 z0m v36 (nth x41 2) (.bool false) (later (fun v43 =>
 z07 (later (fun x44 =>
 z0c v43 true (z00 1 v1 (later (fun v45 =>
 z02 none v45 h42 (later (fun v46 =>
 z08 (binA .other .leq v46 (.int .i64 8)) (later (fun v47 =>
 x44 [v45, v46, v47] h42) ())) ())) ())) (x44 [.tup [], .tup [], .tup []] h42)) ()) (later (fun x48 h49 =>
 z0m v43 (nth x48 2) (.bool false) (later (fun v50 =>
 R v50 h49) ())) ())) ())) ())) ())) ())) ())) (z08 (binA .other .eql v4 (.int .i64 9)) (later (fun v51 =>
 z0p v51 (z00 2 v1 (later (fun v52 =>
 z02 none v52 h2 (later (fun v53 =>
 z08 (binA .other .eql v53 (.int .u64 0)) (later (fun v54 =>
 z07 (later (fun x55 =>
 z0c v54 true (z00 1 v1 (later (fun v56 =>
 z02 none v56 h2 (later (fun v57 =>
 z08 (binA .other .geq v57 (.int .i64 0)) (later (fun v58 =>
 x55 [v56, v57, v58] h2) ())) ())) ())) (x55 [.tup [], .tup [], .tup []] h2)) ()) (later (fun x59 h60 =>
 z0m v54 (nth x59 2) (.bool false) (later (fun v61 =>
 z07 (later (fun x62 =>
 z0c v61 true (z00 1 v1 (later (fun v63 =>
 z02 none v63 h60 (later (fun v64 =>
 z08 (binA .other .leq v64 (.int .i64 8)) (later (fun v65 =>
 x62 [v63, v64, v65] h60) ())) ())) ())) (x62 [.tup [], .tup [], .tup []] h60)) ()) (later (fun x66 h67 =>
 z0m v61 (nth x66 2) (.bool false) (later (fun v68 =>
 z07 (later (fun x69 =>
 z0c v68 true (z00 1 v1 (later (fun v70 =>
 z02 none v70 h67 (later (fun v71 =>
 z08 (binA .other .neq v71 (.int .i64 4)) (later (fun v72 =>
 x69 [v70, v71, v72] h67) ())) ())) ())) (x69 [.tup [], .tup [], .tup []] h67)) ()) (later (fun x73 h74 =>
 z0m v68 (nth x73 2) (.bool false) (later (fun v75 =>
 R v75 h74) ())) ())) ())) ())) ())) ())) ())) ())) ())) (z08 (binA .other .eql v4 (.int .i64 10)) (later (fun v76 =>
 z0p v76 (z00 2 v1 (later (fun v77 =>
 z02 none v77 h2 (later (fun v78 =>
 z08 (binA .other .eql v78 (.int .u64 0)) (later (fun v79 =>
 z07 (later (fun x80 =>
 z0c v79 true (z00 1 v1 (later (fun v81 =>
 z02 none v81 h2 (later (fun v82 =>
 z08 (binA .other .eql v82 (.int .i64 5)) (later (fun v83 =>
 x80 [v81, v82, v83, v83] h2) ())) ())) ())) (x80 [.tup [], .tup [], .tup [], .tup []] h2)) ()) (later (fun x84 h85 =>
 z07 (later (fun x86 =>
 z0c (nth x84 3) false (z00 1 v1 (later (fun v87 =>
 z02 none v87 h85 (later (fun v88 =>
 z08 (binA .other .eql v88 (.int .i64 6)) (later (fun v89 =>
 x86 [v87, v88, v89] h85) ())) ())) ())) (x86 [.tup [], .tup [], .tup []] h85)) ()) (later (fun x90 h91 =>
 z07 (later (fun x92 =>
 z0c v79 true (z0m (nth x84 3) (.bool true) (nth x90 2) (later (fun v93 =>
 x92 [v93] h91) ())) (x92 [.tup []] h91)) ()) (later (fun x94 h95 =>
 z0m v79 (nth x94 0) (.bool false) (later (fun v96 =>
 R v96 h95) ())) ())) ())) ())) ())) ())) ())) (z02 (some 3) v1 h2 (later (fun v97 =>
 z03 Try.prog 62 [v97] h2 (later (fun v98 h99 =>
 z08 (binA .other .eql v98 (.int .i64 1)) (later (fun v100 =>
 z07 (later (fun x101 =>
 z0c v100 true (z00 1 v1 (later (fun v102 =>
 z02 none v102 h99 (later (fun v103 =>
 z08 (binA .other .eql v103 (.int .i64 0)) (later (fun v104 =>
 x101 [v102, v103, v104] h99) ())) ())) ())) (x101 [.tup [], .tup [], .tup []] h99)) ()) (later (fun x105 h106 =>
 z0m v100 (nth x105 2) (.bool false) (later (fun v107 =>
 z07 (later (fun x108 =>
 z0c v107 true (z00 2 v1 (later (fun v109 =>
 z02 none v109 h106 (later (fun v110 =>
 z08 (binA .other .eql v110 (.int .u64 0)) (later (fun v111 =>
 x108 [v109, v110, v111] h106) ())) ())) ())) (x108 [.tup [], .tup [], .tup []] h106)) ()) (later (fun x112 h113 =>
 z0m v107 (nth x112 2) (.bool false) (later (fun v114 =>
 R v114 h113) ())) ())) ())) ())) ())) ())) ()))) ()))) ()))) ()))) ()))) ()))) ())) ())) ())) ())) : z03 Try.prog 61 [a0, a1] h R :=
 z0j g_calc_fits z0v Try.func61 (show Try.f61.body = some c_calc_fits by kernel_rfl) Try.ntmps61 (by kernel_rfl) (Nat.le_of_ble_eq_true rfl) Try.call61 (Eq.mpr (by kernel_rfl) H)
/- padlock/calc.Good -/
noncomputable def c_calc_Good : Code := (Try.f57.body).getD .skip
noncomputable def g_calc_Good : Cfg := { ch := fun d => List.contains [9, 16, 21, 26, 34] d, lv := fun k => ((List.lookup k ([(3, [0, 1, 5, 8, 9, 10])] : List (Nat × List Nat))).getD []), cut := fun k => List.contains [] k, rc := fun i n => none }
noncomputable def c_calc_Good_3 : Code := (z2a 3 c_calc_Good).getD .skip
theorem calc_Good_wp (a0 a1 : AV) (h : z04) (R : AV → z04 → Prop) (H :
 pLen .slice a1 (later (fun v1 =>
 WP Try.prog 37 (Code.loop c_calc_Good_3) (frOf [(0, a0), (1, a1), (5, .int .i64 0), (8, a1), (9, v1), (10, .int .i64 0)]) h (z1q (later (fun fr2 h3 =>
 False) ()) (later (fun x4 fr5 h6 =>
 pIdx x4 0 (pIdx 0 0 (z08 (binA .other .eql (fr5 5) (.int .i64 1)) (later (fun v7 =>
 z07 (later (fun x8 =>
 z0c v7 true (pLen .slice (fr5 1) (later (fun v9 =>
 z08 (binA .other .leq v9 (.int .i64 64)) (later (fun v10 =>
 x8 [fr5 1, v9, v10] h6) ())) ())) (x8 [.tup [], .tup [], .tup []] h6)) ()) (later (fun x11 h12 =>
 z0m v7 (nth x11 2) (.bool false) (later (fun v13 =>
 R v13 h12) ())) ())) ())) False) False) ()) (later (fun fr14 h15 =>
 R (fr14 4) h15) ()))) ())) : z03 Try.prog 57 [a0, a1] h R :=
 z0j g_calc_Good z0v Try.func57 (show Try.f57.body = some c_calc_Good by kernel_rfl) Try.ntmps57 (by kernel_rfl) (Nat.le_of_ble_eq_true rfl) Try.call57 (Eq.mpr (by kernel_rfl) H)
theorem calc_Good_loop3 (s0 s1 s5 s8 s9 s10 : AV) (h : z04) (Q : z1j → Fr → z04 → Prop) (H :
 z08 (binA .other .lss s10 s9) (later (fun v1 =>
 z0p v1 (z09 (.slice 3) s8 s10 (later (fun v2 =>
 z02 (some 3) v2 h (later (fun v3 =>
 z1s 75 [.int .i64 0, .int .i64 0, .int .u64 0] h (later (fun v4 h5 =>
 z0y 3 v4 v3 h5 (later (fun h6 =>
 z02 (some 3) v4 h6 (later (fun v7 =>
 z03 Try.prog 61 [v7, s0] h6 (later (fun v8 h9 =>
 z08 (unA .not v8) (later (fun v10 =>
 z07 (later (fun x11 =>
 z0c v10 false (z02 (some 3) v4 h9 (later (fun v12 =>
 z03 Try.prog 62 [v12] h9 (later (fun v13 h14 =>
 z08 (binA .other .lss s5 v13) (later (fun v15 =>
 x11 [s5, v12, v13, v15] h14) ())) ())) ())) (x11 [.tup [], .tup [], .tup [], .tup []] h9)) ()) (later (fun x16 h17 =>
 z0m v10 (.bool true) (nth x16 3) (later (fun v18 =>
 z0p v18 (Q .ret (frOf [(4, .bool false)]) h17) (z02 (some 3) v4 h17 (later (fun v19 =>
 z03 Try.prog 62 [v19] h17 (later (fun v20 h21 =>
 z08 (binA .other .sub (.int .i64 1) v20) (later (fun v22 =>
 z08 (binA .other .add s5 v22) (later (fun v23 =>
 z08 (binA .other .add s10 (.int .i64 1)) (later (fun v24 =>
 Q .normal (frOf [(0, s0), (1, s1), (5, v23), (8, s8), (9, s9), (10, v24)]) h21) ())) ())) ())) ())) ()))) ())) ())) ())) ())) ())) ())) ())) ())) ())) (Q (.exit 0) (frOf [(1, s1), (5, s5)]) h)) ())) : WP Try.prog 37 c_calc_Good_3 (frOf [(0, s0), (1, s1), (5, s5), (8, s8), (9, s9), (10, s10)]) h Q :=
 z1t g_calc_Good [0] [0, 1, 5, 8, 9, 10] [1, 5] [4] z0v (by kernel_rfl) (Eq.mpr (by kernel_rfl) H)
/- (padlock/code.maker).good -/
noncomputable def c_code_maker_good : Code := (Try.f49.body).getD .skip
noncomputable def g_code_maker_good : Cfg := { ch := fun d => List.contains [2, 8, 10] d, lv := fun k => ((List.lookup k ([] : List (Nat × List Nat))).getD []), cut := fun k => List.contains [] k, rc := fun i n => none }
theorem code_maker_good_wp (a0 a1 : AV) (h : z04) (R : AV → z04 → Prop) (H :
 pBox true 69 a0 h (later (fun v1 h2 =>
 z00 6 v1 (later (fun v3 =>
 z00 0 v3 (later (fun v4 =>
 z02 none v4 h2 (later (fun v5 =>
 pLen .slice v5 (later (fun v6 =>
 z03 Try.prog 57 [v6, a1] h2 (later (fun v7 h8 =>
 R v7 h8) ())) ())) ())) ())) ())) ())) : z03 Try.prog 49 [a0, a1] h R :=
 z0j g_code_maker_good z0v Try.func49 (show Try.f49.body = some c_code_maker_good by kernel_rfl) Try.ntmps49 (by kernel_rfl) (Nat.le_of_ble_eq_true rfl) Try.call49 (Eq.mpr (by kernel_rfl) H)
/- padlock/code.same -/
noncomputable def c_code_same : Code := (Try.f63.body).getD .skip
noncomputable def g_code_same : Cfg := { ch := fun d => List.contains [2, 3] d, lv := fun k => ((List.lookup k ([] : List (Nat × List Nat))).getD []), cut := fun k => List.contains [] k, rc := fun i n => none }
theorem code_same_wp (a0 a1 : AV) (h : z04) (R : AV → z04 → Prop) (H :
 pBox true 53 a0 h (later (fun v1 h2 =>
 pBox true 53 a1 h2 (later (fun v3 h4 =>
 z00 0 v1 (later (fun v5 =>
 z02 none v5 h4 (later (fun v6 =>
 z00 0 v3 (later (fun v7 =>
 z02 none v7 h4 (later (fun v8 =>
 z08 (binA .other .eql v6 v8) (later (fun v9 =>
 z07 (later (fun x10 =>
 z0c v9 true (z00 1 v1 (later (fun v11 =>
 z02 none v11 h4 (later (fun v12 =>
 z00 1 v3 (later (fun v13 =>
 z02 none v13 h4 (later (fun v14 =>
 z08 (binA .other .eql v12 v14) (later (fun v15 =>
 x10 [v11, v12, v13, v14, v15] h4) ())) ())) ())) ())) ())) (x10 [.tup [], .tup [], .tup [], .tup [], .tup []] h4)) ()) (later (fun x16 h17 =>
 z0m v9 (nth x16 4) (.bool false) (later (fun v18 =>
 R v18 h17) ())) ())) ())) ())) ())) ())) ())) ())) ())) : z03 Try.prog 63 [a0, a1] h R :=
 z0j g_code_same z0v Try.func63 (show Try.f63.body = some c_code_same by kernel_rfl) Try.ntmps63 (by kernel_rfl) (Nat.le_of_ble_eq_true rfl) Try.call63 (Eq.mpr (by kernel_rfl) H)
/- (padlock/code.maker).is -/
noncomputable def c_code_maker_is : Code := (Try.f58.body).getD .skip
noncomputable def g_code_maker_is : Cfg := { ch := fun d => List.contains [3, 5, 12, 19] d, lv := fun k => ((List.lookup k ([] : List (Nat × List Nat))).getD []), cut := fun k => List.contains [] k, rc := fun i n => none }
theorem code_maker_is_wp (a0 a1 a2 : AV) (h : z04) (R : AV → z04 → Prop) (H :
 pBox true 69 a0 h (later (fun v1 h2 =>
 pBox true 53 a2 h2 (later (fun v3 h4 =>
 z02 (some 9) v1 h4 (later (fun v5 =>
 z03 Try.prog 47 [v5, a1] h4 (later (fun v6 h7 =>
 z2s 0 v6 (later (fun v8 =>
 z2s 1 v6 (later (fun v9 =>
 z1s 53 [.int .i64 0, .int .i64 0, .bool false] h7 (later (fun v10 h11 =>
 z0y 3 v10 v8 h11 (later (fun h12 =>
 z07 (later (fun x13 =>
 z0c v9 true (z02 (some 3) v10 h12 (later (fun v14 =>
 z02 (some 3) v3 h12 (later (fun v15 =>
 z03 Try.prog 63 [v14, v15] h12 (later (fun v16 h17 =>
 x13 [v14, v15, v16] h17) ())) ())) ())) (x13 [.tup [], .tup [], .tup []] h12)) ()) (later (fun x18 h19 =>
 z0m v9 (nth x18 2) (.bool false) (later (fun v20 =>
 R v20 h19) ())) ())) ())) ())) ())) ())) ())) ())) ())) ())) : z03 Try.prog 58 [a0, a1, a2] h R :=
 z0j g_code_maker_is z0v Try.func58 (show Try.f58.body = some c_code_maker_is by kernel_rfl) Try.ntmps58 (by kernel_rfl) (Nat.le_of_ble_eq_true rfl) Try.call58 (Eq.mpr (by kernel_rfl) H)
/- (padlock/code.maker).field -/
noncomputable def c_code_maker_field : Code := (Try.f59.body).getD .skip
noncomputable def g_code_maker_field : Cfg := { ch := fun d => List.contains [2, 3, 11, 12, 24, 25, 35] d, lv := fun k => ((List.lookup k ([] : List (Nat × List Nat))).getD []), cut := fun k => List.contains [] k, rc := fun i n => none }
theorem code_maker_field_wp (a0 a1 : AV) (h : z04) (R : AV → z04 → Prop) (H :
 pBox true 69 a0 h (later (fun v1 h2 =>
 pBox true 45 a1 h2 (later (fun v3 h4 =>
 z1s 53 [.int .i64 0, .int .i64 0, .bool false] h4 (later (fun v5 h6 =>
 true = true ∧ z00 3 v3 (later (fun v7 =>
 z02 none v7 h6 (later (fun v8 =>
 z00 0 v1 (later (fun v9 =>
 z00 0 v9 (later (fun v10 =>
 z02 none v10 h6 (later (fun v11 =>
 pLen .slice v11 (later (fun v12 =>
 z03 Try.prog 39 [v8, v12] h6 (later (fun v13 h14 =>
 True ∧ z08 (unA .not v13) (later (fun v15 =>
 z07 (later (fun x16 =>
 z06 v15 false (z00 4 v3 (later (fun v17 =>
 x16 [v17] h14) ())) (x16 [.tup []] h14)) ()) (later (fun x18 h19 =>
 z07 (later (fun x20 =>
 z06 v15 false (z02 none (nth x18 0) h19 (later (fun v21 =>
 x20 [v21] h19) ())) (x20 [.tup []] h19)) ()) (later (fun x22 h23 =>
 z07 (later (fun x24 =>
 z06 v15 false (z00 0 v1 (later (fun v25 =>
 x24 [v25] h23) ())) (x24 [.tup []] h23)) ()) (later (fun x26 h27 =>
 z07 (later (fun x28 =>
 z06 v15 false (z00 0 (nth x26 0) (later (fun v29 =>
 x28 [v29] h27) ())) (x28 [.tup []] h27)) ()) (later (fun x30 h31 =>
 z07 (later (fun x32 =>
 z06 v15 false (z02 none (nth x30 0) h31 (later (fun v33 =>
 x32 [v33] h31) ())) (x32 [.tup []] h31)) ()) (later (fun x34 h35 =>
 z07 (later (fun x36 =>
 z06 v15 false (z00 3 v3 (later (fun v37 =>
 x36 [v37] h35) ())) (x36 [.tup []] h35)) ()) (later (fun x38 h39 =>
 z07 (later (fun x40 =>
 z06 v15 false (z02 none (nth x38 0) h39 (later (fun v41 =>
 x40 [v41] h39) ())) (x40 [.tup []] h39)) ()) (later (fun x42 h43 =>
 z07 (later (fun x44 =>
 z06 v15 false (z09 (.slice 1) (nth x34 0) (nth x42 0) (later (fun v45 =>
 x44 [v45] h43) ())) (x44 [.tup []] h43)) ()) (later (fun x46 h47 =>
 z07 (later (fun x48 =>
 z06 v15 false (z02 none (nth x46 0) h47 (later (fun v49 =>
 x48 [v49] h47) ())) (x48 [.tup []] h47)) ()) (later (fun x50 h51 =>
 z07 (later (fun x52 =>
 z06 v15 false (pLen .slice (nth x50 0) (later (fun v53 =>
 x52 [v53] h51) ())) (x52 [.tup []] h51)) ()) (later (fun x54 h55 =>
 z07 (later (fun x56 =>
 z06 v15 false (z03 Try.prog 39 [nth x22 0, nth x54 0] h55 (later (fun v57 h58 =>
 x56 [v57] h58) ())) (x56 [.tup []] h55)) ()) (later (fun x59 h60 =>
 True ∧ z07 (later (fun x61 =>
 z06 v15 false (z08 (unA .not (nth x59 0)) (later (fun v62 =>
 x61 [v62] h60) ())) (x61 [.tup []] h60)) ()) (later (fun x63 h64 =>
 z0m v15 (.bool true) (nth x63 0) (later (fun v65 =>
 z07 (later (fun x66 =>
 z06 v65 false (z02 (some 9) v1 h64 (later (fun v67 =>
 x66 [v67] h64) ())) (x66 [.tup []] h64)) ()) (later (fun x68 h69 =>
 z07 (later (fun x70 =>
 z06 v65 false (z00 2 v3 (later (fun v71 =>
 x70 [v71] h69) ())) (x70 [.tup []] h69)) ()) (later (fun x72 h73 =>
 z07 (later (fun x74 =>
 z06 v65 false (z02 none (nth x72 0) h73 (later (fun v75 =>
 x74 [v75] h73) ())) (x74 [.tup []] h73)) ()) (later (fun x76 h77 =>
 z07 (later (fun x78 =>
 z06 v65 false (z00 3 v3 (later (fun v79 =>
 x78 [v79] h77) ())) (x78 [.tup []] h77)) ()) (later (fun x80 h81 =>
 z07 (later (fun x82 =>
 z06 v65 false (z02 none (nth x80 0) h81 (later (fun v83 =>
 x82 [v83] h81) ())) (x82 [.tup []] h81)) ()) (later (fun x84 h85 =>
 z07 (later (fun x86 =>
 z06 v65 false (z01 [(0, 1), (1, 1), (2, 1)] [.int .i64 0, .int .i64 0, .bool false] [(0, .int .i64 4), (1, nth x84 0)] (later (fun v87 =>
 x86 [v87] h85) ())) (x86 [.tup []] h85)) ()) (later (fun x88 h89 =>
 z07 (later (fun x90 =>
 z06 v65 false (z03 Try.prog 58 [nth x68 0, nth x76 0, nth x88 0] h89 (later (fun v91 h92 =>
 x90 [v91] h92) ())) (x90 [.tup []] h89)) ()) (later (fun x93 h94 =>
 True ∧ z07 (later (fun x95 =>
 z06 v65 false (z08 (unA .not (nth x93 0)) (later (fun v96 =>
 x95 [v96] h94) ())) (x95 [.tup []] h94)) ()) (later (fun x97 h98 =>
 z0m v65 (.bool true) (nth x97 0) (later (fun v99 =>
 z0p v99 (z01 [(0, 1), (1, 1), (2, 1)] [.int .i64 0, .int .i64 0, .bool false] [] (later (fun v100 =>
 z0y 3 v5 v100 h98 (later (fun h101 =>
 z02 (some 3) v5 h101 (later (fun v102 =>
 R (.tup [v102, .bool false]) h101) ())) ())) ())) (true = true ∧ z00 0 v1 (later (fun v103 =>
 z00 0 v103 (later (fun v104 =>
 z02 none v104 h98 (later (fun v105 =>
 z00 3 v3 (later (fun v106 =>
 z02 none v106 h98 (later (fun v107 =>
 z09 (.slice 1) v105 v107 (later (fun v108 =>
 z02 none v108 h98 (later (fun v109 =>
 z00 4 v3 (later (fun v110 =>
 z02 none v110 h98 (later (fun v111 =>
 z09 (.slice 3) v109 v111 (later (fun v112 =>
 z02 (some 3) v112 h98 (later (fun v113 =>
 z0y 3 v5 v113 h98 (later (fun h114 =>
 True ∧ z02 (some 3) v5 h114 (later (fun v115 =>
 R (.tup [v115, .bool true]) h114) ())) ())) ())) ())) ())) ())) ())) ())) ())) ())) ())) ())) ()))) ())) ())) ())) ())) ())) ())) ())) ())) ())) ())) ())) ())) ())) ())) ())) ())) ())) ())) ())) ())) ())) ())) ())) ())) ())) ())) ())) ())) ())) ())) ())) ())) ())) : z03 Try.prog 59 [a0, a1] h R :=
 z0j g_code_maker_field z0v Try.func59 (show Try.f59.body = some c_code_maker_field by kernel_rfl) Try.ntmps59 (by kernel_rfl) (Nat.le_of_ble_eq_true rfl) Try.call59 (Eq.mpr (by kernel_rfl) H)
/- (padlock/code.maker).site -/
noncomputable def c_code_maker_site : Code := (Try.f60.body).getD .skip
noncomputable def g_code_maker_site : Cfg := { ch := fun d => List.contains [4, 5, 14, 15] d, lv := fun k => ((List.lookup k ([] : List (Nat × List Nat))).getD []), cut := fun k => List.contains [] k, rc := fun i n => none }
theorem code_maker_site_wp (a0 a1 a2 a3 : AV) (h : z04) (R : AV → z04 → Prop) (H :
 pBox true 69 a0 h (later (fun v1 h2 =>
 pBox true 45 a1 h2 (later (fun v3 h4 =>
 true = true ∧ z00 4 v3 (later (fun v5 =>
 z02 none v5 h4 (later (fun v6 =>
 z00 0 v1 (later (fun v7 =>
 z00 3 v7 (later (fun v8 =>
 z02 none v8 h4 (later (fun v9 =>
 pLen .slice v9 (later (fun v10 =>
 z03 Try.prog 39 [v6, v10] h4 (later (fun v11 h12 =>
 True ∧ z07 (later (fun x13 =>
 z06 v11 true (z00 0 v1 (later (fun v14 =>
 x13 [v14] h12) ())) (x13 [.tup []] h12)) ()) (later (fun x15 h16 =>
 z07 (later (fun x17 =>
 z06 v11 true (z00 3 (nth x15 0) (later (fun v18 =>
 x17 [v18] h16) ())) (x17 [.tup []] h16)) ()) (later (fun x19 h20 =>
 z07 (later (fun x21 =>
 z06 v11 true (z02 none (nth x19 0) h20 (later (fun v22 =>
 x21 [v22] h20) ())) (x21 [.tup []] h20)) ()) (later (fun x23 h24 =>
 z07 (later (fun x25 =>
 z06 v11 true (z00 4 v3 (later (fun v26 =>
 x25 [v26] h24) ())) (x25 [.tup []] h24)) ()) (later (fun x27 h28 =>
 z07 (later (fun x29 =>
 z06 v11 true (z02 none (nth x27 0) h28 (later (fun v30 =>
 x29 [v30] h28) ())) (x29 [.tup []] h28)) ()) (later (fun x31 h32 =>
 z07 (later (fun x33 =>
 z06 v11 true (z09 (.slice 3) (nth x23 0) (nth x31 0) (later (fun v34 =>
 x33 [v34] h32) ())) (x33 [.tup []] h32)) ()) (later (fun x35 h36 =>
 z07 (later (fun x37 =>
 z06 v11 true (z02 (some 3) (nth x35 0) h36 (later (fun v38 =>
 x37 [v38] h36) ())) (x37 [.tup []] h36)) ()) (later (fun x39 h40 =>
 z07 (later (fun x41 =>
 z06 v11 true (z00 5 v1 (later (fun v42 =>
 x41 [v42] h40) ())) (x41 [.tup []] h40)) ()) (later (fun x43 h44 =>
 z07 (later (fun x45 =>
 z06 v11 true (z02 none (nth x43 0) h44 (later (fun v46 =>
 x45 [v46] h44) ())) (x45 [.tup []] h44)) ()) (later (fun x47 h48 =>
 z07 (later (fun x49 =>
 z06 v11 true (x49 [a2] h48) (x49 [.tup []] h48)) ()) (later (fun x50 h51 =>
 z07 (later (fun x52 =>
 z06 v11 true (x52 [a3] h51) (x52 [.tup []] h51)) ()) (later (fun x53 h54 =>
 z07 (later (fun x55 =>
 z06 v11 true (z01 [(0, 1), (1, 1), (2, 1)] [.int .i64 0, .int .i64 0, .int .i64 0] [(0, nth x47 0), (1, nth x50 0), (2, nth x53 0)] (later (fun v56 =>
 x55 [v56] h54) ())) (x55 [.tup []] h54)) ()) (later (fun x57 h58 =>
 z07 (later (fun x59 =>
 z06 v11 true (z08 (binA (.flat [LK.int, LK.int, LK.int]) .eql (nth x39 0) (nth x57 0)) (later (fun v60 =>
 x59 [v60] h58) ())) (x59 [.tup []] h58)) ()) (later (fun x61 h62 =>
 z0m v11 (nth x61 0) (.bool false) (later (fun v63 =>
 R v63 h62) ())) ())) ())) ())) ())) ())) ())) ())) ())) ())) ())) ())) ())) ())) ())) ())) ())) ())) ())) ())) ())) ())) ())) : z03 Try.prog 60 [a0, a1, a2, a3] h R :=
 z0j g_code_maker_site z0v Try.func60 (show Try.f60.body = some c_code_maker_site by kernel_rfl) Try.ntmps60 (by kernel_rfl) (Nat.le_of_ble_eq_true rfl) Try.call60 (Eq.mpr (by kernel_rfl) H)
/- (padlock/code.maker).loads -/
noncomputable def c_code_maker_loads : Code := (Try.f50.body).getD .skip
noncomputable def g_code_maker_loads : Cfg := { ch := fun d => List.contains [3, 4, 14, 21, 22, 35, 42, 46, 55, 60, 66, 73, 79, 84, 90, 97, 102, 109, 110, 119, 127, 130, 136, 142, 148] d, lv := fun k => ((List.lookup k ([] : List (Nat × List Nat))).getD []), cut := fun k => List.contains [] k, rc := fun i n => ((List.lookup i ([(12, [(9, [121, 127])])] : List (Nat × List (Nat × List Nat)))).getD []).lookup n }
theorem code_maker_loads_wp (a0 a1 a2 : AV) (h : z04) (R : AV → z04 → Prop) (H :
 pBox true 69 a0 h (later (fun v1 h2 =>
 pBox true 45 a1 h2 (later (fun v3 h4 =>
 z00 0 v3 (later (fun v5 =>
 z02 none v5 h4 (later (fun v6 =>
 z08 (binA .other .eql v6 (.int .i64 2)) (later (fun v7 =>
 z0p v7 (true = true ∧ z02 (some 8) v3 h4 (later (fun v8 =>
 z03 Try.prog 48 [v8, .bool true, .bool false, .bool false, .bool true, .bool false, .bool false, .bool false] h4 (later (fun v9 h10 =>
 True ∧ z07 (later (fun x11 =>
 z06 v9 true (z00 4 v3 (later (fun v12 =>
 x11 [v12] h10) ())) (x11 [.tup []] h10)) ()) (later (fun x13 h14 =>
 z07 (later (fun x15 =>
 z06 v9 true (z02 none (nth x13 0) h14 (later (fun v16 =>
 x15 [v16] h14) ())) (x15 [.tup []] h14)) ()) (later (fun x17 h18 =>
 z07 (later (fun x19 =>
 z06 v9 true (z00 0 v1 (later (fun v20 =>
 x19 [v20] h18) ())) (x19 [.tup []] h18)) ()) (later (fun x21 h22 =>
 z07 (later (fun x23 =>
 z06 v9 true (z00 1 (nth x21 0) (later (fun v24 =>
 x23 [v24] h22) ())) (x23 [.tup []] h22)) ()) (later (fun x25 h26 =>
 z07 (later (fun x27 =>
 z06 v9 true (z02 none (nth x25 0) h26 (later (fun v28 =>
 x27 [v28] h26) ())) (x27 [.tup []] h26)) ()) (later (fun x29 h30 =>
 z07 (later (fun x31 =>
 z06 v9 true (pLen .slice (nth x29 0) (later (fun v32 =>
 x31 [v32] h30) ())) (x31 [.tup []] h30)) ()) (later (fun x33 h34 =>
 z07 (later (fun x35 =>
 z06 v9 true (z03 Try.prog 39 [nth x17 0, nth x33 0] h34 (later (fun v36 h37 =>
 x35 [v36] h37) ())) (x35 [.tup []] h34)) ()) (later (fun x38 h39 =>
 True ∧ z0m v9 (nth x38 0) (.bool false) (later (fun v40 =>
 z07 (later (fun x41 =>
 z06 v40 true (z02 (some 9) v1 h39 (later (fun v42 =>
 x41 [v42] h39) ())) (x41 [.tup []] h39)) ()) (later (fun x43 h44 =>
 z07 (later (fun x45 =>
 z06 v40 true (z00 1 v3 (later (fun v46 =>
 x45 [v46] h44) ())) (x45 [.tup []] h44)) ()) (later (fun x47 h48 =>
 z07 (later (fun x49 =>
 z06 v40 true (z02 none (nth x47 0) h48 (later (fun v50 =>
 x49 [v50] h48) ())) (x49 [.tup []] h48)) ()) (later (fun x51 h52 =>
 z07 (later (fun x53 =>
 z06 v40 true (z00 0 v1 (later (fun v54 =>
 x53 [v54] h52) ())) (x53 [.tup []] h52)) ()) (later (fun x55 h56 =>
 z07 (later (fun x57 =>
 z06 v40 true (z00 1 (nth x55 0) (later (fun v58 =>
 x57 [v58] h56) ())) (x57 [.tup []] h56)) ()) (later (fun x59 h60 =>
 z07 (later (fun x61 =>
 z06 v40 true (z02 none (nth x59 0) h60 (later (fun v62 =>
 x61 [v62] h60) ())) (x61 [.tup []] h60)) ()) (later (fun x63 h64 =>
 z07 (later (fun x65 =>
 z06 v40 true (z00 4 v3 (later (fun v66 =>
 x65 [v66] h64) ())) (x65 [.tup []] h64)) ()) (later (fun x67 h68 =>
 z07 (later (fun x69 =>
 z06 v40 true (z02 none (nth x67 0) h68 (later (fun v70 =>
 x69 [v70] h68) ())) (x69 [.tup []] h68)) ()) (later (fun x71 h72 =>
 z07 (later (fun x73 =>
 z06 v40 true (z09 (.slice 3) (nth x63 0) (nth x71 0) (later (fun v74 =>
 x73 [v74] h72) ())) (x73 [.tup []] h72)) ()) (later (fun x75 h76 =>
 z07 (later (fun x77 =>
 z06 v40 true (z02 (some 3) (nth x75 0) h76 (later (fun v78 =>
 x77 [v78] h76) ())) (x77 [.tup []] h76)) ()) (later (fun x79 h80 =>
 z07 (later (fun x81 =>
 z06 v40 true (z03 Try.prog 58 [nth x43 0, nth x51 0, nth x79 0] h80 (later (fun v82 h83 =>
 x81 [v82] h83) ())) (x81 [.tup []] h80)) ()) (later (fun x84 h85 =>
 True ∧ z0m v40 (nth x84 0) (.bool false) (later (fun v86 =>
 R v86 h85) ())) ())) ())) ())) ())) ())) ())) ())) ())) ())) ())) ())) ())) ())) ())) ())) ())) ())) ())) ())) ())) ())) (z08 (binA .other .eql v6 (.int .i64 3)) (later (fun v87 =>
 z0p v87 (z02 (some 9) v1 h4 (later (fun v88 =>
 z02 (some 8) v3 h4 (later (fun v89 =>
 z03 Try.prog 59 [v88, v89] h4 (later (fun v90 h91 =>
 z2s 0 v90 (later (fun v92 =>
 z2s 1 v90 (later (fun v93 =>
 z1s 53 [.int .i64 0, .int .i64 0, .bool false] h91 (later (fun v94 h95 =>
 z0y 3 v94 v92 h95 (later (fun h96 =>
 z02 (some 8) v3 h96 (later (fun v97 =>
 z03 Try.prog 48 [v97, .bool true, .bool true, .bool true, .bool true, .bool false, .bool false, .bool false] h96 (later (fun v98 h99 =>
 z07 (later (fun x100 =>
 z0c v98 true (x100 [v93] h99) (x100 [.tup []] h99)) ()) (later (fun x101 h102 =>
 z0m v98 (nth x101 0) (.bool false) (later (fun v103 =>
 z07 (later (fun x104 =>
 z0c v103 true (z02 (some 9) v1 h102 (later (fun v105 =>
 z00 1 v3 (later (fun v106 =>
 z02 none v106 h102 (later (fun v107 =>
 z02 (some 3) v94 h102 (later (fun v108 =>
 z03 Try.prog 58 [v105, v107, v108] h102 (later (fun v109 h110 =>
 x104 [v105, v106, v107, v108, v109] h110) ())) ())) ())) ())) ())) (x104 [.tup [], .tup [], .tup [], .tup [], .tup []] h102)) ()) (later (fun x111 h112 =>
 z0m v103 (nth x111 4) (.bool false) (later (fun v113 =>
 R v113 h112) ())) ())) ())) ())) ())) ())) ())) ())) ())) ())) ())) ())) ())) (z08 (binA .other .eql v6 (.int .i64 4)) (later (fun v114 =>
 z0p v114 (z02 (some 8) v3 h4 (later (fun v115 =>
 z03 Try.prog 48 [v115, .bool true, .bool true, .bool false, .bool false, .bool false, .bool false, .bool true] h4 (later (fun v116 h117 =>
 z07 (later (fun x118 =>
 z0c v116 true (z02 (some 9) v1 h117 (later (fun v119 =>
 z00 1 v3 (later (fun v120 =>
 z02 none v120 h117 (later (fun v121 =>
 z01 [(0, 1), (1, 1), (2, 1)] [.int .i64 0, .int .i64 0, .bool false] [(0, .int .i64 1)] (later (fun v122 =>
 z03 Try.prog 58 [v119, v121, v122] h117 (later (fun v123 h124 =>
 x118 [v119, v120, v121, v122, v123] h124) ())) ())) ())) ())) ())) (x118 [.tup [], .tup [], .tup [], .tup [], .tup []] h117)) ()) (later (fun x125 h126 =>
 z0m v116 (nth x125 4) (.bool false) (later (fun v127 =>
 z07 (later (fun x128 =>
 z0c v127 true (z02 (some 9) v1 h126 (later (fun v129 =>
 z00 2 v3 (later (fun v130 =>
 z02 none v130 h126 (later (fun v131 =>
 z01 [(0, 1), (1, 1), (2, 1)] [.int .i64 0, .int .i64 0, .bool false] [(0, .int .i64 3)] (later (fun v132 =>
 z03 Try.prog 58 [v129, v131, v132] h126 (later (fun v133 h134 =>
 x128 [v129, v130, v131, v132, v133] h134) ())) ())) ())) ())) ())) (x128 [.tup [], .tup [], .tup [], .tup [], .tup []] h126)) ()) (later (fun x135 h136 =>
 z0m v127 (nth x135 4) (.bool false) (later (fun v137 =>
 z07 (later (fun x138 =>
 z0c v137 true (z02 (some 9) v1 h136 (later (fun v139 =>
 z00 7 v3 (later (fun v140 =>
 z02 none v140 h136 (later (fun v141 =>
 z03 Try.prog 49 [v139, v141] h136 (later (fun v142 h143 =>
 x138 [v139, v140, v141, v142] h143) ())) ())) ())) ())) (x138 [.tup [], .tup [], .tup [], .tup []] h136)) ()) (later (fun x144 h145 =>
 z0m v137 (nth x144 3) (.bool false) (later (fun v146 =>
 R v146 h145) ())) ())) ())) ())) ())) ())) ())) ())) (z08 (binA .other .eql v6 (.int .i64 10)) (later (fun v147 =>
 z0p v147 (z02 (some 8) v3 h4 (later (fun v148 =>
 z03 Try.prog 48 [v148, .bool true, .bool true, .bool false, .bool false, .bool false, .bool false, .bool false] h4 (later (fun v149 h150 =>
 z07 (later (fun x151 =>
 z0c v149 true (z02 (some 9) v1 h150 (later (fun v152 =>
 z00 1 v3 (later (fun v153 =>
 z02 none v153 h150 (later (fun v154 =>
 z01 [(0, 1), (1, 1), (2, 1)] [.int .i64 0, .int .i64 0, .bool false] [(0, .int .i64 1)] (later (fun v155 =>
 z03 Try.prog 58 [v152, v154, v155] h150 (later (fun v156 h157 =>
 x151 [v152, v153, v154, v155, v156] h157) ())) ())) ())) ())) ())) (x151 [.tup [], .tup [], .tup [], .tup [], .tup []] h150)) ()) (later (fun x158 h159 =>
 z0m v149 (nth x158 4) (.bool false) (later (fun v160 =>
 z07 (later (fun x161 =>
 z0c v160 true (z02 (some 9) v1 h159 (later (fun v162 =>
 z00 2 v3 (later (fun v163 =>
 z02 none v163 h159 (later (fun v164 =>
 z01 [(0, 1), (1, 1), (2, 1)] [.int .i64 0, .int .i64 0, .bool false] [(0, .int .i64 3)] (later (fun v165 =>
 z03 Try.prog 58 [v162, v164, v165] h159 (later (fun v166 h167 =>
 x161 [v162, v163, v164, v165, v166] h167) ())) ())) ())) ())) ())) (x161 [.tup [], .tup [], .tup [], .tup [], .tup []] h159)) ()) (later (fun x168 h169 =>
 z0m v160 (nth x168 4) (.bool false) (later (fun v170 =>
 R v170 h169) ())) ())) ())) ())) ())) ())) (z08 (binA .other .eql v6 (.int .i64 8)) (later (fun v171 =>
 z0p v171 (z02 (some 8) v3 h4 (later (fun v172 =>
 z03 Try.prog 48 [v172, .bool true, .bool false, .bool true, .bool true, .bool false, .bool false, .bool false] h4 (later (fun v173 h174 =>
 z07 (later (fun x175 =>
 z0c v173 true (z00 3 v3 (later (fun v176 =>
 z02 none v176 h174 (later (fun v177 =>
 z00 0 v1 (later (fun v178 =>
 z00 0 v178 (later (fun v179 =>
 z02 none v179 h174 (later (fun v180 =>
 pLen .slice v180 (later (fun v181 =>
 z03 Try.prog 39 [v177, v181] h174 (later (fun v182 h183 =>
 x175 [v176, v177, v178, v179, v180, v181, v182] h183) ())) ())) ())) ())) ())) ())) ())) (x175 [.tup [], .tup [], .tup [], .tup [], .tup [], .tup [], .tup []] h174)) ()) (later (fun x184 h185 =>
 z0m v173 (nth x184 6) (.bool false) (later (fun v186 =>
 z07 (later (fun x187 =>
 z0c v186 true (z02 (some 9) v1 h185 (later (fun v188 =>
 z00 1 v3 (later (fun v189 =>
 z02 none v189 h185 (later (fun v190 =>
 z00 3 v3 (later (fun v191 =>
 z02 none v191 h185 (later (fun v192 =>
 z01 [(0, 1), (1, 1), (2, 1)] [.int .i64 0, .int .i64 0, .bool false] [(0, .int .i64 4), (1, v192)] (later (fun v193 =>
 z03 Try.prog 58 [v188, v190, v193] h185 (later (fun v194 h195 =>
 x187 [v188, v189, v190, v191, v192, v193, v194] h195) ())) ())) ())) ())) ())) ())) ())) (x187 [.tup [], .tup [], .tup [], .tup [], .tup [], .tup [], .tup []] h185)) ()) (later (fun x196 h197 =>
 z0m v186 (nth x196 6) (.bool false) (later (fun v198 =>
 z07 (later (fun x199 =>
 z0c v198 true (z02 (some 9) v1 h197 (later (fun v200 =>
 z02 (some 8) v3 h197 (later (fun v201 =>
 z00 3 v3 (later (fun v202 =>
 z02 none v202 h197 (later (fun v203 =>
 z03 Try.prog 60 [v200, v201, a2, v203] h197 (later (fun v204 h205 =>
 x199 [v200, v201, a2, v202, v203, v204] h205) ())) ())) ())) ())) ())) (x199 [.tup [], .tup [], .tup [], .tup [], .tup [], .tup []] h197)) ()) (later (fun x206 h207 =>
 pChunk [v198, nth x206 5] (later (fun x208 =>
 z0m (nth x208 0) (nth x208 1) (.bool false) (later (fun v209 =>
 R v209 h207) ())) ())) ())) ())) ())) ())) ())) ())) ())) (z02 (some 8) v3 h4 (later (fun v210 =>
 z03 Try.prog 48 [v210, .bool true, .bool false, .bool false, .bool true, .bool false, .bool true, .bool false] h4 (later (fun v211 h212 =>
 z07 (later (fun x213 =>
 z0c v211 true (z02 (some 9) v1 h212 (later (fun v214 =>
 z00 1 v3 (later (fun v215 =>
 z02 none v215 h212 (later (fun v216 =>
 z01 [(0, 1), (1, 1), (2, 1)] [.int .i64 0, .int .i64 0, .bool false] [(0, .int .i64 3)] (later (fun v217 =>
 z03 Try.prog 58 [v214, v216, v217] h212 (later (fun v218 h219 =>
 x213 [v214, v215, v216, v217, v218] h219) ())) ())) ())) ())) ())) (x213 [.tup [], .tup [], .tup [], .tup [], .tup []] h212)) ()) (later (fun x220 h221 =>
 z0m v211 (nth x220 4) (.bool false) (later (fun v222 =>
 z07 (later (fun x223 =>
 z0c v222 true (z02 (some 9) v1 h221 (later (fun v224 =>
 z00 6 v3 (later (fun v225 =>
 z02 none v225 h221 (later (fun v226 =>
 z03 Try.prog 49 [v224, v226] h221 (later (fun v227 h228 =>
 x223 [v224, v225, v226, v227] h228) ())) ())) ())) ())) (x223 [.tup [], .tup [], .tup [], .tup []] h221)) ()) (later (fun x229 h230 =>
 z0m v222 (nth x229 3) (.bool false) (later (fun v231 =>
 z07 (later (fun x232 =>
 z0c v231 true (z02 (some 9) v1 h230 (later (fun v233 =>
 z02 (some 8) v3 h230 (later (fun v234 =>
 z03 Try.prog 60 [v233, v234, a2, .int .i64 (-1)] h230 (later (fun v235 h236 =>
 x232 [v233, v234, a2, v235] h236) ())) ())) ())) (x232 [.tup [], .tup [], .tup [], .tup []] h230)) ()) (later (fun x237 h238 =>
 z0m v231 (nth x237 3) (.bool false) (later (fun v239 =>
 R v239 h238) ())) ())) ())) ())) ())) ())) ())) ()))) ()))) ()))) ()))) ()))) ())) ())) ())) ())) ())) : z03 Try.prog 50 [a0, a1, a2] h R :=
 z0j g_code_maker_loads z0v Try.func50 (show Try.f50.body = some c_code_maker_loads by kernel_rfl) Try.ntmps50 (by kernel_rfl) (Nat.le_of_ble_eq_true rfl) Try.call50 (Eq.mpr (by kernel_rfl) H)
/- (padlock/code.maker).stores -/
noncomputable def c_code_maker_stores : Code := (Try.f51.body).getD .skip
noncomputable def g_code_maker_stores : Cfg := { ch := fun d => List.contains [2, 3, 12, 19, 20, 26, 33, 37, 45, 48, 54, 60, 66] d, lv := fun k => ((List.lookup k ([] : List (Nat × List Nat))).getD []), cut := fun k => List.contains [] k, rc := fun i n => none }
theorem code_maker_stores_wp (a0 a1 : AV) (h : z04) (R : AV → z04 → Prop) (H :
 pBox true 69 a0 h (later (fun v1 h2 =>
 pBox true 45 a1 h2 (later (fun v3 h4 =>
 z00 0 v3 (later (fun v5 =>
 z02 none v5 h4 (later (fun v6 =>
 z08 (binA .other .eql v6 (.int .i64 5)) (later (fun v7 =>
 z0p v7 (z02 (some 8) v3 h4 (later (fun v8 =>
 z03 Try.prog 48 [v8, .bool false, .bool false, .bool false, .bool true, .bool false, .bool true, .bool false] h4 (later (fun v9 h10 =>
 z07 (later (fun x11 =>
 z0c v9 true (z00 4 v3 (later (fun v12 =>
 z02 none v12 h10 (later (fun v13 =>
 z00 0 v1 (later (fun v14 =>
 z00 1 v14 (later (fun v15 =>
 z02 none v15 h10 (later (fun v16 =>
 pLen .slice v16 (later (fun v17 =>
 z03 Try.prog 39 [v13, v17] h10 (later (fun v18 h19 =>
 x11 [v12, v13, v14, v15, v16, v17, v18] h19) ())) ())) ())) ())) ())) ())) ())) (x11 [.tup [], .tup [], .tup [], .tup [], .tup [], .tup [], .tup []] h10)) ()) (later (fun x20 h21 =>
 z0m v9 (nth x20 6) (.bool false) (later (fun v22 =>
 z07 (later (fun x23 =>
 z0c v22 true (z02 (some 9) v1 h21 (later (fun v24 =>
 z00 6 v3 (later (fun v25 =>
 z02 none v25 h21 (later (fun v26 =>
 z03 Try.prog 49 [v24, v26] h21 (later (fun v27 h28 =>
 x23 [v24, v25, v26, v27] h28) ())) ())) ())) ())) (x23 [.tup [], .tup [], .tup [], .tup []] h21)) ()) (later (fun x29 h30 =>
 z0m v22 (nth x29 3) (.bool false) (later (fun v31 =>
 R v31 h30) ())) ())) ())) ())) ())) ())) (z08 (binA .other .eql v6 (.int .i64 6)) (later (fun v32 =>
 z0p v32 (z02 (some 9) v1 h4 (later (fun v33 =>
 z02 (some 8) v3 h4 (later (fun v34 =>
 z03 Try.prog 59 [v33, v34] h4 (later (fun v35 h36 =>
 z2s 0 v35 (later (fun v37 =>
 z2s 1 v35 (later (fun v38 =>
 z1s 53 [.int .i64 0, .int .i64 0, .bool false] h36 (later (fun v39 h40 =>
 z0y 3 v39 v37 h40 (later (fun h41 =>
 z02 (some 8) v3 h41 (later (fun v42 =>
 z03 Try.prog 48 [v42, .bool false, .bool true, .bool true, .bool true, .bool false, .bool true, .bool false] h41 (later (fun v43 h44 =>
 z07 (later (fun x45 =>
 z0c v43 true (x45 [v38] h44) (x45 [.tup []] h44)) ()) (later (fun x46 h47 =>
 z0m v43 (nth x46 0) (.bool false) (later (fun v48 =>
 z07 (later (fun x49 =>
 z0c v48 true (z02 (some 9) v1 h47 (later (fun v50 =>
 z00 6 v3 (later (fun v51 =>
 z02 none v51 h47 (later (fun v52 =>
 z03 Try.prog 49 [v50, v52] h47 (later (fun v53 h54 =>
 x49 [v50, v51, v52, v53] h54) ())) ())) ())) ())) (x49 [.tup [], .tup [], .tup [], .tup []] h47)) ()) (later (fun x55 h56 =>
 z0m v48 (nth x55 3) (.bool false) (later (fun v57 =>
 R v57 h56) ())) ())) ())) ())) ())) ())) ())) ())) ())) ())) ())) ())) ())) (z02 (some 8) v3 h4 (later (fun v58 =>
 z03 Try.prog 48 [v58, .bool false, .bool true, .bool false, .bool false, .bool false, .bool true, .bool true] h4 (later (fun v59 h60 =>
 z07 (later (fun x61 =>
 z0c v59 true (z02 (some 9) v1 h60 (later (fun v62 =>
 z00 2 v3 (later (fun v63 =>
 z02 none v63 h60 (later (fun v64 =>
 z01 [(0, 1), (1, 1), (2, 1)] [.int .i64 0, .int .i64 0, .bool false] [(0, .int .i64 3)] (later (fun v65 =>
 z03 Try.prog 58 [v62, v64, v65] h60 (later (fun v66 h67 =>
 x61 [v62, v63, v64, v65, v66] h67) ())) ())) ())) ())) ())) (x61 [.tup [], .tup [], .tup [], .tup [], .tup []] h60)) ()) (later (fun x68 h69 =>
 z0m v59 (nth x68 4) (.bool false) (later (fun v70 =>
 z07 (later (fun x71 =>
 z0c v70 true (z02 (some 9) v1 h69 (later (fun v72 =>
 z00 6 v3 (later (fun v73 =>
 z02 none v73 h69 (later (fun v74 =>
 z03 Try.prog 49 [v72, v74] h69 (later (fun v75 h76 =>
 x71 [v72, v73, v74, v75] h76) ())) ())) ())) ())) (x71 [.tup [], .tup [], .tup [], .tup []] h69)) ()) (later (fun x77 h78 =>
 z0m v70 (nth x77 3) (.bool false) (later (fun v79 =>
 z07 (later (fun x80 =>
 z0c v79 true (z02 (some 9) v1 h78 (later (fun v81 =>
 z00 7 v3 (later (fun v82 =>
 z02 none v82 h78 (later (fun v83 =>
 z03 Try.prog 49 [v81, v83] h78 (later (fun v84 h85 =>
 x80 [v81, v82, v83, v84] h85) ())) ())) ())) ())) (x80 [.tup [], .tup [], .tup [], .tup []] h78)) ()) (later (fun x86 h87 =>
 z0m v79 (nth x86 3) (.bool false) (later (fun v88 =>
 R v88 h87) ())) ())) ())) ())) ())) ())) ())) ()))) ()))) ())) ())) ())) ())) ())) : z03 Try.prog 51 [a0, a1] h R :=
 z0j g_code_maker_stores z0v Try.func51 (show Try.f51.body = some c_code_maker_stores by kernel_rfl) Try.ntmps51 (by kernel_rfl) (Nat.le_of_ble_eq_true rfl) Try.call51 (Eq.mpr (by kernel_rfl) H)
/- (padlock/code.maker).goes -/
noncomputable def c_code_maker_goes : Code := (Try.f52.body).getD .skip
noncomputable def g_code_maker_goes : Cfg := { ch := fun d => List.contains [3, 11, 12, 19, 25] d, lv := fun k => ((List.lookup k ([] : List (Nat × List Nat))).getD []), cut := fun k => List.contains [] k, rc := fun i n => none }
theorem code_maker_goes_wp (a0 a1 a2 : AV) (h : z04) (R : AV → z04 → Prop) (H :
 pBox true 69 a0 h (later (fun v1 h2 =>
 z00 6 v1 (later (fun v3 =>
 z00 1 v3 (later (fun v4 =>
 z02 none v4 h2 (later (fun v5 =>
 pLen .slice v5 (later (fun v6 =>
 z03 Try.prog 39 [a2, v6] h2 (later (fun v7 h8 =>
 z08 (unA .not v7) (later (fun v9 =>
 z0p v9 (R (.bool false) h8) (true = true ∧ z00 0 v1 (later (fun v10 =>
 z02 (some 5) v10 h8 (later (fun v11 =>
 z00 5 v1 (later (fun v12 =>
 z02 none v12 h8 (later (fun v13 =>
 z00 0 v1 (later (fun v14 =>
 z02 (some 5) v14 h8 (later (fun v15 =>
 z00 5 v1 (later (fun v16 =>
 z02 none v16 h8 (later (fun v17 =>
 z03 Try.prog 46 [v11, v13, a1] h8 (later (fun v18 h19 =>
 ((z02 none v16 h19 (later (fun v20 =>
 v20 = v17 ∧ h19 = h19) ())) ∧ z02 (some 5) v14 h19 (later (fun v21 =>
 v21 = v15 ∧ h19 = h19) ())) ∧ z03 Try.prog 46 [v15, v17, a2] h19 (later (fun v22 h23 =>
 True ∧ z08 (binA .other .eql v18 v22) (later (fun v24 =>
 R v24 h23) ())) ())) ())) ())) ())) ())) ())) ())) ())) ())) ()))) ())) ())) ())) ())) ())) ())) ())) : z03 Try.prog 52 [a0, a1, a2] h R :=
 z0j g_code_maker_goes z0v Try.func52 (show Try.f52.body = some c_code_maker_goes by kernel_rfl) Try.ntmps52 (by kernel_rfl) (Nat.le_of_ble_eq_true rfl) Try.call52 (Eq.mpr (by kernel_rfl) H)
/- (padlock/code.maker).border -/
noncomputable def c_code_maker_border : Code := (Try.f53.body).getD .skip
noncomputable def g_code_maker_border : Cfg := { ch := fun d => List.contains [3, 4, 9, 17, 18] d, lv := fun k => ((List.lookup k ([] : List (Nat × List Nat))).getD []), cut := fun k => List.contains [] k, rc := fun i n => none }
theorem code_maker_border_wp (a0 a1 a2 : AV) (h : z04) (R : AV → z04 → Prop) (H :
 pBox true 69 a0 h (later (fun v1 h2 =>
 pBox true 45 a1 h2 (later (fun v3 h4 =>
 z02 (some 8) v3 h4 (later (fun v5 =>
 z03 Try.prog 48 [v5, .bool false, .bool false, .bool false, .bool true, .bool false, .bool false, .bool false] h4 (later (fun v6 h7 =>
 z08 (unA .not v6) (later (fun v8 =>
 z07 (later (fun x9 =>
 z0c v8 false (z00 4 v3 (later (fun v10 =>
 z02 none v10 h7 (later (fun v11 =>
 z00 0 v1 (later (fun v12 =>
 z00 4 v12 (later (fun v13 =>
 z02 none v13 h7 (later (fun v14 =>
 pLen .slice v14 (later (fun v15 =>
 z03 Try.prog 39 [v11, v15] h7 (later (fun v16 h17 =>
 z08 (unA .not v16) (later (fun v18 =>
 x9 [v10, v11, v12, v13, v14, v15, v16, v18] h17) ())) ())) ())) ())) ())) ())) ())) ())) (x9 [.tup [], .tup [], .tup [], .tup [], .tup [], .tup [], .tup [], .tup []] h7)) ()) (later (fun x19 h20 =>
 z0m v8 (.bool true) (nth x19 7) (later (fun v21 =>
 z0p v21 (R (.bool false) h20) (z00 0 v1 (later (fun v22 =>
 z00 4 v22 (later (fun v23 =>
 z02 none v23 h20 (later (fun v24 =>
 z00 4 v3 (later (fun v25 =>
 z02 none v25 h20 (later (fun v26 =>
 z09 (.slice 3) v24 v26 (later (fun v27 =>
 z02 (some 3) v27 h20 (later (fun v28 =>
 z1s 51 [.int .i64 0, .int .i64 0, .int .i64 0] h20 (later (fun v29 h30 =>
 z0y 3 v29 v28 h30 (later (fun h31 =>
 z00 0 v3 (later (fun v32 =>
 z02 none v32 h31 (later (fun v33 =>
 z08 (binA .other .eql v33 (.int .i64 15)) (later (fun v34 =>
 z0p v34 (z00 0 v29 (later (fun v35 =>
 z02 none v35 h31 (later (fun v36 =>
 z00 5 v1 (later (fun v37 =>
 z02 none v37 h31 (later (fun v38 =>
 z08 (binA .other .eql v36 v38) (later (fun v39 =>
 z07 (later (fun x40 =>
 z0c v39 true (z00 1 v29 (later (fun v41 =>
 z02 none v41 h31 (later (fun v42 =>
 z08 (binA .other .eql v42 a2) (later (fun v43 =>
 x40 [v41, v42, a2, v43] h31) ())) ())) ())) (x40 [.tup [], .tup [], .tup [], .tup []] h31)) ()) (later (fun x44 h45 =>
 z0m v39 (nth x44 3) (.bool false) (later (fun v46 =>
 R v46 h45) ())) ())) ())) ())) ())) ())) ())) (z00 0 v29 (later (fun v47 =>
 z02 none v47 h31 (later (fun v48 =>
 z00 5 v1 (later (fun v49 =>
 z02 none v49 h31 (later (fun v50 =>
 z08 (binA .other .eql v48 v50) (later (fun v51 =>
 z07 (later (fun x52 =>
 z0c v51 true (z00 2 v29 (later (fun v53 =>
 z02 none v53 h31 (later (fun v54 =>
 z08 (binA .other .eql v54 a2) (later (fun v55 =>
 x52 [v53, v54, a2, v55] h31) ())) ())) ())) (x52 [.tup [], .tup [], .tup [], .tup []] h31)) ()) (later (fun x56 h57 =>
 z0m v51 (nth x56 3) (.bool false) (later (fun v58 =>
 R v58 h57) ())) ())) ())) ())) ())) ())) ()))) ())) ())) ())) ())) ())) ())) ())) ())) ())) ())) ())) ()))) ())) ())) ())) ())) ())) ())) ())) : z03 Try.prog 53 [a0, a1, a2] h R :=
 z0j g_code_maker_border z0v Try.func53 (show Try.f53.body = some c_code_maker_border by kernel_rfl) Try.ntmps53 (by kernel_rfl) (Nat.le_of_ble_eq_true rfl) Try.call53 (Eq.mpr (by kernel_rfl) H)
/- (padlock/code.maker).instr -/
noncomputable def c_code_maker_instr : Code := (Try.f41.body).getD .skip
noncomputable def g_code_maker_instr : Cfg := { ch := fun d => List.contains [3, 4, 11, 18, 29, 33, 41, 53, 60, 65, 70, 75, 81, 86, 92, 98, 106, 112, 119] d, lv := fun k => ((List.lookup k ([(13, [2, 3, 4, 22, 43]), (17, [2, 3, 4, 22, 54]), (20, [2, 3, 4, 22, 61])] : List (Nat × List Nat))).getD []), cut := fun k => List.contains [13, 17, 20] k, rc := fun i n => none }
theorem code_maker_instr_wp (a0 a1 a2 : AV) (h : z04) (R : AV → z04 → Prop) (H :
 pBox true 69 a0 h (later (fun v1 h2 =>
 pBox true 45 a1 h2 (later (fun v3 h4 =>
 z00 0 v3 (later (fun v5 =>
 z02 none v5 h4 (later (fun v6 =>
 z03 Try.prog 45 [v6] h4 (later (fun v7 h8 =>
 z07 (later (fun x9 =>
 z0c v7 true (z00 0 v1 (later (fun v10 =>
 z02 (some 5) v10 h8 (later (fun v11 =>
 z00 5 v1 (later (fun v12 =>
 z02 none v12 h8 (later (fun v13 =>
 z03 Try.prog 46 [v11, v13, a2] h8 (later (fun v14 h15 =>
 z08 (binA .other .lss v14 (.int .i64 0)) (later (fun v16 =>
 x9 [v10, v11, v12, v13, a2, v14, v16] h15) ())) ())) ())) ())) ())) ())) (x9 [.tup [], .tup [], .tup [], .tup [], .tup [], .tup [], .tup []] h8)) ()) (later (fun x17 h18 =>
 z0m v7 (nth x17 6) (.bool false) (later (fun v19 =>
 z0p v19 (R (.bool false) h18) (z00 0 v3 (later (fun v20 =>
 z02 none v20 h18 (later (fun v21 =>
 z08 (binA .other .eql v21 (.int .i64 1)) (later (fun v22 =>
 z0p v22 (z02 (some 9) v1 h18 (later (fun v23 =>
 z00 1 v3 (later (fun v24 =>
 z02 none v24 h18 (later (fun v25 =>
 z03 Try.prog 47 [v23, v25] h18 (later (fun v26 h27 =>
 z2s 0 v26 (later (fun v28 =>
 z2s 1 v26 (later (fun v29 =>
 z1s 53 [.int .i64 0, .int .i64 0, .bool false] h27 (later (fun v30 h31 =>
 z0y 3 v30 v28 h31 (later (fun h32 =>
 z02 (some 8) v3 h32 (later (fun v33 =>
 z03 Try.prog 48 [v33, .bool true, .bool false, .bool false, .bool false, .bool false, .bool true, .bool false] h32 (later (fun v34 h35 =>
 z07 (later (fun x36 =>
 z0c v34 true (x36 [v29] h35) (x36 [.tup []] h35)) ()) (later (fun x37 h38 =>
 z0m v34 (nth x37 0) (.bool false) (later (fun v39 =>
 z07 (later (fun x40 =>
 z0c v39 true (z02 (some 9) v1 h38 (later (fun v41 =>
 z00 6 v3 (later (fun v42 =>
 z02 none v42 h38 (later (fun v43 =>
 z03 Try.prog 49 [v41, v43] h38 (later (fun v44 h45 =>
 x40 [v41, v42, v43, v44] h45) ())) ())) ())) ())) (x40 [.tup [], .tup [], .tup [], .tup []] h38)) ()) (later (fun x46 h47 =>
 z0m v39 (nth x46 3) (.bool false) (later (fun v48 =>
 R v48 h47) ())) ())) ())) ())) ())) ())) ())) ())) ())) ())) ())) ())) ())) ())) (Cut (later (fun J =>
 z08 (binA .other .eql v21 (.int .i64 2)) (later (fun v49 =>
 z0p v49 (J (frOf [(2, a2), (3, v1), (4, v3), (22, v21), (43, v49)]) h18) (z08 (binA .other .eql v21 (.int .i64 3)) (later (fun v50 =>
 z0p v50 (J (frOf [(2, a2), (3, v1), (4, v3), (22, v21), (43, v50)]) h18) (z08 (binA .other .eql v21 (.int .i64 4)) (later (fun v51 =>
 z0p v51 (J (frOf [(2, a2), (3, v1), (4, v3), (22, v21), (43, v51)]) h18) (z08 (binA .other .eql v21 (.int .i64 10)) (later (fun v52 =>
 z0p v52 (J (frOf [(2, a2), (3, v1), (4, v3), (22, v21), (43, v52)]) h18) (z08 (binA .other .eql v21 (.int .i64 8)) (later (fun v53 =>
 z0p v53 (J (frOf [(2, a2), (3, v1), (4, v3), (22, v21), (43, v53)]) h18) (z08 (binA .other .eql v21 (.int .i64 9)) (later (fun v54 =>
 J (frOf [(2, a2), (3, v1), (4, v3), (22, v21), (43, v54)]) h18) ()))) ()))) ()))) ()))) ()))) ())) ()) (later (fun fr' h' =>
 z0p (fr' 43) (z02 (some 9) (fr' 3) h' (later (fun v55 =>
 z02 (some 8) (fr' 4) h' (later (fun v56 =>
 z03 Try.prog 50 [v55, v56, fr' 2] h' (later (fun v57 h58 =>
 R v57 h58) ())) ())) ())) (Cut (later (fun J =>
 z08 (binA .other .eql (fr' 22) (.int .i64 5)) (later (fun v59 =>
 z0p v59 (J (frOf [(2, fr' 2), (3, fr' 3), (4, fr' 4), (22, fr' 22), (54, v59)]) h') (z08 (binA .other .eql (fr' 22) (.int .i64 6)) (later (fun v60 =>
 z0p v60 (J (frOf [(2, fr' 2), (3, fr' 3), (4, fr' 4), (22, fr' 22), (54, v60)]) h') (z08 (binA .other .eql (fr' 22) (.int .i64 7)) (later (fun v61 =>
 J (frOf [(2, fr' 2), (3, fr' 3), (4, fr' 4), (22, fr' 22), (54, v61)]) h') ()))) ()))) ())) ()) (later (fun fr' h' =>
 z0p (fr' 54) (z02 (some 9) (fr' 3) h' (later (fun v62 =>
 z02 (some 8) (fr' 4) h' (later (fun v63 =>
 z03 Try.prog 51 [v62, v63] h' (later (fun v64 h65 =>
 R v64 h65) ())) ())) ())) (Cut (later (fun J =>
 z08 (binA .other .eql (fr' 22) (.int .i64 11)) (later (fun v66 =>
 z0p v66 (J (frOf [(2, fr' 2), (3, fr' 3), (4, fr' 4), (22, fr' 22), (61, v66)]) h') (z08 (binA .other .eql (fr' 22) (.int .i64 12)) (later (fun v67 =>
 J (frOf [(2, fr' 2), (3, fr' 3), (4, fr' 4), (22, fr' 22), (61, v67)]) h') ()))) ())) ()) (later (fun fr' h' =>
 z0p (fr' 61) (z02 (some 8) (fr' 4) h' (later (fun v68 =>
 z03 Try.prog 48 [v68, .bool false, .bool false, .bool false, .bool false, .bool false, .bool true, .bool false] h' (later (fun v69 h70 =>
 z07 (later (fun x71 =>
 z0c v69 true (z02 (some 9) (fr' 3) h70 (later (fun v72 =>
 z00 6 (fr' 4) (later (fun v73 =>
 z02 none v73 h70 (later (fun v74 =>
 z03 Try.prog 49 [v72, v74] h70 (later (fun v75 h76 =>
 x71 [v72, v73, v74, v75] h76) ())) ())) ())) ())) (x71 [.tup [], .tup [], .tup [], .tup []] h70)) ()) (later (fun x77 h78 =>
 z0m v69 (nth x77 3) (.bool false) (later (fun v79 =>
 R v79 h78) ())) ())) ())) ())) (z08 (binA .other .eql (fr' 22) (.int .i64 13)) (later (fun v80 =>
 z0p v80 (z02 (some 8) (fr' 4) h' (later (fun v81 =>
 z03 Try.prog 48 [v81, .bool false, .bool false, .bool false, .bool false, .bool true, .bool false, .bool false] h' (later (fun v82 h83 =>
 z07 (later (fun x84 =>
 z0c v82 true (z02 (some 9) (fr' 3) h83 (later (fun v85 =>
 z00 5 (fr' 4) (later (fun v86 =>
 z02 none v86 h83 (later (fun v87 =>
 z03 Try.prog 52 [v85, fr' 2, v87] h83 (later (fun v88 h89 =>
 x84 [v85, fr' 2, v86, v87, v88] h89) ())) ())) ())) ())) (x84 [.tup [], .tup [], .tup [], .tup [], .tup []] h83)) ()) (later (fun x90 h91 =>
 z0m v82 (nth x90 4) (.bool false) (later (fun v92 =>
 R v92 h91) ())) ())) ())) ())) (z08 (binA .other .eql (fr' 22) (.int .i64 14)) (later (fun v93 =>
 z0p v93 (z02 (some 8) (fr' 4) h' (later (fun v94 =>
 z03 Try.prog 48 [v94, .bool false, .bool false, .bool false, .bool false, .bool true, .bool true, .bool false] h' (later (fun v95 h96 =>
 z07 (later (fun x97 =>
 z0c v95 true (z02 (some 9) (fr' 3) h96 (later (fun v98 =>
 z00 5 (fr' 4) (later (fun v99 =>
 z02 none v99 h96 (later (fun v100 =>
 z03 Try.prog 52 [v98, fr' 2, v100] h96 (later (fun v101 h102 =>
 x97 [v98, fr' 2, v99, v100, v101] h102) ())) ())) ())) ())) (x97 [.tup [], .tup [], .tup [], .tup [], .tup []] h96)) ()) (later (fun x103 h104 =>
 z0m v95 (nth x103 4) (.bool false) (later (fun v105 =>
 z07 (later (fun x106 =>
 z0c v105 true (z02 (some 9) (fr' 3) h104 (later (fun v107 =>
 z00 6 (fr' 4) (later (fun v108 =>
 z02 none v108 h104 (later (fun v109 =>
 z03 Try.prog 49 [v107, v109] h104 (later (fun v110 h111 =>
 x106 [v107, v108, v109, v110] h111) ())) ())) ())) ())) (x106 [.tup [], .tup [], .tup [], .tup []] h104)) ()) (later (fun x112 h113 =>
 z0m v105 (nth x112 3) (.bool false) (later (fun v114 =>
 R v114 h113) ())) ())) ())) ())) ())) ())) (z08 (binA .other .eql (fr' 22) (.int .i64 15)) (later (fun v115 =>
 z0p v115 (z0p v115 (z02 (some 9) (fr' 3) h' (later (fun v116 =>
 z02 (some 8) (fr' 4) h' (later (fun v117 =>
 z03 Try.prog 53 [v116, v117, fr' 2] h' (later (fun v118 h119 =>
 R v118 h119) ())) ())) ())) (z00 0 (fr' 4) (later (fun v120 =>
 z02 none v120 h' (later (fun v121 =>
 z08 (binA .other .eql v121 (.int .i64 17)) (later (fun v122 =>
 z07 (later (fun x123 =>
 z0c v122 true (z02 (some 8) (fr' 4) h' (later (fun v124 =>
 z03 Try.prog 48 [v124, .bool false, .bool false, .bool false, .bool false, .bool false, .bool false, .bool false] h' (later (fun v125 h126 =>
 x123 [v124, v125] h126) ())) ())) (x123 [.tup [], .tup []] h')) ()) (later (fun x127 h128 =>
 z0m v122 (nth x127 1) (.bool false) (later (fun v129 =>
 z07 (later (fun x130 =>
 z0c v129 true (z00 6 (fr' 3) (later (fun v131 =>
 z00 1 v131 (later (fun v132 =>
 z02 none v132 h128 (later (fun v133 =>
 pLen .slice v133 (later (fun v134 =>
 z08 (binA .other .sub v134 (.int .i64 1)) (later (fun v135 =>
 z08 (binA .other .eql (fr' 2) v135) (later (fun v136 =>
 x130 [fr' 2, v131, v132, v133, v134, v135, v136] h128) ())) ())) ())) ())) ())) ())) (x130 [.tup [], .tup [], .tup [], .tup [], .tup [], .tup [], .tup []] h128)) ()) (later (fun x137 h138 =>
 z0m v129 (nth x137 6) (.bool false) (later (fun v139 =>
 R v139 h138) ())) ())) ())) ())) ())) ())) ()))) (z08 (binA .other .eql (fr' 22) (.int .i64 16)) (later (fun v140 =>
 z0p v140 (z02 (some 9) (fr' 3) h' (later (fun v141 =>
 z02 (some 8) (fr' 4) h' (later (fun v142 =>
 z03 Try.prog 53 [v141, v142, fr' 2] h' (later (fun v143 h144 =>
 R v143 h144) ())) ())) ())) (z00 0 (fr' 4) (later (fun v145 =>
 z02 none v145 h' (later (fun v146 =>
 z08 (binA .other .eql v146 (.int .i64 17)) (later (fun v147 =>
 z07 (later (fun x148 =>
 z0c v147 true (z02 (some 8) (fr' 4) h' (later (fun v149 =>
 z03 Try.prog 48 [v149, .bool false, .bool false, .bool false, .bool false, .bool false, .bool false, .bool false] h' (later (fun v150 h151 =>
 x148 [v149, v150] h151) ())) ())) (x148 [.tup [], .tup []] h')) ()) (later (fun x152 h153 =>
 z0m v147 (nth x152 1) (.bool false) (later (fun v154 =>
 z07 (later (fun x155 =>
 z0c v154 true (z00 6 (fr' 3) (later (fun v156 =>
 z00 1 v156 (later (fun v157 =>
 z02 none v157 h153 (later (fun v158 =>
 pLen .slice v158 (later (fun v159 =>
 z08 (binA .other .sub v159 (.int .i64 1)) (later (fun v160 =>
 z08 (binA .other .eql (fr' 2) v160) (later (fun v161 =>
 x155 [fr' 2, v156, v157, v158, v159, v160, v161] h153) ())) ())) ())) ())) ())) ())) (x155 [.tup [], .tup [], .tup [], .tup [], .tup [], .tup [], .tup []] h153)) ()) (later (fun x162 h163 =>
 z0m v154 (nth x162 6) (.bool false) (later (fun v164 =>
 R v164 h163) ())) ())) ())) ())) ())) ())) ()))) ()))) ()))) ()))) ()))) ()))) ()))) ()))) ())) ())) ()))) ())) ())) ())) ())) ())) ())) ())) : z03 Try.prog 41 [a0, a1, a2] h R :=
 z0j g_code_maker_instr z0v Try.func41 (show Try.f41.body = some c_code_maker_instr by kernel_rfl) Try.ntmps41 (by kernel_rfl) (Nat.le_of_ble_eq_true rfl) Try.call41 (Eq.mpr (by kernel_rfl) H)
/- (padlock/code.maker).all -/
noncomputable def c_code_maker_all : Code := (Try.f29.body).getD .skip
noncomputable def g_code_maker_all : Cfg := { ch := fun d => List.contains [1, 9, 13, 50, 54, 63] d, lv := fun k => ((List.lookup k ([(7, [1, 53, 54, 55])] : List (Nat × List Nat))).getD []), cut := fun k => List.contains [] k, rc := fun i n => ((List.lookup i ([(2, [(15, [1, 3, 29, 33])])] : List (Nat × List (Nat × List Nat)))).getD []).lookup n }
noncomputable def c_code_maker_all_7 : Code := (z2a 7 c_code_maker_all).getD .skip
theorem code_maker_all_wp (a0 : AV) (h : z04) (R : AV → z04 → Prop) (H :
 pBox true 69 a0 h (later (fun v1 h2 =>
 z00 6 v1 (later (fun v3 =>
 z00 1 v3 (later (fun v4 =>
 z02 none v4 h2 (later (fun v5 =>
 pLen .slice v5 (later (fun v6 =>
 z00 6 v1 (later (fun v7 =>
 z00 0 v7 (later (fun v8 =>
 z02 none v8 h2 (later (fun v9 =>
 pLen .slice v9 (later (fun v10 =>
 z08 (binA .other .gtr v10 (.int .i64 64)) (later (fun v11 =>
 z07 (later (fun x12 =>
 z0c v11 false (z08 (binA .other .lss v6 (.int .i64 1)) (later (fun v13 =>
 x12 [v6, v13] h2) ())) (x12 [.tup [], .tup []] h2)) ()) (later (fun x14 h15 =>
 z0m v11 (.bool true) (nth x14 1) (later (fun v16 =>
 z07 (later (fun x17 =>
 z0c v16 false (z08 (binA .other .gtr v6 (.int .i64 256)) (later (fun v18 =>
 x17 [v6, v18] h15) ())) (x17 [.tup [], .tup []] h15)) ()) (later (fun x19 h20 =>
 z0m v16 (.bool true) (nth x19 1) (later (fun v21 =>
 z07 (later (fun x22 =>
 z0c v21 false (z00 6 v1 (later (fun v23 =>
 z00 2 v23 (later (fun v24 =>
 z02 none v24 h20 (later (fun v25 =>
 z08 (binA .other .lss v25 (.int .i64 0)) (later (fun v26 =>
 x22 [v23, v24, v25, v26] h20) ())) ())) ())) ())) (x22 [.tup [], .tup [], .tup [], .tup []] h20)) ()) (later (fun x27 h28 =>
 z0m v21 (.bool true) (nth x27 3) (later (fun v29 =>
 z07 (later (fun x30 =>
 z0c v29 false (z00 6 v1 (later (fun v31 =>
 z00 2 v31 (later (fun v32 =>
 z02 none v32 h28 (later (fun v33 =>
 z08 (binA .other .gtr v33 (.int .i64 4096)) (later (fun v34 =>
 x30 [v31, v32, v33, v34] h28) ())) ())) ())) ())) (x30 [.tup [], .tup [], .tup [], .tup []] h28)) ()) (later (fun x35 h36 =>
 pChunk [v1, v6, v29, nth x35 3] (later (fun x37 =>
 z0m (nth x37 2) (.bool true) (nth x37 3) (later (fun v38 =>
 z07 (later (fun x39 =>
 z0c v38 false (z00 6 (nth x37 0) (later (fun v40 =>
 z00 1 v40 (later (fun v41 =>
 z02 none v41 h36 (later (fun v42 =>
 z08 (binA .other .sub (nth x37 1) (.int .i64 1)) (later (fun v43 =>
 z09 (.slice 8) v42 v43 (later (fun v44 =>
 z00 0 v44 (later (fun v45 =>
 z02 none v45 h36 (later (fun v46 =>
 z08 (binA .other .neq v46 (.int .i64 17)) (later (fun v47 =>
 x39 [v40, v41, v42, nth x37 1, v43, v44, v45, v46, v47] h36) ())) ())) ())) ())) ())) ())) ())) ())) (x39 [.tup [], .tup [], .tup [], .tup [], .tup [], .tup [], .tup [], .tup [], .tup []] h36)) ()) (later (fun x48 h49 =>
 z0m v38 (.bool true) (nth x48 8) (later (fun v50 =>
 z0p v50 (R (.bool false) h49) (z00 6 (nth x37 0) (later (fun v51 =>
 z00 0 v51 (later (fun v52 =>
 z02 none v52 h49 (later (fun v53 =>
 z03 Try.prog 36 [v53, .fn (Fn.func 40) [] [nth x37 0]] h49 (later (fun v54 h55 =>
 z0p v54 (R (.bool false) h55) (z00 6 (nth x37 0) (later (fun v56 =>
 z00 1 v56 (later (fun v57 =>
 z02 none v57 h55 (later (fun v58 =>
 pLen .slice v58 (later (fun v59 =>
 WP Try.prog 66 (Code.loop c_code_maker_all_7) (frOf [(1, nth x37 0), (53, v58), (54, v59), (55, .int .i64 0)]) h55 (z1q (later (fun fr60 h61 =>
 False) ()) (later (fun x62 fr63 h64 =>
 pIdx x62 0 (pIdx 0 0 (R (.bool true) h64) False) False) ()) (later (fun fr65 h66 =>
 R (fr65 2) h66) ()))) ())) ())) ())) ()))) ())) ())) ())) ()))) ())) ())) ())) ())) ())) ())) ())) ())) ())) ())) ())) ())) ())) ())) ())) ())) ())) ())) ())) ())) ())) : z03 Try.prog 29 [a0] h R :=
 z0j g_code_maker_all z0v Try.func29 (show Try.f29.body = some c_code_maker_all by kernel_rfl) Try.ntmps29 (by kernel_rfl) (Nat.le_of_ble_eq_true rfl) Try.call29 (Eq.mpr (by kernel_rfl) H)
theorem code_maker_all_loop7 (s1 s53 s54 s55 : AV) (h : z04) (Q : z1j → Fr → z04 → Prop) (H :
 z08 (binA .other .lss s55 s54) (later (fun v1 =>
 z0p v1 (z09 (.slice 8) s53 s55 (later (fun v2 =>
 z02 (some 8) v2 h (later (fun v3 =>
 z1s 45 [.int .i64 0, .int .i64 0, .int .i64 0, .int .i64 0, .int .i64 0, .int .i64 0, .nils, .nils] h (later (fun v4 h5 =>
 z0y 8 v4 v3 h5 (later (fun h6 =>
 z02 (some 9) s1 h6 (later (fun v7 =>
 z02 (some 8) v4 h6 (later (fun v8 =>
 z03 Try.prog 41 [v7, v8, s55] h6 (later (fun v9 h10 =>
 z08 (unA .not v9) (later (fun v11 =>
 z0p v11 (Q .ret (frOf [(2, .bool false)]) h10) (z08 (binA .other .add s55 (.int .i64 1)) (later (fun v12 =>
 Q .normal (frOf [(1, s1), (53, s53), (54, s54), (55, v12)]) h10) ()))) ())) ())) ())) ())) ())) ())) ())) ())) (Q (.exit 0) (frOf []) h)) ())) : WP Try.prog 66 c_code_maker_all_7 (frOf [(1, s1), (53, s53), (54, s54), (55, s55)]) h Q :=
 z1t g_code_maker_all [0] [1, 53, 54, 55] [] [2] z0v (by kernel_rfl) (Eq.mpr (by kernel_rfl) H)
/- padlock/code.Good -/
noncomputable def c_code_Good : Code := (Try.f18.body).getD .skip
noncomputable def g_code_Good : Cfg := { ch := fun d => List.contains [1, 9, 14, 21, 26, 31, 36, 43, 48, 58] d, lv := fun k => ((List.lookup k ([(4, [1, 35, 36, 37]), (10, [1, 47, 48, 49])] : List (Nat × List Nat))).getD []), cut := fun k => List.contains [] k, rc := fun i n => ((List.lookup i ([(1, [(14, [1, 29, 32])])] : List (Nat × List (Nat × List Nat)))).getD []).lookup n }
noncomputable def c_code_Good_4 : Code := (z2a 4 c_code_Good).getD .skip
noncomputable def c_code_Good_10 : Code := (z2a 10 c_code_Good).getD .skip
theorem code_Good_wp (a0 : AV) (h : z04) (R : AV → z04 → Prop) (H :
 pBox true 28 a0 h (later (fun v1 h2 =>
 z00 0 v1 (later (fun v3 =>
 z02 none v3 h2 (later (fun v4 =>
 pLen .slice v4 (later (fun v5 =>
 z08 (binA .other .gtr v5 (.int .i64 6)) (later (fun v6 =>
 z07 (later (fun x7 =>
 z0c v6 false (z00 2 v1 (later (fun v8 =>
 z02 none v8 h2 (later (fun v9 =>
 pLen .slice v9 (later (fun v10 =>
 z08 (binA .other .gtr v10 (.int .i64 4)) (later (fun v11 =>
 x7 [v8, v9, v10, v11] h2) ())) ())) ())) ())) (x7 [.tup [], .tup [], .tup [], .tup []] h2)) ()) (later (fun x12 h13 =>
 z0m v6 (.bool true) (nth x12 3) (later (fun v14 =>
 z07 (later (fun x15 =>
 z0c v14 false (z02 (some 5) v1 h13 (later (fun v16 =>
 z00 1 v1 (later (fun v17 =>
 z02 none v17 h13 (later (fun v18 =>
 z03 Try.prog 26 [v16, v18, .int .i64 8] h13 (later (fun v19 h20 =>
 z08 (unA .not v19) (later (fun v21 =>
 x15 [v16, v17, v18, v19, v21] h20) ())) ())) ())) ())) ())) (x15 [.tup [], .tup [], .tup [], .tup [], .tup []] h13)) ()) (later (fun x22 h23 =>
 z0m v14 (.bool true) (nth x22 4) (later (fun v24 =>
 z07 (later (fun x25 =>
 z0c v24 false (z02 (some 5) v1 h23 (later (fun v26 =>
 z03 Try.prog 27 [v26] h23 (later (fun v27 h28 =>
 z08 (unA .not v27) (later (fun v29 =>
 x25 [v26, v27, v29] h28) ())) ())) ())) (x25 [.tup [], .tup [], .tup []] h23)) ()) (later (fun x30 h31 =>
 z0m v24 (.bool true) (nth x30 2) (later (fun v32 =>
 z07 (later (fun x33 =>
 z0c v32 false (z02 (some 5) v1 h31 (later (fun v34 =>
 z03 Try.prog 28 [v34] h31 (later (fun v35 h36 =>
 z08 (unA .not v35) (later (fun v37 =>
 x33 [v34, v35, v37] h36) ())) ())) ())) (x33 [.tup [], .tup [], .tup []] h31)) ()) (later (fun x38 h39 =>
 pChunk [v1, v32, nth x38 2] (later (fun x40 =>
 z0m (nth x40 1) (.bool true) (nth x40 2) (later (fun v41 =>
 z0p v41 (R (.bool false) h39) (z00 0 (nth x40 0) (later (fun v42 =>
 z02 none v42 h39 (later (fun v43 =>
 pLen .slice v43 (later (fun v44 =>
 WP Try.prog 61 (Code.loop c_code_Good_4) (frOf [(1, nth x40 0), (35, v43), (36, v44), (37, .int .i64 0)]) h39 (z1q (later (fun fr45 h46 =>
 False) ()) (later (fun x47 fr48 h49 =>
 pIdx x47 0 (pIdx 0 0 (z00 2 (fr48 1) (later (fun v50 =>
 z02 none v50 h49 (later (fun v51 =>
 pLen .slice v51 (later (fun v52 =>
 WP Try.prog 61 (Code.loop c_code_Good_10) (frOf [(1, fr48 1), (47, v51), (48, v52), (49, .int .i64 0)]) h49 (z1q (later (fun fr53 h54 =>
 False) ()) (later (fun x55 fr56 h57 =>
 pIdx x55 2 (pIdx 2 2 (R (.bool true) h57) False) False) ()) (later (fun fr58 h59 =>
 R (fr58 2) h59) ()))) ())) ())) ())) False) False) ()) (later (fun fr60 h61 =>
 R (fr60 2) h61) ()))) ())) ())) ()))) ())) ())) ())) ())) ())) ())) ())) ())) ())) ())) ())) ())) ())) ())) : z03 Try.prog 18 [a0] h R :=
 z0j g_code_Good z0v Try.func18 (show Try.f18.body = some c_code_Good by kernel_rfl) Try.ntmps18 (by kernel_rfl) (Nat.le_of_ble_eq_true rfl) Try.call18 (Eq.mpr (by kernel_rfl) H)
theorem code_Good_loop4 (s1 s35 s36 s37 : AV) (h : z04) (Q : z1j → Fr → z04 → Prop) (H :
 z08 (binA .other .lss s37 s36) (later (fun v1 =>
 z0p v1 (z09 (.slice 1) s35 s37 (later (fun v2 =>
 z02 none v2 h (later (fun v3 =>
 z02 (some 5) s1 h (later (fun v4 =>
 z03 Try.prog 26 [v4, v3, .int .i64 6] h (later (fun v5 h6 =>
 z08 (unA .not v5) (later (fun v7 =>
 z0p v7 (Q .ret (frOf [(2, .bool false)]) h6) (z08 (binA .other .add s37 (.int .i64 1)) (later (fun v8 =>
 Q .normal (frOf [(1, s1), (35, s35), (36, s36), (37, v8)]) h6) ()))) ())) ())) ())) ())) ())) (Q (.exit 0) (frOf [(1, s1)]) h)) ())) : WP Try.prog 61 c_code_Good_4 (frOf [(1, s1), (35, s35), (36, s36), (37, s37)]) h Q :=
 z1t g_code_Good [0] [1, 35, 36, 37] [1] [2] z0v (by kernel_rfl) (Eq.mpr (by kernel_rfl) H)
theorem code_Good_loop10 (s1 s47 s48 s49 : AV) (h : z04) (Q : z1j → Fr → z04 → Prop) (H :
 z08 (binA .other .lss s49 s48) (later (fun v1 =>
 z0p v1 (z09 (.slice 3) s47 s49 (later (fun v2 =>
 z02 (some 3) v2 h (later (fun v3 =>
 z1s 49 [.nils, .nils, .int .i64 0] h (later (fun v4 h5 =>
 z0y 3 v4 v3 h5 (later (fun h6 =>
 z02 (some 5) s1 h6 (later (fun v7 =>
 z02 (some 3) v4 h6 (later (fun v8 =>
 z01 [(0, 5), (5, 1), (6, 3)] [.nils, .nils, .nils, .nils, .nils, .int .i64 0, .nils, .nils, .int .i64 0] [(0, v7), (1, s49), (2, v8)] (later (fun v9 =>
 z03 Try.prog 29 [v9] h6 (later (fun v10 h11 =>
 z08 (unA .not v10) (later (fun v12 =>
 z0p v12 (Q .ret (frOf [(2, .bool false)]) h11) (z08 (binA .other .add s49 (.int .i64 1)) (later (fun v13 =>
 Q .normal (frOf [(1, s1), (47, s47), (48, s48), (49, v13)]) h11) ()))) ())) ())) ())) ())) ())) ())) ())) ())) ())) (Q (.exit 2) (frOf []) h)) ())) : WP Try.prog 61 c_code_Good_10 (frOf [(1, s1), (47, s47), (48, s48), (49, s49)]) h Q :=
 z1t g_code_Good [2] [1, 47, 48, 49] [] [2] z0v (by kernel_rfl) (Eq.mpr (by kernel_rfl) H)
/- padlock/code.Writes -/
noncomputable def c_code_Writes : Code := (Try.f30.body).getD .skip
noncomputable def g_code_Writes : Cfg := { ch := fun d => List.contains [1] d, lv := fun k => ((List.lookup k ([(9, [1, 5])] : List (Nat × List Nat))).getD []), cut := fun k => List.contains [9] k, rc := fun i n => none }
theorem code_Writes_wp (a0 : AV) (h : z04) (R : AV → z04 → Prop) (H :
 pBox true 45 a0 h (later (fun v1 h2 =>
 z00 0 v1 (later (fun v3 =>
 z02 none v3 h2 (later (fun v4 =>
 Cut (later (fun J =>
 z08 (binA .other .eql v4 (.int .i64 1)) (later (fun v5 =>
 z0p v5 (J (frOf [(1, v1), (5, v5)]) h2) (z08 (binA .other .eql v4 (.int .i64 2)) (later (fun v6 =>
 z0p v6 (J (frOf [(1, v1), (5, v6)]) h2) (z08 (binA .other .eql v4 (.int .i64 3)) (later (fun v7 =>
 z0p v7 (J (frOf [(1, v1), (5, v7)]) h2) (z08 (binA .other .eql v4 (.int .i64 4)) (later (fun v8 =>
 z0p v8 (J (frOf [(1, v1), (5, v8)]) h2) (z08 (binA .other .eql v4 (.int .i64 8)) (later (fun v9 =>
 z0p v9 (J (frOf [(1, v1), (5, v9)]) h2) (z08 (binA .other .eql v4 (.int .i64 9)) (later (fun v10 =>
 z0p v10 (J (frOf [(1, v1), (5, v10)]) h2) (z08 (binA .other .eql v4 (.int .i64 10)) (later (fun v11 =>
 J (frOf [(1, v1), (5, v11)]) h2) ()))) ()))) ()))) ()))) ()))) ()))) ())) ()) (later (fun fr' h' =>
 z0p (fr' 5) (z00 1 (fr' 1) (later (fun v12 =>
 z02 none v12 h' (later (fun v13 =>
 R v13 h') ())) ())) (R (.int .i64 (-1)) h')) ())) ())) ())) ())) : z03 Try.prog 30 [a0] h R :=
 z0j g_code_Writes z0v Try.func30 (show Try.f30.body = some c_code_Writes by kernel_rfl) Try.ntmps30 (by kernel_rfl) (Nat.le_of_ble_eq_true rfl) Try.call30 (Eq.mpr (by kernel_rfl) H)
/- padlock/padlockref09.Great -/
noncomputable def z3w : Code := (Try.f8.body).getD .skip
noncomputable def z3x : Cfg := { ch := fun d => List.contains [1, 11, 16, 22, 28, 34, 39, 45, 50, 57, 62, 67, 74, 79] d, lv := fun k => ((List.lookup k ([(4, [1, 38, 39, 40]), (10, [49, 50, 51]), (15, [49, 50, 51, 66, 67, 68])] : List (Nat × List Nat))).getD []), cut := fun k => List.contains [] k, rc := fun i n => ((List.lookup i ([(1, [(14, [1, 31, 35])])] : List (Nat × List (Nat × List Nat)))).getD []).lookup n }
noncomputable def c_padlockref09_Great_4 : Code := (z2a 4 z3w).getD .skip
noncomputable def c_padlockref09_Great_10 : Code := (z2a 10 z3w).getD .skip
noncomputable def z4p : Code := (z2a 15 z3w).getD .skip
theorem padlockref09_Great_wp (a0 : AV) (h : z04) (R : AV → z04 → Prop) (H :
 pBox true 28 a0 h (later (fun v1 h2 =>
 z00 0 v1 (later (fun v3 =>
 z02 none v3 h2 (later (fun v4 =>
 pLen .slice v4 (later (fun v5 =>
 z08 (binA .other .gtr v5 (.int .i64 20)) (later (fun v6 =>
 z07 (later (fun x7 =>
 z0c v6 false (z00 1 v1 (later (fun v8 =>
 z02 none v8 h2 (later (fun v9 =>
 pLen .slice v9 (later (fun v10 =>
 z08 (binA .other .gtr v10 (.int .i64 100)) (later (fun v11 =>
 x7 [v8, v9, v10, v11] h2) ())) ())) ())) ())) (x7 [.tup [], .tup [], .tup [], .tup []] h2)) ()) (later (fun x12 h13 =>
 z0m v6 (.bool true) (nth x12 3) (later (fun v14 =>
 z07 (later (fun x15 =>
 z0c v14 false (z00 2 v1 (later (fun v16 =>
 z02 none v16 h13 (later (fun v17 =>
 pLen .slice v17 (later (fun v18 =>
 z08 (binA .other .gtr v18 (.int .i64 8)) (later (fun v19 =>
 x15 [v16, v17, v18, v19] h13) ())) ())) ())) ())) (x15 [.tup [], .tup [], .tup [], .tup []] h13)) ()) (later (fun x20 h21 =>
 z0m v14 (.bool true) (nth x20 3) (later (fun v22 =>
 z07 (later (fun x23 =>
 z0c v22 false (z00 3 v1 (later (fun v24 =>
 z02 none v24 h21 (later (fun v25 =>
 pLen .slice v25 (later (fun v26 =>
 z08 (binA .other .gtr v26 (.int .i64 100)) (later (fun v27 =>
 x23 [v24, v25, v26, v27] h21) ())) ())) ())) ())) (x23 [.tup [], .tup [], .tup [], .tup []] h21)) ()) (later (fun x28 h29 =>
 z0m v22 (.bool true) (nth x28 3) (later (fun v30 =>
 z07 (later (fun x31 =>
 z0c v30 false (z00 4 v1 (later (fun v32 =>
 z02 none v32 h29 (later (fun v33 =>
 pLen .slice v33 (later (fun v34 =>
 z08 (binA .other .gtr v34 (.int .i64 100)) (later (fun v35 =>
 x31 [v32, v33, v34, v35] h29) ())) ())) ())) ())) (x31 [.tup [], .tup [], .tup [], .tup []] h29)) ()) (later (fun x36 h37 =>
 pChunk [v1, v30, nth x36 3] (later (fun x38 =>
 z0m (nth x38 1) (.bool true) (nth x38 2) (later (fun v39 =>
 z0p v39 (R (.bool true) h37) (z00 0 (nth x38 0) (later (fun v40 =>
 z02 none v40 h37 (later (fun v41 =>
 pLen .slice v41 (later (fun v42 =>
 WP Try.prog 84 (Code.loop c_padlockref09_Great_4) (frOf [(1, nth x38 0), (38, v41), (39, v42), (40, .int .i64 0)]) h37 (z1q (later (fun fr43 h44 =>
 False) ()) (later (fun x45 fr46 h47 =>
 pIdx x45 0 (pIdx 0 0 (z00 2 (fr46 1) (later (fun v48 =>
 z02 none v48 h47 (later (fun v49 =>
 pLen .slice v49 (later (fun v50 =>
 WP Try.prog 84 (Code.loop c_padlockref09_Great_10) (frOf [(49, v49), (50, v50), (51, .int .i64 0)]) h47 (z1q (later (fun fr51 h52 =>
 False) ()) (later (fun x53 fr54 h55 =>
 pIdx x53 2 (pIdx 2 2 (R (.bool false) h55) False) False) ()) (later (fun fr56 h57 =>
 R (fr56 2) h57) ()))) ())) ())) ())) False) False) ()) (later (fun fr58 h59 =>
 R (fr58 2) h59) ()))) ())) ())) ()))) ())) ())) ())) ())) ())) ())) ())) ())) ())) ())) ())) ())) ())) ())) : z03 Try.prog 8 [a0] h R :=
 z0j z3x z0v Try.func8 (show Try.f8.body = some z3w by kernel_rfl) Try.ntmps8 (by kernel_rfl) (Nat.le_of_ble_eq_true rfl) Try.call8 (Eq.mpr (by kernel_rfl) H)
theorem padlockref09_Great_loop4 (s1 s38 s39 s40 : AV) (h : z04) (Q : z1j → Fr → z04 → Prop) (H :
 z08 (binA .other .lss s40 s39) (later (fun v1 =>
 z0p v1 (z09 (.slice 1) s38 s40 (later (fun v2 =>
 z02 none v2 h (later (fun v3 =>
 pLen .slice v3 (later (fun v4 =>
 z08 (binA .other .gtr v4 (.int .i64 100)) (later (fun v5 =>
 z0p v5 (Q .ret (frOf [(2, .bool true)]) h) (z08 (binA .other .add s40 (.int .i64 1)) (later (fun v6 =>
 Q .normal (frOf [(1, s1), (38, s38), (39, s39), (40, v6)]) h) ()))) ())) ())) ())) ())) (Q (.exit 0) (frOf [(1, s1)]) h)) ())) : WP Try.prog 84 c_padlockref09_Great_4 (frOf [(1, s1), (38, s38), (39, s39), (40, s40)]) h Q :=
 z1t z3x [0] [1, 38, 39, 40] [1] [2] z0v (by kernel_rfl) (Eq.mpr (by kernel_rfl) H)
theorem padlockref09_Great_loop10 (s49 s50 s51 : AV) (h : z04) (Q : z1j → Fr → z04 → Prop) (H :
 z08 (binA .other .lss s51 s50) (later (fun v1 =>
 z0p v1 (z09 (.slice 3) s49 s51 (later (fun v2 =>
 z02 (some 3) v2 h (later (fun v3 =>
 z1s 49 [.nils, .nils, .int .i64 0] h (later (fun v4 h5 =>
 z0y 3 v4 v3 h5 (later (fun h6 =>
 z00 0 v4 (later (fun v7 =>
 z02 none v7 h6 (later (fun v8 =>
 pLen .slice v8 (later (fun v9 =>
 z08 (binA .other .gtr v9 (.int .i64 300)) (later (fun v10 =>
 z07 (later (fun x11 =>
 z0c v10 false (z00 1 v4 (later (fun v12 =>
 z02 none v12 h6 (later (fun v13 =>
 pLen .slice v13 (later (fun v14 =>
 z08 (binA .other .gtr v14 (.int .i64 600)) (later (fun v15 =>
 x11 [v12, v13, v14, v15] h6) ())) ())) ())) ())) (x11 [.tup [], .tup [], .tup [], .tup []] h6)) ()) (later (fun x16 h17 =>
 z0m v10 (.bool true) (nth x16 3) (later (fun v18 =>
 z0p v18 (Q .ret (frOf [(2, .bool true)]) h17) (z00 1 v4 (later (fun v19 =>
 z02 none v19 h17 (later (fun v20 =>
 pLen .slice v20 (later (fun v21 =>
 WP Try.prog 84 (Code.loop z4p) (frOf [(49, s49), (50, s50), (51, s51), (66, v20), (67, v21), (68, .int .i64 0)]) h17 (z1q (later (fun fr22 h23 =>
 False) ()) (later (fun x24 fr25 h26 =>
 pIdx x24 4 (pIdx 4 4 (z08 (binA .other .add (fr25 51) (.int .i64 1)) (later (fun v27 =>
 Q .normal (frOf [(49, fr25 49), (50, fr25 50), (51, v27)]) h26) ())) (pIdx 4 3 (z08 (binA .other .add (fr25 51) (.int .i64 1)) (later (fun v28 =>
 Q .normal (frOf [(49, fr25 49), (50, fr25 50), (51, v28)]) h26) ())) (Q (.exit 4) (frOf []) h26))) False) ()) (later (fun fr29 h30 =>
 Q .ret (frOf [(2, fr29 2)]) h30) ()))) ())) ())) ()))) ())) ())) ())) ())) ())) ())) ())) ())) ())) ())) (Q (.exit 2) (frOf []) h)) ())) : WP Try.prog 84 c_padlockref09_Great_10 (frOf [(49, s49), (50, s50), (51, s51)]) h Q :=
 z1t z3x [2] [49, 50, 51] [] [2] z0v (by kernel_rfl) (Eq.mpr (by kernel_rfl) H)
theorem padlockref09_Great_loop15 (s49 s50 s51 s66 s67 s68 : AV) (h : z04) (Q : z1j → Fr → z04 → Prop) (H :
 z08 (binA .other .lss s68 s67) (later (fun v1 =>
 z0p v1 (z09 (.slice 8) s66 s68 (later (fun v2 =>
 z02 (some 8) v2 h (later (fun v3 =>
 z1s 45 [.int .i64 0, .int .i64 0, .int .i64 0, .int .i64 0, .int .i64 0, .int .i64 0, .nils, .nils] h (later (fun v4 h5 =>
 z0y 8 v4 v3 h5 (later (fun h6 =>
 z00 6 v4 (later (fun v7 =>
 z02 none v7 h6 (later (fun v8 =>
 pLen .slice v8 (later (fun v9 =>
 z08 (binA .other .gtr v9 (.int .i64 200)) (later (fun v10 =>
 z07 (later (fun x11 =>
 z0c v10 false (z00 7 v4 (later (fun v12 =>
 z02 none v12 h6 (later (fun v13 =>
 pLen .slice v13 (later (fun v14 =>
 z08 (binA .other .gtr v14 (.int .i64 200)) (later (fun v15 =>
 x11 [v12, v13, v14, v15] h6) ())) ())) ())) ())) (x11 [.tup [], .tup [], .tup [], .tup []] h6)) ()) (later (fun x16 h17 =>
 z0m v10 (.bool true) (nth x16 3) (later (fun v18 =>
 z0p v18 (Q .ret (frOf [(2, .bool true)]) h17) (z08 (binA .other .add s68 (.int .i64 1)) (later (fun v19 =>
 Q .normal (frOf [(49, s49), (50, s50), (51, s51), (66, s66), (67, s67), (68, v19)]) h17) ()))) ())) ())) ())) ())) ())) ())) ())) ())) ())) ())) (Q (.exit 4) (frOf [(49, s49), (50, s50), (51, s51)]) h)) ())) : WP Try.prog 84 z4p (frOf [(49, s49), (50, s50), (51, s51), (66, s66), (67, s67), (68, s68)]) h Q :=
 z1t z3x [4, 3, 2] [49, 50, 51, 66, 67, 68] [49, 50, 51] [2] z0v (by kernel_rfl) (Eq.mpr (by kernel_rfl) H)
/- padlock/padlockref09.in -/
noncomputable def c_padlockref09_in : Code := (Try.f23.body).getD .skip
noncomputable def g_padlockref09_in : Cfg := { ch := fun d => List.contains [] d, lv := fun k => ((List.lookup k ([] : List (Nat × List Nat))).getD []), cut := fun k => List.contains [] k, rc := fun i n => none }
theorem padlockref09_in_wp (a0 a1 : AV) (h : z04) (R : AV → z04 → Prop) (H :
 z08 (binA .other .geq a0 (.int .i64 0)) (later (fun v1 =>
 z07 (later (fun x2 =>
 z0c v1 true (z08 (binA .other .lss a0 a1) (later (fun v3 =>
 x2 [a0, a1, v3] h) ())) (x2 [.tup [], .tup [], .tup []] h)) ()) (later (fun x4 h5 =>
 z0m v1 (nth x4 2) (.bool false) (later (fun v6 =>
 R v6 h5) ())) ())) ())) : z03 Try.prog 23 [a0, a1] h R :=
 z0j g_padlockref09_in z0v Try.func23 (show Try.f23.body = some c_padlockref09_in by kernel_rfl) Try.ntmps23 (by kernel_rfl) (Nat.le_of_ble_eq_true rfl) Try.call23 (Eq.mpr (by kernel_rfl) H)
/- padlock/padlockref09.local -/
noncomputable def c_padlockref09_local : Code := (Try.f22.body).getD .skip
noncomputable def g_padlockref09_local : Cfg := { ch := fun d => List.contains [2, 3, 12, 13] d, lv := fun k => ((List.lookup k ([] : List (Nat × List Nat))).getD []), cut := fun k => List.contains [] k, rc := fun i n => none }
theorem padlockref09_local_wp (a0 a1 : AV) (h : z04) (R : AV → z04 → Prop) (H :
 pBox true 28 a0 h (later (fun v1 h2 =>
 pBox true 53 a1 h2 (later (fun v3 h4 =>
 z00 0 v3 (later (fun v5 =>
 z02 none v5 h4 (later (fun v6 =>
 z08 (binA .other .eql v6 (.int .i64 4)) (later (fun v7 =>
 z0p v7 (z00 1 v3 (later (fun v8 =>
 z02 none v8 h4 (later (fun v9 =>
 z00 0 v1 (later (fun v10 =>
 z02 none v10 h4 (later (fun v11 =>
 pLen .slice v11 (later (fun v12 =>
 z03 Try.prog 23 [v9, v12] h4 (later (fun v13 h14 =>
 R v13 h14) ())) ())) ())) ())) ())) ())) (z00 0 v3 (later (fun v15 =>
 z02 none v15 h4 (later (fun v16 =>
 z08 (binA .other .eql v16 (.int .i64 1)) (later (fun v17 =>
 z07 (later (fun x18 =>
 z0c v17 false (z00 0 v3 (later (fun v19 =>
 z02 none v19 h4 (later (fun v20 =>
 z08 (binA .other .eql v20 (.int .i64 2)) (later (fun v21 =>
 x18 [v19, v20, v21] h4) ())) ())) ())) (x18 [.tup [], .tup [], .tup []] h4)) ()) (later (fun x22 h23 =>
 z0m v17 (.bool true) (nth x22 2) (later (fun v24 =>
 z07 (later (fun x25 =>
 z0c v24 false (z00 0 v3 (later (fun v26 =>
 z02 none v26 h23 (later (fun v27 =>
 z08 (binA .other .eql v27 (.int .i64 3)) (later (fun v28 =>
 x25 [v26, v27, v28] h23) ())) ())) ())) (x25 [.tup [], .tup [], .tup []] h23)) ()) (later (fun x29 h30 =>
 z0m v24 (.bool true) (nth x29 2) (later (fun v31 =>
 z07 (later (fun x32 =>
 z0c v31 true (z00 1 v3 (later (fun v33 =>
 z02 none v33 h30 (later (fun v34 =>
 z08 (binA .other .eql v34 (.int .i64 0)) (later (fun v35 =>
 x32 [v33, v34, v35] h30) ())) ())) ())) (x32 [.tup [], .tup [], .tup []] h30)) ()) (later (fun x36 h37 =>
 z0m v31 (nth x36 2) (.bool false) (later (fun v38 =>
 R v38 h37) ())) ())) ())) ())) ())) ())) ())) ())) ()))) ())) ())) ())) ())) ())) : z03 Try.prog 22 [a0, a1] h R :=
 z0j g_padlockref09_local z0v Try.func22 (show Try.f22.body = some c_padlockref09_local by kernel_rfl) Try.ntmps22 (by kernel_rfl) (Nat.le_of_ble_eq_true rfl) Try.call22 (Eq.mpr (by kernel_rfl) H)
/- padlock/padlockref09.Has -/
noncomputable def c_padlockref09_Has : Code := (Try.f32.body).getD .skip
noncomputable def g_padlockref09_Has : Cfg := { ch := fun d => List.contains [4, 10] d, lv := fun k => ((List.lookup k ([] : List (Nat × List Nat))).getD []), cut := fun k => List.contains [] k, rc := fun i n => none }
theorem padlockref09_Has_wp (a0 : AV) (h : z04) (R : AV → z04 → Prop) (H :
 (18 = 0 → [(0, Operand.const (Value.string { data := { toList := [] } })), (1, Operand.const (Value.string { data := { toList := [100, 105] } })), (2, Operand.const (Value.string { data := { toList := [100, 110] } })), (3, Operand.const (Value.string { data := { toList := [100, 115, 114, 110] } })), (4, Operand.const (Value.string { data := { toList := [100, 115, 120] } })), (5, Operand.const (Value.string { data := { toList := [110, 105] } })), (6, Operand.const (Value.string { data := { toList := [115, 114, 110, 105] } })), (7, Operand.const (Value.string { data := { toList := [115, 120, 105] } })), (8, Operand.const (Value.string { data := { toList := [100, 114, 110] } })), (9, Operand.const (Value.string { data := { toList := [100, 105, 110] } })), (10, Operand.const (Value.string { data := { toList := [100, 115] } })), (11, Operand.const (Value.string { data := { toList := [105] } })), (12, Operand.const (Value.string { data := { toList := [105] } })), (13, Operand.const (Value.string { data := { toList := [116] } })), (14, Operand.const (Value.string { data := { toList := [116, 105] } })), (15, Operand.const (Value.string { data := { toList := [110] } })), (16, Operand.const (Value.string { data := { toList := [110] } })), (17, Operand.const (Value.string { data := { toList := [] } }))] = []) ∧ z1d true { e := 9, sz := 1, by_ := 16 } [.str []] 18 [(0, .str []), (1, .str [100, 105]), (2, .str [100, 110]), (3, .str [100, 115, 114, 110]), (4, .str [100, 115, 120]), (5, .str [110, 105]), (6, .str [115, 114, 110, 105]), (7, .str [115, 120, 105]), (8, .str [100, 114, 110]), (9, .str [100, 105, 110]), (10, .str [100, 115]), (11, .str [105]), (12, .str [105]), (13, .str [116]), (14, .str [116, 105]), (15, .str [110]), (16, .str [110]), (17, .str [])] h (later (fun v1 h2 =>
 z08 (binA .other .lss a0 (.int .i64 1)) (later (fun v3 =>
 z07 (later (fun x4 =>
 z0c v3 false (pLen .slice v1 (later (fun v5 =>
 z08 (binA .other .geq a0 v5) (later (fun v6 =>
 x4 [a0, v1, v5, v6] h2) ())) ())) (x4 [.tup [], .tup [], .tup [], .tup []] h2)) ()) (later (fun x7 h8 =>
 z0m v3 (.bool true) (nth x7 3) (later (fun v9 =>
 z0p v9 (R (.str [63]) h8) (z09 (.slice 1) v1 a0 (later (fun v10 =>
 z02 none v10 h8 (later (fun v11 =>
 R v11 h8) ())) ()))) ())) ())) ())) ())) : z03 Try.prog 32 [a0] h R :=
 z0j g_padlockref09_Has z0v Try.func32 (show Try.f32.body = some c_padlockref09_Has by kernel_rfl) Try.ntmps32 (by kernel_rfl) (Nat.le_of_ble_eq_true rfl) Try.call32 (Eq.mpr (by kernel_rfl) H)
/- padlock/padlockref09.has -/
noncomputable def c_padlockref09_has : Code := (Try.f33.body).getD .skip
noncomputable def g_padlockref09_has : Cfg := { ch := fun d => List.contains [8] d, lv := fun k => ((List.lookup k ([(2, [0, 1, 5])] : List (Nat × List Nat))).getD []), cut := fun k => List.contains [] k, rc := fun i n => none }
noncomputable def c_padlockref09_has_2 : Code := (z2a 2 c_padlockref09_has).getD .skip
theorem padlockref09_has_wp (a0 a1 : AV) (h : z04) (R : AV → z04 → Prop) (H :
 WP Try.prog 17 (Code.loop c_padlockref09_has_2) (frOf [(0, a0), (1, a1), (5, .int .i64 0)]) h (z1q (later (fun fr1 h2 =>
 False) ()) (later (fun x3 fr4 h5 =>
 pIdx x3 0 (pIdx 0 0 (R (.bool false) h5) False) False) ()) (later (fun fr6 h7 =>
 R (fr6 4) h7) ()))) : z03 Try.prog 33 [a0, a1] h R :=
 z0j g_padlockref09_has z0v Try.func33 (show Try.f33.body = some c_padlockref09_has by kernel_rfl) Try.ntmps33 (by kernel_rfl) (Nat.le_of_ble_eq_true rfl) Try.call33 (Eq.mpr (by kernel_rfl) H)
theorem padlockref09_has_loop2 (s0 s1 s5 : AV) (h : z04) (Q : z1j → Fr → z04 → Prop) (H :
 pLen .str s0 (later (fun v1 =>
 z08 (binA .other .lss s5 v1) (later (fun v2 =>
 z0p v2 (pIndexStr s0 s5 (later (fun v3 =>
 z08 (binA .other .eql v3 s1) (later (fun v4 =>
 z0p v4 (Q .ret (frOf [(4, .bool true)]) h) (z08 (binA .other .add s5 (.int .i64 1)) (later (fun v5 =>
 Q .normal (frOf [(0, s0), (1, s1), (5, v5)]) h) ()))) ())) ())) (Q (.exit 0) (frOf []) h)) ())) ())) : WP Try.prog 17 c_padlockref09_has_2 (frOf [(0, s0), (1, s1), (5, s5)]) h Q :=
 z1t g_padlockref09_has [0] [0, 1, 5] [] [4] z0v (by kernel_rfl) (Eq.mpr (by kernel_rfl) H)
/- padlock/padlockref08.Takes -/
noncomputable def c_padlockref08_Takes : Code := (Try.f43.body).getD .skip
noncomputable def g_padlockref08_Takes : Cfg := { ch := fun d => List.contains [2] d, lv := fun k => ((List.lookup k ([] : List (Nat × List Nat))).getD []), cut := fun k => List.contains [] k, rc := fun i n => ((List.lookup i ([(2, [(11, [2, 32, 36])]), (9, [(15, [2, 81])])] : List (Nat × List (Nat × List Nat)))).getD []).lookup n }
theorem padlockref08_Takes_wp (a0 a1 : AV) (h : z04) (R : AV → z04 → Prop) (H :
 pBox true 75 a0 h (later (fun v1 h2 =>
 z00 0 v1 (later (fun v3 =>
 z02 none v3 h2 (later (fun v4 =>
 z08 (binA .other .geq v4 (.int .i64 1)) (later (fun v5 =>
 z07 (later (fun x6 =>
 z0c v5 true (z00 0 v1 (later (fun v7 =>
 z02 none v7 h2 (later (fun v8 =>
 z08 (binA .other .leq v8 (.int .i64 3)) (later (fun v9 =>
 x6 [v7, v8, v9] h2) ())) ())) ())) (x6 [.tup [], .tup [], .tup []] h2)) ()) (later (fun x10 h11 =>
 z0m v5 (nth x10 2) (.bool false) (later (fun v12 =>
 z0p v12 (z00 1 v1 (later (fun v13 =>
 z02 none v13 h11 (later (fun v14 =>
 z08 (binA .other .neq v14 (.int .i64 0)) (later (fun v15 =>
 z07 (later (fun x16 =>
 z0c v15 false (z00 0 v1 (later (fun v17 =>
 z02 none v17 h11 (later (fun v18 =>
 z08 (binA .other .eql v18 (.int .i64 2)) (later (fun v19 =>
 x16 [v17, v18, v19, v19] h11) ())) ())) ())) (x16 [.tup [], .tup [], .tup [], .tup []] h11)) ()) (later (fun x20 h21 =>
 z07 (later (fun x22 =>
 z0c (nth x20 3) true (z08 (binA .other .leq a1 (.int .i64 0)) (later (fun v23 =>
 x22 [a1, v23, v23] h21) ())) (x22 [.tup [], .tup [], .tup []] h21)) ()) (later (fun x24 h25 =>
 z07 (later (fun x26 =>
 z0c (nth x24 2) false (z00 2 v1 (later (fun v27 =>
 z02 none v27 h25 (later (fun v28 =>
 pConv (CvK.int .u64) a1 h25 (later (fun v29 =>
 z08 (binA .other .geq v28 v29) (later (fun v30 =>
 x26 [v27, v28, a1, v29, v30] h25) ())) ())) ())) ())) (x26 [.tup [], .tup [], .tup [], .tup [], .tup []] h25)) ()) (later (fun x31 h32 =>
 z07 (later (fun x33 =>
 z0c (nth x20 3) true (z0m (nth x24 2) (.bool true) (nth x31 4) (later (fun v34 =>
 x33 [v34] h32) ())) (x33 [.tup []] h32)) ()) (later (fun x35 h36 =>
 z07 (later (fun x37 =>
 z0c v15 false (z0m (nth x20 3) (nth x35 0) (.bool false) (later (fun v38 =>
 x37 [v38] h36) ())) (x37 [.tup []] h36)) ()) (later (fun x39 h40 =>
 z0m v15 (.bool true) (nth x39 0) (later (fun v41 =>
 z07 (later (fun x42 =>
 z0c v41 false (z00 0 v1 (later (fun v43 =>
 z02 none v43 h40 (later (fun v44 =>
 z08 (binA .other .eql v44 (.int .i64 3)) (later (fun v45 =>
 x42 [v43, v44, v45, v45] h40) ())) ())) ())) (x42 [.tup [], .tup [], .tup [], .tup []] h40)) ()) (later (fun x46 h47 =>
 pChunk [v1, v41, nth x46 3] (later (fun x48 =>
 z07 (later (fun x49 =>
 z0c (nth x48 2) true (z00 2 (nth x48 0) (later (fun v50 =>
 z02 none v50 h47 (later (fun v51 =>
 z08 (binA .other .geq v51 (.int .u64 16)) (later (fun v52 =>
 x49 [v50, v51, v52] h47) ())) ())) ())) (x49 [.tup [], .tup [], .tup []] h47)) ()) (later (fun x53 h54 =>
 z07 (later (fun x55 =>
 z0c (nth x48 1) false (z0m (nth x48 2) (nth x53 2) (.bool false) (later (fun v56 =>
 x55 [v56] h54) ())) (x55 [.tup []] h54)) ()) (later (fun x57 h58 =>
 z0m (nth x48 1) (.bool true) (nth x57 0) (later (fun v59 =>
 z0p v59 (R (.int .i64 (-1)) h58) (R (.int .i64 0) h58)) ())) ())) ())) ())) ())) ())) ())) ())) ())) ())) ())) ())) ())) ())) (z00 0 v1 (later (fun v60 =>
 z02 none v60 h11 (later (fun v61 =>
 z08 (binA .other .geq v61 (.int .i64 4)) (later (fun v62 =>
 z07 (later (fun x63 =>
 z0c v62 true (z00 0 v1 (later (fun v64 =>
 z02 none v64 h11 (later (fun v65 =>
 z08 (binA .other .leq v65 (.int .i64 7)) (later (fun v66 =>
 x63 [v64, v65, v66] h11) ())) ())) ())) (x63 [.tup [], .tup [], .tup []] h11)) ()) (later (fun x67 h68 =>
 z0m v62 (nth x67 2) (.bool false) (later (fun v69 =>
 z0p v69 (z00 1 v1 (later (fun v70 =>
 z02 none v70 h68 (later (fun v71 =>
 z08 (binA .other .neq v71 (.int .i64 0)) (later (fun v72 =>
 z07 (later (fun x73 =>
 z0c v72 false (z00 2 v1 (later (fun v74 =>
 z02 none v74 h68 (later (fun v75 =>
 z08 (binA .other .neq v75 (.int .u64 0)) (later (fun v76 =>
 x73 [v74, v75, v76] h68) ())) ())) ())) (x73 [.tup [], .tup [], .tup []] h68)) ()) (later (fun x77 h78 =>
 z0m v72 (.bool true) (nth x77 2) (later (fun v79 =>
 z0p v79 (R (.int .i64 (-1)) h78) (R (.int .i64 1) h78)) ())) ())) ())) ())) ())) (z00 0 v1 (later (fun v80 =>
 z02 none v80 h68 (later (fun v81 =>
 z08 (binA .other .lss v81 (.int .i64 8)) (later (fun v82 =>
 z07 (later (fun x83 =>
 z0c v82 false (z00 0 v1 (later (fun v84 =>
 z02 none v84 h68 (later (fun v85 =>
 z08 (binA .other .gtr v85 (.int .i64 10)) (later (fun v86 =>
 x83 [v84, v85, v86] h68) ())) ())) ())) (x83 [.tup [], .tup [], .tup []] h68)) ()) (later (fun x87 h88 =>
 z0m v82 (.bool true) (nth x87 2) (later (fun v89 =>
 z07 (later (fun x90 =>
 z0c v89 false (z00 2 v1 (later (fun v91 =>
 z02 none v91 h88 (later (fun v92 =>
 z08 (binA .other .neq v92 (.int .u64 0)) (later (fun v93 =>
 x90 [v91, v92, v93] h88) ())) ())) ())) (x90 [.tup [], .tup [], .tup []] h88)) ()) (later (fun x94 h95 =>
 z0m v89 (.bool true) (nth x94 2) (later (fun v96 =>
 z07 (later (fun x97 =>
 z0c v96 false (z00 1 v1 (later (fun v98 =>
 z02 none v98 h95 (later (fun v99 =>
 z08 (binA .other .lss v99 (.int .i64 0)) (later (fun v100 =>
 x97 [v98, v99, v100] h95) ())) ())) ())) (x97 [.tup [], .tup [], .tup []] h95)) ()) (later (fun x101 h102 =>
 z0m v96 (.bool true) (nth x101 2) (later (fun v103 =>
 z07 (later (fun x104 =>
 z0c v103 false (z00 1 v1 (later (fun v105 =>
 z02 none v105 h102 (later (fun v106 =>
 z08 (binA .other .gtr v106 (.int .i64 8)) (later (fun v107 =>
 x104 [v105, v106, v107] h102) ())) ())) ())) (x104 [.tup [], .tup [], .tup []] h102)) ()) (later (fun x108 h109 =>
 z0m v103 (.bool true) (nth x108 2) (later (fun v110 =>
 pChunk [v1, v110] (later (fun x111 =>
 z07 (later (fun x112 =>
 z0c (nth x111 1) false (z00 0 (nth x111 0) (later (fun v113 =>
 z02 none v113 h109 (later (fun v114 =>
 z08 (binA .other .eql v114 (.int .i64 9)) (later (fun v115 =>
 x112 [v113, v114, v115, v115] h109) ())) ())) ())) (x112 [.tup [], .tup [], .tup [], .tup []] h109)) ()) (later (fun x116 h117 =>
 z07 (later (fun x118 =>
 z0c (nth x116 3) true (z00 1 (nth x111 0) (later (fun v119 =>
 z02 none v119 h117 (later (fun v120 =>
 z08 (binA .other .eql v120 (.int .i64 4)) (later (fun v121 =>
 x118 [v119, v120, v121] h117) ())) ())) ())) (x118 [.tup [], .tup [], .tup []] h117)) ()) (later (fun x122 h123 =>
 z07 (later (fun x124 =>
 z0c (nth x111 1) false (z0m (nth x116 3) (nth x122 2) (.bool false) (later (fun v125 =>
 x124 [v125] h123) ())) (x124 [.tup []] h123)) ()) (later (fun x126 h127 =>
 z0m (nth x111 1) (.bool true) (nth x126 0) (later (fun v128 =>
 z07 (later (fun x129 =>
 z0c v128 false (z00 0 (nth x111 0) (later (fun v130 =>
 z02 none v130 h127 (later (fun v131 =>
 z08 (binA .other .eql v131 (.int .i64 10)) (later (fun v132 =>
 x129 [v130, v131, v132, v132] h127) ())) ())) ())) (x129 [.tup [], .tup [], .tup [], .tup []] h127)) ()) (later (fun x133 h134 =>
 z07 (later (fun x135 =>
 z0c (nth x133 3) true (z00 1 (nth x111 0) (later (fun v136 =>
 z02 none v136 h134 (later (fun v137 =>
 z08 (binA .other .neq v137 (.int .i64 5)) (later (fun v138 =>
 x135 [v136, v137, v138] h134) ())) ())) ())) (x135 [.tup [], .tup [], .tup []] h134)) ()) (later (fun x139 h140 =>
 z07 (later (fun x141 =>
 z0c v128 false (z0m (nth x133 3) (nth x139 2) (.bool false) (later (fun v142 =>
 x141 [v142, v142] h140) ())) (x141 [.tup [], .tup []] h140)) ()) (later (fun x143 h144 =>
 z07 (later (fun x145 =>
 z0c (nth x143 1) true (z00 1 (nth x111 0) (later (fun v146 =>
 z02 none v146 h144 (later (fun v147 =>
 z08 (binA .other .neq v147 (.int .i64 6)) (later (fun v148 =>
 x145 [v146, v147, v148] h144) ())) ())) ())) (x145 [.tup [], .tup [], .tup []] h144)) ()) (later (fun x149 h150 =>
 z07 (later (fun x151 =>
 z0c v128 false (z0m (nth x143 1) (nth x149 2) (.bool false) (later (fun v152 =>
 x151 [v152] h150) ())) (x151 [.tup []] h150)) ()) (later (fun x153 h154 =>
 z0m v128 (.bool true) (nth x153 0) (later (fun v155 =>
 z0p v155 (R (.int .i64 (-1)) h154) (R (.int .i64 2) h154)) ())) ())) ())) ())) ())) ())) ())) ())) ())) ())) ())) ())) ())) ())) ())) ())) ())) ())) ())) ())) ())) ()))) ())) ())) ())) ())) ()))) ())) ())) ())) ())) ())) ())) : z03 Try.prog 43 [a0, a1] h R :=
 z0j g_padlockref08_Takes z0v Try.func43 (show Try.f43.body = some c_padlockref08_Takes by kernel_rfl) Try.ntmps43 (by kernel_rfl) (Nat.le_of_ble_eq_true rfl) Try.call43 (Eq.mpr (by kernel_rfl) H)
/- padlock/padlockref08.Good -/
noncomputable def c_padlockref08_Good : Code := (Try.f34.body).getD .skip
noncomputable def g_padlockref08_Good : Cfg := { ch := fun d => List.contains [9, 20, 35] d, lv := fun k => ((List.lookup k ([(3, [0, 1, 5, 6])] : List (Nat × List Nat))).getD []), cut := fun k => List.contains [] k, rc := fun i n => none }
noncomputable def c_padlockref08_Good_3 : Code := (z2a 3 c_padlockref08_Good).getD .skip
theorem padlockref08_Good_wp (a0 a1 : AV) (h : z04) (R : AV → z04 → Prop) (H :
 pLen .slice a0 (later (fun v1 =>
 z08 (binA .other .sub v1 (.int .i64 1)) (later (fun v2 =>
 WP Try.prog 38 (Code.loop c_padlockref08_Good_3) (frOf [(0, a0), (1, a1), (5, .int .i64 1), (6, v2)]) h (z1q (later (fun fr3 h4 =>
 False) ()) (later (fun x5 fr6 h7 =>
 pIdx x5 0 (pIdx 0 0 (z08 (binA .other .eql (fr6 5) (.int .i64 0)) (later (fun v8 =>
 z07 (later (fun x9 =>
 z0c v8 true (pLen .slice (fr6 0) (later (fun v10 =>
 z08 (binA .other .leq v10 (.int .i64 64)) (later (fun v11 =>
 x9 [fr6 0, v10, v11] h7) ())) ())) (x9 [.tup [], .tup [], .tup []] h7)) ()) (later (fun x12 h13 =>
 z0m v8 (nth x12 2) (.bool false) (later (fun v14 =>
 R v14 h13) ())) ())) ())) False) False) ()) (later (fun fr15 h16 =>
 R (fr15 4) h16) ()))) ())) ())) : z03 Try.prog 34 [a0, a1] h R :=
 z0j g_padlockref08_Good z0v Try.func34 (show Try.f34.body = some c_padlockref08_Good by kernel_rfl) Try.ntmps34 (by kernel_rfl) (Nat.le_of_ble_eq_true rfl) Try.call34 (Eq.mpr (by kernel_rfl) H)
theorem padlockref08_Good_loop3 (s0 s1 s5 s6 : AV) (h : z04) (Q : z1j → Fr → z04 → Prop) (H :
 z08 (binA .other .geq s6 (.int .i64 0)) (later (fun v1 =>
 z0p v1 (z09 (.slice 3) s0 s6 (later (fun v2 =>
 z02 (some 3) v2 h (later (fun v3 =>
 z03 Try.prog 43 [v3, s1] h (later (fun v4 h5 =>
 z08 (binA .other .lss v4 (.int .i64 0)) (later (fun v6 =>
 z07 (later (fun x7 =>
 z0c v6 false (z08 (binA .other .eql s5 (.int .i64 0)) (later (fun v8 =>
 x7 [s5, v8] h5) ())) (x7 [.tup [], .tup []] h5)) ()) (later (fun x9 h10 =>
 z0m v6 (.bool true) (nth x9 1) (later (fun v11 =>
 z0p v11 (Q .ret (frOf [(4, .bool false)]) h10) (z08 (binA .other .sub s5 (.int .i64 1)) (later (fun v12 =>
 z08 (binA .other .add v12 v4) (later (fun v13 =>
 z08 (binA .other .sub s6 (.int .i64 1)) (later (fun v14 =>
 Q .normal (frOf [(0, s0), (1, s1), (5, v13), (6, v14)]) h10) ())) ())) ()))) ())) ())) ())) ())) ())) ())) (Q (.exit 0) (frOf [(0, s0), (5, s5)]) h)) ())) : WP Try.prog 38 c_padlockref08_Good_3 (frOf [(0, s0), (1, s1), (5, s5), (6, s6)]) h Q :=
 z1t g_padlockref08_Good [0] [0, 1, 5, 6] [0, 5] [4] z0v (by kernel_rfl) (Eq.mpr (by kernel_rfl) H)
/- padlock/padlockref09.Inside -/
noncomputable def c_padlockref09_Inside : Code := (Try.f35.body).getD .skip
noncomputable def g_padlockref09_Inside : Cfg := { ch := fun d => List.contains [3, 11] d, lv := fun k => ((List.lookup k ([(2, [1, 2, 10, 11, 12])] : List (Nat × List Nat))).getD []), cut := fun k => List.contains [] k, rc := fun i n => none }
noncomputable def c_padlockref09_Inside_2 : Code := (z2a 2 c_padlockref09_Inside).getD .skip
theorem padlockref09_Inside_wp (a0 a1 a2 : AV) (h : z04) (R : AV → z04 → Prop) (H :
 pBox true 28 a0 h (later (fun v1 h2 =>
 z00 4 v1 (later (fun v3 =>
 z02 none v3 h2 (later (fun v4 =>
 pLen .slice v4 (later (fun v5 =>
 WP Try.prog 35 (Code.loop c_padlockref09_Inside_2) (frOf [(1, a1), (2, a2), (10, v4), (11, v5), (12, .int .i64 0)]) h2 (z1q (later (fun fr6 h7 =>
 False) ()) (later (fun x8 fr9 h10 =>
 pIdx x8 0 (pIdx 0 0 (R (.int .i64 (-1)) h10) False) False) ()) (later (fun fr11 h12 =>
 R (fr11 6) h12) ()))) ())) ())) ())) ())) : z03 Try.prog 35 [a0, a1, a2] h R :=
 z0j g_padlockref09_Inside z0v Try.func35 (show Try.f35.body = some c_padlockref09_Inside by kernel_rfl) Try.ntmps35 (by kernel_rfl) (Nat.le_of_ble_eq_true rfl) Try.call35 (Eq.mpr (by kernel_rfl) H)
theorem padlockref09_Inside_loop2 (s1 s2 s10 s11 s12 : AV) (h : z04) (Q : z1j → Fr → z04 → Prop) (H :
 z08 (binA .other .lss s12 s11) (later (fun v1 =>
 z0p v1 (z09 (.slice 3) s10 s12 (later (fun v2 =>
 z02 (some 3) v2 h (later (fun v3 =>
 z1s 51 [.int .i64 0, .int .i64 0, .int .i64 0] h (later (fun v4 h5 =>
 z0y 3 v4 v3 h5 (later (fun h6 =>
 z00 0 v4 (later (fun v7 =>
 z02 none v7 h6 (later (fun v8 =>
 z08 (binA .other .eql v8 s1) (later (fun v9 =>
 z07 (later (fun x10 =>
 z0c v9 true (z00 1 v4 (later (fun v11 =>
 z02 none v11 h6 (later (fun v12 =>
 z08 (binA .other .lss v12 s2) (later (fun v13 =>
 x10 [v11, v12, s2, v13] h6) ())) ())) ())) (x10 [.tup [], .tup [], .tup [], .tup []] h6)) ()) (later (fun x14 h15 =>
 z0m v9 (nth x14 3) (.bool false) (later (fun v16 =>
 z07 (later (fun x17 =>
 z0c v16 true (z00 2 v4 (later (fun v18 =>
 z02 none v18 h15 (later (fun v19 =>
 z08 (binA .other .leq s2 v19) (later (fun v20 =>
 x17 [s2, v18, v19, v20] h15) ())) ())) ())) (x17 [.tup [], .tup [], .tup [], .tup []] h15)) ()) (later (fun x21 h22 =>
 z0m v16 (nth x21 3) (.bool false) (later (fun v23 =>
 z0p v23 (Q .ret (frOf [(6, s12)]) h22) (z08 (binA .other .add s12 (.int .i64 1)) (later (fun v24 =>
 Q .normal (frOf [(1, s1), (2, s2), (10, s10), (11, s11), (12, v24)]) h22) ()))) ())) ())) ())) ())) ())) ())) ())) ())) ())) ())) ())) (Q (.exit 0) (frOf []) h)) ())) : WP Try.prog 35 c_padlockref09_Inside_2 (frOf [(1, s1), (2, s2), (10, s10), (11, s11), (12, s12)]) h Q :=
 z1t g_padlockref09_Inside [0] [1, 2, 10, 11, 12] [] [6] z0v (by kernel_rfl) (Eq.mpr (by kernel_rfl) H)
end Go.Proofs.Ytnggcokgnblpgaa
end

