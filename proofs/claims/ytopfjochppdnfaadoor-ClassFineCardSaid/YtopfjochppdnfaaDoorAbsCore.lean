/- The abstract values, and how they stand to the machine's: read-only data are trees, mutable objects have numbers. -/
import Derived.Below
import Derived.Maps.AppendAt
import Derived.Laws.OwnMore
import Derived.Laws.MakeOwn
import Derived.WalkKit
import Derived.RangeFuncRecord
import Derived.OrdersIn
import Derived.TacticsIn
set_option linter.unusedVariables false
set_option linter.unusedSimpArgs false
namespace Go.Abs
open Go.RowKit

/-- Abstract values. 'ptr', 'sl', 'gsl', 'mapv' name a mutable object by its number; 'iptr', 'isl' are read-only memory, by value. -/
inductive AV where
  | und
  | int (k : IntKind) (n : Int)
  | bool (b : Bool)
  | unkb
  | str (s : List UInt8)
  | flt (k : FloatKind) (bits : Nat)
  | nilp
  | ptr (id off : Nat)
  | iptr (cells : List AV)
  | nils
  | eml
  | isl (sz : Nat) (es : List (List AV))
  | gsl (id sz : Nat) (es : List (List AV))
  | sl (id off len sz : Nat)
  | nilm
  | mapv (id : Nat)
  | nilf
  | fn (f : Fn) (first captured : List AV)
  | nili
  | ifc (t : TypeId) (v : AV)
  | agg (cs : List AV)
  | tup (vs : List AV)
  | yld (id : Nat)
  deriving Inhabited

/-- What is known of the blocks: where each object lies, which cells are never written any more. -/
structure Ctx where
  m : Nat → Option Nat
  im : Nat → Nat → Prop

/-- A block of so many cells, of this element type, not frozen. -/
def Shp (w : World) (b : Nat) (ty : TypeId) (n : Nat) : Prop := ∃ C, w.heap[b]? = some (.cells C ty (0, 0)) ∧ C.size = n

mutual
def VRel (c : Ctx) (w : World) : AV → Value → Prop
  | .und, _ => True
  | .int k n, v => v = .int k n
  | .bool b, v => v = .bool b
  | .unkb, v => ∃ b, v = .bool b
  | .str s, v => v = .string ⟨s.toArray⟩
  | .flt k b, v => v = .float k b
  | .nilp, v => v = .pointer none
  | .ptr id off, v => ∃ b, c.m id = some b ∧ v = .pointer (some ⟨b, off, none⟩)
  | .iptr cs, v => ∃ b off, v = .pointer (some ⟨b, off, none⟩) ∧ MRel c w cs b off
  | .nils, v => v = .slice none 0 0
  | .eml, v => ∃ a, v = .slice (some a) 0 0
  | .isl sz es, v => ∃ a cap, v = .slice a es.length cap ∧ es.length ≤ cap ∧ es.length ≤ 9223372036854775807 ∧ (es ≠ [] → ∃ b off, a = some ⟨b, off, none⟩ ∧ ERel c w sz es b off)
  | .gsl id sz es, v => ∃ b cap ty, c.m id = some b ∧ v = .slice (some ⟨b, 0, none⟩) es.length cap ∧ es.length ≤ cap ∧ cap ≤ maxLen ∧ Shp w b ty (cap * sz) ∧ ERel c w sz es b 0
  | .sl id off len sz, v => ∃ b cap ty, c.m id = some b ∧ v = .slice (some ⟨b, off, none⟩) len cap ∧ len ≤ cap ∧ cap ≤ maxLen ∧ Shp w b ty (off + cap * sz)
  | .nilm, v => v = .map none
  | .mapv id, v => ∃ b, c.m id = some b ∧ v = .map (some b)
  | .nilf, v => v = .nilFunc
  | .fn f first captured, v => ∃ fs cs : Array Value, v = .func f fs cs ∧ LRel c w first fs.toList ∧ LRel c w captured cs.toList
  | .nili, v => v = .nilIface
  | .ifc t a, v => ∃ u, v = .iface t u ∧ VRel c w a u
  | .agg cs, v => ∃ vs : Array Value, v = .agg vs ∧ LRel c w cs vs.toList ∧ ∀ u ∈ vs.toList, u.oneCell' = true
  | .tup cs, v => ∃ vs : Array Value, v = .tuple vs ∧ LRel c w cs vs.toList
  | .yld id, v => ∃ b, c.m id = some b ∧ v = .func (.yield b) #[] #[]
def LRel (c : Ctx) (w : World) : List AV → List Value → Prop
  | [], vs => vs = []
  | a :: as, vs => ∃ v vs', vs = v :: vs' ∧ VRel c w a v ∧ LRel c w as vs'
def MRel (c : Ctx) (w : World) : List AV → Nat → Nat → Prop
  | [], _, _ => True
  | a :: as, b, off => c.im b off ∧ (∃ u, w.cell? ⟨b, off, none⟩ = some u ∧ u.oneCell' = true ∧ VRel c w a u) ∧ MRel c w as b (off + 1)
def ERel (c : Ctx) (w : World) (sz : Nat) : List (List AV) → Nat → Nat → Prop
  | [], _, _ => True
  | e :: es, b, off => e.length = sz ∧ MRel c w e b off ∧ ERel c w sz es b (off + sz)
end

/-- From one state of knowledge and world to a later one. B: the blocks below it stay as they are. -/
structure Ext0 (B : Nat) (c : Ctx) (w : World) (c' : Ctx) (w' : World) : Prop where
  m : ∀ id b, c.m id = some b → c'.m id = some b
  im : ∀ b o, c.im b o → c'.im b o
  below : Below B w w'
  cells : ∀ b o, c.im b o → w'.cell? ⟨b, o, none⟩ = w.cell? ⟨b, o, none⟩
  shp : ∀ b ty n, Shp w b ty n → Shp w' b ty n
/-- The blocks of a loop's deferred calls stay empty. -/
def Dfr (w : World) (b : Nat) : Prop := w.heap[b]? = some (.deferred (some []))
structure Ext (B : Nat) (c : Ctx) (w : World) (c' : Ctx) (w' : World) : Prop extends Ext0 B c w c' w' where
  oth : ∀ b, Dfr w b → Dfr w' b

theorem Ext0.refl (B : Nat) (c : Ctx) (w : World) : Ext0 B c w c w := ⟨fun _ _ h => h, fun _ _ h => h, Below.refl _ _, fun _ _ _ => rfl, fun _ _ _ h => h⟩
theorem Ext.refl (B : Nat) (c : Ctx) (w : World) : Ext B c w c w := ⟨Ext0.refl _ _ _, fun _ h => h⟩
theorem Ext0.trans {B : Nat} {c c' c'' : Ctx} {w w' w'' : World} (h : Ext0 B c w c' w') (k : Ext0 B c' w' c'' w'') : Ext0 B c w c'' w'' :=
  ⟨fun _ _ x => k.m _ _ (h.m _ _ x), fun _ _ x => k.im _ _ (h.im _ _ x), h.below.trans k.below, fun b o x => (k.cells b o (h.im b o x)).trans (h.cells b o x), fun _ _ _ x => k.shp _ _ _ (h.shp _ _ _ x)⟩
theorem Ext.trans {B : Nat} {c c' c'' : Ctx} {w w' w'' : World} (h : Ext B c w c' w') (k : Ext B c' w' c'' w'') : Ext B c w c'' w'' :=
  ⟨h.toExt0.trans k.toExt0, fun b x => k.oth b (h.oth b x)⟩

mutual
theorem VRel.mono0 {B : Nat} {c c' : Ctx} {w w' : World} (E : Ext0 B c w c' w') : ∀ {a : AV} {v : Value}, VRel c w a v → VRel c' w' a v
  | .und, _, _ => by simp [VRel]
  | .int .., _, h => by simpa [VRel] using h
  | .bool .., _, h => by simpa [VRel] using h
  | .unkb, _, h => by simpa [VRel] using h
  | .str .., _, h => by simpa [VRel] using h
  | .flt .., _, h => by simpa [VRel] using h
  | .nilp, _, h => by simpa [VRel] using h
  | .ptr .., _, h => by
    simp only [VRel] at h ⊢
    obtain ⟨b, h1, h2⟩ := h
    exact ⟨b, E.m _ _ h1, h2⟩
  | .iptr cs, _, h => by
    simp only [VRel] at h ⊢
    obtain ⟨b, off, h1, h2⟩ := h
    exact ⟨b, off, h1, MRel.mono0 E h2⟩
  | .nils, _, h => by simpa [VRel] using h
  | .eml, _, h => by simpa [VRel] using h
  | .isl sz es, _, h => by
    simp only [VRel] at h ⊢
    obtain ⟨a, cap, h1, h2, h2b, h3⟩ := h
    refine ⟨a, cap, h1, h2, h2b, fun hne => ?_⟩
    obtain ⟨b, off, h4, h5⟩ := h3 hne
    exact ⟨b, off, h4, ERel.mono0 E h5⟩
  | .gsl id sz es, _, h => by
    simp only [VRel] at h ⊢
    obtain ⟨b, cap, ty, h1, h2, h3, h4, h5, h6⟩ := h
    exact ⟨b, cap, ty, E.m _ _ h1, h2, h3, h4, E.shp _ _ _ h5, ERel.mono0 E h6⟩
  | .sl .., _, h => by
    simp only [VRel] at h ⊢
    obtain ⟨b, cap, ty, h1, h2, h3, h4, h5⟩ := h
    exact ⟨b, cap, ty, E.m _ _ h1, h2, h3, h4, E.shp _ _ _ h5⟩
  | .nilm, _, h => by simpa [VRel] using h
  | .mapv .., _, h => by
    simp only [VRel] at h ⊢
    obtain ⟨b, h1, h2⟩ := h
    exact ⟨b, E.m _ _ h1, h2⟩
  | .nilf, _, h => by simpa [VRel] using h
  | .fn f first captured, _, h => by
    simp only [VRel] at h ⊢
    obtain ⟨fs, cs, h1, h2, h3⟩ := h
    exact ⟨fs, cs, h1, LRel.mono0 E h2, LRel.mono0 E h3⟩
  | .nili, _, h => by simpa [VRel] using h
  | .ifc t a, _, h => by
    simp only [VRel] at h ⊢
    obtain ⟨u, h1, h2⟩ := h
    exact ⟨u, h1, VRel.mono0 E h2⟩
  | .agg cs, _, h => by
    simp only [VRel] at h ⊢
    obtain ⟨vs, h1, h2, h3⟩ := h
    exact ⟨vs, h1, LRel.mono0 E h2, h3⟩
  | .tup cs, _, h => by
    simp only [VRel] at h ⊢
    obtain ⟨vs, h1, h2⟩ := h
    exact ⟨vs, h1, LRel.mono0 E h2⟩
  | .yld id, _, h => by
    simp only [VRel] at h ⊢
    obtain ⟨b, h1, h2⟩ := h
    exact ⟨b, E.m _ _ h1, h2⟩
theorem LRel.mono0 {B : Nat} {c c' : Ctx} {w w' : World} (E : Ext0 B c w c' w') : ∀ {as : List AV} {vs : List Value}, LRel c w as vs → LRel c' w' as vs
  | [], _, h => by simpa [LRel] using h
  | a :: as, _, h => by
    simp only [LRel] at h ⊢
    obtain ⟨v, vs', h1, h2, h3⟩ := h
    exact ⟨v, vs', h1, VRel.mono0 E h2, LRel.mono0 E h3⟩
theorem MRel.mono0 {B : Nat} {c c' : Ctx} {w w' : World} (E : Ext0 B c w c' w') : ∀ {as : List AV} {b off : Nat}, MRel c w as b off → MRel c' w' as b off
  | [], _, _, _ => by simp [MRel]
  | a :: as, b, off, h => by
    simp only [MRel] at h ⊢
    obtain ⟨h1, ⟨u, h2, h3, h4⟩, h5⟩ := h
    exact ⟨E.im _ _ h1, ⟨u, (E.cells _ _ h1).trans h2, h3, VRel.mono0 E h4⟩, MRel.mono0 E h5⟩
theorem ERel.mono0 {B : Nat} {c c' : Ctx} {w w' : World} (E : Ext0 B c w c' w') {sz : Nat} : ∀ {es : List (List AV)} {b off : Nat}, ERel c w sz es b off → ERel c' w' sz es b off
  | [], _, _, _ => by simp [ERel]
  | e :: es, b, off, h => by
    simp only [ERel] at h ⊢
    exact ⟨h.1, MRel.mono0 E h.2.1, ERel.mono0 E h.2.2⟩
end

theorem VRel.mono {B : Nat} {c c' : Ctx} {w w' : World} (E : Ext B c w c' w') {a : AV} {v : Value} (h : VRel c w a v) : VRel c' w' a v := VRel.mono0 E.toExt0 h
theorem LRel.mono {B : Nat} {c c' : Ctx} {w w' : World} (E : Ext B c w c' w') {as : List AV} {vs : List Value} (h : LRel c w as vs) : LRel c' w' as vs := LRel.mono0 E.toExt0 h
theorem MRel.mono {B : Nat} {c c' : Ctx} {w w' : World} (E : Ext B c w c' w') {as : List AV} {b off : Nat} (h : MRel c w as b off) : MRel c' w' as b off := MRel.mono0 E.toExt0 h
theorem ERel.mono {B : Nat} {c c' : Ctx} {w w' : World} (E : Ext B c w c' w') {sz : Nat} {es : List (List AV)} {b off : Nat} (h : ERel c w sz es b off) : ERel c' w' sz es b off := ERel.mono0 E.toExt0 h

/-- A mutable object: a row of cells; the right to write behind the first n cells of a block whose first n are read-only; a map. -/
inductive AObj where
  | row (ty : TypeId) (cs : List AV)
  | tok (ty : TypeId) (n : Nat)
  | loop (st : LoopState) (pe : Option Code) (N : Nat) (ps : Array Tmp) (assign body : Code) (fr : Nat → AV)

/-- Objects by their numbers. -/
structure AHeap where
  objs : Nat → Option AObj
  next : Nat

def ORel (c : Ctx) (w : World) (b : Nat) : AObj → Prop
  | .row ty cs => ∃ C : Array Value, w.heap[b]? = some (.cells C ty (0, 0)) ∧ cs.length ≤ C.size ∧ LRel c w cs (C.toList.take cs.length) ∧ (∀ u ∈ C.toList.take cs.length, u.oneCell' = true) ∧ ∀ o, ¬ c.im b o
  | .tok ty n => ∃ C : Array Value, w.heap[b]? = some (.cells C ty (0, 0)) ∧ n ≤ C.size ∧ ∀ o, c.im b o → o < n
  | .loop st pe N ps asn bd fr => ∃ L : Loop, w.heap[b]? = some (.loop L) ∧ L.state = st ∧ L.pending = pe ∧ L.params = ps ∧ L.assign = asn ∧ L.body = bd ∧ L.tmps.size = N ∧ ∀ i, VRel c w (fr i) (L.tmps.getD i undef)

/-- Package variables that are read: what is in their cells, by their number (a seat's own: seat.sh lays none where the seat has none). -/
def tabBits : List Int := [0, 1, 56, 2, 57, 49, 28, 3, 61, 58, 42, 50, 38, 29, 17, 4, 62, 47, 59, 36, 45, 43, 51, 22, 53, 39, 33, 30, 24, 18, 12, 5, 63, 55, 48, 27, 60, 41, 37, 16, 46, 35, 44, 21, 52, 32, 23, 11, 54, 26, 40, 15, 34, 20, 31, 10, 25, 14, 19, 9, 13, 8, 7, 6]
def Globs : Nat → List AV := fun i => if i = 0 then tabBits.map (.int .u8 ·) else []
def GlR (c : Ctx) (w : World) : Prop := ∀ g, MRel c w (Globs g) g 0
theorem GlR.mono0 {B : Nat} {c c' : Ctx} {w w' : World} (E : Ext0 B c w c' w') (h : GlR c w) : GlR c' w' := fun g => MRel.mono0 E (h g)
theorem GlR.mono {B : Nat} {c c' : Ctx} {w w' : World} (E : Ext B c w c' w') (h : GlR c w) : GlR c' w' := h.mono0 E.toExt0

structure WRel (B : Nat) (c : Ctx) (h : AHeap) (w : World) : Prop where
  mlt : ∀ id b, c.m id = some b → id < h.next ∧ B ≤ b ∧ b < w.heap.size
  inj : ∀ i j b, c.m i = some b → c.m j = some b → h.objs i ≠ none → h.objs j ≠ none → i = j
  obj : ∀ id b o, c.m id = some b → h.objs id = some o → ORel c w b o
  im : ∀ b o, c.im b o → b < w.heap.size
  fresh : ∀ id, h.next ≤ id → h.objs id = none
  base : B ≤ w.heap.size
  gl : GlR c w

/-! ### Lists of values -/
theorem LRel.length {c : Ctx} {w : World} : ∀ {as : List AV} {vs : List Value}, LRel c w as vs → vs.length = as.length
  | [], _, h => by simp only [LRel] at h; subst h; rfl
  | a :: as, _, h => by
    simp only [LRel] at h
    obtain ⟨v, vs', rfl, _, h3⟩ := h
    simp [LRel.length h3]

theorem LRel.get {c : Ctx} {w : World} : ∀ {as : List AV} {vs : List Value}, LRel c w as vs → ∀ {i : Nat} {a : AV}, as[i]? = some a → ∃ v, vs[i]? = some v ∧ VRel c w a v
  | [], _, _, i, a, hi => by simp at hi
  | x :: as, _, h, i, a, hi => by
    simp only [LRel] at h
    obtain ⟨v, vs', rfl, h2, h3⟩ := h
    cases i with
    | zero => simp at hi; subst hi; exact ⟨v, by simp, h2⟩
    | succ i => simp only [List.getElem?_cons_succ] at hi ⊢; exact LRel.get h3 hi

theorem LRel.append {c : Ctx} {w : World} : ∀ {as : List AV} {vs : List Value} {bs : List AV} {us : List Value}, LRel c w as vs → LRel c w bs us → LRel c w (as ++ bs) (vs ++ us)
  | [], _, _, _, h, k => by simp only [LRel] at h; subst h; simpa using k
  | a :: as, _, _, _, h, k => by
    simp only [LRel] at h
    obtain ⟨v, vs', rfl, h2, h3⟩ := h
    simp only [List.cons_append, LRel]
    exact ⟨v, _, rfl, h2, LRel.append h3 k⟩

theorem LRel.take {c : Ctx} {w : World} : ∀ {as : List AV} {vs : List Value} (n : Nat), LRel c w as vs → LRel c w (as.take n) (vs.take n)
  | _, _, 0, _ => by simp [LRel]
  | [], _, n + 1, h => by simp only [LRel] at h; subst h; simp [LRel]
  | a :: as, _, n + 1, h => by
    simp only [LRel] at h
    obtain ⟨v, vs', rfl, h2, h3⟩ := h
    simp only [List.take_succ_cons, LRel]
    exact ⟨v, _, rfl, h2, LRel.take n h3⟩

theorem LRel.drop {c : Ctx} {w : World} : ∀ {as : List AV} {vs : List Value} (n : Nat), LRel c w as vs → LRel c w (as.drop n) (vs.drop n)
  | _, _, 0, h => by simpa using h
  | [], _, n + 1, h => by simp only [LRel] at h; subst h; simp [LRel]
  | a :: as, _, n + 1, h => by
    simp only [LRel] at h
    obtain ⟨v, vs', rfl, h2, h3⟩ := h
    simp only [List.drop_succ_cons]
    exact LRel.drop n h3

theorem LRel.set {c : Ctx} {w : World} : ∀ {as : List AV} {vs : List Value} (i : Nat) {a : AV} {v : Value}, LRel c w as vs → VRel c w a v → LRel c w (as.set i a) (vs.set i v)
  | [], _, i, _, _, h, _ => by simp only [LRel] at h; subst h; simp [LRel]
  | a :: as, _, 0, _, _, h, k => by
    simp only [LRel] at h
    obtain ⟨v, vs', rfl, h2, h3⟩ := h
    simp only [List.set_cons_zero, LRel]
    exact ⟨_, _, rfl, k, h3⟩
  | a :: as, _, i + 1, _, _, h, k => by
    simp only [LRel] at h
    obtain ⟨v, vs', rfl, h2, h3⟩ := h
    simp only [List.set_cons_succ, LRel]
    exact ⟨_, _, rfl, h2, LRel.set i h3 k⟩

theorem LRel.ofFn {c : Ctx} {w : World} {as : List AV} {vs : List Value} (hl : vs.length = as.length) (h : ∀ (i : Nat) (a : AV) (v : Value), as[i]? = some a → vs[i]? = some v → VRel c w a v) : LRel c w as vs := by
  induction as generalizing vs with
  | nil => simpa [LRel] using hl
  | cons a as ih =>
    cases vs with
    | nil => simp at hl
    | cons v vs =>
      simp only [LRel]
      refine ⟨v, vs, rfl, h 0 a v (by simp) (by simp), ih (by simpa using hl) fun i a' v' h1 h2 => h (i + 1) a' v' (by simpa using h1) (by simpa using h2)⟩

/-! ### Read-only memory -/
theorem MRel.get {c : Ctx} {w : World} : ∀ {as : List AV} {b off : Nat}, MRel c w as b off → ∀ {i : Nat} {a : AV}, as[i]? = some a → c.im b (off + i) ∧ ∃ u, w.cell? ⟨b, off + i, none⟩ = some u ∧ u.oneCell' = true ∧ VRel c w a u
  | [], _, _, _, i, a, hi => by simp at hi
  | x :: as, b, off, h, i, a, hi => by
    simp only [MRel] at h
    cases i with
    | zero => simp at hi; subst hi; exact ⟨h.1, h.2.1⟩
    | succ i =>
      have := MRel.get h.2.2 (i := i) (a := a) (by simpa using hi)
      rwa [show off + 1 + i = off + (i + 1) by omega] at this

theorem MRel.drop {c : Ctx} {w : World} : ∀ {as : List AV} {b off : Nat} (n : Nat), MRel c w as b off → MRel c w (as.drop n) b (off + n)
  | _, _, _, 0, h => by simpa using h
  | [], _, _, n + 1, _ => by simp [MRel]
  | a :: as, b, off, n + 1, h => by
    simp only [MRel] at h
    have := MRel.drop n h.2.2
    rw [show off + 1 + n = off + (n + 1) by omega] at this
    simpa using this

theorem MRel.take {c : Ctx} {w : World} : ∀ {as : List AV} {b off : Nat} (n : Nat), MRel c w as b off → MRel c w (as.take n) b off
  | _, _, _, 0, h => by simp [MRel]
  | [], _, _, n + 1, _ => by simp [MRel]
  | a :: as, b, off, n + 1, h => by
    simp only [MRel] at h
    simp only [List.take_succ_cons, MRel]
    exact ⟨h.1, h.2.1, MRel.take n h.2.2⟩

theorem MRel.append {c : Ctx} {w : World} : ∀ {as bs : List AV} {b off : Nat}, MRel c w as b off → MRel c w bs b (off + as.length) → MRel c w (as ++ bs) b off
  | [], _, _, _, _, k => by simpa using k
  | a :: as, bs, b, off, h, k => by
    simp only [MRel] at h
    simp only [List.cons_append, MRel]
    refine ⟨h.1, h.2.1, MRel.append h.2.2 ?_⟩
    rwa [show off + 1 + as.length = off + (a :: as).length by simp; omega]

/-- The values that lie there. -/
theorem MRel.values {c : Ctx} {w : World} : ∀ {as : List AV} {b off : Nat}, MRel c w as b off → ∃ vs : List Value, LRel c w as vs ∧ (∀ u ∈ vs, u.oneCell' = true) ∧ ∀ j u, vs[j]? = some u → w.cell? ⟨b, off + j, none⟩ = some u
  | [], _, _, _ => ⟨[], by simp [LRel], by simp, by simp⟩
  | a :: as, b, off, h => by
    simp only [MRel] at h
    obtain ⟨_, ⟨u, h2, h3, h4⟩, h5⟩ := h
    obtain ⟨vs, k1, k2, k3⟩ := MRel.values h5
    refine ⟨u :: vs, by simp only [LRel]; exact ⟨u, vs, rfl, h4, k1⟩, by simpa using ⟨h3, k2⟩, fun j x hx => ?_⟩
    cases j with
    | zero => simp at hx; subst hx; exact h2
    | succ j =>
      have := k3 j x (by simpa using hx)
      rwa [show off + 1 + j = off + (j + 1) by omega] at this

theorem MRel.ofFn {c : Ctx} {w : World} {b : Nat} : ∀ {as : List AV} {off : Nat}, (∀ (i : Nat) (a : AV), as[i]? = some a → c.im b (off + i) ∧ ∃ u, w.cell? ⟨b, off + i, none⟩ = some u ∧ u.oneCell' = true ∧ VRel c w a u) → MRel c w as b off
  | [], _, _ => by simp [MRel]
  | a :: as, off, h => by
    have h0 := h 0 a (by simp)
    simp only [MRel]
    refine ⟨h0.1, h0.2, MRel.ofFn fun i x hx => ?_⟩
    have := h (i + 1) x (by simpa using hx)
    rwa [show off + (i + 1) = off + 1 + i by omega] at this

theorem ERel.get {c : Ctx} {w : World} {sz : Nat} : ∀ {es : List (List AV)} {b off : Nat}, ERel c w sz es b off → ∀ {i : Nat} {e : List AV}, es[i]? = some e → e.length = sz ∧ MRel c w e b (off + i * sz)
  | [], _, _, _, i, e, hi => by simp at hi
  | x :: es, b, off, h, i, e, hi => by
    simp only [ERel] at h
    cases i with
    | zero => simp at hi; subst hi; exact ⟨h.1, by simpa using h.2.1⟩
    | succ i =>
      have := ERel.get h.2.2 (i := i) (e := e) (by simpa using hi)
      rwa [show off + sz + i * sz = off + (i + 1) * sz by rw [Nat.add_mul]; omega] at this

theorem ERel.drop {c : Ctx} {w : World} {sz : Nat} : ∀ {es : List (List AV)} {b off : Nat} (n : Nat), ERel c w sz es b off → ERel c w sz (es.drop n) b (off + n * sz)
  | _, _, _, 0, h => by simpa using h
  | [], _, _, n + 1, _ => by simp [ERel]
  | e :: es, b, off, n + 1, h => by
    simp only [ERel] at h
    have := ERel.drop n h.2.2
    rw [show off + sz + n * sz = off + (n + 1) * sz by rw [Nat.add_mul]; omega] at this
    simpa using this

theorem ERel.take {c : Ctx} {w : World} {sz : Nat} : ∀ {es : List (List AV)} {b off : Nat} (n : Nat), ERel c w sz es b off → ERel c w sz (es.take n) b off
  | _, _, _, 0, h => by simp [ERel]
  | [], _, _, n + 1, _ => by simp [ERel]
  | e :: es, b, off, n + 1, h => by
    simp only [ERel] at h
    simp only [List.take_succ_cons, ERel]
    exact ⟨h.1, h.2.1, ERel.take n h.2.2⟩

theorem ERel.flatten {c : Ctx} {w : World} {sz : Nat} : ∀ {es : List (List AV)} {b off : Nat}, ERel c w sz es b off → MRel c w es.flatten b off ∧ es.flatten.length = es.length * sz
  | [], _, _, _ => by simp [MRel]
  | e :: es, b, off, h => by
    simp only [ERel] at h
    obtain ⟨h1, h2, h3⟩ := h
    obtain ⟨k1, k2⟩ := ERel.flatten h3
    refine ⟨?_, ?_⟩
    · simp only [List.flatten_cons]
      exact MRel.append h2 (by rwa [h1])
    · simp only [List.flatten_cons, List.length_append, List.length_cons, h1, k2, Nat.add_mul]; omega

theorem ERel.ofMRel {c : Ctx} {w : World} {sz : Nat} : ∀ {es : List (List AV)} {b off : Nat}, (∀ e ∈ es, e.length = sz) → MRel c w es.flatten b off → ERel c w sz es b off
  | [], _, _, _, _ => by simp [ERel]
  | e :: es, b, off, hl, h => by
    have he := hl e (by simp)
    simp only [List.flatten_cons] at h
    simp only [ERel]
    refine ⟨he, ?_, ERel.ofMRel (fun x hx => hl x (by simp [hx])) ?_⟩
    · have := MRel.take e.length h; simpa using this
    · have := MRel.drop e.length h; rw [he] at this; simpa [← he] using this

theorem ERel.lens {c : Ctx} {w : World} {sz : Nat} : ∀ {es : List (List AV)} {b off : Nat}, ERel c w sz es b off → ∀ e ∈ es, e.length = sz
  | [], _, _, _ => by simp
  | e :: es, b, off, h => by
    simp only [ERel] at h
    intro x hx
    rcases List.mem_cons.1 hx with rfl | hx
    · exact h.1
    · exact ERel.lens h.2.2 x hx

end Go.Abs
