/- The operations on abstract values, and that the machine's do the same. -/
import Derived.Test.YtopfjochppdnfaaDoorAbsCore
import Derived.Laws.StructEq
import Derived.Laws.Slices
import Derived.Laws.BytesArg
set_option linter.unusedVariables false
set_option linter.unusedSimpArgs false
namespace Go.Abs
open Go.RowKit

/-- A partial answer, and what is asked of it. -/
def obind (o : Option AV) (K : AV → Prop) : Prop := match o with | some v => K v | none => False
@[simp] theorem obind_some (v : AV) (K : AV → Prop) : obind (some v) K = K v := rfl
@[simp] theorem obind_none (K : AV → Prop) : obind none K = False := rfl

/-- The machine carries out s: it answers something that is related, in a world that is related. -/
def Does (P : Program) (B : Nat) (c : Ctx) (w : World) (s : Sem Value) (K : AV → AHeap → Prop) : Prop :=
  ∃ c' u v h' w', s.run P w = .ok u w' ∧ Ext B c w c' w' ∧ WRel B c' h' w' ∧ VRel c' w' v u ∧ K v h'

section
variable {P : Program} {B : Nat} {c : Ctx} {h : AHeap} {w : World}

theorem Does.pure_ {s : Sem Value} {K : AV → AHeap → Prop} {u : Value} {v : AV} (W : WRel B c h w) (hr : s.run P w = .ok u w) (hv : VRel c w v u) (hk : K v h) : Does P B c w s K :=
  ⟨c, u, v, h, w, hr, Ext.refl _ _ _, W, hv, hk⟩

/-! ### Arithmetic and comparisons -/
def bitI (k : IntKind) (f : ∀ n, BitVec n → BitVec n → BitVec n) (a b : Int) : Int := k.wrap (f k.bits (BitVec.ofInt k.bits a) (BitVec.ofInt k.bits b)).toNat
def iAnd (k : IntKind) (a b : Int) : Int := k.wrap (BitVec.ofInt k.bits a &&& BitVec.ofInt k.bits b).toNat
def iOr (k : IntKind) (a b : Int) : Int := k.wrap (BitVec.ofInt k.bits a ||| BitVec.ofInt k.bits b).toNat
def iXor (k : IntKind) (a b : Int) : Int := k.wrap (BitVec.ofInt k.bits a ^^^ BitVec.ofInt k.bits b).toNat
def iAndNot (k : IntKind) (a b : Int) : Int := k.wrap (BitVec.ofInt k.bits a &&& ~~~ BitVec.ofInt k.bits b).toNat
def iShl (k : IntKind) (a b : Int) : Int := k.wrap (a * 2 ^ (min b.toNat k.bits))
def iShr (k : IntKind) (a b : Int) : Int := a.fdiv (2 ^ (min b.toNat k.bits))

def binInt (op : BinOp) (k : IntKind) (a b : Int) : Option AV :=
  match op with
  | .add => some (.int k (k.wrap (a + b)))
  | .sub => some (.int k (k.wrap (a - b)))
  | .mul => some (.int k (k.wrap (a * b)))
  | .quo => if b = 0 then none else some (.int k (k.wrap (a.tdiv b)))
  | .rem => if b = 0 then none else some (.int k (a.tmod b))
  | .and => some (.int k (iAnd k a b))
  | .or => some (.int k (iOr k a b))
  | .xor => some (.int k (iXor k a b))
  | .andNot => some (.int k (iAndNot k a b))
  | .eql => some (.bool (a == b))
  | .neq => some (.bool (a != b))
  | .lss => some (.bool (decide (a < b)))
  | .leq => some (.bool (decide (a ≤ b)))
  | .gtr => some (.bool (decide (a > b)))
  | .geq => some (.bool (decide (a ≥ b)))
  | _ => none

def binStr (op : BinOp) (a b : List UInt8) : Option AV :=
  match op with
  | .add => if ((a.length + b.length : Nat) : Int) > 9223372036854775807 then none else some (.str (a ++ b))
  | .eql => some (.bool (a == b))
  | .neq => some (.bool (!(a == b)))
  | .lss => some (.bool (Op.bytesLess a b))
  | .leq => some (.bool (Op.bytesLess a b || a == b))
  | .gtr => some (.bool (!(Op.bytesLess a b || a == b)))
  | .geq => some (.bool (!Op.bytesLess a b))
  | _ => none

def eqn (op : BinOp) (b : Bool) : Option AV := match op with | .eql => some (.bool b) | .neq => some (.bool !b) | _ => none

/-- Kinds of leaves, and how values of a type are held against each other. -/
inductive LK | int | bool | str
  deriving DecidableEq
inductive CmpK | other | bool | ptr | slice | map | func | iface | flat (ks : List LK)
  deriving DecidableEq

/-- Cells of whole numbers, bools and strings that are the same. -/
def eqCells : List LK → List AV → List AV → Option Bool
  | [], [], [] => some true
  | .int :: ks, .int k a :: xs, .int k' b :: ys => if k = k' then (eqCells ks xs ys).map fun r => a == b && r else none
  | .bool :: ks, .bool a :: xs, .bool b :: ys => (eqCells ks xs ys).map fun r => a == b && r
  | .str :: ks, .str a :: xs, .str b :: ys => (eqCells ks xs ys).map fun r => a == b && r
  | _, _, _ => none

/-- A struct all of whose fields are whole numbers, bools and strings, in their order, none blank. -/
def flatFields (P : Program) : List Field → Nat → Option (List LK)
  | [], _ => some []
  | f :: fs, n => if f.name ≠ "_" ∧ f.offset = n then
      match P.underlying f.type with
      | some (.int _) => (flatFields P fs (n + 1)).map (LK.int :: ·)
      | some .bool => (flatFields P fs (n + 1)).map (LK.bool :: ·)
      | some .string => (flatFields P fs (n + 1)).map (LK.str :: ·)
      | _ => none
    else none

def cmpK (P : Program) (t : TypeId) : CmpK :=
  match P.underlying t with
  | some .bool => .bool
  | some (.pointer _) => .ptr
  | some (.slice _) => .slice
  | some (.map _ _) => .map
  | some (.func _ _ _) => .func
  | some (.interface _) => .iface
  | some (.struct fs) => if P.stoodInHeld t = false ∧ P.eqGuardType P.depth t = false then
      match flatFields P fs.toList 0 with | some ks => .flat ks | none => .other
    else .other
  | _ => .other

def binCmp (ck : CmpK) (op : BinOp) (x y : AV) : Option AV :=
  match ck, x, y with
  | .bool, .bool a, .bool b => eqn op (a == b)
  | .ptr, .nilp, .nilp => eqn op true
  | .ptr, .ptr _ _, .nilp => eqn op false
  | .ptr, .nilp, .ptr _ _ => eqn op false
  | .ptr, .iptr _, .nilp => eqn op false
  | .ptr, .nilp, .iptr _ => eqn op false
  | .slice, .nils, .nils => eqn op true
  | .slice, .eml, .nils => eqn op false
  | .slice, .gsl .., .nils => eqn op false
  | .slice, .sl .., .nils => eqn op false
  | .slice, .isl _ [], .nils => match op with | .eql | .neq => some .unkb | _ => none
  | .slice, .isl _ (_ :: _), .nils => eqn op false
  | .map, .nilm, .nilm => eqn op true
  | .map, .mapv _, .nilm => eqn op false
  | .func, .nilf, .nilf => eqn op true
  | .func, .fn .., .nilf => eqn op false
  | .iface, .ifc .., .nili => eqn op false
  | .flat ks, .agg xs, .agg ys => (eqCells ks xs ys).bind fun b => eqn op b
  | _, _, _ => none

/-- Comparisons of floats. -/
def binFlt (op : BinOp) (k : FloatKind) (a b : Nat) : Option AV :=
  match op with
  | .eql => some (.bool (k.format.order a b == some .eq))
  | .neq => some (.bool (k.format.order a b != some .eq))
  | .lss => some (.bool (k.format.order a b == some .lt))
  | .leq => some (.bool (k.format.order a b == some .lt || k.format.order a b == some .eq))
  | .gtr => some (.bool (k.format.order a b == some .gt))
  | .geq => some (.bool (k.format.order a b == some .gt || k.format.order a b == some .eq))
  | _ => none

def binA (ck : CmpK) (op : BinOp) (x y : AV) : Option AV :=
  match op, x, y with
  | op, .flt k a, .flt k' b => if k = k' then binFlt op k a b else none
  | .shl, .int k a, .int _ b => if b < 0 then none else some (.int k (iShl k a b))
  | .shr, .int k a, .int _ b => if b < 0 then none else some (.int k (iShr k a b))
  | op, .int k a, .int k' b => if k = k' then binInt op k a b else none
  | op, .str a, .str b => binStr op a b
  | op, x, y => binCmp ck op x y

theorem VRel.int_inv {k : IntKind} {n : Int} {v : Value} (hv : VRel c w (.int k n) v) : v = .int k n := by simpa [VRel] using hv
theorem VRel.bool_inv {b : Bool} {v : Value} (hv : VRel c w (.bool b) v) : v = .bool b := by simpa [VRel] using hv
theorem VRel.str_inv {s : List UInt8} {v : Value} (hv : VRel c w (.str s) v) : v = .string ⟨s.toArray⟩ := by simpa [VRel] using hv
theorem VRel.int_mk (c : Ctx) (w : World) (k : IntKind) (n : Int) : VRel c w (.int k n) (.int k n) := by simp [VRel]
theorem VRel.bool_mk (c : Ctx) (w : World) (b : Bool) : VRel c w (.bool b) (.bool b) := by simp [VRel]
theorem VRel.str_mk (c : Ctx) (w : World) (s : List UInt8) : VRel c w (.str s) (.string ⟨s.toArray⟩) := by simp [VRel]

theorem toList_str (s : List UInt8) : (⟨s.toArray⟩ : ByteArray).toList = s := by rw [ByteArray.toList_eq]
theorem size_str (s : List UInt8) : (⟨s.toArray⟩ : ByteArray).size = s.length := by simp [ByteArray.size]
theorem append_str (a b : List UInt8) : (⟨a.toArray⟩ ++ ⟨b.toArray⟩ : ByteArray) = ⟨(a ++ b).toArray⟩ := by
  apply ByteArray.ext; simp [ByteArray.data_append]

theorem run_guard_plain (op : BinOp) (t : TypeId) (xo yo : Operand) (u v : Value) (h1 : u ≠ .nilIface ∨ v ≠ .nilIface) (h2 : (∀ x, u ≠ .agg x) ∨ (∀ y, v ≠ .agg y)) : (eqGuard op t xo yo u v).run P w = .ok () w := by
  unfold eqGuard
  cases op <;> (try simp) <;> cases u <;> (try simp) <;> cases v <;> (try simp) <;> simp_all

theorem binInt_sound {op : BinOp} {t : TypeId} {k : IntKind} {a b : Int} {r : AV} (hr : binInt op k a b = some r) (hs : op ≠ .shl) (hs2 : op ≠ .shr) : ∃ z, (binOp op t (.int k a) (.int k b)).run P w = .ok z w ∧ VRel c w r z := by
  cases op <;> simp_all [binInt, binOp, Op.intArith, Op.intDiv, Op.intBits, Op.intCmp, iAnd, iOr, iXor, iAndNot]
  all_goals (first | (subst hr; simp [VRel]; done) | (obtain ⟨h0, hr⟩ := hr; subst hr; simp [h0, VRel]; done) | (rw [if_neg hr.1] at *; simp_all [VRel]; done) | skip)

theorem binStr_sound {op : BinOp} {t : TypeId} {a b : List UInt8} {r : AV} (hr : binStr op a b = some r) : ∃ z, (binOp op t (.string ⟨a.toArray⟩) (.string ⟨b.toArray⟩)).run P w = .ok z w ∧ VRel c w r z := by
  have hm : IntKind.i64.max = 9223372036854775807 := by decide
  cases op <;> simp only [binStr] at hr
  all_goals (try (cases hr; done))
  all_goals (try (simp only [Option.some.injEq] at hr; subst hr; exact ⟨_, by simp [binOp, Op.stringOp, toList_str]; rfl, by simp [VRel]⟩))
  split at hr
  · cases hr
  · rename_i hn
    simp only [Option.some.injEq] at hr
    subst hr
    refine ⟨.string ⟨(a ++ b).toArray⟩, ?_, by simp [VRel]⟩
    have : ¬ ((((⟨a.toArray⟩ : ByteArray).size + (⟨b.toArray⟩ : ByteArray).size : Nat) : Int) > IntKind.i64.max) := by rw [size_str, size_str, hm]; exact hn
    simp only [binOp, Op.stringOp]
    rw [if_neg this, append_str]; rfl

theorem run_equal (t : TypeId) (x y : Value) : (Op.equal t x y).run P w = (Op.equalIn 10000 t x y).run P w := rfl

theorem eqn_sound {op : BinOp} {b : Bool} {r : AV} {t : TypeId} {u v : Value} (hr : eqn op b = some r) (he : (Op.equalIn 10000 t u v).run P w = .ok b w)
    (h1 : ∀ s, binOp .eql t u v = s → s = (do pure (.bool (← Op.equal t u v)))) (h2 : ∀ s, binOp .neq t u v = s → s = (do pure (.bool (!(← Op.equal t u v))))) :
    ∃ z, (binOp op t u v).run P w = .ok z w ∧ VRel c w r z := by
  cases op <;> simp only [eqn] at hr <;> (try (cases hr; done))
  · simp only [Option.some.injEq] at hr; subst hr
    exact ⟨.bool b, by rw [h1 _ rfl]; simp [run_equal, he], by simp [VRel]⟩
  · simp only [Option.some.injEq] at hr; subst hr
    exact ⟨.bool (!b), by rw [h2 _ rfl]; simp [run_equal, he], by simp [VRel]⟩

def CmpOk (P : Program) (t : TypeId) (d : TypeDesc) : CmpK → Prop
  | .bool => d = .bool
  | .ptr => ∃ e, d = .pointer e
  | .slice => ∃ e, d = .slice e
  | .map => ∃ k e, d = .map k e
  | .func => ∃ a b v, d = .func a b v
  | .iface => ∃ ms, d = .interface ms
  | .flat ks => ∃ fs, d = .struct fs ∧ P.stoodInHeld t = false ∧ P.eqGuardType P.depth t = false ∧ flatFields P fs.toList 0 = some ks
  | .other => True

theorem cmpK_inv {t : TypeId} {ck : CmpK} (hck : cmpK P t = ck) (hne : ck ≠ .other) : ∃ d, P.underlying t = some d ∧ CmpOk P t d ck := by
  unfold cmpK at hck
  cases hd : P.underlying t with
  | none => simp only [hd] at hck; exact absurd hck.symm hne
  | some d =>
    simp only [hd] at hck
    refine ⟨d, rfl, ?_⟩
    cases d <;> simp only at hck
    case bool => subst hck; exact rfl
    case pointer e => subst hck; exact ⟨_, rfl⟩
    case slice e => subst hck; exact ⟨_, rfl⟩
    case map k e => subst hck; exact ⟨_, _, rfl⟩
    case func a b v => subst hck; exact ⟨_, _, _, rfl⟩
    case interface ms => subst hck; exact ⟨_, rfl⟩
    case struct fs =>
      split at hck
      · rename_i hh
        split at hck
        · rename_i ks hks
          subst hck
          exact ⟨fs, rfl, hh.1, hh.2, hks⟩
        · exact absurd hck.symm hne
      · exact absurd hck.symm hne
    all_goals exact absurd hck.symm hne

theorem eqCells_sound (fs : List Field) : ∀ (n : Nat) (ks : List LK) (xs ys : List AV) (us vs : List Value) (X Y : Array Value) (b : Bool), flatFields P fs n = some ks → LRel c w xs us → LRel c w ys vs → eqCells ks xs ys = some b →
    X.toList.drop n = us → Y.toList.drop n = vs → (Op.eqFields 9999 X Y fs).run P w = .ok b w := by
  induction fs with
  | nil =>
    intro n ks xs ys us vs X Y b hf hx hy he _ _
    simp only [flatFields, Option.some.injEq] at hf
    subst hf
    cases xs <;> cases ys <;> simp only [eqCells] at he <;> (try (cases he; done))
    simp only [Option.some.injEq] at he; subst he; simp [Op.eqFields]
  | cons f fs ih =>
    intro n ks xs ys us vs X Y b hf hx hy he hX hY
    simp only [flatFields] at hf
    split at hf
    case isFalse => cases hf
    rename_i hh
    obtain ⟨hn, ho⟩ := hh
    have key : ∀ (ks' : List LK) (x y : AV) (xs' ys' : List AV) (r e : Bool) (d : TypeDesc), xs = x :: xs' → ys = y :: ys' → flatFields P fs (n + 1) = some ks' → eqCells ks' xs' ys' = some r → b = (e && r) → P.underlying f.type = some d →
        (match d with | .struct _ | .array _ _ => true | _ => false) = false → (∀ u v, VRel c w x u → VRel c w y v → (Op.equalIn 9999 f.type u v).run P w = .ok e w) → (Op.eqFields 9999 X Y (f :: fs)).run P w = .ok b w := by
      intro ks' x y xs' ys' r e d hxs hys hfs hr hb hd hdk hq
      subst hxs; subst hys
      simp only [LRel] at hx hy
      obtain ⟨u, us', rfl, hu, hus⟩ := hx
      obtain ⟨v, vs', rfl, hv, hvs⟩ := hy
      have hXn : X[n]? = some u := by
        have := congrArg (fun l => l[0]?) hX
        simpa using this
      have hYn : Y[n]? = some v := by
        have := congrArg (fun l => l[0]?) hY
        simpa using this
      have hX' : X.toList.drop (n + 1) = us' := by have := congrArg (List.drop 1) hX; simpa [List.drop_drop] using this
      have hY' : Y.toList.drop (n + 1) = vs' := by have := congrArg (List.drop 1) hY; simpa [List.drop_drop] using this
      have hagg : (isAgg f.type).run P w = .ok false w := by
        unfold isAgg
        rw [Sem.run_bind, run_underlying hd w]
        cases d <;> simp_all
      have hp1 : (part f.type X f.offset).run P w = .ok u w := by simp [part, hagg, ho, hXn]
      have hp2 : (part f.type Y f.offset).run P w = .ok v w := by simp [part, hagg, ho, hYn]
      have hh := ih (n + 1) ks' xs' ys' us' vs' X Y r hfs hus hvs hr hX' hY'
      rw [Op.eqFields, if_pos hn]
      simp only [Sem.run_bind, hp1, hp2, Result.andThen_ok, hq u v hu hv]
      cases e
      · simp [hb]
      · simp [hb, hh]
    split at hf
    · rename_i kk hd
      obtain ⟨ks', hfs, rfl⟩ := Option.map_eq_some_iff.1 hf
      cases xs with
      | nil => simp [eqCells] at he
      | cons x xs =>
        cases ys with
        | nil => cases x <;> simp [eqCells] at he
        | cons y ys =>
          cases x <;> cases y <;> simp only [eqCells] at he <;> (try (cases he; done))
          split at he
          · rename_i hk
            subst hk
            obtain ⟨r, hr, hb⟩ := Option.map_eq_some_iff.1 he
            refine key ks' _ _ xs ys r _ _ rfl rfl hfs hr hb.symm hd rfl fun u v hu hv => ?_
            rw [hu.int_inv, hv.int_inv]
            exact run_equalIn_int w 9998 _ _ kk _ _ hd
          · cases he
    · rename_i hd
      obtain ⟨ks', hfs, rfl⟩ := Option.map_eq_some_iff.1 hf
      cases xs with
      | nil => simp [eqCells] at he
      | cons x xs =>
        cases ys with
        | nil => cases x <;> simp [eqCells] at he
        | cons y ys =>
          cases x <;> cases y <;> simp only [eqCells] at he <;> (try (cases he; done))
          obtain ⟨r, hr, hb⟩ := Option.map_eq_some_iff.1 he
          refine key ks' _ _ xs ys r _ _ rfl rfl hfs hr hb.symm hd rfl fun u v hu hv => ?_
          rw [hu.bool_inv, hv.bool_inv]
          exact run_equalIn_bool w 9998 _ _ _ hd
    · rename_i hd
      obtain ⟨ks', hfs, rfl⟩ := Option.map_eq_some_iff.1 hf
      cases xs with
      | nil => simp [eqCells] at he
      | cons x xs =>
        cases ys with
        | nil => cases x <;> simp [eqCells] at he
        | cons y ys =>
          cases x <;> cases y <;> simp only [eqCells] at he <;> (try (cases he; done))
          obtain ⟨r, hr, hb⟩ := Option.map_eq_some_iff.1 he
          refine key ks' _ _ xs ys r _ _ rfl rfl hfs hr hb.symm hd rfl fun u v hu hv => ?_
          rw [hu.str_inv, hv.str_inv, run_equalIn_string (P := P) w 9998 _ _ _ hd, toList_str, toList_str]
    · cases hf

theorem guarded {op : BinOp} {t : TypeId} {xo yo : Operand} {u v : Value} {r : AV} (h1 : u ≠ .nilIface ∨ v ≠ .nilIface) (h2 : (∀ x, u ≠ .agg x) ∨ (∀ y, v ≠ .agg y)) (h : ∃ z, (binOp op t u v).run P w = .ok z w ∧ VRel c w r z) :
    ∃ z, (do eqGuard op t xo yo u v; binOp op t u v : Sem Value).run P w = .ok z w ∧ VRel c w r z := by
  obtain ⟨z, hz, hr⟩ := h
  exact ⟨z, by rw [Sem.run_bind, run_guard_plain op t xo yo u v h1 h2]; exact hz, hr⟩

section
variable (d : Nat) {t : TypeId}
theorem eqIn_ptr {e : TypeId} (x y : Option Addr) (b : Bool) (ht : P.underlying t = some (.pointer e)) (hb : (x = none ∧ y = none ∧ b = true) ∨ (x ≠ none ∧ y = none ∧ b = false) ∨ (x = none ∧ y ≠ none ∧ b = false)) : (Op.equalIn (d + 1) t (.pointer x) (.pointer y)).run P w = .ok b w := by
  rcases hb with ⟨rfl, rfl, rfl⟩ | ⟨h, rfl, rfl⟩ | ⟨rfl, h, rfl⟩
  · simp [Op.equalIn, run_underlying ht, samePointer]
  · cases x with
    | none => exact absurd rfl h
    | some a => simp [Op.equalIn, run_underlying ht, samePointer]
  · cases y with
    | none => exact absurd rfl h
    | some a => simp [Op.equalIn, run_underlying ht, samePointer]
theorem eqIn_slice {e : TypeId} (x : Option Addr) (n k : Nat) (ht : P.underlying t = some (.slice e)) : (Op.equalIn (d + 1) t (.slice x n k) (.slice none 0 0)).run P w = .ok x.isNone w := by
  cases x <;> simp [Op.equalIn, run_underlying ht]
theorem eqIn_map {e k : TypeId} (x : Option Nat) (ht : P.underlying t = some (.map k e)) : (Op.equalIn (d + 1) t (.map x) (.map none)).run P w = .ok x.isNone w := by
  cases x <;> simp [Op.equalIn, run_underlying ht]
theorem eqIn_func0 {a b : Array TypeId} {v : Bool} (ht : P.underlying t = some (.func a b v)) : (Op.equalIn (d + 1) t .nilFunc .nilFunc).run P w = .ok true w := by
  simp [Op.equalIn, run_underlying ht]
theorem eqIn_func1 {a b : Array TypeId} {v : Bool} (f : Fn) (fs cs : Array Value) (ht : P.underlying t = some (.func a b v)) : (Op.equalIn (d + 1) t (.func f fs cs) .nilFunc).run P w = .ok false w := by
  simp [Op.equalIn, run_underlying ht]
theorem eqIn_iface {ms : Array (String × TypeId)} (u : TypeId) (z : Value) (ht : P.underlying t = some (.interface ms)) : (Op.equalIn (d + 1) t (.iface u z) .nilIface).run P w = .ok false w := by
  simp [Op.equalIn, run_underlying ht]
end

theorem binCmp_sound {ck : CmpK} {op : BinOp} {t : TypeId} {xo yo : Operand} {x y : AV} {u v : Value} {r : AV} (hck : cmpK P t = ck) (hx : VRel c w x u) (hy : VRel c w y v) (hr : binCmp ck op x y = some r) :
    ∃ z, (do eqGuard op t xo yo u v; binOp op t u v : Sem Value).run P w = .ok z w ∧ VRel c w r z := by
  have hne : ck ≠ .other := by
    rintro rfl
    unfold binCmp at hr
    cases x <;> cases y <;> simp at hr
  obtain ⟨d, hd, hok⟩ := cmpK_inv hck hne
  unfold binCmp at hr
  split at hr
  -- bools
  · simp only [CmpOk] at hok; subst hok
    rw [hx.bool_inv, hy.bool_inv]
    refine guarded (by simp) (by simp) (eqn_sound hr (run_equalIn_bool w 9999 _ _ _ hd) ?_ ?_) <;> (intro s hs; rw [← hs]; rfl)
  -- pointers
  · obtain ⟨e, rfl⟩ := hok
    simp only [VRel] at hx hy; subst hx; subst hy
    refine guarded (by simp) (by simp) (eqn_sound hr (eqIn_ptr 9999 _ _ _ hd (by simp)) ?_ ?_) <;> (intro s hs; rw [← hs]; rfl)
  · obtain ⟨e, rfl⟩ := hok
    simp only [VRel] at hx hy; subst hy; obtain ⟨b, _, rfl⟩ := hx
    refine guarded (by simp) (by simp) (eqn_sound hr (eqIn_ptr 9999 _ _ _ hd (by simp)) ?_ ?_) <;> (intro s hs; rw [← hs]; rfl)
  · obtain ⟨e, rfl⟩ := hok
    simp only [VRel] at hx hy; subst hx; obtain ⟨b, _, rfl⟩ := hy
    refine guarded (by simp) (by simp) (eqn_sound hr (eqIn_ptr 9999 _ _ _ hd (by simp)) ?_ ?_) <;> (intro s hs; rw [← hs]; rfl)
  · obtain ⟨e, rfl⟩ := hok
    simp only [VRel] at hx hy; subst hy; obtain ⟨b, o, rfl, _⟩ := hx
    refine guarded (by simp) (by simp) (eqn_sound hr (eqIn_ptr 9999 _ _ _ hd (by simp)) ?_ ?_) <;> (intro s hs; rw [← hs]; rfl)
  · obtain ⟨e, rfl⟩ := hok
    simp only [VRel] at hx hy; subst hx; obtain ⟨b, o, rfl, _⟩ := hy
    refine guarded (by simp) (by simp) (eqn_sound hr (eqIn_ptr 9999 _ _ _ hd (by simp)) ?_ ?_) <;> (intro s hs; rw [← hs]; rfl)
  -- slices
  · obtain ⟨e, rfl⟩ := hok
    simp only [VRel] at hx hy; subst hx; subst hy
    refine guarded (by simp) (by simp) (eqn_sound hr (eqIn_slice 9999 _ _ _ hd) ?_ ?_) <;> (intro s hs; rw [← hs]; rfl)
  · obtain ⟨e, rfl⟩ := hok
    simp only [VRel] at hx hy; subst hy; obtain ⟨a, rfl⟩ := hx
    refine guarded (by simp) (by simp) (eqn_sound hr (eqIn_slice 9999 _ _ _ hd) ?_ ?_) <;> (intro s hs; rw [← hs]; rfl)
  · obtain ⟨e, rfl⟩ := hok
    simp only [VRel] at hx hy; subst hy; obtain ⟨b, cap, ty, _, rfl, _⟩ := hx
    refine guarded (by simp) (by simp) (eqn_sound hr (eqIn_slice 9999 _ _ _ hd) ?_ ?_) <;> (intro s hs; rw [← hs]; rfl)
  · obtain ⟨e, rfl⟩ := hok
    simp only [VRel] at hx hy; subst hy; obtain ⟨b, cap, ty, _, rfl, _⟩ := hx
    refine guarded (by simp) (by simp) (eqn_sound hr (eqIn_slice 9999 _ _ _ hd) ?_ ?_) <;> (intro s hs; rw [← hs]; rfl)
  · obtain ⟨e, rfl⟩ := hok
    simp only [VRel] at hx hy; subst hy; obtain ⟨a, cap, rfl, _⟩ := hx
    have key : (∃ b, (Op.equalIn 10000 t (.slice a (List.length ([] : List (List AV))) cap) (.slice none 0 0)).run P w = .ok b w) := by
      exact ⟨_, eqIn_slice 9999 _ _ _ hd⟩
    obtain ⟨b, hb⟩ := key
    cases op <;> simp only [Option.some.injEq] at hr <;> (try (cases hr; done))
    · subst hr
      refine guarded (by simp) (by simp) ⟨.bool b, ?_, by simp [VRel]⟩
      simp only [binOp]; simp only [Sem.run_bind, run_equal, hb, Result.andThen_ok, Sem.run_pure]
    · subst hr
      refine guarded (by simp) (by simp) ⟨.bool (!b), ?_, by simp [VRel]⟩
      simp only [binOp]; simp only [Sem.run_bind, run_equal, hb, Result.andThen_ok, Sem.run_pure]
  · obtain ⟨e, rfl⟩ := hok
    simp only [VRel] at hx hy; subst hy; obtain ⟨a, cap, rfl, _, _, h3⟩ := hx
    obtain ⟨b, off, rfl, _⟩ := h3 (by simp)
    refine guarded (by simp) (by simp) (eqn_sound hr (eqIn_slice 9999 _ _ _ hd) ?_ ?_) <;> (intro s hs; rw [← hs]; rfl)
  -- maps
  · obtain ⟨k, e, rfl⟩ := hok
    simp only [VRel] at hx hy; subst hx; subst hy
    refine guarded (by simp) (by simp) (eqn_sound hr (eqIn_map 9999 _ hd) ?_ ?_) <;> (intro s hs; rw [← hs]; rfl)
  · obtain ⟨k, e, rfl⟩ := hok
    simp only [VRel] at hx hy; subst hy; obtain ⟨b, _, rfl⟩ := hx
    refine guarded (by simp) (by simp) (eqn_sound hr (eqIn_map 9999 _ hd) ?_ ?_) <;> (intro s hs; rw [← hs]; rfl)
  -- functions
  · obtain ⟨k, e, vv, rfl⟩ := hok
    simp only [VRel] at hx hy; subst hx; subst hy
    refine guarded (by simp) (by simp) (eqn_sound hr (eqIn_func0 9999 hd) ?_ ?_) <;> (intro s hs; rw [← hs]; rfl)
  · obtain ⟨k, e, vv, rfl⟩ := hok
    simp only [VRel] at hx hy; subst hy; obtain ⟨fs, cs, rfl, _⟩ := hx
    refine guarded (by simp) (by simp) (eqn_sound hr (eqIn_func1 9999 _ _ _ hd) ?_ ?_) <;> (intro s hs; rw [← hs]; rfl)
  -- interfaces
  · obtain ⟨ms, rfl⟩ := hok
    simp only [VRel] at hx hy; subst hy; obtain ⟨z, rfl, _⟩ := hx
    refine guarded (by simp) (by simp) (eqn_sound hr (eqIn_iface 9999 _ _ hd) ?_ ?_) <;> (intro s hs; rw [← hs]; rfl)
  -- structs
  · obtain ⟨fs, rfl, hst, hgt, hfl⟩ := hok
    simp only [VRel] at hx hy
    obtain ⟨X, rfl, hX, _⟩ := hx
    obtain ⟨Y, rfl, hY, _⟩ := hy
    obtain ⟨b, hb, hr⟩ := Option.bind_eq_some_iff.1 hr
    have hfo : P.fieldsOf t = fs := by simp [Program.fieldsOf, hd]
    have he : (Op.equalIn 10000 t (.agg X) (.agg Y)).run P w = .ok b w := by
      rw [run_equalIn_struct w 9999 t X Y (by rw [hfo]; exact hd) hst, hfo]
      exact eqCells_sound fs.toList 0 _ _ _ _ _ X Y b hfl hX hY hb (by simp) (by simp)
    obtain ⟨z, hz, hrz⟩ := eqn_sound (r := r) hr he (by intro s hs; rw [← hs]; rfl) (by intro s hs; rw [← hs]; rfl)
    exact ⟨z, by rw [Sem.run_bind, run_eqGuard_agg w op t xo yo X Y hgt]; exact hz, hrz⟩
  · cases hr

theorem binA_sound {ck : CmpK} {op : BinOp} {t : TypeId} {xo yo : Operand} {x y : AV} {u v : Value} {r : AV} (hck : cmpK P t = ck) (hx : VRel c w x u) (hy : VRel c w y v) (hr : binA ck op x y = some r) :
    ∃ z, (do eqGuard op t xo yo u v; binOp op t u v : Sem Value).run P w = .ok z w ∧ VRel c w r z := by
  unfold binA at hr
  split at hr
  · rename_i op k a k' b
    simp only [VRel] at hx hy
    subst hx; subst hy
    split at hr
    · rename_i hk
      subst hk
      refine guarded (by simp) (by simp) ?_
      unfold binFlt at hr
      split at hr <;> (try (cases hr; done)) <;> (simp only [Option.some.injEq] at hr; subst hr; exact ⟨_, by simp [binOp, Op.floatCmp]; rfl, by simp [VRel]⟩)
    · cases hr
  · rw [hx.int_inv, hy.int_inv]
    split at hr
    · cases hr
    · rename_i hb
      simp only [Option.some.injEq] at hr; subst hr
      exact guarded (by simp) (by simp) ⟨_, by simp [binOp, Op.shift, hb]; rfl, by simp [VRel, iShl]⟩
  · rw [hx.int_inv, hy.int_inv]
    split at hr
    · cases hr
    · rename_i hb
      simp only [Option.some.injEq] at hr; subst hr
      exact guarded (by simp) (by simp) ⟨_, by simp [binOp, Op.shift, hb]; rfl, by simp [VRel, iShr]⟩
  · rename_i hs1 hs2
    rw [hx.int_inv, hy.int_inv]
    split at hr
    · rename_i hk
      subst hk
      exact guarded (by simp) (by simp) (binInt_sound hr hs1 hs2)
    · cases hr
  · rw [hx.str_inv, hy.str_inv]
    exact guarded (by simp) (by simp) (binStr_sound hr)
  · exact binCmp_sound hck hx hy hr

end
end Go.Abs
