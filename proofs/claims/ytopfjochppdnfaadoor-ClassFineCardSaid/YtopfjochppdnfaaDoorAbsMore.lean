/- More rules: new rows written whole, slices by value, splits. -/
import Derived.Test.YtopfjochppdnfaaDoorAbsBits
set_option linter.unusedVariables false
set_option linter.unusedSimpArgs false
namespace Go.Abs

theorem push_put (h : AHeap) (o o' : AObj) : (h.push o).put h.next o' = h.push o' := by
  unfold AHeap.push AHeap.put
  simp only [AHeap.mk.injEq, and_true]
  funext i
  split <;> simp_all

/-- A variable that was just laid is given its value. -/
theorem pStore_push {h : AHeap} {ty : TypeId} {zs vs : List AV} {n : Nat} (h1 : zs.length = n) (h2 : vs.length = n) (K : AHeap → Prop) : pStore n (.ptr h.next 0) (.agg vs) (h.push (.row ty zs)) K = K (h.push (.row ty vs)) := by
  simp only [pStore, AHeap.push_objs, if_true, List.take_zero, List.nil_append, Nat.zero_add]
  rw [← h1, List.drop_length, List.append_nil, push_put]
  simp [h1, h2]
@[simp] theorem pLoad_push (h : AHeap) (ty : TypeId) (cs : List AV) (k : Option Nat) (off : Nat) (K : AV → Prop) : pLoad k (.ptr h.next off) (h.push (.row ty cs)) K = pCells k cs off K := by simp [pLoad]

theorem objs_push_lt {h : AHeap} {o : AObj} {x : Nat} (hx : x < h.next) : (h.push o).objs x = h.objs x := by simp; omega

theorem ite_intro {c : Prop} [Decidable c] {T F : Prop} (h1 : c → T) (h2 : ¬ c → F) : if c then T else F := by split <;> simp_all

/-- A slice by value: nil, or elements. -/
def slAV {α : Type} (sz : Nat) (enc : α → List AV) : Option (List α) → AV
  | none => .nils
  | some xs => .isl sz (xs.map enc)
def slL {α : Type} : Option (List α) → List α | none => [] | some xs => xs
@[simp] theorem slL_none {α : Type} : slL (none : Option (List α)) = [] := rfl
@[simp] theorem slL_some {α : Type} (xs : List α) : slL (some xs) = xs := rfl

@[simp] theorem pLen_slAV {α : Type} (sz : Nat) (enc : α → List AV) (o : Option (List α)) (K : AV → Prop) : pLen .slice (slAV sz enc o) K = K (.int .i64 (slL o).length) := by
  cases o <;> simp [slAV]
theorem pIndexAddr_slAV {α : Type} {sz : Nat} {enc : α → List AV} {o : Option (List α)} {k : Nat} {x : α} (hx : (slL o)[k]? = some x) (kk : IntKind) (K : AV → Prop) : pIndexAddr (.slice sz) (slAV sz enc o) (.int kk (k : Int)) K = K (.iptr (enc x)) := by
  cases o with
  | none => simp at hx
  | some xs => simp at hx; simp [slAV, pIndexAddr, hx]
theorem srcElems_slAV {α : Type} (sz : Nat) (enc : α → List AV) (o : Option (List α)) (h : AHeap) : srcElems sz (slAV sz enc o) h = some ((slL o).map enc) := by
  cases o <;> simp [slAV, srcElems]

/-- A typed slice, its elements' meaning given. -/
theorem TyA.slAV_of {P : Program} {t e : TypeId} {α : Type} {enc : α → List AV} {ok : α → Prop} {cs : List AV} (hu : P.underlying t = some (.slice e)) (he : 0 < P.cellsOf e) (hx : ∀ es, TyA P e es → ∃ x, es = enc x ∧ ok x) (h : TyA P t cs) :
    ∃ o : Option (List α), cs = [slAV (P.cellsOf e) enc o] ∧ (slL o).length ≤ maxLen ∧ ∀ x ∈ slL o, ok x := by
  rcases h.inv_slice hu he with rfl | ⟨es, rfl, hl, ht⟩
  · exact ⟨none, rfl, by simp, by simp⟩
  · have : ∃ xs : List α, es = xs.map enc ∧ ∀ x ∈ xs, ok x := by
      clear hl h
      induction es with
      | nil => exact ⟨[], rfl, by simp⟩
      | cons c es ih =>
        cases ht with
        | cons h1 h2 =>
          obtain ⟨xs, e1, k1⟩ := ih h2
          obtain ⟨x, e2, k2⟩ := hx c h1
          refine ⟨x :: xs, by rw [e1, e2]; rfl, fun y hy => ?_⟩
          rcases List.mem_cons.1 hy with rfl | hy
          · exact k2
          · exact k1 y hy
    obtain ⟨xs, rfl, hk⟩ := this
    exact ⟨some xs, rfl, by simpa using hl, hk⟩

theorem TyV.slAV_of {P : Program} {t e : TypeId} {α : Type} {enc : α → List AV} {ok : α → Prop} {a : AV} (hu : P.underlying t = some (.slice e)) (he : 0 < P.cellsOf e) (hx : ∀ es, TyA P e es → ∃ x, es = enc x ∧ ok x) (h : TyV P t a) :
    ∃ o : Option (List α), a = slAV (P.cellsOf e) enc o ∧ (slL o).length ≤ maxLen ∧ ∀ x ∈ slL o, ok x := by
  have hg : aggK P t = false := by simp [aggK, hu]
  obtain ⟨o, h1, h2, h3⟩ := (h.one_inv hg).slAV_of hu he hx
  exact ⟨o, by simpa using h1, h2, h3⟩

/-! ### Encodings of plain values, and what is read typed -/
def encI (n : Int) : List AV := [.int .i64 n]
def encN (n : Nat) : List AV := [.int .u64 (n : Int)]
def encB (n : Nat) : List AV := [.int .u8 (n : Int)]
def encT (b : Bool) : List AV := [.bool b]
def encS (s : List UInt8) : List AV := [.str s]
def okI (n : Int) : Prop := -9223372036854775808 ≤ n ∧ n ≤ 9223372036854775807
def okN (n : Nat) : Prop := n < 18446744073709551616
def okB (n : Nat) : Prop := n < 256
def okT (_ : Bool) : Prop := True
def okS (s : List UInt8) : Prop := s.length ≤ maxLen
def okSl {α : Type} (ok : α → Prop) (o : Option (List α)) : Prop := (slL o).length ≤ maxLen ∧ ∀ x ∈ slL o, ok x

section
variable {P : Program} {t : TypeId} {cs : List AV} {a : AV}
theorem TyA.i64_of (hu : P.underlying t = some (.int .i64)) (h : TyA P t cs) : ∃ n, cs = encI n ∧ okI n := by
  obtain ⟨n, rfl, h1, h2⟩ := h.inv_int hu
  exact ⟨n, rfl, by simpa [IntKind.min, IntKind.signed, IntKind.bits] using h1, by simpa [IntKind.max, IntKind.signed, IntKind.bits] using h2⟩
theorem TyA.u64_of (hu : P.underlying t = some (.int .u64)) (h : TyA P t cs) : ∃ n, cs = encN n ∧ okN n := by
  obtain ⟨n, rfl, h1, h2⟩ := h.inv_int hu
  simp [IntKind.min, IntKind.signed] at h1
  simp [IntKind.max, IntKind.signed, IntKind.bits] at h2
  refine ⟨n.toNat, ?_, ?_⟩
  · simp only [encN]; rw [Int.toNat_of_nonneg h1]
  · unfold okN; omega
theorem TyA.u8_of (hu : P.underlying t = some (.int .u8)) (h : TyA P t cs) : ∃ n, cs = encB n ∧ okB n := by
  obtain ⟨n, rfl, h1, h2⟩ := h.inv_int hu
  simp [IntKind.min, IntKind.signed] at h1
  simp [IntKind.max, IntKind.signed, IntKind.bits] at h2
  refine ⟨n.toNat, ?_, ?_⟩
  · simp only [encB]; rw [Int.toNat_of_nonneg h1]
  · unfold okB; omega
theorem TyA.bool_of (hu : P.underlying t = some .bool) (h : TyA P t cs) : ∃ b, cs = encT b ∧ okT b := by
  obtain ⟨b, rfl⟩ := h.inv_bool hu
  exact ⟨b, rfl, trivial⟩
theorem TyA.str_of (hu : P.underlying t = some .string) (h : TyA P t cs) : ∃ s, cs = encS s ∧ okS s := by
  obtain ⟨s, rfl, h1⟩ := h.inv_str hu
  exact ⟨s, rfl, h1⟩
theorem TyA.sl_of {e : TypeId} {n : Nat} {α : Type} {enc : α → List AV} {ok : α → Prop} (hu : P.underlying t = some (.slice e)) (hn : P.cellsOf e = n) (he : 0 < n) (hx : ∀ es, TyA P e es → ∃ x, es = enc x ∧ ok x) (h : TyA P t cs) :
    ∃ o : Option (List α), cs = [slAV n enc o] ∧ okSl ok o := by
  subst hn
  exact h.slAV_of hu he hx
theorem TyV.one_of {α : Type} {enc : α → AV} {ok : α → Prop} (hg : aggK P t = false) (hx : ∀ es, TyA P t es → ∃ x, es = [enc x] ∧ ok x) (h : TyV P t a) : ∃ x, a = enc x ∧ ok x := by
  obtain ⟨x, h1, h2⟩ := hx _ (h.one_inv hg)
  exact ⟨x, by simpa using h1, h2⟩
theorem TyV.agg_of {α : Type} {enc : α → List AV} {ok : α → Prop} (hg : aggK P t = true) (hx : ∀ es, TyA P t es → ∃ x, es = enc x ∧ ok x) (h : TyV P t a) : ∃ x, a = .agg (enc x) ∧ ok x := by
  obtain ⟨cs, rfl, h1⟩ := h.agg_inv hg
  obtain ⟨x, rfl, h2⟩ := hx _ h1
  exact ⟨x, rfl, h2⟩
end

theorem pCells_drop (cs : List AV) (o : Nat) (K : AV → Prop) : pCells none (cs.drop o) 0 K = pCells none cs o K := by simp [pCells]
theorem pCells_dropS (cs : List AV) (o n : Nat) (hn : 0 < n) (K : AV → Prop) : pCells (some n) (cs.drop o) 0 K = pCells (some n) cs o K := by
  simp only [pCells, List.length_drop, Nat.zero_add, List.drop_zero]
  rw [show (n ≤ cs.length - o) = (o + n ≤ cs.length) by rw [eq_iff_iff]; omega]

/-! ### What a box takes -/
section
theorem fits_int (k : IntKind) (n : Int) : (AV.int k n).fits = true := rfl
theorem cells_int (k : IntKind) (n : Int) : (AV.int k n).cells = [AV.int k n] := rfl
theorem fits_bool (b : Bool) : (AV.bool b).fits = true := rfl
theorem cells_bool (b : Bool) : (AV.bool b).cells = [AV.bool b] := rfl
theorem fits_str (b : List UInt8) : (AV.str b).fits = true := rfl
theorem cells_str (b : List UInt8) : (AV.str b).cells = [AV.str b] := rfl
theorem fits_ptr (i o : Nat) : (AV.ptr i o).fits = true := rfl
theorem cells_ptr (i o : Nat) : (AV.ptr i o).cells = [AV.ptr i o] := rfl
theorem fits_iptr (c : List AV) : (AV.iptr c).fits = true := rfl
theorem cells_iptr (c : List AV) : (AV.iptr c).cells = [AV.iptr c] := rfl
theorem fits_slAV {α : Type} (sz : Nat) (enc : α → List AV) (o : Option (List α)) : (slAV sz enc o).fits = true := by cases o <;> rfl
theorem cells_slAV {α : Type} (sz : Nat) (enc : α → List AV) (o : Option (List α)) : (slAV sz enc o).cells = [slAV sz enc o] := by cases o <;> rfl
end

end Go.Abs
