/- Own texts, merged: AbsMore, AbsRun, AbsArgs, AbsGhost, AbsForget, AbsPack, AbsFreeze, AbsYield. -/
import Derived.Test.YtnggcokgnblpgaaM2
set_option linter.unusedVariables false
set_option linter.unusedSimpArgs false
section
/- More rules: new rows written whole, slices by value, splits. -/
namespace Go.Abs
theorem push_put (h : z04) (o o' : AObj) : (h.push o).put h.next o' = h.push o' := by
  unfold z04.push z04.put
  simp only [z04.mk.injEq, and_true]
  funext i
  split <;> simp_all
theorem z2d {h : z04} {ty : TypeId} {zs vs : List AV} {n : Nat} (h1 : zs.length = n) (h2 : vs.length = n) (K : z04 → Prop) : z0y n (.ptr h.next 0) (.agg vs) (h.push (.row ty zs)) K = K (h.push (.row ty vs)) := by
  simp only [z0y, z04.z4u, if_true, List.take_zero, List.nil_append, Nat.zero_add]
  rw [← h1, List.drop_length, List.append_nil, push_put]
  simp [h1, h2]
@[simp] theorem pLoad_push (h : z04) (ty : TypeId) (cs : List AV) (k : Option Nat) (off : Nat) (K : AV → Prop) : z02 k (.ptr h.next off) (h.push (.row ty cs)) K = z0h k cs off K := by simp [z02]
def slAV {α : Type} (sz : Nat) (enc : α → List AV) : Option (List α) → AV
  | none => .nils
  | some xs => .isl sz (xs.map enc)
def slL {α : Type} : Option (List α) → List α | none => [] | some xs => xs
@[simp] theorem slL_none {α : Type} : slL (none : Option (List α)) = [] := rfl
@[simp] theorem slL_some {α : Type} (xs : List α) : slL (some xs) = xs := rfl
@[simp] theorem pLen_slAV {α : Type} (sz : Nat) (enc : α → List AV) (o : Option (List α)) (K : AV → Prop) : pLen .slice (slAV sz enc o) K = K (.int .i64 (slL o).length) := by
  cases o <;> simp [slAV]
theorem z0d {α : Type} {sz : Nat} {enc : α → List AV} {o : Option (List α)} {k : Nat} {x : α} (hx : (slL o)[k]? = some x) (kk : IntKind) (K : AV → Prop) : z09 (.slice sz) (slAV sz enc o) (.int kk (k : Int)) K = K (.iptr (enc x)) := by
  cases o with
  | none => simp at hx
  | some xs => simp at hx; simp [slAV, z09, hx]
theorem srcElems_slAV {α : Type} (sz : Nat) (enc : α → List AV) (o : Option (List α)) (h : z04) : z3c sz (slAV sz enc o) h = some ((slL o).map enc) := by
  cases o <;> simp [slAV, z3c]
theorem TyA.slAV_of {P : Program} {t e : TypeId} {α : Type} {enc : α → List AV} {ok : α → Prop} {cs : List AV} (hu : P.underlying t = some (.slice e)) (he : 0 < P.cellsOf e) (hx : ∀ es, TyA P e es → ∃ x, es = enc x ∧ ok x) (h : TyA P t cs) :
    ∃ o : Option (List α), cs = [slAV (P.cellsOf e) enc o] ∧ (slL o).length ≤ maxLen ∧ ∀ x ∈ slL o, ok x := by
  rcases h.inv_slice hu he with rfl | ⟨es, rfl, hl, ht⟩
  · exact ⟨none, rfl, by simp, by simp⟩
  · have : ∃ xs : List α, es = xs.map enc ∧ ∀ x ∈ xs, ok x := by
      clear hl h
      induction es with
      | nil => exact ⟨[], rfl, by simp⟩
      | cons c es ih =>
        cases ht with
        | cons h1 h2 =>
          obtain ⟨xs, e1, k1⟩ := ih h2
          obtain ⟨x, e2, k2⟩ := hx c h1
          refine ⟨x :: xs, by rw [e1, e2]; rfl, fun y hy => ?_⟩
          rcases List.mem_cons.1 hy with rfl | hy
          · exact k2
          · exact k1 y hy
    obtain ⟨xs, rfl, hk⟩ := this
    exact ⟨some xs, rfl, by simpa using hl, hk⟩
theorem TyV.slAV_of {P : Program} {t e : TypeId} {α : Type} {enc : α → List AV} {ok : α → Prop} {a : AV} (hu : P.underlying t = some (.slice e)) (he : 0 < P.cellsOf e) (hx : ∀ es, TyA P e es → ∃ x, es = enc x ∧ ok x) (h : TyV P t a) :
    ∃ o : Option (List α), a = slAV (P.cellsOf e) enc o ∧ (slL o).length ≤ maxLen ∧ ∀ x ∈ slL o, ok x := by
  have hg : aggK P t = false := by simp [aggK, hu]
  obtain ⟨o, h1, h2, h3⟩ := (h.one_inv hg).slAV_of hu he hx
  exact ⟨o, by simpa using h1, h2, h3⟩
/-! ### Encodings of plain values, and what is read typed -/
def encI (n : Int) : List AV := [.int .i64 n]
def encN (n : Nat) : List AV := [.int .u64 (n : Int)]
def encT (b : Bool) : List AV := [.bool b]
def okI (n : Int) : Prop := -9223372036854775808 ≤ n ∧ n ≤ 9223372036854775807
def okN (n : Nat) : Prop := n < 18446744073709551616
def okT (_ : Bool) : Prop := True
def okSl {α : Type} (ok : α → Prop) (o : Option (List α)) : Prop := (slL o).length ≤ maxLen ∧ ∀ x ∈ slL o, ok x
section
variable {P : Program} {t : TypeId} {cs : List AV} {a : AV}
theorem TyA.i64_of (hu : P.underlying t = some (.int .i64)) (h : TyA P t cs) : ∃ n, cs = encI n ∧ okI n := by
  obtain ⟨n, rfl, h1, h2⟩ := h.inv_int hu
  exact ⟨n, rfl, by simpa [IntKind.min, IntKind.signed, IntKind.bits] using h1, by simpa [IntKind.max, IntKind.signed, IntKind.bits] using h2⟩
theorem TyA.u64_of (hu : P.underlying t = some (.int .u64)) (h : TyA P t cs) : ∃ n, cs = encN n ∧ okN n := by
  obtain ⟨n, rfl, h1, h2⟩ := h.inv_int hu
  simp [IntKind.min, IntKind.signed] at h1
  simp [IntKind.max, IntKind.signed, IntKind.bits] at h2
  refine ⟨n.toNat, ?_, ?_⟩
  · simp only [encN]; rw [Int.toNat_of_nonneg h1]
  · unfold okN; omega
theorem TyA.bool_of (hu : P.underlying t = some .bool) (h : TyA P t cs) : ∃ b, cs = encT b ∧ okT b := by
  obtain ⟨b, rfl⟩ := h.inv_bool hu
  exact ⟨b, rfl, trivial⟩
theorem TyA.sl_of {e : TypeId} {n : Nat} {α : Type} {enc : α → List AV} {ok : α → Prop} (hu : P.underlying t = some (.slice e)) (hn : P.cellsOf e = n) (he : 0 < n) (hx : ∀ es, TyA P e es → ∃ x, es = enc x ∧ ok x) (h : TyA P t cs) :
    ∃ o : Option (List α), cs = [slAV n enc o] ∧ okSl ok o := by
  subst hn
  exact h.slAV_of hu he hx
theorem TyV.one_of {α : Type} {enc : α → AV} {ok : α → Prop} (hg : aggK P t = false) (hx : ∀ es, TyA P t es → ∃ x, es = [enc x] ∧ ok x) (h : TyV P t a) : ∃ x, a = enc x ∧ ok x := by
  obtain ⟨x, h1, h2⟩ := hx _ (h.one_inv hg)
  exact ⟨x, by simpa using h1, h2⟩
theorem TyV.agg_of {α : Type} {enc : α → List AV} {ok : α → Prop} (hg : aggK P t = true) (hx : ∀ es, TyA P t es → ∃ x, es = enc x ∧ ok x) (h : TyV P t a) : ∃ x, a = .agg (enc x) ∧ ok x := by
  obtain ⟨cs, rfl, h1⟩ := h.agg_inv hg
  obtain ⟨x, rfl, h2⟩ := hx _ h1
  exact ⟨x, rfl, h2⟩
end
theorem pCells_drop (cs : List AV) (o : Nat) (K : AV → Prop) : z0h none (cs.drop o) 0 K = z0h none cs o K := by simp [z0h]
theorem pCells_dropS (cs : List AV) (o n : Nat) (hn : 0 < n) (K : AV → Prop) : z0h (some n) (cs.drop o) 0 K = z0h (some n) cs o K := by
  simp only [z0h, List.length_drop, Nat.zero_add, List.drop_zero]
  rw [show (n ≤ cs.length - o) = (o + n ≤ cs.length) by rw [eq_iff_iff]; omega]
/-! ### What a box takes -/
section
theorem fits_int (k : IntKind) (n : Int) : (AV.int k n).fits = true := rfl
theorem cells_int (k : IntKind) (n : Int) : (AV.int k n).cells = [AV.int k n] := rfl
theorem fits_bool (b : Bool) : (AV.bool b).fits = true := rfl
theorem cells_bool (b : Bool) : (AV.bool b).cells = [AV.bool b] := rfl
theorem fits_str (b : List UInt8) : (AV.str b).fits = true := rfl
theorem cells_str (b : List UInt8) : (AV.str b).cells = [AV.str b] := rfl
theorem fits_ptr (i o : Nat) : (AV.ptr i o).fits = true := rfl
theorem cells_ptr (i o : Nat) : (AV.ptr i o).cells = [AV.ptr i o] := rfl
theorem fits_iptr (c : List AV) : (AV.iptr c).fits = true := rfl
theorem cells_iptr (c : List AV) : (AV.iptr c).cells = [AV.iptr c] := rfl
theorem fits_slAV {α : Type} (sz : Nat) (enc : α → List AV) (o : Option (List α)) : (slAV sz enc o).fits = true := by cases o <;> rfl
theorem cells_slAV {α : Type} (sz : Nat) (enc : α → List AV) (o : Option (List α)) : (slAV sz enc o).cells = [slAV sz enc o] := by cases o <;> rfl
end
end Go.Abs
end

section
/- Rules by which simp runs a condition from its head, no further than is known. -/
namespace Go.Abs
open Go.RowKit
@[reducible] def Tok {α : Type} (_ : α) : Type := Unit
def later {α : Type} (K : α) (t : Tok K) : α := K
theorem later_1 {α : Type} (K : α → Prop) (t : Tok K) (x : α) : later K t x = K x := rfl
theorem later_2 {α β : Type} (K : α → β → Prop) (t : Tok K) (x : α) (y : β) : later K t x y = K x y := rfl
theorem later_3 {α β γ : Type} (K : α → β → γ → Prop) (t : Tok K) (x : α) (y : β) (z : γ) : later K t x y z = K x y z := rfl
theorem Cut.go {A : (Fr → z04 → Prop) → Prop} {B : Fr → z04 → Prop} {a : Tok A} {b : Tok B} (H : A (later B b)) : Cut (later A a) (later B b) := ⟨later B b, H, fun _ _ h => h⟩
theorem Cut.on {A : (Fr → z04 → Prop) → Prop} {B : Fr → z04 → Prop} {a : Tok A} {b : Tok B} (J : Fr → z04 → Prop) (H : A J) (H2 : ∀ fr h, J fr h → B fr h) : Cut (later A a) (later B b) := ⟨J, H, H2⟩
def SplitT (b : Bool) (T F : Unit → Prop) (t : Tok T) (f : Tok F) : Prop := if b then T () else F ()
abbrev Split (b : Bool) (T F : Unit → Prop) : Prop := SplitT b T F () ()
def BothT (T F : Unit → Prop) (t : Tok T) (f : Tok F) : Prop := T () ∧ F ()
abbrev Both (T F : Unit → Prop) : Prop := BothT T F () ()
theorem Split_true (T F : Unit → Prop) (t : Tok T) (f : Tok F) : SplitT true T F t f = T () := rfl
theorem Split_false (T F : Unit → Prop) (t : Tok T) (f : Tok F) : SplitT false T F t f = F () := rfl
theorem Split.intro {b : Bool} {T F : Unit → Prop} (h1 : b = true → T ()) (h2 : b = false → F ()) : Split b T F := by
  cases b
  · exact h2 rfl
  · exact h1 rfl
theorem Both.intro {T F : Unit → Prop} (h1 : T ()) (h2 : F ()) : Both T F := ⟨h1, h2⟩
theorem z0i {a b : Int} {T F : Unit → Prop} (h1 : a < b → T ()) (h2 : b ≤ a → F ()) : Split (decide (a < b)) T F := Split.intro (fun h => h1 (of_decide_eq_true h)) (fun h => h2 (by have := of_decide_eq_false h; omega))
theorem z16 {a b : Int} {T F : Unit → Prop} (h1 : a ≤ b → T ()) (h2 : b < a → F ()) : Split (decide (a ≤ b)) T F := Split.intro (fun h => h1 (of_decide_eq_true h)) (fun h => h2 (by have := of_decide_eq_false h; omega))
theorem z0x {a b : Int} {T F : Unit → Prop} (h1 : a = b → T ()) (h2 : a ≠ b → F ()) : Split (a == b) T F := Split.intro (fun h => h1 (by simpa using h)) (fun h => h2 (by simpa using h))
theorem z13 {a b : Int} {T F : Unit → Prop} (h1 : a ≠ b → T ()) (h2 : a = b → F ()) : Split (a != b) T F := Split.intro (fun h => h1 (by simpa using h)) (fun h => h2 (by simpa using h))
theorem Split_not {b : Bool} {T F : Unit → Prop} (h : Split b F T) : Split (!b) T F := by
  cases b
  · exact h
  · exact h
theorem run_pCond (b : Bool) (T F : Prop) : z0p (.bool b) T F = SplitT b (fun _ => T) (fun _ => F) () () := by cases b <;> rfl
theorem run_pCond_unkb (T F : Prop) : z0p .unkb T F = BothT (fun _ => T) (fun _ => F) () () := rfl
theorem run_pGuardT (b : Bool) (T F : Prop) : z0c (.bool b) true T F = SplitT b (fun _ => T) (fun _ => F) () () := by cases b <;> rfl
theorem run_pGuardF (b : Bool) (T F : Prop) : z0c (.bool b) false T F = SplitT b (fun _ => F) (fun _ => T) () () := by cases b <;> rfl
theorem run_pGuard_unkb (w : Bool) (T F : Prop) : z0c .unkb w T F = BothT (fun _ => T) (fun _ => F) () () := rfl
theorem run_pGuardST (b : Bool) (T F : Prop) : z06 (.bool b) true T F = SplitT b (fun _ => T) (fun _ => F) () () := by cases b <;> rfl
theorem run_pGuardSF (b : Bool) (T F : Prop) : z06 (.bool b) false T F = SplitT b (fun _ => F) (fun _ => T) () () := by cases b <;> rfl
theorem run_pPick (b : Bool) (x y : AV) (K : AV → Prop) : z0m (.bool b) x y K = SplitT b (fun _ => K x) (fun _ => K y) () () := by cases b <;> rfl
theorem pChunk_eq (vs : List AV) (K : List AV → Prop) : pChunk vs K = K vs := rfl
theorem run_pIdx (i k : Nat) (T F : Prop) : pIdx i k T F = if i = k then T else F := rfl
theorem run_pExtract0 (v : AV) (vs : List AV) (K : AV → Prop) : z2s 0 (.tup (v :: vs)) K = K v := rfl
theorem run_pExtractS (i : Nat) (v : AV) (vs : List AV) (K : AV → Prop) : z2s (i + 1) (.tup (v :: vs)) K = z2s i (.tup vs) K := rfl
theorem dT_lt {a b : Int} (h : a < b) : decide (a < b) = true := decide_eq_true h
theorem dF_lt {a b : Int} (h : b ≤ a) : decide (a < b) = false := decide_eq_false (by omega)
theorem dT_le {a b : Int} (h : a ≤ b) : decide (a ≤ b) = true := decide_eq_true h
theorem dF_le {a b : Int} (h : b < a) : decide (a ≤ b) = false := decide_eq_false (by omega)
theorem dT_eq {a b : Int} (h : a = b) : (a == b) = true := by simp [h]
theorem dF_eq {a b : Int} (h : a ≠ b) : (a == b) = false := by simp [h]
theorem dT_ne {a b : Int} (h : a ≠ b) : (a != b) = true := by simp [h]
theorem dF_ne {a b : Int} (h : a = b) : (a != b) = false := by simp [h]
theorem wrapI {n : Int} (h1 : -9223372036854775808 ≤ n) (h2 : n ≤ 9223372036854775807) : IntKind.i64.wrap n = n := wrap_i64 ⟨h1, h2⟩
theorem wrapN {n : Int} (h1 : 0 ≤ n) (h2 : n < 18446744073709551616) : IntKind.u64.wrap n = n := by rw [wr_u64]; omega
theorem wrapB {n : Int} (h1 : 0 ≤ n) (h2 : n < 256) : IntKind.u8.wrap n = n := by rw [wr_u8]; omega
/-! ### What simp leaves alone: what comes later -/
section
variable {P : Program}
end
theorem Keeps.go {h h1 h2 : z04} (a : Keeps h h1 (fun _ => False)) (b : Keeps h1 h2 (fun _ => False)) : Keeps h h2 (fun _ => False) := a.trans b (fun _ _ x => x)
theorem Keeps.one (h : z04) (o : AObj) : Keeps h (h.push o) (fun _ => False) := Keeps.push h o
end Go.Abs
end

section
/- Arguments seen otherwise: what grows, or is one's own, becomes a slice by value. -/
namespace Go.Abs
open Go.RowKit
def Sub (as bs : List AV) : Prop := ∀ (c : Ctx) (w : World) (vs : List Value), LRel c w as vs → LRel c w bs vs
theorem Sub.nil : Sub [] [] := fun _ _ _ h => h
theorem Sub.cons {a b : AV} {as bs : List AV} (h1 : ∀ (c : Ctx) (w : World) (v : Value), VRel c w a v → VRel c w b v) (h2 : Sub as bs) : Sub (a :: as) (b :: bs) := by
  intro c w vs h
  simp only [LRel] at h ⊢
  obtain ⟨v, vs', e, hv, hl⟩ := h
  exact ⟨v, vs', e, h1 c w v hv, h2 c w vs' hl⟩
theorem Sub.same {a : AV} {as bs : List AV} (h2 : Sub as bs) : Sub (a :: as) (a :: bs) := Sub.cons (fun _ _ _ h => h) h2
theorem gsl_isl (id sz : Nat) (es : List (List AV)) (hm : es.length ≤ 1000000) (c : Ctx) (w : World) (v : Value) (h : VRel c w (.gsl id sz es) v) : VRel c w (.isl sz es) v := by
  simp only [VRel] at h ⊢
  obtain ⟨b, cap, ty, h1, h2, h3, h4, h5, h6⟩ := h
  exact ⟨_, cap, h2, h3, by omega, fun _ => ⟨b, 0, rfl, h6⟩⟩
theorem z03.args {P : Program} {f : FuncId} {as bs : List AV} {h : z04} {R : AV → z04 → Prop} (hs : Sub as bs) (H : z03 P f bs h R) : z03 P f as h R := by
  rcases H with H | H
  · exact Or.inl ⟨H.1, fun B c w vs W L => H.2 B c w vs W (hs c w vs L)⟩
  · exact Or.inr fun B c w vs W L => H B c w vs W (hs c w vs L)
theorem erel_chunk {c : Ctx} {w : World} {b sz : Nat} : ∀ (n : Nat) (cs : List AV) (off : Nat), n * sz ≤ cs.length → MRel c w cs b off → ERel c w sz (chunk sz n cs) b off
  | 0, cs, off, _, _ => by simp [chunk, ERel]
  | n + 1, cs, off, hl, hm => by
    rw [Nat.add_mul, Nat.one_mul] at hl
    simp only [chunk, ERel]
    exact ⟨by simp; omega, hm.take sz, erel_chunk n _ _ (by simp; omega) (hm.drop sz)⟩
theorem LRel.split {c : Ctx} {w : World} : ∀ {as bs : List AV} {vs : List Value}, LRel c w (as ++ bs) vs → ∃ us ws, vs = us ++ ws ∧ LRel c w as us ∧ LRel c w bs ws
  | [], bs, vs, h => ⟨[], vs, rfl, by simp [LRel], h⟩
  | a :: as, bs, vs, h => by
    simp only [List.cons_append, LRel] at h
    obtain ⟨v, vs', rfl, hv, hl⟩ := h
    obtain ⟨us, ws, rfl, h1, h2⟩ := LRel.split hl
    exact ⟨v :: us, ws, rfl, by simp only [LRel]; exact ⟨v, us, rfl, hv, h1⟩, h2⟩
theorem freeze_arg {B : Nat} {c : Ctx} {h : z04} {w : World} {id n sz : Nat} {ty : TypeId} {cs pre post : List AV} {vs : List Value} (ho : h.objs id = some (.row ty cs)) (hn : n * sz ≤ cs.length) (hm : n ≤ 1000000) (W : WRel B c h w) (L : LRel c w (pre ++ .sl id 0 n sz :: post) vs) :
    ∃ c', Ext B c w c' w ∧ WRel B c' (h.kill id) w ∧ LRel c' w (pre ++ .isl sz (chunk sz n cs) :: post) vs := by
  obtain ⟨us, ws, rfl, h1, h2⟩ := L.split
  simp only [LRel] at h2
  obtain ⟨v, vs', rfl, hv, h3⟩ := h2
  simp only [VRel] at hv
  obtain ⟨b, cap, ty', hb, rfl, hc1, hc2, -⟩ := hv
  have W1 := W.kill id
  obtain ⟨E, W2⟩ := W1.freeze (fun k _ => k = b) (by rintro k x rfl; exact (W.mlt id _ hb).2.2) (by
    rintro k x rfl i o hi hio
    simp only [z04.kill_objs] at hio
    split at hio
    · cases hio
    · rename_i hne
      exact absurd (W.inj i id _ hi hb (by rw [hio]; simp) (by rw [ho]; simp)) hne)
  refine ⟨_, E, W2, (LRel.mono E h1).append ?_⟩
  simp only [LRel]
  refine ⟨_, _, rfl, ?_, LRel.mono E h3⟩
  simp only [VRel]
  have hcl : (chunk sz n cs).length = n := chunk_length sz n cs
  refine ⟨some ⟨b, 0, none⟩, cap, by rw [hcl], by rw [hcl]; exact hc1, by rw [hcl]; omega, fun _ => ⟨b, 0, rfl, ?_⟩⟩
  refine erel_chunk n cs 0 hn (MRel.ofFn fun i a hi => ⟨Or.inr rfl, ?_⟩)
  obtain ⟨u, hu, hone, hr⟩ := W.row_get hb ho hi
  exact ⟨u, by rw [Nat.zero_add]; exact hu, hone, VRel.mono E hr⟩
theorem z03.freeze {P : Program} {f : FuncId} {pre post : List AV} {h : z04} {R : AV → z04 → Prop} {id n sz : Nat} {ty : TypeId} {cs : List AV} (ho : h.objs id = some (.row ty cs)) (hn : n * sz ≤ cs.length) (hm : n ≤ 1000000) (H : z03 P f (pre ++ .isl sz (chunk sz n cs) :: post) (h.kill id) R) :
    z03 P f (pre ++ .sl id 0 n sz :: post) h R := by
  rcases H with H | H
  · refine Or.inl ⟨H.1, fun B c w vs W L => ?_⟩
    obtain ⟨c', E, W', L'⟩ := freeze_arg ho hn hm W L
    refine (H.2 B c' w vs W' L').mono fun e w' ⟨c2, u, v, h', h1, E2, h3, h4, h5⟩ => ⟨c2, u, v, h', h1, E.trans E2, h3, h4, h5⟩
  · refine Or.inr fun B c w vs W L => ?_
    obtain ⟨c', E, W', L'⟩ := freeze_arg ho hn hm W L
    obtain ⟨c2, u, v, h', w', h1, E2, h3, h4, h5⟩ := H B c' w vs W' L'
    exact ⟨c2, u, v, h', w', h1, E.trans E2, h3, h4, h5⟩
end Go.Abs
end

section
/- Steps of knowledge: what was written becomes a slice by value. -/
namespace Go.Abs
open Go.RowKit
theorem Ghost.refl (fr : Fr) (h : z04) : Ghost fr h fr h := fun N ds B c w a W F => ⟨c, Ext.refl _ _ _, W, F⟩
theorem Ghost.freeze {fr : Fr} {h : z04} {s id n sz : Nat} {ty : TypeId} {cs : List AV} (hs : fr s = .sl id 0 n sz) (ho : h.objs id = some (.row ty cs)) (hn : n * sz ≤ cs.length) (hm : n ≤ 1000000) :
    Ghost fr h (fun i => if i = s then .isl sz (chunk sz n cs) else fr i) (h.kill id) := by
  intro N ds B c w a W F
  have hv := F.2.2 s
  rw [hs] at hv
  obtain ⟨c', E, W', L⟩ := freeze_arg (pre := []) (post := []) (vs := [a.tmps.getD s undef]) ho hn hm W (by simp only [List.nil_append, LRel]; exact ⟨_, _, rfl, hv, rfl⟩)
  refine ⟨c', E, W', F.1, F.2.1, fun i => ?_⟩
  by_cases e : i = s
  · subst e
    simp only [if_true]
    simp only [List.nil_append, LRel] at L
    obtain ⟨v, vs, he, hv, -⟩ := L
    injection he with he1 he2
    rw [he1]; exact hv
  · simp only [if_neg e]
    exact VRel.mono E (F.2.2 i)
end Go.Abs
end

section
/- What a call made for itself is forgotten: a function of values alone leaves the heap as it was. -/
namespace Go.Abs
open Go.RowKit
mutual
def z2v (D : Nat → Prop) : AV → Prop
  | .ptr id _ => D id
  | .iptr cs => idsInL D cs
  | .isl _ es => idsInE D es
  | .gsl id _ es => D id ∧ idsInE D es
  | .sl id _ _ _ => D id
  | .mapv id => D id
  | .yld id => D id
  | .fn _ a b => idsInL D a ∧ idsInL D b
  | .ifc _ a => z2v D a
  | .agg cs => idsInL D cs
  | .tup vs => idsInL D vs
  | _ => True
def idsInL (D : Nat → Prop) : List AV → Prop
  | [] => True
  | a :: as => z2v D a ∧ idsInL D as
def idsInE (D : Nat → Prop) : List (List AV) → Prop
  | [] => True
  | e :: es => idsInL D e ∧ idsInE D es
end
section
variable {c c' : Ctx} {w : World} {D : Nat → Prop}
mutual
theorem VRel.move (hm : ∀ id, D id → c'.m id = c.m id) (him : ∀ b o, c.im b o → c'.im b o) : ∀ {a : AV} {v : Value}, z2v D a → VRel c w a v → VRel c' w a v
  | .und, _, _, _ => by simp [VRel]
  | .int .., _, _, h => by simpa [VRel] using h
  | .bool .., _, _, h => by simpa [VRel] using h
  | .unkb, _, _, h => by simpa [VRel] using h
  | .str .., _, _, h => by simpa [VRel] using h
  | .flt .., _, _, h => by simpa [VRel] using h
  | .nilp, _, _, h => by simpa [VRel] using h
  | .ptr id off, _, i, h => by
    simp only [VRel, z2v] at h i ⊢
    obtain ⟨b, h1, h2⟩ := h
    exact ⟨b, by rw [hm _ i]; exact h1, h2⟩
  | .iptr cs, _, i, h => by
    simp only [VRel, z2v] at h i ⊢
    obtain ⟨b, off, h1, h2⟩ := h
    exact ⟨b, off, h1, MRel.move hm him i h2⟩
  | .nils, _, _, h => by simpa [VRel] using h
  | .eml, _, _, h => by simpa [VRel] using h
  | .isl sz es, _, i, h => by
    simp only [VRel, z2v] at h i ⊢
    obtain ⟨a, cap, h1, h2, h2b, h3⟩ := h
    refine ⟨a, cap, h1, h2, h2b, fun hne => ?_⟩
    obtain ⟨b, off, h4, h5⟩ := h3 hne
    exact ⟨b, off, h4, ERel.move hm him i h5⟩
  | .gsl id sz es, _, i, h => by
    simp only [VRel, z2v] at h i ⊢
    obtain ⟨b, cap, ty, h1, h2, h3, h4, h5, h6⟩ := h
    exact ⟨b, cap, ty, by rw [hm _ i.1]; exact h1, h2, h3, h4, h5, ERel.move hm him i.2 h6⟩
  | .sl .., _, i, h => by
    simp only [VRel, z2v] at h i ⊢
    obtain ⟨b, cap, ty, h1, h2, h3, h4, h5⟩ := h
    exact ⟨b, cap, ty, by rw [hm _ i]; exact h1, h2, h3, h4, h5⟩
  | .nilm, _, _, h => by simpa [VRel] using h
  | .mapv .., _, i, h => by
    simp only [VRel, z2v] at h i ⊢
    obtain ⟨b, h1, h2⟩ := h
    exact ⟨b, by rw [hm _ i]; exact h1, h2⟩
  | .yld .., _, i, h => by
    simp only [VRel, z2v] at h i ⊢
    obtain ⟨b, h1, h2⟩ := h
    exact ⟨b, by rw [hm _ i]; exact h1, h2⟩
  | .nilf, _, _, h => by simpa [VRel] using h
  | .fn f first captured, _, i, h => by
    simp only [VRel, z2v] at h i ⊢
    obtain ⟨fs, cs, h1, h2, h3⟩ := h
    exact ⟨fs, cs, h1, LRel.move hm him i.1 h2, LRel.move hm him i.2 h3⟩
  | .nili, _, _, h => by simpa [VRel] using h
  | .ifc t a, _, i, h => by
    simp only [VRel, z2v] at h i ⊢
    obtain ⟨u, h1, h2⟩ := h
    exact ⟨u, h1, VRel.move hm him i h2⟩
  | .agg cs, _, i, h => by
    simp only [VRel, z2v] at h i ⊢
    obtain ⟨vs, h1, h2, h3⟩ := h
    exact ⟨vs, h1, LRel.move hm him i h2, h3⟩
  | .tup cs, _, i, h => by
    simp only [VRel, z2v] at h i ⊢
    obtain ⟨vs, h1, h2⟩ := h
    exact ⟨vs, h1, LRel.move hm him i h2⟩
theorem LRel.move (hm : ∀ id, D id → c'.m id = c.m id) (him : ∀ b o, c.im b o → c'.im b o) : ∀ {as : List AV} {vs : List Value}, idsInL D as → LRel c w as vs → LRel c' w as vs
  | [], _, _, h => by simpa [LRel] using h
  | a :: as, _, i, h => by
    simp only [LRel, idsInL] at h i ⊢
    obtain ⟨v, vs', h1, h2, h3⟩ := h
    exact ⟨v, vs', h1, VRel.move hm him i.1 h2, LRel.move hm him i.2 h3⟩
theorem MRel.move (hm : ∀ id, D id → c'.m id = c.m id) (him : ∀ b o, c.im b o → c'.im b o) : ∀ {as : List AV} {b off : Nat}, idsInL D as → MRel c w as b off → MRel c' w as b off
  | [], _, _, _, _ => by simp [MRel]
  | a :: as, b, off, i, h => by
    simp only [MRel, idsInL] at h i ⊢
    obtain ⟨h1, ⟨u, h2, h3, h4⟩, h5⟩ := h
    exact ⟨him _ _ h1, ⟨u, h2, h3, VRel.move hm him i.1 h4⟩, MRel.move hm him i.2 h5⟩
theorem ERel.move (hm : ∀ id, D id → c'.m id = c.m id) (him : ∀ b o, c.im b o → c'.im b o) {sz : Nat} : ∀ {es : List (List AV)} {b off : Nat}, idsInE D es → ERel c w sz es b off → ERel c' w sz es b off
  | [], _, _, _, _ => by simp [ERel]
  | e :: es, b, off, i, h => by
    simp only [ERel, idsInE] at h i ⊢
    exact ⟨h.1, MRel.move hm him i.1 h.2.1, ERel.move hm him i.2 h.2.2⟩
end
mutual
theorem VRel.ids : ∀ {a : AV} {v : Value}, VRel c w a v → z2v (fun id => c.m id ≠ none) a
  | .und, _, _ => by simp [z2v]
  | .int .., _, _ => by simp [z2v]
  | .bool .., _, _ => by simp [z2v]
  | .unkb, _, _ => by simp [z2v]
  | .str .., _, _ => by simp [z2v]
  | .flt .., _, _ => by simp [z2v]
  | .nilp, _, _ => by simp [z2v]
  | .ptr .., _, h => by
    simp only [VRel, z2v] at h ⊢
    obtain ⟨b, h1, -⟩ := h; rw [h1]; simp
  | .iptr cs, _, h => by
    simp only [VRel, z2v] at h ⊢
    obtain ⟨b, off, h1, h2⟩ := h; exact MRel.ids h2
  | .yld .., _, h => by
    simp only [VRel, z2v] at h ⊢
    obtain ⟨b, h1, -⟩ := h; rw [h1]; simp
  | .nils, _, _ => by simp [z2v]
  | .eml, _, _ => by simp [z2v]
  | .isl sz [], _, h => by simp [z2v, idsInE]
  | .isl sz (e :: es), _, h => by
    simp only [VRel, z2v] at h ⊢
    obtain ⟨a, cap, h1, h2, h2b, h3⟩ := h
    obtain ⟨b, off, h4, h5⟩ := h3 (by simp)
    exact ERel.ids h5
  | .gsl .., _, h => by
    simp only [VRel, z2v] at h ⊢
    obtain ⟨b, cap, ty, h1, h2, h3, h4, h5, h6⟩ := h
    exact ⟨by rw [h1]; simp, ERel.ids h6⟩
  | .sl .., _, h => by
    simp only [VRel, z2v] at h ⊢
    obtain ⟨b, cap, ty, h1, -⟩ := h; rw [h1]; simp
  | .nilm, _, _ => by simp [z2v]
  | .mapv .., _, h => by
    simp only [VRel, z2v] at h ⊢
    obtain ⟨b, h1, -⟩ := h; rw [h1]; simp
  | .nilf, _, _ => by simp [z2v]
  | .fn f first captured, _, h => by
    simp only [VRel, z2v] at h ⊢
    obtain ⟨fs, cs, h1, h2, h3⟩ := h
    exact ⟨LRel.ids h2, LRel.ids h3⟩
  | .nili, _, _ => by simp [z2v]
  | .ifc t a, _, h => by
    simp only [VRel, z2v] at h ⊢
    obtain ⟨u, h1, h2⟩ := h; exact VRel.ids h2
  | .agg cs, _, h => by
    simp only [VRel, z2v] at h ⊢
    obtain ⟨vs, h1, h2, h3⟩ := h; exact LRel.ids h2
  | .tup cs, _, h => by
    simp only [VRel, z2v] at h ⊢
    obtain ⟨vs, h1, h2⟩ := h; exact LRel.ids h2
theorem LRel.ids : ∀ {as : List AV} {vs : List Value}, LRel c w as vs → idsInL (fun id => c.m id ≠ none) as
  | [], _, _ => by simp [idsInL]
  | a :: as, _, h => by
    simp only [LRel, idsInL] at h ⊢
    obtain ⟨v, vs', h1, h2, h3⟩ := h
    exact ⟨VRel.ids h2, LRel.ids h3⟩
theorem MRel.ids : ∀ {as : List AV} {b off : Nat}, MRel c w as b off → idsInL (fun id => c.m id ≠ none) as
  | [], _, _, _ => by simp [idsInL]
  | a :: as, b, off, h => by
    simp only [MRel, idsInL] at h ⊢
    obtain ⟨h1, ⟨u, h2, h3, h4⟩, h5⟩ := h
    exact ⟨VRel.ids h4, MRel.ids h5⟩
theorem ERel.ids {sz : Nat} : ∀ {es : List (List AV)} {b off : Nat}, ERel c w sz es b off → idsInE (fun id => c.m id ≠ none) es
  | [], _, _, _ => by simp [idsInE]
  | e :: es, b, off, h => by
    simp only [ERel, idsInE] at h ⊢
    exact ⟨MRel.ids h.2.1, ERel.ids h.2.2⟩
end
end
theorem WRel.forget {B : Nat} {c c' : Ctx} {h h' : z04} {w w' : World} (W : WRel B c h w) (E : Ext B c w c' w') (W' : WRel B c' h' w') (K : Keeps h h' (fun _ => False)) {v : AV} {u : Value} (hv : z2v (fun _ => False) v) (V : VRel c' w' v u) :
    ∃ c2, Ext B c w c2 w' ∧ WRel B c2 h w' ∧ VRel c2 w' v u := by
  refine ⟨⟨c.m, c'.im⟩, ⟨⟨fun id b hb => hb, E.im, E.below, E.cells, E.shp⟩, E.oth⟩, ⟨fun id b hb => ⟨(W.mlt id b hb).1, (W'.mlt id b (E.m id b hb)).2⟩, fun i j b hi hj ho1 ho2 => W.inj i j b hi hj ho1 ho2, fun id b o hb ho => ?_, W'.im, W.fresh, W'.base, fun g => MRel.move (c := c') (c' := ⟨c.m, c'.im⟩) (D := fun id => c.m id ≠ none) (fun k hk => by
      cases hk2 : c.m k with
      | none => exact absurd hk2 hk
      | some bk => exact (E.m k bk hk2).symm) (fun _ _ h => h) (W.gl g).ids (W'.gl g)⟩, ?_⟩
  · have hlt := (W.mlt id b hb).1
    have ho' : h'.objs id = some o := by rw [K.objs id hlt (by simp)]; exact ho
    have R := W'.obj id b o (E.m id b hb) ho'
    cases o with
    | tok ty n => exact R
    | row ty cs =>
      obtain ⟨C, h1, h2, h3, h4, h5⟩ := R
      refine ⟨C, h1, h2, ?_, h4, h5⟩
      obtain ⟨C0, -, -, g3, -⟩ := W.obj id b _ hb ho
      refine LRel.move (c := c') (c' := ⟨c.m, c'.im⟩) (D := fun id => c.m id ≠ none) (fun k hk => ?_) (fun _ _ h => h) g3.ids h3
      cases hk2 : c.m k with
      | none => exact absurd hk2 hk
      | some bk => exact (E.m k bk hk2).symm
    | loop st pe N ps asn bd fr =>
      obtain ⟨L, h1, h2, h3, h4, h5, h6, h7, h8⟩ := R
      obtain ⟨L0, -, -, -, -, -, -, -, g8⟩ := W.obj id b _ hb ho
      refine ⟨L, h1, h2, h3, h4, h5, h6, h7, fun i => ?_⟩
      refine VRel.move (c := c') (c' := ⟨c.m, c'.im⟩) (D := fun id => c.m id ≠ none) (fun k hk => ?_) (fun _ _ h => h) (g8 i).ids (h8 i)
      cases hk2 : c.m k with
      | none => exact absurd hk2 hk
      | some bk => exact (E.m k bk hk2).symm
    | map ks vs =>
      obtain ⟨es, h1, h2, h3, h4⟩ := R
      obtain ⟨es0, -, g2, g3, -⟩ := W.obj id b _ hb ho
      have hk : ∀ k, c.m k ≠ none → c.m k = c'.m k := fun k hk => by
        cases hk2 : c.m k with
        | none => exact absurd hk2 hk
        | some bk => exact (E.m k bk hk2).symm
      exact ⟨es, h1, LRel.move (c := c') (c' := ⟨c.m, c'.im⟩) (D := fun id => c.m id ≠ none) hk (fun _ _ h => h) g2.ids h2, LRel.move (c := c') (c' := ⟨c.m, c'.im⟩) (D := fun id => c.m id ≠ none) hk (fun _ _ h => h) g3.ids h3, h4⟩
  · exact VRel.move (c := c') (c' := ⟨c.m, c'.im⟩) (D := fun _ => False) (fun _ h => h.elim) (fun _ _ h => h) hv V
theorem z03.forget {P : Program} {f : FuncId} {args : List AV} {h : z04} {v0 : AV} (hv : z2v (fun _ => False) v0) (H : z03 P f args h (fun v h2 => v = v0 ∧ Keeps h h2 (fun _ => False))) : z03 P f args h (fun v h2 => v = v0 ∧ h2 = h) := by
  rcases H with H | H
  · refine Or.inl ⟨H.1, fun B c w vs W L => (H.2 B c w vs W L).mono fun e w' ⟨c', u, v, h', a, E, W', V, q, K⟩ => ?_⟩
    subst q
    obtain ⟨c2, E2, W2, V2⟩ := W.forget E W' K hv V
    exact ⟨c2, u, v, h, a, E2, W2, V2, rfl, rfl⟩
  · refine Or.inr fun B c w vs W L => ?_
    obtain ⟨c', u, v, h', w', a, E, W', V, q, K⟩ := H B c w vs W L
    subst q
    obtain ⟨c2, E2, W2, V2⟩ := W.forget E W' K hv V
    exact ⟨c2, u, v, h, w', a, E2, W2, V2, rfl, rfl⟩
end Go.Abs
end

section
/- The rules by which conditions are run, in bundles. -/
namespace Go.Abs
theorem gp0 : (type_of% @Split_true) ∧ (type_of% @Split_false) ∧ (type_of% @run_pCond) ∧ (type_of% @run_pCond_unkb) ∧ (type_of% @run_pGuardT) ∧ (type_of% @run_pGuardF) ∧ (type_of% @run_pGuard_unkb) ∧ (type_of% @run_pGuardST) := ⟨@Split_true, @Split_false, @run_pCond, @run_pCond_unkb, @run_pGuardT, @run_pGuardF, @run_pGuard_unkb, @run_pGuardST⟩
theorem gp1 : (type_of% @run_pGuardSF) ∧ (type_of% @pGuard_tup) ∧ (type_of% @pGuardS_tup) ∧ (type_of% @run_pPick) ∧ (type_of% @run_pIdx) ∧ (type_of% @run_pExtract0) ∧ (type_of% @run_pExtractS) ∧ (type_of% @pJoin_eq) := ⟨@run_pGuardSF, @pGuard_tup, @pGuardS_tup, @run_pPick, @run_pIdx, @run_pExtract0, @run_pExtractS, @pJoin_eq⟩
theorem gp2 : (type_of% @pCells_drop) ∧ (type_of% @pCells_dropS) := ⟨@pCells_drop, @pCells_dropS⟩
theorem gq0 : (type_of% @later_1) ∧ (type_of% @later_2) ∧ (type_of% @later_3) ∧ (type_of% @obind_some) ∧ (type_of% @pChunk_eq) ∧ (type_of% @nth_zero) ∧ (type_of% @nth_cons) ∧ (type_of% @exitQ_normal) := ⟨@later_1, @later_2, @later_3, @obind_some, @pChunk_eq, @nth_zero, @nth_cons, @exitQ_normal⟩
theorem gq1 : (type_of% @exitQ_exit) ∧ (type_of% @exitQ_ret) ∧ (type_of% @frOf_cons) ∧ (type_of% @loopPost_exit) ∧ (type_of% @loopPost_ret) ∧ (type_of% @pLen_str) ∧ (type_of% @pLen_isl) ∧ (type_of% @pLen_gsl) := ⟨@exitQ_exit, @exitQ_ret, @frOf_cons, @loopPost_exit, @loopPost_ret, @pLen_str, @pLen_isl, @pLen_gsl⟩
theorem gq2 : (type_of% @pLen_sl) ∧ (type_of% @pLen_nils) ∧ (type_of% @pLen_eml) ∧ (type_of% @pLen_array) ∧ (type_of% @pLen_slAV) ∧ (type_of% @pConv_int) ∧ (type_of% @pConv_str) ∧ (type_of% @pBox_true) := ⟨@pLen_sl, @pLen_nils, @pLen_eml, @pLen_array, @pLen_slAV, @pConv_int, @pConv_str, @pBox_true⟩
theorem gq3 : (type_of% @pBox_false) ∧ (type_of% @pAlloc_eq) ∧ (type_of% @cells_agg) ∧ (type_of% @fits_agg) ∧ (type_of% @pNil_ptr) ∧ (type_of% @pNil_iptr) ∧ (type_of% @pNil_fn) ∧ (type_of% @pFieldAddr_ptr) := ⟨@pBox_false, @pAlloc_eq, @cells_agg, @fits_agg, @pNil_ptr, @pNil_iptr, @pNil_fn, @pFieldAddr_ptr⟩
theorem gq4 : (type_of% @pFieldAddr_iptr) ∧ (type_of% @pField_agg) ∧ (type_of% @pCells_zero) ∧ (type_of% @pCells_succ) ∧ (type_of% @pCells_some) ∧ (type_of% @z2j) ∧ (type_of% @pLoad_push) ∧ (type_of% @binA_int_eql) := ⟨@pFieldAddr_iptr, @pField_agg, @pCells_zero, @pCells_succ, @pCells_some, @z2j, @pLoad_push, @binA_int_eql⟩
theorem gq5 : (type_of% @binA_int_neq) ∧ (type_of% @binA_int_lss) ∧ (type_of% @binA_int_leq) ∧ (type_of% @binA_int_gtr) ∧ (type_of% @binA_int_geq) ∧ (type_of% @binA_int_add) ∧ (type_of% @binA_int_sub) ∧ (type_of% @binA_int_mul) := ⟨@binA_int_neq, @binA_int_lss, @binA_int_leq, @binA_int_gtr, @binA_int_geq, @binA_int_add, @binA_int_sub, @binA_int_mul⟩
theorem gq6 : (type_of% @binA_int_and) ∧ (type_of% @binA_int_or) ∧ (type_of% @binA_int_xor) ∧ (type_of% @binA_str_eql) ∧ (type_of% @binA_str_neq) ∧ (type_of% @binA_bool_eql) ∧ (type_of% @binA_bool_neq) ∧ (type_of% @binA_ptr_eql_nil) := ⟨@binA_int_and, @binA_int_or, @binA_int_xor, @binA_str_eql, @binA_str_neq, @binA_bool_eql, @binA_bool_neq, @binA_ptr_eql_nil⟩
theorem gq7 : (type_of% @binA_ptr_neq_nil) ∧ (type_of% @binA_iptr_eql_nil) ∧ (type_of% @binA_iptr_neq_nil) ∧ (type_of% @binA_nil_eql_nil) ∧ (type_of% @binA_nil_neq_nil) ∧ (type_of% @unA_not) ∧ (type_of% @unA_not_unkb) ∧ (type_of% @unA_neg) := ⟨@binA_ptr_neq_nil, @binA_iptr_eql_nil, @binA_iptr_neq_nil, @binA_nil_eql_nil, @binA_nil_neq_nil, @unA_not, @unA_not_unkb, @unA_neg⟩
theorem gq8 : (type_of% @fits_int) ∧ (type_of% @cells_int) ∧ (type_of% @fits_bool) ∧ (type_of% @cells_bool) ∧ (type_of% @fits_str) ∧ (type_of% @cells_str) ∧ (type_of% @fits_ptr) ∧ (type_of% @cells_ptr) := ⟨@fits_int, @cells_int, @fits_bool, @cells_bool, @fits_str, @cells_str, @fits_ptr, @cells_ptr⟩
theorem gq9 : (type_of% @fits_iptr) ∧ (type_of% @cells_iptr) ∧ (type_of% @fits_slAV) ∧ (type_of% @cells_slAV) := ⟨@fits_iptr, @cells_iptr, @fits_slAV, @cells_slAV⟩
theorem go0 : (type_of% @dT_lt) ∧ (type_of% @dF_lt) ∧ (type_of% @dT_le) ∧ (type_of% @dF_le) ∧ (type_of% @dT_eq) ∧ (type_of% @dF_eq) ∧ (type_of% @dT_ne) ∧ (type_of% @dF_ne) := ⟨@dT_lt, @dF_lt, @dT_le, @dF_le, @dT_eq, @dF_eq, @dT_ne, @dF_ne⟩
theorem go1 : (type_of% @wrapI) ∧ (type_of% @wrapN) ∧ (type_of% @wrapB) := ⟨@wrapI, @wrapN, @wrapB⟩
theorem gl0 : (type_of% @Nat.le_refl) ∧ (type_of% @Nat.zero_add) ∧ (type_of% @Nat.add_zero) ∧ (type_of% @List.drop_zero.{0}) ∧ (type_of% @List.drop_succ_cons.{0}) ∧ (type_of% @List.length_cons.{0}) ∧ (type_of% @List.length_nil.{0}) ∧ (type_of% @List.take_succ_cons.{0}) := ⟨@Nat.le_refl, @Nat.zero_add, @Nat.add_zero, @List.drop_zero.{0}, @List.drop_succ_cons.{0}, @List.length_cons.{0}, @List.length_nil.{0}, @List.take_succ_cons.{0}⟩
theorem gl1 : (type_of% @List.take_zero.{0}) ∧ (type_of% @true_and) ∧ (type_of% @and_true) ∧ (type_of% @Bool.not_true) ∧ (type_of% @Bool.not_false) ∧ (type_of% @false_implies) ∧ (type_of% @true_implies) ∧ (type_of% @eq_self.{1}) := ⟨@List.take_zero.{0}, @true_and, @and_true, @Bool.not_true, @Bool.not_false, @false_implies, @true_implies, @eq_self.{1}⟩
theorem gl2 : (type_of% @List.drop_drop.{0}) ∧ (type_of% @List.getElem?_cons_zero.{0}) ∧ (type_of% @List.getElem?_cons_succ.{0}) ∧ (type_of% @List.nil_append.{0}) ∧ (type_of% @List.cons_append.{0}) ∧ (type_of% @List.append_nil.{0}) ∧ (type_of% @Bool.true_and) ∧ (type_of% @Bool.false_and) := ⟨@List.drop_drop.{0}, @List.getElem?_cons_zero.{0}, @List.getElem?_cons_succ.{0}, @List.nil_append.{0}, @List.cons_append.{0}, @List.append_nil.{0}, @Bool.true_and, @Bool.false_and⟩
theorem gl3 : (type_of% @Bool.and_true) ∧ (type_of% @Bool.and_false) ∧ (type_of% @Bool.true_or) ∧ (type_of% @Bool.false_or) ∧ (type_of% @Bool.or_true) ∧ (type_of% @Bool.or_false) := ⟨@Bool.and_true, @Bool.and_false, @Bool.true_or, @Bool.false_or, @Bool.or_true, @Bool.or_false⟩
/-! All bundles of a kind in one. -/
theorem rP : (type_of% @gp0) ∧ (type_of% @gp1) ∧ (type_of% @gp2) := ⟨@gp0, @gp1, @gp2⟩
theorem rQ : (type_of% @gq0) ∧ (type_of% @gq1) ∧ (type_of% @gq2) ∧ (type_of% @gq3) ∧ (type_of% @gq4) ∧ (type_of% @gq5) ∧ (type_of% @gq6) ∧ (type_of% @gq7) ∧ (type_of% @gq8) ∧ (type_of% @gq9) := ⟨@gq0, @gq1, @gq2, @gq3, @gq4, @gq5, @gq6, @gq7, @gq8, @gq9⟩
theorem rO : (type_of% @go0) ∧ (type_of% @go1) := ⟨@go0, @go1⟩
theorem rL : (type_of% @gl0) ∧ (type_of% @gl1) ∧ (type_of% @gl2) ∧ (type_of% @gl3) := ⟨@gl0, @gl1, @gl2, @gl3⟩
end Go.Abs
end

section
/- One's own row within an aggregate becomes read-only from a call on. -/
namespace Go.Abs
open Go.RowKit
end Go.Abs
end

section
/- Loops over functions: their rounds, step by step. -/
namespace Go.Abs
open Go.RowKit
theorem put_put (h : z04) (i : Nat) (a b : AObj) : (h.put i a).put i b = h.put i b := by
  simp only [z04.put]
  congr 1
  funext j
  by_cases e : j = i <;> simp [e]
theorem push_old {h : z04} {i : Nat} (hi : i < h.next) (o : AObj) : (h.push o).objs i = h.objs i := by simp only [z04.z4u]; rw [if_neg (by omega)]
theorem z2h (h : z04) (o : AObj) : (h.push o).objs h.next = some o := by simp
theorem put_new (h : z04) (i : Nat) (o : AObj) : (h.put i o).objs i = some o := by simp
theorem put_old {h : z04} {i j : Nat} (hi : i ≠ j) (o : AObj) : (h.put j o).objs i = h.objs i := by simp only [z04.z3n]; rw [if_neg hi]
theorem Keeps.pushS {h hh : z04} {S : Nat → Prop} (k : Keeps h hh S) (o : AObj) : Keeps h (hh.push o) S := ⟨Nat.le_trans k.next (Nat.le_succ _), fun j hj hs => by rw [push_old (Nat.lt_of_lt_of_le hj k.next)]; exact k.objs j hj hs⟩
theorem maxA_two (k : IntKind) (a b : Int) : maxA [.int k a, .int k b] = some (.int k (max a b)) := by
  rw [maxA, maxA]
  · congr 2; rw [Int.max_def]; split <;> split <;> omega
theorem Keeps.putNew {h hh : z04} {S : Nat → Prop} (k : Keeps h hh S) {i : Nat} (hi : h.next ≤ i) (o : AObj) : Keeps h (hh.put i o) S := ⟨k.next, fun j hj hs => by simp only [z04.z3n]; rw [if_neg (by omega)]; exact k.objs j hj hs⟩
theorem Keeps.putS {h hh : z04} {S : Nat → Prop} (k : Keeps h hh S) {i : Nat} (hi : S i) (o : AObj) : Keeps h (hh.put i o) S := ⟨k.next, fun j hj hs => by simp only [z04.z3n]; rw [if_neg (by rintro rfl; exact hs hi)]; exact k.objs j hj hs⟩
theorem Keeps.killNew {h hh : z04} {S : Nat → Prop} (k : Keeps h hh S) {i : Nat} (hi : h.next ≤ i) : Keeps h (hh.kill i) S := ⟨k.next, fun j hj hs => by simp only [z04.kill_objs]; rw [if_neg (by omega)]; exact k.objs j hj hs⟩
section
variable {P : Program}
theorem WP.post {N : Nat} {code : Code} {fr : Fr} {h : z04} {Q Q' : z1j → Fr → z04 → Prop} (hq : ∀ e fr h, Q e fr h → Q' e fr h) (H : WP P N code fr h Q) : WP P N code fr h Q' := H.mono hq
theorem YieldW.mono {id : Nat} {args : List AV} {h : z04} {K K' : AV → z04 → Prop} (hk : ∀ v h, K v h → K' v h) (H : YieldW P id args h K) : YieldW P id args h K' := by
  obtain ⟨N, ps, asn, bd, fr, h1, h2, h3, h4, h5, H⟩ := H
  refine ⟨N, ps, asn, bd, fr, h1, h2, h3, h4, h5, H.mono fun e fr1 hh hq => ?_⟩
  cases e with
  | exit i => exact hq
  | ret => exact hq
  | normal =>
    refine ⟨hq.1, hq.2.mono fun e fr2 h2 hq => ?_⟩
    cases e with
    | normal => exact ⟨hq.1, hk _ _ hq.2⟩
    | exit i => exact ⟨hq.1, hk _ _ hq.2⟩
    | ret => exact ⟨hq.1, hk _ _ hq.2⟩
def roundQ (id N : Nat) (ps : Array Tmp) (asn bd : Code) (fr : Fr) (K : AV → z04 → Prop) : z1j → Fr → z04 → Prop := fun e _ h2 =>
  h2.objs id = some (.loop .busy none N ps asn bd fr) ∧ match e with
    | .normal => K (.bool true) (h2.put id (.loop .ready none N ps asn bd fr))
    | .exit i => K (.bool false) (h2.put id (.loop .done (some (.exit i)) N ps asn bd fr))
    | .ret => K (.bool false) (h2.put id (.loop .done (some .ret) N ps asn bd fr))
theorem YieldW.go {N id : Nat} {ps : Array Tmp} {asn bd : Code} {fr fr1 : Fr} {args : List AV} {hh : z04} {K : AV → z04 → Prop} (ho : hh.objs id = some (.loop .ready none N ps asn bd fr)) (hl : args.length = ps.size) (hp : (ps.toList.all fun p => Nat.blt p N) = true) (hna : noRF asn = true) (hnb : noRF bd = true)
    (hA : WP P N asn (setPs ps.toList args fr) hh (fun e f h => e = .normal ∧ f = fr1 ∧ h = hh)) (hB : WP P N bd fr1 (hh.put id (.loop .busy none N ps asn bd fr)) (roundQ id N ps asn bd fr K)) : YieldW P id args hh K := by
  refine ⟨N, ps, asn, bd, fr, ho, hl, hp, hna, hnb, hA.mono ?_⟩
  rintro e f h ⟨rfl, rfl, rfl⟩
  refine ⟨ho, hB.mono fun e fr2 h2 hq => ?_⟩
  cases e with
  | normal => exact hq
  | exit i => exact hq
  | ret => exact hq
theorem z03.go {f : FuncId} {args : List AV} {h : z04} {v0 : AV} {K : AV → z04 → Prop} (H : z03 P f args h (fun v h2 => v = v0 ∧ h2 = h)) (hk : K v0 h) : z03 P f args h K := H.mono (by rintro _ _ ⟨rfl, rfl⟩; exact hk)
end
end Go.Abs
end

