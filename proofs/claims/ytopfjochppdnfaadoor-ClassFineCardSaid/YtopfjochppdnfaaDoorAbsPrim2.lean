/- The other operations. -/
import Derived.Laws.FloatArith
import Derived.Test.YtopfjochppdnfaaDoorAbsApp2
set_option linter.unusedVariables false
set_option linter.unusedSimpArgs false
namespace Go.Abs
open Go.RowKit

/-- A byte of a string. -/
def pIndexStr (x i : AV) (K : AV → Prop) : Prop :=
  match x, i with
  | .str s, .int _ i => 0 ≤ i ∧ (match s[i.toNat]? with | some b => K (.int .u8 b.toNat) | none => False)
  | _, _ => False

/-- A bound: given, or what it is else. -/
def bnd (d : Nat) : Option AV → Option Int
  | none => some d
  | some (.int _ i) => some i
  | _ => none

def pSliceStr (x : AV) (lo hi : Option AV) (K : AV → Prop) : Prop :=
  match x with
  | .str s => match bnd 0 lo, bnd s.length hi with
    | some l, some h => 0 ≤ l ∧ l ≤ h ∧ h ≤ s.length ∧ K (.str ((s.take h.toNat).drop l.toNat))
    | _, _ => False
  | _ => False

def pSliceSl (n : Nat) (x : AV) (lo hi : Option AV) (K : AV → Prop) : Prop :=
  match x with
  | .isl sz es => match bnd 0 lo, bnd es.length hi with
    | some l, some h => sz = n ∧ 0 ≤ l ∧ l ≤ h ∧ h ≤ es.length ∧ K (.isl sz ((es.take h.toNat).drop l.toNat))
    | _, _ => False
  | .gsl _ sz es => match bnd 0 lo, bnd es.length hi with
    | some l, some h => sz = n ∧ 0 ≤ l ∧ l ≤ h ∧ h ≤ es.length ∧ K (.isl sz ((es.take h.toNat).drop l.toNat))
    | _, _ => False
  | .nils => match bnd 0 lo, bnd 0 hi with
    | some l, some h => l = 0 ∧ h = 0 ∧ K .nils
    | _, _ => False
  | .eml => match bnd 0 lo, bnd 0 hi with
    | some l, some h => l = 0 ∧ h = 0 ∧ K .eml
    | _, _ => False
  | .sl id off len sz => match bnd 0 lo, bnd len hi with
    | some l, some h => sz = n ∧ 0 ≤ l ∧ l ≤ h ∧ h ≤ len ∧ (if l = 0 then K (.sl id off h.toNat sz) else if l = h then K (.isl sz []) else K (.sl id (off + l.toNat * sz) (h.toNat - l.toNat) sz))
    | _, _ => False
  | _ => False

inductive LenK | str | slice | array (n : Nat) | map
def lenK (P : Program) (t : TypeId) : Option LenK :=
  match P.underlying t with
  | some .string => some .str
  | some (.slice _) => some .slice
  | some (.array n _) => some (.array n)
  | some (.map _ _) => some .map
  | some (.pointer a) => match P.underlying a with | some (.array n _) => some (.array n) | _ => none
  | _ => none

def pLen (k : LenK) (x : AV) (K : AV → Prop) : Prop :=
  match k, x with
  | .str, .str s => K (.int .i64 s.length)
  | .slice, .isl _ es => K (.int .i64 es.length)
  | .slice, .gsl _ _ es => K (.int .i64 es.length)
  | .slice, .nils => K (.int .i64 0)
  | .slice, .eml => K (.int .i64 0)
  | .slice, .sl _ _ len _ => K (.int .i64 len)
  | .array n, _ => K (.int .i64 n)
  | _, _ => False

def ofLeaf : Value → AV
  | .int k n => .int k n
  | .bool b => .bool b
  | .string s => .str s.data.toList
  | .float k b => .flt k b
  | .pointer none => .nilp
  | .slice none 0 0 => .nils
  | .map none => .nilm
  | .nilFunc => .nilf
  | .nilIface => .nili
  | _ => .und
def ofConst : Value → AV
  | .agg cs => if cs.toList.all (·.oneCell') then .agg (cs.toList.map ofLeaf) else .und
  | v => ofLeaf v

def zeroK (P : Program) (t : TypeId) : Option (List AV) :=
  match P.info? t with
  | some i => match i.zero with
    | some z => if z.cells.toList.all (·.oneCell') then some (z.cells.toList.map ofLeaf) else none
    | none => none
  | none => none

def pAlloc (ty : TypeId) (zero : List AV) (h : AHeap) (K : AV → AHeap → Prop) : Prop := K (.ptr h.next 0) (h.push (.row ty zero))
def pBox (im : Bool) (ty : TypeId) (v : AV) (h : AHeap) (K : AV → AHeap → Prop) : Prop :=
  v.fits = true ∧ (if im then K (.iptr v.cells) h else K (.ptr h.next 0) (h.push (.row ty v.cells)))

def fillA (place : Nat → Option (Nat × Nat)) (cells : List AV) : List (Nat × AV) → Option (List AV)
  | [] => some cells
  | (i, v) :: rest => match place i with
    | none => none
    | some (off, size) => if v.fits = true ∧ v.cells.length = size ∧ off + size ≤ cells.length then fillA place (cells.take off ++ v.cells ++ cells.drop (off + size)) rest else none

def placesK (P : Program) (t : TypeId) : Option (List (Nat × Nat)) :=
  match P.underlying t with
  | some (.struct fs) => fs.toList.mapM fun f => (P.info? f.type).map fun i => (f.offset, i.size)
  | _ => none

def pBuild (places : List (Nat × Nat)) (zero : List AV) (parts : List (Nat × AV)) (K : AV → Prop) : Prop :=
  match fillA (places[·]?) zero parts with | some cs => K (.agg cs) | none => False

/-- Elements put at their places. -/
def fillE (sz : Nat) (es : List (List AV)) : List (Nat × AV) → Option (List (List AV))
  | [] => some es
  | (i, v) :: rest => if v.fits = true ∧ v.cells.length = sz ∧ i < es.length then fillE sz (es.set i v.cells) rest else none

def pBuildSl (im : Bool) (T : SlT) (zero : List AV) (len : Nat) (parts : List (Nat × AV)) (h : AHeap) (K : AV → AHeap → Prop) : Prop :=
  match len with
  | 0 => K .eml h
  | len + 1 => (len + 1) * T.sz ≤ 16777216 ∧ zero.length = T.sz ∧
    match fillE T.sz (List.replicate (len + 1) zero) parts with
    | some es => if im then K (.isl T.sz es) h else K (.sl h.next 0 (len + 1) T.sz) (h.push (.row T.e es.flatten))
    | none => False

def repC (n : Nat) : List AV → List AV
  | [a] => List.replicate n a
  | z => (List.replicate n z).flatten

def pMakeSl (T : SlT) (zero : List AV) (l k : AV) (h : AHeap) (K : AV → AHeap → Prop) : Prop :=
  match l, k with
  | .int _ l, .int _ k => 0 ≤ l ∧ l ≤ k ∧ k ≤ 9223372036854775807 ∧ T.by_ * k ≤ 281474976710656 ∧ zero.length = T.sz ∧ K (.sl h.next 0 l.toNat T.sz) (h.push (.row T.e (repC l.toNat zero)))
  | _, _ => False

inductive CvK | int (k : IntKind) | same | bytesStr (sz : Nat) | i2f (k : FloatKind) | f2i (k : IntKind)
def convK (P : Program) (src dst : TypeId) : Option CvK :=
  match P.underlying src, P.underlying dst with
  | some (.int _), some (.int k) => some (.int k)
  | some (.int _), some (.float k) => some (.i2f k)
  | some (.float _), some (.int k) => some (.f2i k)
  | some .string, some .string => some .same
  | some (.slice e), some .string => match P.underlying e with | some (.int .u8) => some (.bytesStr 1) | _ => none
  | _, _ => none

def bytesOf : List (List AV) → Option (List UInt8)
  | [] => some []
  | [.int .u8 n] :: es => (bytesOf es).map (UInt8.ofNat n.toNat :: ·)
  | _ => none

def pConv (ck : CvK) (x : AV) (h : AHeap) (K : AV → Prop) : Prop :=
  match ck, x with
  | .int k, .int _ n => K (.int k (k.wrap n))
  | .same, .str s => K (.str s)
  | .i2f k, .int _ n => K (.flt k (k.nearest n))
  | .f2i k, .flt s b => match floatToIntVal s b k with | some n => K (.int k n) | none => False
  | .bytesStr _, .str _ => False
  | .bytesStr n, x => match srcElems n x h with
    | some es => match bytesOf es with | some s => K (.str s) | none => False
    | none => False
  | _, _ => False

def unA (op : UnOp) (x : AV) : Option AV :=
  match op, x with
  | .neg, .int k n => some (.int k (k.wrap (0 - n)))
  | .xor, .int k n => some (.int k (iXor k (if k.signed then -1 else k.max) n))
  | .not, .bool b => some (.bool !b)
  | .not, .unkb => some .unkb
  | _, _ => none

def maxA : List AV → Option AV
  | [.int k x] => some (.int k x)
  | .int k x :: .int k' y :: rest => maxA (.int k (if y > x then y else x) :: rest)
  | _ => none
termination_by l => l.length
def minA : List AV → Option AV
  | [.int k x] => some (.int k x)
  | .int k x :: .int k' y :: rest => minA (.int k (if y < x then y else x) :: rest)
  | _ => none
termination_by l => l.length

def pExtract (i : Nat) (x : AV) (K : AV → Prop) : Prop :=
  match x with
  | .tup vs => match vs[i]? with | some v => K v | none => False
  | _ => False

section
variable {P : Program} {B : Nat} {c : Ctx} {h : AHeap} {w : World}

theorem getElem?_str (s : List UInt8) (i : Nat) : (⟨s.toArray⟩ : ByteArray)[i]? = s[i]? := by
  by_cases hi : i < s.length
  · rw [getElem?_pos (⟨s.toArray⟩ : ByteArray) i (by rw [size_str]; exact hi), getElem?_pos s i hi]; rfl
  · rw [getElem?_neg (⟨s.toArray⟩ : ByteArray) i (by rw [size_str]; exact hi), getElem?_neg s i hi]

theorem pIndexStr_sound (W : WRel B c h w) {t : TypeId} {x i : AV} {u j : Value} {K : AV → AHeap → Prop} (ht : P.underlying t = some .string) (hx : VRel c w x u) (hi : VRel c w i j) (H : pIndexStr x i (fun v => K v h)) : Does P B c w (Instr.index t u j) K := by
  unfold pIndexStr at H
  split at H
  · rename_i s k q
    obtain ⟨h0, H⟩ := H
    rw [hx.str_inv, hi.int_inv]
    split at H
    · rename_i b hb
      have hb' : (⟨s.toArray⟩ : ByteArray)[q.toNat]? = some b := by rw [getElem?_str]; exact hb
      exact Does.pure_ W (by simp [Instr.index, asIntOf, run_underlying ht, h0, hb']; rfl) (by simp [VRel]) H
    · exact H.elim
  · exact H.elim

theorem bnd_run {d : Nat} {lo : Option AV} {l : Int} {lv : Option Value} (hb : bnd d lo = some l) (hr : (lo = none ∧ lv = none) ∨ ∃ a v, lo = some a ∧ lv = some v ∧ VRel c w a v) {y : Nat} (h0 : 0 ≤ l) (h1 : l ≤ y) (code : BoundsCode) :
    (match lv with | some v => Instr.sliceBound v y code | none => pure d : Sem Nat).run P w = .ok l.toNat w := by
  rcases hr with ⟨rfl, rfl⟩ | ⟨a, v, rfl, rfl, hv⟩
  · simp only [bnd, Option.some.injEq] at hb
    subst hb; simp
  · cases a <;> simp only [bnd] at hb <;> (try (cases hb; done))
    cases hb
    have := hv.int_inv
    subst this
    simp [Instr.sliceBound, asIntOf, h0, h1]

/-- How optional operands stand to optional values. -/
def ORelV (c : Ctx) (w : World) (a : Option AV) (v : Option Value) : Prop := (a = none ∧ v = none) ∨ ∃ x u, a = some x ∧ v = some u ∧ VRel c w x u

theorem bounds_run {isSl : Bool} {len cap : Nat} {lo hi : Option AV} {lv hv : Option Value} {l k : Int} (hlo : ORelV c w lo lv) (hhi : ORelV c w hi hv) (hl : bnd 0 lo = some l) (hk : bnd len hi = some k) (h0 : 0 ≤ l) (h1 : l ≤ k) (h2 : k ≤ len) (h3 : len ≤ cap) :
    (Instr.sliceBounds isSl len cap lv hv none).run P w = .ok (l.toNat, k.toNat, cap) w := by
  have e1 := fun code => bnd_run (P := P) (c := c) (w := w) hk hhi (y := cap) (by omega) (by omega) code
  have e2 := fun code => bnd_run (P := P) (c := c) (w := w) hl hlo (y := k.toNat) h0 (by omega) code
  unfold Instr.sliceBounds
  simp only [Sem.run_bind, Sem.run_pure, Result.andThen_ok]
  have e3 : ∀ (b : Bool), (if b = true then BoundsCode.sliceAcap else BoundsCode.sliceAlen) = if b then .sliceAcap else .sliceAlen := fun _ => rfl
  cases hv with
  | none =>
    have e1' := e1 .sliceAlen
    simp only [Sem.run_pure, Result.ok.injEq, and_true] at e1'
    subst e1'
    simp only [Sem.run_pure, Result.andThen_ok]
    cases lv with
    | none =>
      have e2' := e2 .sliceB
      simp only [Sem.run_pure, Result.ok.injEq, and_true] at e2'
      simp [e2']
    | some v => simp [e2 .sliceB]
  | some v =>
    have e1' := e1 (if isSl then .sliceAcap else .sliceAlen)
    simp only at e1'
    cases lv with
    | none =>
      have e2' := e2 .sliceB
      simp only [Sem.run_pure, Result.ok.injEq, and_true] at e2'
      cases isSl <;> (simp at e1' ⊢; simp [e1', e2'])
    | some v =>
      have e2' := e2 .sliceB
      simp only at e2'
      cases isSl <;> (simp at e1' ⊢; simp [e1', e2'])

theorem extract_str (s : List UInt8) (a b : Nat) : (⟨s.toArray⟩ : ByteArray).extract a b = ⟨((s.take b).drop a).toArray⟩ := by
  apply ByteArray.ext
  rw [ByteArray.data_extract]
  apply Array.ext'
  simp [List.extract_eq_take_drop, List.drop_take]

theorem pSliceStr_sound (W : WRel B c h w) {t : TypeId} {x : AV} {lo hi : Option AV} {u : Value} {lv hv : Option Value} {K : AV → AHeap → Prop} (ht : P.underlying t = some .string) (hx : VRel c w x u) (hlo : ORelV c w lo lv) (hhi : ORelV c w hi hv)
    (H : pSliceStr x lo hi (fun v => K v h)) : Does P B c w (Instr.sliceAt t u lv hv none) K := by
  unfold pSliceStr at H
  split at H
  · rename_i s
    split at H
    · rename_i l k hl hk
      obtain ⟨h0, h1, h2, H⟩ := H
      rw [hx.str_inv]
      have hb := bounds_run (P := P) (isSl := false) (cap := s.length) hlo hhi hl hk h0 h1 h2 (Nat.le_refl _)
      refine Does.pure_ W (u := .string ⟨((s.take k.toNat).drop l.toNat).toArray⟩) ?_ (by simp [VRel]) H
      simp [Instr.sliceAt, Instr.slice, run_underlying ht, size_str, hb, extract_str]
    · exact H.elim
  · exact H.elim

theorem pSliceSl_sound (W : WRel B c h w) {t e : TypeId} {n : Nat} {x : AV} {lo hi : Option AV} {u : Value} {lv hv : Option Value} {K : AV → AHeap → Prop} (ht : P.underlying t = some (.slice e)) (hn : szK P e = some n) (hx : VRel c w x u) (hlo : ORelV c w lo lv) (hhi : ORelV c w hi hv)
    (H : pSliceSl n x lo hi (fun v => K v h)) : Does P B c w (Instr.sliceAt t u lv hv none) K := by
  have go : ∀ (a : Option Addr) (len cap : Nat) (l k : Int), bnd 0 lo = some l → bnd len hi = some k → 0 ≤ l → l ≤ k → k ≤ len → len ≤ cap →
      (Instr.sliceAt t (.slice a len cap) lv hv none).run P w = .ok (.slice (if cap = l.toNat then a else a.map (·.add (l.toNat * n))) (k.toNat - l.toNat) (cap - l.toNat)) w := by
    intro a len cap l k hl hk h0 h1 h2 h3
    have hb := bounds_run (P := P) (isSl := true) hlo hhi hl hk h0 h1 h2 h3
    simp [Instr.sliceAt, Instr.slice, run_underlying ht, hb, run_sizeOf' hn]
  have islc : ∀ (es : List (List AV)) (a : Option Addr) (cap : Nat) (l k : Int), bnd 0 lo = some l → bnd es.length hi = some k → 0 ≤ l → l ≤ k → k ≤ es.length → es.length ≤ cap → es.length ≤ 9223372036854775807 → (es ≠ [] → ∃ b off, a = some ⟨b, off, none⟩ ∧ ERel c w n es b off) →
      K (.isl n ((es.take k.toNat).drop l.toNat)) h → Does P B c w (Instr.sliceAt t (.slice a es.length cap) lv hv none) K := by
    intro es a cap l k hl hk h0 h1 h2 h3 h4 hne H
    refine Does.pure_ W (go a _ cap l k hl hk h0 h1 h2 h3) ?_ H
    simp only [VRel]
    have hlen : ((es.take k.toNat).drop l.toNat).length = k.toNat - l.toNat := by simp; omega
    refine ⟨_, _, by rw [hlen], by rw [hlen]; omega, by rw [hlen]; omega, fun hne' => ?_⟩
    have hlk : l.toNat < k.toNat := by
      have := List.length_pos_iff.2 hne'; rw [hlen] at this; omega
    obtain ⟨b, off, rfl, hE⟩ := hne (by rintro rfl; simp at hne')
    refine ⟨b, off + l.toNat * n, ?_, ERel.drop _ (ERel.take _ hE)⟩
    rw [if_neg (by omega)]
    simp [addr_add]
  unfold pSliceSl at H
  split at H
  · split at H
    · rename_i sz es _ _ l k hl hk
      obtain ⟨rfl, h0, h1, h2, H⟩ := H
      simp only [VRel] at hx
      obtain ⟨a, cap, rfl, h3, h4, hne⟩ := hx
      exact islc es a cap l k hl hk h0 h1 h2 h3 h4 hne H
    · exact H.elim
  · split at H
    · rename_i id sz es _ _ l k hl hk
      obtain ⟨rfl, h0, h1, h2, H⟩ := H
      simp only [VRel] at hx
      obtain ⟨b, cap, ty, _, rfl, h3, h4, _, hE⟩ := hx
      exact islc es _ cap l k hl hk h0 h1 h2 h3 (by simp only [maxLen] at h4; omega) (fun _ => ⟨b, 0, rfl, hE⟩) H
    · exact H.elim
  · split at H
    · rename_i l k hl hk
      obtain ⟨rfl, rfl, H⟩ := H
      simp only [VRel] at hx; subst hx
      exact Does.pure_ W (go none 0 0 0 0 hl hk (by omega) (by omega) (by omega) (by omega)) (by simp [VRel]) H
    · exact H.elim
  · split at H
    · rename_i l k hl hk
      obtain ⟨rfl, rfl, H⟩ := H
      simp only [VRel] at hx; obtain ⟨a, rfl⟩ := hx
      exact Does.pure_ W (go (some a) 0 0 0 0 hl hk (by omega) (by omega) (by omega) (by omega)) (by simp [VRel]) H
    · exact H.elim
  · split at H
    · rename_i id off len sz _ _ l k hl hk
      obtain ⟨rfl, h0, h1, h2, H⟩ := H
      simp only [VRel] at hx
      obtain ⟨b, cap, ty, hm, rfl, h3, h4, hs⟩ := hx
      have hr := go (some ⟨b, off, none⟩) len cap l k hl hk h0 h1 h2 h3
      split at H
      · rename_i hl0
        subst hl0
        refine Does.pure_ W hr ?_ H
        simp only [VRel]
        exact ⟨b, cap, ty, hm, by simp [Addr.add], by omega, h4, hs⟩
      · split at H
        · rename_i hl0 hlk
          subst hlk
          refine Does.pure_ W hr ?_ H
          simp only [VRel]
          exact ⟨if cap = l.toNat then some ⟨b, off, none⟩ else Option.map (fun (x : Addr) => x.add (l.toNat * sz)) (some ⟨b, off, none⟩), cap - l.toNat, by simp only [List.length_nil, Nat.sub_self], by simp, by simp, fun hne => absurd rfl hne⟩
        · rename_i hl0 hlk
          refine Does.pure_ W hr ?_ H
          simp only [VRel]
          refine ⟨b, cap - l.toNat, ty, hm, ?_, by omega, by omega, ?_⟩
          · rw [if_neg (by omega)]; simp [addr_add]
          · have : off + l.toNat * sz + (cap - l.toNat) * sz = off + cap * sz := by
              rw [Nat.add_assoc, ← Nat.add_mul]; congr 2; omega
            rw [this]; exact hs
    · exact H.elim
  · exact H.elim

theorem pLen_sound (W : WRel B c h w) {t : TypeId} {lk : LenK} {x : AV} {u : Value} {ty : TypeId} {K : AV → AHeap → Prop} (hk : lenK P t = some lk) (hx : VRel c w x u) (H : pLen lk x (fun v => K v h)) : Does P B c w (Builtin.len_ #[t] ty #[u]) K := by
  unfold lenK at hk
  cases hd : P.underlying t with
  | none => simp [hd] at hk
  | some d =>
    cases d <;> simp only [hd] at hk <;> (try (cases hk; done))
    case string =>
      cases hk
      cases x <;> simp only [pLen] at H <;> (try (exact H.elim))
      rw [hx.str_inv]
      exact Does.pure_ W (by simp [Builtin.len_, run_underlying hd, size_str]; rfl) (by simp [VRel, goInt]) H
    case slice =>
      cases hk
      have go : ∀ a n k, (Builtin.len_ #[t] ty #[.slice a n k]).run P w = .ok (.int .i64 n) w := by intro a n k; simp [Builtin.len_, run_underlying hd, goInt]
      cases x <;> simp only [pLen] at H <;> (try (exact H.elim)) <;> simp only [VRel] at hx
      · subst hx; exact Does.pure_ W (go _ _ _) (by simp [VRel]) H
      · obtain ⟨a, rfl⟩ := hx; exact Does.pure_ W (go _ _ _) (by simp [VRel]) H
      · obtain ⟨a, k, rfl, _⟩ := hx; exact Does.pure_ W (go _ _ _) (by simp [VRel]) H
      · obtain ⟨b, k, t', _, rfl, _⟩ := hx; exact Does.pure_ W (go _ _ _) (by simp [VRel]) H
      · obtain ⟨b, k, t', _, rfl, _⟩ := hx; exact Does.pure_ W (go _ _ _) (by simp [VRel]) H
    case array n e =>
      cases hk
      simp only [pLen] at H
      exact Does.pure_ W (by simp [Builtin.len_, run_underlying hd]; rfl) (by simp [VRel, goInt]) H
    case map =>
      cases hk
      cases x <;> simp only [pLen] at H <;> exact H.elim
    case pointer a =>
      cases ha : P.underlying a with
      | none => simp [ha] at hk
      | some d' =>
        cases d' <;> simp only [ha] at hk <;> (try (cases hk; done))
        cases hk
        simp only [pLen] at H
        exact Does.pure_ W (by simp [Builtin.len_, run_underlying hd, run_underlying ha]; rfl) (by simp [VRel, goInt]) H

theorem ofLeaf_rel (c : Ctx) (w : World) (v : Value) : VRel c w (ofLeaf v) v := by
  unfold ofLeaf
  split <;> simp [VRel]
theorem ofLeafs_rel (c : Ctx) (w : World) (vs : List Value) : LRel c w (vs.map ofLeaf) vs := by
  induction vs with
  | nil => simp [LRel]
  | cons v vs ih => simp only [List.map_cons, LRel]; exact ⟨v, vs, rfl, ofLeaf_rel c w v, ih⟩
theorem ofConst_rel (c : Ctx) (w : World) (v : Value) : VRel c w (ofConst v) v := by
  unfold ofConst
  split
  · split
    · rename_i cs hc
      simp only [VRel]
      exact ⟨cs, rfl, ofLeafs_rel c w _, List.all_eq_true.1 hc⟩
    · simp [VRel]
  · exact ofLeaf_rel c w v

theorem zeroK_inv {t : TypeId} {zs : List AV} (hz : zeroK P t = some zs) : ∃ i z, P.info? t = some i ∧ i.zero = some z ∧ (∀ u ∈ z.cells.toList, u.oneCell' = true) ∧ zs = z.cells.toList.map ofLeaf := by
  unfold zeroK at hz
  cases hi : P.info? t with
  | none => simp [hi] at hz
  | some i =>
    cases hzz : i.zero with
    | none => simp [hi, hzz] at hz
    | some z =>
      simp only [hi, hzz] at hz
      split at hz
      · rename_i hc
        cases hz
        exact ⟨i, z, rfl, hzz, List.all_eq_true.1 hc, rfl⟩
      · cases hz

theorem pAlloc_sound (W : WRel B c h w) {t : TypeId} {zs : List AV} {K : AV → AHeap → Prop} (hz : zeroK P t = some zs) (H : pAlloc t zs h K) : Does P B c w (Instr.alloc t true (.tuple #[])) K := by
  obtain ⟨i, z, hi, hzz, h1, rfl⟩ := zeroK_inv hz
  obtain ⟨c', E, W', hm⟩ := W.newRow z.cells t _ (ofLeafs_rel c w _) h1
  refine ⟨c', .pointer (some ⟨w.heap.size, 0, none⟩), _, _, w.alloc (.cells z.cells t), ?_, E, W', ?_, H⟩
  · simp [Instr.alloc, zeroValue, typeInfo, hi, hzz, newVar, newRow]
  · simp only [VRel]; exact ⟨_, hm, rfl⟩

theorem pBox_sound (W : WRel B c h w) {im : Bool} {t : TypeId} {v : AV} {u : Value} {K : AV → AHeap → Prop} (hv : VRel c w v u) (H : pBox im t v h K) : Does P B c w (Instr.box t u) K := by
  obtain ⟨hf, H⟩ := H
  obtain ⟨h1, h2⟩ := AV.fits_cells hf hv
  cases im with
  | true =>
    obtain ⟨c', E, W', hM⟩ := W.newIm u.cells t _ h1 h2
    refine ⟨c', .pointer (some ⟨w.heap.size, 0, none⟩), _, _, w.alloc (.cells u.cells t), ?_, E, W', ?_, by simpa using H⟩
    · simp [Instr.box, newVar, newRow]
    · simp only [VRel]; exact ⟨_, _, rfl, hM⟩
  | false =>
    obtain ⟨c', E, W', hm⟩ := W.newRow u.cells t _ h1 h2
    refine ⟨c', .pointer (some ⟨w.heap.size, 0, none⟩), _, _, w.alloc (.cells u.cells t), ?_, E, W', ?_, by simpa using H⟩
    · simp [Instr.box, newVar, newRow]
    · simp only [VRel]; exact ⟨_, hm, rfl⟩

/-- Parts and their values. -/
def PRel (c : Ctx) (w : World) : List (Nat × AV) → List (Nat × Value) → Prop
  | [], vs => vs = []
  | (i, a) :: as, vs => ∃ v vs', vs = (i, v) :: vs' ∧ VRel c w a v ∧ PRel c w as vs'

theorem foldl_set (vs : List Value) : ∀ (cells : Array Value) (off j : Nat), off + j + vs.length ≤ cells.size →
    (vs.zipIdx j).foldl (fun (cs : Array Value) x => cs.setIfInBounds (off + x.2) x.1) cells = (cells.toList.take (off + j) ++ vs ++ cells.toList.drop (off + j + vs.length)).toArray := by
  induction vs with
  | nil => intro cells off j hj; simp
  | cons v vs ih =>
    intro cells off j hj
    simp only [List.length_cons] at hj
    simp only [List.zipIdx_cons, List.foldl_cons]
    rw [ih _ off (j + 1) (by simp; omega)]
    congr 1
    simp only [Array.toList_setIfInBounds]
    apply List.ext_getElem?
    intro k
    simp only [List.getElem?_append, List.length_take, List.length_append, List.length_set, List.length_cons, List.getElem?_take, List.getElem?_drop, List.getElem?_set, Array.length_toList]
    have e1 : min (off + (j + 1)) cells.size = off + j + 1 := by omega
    have e2 : min (off + j) cells.size = off + j := by omega
    rw [e1, e2]
    by_cases h1 : k < off + j
    · simp [h1, show k < off + j + 1 + vs.length by omega, show k < off + j + 1 by omega, show k < off + (j + 1) by omega, show ¬ off + j = k by omega, show k < off + j + (vs.length + 1) by omega]
    · by_cases h2 : k = off + j
      · subst h2
        simp [show off + j < off + j + 1 + vs.length by omega, show off + j < off + (j + 1) by omega, show off + j < cells.size by omega]
      · by_cases h3 : k < off + j + 1 + vs.length
        · have h4 : ¬ k < off + j + 1 := by omega
          simp only [h3, h4, h1, if_true, if_false, show k < off + j + (vs.length + 1) by omega]
          obtain ⟨q, rfl⟩ : ∃ q, k = off + j + 1 + q := ⟨k - (off + j + 1), by omega⟩
          rw [show off + j + 1 + q - (off + j) = q + 1 by omega, List.getElem?_cons_succ]
          congr 1; omega
        · have h4 : ¬ k < off + j + (vs.length + 1) := by omega
          simp only [h3, h4, if_false]
          rw [if_neg (by omega)]
          congr 1; omega

theorem fillA_sound {pl : Nat → Option (Nat × Nat)} : ∀ (parts : List (Nat × AV)) (vs : List (Nat × Value)) (cs : List AV) (C : Array Value) (r : List AV), PRel c w parts vs → LRel c w cs C.toList → (∀ u ∈ C.toList, u.oneCell' = true) → fillA pl cs parts = some r →
    ∃ R, Instr.fill pl C vs = some R ∧ LRel c w r R.toList ∧ (∀ u ∈ R.toList, u.oneCell' = true) := by
  intro parts
  induction parts with
  | nil =>
    intro vs cs C r hp hc h1 hf
    simp only [PRel] at hp; subst hp
    simp only [fillA, Option.some.injEq] at hf; subst hf
    exact ⟨C, rfl, hc, h1⟩
  | cons p parts ih =>
    obtain ⟨i, a⟩ := p
    intro vs cs C r hp hc h1 hf
    simp only [PRel] at hp
    obtain ⟨v, vs', rfl, hv, hp⟩ := hp
    simp only [fillA] at hf
    cases hpl : pl i with
    | none => simp [hpl] at hf
    | some q =>
      obtain ⟨off, size⟩ := q
      simp only [hpl] at hf
      split at hf <;> (try (cases hf; done))
      rename_i hh
      obtain ⟨g1, g2, g3⟩ := hh
      obtain ⟨k1, k2⟩ := AV.fits_cells g1 hv
      have hl := k1.length
      have hcl := hc.length
      have hvs : v.cells.size = size := by rw [← g2, ← hl]; simp
      have hfold := foldl_set v.cells.toList C off 0 (by simp at hcl ⊢; omega)
      have hz : (v.cells.zipIdx.foldl (fun cs (x : Value × Nat) => cs.setIfInBounds (off + x.2) x.1) C) = (C.toList.take off ++ v.cells.toList ++ C.toList.drop (off + size)).toArray := by
        rw [← Array.foldl_toList, Array.toList_zipIdx]
        simpa [hvs] using hfold
      obtain ⟨R, r1, r2, r3⟩ := ih vs' _ (C.toList.take off ++ v.cells.toList ++ C.toList.drop (off + size)).toArray r hp (by simpa using ((LRel.take off hc).append k1).append (LRel.drop (off + size) hc)) (by
        intro u hu
        simp only [List.toList_toArray, List.mem_append] at hu
        rcases hu with (hu | hu) | hu
        · exact h1 u (List.mem_of_mem_take hu)
        · exact k2 u hu
        · exact h1 u (List.mem_of_mem_drop hu)) hf
      refine ⟨R, ?_, r2, r3⟩
      simp only [Instr.fill, hpl]
      rw [if_neg]
      · have e : (v.cells.zipIdx.foldl (fun cs x => match x with | (c, j) => cs.setIfInBounds (off + j) c) C) = (v.cells.zipIdx.foldl (fun cs (x : Value × Nat) => cs.setIfInBounds (off + x.2) x.1) C) := rfl
        rw [e, hz]; exact r1
      · simp at hcl
        have g4 : ¬ C.size < off + v.cells.size := by omega
        simp [hvs, g4]
        omega

theorem pBuild_sound (W : WRel B c h w) {t : TypeId} {pl : List (Nat × Nat)} {zs : List AV} {parts : List (Nat × AV)} {vs : Array (Nat × Value)} {K : AV → AHeap → Prop} (hp : placesK P t = some pl) (hz : zeroK P t = some zs) (hv : PRel c w parts vs.toList) (H : pBuild pl zs parts (fun v => K v h)) : Does P B c w (Instr.build t vs) K := by
  obtain ⟨i, z, hi, hzz, h1, rfl⟩ := zeroK_inv hz
  unfold placesK at hp
  cases hd : P.underlying t with
  | none => simp [hd] at hp
  | some d =>
    cases d <;> simp only [hd] at hp <;> (try (cases hp; done))
    rename_i fs
    unfold pBuild at H
    split at H
    · rename_i cs hcs
      obtain ⟨R, r1, r2, r3⟩ := fillA_sound parts vs.toList _ z.cells cs hv (ofLeafs_rel c w _) h1 hcs
      refine Does.pure_ W (run_build w t vs R ?_) (by simp only [VRel]; exact ⟨R, rfl, r2, r3⟩) H
      simp only [Program.built, hi, hd, hzz, hp]
      simpa using r1
    · exact H.elim

end
end Go.Abs
