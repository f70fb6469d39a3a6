/- The operations that read, lay and cut memory: on abstract values, and that the machine's do the same. -/
import Derived.Test.YtopfjochppdnfaaDoorAbsMem
import Derived.Laws.Tables
set_option linter.unusedVariables false
set_option linter.unusedSimpArgs false
namespace Go.Abs
open Go.RowKit

def aggD : TypeDesc → Bool | .struct _ | .array _ _ => true | _ => false
/-- How a variable of this type is read: one cell (none), or so many (some n). -/
def ldK (P : Program) (t : TypeId) : Option (Option Nat) :=
  match P.underlying t, P.info? t with
  | some d, some i => some (if aggD d then some i.size else none)
  | _, _ => none
def szK (P : Program) (t : TypeId) : Option Nat := (P.info? t).map (·.size)

/-- Cells out of cells. -/
def pCells (k : Option Nat) (cs : List AV) (off : Nat) (K : AV → Prop) : Prop :=
  match k with
  | none => match cs[off]? with | some v => K v | none => False
  | some n => off + n ≤ cs.length ∧ K (.agg ((cs.drop off).take n))

def pLoad (k : Option Nat) (x : AV) (h : AHeap) (K : AV → Prop) : Prop :=
  match x with
  | .ptr id off => match h.objs id with | some (.row _ cs) => pCells k cs off K | _ => False
  | .iptr cs => pCells k cs 0 K
  | _ => False

def AV.leafy : AV → Bool
  | .und | .tup _ | .agg _ => false
  | _ => true

def pStore (sz : Nat) (x v : AV) (h : AHeap) (K : AHeap → Prop) : Prop :=
  match x with
  | .ptr id off => match h.objs id with
    | some (.row ty cs) => match v with
      | .agg vs => vs.length = sz ∧ off + sz ≤ cs.length ∧ K (h.put id (.row ty (cs.take off ++ vs ++ cs.drop (off + sz))))
      | v => v.leafy = true ∧ sz = 1 ∧ off < cs.length ∧ K (h.put id (.row ty (cs.set off v)))
    | _ => False
  | _ => False

def pNil (x : AV) (K : AV → Prop) : Prop :=
  match x with
  | .ptr id off => K (.ptr id off)
  | .iptr cs => K (.iptr cs)
  | .fn (.func f) a b => K (.fn (.func f) a b)
  | _ => False

def pFieldAddr (off : Nat) (x : AV) (K : AV → Prop) : Prop :=
  match x with
  | .ptr id o => K (.ptr id (o + off))
  | .iptr cs => K (.iptr (cs.drop off))
  | _ => False

/-- A field's offset and kind. -/
def fldK (P : Program) (t : TypeId) (f : Nat) : Option (Nat × Option Nat) :=
  match P.underlying t with
  | some (.struct fs) => match fs[f]? with
    | some fl => match ldK P fl.type with | some k => some (fl.offset, k) | none => none
    | none => none
  | _ => none
/-- A field's offset, where the field has cells. -/
def fadK (P : Program) (t : TypeId) (f : Nat) : Option Nat :=
  match P.underlying t with
  | some (.struct fs) => match fs[f]? with
    | some fl => match szK P fl.type with | some (n + 1) => some fl.offset | _ => none
    | none => none
  | _ => none

def pField (off : Nat) (k : Option Nat) (x : AV) (K : AV → Prop) : Prop :=
  match x with
  | .agg cs => pCells k cs off K
  | _ => False

inductive IxK | slice (n : Nat) | array (len n : Nat)
def ixK (P : Program) (t : TypeId) : Option IxK :=
  match P.underlying t with
  | some (.slice e) => match szK P e with | some n => some (.slice n) | none => none
  | some (.array len e) => match szK P e with | some n => some (.array len n) | none => none
  | _ => none

def pIndexAddr (ik : IxK) (x i : AV) (K : AV → Prop) : Prop :=
  match ik, x, i with
  | .slice n, .isl sz es, .int _ i => n = sz ∧ 0 ≤ i ∧ (match es[i.toNat]? with | some e => K (.iptr e) | none => False)
  | .slice n, .gsl _ sz es, .int _ i => n = sz ∧ 0 ≤ i ∧ (match es[i.toNat]? with | some e => K (.iptr e) | none => False)
  | .slice n, .sl id off len sz, .int _ i => n = sz ∧ 0 ≤ i ∧ i < len ∧ K (.ptr id (off + i.toNat * n))
  | .array len n, .ptr id off, .int _ i => 0 ≤ i ∧ i < len ∧ K (.ptr id (off + i.toNat * n))
  | .array len n, .iptr cs, .int _ i => 0 ≤ i ∧ i < len ∧ K (.iptr (cs.drop (i.toNat * n)))
  | _, _, _ => False

section
variable {P : Program} {B : Nat} {c : Ctx} {h : AHeap} {w : World}

theorem ldK_inv {t : TypeId} {k : Option Nat} (hk : ldK P t = some k) : ∃ d i, P.underlying t = some d ∧ P.info? t = some i ∧ (isAgg t).run P w = .ok (aggD d) w ∧ k = if aggD d then some i.size else none := by
  unfold ldK at hk
  cases hd : P.underlying t with
  | none => simp [hd] at hk
  | some d =>
    cases hi : P.info? t with
    | none => simp [hd, hi] at hk
    | some i =>
      simp only [hd, hi, Option.some.injEq] at hk
      refine ⟨d, i, rfl, rfl, ?_, hk.symm⟩
      unfold isAgg
      rw [Sem.run_bind, run_underlying hd w]
      cases d <;> simp [aggD]

theorem run_sizeOf' {t : TypeId} {n : Nat} (hk : szK P t = some n) : (sizeOf t).run P w = .ok n w := by
  unfold szK at hk
  obtain ⟨i, hi, rfl⟩ := Option.map_eq_some_iff.1 hk
  simp [sizeOf, typeInfo, hi]

/-- Reading a variable out of cells that are known. -/
theorem run_loadVar_known {t : TypeId} {k : Option Nat} (hk : ldK P t = some k) {b off : Nat} {cs : List AV} {K : AV → Prop} (hc : ∀ i a, cs[i]? = some a → ∃ u, w.cell? ⟨b, i, none⟩ = some u ∧ u.oneCell' = true ∧ VRel c w a u)
    (H : pCells k cs off K) : ∃ v u, (loadVar t ⟨b, off, none⟩).run P w = .ok u w ∧ VRel c w v u ∧ K v := by
  obtain ⟨d, i, hd, hi, ha, rfl⟩ := ldK_inv (w := w) hk
  cases hag : aggD d with
  | false =>
    simp only [hag, Bool.false_eq_true, if_false, pCells] at H
    cases hv : cs[off]? with
    | none => simp [hv] at H
    | some v =>
      simp only [hv] at H
      obtain ⟨u, h1, h2, h3⟩ := hc off v hv
      exact ⟨v, u, by simp [loadVar, ha, hag, h1], h3, H⟩
  | true =>
    simp only [hag, if_true, pCells] at H
    obtain ⟨hl, H⟩ := H
    obtain ⟨vs, hv1, hv2, hv3, hv4⟩ : ∃ vs : List Value, vs.length = i.size ∧ LRel c w ((cs.drop off).take i.size) vs ∧ (∀ u ∈ vs, u.oneCell' = true) ∧ ∀ j u, vs[j]? = some u → w.cell? ⟨b, off + j, none⟩ = some u := by
      let f : Nat → Value := fun j => (w.cell? ⟨b, off + j, none⟩).getD undef
      have hf : ∀ j, j < i.size → ∃ a, cs[off + j]? = some a ∧ w.cell? ⟨b, off + j, none⟩ = some (f j) ∧ (f j).oneCell' = true ∧ VRel c w a (f j) := by
        intro j hj
        have hlt : off + j < cs.length := by omega
        obtain ⟨u, h1, h2, h3⟩ := hc (off + j) cs[off + j] (by simp [hlt])
        refine ⟨_, by simp [hlt]; rfl, ?_⟩
        have : f j = u := by simp [f, h1]
        rw [this]; exact ⟨h1, h2, h3⟩
      refine ⟨(List.range i.size).map f, by simp, LRel.ofFn (by simp; omega) ?_, ?_, ?_⟩
      · intro j a v h1 h2
        have hj : j < i.size := by
          have := (List.getElem?_eq_some_iff.1 h2).1; simpa using this
        obtain ⟨a', k1, k2, k3, k4⟩ := hf j hj
        rw [List.getElem?_take_of_lt hj, List.getElem?_drop, k1] at h1
        simp [hj] at h2
        cases h1; rw [← h2]; exact k4
      · intro u hu
        obtain ⟨j, hj, rfl⟩ := List.mem_map.1 hu
        obtain ⟨_, _, _, k3, _⟩ := hf j (by simpa using hj)
        exact k3
      · intro j u hu
        have hj : j < i.size := by
          have := (List.getElem?_eq_some_iff.1 hu).1; simpa using this
        obtain ⟨_, _, k2, _, _⟩ := hf j hj
        simp [hj] at hu
        rw [k2, hu]
    have hr : (loadCells ⟨b, off, none⟩ vs.length).run P w = .ok vs.toArray w := run_loadCells_list (P := P) w ⟨b, off, none⟩ vs (fun j u hu => by rw [addr_add]; exact hv4 j u hu)
    refine ⟨_, .agg vs.toArray, ?_, ?_, H⟩
    · rw [hv1] at hr
      simp [loadVar, ha, hag, sizeOf, typeInfo, hi, hr]
    · simp only [VRel]
      exact ⟨vs.toArray, rfl, by simpa using hv2, by simpa using hv3⟩

theorem pLoad_run (W : WRel B c h w) {t : TypeId} {k : Option Nat} {x : AV} {u : Value} {K : AV → Prop} (hk : ldK P t = some k) (hx : VRel c w x u) (H : pLoad k x h K) :
    ∃ ad v z, u = .pointer (some ad) ∧ (loadVar t ad).run P w = .ok z w ∧ VRel c w v z ∧ K v := by
  unfold pLoad at H
  split at H
  · rename_i id off
    split at H
    · rename_i ty cs ho
      simp only [VRel] at hx
      obtain ⟨b, hm, rfl⟩ := hx
      obtain ⟨v, z, h1, h2, h3⟩ := run_loadVar_known (P := P) hk (b := b) (fun i a hi => W.row_get hm ho hi) H
      exact ⟨_, v, z, rfl, h1, h2, h3⟩
    · exact H.elim
  · rename_i cs
    simp only [VRel] at hx
    obtain ⟨b, off, rfl, hM⟩ := hx
    obtain ⟨d, i, hd, hi, ha, hkk⟩ := ldK_inv (w := w) hk
    subst hkk
    cases hag : aggD d with
    | false =>
      simp only [hag, Bool.false_eq_true, if_false, pCells] at H
      cases hv : cs[0]? with
      | none => simp [hv] at H
      | some v =>
        simp only [hv] at H
        obtain ⟨_, z, h1, h2, h3⟩ := hM.get hv
        exact ⟨_, v, z, rfl, by simpa [loadVar, ha, hag] using by rw [show off + 0 = off from rfl] at h1; simp [h1], h3, H⟩
    | true =>
      simp only [hag, if_true, pCells] at H
      obtain ⟨hl, H⟩ := H
      obtain ⟨vs, hv2, hv3, hv4⟩ := (MRel.take i.size hM).values
      have hv1 : vs.length = i.size := by rw [hv2.length, List.length_take]; omega
      have hr : (loadCells ⟨b, off, none⟩ vs.length).run P w = .ok vs.toArray w := run_loadCells_list (P := P) w ⟨b, off, none⟩ vs (fun j u hu => by rw [addr_add]; exact hv4 j u hu)
      refine ⟨_, _, .agg vs.toArray, rfl, ?_, ?_, H⟩
      · rw [hv1] at hr
        simp [loadVar, ha, hag, sizeOf, typeInfo, hi, hr]
      · simp only [VRel]
        exact ⟨vs.toArray, rfl, by simpa using hv2, by simpa using hv3⟩
  · exact H.elim

theorem pLoad_sound (W : WRel B c h w) {t : TypeId} {k : Option Nat} {x : AV} {u : Value} {K : AV → AHeap → Prop} (hk : ldK P t = some k) (hx : VRel c w x u) (H : pLoad k x h (fun v => K v h)) : Does P B c w (Instr.loadAt t u) K := by
  obtain ⟨ad, v, z, rfl, h1, h2, h3⟩ := pLoad_run (P := P) W hk hx H
  exact Does.pure_ W (by simp [Instr.loadAt, Instr.sureAddr, h1]) h2 h3

theorem AV.leafy_one {a : AV} {u : Value} (hl : a.leafy = true) (hr : VRel c w a u) : u.oneCell' = true ∧ u.cells = #[u] := by
  cases a <;> simp only [AV.leafy, Bool.false_eq_true] at hl <;> simp only [VRel] at hr
  case int => subst hr; exact ⟨rfl, rfl⟩
  case bool => subst hr; exact ⟨rfl, rfl⟩
  case unkb => obtain ⟨b, rfl⟩ := hr; exact ⟨rfl, rfl⟩
  case str => subst hr; exact ⟨rfl, rfl⟩
  case flt => subst hr; exact ⟨rfl, rfl⟩
  case nilp => subst hr; exact ⟨rfl, rfl⟩
  case ptr => obtain ⟨b, _, rfl⟩ := hr; exact ⟨rfl, rfl⟩
  case iptr => obtain ⟨b, o, rfl, _⟩ := hr; exact ⟨rfl, rfl⟩
  case nils => subst hr; exact ⟨rfl, rfl⟩
  case eml => obtain ⟨b, rfl⟩ := hr; exact ⟨rfl, rfl⟩
  case isl => obtain ⟨a, k, rfl, _⟩ := hr; exact ⟨rfl, rfl⟩
  case gsl => obtain ⟨b, k, t, _, rfl, _⟩ := hr; exact ⟨rfl, rfl⟩
  case sl => obtain ⟨b, k, t, _, rfl, _⟩ := hr; exact ⟨rfl, rfl⟩
  case nilm => subst hr; exact ⟨rfl, rfl⟩
  case mapv => obtain ⟨b, _, rfl⟩ := hr; exact ⟨rfl, rfl⟩
  case nilf => subst hr; exact ⟨rfl, rfl⟩
  case fn => obtain ⟨a, b, rfl, _⟩ := hr; exact ⟨rfl, rfl⟩
  case nili => subst hr; exact ⟨rfl, rfl⟩
  case ifc => obtain ⟨b, rfl, _⟩ := hr; exact ⟨rfl, rfl⟩
  case yld => obtain ⟨b, _, rfl⟩ := hr; exact ⟨rfl, rfl⟩

/-- A value's cells, abstract and real. -/
def AV.cells : AV → List AV | .agg cs => cs | v => [v]
def AV.fits : AV → Bool | .und | .tup _ => false | _ => true
theorem AV.fits_cells {a : AV} {u : Value} (hf : a.fits = true) (hr : VRel c w a u) : LRel c w a.cells u.cells.toList ∧ ∀ x ∈ u.cells.toList, x.oneCell' = true := by
  by_cases hl : a.leafy = true
  · obtain ⟨h1, h2⟩ := AV.leafy_one hl hr
    have : a.cells = [a] := by cases a <;> simp_all [AV.cells, AV.leafy]
    rw [this, h2]
    exact ⟨by simp only [LRel]; exact ⟨u, [], rfl, hr, rfl⟩, by simpa using h1⟩
  · cases a <;> simp_all [AV.leafy, AV.fits]
    simp only [VRel] at hr
    obtain ⟨vs, rfl, h1, h2⟩ := hr
    exact ⟨by simpa [AV.cells, Value.cells] using h1, by simpa [Value.cells] using h2⟩

/-- Stores into a row. -/
theorem run_storeCells_row {b off : Nat} {ty : TypeId} {C : Array Value} {vs : List Value} (hb : w.heap[b]? = some (.cells C ty (0, 0))) (hfit : off + vs.length ≤ C.size) (h1 : ∀ u ∈ vs, u.oneCell' = true) :
    ∃ w', (storeCells ⟨b, off, none⟩ vs).run P w = .ok () w' ∧ Turned w w' b C (C.toList.take off ++ vs ++ C.toList.drop (off + vs.length)).toArray ty := by
  have hst := run_storeCells_at P b off ty vs 0 C w hb (by simpa using hfit) h1
  refine ⟨_, by simpa using hst, ?_⟩
  refine ⟨rfl, rfl, rfl, by simp [World.setRow], hb, ?_, ?_, fun k hk => setRow_other w b k _ hk⟩
  · simpa using setRow_heap w b C _ ty (0, 0) hb
  · simp; omega

theorem run_storeVar' {t : TypeId} {n : Nat} {a : Addr} {u : Value} (hk : szK P t = some n) (hn : u.cells.size = n) : (storeVar t a u).run P w = (storeCells a u.cells.toList).run P w := by
  unfold storeVar
  simp [run_sizeOf' hk, hn]

/-- A store: what it leaves. -/
theorem pStore_sound (W : WRel B c h w) {t : TypeId} {n : Nat} {x v : AV} {p u : Value} {K : AHeap → Prop} (hk : szK P t = some n) (hx : VRel c w x p) (hv : VRel c w v u) (H : pStore n x v h K) :
    ∃ c' h' w', (Instr.storeAt t p u).run P w = .ok () w' ∧ Ext B c w c' w' ∧ WRel B c' h' w' ∧ K h' := by
  unfold pStore at H
  split at H
  · rename_i id off
    split at H
    · rename_i ty cs ho
      simp only [VRel] at hx
      obtain ⟨b, hm, rfl⟩ := hx
      obtain ⟨C, h1, h2, h3, h4, h5⟩ := W.row hm ho
      have main : ∀ (vs : List AV), LRel c w vs u.cells.toList → (∀ x ∈ u.cells.toList, x.oneCell' = true) → vs.length = n → off + n ≤ cs.length → K (h.put id (.row ty (cs.take off ++ vs ++ cs.drop (off + n)))) →
          ∃ c' h' w', (Instr.storeAt t (.pointer (some ⟨b, off, none⟩)) u).run P w = .ok () w' ∧ Ext B c w c' w' ∧ WRel B c' h' w' ∧ K h' := by
        intro vs hr hone hl hfit HK
        have hlen : u.cells.toList.length = n := by rw [hr.length, hl]
        obtain ⟨w', hrun, T⟩ := run_storeCells_row (P := P) (off := off) h1 (vs := u.cells.toList) (by omega) hone
        have hlen' : (cs.take off ++ vs ++ cs.drop (off + n)).length = cs.length := by
          simp only [List.length_append, List.length_take, List.length_drop, hl]; omega
        have hcell : ((C.toList.take off ++ u.cells.toList ++ C.toList.drop (off + u.cells.toList.length)).take cs.length) = ((C.toList.take cs.length).take off ++ u.cells.toList ++ (C.toList.take cs.length).drop (off + n)) := by
          have e1 : (C.toList.take off).length = off := by simp; omega
          have e2 : (C.toList.take off ++ u.cells.toList).length = off + n := by rw [List.length_append, e1, hlen]
          rw [hlen, List.take_append, e2, List.take_of_length_le (l := C.toList.take off ++ u.cells.toList) (by omega), List.take_take, Nat.min_eq_left (show off ≤ cs.length by omega), List.drop_take]
        obtain ⟨E, W'⟩ := W.turnRow hm ho T (cs' := cs.take off ++ vs ++ cs.drop (off + n)) (by rw [hlen', T.len]; exact h2)
          (by rw [hlen']; rw [List.toList_toArray, hcell]; exact ((LRel.take off h3).append hr).append (LRel.drop (off + n) h3))
          (by
            rw [hlen', List.toList_toArray, hcell]
            intro y hy
            simp only [List.mem_append] at hy
            rcases hy with (hy | hy) | hy
            · exact h4 y (List.mem_of_mem_take hy)
            · exact hone y hy
            · exact h4 y (List.mem_of_mem_drop hy))
        refine ⟨c, _, w', ?_, E, W', HK⟩
        simp only [Instr.storeAt, Instr.sureAddr, Sem.run_bind, Sem.run_pure, Result.andThen_ok]
        rw [run_storeVar' hk (by rw [← hlen]; simp)]
        exact hrun
      split at H
      · rename_i vs
        obtain ⟨g1, g2, g3⟩ := H
        obtain ⟨k1, k2⟩ := AV.fits_cells (a := .agg vs) rfl hv
        exact main vs k1 k2 g1 g2 g3
      · rename_i v' hna
        obtain ⟨g1, g2, g3, g4⟩ := H
        obtain ⟨k1, k2⟩ := AV.leafy_one g1 hv
        refine main [v] (by rw [k2]; simp only [LRel]; exact ⟨u, [], rfl, hv, rfl⟩) (by rw [k2]; simpa using k1) (by simp [g2]) (by omega) ?_
        rw [g2]
        have : cs.take off ++ [v] ++ cs.drop (off + 1) = cs.set off v := by
          rw [List.set_eq_take_append_cons_drop, if_pos g3]; simp
        rw [this]; exact g4
    · exact H.elim
  · exact H.elim

theorem pField_sound (W : WRel B c h w) {t : TypeId} {f off : Nat} {k : Option Nat} {x : AV} {u : Value} {K : AV → AHeap → Prop} (hk : fldK P t f = some (off, k)) (hx : VRel c w x u) (H : pField off k x (fun v => K v h)) : Does P B c w (Instr.field t u f) K := by
  unfold fldK at hk
  split at hk <;> (try (cases hk; done))
  rename_i fs hfs
  split at hk <;> (try (cases hk; done))
  rename_i fl hfl
  split at hk <;> (try (cases hk; done))
  rename_i k' hk'
  simp only [Option.some.injEq, Prod.mk.injEq] at hk
  obtain ⟨rfl, rfl⟩ := hk
  obtain ⟨d, i, hd, hi, ha, hkk⟩ := ldK_inv (w := w) hk'
  unfold pField at H
  split at H
  · rename_i cs
    simp only [VRel] at hx
    obtain ⟨vs, rfl, h1, h2⟩ := hx
    subst hkk
    cases hag : aggD d with
    | false =>
      simp only [hag, Bool.false_eq_true, if_false, pCells] at H
      cases hv : cs[fl.offset]? with
      | none => simp [hv] at H
      | some v =>
        simp only [hv] at H
        obtain ⟨z, hz, hr⟩ := h1.get hv
        have hz' : vs[fl.offset]? = some z := by simpa using hz
        exact Does.pure_ W (by simp [Instr.field, run_underlying hfs, hfl, asAgg, part, ha, hag, hz']) hr H
    | true =>
      simp only [hag, if_true, pCells] at H
      obtain ⟨hl, H⟩ := H
      refine Does.pure_ W (u := .agg (vs.extract fl.offset (fl.offset + i.size))) (by simp [Instr.field, run_underlying hfs, hfl, asAgg, part, ha, hag, sizeOf, typeInfo, hi]) ?_ H
      simp only [VRel]
      refine ⟨_, rfl, ?_, ?_⟩
      · have := LRel.take i.size (LRel.drop fl.offset h1)
        simpa [List.extract_eq_take_drop] using this
      · intro y hy
        refine h2 y ?_
        simp only [Array.toList_extract, List.extract_eq_take_drop] at hy
        exact List.mem_of_mem_drop (List.mem_of_mem_take hy)
  · exact H.elim

theorem pFieldAddr_sound (W : WRel B c h w) {t : TypeId} {f off : Nat} {x : AV} {u : Value} {K : AV → AHeap → Prop} (hk : fadK P t f = some off) (hx : VRel c w x u) (H : pFieldAddr off x (fun v => K v h)) : Does P B c w (Instr.fieldAt t u f) K := by
  unfold fadK at hk
  split at hk <;> (try (cases hk; done))
  rename_i fs hfs
  split at hk <;> (try (cases hk; done))
  rename_i fl hfl
  split at hk <;> (try (cases hk; done))
  rename_i n hn
  simp only [Option.some.injEq] at hk
  subst hk
  unfold pFieldAddr at H
  split at H
  · simp only [VRel] at hx
    obtain ⟨b, hm, rfl⟩ := hx
    refine Does.pure_ W (u := .pointer (some ⟨b, _, none⟩)) (by simp [Instr.fieldAt, run_underlying hfs, hfl, Instr.sureAddr, fieldPlace, run_sizeOf' hn, addr_add]; rfl) (by simp only [VRel]; exact ⟨b, hm, rfl⟩) H
  · simp only [VRel] at hx
    obtain ⟨b, o, rfl, hM⟩ := hx
    refine Does.pure_ W (u := .pointer (some ⟨b, _, none⟩)) (by simp [Instr.fieldAt, run_underlying hfs, hfl, Instr.sureAddr, fieldPlace, run_sizeOf' hn, addr_add]; rfl) (by simp only [VRel]; exact ⟨b, _, rfl, hM.drop _⟩) H
  · exact H.elim

theorem pNil_sound (W : WRel B c h w) {x : AV} {u : Value} {K : AV → Prop} (hx : VRel c w x u) (H : pNil x K) : K x ∧ ((∃ a, u = .pointer (some a)) ∨ ∃ f a b, u = .func (.func f) a b) := by
  unfold pNil at H
  split at H
  · simp only [VRel] at hx; obtain ⟨b, _, rfl⟩ := hx; exact ⟨H, Or.inl ⟨_, rfl⟩⟩
  · simp only [VRel] at hx; obtain ⟨b, _, rfl, _⟩ := hx; exact ⟨H, Or.inl ⟨_, rfl⟩⟩
  · simp only [VRel] at hx; obtain ⟨b, _, rfl, _⟩ := hx; exact ⟨H, Or.inr ⟨_, _, _, rfl⟩⟩
  · exact H.elim

theorem pIndexAddr_sound (W : WRel B c h w) {t : TypeId} {ik : IxK} {x i : AV} {u j : Value} {K : AV → AHeap → Prop} (hk : ixK P t = some ik) (hx : VRel c w x u) (hi : VRel c w i j) (H : pIndexAddr ik x i (fun v => K v h)) : Does P B c w (Instr.indexAt t u j) K := by
  unfold ixK at hk
  split at hk
  · rename_i e he
    split at hk <;> (try (cases hk; done))
    rename_i n hn
    simp only [Option.some.injEq] at hk
    subst hk
    have go : ∀ (b off len cap : Nat) (kk : IntKind) (q : Int), 0 ≤ q → q < len → (Instr.indexAt t (.slice (some ⟨b, off, none⟩) len cap) (.int kk q)).run P w = .ok (.pointer (some ⟨b, off + q.toNat * n, none⟩)) w := by
      intro b off len cap kk q h0 h1
      simp [Instr.indexAt, asIntOf, run_underlying he, h0, h1, run_sizeOf' hn, addr_add]
    unfold pIndexAddr at H
    split at H <;> (try (exact H.elim))
    · rename_i n' sz es kk q heq
      cases heq
      obtain ⟨rfl, h0, H⟩ := H
      rw [hi.int_inv]
      simp only [VRel] at hx
      obtain ⟨a, cap, rfl, hle, _, hne⟩ := hx
      split at H
      · rename_i e' hes
        have hlt := (List.getElem?_eq_some_iff.1 hes).1
        obtain ⟨b, off, rfl, hE⟩ := hne (by rintro rfl; simp at hes)
        obtain ⟨_, hM⟩ := hE.get hes
        exact Does.pure_ W (go b off _ cap kk q h0 (by omega)) (by simp only [VRel]; exact ⟨b, _, rfl, hM⟩) H
      · exact H.elim
    · rename_i n' id sz es kk q heq
      cases heq
      obtain ⟨rfl, h0, H⟩ := H
      rw [hi.int_inv]
      simp only [VRel] at hx
      obtain ⟨b, cap, ty, hm, rfl, hle, _, _, hE⟩ := hx
      split at H
      · rename_i e' hes
        have hlt := (List.getElem?_eq_some_iff.1 hes).1
        obtain ⟨_, hM⟩ := hE.get hes
        exact Does.pure_ W (go b 0 _ cap kk q h0 (by omega)) (by simp only [VRel]; exact ⟨b, _, rfl, hM⟩) H
      · exact H.elim
    · rename_i n' id off len sz kk q heq
      cases heq
      obtain ⟨rfl, h0, h1, H⟩ := H
      rw [hi.int_inv]
      simp only [VRel] at hx
      obtain ⟨b, cap, ty, hm, rfl, hle, _, _⟩ := hx
      exact Does.pure_ W (go b off len cap kk q h0 h1) (by simp only [VRel]; exact ⟨b, hm, rfl⟩) H
    · rename_i heq; cases heq
    · rename_i heq; cases heq
  · rename_i len e he
    split at hk <;> (try (cases hk; done))
    rename_i n hn
    simp only [Option.some.injEq] at hk
    subst hk
    have go : ∀ (b off : Nat) (kk : IntKind) (q : Int), 0 ≤ q → q < len → (Instr.indexAt t (.pointer (some ⟨b, off, none⟩)) (.int kk q)).run P w = .ok (.pointer (some ⟨b, off + q.toNat * n, none⟩)) w := by
      intro b off kk q h0 h1
      simp [Instr.indexAt, asIntOf, run_underlying he, Instr.sureAddr, h0, h1, run_sizeOf' hn, addr_add]
    unfold pIndexAddr at H
    split at H <;> (try (exact H.elim))
    · rename_i heq; cases heq
    · rename_i heq; cases heq
    · rename_i heq; cases heq
    · rename_i len' n' id off kk q heq
      cases heq
      obtain ⟨h0, h1, H⟩ := H
      rw [hi.int_inv]
      simp only [VRel] at hx
      obtain ⟨b, hm, rfl⟩ := hx
      exact Does.pure_ W (go b off kk q h0 h1) (by simp only [VRel]; exact ⟨b, hm, rfl⟩) H
    · rename_i len' n' cs kk q heq
      cases heq
      obtain ⟨h0, h1, H⟩ := H
      rw [hi.int_inv]
      simp only [VRel] at hx
      obtain ⟨b, off, rfl, hM⟩ := hx
      exact Does.pure_ W (go b off kk q h0 h1) (by simp only [VRel]; exact ⟨b, _, rfl, hM.drop _⟩) H
  · cases hk

end
end Go.Abs
