/- append, make, build and cut. -/
import Derived.Test.YtopfjochppdnfaaDoorAbsPrim
import Derived.Lib.AppendStr
set_option linter.unusedVariables false
set_option linter.unusedSimpArgs false
namespace Go.Abs
open Go.RowKit

section
variable {P : Program} {B : Nat} {c : Ctx} {h : AHeap} {w : World}

/-- What is appended: so many elements, these cells. -/
structure AppSrc (P : Program) (w : World) (u : TypeId) (x : Value) (m size : Nat) (news : List Value) : Prop where
  ty : (∃ e', P.underlying u = some (.slice e')) ∨ P.underlying u = some .string
  len : ∀ w', (Builtin.lenOf x).run P w' = .ok m w'
  cells : ∀ w', (∀ a, w'.cell? a = w.cell? a) → (Builtin.firstCells size m x).run P w' = .ok news.toArray w'
  l : news.length = m * size
  one : ∀ v ∈ news, v.oneCell' = true

/-- What appending does, seen from outside: the old value's block or a new one holds the old cells and the new ones. -/
inductive Appended (P : Program) (w : World) (e : TypeId) (size : Nat) (bo : Option Addr) (n cap : Nat) (olds news : List Value) (m : Nat) : Value → World → Prop
  | same (hm : m = 0) : Appended P w e size bo n cap olds news m (.slice bo n cap) w
  | room (g : Nat) (C : Array Value) (w' : World) (hm : 0 < m) (hb : bo = some ⟨g, 0, none⟩) (hg : w.heap[g]? = some (.cells C e (0, 0))) (hr : n + m ≤ cap) (hf : n * size + news.length ≤ C.size)
      (T : Turned w w' g C (C.toList.take (n * size) ++ news ++ C.toList.drop (n * size + news.length)).toArray e) : Appended P w e size bo n cap olds news m (.slice (some ⟨g, 0, none⟩) (n + m) cap) w'
  | grow (z : Array Value) (cap' : Nat) (hm : 0 < m) (hc : n + m ≤ cap') (hc2 : cap' ≤ maxLen) (hz : z.size = (cap' - (n + m)) * size) :
      Appended P w e size bo n cap olds news m (.slice (some ⟨w.heap.size, 0, none⟩) (n + m) cap') (w.drew.alloc (.cells (olds.toArray ++ news.toArray ++ z) e))

theorem run_app {t u ty e : TypeId} {i : TypeInfo} {z : Value} (ht : P.underlying t = some (.slice e)) (hi : P.info? e = some i) (hz : i.zero = some z) (hzs : z.cells.size = i.size)
    {x : Value} {m : Nat} {news : List Value} (S : AppSrc P w u x m i.size news) {bo : Option Addr} {n cap : Nat} (hn : n ≤ cap) {olds : List Value} (holds : ∀ w', (∀ a, w'.cell? a = w.cell? a) → (Builtin.firstCells i.size n (.slice bo n cap)).run P w' = .ok olds.toArray w')
    (h63 : n + m ≤ maxLen) (hbytes : (n + m) * i.bytes ≤ 140737488355328)
    (hb : m ≠ 0 → n + m ≤ cap → ∃ g C, bo = some ⟨g, 0, none⟩ ∧ w.heap[g]? = some (.cells C e (0, 0)) ∧ n * i.size + news.length ≤ C.size) :
    ∃ v w', (Builtin.append_ #[t, u] ty #[.slice bo n cap, x]).run P w = .ok v w' ∧ Appended P w e i.size bo n cap olds news m v w' := by
  obtain ⟨d, hd, hdd⟩ : ∃ d, P.underlying u = some d ∧ ((∃ e', d = .slice e') ∨ d = .string) := by
    rcases S.ty with ⟨e', h⟩ | h
    · exact ⟨_, h, Or.inl ⟨_, rfl⟩⟩
    · exact ⟨_, h, Or.inr rfl⟩
  have hsmall : n + m ≤ 9223372036854775807 := by simp only [maxLen] at h63; omega
  have hl := S.len
  by_cases hm : m = 0
  · subst hm
    have hnews : news = [] := List.eq_nil_of_length_eq_zero (by simpa using S.l)
    subst hnews
    refine ⟨_, w, ?_, .same rfl⟩
    have hc := S.cells w (fun _ => rfl)
    rcases hdd with ⟨e', rfl⟩ | rfl <;> cases bo <;> simp [Builtin.append_, run_underlying ht, run_underlying hd, sizeOf, typeInfo, hi, hl, hn, hc, storeCells]
  · by_cases hroom : n + m ≤ cap
    · obtain ⟨g, C, rfl, hg, hfit⟩ := hb hm hroom
      obtain ⟨w', hst, T⟩ := run_storeCells_row (P := P) (off := n * i.size) hg hfit S.one
      refine ⟨_, w', ?_, .room g C w' (by omega) rfl hg hroom hfit T⟩
      have hc := S.cells w (fun _ => rfl)
      rcases hdd with ⟨e', rfl⟩ | rfl <;> simp [Builtin.append_, run_underlying ht, run_underlying hd, sizeOf, typeInfo, hi, hl, hroom, hc, addr_add, hst]
    · have h63' : ¬ (9223372036854775807 < ((n : Int) + (m : Int))) := by omega
      have hfit : Builtin.nextslicecap (n + m) cap * i.bytes ≤ 281474976710656 := growslice_fits (by omega) hbytes
      have h48' : ¬ (281474976710656 < Builtin.nextslicecap (n + m) cap * i.bytes) := by omega
      have hge := grownCap_ge w (n + m) cap e
      have hcm : grownCap w (n + m) cap e ≤ maxLen := grownCap_le_maxLen w (n + m) cap e h63
      refine ⟨_, _, ?_, .grow (Builtin.zeroCells z.cells (grownCap w (n + m) cap e - (n + m))) (grownCap w (n + m) cap e) (by omega) hge hcm (by rw [size_zeroCells, hzs])⟩
      have hc := S.cells w.drew (fun _ => rfl)
      have ho := holds w.drew (fun _ => rfl)
      rcases hdd with ⟨e', rfl⟩ | rfl <;>
        (simp [Builtin.append_, run_underlying ht, run_underlying hd, sizeOf, typeInfo, zeroValue, hi, hz, hl, hroom, h63', h48', Question.forced, hc, ho, newRow, grownCap]
         congr 2
         apply Array.ext'
         simp [List.append_assoc])

end

/-- Elements out of cells. -/
def chunk (sz : Nat) : Nat → List AV → List (List AV)
  | 0, _ => []
  | n + 1, cs => cs.take sz :: chunk sz n (cs.drop sz)

/-- What elements a value stands for: a slice's, a string's bytes. -/
def srcElems (sz : Nat) (x : AV) (h : AHeap) : Option (List (List AV)) :=
  match x with
  | .isl sz' es => if sz' = sz then some es else none
  | .gsl _ sz' es => if sz' = sz then some es else none
  | .nils => some []
  | .eml => some []
  | .str s => if sz = 1 then some (s.map fun b => [.int .u8 b.toNat]) else none
  | .sl id off len sz' => match h.objs id with
    | some (.row _ cs) => if sz' = sz ∧ off + len * sz ≤ cs.length then some (chunk sz len (cs.drop off)) else none
    | _ => none
  | _ => none

/-- A slice type: its elements' type, cells, bytes. -/
structure SlT where
  e : TypeId
  sz : Nat
  by_ : Nat

def slT (P : Program) (t : TypeId) : Option SlT :=
  match P.underlying t with
  | some (.slice e) => match P.info? e with
    | some i => match i.zero with
      | some z => if z.cells.size = i.size ∧ 0 < i.size then some ⟨e, i.size, i.bytes⟩ else none
      | none => none
    | none => none
  | _ => none

def srcT (P : Program) (u : TypeId) : Bool := match P.underlying u with | some (.slice _) | some .string => true | _ => false

def bounded (T : SlT) (n : Nat) : Prop := n ≤ maxLen ∧ n * T.by_ ≤ 140737488355328

def newSl (gr : Bool) (T : SlT) (es : List (List AV)) (h : AHeap) (K : AV → AHeap → Prop) : Prop :=
  if gr then K (.gsl h.next T.sz es) (h.push (.tok T.e (es.length * T.sz))) else K (.sl h.next 0 es.length T.sz) (h.push (.row T.e es.flatten))

def pAppend (gr : Bool) (T : SlT) (s x : AV) (h : AHeap) (K : AV → AHeap → Prop) : Prop :=
  match srcElems T.sz x h with
  | none => False
  | some es =>
    match s with
    | .nils => match es with
      | [] => K .nils h
      | e :: es => bounded T (e :: es).length ∧ newSl gr T (e :: es) h K
    | .eml => match es with
      | [] => K .eml h
      | e :: es => bounded T (e :: es).length ∧ newSl gr T (e :: es) h K
    | .gsl id sz es0 => match h.objs id with
      | some (.tok ty n) => ty = T.e ∧ sz = T.sz ∧ n = es0.length * T.sz ∧ bounded T (es0.length + es.length) ∧ K (.gsl h.next T.sz (es0 ++ es)) ((h.kill id).push (.tok T.e ((es0 ++ es).length * T.sz)))
      | _ => False
    | .sl id 0 len sz => match h.objs id with
      | some (.row ty cs) => ty = T.e ∧ sz = T.sz ∧ len * T.sz ≤ cs.length ∧ bounded T (len + es.length) ∧ K (.sl h.next 0 (len + es.length) T.sz) ((h.kill id).push (.row T.e (cs.take (len * T.sz) ++ es.flatten)))
      | _ => False
    | _ => False

theorem chunk_flatten (sz : Nat) : ∀ (n : Nat) (cs : List AV), (chunk sz n cs).flatten = cs.take (n * sz)
  | 0, cs => by simp [chunk]
  | n + 1, cs => by
    rw [chunk, List.flatten_cons, chunk_flatten sz n, Nat.add_mul, Nat.one_mul, Nat.add_comm, List.take_add]
theorem chunk_length (sz : Nat) : ∀ (n : Nat) (cs : List AV), (chunk sz n cs).length = n
  | 0, _ => rfl
  | n + 1, cs => by simp [chunk, chunk_length sz n]
theorem chunk_lens (sz : Nat) : ∀ (n : Nat) (cs : List AV), n * sz ≤ cs.length → ∀ e ∈ chunk sz n cs, e.length = sz
  | 0, _, _ => by simp [chunk]
  | n + 1, cs, hl => by
    rw [Nat.add_mul, Nat.one_mul] at hl
    intro e he
    rcases List.mem_cons.1 he with rfl | he
    · simp; omega
    · exact chunk_lens sz n _ (by simp; omega) e he

section
variable {P : Program} {B : Nat} {c : Ctx} {h : AHeap} {w : World}

theorem slT_inv {t : TypeId} {T : SlT} (hT : slT P t = some T) : ∃ i z, P.underlying t = some (.slice T.e) ∧ P.info? T.e = some i ∧ i.zero = some z ∧ z.cells.size = i.size ∧ 0 < i.size ∧ i.size = T.sz ∧ i.bytes = T.by_ := by
  unfold slT at hT
  cases hd : P.underlying t with
  | none => simp [hd] at hT
  | some d =>
    cases d <;> (try (simp [hd] at hT; done))
    rename_i e
    cases hi : P.info? e with
    | none => simp [hd, hi] at hT
    | some i =>
      cases hz : i.zero with
      | none => simp [hd, hi, hz] at hT
      | some z =>
        simp only [hd, hi, hz] at hT
        split at hT
        · rename_i hh
          cases hT
          exact ⟨i, z, rfl, hi, hz, hh.1, hh.2, rfl, rfl⟩
        · cases hT

theorem flatten_bytes (s : List UInt8) : (s.map fun b : UInt8 => [AV.int .u8 b.toNat]).flatten = s.map fun b => AV.int .u8 b.toNat := by
  induction s with
  | nil => rfl
  | cons b s ih => simp [ih]

theorem lenOf_slice (a : Option Addr) (n k : Nat) (w : World) : (Builtin.lenOf (.slice a n k)).run P w = .ok n w := by simp [Builtin.lenOf]
theorem lenOf_str (s : ByteArray) (w : World) : (Builtin.lenOf (.string s)).run P w = .ok s.size w := by simp [Builtin.lenOf]

/-- Cells in memory at a place, as a source. -/
theorem AppSrc.mem {u : TypeId} (hu : srcT P u = true) {b off m cap size : Nat} {news : List Value} (hl : news.length = m * size) (h1 : ∀ v ∈ news, v.oneCell' = true) (hc : ∀ (j : Nat) (v : Value), news[j]? = some v → w.cell? ⟨b, off + j, none⟩ = some v) :
    AppSrc P w u (.slice (some ⟨b, off, none⟩) m cap) m size news := by
  refine ⟨?_, fun w' => lenOf_slice _ _ _ _, fun w' hw => run_firstCells_some w' size m _ m cap news hl (fun j v hv => by rw [addr_add, hw]; exact hc j v hv), hl, h1⟩
  unfold srcT at hu
  split at hu <;> simp_all

theorem AppSrc.empty {u : TypeId} (hu : srcT P u = true) {size : Nat} (a : Option Addr) (cap : Nat) : AppSrc P w u (.slice a 0 cap) 0 size [] := by
  refine ⟨?_, fun w' => lenOf_slice _ _ _ _, fun w' hw => ?_, by simp, by simp⟩
  · unfold srcT at hu
    split at hu <;> simp_all
  · cases a <;> simp [Builtin.firstCells, loadCells, loadCellsFrom]

theorem srcElems_sound (W : WRel B c h w) {u : TypeId} (hu : srcT P u = true) {sz : Nat} {x : AV} {v : Value} {es : List (List AV)} (hx : VRel c w x v) (he : srcElems sz x h = some es) :
    ∃ news, AppSrc P w u v es.length sz news ∧ LRel c w es.flatten news ∧ (∀ e ∈ es, e.length = sz) := by
  unfold srcElems at he
  have fromE : ∀ (es : List (List AV)) (b off cap : Nat), ERel c w sz es b off → ∃ news, AppSrc P w u (.slice (some ⟨b, off, none⟩) es.length cap) es.length sz news ∧ LRel c w es.flatten news ∧ (∀ e ∈ es, e.length = sz) := by
    intro es b off cap hE
    obtain ⟨hM, hlen⟩ := hE.flatten
    obtain ⟨vs, h1, h2, h3⟩ := hM.values
    exact ⟨vs, AppSrc.mem hu (by rw [h1.length, hlen]) h2 h3, h1, hE.lens⟩
  split at he
  · split at he <;> (try (cases he; done))
    rename_i hs; subst hs; cases he
    simp only [VRel] at hx
    obtain ⟨a, cap, rfl, _, _, hne⟩ := hx
    cases es with
    | nil => exact ⟨[], AppSrc.empty hu a cap, by simp [LRel], by simp⟩
    | cons e es =>
      obtain ⟨b, off, rfl, hE⟩ := hne (by simp)
      exact fromE _ b off cap hE
  · split at he <;> (try (cases he; done))
    rename_i hs; subst hs; cases he
    simp only [VRel] at hx
    obtain ⟨b, cap, ty, _, rfl, _, _, _, hE⟩ := hx
    exact fromE _ b 0 cap hE
  · cases he; simp only [VRel] at hx; subst hx
    exact ⟨[], AppSrc.empty hu none 0, by simp [LRel], by simp⟩
  · cases he; simp only [VRel] at hx; obtain ⟨a, rfl⟩ := hx
    exact ⟨[], AppSrc.empty hu (some a) 0, by simp [LRel], by simp⟩
  · split at he <;> (try (cases he; done))
    rename_i s hs; subst hs; cases he
    rw [hx.str_inv]
    refine ⟨Lib.strCells ⟨s.toArray⟩, ⟨?_, fun w' => by rw [lenOf_str, size_str]; simp, fun w' _ => ?_, ?_, Lib.strCells_oneCell _⟩, ?_, by simp⟩
    · unfold srcT at hu
      split at hu <;> simp_all
    · have := Lib.run_firstCells_string (P := P) w' 1 ⟨s.toArray⟩
      rw [size_str] at this; simpa using this
    · rw [Lib.strCells_length, size_str]; simp
    · simp only [Lib.strCells]
      rw [flatten_bytes]
      refine LRel.ofFn (by simp) ?_
      intro i a v h1 h2
      simp at h1 h2
      obtain ⟨b, hb, rfl⟩ := h1
      obtain ⟨b', hb', rfl⟩ := h2
      rw [hb] at hb'; cases hb'
      simp [VRel]
  · split at he <;> (try (cases he; done))
    rename_i id off len sz' o ty cs ho
    split at he <;> (try (cases he; done))
    rename_i hh
    obtain ⟨rfl, hfit⟩ := hh
    cases he
    simp only [VRel] at hx
    obtain ⟨b, cap, ty', hm, rfl, _, _, _⟩ := hx
    obtain ⟨C, k1, k2, k3, k4, _⟩ := W.row hm ho
    refine ⟨((C.toList.take cs.length).drop off).take (len * sz'), ?_, ?_, chunk_lens sz' len _ (by simp; omega)⟩
    · rw [chunk_length]
      refine AppSrc.mem hu (by simp; omega) (fun v hv => k4 v (List.mem_of_mem_drop (List.mem_of_mem_take hv))) ?_
      intro j v hv
      rw [cell_of_row w b (off + j) C ty (0, 0) k1]
      have hj : j < len * sz' := by have := (List.getElem?_eq_some_iff.1 hv).1; simp at this; omega
      rw [List.getElem?_take_of_lt hj, List.getElem?_drop, List.getElem?_take_of_lt (by omega)] at hv
      simpa using hv
    · rw [chunk_flatten]; exact LRel.take _ (LRel.drop _ k3)
  · cases he

/-- A new slice of the call's own, in a block that nobody knows, whose first cells are these. -/
theorem newSl_sound {gr : Bool} {T : SlT} {es : List (List AV)} {K : AV → AHeap → Prop} {b cap : Nat} {C : Array Value} (W : WRel B c h w) (hB : B ≤ b) (hb : w.heap[b]? = some (.cells C T.e (0, 0))) (hcap : cap ≤ maxLen) (hle : es.length ≤ cap) (hC : C.size = cap * T.sz)
    (hnew : ∀ o, ¬ c.im b o) (hno : ∀ i, c.m i = some b → h.objs i = none) (hl : ∀ e ∈ es, e.length = T.sz) (hr : LRel c w es.flatten (C.toList.take (es.length * T.sz))) (h1 : ∀ u ∈ C.toList.take (es.length * T.sz), u.oneCell' = true)
    (H : newSl gr T es h K) : ∃ c' v h', Ext B c w c' w ∧ WRel B c' h' w ∧ VRel c' w v (.slice (some ⟨b, 0, none⟩) es.length cap) ∧ K v h' := by
  have hblt : b < w.heap.size := (Array.getElem?_eq_some_iff.1 hb).1
  have hfl : es.flatten.length = es.length * T.sz := by
    clear hr h1 H hle
    induction es with
    | nil => simp
    | cons e es ih => simp [List.flatten_cons, hl e (by simp), ih (fun x hx => hl x (by simp [hx])), Nat.add_mul]; omega
  have hfit : es.length * T.sz ≤ C.size := by rw [hC]; exact Nat.mul_le_mul_right _ hle
  cases gr with
  | true =>
    simp only [newSl, if_true] at H
    obtain ⟨E1, W1⟩ := W.freeze (fun k x => k = b ∧ x < es.length * T.sz) (fun k x hk => hk.1 ▸ hblt) (fun k x hk i o hi hio => by
      rw [hno i (hk.1 ▸ hi)] at hio; cases hio)
    obtain ⟨E2, W2⟩ := W1.name (b := b) (.tok T.e (es.length * T.sz)) hB hblt hno ⟨C, hb, hfit, fun o ho => by
      rcases ho with ho | ho
      · exact absurd ho (hnew o)
      · exact ho.2⟩
    refine ⟨_, _, _, E1.trans E2, W2, ?_, H⟩
    simp only [VRel]
    refine ⟨b, cap, T.e, by simp [Ctx.withM], rfl, hle, hcap, ⟨C, hb, hC⟩, ?_⟩
    refine ERel.ofMRel hl (MRel.ofFn fun i a hi => ?_)
    have hi' : i < es.length * T.sz := by have := (List.getElem?_eq_some_iff.1 hi).1; omega
    obtain ⟨v, hv, hra⟩ := hr.get hi
    refine ⟨?_, v, ?_, h1 v (List.mem_of_getElem? hv), VRel.mono (E1.trans E2) hra⟩
    · show c.im b (0 + i) ∨ _
      exact Or.inr ⟨rfl, by omega⟩
    · rw [cell_of_row w b (0 + i) C T.e (0, 0) hb]
      rw [List.getElem?_take_of_lt hi'] at hv
      simpa using hv
  | false =>
    simp only [newSl, Bool.false_eq_true, if_false] at H
    obtain ⟨E2, W2⟩ := W.name (b := b) (.row T.e es.flatten) hB hblt hno ⟨C, hb, by omega, by rw [hfl]; exact hr, by rw [hfl]; exact h1, hnew⟩
    refine ⟨_, _, _, E2, W2, ?_, H⟩
    simp only [VRel]
    exact ⟨b, cap, T.e, by simp [Ctx.withM], rfl, hle, hcap, ⟨C, hb, by simp [hC]⟩⟩

end
end Go.Abs
