/- From what a law reads to abstract values, and from 'it answers true' to what a row asks. -/
import Derived.Test.YtopfjochppdnfaaDoorAbsSimp
import Derived.ProofKit
import Derived.ChangeBears
set_option linter.unusedVariables false
set_option linter.unusedSimpArgs false
namespace Go.Abs
open Go.RowKit Go.ChangeShapes

/-- Kinds that a reading leaves unread. -/
def othK (P : Program) (t : TypeId) : Bool :=
  match P.underlying t with
  | some .bool | some (.int _) | some .string | some (.struct _) | some (.array _ _) => false
  | some (.pointer e) | some (.slice e) => P.cellsOf e == 0
  | _ => true

mutual
/-- The abstract cells of a value of a type, as an argument may hold them. -/
inductive TyA (P : Program) : TypeId → List AV → Prop where
  | bool {t b} : P.underlying t = some .bool → TyA P t [.bool b]
  | int {t k n} : P.underlying t = some (.int k) → k.min ≤ n → n ≤ k.max → TyA P t [.int k n]
  | str {t s} : P.underlying t = some .string → s.length ≤ maxLen → TyA P t [.str s]
  | nilp {t e} : P.underlying t = some (.pointer e) → TyA P t [.nilp]
  | iptr {t e cs} : P.underlying t = some (.pointer e) → 0 < P.cellsOf e → TyA P e cs → TyA P t [.iptr cs]
  | nils {t e} : P.underlying t = some (.slice e) → TyA P t [.nils]
  | isl {t e es} : P.underlying t = some (.slice e) → 0 < P.cellsOf e → es.length ≤ maxLen → TyAll P e es → TyA P t [.isl (P.cellsOf e) es]
  | struct {t fs parts} : P.underlying t = some (.struct fs) → TyAs P (fs.toList.map (·.type)) parts → TyA P t parts.flatten
  | array {t n e parts} : P.underlying t = some (.array n e) → parts.length = n → TyAll P e parts → TyA P t parts.flatten
  | other {t} : othK P t = true → TyA P t [.und]
inductive TyAs (P : Program) : List TypeId → List (List AV) → Prop where
  | nil : TyAs P [] []
  | cons {t ts p ps} : TyA P t p → TyAs P ts ps → TyAs P (t :: ts) (p :: ps)
inductive TyAll (P : Program) : TypeId → List (List AV) → Prop where
  | nil {t} : TyAll P t []
  | cons {t p ps} : TyA P t p → TyAll P t ps → TyAll P t (p :: ps)
end

theorem TyAll.mem {P : Program} {t : TypeId} : ∀ {es : List (List AV)}, TyAll P t es → ∀ e ∈ es, TyA P t e
  | [], _ => by simp
  | p :: ps, h => by
    cases h with
    | cons h1 h2 =>
      intro e he
      rcases List.mem_cons.1 he with rfl | he
      · exact h1
      · exact TyAll.mem h2 e he

section
variable {H : Type} {enc : TypeId × Value → H} {P : Program} {w : World} {base : Nat} {spare : Nat → Bool} {held : Bool} {c : Ctx}

theorem mrel_of_cells {a : Addr} {n : Nat} {cs : List Value} {as : List AV} (hc : ∀ b o, (w.cell? ⟨b, o, none⟩).isSome → c.im b o) (h : w.cells? base a n = some cs) (hr : LRel c w as cs) (h1 : ∀ u ∈ cs, u.oneCell' = true) : MRel c w as a.block a.off := by
  obtain ⟨_, hlen, hget⟩ := World.cells?_some h
  refine MRel.ofFn fun i x hx => ?_
  obtain ⟨v, hv, hvr⟩ := LRel.get hr hx
  have hi : i < n := by rw [← hlen]; exact (List.getElem?_eq_some_iff.1 hv).1
  have hcell : w.cell? ⟨a.block, a.off + i, none⟩ = some v := by
    have := hget i hi
    rw [hv] at this
    unfold Addr.add at this
    split at this
    · rename_i e; subst e
      have hs := World.cell?_spot this
      obtain ⟨b, o, s⟩ := a
      simp at hs; subst hs
      simpa using this
    · exact this
  exact ⟨hc _ _ (by rw [hcell]; rfl), v, hcell, h1 v (List.mem_of_getElem? hv), hvr⟩

theorem spot_of_cells {a : Addr} {n : Nat} {cs : List Value} (h : w.cells? base a n = some cs) (hn : 0 < n) : a.spot = none := by
  obtain ⟨_, hlen, hget⟩ := World.cells?_some h
  have h0 := hget 0 hn
  have : ∃ v, cs[0]? = some v := ⟨cs[0]'(by omega), List.getElem?_eq_getElem (by omega)⟩
  obtain ⟨v, hv⟩ := this
  rw [hv] at h0
  exact World.cell?_spot h0


theorem struct_parts (sz : TypeId → Nat) : ∀ (ts : List TypeId) (cs : List Value), cs.length = (ts.map sz).sum →
    (∀ (i : Nat) t, ts[i]? = some t → ∃ as, TyA P t as ∧ LRel c w as ((cs.drop ((ts.take i).map sz).sum).take (sz t)) ∧ ∀ u ∈ (cs.drop ((ts.take i).map sz).sum).take (sz t), u.oneCell' = true) →
    ∃ parts, TyAs P ts parts ∧ LRel c w parts.flatten cs ∧ ∀ u ∈ cs, u.oneCell' = true
  | [], cs, hl, _ => by
    have : cs = [] := by simpa using hl
    subst this
    exact ⟨[], .nil, by simp [LRel], by simp⟩
  | t :: ts, cs, hl, h => by
    obtain ⟨as, h1, h2, h3⟩ := h 0 t (by simp)
    simp only [List.take_zero, List.map_nil, List.sum_nil, List.drop_zero] at h2 h3
    simp only [List.map_cons, List.sum_cons] at hl
    obtain ⟨parts, k1, k2, k3⟩ := struct_parts sz ts (cs.drop (sz t)) (by simp; omega) (fun i t' ht' => by
      obtain ⟨as', g1, g2, g3⟩ := h (i + 1) t' (by simpa using ht')
      simp only [List.take_succ_cons, List.map_cons, List.sum_cons] at g2 g3
      rw [← List.drop_drop] at g2 g3
      exact ⟨as', g1, g2, g3⟩)
    refine ⟨as :: parts, .cons h1 k1, ?_, ?_⟩
    · have := LRel.append h2 k2
      simpa using this
    · intro u hu
      rw [← List.take_append_drop (sz t) cs, List.mem_append] at hu
      rcases hu with hu | hu
      · exact h3 u hu
      · exact k3 u hu

theorem tyAs_all {e : TypeId} : ∀ {n : Nat} {parts : List (List AV)}, TyAs P (List.replicate n e) parts → TyAll P e parts ∧ parts.length = n
  | 0, parts, h => by cases h; exact ⟨.nil, rfl⟩
  | n + 1, parts, h => by
    rw [List.replicate_succ] at h
    cases h with
    | cons h1 h2 =>
      obtain ⟨k1, k2⟩ := tyAs_all h2
      exact ⟨.cons h1 k1, by simp [k2]⟩

theorem slice_parts {e : TypeId} {a : Addr} {n len : Nat} {elems : List (DataW H × List MemPlace)} (hc : ∀ b o, (w.cell? ⟨b, o, none⟩).isSome → c.im b o)
    (ih : ∀ cs x, DataW.trod enc P w base spare held n e cs = some x → ∃ as, TyA P e as ∧ LRel c w as cs ∧ ∀ u ∈ cs, u.oneCell' = true) (hs : 0 < len → a.spot = none)
    (hlen : elems.length = len) (h : ∀ i, i < len → (w.cells? base (a.add (i * P.cellsOf e)) (P.cellsOf e)).bind (DataW.trod enc P w base spare held n e) = elems[i]?) :
    ∀ k j, j + k = len → ∃ es, es.length = k ∧ TyAll P e es ∧ ERel c w (P.cellsOf e) es a.block (a.off + j * P.cellsOf e)
  | 0, j, _ => ⟨[], rfl, .nil, by simp [ERel]⟩
  | k + 1, j, hj => by
    obtain ⟨es, k1, k2, k3⟩ := slice_parts hc ih hs hlen h k (j + 1) (by omega)
    have hx : elems[j]? = some (elems[j]'(by omega)) := List.getElem?_eq_getElem (by omega)
    have hi := h j (by omega)
    rw [hx, Option.bind_eq_some_iff] at hi
    obtain ⟨cs, hcs, htr⟩ := hi
    obtain ⟨as, g1, g2, g3⟩ := ih cs _ htr
    have hM := mrel_of_cells hc hcs g2 g3
    have e1 : (a.add (j * P.cellsOf e)).block = a.block ∧ (a.add (j * P.cellsOf e)).off = a.off + j * P.cellsOf e := by
      unfold Addr.add
      split
      · rename_i e0; rw [e0]; simp
      · simp
    rw [e1.1, e1.2] at hM
    have hL : as.length = P.cellsOf e := by
      rw [← (World.cells?_some hcs).2.1]; exact (LRel.length g2).symm
    refine ⟨as :: es, by simp [k1], .cons g1 k2, ?_⟩
    simp only [ERel]
    refine ⟨hL, hM, ?_⟩
    rwa [Nat.add_mul, Nat.one_mul, ← Nat.add_assoc] at k3

theorem trod_one {n : Nat} {t : TypeId} {cs : List Value} {x : DataW H × List MemPlace} (ho : othK P t = true) (h : DataW.trod enc P w base spare held (n + 1) t cs = some x) : ∃ v, cs = [v] ∧ v.oneCell' = true := by
  rw [DataW.trod_step] at h
  unfold DataW.trodStep at h
  split at h
  case h_9 hu => simp [othK, hu] at ho
  case h_10 hu => simp [othK, hu] at ho
  all_goals first
    | exact ⟨_, rfl, rfl⟩
    | (exact absurd h (by simp))

theorem read_trod (hl : laidOutB P = true) (hc : ∀ b o, (w.cell? ⟨b, o, none⟩).isSome → c.im b o) : ∀ (n : Nat) (t : TypeId) (cs : List Value) (x : DataW H × List MemPlace), t < P.types.size → DataW.trod enc P w base spare held n t cs = some x → ∃ as, TyA P t as ∧ LRel c w as cs ∧ ∀ u ∈ cs, u.oneCell' = true
  | 0, _, _, _, _, h => by simp [DataW.trod] at h
  | n + 1, t, cs, x, ht, h => by
    have ih := read_trod hl hc n
    cases hu : P.underlying t with
    | none => rw [DataW.trod_step] at h; unfold DataW.trodStep at h; simp [hu] at h
    | some d =>
      by_cases ho : othK P t = true
      · -- unread
        obtain ⟨v, rfl, hv⟩ := trod_one ho h
        exact ⟨[.und], .other ho, by simp [LRel, VRel], by simpa using hv⟩
      · cases d with
        | bool =>
          obtain ⟨b, rfl, -⟩ := DataW.trod_bool hu h
          exact ⟨[.bool b], .bool hu, by simp [LRel, VRel], by simp [Value.oneCell']⟩
        | int k =>
          obtain ⟨m, rfl, -, hw⟩ := DataW.trod_int hu h
          simp only [Lit.wf, Bool.and_eq_true, decide_eq_true_eq] at hw
          exact ⟨[.int k m], .int hu hw.1 hw.2, by simp [LRel, VRel], by simp [Value.oneCell']⟩
        | string =>
          obtain ⟨s, rfl, -, hw⟩ := DataW.trod_string hu h
          refine ⟨[.str s.data.toList], .str hu (by simpa using hw), by simp [LRel, VRel], by simp [Value.oneCell']⟩
        | pointer e =>
          have hpos : 0 < P.cellsOf e := by
            simp [othK, hu] at ho
            omega
          rcases DataW.trod_pointer hu h with ⟨rfl, -⟩ | ⟨a, cs', y, m, hm, rfl, -, hcs, hy⟩
          · exact ⟨[.nilp], .nilp hu, by simp [LRel, VRel], by simp [Value.oneCell']⟩
          · cases hm
            obtain ⟨as, g1, g2, g3⟩ := ih e cs' y (kid_pointer hl ht hu) hy
            refine ⟨[.iptr as], .iptr hu hpos g1, ?_, by simp [Value.oneCell']⟩
            have hs := spot_of_cells hcs hpos
            have hM := mrel_of_cells hc hcs g2 g3
            obtain ⟨b, o, s⟩ := a
            simp at hs; subst hs
            simp only [LRel, VRel]
            exact ⟨_, [], rfl, ⟨b, o, rfl, hM⟩, rfl⟩
        | slice e =>
          have hpos : 0 < P.cellsOf e := by
            simp [othK, hu] at ho
            omega
          rcases DataW.trod_slice hu h with ⟨rfl, -⟩ | ⟨a, len, cap, elems, rest, m, hm, rfl, -, hb, hlc, hcm, hel, hget, -, -⟩
          · exact ⟨[.nils], .nils hu, by simp [LRel, VRel], by simp [Value.oneCell']⟩
          · cases hm
            have hs : 0 < len → a.spot = none := fun h0 => by
              have hi := hget 0 h0
              have hx : elems[0]? = some (elems[0]'(by omega)) := List.getElem?_eq_getElem (by omega)
              rw [hx, Option.bind_eq_some_iff] at hi
              obtain ⟨cs', hcs, -⟩ := hi
              have := spot_of_cells hcs hpos
              simpa [Addr.add] using this
            obtain ⟨es, k1, k2, k3⟩ := slice_parts (spare := spare) (held := held) hc (fun cs x hx => ih e cs x (kid_slice hl ht hu) hx) hs hel hget len 0 (by omega)
            have hml : maxLen ≤ 9223372036854775807 := by decide
            refine ⟨[.isl (P.cellsOf e) es], .isl hu hpos (by omega) k2, ?_, by simp [Value.oneCell']⟩
            simp only [LRel, VRel]
            refine ⟨_, [], rfl, ⟨some a, cap, by rw [k1], by omega, by omega, fun hne => ?_⟩, rfl⟩
            have hp : 0 < len := by rw [← k1]; exact (by cases es with | nil => exact absurd rfl hne | cons _ _ => simp)
            have hs := hs hp
            obtain ⟨b, o, s⟩ := a
            simp at hs; subst hs
            exact ⟨b, o, rfl, by simpa using k3⟩
        | struct fs =>
          obtain ⟨xs, m, hm, -, hcl, hxl, hget⟩ := DataW.trod_struct hu h
          cases hm
          obtain ⟨q1, q2, q3⟩ := kid_struct hl ht hu
          obtain ⟨parts, g1, g2, g3⟩ := struct_parts (P := P) (c := c) (w := w) P.cellsOf (fs.toList.map (·.type)) cs (by rw [hcl, q2]; simp [Function.comp_def]) (fun i t' ht' => by
            rw [List.getElem?_map, Option.map_eq_some_iff] at ht'
            obtain ⟨f, hf, rfl⟩ := ht'
            have hoff := q3 i f hf
            have hf' : fs[i]? = some f := by simpa using hf
            have hlt : i < xs.length := by rw [hxl]; exact (Array.getElem?_eq_some_iff.1 hf').1
            have hx := hget i f hf'
            rw [List.getElem?_eq_getElem hlt] at hx
            rw [show ((List.take i (fs.toList.map (·.type))).map P.cellsOf).sum = f.offset by rw [hoff, ← List.map_take, List.map_map]; rfl]
            exact ih f.type _ _ (q1 f (List.mem_of_getElem? hf)) hx)
          exact ⟨parts.flatten, .struct hu g1, g2, g3⟩
        | array m e =>
          obtain ⟨q1, q2⟩ := kid_array hl ht hu
          have hx : cs.length = P.cellsOf t ∧ ∀ i, i < m → ∃ y, DataW.trod enc P w base spare held n e ((cs.drop (i * P.cellsOf e)).take (P.cellsOf e)) = some y := by
            rw [DataW.trod_step] at h
            unfold DataW.trodStep at h
            simp only [hu] at h
            split at h
            · rename_i hcl
              refine ⟨hcl, fun i hi => ?_⟩
              simp only [Option.map_eq_some_iff] at h
              obtain ⟨xs, hxs, -⟩ := h
              have h1 := mapM_some_get hxs i i (by simp [hi])
              have h2 := mapM_some_length hxs
              rw [List.getElem?_eq_getElem (by simp at h2; omega)] at h1
              exact ⟨_, h1⟩
            · simp at h
          obtain ⟨hcl, hget⟩ := hx
          obtain ⟨parts, g1, g2, g3⟩ := struct_parts (P := P) (c := c) (w := w) P.cellsOf (List.replicate m e) cs (by rw [hcl, q2]; simp) (fun i t' ht' => by
            rw [List.getElem?_replicate] at ht'
            split at ht'
            · rename_i hi
              cases ht'
              obtain ⟨y, hy⟩ := hget i hi
              rw [show ((List.take i (List.replicate m e)).map P.cellsOf).sum = i * P.cellsOf e by simp [List.take_replicate, Nat.min_eq_left (Nat.le_of_lt hi)]]
              exact ih e _ _ q1 hy
            · cases ht')
          obtain ⟨g4, g5⟩ := tyAs_all g1
          exact ⟨parts.flatten, .array hu g5 g4, g2, g3⟩
        | _ => exact absurd (by simp [othK, hu]) ho


/-- Types whose values are rows of cells. -/
def aggK (P : Program) (t : TypeId) : Bool :=
  match P.underlying t with
  | some (.struct _) | some (.array _ _) => true
  | _ => false

/-- The abstract value of an argument. -/
inductive TyV (P : Program) : TypeId → AV → Prop where
  | agg {t cs} : aggK P t = true → TyA P t cs → TyV P t (.agg cs)
  | one {t a} : aggK P t = false → TyA P t [a] → TyV P t a
inductive TyVs (P : Program) : List TypeId → List AV → Prop where
  | nil : TyVs P [] []
  | cons {t ts a as} : TyV P t a → TyVs P ts as → TyVs P (t :: ts) (a :: as)

theorem read_value {r : Reach} {b0 : Nat} {w0 : World} {n : Nat} {t : TypeId} {v : Value} {x : DataW H × List MemPlace} (hl : laidOutB P = true) (hc : ∀ b o, (w.cell? ⟨b, o, none⟩).isSome → c.im b o) (ht : t < P.types.size)
    (hok : Value.okWide P w0 r b0 t v) (h : DataW.trod enc P w base spare held n t v.cells.toList = some x) : ∃ a, TyV P t a ∧ VRel c w a v := by
  obtain ⟨as, h1, h2, h3⟩ := read_trod (c := c) hl hc n t _ x ht h
  unfold Value.okWide at hok
  split at hok
  · rename_i hu
    obtain ⟨cs, rfl, -⟩ := hok
    simp only [Value.cells] at h2 h3
    exact ⟨.agg as, .agg (by simp [aggK, hu]) h1, by simp only [VRel]; exact ⟨cs, rfl, h2, h3⟩⟩
  · rename_i hu
    obtain ⟨cs, rfl, -⟩ := hok
    simp only [Value.cells] at h2 h3
    exact ⟨.agg as, .agg (by simp [aggK, hu]) h1, by simp only [VRel]; exact ⟨cs, rfl, h2, h3⟩⟩
  · rename_i hn1 hn2
    have hna : aggK P t = false := by
      unfold aggK
      split
      · rename_i hu; exact absurd hu (hn1 _)
      · rename_i hu; exact absurd hu (hn2 _ _)
      · rfl
    have hv : v.cells.toList = [v] := by
      cases v with
      | agg cs =>
        exfalso
        unfold Cell.okWide at hok
        split at hok <;> first
          | (rename_i e; cases e; done)
          | (rename_i e _; cases e; done)
          | (unfold Cell.ok at hok; split at hok <;> simp_all)
      | _ => rfl
    rw [hv] at h2
    match as, h2 with
    | [a], h2 =>
      simp only [LRel] at h2
      obtain ⟨v', _, e, h4, rfl⟩ := h2
      cases e
      exact ⟨a, .one hna h1, h4⟩
    | [], h2 => simp [LRel] at h2
    | _ :: _ :: _, h2 =>
      simp only [LRel] at h2
      obtain ⟨_, _, e, _, _, _, rfl, _⟩ := h2
      cases e

theorem read_args {r : Reach} {b0 : Nat} {w0 : World} (hl : laidOutB P = true) (hc : ∀ b o, (w.cell? ⟨b, o, none⟩).isSome → c.im b o) : ∀ {ts : List TypeId} {vs : List Value} {ds : List (DataW H)} {ps : List MemPlace},
    (∀ t ∈ ts, t < P.types.size) → (∀ (j : Nat) t v, ts[j]? = some t → vs[j]? = some v → Value.okWide P w0 r b0 t v) → DataW.TrodAll enc P w base spare held ts vs ds ps → ∃ as, TyVs P ts as ∧ LRel c w as vs
  | [], [], _, _, _, _, _ => ⟨[], .nil, by simp [LRel]⟩
  | [], _ :: _, _, _, _, _, h => by simp [DataW.TrodAll] at h
  | _ :: _, [], _, _, _, _, h => by simp [DataW.TrodAll] at h
  | _ :: _, _ :: _, [], _, _, _, h => by simp [DataW.TrodAll] at h
  | t :: ts, v :: vs, d :: ds, ps, ht, hok, h => by
    simp only [DataW.TrodAll] at h
    obtain ⟨p, q, ⟨n, h1⟩, h2, -⟩ := h
    obtain ⟨a, g1, g2⟩ := read_value (c := c) hl hc (ht t (by simp)) (hok 0 t v rfl rfl) h1
    obtain ⟨as, g3, g4⟩ := read_args hl hc (fun x hx => ht x (by simp [hx])) (fun j t v hj hv => hok (j + 1) t v (by simpa using hj) (by simpa using hv)) h2
    exact ⟨a :: as, .cons g1 g3, by simp only [LRel]; exact ⟨v, vs, rfl, g2, g4⟩⟩

end

/-- No object is known yet. -/
def noHeap : AHeap := ⟨fun _ => none, 0⟩

theorem law_calls {H : Type} {enc : TypeId × Value → H} {P : Program} {f : FuncId} {ts : List TypeId} {args : Array Value} {W : World} {r : Reach} {b0 : Nat} {ds : List (DataW H)} {ps : List MemPlace} (hl : laidOutB P = true) (ht : ∀ t ∈ ts, t < P.types.size)
    (hok : ∀ (j : Nat) t v, ts[j]? = some t → args.toList[j]? = some v → Value.okWide P W r b0 t v) (hA : DataW.TrodAll enc P W 0 (fun _ => true) true ts args.toList ds ps)
    (hcall : ∀ as w, (callFunc f as).run P w = .ok (.enter f as) w) (hgl : ∀ c : Ctx, (∀ b o, (W.cell? ⟨b, o, none⟩).isSome = true → c.im b o) → GlR c W) (H : ∀ as, TyVs P ts as → CallsA P f as noHeap (fun v _ => v = .bool true)) : Calls P f args W fun e W' => e = .returned (.bool true) ∧ Below W.heap.size W W' := by
  let c : Ctx := ⟨fun _ => none, fun b o => (W.cell? ⟨b, o, none⟩).isSome = true⟩
  obtain ⟨as, h1, h2⟩ := read_args (c := c) hl (fun _ _ h => h) ht hok hA
  have hW : WRel W.heap.size c noHeap W := ⟨by simp [c], by simp [c], by simp [c], fun b o hb => by
      show b < W.heap.size
      have hb : (W.cell? ⟨b, o, none⟩).isSome = true := hb
      cases hx : W.heap[b]? with
      | none => simp [World.cell?, hx] at hb
      | some _ => exact (Array.getElem?_eq_some_iff.1 hx).1, fun _ _ => rfl, Nat.le_refl _, hgl c fun _ _ h => h⟩
  have hA' := H as h1
  rcases hA' with hA' | hA'
  case inr =>
    obtain ⟨c', u, v, h', w', hr, _⟩ := hA' W.heap.size c W args.toList hW h2
    rw [hcall] at hr
    cases hr
  have := hA'.2 W.heap.size c W args.toList hW h2
  rw [show args.toList.toArray = args from rfl] at this
  refine this.mono fun e W' h => ?_
  obtain ⟨c', u, v, h', rfl, E, _, hv, rfl⟩ := h
  simp only [VRel] at hv
  subst hv
  exact ⟨rfl, E.below⟩

theorem trodAll_below {H : Type} {enc : TypeId × Value → H} {P : Program} (hl : laidOutB P = true) {W W' : World} (hb : Below W.heap.size W W') : ∀ {ts : List TypeId} {vs : List Value} {ds : List (DataW H)} {ps : List MemPlace},
    (∀ t ∈ ts, t < P.types.size) → (∀ t ∈ ts, P.readableRec t = true) → (∀ x ∈ ps, x.block < W.heap.size) → DataW.TrodAll enc P W 0 (fun _ => true) true ts vs ds ps → DataW.TrodAll enc P W' 0 (fun b => decide (b < W.heap.size)) true ts vs ds ps
  | [], [], [], _, _, _, _, h => h
  | [], [], _ :: _, _, _, _, _, h => by simp [DataW.TrodAll] at h
  | [], _ :: _, _, _, _, _, _, h => by simp [DataW.TrodAll] at h
  | _ :: _, [], _, _, _, _, _, h => by simp [DataW.TrodAll] at h
  | _ :: _, _ :: _, [], _, _, _, _, h => by simp [DataW.TrodAll] at h
  | t :: ts, v :: vs, d :: ds, ps, ht, hr, hp, h => by
    simp only [DataW.TrodAll] at h ⊢
    obtain ⟨p, q, h1, h2, rfl⟩ := h
    refine ⟨p, q, Below.trod hl (hr t (by simp)) (ht t (by simp)) h1 hb (fun x hx => hp x (by simp [hx])), trodAll_below hl hb (fun x hx => ht x (by simp [hx])) (fun x hx => hr x (by simp [hx])) (fun x hx => hp x (by simp [hx])) h2, rfl⟩

theorem law_post {H : Type} {enc : TypeId × Value → H} {P : Program} {f : Func} {s : ChangeSpec} {apart fresh handsOn : Bool} {W W' : World} {args : Array Value} {ds gs : List (DataW H)} {before : List MemPlace} {t : TypeId}
    (hl : laidOutB P = true) (ht : ∀ t ∈ f.params.toList, t < P.types.size) (hr : ∀ t ∈ f.params.toList, P.readableRec t = true) (hres : f.resultTypes = #[t]) (htb : P.underlying t = some .bool)
    (hvars : s.vars = []) (hfn : ∀ xs : List (DataW H), xs.length = f.params.size → s.fn H xs = { results := [.lit (.bool true)], args := xs })
    (hW : DataW.Whole enc P f.params.toList s.vars apart W args.toList ds gs before) (hB : Below W.heap.size W W') : s.post enc P f apart fresh handsOn false W args (.bool true) W' := by
  have hlt := hW.lt
  have hW' := hW
  obtain ⟨p, q, hA, hV, hb, -, -⟩ := hW'
  rw [hvars] at hV
  have hg : gs = [] ∧ q = [] := by
    cases gs with
    | nil => simpa [DataW.TrodVars] using hV
    | cons _ _ => simp [DataW.TrodVars] at hV
  obtain ⟨rfl, rfl⟩ := hg
  have hlen : ∀ {ts : List TypeId} {vs : List Value} {ds : List (DataW H)} {p : List MemPlace}, DataW.TrodAll enc P W 0 (fun _ => true) true ts vs ds p → ds.length = ts.length := by
    intro ts
    induction ts with
    | nil => intro vs ds p h; cases vs <;> cases ds <;> simp_all [DataW.TrodAll]
    | cons t ts ih =>
      intro vs ds p h
      cases vs <;> cases ds <;> simp only [DataW.TrodAll] at h
      obtain ⟨_, _, _, h2, _⟩ := h
      simp [ih h2]
  have hdl : (ds ++ ([] : List (DataW H))).length = f.params.size := by simp [hlen hA]
  have e := hfn _ hdl
  refine ⟨ds, [], before, [], before, [], hW, ?_, ?_, ?_, hB.frame _, fun h => by simp at h⟩
  · rw [e, hres]
    simp only [List.size_toArray, List.length_cons, List.length_nil, DataW.TrodAll]
    refine ⟨[], [], ⟨1, ?_⟩, rfl, rfl⟩
    simp [DataW.trod, htb, Value.cells]
  · rw [e]
    simp only [List.append_nil] at hb ⊢
    subst hb
    exact trodAll_below hl hB ht hr hlt hA
  · rw [e, hvars]; simp [DataW.TrodVars]


/-- The parameters' types are rows and can be read. -/
def parsOk (P : Program) (f : Func) : Bool := f.params.toList.all fun t => decide (t < P.types.size) && P.readableRec t

/-- A law whose function answers true at every abstract input. -/
theorem law_lifted {C : Checked} {os : Os} {f : FuncId} {fn : Func} {s : ChangeSpec} {H : Type} {enc : TypeId × Value → H} {conds : List PathCond} {apart fresh handsOn : Bool} {t : TypeId}
    (own : ownKnob C.prog.godebug = none) (started : os.Started) (noInit : C.prog.inits.idxOf? f = none) (hfn : C.prog.funcs[f]? = some fn)
    (witness : ∃ (w : World) (tape : Tape) (i : Input), w.os = os ∧ (w.forCall tape i).Shaped C.prog ∧ i.vars = [] ∧ Input.okWide C.prog (w.forCall tape i) .any w.heap.size f i ∧
      s.pre6 enc C.prog fn conds apart (w.forCall tape i).memory i.args ∧ Assume.holds {} C.prog (lone (Frame.enter C.prog f i.args .normal) [] (w.forCall tape i)))
    (hl : laidOutB C.prog = true) (hp : parsOk C.prog fn = true) (hres : fn.resultTypes = #[t]) (htb : C.prog.underlying t = some .bool)
    (hvars : s.vars = []) (hsf : ∀ xs : List (DataW H), xs.length = fn.params.size → s.fn H xs = { results := [.lit (.bool true)], args := xs })
    (hcall : ∀ as w, (callFunc f as).run C.prog w = .ok (.enter f as) w) (hgl : ∀ g, Globs g = []) (Hc : ∀ as, TyVs C.prog fn.params.toList as → CallsA C.prog f as noHeap (fun v _ => v = .bool true)) :
    ReturnsInHanded {} C os f .any (s.pre6 enc C.prog fn conds apart) (s.post enc C.prog fn apart fresh handsOn false) := by
  simp only [parsOk, List.all_eq_true, Bool.and_eq_true, decide_eq_true_eq] at hp
  refine returnsInHanded_of_change own started noInit hfn witness ?_
  intro W base args ds gs before hval hW _ _
  have hW' := hW
  obtain ⟨p, q, hA, -, -, -, -⟩ := hW'
  refine (law_calls hl (fun t ht => (hp t ht).1) (fun j t v h1 h2 => hval j t v (by simpa using h1) (by simpa using h2)) hA hcall (fun c _ g => by rw [hgl]; simp [MRel]) Hc).mono fun e W' ⟨he, hB⟩ => ⟨_, he, ?_⟩
  exact law_post hl (fun t ht => (hp t ht).1) (fun t ht => (hp t ht).2) hres htb hvars hsf hW hB

section
variable {P : Program} {t : TypeId} {cs : List AV} {a : AV}
theorem TyA.inv_bool (hu : P.underlying t = some .bool) (h : TyA P t cs) : ∃ b, cs = [.bool b] := by cases h <;> simp_all [othK]
theorem TyA.inv_int {k : IntKind} (hu : P.underlying t = some (.int k)) (h : TyA P t cs) : ∃ n, cs = [.int k n] ∧ k.min ≤ n ∧ n ≤ k.max := by cases h <;> simp_all [othK]
theorem TyA.inv_str (hu : P.underlying t = some .string) (h : TyA P t cs) : ∃ s, cs = [.str s] ∧ s.length ≤ maxLen := by cases h <;> simp_all [othK]
theorem TyA.inv_ptr {e : TypeId} (hu : P.underlying t = some (.pointer e)) (he : 0 < P.cellsOf e) (h : TyA P t cs) : cs = [.nilp] ∨ ∃ ds, cs = [.iptr ds] ∧ TyA P e ds := by
  cases h <;> simp_all [othK]
theorem TyA.inv_slice {e : TypeId} (hu : P.underlying t = some (.slice e)) (he : 0 < P.cellsOf e) (h : TyA P t cs) : cs = [.nils] ∨ ∃ es, cs = [.isl (P.cellsOf e) es] ∧ es.length ≤ maxLen ∧ TyAll P e es := by
  cases h <;> simp_all [othK]
theorem TyA.inv_struct {fs : Array Field} (hu : P.underlying t = some (.struct fs)) (h : TyA P t cs) : ∃ parts, cs = parts.flatten ∧ TyAs P (fs.toList.map (·.type)) parts := by
  cases h <;> simp_all [othK]
  exact ⟨_, rfl, by assumption⟩
theorem TyA.inv_array {n : Nat} {e : TypeId} (hu : P.underlying t = some (.array n e)) (h : TyA P t cs) : ∃ parts, cs = parts.flatten ∧ parts.length = n ∧ TyAll P e parts := by
  cases h <;> simp_all [othK]
  exact ⟨_, rfl, by assumption, by assumption⟩
theorem TyV.one_inv (hg : aggK P t = false) (h : TyV P t a) : TyA P t [a] := by cases h <;> simp_all
theorem TyV.agg_inv (hg : aggK P t = true) (h : TyV P t a) : ∃ cs, a = .agg cs ∧ TyA P t cs := by
  cases h
  · exact ⟨_, rfl, by assumption⟩
  · simp_all
theorem TyVs.nil_inv {as : List AV} (h : TyVs P [] as) : as = [] := by cases h; rfl
theorem TyVs.cons_inv {ts : List TypeId} {as : List AV} (h : TyVs P (t :: ts) as) : ∃ a bs, as = a :: bs ∧ TyV P t a ∧ TyVs P ts bs := by
  cases h; exact ⟨_, _, rfl, by assumption, by assumption⟩
theorem TyV.inv_int {k : IntKind} (hu : P.underlying t = some (.int k)) (h : TyV P t a) : ∃ n, a = .int k n ∧ k.min ≤ n ∧ n ≤ k.max := by
  obtain ⟨n, e, h1⟩ := TyA.inv_int hu (h.one_inv (by simp [aggK, hu]))
  exact ⟨n, by simpa using e, h1⟩
theorem TyV.inv_bool (hu : P.underlying t = some .bool) (h : TyV P t a) : ∃ b, a = .bool b := by
  obtain ⟨n, e⟩ := TyA.inv_bool hu (h.one_inv (by simp [aggK, hu]))
  exact ⟨n, by simpa using e⟩
theorem TyV.inv_str (hu : P.underlying t = some .string) (h : TyV P t a) : ∃ s, a = .str s ∧ s.length ≤ maxLen := by
  obtain ⟨n, e, h1⟩ := TyA.inv_str hu (h.one_inv (by simp [aggK, hu]))
  exact ⟨n, by simpa using e, h1⟩
theorem TyV.inv_slice {e : TypeId} (hu : P.underlying t = some (.slice e)) (he : 0 < P.cellsOf e) (h : TyV P t a) : a = .nils ∨ ∃ es, a = .isl (P.cellsOf e) es ∧ es.length ≤ maxLen ∧ TyAll P e es := by
  rcases TyA.inv_slice hu he (h.one_inv (by simp [aggK, hu])) with h | ⟨es, h, h1⟩
  · exact Or.inl (by simpa using h)
  · exact Or.inr ⟨es, by simpa using h, h1⟩
theorem TyAs.nil_inv {ps : List (List AV)} (h : TyAs P [] ps) : ps = [] := by cases h; rfl
theorem TyAs.cons_inv {ts : List TypeId} {ps : List (List AV)} (h : TyAs P (t :: ts) ps) : ∃ p qs, ps = p :: qs ∧ TyA P t p ∧ TyAs P ts qs := by
  cases h; exact ⟨_, _, rfl, by assumption, by assumption⟩
end

end Go.Abs
