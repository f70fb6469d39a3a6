/- Own texts, merged: AbsMapU, AbsRows, PaProg, ClMath, ClBits, PtSpec, PaRead, PaRound, PaLoop, PaRd, PaOf, PaEq, PaRef, PaRefB, PaRefC, PaAlive. -/
import Derived.Test.YtnggcokgnblpgaaM8
set_option linter.unusedVariables false
set_option linter.unusedSimpArgs false
section
/- Maps of counts: what is under each key, by a function. -/
namespace Go.Abs
section
variable {α : Type} [DecidableEq α]
def addK (ks : List α) (a : α) : List α := if a ∈ ks then ks else ks ++ [a]
def idxK (ks : List α) (a : α) : Nat := ks.idxOf a
def updF (f : α → Nat) (a : α) (n : Nat) : α → Nat := fun b => if b = a then n else f b
def mapO (enc : α → AV) (ks : List α) (f : α → Nat) : AObj := .map (ks.map enc) (ks.map fun a => .int .i64 (f a : Nat))
structure KeyOk (kk : KeyK) (enc : α → AV) : Prop where
  eq : ∀ a b, keyEq kk (enc a) (enc b) = some (decide (a = b))
  key : ∀ a, isKey kk (enc a) = true
structure MapAt (h : z04) (id : Nat) (enc : α → AV) (ks : List α) (f : α → Nat) : Prop where
  obj : h.objs id = some (mapO enc ks f)
  nd : ks.Nodup
  out : ∀ a, a ∉ ks → f a = 0
theorem findKA_map {kk : KeyK} {enc : α → AV} (E : KeyOk kk enc) (a : α) : ∀ (ks : List α) (i : Nat), findKA kk (enc a) (ks.map enc) i = some (if a ∈ ks then some (i + ks.idxOf a) else none)
  | [], i => by simp [findKA]
  | b :: ks, i => by
    simp only [List.map_cons, findKA, E.eq]
    by_cases e : a = b
    · subst e; simp
    · have e2 : ¬ b = a := fun h => e h.symm
      simp only [decide_eq_false e]
      rw [findKA_map E a ks (i + 1)]
      simp only [List.mem_cons, e, false_or, List.idxOf_cons, beq_iff_eq, e2, if_false]
      split
      · simp only [Option.some.injEq]
        have : (b == a) = false := by simpa using e2
        simp [this]; omega
      · rfl
theorem idx_get {ks : List α} {a : α} (h : a ∈ ks) : ks[ks.idxOf a]? = some a := by
  rw [List.getElem?_eq_getElem (List.idxOf_lt_length_of_mem h), List.getElem_idxOf]
theorem addK_nd {ks : List α} {a : α} (h : ks.Nodup) : (addK ks a).Nodup := by
  unfold addK
  split
  · exact h
  · rename_i hn
    rw [List.nodup_append]
    exact ⟨h, by simp, fun x hx y hy e => by simp at hy; subst hy; subst e; exact hn hx⟩
theorem addK_mem (ks : List α) (a : α) : a ∈ addK ks a := by
  unfold addK; split <;> simp_all
theorem addK_sub {ks : List α} {a b : α} (h : b ∉ addK ks a) : b ∉ ks := fun hb => h (by unfold addK; split <;> simp_all)
theorem upd_map {ks : List α} (hn : ks.Nodup) {a : α} (ha : a ∈ ks) (f : α → Nat) (n : Nat) : (ks.map fun b => AV.int .i64 (f b : Nat)).set (ks.idxOf a) (.int .i64 (n : Nat)) = ks.map fun b => AV.int .i64 (updF f a n b : Nat) := by
  apply List.ext_getElem?
  intro i
  rw [List.getElem?_set, List.getElem?_map, List.getElem?_map]
  by_cases e : ks.idxOf a = i
  · subst e
    rw [if_pos rfl, if_pos (by simpa using List.idxOf_lt_length_of_mem ha), idx_get ha]
    simp [updF]
  · rw [if_neg e]
    cases hi : ks[i]? with
    | none => rfl
    | some b =>
      have hb : b ≠ a := by
        rintro rfl
        have hil := (List.getElem?_eq_some_iff.1 hi).1
        have h1 := (List.getElem?_eq_some_iff.1 hi).2
        have := hn.idxOf_getElem i hil
        rw [h1] at this
        exact e this
      simp [updF, hb]
variable {h : z04} {id : Nat} {enc : α → AV} {ks : List α} {f : α → Nat} {kk : KeyK}
omit [DecidableEq α] in
theorem MapAt.new (h : z04) (enc : α → AV) : MapAt (h.push (.map [] [])) h.next enc ([] : List α) (fun _ => 0) := ⟨by rw [z2h]; rfl, by simp, fun _ _ => rfl⟩
theorem MapAt.lookup (M : MapAt h id enc ks f) (E : KeyOk kk enc) (a : α) (K : AV → Prop) : z3m (some (kk, .int .i64 0)) (.mapv id) (enc a) h K = K (.int .i64 (f a : Nat)) := by
  simp only [z3m, pLookup, M.obj, mapO, E.key, true_and, findKA_map E]
  by_cases e : a ∈ ks
  · rw [if_pos e]
    simp only [Nat.zero_add, List.getElem?_map, idx_get e, Option.map_some, Option.getD_some]
  · rw [if_neg e, M.out a e]
    rfl
theorem MapAt.upd (M : MapAt h id enc ks f) (a : α) (n : Nat) : MapAt (h.put id (mapO enc (addK ks a) (updF f a n))) id enc (addK ks a) (updF f a n) :=
  ⟨put_new _ _ _, addK_nd M.nd, fun b hb => by
    have : b ≠ a := fun e => hb (e ▸ addK_mem ks a)
    simp only [updF, this, if_false]; exact M.out b (addK_sub hb)⟩
theorem MapAt.set (M : MapAt h id enc ks f) (E : KeyOk kk enc) (z : AV) (a : α) (n : Nat) (K : z04 → Prop) : pMapSetO (some (kk, z)) (.mapv id) (enc a) (.int .i64 (n : Int)) h K = K (h.put id (mapO enc (addK ks a) (updF f a n))) := by
  simp only [pMapSetO, pMapSet, M.obj, mapO, E.key, true_and, findKA_map E]
  by_cases e : a ∈ ks
  · rw [if_pos e]
    simp only [Nat.zero_add, upd_map M.nd e, addK, if_pos e]
  · rw [if_neg e]
    simp only [addK, if_neg e, List.map_append, List.map_cons, List.map_nil]
    have : (ks.map fun b => AV.int .i64 (updF f a n b : Nat)) = ks.map fun b => AV.int .i64 (f b : Nat) := List.map_congr_left fun b hb => by
      have : b ≠ a := fun e2 => e (e2 ▸ hb)
      simp [updF, this]
    rw [this]; simp [updF]
theorem MapAt.ent (M : MapAt h id enc ks f) (a : α) : MapAt (h.put id (mapO enc (addK ks a) f)) id enc (addK ks a) f := ⟨put_new _ _ _, addK_nd M.nd, fun b hb => M.out b (addK_sub hb)⟩
theorem MapAt.entry (M : MapAt h id enc ks f) (E : KeyOk kk enc) (a : α) (K : AV → z04 → Prop) : pMapEntryO (some (kk, .int .i64 0)) (.mapv id) (enc a) h K = K (.tup [.int .i64 (f a : Nat),   .int .i64 (idxK (addK ks a) a : Nat)]) (h.put id (mapO enc (addK ks a) f)) := by
  simp only [idxK, pMapEntryO, pMapEntry, M.obj, mapO, E.key, true_and, findKA_map E]
  by_cases e : a ∈ ks
  · rw [if_pos e]
    have hs : h.put id (.map (ks.map enc) (ks.map fun b => AV.int .i64 (f b : Nat))) = h := put_self' M.obj
    simp only [Nat.zero_add, addK, if_pos e, hs, List.getElem?_map, idx_get e, Option.map_some, Option.getD_some]
  · rw [if_neg e]
    have hi : (ks ++ [a]).idxOf a = ks.length := by rw [List.idxOf_append, if_neg e]; simp
    simp only [addK, if_neg e, List.map_append, List.map_cons, List.map_nil, M.out a e, hi, List.length_map]
    rfl
theorem MapAt.store (M : MapAt h id enc ks f) {a : α} (ha : a ∈ ks) (n : Nat) (K : z04 → Prop) : z3s (.mapv id) (.int .i64 (idxK ks a : Nat)) (.int .i64 (n : Int)) h K = K (h.put id (mapO enc ks (updF f a n))) := by
  unfold idxK
  have hl := List.idxOf_lt_length_of_mem ha
  simp only [z3s, M.obj, mapO, Int.toNat_natCast, upd_map M.nd ha, List.length_map]
  apply propext
  constructor
  · rintro ⟨-, -, hk⟩; exact hk
  · intro hk; exact ⟨by omega, hl, hk⟩
omit [DecidableEq α] in
theorem MapAt.keep {h2 : z04} {S : Nat → Prop} (M : MapAt h id enc ks f) (k : Keeps h h2 S) (hid : id < h.next) (hs : ¬ S id) : MapAt h2 id enc ks f := ⟨by rw [k.objs id hid hs]; exact M.obj, M.nd, M.out⟩
end
def encIk (n : Int) : AV := .int .i64 n
def encPk (p : Int × Int) : AV := .agg [.int .i64 p.1, .int .i64 p.2]
theorem keyOk_int : KeyOk .int encIk := ⟨fun a b => by by_cases e : a = b <;> simp [keyEq, encIk, e], fun _ => rfl⟩
theorem keyOk_pair : KeyOk (.flat [.int, .int]) encPk := ⟨fun a b => by
  obtain ⟨a1, a2⟩ := a
  obtain ⟨b1, b2⟩ := b
  simp only [keyEq, encPk, z2c, if_true, Option.map_some, Option.some.injEq, Bool.and_true]
  by_cases e1 : a1 = b1 <;> by_cases e2 : a2 = b2 <;> simp [e1, e2], fun _ => rfl⟩
end Go.Abs
end

section
/- Rows of elements of several cells, by a function of their places. -/
namespace Go.Abs
def rowN (f : Nat → List AV) (n : Nat) : List AV := ((List.range n).map f).flatten
theorem rowN_succ (f : Nat → List AV) (n : Nat) : rowN f (n + 1) = rowN f n ++ f n := by simp [rowN, List.range_succ]
theorem rowN_congr {f g : Nat → List AV} {n : Nat} (h : ∀ k, k < n → f k = g k) : rowN f n = rowN g n := by
  unfold rowN
  rw [List.map_congr_left fun k hk => h k (List.mem_range.1 hk)]
section
variable {f : Nat → List AV} {sz : Nat} (hl : ∀ k, (f k).length = sz)
include hl
theorem rowN_len (n : Nat) : (rowN f n).length = n * sz := by
  induction n with
  | zero => simp [rowN]
  | succ n ih => rw [rowN_succ, List.length_append, ih, hl, Nat.add_mul, Nat.one_mul]
omit hl in
theorem rowN_fit {n k : Nat} (hk : k < n) : k * sz + sz ≤ n * sz := by
  have := Nat.mul_le_mul_right sz (show k + 1 ≤ n by omega)
  rwa [Nat.add_mul, Nat.one_mul] at this
theorem rowN_take {n k : Nat} (hk : k < n) : ((rowN f n).drop (k * sz)).take sz = f k := by
  induction n with
  | zero => omega
  | succ n ih =>
    have hn := rowN_len hl n
    rw [rowN_succ]
    by_cases e : k < n
    · have := rowN_fit (sz := sz) e
      rw [List.drop_append_of_le_length (by omega), List.take_append_of_le_length (by rw [List.length_drop]; omega)]
      exact ih e
    · have : k = n := by omega
      subst this
      rw [← hn, List.drop_left, ← hl k, List.take_length]
theorem rowN_get {n k j : Nat} (hk : k < n) (hj : j < sz) : (rowN f n)[k * sz + j]? = (f k)[j]? := by
  rw [← rowN_take hl hk, List.getElem?_take_of_lt hj, List.getElem?_drop]
theorem rowN_put {n k : Nat} (hk : k < n) {v : List AV} (hv : v.length = sz) : (rowN f n).take (k * sz) ++ v ++ (rowN f n).drop (k * sz + sz) = rowN (fun i => if i = k then v else f i) n := by
  induction n with
  | zero => omega
  | succ n ih =>
    have hn := rowN_len hl n
    rw [rowN_succ, rowN_succ]
    by_cases e : k < n
    · have := rowN_fit (sz := sz) e
      rw [List.take_append_of_le_length (by omega), List.drop_append_of_le_length (by omega), ← ih e, if_neg (by omega)]
      simp
    · have : k = n := by omega
      subst this
      rw [if_pos rfl, ← hn, List.take_left, List.drop_of_length_le (by rw [List.length_append, hl]; omega), List.append_nil]
      congr 1
      exact rowN_congr fun i hi => by rw [if_neg (by omega)]
theorem rowN_set {n k j : Nat} (hk : k < n) (hj : j < sz) (x : AV) : (rowN f n).set (k * sz + j) x = rowN (fun i => if i = k then (f k).set j x else f i) n := by
  induction n with
  | zero => omega
  | succ n ih =>
    have hn := rowN_len hl n
    rw [rowN_succ, rowN_succ]
    by_cases e : k < n
    · have := rowN_fit (sz := sz) e
      rw [List.set_append_left _ _ (by omega), ih e, if_neg (by omega)]
    · have : k = n := by omega
      subst this
      rw [if_pos rfl, List.set_append_right _ _ (by omega), hn, Nat.add_sub_cancel_left]
      congr 1
      exact rowN_congr fun i hi => by rw [if_neg (by omega)]
theorem rowN_chunk (n : Nat) : chunk sz n (rowN f n) = (List.range n).map f := by
  have key : ∀ (m : Nat) (g : Nat → List AV), (∀ k, (g k).length = sz) → chunk sz m (rowN g m) = (List.range m).map g := by
    intro m
    induction m with
    | zero => intro g _; rfl
    | succ m ih =>
      intro g hg
      have e : rowN g (m + 1) = g 0 ++ rowN (fun k => g (k + 1)) m := by
        simp only [rowN, List.range_succ_eq_map, List.map_cons, List.map_map, List.flatten_cons]; rfl
      rw [e, chunk]
      rw [show (g 0 ++ rowN (fun k => g (k + 1)) m).take sz = g 0 by rw [← hg 0, List.take_left], show (g 0 ++ rowN (fun k => g (k + 1)) m).drop sz = rowN (fun k => g (k + 1)) m by rw [← hg 0, List.drop_left]]
      rw [ih _ (fun k => hg (k + 1)), List.range_succ_eq_map, List.map_cons, List.map_map]; rfl
  exact key n f hl
end
/-! Reading and writing such rows. -/
section
variable {f : Nat → List AV} {sz : Nat} (hl : ∀ k, (f k).length = sz) {h : z04} {id n : Nat} {ty : TypeId} (ho : h.objs id = some (.row ty (rowN f n)))
include hl ho
theorem rowN_load {k : Nat} (hk : k < n) (K : AV → Prop) : z02 (some sz) (.ptr id (k * sz)) h K = K (.agg (f k)) := by
  have := rowN_fit (sz := sz) hk
  have hn := rowN_len hl n
  rw [z0o ho]
  simp only [z0h, rowN_take hl hk]
  rw [eq_true (show k * sz + sz ≤ (rowN f n).length by omega), true_and]
theorem rowN_load1 {k j : Nat} (hk : k < n) (hj : j < sz) {a : AV} (ha : (f k)[j]? = some a) (K : AV → Prop) : z02 none (.ptr id (k * sz + j)) h K = K a := by
  rw [z0o ho]
  simp only [z0h, rowN_get hl hk hj, ha]
theorem rowN_store {k : Nat} (hk : k < n) {v : List AV} (hv : v.length = sz) (K : z04 → Prop) : z0y sz (.ptr id (k * sz)) (.agg v) h K = K (h.put id (.row ty (rowN (fun i => if i = k then v else f i) n))) := by
  have := rowN_fit (sz := sz) hk
  have hn := rowN_len hl n
  simp only [z0y, ho, rowN_put hl hk hv]
  rw [eq_true hv, eq_true (show k * sz + sz ≤ (rowN f n).length by omega), true_and, true_and]
theorem rowN_store1 {k j : Nat} (hk : k < n) (hj : j < sz) {x : AV} (hx : x.leafy = true) (K : z04 → Prop) : z0y 1 (.ptr id (k * sz + j)) x h K = K (h.put id (.row ty (rowN (fun i => if i = k then (f k).set j x else f i) n))) := by
  have := rowN_fit (sz := sz) hk
  have hn := rowN_len hl n
  rw [pStore_ptr ho hx (by omega), rowN_set hl hk hj]
end
end Go.Abs
end

section
/- What is known of slots: the program's small functions. -/
set_option maxRecDepth 8000
set_option maxHeartbeats 1000000
namespace Go.Proofs.Ytnggcokgnblpgaa
open Go.Abs
theorem rz_nils {H : z04} {D : Nat → Prop} (k : Nat) : RzV H D .nils (.isl k []) := fun c c' w F v hv => by
  simp only [VRel] at hv ⊢
  exact ⟨none, 0, by simpa using hv, by simp, by simp, fun h => absurd rfl h⟩
def ClonedQ (l : List Int) (h : z04) (v : AV) (h2 : z04) : Prop :=
  (l = [] ∧ (v = .nils ∨ v = .eml) ∧ h2 = h) ∨ (l ≠ [] ∧ v = .gsl h.next 1 (l.map encI) ∧ h2 = h.push (.tok 3 l.length))
theorem clone_app (l : List Int) (hb : l.length ≤ 1000) (h : z04) (K : AV → z04 → Prop) (hK : ∀ v h2, ClonedQ l h v h2 → K v h2) : z3i true { e := 3, sz := 1, by_ := 8 } .eml (.isl 1 (l.map encI)) h K := by
  cases l with
  | nil => exact hK _ _ (Or.inl ⟨rfl, Or.inr rfl, rfl⟩)
  | cons x l =>
    have := hK _ _ (Or.inr ⟨by simp, rfl, rfl⟩)
    simp only [z3i, z3c, List.map_cons, if_true, newSl, List.length_cons, List.length_map, Nat.mul_one] at this ⊢
    exact ⟨by simp only [List.length_cons] at hb; simp [bounded, maxLen]; omega, this⟩
theorem Clone_raw (o : Option (List Int)) (hb : (slL o).length ≤ 1000) (h : z04) : z03 Try.prog 54 [slAV 1 encI o] h (fun v h2 => ClonedQ (slL o) h v h2) := by
  apply slices_Clone_int_int_wp
  have b0 : ∀ (G : z04) (K : AV → z04 → Prop), z1d false { e := 3, sz := 1, by_ := 8 } [AV.int .i64 0] 0 [] G K = K .eml G := fun G K => rfl
  cases o with
  | none =>
    have e : binA CmpK.slice .eql (slAV 1 encI none) .nils = some (.bool true) := rfl
    (repeat simp -dsimp -implicitDefEqProofs (disch := omega) only [↓rP, rQ, rO, rL, ↓reduceIte, Nat.reduceEqDiff, Nat.reduceAdd, Nat.reduceLeDiff, z01, z05, ↓tyr, e])
    exact Or.inl ⟨rfl, Or.inl rfl, rfl⟩
  | some l =>
    have ca : ∀ (G : z04) (K : AV → z04 → Prop), (∀ v h2, ClonedQ l G v h2 → K v h2) → z3i true { e := 3, sz := 1, by_ := 8 } .eml (slAV 1 encI (some l)) G K := fun G K hK => clone_app l (by simpa using hb) G K hK
    cases l with
    | nil =>
      have e : binA CmpK.slice .eql (slAV 1 encI (some [])) .nils = some .unkb := rfl
      (repeat simp -dsimp -implicitDefEqProofs (disch := omega) only [↓rP, rQ, rO, rL, ↓reduceIte, Nat.reduceEqDiff, Nat.reduceAdd, Nat.reduceLeDiff, z01, z05, ↓tyr, e])
      refine ⟨Or.inl ⟨rfl, Or.inl rfl, rfl⟩, ?_⟩
      (repeat simp -dsimp -implicitDefEqProofs (disch := omega) only [↓rP, rQ, rO, rL, ↓reduceIte, Nat.reduceEqDiff, Nat.reduceAdd, Nat.reduceLeDiff, z01, z05, ↓tyr, ↓b0])
      refine ca _ _ fun v h2 hq => ?_
      (repeat simp -dsimp -implicitDefEqProofs (disch := omega) only [↓rP, rQ, rO, rL, ↓reduceIte, Nat.reduceEqDiff, Nat.reduceAdd, Nat.reduceLeDiff, z01, z05, ↓tyr])
      exact hq
    | cons x l =>
      have e : binA CmpK.slice .eql (slAV 1 encI (some (x :: l))) .nils = some (.bool false) := rfl
      (repeat simp -dsimp -implicitDefEqProofs (disch := omega) only [↓rP, rQ, rO, rL, ↓reduceIte, Nat.reduceEqDiff, Nat.reduceAdd, Nat.reduceLeDiff, z01, z05, ↓tyr, e, ↓b0])
      refine ca _ _ fun v h2 hq => ?_
      (repeat simp -dsimp -implicitDefEqProofs (disch := omega) only [↓rP, rQ, rO, rL, ↓reduceIte, Nat.reduceEqDiff, Nat.reduceAdd, Nat.reduceLeDiff, z01, z05, ↓tyr])
      exact hq
def longP (p : z0w) (n : Int) : z0w := ⟨p.Global, p.N, some (slL p.Fields ++ [n])⟩
theorem app_one {l : List Int} {h h2 : z04} {v : AV} (hq : ClonedQ l h v h2) (hl : l.length ≤ 100) (n : Int) (K : AV → z04 → Prop) (hK : ∀ id h3, Keeps h h3 (fun _ => False) → K (.gsl id 1 ((l ++ [n]).map encI)) h3) : z3i true { e := 3, sz := 1, by_ := 8 } v (.isl 1 [[.int .i64 n]]) h2 K := by
  rcases hq with ⟨rfl, rfl | rfl, rfl⟩ | ⟨hne, rfl, rfl⟩
  · have := hK h2.next (h2.push (.tok 3 1)) (Keeps.one _ _)
    simp only [z3i, z3c, if_true, newSl]
    exact ⟨by simp [bounded, maxLen], this⟩
  · have := hK h2.next (h2.push (.tok 3 1)) (Keeps.one _ _)
    simp only [z3i, z3c, if_true, newSl]
    exact ⟨by simp [bounded, maxLen], this⟩
  · have := hK (h.next + 1) (((h.push (.tok 3 l.length)).kill h.next).push (.tok 3 (l ++ [n]).length)) (((Keeps.one _ _).killNew (Nat.le_refl _)).pushS _)
    simp only [z3i, z3c, if_true, z2h, List.length_map, Nat.mul_one, List.length_cons, List.length_nil, true_and]
    refine ⟨by simp [bounded, maxLen]; omega, ?_⟩
    simpa [encI] using this
theorem ids_ints (D : Nat → Prop) (o : Option (List Int)) : z2v D (slAV 1 encI o) := by
  cases o with
  | none => exact trivial
  | some l =>
    show idsInE D (l.map encI)
    induction l with
    | nil => exact trivial
    | cons a l ih => exact ⟨⟨trivial, trivial⟩, ih⟩
theorem longer_k (p : z0w) (hp : (slL p.Fields).length ≤ 100) (n : Int) (h : z04) : z03 Try.prog 42 [.agg p.cells, .int .i64 n] h (fun v h2 => ∃ id, v = .agg [.bool p.Global, .int .i64 p.N, .gsl id 1 ((slL p.Fields ++ [n]).map encI)] ∧ Keeps h h2 (fun _ => False)) := by
  apply path_longer_wp
  have b1 : ∀ (H : z04) (K : AV → z04 → Prop), z1d true { e := 3, sz := 1, by_ := 8 } [AV.int .i64 0] 1 [(0, .int .i64 n)] H K = K (.isl 1 [[.int .i64 n]]) H := fun H K => by
    simp [z1d, fillE, AV.fits, AV.cells, List.replicate]
  (repeat simp -dsimp -implicitDefEqProofs (disch := omega) only [↓rP, rQ, rO, rL, ↓reduceIte, Nat.reduceEqDiff, Nat.reduceAdd, Nat.reduceLeDiff, z01, z05, ↓tyr, ↓b1])
  refine (Clone_raw p.Fields (by omega) _).mono ?_
  intro v h2 hq
  have kc : Keeps (h.push (.row 39 [AV.bool false, AV.int .i64 0, AV.nils])) h2 (fun _ => False) := by
    rcases hq with ⟨_, _, rfl⟩ | ⟨_, _, rfl⟩
    · exact Keeps.refl _ _
    · exact Keeps.one _ _
  (repeat simp -dsimp -implicitDefEqProofs (disch := omega) only [↓rP, rQ, rO, rL, ↓reduceIte, Nat.reduceEqDiff, Nat.reduceAdd, Nat.reduceLeDiff, z01, z05, ↓tyr])
  refine app_one hq hp n _ fun id h3 k3 => ?_
  have k4 : Keeps (h.push (.row 39 [AV.bool false, AV.int .i64 0, AV.nils])) h3 (fun _ => False) := k3
  have ob : h3.objs h.next = some (.row 39 [AV.bool false, AV.int .i64 0, AV.nils]) := by
    rw [k4.objs _ (Nat.lt_succ_self _) (by simp)]; exact z2h _ _
  have fg : ∀ a b c, (AV.gsl a b c).fits = true := fun _ _ _ => rfl
  have cg : ∀ a b c, (AV.gsl a b c).cells = [AV.gsl a b c] := fun _ _ _ => rfl
  have st : ∀ (vs : List AV) (K : z04 → Prop), vs.length = 3 → z0y 3 (.ptr h.next 0) (.agg vs) h3 K = K (h3.put h.next (.row 39 vs)) := fun vs K hv => by
    simp only [z0y, ob, hv]; simp
  (repeat simp -dsimp -implicitDefEqProofs (disch := omega) only [↓rP, rQ, rO, rL, ↓reduceIte, Nat.reduceEqDiff, Nat.reduceAdd, Nat.reduceLeDiff, z01, z05, ↓tyr, fg, cg])
  rw [st _ _ rfl]
  (repeat simp -dsimp -implicitDefEqProofs (disch := omega) only [↓rP, rQ, rO, rL, ↓reduceIte, Nat.reduceEqDiff, Nat.reduceAdd, Nat.reduceLeDiff, z01, z05, ↓tyr])
  have ld : ∀ K : AV → Prop, z02 (some 3) (.ptr h.next 0) (h3.put h.next (.row 39 [.bool p.Global, .int .i64 p.N, .gsl id 1 ((slL p.Fields ++ [n]).map encI)])) K = K (.agg [.bool p.Global, .int .i64 p.N, .gsl id 1 ((slL p.Fields ++ [n]).map encI)]) := fun K => by
    rw [z0o (put_new _ _ _)]; simp [z0h]
  (repeat simp -dsimp -implicitDefEqProofs (disch := omega) only [↓rP, rQ, rO, rL, ↓reduceIte, Nat.reduceEqDiff, Nat.reduceAdd, Nat.reduceLeDiff, z01, z05, ↓tyr, ↓ld])
  exact ⟨id, rfl, ⟨by have := k4.next; simp at this ⊢; omega, fun i hi hs => by rw [put_old (by omega), k4.objs i (by simp; omega) hs]; exact push_old hi _⟩⟩
theorem longer_does (p : z0w) (hp : (slL p.Fields).length ≤ 100) (n : Int) (h : z04) : z03 Try.prog 42 [.agg p.cells, .int .i64 n] h (fun v h2 => v = .agg (longP p n).cells ∧ h2 = h) := by
  refine (z03.result (enc := fun q : z0w => .agg q.cells) (Q := fun q => q = longP p n) (fun q _ => ⟨trivial, trivial, ids_ints _ _, trivial⟩) ((longer_k p hp n h).mono ?_)).mono ?_
  · rintro _ h2 ⟨id, rfl, kp⟩
    exact ⟨fun _ => False, longP p n, rfl, RzV.agg (RzL.cons (RzV.same _) (RzL.cons (RzV.same _) (RzL.cons (RzV.gsl (by simp; omega) (RzE.same _ _)) RzL.nil))), fun _ h => h.elim, kp⟩
  · rintro v h2 ⟨⟨q, rfl, rfl⟩, rfl⟩
    exact ⟨rfl, rfl⟩
end Go.Proofs.Ytnggcokgnblpgaa
end

section
/- Plain: classes of sites that meet; forests; rounds that close a set. -/
namespace Go.Proofs.Ytnggcokgnblpgaa
inductive Conn (R : Nat → Nat → Prop) : Nat → Nat → Prop
  | refl (a : Nat) : Conn R a a
  | tail {a b c : Nat} : Conn R a b → R b c → Conn R a c
namespace Conn
variable {R : Nat → Nat → Prop}
theorem one {a b : Nat} (h : R a b) : Conn R a b := (Conn.refl a).tail h
theorem trans {a b c : Nat} (h : Conn R a b) (k : Conn R b c) : Conn R a c := by
  induction k with
  | refl => exact h
  | tail _ r ih => exact ih.tail r
theorem symm (hs : ∀ a b, R a b → R b a) {a b : Nat} (h : Conn R a b) : Conn R b a := by
  induction h with
  | refl => exact .refl _
  | tail _ r ih => exact (one (hs _ _ r)).trans ih
theorem map {R' : Nat → Nat → Prop} (hm : ∀ a b, R a b → Conn R' a b) {a b : Nat} (h : Conn R a b) : Conn R' a b := by
  induction h with
  | refl => exact .refl _
  | tail _ r ih => exact ih.trans (hm _ _ r)
theorem closed {T : Nat → Prop} (hc : ∀ a b, T a → R a b → T b) {a b : Nat} (h : Conn R a b) (ha : T a) : T b := by
  induction h with
  | refl => exact ha
  | tail _ r ih => exact hc _ _ ih r
end Conn
def Prs (P : List (Nat × Nat)) (a b : Nat) : Prop := (a, b) ∈ P ∨ (b, a) ∈ P
theorem Prs.symm {P : List (Nat × Nat)} (a b : Nat) (h : Prs P a b) : Prs P b a := Or.symm h
/-! Forests -/
def Low (f : List Nat) : Prop := ∀ (k v : Nat), f[k]? = some v → v ≤ k
def root (f : List Nat) (k : Nat) : Nat := if h : f.getD k k < k then root f (f.getD k k) else k
termination_by k
theorem root_stop {f : List Nat} {k : Nat} (h : ¬ f.getD k k < k) : root f k = k := by
  rw [root, dif_neg h]
theorem Low.getD {f : List Nat} (h : Low f) (k : Nat) : f.getD k k ≤ k := by
  rw [List.getD_eq_getElem?_getD]
  cases hk : f[k]? with
  | none => simp
  | some v => simpa using h k v hk
theorem getD_set (f : List Nat) (k v j : Nat) (hk : k < f.length) : (f.set k v).getD j j = if j = k then v else f.getD j j := by
  rw [List.getD_eq_getElem?_getD, List.getElem?_set, List.getD_eq_getElem?_getD]
  by_cases e : k = j
  · subst e; simp [hk]
  · rw [if_neg e, if_neg (Ne.symm e)]
theorem Low.set {f : List Nat} (hl : Low f) {k v : Nat} (hv : v ≤ k) : Low (f.set k v) := by
  intro j x hx
  rw [List.getElem?_set] at hx
  split at hx
  · rename_i e
    split at hx
    · cases hx; omega
    · cases hx
  · exact hl j x hx
def Says (f : List Nat) (P : List (Nat × Nat)) : Prop := Low f ∧ ∀ x y, root f x = root f y ↔ Conn (Prs P) x y
theorem Says.start (n : Nat) : Says (List.range n) [] := by
  have hl : Low (List.range n) := fun k v h => by
    have := List.getElem?_eq_some_iff.1 h
    obtain ⟨h1, h2⟩ := this
    simp at h2; omega
  have hr : ∀ x, root (List.range n) x = x := fun x => root_stop (by
    rw [List.getD_eq_getElem?_getD]
    by_cases h : x < n <;> simp [h])
  refine ⟨hl, fun x y => ?_⟩
  rw [hr, hr]
  constructor
  · rintro rfl; exact .refl _
  · intro h
    induction h with
    | refl => rfl
    | tail _ r ih => rcases r with r | r <;> simp at r
theorem Says.same {f g : List Nat} {P : List (Nat × Nat)} (h : Says f P) (hl : Low g) (hr : ∀ x, root g x = root f x) : Says g P := ⟨hl, fun x y => by rw [hr, hr]; exact h.2 x y⟩
/-! Sets -/
def MeetP (S : List Nat) (a b : Nat) : Prop := ∃ x ∈ S, x.testBit a = true ∧ x.testBit b = true
theorem MeetP.symm {S : List Nat} (a b : Nat) (h : MeetP S a b) : MeetP S b a := by obtain ⟨x, hx, h1, h2⟩ := h; exact ⟨x, hx, h2, h1⟩
def bitsOf (x : Nat) : List Nat := (List.range 64).filter fun k => x.testBit k
theorem mem_bits {x k : Nat} : k ∈ bitsOf x ↔ k < 64 ∧ x.testBit k = true := by simp [bitsOf]
/-! Rounds -/
theorem countP_lt {n : Nat} {p q : Nat → Bool} (h : ∀ j, j < n → p j = true → q j = true) {b : Nat} (hb : b < n) (h1 : p b = false) (h2 : q b = true) : (List.range n).countP p < (List.range n).countP q := by
  induction n with
  | zero => omega
  | succ n ih =>
    rw [List.range_succ, List.countP_append, List.countP_append]
    have hle : (List.range n).countP p ≤ (List.range n).countP q := List.countP_mono_left fun j hj hp => h j (by have := List.mem_range.1 hj; omega) hp
    rcases Nat.lt_or_eq_of_le (show b ≤ n by omega) with hbn | rfl
    · have := ih (fun j hj => h j (by omega)) hbn
      have h3 := h n (by omega)
      cases hp : p n <;> cases hq : q n <;> simp_all <;> omega
    · simp [h1, h2]; omega
def Come (n : Nat) (R : Nat → Nat → Prop) (r : Nat) (T : Nat → Bool) : Prop := (∀ a b, a < n → b < n → T a = true → R a b → T b = true) ∨ r + 1 ≤ (List.range n).countP T
theorem Come.next {n : Nat} {R : Nat → Nat → Prop} {r : Nat} {T T' : Nat → Bool} (h : Come n R r T) (hm : ∀ j, j < n → T j = true → T' j = true) (hc : ∀ a b, a < n → b < n → T a = true → R a b → T' b = true) (hs : (∀ a b, a < n → b < n → T a = true → R a b → T b = true) → ∀ j, j < n → T' j = T j) : Come n R (r + 1) T' := by
  by_cases hcl : ∀ a b, a < n → b < n → T a = true → R a b → T b = true
  · have := hs hcl
    left
    intro a b ha hb h1 h2
    rw [this b hb]
    exact hcl a b ha hb (by rw [← this a ha]; exact h1) h2
  · right
    have hge := h.resolve_left hcl
    obtain ⟨b, hb, h1, h2⟩ : ∃ b, b < n ∧ T b = false ∧ T' b = true := by
      apply Classical.byContradiction
      intro hn
      apply hcl
      intro a b ha hb h1 h2
      cases hT : T b with
      | true => rfl
      | false => exact absurd ⟨b, hb, hT, hc a b ha hb h1 h2⟩ hn
    have := countP_lt hm hb h1 h2
    omega
end Go.Proofs.Ytnggcokgnblpgaa
end

section
/- Plain: the lowest bit of a set, and the set without it. -/
namespace Go.Proofs.Ytnggcokgnblpgaa
end Go.Proofs.Ytnggcokgnblpgaa
end

section
/- What names may mean: what each instruction brings, and the least sets, plainly. -/
set_option maxRecDepth 8000
set_option maxHeartbeats 1000000
namespace Go.Proofs.Ytnggcokgnblpgaa
open Go.Abs
inductive Rw where
  | g
  | s (t : Nat)
  | f (k : Nat)
  deriving DecidableEq
abbrev Sg := Rw → Nat → Nat
def Le (σ τ : Sg) : Prop := ∀ r n i, (σ r n).testBit i = true → (τ r n).testBit i = true
theorem Le.refl (σ : Sg) : Le σ σ := fun _ _ _ h => h
theorem Le.trans {σ τ ρ : Sg} (h : Le σ τ) (k : Le τ ρ) : Le σ ρ := fun r n i x => k r n i (h r n i x)
def orF {α : Type} (f : α → Nat) (l : List α) : Nat := l.foldl (fun o k => o ||| f k) 0
theorem orF_from {α : Type} (f : α → Nat) (l : List α) : ∀ a, l.foldl (fun o k => o ||| f k) a = a ||| orF f l := by
  induction l with
  | nil => intro a; simp [orF]
  | cons x l ih => intro a; simp only [orF, List.foldl_cons]; rw [ih, ih (0 ||| f x)]; simp [Nat.or_assoc]
theorem orF_cons {α : Type} (f : α → Nat) (x : α) (l : List α) : orF f (x :: l) = f x ||| orF f l := by
  rw [orF, List.foldl_cons, orF_from]; simp
theorem orF_bit {α : Type} (f : α → Nat) (l : List α) (i : Nat) : (orF f l).testBit i = true ↔ ∃ x ∈ l, (f x).testBit i = true := by
  induction l with
  | nil => simp [orF]
  | cons x l ih => rw [orF_cons, Nat.testBit_or, Bool.or_eq_true, ih]; simp
def recL (c : Cd) (n : Int) : List Lo := match getI (slL c.Records) n with | some r => slL r | none => []
def slotsL (c : Cd) (t : Nat) : List Lo := match (slL c.Threads)[t]? with | some b => slL b.Slots | none => []
def lenR (c : Cd) : Rw → Nat
  | .g => (slL c.Globals).length
  | .s t => (slotsL c t).length
  | .f k => match (slL c.Sites)[k]? with | some x => (recL c x.Rec).length | none => 0
def meansB (l : Lo) : Bool := decide (l.Kind = 4) || decide (l.Kind = 3)
def meansO : Option Lo → Bool | some l => meansB l | none => false
def itemsN (σ : Sg) (t : Nat) (l : List It) : Nat := orF (fun x => if x.Op = 2 then σ (.s t) x.N else 0) l
def fieldsN (c : Cd) (σ : Sg) (t : Nat) (x : In) : Nat := orF (fun k => if x.N < lenR c (.f k) then σ (.f k) x.N.toNat else 0) (bitsOf (σ (.s t) x.Src.toNat))
def bringsN (c : Cd) (σ : Sg) (t : Nat) (x : In) : Nat :=
  if x.Op = 1 then itemsN σ t (slL x.Items)
  else if x.Op = 2 then σ .g x.N.toNat
  else if x.Op = 8 ∨ x.Op = 9 then 2 ^ x.N.toNat
  else if x.Op = 3 then fieldsN c σ t x
  else 0
def dstB (c : Cd) (t : Nat) (x : In) : Bool := (decide (x.Op = 1) || decide (x.Op = 2) || decide (x.Op = 3) || decide (x.Op = 8) || decide (x.Op = 9)) && meansO (getI (slotsL c t) x.Dst)
def siteRec (c : Cd) (k : Nat) (n : Int) : Bool := match (slL c.Sites)[k]? with | some s => decide (s.Rec = n) | none => false
def toF (c : Cd) (t : Nat) (x : In) (σ : Sg) : Rw → Bool
  | .f k => (σ (.s t) x.Src.toNat).testBit k && siteRec c k x.Rec
  | _ => false
def contr (c : Cd) (t : Nat) (x : In) (σ : Sg) (r : Rw) (n : Nat) : Nat :=
  if dstB c t x = true ∧ r = .s t ∧ n = x.Dst.toNat then bringsN c σ t x
  else if x.Op = 5 ∧ meansO (getI (slL c.Globals) x.N) = true ∧ r = .g ∧ n = x.N.toNat then itemsN σ t (slL x.Items)
  else if x.Op = 6 ∧ meansO (getI (recL c x.Rec) x.N) = true ∧ toF c t x σ r = true ∧ n = x.N.toNat then itemsN σ t (slL x.Items)
  else 0
def stepS (c : Cd) (t : Nat) (x : In) (σ : Sg) : Sg := fun r n => σ r n ||| contr c t x σ r n
theorem items_mono {σ τ : Sg} (h : Le σ τ) (t : Nat) (l : List It) (i : Nat) (hi : (itemsN σ t l).testBit i = true) : (itemsN τ t l).testBit i = true := by
  unfold itemsN at *
  rw [orF_bit] at *
  obtain ⟨x, hx, hb⟩ := hi
  refine ⟨x, hx, ?_⟩
  split at hb
  · rename_i e; rw [if_pos e]; exact h _ _ _ hb
  · simp at hb
theorem fields_mono {c : Cd} {σ τ : Sg} (h : Le σ τ) (t : Nat) (x : In) (i : Nat) (hi : (fieldsN c σ t x).testBit i = true) : (fieldsN c τ t x).testBit i = true := by
  unfold fieldsN at *
  rw [orF_bit] at *
  obtain ⟨k, hk, hb⟩ := hi
  rw [mem_bits] at hk
  refine ⟨k, mem_bits.2 ⟨hk.1, h _ _ _ hk.2⟩, ?_⟩
  split at hb
  · rename_i e; rw [if_pos e]; exact h _ _ _ hb
  · simp at hb
theorem brings_mono {c : Cd} {σ τ : Sg} (h : Le σ τ) (t : Nat) (x : In) (i : Nat) (hi : (bringsN c σ t x).testBit i = true) : (bringsN c τ t x).testBit i = true := by
  unfold bringsN at *
  split
  · rename_i e; rw [if_pos e] at hi; exact items_mono h _ _ _ hi
  · rename_i e; rw [if_neg e] at hi
    split
    · rename_i e; rw [if_pos e] at hi; exact h _ _ _ hi
    · rename_i e; rw [if_neg e] at hi
      split
      · rename_i e; rw [if_pos e] at hi; exact hi
      · rename_i e; rw [if_neg e] at hi
        split
        · rename_i e; rw [if_pos e] at hi; exact fields_mono h _ _ _ hi
        · rename_i e; rw [if_neg e] at hi; exact hi
theorem toF_mono {c : Cd} {σ τ : Sg} (h : Le σ τ) (t : Nat) (x : In) (r : Rw) (hr : toF c t x σ r = true) : toF c t x τ r = true := by
  cases r with
  | f k =>
    simp only [toF, Bool.and_eq_true] at *
    exact ⟨h _ _ _ hr.1, hr.2⟩
  | _ => cases hr
theorem contr_bit (c : Cd) (t : Nat) (x : In) (σ : Sg) (r : Rw) (n i : Nat) : (contr c t x σ r n).testBit i = true ↔
    (dstB c t x = true ∧ r = .s t ∧ n = x.Dst.toNat ∧ (bringsN c σ t x).testBit i = true) ∨
    (x.Op = 5 ∧ meansO (getI (slL c.Globals) x.N) = true ∧ r = .g ∧ n = x.N.toNat ∧ (itemsN σ t (slL x.Items)).testBit i = true) ∨
    (x.Op = 6 ∧ meansO (getI (recL c x.Rec) x.N) = true ∧ toF c t x σ r = true ∧ n = x.N.toNat ∧ (itemsN σ t (slL x.Items)).testBit i = true) := by
  have d5 : dstB c t x = true → x.Op ≠ 5 ∧ x.Op ≠ 6 := by
    intro h
    simp only [dstB, Bool.and_eq_true, Bool.or_eq_true, decide_eq_true_eq] at h
    omega
  unfold contr
  by_cases h1 : dstB c t x = true ∧ r = .s t ∧ n = x.Dst.toNat
  · rw [if_pos h1]
    have := d5 h1.1
    constructor
    · intro h; exact Or.inl ⟨h1.1, h1.2.1, h1.2.2, h⟩
    · rintro (h | h | h)
      · exact h.2.2.2
      · exact absurd h.1 this.1
      · exact absurd h.1 this.2
  · rw [if_neg h1]
    by_cases h2 : x.Op = 5 ∧ meansO (getI (slL c.Globals) x.N) = true ∧ r = .g ∧ n = x.N.toNat
    · rw [if_pos h2]
      constructor
      · intro h; exact Or.inr (Or.inl ⟨h2.1, h2.2.1, h2.2.2.1, h2.2.2.2, h⟩)
      · rintro (h | h | h)
        · exact absurd ⟨h.1, h.2.1, h.2.2.1⟩ h1
        · exact h.2.2.2.2
        · have := h2.1; have := h.1; omega
    · rw [if_neg h2]
      by_cases h3 : x.Op = 6 ∧ meansO (getI (recL c x.Rec) x.N) = true ∧ toF c t x σ r = true ∧ n = x.N.toNat
      · rw [if_pos h3]
        constructor
        · intro h; exact Or.inr (Or.inr ⟨h3.1, h3.2.1, h3.2.2.1, h3.2.2.2, h⟩)
        · rintro (h | h | h)
          · exact absurd ⟨h.1, h.2.1, h.2.2.1⟩ h1
          · exact absurd ⟨h.1, h.2.1, h.2.2.1, h.2.2.2.1⟩ h2
          · exact h.2.2.2.2
      · rw [if_neg h3]
        constructor
        · intro h; simp at h
        · rintro (h | h | h)
          · exact absurd ⟨h.1, h.2.1, h.2.2.1⟩ h1
          · exact absurd ⟨h.1, h.2.1, h.2.2.1, h.2.2.2.1⟩ h2
          · exact absurd ⟨h.1, h.2.1, h.2.2.1, h.2.2.2.1⟩ h3
theorem contr_mono {c : Cd} {σ τ : Sg} (h : Le σ τ) (t : Nat) (x : In) : Le (contr c t x σ) (contr c t x τ) := by
  intro r n i hi
  rw [contr_bit] at *
  rcases hi with ⟨h1, h2, h3, h4⟩ | ⟨h1, h2, h3, h4, h5⟩ | ⟨h1, h2, h3, h4, h5⟩
  · exact Or.inl ⟨h1, h2, h3, brings_mono h _ _ _ h4⟩
  · exact Or.inr (Or.inl ⟨h1, h2, h3, h4, items_mono h _ _ _ h5⟩)
  · exact Or.inr (Or.inr ⟨h1, h2, toF_mono h _ _ _ h3, h4, items_mono h _ _ _ h5⟩)
theorem step_le {c : Cd} {t : Nat} {x : In} {σ τ : Sg} (h : Le σ τ) (hc : Le (contr c t x τ) τ) : Le (stepS c t x σ) τ := fun r n i hi => by
  unfold stepS at hi
  rw [Nat.testBit_or, Bool.or_eq_true] at hi
  rcases hi with hi | hi
  · exact h r n i hi
  · exact hc r n i (contr_mono h t x r n i hi)
def Cl (c : Cd) (σ : Sg) : Prop := ∀ (t : Nat) (b : Bd) (a : Nat) (x : In), (slL c.Threads)[t]? = some b → (slL b.Code)[a]? = some x → Le (contr c t x σ) σ
def Lw (c : Cd) (σ : Sg) : Prop := ∀ τ, Cl c τ → Le σ τ
theorem Lw.step {c : Cd} {t a : Nat} {b : Bd} {x : In} {σ : Sg} (h : Lw c σ) (hb : (slL c.Threads)[t]? = some b) (hx : (slL b.Code)[a]? = some x) : Lw c (stepS c t x σ) := fun τ ht => step_le (h τ ht) (ht t b a x hb hx)
/-! What of a code that can be is known. -/
structure Wf (c : Cd) (b : Bd) (x : In) : Prop where
  dst : (x.Op = 1 ∨ x.Op = 2 ∨ x.Op = 3 ∨ x.Op = 4 ∨ x.Op = 8 ∨ x.Op = 9 ∨ x.Op = 10) → btw x.Dst (slL b.Slots).length = true
  items : (x.Op = 1 ∨ x.Op = 5 ∨ x.Op = 6) → (∀ y ∈ slL x.Items, y.Op = 2 → y.N < (slL b.Slots).length) ∧ (slL x.Items).length ≤ 64
  glob : (x.Op = 2 ∨ x.Op = 5) → btw x.N (slL c.Globals).length = true
  fld : (x.Op = 3 ∨ x.Op = 6) → ∃ r, getI (slL c.Records) x.Rec = some r ∧ btw x.N (slL r).length = true ∧ btw x.Src (slL b.Slots).length = true
  site : (x.Op = 8 ∨ x.Op = 9) → btw x.N (slL c.Sites).length = true
  ints : (x.Op = 4 ∨ x.Op = 10) → ∀ l, getI (slL b.Slots) x.Dst = some l → l.Kind = 1
theorem isB_in {b : Bd} {n : Int} {w : Lo} (h : isB b n w = true) : btw n (slL b.Slots).length = true := by
  cases hb : btw n (slL b.Slots).length with
  | true => rfl
  | false => rw [z5c hb] at h; cases h
theorem isB_kind {b : Bd} {n : Int} {w l : Lo} (h : isB b n w = true) (hl : getI (slL b.Slots) n = some l) : l.Kind = w.Kind ∧ l.Rec = w.Rec := by
  unfold isB at h
  rw [hl] at h
  simp only [sameB, Bool.and_eq_true, decide_eq_true_eq] at h
  exact h
theorem items_in {b : Bd} {o : Option (List It)} (h : z2m b o = true) : (∀ y ∈ slL o, y.Op = 2 → y.N < (slL b.Slots).length) ∧ (slL o).length ≤ 64 := by
  have h : goodP (slL o) (slL b.Slots).length := by simpa [z2m, goodB] using h
  refine ⟨fun y hy h2 => ?_, h.2.2⟩
  obtain ⟨k, hk⟩ := List.getElem?_of_mem hy
  have := (h.1 k (List.getElem?_eq_some_iff.1 hk).1 y hk).1
  unfold z4s at this
  rw [if_neg (by omega), if_pos h2] at this
  simp only [Bool.and_eq_true, decide_eq_true_eq] at this
  omega
theorem field_in {c : Cd} {b : Bd} {x : In} {f : Lo} (h : fieldO c b x = some f) : ∃ r, getI (slL c.Records) x.Rec = some r ∧ btw x.N (slL r).length = true ∧ btw x.Src (slL b.Slots).length = true := by
  unfold fieldO at h
  cases h1 : getI (slL c.Records) x.Rec with
  | none => rw [h1] at h; cases h
  | some r =>
    rw [h1] at h
    simp only at h
    cases h2 : getI (slL r) x.N with
    | none => rw [h2] at h; cases h
    | some f =>
      rw [h2] at h
      simp only at h
      cases h3 : isB b x.Src ⟨4, x.Rec, false⟩ with
      | false => rw [h3] at h; simp at h
      | true => exact ⟨r, rfl, z1l.2 ⟨f, h2⟩, isB_in h3⟩
theorem instr_wf {c : Cd} {t a : Int} {b : Bd} {x : In} (h : z1m c t b x a = true) : Wf c b x := by
  refine ⟨?_, ?_, ?_, ?_, ?_, ?_⟩
  · rintro (e | e | e | e | e | e | e)
    all_goals (unfold z1m z3t at h; simp only [e] at h; simp at h)
    · exact h.1.2
    · obtain ⟨_, _, h⟩ := h; split at h <;> first | exact isB_in h | cases h
    · obtain ⟨_, _, h⟩ := h; split at h <;> first | exact isB_in h | cases h
    · exact isB_in h.2.1.1.2
    · exact isB_in h.2.1.2
    · exact isB_in h.2.1.1.2
    · exact isB_in h.1.2
  · rintro (e | e | e)
    all_goals (unfold z1m z3f at h; simp only [e] at h; simp at h)
    · exact items_in h.2
    · exact items_in h.2.2
    · exact items_in h.2.2
  · rintro (e | e)
    all_goals (unfold z1m z3t z3f at h; simp only [e] at h; simp at h)
    · obtain ⟨_, _, h⟩ := h
      split at h
      · rename_i g hg; exact z1l.2 ⟨g, hg⟩
      · cases h
    · exact h.2.1.2
  · rintro (e | e)
    all_goals (unfold z1m z3t z3f at h; simp only [e] at h; simp at h)
    · obtain ⟨_, _, h⟩ := h
      split at h
      · rename_i g hg; exact field_in hg
      · cases h
    · obtain ⟨_, ⟨_, h⟩, _⟩ := h
      obtain ⟨f, hf⟩ := Option.isSome_iff_exists.1 h
      exact field_in hf
  · rintro (e | e)
    all_goals (unfold z1m z3t siteB at h; simp only [e] at h; simp at h)
    · exact z1l.2 ⟨_, h.2.2⟩
    · exact z1l.2 ⟨_, h.2.2⟩
  · rintro (e | e) l hl
    all_goals (unfold z1m z3t at h; simp only [e] at h; simp at h)
    · exact (isB_kind h.2.1.1.2 hl).1
    · exact (isB_kind h.1.2 hl).1
structure WfC (c : Cd) : Prop where
  thr : (slL c.Threads).length ≤ 4
  sit : (slL c.Sites).length ≤ 32
  glo : (slL c.Globals).length ≤ 8
  recs : ∀ r ∈ slL c.Records, (slL r).length ≤ 6
  slo : ∀ (t : Nat) (b : Bd), (slL c.Threads)[t]? = some b → (slL b.Slots).length ≤ 64 ∧ (slL b.Code).length ≤ 256
  ins : ∀ (t a : Nat) (b : Bd) (x : In), (slL c.Threads)[t]? = some b → (slL b.Code)[a]? = some x → Wf c b x
  site : ∀ (k : Nat) (s : z15), (slL c.Sites)[k]? = some s → s.Rec = -1 ∨ ∃ r, getI (slL c.Records) s.Rec = some r
theorem wf_of {c : Cd} (h : okC c = true) : WfC c := by
  obtain ⟨h1, h2, h3, h4, h5, h6, h7⟩ := okC_split h
  have h7' : ∀ (t : Nat) (b : Bd), (slL c.Threads)[t]? = some b → threadB c t b = true := z2y.1 h7
  have hin : ∀ (t a : Nat) (b : Bd) (x : In), (slL c.Threads)[t]? = some b → (slL b.Code)[a]? = some x → z1m c t b x a = true := by
    intro t a b x hb hx
    have ht := h7' t b hb
    simp only [threadB, Bool.and_eq_true] at ht
    exact z2y.1 ht.2 a x hx
  have hs : (slL c.Sites).length ≤ 32 ∧ allK (siteOk c) (slL c.Sites) = true := by
    simpa [sitesB] using h5
  refine ⟨h2, hs.1, ?_, ?_, ?_, fun t a b x hb hx => instr_wf (hin t a b x hb hx), ?_⟩
  · simp only [cellsB, Bool.and_eq_true, decide_eq_true_eq] at h3; omega
  · intro r hr
    have := List.all_eq_true.1 h6 r hr
    simp only [cellsB, Bool.and_eq_true, decide_eq_true_eq] at this; omega
  · intro t b hb
    have ht := h7' t b hb
    simp only [threadB, bodyB, Bool.and_eq_true, decide_eq_true_eq] at ht
    omega
  · intro k s hk
    have hk2 := z2y.1 hs.2 k s hk
    unfold siteOk z4c at hk2
    cases hb : getI (slL c.Threads) s.Thread with
    | none => rw [hb] at hk2; cases hk2
    | some b =>
      rw [hb] at hk2
      simp only at hk2
      cases hx : getI (slL b.Code) s.At with
      | none => rw [hx] at hk2; cases hk2
      | some x =>
        rw [hx] at hk2
        simp only [Bool.and_eq_true, Bool.or_eq_true, decide_eq_true_eq] at hk2
        obtain ⟨t, et, hb2⟩ := getI_nat hb
        obtain ⟨a, ea, hx2⟩ := getI_nat hx
        have hi := hin t a b x hb2 hx2
        have hsk : getI (slL c.Sites) x.N = some s := by rw [hk2.1, z4g]; exact hk
        rcases hk2.2 with e | e
        · unfold z1m z3t siteB at hi; simp only [e] at hi; simp at hi
          rw [hsk] at hi
          have := hi.2.2
          have hrec := hi.2.1.1.2
          obtain ⟨r, hr⟩ := z1l.1 hrec
          simp only [Option.some.injEq] at this
          right
          exact ⟨r, by rw [this]; exact hr⟩
        · unfold z1m z3t siteB at hi; simp only [e] at hi; simp at hi
          rw [hsk] at hi
          have := hi.2.2
          simp only [Option.some.injEq] at this
          left
          rw [this]
def Bd2 (c : Cd) (σ : Sg) : Prop := ∀ r n i, (σ r n).testBit i = true → i < (slL c.Sites).length
theorem items_bd {c : Cd} {σ : Sg} (h : Bd2 c σ) {t : Nat} {l : List It} {i : Nat} (hi : (itemsN σ t l).testBit i = true) : i < (slL c.Sites).length := by
  unfold itemsN at hi
  rw [orF_bit] at hi
  obtain ⟨x, _, hb⟩ := hi
  split at hb
  · exact h _ _ _ hb
  · simp at hb
theorem brings_bd {c : Cd} {σ : Sg} (h : Bd2 c σ) {b : Bd} {x : In} (w : Wf c b x) {t i : Nat} (hi : (bringsN c σ t x).testBit i = true) : i < (slL c.Sites).length := by
  unfold bringsN at hi
  split at hi
  · exact items_bd h hi
  · split at hi
    · exact h _ _ _ hi
    · split at hi
      · rename_i e
        have := w.site e
        simp only [btw, Bool.and_eq_true, decide_eq_true_eq] at this
        rw [Nat.testBit_two_pow] at hi
        have := of_decide_eq_true hi
        omega
      · split at hi
        · unfold fieldsN at hi
          rw [orF_bit] at hi
          obtain ⟨k, _, hb⟩ := hi
          split at hb
          · exact h _ _ _ hb
          · simp at hb
        · simp at hi
theorem Bd2.step {c : Cd} {σ : Sg} (h : Bd2 c σ) {b : Bd} {x : In} (w : Wf c b x) (t : Nat) : Bd2 c (stepS c t x σ) := fun r n i hi => by
  unfold stepS at hi
  rw [Nat.testBit_or, Bool.or_eq_true, contr_bit] at hi
  rcases hi with hi | ⟨_, _, _, hi⟩ | ⟨_, _, _, _, hi⟩ | ⟨_, _, _, _, hi⟩
  · exact h _ _ _ hi
  · exact brings_bd h w hi
  · exact items_bd h hi
  · exact items_bd h hi
theorem lt_of_bits {x n : Nat} (h : ∀ i, x.testBit i = true → i < n) : x < 2 ^ n := by
  apply Nat.lt_pow_two_of_testBit
  intro i hi
  cases hb : x.testBit i with
  | false => rfl
  | true => have := h i hb; omega
theorem Bd2.lt {c : Cd} {σ : Sg} (h : Bd2 c σ) (r : Rw) (n : Nat) : σ r n < 2 ^ (slL c.Sites).length := lt_of_bits (h r n)
def Rg (c : Cd) (σ : Sg) : Prop := ∀ r n, σ r n ≠ 0 → n < lenR c r
theorem contr_rg {c : Cd} {σ : Sg} (h : Rg c σ) {t : Nat} {b : Bd} {x : In} (hb : (slL c.Threads)[t]? = some b) (w : Wf c b x) {r : Rw} {n i : Nat} (hi : (contr c t x σ r n).testBit i = true) : n < lenR c r := by
  have hsl : slotsL c t = slL b.Slots := by unfold slotsL; rw [hb]
  rw [contr_bit] at hi
  rcases hi with ⟨h1, rfl, h3, -⟩ | ⟨h1, -, rfl, h4, -⟩ | ⟨h1, -, h3, h4, -⟩
  · have hd := w.dst (by simp only [dstB, Bool.and_eq_true, Bool.or_eq_true, decide_eq_true_eq] at h1; omega)
    simp only [btw, Bool.and_eq_true, decide_eq_true_eq] at hd
    simp only [lenR, hsl]
    omega
  · have hd := w.glob (Or.inr h1)
    simp only [btw, Bool.and_eq_true, decide_eq_true_eq] at hd
    simp only [lenR]
    omega
  · obtain ⟨rr, hr, hn, _⟩ := w.fld (Or.inr h1)
    cases r with
    | f k =>
      simp only [toF, siteRec, Bool.and_eq_true] at h3
      simp only [lenR]
      cases hk : (slL c.Sites)[k]? with
      | none => rw [hk] at h3; simp at h3
      | some s =>
        rw [hk] at h3
        have h3 := of_decide_eq_true h3.2
        simp only [recL, h3, hr]
        simp only [btw, Bool.and_eq_true, decide_eq_true_eq] at hn
        omega
    | g => cases h3
    | s t => cases h3
theorem ne_zero_bit {n : Nat} (h : n ≠ 0) : ∃ i, n.testBit i = true := by
  apply Classical.byContradiction
  intro hn
  apply h
  apply Nat.eq_of_testBit_eq
  intro i
  cases hb : n.testBit i with
  | false => simp
  | true => exact absurd ⟨i, hb⟩ hn
theorem Rg.step {c : Cd} {σ : Sg} (h : Rg c σ) {t : Nat} {b : Bd} {x : In} (hb : (slL c.Threads)[t]? = some b) (w : Wf c b x) : Rg c (stepS c t x σ) := fun r n hn => by
  obtain ⟨i, hi⟩ := ne_zero_bit hn
  unfold stepS at hi
  rw [Nat.testBit_or, Bool.or_eq_true] at hi
  rcases hi with hi | hi
  · exact h r n (by rintro e; rw [e] at hi; simp at hi)
  · exact contr_rg h hb w hi
end Go.Proofs.Ytnggcokgnblpgaa
end

section
/- What is known of slots: the reader, and what an instruction gives. -/
set_option maxRecDepth 8000
set_option maxHeartbeats 1000000
namespace Go.Proofs.Ytnggcokgnblpgaa
open Go.Abs
def cntG (L : List In) (n : Int) : Nat := L.countP fun x => decide (x.Op = 5) && decide (x.N = n)
def cntF (L : List In) (p : Int × Int) : Nat := L.countP fun x => decide (x.Op = 6) && (decide (x.Rec = p.1) && decide (x.N = p.2))
theorem storeG_cnt (L : List In) (n : Int) : storeG L n = decide (cntG L n ≠ 0) := by
  unfold storeG cntG
  rw [Bool.eq_iff_iff, List.any_eq_true, decide_eq_true_eq, ne_eq, List.countP_eq_zero]
  constructor
  · rintro ⟨x, hx, h⟩ hn; exact hn x hx h
  · intro hn
    exact Classical.byContradiction fun h => hn fun x hx hp => h ⟨x, hx, hp⟩
theorem storeF_cnt (L : List In) (r n : Int) : storeF L r n = decide (cntF L (r, n) ≠ 0) := by
  unfold storeF cntF
  rw [Bool.eq_iff_iff, List.any_eq_true, decide_eq_true_eq, ne_eq, List.countP_eq_zero]
  constructor
  · rintro ⟨x, hx, h⟩ hn
    refine hn x hx ?_
    simpa [Bool.and_assoc] using h
  · intro hn
    exact Classical.byContradiction fun h => hn fun x hx hp => h ⟨x, hx, by simpa [Bool.and_assoc] using hp⟩
def knC (K : Int → Vl) : Nat → List AV := fun k => (K (k : Nat)).cells
theorem knC_len (K : Int → Vl) (k : Nat) : (knC K k).length = 4 := rfl
def wrC (W : Int → Nat) : Nat → List AV := fun k => [.int .i64 (W (k : Nat) : Nat)]
theorem wrC_len (W : Int → Nat) (k : Nat) : (wrC W k).length = 1 := rfl
def readC (b : Bd) (L : List In) (w g f kn n : Nat) : List AV := [slAV 3 z0f.cells b.Slots, slAV 8 z0b.cells b.Code, .int .i64 b.Most, slAV 8 z0b.cells (some L), .sl w 0 n 1, .mapv g, .mapv f, .sl kn 0 n 4]
theorem ix_k {kn n : Nat} (kk : IntKind) {k : Nat} (hk : k < n) (J : AV → Prop) : z09 (.slice 4) (.sl kn 0 n 4) (.int kk (k : Int)) J = J (.ptr kn (k * 4)) := by simp [z09]; omega
theorem ix_w {w n : Nat} (kk : IntKind) {k : Nat} (hk : k < n) (J : AV → Prop) : z09 (.slice 1) (.sl w 0 n 1) (.int kk (k : Int)) J = J (.ptr w k) := by simp [z09]; omega
structure RdAt (h : z04) (rid : Nat) (b : Bd) (L : List In) (w g f kn : Nat) (W : Int → Nat) (kG : List Int) (fG : Int → Nat) (kF : List (Int × Int)) (fF : Int × Int → Nat) (K : Int → Vl) : Prop where
  obj : h.objs rid = some (.row 59 (readC b L w g f kn (slL b.Slots).length))
  wr : h.objs w = some (.row 3 (rowN (wrC W) (slL b.Slots).length))
  mg : MapAt h g encIk kG fG
  mf : MapAt h f encPk kF fF
  kv : h.objs kn = some (.row 41 (rowN (knC K) (slL b.Slots).length))
  gf : g ≠ f
  lr : rid < h.next
  lw : w < h.next
  lg : g < h.next
  lf : f < h.next
  lk : kn < h.next
section
variable {h : z04} {rid w g f kn : Nat} {b : Bd} {L : List In} {W : Int → Nat} {kG : List Int} {fG : Int → Nat} {kF : List (Int × Int)} {fF : Int × Int → Nat} {K : Int → Vl} (R : RdAt h rid b L w g f kn W kG fG kF fF K)
include R
theorem RdAt.keep {h2 : z04} (k : Keeps h h2 (fun _ => False)) : RdAt h2 rid b L w g f kn W kG fG kF fF K :=
  ⟨by rw [k.objs _ R.lr (by simp)]; exact R.obj, by rw [k.objs _ R.lw (by simp)]; exact R.wr, R.mg.keep k R.lg (by simp), R.mf.keep k R.lf (by simp), by rw [k.objs _ R.lk (by simp)]; exact R.kv, R.gf,
   Nat.lt_of_lt_of_le R.lr k.next, Nat.lt_of_lt_of_le R.lw k.next, Nat.lt_of_lt_of_le R.lg k.next, Nat.lt_of_lt_of_le R.lf k.next, Nat.lt_of_lt_of_le R.lk k.next⟩
theorem RdAt.l0 (J : AV → Prop) : z02 none (.ptr rid 0) h J = J (slAV 3 z0f.cells b.Slots) := by rw [z0o R.obj]; rfl
theorem RdAt.l3 (J : AV → Prop) : z02 none (.ptr rid 3) h J = J (slAV 8 z0b.cells (some L)) := by rw [z0o R.obj]; rfl
theorem RdAt.l4 (J : AV → Prop) : z02 none (.ptr rid 4) h J = J (.sl w 0 (slL b.Slots).length 1) := by rw [z0o R.obj]; rfl
theorem RdAt.l5 (J : AV → Prop) : z02 none (.ptr rid 5) h J = J (.mapv g) := by rw [z0o R.obj]; rfl
theorem RdAt.l6 (J : AV → Prop) : z02 none (.ptr rid 6) h J = J (.mapv f) := by rw [z0o R.obj]; rfl
theorem RdAt.l7 (J : AV → Prop) : z02 none (.ptr rid 7) h J = J (.sl kn 0 (slL b.Slots).length 4) := by rw [z0o R.obj]; rfl
theorem RdAt.val {k : Nat} (hk : k < (slL b.Slots).length) (J : AV → Prop) : z02 (some 4) (.ptr kn (k * 4)) h J = J (.agg (K (k : Nat)).cells) := rowN_load (knC_len K) R.kv hk J
theorem RdAt.kind {k : Nat} (hk : k < (slL b.Slots).length) (J : AV → Prop) : z02 none (.ptr kn (k * 4)) h J = J (.int .i64 (K (k : Nat)).Kind) := by
  have := rowN_load1 (knC_len K) R.kv hk (j := 0) (by omega) (a := .int .i64 (K (k : Nat)).Kind) rfl J
  rwa [Nat.add_zero] at this
theorem RdAt.wrt {k : Nat} (hk : k < (slL b.Slots).length) (J : AV → Prop) : z02 none (.ptr w k) h J = J (.int .i64 (W (k : Nat) : Nat)) := by
  have := rowN_load1 (wrC_len W) R.wr hk (j := 0) (by omega) (a := .int .i64 (W (k : Nat) : Nat)) rfl J
  rwa [Nat.mul_one, Nat.add_zero] at this
end
theorem vl_ids (D : Nat → Prop) (v : Vl) : z2v D (.agg v.cells) := ⟨trivial, trivial, trivial, ids_ints _ _, trivial⟩
theorem btw_nat {n : Int} {m : Nat} (h : btw n m = true) : ∃ k : Nat, n = k ∧ k < m := by
  simp only [btw, Bool.and_eq_true, decide_eq_true_eq] at h
  exact ⟨n.toNat, by omega, by omega⟩
section
variable {h : z04} {rid w g f kn : Nat} {b : Bd} {L : List In} {W : Int → Nat} {kG : List Int} {fG : Int → Nat} {kF : List (Int × Int)} {fF : Int × Int → Nat} {K : Int → Vl}
theorem gives_k (R : RdAt h rid b L w g f kn W kG fG kF fF K) (hG : fG = cntG L) (hF : fF = cntF L) {c : Cd} {x : In} (wf : Wf c b x) (hfl : ∀ k, (slL (K k).Path.Fields).length ≤ 100) :
    z03 Try.prog 31 [.ptr rid 0, .agg x.cells] h (fun v h2 => v = .agg (z1w L K x).cells ∧ Keeps h h2 (fun _ => False)) := by
  subst hG hF
  apply path_reader_gives_wp
  obtain ⟨H, hH⟩ : ∃ H, H = h.push (.row 41 [AV.int .i64 0, AV.bool false, AV.int .i64 0, AV.nils]) := ⟨_, rfl⟩
  have kp : Keeps h H (fun _ => False) := by rw [hH]; exact Keeps.one _ _
  have R1 := R.keep kp
  have ob : H.objs h.next = some (.row 41 [AV.int .i64 0, AV.bool false, AV.int .i64 0, AV.nils]) := by rw [hH]; exact z2h _ _
  have stc : ∀ (v : Vl) (J : z04 → Prop), z0y 4 (.ptr h.next 0) (.agg v.cells) H J = J (H.put h.next (.row 41 v.cells)) := fun v J => by
    simp only [z0y, ob]
    simp [z0l.cells]
  have st4 : ∀ (a b c d : AV) (J : z04 → Prop), z0y 4 (.ptr h.next 0) (.agg [a, b, c, d]) H J = J (H.put h.next (.row 41 [a, b, c, d])) := fun a b c d J => by
    simp only [z0y, ob]
    simp
  have ldc : ∀ (v : Vl) (J : AV → Prop), z02 (some 4) (.ptr h.next 0) (H.put h.next (.row 41 v.cells)) J = J (.agg v.cells) := fun v J => by rw [z0o (put_new _ _ _)]; simp [z0h, z0l.cells]
  have ld4 : ∀ (a b c d : AV) (J : AV → Prop), z02 (some 4) (.ptr h.next 0) (H.put h.next (.row 41 [a, b, c, d])) J = J (.agg [a, b, c, d]) := fun a b c d J => by rw [z0o (put_new _ _ _)]; simp [z0h]
  have kq : ∀ o, Keeps h (H.put h.next o) (fun _ => False) := fun o => kp.putNew (Nat.le_refl _) o
  have b0 : ∀ (J : AV → Prop), z01 [(0, 1), (1, 3)] [AV.int .i64 0, AV.bool false, AV.int .i64 0, AV.nils] [] J = J (.agg [AV.int .i64 0, AV.bool false, AV.int .i64 0, AV.nils]) := fun J => rfl
  have b1 : ∀ (J : AV → Prop), z01 [(0, 1), (1, 3)] [AV.int .i64 0, AV.bool false, AV.int .i64 0, AV.nils] [(0, AV.int .i64 1)] J = J (.agg [AV.int .i64 1, AV.bool false, AV.int .i64 0, AV.nils]) := fun J => rfl
  have b2 : ∀ (n : Int) (J : AV → Prop), z01 [(0, 1), (1, 1), (2, 1)] [AV.bool false, AV.int .i64 0, AV.nils] [(0, AV.bool true), (1, AV.int .i64 n)] J = J (.agg [AV.bool true, AV.int .i64 n, AV.nils]) := fun n J => rfl
  have b3 : ∀ (a b c : AV) (J : AV → Prop), z01 [(0, 1), (1, 3)] [AV.int .i64 0, AV.bool false, AV.int .i64 0, AV.nils] [(0, AV.int .i64 2), (1, .agg [a, b, c])] J = J (.agg [AV.int .i64 2, a, b, c]) := fun a b c J => rfl
  have b3' : ∀ (p : z0w) (J : AV → Prop), z01 [(0, 1), (1, 3)] [AV.int .i64 0, AV.bool false, AV.int .i64 0, AV.nils] [(0, AV.int .i64 2), (1, .agg p.cells)] J = J (.agg (z0l.cells ⟨2, p⟩)) := fun p J => rfl
  have eG : ∀ n : Int, (((cntG L n : Nat) : Int) == 0) = !storeG L n := fun n => by
    rw [storeG_cnt]
    by_cases e : cntG L n = 0 <;> simp [e]
  have eF : ∀ p : Int × Int, (((cntF L p : Nat) : Int) == 0) = !storeF L p.1 p.2 := fun p => by
    rw [storeF_cnt]
    by_cases e : cntF L p = 0 <;> simp [e]
  have lkG : ∀ (n : Int) (J : AV → Prop), z3m (some (KeyK.int, .int .i64 0)) (.mapv g) (.int .i64 n) H J = J (.int .i64 (cntG L n : Nat)) := fun n J => R1.mg.lookup keyOk_int n J
  (repeat (first | simp -dsimp -implicitDefEqProofs (disch := omega) only [↓rP, rQ, rO, rL, ↓reduceIte, Nat.reduceEqDiff, Nat.reduceAdd, Nat.reduceLeDiff, z01, z05, ↓tyr] | refine Cut.go ?_))
  rw [← hH]
  refine z0x (fun h1 => ?_) (fun h1 => ?_)
  · -- a value
    have ev : z1w L K x = itemV K (slL x.Items) := by unfold z1w; rw [if_neg (by omega), if_pos h1]
    rw [ev]
    (repeat (first | simp -dsimp -implicitDefEqProofs (disch := omega) only [↓rP, rQ, rO, rL, ↓reduceIte, Nat.reduceEqDiff, Nat.reduceAdd, Nat.reduceLeDiff, z01, z05, ↓tyr] | refine Cut.go ?_))
    refine z0x (fun h2 => ?_) (fun h2 => ?_)
    · obtain ⟨y, hy⟩ : ∃ y, slL x.Items = [y] := List.length_eq_one_iff.1 (by omega)
      have hx0 : (slL x.Items)[((0 : Nat))]? = some y := by rw [hy]; rfl
      have ix0 : ∀ J : AV → Prop, z09 (.slice 3) (slAV 3 z0k.cells x.Items) (.int .i64 0) J = J (.iptr y.cells) := fun J => z0d hx0 .i64 J
      have hitem := (wf.items (Or.inl h1)).1 y (by rw [hy]; simp)
      (repeat (first | simp -dsimp -implicitDefEqProofs (disch := omega) only [↓rP, rQ, rO, rL, ↓reduceIte, Nat.reduceEqDiff, Nat.reduceAdd, Nat.reduceLeDiff, z01, z05, ↓tyr, ↓ix0] | refine Cut.go ?_))
      by_cases h3 : y.Op = 2
      · have e3 : (y.Op == 2) = true := by simpa using h3
        have hl := hitem h3
        have iv : itemV K (slL x.Items) = K (y.N : Nat) := by rw [hy]; simp [itemV, h3]
        rw [iv]
        (repeat (first | simp -dsimp -implicitDefEqProofs (disch := omega) only [↓rP, rQ, rO, rL, ↓reduceIte, Nat.reduceEqDiff, Nat.reduceAdd, Nat.reduceLeDiff, z01, z05, ↓tyr, e3, ↓ix0, R1.l7, ix_k .u64 hl, ↓R1.val hl, ↓stc, ↓ldc] | refine Cut.go ?_))
        exact kq _
      · have e3 : (y.Op == 2) = false := by simpa using h3
        have iv : itemV K (slL x.Items) = vUnk := by rw [hy]; simp [itemV, h3]
        rw [iv]
        (repeat (first | simp -dsimp -implicitDefEqProofs (disch := omega) only [↓rP, rQ, rO, rL, ↓reduceIte, Nat.reduceEqDiff, Nat.reduceAdd, Nat.reduceLeDiff, z01, z05, ↓tyr, e3, ↓b0, ↓st4, ↓ld4] | refine Cut.go ?_))
        exact ⟨rfl, kq _⟩
    · have iv : itemV K (slL x.Items) = vUnk := by
        unfold itemV
        split
        · rename_i y hy; rw [hy] at h2; exact absurd rfl h2
        · rfl
      rw [iv]
      (repeat (first | simp -dsimp -implicitDefEqProofs (disch := omega) only [↓rP, rQ, rO, rL, ↓reduceIte, Nat.reduceEqDiff, Nat.reduceAdd, Nat.reduceLeDiff, z01, z05, ↓tyr, ↓b0, ↓st4, ↓ld4] | refine Cut.go ?_))
      exact ⟨rfl, kq _⟩
  · (repeat (first | simp -dsimp -implicitDefEqProofs (disch := omega) only [↓rP, rQ, rO, rL, ↓reduceIte, Nat.reduceEqDiff, Nat.reduceAdd, Nat.reduceLeDiff, z01, z05, ↓tyr] | refine Cut.go ?_))
    by_cases h8 : x.Op = 8 ∨ x.Op = 9
    · have ev : z1w L K x = vFresh := by unfold z1w; rw [if_pos h8]
      rw [ev]
      rcases h8 with h8 | h8
      · refine z0x (fun h2 => ?_) (fun h2 => absurd h8 h2)
        (repeat (first | simp -dsimp -implicitDefEqProofs (disch := omega) only [↓rP, rQ, rO, rL, ↓reduceIte, Nat.reduceEqDiff, Nat.reduceAdd, Nat.reduceLeDiff, z01, z05, ↓tyr, ↓b1, ↓st4, ↓ld4] | refine Cut.go ?_))
        exact ⟨rfl, kq _⟩
      · refine z0x (fun h2 => absurd h2 (by omega)) (fun h2 => ?_)
        have e9 : (x.Op == 9) = true := by simpa using h8
        (repeat (first | simp -dsimp -implicitDefEqProofs (disch := omega) only [↓rP, rQ, rO, rL, ↓reduceIte, Nat.reduceEqDiff, Nat.reduceAdd, Nat.reduceLeDiff, z01, z05, ↓tyr, e9, ↓b1, ↓st4, ↓ld4] | refine Cut.go ?_))
        exact ⟨rfl, kq _⟩
    refine z0x (fun h2 => absurd (Or.inl h2) h8) (fun _ => ?_)
    have e9 : (x.Op == 9) = false := by simp; omega
    (repeat (first | simp -dsimp -implicitDefEqProofs (disch := omega) only [↓rP, rQ, rO, rL, ↓reduceIte, Nat.reduceEqDiff, Nat.reduceAdd, Nat.reduceLeDiff, z01, z05, ↓tyr, e9] | refine Cut.go ?_))
    refine z0x (fun h2 => ?_) (fun h2 => ?_)
    · -- a global
      have ev : z1w L K x = if storeG L x.N then vUnk else vWay true x.N := by unfold z1w; rw [if_neg h8, if_neg h1, if_pos h2]
      rw [ev]
      (repeat (first | simp -dsimp -implicitDefEqProofs (disch := omega) only [↓rP, rQ, rO, rL, ↓reduceIte, Nat.reduceEqDiff, Nat.reduceAdd, Nat.reduceLeDiff, z01, z05, ↓tyr, R1.l5, ↓lkG, eG] | refine Cut.go ?_))
      cases hs : storeG L x.N with
      | true =>
        (repeat (first | simp -dsimp -implicitDefEqProofs (disch := omega) only [↓rP, rQ, rO, rL, ↓reduceIte, Nat.reduceEqDiff, Nat.reduceAdd, Nat.reduceLeDiff, z01, z05, ↓tyr, hs, ↓b0, ↓st4, ↓ld4] | refine Cut.go ?_))
        exact ⟨rfl, kq _⟩
      | false =>
        (repeat (first | simp -dsimp -implicitDefEqProofs (disch := omega) only [↓rP, rQ, rO, rL, ↓reduceIte, Nat.reduceEqDiff, Nat.reduceAdd, Nat.reduceLeDiff, z01, z05, ↓tyr, hs, ↓b2, ↓b3, ↓st4, ↓ld4] | refine Cut.go ?_))
        exact ⟨rfl, kq _⟩
    (repeat (first | simp -dsimp -implicitDefEqProofs (disch := omega) only [↓rP, rQ, rO, rL, ↓reduceIte, Nat.reduceEqDiff, Nat.reduceAdd, Nat.reduceLeDiff, z01, z05, ↓tyr] | refine Cut.go ?_))
    refine z0x (fun h3 => ?_) (fun h3 => ?_)
    · -- a field
      obtain ⟨r, -, -, hsrc⟩ := wf.fld (Or.inl h3)
      obtain ⟨m, em, hm⟩ := btw_nat hsrc
      obtain ⟨H2, hH2⟩ : ∃ H2, H2 = H.push (.row 41 [AV.int .i64 0, AV.bool false, AV.int .i64 0, AV.nils]) := ⟨_, rfl⟩
      have kp2 : Keeps H H2 (fun _ => False) := by rw [hH2]; exact Keeps.one _ _
      have R2 := R1.keep kp2
      have hlt : h.next < H.next := by rw [hH]; exact Nat.lt_succ_self _
      have ob2 : H2.objs H.next = some (.row 41 [AV.int .i64 0, AV.bool false, AV.int .i64 0, AV.nils]) := by rw [hH2]; exact z2h _ _
      obtain ⟨H3, hH3⟩ : ∃ H3, H3 = H.push (.row 41 (K (m : Nat)).cells) := ⟨_, rfl⟩
      have kp3 : Keeps H H3 (fun _ => False) := by rw [hH3]; exact Keeps.one _ _
      have R3 := R1.keep kp3
      have ob3 : H3.objs h.next = some (.row 41 [AV.int .i64 0, AV.bool false, AV.int .i64 0, AV.nils]) := by rw [kp3.objs _ hlt (by simp)]; exact ob
      have o3 : H3.objs H.next = some (.row 41 (K (m : Nat)).cells) := by rw [hH3]; exact z2h _ _
      have stc : ∀ (v : Vl) (J : z04 → Prop), z0y 4 (.ptr h.next 0) (.agg v.cells) H3 J = J (H3.put h.next (.row 41 v.cells)) := fun v J => by
        simp only [z0y, ob3]
        simp [z0l.cells]
      have st4 : ∀ (a b c d : AV) (J : z04 → Prop), z0y 4 (.ptr h.next 0) (.agg [a, b, c, d]) H3 J = J (H3.put h.next (.row 41 [a, b, c, d])) := fun a b c d J => by
        simp only [z0y, ob3]
        simp
      have ldc : ∀ (v : Vl) (J : AV → Prop), z02 (some 4) (.ptr h.next 0) (H3.put h.next (.row 41 v.cells)) J = J (.agg v.cells) := fun v J => by rw [z0o (put_new _ _ _)]; simp [z0h, z0l.cells]
      have ld4 : ∀ (a b c d : AV) (J : AV → Prop), z02 (some 4) (.ptr h.next 0) (H3.put h.next (.row 41 [a, b, c, d])) J = J (.agg [a, b, c, d]) := fun a b c d J => by rw [z0o (put_new _ _ _)]; simp [z0h]
      have kq : ∀ o, Keeps h (H3.put h.next o) (fun _ => False) := fun o => (kp.go kp3).putNew (Nat.le_refl _) o
      have f0 : ∀ J : AV → Prop, z02 none (.ptr H.next 0) H3 J = J (.int .i64 (K (m : Nat)).Kind) := fun J => by rw [z0o o3]; rfl
      have f3 : ∀ J : AV → Prop, z02 none (.ptr H.next 3) H3 J = J (slAV 1 encI (K (m : Nat)).Path.Fields) := fun J => by rw [z0o o3]; rfl
      have fp : ∀ J : AV → Prop, z02 (some 3) (.ptr H.next 1) H3 J = J (.agg (K (m : Nat)).Path.cells) := fun J => by rw [z0o o3]; simp [z0h, z0l.cells, z0w.cells]
      have bp : ∀ J : AV → Prop, z01 [(0, 1), (1, 1)] [AV.int .i64 0, AV.int .i64 0] [(0, .int .i64 x.Rec), (1, .int .i64 x.N)] J = J (.agg [.int .i64 x.Rec, .int .i64 x.N]) := fun J => rfl
      have lkF : ∀ (J : AV → Prop), z3m (some (KeyK.flat [LK.int, LK.int], .int .i64 0)) (.mapv f) (.agg [.int .i64 x.Rec, .int .i64 x.N]) H3 J = J (.int .i64 (cntF L (x.Rec, x.N) : Nat)) := fun J => R3.mf.lookup keyOk_pair (x.Rec, x.N) J
      have eF1 := eF (x.Rec, x.N)
      have ev : z1w L K x = if (K (m : Nat)).Kind = 2 ∧ (slL (K (m : Nat)).Path.Fields).length ≤ 2 ∧ storeF L x.Rec x.N = false then longV (K (m : Nat)) x.N else vUnk := by
        unfold z1w; rw [if_neg h8, if_neg h1, if_neg h2, if_pos h3, em]
      rw [ev]
      (repeat (first | simp -dsimp -implicitDefEqProofs (disch := omega) only [↓rP, rQ, rO, rL, ↓reduceIte, Nat.reduceEqDiff, Nat.reduceAdd, Nat.reduceLeDiff, z01, z05, ↓tyr, R1.l7, em, ix_k .i64 hm, R1.val hm] | refine Cut.go ?_))
      rw [← hH2, ← hH3]
      (repeat (first | simp -dsimp -implicitDefEqProofs (disch := omega) only [↓rP, rQ, rO, rL, ↓reduceIte, Nat.reduceEqDiff, Nat.reduceAdd, Nat.reduceLeDiff, z01, z05, ↓tyr, R2.l7, R2.val hm, em, f0] | refine Cut.go ?_))
      have unk : ¬ ((K (m : Nat)).Kind = 2 ∧ (slL (K (m : Nat)).Path.Fields).length ≤ 2 ∧ storeF L x.Rec x.N = false) → (if (K (m : Nat)).Kind = 2 ∧ (slL (K (m : Nat)).Path.Fields).length ≤ 2 ∧ storeF L x.Rec x.N = false then longV (K (m : Nat)) x.N else vUnk) = vUnk := fun hn => if_neg hn
      by_cases hk2 : (K (m : Nat)).Kind = 2
      · have ek : ((K (m : Nat)).Kind == 2) = true := by simpa using hk2
        (repeat (first | simp -dsimp -implicitDefEqProofs (disch := omega) only [↓rP, rQ, rO, rL, ↓reduceIte, Nat.reduceEqDiff, Nat.reduceAdd, Nat.reduceLeDiff, z01, z05, ↓tyr, ek, f3] | refine Cut.go ?_))
        by_cases hl3 : (slL (K (m : Nat)).Path.Fields).length ≤ 2
        · have el : decide (((slL (K (m : Nat)).Path.Fields).length : Int) < 3) = true := by simp; omega
          (repeat (first | simp -dsimp -implicitDefEqProofs (disch := omega) only [↓rP, rQ, rO, rL, ↓reduceIte, Nat.reduceEqDiff, Nat.reduceAdd, Nat.reduceLeDiff, z01, z05, ↓tyr, el, R3.l6, ↓bp, ↓lkF, eF1] | refine Cut.go ?_))
          rcases Bool.eq_false_or_eq_true (storeF L x.Rec x.N) with hs | hs
          · rw [unk (fun h => by rw [hs] at h; cases h.2.2)]
            (repeat (first | simp -dsimp -implicitDefEqProofs (disch := omega) only [↓rP, rQ, rO, rL, ↓reduceIte, Nat.reduceEqDiff, Nat.reduceAdd, Nat.reduceLeDiff, z01, z05, ↓tyr, hs, ↓b0, ↓st4, ↓ld4] | refine Cut.go ?_))
            exact ⟨rfl, kq _⟩
          · rw [if_pos ⟨hk2, hl3, hs⟩]
            (repeat (first | simp -dsimp -implicitDefEqProofs (disch := omega) only [↓rP, rQ, rO, rL, ↓reduceIte, Nat.reduceEqDiff, Nat.reduceAdd, Nat.reduceLeDiff, z01, z05, ↓tyr, hs, ↓fp] | refine Cut.go ?_))
            refine z03.go (longer_does (K (m : Nat)).Path (by omega) x.N _) ?_
            (repeat (first | simp -dsimp -implicitDefEqProofs (disch := omega) only [↓rP, rQ, rO, rL, ↓reduceIte, Nat.reduceEqDiff, Nat.reduceAdd, Nat.reduceLeDiff, z01, z05, ↓tyr, ↓b3', ↓stc, ↓ldc] | refine Cut.go ?_))
            exact ⟨rfl, kq _⟩
        · have el : decide (((slL (K (m : Nat)).Path.Fields).length : Int) < 3) = false := by simp; omega
          rw [unk (fun h => hl3 h.2.1)]
          (repeat (first | simp -dsimp -implicitDefEqProofs (disch := omega) only [↓rP, rQ, rO, rL, ↓reduceIte, Nat.reduceEqDiff, Nat.reduceAdd, Nat.reduceLeDiff, z01, z05, ↓tyr, el, ↓b0, ↓st4, ↓ld4] | refine Cut.go ?_))
          exact ⟨rfl, kq _⟩
      · have ek : ((K (m : Nat)).Kind == 2) = false := by simpa using hk2
        rw [unk (fun h => hk2 h.1)]
        (repeat (first | simp -dsimp -implicitDefEqProofs (disch := omega) only [↓rP, rQ, rO, rL, ↓reduceIte, Nat.reduceEqDiff, Nat.reduceAdd, Nat.reduceLeDiff, z01, z05, ↓tyr, ek, ↓b0, ↓st4, ↓ld4] | refine Cut.go ?_))
        exact ⟨rfl, kq _⟩
    · have ev : z1w L K x = vUnk := by unfold z1w; rw [if_neg h8, if_neg h1, if_neg h2, if_neg h3]
      rw [ev]
      (repeat (first | simp -dsimp -implicitDefEqProofs (disch := omega) only [↓rP, rQ, rO, rL, ↓reduceIte, Nat.reduceEqDiff, Nat.reduceAdd, Nat.reduceLeDiff, z01, z05, ↓tyr, ↓b0, ↓st4, ↓ld4] | refine Cut.go ?_))
      exact ⟨rfl, kq _⟩
theorem gives_does (R : RdAt h rid b L w g f kn W kG fG kF fF K) (hG : fG = cntG L) (hF : fF = cntF L) {c : Cd} {x : In} (wf : Wf c b x) (hfl : ∀ k, (slL (K k).Path.Fields).length ≤ 100) :
    z03 Try.prog 31 [.ptr rid 0, .agg x.cells] h (fun v h2 => v = .agg (z1w L K x).cells ∧ h2 = h) := z03.forget (vl_ids _ _) (gives_k R hG hF wf hfl)
end
end Go.Proofs.Ytnggcokgnblpgaa
end

section
/- What is known of slots: a round. -/
set_option maxRecDepth 8000
set_option maxHeartbeats 1000000
namespace Go.Proofs.Ytnggcokgnblpgaa
open Go.Abs
def onB (b : Bd) (k : Int) : Bool := match getI (slL b.Slots) k with | some l => l.Once | none => false
theorem on1 (b : Bd) : On1 (onB b) := by unfold On1 onB getI; rw [if_neg (by omega)]
theorem on_at {b : Bd} {k : Nat} {l : Lo} (hl : (slL b.Slots)[k]? = some l) : onB b (k : Nat) = l.Once := by unfold onB; rw [z4g, hl]
theorem on_pos {b : Bd} {k : Int} (h : onB b k = true) : ∃ m : Nat, k = m ∧ m < (slL b.Slots).length := by
  unfold onB at h
  cases hg : getI (slL b.Slots) k with
  | none => rw [hg] at h; cases h
  | some l =>
    obtain ⟨m, e, hm⟩ := getI_nat hg
    exact ⟨m, e, (List.getElem?_eq_some_iff.1 hm).1⟩
def wrW (L : List In) (k : Int) : Nat := (byS L k).length
def FL (K : Int → Vl) : Prop := ∀ k, (slL (K k).Path.Fields).length ≤ 3
theorem FL.gives {L : List In} {K : Int → Vl} (h : FL K) (x : In) : (slL (z1w L K x).Path.Fields).length ≤ 3 := by
  unfold z1w
  split
  · simp [vFresh]
  · split
    · unfold itemV
      split
      · split
        · exact h _
        · simp [vUnk]
      · simp [vUnk]
    · split
      · split <;> simp [vUnk, vWay]
      · split
        · split
          · rename_i hc
            simp only [longV, slL_some, List.length_append, List.length_cons, List.length_nil]
            omega
          · simp [vUnk]
        · simp [vUnk]
theorem FL.upd {K : Int → Vl} (h : FL K) {d : Int} {v : Vl} (hv : (slL v.Path.Fields).length ≤ 3) : FL (updV K d v) := fun k => by
  unfold updV
  split
  · exact hv
  · exact h k
def cU (n : Nat) (K : Int → Vl) : Nat := (List.range n).countP fun k => decide ((K (k : Nat)).Kind = 0)
theorem cU_upd {n m : Nat} {K : Int → Vl} {v : Vl} (hm : m < n) (h0 : (K (m : Nat)).Kind = 0) (hv : v.Kind ≠ 0) : cU n (updV K (m : Nat) v) < cU n K := by
  refine cnt_lt (b := m) (fun j hj hp => ?_) hm ?_ ?_
  · simp only [decide_eq_true_eq] at hp ⊢
    unfold updV at hp
    split at hp
    · exact absurd hp hv
    · exact hp
  · simp [updV, hv]
  · simp [h0]
section
variable {h : z04} {rid w g f kn : Nat} {b : Bd} {L : List In} {W : Int → Nat} {kG : List Int} {fG : Int → Nat} {kF : List (Int × Int)} {fF : Int × Int → Nat} {K : Int → Vl}
theorem RdAt.upd (R : RdAt h rid b L w g f kn W kG fG kF fF K) (m : Nat) (v : Vl) : RdAt (h.put kn (.row 41 (rowN (fun i => if i = m then v.cells else knC K i) (slL b.Slots).length))) rid b L w g f kn W kG fG kF fF (updV K (m : Nat) v) := by
  have n1 : rid ≠ kn := by rintro rfl; have := R.obj.symm.trans R.kv; simp at this
  have n2 : w ≠ kn := by rintro rfl; have := R.wr.symm.trans R.kv; simp at this
  have n3 : g ≠ kn := by rintro rfl; have := R.mg.obj.symm.trans R.kv; simp [mapO] at this
  have n4 : f ≠ kn := by rintro rfl; have := R.mf.obj.symm.trans R.kv; simp [mapO] at this
  have ke : rowN (fun i => if i = m then v.cells else knC K i) (slL b.Slots).length = rowN (knC (updV K (m : Nat) v)) (slL b.Slots).length := rowN_congr fun k _ => by
    unfold knC updV
    by_cases e : k = m
    · subst e; simp
    · rw [if_neg e, if_neg (by omega)]
  rw [ke]
  exact ⟨by rw [put_old n1]; exact R.obj, by rw [put_old n2]; exact R.wr, ⟨by rw [put_old n3]; exact R.mg.obj, R.mg.nd, R.mg.out⟩, ⟨by rw [put_old n4]; exact R.mf.obj, R.mf.nd, R.mf.out⟩, put_new _ _ _, R.gf, R.lr, R.lw, R.lg, R.lf, R.lk⟩
theorem wkP (k : Nat) (hk : k ≤ 1000000) : IntKind.i64.wrap ((k : Int) + 1) = ((k + 1 : Nat) : Int) := by rw [wrapI (by omega) (by omega)]; omega
def DoneTo (L : List In) (on : Int → Bool) (K : Int → Vl) (j : Nat) : Prop := ∀ i x k, i < j → L[i]? = some x → dstI x = k → byS L k = [x] → on k = true → (K k).Kind = 0 → (z1w L K x).Kind = 0
theorem DoneTo.all {L : List In} {on : Int → Bool} {K : Int → Vl} (h : DoneTo L on K L.length) : Done L on K := fun x k hb ho hk => by
  have hx : x ∈ byS L k := by rw [hb]; simp
  unfold byS at hx
  obtain ⟨h1, h2⟩ := List.mem_filter.1 hx
  obtain ⟨i, hi⟩ := List.getElem?_of_mem h1
  exact h i x k (List.getElem?_eq_some_iff.1 hi).1 hi (by simpa using h2) hb ho hk
structure RR (h hh : z04) (rid : Nat) (b : Bd) (L : List In) (w g f kn : Nat) (kG : List Int) (kF : List (Int × Int)) (K0 K : Int → Vl) (more : Bool) (j : Nat) : Prop where
  rd : RdAt hh rid b L w g f kn (wrW L) kG (cntG L) kF (cntF L) K
  kp : Keeps h hh (fun i => i = kn)
  snd : Snd L (onB b) K
  fl : FL K
  no : more = false → K = K0 ∧ DoneTo L (onB b) K0 j
  yes : more = true → cU (slL b.Slots).length K < cU (slL b.Slots).length K0
theorem RR.skip {hh h2 : z04} {K0 : Int → Vl} {more : Bool} {j : Nat} {x : In} (r : RR h hh rid b L w g f kn kG kF K0 K more j) (k2 : Keeps hh h2 (fun _ => False)) (hx : L[j]? = some x) (hs : K = K0 → byS L (dstI x) = [x] → onB b (dstI x) = true → (K (dstI x)).Kind = 0 → (z1w L K x).Kind = 0) : RR h h2 rid b L w g f kn kG kF K0 K more (j + 1) :=
  ⟨r.rd.keep k2, r.kp.trans k2 (fun _ _ e => e.elim), r.snd, r.fl, fun hm => ⟨(r.no hm).1, fun i y k hi hy e hb ho hk => by
    by_cases e2 : i = j
    · subst e2
      rw [hx] at hy; cases hy
      subst e
      have e3 := (r.no hm).1
      have := hs e3
      rw [e3] at this
      exact this hb ho hk
    · exact (r.no hm).2 i y k (by omega) hy e hb ho hk⟩, r.yes⟩
theorem round_3 {c : Cd} (hn : (slL b.Slots).length ≤ 100) (hL : L.length ≤ 1000) (wf : ∀ x ∈ L, Wf c b x) (K0 : Int → Vl) (R0 : RdAt h rid b L w g f kn (wrW L) kG (cntG L) kF (cntF L) K0) (s0 : Snd L (onB b) K0) (f0 : FL K0) (Q : z1j → Fr → z04 → Prop)
    (hQ : ∀ hh K more, RR h hh rid b L w g f kn kG kF K0 K more L.length → Q (.exit 0) (frOf [(3, .bool more)]) hh) :
    WP Try.prog 69 (.loop c_path_reader_round_3) (frOf [(0, .ptr rid 0), (3, .bool false), (11, slAV 8 z0b.cells (some L)), (12, .int .i64 L.length), (13, .int .i64 0)]) h Q := by
  obtain ⟨I, hI⟩ : ∃ I : Nat → Fr → z04 → Prop, I = (fun m fr hh => ∃ (j : Nat) (K : Int → Vl) (more : Bool), m = L.length - j ∧ j ≤ L.length ∧ RR h hh rid b L w g f kn kG kF K0 K more j ∧ fr = frOf [(0, .ptr rid 0), (3, .bool more), (11, slAV 8 z0b.cells (some L)), (12, .int .i64 L.length), (13, .int .i64 j)]) := ⟨_, rfl⟩
  refine z1u z0v (by kernel_rfl) I L.length (by rw [hI]; exact ⟨0, K0, false, rfl, Nat.zero_le _, ⟨R0, .refl _ _, s0, f0, fun _ => ⟨rfl, fun i x k hi => by omega⟩, fun h => by cases h⟩, rfl⟩) ?_
  intro m fr hh hi
  rw [hI] at hi
  obtain ⟨j, K, more, rfl, hj, r, rfl⟩ := hi
  apply path_reader_round_loop3
  (repeat simp -dsimp -implicitDefEqProofs (disch := omega) only [↓rP, rQ, rO, rL, ↓reduceIte, Nat.reduceEqDiff, Nat.reduceAdd, Nat.reduceLeDiff, z01, z05, ↓tyr])
  refine z0i (fun hjl => ?_) (fun hjl => ?_)
  · obtain ⟨x, hx⟩ : ∃ x, L[j]? = some x := ⟨_, List.getElem?_eq_getElem (by omega)⟩
    have hxL : x ∈ L := List.mem_of_getElem? hx
    have wx := wf x hxL
    have hx' : (slL (some L))[j]? = some x := hx
    (repeat simp -dsimp -implicitDefEqProofs (disch := omega) only [↓rP, rQ, rO, rL, ↓reduceIte, Nat.reduceEqDiff, Nat.reduceAdd, Nat.reduceLeDiff, z01, z05, ↓tyr, z0d hx'])
    refine z03.go (code_Writes_does x _) ?_
    have ed : (if x.Op = 1 ∨ x.Op = 2 ∨ x.Op = 3 ∨ x.Op = 4 ∨ x.Op = 8 ∨ x.Op = 9 ∨ x.Op = 10 then x.Dst else -1) = dstI x := rfl
    rw [ed]
    obtain ⟨H, hH⟩ : ∃ H, H = hh.push (.row 45 x.cells) := ⟨_, rfl⟩
    have kp : Keeps hh H (fun _ => False) := by rw [hH]; exact Keeps.one _ _
    have R1 := r.rd.keep kp
    have ob : H.objs hh.next = some (.row 45 x.cells) := by rw [hH]; exact z2h _ _
    rw [← hH]
    have skip : ∀ (hs : K = K0 → byS L (dstI x) = [x] → onB b (dstI x) = true → (K (dstI x)).Kind = 0 → (z1w L K x).Kind = 0) (hh2 : z04) (k2 : Keeps hh hh2 (fun _ => False)), I (L.length - (j + 1)) (frOf [(0, .ptr rid 0), (3, .bool more), (11, slAV 8 z0b.cells (some L)), (12, .int .i64 L.length), (13, .int .i64 ((j + 1 : Nat) : Int))]) hh2 := fun hs hh2 k2 => by
      rw [hI]
      exact ⟨j + 1, K, more, rfl, by omega, r.skip k2 hx hs, rfl⟩
    by_cases hd : dstI x < 0
    · have e0 : decide (dstI x < 0) = true := decide_eq_true hd
      (repeat simp -dsimp -implicitDefEqProofs (disch := omega) only [↓rP, rQ, rO, rL, ↓reduceIte, Nat.reduceEqDiff, Nat.reduceAdd, Nat.reduceLeDiff, z01, z05, ↓tyr, e0, wkP j (by omega)])
      rw [z0a]
      exact ⟨_, by omega, skip (fun _ _ ho _ => by obtain ⟨k, e, _⟩ := on_pos ho; omega) _ kp⟩
    have e0 : decide (dstI x < 0) = false := decide_eq_false hd
    obtain ⟨d, ed2, hdl⟩ : ∃ d : Nat, dstI x = d ∧ d < (slL b.Slots).length := by
      have : dstI x ≠ -1 := by omega
      unfold dstI at this ⊢
      split at this
      · rename_i hop
        rw [if_pos hop]
        exact btw_nat (wx.dst hop)
      · exact absurd rfl this
    rw [ed2] at e0 skip ⊢
    obtain ⟨l, hl⟩ : ∃ l, (slL b.Slots)[d]? = some l := ⟨_, List.getElem?_eq_getElem hdl⟩
    have lc : ∀ J : AV → Prop, z02 (some 8) (.ptr hh.next 0) H J = J (.agg x.cells) := fun J => by rw [z0o ob]; exact z0b.call x J
    have eon := on_at hl
    by_cases ho : l.Once = false
    · (repeat simp -dsimp -implicitDefEqProofs (disch := omega) only [↓rP, rQ, rO, rL, ↓reduceIte, Nat.reduceEqDiff, Nat.reduceAdd, Nat.reduceLeDiff, z01, z05, ↓tyr, e0, R1.l0, z0d hl, ho, wkP j (by omega)])
      rw [z0a]
      exact ⟨_, by omega, skip (fun _ _ ho2 _ => by rw [eon, ho] at ho2; cases ho2) _ kp⟩
    have ho : l.Once = true := by simpa using ho
    by_cases hw : wrW L (d : Nat) ≠ 1
    · have ew : (((wrW L (d : Nat) : Nat) : Int) != 1) = true := by simp; omega
      (repeat simp -dsimp -implicitDefEqProofs (disch := omega) only [↓rP, rQ, rO, rL, ↓reduceIte, Nat.reduceEqDiff, Nat.reduceAdd, Nat.reduceLeDiff, z01, z05, ↓tyr, e0, R1.l0, z0d hl, ho, R1.l4, ix_w .i64 hdl, R1.wrt hdl, ew, wkP j (by omega)])
      rw [z0a]
      exact ⟨_, by omega, skip (fun _ hb _ _ => absurd (by unfold wrW; rw [hb]; rfl) hw) _ kp⟩
    have hw : wrW L (d : Nat) = 1 := Classical.not_not.1 hw
    have ew : (((wrW L (d : Nat) : Nat) : Int) != 1) = false := by simp; omega
    by_cases hk : (K (d : Nat)).Kind ≠ 0
    · have ek : ((K (d : Nat)).Kind != 0) = true := by simpa using hk
      (repeat simp -dsimp -implicitDefEqProofs (disch := omega) only [↓rP, rQ, rO, rL, ↓reduceIte, Nat.reduceEqDiff, Nat.reduceAdd, Nat.reduceLeDiff, z01, z05, ↓tyr, e0, R1.l0, z0d hl, ho, R1.l4, ix_w .i64 hdl, R1.wrt hdl, ew, R1.l7, ix_k .i64 hdl, R1.kind hdl, ek, wkP j (by omega)])
      rw [z0a]
      exact ⟨_, by omega, skip (fun _ _ _ hk2 => absurd hk2 hk) _ kp⟩
    have hk : (K (d : Nat)).Kind = 0 := Classical.not_not.1 hk
    have ek : ((K (d : Nat)).Kind != 0) = false := by simpa using hk
    (repeat simp -dsimp -implicitDefEqProofs (disch := omega) only [↓rP, rQ, rO, rL, ↓reduceIte, Nat.reduceEqDiff, Nat.reduceAdd, Nat.reduceLeDiff, z01, z05, ↓tyr, e0, R1.l0, z0d hl, ho, R1.l4, ix_w .i64 hdl, R1.wrt hdl, ew, R1.l7, ix_k .i64 hdl, R1.kind hdl, ek, ↓lc])
    refine z03.go (gives_does R1 rfl rfl wx (fun k => by have := r.fl k; omega)) ?_
    have hb : byS L (d : Nat) = [x] := by
      obtain ⟨y, hy⟩ := List.length_eq_one_iff.1 hw
      have hxy : x ∈ byS L (d : Nat) := List.mem_filter.2 ⟨hxL, by simp [ed2]⟩
      rw [hy] at hxy ⊢
      rw [List.mem_singleton.1 hxy]
    obtain ⟨v, ev⟩ : ∃ v, v = z1w L K x := ⟨_, rfl⟩
    rw [← ev]
    (repeat simp -dsimp -implicitDefEqProofs (disch := omega) only [↓rP, rQ, rO, rL, ↓reduceIte, Nat.reduceEqDiff, Nat.reduceAdd, Nat.reduceLeDiff, z01, z05, ↓tyr])
    obtain ⟨H2, hH2⟩ : ∃ H2, H2 = H.push (.row 41 v.cells) := ⟨_, rfl⟩
    have kp2 : Keeps H H2 (fun _ => False) := by rw [hH2]; exact Keeps.one _ _
    have R2 := R1.keep kp2
    have ob2 : H2.objs H.next = some (.row 41 v.cells) := by rw [hH2]; exact z2h _ _
    rw [← hH2]
    have fk : ∀ J : AV → Prop, z02 none (.ptr H.next 0) H2 J = J (.int .i64 v.Kind) := fun J => by rw [z0o ob2]; rfl
    have fv : ∀ J : AV → Prop, z02 (some 4) (.ptr H.next 0) H2 J = J (.agg v.cells) := fun J => by rw [z0o ob2]; simp [z0h, z0l.cells]
    by_cases hv : v.Kind = 0
    · have e : (v.Kind != 0) = false := by simpa using hv
      (repeat simp -dsimp -implicitDefEqProofs (disch := omega) only [↓rP, rQ, rO, rL, ↓reduceIte, Nat.reduceEqDiff, Nat.reduceAdd, Nat.reduceLeDiff, z01, z05, ↓tyr, fk, e, wkP j (by omega)])
      rw [z0a]
      exact ⟨_, by omega, skip (fun _ _ _ _ => by rw [← ev]; exact hv) _ (kp.go kp2)⟩
    · have e : (v.Kind != 0) = true := by simpa using hv
      have st : ∀ J : z04 → Prop, z0y 4 (.ptr kn (d * 4)) (.agg v.cells) H2 J = J (H2.put kn (.row 41 (rowN (fun i => if i = d then v.cells else knC K i) (slL b.Slots).length))) := fun J => rowN_store (knC_len K) R2.kv hdl rfl J
      (repeat simp -dsimp -implicitDefEqProofs (disch := omega) only [↓rP, rQ, rO, rL, ↓reduceIte, Nat.reduceEqDiff, Nat.reduceAdd, Nat.reduceLeDiff, z01, z05, ↓tyr, fk, e, R2.l7, ↓fv, ix_k .i64 hdl, ↓st, wkP j (by omega)])
      rw [z0a, hI]
      refine ⟨_, by omega, j + 1, updV K (d : Nat) v, true, rfl, by omega, ⟨R2.upd d v, ?_, ?_, r.fl.upd (by rw [ev]; exact r.fl.gives x), fun h => (by cases h), fun _ => ?_⟩, rfl⟩
      · exact (r.kp.trans (kp.go kp2) (fun _ _ e => e.elim)).putS rfl _
      · rw [ev]; exact r.snd.upd hb (by rw [eon]; exact ho) (by rw [← ev]; exact hv)
      · have h1 := cU_upd (K := K) (v := v) hdl hk hv
        cases more with
        | true => exact Nat.lt_trans h1 (r.yes rfl)
        | false => rw [(r.no rfl).1] at h1 ⊢; exact h1
  · (repeat simp -dsimp -implicitDefEqProofs (disch := omega) only [↓rP, rQ, rO, rL, ↓reduceIte, Nat.reduceEqDiff, Nat.reduceAdd, Nat.reduceLeDiff, z01, z05, ↓tyr])
    have : j = L.length := by omega
    subst this
    exact hQ hh K more r
end
end Go.Proofs.Ytnggcokgnblpgaa
end

section
/- What is known of slots: the reader is laid; its counts. -/
set_option maxRecDepth 8000
set_option maxHeartbeats 1000000
namespace Go.Proofs.Ytnggcokgnblpgaa
open Go.Abs
theorem byS_snoc (L : List In) (x : In) (k : Int) : byS (L ++ [x]) k = byS L k ++ if dstI x = k then [x] else [] := by
  unfold byS
  rw [List.filter_append]
  congr 1
  by_cases e : dstI x = k <;> simp [e]
theorem wrW_snoc (L : List In) (x : In) (k : Int) : wrW (L ++ [x]) k = wrW L k + if dstI x = k then 1 else 0 := by
  unfold wrW
  rw [byS_snoc, List.length_append]
  split <;> rfl
theorem cntG_snoc (L : List In) (x : In) (n : Int) : cntG (L ++ [x]) n = if x.Op = 5 ∧ x.N = n then cntG L n + 1 else cntG L n := by
  unfold cntG
  rw [List.countP_append]
  by_cases e : x.Op = 5 ∧ x.N = n
  · rw [if_pos e]; simp [List.countP_cons, e]
  · rw [if_neg e]
    have : (decide (x.Op = 5) && decide (x.N = n)) = false := by
      simp only [Bool.and_eq_false_iff, decide_eq_false_iff_not]
      exact Classical.byContradiction fun h => e (by
        simp only [not_or, Classical.not_not] at h; exact h)
    simp [List.countP_cons, this]
theorem cntF_snoc (L : List In) (x : In) (p : Int × Int) : cntF (L ++ [x]) p = if x.Op = 6 ∧ (x.Rec, x.N) = p then cntF L p + 1 else cntF L p := by
  unfold cntF
  rw [List.countP_append]
  obtain ⟨a, b⟩ := p
  by_cases e : x.Op = 6 ∧ (x.Rec, x.N) = (a, b)
  · rw [if_pos e]
    have h1 := e.2
    simp only [Prod.mk.injEq] at h1
    simp [List.countP_cons, e.1, h1.1, h1.2]
  · rw [if_neg e]
    have : (decide (x.Op = 6) && (decide (x.Rec = a) && decide (x.N = b))) = false := by
      rw [Bool.eq_false_iff]
      intro h
      simp only [Bool.and_eq_true, decide_eq_true_eq] at h
      exact e ⟨h.1, by rw [h.2.1, h.2.2]⟩
    simp [List.countP_cons, this]
theorem wrW_le (L : List In) (k : Int) : wrW L k ≤ L.length := List.length_filter_le _ _
theorem cntG_le (L : List In) (n : Int) : cntG L n ≤ L.length := List.countP_le_length
theorem cntF_le (L : List In) (p : Int × Int) : cntF L p ≤ L.length := List.countP_le_length
section
variable {h : z04} {rid w g f kn : Nat} {b : Bd} {L : List In} {W : Int → Nat} {kG : List Int} {fG : Int → Nat} {kF : List (Int × Int)} {fF : Int × Int → Nat} {K : Int → Vl}
theorem RdAt.ne (R : RdAt h rid b L w g f kn W kG fG kF fF K) : rid ≠ w ∧ rid ≠ g ∧ rid ≠ f ∧ w ≠ g ∧ w ≠ f ∧ w ≠ kn ∧ g ≠ kn ∧ f ≠ kn := by
  refine ⟨?_, ?_, ?_, ?_, ?_, ?_, ?_, ?_⟩
  · rintro rfl; have := R.obj.symm.trans R.wr; simp at this
  · rintro rfl; have := R.obj.symm.trans R.mg.obj; simp [mapO] at this
  · rintro rfl; have := R.obj.symm.trans R.mf.obj; simp [mapO] at this
  · rintro rfl; have := R.wr.symm.trans R.mg.obj; simp [mapO] at this
  · rintro rfl; have := R.wr.symm.trans R.mf.obj; simp [mapO] at this
  · rintro rfl; have := R.wr.symm.trans R.kv; simp at this
  · rintro rfl; have := R.mg.obj.symm.trans R.kv; simp [mapO] at this
  · rintro rfl; have := R.mf.obj.symm.trans R.kv; simp [mapO] at this
theorem MapAt.putO {α : Type} {enc : α → AV} {ks : List α} {f : α → Nat} {id i : Nat} {o : AObj} (M : MapAt h id enc ks f) (hi : id ≠ i) : MapAt (h.put i o) id enc ks f := ⟨by rw [put_old hi]; exact M.obj, M.nd, M.out⟩
theorem RdAt.putW (R : RdAt h rid b L w g f kn W kG fG kF fF K) (m : Nat) (v : Nat) : RdAt (h.put w (.row 3 (rowN (fun i => if i = m then [.int .i64 (v : Nat)] else wrC W i) (slL b.Slots).length))) rid b L w g f kn (fun k => if k = (m : Nat) then v else W k) kG fG kF fF K := by
  obtain ⟨n1, n2, n3, n4, n5, n6, n7, n8⟩ := R.ne
  have ke : rowN (fun i => if i = m then [AV.int .i64 (v : Nat)] else wrC W i) (slL b.Slots).length = rowN (wrC (fun k => if k = (m : Nat) then v else W k)) (slL b.Slots).length := rowN_congr fun k _ => by
    by_cases e : k = m
    · subst e; simp [wrC]
    · rw [if_neg e]
      have : ¬ ((k : Int) = (m : Nat)) := by omega
      simp [wrC, this]
  rw [ke]
  exact ⟨by rw [put_old n1]; exact R.obj, put_new _ _ _, MapAt.putO R.mg n4.symm, MapAt.putO R.mf n5.symm, by rw [put_old n6.symm]; exact R.kv, R.gf, R.lr, R.lw, R.lg, R.lf, R.lk⟩
theorem RdAt.cw (R : RdAt h rid b L w g f kn W kG fG kF fF K) {W2 : Int → Nat} {fG2 : Int → Nat} {fF2 : Int × Int → Nat} (hw : ∀ k : Nat, W2 k = W k) (hg : fG2 = fG) (hf : fF2 = fF) : RdAt h rid b L w g f kn W2 kG fG2 kF fF2 K := by
  subst hg hf
  exact { R with wr := by rw [R.wr]; congr 2; exact rowN_congr fun k _ => by simp [wrC, hw k] }
theorem RdAt.wst (R : RdAt h rid b L w g f kn W kG fG kF fF K) {k : Nat} (hk : k < (slL b.Slots).length) (v : Nat) (J : z04 → Prop) : z0y 1 (.ptr w k) (.int .i64 (v : Int)) h J = J (h.put w (.row 3 (rowN (fun i => if i = k then [.int .i64 (v : Nat)] else wrC W i) (slL b.Slots).length))) := by
  have := rowN_store1 (wrC_len W) R.wr hk (j := 0) (by omega) (x := .int .i64 (v : Nat)) rfl J
  rw [Nat.mul_one, Nat.add_zero] at this
  rw [this]
  rfl
theorem RdAt.putG (R : RdAt h rid b L w g f kn W kG fG kF fF K) {kG2 : List Int} {fG2 : Int → Nat} (M : MapAt (h.put g (mapO encIk kG2 fG2)) g encIk kG2 fG2) : RdAt (h.put g (mapO encIk kG2 fG2)) rid b L w g f kn W kG2 fG2 kF fF K := by
  obtain ⟨n1, n2, n3, n4, n5, n6, n7, n8⟩ := R.ne
  exact ⟨by rw [put_old n2]; exact R.obj, by rw [put_old n4]; exact R.wr, M, MapAt.putO R.mf (Ne.symm R.gf), by rw [put_old n7.symm]; exact R.kv, R.gf, R.lr, R.lw, R.lg, R.lf, R.lk⟩
theorem RdAt.putF (R : RdAt h rid b L w g f kn W kG fG kF fF K) {kF2 : List (Int × Int)} {fF2 : Int × Int → Nat} (M : MapAt (h.put f (mapO encPk kF2 fF2)) f encPk kF2 fF2) : RdAt (h.put f (mapO encPk kF2 fF2)) rid b L w g f kn W kG fG kF2 fF2 K := by
  obtain ⟨n1, n2, n3, n4, n5, n6, n7, n8⟩ := R.ne
  exact ⟨by rw [put_old n3]; exact R.obj, by rw [put_old n5]; exact R.wr, MapAt.putO R.mg R.gf, M, by rw [put_old n8.symm]; exact R.kv, R.gf, R.lr, R.lw, R.lg, R.lf, R.lk⟩
def OwnR (rid w g f kn : Nat) : Nat → Prop := fun i => i = rid ∨ i = w ∨ i = g ∨ i = f ∨ i = kn
theorem read_5 {c : Cd} (hn : (slL b.Slots).length ≤ 100) (hL : L.length ≤ 1000) (wf : ∀ x ∈ L, Wf c b x) (R0 : RdAt h rid b L w g f kn (fun _ => 0) [] (fun _ => 0) [] (fun _ => 0) K) (Q : z1j → Fr → z04 → Prop)
    (hQ : ∀ hh kG kF, RdAt hh rid b L w g f kn (wrW L) kG (cntG L) kF (cntF L) K → Keeps h hh (OwnR rid w g f kn) → Q (.exit 0) (frOf [(7, .ptr rid 0)]) hh) :
    WP Try.prog 94 (.loop z14) (frOf [(7, .ptr rid 0), (46, slAV 8 z0b.cells (some L)), (47, .int .i64 L.length), (48, .int .i64 0)]) h Q := by
  obtain ⟨I, hI⟩ : ∃ I : Nat → Fr → z04 → Prop, I = (fun m fr hh => ∃ (j : Nat) (kG : List Int) (kF : List (Int × Int)), m = L.length - j ∧ j ≤ L.length ∧ RdAt hh rid b L w g f kn (wrW (L.take j)) kG (cntG (L.take j)) kF (cntF (L.take j)) K ∧ Keeps h hh (OwnR rid w g f kn) ∧ fr = frOf [(7, .ptr rid 0), (46, slAV 8 z0b.cells (some L)), (47, .int .i64 L.length), (48, .int .i64 j)]) := ⟨_, rfl⟩
  refine z1u z0v (by kernel_rfl) I L.length (by rw [hI]; exact ⟨0, [], [], rfl, Nat.zero_le _, R0, .refl _ _, rfl⟩) ?_
  intro m fr hh hi
  rw [hI] at hi
  obtain ⟨j, kG, kF, rfl, hj, R, kp0, rfl⟩ := hi
  apply path_read_loop5
  (repeat simp -dsimp -implicitDefEqProofs (disch := omega) only [↓rP, rQ, rO, rL, ↓reduceIte, Nat.reduceEqDiff, Nat.reduceAdd, Nat.reduceLeDiff, z01, z05, ↓tyr])
  refine z0i (fun hjl => ?_) (fun hjl => ?_)
  · obtain ⟨x, hx⟩ : ∃ x, L[j]? = some x := ⟨_, List.getElem?_eq_getElem (by omega)⟩
    have hxL : x ∈ L := List.mem_of_getElem? hx
    have wx := wf x hxL
    have hx' : (slL (some L))[j]? = some x := hx
    have tk : L.take (j + 1) = L.take j ++ [x] := by rw [List.take_add_one, hx]; rfl
    have tl : (L.take j).length = j := by rw [List.length_take]; omega
    (repeat simp -dsimp -implicitDefEqProofs (disch := omega) only [↓rP, rQ, rO, rL, ↓reduceIte, Nat.reduceEqDiff, Nat.reduceAdd, Nat.reduceLeDiff, z01, z05, ↓tyr, z0d hx'])
    refine z03.go (code_Writes_does x _) ?_
    have ed : (if x.Op = 1 ∨ x.Op = 2 ∨ x.Op = 3 ∨ x.Op = 4 ∨ x.Op = 8 ∨ x.Op = 9 ∨ x.Op = 10 then x.Dst else -1) = dstI x := rfl
    rw [ed]
    obtain ⟨H, hH⟩ : ∃ H, H = hh.push (.row 45 x.cells) := ⟨_, rfl⟩
    have kp : Keeps hh H (fun _ => False) := by rw [hH]; exact Keeps.one _ _
    have R1 := R.keep kp
    have kpH : Keeps h H (OwnR rid w g f kn) := kp0.trans kp (fun _ _ e => e.elim)
    have ob : H.objs hh.next = some (.row 45 x.cells) := by rw [hH]; exact z2h _ _
    rw [← hH]
    have f0 : ∀ {G : z04} (hG : G.objs hh.next = some (.row 45 x.cells)) (J : AV → Prop), z02 none (.ptr hh.next 0) G J = J (.int .i64 x.Op) := fun hG J => by rw [z0o hG]; rfl
    have f3 : ∀ J : AV → Prop, z02 none (.ptr hh.next 3) H J = J (.int .i64 x.Rec) := fun J => by rw [z0o ob]; rfl
    have f4 : ∀ J : AV → Prop, z02 none (.ptr hh.next 4) H J = J (.int .i64 x.N) := fun J => by rw [z0o ob]; rfl
    by_cases hd : 0 ≤ dstI x
    · have hop : x.Op = 1 ∨ x.Op = 2 ∨ x.Op = 3 ∨ x.Op = 4 ∨ x.Op = 8 ∨ x.Op = 9 ∨ x.Op = 10 := Classical.byContradiction fun hn => by unfold dstI at hd; rw [if_neg hn] at hd; omega
      obtain ⟨d, ed2, hdl⟩ : ∃ d : Nat, dstI x = d ∧ d < (slL b.Slots).length := by
        unfold dstI; rw [if_pos hop]; exact btw_nat (wx.dst hop)
      rw [ed2]
      have eg : decide ((0 : Int) ≤ (d : Int)) = true := by simp
      have e5 : (x.Op == 5) = false := by simp; omega
      have e6 : (x.Op == 6) = false := by simp; omega
      have hwl := wrW_le (L.take j) (d : Nat)
      obtain ⟨G, hG⟩ : ∃ G, G = H.put w (.row 3 (rowN (fun i => if i = d then [.int .i64 ((wrW (L.take j) (d : Nat) + 1 : Nat) : Int)] else wrC (wrW (L.take j)) i) (slL b.Slots).length)) := ⟨_, rfl⟩
      have hne : hh.next ≠ w := by have := R.lw; omega
      have obG : G.objs hh.next = some (.row 45 x.cells) := by rw [hG, put_old hne]; exact ob
      have st : ∀ J : z04 → Prop, z0y 1 (.ptr w d) (.int .i64 ((wrW (L.take j) (d : Nat) + 1 : Nat) : Int)) H J = J G := fun J => by rw [hG]; exact R1.wst hdl _ J
      (repeat simp -dsimp -implicitDefEqProofs (disch := omega) only [↓rP, rQ, rO, rL, ↓reduceIte, Nat.reduceEqDiff, Nat.reduceAdd, Nat.reduceLeDiff, z01, z05, ↓tyr, eg, R1.l4, ix_w .i64 hdl, R1.wrt hdl, wkP (wrW (L.take j) (d : Nat)) (by omega), ↓st, f0 obG, e5, e6, wkP j (by omega)])
      rw [z0a, hI]
      refine ⟨_, by omega, j + 1, kG, kF, rfl, by omega, ?_, ?_, rfl⟩
      · have := R1.putW d (wrW (L.take j) (d : Nat) + 1)
        rw [← hG] at this
        refine this.cw (fun k => ?_) (funext fun n => ?_) (funext fun p => ?_)
        · rw [tk, wrW_snoc, ed2]
          by_cases e : (k : Int) = (d : Nat)
          · rw [if_pos e.symm, if_pos e, e]
          · rw [if_neg (fun h => e h.symm), if_neg e, Nat.add_zero]
        · rw [tk, cntG_snoc, if_neg (by omega)]
        · rw [tk, cntF_snoc, if_neg (fun h => by omega)]
      · rw [hG]
        exact kpH.putS (Or.inr (Or.inl rfl)) _
    · have eg : decide ((0 : Int) ≤ dstI x) = false := decide_eq_false hd
      have hW : ∀ k : Nat, wrW (L.take (j + 1)) k = wrW (L.take j) k := fun k => by rw [tk, wrW_snoc, if_neg (by omega), Nat.add_zero]
      by_cases h5 : x.Op = 5
      · have e5 : (x.Op == 5) = true := by simpa using h5
        have hcl := cntG_le (L.take j) x.N
        have lk : ∀ J : AV → Prop, z3m (some (KeyK.int, .int .i64 0)) (.mapv g) (.int .i64 x.N) H J = J (.int .i64 (cntG (L.take j) x.N : Nat)) := fun J => R1.mg.lookup keyOk_int x.N J
        have st : ∀ J : z04 → Prop, pMapSetO (some (KeyK.int, .int .i64 0)) (.mapv g) (.int .i64 x.N) (.int .i64 ((cntG (L.take j) x.N + 1 : Nat) : Int)) H J = J (H.put g (mapO encIk (addK kG x.N) (updF (cntG (L.take j)) x.N (cntG (L.take j) x.N + 1)))) := fun J => R1.mg.set keyOk_int _ x.N _ J
        (repeat simp -dsimp -implicitDefEqProofs (disch := omega) only [↓rP, rQ, rO, rL, ↓reduceIte, Nat.reduceEqDiff, Nat.reduceAdd, Nat.reduceLeDiff, z01, z05, ↓tyr, eg, f0 ob, e5, R1.l5, f4, ↓lk, wkP (cntG (L.take j) x.N) (by omega), ↓st, wkP j (by omega)])
        rw [z0a, hI]
        refine ⟨_, by omega, j + 1, _, kF, rfl, by omega, (R1.putG (R1.mg.upd x.N (cntG (L.take j) x.N + 1))).cw hW (funext fun n => ?_) (funext fun p => ?_), kpH.putS (Or.inr (Or.inr (Or.inl rfl))) _, rfl⟩
        · rw [tk, cntG_snoc]
          unfold updF
          by_cases e : n = x.N
          · subst e; rw [if_pos ⟨h5, rfl⟩, if_pos rfl]
          · rw [if_neg (fun h => e h.2.symm), if_neg e]
        · rw [tk, cntF_snoc, if_neg (fun h => by omega)]
      · have e5 : (x.Op == 5) = false := by simpa using h5
        by_cases h6 : x.Op = 6
        · have e6 : (x.Op == 6) = true := by simpa using h6
          have hcl := cntF_le (L.take j) (x.Rec, x.N)
          have bp : ∀ J : AV → Prop, z01 [(0, 1), (1, 1)] [AV.int .i64 0, AV.int .i64 0] [(0, .int .i64 x.Rec), (1, .int .i64 x.N)] J = J (.agg [.int .i64 x.Rec, .int .i64 x.N]) := fun J => rfl
          have lk : ∀ J : AV → Prop, z3m (some (KeyK.flat [LK.int, LK.int], .int .i64 0)) (.mapv f) (.agg [.int .i64 x.Rec, .int .i64 x.N]) H J = J (.int .i64 (cntF (L.take j) (x.Rec, x.N) : Nat)) := fun J => R1.mf.lookup keyOk_pair (x.Rec, x.N) J
          obtain ⟨G, hG⟩ : ∃ G, G = H.put f (mapO encPk (addK kF (x.Rec, x.N)) (cntF (L.take j))) := ⟨_, rfl⟩
          have MG : MapAt G f encPk (addK kF (x.Rec, x.N)) (cntF (L.take j)) := by rw [hG]; exact R1.mf.ent (x.Rec, x.N)
          have en : ∀ J : AV → z04 → Prop, pMapEntryO (some (KeyK.flat [LK.int, LK.int], .int .i64 0)) (.mapv f) (.agg [.int .i64 x.Rec, .int .i64 x.N]) H J = J (.tup [.int .i64 (cntF (L.take j) (x.Rec, x.N) : Nat), .int .i64 (idxK (addK kF (x.Rec, x.N)) (x.Rec, x.N) : Nat)]) G := fun J => by rw [hG]; exact R1.mf.entry keyOk_pair (x.Rec, x.N) J
          have lkG : ∀ J : AV → Prop, z3m (some (KeyK.flat [LK.int, LK.int], .int .i64 0)) (.mapv f) (.agg [.int .i64 x.Rec, .int .i64 x.N]) G J = J (.int .i64 (cntF (L.take j) (x.Rec, x.N) : Nat)) := fun J => MG.lookup keyOk_pair (x.Rec, x.N) J
          obtain ⟨G2, hG2⟩ : ∃ G2, G2 = G.put f (mapO encPk (addK kF (x.Rec, x.N)) (updF (cntF (L.take j)) (x.Rec, x.N) (cntF (L.take j) (x.Rec, x.N) + 1))) := ⟨_, rfl⟩
          have st : ∀ J : z04 → Prop, z3s (.mapv f) (.int .i64 (idxK (addK kF (x.Rec, x.N)) (x.Rec, x.N) : Nat)) (.int .i64 ((cntF (L.take j) (x.Rec, x.N) + 1 : Nat) : Int)) G J = J G2 := fun J => by rw [hG2]; exact MG.store (addK_mem _ _) _ J
          have ex : ∀ (a b : AV) (J : AV → Prop), z2s 1 (.tup [a, b]) J = J b := fun a b J => rfl
          have eG2 : G2 = H.put f (mapO encPk (addK kF (x.Rec, x.N)) (updF (cntF (L.take j)) (x.Rec, x.N) (cntF (L.take j) (x.Rec, x.N) + 1))) := by rw [hG2, hG, put_put]
          have fin : I (L.length - (j + 1)) (frOf [(7, .ptr rid 0), (46, slAV 8 z0b.cells (some L)), (47, .int .i64 L.length), (48, .int .i64 ((j + 1 : Nat) : Int))]) G2 := by
            rw [hI]
            refine ⟨j + 1, kG, addK kF (x.Rec, x.N), rfl, by omega, ?_, by rw [eG2]; exact kpH.putS (Or.inr (Or.inr (Or.inr (Or.inl rfl)))) _, rfl⟩
            rw [eG2]
            refine (R1.putF (R1.mf.upd (x.Rec, x.N) (cntF (L.take j) (x.Rec, x.N) + 1))).cw hW (funext fun n => ?_) (funext fun p => ?_)
            · rw [tk, cntG_snoc, if_neg (fun h => h5 h.1)]
            · rw [tk, cntF_snoc]
              unfold updF
              by_cases e : p = (x.Rec, x.N)
              · subst e; rw [if_pos ⟨h6, rfl⟩, if_pos rfl]
              · rw [if_neg (fun h => e h.2.symm), if_neg e]
          (repeat simp -dsimp -implicitDefEqProofs (disch := omega) only [↓rP, rQ, rO, rL, ↓reduceIte, Nat.reduceEqDiff, Nat.reduceAdd, Nat.reduceLeDiff, z01, z05, ↓tyr, eg, f0 ob, e5, e6, R1.l6, f3, f4, ↓bp, ↓lk, ↓lkG, ↓en, ↓ex, wkP (cntF (L.take j) (x.Rec, x.N)) (by omega), ↓st, wkP j (by omega)])
          rw [z0a]
          exact ⟨⟨_, by omega, fin⟩, _, by omega, fin⟩
        · have e6 : (x.Op == 6) = false := by simpa using h6
          (repeat simp -dsimp -implicitDefEqProofs (disch := omega) only [↓rP, rQ, rO, rL, ↓reduceIte, Nat.reduceEqDiff, Nat.reduceAdd, Nat.reduceLeDiff, z01, z05, ↓tyr, eg, f0 ob, e5, e6, wkP j (by omega)])
          rw [z0a, hI]
          refine ⟨_, by omega, j + 1, kG, kF, rfl, by omega, R1.cw hW (funext fun n => ?_) (funext fun p => ?_), kpH, rfl⟩
          · rw [tk, cntG_snoc, if_neg (fun h => h5 h.1)]
          · rw [tk, cntF_snoc, if_neg (fun h => h6 h.1)]
  · (repeat simp -dsimp -implicitDefEqProofs (disch := omega) only [↓rP, rQ, rO, rL, ↓reduceIte, Nat.reduceEqDiff, Nat.reduceAdd, Nat.reduceLeDiff, z01, z05, ↓tyr])
    have e : j = L.length := by omega
    subst e
    rw [List.take_length] at R
    exact hQ hh kG kF R kp0
end
end Go.Proofs.Ytnggcokgnblpgaa
end

section
/- What is known of slots: the reader is made. -/
set_option maxRecDepth 8000
set_option maxHeartbeats 1000000
namespace Go.Proofs.Ytnggcokgnblpgaa
open Go.Abs
structure SecAt (c : Cd) (sec : z0e) (t : Nat) (b : Bd) (fr to : Nat) : Prop where
  thr : sec.Thread = t
  bd : (slL c.Threads)[t]? = some b
  frm : sec.From = fr
  to_ : sec.To = to
  lt : fr < to
  le : to < (slL b.Code).length
theorem sec_of {c : Cd} (h : okC c = true) {s : Nat} {sec : z0e} (hs : (slL c.Sections)[s]? = some sec) : ∃ t b fr to, SecAt c sec t b fr to := by
  obtain ⟨-, -, -, h4, -, -, -⟩ := okC_split h
  simp only [sectionsB, Bool.and_eq_true, decide_eq_true_eq] at h4
  have h5 := z2y.1 h4.2 s sec hs
  simp only [secB, endsB, z4c, Bool.and_eq_true, decide_eq_true_eq] at h5
  obtain ⟨⟨⟨⟨h0, hlt⟩, -⟩, hto⟩, -⟩ := h5
  cases hb : getI (slL c.Threads) sec.Thread with
  | none => rw [hb] at hto; simp at hto
  | some b =>
    rw [hb] at hto
    simp only at hto
    cases hx : getI (slL b.Code) sec.To with
    | none => rw [hx] at hto; simp at hto
    | some x =>
      obtain ⟨t, et, hb2⟩ := getI_nat hb
      have h6 := getI_btw hx
      exact ⟨t, b, sec.From.toNat, sec.To.toNat, et, hb2, by omega, by omega, by omega, by omega⟩
def secL (b : Bd) (fr to : Nat) : List In := ((slL b.Code).take (to + 1)).drop fr
theorem secL_mem {b : Bd} {fr to : Nat} {x : In} (h : x ∈ secL b fr to) : ∃ a : Nat, (slL b.Code)[a]? = some x := List.getElem?_of_mem (List.mem_of_mem_take (List.mem_of_mem_drop h))
theorem secL_len (b : Bd) (fr to : Nat) : (secL b fr to).length ≤ (slL b.Code).length := by
  unfold secL; rw [List.length_drop, List.length_take]; omega
theorem sec_wf {c : Cd} (wc : WfC c) {sec : z0e} {t fr to : Nat} {b : Bd} (S : SecAt c sec t b fr to) : ∀ x ∈ secL b fr to, Wf c b x := fun x hx => by
  obtain ⟨a, ha⟩ := secL_mem hx
  exact wc.ins t a b x S.bd ha
theorem sec_among {c : Cd} {b : Bd} {L : List In} (wf : ∀ x ∈ L, Wf c b x) : Among L (slL b.Slots).length := fun x hx => by
  unfold dstI
  split
  · rename_i hop
    right
    obtain ⟨k, e, hk⟩ := btw_nat ((wf x hx).dst hop)
    exact ⟨k, e, hk⟩
  · exact Or.inl rfl
def oW (n : Nat) : AObj := .row 3 (rowN (wrC fun _ => 0) n)
def oK (n : Nat) : AObj := .row 41 (rowN (knC fun _ => vUnk) n)
theorem mk_rep (f : Nat → List AV) (z : List AV) (hf : ∀ k, f k = z) (n : Nat) : repC n z = rowN f n := by
  rw [repC_eq]
  unfold rowN
  congr 1
  apply List.ext_getElem?
  intro i
  rw [List.getElem?_replicate, List.getElem?_map]
  by_cases hi : i < n
  · rw [if_pos hi, List.getElem?_range hi]; simp [hf]
  · rw [if_neg hi, List.getElem?_eq_none (by simp; omega)]; rfl
theorem mkW {n : Nat} (hn : n ≤ 1000) (H : z04) (K : AV → z04 → Prop) : z1r { e := 3, sz := 1, by_ := 8 } [.int .i64 0] (.int .i64 (n : Int)) (.int .i64 (n : Int)) H K = K (.sl H.next 0 n 1) (H.push (oW n)) := by
  have e : repC n [AV.int .i64 0] = rowN (wrC fun _ => 0) n := mk_rep _ _ (fun _ => rfl) n
  simp only [z1r, Int.toNat_natCast, e]
  apply propext
  constructor
  · rintro ⟨-, -, -, -, -, hk⟩; exact hk
  · intro hk; exact ⟨by omega, by omega, by omega, by omega, rfl, hk⟩
theorem mkK {n : Nat} (hn : n ≤ 1000) (H : z04) (K : AV → z04 → Prop) : z1r { e := 41, sz := 4, by_ := 48 } [.int .i64 0, .bool false, .int .i64 0, .nils] (.int .i64 (n : Int)) (.int .i64 (n : Int)) H K = K (.sl H.next 0 n 4) (H.push (oK n)) := by
  have e : repC n [AV.int .i64 0, .bool false, .int .i64 0, .nils] = rowN (knC fun _ => vUnk) n := mk_rep _ _ (fun _ => rfl) n
  simp only [z1r, Int.toNat_natCast, e]
  apply propext
  constructor
  · rintro ⟨-, -, -, -, -, hk⟩; exact hk
  · intro hk; exact ⟨by omega, by omega, by omega, by omega, rfl, hk⟩
theorem mkM (H : z04) (K : AV → z04 → Prop) : z1i H K = K (.mapv H.next) (H.push (.map [] [])) := rfl
theorem mkR0 {h : z04} {rid w g f kn : Nat} {b : Bd} {L : List In} (h1 : h.objs rid = some (.row 59 (readC b L w g f kn (slL b.Slots).length))) (h2 : h.objs w = some (oW (slL b.Slots).length)) (h3 : h.objs g = some (.map [] [])) (h4 : h.objs f = some (.map [] [])) (h5 : h.objs kn = some (oK (slL b.Slots).length)) (gf : g ≠ f) (l1 : rid < h.next) (l2 : w < h.next) (l3 : g < h.next) (l4 : f < h.next) (l5 : kn < h.next) :
    RdAt h rid b L w g f kn (fun _ => 0) [] (fun _ => 0) [] (fun _ => 0) (fun _ => vUnk) := ⟨h1, h2, ⟨h3, by simp, fun _ _ => rfl⟩, ⟨h4, by simp, fun _ _ => rfl⟩, h5, gf, l1, l2, l3, l4, l5⟩
theorem sl_slAV (l : List In) (fr to : Nat) : slAV 8 z0b.cells (some ((l.take to).drop fr)) = .isl 8 (((l.map z0b.cells).take to).drop fr) := by simp [slAV, List.map_take, List.map_drop]
def ReadQ (h : z04) (b : Bd) (L : List In) (v : AV) (h2 : z04) : Prop := ∃ rid w g f kn kG kF, v = .ptr rid 0 ∧ RdAt h2 rid b L w g f kn (wrW L) kG (cntG L) kF (cntF L) (fun _ => vUnk) ∧ Keeps h h2 (fun _ => False) ∧ h.next ≤ kn
theorem read_does {c : Cd} (wc : WfC c) {s : Nat} {sec : z0e} (hs : (slL c.Sections)[s]? = some sec) {t fr to : Nat} {b : Bd} (S : SecAt c sec t b fr to) (h : z04) :
    z03 Try.prog 19 [.agg c.cells, .int .i64 (s : Nat)] h (fun v h2 => ReadQ h b (secL b fr to) v h2) := by
  have hsl := wc.slo t b S.bd
  have wf := sec_wf wc S
  have hL := secL_len b fr to
  have hlt := S.lt
  have hle := S.le
  obtain ⟨B, hB⟩ : ∃ B, B = (h.push (.row 51 sec.cells)).push (.row 49 b.cells) := ⟨_, rfl⟩
  have nB : B.next = h.next + 2 := by rw [hB]; rfl
  have kB : Keeps h B (fun _ => False) := by rw [hB]; exact (Keeps.one _ _).pushS _
  have o1 : B.objs h.next = some (.row 51 sec.cells) := by rw [hB, push_old (by simp), z2h]
  have o2 : B.objs (h.next + 1) = some (.row 49 b.cells) := by rw [hB]; exact z2h (h.push (.row 51 sec.cells)) _
  apply path_read_wp
  (repeat simp -dsimp -implicitDefEqProofs (disch := omega) only [↓rP, rQ, rO, rL, ↓reduceIte, Nat.reduceEqDiff, Nat.reduceAdd, Nat.reduceLeDiff, z01, z05, ↓tyr, z0d hs, S.thr, z0d S.bd])
  rw [← hB]
  have s1 : ∀ {H : z04} (k : Keeps B H (fun _ => False)) (J : AV → Prop), z02 none (.ptr h.next 1) H J = J (.int .i64 fr) := fun k J => by rw [z0o (by rw [k.objs _ (by omega) (by simp)]; exact o1), ← S.frm]; rfl
  have s2 : ∀ {H : z04} (k : Keeps B H (fun _ => False)) (J : AV → Prop), z02 none (.ptr h.next 2) H J = J (.int .i64 to) := fun k J => by rw [z0o (by rw [k.objs _ (by omega) (by simp)]; exact o1), ← S.to_]; rfl
  have b0 : ∀ {H : z04} (k : Keeps B H (fun _ => False)) (J : AV → Prop), z02 none (.ptr (h.next + 1) 0) H J = J (slAV 3 z0f.cells b.Slots) := fun k J => by rw [z0o (by rw [k.objs _ (by omega) (by simp)]; exact o2)]; rfl
  have b1 : ∀ {H : z04} (k : Keeps B H (fun _ => False)) (J : AV → Prop), z02 none (.ptr (h.next + 1) 1) H J = J (slAV 8 z0b.cells b.Code) := fun k J => by rw [z0o (by rw [k.objs _ (by omega) (by simp)]; exact o2)]; rfl
  have b3 : ∀ {H : z04} (k : Keeps B H (fun _ => False)) (J : AV → Prop), z02 (some 3) (.ptr (h.next + 1) 0) H J = J (.agg b.cells) := fun k J => by rw [z0o (by rw [k.objs _ (by omega) (by simp)]; exact o2)]; exact z0z.call b J
  have kr := Keeps.refl B (fun _ => False)
  have slc : ∀ J : AV → Prop, z3y 8 (slAV 8 z0b.cells b.Code) (some (.int .i64 (fr : Nat))) (some (.int .i64 ((to + 1 : Nat) : Int))) J = J (slAV 8 z0b.cells (some (secL b fr to))) := fun J => by
    obtain ⟨l, el⟩ : ∃ l, b.Code = some l := by
      cases hc : b.Code with
      | none => rw [hc] at hle; simp at hle
      | some l => exact ⟨l, rfl⟩
    have e1 : slAV 8 z0b.cells (some (secL b fr to)) = .isl 8 (((l.map z0b.cells).take (to + 1)).drop fr) := by unfold secL; rw [el]; exact sl_slAV l fr (to + 1)
    rw [e1, el]
    rw [el] at hle
    simp only [slL_some] at hle
    simp only [z3y, slAV, bnd, Int.toNat_natCast, List.length_map]
    apply propext
    constructor
    · rintro ⟨-, -, -, -, hk⟩; exact hk
    · intro hk; exact ⟨trivial, by omega, by omega, by omega, hk⟩
  (repeat simp -dsimp -implicitDefEqProofs (disch := omega) only [↓rP, rQ, rO, rL, ↓reduceIte, Nat.reduceEqDiff, Nat.reduceAdd, Nat.reduceLeDiff, z01, z05, ↓tyr, s1 kr, s2 kr, wkP to (by omega), ↓slc])
  have nx : (h.push (.row 51 sec.cells)).next = h.next + 1 := rfl
  rw [nx]
  obtain ⟨n, en⟩ : ∃ n, n = (slL b.Slots).length := ⟨_, rfl⟩
  have hn : n ≤ 1000 := by omega
  obtain ⟨L, eL⟩ : ∃ L, L = secL b fr to := ⟨_, rfl⟩
  have bd : ∀ (w g f kn : Nat) (J : AV → Prop), z01 [(0, 3), (3, 1), (4, 1), (5, 1), (6, 1), (7, 1)] [AV.nils, AV.nils, AV.int .i64 0, AV.nils, AV.nils, AV.nilm, AV.nilm, AV.nils] [(0, .agg b.cells), (1, slAV 8 z0b.cells (some L)), (2, .sl w 0 n 1), (3, .mapv g), (4, .mapv f), (5, .sl kn 0 n 4)] J = J (.agg (readC b L w g f kn n)) := fun w g f kn J => by
    have e : slAV 8 z0b.cells (some L) = .isl 8 (L.map z0b.cells) := rfl
    unfold readC
    rw [e]
    simp [z01, z05, AV.fits, AV.cells, z0z.cells]
  have bx : ∀ (w g f kn : Nat) (H : z04) (J : AV → z04 → Prop), pBox false 59 (.agg (readC b L w g f kn n)) H J = J (.ptr H.next 0) (H.push (.row 59 (readC b L w g f kn n))) := fun w g f kn H J => by
    simp [pBox, AV.fits, AV.cells, readC]
  have l3 : ∀ (w g f kn : Nat) (H : z04) (J : AV → Prop), z02 none (.ptr H.next 3) (H.push (.row 59 (readC b L w g f kn n))) J = J (slAV 8 z0b.cells (some L)) := fun w g f kn H J => by
    rw [z0o (z2h _ _)]; rfl
  have lL : ∀ (J : AV → Prop), pLen .slice (slAV 8 z0b.cells (some L)) J = J (.int .i64 L.length) := fun J => by simp
  rw [← eL]
  rw [← eL] at hL wf
  simp -dsimp -implicitDefEqProofs (disch := first | omega | (repeat (first | exact Keeps.refl _ _ | refine Keeps.pushS ?_ _))) only [↓rP, rQ, rO, rL, ↓reduceIte, Nat.reduceEqDiff, Nat.reduceAdd, Nat.reduceLeDiff, ↓tyr, s1, s2, b0, b1, b3, ← en, mkW hn, mkK hn, mkM, ↓bd, ↓bx, l3, ↓lL]
  have leaf : ∀ (X : z04) (w g f kn : Nat), Keeps B X (fun _ => False) → X.objs w = some (oW n) → X.objs g = some (.map [] []) → X.objs f = some (.map [] []) → X.objs kn = some (oK n) → g ≠ f → (B.next ≤ w ∧ w < X.next) → (B.next ≤ g ∧ g < X.next) → (B.next ≤ f ∧ f < X.next) → (B.next ≤ kn ∧ kn < X.next) →
      WP Try.prog 94 (.loop z14) (frOf [(7, .ptr X.next 0), (46, slAV 8 z0b.cells (some L)), (47, .int .i64 L.length), (48, .int .i64 0)]) (X.push (.row 59 (readC b L w g f kn n))) (z1q (later (fun fr68 h69 => False) ()) (later (fun x70 fr71 h72 => pIdx x70 0 (pIdx 0 0 (ReadQ h b L (fr71 7) h72) False) False) ()) (later (fun fr73 h74 => ReadQ h b L (fr73 4) h74) ())) := by
    intro X w g f kn kX ow og of_ ok gf lw lg lf lk
    subst en
    refine read_5 (rid := X.next) (w := w) (g := g) (f := f) (kn := kn) (K := fun _ => vUnk) (by omega) (by omega) wf (mkR0 (z2h _ _) (by rw [push_old lw.2]; exact ow) (by rw [push_old lg.2]; exact og) (by rw [push_old lf.2]; exact of_) (by rw [push_old lk.2]; exact ok) gf (by simp) (by simp; omega) (by simp; omega) (by simp; omega) (by simp; omega)) _ ?_
    intro hh kG kF R kp
    have k1 := (kB.go kX).pushS (.row 59 (readC b L w g f kn (slL b.Slots).length))
    have hX := kX.next
    (repeat simp -dsimp -implicitDefEqProofs (disch := omega) only [↓rP, rQ, rO, rL, ↓reduceIte, Nat.reduceEqDiff, Nat.reduceAdd, Nat.reduceLeDiff, z01, z05, ↓tyr])
    refine ⟨X.next, w, g, f, kn, kG, kF, rfl, R, ⟨Nat.le_trans k1.next kp.next, fun i hi hs => ?_⟩, by omega⟩
    rw [kp.objs i (Nat.lt_of_lt_of_le hi k1.next) (by rintro (e | e | e | e | e) <;> omega)]
    exact k1.objs i hi hs
  repeat' (first | refine And.intro ?_ ?_ | exact leaf _ _ _ _ _ (by repeat (first | exact Keeps.refl _ _ | refine Keeps.pushS ?_ _)) (by simp only [z04.z4u, z04.z4t]; repeat (first | rfl | rw [if_pos (by omega)] | rw [if_neg (by omega)])) (by simp only [z04.z4u, z04.z4t]; repeat (first | rfl | rw [if_pos (by omega)] | rw [if_neg (by omega)])) (by simp only [z04.z4u, z04.z4t]; repeat (first | rfl | rw [if_pos (by omega)] | rw [if_neg (by omega)])) (by simp only [z04.z4u, z04.z4t]; repeat (first | rfl | rw [if_pos (by omega)] | rw [if_neg (by omega)])) (by simp only [z04.z4t]; omega) (by simp only [z04.z4t]; omega) (by simp only [z04.z4t]; omega) (by simp only [z04.z4t]; omega) (by simp only [z04.z4t]; omega))
end Go.Proofs.Ytnggcokgnblpgaa
end

section
/- What is known of slots: the program's answer. -/
set_option maxRecDepth 8000
set_option maxHeartbeats 1000000
namespace Go.Proofs.Ytnggcokgnblpgaa
open Go.Abs
theorem ids_vls (D : Nat → Prop) (o : Option (List Vl)) : z2v D (slAV 4 z0l.cells o) := by
  cases o with
  | none => exact trivial
  | some l =>
    show idsInE D (l.map z0l.cells)
    induction l with
    | nil => exact trivial
    | cons a l ih => exact ⟨⟨trivial, trivial, trivial, ids_ints _ _, trivial⟩, ih⟩
def pathL (b : Bd) (L : List In) : List Vl := (List.range (slL b.Slots).length).map fun k => ofV L (onB b) (slL b.Slots).length (k : Nat)
noncomputable def pathO (c : Cd) (s : Int) : Option (List Vl) := if okC c = true then (match getI (slL c.Sections) s with | some sec => (match getI (slL c.Threads) sec.Thread with | some b => some (pathL b (secL b sec.From.toNat sec.To.toNat)) | none => none) | none => none) else none
theorem pathO_some {c : Cd} (h : okC c = true) {s : Nat} {sec : z0e} (hs : (slL c.Sections)[s]? = some sec) {t fr to : Nat} {b : Bd} (S : SecAt c sec t b fr to) : pathO c (s : Nat) = some (pathL b (secL b fr to)) := by
  unfold pathO
  rw [if_pos h, z4g, hs]
  simp only
  rw [S.thr, z4g, S.bd, S.frm, S.to_]
  rfl
section
variable {h : z04} {rid w g f kn : Nat} {b : Bd} {L : List In} {W : Int → Nat} {kG : List Int} {fG : Int → Nat} {kF : List (Int × Int)} {fF : Int × Int → Nat} {K : Int → Vl}
theorem round_does {c : Cd} (hn : (slL b.Slots).length ≤ 100) (hL : L.length ≤ 1000) (wf : ∀ x ∈ L, Wf c b x) (R : RdAt h rid b L w g f kn (wrW L) kG (cntG L) kF (cntF L) K) (s0 : Snd L (onB b) K) (f0 : FL K) :
    z03 Try.prog 20 [.ptr rid 0] h (fun v h2 => ∃ K2 more, v = .bool more ∧ RR h h2 rid b L w g f kn kG kF K K2 more L.length) := by
  apply path_reader_round_wp
  have lL : ∀ (J : AV → Prop), pLen .slice (slAV 8 z0b.cells (some L)) J = J (.int .i64 L.length) := fun J => by simp
  (repeat simp -dsimp -implicitDefEqProofs (disch := omega) only [↓rP, rQ, rO, rL, ↓reduceIte, Nat.reduceEqDiff, Nat.reduceAdd, Nat.reduceLeDiff, z01, z05, ↓tyr, R.l3, ↓lL])
  refine round_3 hn hL wf K R s0 f0 _ ?_
  intro hh K2 more r
  (repeat simp -dsimp -implicitDefEqProofs (disch := omega) only [↓rP, rQ, rO, rL, ↓reduceIte, Nat.reduceEqDiff, Nat.reduceAdd, Nat.reduceLeDiff, z01, z05, ↓tyr])
  exact ⟨K2, more, rfl, r⟩
theorem RdAt.ck (R : RdAt h rid b L w g f kn W kG fG kF fF K) {K2 : Int → Vl} (hk : ∀ k : Nat, k < (slL b.Slots).length → K2 k = K k) : RdAt h rid b L w g f kn W kG fG kF fF K2 :=
  { R with kv := by rw [R.kv]; congr 2; exact rowN_congr fun k hk2 => by unfold knC; rw [hk k hk2] }
def uptoV (L : List In) (j : Nat) : Int → Vl := fun k => if k < (j : Nat) then startV L k else vUnk
theorem upto_lt {L : List In} {j k : Nat} (h : k < j) : uptoV L j (k : Nat) = startV L (k : Nat) := by unfold uptoV; rw [if_pos (by omega)]
theorem upto_ge {L : List In} {j k : Nat} (h : j ≤ k) : uptoV L j (k : Nat) = vUnk := by unfold uptoV; rw [if_neg (by omega)]
theorem of_5 (hn : (slL b.Slots).length ≤ 100) (hL : L.length ≤ 1000) (R0 : RdAt h rid b L w g f kn (wrW L) kG (cntG L) kF (cntF L) (fun _ => vUnk)) (Q : z1j → Fr → z04 → Prop)
    (hQ : ∀ hh, RdAt hh rid b L w g f kn (wrW L) kG (cntG L) kF (cntF L) (startV L) → Keeps h hh (fun i => i = kn) → Q (.exit 0) (frOf [(5, .ptr rid 0)]) hh) :
    WP Try.prog 53 (.loop c_path_Of_5) (frOf [(5, .ptr rid 0), (28, .sl w 0 (slL b.Slots).length 1), (29, .int .i64 (slL b.Slots).length), (30, .int .i64 0)]) h Q := by
  obtain ⟨n, en⟩ : ∃ n, n = (slL b.Slots).length := ⟨_, rfl⟩
  obtain ⟨I, hI⟩ : ∃ I : Nat → Fr → z04 → Prop, I = (fun m fr hh => ∃ (j : Nat), m = n - j ∧ j ≤ n ∧ RdAt hh rid b L w g f kn (wrW L) kG (cntG L) kF (cntF L) (uptoV L j) ∧ Keeps h hh (fun i => i = kn) ∧ fr = frOf [(5, .ptr rid 0), (28, .sl w 0 n 1), (29, .int .i64 n), (30, .int .i64 j)]) := ⟨_, rfl⟩
  rw [← en]
  refine z1u z0v (by kernel_rfl) I n (by rw [hI]; exact ⟨0, rfl, Nat.zero_le _, R0.ck (fun k _ => upto_ge (by omega)), .refl _ _, rfl⟩) ?_
  intro m fr hh hi
  rw [hI] at hi
  obtain ⟨j, rfl, hj, R, kp, rfl⟩ := hi
  apply path_Of_loop5
  (repeat simp -dsimp -implicitDefEqProofs (disch := omega) only [↓rP, rQ, rO, rL, ↓reduceIte, Nat.reduceEqDiff, Nat.reduceAdd, Nat.reduceLeDiff, z01, z05, ↓tyr])
  refine z0i (fun hjl => ?_) (fun hjl => ?_)
  · have hjn : j < (slL b.Slots).length := by omega
    (repeat simp -dsimp -implicitDefEqProofs (disch := omega) only [↓rP, rQ, rO, rL, ↓reduceIte, Nat.reduceEqDiff, Nat.reduceAdd, Nat.reduceLeDiff, z01, z05, ↓tyr, ix_w .i64 (show j < n by omega), R.wrt hjn])
    cases hb : byS L (j : Nat) with
    | nil =>
      have e0 : (((wrW L (j : Nat) : Nat) : Int) == 0) = true := by simp [wrW, hb]
      have b1 : ∀ J : AV → Prop, z01 [(0, 1), (1, 1), (2, 1)] [AV.bool false, AV.int .i64 0, AV.nils] [(1, .int .i64 (j : Nat))] J = J (.agg [.bool false, .int .i64 (j : Nat), .nils]) := fun J => rfl
      have b2 : ∀ J : AV → Prop, z01 [(0, 1), (1, 3)] [AV.int .i64 0, AV.bool false, AV.int .i64 0, AV.nils] [(0, .int .i64 2), (1, .agg [.bool false, .int .i64 (j : Nat), .nils])] J = J (.agg (vWay false (j : Nat)).cells) := fun J => rfl
      have st : ∀ J : z04 → Prop, z0y 4 (.ptr kn (j * 4)) (.agg (vWay false (j : Nat)).cells) hh J = J (hh.put kn (.row 41 (rowN (fun i => if i = j then (vWay false (j : Nat)).cells else knC (uptoV L j) i) (slL b.Slots).length))) := fun J => rowN_store (knC_len _) R.kv hjn rfl J
      (repeat simp -dsimp -implicitDefEqProofs (disch := omega) only [↓rP, rQ, rO, rL, ↓reduceIte, Nat.reduceEqDiff, Nat.reduceAdd, Nat.reduceLeDiff, z01, z05, ↓tyr, e0, R.l7, ↓b1, ↓b2, ix_k .i64 hjn, ↓st, wkP j (by omega)])
      rw [z0a, hI]
      refine ⟨_, by omega, j + 1, rfl, by omega, (R.upd j (vWay false (j : Nat))).ck (fun k hk => ?_), kp.putS rfl _, rfl⟩
      unfold updV
      by_cases e : k = j
      · subst e; rw [upto_lt (by omega), if_pos rfl]; simp [startV, hb]
      · rw [if_neg (show ¬ (k : Int) = j by omega)]
        by_cases e2 : k < j
        · rw [upto_lt (by omega), upto_lt e2]
        · rw [upto_ge (by omega), upto_ge (by omega)]
    | cons x l =>
      have e0 : (((wrW L (j : Nat) : Nat) : Int) == 0) = false := by simp [wrW, hb]; omega
      (repeat simp -dsimp -implicitDefEqProofs (disch := omega) only [↓rP, rQ, rO, rL, ↓reduceIte, Nat.reduceEqDiff, Nat.reduceAdd, Nat.reduceLeDiff, z01, z05, ↓tyr, e0, wkP j (by omega)])
      rw [z0a, hI]
      refine ⟨_, by omega, j + 1, rfl, by omega, R.ck (fun k hk => ?_), kp, rfl⟩
      by_cases e : k = j
      · subst e
        rw [upto_lt (by omega), upto_ge (Nat.le_refl _)]
        unfold startV; rw [hb]
      · by_cases e2 : k < j
        · rw [upto_lt (by omega), upto_lt e2]
        · rw [upto_ge (by omega), upto_ge (by omega)]
  · (repeat simp -dsimp -implicitDefEqProofs (disch := omega) only [↓rP, rQ, rO, rL, ↓reduceIte, Nat.reduceEqDiff, Nat.reduceAdd, Nat.reduceLeDiff, z01, z05, ↓tyr])
    have : j = n := by omega
    subst this
    exact hQ hh (R.ck (fun k hk => (upto_lt (by omega)).symm)) kp
theorem of_10 {c : Cd} (hn : (slL b.Slots).length ≤ 100) (hL : L.length ≤ 1000) (wf : ∀ x ∈ L, Wf c b x) (R0 : RdAt h rid b L w g f kn (wrW L) kG (cntG L) kF (cntF L) K) (s0 : Snd L (onB b) K) (f0 : FL K) (Q : z1j → Fr → z04 → Prop)
    (hQ : ∀ hh K2, RdAt hh rid b L w g f kn (wrW L) kG (cntG L) kF (cntF L) K2 → Keeps h hh (fun i => i = kn) → Snd L (onB b) K2 → Done L (onB b) K2 → Q (.exit 2) (frOf [(5, .ptr rid 0)]) hh) :
    WP Try.prog 53 (.loop c_path_Of_10) (frOf [(5, .ptr rid 0)]) h Q := by
  obtain ⟨I, hI⟩ : ∃ I : Nat → Fr → z04 → Prop, I = (fun m fr hh => ∃ K2, m = cU (slL b.Slots).length K2 ∧ RdAt hh rid b L w g f kn (wrW L) kG (cntG L) kF (cntF L) K2 ∧ Keeps h hh (fun i => i = kn) ∧ Snd L (onB b) K2 ∧ FL K2 ∧ fr = frOf [(5, .ptr rid 0)]) := ⟨_, rfl⟩
  refine z1u z0v (by kernel_rfl) I (cU (slL b.Slots).length K) (by rw [hI]; exact ⟨K, rfl, R0, .refl _ _, s0, f0, rfl⟩) ?_
  intro m fr hh hi
  rw [hI] at hi
  obtain ⟨K2, rfl, R, kp, s, fl, rfl⟩ := hi
  apply path_Of_loop10
  refine (round_does hn hL wf R s fl).mono ?_
  rintro _ h2 ⟨K3, more, rfl, r⟩
  cases more with
  | true =>
    (repeat simp -dsimp -implicitDefEqProofs (disch := omega) only [↓rP, rQ, rO, rL, ↓reduceIte, Nat.reduceEqDiff, Nat.reduceAdd, Nat.reduceLeDiff, z01, z05, ↓tyr])
    rw [z0a, hI]
    exact ⟨_, r.yes rfl, K3, rfl, r.rd, kp.trans r.kp (fun _ _ e => e), r.snd, r.fl, rfl⟩
  | false =>
    (repeat simp -dsimp -implicitDefEqProofs (disch := omega) only [↓rP, rQ, rO, rL, ↓reduceIte, Nat.reduceEqDiff, Nat.reduceAdd, Nat.reduceLeDiff, z01, z05, ↓tyr])
    obtain ⟨e, d⟩ := r.no rfl
    subst e
    exact hQ h2 K3 r.rd (kp.trans r.kp (fun _ _ e => e)) r.snd d.all
end
theorem Of_k (c : Cd) (hc : c.ok) (sm : Small c) (s : Int) (h : z04) : z03 Try.prog 10 [.agg c.cells, .int .i64 s] h (fun v h2 => (v = .nils ∧ pathO c s = none ∧ Keeps h h2 (fun _ => False)) ∨ ∃ (kn n : Nat) (K : Int → Vl), v = .sl kn 0 n 4 ∧ n ≤ 100 ∧ h2.objs kn = some (.row 41 (rowN (knC K) n)) ∧ h.next ≤ kn ∧ Keeps h h2 (fun _ => False) ∧ pathO c s = some ((List.range n).map fun k => K (k : Nat))) := by
  have lc : ∀ (H : z04) (K : AV → Prop), z02 (some 5) (.iptr c.cells) H K = K (.agg c.cells) := fun H K => by rw [z2j]; exact z0n.call c K
  apply path_Of_wp
  (repeat simp -dsimp -implicitDefEqProofs (disch := omega) only [↓rP, rQ, rO, rL, ↓reduceIte, Nat.reduceEqDiff, Nat.reduceAdd, Nat.reduceLeDiff, z01, z05, ↓tyr, ↓lc])
  refine z03.go (code_Good_s c hc sm _) ?_
  cases hok : okC c with
  | false =>
    have hn : pathO c s = none := by unfold pathO; rw [if_neg (by rw [hok]; simp)]
    (repeat simp -dsimp -implicitDefEqProofs (disch := omega) only [↓rP, rQ, rO, rL, ↓reduceIte, Nat.reduceEqDiff, Nat.reduceAdd, Nat.reduceLeDiff, z01, z05, ↓tyr])
    exact Or.inl ⟨hn, .refl _ _⟩
  | true =>
    have wc := wf_of hok
    by_cases h0 : s < 0
    · have e0 : decide (s < 0) = true := decide_eq_true h0
      have hn : pathO c s = none := by
        unfold pathO; rw [if_pos hok]
        have : getI (slL c.Sections) s = none := by unfold getI; rw [if_neg (by omega)]
        rw [this]
      (repeat simp -dsimp -implicitDefEqProofs (disch := omega) only [↓rP, rQ, rO, rL, ↓reduceIte, Nat.reduceEqDiff, Nat.reduceAdd, Nat.reduceLeDiff, z01, z05, ↓tyr, e0])
      exact Or.inl ⟨hn, .refl _ _⟩
    have e0 : decide (s < 0) = false := decide_eq_false h0
    by_cases h1 : (slL c.Sections).length ≤ s
    · have e1 : decide (((slL c.Sections).length : Int) ≤ s) = true := decide_eq_true h1
      have hn : pathO c s = none := by
        unfold pathO; rw [if_pos hok]
        have : getI (slL c.Sections) s = none := by unfold getI; rw [if_pos (by omega)]; exact List.getElem?_eq_none (by omega)
        rw [this]
      (repeat simp -dsimp -implicitDefEqProofs (disch := omega) only [↓rP, rQ, rO, rL, ↓reduceIte, Nat.reduceEqDiff, Nat.reduceAdd, Nat.reduceLeDiff, z01, z05, ↓tyr, e0, e1])
      exact Or.inl ⟨hn, .refl _ _⟩
    have e1 : decide (((slL c.Sections).length : Int) ≤ s) = false := decide_eq_false h1
    obtain ⟨k, rfl⟩ : ∃ k : Nat, s = k := ⟨s.toNat, by omega⟩
    obtain ⟨sec, hs⟩ : ∃ sec, (slL c.Sections)[k]? = some sec := ⟨_, List.getElem?_eq_getElem (by omega)⟩
    obtain ⟨t, b, fr, to, S⟩ := sec_of hok hs
    have hsl := wc.slo t b S.bd
    have wf := sec_wf wc S
    have hL := secL_len b fr to
    (repeat simp -dsimp -implicitDefEqProofs (disch := omega) only [↓rP, rQ, rO, rL, ↓reduceIte, Nat.reduceEqDiff, Nat.reduceAdd, Nat.reduceLeDiff, z01, z05, ↓tyr, e0, e1, ↓lc])
    refine (read_does wc hs S h).mono ?_
    rintro _ h2 ⟨rid, w, g, f, kn, kG, kF, rfl, R, kp, hkn⟩
    obtain ⟨L, eL⟩ : ∃ L, L = secL b fr to := ⟨_, rfl⟩
    rw [← eL] at R wf hL
    (repeat simp -dsimp -implicitDefEqProofs (disch := omega) only [↓rP, rQ, rO, rL, ↓reduceIte, Nat.reduceEqDiff, Nat.reduceAdd, Nat.reduceLeDiff, z01, z05, ↓tyr, R.l4])
    refine of_5 (by omega) (by omega) R _ ?_
    intro h3 R3 k3
    (repeat simp -dsimp -implicitDefEqProofs (disch := omega) only [↓rP, rQ, rO, rL, ↓reduceIte, Nat.reduceEqDiff, Nat.reduceAdd, Nat.reduceLeDiff, z01, z05, ↓tyr])
    refine of_10 (by omega) (by omega) wf R3 (Snd.start L (onB b)) (fun k => by unfold startV; split <;> simp [vWay, vUnk]) _ ?_
    intro h4 K R4 k4 s4 d4
    (repeat simp -dsimp -implicitDefEqProofs (disch := omega) only [↓rP, rQ, rO, rL, ↓reduceIte, Nat.reduceEqDiff, Nat.reduceAdd, Nat.reduceLeDiff, z01, z05, ↓tyr, R4.l7])
    refine Or.inr ⟨kn, _, K, rfl, by omega, R4.kv, hkn, ⟨Nat.le_trans kp.next (Nat.le_trans k3.next k4.next), fun i hi hf => ?_⟩, ?_⟩
    · rw [k4.objs i (Nat.lt_of_lt_of_le hi (Nat.le_trans kp.next k3.next)) (by omega), k3.objs i (Nat.lt_of_lt_of_le hi kp.next) (by omega)]
      exact kp.objs i hi hf
    · rw [pathO_some hok hs S, s4.eq d4 (sec_among wf) (on1 b), ← eL]
      rfl
theorem Of_does (c : Cd) (hc : c.ok) (sm : Small c) (s : Int) (h : z04) : z03 Try.prog 10 [.agg c.cells, .int .i64 s] h (fun v h2 => v = slAV 4 z0l.cells (pathO c s) ∧ h2 = h) := by
  refine (z03.result (enc := fun o : Option (List Vl) => slAV 4 z0l.cells o) (Q := fun o => o = pathO c s) (fun o _ => ids_vls _ o) ((Of_k c hc sm s h).mono ?_)).mono ?_
  · rintro v h2 (⟨rfl, hn, kp⟩ | ⟨kn, n, K, rfl, hn, ho, hkn, kp, hp⟩)
    · exact ⟨fun _ => False, none, hn.symm, RzV.same _, fun _ h => h.elim, kp⟩
    · refine ⟨fun i => i = kn, _, hp.symm, ?_, fun i hi => by subst hi; exact ⟨hkn, by rw [ho]; simp⟩, kp⟩
      have e : slAV 4 z0l.cells (some ((List.range n).map fun k => K (k : Nat))) = .isl 4 (chunk 4 n (rowN (knC K) n)) := by
        rw [rowN_chunk (knC_len K)]
        simp only [slAV, List.map_map]
        rfl
      show RzV h2 _ (.sl kn 0 n 4) (slAV 4 z0l.cells (some ((List.range n).map fun k => K (k : Nat))))
      rw [e]
      exact RzV.row rfl ho (by rw [rowN_len (knC_len K)]; omega) (by omega) rfl (fun i a a' h1 h2 => by rw [h1] at h2; cases h2; exact RzV.same _)
  · rintro v h2 ⟨⟨o, rfl, rfl⟩, rfl⟩
    exact ⟨rfl, rfl⟩
end Go.Proofs.Ytnggcokgnblpgaa
end

section
/- Whether two paths are the same; two rows of values. -/
set_option maxRecDepth 8000
set_option maxHeartbeats 1000000
namespace Go.Proofs.Ytnggcokgnblpgaa
open Go.Abs
def sameP (p q : z0w) : Bool := (p.Global == q.Global) && (decide (p.N = q.N) && decide (slL p.Fields = slL q.Fields))
theorem ld_encI (n : Int) (h : z04) (J : AV → Prop) : z02 none (.iptr (encI n)) h J = J (.int .i64 n) := by rw [z2j]; rfl
theorem take_all {α : Type} {l m : List α} {j : Nat} (hl : l.length = m.length) (ht : l.take j = m.take j) (hj : j = l.length) : l = m := by
  subst hj
  rw [List.take_length, hl, List.take_length] at ht
  exact ht
theorem take_more {α : Type} {l m : List α} {j : Nat} {x : α} (ht : l.take j = m.take j) (h1 : l[j]? = some x) (h2 : m[j]? = some x) : l.take (j + 1) = m.take (j + 1) := by
  rw [List.take_add_one, List.take_add_one, ht, h1, h2]
theorem samePath_4 (p q : z0w) (hl : (slL p.Fields).length = (slL q.Fields).length) (hb : (slL p.Fields).length ≤ 1000) (h : z04) (Q : z1j → Fr → z04 → Prop)
    (h1 : slL p.Fields = slL q.Fields → Q (.exit 0) (frOf []) h) (h2 : slL p.Fields ≠ slL q.Fields → Q .ret (frOf [(4, .bool false)]) h) :
    WP Try.prog 45 (.loop z3r) (frOf [(2, .iptr p.cells), (3, .iptr q.cells), (29, .int .i64 (slL p.Fields).length), (30, .int .i64 0)]) h Q := by
  obtain ⟨I, hI⟩ : ∃ I : Nat → Fr → z04 → Prop, I = (fun m fr hh => ∃ j : Nat, m = (slL p.Fields).length - j ∧ j ≤ (slL p.Fields).length ∧ (slL p.Fields).take j = (slL q.Fields).take j ∧ hh = h ∧ fr = frOf [(2, .iptr p.cells), (3, .iptr q.cells), (29, .int .i64 (slL p.Fields).length), (30, .int .i64 j)]) := ⟨_, rfl⟩
  refine z1u z0v (by kernel_rfl) I (slL p.Fields).length (by rw [hI]; exact ⟨0, rfl, Nat.zero_le _, by simp, rfl, rfl⟩) ?_
  intro m fr hh hi
  rw [hI] at hi
  obtain ⟨j, rfl, hj, ht, rfl, rfl⟩ := hi
  apply padlockref13_SamePath_loop4
  (repeat simp -dsimp -implicitDefEqProofs (disch := omega) only [↓rP, rQ, rO, rL, ↓reduceIte, Nat.reduceEqDiff, Nat.reduceAdd, Nat.reduceLeDiff, z01, z05, ↓tyr])
  refine z0i (fun hjl => ?_) (fun hjl => ?_)
  · obtain ⟨x, hx⟩ : ∃ x, (slL p.Fields)[j]? = some x := ⟨_, List.getElem?_eq_getElem (by omega)⟩
    obtain ⟨y, hy⟩ : ∃ y, (slL q.Fields)[j]? = some y := ⟨_, List.getElem?_eq_getElem (by omega)⟩
    (repeat simp -dsimp -implicitDefEqProofs (disch := omega) only [↓rP, rQ, rO, rL, ↓reduceIte, Nat.reduceEqDiff, Nat.reduceAdd, Nat.reduceLeDiff, z01, z05, ↓tyr, z0d hx, z0d hy, ↓ld_encI])
    refine z13 (fun he => ?_) (fun he => ?_)
    · (repeat simp -dsimp -implicitDefEqProofs (disch := omega) only [↓rP, rQ, rO, rL, ↓reduceIte, Nat.reduceEqDiff, Nat.reduceAdd, Nat.reduceLeDiff, z01, z05, ↓tyr])
      exact h2 (fun e => he (by rw [e, hy] at hx; exact Option.some.inj hx.symm))
    · have he : x = y := by omega
      subst he
      (repeat simp -dsimp -implicitDefEqProofs (disch := omega) only [↓rP, rQ, rO, rL, ↓reduceIte, Nat.reduceEqDiff, Nat.reduceAdd, Nat.reduceLeDiff, z01, z05, ↓tyr, wkP j (by omega)])
      rw [z0a, hI]
      exact ⟨_, by omega, j + 1, rfl, by omega, take_more ht hx hy, rfl, rfl⟩
  · (repeat simp -dsimp -implicitDefEqProofs (disch := omega) only [↓rP, rQ, rO, rL, ↓reduceIte, Nat.reduceEqDiff, Nat.reduceAdd, Nat.reduceLeDiff, z01, z05, ↓tyr])
    exact h1 (take_all hl ht (by omega))
theorem SamePath_does (p q : z0w) (hb : (slL p.Fields).length ≤ 1000) (h : z04) : z03 Try.prog 17 [.agg p.cells, .agg q.cells] h (fun v h2 => v = .bool (sameP p q) ∧ h2 = h) := by
  apply padlockref13_SamePath_wp
  have eb : ∀ a b : Bool, binA CmpK.bool .neq (.bool a) (.bool b) = some (.bool (!(a == b))) := fun a b => rfl
  (repeat simp -dsimp -implicitDefEqProofs (disch := omega) only [↓rP, rQ, rO, rL, ↓reduceIte, Nat.reduceEqDiff, Nat.reduceAdd, Nat.reduceLeDiff, z01, z05, ↓tyr, eb])
  unfold sameP
  cases hg : (p.Global == q.Global) with
  | false => (repeat simp -dsimp -implicitDefEqProofs (disch := omega) only [↓rP, rQ, rO, rL, ↓reduceIte, Nat.reduceEqDiff, Nat.reduceAdd, Nat.reduceLeDiff, z01, z05, ↓tyr])
  | true =>
    by_cases hn : p.N = q.N
    · have en : (p.N != q.N) = false := by simpa using hn
      (repeat simp -dsimp -implicitDefEqProofs (disch := omega) only [↓rP, rQ, rO, rL, ↓reduceIte, Nat.reduceEqDiff, Nat.reduceAdd, Nat.reduceLeDiff, z01, z05, ↓tyr, en])
      by_cases hl : (slL p.Fields).length = (slL q.Fields).length
      · have el : (((slL p.Fields).length : Int) != ((slL q.Fields).length : Int)) = false := by simp; omega
        (repeat simp -dsimp -implicitDefEqProofs (disch := omega) only [↓rP, rQ, rO, rL, ↓reduceIte, Nat.reduceEqDiff, Nat.reduceAdd, Nat.reduceLeDiff, z01, z05, ↓tyr, el])
        refine samePath_4 p q hl hb h _ (fun e => ?_) (fun e => ?_)
        · (repeat simp -dsimp -implicitDefEqProofs (disch := omega) only [↓rP, rQ, rO, rL, ↓reduceIte, Nat.reduceEqDiff, Nat.reduceAdd, Nat.reduceLeDiff, z01, z05, ↓tyr])
          simp [hn, e]
        · (repeat simp -dsimp -implicitDefEqProofs (disch := omega) only [↓rP, rQ, rO, rL, ↓reduceIte, Nat.reduceEqDiff, Nat.reduceAdd, Nat.reduceLeDiff, z01, z05, ↓tyr])
          simp [e]
      · have el : (((slL p.Fields).length : Int) != ((slL q.Fields).length : Int)) = true := by simp; omega
        have : slL p.Fields ≠ slL q.Fields := fun e => hl (by rw [e])
        (repeat simp -dsimp -implicitDefEqProofs (disch := omega) only [↓rP, rQ, rO, rL, ↓reduceIte, Nat.reduceEqDiff, Nat.reduceAdd, Nat.reduceLeDiff, z01, z05, ↓tyr, el])
        simp [this]
    · have en : (p.N != q.N) = true := by simpa using hn
      (repeat simp -dsimp -implicitDefEqProofs (disch := omega) only [↓rP, rQ, rO, rL, ↓reduceIte, Nat.reduceEqDiff, Nat.reduceAdd, Nat.reduceLeDiff, z01, z05, ↓tyr, en])
      simp [hn]
theorem equal_4 (o u : Option (List Int)) (hl : (slL o).length = (slL u).length) (hb : (slL o).length ≤ 1000) (h : z04) (Q : z1j → Fr → z04 → Prop)
    (h1 : slL o = slL u → Q (.exit 0) (frOf []) h) (h2 : slL o ≠ slL u → Q .ret (frOf [(4, .bool false)]) h) :
    WP Try.prog 26 (.loop z4b) (frOf [(0, slAV 1 encI o), (1, slAV 1 encI u), (12, .int .i64 (slL o).length), (13, .int .i64 0)]) h Q := by
  obtain ⟨I, hI⟩ : ∃ I : Nat → Fr → z04 → Prop, I = (fun m fr hh => ∃ j : Nat, m = (slL o).length - j ∧ j ≤ (slL o).length ∧ (slL o).take j = (slL u).take j ∧ hh = h ∧ fr = frOf [(0, slAV 1 encI o), (1, slAV 1 encI u), (12, .int .i64 (slL o).length), (13, .int .i64 j)]) := ⟨_, rfl⟩
  refine z1u z0v (by kernel_rfl) I (slL o).length (by rw [hI]; exact ⟨0, rfl, Nat.zero_le _, by simp, rfl, rfl⟩) ?_
  intro m fr hh hi
  rw [hI] at hi
  obtain ⟨j, rfl, hj, ht, rfl, rfl⟩ := hi
  apply slices_Equal_int_int_loop4
  (repeat simp -dsimp -implicitDefEqProofs (disch := omega) only [↓rP, rQ, rO, rL, ↓reduceIte, Nat.reduceEqDiff, Nat.reduceAdd, Nat.reduceLeDiff, z01, z05, ↓tyr])
  refine z0i (fun hjl => ?_) (fun hjl => ?_)
  · obtain ⟨x, hx⟩ : ∃ x, (slL o)[j]? = some x := ⟨_, List.getElem?_eq_getElem (by omega)⟩
    obtain ⟨y, hy⟩ : ∃ y, (slL u)[j]? = some y := ⟨_, List.getElem?_eq_getElem (by omega)⟩
    (repeat simp -dsimp -implicitDefEqProofs (disch := omega) only [↓rP, rQ, rO, rL, ↓reduceIte, Nat.reduceEqDiff, Nat.reduceAdd, Nat.reduceLeDiff, z01, z05, ↓tyr, z0d hx, z0d hy, ↓ld_encI])
    refine z13 (fun he => ?_) (fun he => ?_)
    · (repeat simp -dsimp -implicitDefEqProofs (disch := omega) only [↓rP, rQ, rO, rL, ↓reduceIte, Nat.reduceEqDiff, Nat.reduceAdd, Nat.reduceLeDiff, z01, z05, ↓tyr])
      exact h2 (fun e => he (by rw [e, hy] at hx; exact Option.some.inj hx.symm))
    · have he : x = y := by omega
      subst he
      (repeat simp -dsimp -implicitDefEqProofs (disch := omega) only [↓rP, rQ, rO, rL, ↓reduceIte, Nat.reduceEqDiff, Nat.reduceAdd, Nat.reduceLeDiff, z01, z05, ↓tyr, wkP j (by omega)])
      rw [z0a, hI]
      exact ⟨_, by omega, j + 1, rfl, by omega, take_more ht hx hy, rfl, rfl⟩
  · (repeat simp -dsimp -implicitDefEqProofs (disch := omega) only [↓rP, rQ, rO, rL, ↓reduceIte, Nat.reduceEqDiff, Nat.reduceAdd, Nat.reduceLeDiff, z01, z05, ↓tyr])
    exact h1 (take_all hl ht (by omega))
theorem Equal_does (o u : Option (List Int)) (hb : (slL o).length ≤ 1000) (h : z04) : z03 Try.prog 25 [slAV 1 encI o, slAV 1 encI u] h (fun v h2 => v = .bool (decide (slL o = slL u)) ∧ h2 = h) := by
  apply slices_Equal_int_int_wp
  (repeat simp -dsimp -implicitDefEqProofs (disch := omega) only [↓rP, rQ, rO, rL, ↓reduceIte, Nat.reduceEqDiff, Nat.reduceAdd, Nat.reduceLeDiff, z01, z05, ↓tyr])
  by_cases hl : (slL o).length = (slL u).length
  · have el : (((slL o).length : Int) != ((slL u).length : Int)) = false := by simp; omega
    (repeat simp -dsimp -implicitDefEqProofs (disch := omega) only [↓rP, rQ, rO, rL, ↓reduceIte, Nat.reduceEqDiff, Nat.reduceAdd, Nat.reduceLeDiff, z01, z05, ↓tyr, el])
    refine equal_4 o u hl hb h _ (fun e => ?_) (fun e => ?_)
    · (repeat simp -dsimp -implicitDefEqProofs (disch := omega) only [↓rP, rQ, rO, rL, ↓reduceIte, Nat.reduceEqDiff, Nat.reduceAdd, Nat.reduceLeDiff, z01, z05, ↓tyr])
      simp [e]
    · (repeat simp -dsimp -implicitDefEqProofs (disch := omega) only [↓rP, rQ, rO, rL, ↓reduceIte, Nat.reduceEqDiff, Nat.reduceAdd, Nat.reduceLeDiff, z01, z05, ↓tyr])
      simp [e]
  · have el : (((slL o).length : Int) != ((slL u).length : Int)) = true := by simp; omega
    have : slL o ≠ slL u := fun e => hl (by rw [e])
    (repeat simp -dsimp -implicitDefEqProofs (disch := omega) only [↓rP, rQ, rO, rL, ↓reduceIte, Nat.reduceEqDiff, Nat.reduceAdd, Nat.reduceLeDiff, z01, z05, ↓tyr, el])
    simp [this]
theorem pathSame_does (p q : z0w) (hb : (slL p.Fields).length ≤ 1000) (h : z04) : z03 Try.prog 16 [.agg p.cells, .agg q.cells] h (fun v h2 => v = .bool (sameP p q) ∧ h2 = h) := by
  apply path_Same_wp
  have eb : ∀ a b : Bool, binA CmpK.bool .eql (.bool a) (.bool b) = some (.bool (a == b)) := fun a b => rfl
  (repeat simp -dsimp -implicitDefEqProofs (disch := omega) only [↓rP, rQ, rO, rL, ↓reduceIte, Nat.reduceEqDiff, Nat.reduceAdd, Nat.reduceLeDiff, z01, z05, ↓tyr, eb])
  unfold sameP
  cases hg : (p.Global == q.Global) with
  | false => (repeat simp -dsimp -implicitDefEqProofs (disch := omega) only [↓rP, rQ, rO, rL, ↓reduceIte, Nat.reduceEqDiff, Nat.reduceAdd, Nat.reduceLeDiff, z01, z05, ↓tyr])
  | true =>
    by_cases hn : p.N = q.N
    · have en : (p.N == q.N) = true := by simpa using hn
      (repeat simp -dsimp -implicitDefEqProofs (disch := omega) only [↓rP, rQ, rO, rL, ↓reduceIte, Nat.reduceEqDiff, Nat.reduceAdd, Nat.reduceLeDiff, z01, z05, ↓tyr, en])
      refine z03.go (Equal_does p.Fields q.Fields hb _) ?_
      (repeat simp -dsimp -implicitDefEqProofs (disch := omega) only [↓rP, rQ, rO, rL, ↓reduceIte, Nat.reduceEqDiff, Nat.reduceAdd, Nat.reduceLeDiff, z01, z05, ↓tyr])
      simp [hn]
    · have en : (p.N == q.N) = false := by simpa using hn
      (repeat simp -dsimp -implicitDefEqProofs (disch := omega) only [↓rP, rQ, rO, rL, ↓reduceIte, Nat.reduceEqDiff, Nat.reduceAdd, Nat.reduceLeDiff, z01, z05, ↓tyr, en])
      simp [hn]
def sameVl (v w : Vl) : Bool := decide (v.Kind = w.Kind) && sameP v.Path w.Path
def sameVs (l m : List Vl) : Bool := decide (l.length = m.length) && allK (fun k v => match m[k]? with | some w => sameVl v w | none => true) l
theorem same_4 (o u : Option (List Vl)) (hl : (slL o).length = (slL u).length) (hb : (slL o).length ≤ 1000) (hf : ∀ v ∈ slL o, (slL v.Path.Fields).length ≤ 1000) (h : z04) (Q : z1j → Fr → z04 → Prop)
    (h1 : sameVs (slL o) (slL u) = true → Q (.exit 0) (frOf []) h) (h2 : sameVs (slL o) (slL u) = false → Q .ret (frOf [(4, .bool false)]) h) :
    WP Try.prog 42 (.loop c_padlockref13_Same_4) (frOf [(0, slAV 4 z0l.cells o), (1, slAV 4 z0l.cells u), (12, .int .i64 (slL o).length), (13, .int .i64 0)]) h Q := by
  obtain ⟨P, hP⟩ : ∃ P : Nat → Vl → Bool, P = fun k v => match (slL u)[k]? with | some w => sameVl v w | none => true := ⟨_, rfl⟩
  have hs : sameVs (slL o) (slL u) = allK P (slL o) := by unfold sameVs; rw [hP, decide_eq_true hl, Bool.true_and]
  obtain ⟨I, hI⟩ : ∃ I : Nat → Fr → z04 → Prop, I = (fun m fr hh => ∃ j : Nat, m = (slL o).length - j ∧ j ≤ (slL o).length ∧ upTo P (slL o) j ∧ hh = h ∧ fr = frOf [(0, slAV 4 z0l.cells o), (1, slAV 4 z0l.cells u), (12, .int .i64 (slL o).length), (13, .int .i64 j)]) := ⟨_, rfl⟩
  refine z1u z0v (by kernel_rfl) I (slL o).length (by rw [hI]; exact ⟨0, rfl, Nat.zero_le _, z2p _ _, rfl, rfl⟩) ?_
  intro m fr hh hi
  rw [hI] at hi
  obtain ⟨j, rfl, hj, ht, rfl, rfl⟩ := hi
  apply padlockref13_Same_loop4
  (repeat simp -dsimp -implicitDefEqProofs (disch := omega) only [↓rP, rQ, rO, rL, ↓reduceIte, Nat.reduceEqDiff, Nat.reduceAdd, Nat.reduceLeDiff, z01, z05, ↓tyr])
  refine z0i (fun hjl => ?_) (fun hjl => ?_)
  · obtain ⟨x, hx⟩ : ∃ x, (slL o)[j]? = some x := ⟨_, List.getElem?_eq_getElem (by omega)⟩
    obtain ⟨y, hy⟩ : ∃ y, (slL u)[j]? = some y := ⟨_, List.getElem?_eq_getElem (by omega)⟩
    have pj : P j x = sameVl x y := by rw [hP]; simp only [hy]
    have hf2 := hf x (List.mem_of_getElem? hx)
    by_cases hk : x.Kind = y.Kind
    · have ek : (x.Kind != y.Kind) = false := by simpa using hk
      (repeat simp -dsimp -implicitDefEqProofs (disch := omega) only [↓rP, rQ, rO, rL, ↓reduceIte, Nat.reduceEqDiff, Nat.reduceAdd, Nat.reduceLeDiff, z01, z05, ↓tyr, z0d hx, z0d hy, ek])
      have lp : ∀ (v : Vl) (H : z04) (J : AV → Prop), z02 (some 3) (.iptr (v.cells.drop 1)) H J = J (.agg v.Path.cells) := fun v H J => by rw [z2j]; simp [z0h, z0l.cells, z0w.cells]
      (repeat simp -dsimp -implicitDefEqProofs (disch := omega) only [↓rP, rQ, rO, rL, ↓reduceIte, Nat.reduceEqDiff, Nat.reduceAdd, Nat.reduceLeDiff, z01, z05, ↓tyr, ↓lp])
      refine z03.go (SamePath_does x.Path y.Path hf2 _) ?_
      cases hsp : sameP x.Path y.Path with
      | true =>
        (repeat simp -dsimp -implicitDefEqProofs (disch := omega) only [↓rP, rQ, rO, rL, ↓reduceIte, Nat.reduceEqDiff, Nat.reduceAdd, Nat.reduceLeDiff, z01, z05, ↓tyr, wkP j (by omega)])
        rw [z0a, hI]
        exact ⟨_, by omega, j + 1, rfl, by omega, z2i ht hx (by rw [pj, sameVl, hsp, decide_eq_true hk]; rfl), rfl, rfl⟩
      | false =>
        (repeat simp -dsimp -implicitDefEqProofs (disch := omega) only [↓rP, rQ, rO, rL, ↓reduceIte, Nat.reduceEqDiff, Nat.reduceAdd, Nat.reduceLeDiff, z01, z05, ↓tyr])
        exact h2 (by rw [hs]; exact z2x hx (by rw [pj, sameVl, hsp, Bool.and_false]))
    · have ek : (x.Kind != y.Kind) = true := by simpa using hk
      (repeat simp -dsimp -implicitDefEqProofs (disch := omega) only [↓rP, rQ, rO, rL, ↓reduceIte, Nat.reduceEqDiff, Nat.reduceAdd, Nat.reduceLeDiff, z01, z05, ↓tyr, z0d hx, z0d hy, ek])
      exact h2 (by rw [hs]; exact z2x hx (by rw [pj, sameVl, decide_eq_false hk, Bool.false_and]))
  · (repeat simp -dsimp -implicitDefEqProofs (disch := omega) only [↓rP, rQ, rO, rL, ↓reduceIte, Nat.reduceEqDiff, Nat.reduceAdd, Nat.reduceLeDiff, z01, z05, ↓tyr])
    have : j = (slL o).length := by omega
    subst this
    exact h1 (by rw [hs]; exact upTo_all ht)
theorem Same_does (o u : Option (List Vl)) (hb : (slL o).length ≤ 1000) (hf : ∀ v ∈ slL o, (slL v.Path.Fields).length ≤ 1000) (h : z04) : z03 Try.prog 9 [slAV 4 z0l.cells o, slAV 4 z0l.cells u] h (fun v h2 => v = .bool (sameVs (slL o) (slL u)) ∧ h2 = h) := by
  apply padlockref13_Same_wp
  (repeat simp -dsimp -implicitDefEqProofs (disch := omega) only [↓rP, rQ, rO, rL, ↓reduceIte, Nat.reduceEqDiff, Nat.reduceAdd, Nat.reduceLeDiff, z01, z05, ↓tyr])
  by_cases hl : (slL o).length = (slL u).length
  · have el : (((slL o).length : Int) != ((slL u).length : Int)) = false := by simp; omega
    (repeat simp -dsimp -implicitDefEqProofs (disch := omega) only [↓rP, rQ, rO, rL, ↓reduceIte, Nat.reduceEqDiff, Nat.reduceAdd, Nat.reduceLeDiff, z01, z05, ↓tyr, el])
    refine same_4 o u hl hb hf h _ (fun e => ?_) (fun e => ?_)
    · (repeat simp -dsimp -implicitDefEqProofs (disch := omega) only [↓rP, rQ, rO, rL, ↓reduceIte, Nat.reduceEqDiff, Nat.reduceAdd, Nat.reduceLeDiff, z01, z05, ↓tyr])
      simp [e]
    · (repeat simp -dsimp -implicitDefEqProofs (disch := omega) only [↓rP, rQ, rO, rL, ↓reduceIte, Nat.reduceEqDiff, Nat.reduceAdd, Nat.reduceLeDiff, z01, z05, ↓tyr])
      simp [e]
  · have el : (((slL o).length : Int) != ((slL u).length : Int)) = true := by simp; omega
    have : sameVs (slL o) (slL u) = false := by unfold sameVs; rw [decide_eq_false hl, Bool.false_and]
    (repeat simp -dsimp -implicitDefEqProofs (disch := omega) only [↓rP, rQ, rO, rL, ↓reduceIte, Nat.reduceEqDiff, Nat.reduceAdd, Nat.reduceLeDiff, z01, z05, ↓tyr, el])
    simp [this]
theorem sameVs_self (l : List Vl) : sameVs l l = true := by
  unfold sameVs
  rw [decide_eq_true rfl, Bool.true_and]
  rw [z2y]
  intro k x hx
  simp only [hx, sameVl, sameP]
  simp
end Go.Proofs.Ytnggcokgnblpgaa
end

section
/- What is known of slots: the document's functions. -/
set_option maxRecDepth 8000
set_option maxHeartbeats 1000000
namespace Go.Proofs.Ytnggcokgnblpgaa
open Go.Abs
def GvAt {α : Type} (T : TypeId) (sz : Nat) (enc : α → List AV) (lo : Nat) (hh : z04) (av : AV) (l : List α) : Prop := (l = [] ∧ av = .nils) ∨ (l ≠ [] ∧ ∃ id, av = .gsl id sz (l.map enc) ∧ hh.objs id = some (.tok T (l.length * sz)) ∧ lo ≤ id ∧ id < hh.next)
section
variable {α : Type} {T : TypeId} {sz : Nat} {enc : α → List AV} {hh : z04} {av : AV} {l : List α}
theorem GvAt.len {lo : Nat} (g : GvAt T sz enc lo hh av l) (J : AV → Prop) : pLen .slice av J = J (.int .i64 l.length) := by
  rcases g with ⟨rfl, rfl⟩ | ⟨_, id, rfl, _, _, _⟩
  · rfl
  · simp [pLen]
theorem GvAt.ix {lo : Nat} (g : GvAt T sz enc lo hh av l) {k : Nat} {x : α} (hx : l[k]? = some x) (kk : IntKind) (J : AV → Prop) : z09 (.slice sz) av (.int kk (k : Int)) J = J (.iptr (enc x)) := by
  rcases g with ⟨rfl, rfl⟩ | ⟨_, id, rfl, _, _, _⟩
  · simp at hx
  · simp [z09, hx]
theorem GvAt.keep {lo : Nat} {h2 : z04} {S : Nat → Prop} (g : GvAt T sz enc lo hh av l) (k : Keeps hh h2 S) (hs : ∀ i, lo ≤ i → ¬ S i) : GvAt T sz enc lo h2 av l := by
  rcases g with ⟨h1, h3⟩ | ⟨h1, id, h3, h4, h5, h6⟩
  · exact Or.inl ⟨h1, h3⟩
  · exact Or.inr ⟨h1, id, h3, by rw [k.objs id h6 (hs id h5)]; exact h4, h5, Nat.lt_of_lt_of_le h6 k.next⟩
theorem GvAt.app {h : z04} (g : GvAt T sz enc h.next hh av l) (kp : Keeps h hh (fun _ => False)) {b : Nat} (hl : l.length ≤ 10000) (hb : b ≤ 1000) (x : α) (J : AV → z04 → Prop) (hJ : ∀ av2 h2, GvAt T sz enc h.next h2 av2 (l ++ [x]) → Keeps h h2 (fun _ => False) → J av2 h2) : z3i true { e := T, sz := sz, by_ := b } av (.isl sz [enc x]) hh J := by
  have hkn := kp.next
  have hbd : ∀ n, n ≤ 10001 → bounded { e := T, sz := sz, by_ := b } n := fun n hn => by
    have : n * b ≤ 10001 * 1000 := Nat.mul_le_mul hn hb
    simp only [bounded, maxLen]; omega
  rcases g with ⟨rfl, rfl⟩ | ⟨hne, id, rfl, ho, h1, h2⟩
  · have := hJ (.gsl hh.next sz [enc x]) (hh.push (.tok T (1 * sz))) (Or.inr ⟨by simp, hh.next, rfl, z2h _ _, hkn, by simp⟩) (kp.pushS _)
    simp only [z3i, z3c, if_true, newSl]
    exact ⟨hbd _ (by simp), this⟩
  · have := hJ (.gsl hh.next sz (l.map enc ++ [enc x])) ((hh.kill id).push (.tok T ((l ++ [x]).length * sz))) (Or.inr ⟨by simp, hh.next, by simp, z2h (hh.kill id) _, hkn, Nat.lt_succ_self _⟩) ((kp.killNew h1).pushS _)
    simp only [z3i, z3c, if_true, ho, List.length_map, List.length_cons, List.length_nil, true_and]
    refine ⟨hbd _ (by omega), ?_⟩
    simpa using this
theorem GvAt.rz {lo : Nat} {D : Nat → Prop} (g : GvAt T sz enc lo hh av l) (hl : l.length ≤ 1000000) : RzV hh D av (.isl sz (l.map enc)) := by
  rcases g with ⟨rfl, rfl⟩ | ⟨_, id, rfl, _, _, _⟩
  · exact rz_nils sz
  · exact RzV.gsl (by simpa using hl) (RzE.same _ _)
end
theorem Dst_does (x : In) (h : z04) : z03 Try.prog 15 [.agg x.cells] h (fun v h2 => v = .int .i64 (dstI x) ∧ h2 = h) := by
  apply padlockref13_Dst_wp
  have ed : dstI x = if x.Op = 1 ∨ x.Op = 2 ∨ x.Op = 3 ∨ x.Op = 4 ∨ x.Op = 8 ∨ x.Op = 9 ∨ x.Op = 10 then x.Dst else -1 := rfl
  by_cases ho : x.Op = 1 ∨ x.Op = 2 ∨ x.Op = 3 ∨ x.Op = 4 ∨ x.Op = 8 ∨ x.Op = 9 ∨ x.Op = 10
  · rw [ed, if_pos ho]
    rcases ho with e | e | e | e | e | e | e
    all_goals
      (repeat (first | simp -dsimp -implicitDefEqProofs (disch := omega) only [↓rP, rQ, rO, rL, ↓reduceIte, Nat.reduceEqDiff, Nat.reduceAdd, Nat.reduceLeDiff, z01, z05, ↓tyr, e, Int.reduceBEq] | refine Cut.go ?_))
  · have n1 : (x.Op == 1) = false := by rw [beqI]; exact decide_eq_false (by omega)
    have n2 : (x.Op == 2) = false := by rw [beqI]; exact decide_eq_false (by omega)
    have n3 : (x.Op == 3) = false := by rw [beqI]; exact decide_eq_false (by omega)
    have n4 : (x.Op == 4) = false := by rw [beqI]; exact decide_eq_false (by omega)
    have n8 : (x.Op == 8) = false := by rw [beqI]; exact decide_eq_false (by omega)
    have n9 : (x.Op == 9) = false := by rw [beqI]; exact decide_eq_false (by omega)
    have n10 : (x.Op == 10) = false := by rw [beqI]; exact decide_eq_false (by omega)
    rw [ed, if_neg ho]
    (repeat (first | simp -dsimp -implicitDefEqProofs (disch := omega) only [↓rP, rQ, rO, rL, ↓reduceIte, Nat.reduceEqDiff, Nat.reduceAdd, Nat.reduceLeDiff, z01, z05, ↓tyr, n1, n2, n3, n4, n8, n9, n10] | refine Cut.go ?_))
def storesR (L : List In) (r n : Int) : Bool := if r < 0 then storeG L n else storeF L r n
theorem stores_2 (L : List In) (hL : L.length ≤ 1000) (r n : Int) (h : z04) (Q : z1j → Fr → z04 → Prop)
    (h1 : ∀ hh, Keeps h hh (fun _ => False) → storesR L r n = false → Q (.exit 0) (frOf []) hh) (h2 : ∀ hh, Keeps h hh (fun _ => False) → storesR L r n = true → Q .ret (frOf [(6, .bool true)]) hh) :
    WP Try.prog 50 (.loop z4q) (frOf [(1, .int .i64 r), (2, .int .i64 n), (9, slAV 8 z0b.cells (some L)), (10, .int .i64 L.length), (11, .int .i64 0)]) h Q := by
  obtain ⟨P, hP⟩ : ∃ P : In → Bool, P = fun x => if r < 0 then decide (x.Op = 5) && decide (x.N = n) else decide (x.Op = 6) && decide (x.Rec = r) && decide (x.N = n) := ⟨_, rfl⟩
  have hs : storesR L r n = L.any P := by
    unfold storesR storeG storeF; rw [hP]
    by_cases e : r < 0 <;> simp [e]
  obtain ⟨I, hI⟩ : ∃ I : Nat → Fr → z04 → Prop, I = (fun m fr hh => ∃ j : Nat, m = L.length - j ∧ j ≤ L.length ∧ (L.take j).any P = false ∧ Keeps h hh (fun _ => False) ∧ fr = frOf [(1, .int .i64 r), (2, .int .i64 n), (9, slAV 8 z0b.cells (some L)), (10, .int .i64 L.length), (11, .int .i64 j)]) := ⟨_, rfl⟩
  refine z1u z0v (by kernel_rfl) I L.length (by rw [hI]; exact ⟨0, rfl, Nat.zero_le _, by simp, .refl _ _, rfl⟩) ?_
  intro m fr hh hi
  rw [hI] at hi
  obtain ⟨j, rfl, hj, ht, kp, rfl⟩ := hi
  apply padlockref13_Stores_loop2
  (repeat (first | simp -dsimp -implicitDefEqProofs (disch := omega) only [↓rP, rQ, rO, rL, ↓reduceIte, Nat.reduceEqDiff, Nat.reduceAdd, Nat.reduceLeDiff, z01, z05, ↓tyr] | refine Cut.go ?_))
  refine z0i (fun hjl => ?_) (fun hjl => ?_)
  · obtain ⟨x, hx⟩ : ∃ x, L[j]? = some x := ⟨_, List.getElem?_eq_getElem (by omega)⟩
    have hx' : (slL (some L))[j]? = some x := hx
    obtain ⟨H, hH⟩ : ∃ H, H = hh.push (.row 45 x.cells) := ⟨_, rfl⟩
    have kpH : Keeps h H (fun _ => False) := by rw [hH]; exact kp.pushS _
    have ob : H.objs hh.next = some (.row 45 x.cells) := by rw [hH]; exact z2h _ _
    have f0 : ∀ J : AV → Prop, z02 none (.ptr hh.next 0) H J = J (.int .i64 x.Op) := fun J => by rw [z0o ob]; rfl
    have f3 : ∀ J : AV → Prop, z02 none (.ptr hh.next 3) H J = J (.int .i64 x.Rec) := fun J => by rw [z0o ob]; rfl
    have f4 : ∀ J : AV → Prop, z02 none (.ptr hh.next 4) H J = J (.int .i64 x.N) := fun J => by rw [z0o ob]; rfl
    have yes : P x = true → ∀ hh2, Keeps h hh2 (fun _ => False) → Q .ret (frOf [(6, .bool true)]) hh2 := fun hp hh2 k2 => h2 hh2 k2 (by rw [hs]; exact List.any_eq_true.2 ⟨x, List.mem_of_getElem? hx, hp⟩)
    have no : P x = false → I (L.length - (j + 1)) (frOf [(1, .int .i64 r), (2, .int .i64 n), (9, slAV 8 z0b.cells (some L)), (10, .int .i64 L.length), (11, .int .i64 ((j + 1 : Nat) : Int))]) H := fun hp => by
      rw [hI]
      refine ⟨j + 1, rfl, by omega, ?_, kpH, rfl⟩
      rw [List.take_add_one, hx, List.any_append, ht]
      simpa using hp
    (repeat (first | simp -dsimp -implicitDefEqProofs (disch := omega) only [↓rP, rQ, rO, rL, ↓reduceIte, Nat.reduceEqDiff, Nat.reduceAdd, Nat.reduceLeDiff, z01, z05, ↓tyr, z0d hx'] | refine Cut.go ?_))
    rw [← hH]
    by_cases hr : r < 0
    · have er : decide (r < 0) = true := decide_eq_true hr
      have er2 : decide ((0 : Int) ≤ r) = false := decide_eq_false (by omega)
      have pe : P x = (decide (x.Op = 5) && decide (x.N = n)) := by rw [hP]; simp [hr]
      by_cases h5 : x.Op = 5
      · have e5 : (x.Op == 5) = true := by simpa using h5
        by_cases hN : x.N = n
        · have eN : (x.N == n) = true := by simpa using hN
          (repeat (first | simp -dsimp -implicitDefEqProofs (disch := omega) only [↓rP, rQ, rO, rL, ↓reduceIte, Nat.reduceEqDiff, Nat.reduceAdd, Nat.reduceLeDiff, z01, z05, ↓tyr, er, er2, f0, f3, f4, e5, eN] | refine Cut.go ?_))
          exact yes (by rw [pe]; simp [h5, hN]) _ kpH
        · have eN : (x.N == n) = false := by simpa using hN
          (repeat (first | simp -dsimp -implicitDefEqProofs (disch := omega) only [↓rP, rQ, rO, rL, ↓reduceIte, Nat.reduceEqDiff, Nat.reduceAdd, Nat.reduceLeDiff, z01, z05, ↓tyr, er, er2, f0, f3, f4, e5, eN, wkP j (by omega)] | refine Cut.go ?_))
          rw [z0a]
          exact ⟨_, by omega, no (by rw [pe]; simp [hN])⟩
      · have e5 : (x.Op == 5) = false := by simpa using h5
        (repeat (first | simp -dsimp -implicitDefEqProofs (disch := omega) only [↓rP, rQ, rO, rL, ↓reduceIte, Nat.reduceEqDiff, Nat.reduceAdd, Nat.reduceLeDiff, z01, z05, ↓tyr, er, er2, f0, f3, f4, e5, wkP j (by omega)] | refine Cut.go ?_))
        rw [z0a]
        exact ⟨_, by omega, no (by rw [pe]; simp [h5])⟩
    · have er : decide (r < 0) = false := decide_eq_false hr
      have er2 : decide ((0 : Int) ≤ r) = true := decide_eq_true (by omega)
      have pe : P x = (decide (x.Op = 6) && decide (x.Rec = r) && decide (x.N = n)) := by rw [hP]; simp [hr]
      by_cases h6 : x.Op = 6
      · have e6 : (x.Op == 6) = true := by simpa using h6
        by_cases hR : x.Rec = r
        · have eR : (x.Rec == r) = true := by simpa using hR
          by_cases hN : x.N = n
          · have eN : (x.N == n) = true := by simpa using hN
            (repeat (first | simp -dsimp -implicitDefEqProofs (disch := omega) only [↓rP, rQ, rO, rL, ↓reduceIte, Nat.reduceEqDiff, Nat.reduceAdd, Nat.reduceLeDiff, z01, z05, ↓tyr, er, er2, f0, f3, f4, e6, eR, eN] | refine Cut.go ?_))
            exact yes (by rw [pe]; simp [h6, hR, hN]) _ kpH
          · have eN : (x.N == n) = false := by simpa using hN
            (repeat (first | simp -dsimp -implicitDefEqProofs (disch := omega) only [↓rP, rQ, rO, rL, ↓reduceIte, Nat.reduceEqDiff, Nat.reduceAdd, Nat.reduceLeDiff, z01, z05, ↓tyr, er, er2, f0, f3, f4, e6, eR, eN, wkP j (by omega)] | refine Cut.go ?_))
            rw [z0a]
            exact ⟨_, by omega, no (by rw [pe]; simp [hN])⟩
        · have eR : (x.Rec == r) = false := by simpa using hR
          (repeat (first | simp -dsimp -implicitDefEqProofs (disch := omega) only [↓rP, rQ, rO, rL, ↓reduceIte, Nat.reduceEqDiff, Nat.reduceAdd, Nat.reduceLeDiff, z01, z05, ↓tyr, er, er2, f0, f3, f4, e6, eR, wkP j (by omega)] | refine Cut.go ?_))
          rw [z0a]
          exact ⟨_, by omega, no (by rw [pe]; simp [hR])⟩
      · have e6 : (x.Op == 6) = false := by simpa using h6
        (repeat (first | simp -dsimp -implicitDefEqProofs (disch := omega) only [↓rP, rQ, rO, rL, ↓reduceIte, Nat.reduceEqDiff, Nat.reduceAdd, Nat.reduceLeDiff, z01, z05, ↓tyr, er, er2, f0, f3, f4, e6, wkP j (by omega)] | refine Cut.go ?_))
        rw [z0a]
        exact ⟨_, by omega, no (by rw [pe]; simp [h6])⟩
  · (repeat (first | simp -dsimp -implicitDefEqProofs (disch := omega) only [↓rP, rQ, rO, rL, ↓reduceIte, Nat.reduceEqDiff, Nat.reduceAdd, Nat.reduceLeDiff, z01, z05, ↓tyr] | refine Cut.go ?_))
    have e : j = L.length := by omega
    subst e
    rw [List.take_length] at ht
    exact h1 _ kp (by rw [hs]; exact ht)
theorem Stores_does (L : List In) (hL : L.length ≤ 1000) (r n : Int) (h : z04) : z03 Try.prog 14 [slAV 8 z0b.cells (some L), .int .i64 r, .int .i64 n] h (fun v h2 => v = .bool (storesR L r n) ∧ h2 = h) := by
  refine z03.forget trivial ?_
  apply padlockref13_Stores_wp
  have lL : ∀ (J : AV → Prop), pLen .slice (slAV 8 z0b.cells (some L)) J = J (.int .i64 L.length) := fun J => by simp
  (repeat (first | simp -dsimp -implicitDefEqProofs (disch := omega) only [↓rP, rQ, rO, rL, ↓reduceIte, Nat.reduceEqDiff, Nat.reduceAdd, Nat.reduceLeDiff, z01, z05, ↓tyr, ↓lL] | refine Cut.go ?_))
  refine stores_2 L hL r n h _ (fun hh kp e => ?_) (fun hh kp e => ?_)
  · (repeat (first | simp -dsimp -implicitDefEqProofs (disch := omega) only [↓rP, rQ, rO, rL, ↓reduceIte, Nat.reduceEqDiff, Nat.reduceAdd, Nat.reduceLeDiff, z01, z05, ↓tyr] | refine Cut.go ?_))
    exact ⟨by rw [e], kp⟩
  · (repeat (first | simp -dsimp -implicitDefEqProofs (disch := omega) only [↓rP, rQ, rO, rL, ↓reduceIte, Nat.reduceEqDiff, Nat.reduceAdd, Nat.reduceLeDiff, z01, z05, ↓tyr] | refine Cut.go ?_))
    exact ⟨by rw [e], kp⟩
end Go.Proofs.Ytnggcokgnblpgaa
end

section
/- What is known of a slot, by the document. -/
set_option maxRecDepth 8000
set_option maxHeartbeats 1000000
namespace Go.Proofs.Ytnggcokgnblpgaa
open Go.Abs
theorem ids_slAV {α : Type} {D : Nat → Prop} {sz : Nat} {enc : α → List AV} (he : ∀ x, idsInL D (enc x)) (o : Option (List α)) : z2v D (slAV sz enc o) := by
  cases o with
  | none => exact trivial
  | some l =>
    show idsInE D (l.map enc)
    induction l with
    | nil => exact trivial
    | cons a l ih => exact ⟨he a, ih⟩
theorem ids_instr (D : Nat → Prop) (x : In) : idsInL D x.cells := ⟨trivial, trivial, trivial, trivial, trivial, trivial, ids_slAV (enc := z0k.cells) (fun _ => ⟨trivial, trivial, trivial, trivial⟩) _, ids_slAV (enc := z0k.cells) (fun _ => ⟨trivial, trivial, trivial, trivial⟩) _, trivial⟩
theorem sl_code {b : Bd} {fr to : Nat} (hlt : fr < to) (hle : to < (slL b.Code).length) (J : AV → Prop) : z3y 8 (slAV 8 z0b.cells b.Code) (some (.int .i64 (fr : Nat))) (some (.int .i64 ((to + 1 : Nat) : Int))) J = J (slAV 8 z0b.cells (some (secL b fr to))) := by
  obtain ⟨l, el⟩ : ∃ l, b.Code = some l := by
    cases hc : b.Code with
    | none => rw [hc] at hle; simp at hle
    | some l => exact ⟨l, rfl⟩
  have e1 : slAV 8 z0b.cells (some (secL b fr to)) = .isl 8 (((l.map z0b.cells).take (to + 1)).drop fr) := by unfold secL; rw [el]; exact sl_slAV l fr (to + 1)
  rw [e1, el]
  rw [el] at hle
  simp only [slL_some] at hle
  simp only [z3y, slAV, bnd, Int.toNat_natCast, List.length_map]
  apply propext
  constructor
  · rintro ⟨-, -, -, -, hk⟩; exact hk
  · intro hk; exact ⟨trivial, by omega, by omega, by omega, hk⟩
theorem List_does {c : Cd} (wc : WfC c) {s : Nat} {sec : z0e} (hs : (slL c.Sections)[s]? = some sec) {t fr to : Nat} {b : Bd} (S : SecAt c sec t b fr to) (h : z04) :
    z03 Try.prog 13 [.agg c.cells, .int .i64 (s : Nat)] h (fun v h2 => v = slAV 8 z0b.cells (some (secL b fr to)) ∧ h2 = h) := by
  refine z03.forget (ids_slAV (ids_instr _) _) ?_
  have hsl := wc.slo t b S.bd
  have hlt := S.lt
  have hle := S.le
  apply padlockref13_List_wp
  (repeat simp -dsimp -implicitDefEqProofs (disch := omega) only [↓rP, rQ, rO, rL, ↓reduceIte, Nat.reduceEqDiff, Nat.reduceAdd, Nat.reduceLeDiff, z01, z05, ↓tyr, z0d hs, S.thr, z0d S.bd])
  rw [S.frm, S.to_, wkP to (by omega), sl_code hlt hle]
  (repeat simp -dsimp -implicitDefEqProofs (disch := omega) only [↓rP, rQ, rO, rL, ↓reduceIte, Nat.reduceEqDiff, Nat.reduceAdd, Nat.reduceLeDiff, z01, z05, ↓tyr])
  exact Keeps.one _ _
section
variable {G : z04} {id : Nat} {Z : List AV}
theorem st41 (ob : G.objs id = some (.row 41 Z)) (hZ : Z.length = 4) (a b c d : AV) (J : z04 → Prop) : z0y 4 (.ptr id 0) (.agg [a, b, c, d]) G J = J (G.put id (.row 41 [a, b, c, d])) := by
  have e : Z.drop 4 = [] := List.drop_of_length_le (by omega)
  simp only [z0y, ob]
  simp [hZ, e]
theorem ld41 (a b c d : AV) (J : AV → Prop) : z02 (some 4) (.ptr id 0) (G.put id (.row 41 [a, b, c, d])) J = J (.agg [a, b, c, d]) := by rw [z0o (put_new _ _ _)]; simp [z0h]
theorem stc41 (ob : G.objs id = some (.row 41 Z)) (hZ : Z.length = 4) (v : Vl) (J : z04 → Prop) : z0y 4 (.ptr id 0) (.agg v.cells) G J = J (G.put id (.row 41 v.cells)) := st41 ob hZ _ _ _ _ J
theorem ldc41 (v : Vl) (J : AV → Prop) : z02 (some 4) (.ptr id 0) (G.put id (.row 41 v.cells)) J = J (.agg v.cells) := ld41 _ _ _ _ J
end
theorem of_4 {L : List In} (hL : L.length ≤ 1000) (k : Int) {h1 h : z04} (kp1 : Keeps h1 h (fun _ => False)) (A1 A3 A4 A8 : AV) (Q : z1j → Fr → z04 → Prop)
    (hQ : ∀ hh av, Keeps h1 hh (fun _ => False) → Keeps h hh (fun _ => False) → GvAt 45 8 z0b.cells h.next hh av (byS L k) → Q (.exit 0) (frOf [(1, A1), (2, .int .i64 k), (3, A3), (4, A4), (8, A8), (9, slAV 8 z0b.cells (some L)), (10, av)]) hh) :
    WP Try.prog 151 (.loop c_padlockref13_of_4) (frOf [(1, A1), (2, .int .i64 k), (3, A3), (4, A4), (8, A8), (9, slAV 8 z0b.cells (some L)), (10, .nils), (18, slAV 8 z0b.cells (some L)), (19, .int .i64 L.length), (20, .int .i64 0)]) h Q := by
  obtain ⟨I, hI⟩ : ∃ I : Nat → Fr → z04 → Prop, I = (fun m fr hh => ∃ (j : Nat) (av : AV), m = L.length - j ∧ j ≤ L.length ∧ GvAt 45 8 z0b.cells h.next hh av (byS (L.take j) k) ∧ Keeps h hh (fun _ => False) ∧ fr = frOf [(1, A1), (2, .int .i64 k), (3, A3), (4, A4), (8, A8), (9, slAV 8 z0b.cells (some L)), (10, av), (18, slAV 8 z0b.cells (some L)), (19, .int .i64 L.length), (20, .int .i64 j)]) := ⟨_, rfl⟩
  refine z1u z0v (by kernel_rfl) I L.length (by rw [hI]; exact ⟨0, .nils, rfl, Nat.zero_le _, Or.inl ⟨rfl, rfl⟩, .refl _ _, rfl⟩) ?_
  intro m fr hh hi
  rw [hI] at hi
  obtain ⟨j, av, rfl, hj, gv, kp, rfl⟩ := hi
  apply padlockref13_of_loop4
  (repeat simp -dsimp -implicitDefEqProofs (disch := omega) only [↓rP, rQ, rO, rL, ↓reduceIte, Nat.reduceEqDiff, Nat.reduceAdd, Nat.reduceLeDiff, z01, z05, ↓tyr])
  refine z0i (fun hjl => ?_) (fun hjl => ?_)
  · obtain ⟨x, hx⟩ : ∃ x, L[j]? = some x := ⟨_, List.getElem?_eq_getElem (by omega)⟩
    have hx' : (slL (some L))[j]? = some x := hx
    have tk : L.take (j + 1) = L.take j ++ [x] := by rw [List.take_add_one, hx]; rfl
    have bs := byS_snoc (L.take j) x k
    rw [← tk] at bs
    have bl : (byS (L.take j) k).length ≤ 1000 := Nat.le_trans (wrW_le (L.take j) k) (by rw [List.length_take]; omega)
    obtain ⟨H, hH⟩ : ∃ H, H = hh.push (.row 45 x.cells) := ⟨_, rfl⟩
    have kH : Keeps hh H (fun _ => False) := by rw [hH]; exact Keeps.one _ _
    have kpH : Keeps h H (fun _ => False) := kp.go kH
    have gvH := gv.keep kH (fun _ _ e => e)
    have ob : H.objs hh.next = some (.row 45 x.cells) := by rw [hH]; exact z2h _ _
    have lc : ∀ J : AV → Prop, z02 (some 8) (.ptr hh.next 0) H J = J (.agg x.cells) := fun J => by rw [z0o ob]; exact z0b.call x J
    have b1 : ∀ (G : z04) (J : AV → z04 → Prop), z1d true { e := 45, sz := 8, by_ := 96 } [AV.int .i64 0, AV.int .i64 0, AV.int .i64 0, AV.int .i64 0, AV.int .i64 0, AV.int .i64 0, AV.nils, AV.nils] 1 [(0, .agg x.cells)] G J = J (.isl 8 [x.cells]) G := fun G J => by
      have hc : (AV.agg x.cells).cells = x.cells := rfl
      simp [z1d, fillE, z0b.cells, AV.fits, AV.cells, List.replicate]
    (repeat simp -dsimp -implicitDefEqProofs (disch := omega) only [↓rP, rQ, rO, rL, ↓reduceIte, Nat.reduceEqDiff, Nat.reduceAdd, Nat.reduceLeDiff, z01, z05, ↓tyr, z0d hx'])
    refine z03.go (Dst_does x _) ?_
    rw [← hH]
    by_cases hd : dstI x = k
    · have ed : (dstI x == k) = true := by simpa using hd
      rw [if_pos hd] at bs
      (repeat simp -dsimp -implicitDefEqProofs (disch := omega) only [↓rP, rQ, rO, rL, ↓reduceIte, Nat.reduceEqDiff, Nat.reduceAdd, Nat.reduceLeDiff, z01, z05, ↓tyr, ed, ↓lc, ↓b1])
      refine gvH.app kpH (by omega) (by omega) x _ fun av2 h2 g2 k2 => ?_
      (repeat simp -dsimp -implicitDefEqProofs (disch := omega) only [↓rP, rQ, rO, rL, ↓reduceIte, Nat.reduceEqDiff, Nat.reduceAdd, Nat.reduceLeDiff, z01, z05, ↓tyr, wkP j (by omega)])
      rw [z0a, hI]
      exact ⟨_, by omega, j + 1, av2, rfl, by omega, bs ▸ g2, k2, rfl⟩
    · have ed : (dstI x == k) = false := by simpa using hd
      rw [if_neg hd, List.append_nil] at bs
      (repeat simp -dsimp -implicitDefEqProofs (disch := omega) only [↓rP, rQ, rO, rL, ↓reduceIte, Nat.reduceEqDiff, Nat.reduceAdd, Nat.reduceLeDiff, z01, z05, ↓tyr, ed, wkP j (by omega)])
      rw [z0a, hI]
      exact ⟨_, by omega, j + 1, av, rfl, by omega, bs ▸ gvH, kpH, rfl⟩
  · (repeat simp -dsimp -implicitDefEqProofs (disch := omega) only [↓rP, rQ, rO, rL, ↓reduceIte, Nat.reduceEqDiff, Nat.reduceAdd, Nat.reduceLeDiff, z01, z05, ↓tyr])
    have e : j = L.length := by omega
    subst e
    rw [List.take_length] at gv
    exact hQ hh av (kp1.go kp) kp gv
end Go.Proofs.Ytnggcokgnblpgaa
end

section
/- What is known of a slot, by the document: going on by others. -/
set_option maxRecDepth 8000
set_option maxHeartbeats 1000000
namespace Go.Proofs.Ytnggcokgnblpgaa
open Go.Abs
theorem clone_slAV (o : Option (List Int)) (hb : (slL o).length ≤ 1000) (h : z04) (K : AV → z04 → Prop) (hK : ∀ v h2, ClonedQ (slL o) h v h2 → K v h2) : z3i true { e := 3, sz := 1, by_ := 8 } .eml (slAV 1 encI o) h K := by
  cases o with
  | none => exact hK _ _ (Or.inl ⟨rfl, Or.inr rfl, rfl⟩)
  | some l => exact clone_app l hb h K hK
def AnsQ (h : z04) (w : Vl) (v : AV) (h2 : z04) : Prop := RzV h2 (fun _ => False) v (.agg w.cells) ∧ Keeps h h2 (fun _ => False)
theorem ofV_FL (L : List In) (on : Int → Bool) : ∀ f, FL (ofV L on f) := by
  have st : ∀ G : In → Vl, (∀ x, (slL (G x).Path.Fields).length ≤ 3) → FL (z4f L on G) := fun G hG k => by
    unfold z4f
    split
    · simp [vWay]
    · split
      · exact hG _
      · simp [vUnk]
    · simp [vUnk]
  intro f
  induction f with
  | zero => exact st _ (fun x => by simp [vUnk])
  | succ f ih => exact st _ (fun x => ih.gives x)
theorem ans_done {c : Cd} {s slot fuel : Int} {h : z04} {w : Vl} (H : z03 Try.prog 21 [.agg c.cells, .int .i64 s, .int .i64 slot, .int .i64 fuel] h (fun v h2 => AnsQ h w v h2)) : z03 Try.prog 21 [.agg c.cells, .int .i64 s, .int .i64 slot, .int .i64 fuel] h (fun v h2 => v = .agg w.cells ∧ h2 = h) := by
  refine (z03.result (enc := fun q : Vl => .agg q.cells) (Q := fun q => q = w) (fun q _ => vl_ids _ q) (H.mono ?_)).mono ?_
  · rintro v h2 ⟨rz, kp⟩
    exact ⟨fun _ => False, w, rfl, rz, fun _ h => h.elim, kp⟩
  · rintro v h2 ⟨⟨q, rfl, rfl⟩, rfl⟩
    exact ⟨rfl, rfl⟩
theorem of_does {c : Cd} (hok : okC c = true) {s : Nat} {sec : z0e} (hs : (slL c.Sections)[s]? = some sec) {t fr to : Nat} {b : Bd} (S : SecAt c sec t b fr to) : ∀ (fuel : Nat), fuel ≤ 1000 → ∀ (k : Nat), k < (slL b.Slots).length → ∀ (h : z04),
    z03 Try.prog 21 [.agg c.cells, .int .i64 (s : Nat), .int .i64 (k : Nat), .int .i64 (fuel : Nat)] h (fun v h2 => v = .agg (ofV (secL b fr to) (onB b) fuel (k : Nat)).cells ∧ h2 = h) := by
  have wc := wf_of hok
  have hsl := wc.slo t b S.bd
  have wf := sec_wf wc S
  have hL := secL_len b fr to
  have lc : ∀ (H : z04) (K : AV → Prop), z02 (some 5) (.iptr c.cells) H K = K (.agg c.cells) := fun H K => by rw [z2j]; exact z0n.call c K
  intro fuel
  induction fuel using Nat.strongRecOn with
  | _ fuel ih =>
  intro hfu k hk h
  refine ans_done ?_
  obtain ⟨L, eL⟩ : ∃ L, L = secL b fr to := ⟨_, rfl⟩
  obtain ⟨W, eW⟩ : ∃ W, W = ofV (secL b fr to) (onB b) fuel (k : Nat) := ⟨_, rfl⟩
  rw [← eW]
  apply padlockref13_of_wp
  (repeat (first | simp -dsimp -implicitDefEqProofs (disch := omega) only [↓rP, rQ, rO, rL, ↓reduceIte, Nat.reduceEqDiff, Nat.reduceAdd, Nat.reduceLeDiff, z01, z05, ↓tyr, ↓lc] | refine Cut.go ?_))
  refine z03.go (List_does wc hs S _) ?_
  obtain ⟨H, hH⟩ : ∃ H, H = h.push (.row 41 [AV.int .i64 0, AV.bool false, AV.int .i64 0, AV.nils]) := ⟨_, rfl⟩
  have kH : Keeps h H (fun _ => False) := by rw [hH]; exact Keeps.one _ _
  have ob : H.objs h.next = some (.row 41 [AV.int .i64 0, AV.bool false, AV.int .i64 0, AV.nils]) := by rw [hH]; exact z2h _ _
  have hlt : h.next < H.next := by rw [hH]; exact Nat.lt_succ_self _
  have lL : ∀ (J : AV → Prop), pLen .slice (slAV 8 z0b.cells (some L)) J = J (.int .i64 L.length) := fun J => by simp
  rw [← hH, ← eL]
  rw [← eL] at hL wf eW
  (repeat (first | simp -dsimp -implicitDefEqProofs (disch := omega) only [↓rP, rQ, rO, rL, ↓reduceIte, Nat.reduceEqDiff, Nat.reduceAdd, Nat.reduceLeDiff, z01, z05, ↓tyr, ↓lL] | refine Cut.go ?_))
  refine of_4 (h1 := h) (by omega) (k : Nat) kH _ _ _ _ _ ?_
  intro hh av kp kpH gv
  have obh : hh.objs h.next = some (.row 41 [AV.int .i64 0, AV.bool false, AV.int .i64 0, AV.nils]) := by rw [kpH.objs _ hlt (by simp)]; exact ob
  have kq : ∀ {G : z04} (kG : Keeps h G (fun _ => False)) (o : AObj), Keeps h (G.put h.next o) (fun _ => False) := fun kG o => kG.putNew (Nat.le_refl _) o
  have unkE : ∀ (G : z04), Keeps h G (fun _ => False) → W = vUnk → AnsQ h W (.agg [AV.int .i64 0, AV.bool false, AV.int .i64 0, AV.nils]) G := fun G kG e => by
    rw [e]; exact ⟨RzV.same _, kG⟩
  have b0 : ∀ (J : AV → Prop), z01 [(0, 1), (1, 3)] [AV.int .i64 0, AV.bool false, AV.int .i64 0, AV.nils] [] J = J (.agg [AV.int .i64 0, AV.bool false, AV.int .i64 0, AV.nils]) := fun J => rfl
  have sE : ∀ G, W = z4f L (onB b) G (k : Nat) → byS L (k : Nat) = [] → W = vWay false (k : Nat) := fun G e hb => by rw [e]; unfold z4f; rw [hb]
  have eW0 : ∃ G, W = z4f L (onB b) G (k : Nat) := by
    cases fuel with
    | zero => exact ⟨_, eW⟩
    | succ f => exact ⟨_, eW⟩
  cases hb : byS L (k : Nat) with
  | nil =>
    rw [hb] at gv
    have hW : W = vWay false (k : Nat) := by obtain ⟨G, e⟩ := eW0; exact sE G e hb
    have b1 : ∀ J : AV → Prop, z01 [(0, 1), (1, 1), (2, 1)] [AV.bool false, AV.int .i64 0, AV.nils] [(1, .int .i64 (k : Nat))] J = J (.agg [.bool false, .int .i64 (k : Nat), .nils]) := fun J => rfl
    have b2 : ∀ J : AV → Prop, z01 [(0, 1), (1, 3)] [AV.int .i64 0, AV.bool false, AV.int .i64 0, AV.nils] [(0, .int .i64 2), (1, .agg [.bool false, .int .i64 (k : Nat), .nils])] J = J (.agg (vWay false (k : Nat)).cells) := fun J => rfl
    have gl := gv.len
    simp only [List.length_nil] at gl
    (repeat (first | simp -dsimp -implicitDefEqProofs (disch := omega) only [↓rP, rQ, rO, rL, ↓reduceIte, Nat.reduceEqDiff, Nat.reduceAdd, Nat.reduceLeDiff, z01, z05, ↓tyr, ↓gl, ↓b1, ↓b2, ↓stc41 obh rfl, ↓ldc41] | refine Cut.go ?_))
    rw [hW]
    exact ⟨RzV.same _, kq kp _⟩
  | cons x l =>
    rw [hb] at gv
    have gl := gv.len
    have hbl : (x :: l).length ≤ 1000 := by rw [← hb]; exact Nat.le_trans (wrW_le L (k : Nat)) (by omega)
    have el0 : ((((x :: l).length : Nat) : Int) == 0) = false := by simp; omega
    cases hl : l with
    | cons y l2 =>
      subst hl
      have hW : W = vUnk := by obtain ⟨G, e⟩ := eW0; rw [e]; unfold z4f; rw [hb]
      have el1 : decide ((1 : Int) < (((x :: y :: l2).length : Nat) : Int)) = true := by simp; omega
      (repeat (first | simp -dsimp -implicitDefEqProofs (disch := omega) only [↓rP, rQ, rO, rL, ↓reduceIte, Nat.reduceEqDiff, Nat.reduceAdd, Nat.reduceLeDiff, z01, z05, ↓tyr, ↓gl, el0, el1] | refine Cut.go ?_))
      unfold z2w
      (repeat (first | simp -dsimp -implicitDefEqProofs (disch := omega) only [↓rP, rQ, rO, rL, ↓reduceIte, Nat.reduceEqDiff, Nat.reduceAdd, Nat.reduceLeDiff, z01, z05, ↓tyr, ↓b0, ↓st41 obh rfl, ↓ld41] | refine Cut.go ?_))
      exact unkE _ (kq kp _) hW
    | nil =>
      subst hl
      have el1 : decide ((1 : Int) < ((([x] : List In).length : Nat) : Int)) = false := by simp
      by_cases hf0 : fuel = 0
      · subst hf0
        have hW : W = vUnk := by rw [eW]; show z4f L (onB b) (fun _ => vUnk) (k : Nat) = _; unfold z4f; rw [hb]; simp only; split <;> rfl
        (repeat (first | simp -dsimp -implicitDefEqProofs (disch := omega) only [↓rP, rQ, rO, rL, ↓reduceIte, Nat.reduceEqDiff, Nat.reduceAdd, Nat.reduceLeDiff, z01, z05, ↓tyr, ↓gl, el0, el1] | refine Cut.go ?_))
        unfold z2w
        (repeat (first | simp -dsimp -implicitDefEqProofs (disch := omega) only [↓rP, rQ, rO, rL, ↓reduceIte, Nat.reduceEqDiff, Nat.reduceAdd, Nat.reduceLeDiff, z01, z05, ↓tyr, ↓b0, ↓st41 obh rfl, ↓ld41] | refine Cut.go ?_))
        exact unkE _ (kq kp _) hW
      obtain ⟨f, rfl⟩ : ∃ f, fuel = f + 1 := ⟨fuel - 1, by omega⟩
      have ef0 : ((((f + 1 : Nat) : Int)) == 0) = false := by simp; omega
      have hWs : W = if onB b (k : Nat) = true then z1w L (ofV L (onB b) f) x else vUnk := by
        rw [eW]; show z4f L (onB b) (fun x => z1w L (ofV L (onB b) f) x) (k : Nat) = _; unfold z4f; rw [hb]
      obtain ⟨lo, hlo⟩ : ∃ lo, (slL b.Slots)[k]? = some lo := ⟨_, List.getElem?_eq_getElem hk⟩
      have eon := on_at hlo
      rw [eon] at hWs
      (repeat (first | simp -dsimp -implicitDefEqProofs (disch := omega) only [↓rP, rQ, rO, rL, ↓reduceIte, Nat.reduceEqDiff, Nat.reduceAdd, Nat.reduceLeDiff, z01, z05, ↓tyr, ↓gl, el0, el1, ef0, z0d hs, S.thr, z0d S.bd, z0d hlo] | refine Cut.go ?_))
      cases hon : lo.Once with
      | false =>
        rw [hon] at hWs
        unfold z2w
        (repeat (first | simp -dsimp -implicitDefEqProofs (disch := omega) only [↓rP, rQ, rO, rL, ↓reduceIte, Nat.reduceEqDiff, Nat.reduceAdd, Nat.reduceLeDiff, z01, z05, ↓tyr, ↓b0, ↓st41 obh rfl, ↓ld41] | refine Cut.go ?_))
        exact unkE _ (kq kp _) hWs
      | true =>
      rw [hon, if_pos rfl] at hWs
      have gi : ∀ J : AV → Prop, z09 (.slice 8) av (.int .i64 0) J = J (.iptr x.cells) := fun J => gv.ix (k := 0) rfl .i64 J
      have hxL : x ∈ L := by
        have : x ∈ byS L (k : Nat) := by rw [hb]; simp
        exact (List.mem_filter.1 this).1
      have wx := wf x hxL
      obtain ⟨X, hX⟩ : ∃ X, X = hh.push (.row 45 x.cells) := ⟨_, rfl⟩
      have kX : Keeps hh X (fun _ => False) := by rw [hX]; exact Keeps.one _ _
      have kpX : Keeps h X (fun _ => False) := kp.go kX
      have hlt2 : h.next < hh.next := Nat.lt_of_lt_of_le hlt kpH.next
      have obX : X.objs h.next = some (.row 41 [AV.int .i64 0, AV.bool false, AV.int .i64 0, AV.nils]) := by rw [kX.objs _ hlt2 (by simp)]; exact obh
      have oI : X.objs hh.next = some (.row 45 x.cells) := by rw [hX]; exact z2h _ _
      have f2 : ∀ {G : z04} (hG : G.objs hh.next = some (.row 45 x.cells)) (J : AV → Prop), z02 none (.ptr hh.next 2) G J = J (.int .i64 x.Src) := fun hG J => by rw [z0o hG]; rfl
      have f3 : ∀ {G : z04} (hG : G.objs hh.next = some (.row 45 x.cells)) (J : AV → Prop), z02 none (.ptr hh.next 3) G J = J (.int .i64 x.Rec) := fun hG J => by rw [z0o hG]; rfl
      have f4 : ∀ {G : z04} (hG : G.objs hh.next = some (.row 45 x.cells)) (J : AV → Prop), z02 none (.ptr hh.next 4) G J = J (.int .i64 x.N) := fun hG J => by rw [z0o hG]; rfl
      have f6 : ∀ (J : AV → Prop), z02 none (.ptr hh.next 6) X J = J (slAV 3 z0k.cells x.Items) := fun J => by rw [z0o oI]; rfl
      have es : IntKind.i64.wrap (((f + 1 : Nat) : Int) - 1) = (f : Nat) := by rw [wrapI (by omega) (by omega)]; omega
      have b1 : ∀ (J : AV → Prop), z01 [(0, 1), (1, 3)] [AV.int .i64 0, AV.bool false, AV.int .i64 0, AV.nils] [(0, AV.int .i64 1)] J = J (.agg [AV.int .i64 1, AV.bool false, AV.int .i64 0, AV.nils]) := fun J => rfl
      have b2 : ∀ (n : Int) (J : AV → Prop), z01 [(0, 1), (1, 1), (2, 1)] [AV.bool false, AV.int .i64 0, AV.nils] [(0, AV.bool true), (1, AV.int .i64 n)] J = J (.agg [AV.bool true, AV.int .i64 n, AV.nils]) := fun n J => rfl
      have b3 : ∀ (a b c : AV) (J : AV → Prop), z01 [(0, 1), (1, 3)] [AV.int .i64 0, AV.bool false, AV.int .i64 0, AV.nils] [(0, AV.int .i64 2), (1, .agg [a, b, c])] J = J (.agg [AV.int .i64 2, a, b, c]) := fun a b c J => rfl
      have ihf := ih f (by omega) (by omega)
      rw [← eL] at ihf
      unfold z2w
      (repeat (first | simp -dsimp -implicitDefEqProofs (disch := omega) only [↓rP, rQ, rO, rL, ↓reduceIte, Nat.reduceEqDiff, Nat.reduceAdd, Nat.reduceLeDiff, z01, z05, ↓tyr, ↓gi] | refine Cut.go ?_))
      rw [← hX]
      by_cases h8 : x.Op = 8 ∨ x.Op = 9
      · have hW : W = vFresh := by rw [hWs]; unfold z1w; rw [if_pos h8]
        rw [hW]
        rcases h8 with h8 | h8
        · refine z0x (fun h2 => ?_) (fun h2 => absurd h8 h2)
          (repeat (first | simp -dsimp -implicitDefEqProofs (disch := omega) only [↓rP, rQ, rO, rL, ↓reduceIte, Nat.reduceEqDiff, Nat.reduceAdd, Nat.reduceLeDiff, z01, z05, ↓tyr, ↓b1, ↓st41 obX rfl, ↓ld41] | refine Cut.go ?_))
          exact ⟨RzV.same _, kq kpX _⟩
        · refine z0x (fun h2 => absurd h2 (by omega)) (fun h2 => ?_)
          have e9 : (x.Op == 9) = true := by simpa using h8
          (repeat (first | simp -dsimp -implicitDefEqProofs (disch := omega) only [↓rP, rQ, rO, rL, ↓reduceIte, Nat.reduceEqDiff, Nat.reduceAdd, Nat.reduceLeDiff, z01, z05, ↓tyr, e9, ↓b1, ↓st41 obX rfl, ↓ld41] | refine Cut.go ?_))
          exact ⟨RzV.same _, kq kpX _⟩
      refine z0x (fun h2 => absurd (Or.inl h2) h8) (fun _ => ?_)
      have e9 : (x.Op == 9) = false := by simp; omega
      (repeat (first | simp -dsimp -implicitDefEqProofs (disch := omega) only [↓rP, rQ, rO, rL, ↓reduceIte, Nat.reduceEqDiff, Nat.reduceAdd, Nat.reduceLeDiff, z01, z05, ↓tyr, e9] | refine Cut.go ?_))
      refine z0x (fun h1 => ?_) (fun h1 => ?_)
      · -- a value
        have ev : W = itemV (ofV L (onB b) f) (slL x.Items) := by rw [hWs]; unfold z1w; rw [if_neg h8, if_pos h1]
        rw [ev] at unkE ⊢
        (repeat (first | simp -dsimp -implicitDefEqProofs (disch := omega) only [↓rP, rQ, rO, rL, ↓reduceIte, Nat.reduceEqDiff, Nat.reduceAdd, Nat.reduceLeDiff, z01, z05, ↓tyr, f6] | refine Cut.go ?_))
        refine z0x (fun h2 => ?_) (fun h2 => ?_)
        · obtain ⟨y, hy⟩ : ∃ y, slL x.Items = [y] := List.length_eq_one_iff.1 (by omega)
          have hx0 : (slL x.Items)[((0 : Nat))]? = some y := by rw [hy]; rfl
          have ix0 : ∀ J : AV → Prop, z09 (.slice 3) (slAV 3 z0k.cells x.Items) (.int .i64 0) J = J (.iptr y.cells) := fun J => z0d hx0 .i64 J
          have hitem := (wx.items (Or.inl h1)).1 y (by rw [hy]; simp)
          (repeat (first | simp -dsimp -implicitDefEqProofs (disch := omega) only [↓rP, rQ, rO, rL, ↓reduceIte, Nat.reduceEqDiff, Nat.reduceAdd, Nat.reduceLeDiff, z01, z05, ↓tyr, ↓ix0, f6] | refine Cut.go ?_))
          by_cases h3 : y.Op = 2
          · have e3 : (y.Op == 2) = true := by simpa using h3
            have hyl := hitem h3
            have iv : itemV (ofV L (onB b) f) (slL x.Items) = ofV L (onB b) f (y.N : Nat) := by rw [hy]; simp [itemV, h3]
            have cv : ∀ (J : AV → Prop), pConv (.int .i64) (.int .u64 (y.N : Int)) X J = J (.int .i64 (y.N : Nat)) := fun J => by
              have : IntKind.i64.wrap (y.N : Int) = y.N := wrapI (by omega) (by omega)
              simp [pConv, this]
            rw [iv]
            (repeat (first | simp -dsimp -implicitDefEqProofs (disch := omega) only [↓rP, rQ, rO, rL, ↓reduceIte, Nat.reduceEqDiff, Nat.reduceAdd, Nat.reduceLeDiff, z01, z05, ↓tyr, e3, ↓ix0, f6, ↓lc, ↓cv, es] | refine Cut.go ?_))
            refine z03.go (ihf y.N hyl X) ?_
            (repeat (first | simp -dsimp -implicitDefEqProofs (disch := omega) only [↓rP, rQ, rO, rL, ↓reduceIte, Nat.reduceEqDiff, Nat.reduceAdd, Nat.reduceLeDiff, z01, z05, ↓tyr, ↓stc41 obX rfl, ↓ldc41] | refine Cut.go ?_))
            exact ⟨RzV.same _, kq kpX _⟩
          · have e3 : (y.Op == 2) = false := by simpa using h3
            have iv : itemV (ofV L (onB b) f) (slL x.Items) = vUnk := by rw [hy]; simp [itemV, h3]
            (repeat (first | simp -dsimp -implicitDefEqProofs (disch := omega) only [↓rP, rQ, rO, rL, ↓reduceIte, Nat.reduceEqDiff, Nat.reduceAdd, Nat.reduceLeDiff, z01, z05, ↓tyr, e3, ↓b0, ↓st41 obX rfl, ↓ld41] | refine Cut.go ?_))
            exact unkE _ (kq kpX _) iv
        · have iv : itemV (ofV L (onB b) f) (slL x.Items) = vUnk := by
            unfold itemV
            split
            · rename_i y hy; rw [hy] at h2; exact absurd rfl h2
            · rfl
          (repeat (first | simp -dsimp -implicitDefEqProofs (disch := omega) only [↓rP, rQ, rO, rL, ↓reduceIte, Nat.reduceEqDiff, Nat.reduceAdd, Nat.reduceLeDiff, z01, z05, ↓tyr, ↓b0, ↓st41 obX rfl, ↓ld41] | refine Cut.go ?_))
          exact unkE _ (kq kpX _) iv
      (repeat (first | simp -dsimp -implicitDefEqProofs (disch := omega) only [↓rP, rQ, rO, rL, ↓reduceIte, Nat.reduceEqDiff, Nat.reduceAdd, Nat.reduceLeDiff, z01, z05, ↓tyr] | refine Cut.go ?_))
      refine z0x (fun h2 => ?_) (fun h2 => ?_)
      · -- a global
        have ev : W = if storeG L x.N then vUnk else vWay true x.N := by rw [hWs]; unfold z1w; rw [if_neg h8, if_neg h1, if_pos h2]
        (repeat (first | simp -dsimp -implicitDefEqProofs (disch := omega) only [↓rP, rQ, rO, rL, ↓reduceIte, Nat.reduceEqDiff, Nat.reduceAdd, Nat.reduceLeDiff, z01, z05, ↓tyr, f4 oI] | refine Cut.go ?_))
        refine z03.go (Stores_does L (by omega) (-1) x.N _) ?_
        have er : storesR L (-1) x.N = storeG L x.N := by unfold storesR; rw [if_pos (by omega)]
        rw [er]
        cases hsg : storeG L x.N with
        | true =>
          rw [hsg] at ev
          (repeat (first | simp -dsimp -implicitDefEqProofs (disch := omega) only [↓rP, rQ, rO, rL, ↓reduceIte, Nat.reduceEqDiff, Nat.reduceAdd, Nat.reduceLeDiff, z01, z05, ↓tyr, ↓b0, ↓st41 obX rfl, ↓ld41] | refine Cut.go ?_))
          exact unkE _ (kq kpX _) ev
        | false =>
          rw [hsg] at ev
          rw [ev]
          (repeat (first | simp -dsimp -implicitDefEqProofs (disch := omega) only [↓rP, rQ, rO, rL, ↓reduceIte, Nat.reduceEqDiff, Nat.reduceAdd, Nat.reduceLeDiff, z01, z05, ↓tyr, f4 oI, ↓b2, ↓b3, ↓st41 obX rfl, ↓ld41] | refine Cut.go ?_))
          exact ⟨RzV.same _, kq kpX _⟩
      (repeat (first | simp -dsimp -implicitDefEqProofs (disch := omega) only [↓rP, rQ, rO, rL, ↓reduceIte, Nat.reduceEqDiff, Nat.reduceAdd, Nat.reduceLeDiff, z01, z05, ↓tyr] | refine Cut.go ?_))
      refine z0x (fun h3 => ?_) (fun h3 => ?_)
      · -- a field
        obtain ⟨r, hr, -, hsrc⟩ := wx.fld (Or.inl h3)
        have hr0 := (getI_btw hr).1
        obtain ⟨m, em, hm⟩ := btw_nat hsrc
        obtain ⟨V, eV⟩ : ∃ V, V = ofV L (onB b) f (m : Nat) := ⟨_, rfl⟩
        have hV3 : (slL V.Path.Fields).length ≤ 3 := by rw [eV]; exact ofV_FL L (onB b) f _
        have ev : W = if V.Kind = 2 ∧ (slL V.Path.Fields).length ≤ 2 ∧ storeF L x.Rec x.N = false then longV V x.N else vUnk := by
          rw [hWs]; unfold z1w; rw [if_neg h8, if_neg h1, if_neg h2, if_pos h3, em, ← eV]
        have er : storesR L x.Rec x.N = storeF L x.Rec x.N := by unfold storesR; rw [if_neg (by omega)]
        obtain ⟨Y, hY⟩ : ∃ Y, Y = X.push (.row 41 V.cells) := ⟨_, rfl⟩
        have kY : Keeps X Y (fun _ => False) := by rw [hY]; exact Keeps.one _ _
        have hltX : h.next < X.next := Nat.lt_of_lt_of_le hlt2 kX.next
        have hltX2 : hh.next < X.next := by rw [hX]; exact Nat.lt_succ_self _
        have obY : Y.objs h.next = some (.row 41 [AV.int .i64 0, AV.bool false, AV.int .i64 0, AV.nils]) := by rw [kY.objs _ hltX (by simp)]; exact obX
        have oIY : Y.objs hh.next = some (.row 45 x.cells) := by rw [kY.objs _ hltX2 (by simp)]; exact oI
        have oV : Y.objs X.next = some (.row 41 V.cells) := by rw [hY]; exact z2h _ _
        have g0 : ∀ J : AV → Prop, z02 none (.ptr X.next 0) Y J = J (.int .i64 V.Kind) := fun J => by rw [z0o oV]; rfl
        have g3 : ∀ J : AV → Prop, z02 none (.ptr X.next 3) Y J = J (slAV 1 encI V.Path.Fields) := fun J => by rw [z0o oV]; rfl
        (repeat (first | simp -dsimp -implicitDefEqProofs (disch := omega) only [↓rP, rQ, rO, rL, ↓reduceIte, Nat.reduceEqDiff, Nat.reduceAdd, Nat.reduceLeDiff, z01, z05, ↓tyr, ↓lc, f2 oI, em, es] | refine Cut.go ?_))
        refine z03.go (ihf m hm X) ?_
        rw [← eV]
        (repeat (first | simp -dsimp -implicitDefEqProofs (disch := omega) only [↓rP, rQ, rO, rL, ↓reduceIte, Nat.reduceEqDiff, Nat.reduceAdd, Nat.reduceLeDiff, z01, z05, ↓tyr] | refine Cut.go ?_))
        rw [← hY]
        by_cases hk2 : V.Kind = 2
        · have ek : (V.Kind == 2) = true := by simpa using hk2
          (repeat (first | simp -dsimp -implicitDefEqProofs (disch := omega) only [↓rP, rQ, rO, rL, ↓reduceIte, Nat.reduceEqDiff, Nat.reduceAdd, Nat.reduceLeDiff, z01, z05, ↓tyr, g0, ek, g3] | refine Cut.go ?_))
          by_cases hl3 : (slL V.Path.Fields).length ≤ 2
          · have el : decide (((slL V.Path.Fields).length : Int) ≤ 2) = true := by simp; omega
            (repeat (first | simp -dsimp -implicitDefEqProofs (disch := omega) only [↓rP, rQ, rO, rL, ↓reduceIte, Nat.reduceEqDiff, Nat.reduceAdd, Nat.reduceLeDiff, z01, z05, ↓tyr, el, f3 oIY, f4 oIY] | refine Cut.go ?_))
            refine z03.go (Stores_does L (by omega) x.Rec x.N _) ?_
            rw [er]
            rcases Bool.eq_false_or_eq_true (storeF L x.Rec x.N) with hs2 | hs2
            · rw [if_neg (fun h => by rw [hs2] at h; cases h.2.2)] at ev
              (repeat (first | simp -dsimp -implicitDefEqProofs (disch := omega) only [↓rP, rQ, rO, rL, ↓reduceIte, Nat.reduceEqDiff, Nat.reduceAdd, Nat.reduceLeDiff, z01, z05, ↓tyr, hs2, ↓b0, ↓st41 obY rfl, ↓ld41] | refine Cut.go ?_))
              exact unkE _ (kq (kpX.go kY) _) ev
            · rw [if_pos ⟨hk2, hl3, hs2⟩] at ev
              have be : ∀ (G : z04) (K : AV → z04 → Prop), z1d false { e := 3, sz := 1, by_ := 8 } [AV.int .i64 0] 0 [] G K = K .eml G := fun G K => rfl
              have bn : ∀ (G : z04) (K : AV → z04 → Prop), z1d true { e := 3, sz := 1, by_ := 8 } [AV.int .i64 0] 1 [(0, .int .i64 x.N)] G K = K (.isl 1 [[.int .i64 x.N]]) G := fun G K => by
                simp [z1d, fillE, AV.fits, AV.cells, List.replicate]
              (repeat (first | simp -dsimp -implicitDefEqProofs (disch := omega) only [↓rP, rQ, rO, rL, ↓reduceIte, Nat.reduceEqDiff, Nat.reduceAdd, Nat.reduceLeDiff, z01, z05, ↓tyr, hs2, ↓be, g3, f4 oIY] | refine Cut.go ?_))
              unfold padlockref13_of_wp_p1
              (repeat (first | simp -dsimp -implicitDefEqProofs (disch := omega) only [↓rP, rQ, rO, rL, ↓reduceIte, Nat.reduceEqDiff, Nat.reduceAdd, Nat.reduceLeDiff, z01, z05, ↓tyr, ↓bn] | refine Cut.go ?_))
              refine clone_slAV V.Path.Fields (by omega) _ _ fun v1 Z1 hq => ?_
              have kZ1 : Keeps Y Z1 (fun _ => False) := by
                rcases hq with ⟨_, _, rfl⟩ | ⟨_, _, rfl⟩
                · exact Keeps.refl _ _
                · exact Keeps.one _ _
              have hXY : X.next < Y.next := by rw [hY]; exact Nat.lt_succ_self _
              have oI1 : Z1.objs hh.next = some (.row 45 x.cells) := by rw [kZ1.objs _ (Nat.lt_trans hltX2 hXY) (by simp)]; exact oIY
              (repeat (first | simp -dsimp -implicitDefEqProofs (disch := omega) only [↓rP, rQ, rO, rL, ↓reduceIte, Nat.reduceEqDiff, Nat.reduceAdd, Nat.reduceLeDiff, z01, z05, ↓tyr, f4 oI1] | refine Cut.go ?_))
              refine app_one hq (by omega) x.N _ fun id Z2 kZ2 => ?_
              have oV2 : Z2.objs X.next = some (.row 41 V.cells) := by rw [kZ2.objs _ hXY (by simp)]; exact oV
              have ob2 : Z2.objs h.next = some (.row 41 [AV.int .i64 0, AV.bool false, AV.int .i64 0, AV.nils]) := by rw [kZ2.objs _ (Nat.lt_trans hltX hXY) (by simp)]; exact obY
              obtain ⟨Z3, hZ3⟩ : ∃ Z3, Z3 = Z2.put X.next (.row 41 [.int .i64 V.Kind, .bool V.Path.Global, .int .i64 V.Path.N, .gsl id 1 ((slL V.Path.Fields ++ [x.N]).map encI)]) := ⟨_, rfl⟩
              have st3 : ∀ J : z04 → Prop, z0y 1 (.ptr X.next 3) (.gsl id 1 ((slL V.Path.Fields ++ [x.N]).map encI)) Z2 J = J Z3 := fun J => by
                rw [hZ3, pStore_ptr oV2 rfl (by simp [z0l.cells])]; rfl
              have ld3 : ∀ J : AV → Prop, z02 (some 4) (.ptr X.next 0) Z3 J = J (.agg [.int .i64 V.Kind, .bool V.Path.Global, .int .i64 V.Path.N, .gsl id 1 ((slL V.Path.Fields ++ [x.N]).map encI)]) := fun J => by rw [hZ3]; exact ld41 _ _ _ _ J
              have ob3 : Z3.objs h.next = some (.row 41 [AV.int .i64 0, AV.bool false, AV.int .i64 0, AV.nils]) := by rw [hZ3, put_old (by omega)]; exact ob2
              have kp3 : Keeps h Z3 (fun _ => False) := by rw [hZ3]; exact ((kpX.go kY).go kZ2).putNew (by omega) _
              (repeat (first | simp -dsimp -implicitDefEqProofs (disch := omega) only [↓rP, rQ, rO, rL, ↓reduceIte, Nat.reduceEqDiff, Nat.reduceAdd, Nat.reduceLeDiff, z01, z05, ↓tyr, ↓st3, ↓ld3, ↓st41 ob3 rfl, ↓ld41] | refine Cut.go ?_))
              rw [ev, hk2]
              exact ⟨RzV.agg (RzL.cons (RzV.same _) (RzL.cons (RzV.same _) (RzL.cons (RzV.same _) (RzL.cons (RzV.gsl (by simp; omega) (RzE.same _ _)) RzL.nil)))), kq kp3 _⟩
          · have el : decide (((slL V.Path.Fields).length : Int) ≤ 2) = false := by simp; omega
            rw [if_neg (fun h => hl3 h.2.1)] at ev
            (repeat (first | simp -dsimp -implicitDefEqProofs (disch := omega) only [↓rP, rQ, rO, rL, ↓reduceIte, Nat.reduceEqDiff, Nat.reduceAdd, Nat.reduceLeDiff, z01, z05, ↓tyr, el, ↓b0, ↓st41 obY rfl, ↓ld41] | refine Cut.go ?_))
            exact unkE _ (kq (kpX.go kY) _) ev
        · have ek : (V.Kind == 2) = false := by simpa using hk2
          rw [if_neg (fun h => hk2 h.1)] at ev
          (repeat (first | simp -dsimp -implicitDefEqProofs (disch := omega) only [↓rP, rQ, rO, rL, ↓reduceIte, Nat.reduceEqDiff, Nat.reduceAdd, Nat.reduceLeDiff, z01, z05, ↓tyr, g0, ek, ↓b0, ↓st41 obY rfl, ↓ld41] | refine Cut.go ?_))
          exact unkE _ (kq (kpX.go kY) _) ev
      · have ev : W = vUnk := by rw [hWs]; unfold z1w; rw [if_neg h8, if_neg h1, if_neg h2, if_neg h3]
        (repeat (first | simp -dsimp -implicitDefEqProofs (disch := omega) only [↓rP, rQ, rO, rL, ↓reduceIte, Nat.reduceEqDiff, Nat.reduceAdd, Nat.reduceLeDiff, z01, z05, ↓tyr, ↓b0, ↓st41 obX rfl, ↓ld41] | refine Cut.go ?_))
        exact unkE _ (kq kpX _) ev
end Go.Proofs.Ytnggcokgnblpgaa
end

section
/- The document's Of; the sample at work. -/
set_option maxRecDepth 8000
set_option maxHeartbeats 1000000
namespace Go.Proofs.Ytnggcokgnblpgaa
open Go.Abs
theorem bslV (x : Vl) (G : z04) (J : AV → z04 → Prop) : z1d true { e := 41, sz := 4, by_ := 48 } [AV.int .i64 0, AV.bool false, AV.int .i64 0, AV.nils] 1 [(0, .agg x.cells)] G J = J (.isl 4 [x.cells]) G := by
  simp [z1d, fillE, z0l.cells, AV.fits, AV.cells, List.replicate]
theorem rof_6 {c : Cd} (hok : okC c = true) {s : Nat} {sec : z0e} (hs : (slL c.Sections)[s]? = some sec) {t fr to : Nat} {b : Bd} (S : SecAt c sec t b fr to) (hn : (slL b.Slots).length ≤ 100) (h : z04) (Q : z1j → Fr → z04 → Prop)
    (hQ : ∀ hh av, Keeps h hh (fun _ => False) → GvAt 41 4 z0l.cells h.next hh av (pathL b (secL b fr to)) → Q (.exit 0) (frOf [(5, av)]) hh) :
    WP Try.prog 48 (.loop c_padlockref13_Of_6) (frOf [(1, .int .i64 (s : Nat)), (2, .iptr c.cells), (5, .nils), (6, .int .i64 (slL b.Slots).length), (7, .int .i64 0)]) h Q := by
  have lc : ∀ (H : z04) (K : AV → Prop), z02 (some 5) (.iptr c.cells) H K = K (.agg c.cells) := fun H K => by rw [z2j]; exact z0n.call c K
  obtain ⟨n, en⟩ : ∃ n, n = (slL b.Slots).length := ⟨_, rfl⟩
  obtain ⟨F, eF⟩ : ∃ F : Nat → Vl, F = fun k => ofV (secL b fr to) (onB b) n (k : Nat) := ⟨_, rfl⟩
  have eP : pathL b (secL b fr to) = (List.range n).map F := by unfold pathL; rw [← en, eF]
  rw [eP] at hQ
  rw [← en]
  obtain ⟨I, hI⟩ : ∃ I : Nat → Fr → z04 → Prop, I = (fun m fr hh => ∃ (j : Nat) (av : AV), m = n - j ∧ j ≤ n ∧ GvAt 41 4 z0l.cells h.next hh av ((List.range j).map F) ∧ Keeps h hh (fun _ => False) ∧ fr = frOf [(1, .int .i64 (s : Nat)), (2, .iptr c.cells), (5, av), (6, .int .i64 n), (7, .int .i64 j)]) := ⟨_, rfl⟩
  refine z1u z0v (by kernel_rfl) I n (by rw [hI]; exact ⟨0, .nils, rfl, Nat.zero_le _, Or.inl ⟨rfl, rfl⟩, .refl _ _, rfl⟩) ?_
  intro m fr' hh hi
  rw [hI] at hi
  obtain ⟨j, av, rfl, hj, gv, kp, rfl⟩ := hi
  apply padlockref13_Of_loop6
  (repeat simp -dsimp -implicitDefEqProofs (disch := omega) only [↓rP, rQ, rO, rL, ↓reduceIte, Nat.reduceEqDiff, Nat.reduceAdd, Nat.reduceLeDiff, z01, z05, ↓tyr])
  refine z0i (fun hjl => ?_) (fun hjl => ?_)
  · (repeat simp -dsimp -implicitDefEqProofs (disch := omega) only [↓rP, rQ, rO, rL, ↓reduceIte, Nat.reduceEqDiff, Nat.reduceAdd, Nat.reduceLeDiff, z01, z05, ↓tyr, ↓lc])
    refine z03.go (of_does hok hs S n (by omega) j (by omega) hh) ?_
    have ej : ofV (secL b fr to) (onB b) n (j : Nat) = F j := by rw [eF]
    rw [ej]
    (repeat simp -dsimp -implicitDefEqProofs (disch := omega) only [↓rP, rQ, rO, rL, ↓reduceIte, Nat.reduceEqDiff, Nat.reduceAdd, Nat.reduceLeDiff, z01, z05, ↓tyr, ↓bslV])
    refine gv.app kp (by simp; omega) (by omega) (F j) _ fun av2 h2 g2 k2 => ?_
    (repeat simp -dsimp -implicitDefEqProofs (disch := omega) only [↓rP, rQ, rO, rL, ↓reduceIte, Nat.reduceEqDiff, Nat.reduceAdd, Nat.reduceLeDiff, z01, z05, ↓tyr, wkP j (by omega)])
    rw [z0a, hI]
    refine ⟨_, by omega, j + 1, av2, rfl, by omega, ?_, k2, rfl⟩
    rw [List.range_succ, List.map_append]
    exact g2
  · (repeat simp -dsimp -implicitDefEqProofs (disch := omega) only [↓rP, rQ, rO, rL, ↓reduceIte, Nat.reduceEqDiff, Nat.reduceAdd, Nat.reduceLeDiff, z01, z05, ↓tyr])
    have e : j = n := by omega
    subst e
    exact hQ hh av kp gv
theorem rOf_does (c : Cd) (hc : c.ok) (sm : Small c) (s : Int) (h : z04) : z03 Try.prog 11 [.agg c.cells, .int .i64 s] h (fun v h2 => (∃ o, v = slAV 4 z0l.cells o ∧ slL o = slL (pathO c s)) ∧ h2 = h) := by
  refine z03.result (enc := fun o : Option (List Vl) => slAV 4 z0l.cells o) (Q := fun o => slL o = slL (pathO c s)) (fun o _ => ids_vls _ o) ?_
  have lc : ∀ (H : z04) (K : AV → Prop), z02 (some 5) (.iptr c.cells) H K = K (.agg c.cells) := fun H K => by rw [z2j]; exact z0n.call c K
  have none_ : pathO c s = none → ∃ (D : Nat → Prop) (o : Option (List Vl)), slL o = slL (pathO c s) ∧ RzV h D .nils (slAV 4 z0l.cells o) ∧ (∀ i, D i → h.next ≤ i ∧ h.objs i ≠ none) ∧ Keeps h h (fun _ => False) := fun e => ⟨fun _ => False, none, by rw [e], RzV.same _, fun _ h => h.elim, .refl _ _⟩
  apply padlockref13_Of_wp
  (repeat simp -dsimp -implicitDefEqProofs (disch := omega) only [↓rP, rQ, rO, rL, ↓reduceIte, Nat.reduceEqDiff, Nat.reduceAdd, Nat.reduceLeDiff, z01, z05, ↓tyr, ↓lc])
  refine z03.go (ref_Good_c c hc sm _) ?_
  cases hok : okC c with
  | false =>
    have hn : pathO c s = none := by unfold pathO; rw [if_neg (by rw [hok]; simp)]
    (repeat simp -dsimp -implicitDefEqProofs (disch := omega) only [↓rP, rQ, rO, rL, ↓reduceIte, Nat.reduceEqDiff, Nat.reduceAdd, Nat.reduceLeDiff, z01, z05, ↓tyr])
    exact none_ hn
  | true =>
    have wc := wf_of hok
    by_cases h0 : s < 0
    · have e0 : decide (s < 0) = true := decide_eq_true h0
      have hn : pathO c s = none := by
        unfold pathO; rw [if_pos hok]
        have : getI (slL c.Sections) s = none := by unfold getI; rw [if_neg (by omega)]
        rw [this]
      (repeat simp -dsimp -implicitDefEqProofs (disch := omega) only [↓rP, rQ, rO, rL, ↓reduceIte, Nat.reduceEqDiff, Nat.reduceAdd, Nat.reduceLeDiff, z01, z05, ↓tyr, e0])
      exact none_ hn
    have e0 : decide (s < 0) = false := decide_eq_false h0
    by_cases h1 : (slL c.Sections).length ≤ s
    · have e1 : decide (((slL c.Sections).length : Int) ≤ s) = true := decide_eq_true h1
      have hn : pathO c s = none := by
        unfold pathO; rw [if_pos hok]
        have : getI (slL c.Sections) s = none := by unfold getI; rw [if_pos (by omega)]; exact List.getElem?_eq_none (by omega)
        rw [this]
      (repeat simp -dsimp -implicitDefEqProofs (disch := omega) only [↓rP, rQ, rO, rL, ↓reduceIte, Nat.reduceEqDiff, Nat.reduceAdd, Nat.reduceLeDiff, z01, z05, ↓tyr, e0, e1])
      exact none_ hn
    have e1 : decide (((slL c.Sections).length : Int) ≤ s) = false := decide_eq_false h1
    obtain ⟨k, rfl⟩ : ∃ k : Nat, s = k := ⟨s.toNat, by omega⟩
    obtain ⟨sec, hs⟩ : ∃ sec, (slL c.Sections)[k]? = some sec := ⟨_, List.getElem?_eq_getElem (by omega)⟩
    obtain ⟨t, b, fr, to, S⟩ := sec_of hok hs
    have hsl := wc.slo t b S.bd
    (repeat simp -dsimp -implicitDefEqProofs (disch := omega) only [↓rP, rQ, rO, rL, ↓reduceIte, Nat.reduceEqDiff, Nat.reduceAdd, Nat.reduceLeDiff, z01, z05, ↓tyr, e0, e1, z0d hs, S.thr, z0d S.bd])
    refine rof_6 hok hs S (by omega) h _ ?_
    intro hh av kp gv
    (repeat simp -dsimp -implicitDefEqProofs (disch := omega) only [↓rP, rQ, rO, rL, ↓reduceIte, Nat.reduceEqDiff, Nat.reduceAdd, Nat.reduceLeDiff, z01, z05, ↓tyr])
    rw [pathO_some hok hs S]
    have hpl : (pathL b (secL b fr to)).length ≤ 100 := by unfold pathL; simp; omega
    refine ⟨fun _ => False, some (pathL b (secL b fr to)), rfl, gv.rz (by omega), fun _ h => h.elim, kp⟩
/-! The sample -/
theorem bsl_four (e : TypeId) (sz by_ : Nat) (z c0 c1 c2 c3 : List AV) (h : z04) (K : AV → z04 → Prop) : z1d true { e := e, sz := sz, by_ := by_ } z 4 [(0, .agg c0), (1, .agg c1), (2, .agg c2), (3, .agg c3)] h K = (4 * sz ≤ 16777216 ∧ z.length = sz ∧ c0.length = sz ∧ c1.length = sz ∧ c2.length = sz ∧ c3.length = sz ∧ K (.isl sz [c0, c1, c2, c3]) h) := by
  simp [z1d, fillE, AV.fits, AV.cells]
  by_cases h0 : c0.length = sz <;> by_cases h1 : c1.length = sz <;> by_cases h2 : c2.length = sz <;> by_cases h3 : c3.length = sz <;> simp [h0, h1, h2, h3, List.replicate]
def paB : Bd := ⟨some [⟨1, 0, true⟩, ⟨1, 0, false⟩], some [⟨15, 0, 0, 0, 0, 0, none, none⟩, ⟨2, 0, 0, 0, 0, 0, none, none⟩, ⟨16, 0, 0, 0, 0, 0, none, none⟩, ⟨17, 0, 0, 0, 0, 0, none, none⟩], 0⟩
def paC : Cd := ⟨none, some [⟨1, 0, false⟩], some [paB], none, some [⟨0, 0, 2⟩]⟩
theorem paC_ok : paC.ok := by
  simp [paC, paB, z0n.ok, z0z.ok, z0b.ok, z0f.ok, z0k.ok, z15.ok, z0e.ok, okSl, okI, okT, okN, maxLen]
theorem paC_small : Small paC := small_of (by decide +kernel)
theorem paC_yes : okC paC = true := by
  have ht : threadsB paC = true := by
    unfold threadsB
    rw [z2y]
    intro t b hb
    have : t = 0 := by
      have := (List.getElem?_eq_some_iff.1 hb).1
      simpa [paC] using this
    subst this
    obtain rfl : paB = b := by simpa [paC] using hb
    have hi : instrsB paC ((0 : Nat) : Int) paB = true := by
      unfold instrsB
      rw [z2y]
      intro k x hx
      have hk : k < 4 := by
        have := (List.getElem?_eq_some_iff.1 hx).1
        simpa [paB] using this
      rcases (by omega : k = 0 ∨ k = 1 ∨ k = 2 ∨ k = 3) with rfl | rfl | rfl | rfl
      all_goals (simp [paB] at hx; subst hx)
      · decide +kernel
      · decide +kernel
      · decide +kernel
      · decide +kernel
    have hb : bodyB paC paB = true := by decide +kernel
    have hl : lastB paB = true := by decide +kernel
    unfold threadB
    rw [hb, hl, hi]; rfl
  unfold okC
  rw [ht]
  decide +kernel
theorem paC_path : pathO paC 0 = some [vWay true 0, vWay false 1] := by
  have h := pathO_some paC_yes (s := 0) (sec := ⟨0, 0, 2⟩) rfl (t := 0) (b := paB) (fr := 0) (to := 2) ⟨rfl, rfl, rfl, rfl, by decide, by decide⟩
  have e : pathL paB (secL paB 0 2) = [vWay true 0, vWay false 1] := by decide +kernel
  rw [e] at h
  exact h
theorem alive13_k (h : z04) : z03 Try.prog 7 [] h (fun v h2 => v = .bool true ∧ Keeps h h2 (fun _ => False)) := by
  apply padlocklaw13_alive_wp
  (repeat simp -dsimp -implicitDefEqProofs (disch := omega) only [↓rP, rQ, rO, rL, ↓reduceIte, Nat.reduceEqDiff, Nat.reduceAdd, Nat.reduceLeDiff, z01, z05, ↓tyr, bsl_one, bsl_two, bsl_four, fits_isl, cells_isl])
  refine ⟨by decide, by decide, ?_⟩
  rw [z2d (by rfl) (by rfl)]
  change @later (z04 → Prop) _ _ (h.push (.row 28 paC.cells))
  (repeat simp -dsimp -implicitDefEqProofs (disch := omega) only [↓rP, rQ, rO, rL, ↓reduceIte, Nat.reduceEqDiff, Nat.reduceAdd, Nat.reduceLeDiff, z01, z05, ↓tyr])
  refine z03.go (Of_does paC paC_ok paC_small 0 _) ?_
  rw [paC_path]
  have i0 : ∀ J : AV → Prop, z09 (.slice 4) (slAV 4 z0l.cells (some [vWay true 0, vWay false 1])) (.int .i64 0) J = J (.iptr (vWay true 0).cells) := fun J => z0d (k := 0) rfl .i64 J
  have i1 : ∀ J : AV → Prop, z09 (.slice 4) (slAV 4 z0l.cells (some [vWay true 0, vWay false 1])) (.int .i64 1) J = J (.iptr (vWay false 1).cells) := fun J => z0d (k := 1) rfl .i64 J
  have l2 : ∀ J : AV → Prop, pLen .slice (slAV 4 z0l.cells (some [vWay true 0, vWay false 1])) J = J (.int .i64 2) := fun J => by simp
  have a0 : ∀ (G : z04) (g : Bool) (n : Int) (J : AV → Prop), z02 none (.iptr (vWay g n).cells) G J = J (.int .i64 2) := fun G g n J => by rw [z2j]; rfl
  have a1 : ∀ (G : z04) (g : Bool) (n : Int) (J : AV → Prop), z02 none (.iptr ((vWay g n).cells.drop 1)) G J = J (.bool g) := fun G g n J => by rw [z2j]; rfl
  have a2 : ∀ (G : z04) (g : Bool) (n : Int) (J : AV → Prop), z02 none (.iptr (((vWay g n).cells.drop 1).drop 1)) G J = J (.int .i64 n) := fun G g n J => by rw [z2j]; rfl
  (repeat simp -dsimp -implicitDefEqProofs (disch := omega) only [↓rP, rQ, rO, rL, ↓reduceIte, Nat.reduceEqDiff, Nat.reduceAdd, Nat.reduceLeDiff, z01, z05, ↓tyr, ↓l2, ↓i0, ↓i1, ↓a0, ↓a1, ↓a2, Int.reduceBEq])
  exact ⟨rfl, Keeps.one _ _⟩
theorem alive13_does (h : z04) : z03 Try.prog 7 [] h (fun v h2 => v = .bool true ∧ h2 = h) := z03.forget (by simp [z2v]) (alive13_k h)
end Go.Proofs.Ytnggcokgnblpgaa
end

