/- Slices that are laid, conversions, the small rest. -/
import Derived.Test.YtopfjochppdnfaaDoorAbsPrim2
set_option linter.unusedVariables false
set_option linter.unusedSimpArgs false
namespace Go.Abs
open Go.RowKit

section
variable {P : Program} {B : Nat} {c : Ctx} {h : AHeap} {w : World}

theorem range_flatten (z : Array Value) (k : Nat) (hk : z.size = k) (hp : 0 < k) : ∀ n, (List.range (n * k)).map (fun i => z[i % k]!) = (List.replicate n z.toList).flatten
  | 0 => by simp
  | n + 1 => by
    rw [Nat.add_mul, Nat.one_mul, List.range_add, List.map_append, range_flatten z k hk hp n, List.replicate_succ', List.flatten_append]
    congr 1
    simp only [List.flatten_cons, List.flatten_nil, List.append_nil, List.map_map]
    apply List.ext_getElem?
    intro j
    by_cases hj : j < k
    · simp [hj, Nat.mod_eq_of_lt hj, hk]
    · simp [hj, hk]

theorem made_toList (z : Array Value) (n : Nat) (hp : 0 < z.size) : (madeCells z (n * z.size)).toList = (List.replicate n z.toList).flatten := by
  rw [← range_flatten z z.size rfl hp n]
  simp only [madeCells, Array.toList_map, Array.toList_range]

theorem LRel.replicate {as : List AV} {vs : List Value} (hr : LRel c w as vs) : ∀ n, LRel c w (List.replicate n as).flatten (List.replicate n vs).flatten
  | 0 => by simp [LRel]
  | n + 1 => by
    simp only [List.replicate_succ, List.flatten_cons]
    exact hr.append (LRel.replicate hr n)

theorem one_replicate {vs : List Value} (h1 : ∀ u ∈ vs, u.oneCell' = true) (n : Nat) : ∀ u ∈ (List.replicate n vs).flatten, u.oneCell' = true := by
  intro u hu
  obtain ⟨l, hl, hu⟩ := List.mem_flatten.1 hu
  rw [List.eq_of_mem_replicate hl] at hu
  exact h1 u hu

theorem flatten_set {sz : Nat} {cs : List AV} (hc : cs.length = sz) : ∀ (es : List (List AV)) (i : Nat), (∀ e ∈ es, e.length = sz) → i < es.length → (es.set i cs).flatten = es.flatten.take (i * sz) ++ cs ++ es.flatten.drop (i * sz + sz)
  | [], i, _, hi => by simp at hi
  | e :: es, 0, hl, _ => by
    have he := hl e (by simp)
    simp [List.drop_append, ← he]
  | e :: es, i + 1, hl, hi => by
    have he := hl e (by simp)
    simp only [List.set_cons_succ, List.flatten_cons]
    rw [flatten_set hc es i (fun x hx => hl x (by simp [hx])) (by simpa using hi)]
    rw [List.take_append, List.drop_append, he]
    rw [show (i + 1) * sz = i * sz + sz by rw [Nat.add_mul]; omega]
    rw [List.take_of_length_le (l := e) (by omega), List.drop_eq_nil_of_le (as := e) (by omega)]
    rw [show i * sz + sz - sz = i * sz by omega, show i * sz + sz + sz - sz = i * sz + sz by omega]
    simp

theorem flatten_len {sz : Nat} {es : List (List AV)} (hl : ∀ e ∈ es, e.length = sz) : es.flatten.length = es.length * sz := by
  induction es with
  | nil => simp
  | cons e es ih => simp only [List.flatten_cons, List.length_append, List.length_cons, hl e (by simp), ih (fun x hx => hl x (by simp [hx])), Nat.add_mul]; omega

theorem fillE_fillA {sz : Nat} : ∀ (parts : List (Nat × AV)) (es es' : List (List AV)), (∀ e ∈ es, e.length = sz) → fillE sz es parts = some es' → fillA (fun i => some (i * sz, sz)) es.flatten parts = some es'.flatten ∧ (∀ e ∈ es', e.length = sz) ∧ es'.length = es.length := by
  intro parts
  induction parts with
  | nil => intro es es' hl hf; simp only [fillE, Option.some.injEq] at hf; subst hf; exact ⟨rfl, hl, rfl⟩
  | cons p parts ih =>
    obtain ⟨i, a⟩ := p
    intro es es' hl hf
    simp only [fillE] at hf
    split at hf <;> (try (cases hf; done))
    rename_i hh
    obtain ⟨g1, g2, g3⟩ := hh
    obtain ⟨k1, k2, k3⟩ := ih (es.set i a.cells) es' (by
      intro e he
      rcases List.mem_or_eq_of_mem_set he with he | rfl
      · exact hl e he
      · exact g2) hf
    refine ⟨?_, k2, by simpa using k3⟩
    simp only [fillA]
    rw [if_pos]
    · rw [flatten_set g2 es i hl g3] at k1; exact k1
    · refine ⟨g1, g2, ?_⟩
      rw [flatten_len hl]
      have : (i + 1) * sz ≤ es.length * sz := Nat.mul_le_mul_right _ (by omega)
      rw [Nat.add_mul] at this; omega

theorem pBuildSl_sound (W : WRel B c h w) {im : Bool} {t : TypeId} {T : SlT} {zs : List AV} {len : Nat} {parts : List (Nat × AV)} {vs : Array (Nat × Value)} {K : AV → AHeap → Prop} (hT : slT P t = some T) (hz : zeroK P T.e = some zs) (hp : len = 0 → vs.toList = []) (hv : PRel c w parts vs.toList)
    (H : pBuildSl im T zs len parts h K) : Does P B c w (Instr.buildSlice t len vs) K := by
  obtain ⟨i, z, ht, hi, hzz, hzs, hpos, hsz, hby⟩ := slT_inv hT
  obtain ⟨i', z', hi', hzz', h1, rfl⟩ := zeroK_inv hz
  rw [hi] at hi'; cases hi'
  rw [hzz] at hzz'; cases hzz'
  cases len with
  | zero =>
    simp only [pBuildSl] at H
    have hvs : vs.toList = [] := hp rfl
    refine ⟨c, .slice (some ⟨w.heap.size, 0, none⟩) 0 0, .eml, h, w.alloc (.cells #[] T.e), ?_, Ext.alloc W _, W.alloc _, by simp only [VRel]; exact ⟨_, rfl⟩, H⟩
    have e0 : (Array.range 0) = #[] := by simp [Array.range]
    simp [Instr.buildSlice, run_underlying ht, sizeOf, typeInfo, hi, hvs, Instr.fill, newRow, e0]
  | succ n =>
    simp only [pBuildSl] at H
    obtain ⟨hbig, hzl, H⟩ := H
    split at H
    · rename_i es hes
      have hzl' : z.cells.size = T.sz := by simpa using hzl
      obtain ⟨f1, f2, f3⟩ := fillE_fillA parts _ es (by intro e he; rw [List.eq_of_mem_replicate he]; exact hzl) hes
      have hC0 : (madeCells z.cells ((n + 1) * T.sz)).toList = (List.replicate (n + 1) z.cells.toList).flatten := by
        rw [← hzl', made_toList _ _ (by omega)]
      obtain ⟨R, r1, r2, r3⟩ := fillA_sound parts vs.toList _ (madeCells z.cells ((n + 1) * T.sz)) _ hv (by rw [hC0]; exact LRel.replicate (ofLeafs_rel c w _) (n + 1)) (by rw [hC0]; exact one_replicate h1 _) f1
      have hRs : R.size = (n + 1) * T.sz := by
        have := r2.length
        rw [flatten_len f2, f3, List.length_replicate] at this
        simpa using this
      have hesl : es.length = n + 1 := by rw [f3, List.length_replicate]
      have hrun : (Instr.buildSlice t (n + 1) vs).run P w = .ok (.slice (some ⟨w.heap.size, 0, none⟩) (n + 1) (n + 1)) (w.alloc (.cells R T.e)) := by
        have hne : ¬ ((n + 1) * T.sz = 0) := by
          have : 0 < (n + 1) * T.sz := Nat.mul_pos (by omega) (by omega)
          omega
        have hnb : ¬ ((n + 1) * T.sz > 2 ^ 24) := by omega
        have hf : Instr.fill (fun i => some (i * T.sz, T.sz)) ((Array.range ((n + 1) * T.sz)).map (z.cells[· % z.cells.size]!)) vs.toList = some R := r1
        unfold Instr.buildSlice
        simp only [Sem.run_bind, run_underlying ht, Result.andThen_ok, run_sizeOf' (show szK P T.e = some T.sz by simp [szK, hi, hsz])]
        rw [if_neg hnb, if_neg hne]
        simp only [Sem.run_bind, zeroValue, typeInfo, run_program, Result.andThen_ok, hi, Sem.run_pure, hzz, hf]
        simp [newRow]
      cases im with
      | true =>
        obtain ⟨c', E, W', hM⟩ := W.newIm R T.e es.flatten r2 r3
        refine ⟨c', _, _, _, _, hrun, E, W', ?_, by simpa using H⟩
        simp only [VRel]
        refine ⟨some ⟨w.heap.size, 0, none⟩, n + 1, by rw [hesl], by omega, ?_, fun _ => ⟨_, _, rfl, ERel.ofMRel f2 hM⟩⟩
        rw [hesl]
        have : (n + 1) * 1 ≤ (n + 1) * T.sz := Nat.mul_le_mul_left _ (by omega)
        omega
      | false =>
        obtain ⟨c', E, W', hm⟩ := W.newRow R T.e es.flatten r2 r3
        refine ⟨c', _, _, _, _, hrun, E, W', ?_, by simpa using H⟩
        simp only [VRel]
        refine ⟨_, n + 1, T.e, hm, rfl, Nat.le_refl _, ?_, ⟨R, heap_alloc_new w _, by omega⟩⟩
        have : (n + 1) * 1 ≤ (n + 1) * T.sz := Nat.mul_le_mul_left _ (by omega)
        simp only [maxLen]; omega
    · exact H.elim

theorem repC_eq (n : Nat) (z : List AV) : repC n z = (List.replicate n z).flatten := by
  unfold repC
  split
  · rename_i a
    induction n with
    | zero => rfl
    | succ n ih => simp [List.replicate_succ, ← ih]
  · rfl

theorem pMakeSl_sound (W : WRel B c h w) {t : TypeId} {T : SlT} {zs : List AV} {l k : AV} {u v : Value} {K : AV → AHeap → Prop} (hT : slT P t = some T) (hz : zeroK P T.e = some zs) (hl : VRel c w l u) (hk : VRel c w k v)
    (H : pMakeSl T zs l k h K) : Does P B c w (Instr.makeSlice t u v) K := by
  obtain ⟨i, z, ht, hi, hzz, hzs, hpos, hsz, hby⟩ := slT_inv hT
  obtain ⟨i', z', hi', hzz', h1, rfl⟩ := zeroK_inv hz
  rw [hi] at hi'; cases hi'
  rw [hzz] at hzz'; cases hzz'
  unfold pMakeSl at H
  split at H
  · rename_i kl l kc k
    obtain ⟨h0, hlk, h63, hbb, hzl, H⟩ := H
    have := hl.int_inv; subst this
    have := hk.int_inv; subst this
    have hr := run_make (P := P) w t T.e i z ht hi hzz kl kc l k h0 hlk (by rw [hby]; exact hbb) h63
    have hzl' : z.cells.size = T.sz := by simpa using hzl
    have hC : (madeCells z.cells (k.toNat * T.sz)).toList = (List.replicate k.toNat z.cells.toList).flatten := by rw [← hzl', made_toList _ _ (by omega)]
    rw [hsz] at hr
    have hlen : (repC l.toNat (z.cells.toList.map ofLeaf)).length = l.toNat * T.sz := by
      rw [repC_eq, flatten_len (sz := T.sz) (by intro e he; rw [List.eq_of_mem_replicate he]; exact hzl), List.length_replicate]
    have htk : (madeCells z.cells (k.toNat * T.sz)).toList.take (l.toNat * T.sz) = (List.replicate l.toNat z.cells.toList).flatten := by
      rw [hC, show k.toNat = l.toNat + (k.toNat - l.toNat) by omega, ← List.replicate_append_replicate, List.flatten_append]
      have : l.toNat * T.sz = (List.replicate l.toNat z.cells.toList).flatten.length := by
        simp [List.length_flatten, hzl']
      rw [this]; exact List.take_left
    have W1 := W.alloc (.cells (madeCells z.cells (k.toNat * T.sz)) T.e)
    have E1 := Ext.alloc W (.cells (madeCells z.cells (k.toNat * T.sz)) T.e)
    have hle : l.toNat * T.sz ≤ k.toNat * T.sz := Nat.mul_le_mul_right _ (by omega)
    obtain ⟨E2, W2⟩ := W1.name (b := w.heap.size) (.row T.e (repC l.toNat (z.cells.toList.map ofLeaf))) W.base (by simp) (fun i hi => absurd (W.mlt i _ hi).2.2 (by omega))
      ⟨madeCells z.cells (k.toNat * T.sz), heap_alloc_new w _, by rw [hlen, size_madeCells]; exact hle, by rw [hlen, htk, repC_eq]; exact LRel.replicate (ofLeafs_rel _ _ _) _, by rw [hlen, htk]; exact one_replicate h1 _, fun o ho => absurd (W.im _ _ ho) (by omega)⟩
    refine ⟨_, _, _, _, _, hr, E1.trans E2, W2, ?_, H⟩
    simp only [VRel]
    refine ⟨w.heap.size, k.toNat, T.e, by simp [Ctx.withM], rfl, by omega, by simp only [maxLen]; omega, ⟨_, heap_alloc_new w _, by rw [size_madeCells]; omega⟩⟩
  · exact H.elim

theorem bytesOf_sound : ∀ (es : List (List AV)) (s : List UInt8) (news : List Value), bytesOf es = some s → LRel c w es.flatten news → ∃ ns : List Int, news = ns.map (Value.int .u8) ∧ s = ns.map (fun n => UInt8.ofNat n.toNat) ∧ es.length = ns.length
  | [], s, news, hb, hr => by
    simp only [bytesOf, Option.some.injEq] at hb; subst hb
    simp only [List.flatten_nil, LRel] at hr; subst hr
    exact ⟨[], rfl, rfl, rfl⟩
  | e :: es, s, news, hb, hr => by
    unfold bytesOf at hb
    split at hb
    · rename_i h0; cases h0
    · rename_i n es' heq
      cases heq
      obtain ⟨s', hs', rfl⟩ := Option.map_eq_some_iff.1 hb
      simp only [List.flatten_cons, List.cons_append, List.nil_append, LRel] at hr
      obtain ⟨v, vs', rfl, hv, hr⟩ := hr
      obtain ⟨ns, rfl, rfl, hl⟩ := bytesOf_sound es s' vs' hs' hr
      have := hv.int_inv; subst this
      exact ⟨n :: ns, by simp, by simp, by simp [hl]⟩
    · cases hb

theorem srcElems_shape {sz : Nat} {x : AV} {u : Value} {es : List (List AV)} (hx : VRel c w x u) (hs : ∀ s, x ≠ .str s) (hse : srcElems sz x h = some es) : (∃ k, u = .slice none 0 k ∧ es = []) ∨ ∃ a k, u = .slice (some a) es.length k := by
  unfold srcElems at hse
  split at hse
  · split at hse <;> (try (cases hse; done))
    cases hse
    simp only [VRel] at hx
    obtain ⟨a, cap, rfl, _, _, hne⟩ := hx
    cases a with
    | some a => exact Or.inr ⟨_, _, rfl⟩
    | none =>
      cases es with
      | nil => exact Or.inl ⟨cap, rfl, rfl⟩
      | cons e es => obtain ⟨b, o, h, _⟩ := hne (by simp); cases h
  · split at hse <;> (try (cases hse; done))
    cases hse
    simp only [VRel] at hx
    obtain ⟨b, cap, ty, _, rfl, _⟩ := hx
    exact Or.inr ⟨_, _, rfl⟩
  · cases hse; simp only [VRel] at hx; subst hx; exact Or.inl ⟨0, rfl, rfl⟩
  · cases hse; simp only [VRel] at hx; obtain ⟨a, rfl⟩ := hx; exact Or.inr ⟨a, 0, rfl⟩
  · exact absurd rfl (hs _)
  · split at hse <;> (try (cases hse; done))
    split at hse <;> (try (cases hse; done))
    cases hse
    simp only [VRel] at hx
    obtain ⟨b, cap, ty, _, rfl, _⟩ := hx
    exact Or.inr ⟨⟨b, _, none⟩, cap, by rw [chunk_length]⟩
  · cases hse

theorem pConv_sound (W : WRel B c h w) {src dst : TypeId} {ck : CvK} {x : AV} {u : Value} {K : AV → AHeap → Prop} (hk : convK P src dst = some ck) (hx : VRel c w x u) (H : pConv ck x h (fun v => K v h)) : Does P B c w (convert src dst u) K := by
  unfold convK at hk
  split at hk
  · rename_i k0 k hs hd
    cases hk
    unfold pConv at H
    cases x <;> simp only at H <;> (try (exact H.elim))
    have := hx.int_inv; subst this
    exact Does.pure_ W (by simp [convert, run_underlying hs, run_underlying hd, Conv.intToInt]; rfl) (by simp [VRel]) H
  · rename_i k0 k hs hd
    cases hk
    unfold pConv at H
    cases x <;> simp only at H <;> (try (exact H.elim))
    have := hx.int_inv; subst this
    exact Does.pure_ W (by simp [convert, run_underlying hs, run_underlying hd, Conv.intToFloat]; rfl) (by simp [VRel]) H
  · rename_i s0 k hs hd
    cases hk
    unfold pConv at H
    cases x <;> simp only at H <;> (try (exact H.elim))
    rename_i s b
    simp only [VRel] at hx
    subst hx
    cases hf : floatToIntVal s b k with
    | none => simp [hf] at H
    | some n =>
      simp only [hf] at H
      exact Does.pure_ W (run_convert_float_int w src dst s k b n (by simp [hs]) hd hf) (by simp [VRel]) H
  · rename_i hs hd
    cases hk
    unfold pConv at H
    cases x <;> simp only at H <;> (try (exact H.elim))
    have := hx.str_inv; subst this
    exact Does.pure_ W (by simp [convert, run_underlying hs, run_underlying hd]; rfl) (by simp [VRel]) H
  · rename_i e hs hd
    split at hk
    · rename_i he
      cases hk
      have hnstr : ∀ s, x ≠ .str s := by rintro s rfl; simp [pConv] at H
      have H' : match srcElems 1 x h with | some es => (match bytesOf es with | some s => K (.str s) h | none => False) | none => False := by
        cases x <;> first | exact H | exact absurd rfl (hnstr _)
      cases hse : srcElems 1 x h with
      | none => simp [hse] at H'
      | some es =>
        simp only [hse] at H'
        cases hby : bytesOf es with
        | none => simp [hby] at H'
        | some s =>
          simp only [hby] at H'
          obtain ⟨news, S, hr, _⟩ := srcElems_sound (P := P) W (u := src) (by simp [srcT, hs]) hx hse
          obtain ⟨ns, hn1, hn2, hn3⟩ := bytesOf_sound es s news hby hr
          rcases srcElems_shape hx hnstr hse with ⟨k, rfl, rfl⟩ | ⟨a, k, rfl⟩
          · simp only [bytesOf, Option.some.injEq] at hby
            subst hby
            exact Does.pure_ W (u := .string ByteArray.empty) (by simp [convert, run_underlying hs, run_underlying hd, run_underlying he, Conv.bytesToString]) (by simp [VRel]; rfl) H'
          · have hc := S.cells w (fun _ => rfl)
            simp only [Builtin.firstCells, Nat.mul_one] at hc
            rw [hn1] at hc
            have hb := run_bytesToString (P := P) w a es.length k ns hc
            refine Does.pure_ W (u := .string ⟨s.toArray⟩) ?_ (by simp [VRel]) H'
            simp only [convert, Sem.run_bind, run_underlying hs, run_underlying hd, Result.andThen_ok, run_underlying he, hb]
            rw [foldl_push_bytes, hn2]
            simp [ByteArray.empty, ByteArray.emptyWithCapacity]
            rfl
    · cases hk
  · cases hk

theorem unA_sound {op : UnOp} {x : AV} {u : Value} {r : AV} (hx : VRel c w x u) (hr : unA op x = some r) : ∃ z, (Op.unary op u).run P w = .ok z w ∧ VRel c w r z := by
  unfold unA at hr
  split at hr <;> (try (cases hr; done)) <;> cases hr
  · have := hx.int_inv; subst this
    exact ⟨_, by simp [Op.unary, Op.intArith]; rfl, by simp [VRel]⟩
  · have := hx.int_inv; subst this
    exact ⟨_, by simp [Op.unary, Op.intBits]; rfl, by simp [VRel, iXor]⟩
  · have := hx.bool_inv; subst this
    exact ⟨_, by simp [Op.unary]; rfl, by simp [VRel]⟩
  · simp only [VRel] at hx; obtain ⟨b, rfl⟩ := hx
    exact ⟨_, by simp [Op.unary]; rfl, by simp [VRel]⟩

theorem maxA_sound : ∀ (as : List AV) (vs : List Value) (r : AV) (ts : Array TypeId) (ty : TypeId), LRel c w as vs → maxA as = some r → ∃ z, (Builtin.max_ ts ty vs.toArray).run P w = .ok z w ∧ VRel c w r z := by
  intro as
  induction hn : as.length using Nat.strongRecOn generalizing as with
  | _ n ih =>
    intro vs r ts ty hr hm
    unfold maxA at hm
    split at hm
    · cases hm
      simp only [LRel] at hr
      obtain ⟨v, vs', rfl, hv, rfl⟩ := hr
      have := hv.int_inv; subst this
      exact ⟨_, by simp [Builtin.max_]; rfl, by simp [VRel]⟩
    · rename_i k x k' y rest
      simp only [LRel] at hr
      obtain ⟨v, vs', rfl, hv, v2, vs2, rfl, hv2, hrest⟩ := hr
      have := hv.int_inv; subst this
      have := hv2.int_inv; subst this
      obtain ⟨z, h1, h2⟩ := ih _ (by subst hn; simp) (.int k (if y > x then y else x) :: rest) rfl (.int k (if y > x then y else x) :: vs2) r ts ty (by simp only [LRel]; exact ⟨_, _, rfl, by simp [VRel], hrest⟩) hm
      refine ⟨z, ?_, h2⟩
      rw [← h1]
      simp [Builtin.max_, Builtin.max2]
    · cases hm

theorem minA_sound : ∀ (as : List AV) (vs : List Value) (r : AV) (ts : Array TypeId) (ty : TypeId), LRel c w as vs → minA as = some r → ∃ z, (Builtin.min_ ts ty vs.toArray).run P w = .ok z w ∧ VRel c w r z := by
  intro as
  induction hn : as.length using Nat.strongRecOn generalizing as with
  | _ n ih =>
    intro vs r ts ty hr hm
    unfold minA at hm
    split at hm
    · cases hm
      simp only [LRel] at hr
      obtain ⟨v, vs', rfl, hv, rfl⟩ := hr
      have := hv.int_inv; subst this
      exact ⟨_, by simp [Builtin.min_]; rfl, by simp [VRel]⟩
    · rename_i k x k' y rest
      simp only [LRel] at hr
      obtain ⟨v, vs', rfl, hv, v2, vs2, rfl, hv2, hrest⟩ := hr
      have := hv.int_inv; subst this
      have := hv2.int_inv; subst this
      obtain ⟨z, h1, h2⟩ := ih _ (by subst hn; simp) (.int k (if y < x then y else x) :: rest) rfl (.int k (if y < x then y else x) :: vs2) r ts ty (by simp only [LRel]; exact ⟨_, _, rfl, by simp [VRel], hrest⟩) hm
      refine ⟨z, ?_, h2⟩
      rw [← h1]
      simp [Builtin.min_, Builtin.min2]
    · cases hm

theorem pExtract_sound (W : WRel B c h w) {i : Nat} {x : AV} {u : Value} {K : AV → AHeap → Prop} (hx : VRel c w x u) (H : pExtract i x (fun v => K v h)) : Does P B c w (Instr.extract u i) K := by
  unfold pExtract at H
  split at H
  · rename_i vs
    simp only [VRel] at hx
    obtain ⟨us, rfl, hr⟩ := hx
    split at H
    · rename_i v hv
      obtain ⟨z, hz, hrz⟩ := hr.get hv
      have hz' : us[i]? = some z := by simpa using hz
      exact Does.pure_ W (by simp [Instr.extract, hz']) hrz H
    · exact H.elim
  · exact H.elim

end
end Go.Abs
