/- append is done. -/
import Derived.Test.YtopfjochppdnfaaDoorAbsApp
set_option linter.unusedVariables false
set_option linter.unusedSimpArgs false
namespace Go.Abs
open Go.RowKit

section
variable {P : Program} {B : Nat} {c : Ctx} {h : AHeap} {w : World}

theorem AHeap.put_kill (h : AHeap) (id : Nat) (o : AObj) : (h.put id o).kill id = h.kill id := by
  unfold AHeap.put AHeap.kill
  congr 1
  funext i
  by_cases e : i = id <;> simp [e]

/-- The block that a growing append lays. -/
theorem grown_ext (W : WRel B c h w) (o : Obj) : Ext B c w c (w.drew.alloc o) ∧ WRel B c h (w.drew.alloc o) :=
  ⟨(Ext.drew B c w).trans (Ext.alloc W.drew o), W.drew.alloc o⟩

theorem pAppend_sound (W : WRel B c h w) {gr : Bool} {t u ty : TypeId} {T : SlT} {s x : AV} {p q : Value} {K : AV → AHeap → Prop} (hT : slT P t = some T) (hu : srcT P u = true) (hs : VRel c w s p) (hx : VRel c w x q)
    (H : pAppend gr T s x h K) : Does P B c w (Builtin.append_ #[t, u] ty #[p, q]) K := by
  obtain ⟨i, z, ht, hi, hz, hzs, hpos, hsz, hby⟩ := slT_inv hT
  unfold pAppend at H
  cases he : srcElems T.sz x h with
  | none => simp [he] at H
  | some es =>
    simp only [he] at H
    obtain ⟨news, S, hnr, hlens⟩ := srcElems_sound W hu hx he
    rw [← hsz] at S
    have hnl : news.length = es.length * T.sz := by rw [S.l, hsz]
    -- onto nothing
    have none_ : ∀ (bo : Option Addr), es ≠ [] → bounded T es.length → newSl gr T es h K → Does P B c w (Builtin.append_ #[t, u] ty #[.slice bo 0 0, q]) K := by
      intro bo hne hbd HK
      have hm : 0 < es.length := by cases es with | nil => exact absurd rfl hne | cons _ _ => simp
      obtain ⟨v, w', hr, A⟩ := run_app (P := P) (w := w) (ty := ty) ht hi hz hzs S (bo := bo) (n := 0) (cap := 0) (Nat.le_refl _) (olds := []) (fun w' _ => by
        cases bo <;> simp [Builtin.firstCells, loadCells, loadCellsFrom]) (by simpa using hbd.1) (by rw [hby]; simpa using hbd.2) (fun _ h0 => by omega)
      cases A with
      | same hm0 => omega
      | room g C w' _ _ _ hroom => omega
      | grow z' cap' _ hc hc2 hz' =>
        obtain ⟨E1, W1⟩ := grown_ext W (.cells (([] : List Value).toArray ++ news.toArray ++ z') T.e)
        obtain ⟨c', v, h', E2, W2, hv, hk⟩ := newSl_sound (b := w.heap.size) (cap := cap') (C := ([] : List Value).toArray ++ news.toArray ++ z') W1 W.base (by exact heap_alloc_new w.drew _) hc2 (by omega)
          (by simp only [Array.size_append, List.size_toArray, List.length_nil, hnl, hz', hsz, Nat.zero_add, ← Nat.add_mul]; congr 1; omega)
          (fun o ho => absurd (W.im _ _ ho) (by omega)) (fun i hi => absurd (W.mlt i _ hi).2.2 (by omega)) hlens
          (by
            have : (([] : List Value).toArray ++ news.toArray ++ z').toList.take (es.length * T.sz) = news := by simp [← hnl]
            rw [this]; exact LRel.mono E1 hnr)
          (by
            have : (([] : List Value).toArray ++ news.toArray ++ z').toList.take (es.length * T.sz) = news := by simp [← hnl]
            rw [this]; exact S.one) HK
        refine ⟨c', _, v, h', _, hr, E1.trans E2, W2, ?_, hk⟩
        simpa using hv
    split at H
    · -- nil
      simp only [VRel] at hs; subst hs
      split at H
      · obtain ⟨v, w', hr, A⟩ := run_app (P := P) (w := w) (ty := ty) ht hi hz hzs S (bo := none) (n := 0) (cap := 0) (Nat.le_refl _) (olds := []) (fun w' _ => by simp [Builtin.firstCells]) (by simp [maxLen]) (by simp) (fun hne => absurd rfl hne)
        cases A with
        | same _ => exact Does.pure_ W hr (by simp [VRel]) H
        | room _ _ _ hm => simp at hm
        | grow _ _ hm => simp at hm
      · exact none_ none (by simp) H.1 H.2
    · -- empty
      simp only [VRel] at hs; obtain ⟨a, rfl⟩ := hs
      split at H
      · obtain ⟨v, w', hr, A⟩ := run_app (P := P) (w := w) (ty := ty) ht hi hz hzs S (bo := some a) (n := 0) (cap := 0) (Nat.le_refl _) (olds := []) (fun w' _ => by simp [Builtin.firstCells, loadCells, loadCellsFrom]) (by simp [maxLen]) (by simp) (fun hne => absurd rfl hne)
        cases A with
        | same _ => exact Does.pure_ W hr (by simp [VRel]) H
        | room _ _ _ hm => simp at hm
        | grow _ _ hm => simp at hm
      · exact none_ (some a) (by simp) H.1 H.2
    · -- growing, read-only in front
      rename_i id sz es0
      split at H
      · rename_i ty0 n ho
        obtain ⟨rfl, rfl, rfl, hbd, HK⟩ := H
        simp only [VRel] at hs
        obtain ⟨b, cap, ty', hm, rfl, hle, hcm, hshp, hE⟩ := hs
        obtain ⟨C, hC, hnC, him⟩ := W.obj id b _ hm ho
        have hCs : C.size = cap * T.sz := by
          obtain ⟨C', h1, h2⟩ := hshp
          rw [hC] at h1
          simp only [Option.some.injEq, Obj.cells.injEq] at h1
          rw [h1.1, h2]
        obtain ⟨hM0, hf0⟩ := hE.flatten
        obtain ⟨olds, ho1, ho2, ho3⟩ := hM0.values
        have hol : olds.length = es0.length * T.sz := by rw [ho1.length, hf0]
        obtain ⟨v, w', hr, A⟩ := run_app (P := P) (w := w) (ty := ty) ht hi hz hzs S (bo := some ⟨b, 0, none⟩) (n := es0.length) (cap := cap) hle (olds := olds)
          (fun w' hw => run_firstCells_some w' i.size _ ⟨b, 0, none⟩ _ cap olds (by rw [hol, hsz]) (fun j u hu => by rw [addr_add, hw]; exact ho3 j u hu)) hbd.1 (by rw [hby]; exact hbd.2)
          (fun _ hroom => ⟨b, C, rfl, hC, by rw [hsz, hnl, hCs, ← Nat.add_mul]; exact Nat.mul_le_mul_right _ hroom⟩)
        have hlens' : ∀ e ∈ es0 ++ es, e.length = T.sz := by
          intro e he
          rcases List.mem_append.1 he with he | he
          · exact hE.lens e he
          · exact hlens e he
        have hinj : ∀ j, c.m j = some b → (h.kill id).objs j = none := by
          intro j hj
          simp only [AHeap.kill_objs]
          split
          · rfl
          · rename_i hne
            cases hoj : h.objs j with
            | none => rfl
            | some o => exact absurd (W.inj j id b hj hm (by rw [hoj]; simp) (by rw [ho]; simp)) hne
        have hbl := (W.mlt id b hm)
        cases A with
        | same hm0 =>
          have : es = [] := List.eq_nil_of_length_eq_zero hm0
          subst this
          obtain ⟨E2, W2⟩ := (W.kill id).name (b := b) (.tok T.e ((es0 ++ []).length * T.sz)) hbl.2.1 hbl.2.2 hinj ⟨C, hC, by simpa using hnC, by simpa using him⟩
          refine ⟨_, _, _, _, w, hr, E2, W2, ?_, HK⟩
          simp only [VRel, List.append_nil]
          exact ⟨b, cap, T.e, by simp [Ctx.withM], rfl, hle, hcm, ⟨C, hC, hCs⟩, ERel.mono E2 hE⟩
        | room g C2 w' hm0 hb hg hroom hfit T' =>
          simp only [Option.some.injEq, Addr.mk.injEq, and_true] at hb
          subst hb
          rw [hC] at hg
          simp only [Option.some.injEq, Obj.cells.injEq, and_true] at hg
          subst hg
          rw [hsz] at T' hfit
          have E1 : Ext B c w c w' := ⟨⟨fun _ _ x => x, fun _ _ x => x, T'.below hbl.2.1, fun k o hk => by
            by_cases hkb : k = b
            · subst hkb
              have hlt := him o hk
              rw [cell_of_row w k o C T.e (0, 0) hC, cell_of_row w' k o _ T.e (0, 0) T'.now]
              simp only [List.getElem?_toArray, List.append_assoc]
              rw [List.getElem?_append_left (by simp; omega), List.getElem?_take_of_lt hlt]
              simp
            · exact World.cell?_of_block (a := ⟨k, o, none⟩) (T'.other k hkb), T'.shp⟩, T'.oth⟩
          have W1 : WRel B c (h.kill id) w' := by
            refine ⟨fun j k hj => ?_, (W.kill id).inj, fun j k o hj hjo => ?_, fun k o hk => ?_, (W.kill id).fresh, by rw [T'.size]; exact W.base, W.gl.mono E1⟩
            · have := W.mlt j k hj; rw [T'.size]; exact this
            · have hne : k ≠ b := by
                rintro rfl
                rw [hinj j hj] at hjo; cases hjo
              exact ((W.kill id).obj j k o hj hjo).keep E1 (T'.other k hne) (fun _ y => y)
            · rw [T'.size]; exact W.im k o hk
          obtain ⟨E2, W2⟩ := W1.freeze (fun k x => k = b ∧ es0.length * T.sz ≤ x ∧ x < (es0 ++ es).length * T.sz) (fun k x hk => by rw [hk.1, T'.size]; exact hbl.2.2) (fun k x hk j o hj hjo => by
            rw [hinj j (hk.1 ▸ hj)] at hjo; cases hjo)
          have htot : (es0 ++ es).length * T.sz = es0.length * T.sz + news.length := by rw [List.length_append, Nat.add_mul, hnl]
          obtain ⟨E3, W3⟩ := W2.name (b := b) (.tok T.e ((es0 ++ es).length * T.sz)) hbl.2.1 (by rw [T'.size]; exact hbl.2.2) hinj ⟨_, T'.now, by rw [T'.len, htot]; exact hfit, fun o hoo => by
            rcases hoo with hoo | hoo
            · have := him o hoo; rw [htot]; omega
            · exact hoo.2.2⟩
          refine ⟨_, _, _, _, w', hr, (E1.trans E2).trans E3, W3, ?_, HK⟩
          simp only [VRel]
          refine ⟨b, cap, T.e, by simp [Ctx.withM], by rw [List.length_append], by rw [List.length_append]; exact hroom, hcm, ⟨_, T'.now, by rw [T'.len, hCs]⟩, ?_⟩
          refine ERel.ofMRel hlens' ?_
          rw [List.flatten_append]
          refine MRel.append (MRel.mono ((E1.trans E2).trans E3) hM0) (MRel.ofFn fun j a hj => ?_)
          have hjl : j < news.length := by
            have := (List.getElem?_eq_some_iff.1 hj).1
            rw [hnr.length]; exact this
          obtain ⟨u, hu', hra⟩ := hnr.get hj
          refine ⟨Or.inr ⟨rfl, by omega, by omega⟩, u, ?_, S.one u (List.mem_of_getElem? hu'), VRel.mono ((E1.trans E2).trans E3) hra⟩
          rw [cell_of_row w' b _ _ T.e (0, 0) T'.now]
          simp only [List.getElem?_toArray, List.append_assoc]
          have etk : (C.toList.take (es0.length * T.sz)).length = es0.length * T.sz := by rw [List.length_take]; exact Nat.min_eq_left (by simpa using hnC)
          rw [List.getElem?_append_right (by rw [etk, hf0]; omega)]
          have : 0 + es0.flatten.length + j - (C.toList.take (es0.length * T.sz)).length = j := by rw [hf0, etk]; omega
          rw [this, List.getElem?_append_left hjl]
          exact hu'
        | grow z' cap' hm0 hc hc2 hz' =>
          obtain ⟨E1, W1⟩ := grown_ext W (.cells (olds.toArray ++ news.toArray ++ z') T.e)
          have htk : (olds.toArray ++ news.toArray ++ z').toList.take ((es0 ++ es).length * T.sz) = olds ++ news := by
            have : (es0 ++ es).length * T.sz = (olds ++ news).length := by rw [List.length_append, List.length_append, Nat.add_mul, hol, hnl]
            rw [this]; simp only [Array.toList_append, List.toList_toArray]; exact List.take_left
          obtain ⟨c', v, h', E2, W2, hv, hk⟩ := newSl_sound (gr := true) (T := T) (es := es0 ++ es) (K := K) (b := w.heap.size) (cap := cap') (C := olds.toArray ++ news.toArray ++ z') (W1.kill id) W.base (by exact heap_alloc_new w.drew _) hc2 (by rw [List.length_append]; exact hc)
            (by simp only [Array.size_append, List.size_toArray, hol, hnl, hz', hsz, ← Nat.add_mul]; congr 1; omega)
            (fun o ho => absurd (W.im _ _ ho) (by omega)) (fun i hi => absurd (W.mlt i _ hi).2.2 (by omega)) hlens'
            (by rw [htk, List.flatten_append]; exact (LRel.mono E1 ho1).append (LRel.mono E1 hnr))
            (by
              rw [htk]
              intro u hu
              rcases List.mem_append.1 hu with hu | hu
              · exact ho2 u hu
              · exact S.one u hu) HK
          refine ⟨c', _, v, h', _, hr, E1.trans E2, W2, ?_, hk⟩
          simpa using hv
      · exact H.elim
    · -- a row of the call's own
      rename_i id len sz
      split at H
      · rename_i ty0 cs ho
        obtain ⟨rfl, rfl, hlc, hbd, HK⟩ := H
        simp only [VRel] at hs
        obtain ⟨b, cap, ty', hm, rfl, hle, hcm, hshp⟩ := hs
        obtain ⟨C, hC, hnC, hlr, hone, hnim⟩ := W.row hm ho
        have hCs : C.size = cap * T.sz := by
          obtain ⟨C', h1, h2⟩ := hshp
          rw [hC] at h1
          simp only [Option.some.injEq, Obj.cells.injEq] at h1
          rw [h1.1, h2]; omega
        have ho1 : LRel c w (cs.take (len * T.sz)) (C.toList.take (len * T.sz)) := by
          have := LRel.take (len * T.sz) hlr
          rwa [List.take_take, Nat.min_eq_left hlc] at this
        have ho2 : ∀ u ∈ C.toList.take (len * T.sz), u.oneCell' = true := fun u hu => hone u (by
          have : C.toList.take (len * T.sz) = (C.toList.take cs.length).take (len * T.sz) := by rw [List.take_take, Nat.min_eq_left hlc]
          rw [this] at hu; exact List.mem_of_mem_take hu)
        have hol : (C.toList.take (len * T.sz)).length = len * T.sz := by simp; omega
        obtain ⟨v, w', hr, A⟩ := run_app (P := P) (w := w) (ty := ty) ht hi hz hzs S (bo := some ⟨b, 0, none⟩) (n := len) (cap := cap) hle (olds := C.toList.take (len * T.sz))
          (fun w' hw => run_firstCells_some w' i.size _ ⟨b, 0, none⟩ _ cap _ (by rw [hol, hsz]) (fun j u hu => by
            rw [addr_add, hw, cell_of_row w b (0 + j) C T.e (0, 0) hC]
            have hj : j < len * T.sz := by have := (List.getElem?_eq_some_iff.1 hu).1; rwa [hol] at this
            rw [List.getElem?_take_of_lt hj] at hu
            simpa using hu)) hbd.1 (by rw [hby]; exact hbd.2)
          (fun _ hroom => ⟨b, C, rfl, hC, by rw [hsz, hnl, hCs, ← Nat.add_mul]; exact Nat.mul_le_mul_right _ hroom⟩)
        have hinj : ∀ j, c.m j = some b → (h.kill id).objs j = none := by
          intro j hj
          simp only [AHeap.kill_objs]
          split
          · rfl
          · rename_i hne
            cases hoj : h.objs j with
            | none => rfl
            | some o => exact absurd (W.inj j id b hj hm (by rw [hoj]; simp) (by rw [ho]; simp)) hne
        have hbl := (W.mlt id b hm)
        have hfl : (cs.take (len * T.sz) ++ es.flatten).length = (len + es.length) * T.sz := by
          rw [List.length_append, Nat.add_mul, List.length_take, Nat.min_eq_left hlc, ← hnr.length, hnl]
        cases A with
        | same hm0 =>
          have : es = [] := List.eq_nil_of_length_eq_zero hm0
          subst this
          obtain ⟨E2, W2⟩ := (W.kill id).name (b := b) (.row T.e (cs.take (len * T.sz) ++ ([] : List (List AV)).flatten)) hbl.2.1 hbl.2.2 hinj ⟨C, hC, by simp; omega, by
            have e : (cs.take (len * T.sz) ++ ([] : List (List AV)).flatten).length = len * T.sz := by simp; omega
            rw [e]; simpa using ho1, by
            have e : (cs.take (len * T.sz) ++ ([] : List (List AV)).flatten).length = len * T.sz := by simp; omega
            rw [e]; exact ho2, hnim⟩
          refine ⟨_, _, _, _, w, hr, E2, W2, ?_, HK⟩
          simp only [VRel]
          exact ⟨b, cap, T.e, by simp [Ctx.withM], rfl, hle, hcm, ⟨C, hC, by omega⟩⟩
        | room g C2 w' hm0 hb hg hroom hfit T' =>
          simp only [Option.some.injEq, Addr.mk.injEq, and_true] at hb
          subst hb
          rw [hC] at hg
          simp only [Option.some.injEq, Obj.cells.injEq, and_true] at hg
          subst hg
          rw [hsz] at T' hfit
          have htk : (C.toList.take (len * T.sz) ++ news ++ C.toList.drop (len * T.sz + news.length)).toArray.toList.take (cs.take (len * T.sz) ++ es.flatten).length = C.toList.take (len * T.sz) ++ news := by
            have : (cs.take (len * T.sz) ++ es.flatten).length = (C.toList.take (len * T.sz) ++ news).length := by rw [hfl, List.length_append, hol, hnl, Nat.add_mul]
            rw [this]; simp only [List.toList_toArray]; exact List.take_left
          obtain ⟨E1, W1⟩ := W.turnRow hm ho T' (cs' := cs.take (len * T.sz) ++ es.flatten) (by rw [T'.len, hfl, Nat.add_mul, ← hnl]; exact hfit) (by rw [htk]; exact ho1.append hnr) (by
            rw [htk]
            intro u hu
            rcases List.mem_append.1 hu with hu | hu
            · exact ho2 u hu
            · exact S.one u hu)
          have W1' := W1.kill id
          rw [AHeap.put_kill] at W1'
          obtain ⟨C3, d1, d2, d3, d4, d5⟩ := W1.row (id := id) (b := b) (ty := T.e) (cs := cs.take (len * T.sz) ++ es.flatten) hm (by simp)
          obtain ⟨E2, W2⟩ := W1'.name (b := b) (.row T.e (cs.take (len * T.sz) ++ es.flatten)) hbl.2.1 (by rw [T'.size]; exact hbl.2.2) hinj ⟨C3, d1, d2, d3, d4, d5⟩
          refine ⟨_, _, _, _, w', hr, E1.trans E2, W2, ?_, HK⟩
          simp only [VRel]
          exact ⟨b, cap, T.e, by simp [Ctx.withM], rfl, hroom, hcm, ⟨_, T'.now, by rw [T'.len, hCs]; omega⟩⟩
        | grow z' cap' hm0 hc hc2 hz' =>
          obtain ⟨E1, W1⟩ := grown_ext W (.cells ((C.toList.take (len * T.sz)).toArray ++ news.toArray ++ z') T.e)
          have hlens' : ∀ e ∈ chunk T.sz len cs ++ es, e.length = T.sz := by
            intro e he
            rcases List.mem_append.1 he with he | he
            · exact chunk_lens _ _ _ hlc e he
            · exact hlens e he
          have hll : (chunk T.sz len cs ++ es).length = len + es.length := by rw [List.length_append, chunk_length]
          have hff : (chunk T.sz len cs ++ es).flatten = cs.take (len * T.sz) ++ es.flatten := by rw [List.flatten_append, chunk_flatten]
          have htk : ((C.toList.take (len * T.sz)).toArray ++ news.toArray ++ z').toList.take ((chunk T.sz len cs ++ es).length * T.sz) = C.toList.take (len * T.sz) ++ news := by
            have : (chunk T.sz len cs ++ es).length * T.sz = (C.toList.take (len * T.sz) ++ news).length := by rw [hll, List.length_append, Nat.add_mul, hol, hnl]
            rw [this]; simp only [Array.toList_append, List.toList_toArray]; exact List.take_left
          obtain ⟨c', v, h', E2, W2, hv, hk⟩ := newSl_sound (gr := false) (T := T) (es := chunk T.sz len cs ++ es) (K := K) (b := w.heap.size) (cap := cap') (C := (C.toList.take (len * T.sz)).toArray ++ news.toArray ++ z') (W1.kill id) W.base (by exact heap_alloc_new w.drew _) hc2 (by rw [hll]; exact hc)
            (by simp only [Array.size_append, List.size_toArray, hol, hnl, hz', hsz, ← Nat.add_mul]; congr 1; omega)
            (fun o ho => absurd (W.im _ _ ho) (by omega)) (fun i hi => absurd (W.mlt i _ hi).2.2 (by omega)) hlens'
            (by rw [htk, hff]; exact (LRel.mono E1 ho1).append (LRel.mono E1 hnr))
            (by
              rw [htk]
              intro u hu
              rcases List.mem_append.1 hu with hu | hu
              · exact ho2 u hu
              · exact S.one u hu) (by simp only [newSl, Bool.false_eq_true, if_false, hll, hff]; exact HK)
          refine ⟨c', _, v, h', _, hr, E1.trans E2, W2, ?_, hk⟩
          rw [hll] at hv
          simpa using hv
      · exact H.elim
    · exact H.elim

end
end Go.Abs
