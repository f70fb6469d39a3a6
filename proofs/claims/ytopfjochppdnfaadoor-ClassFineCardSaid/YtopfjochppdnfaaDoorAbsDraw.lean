/- Regions that leave their order open: one walk, the operations that only read as early as they can; what they read must stay as it was. -/
import Derived.Test.YtopfjochppdnfaaDoorAbsCode
import Derived.Orders
set_option linter.unusedVariables false
set_option linter.unusedSimpArgs false
namespace Go.Abs
open Go.RowKit

/-- An operation that turns nothing. -/
def quietOp (by_ : Bool) : Op → Bool
  | .move _ | .assign _ | .pick _ _ _ | .build _ _ | .load _ _ | .nilCheck _ | .binOp _ _ _ _ _ | .unOp _ _ _ | .convert _ _ _ | .slice _ _ _ _ _ | .fieldAddr _ _ _ | .field _ _ _ | .indexAddr _ _ _ | .index _ _ _ | .extract _ _ | .makeFunc _ _ _ | .makeInterface _ _ => true
  | .box _ _ => by_
  | .buildSlice _ len _ => by_ || len == 0
  | .call q => match q.callee with | .builtin .len | .builtin .max | .builtin .min => true | _ => false
  | _ => false

/-- One that looks into objects. -/
def memOp : Op → Bool
  | .load _ _ | .convert _ _ _ => true
  | _ => false

section
variable {P : Program} {h h' : AHeap}

theorem pCells_det {k : Option Nat} {cs : List AV} {off : Nat} {K : AV → Prop} (H : pCells k cs off K) : ∃ v, K v ∧ ∀ K' : AV → Prop, K' v → pCells k cs off K' := by
  unfold pCells at H ⊢
  cases k with
  | none =>
    cases hv : cs[off]? with
    | none => simp [hv] at H
    | some v => simp only [hv] at H; exact ⟨v, H, fun K' hk => by simpa using hk⟩
  | some n => exact ⟨_, H.2, fun K' hk => ⟨H.1, hk⟩⟩

theorem pLoad_det {k : Option Nat} {x : AV} {K : AV → Prop} (H : pLoad k x h K) : ∃ v, K v ∧ ∀ K' : AV → Prop, K' v → pLoad k x h K' := by
  unfold pLoad at H ⊢
  cases x <;> simp only at H ⊢ <;> (try (exact H.elim))
  · rename_i id off
    cases ho : h.objs id with
    | none => simp [ho] at H
    | some o => cases o <;> simp only [ho] at H ⊢ <;> first | exact H.elim | exact pCells_det H
  · exact pCells_det H

theorem pConv_det {ck : CvK} {x : AV} {K : AV → Prop} (H : pConv ck x h K) : ∃ v, K v ∧ ∀ K' : AV → Prop, K' v → pConv ck x h K' := by
  cases ck with
  | int k => cases x <;> simp only [pConv] at H ⊢ <;> first | exact H.elim | exact ⟨_, H, fun _ hk => hk⟩
  | same => cases x <;> simp only [pConv] at H ⊢ <;> first | exact H.elim | exact ⟨_, H, fun _ hk => hk⟩
  | i2f k => cases x <;> simp only [pConv] at H ⊢ <;> first | exact H.elim | exact ⟨_, H, fun _ hk => hk⟩
  | f2i k =>
    cases x <;> simp only [pConv] at H ⊢ <;> (try (exact H.elim))
    rename_i s b
    cases hf : floatToIntVal s b k with
    | none => simp [hf] at H
    | some n => simp only [hf] at H ⊢; exact ⟨_, H, fun _ hk => hk⟩
  | bytesStr n =>
    have main : (match srcElems n x h with | some es => (match bytesOf es with | some s => K (.str s) | none => False) | none => False) → ∃ v, K v ∧ ∀ K' : AV → Prop, K' v → (match srcElems n x h with | some es => (match bytesOf es with | some s => K' (.str s) | none => False) | none => False) := by
      intro H
      cases hs : srcElems n x h with
      | none => simp [hs] at H
      | some es =>
        cases hb : bytesOf es with
        | none => simp [hs, hb] at H
        | some s => simp only [hs, hb] at H; exact ⟨_, H, fun K' hk => by simpa [hs, hb] using hk⟩
    cases x <;> first | exact H.elim | exact main H

theorem pSliceStr_det {x : AV} {lo hi : Option AV} {K : AV → Prop} (H : pSliceStr x lo hi K) : ∃ v, K v ∧ ∀ K' : AV → Prop, K' v → pSliceStr x lo hi K' := by
  unfold pSliceStr at H ⊢
  cases x <;> simp only at H ⊢ <;> (try (exact H.elim))
  rename_i s
  cases h1 : bnd 0 lo <;> cases h2 : bnd s.length hi <;> simp only [h1, h2] at H ⊢ <;> first | exact H.elim | exact ⟨_, H.2.2.2, fun K' hk => ⟨H.1, H.2.1, H.2.2.1, hk⟩⟩

theorem pSliceSl_det {n : Nat} {x : AV} {lo hi : Option AV} {K : AV → Prop} (H : pSliceSl n x lo hi K) : ∃ v, K v ∧ ∀ K' : AV → Prop, K' v → pSliceSl n x lo hi K' := by
  unfold pSliceSl at H ⊢
  cases x <;> simp only at H ⊢ <;> (try (exact H.elim))
  · cases h1 : bnd 0 lo <;> cases h2 : bnd 0 hi <;> simp only [h1, h2] at H ⊢ <;> first | exact H.elim | exact ⟨_, H.2.2, fun K' hk => ⟨H.1, H.2.1, hk⟩⟩
  · cases h1 : bnd 0 lo <;> cases h2 : bnd 0 hi <;> simp only [h1, h2] at H ⊢ <;> first | exact H.elim | exact ⟨_, H.2.2, fun K' hk => ⟨H.1, H.2.1, hk⟩⟩
  · rename_i sz es
    cases h1 : bnd 0 lo <;> cases h2 : bnd es.length hi <;> simp only [h1, h2] at H ⊢ <;> first | exact H.elim | exact ⟨_, H.2.2.2.2, fun K' hk => ⟨H.1, H.2.1, H.2.2.1, H.2.2.2.1, hk⟩⟩
  · rename_i id sz es
    cases h1 : bnd 0 lo <;> cases h2 : bnd es.length hi <;> simp only [h1, h2] at H ⊢ <;> first | exact H.elim | exact ⟨_, H.2.2.2.2, fun K' hk => ⟨H.1, H.2.1, H.2.2.1, H.2.2.2.1, hk⟩⟩
  · rename_i id off len sz
    cases h1 : bnd 0 lo <;> cases h2 : bnd len hi <;> simp only [h1, h2] at H ⊢ <;> (try (exact H.elim))
    obtain ⟨g1, g2, g3, g4, H⟩ := H
    split at H
    · rename_i e; exact ⟨_, H, fun K' hk => ⟨g1, g2, g3, g4, by rw [if_pos e]; exact hk⟩⟩
    · split at H
      · rename_i e1 e2; exact ⟨_, H, fun K' hk => ⟨g1, g2, g3, g4, by rw [if_neg e1, if_pos e2]; exact hk⟩⟩
      · rename_i e1 e2; exact ⟨_, H, fun K' hk => ⟨g1, g2, g3, g4, by rw [if_neg e1, if_neg e2]; exact hk⟩⟩

theorem pIndexAddr_det {ik : IxK} {x i : AV} {K : AV → Prop} (H : pIndexAddr ik x i K) : ∃ v, K v ∧ ∀ K' : AV → Prop, K' v → pIndexAddr ik x i K' := by
  unfold pIndexAddr at H ⊢
  cases ik <;> cases x <;> (try (exact H.elim)) <;> cases i <;> (try (exact H.elim)) <;> (try simp only at H ⊢)
  · rename_i n sz es k q
    cases he : es[q.toNat]? with
    | none => simp [he] at H
    | some e => simp only [he] at H ⊢; exact ⟨_, H.2.2, fun K' hk => ⟨H.1, H.2.1, hk⟩⟩
  · rename_i n id sz es k q
    cases he : es[q.toNat]? with
    | none => simp [he] at H
    | some e => simp only [he] at H ⊢; exact ⟨_, H.2.2, fun K' hk => ⟨H.1, H.2.1, hk⟩⟩
  · exact ⟨_, H.2.2.2, fun K' hk => ⟨H.1, H.2.1, H.2.2.1, hk⟩⟩
  · exact ⟨_, H.2.2, fun K' hk => ⟨H.1, H.2.1, hk⟩⟩
  · exact ⟨_, H.2.2, fun K' hk => ⟨H.1, H.2.1, hk⟩⟩

theorem pLen_det {k : LenK} {x : AV} {K : AV → Prop} (H : pLen k x K) : ∃ v, K v ∧ ∀ K' : AV → Prop, K' v → pLen k x K' := by
  unfold pLen at H ⊢
  cases k <;> cases x <;> simp only at H ⊢ <;> first | exact H.elim | exact ⟨_, H, fun _ hk => hk⟩

theorem obind_det {o : Option AV} {K : AV → Prop} (H : obind o K) : ∃ v, K v ∧ ∀ K' : AV → Prop, K' v → obind o K' := by
  cases o with
  | none => exact H.elim
  | some v => exact ⟨v, H, fun _ hk => hk⟩

/-- What a quiet operation makes is one value, of which all else hangs; but for those that look into objects, whatever the objects are. -/
theorem quiet_det {by_ : Bool} {o : Op} {ev : Operand → AV} {K : AV → AHeap → Prop} (hq : quietOp by_ o = true) (H : wpOp P by_ o ev h K) : ∃ v, K v h ∧ (∀ K' : AV → AHeap → Prop, K' v h → wpOp P by_ o ev h K') ∧ (memOp o = false → ∀ (h' : AHeap) (K' : AV → AHeap → Prop), K' v h' → wpOp P by_ o ev h' K') := by
  cases o <;> simp only [quietOp, Bool.false_eq_true] at hq <;> simp only [wpOp] at H ⊢
  case move x => exact ⟨_, H, fun _ hk => hk, fun _ _ _ hk => hk⟩
  case assign x => exact ⟨_, H, fun _ hk => hk, fun _ _ _ hk => hk⟩
  case pick q x y =>
    unfold pPick at H ⊢
    cases hc : ev q <;> simp only [hc] at H ⊢ <;> first | exact H.elim | exact ⟨_, H, fun _ hk => hk, fun _ _ _ hk => hk⟩
  case box t x =>
    subst hq
    simp only [pBox, if_true] at H ⊢
    exact ⟨_, H.2, fun _ hk => ⟨H.1, hk⟩, fun _ _ _ hk => ⟨H.1, hk⟩⟩
  case build t parts =>
    cases h1 : placesK P t <;> cases h2 : zeroK P t <;> simp only [h1, h2] at H ⊢ <;> (try (exact H.elim))
    unfold pBuild at H ⊢
    rename_i pl z
    cases hf : fillA (pl[·]?) z (List.map (fun p => (p.fst, ev p.snd)) parts.toList) with
    | none => simp [hf] at H
    | some cs => simp only [hf] at H ⊢; exact ⟨_, H, fun _ hk => hk, fun _ _ _ hk => hk⟩
  case buildSlice t len parts =>
    cases h1 : slT P t with
    | none => simp [h1] at H
    | some T =>
      simp only [h1] at H ⊢
      cases h2 : zeroK P T.e with
      | none => simp [h2] at H
      | some z =>
        simp only [h2] at H ⊢
        obtain ⟨H1, H⟩ := H
        cases len with
        | zero => simp only [pBuildSl] at H ⊢; exact ⟨_, H, fun _ hk => ⟨fun _ => H1 rfl, hk⟩, fun _ _ _ hk => ⟨fun _ => H1 rfl, hk⟩⟩
        | succ n =>
          have hb : by_ = true := by simpa using hq
          subst hb
          simp only [pBuildSl] at H ⊢
          obtain ⟨g1, g2, H⟩ := H
          cases hf : fillE T.sz (List.replicate (n + 1) z) (List.map (fun p => (p.fst, ev p.snd)) parts.toList) with
          | none => simp [hf] at H
          | some es =>
            simp only [hf, if_true] at H ⊢
            exact ⟨_, H, fun _ hk => ⟨H1, g1, g2, hk⟩, fun _ _ _ hk => ⟨H1, g1, g2, hk⟩⟩
  case load t x =>
    cases h1 : ldK P t <;> simp only [h1] at H ⊢ <;> (try (exact H.elim))
    obtain ⟨v, hv, hk⟩ := pLoad_det H
    exact ⟨v, hv, fun K' hk' => hk (fun v => K' v h) hk', by simp [memOp]⟩
  case nilCheck x =>
    unfold pNil at H ⊢
    cases hc : ev x <;> simp only [hc] at H ⊢ <;> (try (exact H.elim))
    · exact ⟨_, H, fun _ hk => hk, fun _ _ _ hk => hk⟩
    · exact ⟨_, H, fun _ hk => hk, fun _ _ _ hk => hk⟩
    · rename_i f a b
      cases f <;> simp only at H ⊢ <;> first | exact H.elim | exact ⟨_, H, fun _ hk => hk, fun _ _ _ hk => hk⟩
  case binOp op t x y t2 =>
    obtain ⟨v, hv, hk⟩ := obind_det H
    exact ⟨v, hv, fun K' hk' => hk (fun v => K' v h) hk', fun _ h' K' hk' => hk (fun v => K' v h') hk'⟩
  case unOp op t x =>
    obtain ⟨v, hv, hk⟩ := obind_det H
    exact ⟨v, hv, fun K' hk' => hk (fun v => K' v h) hk', fun _ h' K' hk' => hk (fun v => K' v h') hk'⟩
  case convert s d x =>
    cases h1 : convK P s d <;> simp only [h1] at H ⊢ <;> (try (exact H.elim))
    obtain ⟨v, hv, hk⟩ := pConv_det H
    exact ⟨v, hv, fun K' hk' => hk (fun v => K' v h) hk', by simp [memOp]⟩
  case slice t x lo hi mx =>
    cases mx with
    | some m => exact H.elim
    | none =>
      simp only at H ⊢
      cases h1 : P.underlying t with
      | none => simp [h1] at H
      | some d =>
        cases d <;> simp only [h1] at H ⊢ <;> (try (exact H.elim))
        · obtain ⟨v, hv, hk⟩ := pSliceStr_det H
          exact ⟨v, hv, fun K' hk' => hk (fun v => K' v h) hk', fun _ h' K' hk' => hk (fun v => K' v h') hk'⟩
        · rename_i e
          cases h2 : szK P e <;> simp only [h2] at H ⊢ <;> (try (exact H.elim))
          obtain ⟨v, hv, hk⟩ := pSliceSl_det H
          exact ⟨v, hv, fun K' hk' => hk (fun v => K' v h) hk', fun _ h' K' hk' => hk (fun v => K' v h') hk'⟩
  case fieldAddr t x f =>
    cases h1 : fadK P t f <;> simp only [h1] at H ⊢ <;> (try (exact H.elim))
    unfold pFieldAddr at H ⊢
    cases hc : ev x <;> simp only [hc] at H ⊢ <;> first | exact H.elim | exact ⟨_, H, fun _ hk => hk, fun _ _ _ hk => hk⟩
  case field t x f =>
    cases h1 : fldK P t f with
    | none => simp [h1] at H
    | some q =>
      obtain ⟨off, k⟩ := q
      simp only [h1] at H ⊢
      unfold pField at H ⊢
      cases hc : ev x <;> simp only [hc] at H ⊢ <;> (try (exact H.elim))
      obtain ⟨v, hv, hk⟩ := pCells_det H
      exact ⟨v, hv, fun K' hk' => hk (fun v => K' v h) hk', fun _ h' K' hk' => hk (fun v => K' v h') hk'⟩
  case indexAddr t x i =>
    cases h1 : ixK P t <;> simp only [h1] at H ⊢ <;> (try (exact H.elim))
    obtain ⟨v, hv, hk⟩ := pIndexAddr_det H
    exact ⟨v, hv, fun K' hk' => hk (fun v => K' v h) hk', fun _ h' K' hk' => hk (fun v => K' v h') hk'⟩
  case index t x i =>
    cases h1 : P.underlying t with
    | none => simp [h1] at H
    | some d =>
      cases d <;> simp only [h1] at H ⊢ <;> (try (exact H.elim))
      unfold pIndexStr at H ⊢
      cases hx : ev x <;> simp only [hx] at H ⊢ <;> (try (exact H.elim)) <;> cases hi : ev i <;> simp only [hi] at H ⊢ <;> (try (exact H.elim))
      rename_i s k q
      cases he : s[q.toNat]? with
      | none => simp [he] at H
      | some e => simp only [he] at H ⊢; exact ⟨_, H.2, fun K' hk => ⟨H.1, hk⟩, fun _ _ _ hk => ⟨H.1, hk⟩⟩
  case extract x i =>
    unfold pExtract at H ⊢
    cases hc : ev x <;> simp only [hc] at H ⊢ <;> (try (exact H.elim))
    rename_i vs
    cases he : vs[i]? with
    | none => simp [he] at H
    | some e => simp only [he] at H ⊢; exact ⟨_, H, fun K' hk => hk, fun _ _ _ hk => hk⟩
  case makeFunc f first cap => exact ⟨_, H, fun _ hk => hk, fun _ _ _ hk => hk⟩
  case makeInterface t x => exact ⟨_, H.2, fun _ hk => ⟨H.1, hk⟩, fun _ _ _ hk => ⟨H.1, hk⟩⟩
  case call q =>
    cases hc : q.callee with
    | value f => simp [hc] at hq
    | invoke r m => simp [hc] at hq
    | builtin b =>
      simp only [hc] at H ⊢
      simp only [hc] at hq
      generalize q.argTypes.toList = ts at H ⊢
      generalize q.args.toList.map ev = xs at H ⊢
      cases b <;> simp only [Bool.false_eq_true] at hq
      · -- len
        unfold wpBuiltin at H ⊢
        match ts, xs with
        | [t], [x] =>
          simp only at H ⊢
          cases h1 : lenK P t <;> simp only [h1] at H ⊢ <;> (try (exact H.elim))
          obtain ⟨v, hv, hk⟩ := pLen_det H
          exact ⟨v, hv, fun K' hk' => hk (fun v => K' v h) hk', fun _ h' K' hk' => hk (fun v => K' v h') hk'⟩
        | [], _ => exact H.elim
        | _ :: _ :: _, _ => exact H.elim
        | [_], [] => exact H.elim
        | [_], _ :: _ :: _ => exact H.elim
      · simp only [wpBuiltin] at H ⊢
        obtain ⟨v, hv, hk⟩ := obind_det H
        exact ⟨v, hv, fun K' hk' => hk (fun v => K' v h) hk', fun _ h' K' hk' => hk (fun v => K' v h') hk'⟩
      · simp only [wpBuiltin] at H ⊢
        obtain ⟨v, hv, hk⟩ := obind_det H
        exact ⟨v, hv, fun K' hk' => hk (fun v => K' v h) hk', fun _ h' K' hk' => hk (fun v => K' v h') hk'⟩

theorem map_ev_congr {ev ev' : Operand → AV} : ∀ {xs : List Operand}, (∀ x ∈ xs, ev x = ev' x) → xs.map ev = xs.map ev'
  | [], _ => rfl
  | x :: xs, h => by simp only [List.map_cons]; rw [h x (by simp), map_ev_congr fun y hy => h y (by simp [hy])]
theorem map_parts_congr {ev ev' : Operand → AV} : ∀ {xs : List (Nat × Operand)}, (∀ x ∈ xs.map (·.2), ev x = ev' x) → xs.map (fun p => (p.1, ev p.2)) = xs.map (fun p => (p.1, ev' p.2))
  | [], _ => rfl
  | x :: xs, h => by simp only [List.map_cons]; rw [h x.2 (by simp), map_parts_congr fun y hy => h y (by simp at hy ⊢; exact Or.inr hy)]

/-- An operation hangs on its operands alone. -/
theorem wpOp_congr {by_ : Bool} {o : Op} {ev ev' : Operand → AV} {K : AV → AHeap → Prop} (he : ∀ x ∈ o.operands, ev x = ev' x) : wpOp P by_ o ev h K = wpOp P by_ o ev' h K := by
  cases o
  case build t ps => 
    simp only [wpOp]
    rw [map_parts_congr (ev := ev) (ev' := ev') (fun x hx => he x (by simpa [Op.operands] using hx))]
  case buildSlice t n ps => 
    simp only [wpOp]
    rw [map_parts_congr (ev := ev) (ev' := ev') (fun x hx => he x (by simpa [Op.operands] using hx))]
  case makeFunc f a b =>
    simp only [wpOp]
    rw [map_ev_congr (ev := ev) (ev' := ev') (xs := a.toList) (fun x hx => he x (by simp [Op.operands]; exact Or.inl (by simpa using hx))), map_ev_congr (ev := ev) (ev' := ev') (xs := b.toList) (fun x hx => he x (by simp [Op.operands]; exact Or.inr (by simpa using hx)))]
  case slice t x lo hi mx =>
    simp only [wpOp]
    have h1 : ev x = ev' x := he x (by simp [Op.operands])
    have h2 : lo.map ev = lo.map ev' := by cases lo with | none => rfl | some y => simp only [Option.map_some]; rw [he y (by simp [Op.operands])]
    have h3 : hi.map ev = hi.map ev' := by cases hi with | none => rfl | some y => simp only [Option.map_some]; rw [he y (by simp [Op.operands])]
    rw [h1, h2, h3]
  case call q =>
    simp only [wpOp]
    have h1 : q.args.toList.map ev = q.args.toList.map ev' := map_ev_congr (fun x hx => he x (by simp [Op.operands, Call.operands]; exact Or.inr (by simpa using hx)))
    rw [h1]
    cases hc : q.callee with
    | value f =>
      have h2 : ev f = ev' f := he f (by simp [Op.operands, Call.operands, hc])
      cases f <;> first | rfl | (show pCallF P _ _ _ _ = pCallF P _ _ _ _; rw [h2])
    | invoke r m => rfl
    | builtin b => rfl
  all_goals first
    | rfl
    | (simp only [Op.operands, Array.mem_def, List.mem_cons, List.not_mem_nil, or_false, forall_eq_or_imp, forall_eq] at he; simp only [wpOp]; first | rw [he] | rw [he.1, he.2] | rw [he.1, he.2.1, he.2.2])
    | skip

end

def opsOk (N : Nat) (ops : List Oper) : Bool := ops.all fun o => match o.dst with | some d => decide (d < N) | none => true

theorem opsOk_mem {N : Nat} {ops : List Oper} (h : opsOk N ops = true) {o : Oper} (ho : o ∈ ops) : ∀ k, o.dst = some k → k < N := by
  intro k hk
  have := List.all_eq_true.1 h o ho
  rw [hk] at this
  simpa using this

theorem yielded_bool {ops : Array Oper} {a : Act} {j d : Nat} {b : Bool} (hd : (ops[j]?).bind (·.dst) = some d) (hv : a.tmps.getD d undef = .bool b) : yielded ops a.tmps j = some b := by
  have hlt : d < a.tmps.size := by
    rcases Nat.lt_or_ge d a.tmps.size with h | h
    · exact h
    · rw [Array.getD_eq_getD_getElem?, Array.getElem?_eq_none h] at hv
      simp [undef] at hv
  have : a.tmps[d]? = some (.bool b) := by
    rw [Array.getD_eq_getD_getElem?, Array.getElem?_eq_getElem hlt] at hv
    rw [Array.getElem?_eq_getElem hlt]
    simpa using hv
  simp [yielded, hd, this]

theorem yielded_none {ops : Array Oper} {a : Act} {j d : Nat} (hd : (ops[j]?).bind (·.dst) = some d) (hv : a.tmps.getD d undef = .tuple #[]) : yielded ops a.tmps j = none := by
  have h2 : a.tmps[d]? = some (.tuple #[]) ∨ a.tmps[d]? = none := by
    rcases Nat.lt_or_ge d a.tmps.size with h | h
    · left
      rw [Array.getD_eq_getD_getElem?, Array.getElem?_eq_getElem h] at hv
      rw [Array.getElem?_eq_getElem h]
      simpa using hv
    · right; exact Array.getElem?_eq_none h
  rcases h2 with h2 | h2 <;> simp [yielded, hd, h2]

theorem getD_put_ne {a : Act} {d : Option Nat} {u : Value} {k : Nat} (h : d ≠ some k) : (a.put d u).tmps.getD k undef = a.tmps.getD k undef := by
  cases d with
  | none => rfl
  | some d =>
    have : d ≠ k := fun e => h (by rw [e])
    simp only [Act.put]
    rw [Array.getD_eq_getD_getElem?, Array.getD_eq_getD_getElem?, Array.getElem?_setIfInBounds_ne this]


/-! ### One walk for every order -/
def depB (ops : Array Oper) (j i : Nat) : Bool := match ops[j]? with | some o => o.after.any (fun e => Region.binds .any e && e.on == i) | none => false
def looksB (ops : Array Oper) (j : Nat) (t : Tmp) : Bool := match ops[j]? with | some o => (o.looksAt ops).contains t | none => false
def dstO (ops : Array Oper) (i : Nat) : Option Tmp := (ops[i]?).bind (·.dst)

/-- An operation that may be carried out as early as it can: it turns nothing, and who looks at what it makes waits for it. -/
def floatB (ch : Nat → Bool) (ops : Array Oper) (i : Nat) : Bool :=
  match ops[i]? with
  | some o => match o.dst with
    | some d => quietOp (byO ch o.dst) o.op && (List.range ops.size).all (fun j => (!looksB ops j d || depB ops j i) && (j == i || dstO ops j != some d) && (match dstO ops j with | some k => !looksB ops i k || depB ops i j | none => true)) && !looksB ops i d
    | none => false
  | none => false

def readyV (ops : Array Oper) (V : List Nat) : List Nat := (List.range ops.size).filter fun i => !V.contains i && (List.range ops.size).all fun k => !depB ops i k || V.contains k

def reachB (ops : Array Oper) : Nat → Nat → Nat → Bool
  | 0, _, _ => false
  | n + 1, j, i => depB ops j i || (List.range ops.size).any fun k => depB ops j k && reachB ops n k i

def memB (ops : Array Oper) (i : Nat) : Bool := match ops[i]? with | some o => memOp o.op | none => false

/-- A guard that is known. -/
def pGuardS (v : AV) (want : Bool) (T F : Prop) : Prop := match v with | .bool b => if b = want then T else F | .tup [] => F | _ => False

def wpOpG (P : Program) (ch : Nat → Bool) (ops : Array Oper) (i : Nat) (fr : Fr) (h : AHeap) (K : AV → AHeap → Prop) : Prop :=
  match ops[i]? with
  | none => False
  | some o => match o.guard with
    | none => wpOp P (byO ch o.dst) o.op (aEv fr) h K
    | some (g, want) => match dstO ops g with
      | none => False
      | some d => pGuardS (fr d) want (wpOp P (byO ch o.dst) o.op (aEv fr) h K) (K (.tup []) h)

/-- The same, with one continuation behind a guard. -/
def wpOpJ (P : Program) (ch : Nat → Bool) (ops : Array Oper) (i : Nat) (fr : Fr) (h : AHeap) (K : AV → AHeap → Prop) : Prop :=
  match ops[i]? with
  | none => False
  | some o => match o.guard with
    | none => wpOp P (byO ch o.dst) o.op (aEv fr) h K
    | some (g, want) => match dstO ops g with
      | none => False
      | some d => pJoin (fun x => pGuardS (fr d) want (wpOp P (byO ch o.dst) o.op (aEv fr) h (fun v h' => x [v] h')) (x [.tup []] h)) (fun vs h' => K (nth vs 0) h')

theorem wpOpJ_eq {P : Program} {ch : Nat → Bool} {ops : Array Oper} {i : Nat} {fr : Fr} {h : AHeap} {K : AV → AHeap → Prop} : wpOpJ P ch ops i fr h K = wpOpG P ch ops i fr h K := by
  unfold wpOpJ wpOpG
  cases ops[i]? with
  | none => rfl
  | some o =>
    simp only
    cases o.guard with
    | none => rfl
    | some gw =>
      obtain ⟨g, want⟩ := gw
      simp only
      cases dstO ops g <;> rfl

def allP (p : Nat → Prop) : List Nat → Prop
  | [] => True
  | [i] => p i
  | i :: r => p i ∧ allP p r

def getS (fr : Fr) (d : Option Nat) : AV := match d with | some d => fr d | none => .und

/-- What was read early reads the same still. -/
def stabs (P : Program) (ch : Nat → Bool) (ops : Array Oper) (fl : Nat → Bool) (fin : List Nat → Nat → Bool) (V : List Nat) (fr : Fr) (h : AHeap) : Prop :=
  allP (fun i => wpOpJ P ch ops i fr h fun v h' => v = getS fr (dstO ops i) ∧ h' = h)
    (V.filter fun i => fl i && (!fin V i && memB ops i))

def wpCan (P : Program) (ch : Nat → Bool) (ops : Array Oper) (fl : Nat → Bool) (fin : List Nat → Nat → Bool) (Q : Fr → AHeap → Prop) : Nat → List Nat → Fr → AHeap → Prop
  | 0, _, fr, h => Q fr h
  | n + 1, V, fr, h => match (readyV ops V).find? fl with
    | some i => wpOpJ P ch ops i fr h fun v h' => wpCan P ch ops fl fin Q n (i :: V) (updO fr (dstO ops i) v) h'
    | none => match readyV ops V with
      | [] => Q fr h
      | r => allP (fun j => wpOpJ P ch ops j fr h fun v h' => stabs P ch ops fl fin (j :: V) (updO fr (dstO ops j) v) h' ∧ wpCan P ch ops fl fin Q n (j :: V) (updO fr (dstO ops j) v) h') r

theorem allP_mem {p : Nat → Prop} : ∀ {l : List Nat}, allP p l → ∀ i ∈ l, p i
  | [], _, i, hi => by cases hi
  | [a], h, i, hi => by
    have : i = a := by simpa using hi
    subst this; exact h
  | a :: b :: r, h, i, hi => by
    rcases List.mem_cons.1 hi with rfl | hi
    · exact h.1
    · exact allP_mem h.2 i hi

section
variable {P : Program} {N : Nat} {ds : List Deferred} {ch : Nat → Bool} {ops : Array Oper}

theorem looks_eq {i : Nat} {o : Oper} (ho : ops[i]? = some o) {t : Tmp} : looksB ops i t = true ↔ t ∈ o.looksAt ops := by simp [looksB, ho]

/-- What an operation asks hangs on the slots that it looks at. -/
theorem wpOpG_congr {i : Nat} {fr fr' : Fr} {h : AHeap} {K : AV → AHeap → Prop} (he : ∀ t, looksB ops i t = true → fr t = fr' t) : wpOpG P ch ops i fr h K = wpOpG P ch ops i fr' h K := by
  unfold wpOpG
  cases ho : ops[i]? with
  | none => rfl
  | some o =>
    have h1 : wpOp P (byO ch o.dst) o.op (aEv fr) h K = wpOp P (byO ch o.dst) o.op (aEv fr') h K := by
      refine wpOp_congr fun x hx => ?_
      cases x with
      | tmp t =>
        refine he t ((looks_eq ho).2 ?_)
        simp only [Oper.looksAt, List.mem_append, List.mem_filterMap]
        exact Or.inl ⟨.tmp t, by simpa using hx, rfl⟩
      | _ => rfl
    simp only [h1]
    cases hg : o.guard with
    | none => rfl
    | some gw =>
      obtain ⟨g, want⟩ := gw
      simp only
      cases hd : dstO ops g with
      | none => rfl
      | some d =>
        have : fr d = fr' d := he d ((looks_eq ho).2 (by
          simp only [Oper.looksAt, hg, List.mem_append]
          refine Or.inr ?_
          unfold dstO at hd
          simp [hd]))
        simp only [this]

theorem wpOpG_sound {i : Nat} {fr : Fr} {h : AHeap} {B : Nat} {c : Ctx} {w : World} {a : Act} {K : AV → AHeap → Prop} {next : Act → World → Prop} {Q : Exit → Act → World → Prop} (W : WRel B c h w) (F : FrRel N ds c w fr a) (H : wpOpG P ch ops i fr h K)
    (hK : Then B c w a (dstO ops i) K next) {ro : Option Nat} : wpOpIn (wideR ro) 0 P ops Q i next a w := by
  unfold wpOpG at H
  unfold wpOpIn
  cases ho : ops[i]? with
  | none => rw [ho] at H; exact H.elim
  | some o =>
    have hd : dstO ops i = o.dst := by simp [dstO, ho]
    rw [hd] at hK
    rw [ho] at H
    simp only at H ⊢
    cases hg : o.guard with
    | none =>
      rw [hg] at H
      rw [if_pos (by simp [Region.wanted, hg])]
      exact wpOp_sound W F H hK
    | some gw =>
      obtain ⟨g, want⟩ := gw
      rw [hg] at H
      simp only at H
      cases hdg : dstO ops g with
      | none => rw [hdg] at H; exact H.elim
      | some d =>
        rw [hdg] at H
        simp only at H
        have hdd : (ops[g]?).bind (·.dst) = some d := hdg
        have hv := F.2.2 d
        have skip : K (.tup []) h → Region.wanted o (yielded ops a.tmps) = false → (if Region.wanted o (yielded ops a.tmps) = true then o.wpIn (wideR ro) 0 P a w next Q else (∀ f, o.about P w a.eval = some f → (wideR ro).fn f) ∧ next (a.put o.dst undef) w) := fun hk hw => by
          rw [if_neg (by simp [hw])]
          exact ⟨fun _ _ => trivial, hK c (.tup []) h w undef (Ext.refl _ _ _) W (by simp only [VRel]; exact ⟨#[], rfl, rfl⟩) hk⟩
        have bool : ∀ b, a.tmps.getD d undef = .bool b → (if b = want then wpOp P (byO ch o.dst) o.op (aEv fr) h K else K (.tup []) h) → (if Region.wanted o (yielded ops a.tmps) = true then o.wpIn (wideR ro) 0 P a w next Q else (∀ f, o.about P w a.eval = some f → (wideR ro).fn f) ∧ next (a.put o.dst undef) w) := fun b hb H => by
          by_cases e : b = want
          · rw [if_pos e] at H
            rw [if_pos (by simp [Region.wanted, hg, yielded_bool hdd hb, e])]
            exact wpOp_sound W F H hK
          · rw [if_neg e] at H
            exact skip H (by simp [Region.wanted, hg, yielded_bool hdd hb, e])
        unfold pGuardS at H
        split at H
        · rename_i b hb
          rw [hb] at hv
          exact bool b (by simpa [VRel] using hv) H
        · rename_i hb
          rw [hb] at hv
          simp only [VRel] at hv
          obtain ⟨vs, h1, h2⟩ := hv
          simp only [LRel] at h2
          refine skip H ?_
          have : a.tmps.getD d undef = .tuple #[] := by
            rw [h1]; congr 1; exact Array.toList_inj.1 (by rw [h2])
          simp [Region.wanted, hg, yielded_none hdd this]
        · exact H.elim

theorem quiet_detG {i : Nat} {fr : Fr} {h : AHeap} {K : AV → AHeap → Prop} (hf : floatB ch ops i = true) (H : wpOpG P ch ops i fr h K) :
    ∃ v, K v h ∧ (∀ K' : AV → AHeap → Prop, K' v h → wpOpG P ch ops i fr h K') ∧ (memB ops i = false → ∀ (h' : AHeap) (K' : AV → AHeap → Prop), K' v h' → wpOpG P ch ops i fr h' K') := by
  unfold wpOpG memB at *
  cases ho : ops[i]? with
  | none => rw [ho] at H; exact H.elim
  | some o =>
    have hq : quietOp (byO ch o.dst) o.op = true := by
      unfold floatB at hf
      rw [ho] at hf
      simp only at hf
      split at hf
      · simp only [Bool.and_eq_true] at hf; exact hf.1.1
      · cases hf
    rw [ho] at H
    simp only at H ⊢
    cases hg : o.guard with
    | none =>
      rw [hg] at H
      exact quiet_det hq H
    | some gw =>
      obtain ⟨g, want⟩ := gw
      rw [hg] at H
      simp only at H ⊢
      cases hdg : dstO ops g with
      | none => rw [hdg] at H; exact H.elim
      | some d =>
        rw [hdg] at H
        simp only at H ⊢
        cases hb : fr d with
        | bool b =>
          simp only [hb, pGuardS] at H ⊢
          by_cases e : b = want
          · simp only [if_pos e] at H ⊢; exact quiet_det hq H
          · simp only [if_neg e] at H ⊢; exact ⟨_, H, fun _ hk => hk, fun _ _ _ hk => hk⟩
        | tup vs =>
          cases vs with
          | nil => simp only [hb, pGuardS] at H ⊢; exact ⟨_, H, fun _ hk => hk, fun _ _ _ hk => hk⟩
          | cons _ _ => rw [hb] at H; exact H.elim
        | _ => rw [hb] at H; exact H.elim

end

section
variable {P : Program} {N : Nat} {ds : List Deferred} {ch : Nat → Bool} {ops : Array Oper} {fl : Nat → Bool} {fin : List Nat → Nat → Bool}

theorem depB_lt {j i : Nat} (h : depB ops j i = true) : j < ops.size := by
  unfold depB at h
  cases ho : ops[j]? with
  | none => rw [ho] at h; cases h
  | some o => exact (Array.getElem?_eq_some_iff.1 ho).1
theorem looksB_lt {j : Nat} {t : Tmp} (h : looksB ops j t = true) : j < ops.size := by
  unfold looksB at h
  cases ho : ops[j]? with
  | none => rw [ho] at h; cases h
  | some o => exact (Array.getElem?_eq_some_iff.1 ho).1
theorem dstO_lt {j : Nat} {t : Tmp} (h : dstO ops j = some t) : j < ops.size := by
  unfold dstO at h
  cases ho : ops[j]? with
  | none => rw [ho] at h; cases h
  | some o => exact (Array.getElem?_eq_some_iff.1 ho).1

theorem floatB_spec {i : Nat} (hf : floatB ch ops i = true) : ∃ d, dstO ops i = some d ∧ (∀ j, looksB ops j d = true → depB ops j i = true) ∧ (∀ j, j ≠ i → dstO ops j ≠ some d) ∧ (∀ j k, dstO ops j = some k → looksB ops i k = true → depB ops i j = true) ∧ looksB ops i d = false := by
  unfold floatB at hf
  cases ho : ops[i]? with
  | none => rw [ho] at hf; cases hf
  | some o =>
    rw [ho] at hf
    simp only at hf
    cases hd : o.dst with
    | none => rw [hd] at hf; cases hf
    | some d =>
      rw [hd] at hf
      simp only [Bool.and_eq_true, List.all_eq_true, List.mem_range, Bool.or_eq_true, Bool.not_eq_true', beq_iff_eq, bne_iff_ne, ne_eq] at hf
      obtain ⟨⟨-, h1⟩, h2⟩ := hf
      refine ⟨d, by simp [dstO, ho, hd], fun j hj => ?_, fun j hj he => ?_, fun j k hk hl => ?_, h2⟩
      · rcases (h1 j (looksB_lt hj)).1.1 with h | h
        · rw [hj] at h; cases h
        · exact h
      · rcases (h1 j (dstO_lt he)).1.2 with h | h
        · exact hj h
        · exact h he
      · have := (h1 j (dstO_lt hk)).2
        rw [hk] at this
        simp only [Bool.or_eq_true, Bool.not_eq_true'] at this
        rcases this with h | h
        · rw [hl] at h; cases h
        · exact h

theorem mem_readyV {V : List Nat} {j : Nat} : j ∈ readyV ops V ↔ j < ops.size ∧ j ∉ V ∧ ∀ k, depB ops j k = true → k < ops.size → k ∈ V := by
  simp only [readyV, List.mem_filter, List.mem_range, Bool.and_eq_true, Bool.not_eq_true', List.all_eq_true, Bool.or_eq_true]
  constructor
  · rintro ⟨h1, h2, h3⟩
    refine ⟨h1, by simpa using h2, fun k hk hl => ?_⟩
    rcases h3 k hl with h | h
    · rw [hk] at h; cases h
    · simpa using h
  · rintro ⟨h1, h2, h3⟩
    refine ⟨h1, by simpa using h2, fun k hl => ?_⟩
    cases hk : depB ops j k with
    | false => exact Or.inl rfl
    | true => exact Or.inr (by simpa using h3 k hk hl)

theorem mem_readyS {S : Array Bool} (hs : S.size = ops.size) {j : Nat} : j ∈ Region.ready .any ops S ↔ j < ops.size ∧ S.getD j false = false ∧ ∀ k, depB ops j k = true → S.getD k false = true := by
  rw [mem_ready]
  constructor
  · rintro ⟨h1, o, ho, h2⟩
    have hj := (Array.getElem?_eq_some_iff.1 ho).1
    refine ⟨hj, ?_, fun k hk => ?_⟩
    · rw [Array.getD_eq_getD_getElem?, Array.getElem?_eq_getElem (by omega)] at h1 ⊢; exact h1
    · unfold depB at hk
      rw [ho] at hk
      simp only at hk
      obtain ⟨e, he, hb⟩ := Array.any_eq_true'.1 hk
      simp only [Bool.and_eq_true, beq_iff_eq] at hb
      rw [← hb.2]; exact h2 e he hb.1
  · rintro ⟨h1, h2, h3⟩
    refine ⟨?_, ops[j], Array.getElem?_eq_getElem h1, fun e he hb => ?_⟩
    · rw [Array.getD_eq_getD_getElem?, Array.getElem?_eq_getElem (by omega)] at h2 ⊢; exact h2
    · refine h3 e.on ?_
      unfold depB
      rw [Array.getElem?_eq_getElem h1]
      exact Array.any_eq_true'.2 ⟨e, he, by simp [hb]⟩

def ordV (ops : Array Oper) : List Nat → Prop
  | [] => True
  | i :: r => (∀ k, depB ops i k = true → k ∈ r) ∧ ordV ops r

structure Drw (P : Program) (N : Nat) (ds : List Deferred) (ch : Nat → Bool) (ops : Array Oper) (fl : Nat → Bool) (B : Nat) (c : Ctx) (w : World) (a : Act) (S : Array Bool) (V : List Nat) (fr : Fr) (h : AHeap) : Prop where
  W : WRel B c h w
  size : S.size = ops.size
  tsz : a.tmps.size = N ∧ a.defers = ds
  lt : ∀ i ∈ V, i < ops.size
  sub : ∀ i, S.getD i false = true → i ∈ V
  closed : ∀ i k, S.getD i false = true → depB ops i k = true → S.getD k false = true
  ord : ordV ops V
  pend : ∀ i ∈ V, S.getD i false = false → fl i = true
  rel : ∀ t, (∀ i ∈ V, S.getD i false = false → dstO ops i ≠ some t) → VRel c w (fr t) (a.tmps.getD t undef)
  stab : ∀ i ∈ V, S.getD i false = false → wpOpG P ch ops i fr h (fun v h' => v = getS fr (dstO ops i) ∧ h' = h)

theorem ordV_closed : ∀ {V : List Nat}, ordV ops V → ∀ i ∈ V, ∀ k, depB ops i k = true → k ∈ V
  | [], _, i, hi, _, _ => by cases hi
  | a :: r, h, i, hi, k, hk => by
    rcases List.mem_cons.1 hi with rfl | hi
    · exact List.mem_cons.2 (Or.inr (h.1 k hk))
    · exact List.mem_cons.2 (Or.inr (ordV_closed h.2 i hi k hk))

theorem ordV_first {S : Array Bool} : ∀ {V : List Nat}, ordV ops V → (∃ i ∈ V, S.getD i false = false) → ∃ i ∈ V, S.getD i false = false ∧ ∀ k, depB ops i k = true → S.getD k false = true
  | [], _, ⟨i, hi, _⟩ => by cases hi
  | a :: r, h, ⟨i, hi, h0⟩ => by
    by_cases hr : ∃ i ∈ r, S.getD i false = false
    · obtain ⟨i, h1, h2⟩ := ordV_first h.2 hr
      exact ⟨i, List.mem_cons.2 (Or.inr h1), h2⟩
    · have hall : ∀ k ∈ r, S.getD k false = true := fun k hk => by
        cases hv : S.getD k false with
        | true => rfl
        | false => exact absurd ⟨k, hk, hv⟩ hr
      rcases List.mem_cons.1 hi with rfl | hi
      · exact ⟨i, List.mem_cons.2 (Or.inl rfl), h0, fun k hk => hall k (h.1 k hk)⟩
      · rw [hall i hi] at h0; cases h0

theorem reach_listed {S : Array Bool} (hc : ∀ i k, S.getD i false = true → depB ops i k = true → S.getD k false = true) : ∀ (n j i : Nat), (∀ k, depB ops j k = true → S.getD k false = true) → reachB ops n j i = true → S.getD i false = true
  | 0, _, _, _, h => by cases h
  | n + 1, j, i, hj, h => by
    simp only [reachB, Bool.or_eq_true, List.any_eq_true, List.mem_range, Bool.and_eq_true] at h
    rcases h with h | ⟨k, -, h1, h2⟩
    · exact hj i h
    · exact reach_listed hc n k i (fun k' hk' => hc k k' (hj k h1) hk') h2

theorem updO_ne {fr : Fr} {d : Option Nat} {v : AV} {t : Nat} (h : d ≠ some t) : updO fr d v t = fr t := by
  cases d with
  | none => rfl
  | some d => simp only [updO_some, upd_eq]; rw [if_neg (fun e => h (by rw [e]))]

/-- An operation taken early. -/
theorem Drw.float {B : Nat} {c : Ctx} {w : World} {a : Act} {S : Array Bool} {V : List Nat} {fr : Fr} {h : AHeap} {i : Nat} {K : AV → AHeap → Prop} (D : Drw P N ds ch ops fl B c w a S V fr h) (hfl : ∀ i, fl i = true → floatB ch ops i = true) (hr : i ∈ readyV ops V) (hff : fl i = true)
    (H : wpOpG P ch ops i fr h K) (hdl : ∀ j k, depB ops j k = true → k < ops.size) : ∃ v, K v h ∧ Drw P N ds ch ops fl B c w a S (i :: V) (updO fr (dstO ops i) v) h := by
  have hf := hfl i hff
  obtain ⟨v, hk, hdet, -⟩ := quiet_detG hf H
  obtain ⟨d, hd, f1, f2, f3, f4⟩ := floatB_spec hf
  obtain ⟨r1, r2, r3⟩ := mem_readyV.1 hr
  have hSi : S.getD i false = false := by
    cases hv : S.getD i false with
    | false => rfl
    | true => exact absurd (D.sub i hv) r2
  have hcl := ordV_closed D.ord
  have keep : ∀ p, p ∈ V → ∀ t, looksB ops p t = true → fr t = updO fr (some d) v t := fun p hp t ht => by
    rw [updO_ne]
    intro e
    cases e
    exact r2 (hcl p hp i (f1 p ht))
  refine ⟨v, hk, ⟨D.W, D.size, D.tsz, fun j hj => ?_, fun j hj => List.mem_cons.2 (Or.inr (D.sub j hj)), D.closed, ⟨fun k hk' => r3 k hk' (hdl _ _ hk'), D.ord⟩, fun j hj hs => ?_, fun t ht => ?_, fun j hj hs => ?_⟩⟩
  · rcases List.mem_cons.1 hj with rfl | hj
    · exact r1
    · exact D.lt j hj
  · rcases List.mem_cons.1 hj with rfl | hj
    · exact hff
    · exact D.pend j hj hs
  · have hne : dstO ops i ≠ some t := ht i (List.mem_cons.2 (Or.inl rfl)) hSi
    rw [updO_ne hne]
    exact D.rel t fun j hj hs => ht j (List.mem_cons.2 (Or.inr hj)) hs
  · rw [hd]
    rcases List.mem_cons.1 hj with rfl | hj
    · rw [hd, ← wpOpG_congr (fr := fr)]
      · exact hdet _ ⟨by simp [getS, upd_eq], rfl⟩
      · intro t ht
        rw [updO_ne]
        intro e
        cases e
        rw [ht] at f4; cases f4
    · have hpd : getS (updO fr (some d) v) (dstO ops j) = getS fr (dstO ops j) := by
        cases hdj : dstO ops j with
        | none => rfl
        | some k =>
          simp only [getS]
          exact updO_ne fun e => f2 j (fun e' => r2 (e' ▸ hj)) (by rw [hdj]; exact e.symm)
      rw [hpd, ← wpOpG_congr (keep j hj)]
      exact D.stab j hj hs

theorem wpCan_advance (hfl : ∀ i, fl i = true → floatB ch ops i = true) {Q : Fr → AHeap → Prop} {B : Nat} {c : Ctx} {w : World} {a : Act} {S : Array Bool} {h : AHeap} (hdl : ∀ j k, depB ops j k = true → k < ops.size) : ∀ (m : Nat) (V : List Nat) (fr : Fr) (L : List Nat), (∀ i, i < ops.size → i ∉ V → i ∈ L) → L.length ≤ m → wpCan P ch ops fl fin Q m V fr h → Drw P N ds ch ops fl B c w a S V fr h →
    ∃ (m' : Nat) (V' : List Nat) (fr' : Fr) (L' : List Nat), (∀ i, i < ops.size → i ∉ V' → i ∈ L') ∧ L'.length ≤ m' ∧ wpCan P ch ops fl fin Q m' V' fr' h ∧ Drw P N ds ch ops fl B c w a S V' fr' h ∧ (readyV ops V').find? fl = none
  | 0, V, fr, L, hL, hlen, H, D => by
    refine ⟨0, V, fr, L, hL, hlen, H, D, List.find?_eq_none.2 fun i hi => ?_⟩
    obtain ⟨r1, r2, _⟩ := mem_readyV.1 hi
    have := hL i r1 r2
    have : L = [] := List.length_eq_zero_iff.1 (by omega)
    subst this
    simp at *
  | m + 1, V, fr, L, hL, hlen, H, D => by
    cases hfi : (readyV ops V).find? fl with
    | none => exact ⟨m + 1, V, fr, L, hL, hlen, H, D, hfi⟩
    | some i =>
      have hr := List.mem_of_find?_eq_some hfi
      have hf := List.find?_some hfi
      have H0 : wpOpG P ch ops i fr h fun v h' => wpCan P ch ops fl fin Q m (i :: V) (updO fr (dstO ops i) v) h' := by
        unfold wpCan at H
        rw [hfi] at H
        exact wpOpJ_eq.mp H
      obtain ⟨v, hk, D'⟩ := D.float hfl hr hf H0 hdl
      obtain ⟨r1, r2, _⟩ := mem_readyV.1 hr
      have hiL := hL i r1 r2
      have hll := List.length_erase_of_mem hiL
      have hpos : 0 < L.length := List.length_pos_of_mem hiL
      refine wpCan_advance hfl hdl m (i :: V) _ (L.erase i) (fun j hj hn => ?_) (by omega) hk D'
      have hji : j ≠ i := fun e => hn (by simp [e])
      exact (List.mem_erase_of_ne hji).2 (hL j hj (fun h => hn (by simp [h])))

/-- The frame without what isn't made yet. -/
noncomputable def maskF (V : List Nat) (S : Array Bool) (ops : Array Oper) (fr : Fr) : Fr := fun t =>
  open Classical in if ∃ i ∈ V, S.getD i false = false ∧ dstO ops i = some t then .und else fr t

theorem Drw.masked {B : Nat} {c : Ctx} {w : World} {a : Act} {S : Array Bool} {V : List Nat} {fr : Fr} {h : AHeap} (D : Drw P N ds ch ops fl B c w a S V fr h) : FrRel N ds c w (maskF V S ops fr) a := by
  refine ⟨D.tsz.1, D.tsz.2, fun t => ?_⟩
  unfold maskF
  split
  · simp [VRel]
  · rename_i hn
    exact D.rel t fun i hi hs e => hn ⟨i, hi, hs, e⟩

theorem Drw.looks {B : Nat} {c : Ctx} {w : World} {a : Act} {S : Array Bool} {V : List Nat} {fr : Fr} {h : AHeap} (D : Drw P N ds ch ops fl B c w a S V fr h) (hfl : ∀ i, fl i = true → floatB ch ops i = true) {j : Nat} (hj : ∀ k, depB ops j k = true → S.getD k false = true) : ∀ t, looksB ops j t = true → fr t = maskF V S ops fr t := by
  intro t ht
  unfold maskF
  rw [if_neg]
  rintro ⟨i, hi, hs, hd⟩
  obtain ⟨d, hd', f1, -⟩ := floatB_spec (hfl i (D.pend i hi hs))
  rw [hd] at hd'
  cases hd'
  rw [hj i (f1 j ht)] at hs; cases hs

theorem getD_set {S : Array Bool} {j k : Nat} (hj : j < S.size) : (S.setIfInBounds j true).getD k false = if k = j then true else S.getD k false := by
  by_cases e : k = j
  · subst e; simp [hj]
  · rw [if_neg e]; exact getD_set_ne false (Ne.symm e)

theorem wpCan_sound {ro : Option Nat} (hfl : ∀ i, fl i = true → floatB ch ops i = true) (hfin : ∀ V i, fin V i = true → ∃ k ∈ V, fl k = false ∧ ∃ n, reachB ops n k i = true) {Q : Fr → AHeap → Prop} {B : Nat} {c0 : Ctx} {w0 : World} {Q' : Exit → Act → World → Prop} (hdl : ∀ j k, depB ops j k = true → k < ops.size) (hok : opsOk N ops.toList = true)
    (hQ : ∀ c' fr' h' a' w', Ext B c0 w0 c' w' → WRel B c' h' w' → FrRel N ds c' w' fr' a' → Q fr' h' → Q' .normal a' w') : ∀ (f : Nat) (S : Array Bool) (a : Act) (w : World) (c : Ctx) (V : List Nat) (fr : Fr) (h : AHeap) (m : Nat) (L L2 : List Nat),
    Ext B c0 w0 c w → Drw P N ds ch ops fl B c w a S V fr h → wpCan P ch ops fl fin Q m V fr h → (∀ i, i < ops.size → i ∉ V → i ∈ L) → L.length ≤ m → (∀ i, i < ops.size → S.getD i false = false → i ∈ L2) → L2.length ≤ f → wpAnyIn (wideR ro) 0 P .any ops Q' f S a w := by
  intro f
  induction f with
  | zero =>
    intro S a w c V fr h m L L2 E D H hL hLl hL2 hL2l
    have hall : ∀ i, i < ops.size → S.getD i false = true := fun i hi => by
      cases hv : S.getD i false with
      | true => rfl
      | false =>
        have := hL2 i hi hv
        have : L2 = [] := List.length_eq_zero_iff.1 (by omega)
        subst this; simp at *
    have hrd : Region.ready .any ops S = [] := by
      rw [List.eq_nil_iff_forall_not_mem]
      intro i hi
      obtain ⟨r1, r2, _⟩ := (mem_readyS D.size).1 hi
      rw [hall i r1] at r2; cases r2
    refine ⟨hrd, ?_⟩
    obtain ⟨m', V', fr', L', g1, g2, g3, D', g5⟩ := wpCan_advance hfl hdl m V fr L hL hLl H D
    have hVn : readyV ops V' = [] := by
      rw [List.eq_nil_iff_forall_not_mem]
      intro i hi
      obtain ⟨r1, r2, _⟩ := mem_readyV.1 hi
      exact r2 (D'.sub i (hall i r1))
    have hq : Q fr' h := by
      cases m' with
      | zero => exact g3
      | succ m' => unfold wpCan at g3; rw [g5, hVn] at g3; exact g3
    refine hQ c fr' h a w E D'.W ⟨D'.tsz.1, D'.tsz.2, fun t => D'.rel t fun i hi hs => ?_⟩ hq
    rw [hall i (D'.lt i hi)] at hs; cases hs
  | succ f ih =>
    intro S a w c V0 fr0 h m0 L0 L2 E D0 H0 hL0 hLl0 hL2 hL2l
    obtain ⟨m, V, fr, L, hL, hLl, H, D, hnf⟩ := wpCan_advance hfl hdl m0 V0 fr0 L0 hL0 hLl0 H0 D0
    refine ⟨fun hrd => ?_, fun j hj => ?_⟩
    · have hall : ∀ i ∈ V, S.getD i false = true := fun i hi => by
        cases hv : S.getD i false with
        | true => rfl
        | false =>
          obtain ⟨k, k1, k2, k3⟩ := ordV_first D.ord ⟨i, hi, hv⟩
          have : k ∈ Region.ready .any ops S := (mem_readyS D.size).2 ⟨D.lt k k1, k2, k3⟩
          rw [hrd] at this; cases this
      have hVn : readyV ops V = [] := by
        rw [List.eq_nil_iff_forall_not_mem]
        intro i hi
        obtain ⟨r1, r2, r3⟩ := mem_readyV.1 hi
        have : i ∈ Region.ready .any ops S := (mem_readyS D.size).2 ⟨r1, by
          cases hv : S.getD i false with
          | false => rfl
          | true => exact absurd (D.sub i hv) r2, fun k hk => hall k (r3 k hk (hdl _ _ hk))⟩
        rw [hrd] at this; cases this
      have hq : Q fr h := by
        cases m with
        | zero => exact H
        | succ m => unfold wpCan at H; rw [hnf, hVn] at H; exact H
      refine hQ c fr h a w E D.W ⟨D.tsz.1, D.tsz.2, fun t => D.rel t fun i hi hs => ?_⟩ hq
      rw [hall i hi] at hs; cases hs
    · obtain ⟨j1, j2, j3⟩ := (mem_readyS D.size).1 hj
      have hjS : j < S.size := by rw [D.size]; exact j1
      have hgs := fun k => getD_set (S := S) (k := k) hjS
      have hL2' : ∀ i, i < ops.size → (S.setIfInBounds j true).getD i false = false → i ∈ L2.erase j := fun i hi hs => by
        rw [hgs] at hs
        split at hs
        · cases hs
        · rename_i hne; exact (List.mem_erase_of_ne hne).2 (hL2 i hi hs)
      have hj2 := hL2 j j1 j2
      have hll := List.length_erase_of_mem hj2
      have hpos : 0 < L2.length := List.length_pos_of_mem hj2
      have hclosed' : ∀ i k, (S.setIfInBounds j true).getD i false = true → depB ops i k = true → (S.setIfInBounds j true).getD k false = true := fun i k hi hd => by
        rw [hgs] at hi ⊢
        split
        · rfl
        · split at hi
          · rename_i e; subst e; exact j3 k hd
          · exact D.closed i k hi hd
      have hput : ∀ (d : Option Nat) (u : Value), (∀ k, d = some k → k < N) → (a.put d u).tmps.size = N ∧ (a.put d u).defers = ds := fun d u hd => by
        cases d with
        | none => exact D.tsz
        | some k => exact ⟨by simpa [Act.put] using D.tsz.1, by simpa [Act.put] using D.tsz.2⟩
      have hdN : ∀ k, dstO ops j = some k → k < N := fun k hk => by
        unfold dstO at hk
        cases ho : ops[j]? with
        | none => rw [ho] at hk; cases hk
        | some o =>
          rw [ho] at hk
          exact opsOk_mem hok (o := o) (by simpa using Array.mem_of_getElem? ho) k hk
      have hself : ∀ (k : Nat) (u : Value), k < N → (a.put (some k) u).tmps.getD k undef = u := fun k u hk => by
        simp only [Act.put]
        rw [Array.getD_eq_getD_getElem?, Array.getElem?_setIfInBounds_self_of_lt (by rw [D.tsz.1]; exact hk)]; rfl
      by_cases hjV : j ∈ V
      · -- one that was taken early
        have hst := D.stab j hjV j2
        rw [wpOpG_congr (D.looks hfl j3)] at hst
        refine wpOpG_sound D.W D.masked hst ?_
        intro c' v h' w' u E' W' hv hk
        obtain ⟨rfl, rfl⟩ := hk
        obtain ⟨d, hd, f1, f2, f3, f4⟩ := floatB_spec (hfl j (D.pend j hjV j2))
        refine ih (S.setIfInBounds j true) _ w' c' V fr h' m L (L2.erase j) (E.trans E') ⟨W', by simpa using D.size, hput _ _ hdN, D.lt, fun i hi => ?_, hclosed', D.ord, fun i hi hs => ?_, fun t ht => ?_, fun i hi hs => ?_⟩ H hL hLl hL2' (by omega)
        · rw [hgs] at hi
          split at hi
          · rename_i e; subst e; exact hjV
          · exact D.sub i hi
        · rw [hgs] at hs
          split at hs
          · cases hs
          · exact D.pend i hi hs
        · by_cases e : dstO ops j = some t
          · rw [e] at hv ⊢
            rw [hself t u (hdN t e)]
            exact hv
          · rw [getD_put_ne e]
            refine VRel.mono E' (D.rel t fun i hi hs hd' => ?_)
            by_cases eij : i = j
            · subst eij; exact e hd'
            · exact ht i hi (by rw [hgs, if_neg eij]; exact hs) hd'
        · rw [hgs] at hs
          split at hs
          · cases hs
          · exact D.stab i hi hs
      · -- another one
        have hjr : j ∈ readyV ops V := mem_readyV.2 ⟨j1, hjV, fun k hk _ => D.sub k (j3 k hk)⟩
        cases m with
        | zero =>
          have := hL j j1 hjV
          have : L = [] := List.length_eq_zero_iff.1 (by omega)
          subst this; simp at *
        | succ m =>
          have H1 : wpOpG P ch ops j fr h fun v h' => stabs P ch ops fl fin (j :: V) (updO fr (dstO ops j) v) h' ∧ wpCan P ch ops fl fin Q m (j :: V) (updO fr (dstO ops j) v) h' := by
            unfold wpCan at H
            rw [hnf] at H
            cases hrv : readyV ops V with
            | nil => rw [hrv] at hjr; cases hjr
            | cons x xs =>
              rw [hrv] at H hjr
              exact wpOpJ_eq.mp (allP_mem H j hjr)
          rw [wpOpG_congr (D.looks hfl j3)] at H1
          refine wpOpG_sound D.W D.masked H1 ?_
          intro c' v h' w' u E' W' hv hk
          obtain ⟨hst, hcan⟩ := hk
          have hjL := hL j j1 hjV
          have hll' := List.length_erase_of_mem hjL
          have hpos' : 0 < L.length := List.length_pos_of_mem hjL
          have hpend : ∀ i ∈ j :: V, (S.setIfInBounds j true).getD i false = false → i ∈ V ∧ i ≠ j ∧ S.getD i false = false := fun i hi hs => by
            rw [hgs] at hs
            split at hs
            · cases hs
            · rename_i hne
              rcases List.mem_cons.1 hi with e | hi
              · exact absurd e hne
              · exact ⟨hi, hne, hs⟩
          refine ih (S.setIfInBounds j true) _ w' c' (j :: V) _ h' m (L.erase j) (L2.erase j) (E.trans E') ⟨W', by simpa using D.size, hput _ _ hdN, fun i hi => ?_, fun i hi => ?_, hclosed', ⟨fun k hk => D.sub k (j3 k hk), D.ord⟩, fun i hi hs => ?_, fun t ht => ?_, fun i hi hs => ?_⟩ hcan (fun i hi hn => ?_) (by omega) hL2' (by omega)
          · rcases List.mem_cons.1 hi with rfl | hi
            · exact j1
            · exact D.lt i hi
          · rw [hgs] at hi
            split at hi
            · rename_i e; exact List.mem_cons.2 (Or.inl e)
            · exact List.mem_cons.2 (Or.inr (D.sub i hi))
          · obtain ⟨g1, g2, g3⟩ := hpend i hi hs
            exact D.pend i g1 g3
          · by_cases e : dstO ops j = some t
            · rw [e]
              rw [hself t u (hdN t e)]
              simpa [upd_eq] using hv
            · rw [getD_put_ne e, updO_ne e]
              refine VRel.mono E' (D.rel t fun i hi hs hd' => ?_)
              have hij : i ≠ j := fun e' => hjV (e' ▸ hi)
              exact ht i (List.mem_cons.2 (Or.inr hi)) (by rw [hgs, if_neg hij]; exact hs) hd'
          · obtain ⟨g1, g2, g3⟩ := hpend i hi hs
            have hfii := D.pend i g1 g3
            have hfi := hfl i hfii
            obtain ⟨d, hd, f1, f2, f3, f4⟩ := floatB_spec hfi
            by_cases hmem : memB ops i = true
            · refine allP_mem hst i ?_
              rw [List.mem_filter]
              refine ⟨hi, ?_⟩
              rw [hfii, hmem, Bool.true_and, Bool.and_true]
              cases hf2 : fin (j :: V) i with
              | false => rfl
              | true =>
                obtain ⟨k, hk, hkf, n, hr⟩ := hfin _ _ hf2
                have hkd : ∀ k', depB ops k k' = true → S.getD k' false = true := by
                  rcases List.mem_cons.1 hk with rfl | hk
                  · exact j3
                  · intro k' hk'
                    have : S.getD k false = true := by
                      cases hv : S.getD k false with
                      | true => rfl
                      | false => rw [D.pend k hk hv] at hkf; cases hkf
                    exact D.closed k k' this hk'
                rw [reach_listed D.closed n k i hkd hr] at g3; cases g3
            · have hmem' : memB ops i = false := by simpa using hmem
              obtain ⟨v0, ⟨e0, -⟩, -, hany⟩ := quiet_detG hfi (D.stab i g1 g3)
              have hpd : getS (updO fr (dstO ops j) v) (dstO ops i) = getS fr (dstO ops i) := by
                rw [hd]
                simp only [getS]
                exact updO_ne fun e => f2 j (Ne.symm g2) e
              rw [hpd, ← wpOpG_congr (fr := fr)]
              · exact hany hmem' h' _ ⟨e0, rfl⟩
              · intro t ht
                rw [updO_ne]
                intro e
                exact hjV (ordV_closed D.ord i g1 j (f3 j t e ht))
          · have hji : i ≠ j := fun e => hn (by simp [e])
            exact (List.mem_erase_of_ne hji).2 (hL i hi (fun h => hn (by simp [h])))

end

end Go.Abs
