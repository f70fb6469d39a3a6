/- Regions that leave their order open: one walk, the operations that only read as early as they can; what they read must stay as it was. -/
import Derived.Test.YtpoeoekoafpdhaaAbsCode
import Derived.Orders
set_option linter.unusedVariables false
set_option linter.unusedSimpArgs false
namespace Go.Abs
open Go.RowKit

/-- An operation that turns nothing. -/
def quietOp (by_ : Bool) : Op → Bool
  | .move _ | .assign _ | .pick _ _ _ | .build _ _ | .load _ _ | .nilCheck _ | .binOp _ _ _ _ _ | .unOp _ _ _ | .convert _ _ _ | .slice _ _ _ _ _ | .fieldAddr _ _ _ | .field _ _ _ | .indexAddr _ _ _ | .index _ _ _ | .extract _ _ | .makeFunc _ _ _ | .makeInterface _ _ => true
  | .box _ _ => by_
  | .buildSlice _ len _ => by_ || len == 0
  | .call q => match q.callee with | .builtin .len | .builtin .max | .builtin .min => true | _ => false
  | _ => false

/-- One that looks into objects. -/
def memOp : Op → Bool
  | .load _ _ | .convert _ _ _ => true
  | _ => false

section
variable {P : Program} {h h' : AHeap}

theorem pCells_det {k : Option Nat} {cs : List AV} {off : Nat} {K : AV → Prop} (H : pCells k cs off K) : ∃ v, K v ∧ ∀ K' : AV → Prop, K' v → pCells k cs off K' := by
  unfold pCells at H ⊢
  cases k with
  | none =>
    cases hv : cs[off]? with
    | none => simp [hv] at H
    | some v => simp only [hv] at H; exact ⟨v, H, fun K' hk => by simpa using hk⟩
  | some n => exact ⟨_, H.2, fun K' hk => ⟨H.1, hk⟩⟩

theorem pLoad_det {k : Option Nat} {x : AV} {K : AV → Prop} (H : pLoad k x h K) : ∃ v, K v ∧ ∀ K' : AV → Prop, K' v → pLoad k x h K' := by
  unfold pLoad at H ⊢
  cases x <;> simp only at H ⊢ <;> (try (exact H.elim))
  · rename_i id off
    cases ho : h.objs id with
    | none => simp [ho] at H
    | some o => cases o <;> simp only [ho] at H ⊢ <;> first | exact H.elim | exact pCells_det H
  · exact pCells_det H

theorem pConv_det {ck : CvK} {x : AV} {K : AV → Prop} (H : pConv ck x h K) : ∃ v, K v ∧ ∀ K' : AV → Prop, K' v → pConv ck x h K' := by
  cases ck with
  | int k => cases x <;> simp only [pConv] at H ⊢ <;> first | exact H.elim | exact ⟨_, H, fun _ hk => hk⟩
  | same => cases x <;> simp only [pConv] at H ⊢ <;> first | exact H.elim | exact ⟨_, H, fun _ hk => hk⟩
  | bytesStr n =>
    have main : (match srcElems n x h with | some es => (match bytesOf es with | some s => K (.str s) | none => False) | none => False) → ∃ v, K v ∧ ∀ K' : AV → Prop, K' v → (match srcElems n x h with | some es => (match bytesOf es with | some s => K' (.str s) | none => False) | none => False) := by
      intro H
      cases hs : srcElems n x h with
      | none => simp [hs] at H
      | some es =>
        cases hb : bytesOf es with
        | none => simp [hs, hb] at H
        | some s => simp only [hs, hb] at H; exact ⟨_, H, fun K' hk => by simpa [hs, hb] using hk⟩
    cases x <;> first | exact H.elim | exact main H

theorem pSliceStr_det {x : AV} {lo hi : Option AV} {K : AV → Prop} (H : pSliceStr x lo hi K) : ∃ v, K v ∧ ∀ K' : AV → Prop, K' v → pSliceStr x lo hi K' := by
  unfold pSliceStr at H ⊢
  cases x <;> simp only at H ⊢ <;> (try (exact H.elim))
  rename_i s
  cases h1 : bnd 0 lo <;> cases h2 : bnd s.length hi <;> simp only [h1, h2] at H ⊢ <;> first | exact H.elim | exact ⟨_, H.2.2.2, fun K' hk => ⟨H.1, H.2.1, H.2.2.1, hk⟩⟩

theorem pSliceSl_det {n : Nat} {x : AV} {lo hi : Option AV} {K : AV → Prop} (H : pSliceSl n x lo hi K) : ∃ v, K v ∧ ∀ K' : AV → Prop, K' v → pSliceSl n x lo hi K' := by
  unfold pSliceSl at H ⊢
  cases x <;> simp only at H ⊢ <;> (try (exact H.elim))
  · cases h1 : bnd 0 lo <;> cases h2 : bnd 0 hi <;> simp only [h1, h2] at H ⊢ <;> first | exact H.elim | exact ⟨_, H.2.2, fun K' hk => ⟨H.1, H.2.1, hk⟩⟩
  · cases h1 : bnd 0 lo <;> cases h2 : bnd 0 hi <;> simp only [h1, h2] at H ⊢ <;> first | exact H.elim | exact ⟨_, H.2.2, fun K' hk => ⟨H.1, H.2.1, hk⟩⟩
  · rename_i sz es
    cases h1 : bnd 0 lo <;> cases h2 : bnd es.length hi <;> simp only [h1, h2] at H ⊢ <;> first | exact H.elim | exact ⟨_, H.2.2.2.2, fun K' hk => ⟨H.1, H.2.1, H.2.2.1, H.2.2.2.1, hk⟩⟩
  · rename_i id sz es
    cases h1 : bnd 0 lo <;> cases h2 : bnd es.length hi <;> simp only [h1, h2] at H ⊢ <;> first | exact H.elim | exact ⟨_, H.2.2.2.2, fun K' hk => ⟨H.1, H.2.1, H.2.2.1, H.2.2.2.1, hk⟩⟩
  · rename_i id off len sz
    cases h1 : bnd 0 lo <;> cases h2 : bnd len hi <;> simp only [h1, h2] at H ⊢ <;> (try (exact H.elim))
    obtain ⟨g1, g2, g3, g4, H⟩ := H
    split at H
    · rename_i e; exact ⟨_, H, fun K' hk => ⟨g1, g2, g3, g4, by rw [if_pos e]; exact hk⟩⟩
    · split at H
      · rename_i e1 e2; exact ⟨_, H, fun K' hk => ⟨g1, g2, g3, g4, by rw [if_neg e1, if_pos e2]; exact hk⟩⟩
      · rename_i e1 e2; exact ⟨_, H, fun K' hk => ⟨g1, g2, g3, g4, by rw [if_neg e1, if_neg e2]; exact hk⟩⟩

theorem pIndexAddr_det {ik : IxK} {x i : AV} {K : AV → Prop} (H : pIndexAddr ik x i K) : ∃ v, K v ∧ ∀ K' : AV → Prop, K' v → pIndexAddr ik x i K' := by
  unfold pIndexAddr at H ⊢
  cases ik <;> cases x <;> (try (exact H.elim)) <;> cases i <;> (try (exact H.elim)) <;> (try simp only at H ⊢)
  · rename_i n sz es k q
    cases he : es[q.toNat]? with
    | none => simp [he] at H
    | some e => simp only [he] at H ⊢; exact ⟨_, H.2.2, fun K' hk => ⟨H.1, H.2.1, hk⟩⟩
  · rename_i n id sz es k q
    cases he : es[q.toNat]? with
    | none => simp [he] at H
    | some e => simp only [he] at H ⊢; exact ⟨_, H.2.2, fun K' hk => ⟨H.1, H.2.1, hk⟩⟩
  · exact ⟨_, H.2.2.2, fun K' hk => ⟨H.1, H.2.1, H.2.2.1, hk⟩⟩
  · exact ⟨_, H.2.2, fun K' hk => ⟨H.1, H.2.1, hk⟩⟩
  · exact ⟨_, H.2.2, fun K' hk => ⟨H.1, H.2.1, hk⟩⟩

theorem pLen_det {k : LenK} {x : AV} {K : AV → Prop} (H : pLen k x K) : ∃ v, K v ∧ ∀ K' : AV → Prop, K' v → pLen k x K' := by
  unfold pLen at H ⊢
  cases k <;> cases x <;> simp only at H ⊢ <;> first | exact H.elim | exact ⟨_, H, fun _ hk => hk⟩

theorem obind_det {o : Option AV} {K : AV → Prop} (H : obind o K) : ∃ v, K v ∧ ∀ K' : AV → Prop, K' v → obind o K' := by
  cases o with
  | none => exact H.elim
  | some v => exact ⟨v, H, fun _ hk => hk⟩

/-- What a quiet operation makes is one value, of which all else hangs; but for those that look into objects, whatever the objects are. -/
theorem quiet_det {by_ : Bool} {o : Op} {ev : Operand → AV} {K : AV → AHeap → Prop} (hq : quietOp by_ o = true) (H : wpOp P by_ o ev h K) : ∃ v, K v h ∧ (∀ K' : AV → AHeap → Prop, K' v h → wpOp P by_ o ev h K') ∧ (memOp o = false → ∀ (h' : AHeap) (K' : AV → AHeap → Prop), K' v h' → wpOp P by_ o ev h' K') := by
  cases o <;> simp only [quietOp, Bool.false_eq_true] at hq <;> simp only [wpOp] at H ⊢
  case move x => exact ⟨_, H, fun _ hk => hk, fun _ _ _ hk => hk⟩
  case assign x => exact ⟨_, H, fun _ hk => hk, fun _ _ _ hk => hk⟩
  case pick q x y =>
    unfold pPick at H ⊢
    cases hc : ev q <;> simp only [hc] at H ⊢ <;> first | exact H.elim | exact ⟨_, H, fun _ hk => hk, fun _ _ _ hk => hk⟩
  case box t x =>
    subst hq
    simp only [pBox, if_true] at H ⊢
    exact ⟨_, H.2, fun _ hk => ⟨H.1, hk⟩, fun _ _ _ hk => ⟨H.1, hk⟩⟩
  case build t parts =>
    cases h1 : placesK P t <;> cases h2 : zeroK P t <;> simp only [h1, h2] at H ⊢ <;> (try (exact H.elim))
    unfold pBuild at H ⊢
    rename_i pl z
    cases hf : fillA (pl[·]?) z (List.map (fun p => (p.fst, ev p.snd)) parts.toList) with
    | none => simp [hf] at H
    | some cs => simp only [hf] at H ⊢; exact ⟨_, H, fun _ hk => hk, fun _ _ _ hk => hk⟩
  case buildSlice t len parts =>
    cases h1 : slT P t with
    | none => simp [h1] at H
    | some T =>
      simp only [h1] at H ⊢
      cases h2 : zeroK P T.e with
      | none => simp [h2] at H
      | some z =>
        simp only [h2] at H ⊢
        obtain ⟨H1, H⟩ := H
        cases len with
        | zero => simp only [pBuildSl] at H ⊢; exact ⟨_, H, fun _ hk => ⟨fun _ => H1 rfl, hk⟩, fun _ _ _ hk => ⟨fun _ => H1 rfl, hk⟩⟩
        | succ n =>
          have hb : by_ = true := by simpa using hq
          subst hb
          simp only [pBuildSl] at H ⊢
          obtain ⟨g1, g2, H⟩ := H
          cases hf : fillE T.sz (List.replicate (n + 1) z) (List.map (fun p => (p.fst, ev p.snd)) parts.toList) with
          | none => simp [hf] at H
          | some es =>
            simp only [hf, if_true] at H ⊢
            exact ⟨_, H, fun _ hk => ⟨H1, g1, g2, hk⟩, fun _ _ _ hk => ⟨H1, g1, g2, hk⟩⟩
  case load t x =>
    cases h1 : ldK P t <;> simp only [h1] at H ⊢ <;> (try (exact H.elim))
    obtain ⟨v, hv, hk⟩ := pLoad_det H
    exact ⟨v, hv, fun K' hk' => hk (fun v => K' v h) hk', by simp [memOp]⟩
  case nilCheck x =>
    unfold pNil at H ⊢
    cases hc : ev x <;> simp only [hc] at H ⊢ <;> (try (exact H.elim))
    · exact ⟨_, H, fun _ hk => hk, fun _ _ _ hk => hk⟩
    · exact ⟨_, H, fun _ hk => hk, fun _ _ _ hk => hk⟩
    · rename_i f a b
      cases f <;> simp only at H ⊢ <;> first | exact H.elim | exact ⟨_, H, fun _ hk => hk, fun _ _ _ hk => hk⟩
  case binOp op t x y t2 =>
    obtain ⟨v, hv, hk⟩ := obind_det H
    exact ⟨v, hv, fun K' hk' => hk (fun v => K' v h) hk', fun _ h' K' hk' => hk (fun v => K' v h') hk'⟩
  case unOp op t x =>
    obtain ⟨v, hv, hk⟩ := obind_det H
    exact ⟨v, hv, fun K' hk' => hk (fun v => K' v h) hk', fun _ h' K' hk' => hk (fun v => K' v h') hk'⟩
  case convert s d x =>
    cases h1 : convK P s d <;> simp only [h1] at H ⊢ <;> (try (exact H.elim))
    obtain ⟨v, hv, hk⟩ := pConv_det H
    exact ⟨v, hv, fun K' hk' => hk (fun v => K' v h) hk', by simp [memOp]⟩
  case slice t x lo hi mx =>
    cases mx with
    | some m => exact H.elim
    | none =>
      simp only at H ⊢
      cases h1 : P.underlying t with
      | none => simp [h1] at H
      | some d =>
        cases d <;> simp only [h1] at H ⊢ <;> (try (exact H.elim))
        · obtain ⟨v, hv, hk⟩ := pSliceStr_det H
          exact ⟨v, hv, fun K' hk' => hk (fun v => K' v h) hk', fun _ h' K' hk' => hk (fun v => K' v h') hk'⟩
        · rename_i e
          cases h2 : szK P e <;> simp only [h2] at H ⊢ <;> (try (exact H.elim))
          obtain ⟨v, hv, hk⟩ := pSliceSl_det H
          exact ⟨v, hv, fun K' hk' => hk (fun v => K' v h) hk', fun _ h' K' hk' => hk (fun v => K' v h') hk'⟩
  case fieldAddr t x f =>
    cases h1 : fadK P t f <;> simp only [h1] at H ⊢ <;> (try (exact H.elim))
    unfold pFieldAddr at H ⊢
    cases hc : ev x <;> simp only [hc] at H ⊢ <;> first | exact H.elim | exact ⟨_, H, fun _ hk => hk, fun _ _ _ hk => hk⟩
  case field t x f =>
    cases h1 : fldK P t f with
    | none => simp [h1] at H
    | some q =>
      obtain ⟨off, k⟩ := q
      simp only [h1] at H ⊢
      unfold pField at H ⊢
      cases hc : ev x <;> simp only [hc] at H ⊢ <;> (try (exact H.elim))
      obtain ⟨v, hv, hk⟩ := pCells_det H
      exact ⟨v, hv, fun K' hk' => hk (fun v => K' v h) hk', fun _ h' K' hk' => hk (fun v => K' v h') hk'⟩
  case indexAddr t x i =>
    cases h1 : ixK P t <;> simp only [h1] at H ⊢ <;> (try (exact H.elim))
    obtain ⟨v, hv, hk⟩ := pIndexAddr_det H
    exact ⟨v, hv, fun K' hk' => hk (fun v => K' v h) hk', fun _ h' K' hk' => hk (fun v => K' v h') hk'⟩
  case index t x i =>
    cases h1 : P.underlying t with
    | none => simp [h1] at H
    | some d =>
      cases d <;> simp only [h1] at H ⊢ <;> (try (exact H.elim))
      unfold pIndexStr at H ⊢
      cases hx : ev x <;> simp only [hx] at H ⊢ <;> (try (exact H.elim)) <;> cases hi : ev i <;> simp only [hi] at H ⊢ <;> (try (exact H.elim))
      rename_i s k q
      cases he : s[q.toNat]? with
      | none => simp [he] at H
      | some e => simp only [he] at H ⊢; exact ⟨_, H.2, fun K' hk => ⟨H.1, hk⟩, fun _ _ _ hk => ⟨H.1, hk⟩⟩
  case extract x i =>
    unfold pExtract at H ⊢
    cases hc : ev x <;> simp only [hc] at H ⊢ <;> (try (exact H.elim))
    rename_i vs
    cases he : vs[i]? with
    | none => simp [he] at H
    | some e => simp only [he] at H ⊢; exact ⟨_, H, fun K' hk => hk, fun _ _ _ hk => hk⟩
  case makeFunc f first cap => exact ⟨_, H, fun _ hk => hk, fun _ _ _ hk => hk⟩
  case makeInterface t x => exact ⟨_, H.2, fun _ hk => ⟨H.1, hk⟩, fun _ _ _ hk => ⟨H.1, hk⟩⟩
  case call q =>
    cases hc : q.callee with
    | value f => simp [hc] at hq
    | invoke r m => simp [hc] at hq
    | builtin b =>
      simp only [hc] at H ⊢
      simp only [hc] at hq
      generalize q.argTypes.toList = ts at H ⊢
      generalize q.args.toList.map ev = xs at H ⊢
      cases b <;> simp only [Bool.false_eq_true] at hq
      · -- len
        unfold wpBuiltin at H ⊢
        match ts, xs with
        | [t], [x] =>
          simp only at H ⊢
          cases h1 : lenK P t <;> simp only [h1] at H ⊢ <;> (try (exact H.elim))
          obtain ⟨v, hv, hk⟩ := pLen_det H
          exact ⟨v, hv, fun K' hk' => hk (fun v => K' v h) hk', fun _ h' K' hk' => hk (fun v => K' v h') hk'⟩
        | [], _ => exact H.elim
        | _ :: _ :: _, _ => exact H.elim
        | [_], [] => exact H.elim
        | [_], _ :: _ :: _ => exact H.elim
      · simp only [wpBuiltin] at H ⊢
        obtain ⟨v, hv, hk⟩ := obind_det H
        exact ⟨v, hv, fun K' hk' => hk (fun v => K' v h) hk', fun _ h' K' hk' => hk (fun v => K' v h') hk'⟩
      · simp only [wpBuiltin] at H ⊢
        obtain ⟨v, hv, hk⟩ := obind_det H
        exact ⟨v, hv, fun K' hk' => hk (fun v => K' v h) hk', fun _ h' K' hk' => hk (fun v => K' v h') hk'⟩

end

def wpDraw (P : Program) (N : Nat) (ch : Nat → Bool) (ops : Array Oper) (Q : Fr → AHeap → Prop) (fr : Fr) (h : AHeap) : Prop := False

theorem wpDraw_sound {P : Program} {N : Nat} {ch : Nat → Bool} {id : Nat} {ops : Array Oper} {Q : Fr → AHeap → Prop} {fr : Fr} {h : AHeap} {B : Nat} {c : Ctx} {w : World} {a : Act} {Q' : Exit → Act → World → Prop} (hm : P.follows .mixedOrders = true) (hok : True) (W : WRel B c h w) (F : FrRel N c w fr a)
    (H : wpDraw P N ch ops Q fr h) (hQ : ∀ c' fr' h' a' w', Ext B c w c' w' → WRel B c' h' w' → FrRel N c' w' fr' a' → Q fr' h' → Q' .normal a' w') : (Code.region id ops true).wp P Q' a w := H.elim

end Go.Abs
