/- Code: what is to be shown of it, computed; loops; functions. -/
import Derived.Test.YtppldbldpphlmaaAbsCode
import Derived.Test.YtppldbldpphlmaaAbsFast
set_option linter.unusedVariables false
set_option linter.unusedSimpArgs false
namespace Go.Abs
open Go.RowKit

inductive AExit | normal | exit (id : Nat) | ret

def AExit.toExit : AExit → Exit | .normal => .normal | .exit id => .exit id | .ret => .ret

def codeOk (N : Nat) : Code → Bool
  | .skip | .exit _ | .ret => true
  | .region _ ops _ => opsOk N ops.toList
  | .seq a b => codeOk N a && codeOk N b
  | .cond _ a b => codeOk N a && codeOk N b
  | .block _ b => codeOk N b
  | .loop b => codeOk N b
  | _ => false

/-- What holds behind a piece of code, of the machine. -/
def PostA (B N : Nat) (c : Ctx) (w : World) (Q : AExit → Fr → AHeap → Prop) : Exit → Act → World → Prop := fun e a' w' =>
  ∃ c' fr' h' ae, AExit.toExit ae = e ∧ Ext B c w c' w' ∧ WRel B c' h' w' ∧ FrRel N c' w' fr' a' ∧ Q ae fr' h'

/-- A piece of code does what is asked of it, whatever the machine's memory. -/
def WP (P : Program) (N : Nat) (code : Code) (fr : Fr) (h : AHeap) (Q : AExit → Fr → AHeap → Prop) : Prop :=
  ∀ B c w a, WRel B c h w → FrRel N c w fr a → code.wp P (PostA B N c w Q) a w

def pCond (v : AV) (T F : Prop) : Prop :=
  match v with
  | .bool b => if b then T else F
  | .unkb => T ∧ F
  | _ => False

/-- A frame of a few slots. -/
def frOf : List (Nat × AV) → Fr
  | [], _ => .und
  | (k, v) :: r, i => if i = k then v else frOf r i
def restr (L : List Nat) (fr : Fr) : Fr := frOf (L.map fun i => (i, fr i))

/-- What holds behind a piece of code, by how it was left. -/
def exitQ (n : Fr → AHeap → Prop) (x : Nat → Fr → AHeap → Prop) (r : Fr → AHeap → Prop) : AExit → Fr → AHeap → Prop := fun e fr h =>
  match e with
  | .normal => n fr h
  | .exit id => x id fr h
  | .ret => r fr h

/-- How the condition is to be computed: 'ch': slots in which what is made is by value; 'lv': the slots that count ahead of the piece of code that begins with this region; 'cut': where an assertion stands between. -/
structure Cfg where
  ch : Nat → Bool
  lv : Nat → List Nat
  cut : Nat → Bool
  rc : Nat → Nat → Option (List Nat) := fun _ _ => none

def firstReg : Code → Option Nat
  | .region id _ _ => some id
  | .seq a b => match firstReg a with | some k => some k | none => firstReg b
  | .cond _ a b => match firstReg a with | some k => some k | none => firstReg b
  | .block _ b => firstReg b
  | .loop b => firstReg b
  | _ => none

/-- Is a block left out of this piece of code? -/
def hasExit : Code → Nat → Bool
  | .exit id, k => id == k
  | .seq a b, k => hasExit a k || hasExit b k
  | .cond _ a b, k => hasExit a k || hasExit b k
  | .block _ b, k => hasExit b k
  | .loop b, k => hasExit b k
  | _, _ => false

def pIdx (i k : Nat) (T F : Prop) : Prop := if i = k then T else F
def selE (G : Nat → Prop) : List Nat → Nat → Prop
  | [], _ => False
  | k :: ks, i => pIdx i k (G k) (selE G ks i)

theorem selE_self {G : Nat → Prop} {l : List Nat} {i : Nat} (h : selE G l i) : G i := by
  induction l with
  | nil => exact h.elim
  | cons k ks ih =>
    simp only [selE, pIdx] at h
    split at h
    · rename_i e; subst e; exact h
    · exact ih h

/-- What stands behind a cut, once: an assertion of one's own, or just what is to be shown there. -/
def Cut (A : (Fr → AHeap → Prop) → Prop) (B : Fr → AHeap → Prop) : Prop := ∃ J : Fr → AHeap → Prop, A J ∧ ∀ fr h, J fr h → B fr h

/-- What is to be shown of a piece of code. 'bl': the blocks around. -/
def wpc (P : Program) (N : Nat) (cfg : Cfg) : List Nat → Code → Fr → AHeap → (AExit → Fr → AHeap → Prop) → Prop
  | bl, .skip, fr, h, Q => Q .normal fr h
  | bl, .region id ops draw, fr, h, Q => match draw with
    | false => wpOps P cfg.ch ops (cfg.rc id) (fun fr' h' => Q .normal fr' h') ops.toList fr h
    | true => wpDraw P N cfg.ch ops (fun fr' h' => Q .normal fr' h') fr h
  | bl, .seq a b, fr, h, Q => match firstReg b with
    | some k => match cfg.cut k with
      | true => ∃ J : Fr → AHeap → Prop, wpc P N cfg bl a fr h (exitQ (fun fr' h' => J (restr (cfg.lv k) fr') h') (fun id fr' h' => Q (.exit id) fr' h') (fun fr' h' => Q .ret fr' h')) ∧ ∀ fr' h', J fr' h' → wpc P N cfg bl b fr' h' Q
      | false => wpc P N cfg bl a fr h (exitQ (fun fr' h' => wpc P N cfg bl b fr' h' Q) (fun id fr' h' => Q (.exit id) fr' h') (fun fr' h' => Q .ret fr' h'))
    | none => wpc P N cfg bl a fr h (exitQ (fun fr' h' => wpc P N cfg bl b fr' h' Q) (fun id fr' h' => Q (.exit id) fr' h') (fun fr' h' => Q .ret fr' h'))
  | bl, .cond x a b, fr, h, Q => pCond (aEv fr x) (wpc P N cfg bl a fr h Q) (wpc P N cfg bl b fr h Q)
  | bl, .block id b, fr, h, Q => wpc P N cfg (id :: bl) b fr h (exitQ (fun fr' h' => Q .normal fr' h') (fun id' fr' h' => pIdx id' id (Q .normal fr' h') (Q (.exit id') fr' h')) (fun fr' h' => Q .ret fr' h'))
  | bl, .loop b, fr, h, Q => match firstReg b with
    | some k => WP P N (.loop b) (restr (cfg.lv k) fr) h (exitQ (fun _ _ => False) (fun id fr' h' => selE (fun k => Q (.exit k) fr' h') (bl.filter (hasExit b)) id) (fun fr' h' => Q .ret fr' h'))
    | none => False
  | bl, .exit id, fr, h, Q => Q (.exit id) fr h
  | bl, .ret, fr, h, Q => Q .ret fr h
  | _, _, _, _, _ => False

section
variable {P : Program} {N : Nat} {cfg : Cfg}

theorem WP.mono {code : Code} {fr : Fr} {h : AHeap} {Q Q' : AExit → Fr → AHeap → Prop} (H : WP P N code fr h Q) (hq : ∀ e fr h, Q e fr h → Q' e fr h) : WP P N code fr h Q' :=
  fun B c w a W F => wp_mono (H B c w a W F) fun e a' w' ⟨c', fr', h', ae, h1, h2, h3, h4, h5⟩ => ⟨c', fr', h', ae, h1, h2, h3, h4, hq _ _ _ h5⟩

/-- A step of knowledge alone: the frame and the objects are seen otherwise, nothing is done. -/
def Ghost (fr : Fr) (h : AHeap) (fr2 : Fr) (h2 : AHeap) : Prop :=
  ∀ N B c w a, WRel B c h w → FrRel N c w fr a → ∃ c', Ext B c w c' w ∧ WRel B c' h2 w ∧ FrRel N c' w fr2 a

theorem PostA.trans {B : Nat} {c c' : Ctx} {w w' : World} {Q : AExit → Fr → AHeap → Prop} (E : Ext B c w c' w') {e : Exit} {a : Act} {w2 : World} (H : PostA B N c' w' Q e a w2) : PostA B N c w Q e a w2 := by
  obtain ⟨c2, fr', h', ae, h1, h2, h3, h4, h5⟩ := H
  exact ⟨c2, fr', h', ae, h1, E.trans h2, h3, h4, h5⟩

theorem WP.ghost {code : Code} {fr fr2 : Fr} {h h2 : AHeap} {Q : AExit → Fr → AHeap → Prop} (G : Ghost fr h fr2 h2) (H : WP P N code fr2 h2 Q) : WP P N code fr h Q := by
  intro B c w a W F
  obtain ⟨c', E, W', F'⟩ := G N B c w a W F
  exact wp_mono (H B c' w a W' F') fun e a' w' hp => hp.trans E

theorem frOf_rel {N : Nat} {B : Nat} {c : Ctx} {w : World} {fr : Fr} {a : Act} (F : FrRel N c w fr a) (L : List Nat) : FrRel N c w (restr L fr) a := by
  refine ⟨F.1, F.2.1, fun i => ?_⟩
  unfold restr
  induction L with
  | nil => simp [frOf, VRel]
  | cons k L ih =>
    simp only [List.map_cons, frOf]
    split
    · rename_i e; subst e; exact F.2.2 i
    · exact ih

theorem WP.restr {code : Code} {fr : Fr} {h : AHeap} {Q : AExit → Fr → AHeap → Prop} (L : List Nat) (H : WP P N code (restr L fr) h Q) : WP P N code fr h Q :=
  fun B c w a W F => H B c w a W (frOf_rel (B := B) F L)

theorem WP.restrPost {code : Code} {fr : Fr} {h : AHeap} {Q : AExit → Fr → AHeap → Prop} (L : List Nat) (H : WP P N code fr h (fun e fr' h' => Q e (Abs.restr L fr') h')) : WP P N code fr h Q :=
  fun B c w a W F => wp_mono (H B c w a W F) fun e a' w' ⟨c', fr', h', ae, h1, h2, h3, h4, h5⟩ => ⟨c', Abs.restr L fr', h', ae, h1, h2, h3, frOf_rel (B := B) h4 L, h5⟩

theorem nth_succ (v : AV) (vs : List AV) (n : Nat) : nth (v :: vs) (n + 1) = nth vs n := by simp [nth]
theorem updN_succ : ∀ (l : List Oper) (fr : Fr) (n : Nat) (v : AV) (vs : List AV), updN fr l (n + 1) (v :: vs) = updN fr l n vs
  | [], _, _, _, _ => rfl
  | o :: l, fr, n, v, vs => by rw [updN, updN, nth_succ, updN_succ l]

/-- One operation of a list, its guard decided. -/
theorem wpList_want {ops : Array Oper} {o : Oper} {rest : List Oper} {Q' : Exit → Act → World → Prop} {a : Act} {w : World} (hw : Region.wanted o (yielded ops a.tmps) = true) (h : o.wp P a w (wpList P ops Q' rest) Q') : wpList P ops Q' (o :: rest) a w := by
  unfold wpList; rw [if_pos hw]; exact Or.inl h
theorem wpList_skip {ops : Array Oper} {o : Oper} {rest : List Oper} {Q' : Exit → Act → World → Prop} {a : Act} {w : World} (hw : Region.wanted o (yielded ops a.tmps) = false) (h : wpList P ops Q' rest (a.put o.dst undef) w) : wpList P ops Q' (o :: rest) a w := by
  unfold wpList; rw [if_neg (by simp [hw])]; exact h

/-- A group whose guard holds. -/
theorem wpVals_sound {ch : Nat → Bool} {ops : Array Oper} {B j d : Nat} {want : Bool} (hdd : (ops[j]?).bind (·.dst) = some d) {rest : List Oper} {Q' : Exit → Act → World → Prop} :
    ∀ (l : List Oper) (k : List AV → AHeap → Prop) (fr : Fr) (h : AHeap) (c : Ctx) (w : World) (a : Act), opsOk N l = true → (∀ o ∈ l, o.guard = some (j, want)) → l.all (fun o => o.dst != some d) = true → a.tmps.getD d undef = .bool want → WRel B c h w → FrRel N c w fr a → wpVals P ch l k fr h →
    (∀ c' vs h' a' w', Ext B c w c' w' → WRel B c' h' w' → FrRel N c' w' (updN fr l 0 vs) a' → k vs h' → wpList P ops Q' rest a' w') → wpList P ops Q' (l ++ rest) a w
  | [], k, fr, h, c, w, a, _, _, _, _, W, F, H, hQ => hQ c [] h a w (Ext.refl _ _ _) W F H
  | o :: l, k, fr, h, c, w, a, hok, hg, hne, hv, W, F, H, hQ => by
    have hd := opsOk_mem hok (o := o) (by simp)
    have hok' : opsOk N l = true := by simp [opsOk] at hok ⊢; exact hok.2
    have hne' : l.all (fun o => o.dst != some d) = true := by simp at hne ⊢; exact hne.2
    have hod : o.dst ≠ some d := by simp at hne; exact hne.1
    refine wpList_want (by simp [Region.wanted, hg o (by simp), yielded_bool hdd hv]) ?_
    unfold wpVals at H
    refine wpOpF_sound W F H ?_
    intro c' v h' w' u E W' hv' hk
    refine wpVals_sound hdd l _ _ h' c' w' _ hok' (fun o ho => hg o (by simp [ho])) hne' (by rw [getD_put_ne hod]; exact hv) W' ((F.mono E).put hd hv') hk ?_
    intro c2 vs h2 a2 w2 E2 W2 F2 hk2
    refine hQ c2 (v :: vs) h2 a2 w2 (E.trans E2) W2 ?_ hk2
    rw [updN, updN_succ]
    simpa [nth] using F2

/-- A group whose guard doesn't hold. -/
theorem wpSkip_sound {ops : Array Oper} {j d : Nat} {want : Bool} (hdd : (ops[j]?).bind (·.dst) = some d) {rest : List Oper} {Q' : Exit → Act → World → Prop} {c : Ctx} {w : World} :
    ∀ (l : List Oper) (fr : Fr) (a : Act), opsOk N l = true → (∀ o ∈ l, o.guard = some (j, want)) → l.all (fun o => o.dst != some d) = true → (a.tmps.getD d undef = .bool (!want) ∨ a.tmps.getD d undef = .tuple #[]) → FrRel N c w fr a →
    (∀ a', FrRel N c w (updN fr l 0 (l.map fun _ => .tup [])) a' → wpList P ops Q' rest a' w) → wpList P ops Q' (l ++ rest) a w
  | [], fr, a, _, _, _, _, F, hQ => hQ a F
  | o :: l, fr, a, hok, hg, hne, hv, F, hQ => by
    have hd := opsOk_mem hok (o := o) (by simp)
    have hok' : opsOk N l = true := by simp [opsOk] at hok ⊢; exact hok.2
    have hne' : l.all (fun o => o.dst != some d) = true := by simp at hne ⊢; exact hne.2
    have hod : o.dst ≠ some d := by simp at hne; exact hne.1
    have hw : Region.wanted o (yielded ops a.tmps) = false := by
      rcases hv with hv | hv
      · simp [Region.wanted, hg o (by simp), yielded_bool hdd hv]
      · simp [Region.wanted, hg o (by simp), yielded_none hdd hv]
    refine wpList_skip hw ?_
    refine wpSkip_sound hdd l (updO fr o.dst (.tup [])) _ hok' (fun o ho => hg o (by simp [ho])) hne' (by rw [getD_put_ne hod]; exact hv) (F.put hd (by simp only [VRel]; exact ⟨#[], rfl, rfl⟩)) ?_
    intro a' F'
    refine hQ a' ?_
    rw [List.map_cons, updN, updN_succ]
    simpa [nth] using F'

theorem splitG_spec : ∀ (l : List Oper), ((splitG l).map (·.2)).flatten = l ∧ ∀ g ∈ splitG l, (∀ o ∈ g.2, o.guard = g.1)
  | [] => ⟨rfl, by simp [splitG]⟩
  | o :: r => by
    obtain ⟨h1, h2⟩ := splitG_spec r
    have plain : (([(o.guard, [o])] ++ splitG r).map (·.2)).flatten = o :: r ∧ ∀ g ∈ [(o.guard, [o])] ++ splitG r, (∀ o ∈ g.2, o.guard = g.1) := by
      refine ⟨by simp [h1], ?_⟩
      intro g hg
      rcases List.mem_append.1 hg with hg | hg
      · simp only [List.mem_singleton] at hg; subst hg; simp
      · exact h2 g hg
    unfold splitG
    split
    · rename_i gd g l gs hgd hs
      rw [hs] at h1 h2 plain
      split
      · rename_i e
        subst e
        refine ⟨by simpa using h1, ?_⟩
        intro x hx
        rcases List.mem_cons.1 hx with rfl | hx
        · intro p hp
          rcases List.mem_cons.1 hp with rfl | hp
          · exact hgd
          · exact h2 (some gd, l) (by simp) p hp
        · exact h2 x (by simp [hx])
      · rw [hgd] at plain; exact plain
    · exact plain

theorem opsOk_append {l m : List Oper} : opsOk N (l ++ m) = true ↔ opsOk N l = true ∧ opsOk N m = true := by simp [opsOk]

theorem wpGs_sound {ch : Nat → Bool} {ops : Array Oper} {sp : Nat → Option (List Nat)} {Q : Fr → AHeap → Prop} {B : Nat} : ∀ (n : Nat) (gs : List (Option (Nat × Bool) × List Oper)) (fr : Fr) (h : AHeap) (c : Ctx) (w : World) (a : Act), opsOk N ((gs.map (·.2)).flatten) = true → (∀ g ∈ gs, ∀ o ∈ g.2, o.guard = g.1) → WRel B c h w → FrRel N c w fr a → wpGs P ch ops sp Q n gs fr h →
    ∀ Q' : Exit → Act → World → Prop, (∀ c' fr' h' a' w', Ext B c w c' w' → WRel B c' h' w' → FrRel N c' w' fr' a' → Q fr' h' → Q' .normal a' w') → wpList P ops Q' ((gs.map (·.2)).flatten) a w
  | _, [], fr, h, c, w, a, _, _, W, F, H, Q', hQ => hQ c fr h a w (Ext.refl _ _ _) W F H
  | n, (none, l) :: gs, fr, h, c, w, a, hok, hg, W, F, H, Q', hQ => by
    simp only [List.map_cons, List.flatten_cons] at hok ⊢
    obtain ⟨hok1, hok2⟩ := opsOk_append.1 hok
    have hgl := hg (none, l) (by simp)
    have hgs : ∀ g ∈ gs, ∀ o ∈ g.2, o.guard = g.1 := fun g h => hg g (by simp [h])
    simp only [wpGs] at H
    clear hok hg
    induction l generalizing fr h c w a with
    | nil =>
      unfold wpRun at H
      obtain ⟨fr2, F2, H2⟩ := F.sp H
      exact wpGs_sound (n + 1) gs fr2 h c w a hok2 hgs W F2 H2 Q' hQ
    | cons o l ih =>
      have hd := opsOk_mem hok1 (o := o) (by simp)
      refine wpList_want (by simp [Region.wanted, hgl o (by simp)]) ?_
      unfold wpRun at H
      refine wpOpF_sound W F H ?_
      intro c' v h' w' u E W' hv' hk
      exact ih _ _ _ _ _ W' ((F.mono E).put hd hv') hk (fun c2 fr2 h2 a2 w2 E2 => hQ c2 fr2 h2 a2 w2 (E.trans E2)) (by simp [opsOk] at hok1 ⊢; exact hok1.2) (fun p hp => hgl p (List.mem_cons_of_mem _ hp))
  | n, (some (j, want), l) :: gs, fr, h, c, w, a, hok, hg, W, F, H, Q', hQ => by
    simp only [List.map_cons, List.flatten_cons] at hok ⊢
    obtain ⟨hok1, hok2⟩ := opsOk_append.1 hok
    have hgl := hg (some (j, want), l) (by simp)
    have hgs : ∀ g ∈ gs, ∀ o ∈ g.2, o.guard = g.1 := fun g h => hg g (by simp [h])
    simp only [wpGs] at H
    split at H <;> (try (exact H.elim))
    rename_i d hdd
    split at H <;> (try (exact H.elim))
    rename_i hne
    unfold pJoin at H
    have hvd := F.2.2 d
    have onYes : a.tmps.getD d undef = .bool want → wpVals P ch l (fun vs h' => wpSp (sp n) (updN fr l 0 vs) (fun fr2 => wpGs P ch ops sp Q (n + 1) gs fr2 h')) fr h → wpList P ops Q' (l ++ (gs.map (·.2)).flatten) a w := by
      intro hv H
      refine wpVals_sound hdd l _ fr h c w a hok1 hgl hne hv W F H ?_
      intro c' vs h' a' w' E W' F' hk
      obtain ⟨fr3, F3, H3⟩ := F'.sp hk
      exact wpGs_sound (n + 1) gs _ h' c' w' a' hok2 hgs W' F3 H3 Q' fun c2 fr2 h2 a2 w2 E2 => hQ c2 fr2 h2 a2 w2 (E.trans E2)
    have onNo : (a.tmps.getD d undef = .bool (!want) ∨ a.tmps.getD d undef = .tuple #[]) → wpSp (sp n) (updN fr l 0 (l.map fun _ => .tup [])) (fun fr2 => wpGs P ch ops sp Q (n + 1) gs fr2 h) → wpList P ops Q' (l ++ (gs.map (·.2)).flatten) a w := by
      intro hv H
      refine wpSkip_sound hdd l fr a hok1 hgl hne hv F ?_
      intro a' F'
      obtain ⟨fr3, F3, H3⟩ := F'.sp H
      exact wpGs_sound (n + 1) gs _ h c w a' hok2 hgs W F3 H3 Q' hQ
    unfold pGuard at H
    split at H
    · rename_i b hb
      rw [hb] at hvd
      have hv := hvd.bool_inv
      split at H
      · rename_i e; subst e; exact onYes hv H
      · rename_i e
        refine onNo (Or.inl ?_) H
        rw [hv]; cases b <;> cases want <;> simp_all
    · rename_i hb
      rw [hb] at hvd
      simp only [VRel] at hvd
      obtain ⟨b, hv⟩ := hvd
      by_cases e : b = want
      · subst e; exact onYes hv H.1
      · refine onNo (Or.inl ?_) H.2
        rw [hv]; cases b <;> cases want <;> simp_all
    · rename_i hb
      rw [hb] at hvd
      simp only [VRel] at hvd
      obtain ⟨vs, hv, hl⟩ := hvd
      simp only [LRel] at hl
      refine onNo (Or.inr ?_) H
      rw [hv]
      have : vs = #[] := by apply Array.ext'; simpa using hl
      rw [this]
    · exact H.elim

theorem wpOps_sound {ch : Nat → Bool} {ops : Array Oper} {sp : Nat → Option (List Nat)} {Q : Fr → AHeap → Prop} {B : Nat} (l : List Oper) (fr : Fr) (h : AHeap) (c : Ctx) (w : World) (a : Act) (hok : opsOk N l = true) (W : WRel B c h w) (F : FrRel N c w fr a) (H : wpOps P ch ops sp Q l fr h)
    (Q' : Exit → Act → World → Prop) (hQ : ∀ c' fr' h' a' w', Ext B c w c' w' → WRel B c' h' w' → FrRel N c' w' fr' a' → Q fr' h' → Q' .normal a' w') : wpList P ops Q' l a w := by
  obtain ⟨h1, h2⟩ := splitG_spec l
  have := wpGs_sound (ops := ops) 0 (splitG l) fr h c w a (by rw [h1]; exact hok) h2 W F H Q' hQ
  rwa [h1] at this

theorem wpc_sound : ∀ (bl : List Nat) (code : Code) (fr : Fr) (h : AHeap) (Q : AExit → Fr → AHeap → Prop), P.follows .mixedOrders = true → codeOk N code = true → wpc P N cfg bl code fr h Q → WP P N code fr h Q
  | bl, .skip, fr, h, Q, _, _, H => fun B c w a W F => wp_skip ⟨c, fr, h, .normal, rfl, Ext.refl _ _ _, W, F, H⟩
  | bl, .region id ops draw, fr, h, Q, hm, hok, H => by
    intro B c w a W F
    cases draw with
    | false =>
      simp only [wpc] at H
      refine wp_region_list (wpOps_sound ops.toList fr h c w a hok W F H _ ?_)
      intro c' fr' h' a' w' E W' F' hq
      exact ⟨c', fr', h', .normal, rfl, E, W', F', hq⟩
    | true =>
      simp only [wpc] at H
      refine wpDraw_sound hm hok W F H fun c' fr' h' a' w' E W' F' hq => ?_
      exact ⟨c', fr', h', .normal, rfl, E, W', F', hq⟩
  | bl, .seq x y, fr, h, Q, hm, hok, H => by
    simp only [codeOk, Bool.and_eq_true] at hok
    simp only [wpc] at H
    have plain : wpc P N cfg bl x fr h (exitQ (fun fr' h' => wpc P N cfg bl y fr' h' Q) (fun id fr' h' => Q (.exit id) fr' h') (fun fr' h' => Q .ret fr' h')) → WP P N (.seq x y) fr h Q := by
      intro H B c w a W F
      refine wp_seq (wp_mono (wpc_sound bl x fr h _ hm hok.1 H B c w a W F) ?_)
      rintro e a' w' ⟨c', fr', h', ae, rfl, E, W', F', hq⟩
      cases ae with
      | normal =>
        exact wp_mono (wpc_sound bl y fr' h' Q hm hok.2 hq B c' w' a' W' F') fun e a2 w2 hp => hp.trans E
      | exit id => exact ⟨c', fr', h', .exit id, rfl, E, W', F', hq⟩
      | ret => exact ⟨c', fr', h', .ret, rfl, E, W', F', hq⟩
    split at H
    · rename_i k hk
      split at H
      · obtain ⟨J, H1, H2⟩ := H
        intro B c w a W F
        refine wp_seq (wp_mono (wpc_sound bl x fr h _ hm hok.1 H1 B c w a W F) ?_)
        rintro e a' w' ⟨c', fr', h', ae, rfl, E, W', F', hq⟩
        cases ae with
        | normal =>
          exact wp_mono (wpc_sound bl y _ h' Q hm hok.2 (H2 _ h' hq) B c' w' a' W' (frOf_rel (B := B) F' _)) fun e a2 w2 hp => hp.trans E
        | exit id => exact ⟨c', fr', h', .exit id, rfl, E, W', F', hq⟩
        | ret => exact ⟨c', fr', h', .ret, rfl, E, W', F', hq⟩
      · exact plain H
    · exact plain H
  | bl, .cond x p q, fr, h, Q, hm, hok, H => by
    simp only [codeOk, Bool.and_eq_true] at hok
    simp only [wpc] at H
    intro B c w a W F
    have hx := F.ev x
    unfold pCond at H
    split at H <;> (try (exact H.elim))
    · rename_i b hb
      rw [hb] at hx
      refine wp_cond (hx.bool_inv) ?_
      cases b
      · exact wpc_sound bl q fr h Q hm hok.2 (by simpa using H) B c w a W F
      · exact wpc_sound bl p fr h Q hm hok.1 (by simpa using H) B c w a W F
    · rename_i hb
      rw [hb] at hx
      simp only [VRel] at hx
      obtain ⟨b, hb'⟩ := hx
      refine wp_cond hb' ?_
      cases b
      · exact wpc_sound bl q fr h Q hm hok.2 H.2 B c w a W F
      · exact wpc_sound bl p fr h Q hm hok.1 H.1 B c w a W F
  | bl, .block id b, fr, h, Q, hm, hok, H => by
    simp only [codeOk] at hok
    simp only [wpc] at H
    intro B c w a W F
    refine wp_block (wp_mono (wpc_sound (id :: bl) b fr h _ hm hok H B c w a W F) ?_)
    rintro e a' w' ⟨c', fr', h', ae, rfl, E, W', F', hq⟩
    cases ae with
    | normal => exact ⟨c', fr', h', .normal, rfl, E, W', F', hq⟩
    | exit id' =>
      simp only [AExit.toExit, Exit.inBlock, exitQ, pIdx] at hq ⊢
      split at hq
      · rename_i hid
        subst hid
        rw [if_pos rfl]
        exact ⟨c', fr', h', .normal, rfl, E, W', F', hq⟩
      · rename_i hid
        rw [if_neg hid]
        exact ⟨c', fr', h', .exit id', rfl, E, W', F', hq⟩
    | ret => exact ⟨c', fr', h', .ret, rfl, E, W', F', hq⟩
  | bl, .loop b, fr, h, Q, _, _, H => by
    simp only [wpc] at H
    split at H
    · refine WP.restr _ (WP.mono H ?_)
      intro e fr' h' hq
      cases e with
      | normal => exact hq.elim
      | exit id => exact selE_self hq
      | ret => exact hq
    · exact H.elim
  | bl, .exit id, fr, h, Q, _, _, H => fun B c w a W F => wp_exit ⟨c, fr, h, .exit id, rfl, Ext.refl _ _ _, W, F, H⟩
  | bl, .ret, fr, h, Q, _, _, H => fun B c w a W F => wp_ret ⟨c, fr, h, .ret, rfl, Ext.refl _ _ _, W, F, H⟩
  | _, .rangeFunc .., _, _, _, _, _, H => by simp [wpc] at H
  | bl, .scope .., _, _, _, _, _, H => by simp [wpc] at H
  | bl, .label .., _, _, _, _, _, H => by simp [wpc] at H
  | bl, .goto .., _, _, _, _, _, H => by simp [wpc] at H
  | bl, .refuse .., _, _, _, _, _, H => by simp [wpc] at H

/-- What is asked behind a round. -/
def loopPost (I : Nat → Fr → AHeap → Prop) (m : Nat) (Q : AExit → Fr → AHeap → Prop) : AExit → Fr → AHeap → Prop := fun e fr' h' =>
  match e with
  | .normal => ∃ m', m' < m ∧ I m' fr' h'
  | .exit id => Q (.exit id) fr' h'
  | .ret => Q .ret fr' h'

/-- A loop: an invariant with a number that falls. -/
theorem WP_loop {b : Code} {fr : Fr} {h : AHeap} {Q : AExit → Fr → AHeap → Prop} (hm : P.follows .mixedOrders = true) (hok : codeOk N b = true) (I : Nat → Fr → AHeap → Prop) (n : Nat) (h0 : I n fr h)
    (round : ∀ m fr h, I m fr h → WP P N b fr h (loopPost I m Q)) : WP P N (.loop b) fr h Q := by
  intro B c w a W F
  let Good : Nat → Act → World → Prop := fun m a' w' => ∃ c' fr' h', Ext B c w c' w' ∧ WRel B c' h' w' ∧ FrRel N c' w' fr' a' ∧ I m fr' h'
  have hex : Good n a w := ⟨c, fr, h, Ext.refl _ _ _, W, F, h0⟩
  have least : ∀ a' w', (∃ m, Good m a' w') → ∃ m, Good m a' w' ∧ ∀ k, k < m → ¬ Good k a' w' := by
    rintro a' w' ⟨m, hg⟩
    induction m using Nat.strongRecOn with
    | _ m ih =>
      by_cases hk : ∃ k, k < m ∧ Good k a' w'
      · obtain ⟨k, h1, h2⟩ := hk
        exact ih k h1 h2
      · exact ⟨m, hg, fun k h1 h2 => hk ⟨k, h1, h2⟩⟩
  let μ : Act → World → Nat := fun a' w' => open Classical in if hh : ∃ m, Good m a' w' then Classical.choose (least a' w' hh) else 0
  have hμ : ∀ a' w', (∃ m, Good m a' w') → Good (μ a' w') a' w' ∧ ∀ k, Good k a' w' → μ a' w' ≤ k := by
    intro a' w' hh
    have hs := Classical.choose_spec (least a' w' hh)
    have e : μ a' w' = Classical.choose (least a' w' hh) := by simp only [μ]; rw [dif_pos hh]
    rw [e]
    exact ⟨hs.1, fun k hk => Nat.le_of_not_lt fun hlt => hs.2 k hlt hk⟩
  refine wp_loop (fun a' w' => ∃ m, Good m a' w') μ ⟨n, hex⟩ ?_
  intro a' w' hI
  obtain ⟨⟨c', fr', h', E, W', F', hi⟩, hmin⟩ := hμ a' w' hI
  refine wp_mono (round (μ a' w') fr' h' hi B c' w' a' W' F') ?_
  rintro e a2 w2 ⟨c2, fr2, h2, ae, rfl, E2, W2, F2, hq⟩
  cases ae with
  | normal =>
    simp only [loopPost] at hq
    obtain ⟨m', hlt, hi'⟩ := hq
    have hg : Good m' a2 w2 := ⟨c2, fr2, h2, E.trans E2, W2, F2, hi'⟩
    exact ⟨⟨m', hg⟩, Nat.lt_of_le_of_lt ((hμ a2 w2 ⟨m', hg⟩).2 m' hg) hlt⟩
  | exit id => exact ⟨c2, fr2, h2, .exit id, rfl, E.trans E2, W2, F2, hq⟩
  | ret => exact ⟨c2, fr2, h2, .ret, rfl, E.trans E2, W2, F2, hq⟩

/-- A function's results. -/
def resA (P : Program) : List ResultVar → Fr → AHeap → (List AV → Prop) → Prop
  | [], _, _, K => K []
  | .tmp t :: rs, fr, h, K => resA P rs fr h (fun vs => K (fr t :: vs))
  | .cell a t :: rs, fr, h, K => match ldK P t with
    | some k => pLoad k (fr a) h (fun v => resA P rs fr h (fun vs => K (v :: vs)))
    | none => False

def resV (K : AV → Prop) : List AV → Prop
  | [v] => K v
  | vs => K (.tup vs)

/-- One result. -/
def resOne (tmps : Array Value) : ResultVar → Sem Value
  | .tmp t => pure (tmps.getD t undef)
  | .cell a t => do loadVar t (← asAddr (tmps.getD a undef))

theorem results_eq (fn : Func) (tmps : Array Value) : results fn tmps = (do
    let vs ← fn.results.mapM (resOne tmps)
    pure (if h : vs.size = 1 then vs[0] else .tuple vs)) := rfl

theorem resA_sound {B : Nat} {c : Ctx} {h : AHeap} {w : World} {fr : Fr} {a : Act} (W : WRel B c h w) (F : FrRel N c w fr a) : ∀ (rs : List ResultVar) (K : List AV → Prop), resA P rs fr h K →
    ∃ as vs, (rs.mapM (resOne a.tmps)).run P w = .ok vs w ∧ LRel c w as vs ∧ K as
  | [], K, H => ⟨[], [], by simp, by simp [LRel], H⟩
  | .tmp t :: rs, K, H => by
    simp only [resA] at H
    obtain ⟨as, vs, h1, h2, h3⟩ := resA_sound W F rs _ H
    refine ⟨fr t :: as, a.tmps.getD t undef :: vs, ?_, ?_, h3⟩
    · simp only [List.mapM_cons, resOne, Sem.run_bind, Sem.run_pure, Result.andThen_ok, h1]
    · simp only [LRel]; exact ⟨_, _, rfl, F.2.2 t, h2⟩
  | .cell x t :: rs, K, H => by
    simp only [resA] at H
    split at H <;> (try (exact H.elim))
    rename_i k hk
    obtain ⟨ad, v, z, hu, hr, hv, hK⟩ := pLoad_run (P := P) W hk (F.2.2 x) H
    obtain ⟨as, vs, h1, h2, h3⟩ := resA_sound W F rs _ hK
    refine ⟨v :: as, z :: vs, ?_, ?_, h3⟩
    · have ha : (asAddr (a.tmps.getD x undef)).run P w = .ok ad w := by rw [hu]; rfl
      simp only [List.mapM_cons, resOne, Sem.run_bind, ha, Sem.run_pure, Result.andThen_ok, hr, h1]
    · simp only [LRel]; exact ⟨_, _, rfl, hv, h2⟩

theorem CallsA_intro {f : FuncId} {fn : Func} {body : Code} {args : List AV} {h : AHeap} {R : AV → AHeap → Prop} (cfg : Cfg) (hm : P.follows .mixedOrders = true) (hf : P.funcs[f]? = some fn) (hb : fn.body = some body) (hN : fn.ntmps = N) (hok : codeOk N body = true) (hargs : args.length ≤ N)
    (hcall : ∀ as w, (callFunc f as).run P w = .ok (.enter f as) w)
    (H : wpc P N cfg [] body (fun i => (args[i]?).getD .und) h (exitQ (fun fr' h' => resA P fn.results.toList fr' h' (resV fun v => R v h')) (fun _ _ _ => False) (fun fr' h' => resA P fn.results.toList fr' h' (resV fun v => R v h')))) : CallsA P f args h R := by
  refine Or.inl ⟨hcall, fun B c w vs W L => ?_⟩
  refine calls_of_wp hf hb ?_
  have hl := L.length
  have F : FrRel N c w (fun i => (args[i]?).getD .und) { tmps := vs.toArray ++ Array.replicate (fn.ntmps - vs.toArray.size) undef, defers := [] } := by
    refine ⟨by simp; omega, rfl, fun i => ?_⟩
    by_cases hi : i < args.length
    · obtain ⟨v, hv, hr⟩ := L.get (i := i) (a := args[i]) (by simp [hi])
      have e1 : (args[i]?).getD .und = args[i] := by simp [hi]
      show VRel c w ((args[i]?).getD .und) ((vs.toArray ++ Array.replicate (fn.ntmps - vs.toArray.size) undef).getD i undef)
      rw [e1, Array.getD_eq_getD_getElem?, Array.getElem?_append_left (by simp; omega)]
      have : vs.toArray[i]? = some v := by simpa using hv
      rw [this]; exact hr
    · have e1 : (args[i]?).getD .und = .und := by simp [List.getElem?_eq_none (Nat.le_of_not_lt hi)]
      show VRel c w ((args[i]?).getD .und) _
      rw [e1]; simp [VRel]
  refine wp_mono (wpc_sound [] body _ h _ hm hok H B c w _ W F) ?_
  rintro e a' w' ⟨c', fr', h', ae, rfl, E, W', F', hq⟩
  have fin : resA P fn.results.toList fr' h' (resV fun v => R v h') → bodyPost P fn (fun e w'' => ∃ c' u v h', e = .returned u ∧ Ext B c w c' w'' ∧ WRel B c' h' w'' ∧ VRel c' w'' v u ∧ R v h') .ret a' w' := by
    intro hq
    obtain ⟨as, us, h1, h2, h3⟩ := resA_sound W' F' _ _ hq
    refine ⟨F'.2.1, ?_⟩
    have hlen := h2.length
    by_cases h1' : us.length = 1
    · obtain ⟨u, rfl⟩ : ∃ u, us = [u] := by
        match us, h1' with
        | [u], _ => exact ⟨u, rfl⟩
      obtain ⟨v, rfl⟩ : ∃ v, as = [v] := by
        match as, hlen with
        | [v], _ => exact ⟨v, rfl⟩
      simp only [LRel] at h2
      obtain ⟨v', vs', he, hr, hn⟩ := h2
      simp only [List.cons.injEq] at he
      obtain ⟨rfl, rfl⟩ := he
      refine ⟨u, ?_, c', u, v, h', rfl, E, W', hr, h3⟩
      rw [results_eq, Array.mapM_eq_mapM_toList]
      simp only [Sem.run_bind, Sem.run_map, h1, Result.andThen_ok]
      rfl
    · refine ⟨.tuple us.toArray, ?_, c', .tuple us.toArray, .tup as, h', rfl, E, W', ?_, ?_⟩
      · rw [results_eq, Array.mapM_eq_mapM_toList]
        simp only [Sem.run_bind, Sem.run_map, h1, Result.andThen_ok]
        have : us.toArray.size ≠ 1 := by simpa using h1'
        rw [dif_neg this]; rfl
      · simp only [VRel]; exact ⟨us.toArray, rfl, by simpa using h2⟩
      · unfold resV at h3
        split at h3
        · simp at hlen; omega
        · exact h3
  cases ae with
  | normal => exact fin hq
  | ret => exact fin hq
  | exit id => exact hq.elim

/-- The body of the loop that begins with region k. -/
def loopOf (k : Nat) : Code → Option Code
  | .seq a b => match loopOf k a with | some r => some r | none => loopOf k b
  | .cond _ a b => match loopOf k a with | some r => some r | none => loopOf k b
  | .block _ b => loopOf k b
  | .loop b => if firstReg b = some k then some b else loopOf k b
  | _ => none

/-- A piece of code out of its condition, the frames behind it cut to what counts. -/
theorem WP_body (cfg : Cfg) (bl Ln Lx Lr : List Nat) {b : Code} {fr : Fr} {h : AHeap} {Q : AExit → Fr → AHeap → Prop} (hm : P.follows .mixedOrders = true) (hok : codeOk N b = true)
    (H : wpc P N cfg bl b fr h (exitQ (fun fr' h' => Q .normal (restr Ln fr') h') (fun id fr' h' => Q (.exit id) (restr Lx fr') h') (fun fr' h' => Q .ret (restr Lr fr') h'))) : WP P N b fr h Q := by
  intro B c w a W F
  refine wp_mono (wpc_sound bl b fr h _ hm hok H B c w a W F) ?_
  rintro e a' w' ⟨c', fr', h', ae, h1, h2, h3, h4, h5⟩
  cases ae with
  | normal => exact ⟨c', restr Ln fr', h', .normal, h1, h2, h3, frOf_rel (B := B) h4 Ln, h5⟩
  | exit id => exact ⟨c', restr Lx fr', h', .exit id, h1, h2, h3, frOf_rel (B := B) h4 Lx, h5⟩
  | ret => exact ⟨c', restr Lr fr', h', .ret, h1, h2, h3, frOf_rel (B := B) h4 Lr, h5⟩

end
end Go.Abs
