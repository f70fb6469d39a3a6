/- Code: what is to be shown of it, computed; loops; functions. -/
import Derived.Test.YtopfjochppdnfaaDoorAbsCode
import Derived.Test.YtopfjochppdnfaaDoorAbsFast
set_option linter.unusedVariables false
set_option linter.unusedSimpArgs false
namespace Go.Abs
open Go.RowKit


def codeOk (N : Nat) : Code → Bool
  | .skip | .exit _ | .ret => true
  | .region _ ops _ => opsOk N ops.toList
  | .seq a b => codeOk N a && codeOk N b
  | .cond _ a b => codeOk N a && codeOk N b
  | .block _ b => codeOk N b
  | .loop b => codeOk N b
  | .rangeFunc .. => true
  | _ => false

def pCond (v : AV) (T F : Prop) : Prop :=
  match v with
  | .bool b => if b then T else F
  | .unkb => T ∧ F
  | _ => False

/-- A frame of a few slots. -/
def frOf : List (Nat × AV) → Fr
  | [], _ => .und
  | (k, v) :: r, i => if i = k then v else frOf r i
def restr (L : List Nat) (fr : Fr) : Fr := frOf (L.map fun i => (i, fr i))

/-- How the condition is to be computed: 'ch': slots in which what is made is by value; 'lv': the slots that count ahead of the piece of code that begins with this region; 'cut': where an assertion stands between. -/
structure Cfg where
  ch : Nat → Bool
  lv : Nat → List Nat
  cut : Nat → Bool
  rc : Nat → Nat → Option (List Nat) := fun _ _ => none

def firstReg : Code → Option Nat
  | .region id _ _ => some id
  | .seq a b => match firstReg a with | some k => some k | none => firstReg b
  | .cond _ a b => match firstReg a with | some k => some k | none => firstReg b
  | .block _ b => firstReg b
  | .loop b => firstReg b
  | _ => none

/-- Is a block left out of this piece of code? -/
def hasExit : Code → Nat → Bool
  | .exit id, k => id == k
  | .seq a b, k => hasExit a k || hasExit b k
  | .cond _ a b, k => hasExit a k || hasExit b k
  | .block _ b, k => hasExit b k
  | .loop b, k => hasExit b k
  | .rangeFunc _ _ _ b, k => hasExit b k
  | _, _ => false

def pIdx (i k : Nat) (T F : Prop) : Prop := if i = k then T else F
def selE (G : Nat → Prop) : List Nat → Nat → Prop
  | [], _ => False
  | k :: ks, i => pIdx i k (G k) (selE G ks i)

theorem selE_self {G : Nat → Prop} {l : List Nat} {i : Nat} (h : selE G l i) : G i := by
  induction l with
  | nil => exact h.elim
  | cons k ks ih =>
    simp only [selE, pIdx] at h
    split at h
    · rename_i e; subst e; exact h
    · exact ih h

/-- What stands behind a cut, once: an assertion of one's own, or just what is to be shown there. -/
def Cut (A : (Fr → AHeap → Prop) → Prop) (B : Fr → AHeap → Prop) : Prop := ∃ J : Fr → AHeap → Prop, A J ∧ ∀ fr h, J fr h → B fr h

/-- What is to be shown of a piece of code. 'bl': the blocks around. -/
def wpc (P : Program) (N : Nat) (cfg : Cfg) : List Nat → Code → Fr → AHeap → (AExit → Fr → AHeap → Prop) → Prop
  | bl, .skip, fr, h, Q => Q .normal fr h
  | bl, .region id ops draw, fr, h, Q => match draw with
    | false => wpOps P cfg.ch ops (cfg.rc id) (fun fr' h' => Q .normal fr' h') ops.toList fr h
    | true => wpDraw P N cfg.ch ops (fun fr' h' => Q .normal fr' h') fr h
  | bl, .seq a b, fr, h, Q => match firstReg b with
    | some k => match cfg.cut k with
      | true => ∃ J : Fr → AHeap → Prop, wpc P N cfg bl a fr h (exitQ (fun fr' h' => J (restr (cfg.lv k) fr') h') (fun id fr' h' => Q (.exit id) fr' h') (fun fr' h' => Q .ret fr' h')) ∧ ∀ fr' h', J fr' h' → wpc P N cfg bl b fr' h' Q
      | false => wpc P N cfg bl a fr h (exitQ (fun fr' h' => wpc P N cfg bl b fr' h' Q) (fun id fr' h' => Q (.exit id) fr' h') (fun fr' h' => Q .ret fr' h'))
    | none => wpc P N cfg bl a fr h (exitQ (fun fr' h' => wpc P N cfg bl b fr' h' Q) (fun id fr' h' => Q (.exit id) fr' h') (fun fr' h' => Q .ret fr' h'))
  | bl, .cond x a b, fr, h, Q => pCond (aEv fr x) (wpc P N cfg bl a fr h Q) (wpc P N cfg bl b fr h Q)
  | bl, .block id b, fr, h, Q => wpc P N cfg (id :: bl) b fr h (exitQ (fun fr' h' => Q .normal fr' h') (fun id' fr' h' => pIdx id' id (Q .normal fr' h') (Q (.exit id') fr' h')) (fun fr' h' => Q .ret fr' h'))
  | bl, .loop b, fr, h, Q => match firstReg b with
    | some k => WP P N (.loop b) (restr (cfg.lv k) fr) h (exitQ (fun _ _ => False) (fun id fr' h' => selE (fun k => Q (.exit k) fr' h') (bl.filter (hasExit b)) id) (fun fr' h' => Q .ret fr' h'))
    | none => False
  | bl, .rangeFunc g ps asn bd, fr, h, Q => match firstReg (.seq asn bd) with
    | some k => WP P N (.rangeFunc g ps asn bd) (restr (cfg.lv (k + 2000000)) fr) h (exitQ (fun fr' h' => Q .normal fr' h') (fun id fr' h' => selE (fun k => Q (.exit k) fr' h') (bl.filter (hasExit bd)) id) (fun fr' h' => Q .ret fr' h'))
    | none => False
  | bl, .exit id, fr, h, Q => Q (.exit id) fr h
  | bl, .ret, fr, h, Q => Q .ret fr h
  | _, _, _, _, _ => False

section
variable {P : Program} {N : Nat} {ds : List Deferred} {cfg : Cfg} {ro : Option Nat}

theorem PostA.weak {B : Nat} {ds : List Deferred} {c : Ctx} {w : World} {Q Q' : AExit → Fr → AHeap → Prop} (hq : ∀ e fr h, Q e fr h → Q' e fr h) {e : Exit} {a : Act} {w2 : World} (H : PostA B N ds c w Q e a w2) : PostA B N ds c w Q' e a w2 := by
  obtain ⟨Ds, c', fr', h', ae, h1, h2, h3, h4, h5, h6⟩ := H
  exact ⟨Ds, c', fr', h', ae, h1, h2, h3, h4, h5, hq _ _ _ h6⟩

theorem WP.mono {code : Code} {fr : Fr} {h : AHeap} {Q Q' : AExit → Fr → AHeap → Prop} (H : WP P N code fr h Q) (hq : ∀ e fr h, Q e fr h → Q' e fr h) : WP P N code fr h Q' :=
  fun ro ds B c w a hro W F => wpIn_mono (H ro ds B c w a hro W F) fun e a' w' hp => hp.weak hq

/-- A step of knowledge alone: the frame and the objects are seen otherwise, nothing is done. -/
def Ghost (fr : Fr) (h : AHeap) (fr2 : Fr) (h2 : AHeap) : Prop :=
  ∀ N ds B c w a, WRel B c h w → FrRel N ds c w fr a → ∃ c', Ext B c w c' w ∧ WRel B c' h2 w ∧ FrRel N ds c' w fr2 a

theorem PostA.trans {B : Nat} {ds : List Deferred} {c c' : Ctx} {w w' : World} {Ds : List Nat} {Q : AExit → Fr → AHeap → Prop} (E : Ext B c w c' w') (M : Marks w w' Ds) {e : Exit} {a : Act} {w2 : World} (H : PostA B N (Ds.map mark ++ ds) c' w' Q e a w2) : PostA B N ds c w Q e a w2 := by
  obtain ⟨Es, c2, fr', h', ae, h1, h2, h3, h4, h5, h6⟩ := H
  exact ⟨Es ++ Ds, c2, fr', h', ae, h1, E.trans h2, h3, by simpa using h4, M.more h5 E.below.size h2.oth, h6⟩

theorem WP.ghost {code : Code} {fr fr2 : Fr} {h h2 : AHeap} {Q : AExit → Fr → AHeap → Prop} (G : Ghost fr h fr2 h2) (H : WP P N code fr2 h2 Q) : WP P N code fr h Q := by
  intro ro ds B c w a hro W F
  obtain ⟨c', E, W', F'⟩ := G N ds B c w a W F
  exact wpIn_mono (H ro ds B c' w a hro W' F') fun e a' w' hp => hp.trans (Ds := []) E (Marks.nil _ _)

theorem frOf_rel {N : Nat} {B : Nat} {c : Ctx} {w : World} {fr : Fr} {a : Act} (F : FrRel N ds c w fr a) (L : List Nat) : FrRel N ds c w (restr L fr) a := by
  refine ⟨F.1, F.2.1, fun i => ?_⟩
  unfold restr
  induction L with
  | nil => simp [frOf, VRel]
  | cons k L ih =>
    simp only [List.map_cons, frOf]
    split
    · rename_i e; subst e; exact F.2.2 i
    · exact ih

theorem WP.restr {code : Code} {fr : Fr} {h : AHeap} {Q : AExit → Fr → AHeap → Prop} (L : List Nat) (H : WP P N code (restr L fr) h Q) : WP P N code fr h Q :=
  fun ro ds B c w a hro W F => H ro ds B c w a hro W (frOf_rel (B := B) F L)

theorem WP.restrPost {code : Code} {fr : Fr} {h : AHeap} {Q : AExit → Fr → AHeap → Prop} (L : List Nat) (H : WP P N code fr h (fun e fr' h' => Q e (Abs.restr L fr') h')) : WP P N code fr h Q :=
  fun ro ds B c w a hro W F => wpIn_mono (H ro ds B c w a hro W F) fun e a' w' ⟨Ds, c', fr', h', ae, h1, h2, h3, h4, h5, h6⟩ => ⟨Ds, c', Abs.restr L fr', h', ae, h1, h2, h3, frOf_rel (B := B) h4 L, h5, h6⟩

theorem nth_succ (v : AV) (vs : List AV) (n : Nat) : nth (v :: vs) (n + 1) = nth vs n := by simp [nth]
theorem updN_succ : ∀ (l : List Oper) (fr : Fr) (n : Nat) (v : AV) (vs : List AV), updN fr l (n + 1) (v :: vs) = updN fr l n vs
  | [], _, _, _, _ => rfl
  | o :: l, fr, n, v, vs => by rw [updN, updN, nth_succ, updN_succ l]

/-- One operation of a list, its guard decided. -/
theorem wpList_want {ops : Array Oper} {o : Oper} {rest : List Oper} {Q' : Exit → Act → World → Prop} {a : Act} {w : World} (hw : Region.wanted o (yielded ops a.tmps) = true) (h : o.wpIn (wideR ro) 0 P a w (wpListIn (wideR ro) 0 P ops Q' rest) Q') : wpListIn (wideR ro) 0 P ops Q' (o :: rest) a w := by
  unfold wpListIn; rw [if_pos hw]; exact h
theorem wpList_skip {ops : Array Oper} {o : Oper} {rest : List Oper} {Q' : Exit → Act → World → Prop} {a : Act} {w : World} (hw : Region.wanted o (yielded ops a.tmps) = false) (h : wpListIn (wideR ro) 0 P ops Q' rest (a.put o.dst undef) w) : wpListIn (wideR ro) 0 P ops Q' (o :: rest) a w := by
  unfold wpListIn; rw [if_neg (by simp [hw])]; exact ⟨fun _ _ => trivial, h⟩

/-- A group whose guard holds. -/
theorem wpVals_sound {ch : Nat → Bool} {ops : Array Oper} {B j d : Nat} {want : Bool} (hdd : (ops[j]?).bind (·.dst) = some d) {rest : List Oper} {Q' : Exit → Act → World → Prop} :
    ∀ (l : List Oper) (k : List AV → AHeap → Prop) (fr : Fr) (h : AHeap) (c : Ctx) (w : World) (a : Act), opsOk N l = true → (∀ o ∈ l, o.guard = some (j, want)) → l.all (fun o => o.dst != some d) = true → a.tmps.getD d undef = .bool want → WRel B c h w → FrRel N ds c w fr a → wpVals P ch l k fr h →
    (∀ c' vs h' a' w', Ext B c w c' w' → WRel B c' h' w' → FrRel N ds c' w' (updN fr l 0 vs) a' → k vs h' → wpListIn (wideR ro) 0 P ops Q' rest a' w') → wpListIn (wideR ro) 0 P ops Q' (l ++ rest) a w
  | [], k, fr, h, c, w, a, _, _, _, _, W, F, H, hQ => hQ c [] h a w (Ext.refl _ _ _) W F H
  | o :: l, k, fr, h, c, w, a, hok, hg, hne, hv, W, F, H, hQ => by
    have hd := opsOk_mem hok (o := o) (by simp)
    have hok' : opsOk N l = true := by simp [opsOk] at hok ⊢; exact hok.2
    have hne' : l.all (fun o => o.dst != some d) = true := by simp at hne ⊢; exact hne.2
    have hod : o.dst ≠ some d := by simp at hne; exact hne.1
    refine wpList_want (by simp [Region.wanted, hg o (by simp), yielded_bool hdd hv]) ?_
    unfold wpVals at H
    refine wpOpF_sound W F H ?_
    intro c' v h' w' u E W' hv' hk
    refine wpVals_sound hdd l _ _ h' c' w' _ hok' (fun o ho => hg o (by simp [ho])) hne' (by rw [getD_put_ne hod]; exact hv) W' ((F.mono E).put hd hv') hk ?_
    intro c2 vs h2 a2 w2 E2 W2 F2 hk2
    refine hQ c2 (v :: vs) h2 a2 w2 (E.trans E2) W2 ?_ hk2
    rw [updN, updN_succ]
    simpa [nth] using F2

/-- A group whose guard doesn't hold. -/
theorem wpSkip_sound {ops : Array Oper} {j d : Nat} {want : Bool} (hdd : (ops[j]?).bind (·.dst) = some d) {rest : List Oper} {Q' : Exit → Act → World → Prop} {c : Ctx} {w : World} :
    ∀ (l : List Oper) (fr : Fr) (a : Act), opsOk N l = true → (∀ o ∈ l, o.guard = some (j, want)) → l.all (fun o => o.dst != some d) = true → (a.tmps.getD d undef = .bool (!want) ∨ a.tmps.getD d undef = .tuple #[]) → FrRel N ds c w fr a →
    (∀ a', FrRel N ds c w (updN fr l 0 (l.map fun _ => .tup [])) a' → wpListIn (wideR ro) 0 P ops Q' rest a' w) → wpListIn (wideR ro) 0 P ops Q' (l ++ rest) a w
  | [], fr, a, _, _, _, _, F, hQ => hQ a F
  | o :: l, fr, a, hok, hg, hne, hv, F, hQ => by
    have hd := opsOk_mem hok (o := o) (by simp)
    have hok' : opsOk N l = true := by simp [opsOk] at hok ⊢; exact hok.2
    have hne' : l.all (fun o => o.dst != some d) = true := by simp at hne ⊢; exact hne.2
    have hod : o.dst ≠ some d := by simp at hne; exact hne.1
    have hw : Region.wanted o (yielded ops a.tmps) = false := by
      rcases hv with hv | hv
      · simp [Region.wanted, hg o (by simp), yielded_bool hdd hv]
      · simp [Region.wanted, hg o (by simp), yielded_none hdd hv]
    refine wpList_skip hw ?_
    refine wpSkip_sound hdd l (updO fr o.dst (.tup [])) _ hok' (fun o ho => hg o (by simp [ho])) hne' (by rw [getD_put_ne hod]; exact hv) (F.put hd (by simp only [VRel]; exact ⟨#[], rfl, rfl⟩)) ?_
    intro a' F'
    refine hQ a' ?_
    rw [List.map_cons, updN, updN_succ]
    simpa [nth] using F'

theorem splitG_spec : ∀ (l : List Oper), ((splitG l).map (·.2)).flatten = l ∧ ∀ g ∈ splitG l, (∀ o ∈ g.2, o.guard = g.1)
  | [] => ⟨rfl, by simp [splitG]⟩
  | o :: r => by
    obtain ⟨h1, h2⟩ := splitG_spec r
    have plain : (([(o.guard, [o])] ++ splitG r).map (·.2)).flatten = o :: r ∧ ∀ g ∈ [(o.guard, [o])] ++ splitG r, (∀ o ∈ g.2, o.guard = g.1) := by
      refine ⟨by simp [h1], ?_⟩
      intro g hg
      rcases List.mem_append.1 hg with hg | hg
      · simp only [List.mem_singleton] at hg; subst hg; simp
      · exact h2 g hg
    unfold splitG
    split
    · rename_i gd g l gs hgd hs
      rw [hs] at h1 h2 plain
      split
      · rename_i e
        subst e
        refine ⟨by simpa using h1, ?_⟩
        intro x hx
        rcases List.mem_cons.1 hx with rfl | hx
        · intro p hp
          rcases List.mem_cons.1 hp with rfl | hp
          · exact hgd
          · exact h2 (some gd, l) (by simp) p hp
        · exact h2 x (by simp [hx])
      · rw [hgd] at plain; exact plain
    · exact plain

theorem opsOk_append {l m : List Oper} : opsOk N (l ++ m) = true ↔ opsOk N l = true ∧ opsOk N m = true := by simp [opsOk]

theorem wpGs_sound {ch : Nat → Bool} {ops : Array Oper} {sp : Nat → Option (List Nat)} {Q : Fr → AHeap → Prop} {B : Nat} : ∀ (n : Nat) (gs : List (Option (Nat × Bool) × List Oper)) (fr : Fr) (h : AHeap) (c : Ctx) (w : World) (a : Act), opsOk N ((gs.map (·.2)).flatten) = true → (∀ g ∈ gs, ∀ o ∈ g.2, o.guard = g.1) → WRel B c h w → FrRel N ds c w fr a → wpGs P ch ops sp Q n gs fr h →
    ∀ Q' : Exit → Act → World → Prop, (∀ c' fr' h' a' w', Ext B c w c' w' → WRel B c' h' w' → FrRel N ds c' w' fr' a' → Q fr' h' → Q' .normal a' w') → wpListIn (wideR ro) 0 P ops Q' ((gs.map (·.2)).flatten) a w
  | _, [], fr, h, c, w, a, _, _, W, F, H, Q', hQ => hQ c fr h a w (Ext.refl _ _ _) W F H
  | n, (none, l) :: gs, fr, h, c, w, a, hok, hg, W, F, H, Q', hQ => by
    simp only [List.map_cons, List.flatten_cons] at hok ⊢
    obtain ⟨hok1, hok2⟩ := opsOk_append.1 hok
    have hgl := hg (none, l) (by simp)
    have hgs : ∀ g ∈ gs, ∀ o ∈ g.2, o.guard = g.1 := fun g h => hg g (by simp [h])
    simp only [wpGs] at H
    clear hok hg
    induction l generalizing fr h c w a with
    | nil =>
      unfold wpRun at H
      obtain ⟨fr2, F2, H2⟩ := F.sp H
      exact wpGs_sound (n + 1) gs fr2 h c w a hok2 hgs W F2 H2 Q' hQ
    | cons o l ih =>
      have hd := opsOk_mem hok1 (o := o) (by simp)
      refine wpList_want (by simp [Region.wanted, hgl o (by simp)]) ?_
      unfold wpRun at H
      refine wpOpF_sound W F H ?_
      intro c' v h' w' u E W' hv' hk
      exact ih _ _ _ _ _ W' ((F.mono E).put hd hv') hk (fun c2 fr2 h2 a2 w2 E2 => hQ c2 fr2 h2 a2 w2 (E.trans E2)) (by simp [opsOk] at hok1 ⊢; exact hok1.2) (fun p hp => hgl p (List.mem_cons_of_mem _ hp))
  | n, (some (j, want), l) :: gs, fr, h, c, w, a, hok, hg, W, F, H, Q', hQ => by
    simp only [List.map_cons, List.flatten_cons] at hok ⊢
    obtain ⟨hok1, hok2⟩ := opsOk_append.1 hok
    have hgl := hg (some (j, want), l) (by simp)
    have hgs : ∀ g ∈ gs, ∀ o ∈ g.2, o.guard = g.1 := fun g h => hg g (by simp [h])
    simp only [wpGs] at H
    split at H <;> (try (exact H.elim))
    rename_i d hdd
    split at H <;> (try (exact H.elim))
    rename_i hne
    unfold pJoin at H
    have hvd := F.2.2 d
    have onYes : a.tmps.getD d undef = .bool want → wpVals P ch l (fun vs h' => wpSp (sp n) (updN fr l 0 vs) (fun fr2 => wpGs P ch ops sp Q (n + 1) gs fr2 h')) fr h → wpListIn (wideR ro) 0 P ops Q' (l ++ (gs.map (·.2)).flatten) a w := by
      intro hv H
      refine wpVals_sound hdd l _ fr h c w a hok1 hgl hne hv W F H ?_
      intro c' vs h' a' w' E W' F' hk
      obtain ⟨fr3, F3, H3⟩ := F'.sp hk
      exact wpGs_sound (n + 1) gs _ h' c' w' a' hok2 hgs W' F3 H3 Q' fun c2 fr2 h2 a2 w2 E2 => hQ c2 fr2 h2 a2 w2 (E.trans E2)
    have onNo : (a.tmps.getD d undef = .bool (!want) ∨ a.tmps.getD d undef = .tuple #[]) → wpSp (sp n) (updN fr l 0 (l.map fun _ => .tup [])) (fun fr2 => wpGs P ch ops sp Q (n + 1) gs fr2 h) → wpListIn (wideR ro) 0 P ops Q' (l ++ (gs.map (·.2)).flatten) a w := by
      intro hv H
      refine wpSkip_sound hdd l fr a hok1 hgl hne hv F ?_
      intro a' F'
      obtain ⟨fr3, F3, H3⟩ := F'.sp H
      exact wpGs_sound (n + 1) gs _ h c w a' hok2 hgs W F3 H3 Q' hQ
    unfold pGuard at H
    split at H
    · rename_i b hb
      rw [hb] at hvd
      have hv := hvd.bool_inv
      split at H
      · rename_i e; subst e; exact onYes hv H
      · rename_i e
        refine onNo (Or.inl ?_) H
        rw [hv]; cases b <;> cases want <;> simp_all
    · rename_i hb
      rw [hb] at hvd
      simp only [VRel] at hvd
      obtain ⟨b, hv⟩ := hvd
      by_cases e : b = want
      · subst e; exact onYes hv H.1
      · refine onNo (Or.inl ?_) H.2
        rw [hv]; cases b <;> cases want <;> simp_all
    · rename_i hb
      rw [hb] at hvd
      simp only [VRel] at hvd
      obtain ⟨vs, hv, hl⟩ := hvd
      simp only [LRel] at hl
      refine onNo (Or.inr ?_) H
      rw [hv]
      have : vs = #[] := by apply Array.ext'; simpa using hl
      rw [this]
    · exact H.elim

theorem wpOps_sound {ch : Nat → Bool} {ops : Array Oper} {sp : Nat → Option (List Nat)} {Q : Fr → AHeap → Prop} {B : Nat} (l : List Oper) (fr : Fr) (h : AHeap) (c : Ctx) (w : World) (a : Act) (hok : opsOk N l = true) (W : WRel B c h w) (F : FrRel N ds c w fr a) (H : wpOps P ch ops sp Q l fr h)
    (Q' : Exit → Act → World → Prop) (hQ : ∀ c' fr' h' a' w', Ext B c w c' w' → WRel B c' h' w' → FrRel N ds c' w' fr' a' → Q fr' h' → Q' .normal a' w') : wpListIn (wideR ro) 0 P ops Q' l a w := by
  obtain ⟨h1, h2⟩ := splitG_spec l
  have := wpGs_sound (ro := ro) (ops := ops) 0 (splitG l) fr h c w a (by rw [h1]; exact hok) h2 W F H Q' hQ
  rwa [h1] at this

theorem wpc_sound : ∀ (bl : List Nat) (code : Code) (fr : Fr) (h : AHeap) (Q : AExit → Fr → AHeap → Prop), P.follows .mixedOrders = true → codeOk N code = true → wpc P N cfg bl code fr h Q → WP P N code fr h Q
  | bl, .skip, fr, h, Q, _, _, H => fun ro ds B c w a hro W F => wpIn_skip ⟨[], c, fr, h, .normal, rfl, Ext.refl _ _ _, W, F, Marks.nil _ _, H⟩
  | bl, .region id ops draw, fr, h, Q, hm, hok, H => by
    intro ro ds B c w a hro W F
    cases draw with
    | false =>
      simp only [wpc] at H
      refine wpIn_region_list (wpOps_sound ops.toList fr h c w a hok W F H _ ?_)
      intro c' fr' h' a' w' E W' F' hq
      exact ⟨[], c', fr', h', .normal, rfl, E, W', F', Marks.nil _ _, hq⟩
    | true =>
      simp only [wpc] at H
      refine wpDraw_sound hm hok W F H fun c' fr' h' a' w' E W' F' hq => ?_
      exact ⟨[], c', fr', h', .normal, rfl, E, W', F', Marks.nil _ _, hq⟩
  | bl, .seq x y, fr, h, Q, hm, hok, H => by
    simp only [codeOk, Bool.and_eq_true] at hok
    simp only [wpc] at H
    have go : ∀ (Qn : Fr → AHeap → Prop), (∀ fr' h', Qn fr' h' → WP P N y fr' h' Q) → wpc P N cfg bl x fr h (exitQ Qn (fun id fr' h' => Q (.exit id) fr' h') (fun fr' h' => Q .ret fr' h')) → WP P N (.seq x y) fr h Q := by
      intro Qn hQn H ro ds B c w a hro W F
      have hx : ro = none ∨ noRF x = true := hro.imp id fun h => by simp only [noRF, Bool.and_eq_true] at h; exact h.1
      have hy : ro = none ∨ noRF y = true := hro.imp id fun h => by simp only [noRF, Bool.and_eq_true] at h; exact h.2
      refine wpIn_seq (wpIn_mono (wpc_sound bl x fr h _ hm hok.1 H ro ds B c w a hx W F) ?_)
      rintro e a' w' ⟨Ds, c', fr', h', ae, rfl, E, W', F', M, hq⟩
      cases ae with
      | normal =>
        exact wpIn_mono (hQn fr' h' hq ro _ B c' w' a' hy W' F') fun e a2 w2 hp => hp.trans E M
      | exit id => exact ⟨Ds, c', fr', h', .exit id, rfl, E, W', F', M, hq⟩
      | ret => exact ⟨Ds, c', fr', h', .ret, rfl, E, W', F', M, hq⟩
    split at H
    · rename_i k hk
      split at H
      · obtain ⟨J, H1, H2⟩ := H
        exact go _ (fun fr' h' hj => WP.restr _ (wpc_sound bl y _ h' Q hm hok.2 (H2 _ h' hj))) H1
      · exact go _ (fun fr' h' hj => wpc_sound bl y fr' h' Q hm hok.2 hj) H
    · exact go _ (fun fr' h' hj => wpc_sound bl y fr' h' Q hm hok.2 hj) H
  | bl, .cond x p q, fr, h, Q, hm, hok, H => by
    simp only [codeOk, Bool.and_eq_true] at hok
    simp only [wpc] at H
    intro ro ds B c w a hro W F
    have hp : ro = none ∨ noRF p = true := hro.imp id fun h => by simp only [noRF, Bool.and_eq_true] at h; exact h.1
    have hq : ro = none ∨ noRF q = true := hro.imp id fun h => by simp only [noRF, Bool.and_eq_true] at h; exact h.2
    have hx := F.ev W.gl x
    unfold pCond at H
    split at H <;> (try (exact H.elim))
    · rename_i b hb
      rw [hb] at hx
      refine wpIn_cond (hx.bool_inv) ?_
      cases b
      · exact wpc_sound bl q fr h Q hm hok.2 (by simpa using H) ro ds B c w a hq W F
      · exact wpc_sound bl p fr h Q hm hok.1 (by simpa using H) ro ds B c w a hp W F
    · rename_i hb
      rw [hb] at hx
      simp only [VRel] at hx
      obtain ⟨b, hb'⟩ := hx
      refine wpIn_cond hb' ?_
      cases b
      · exact wpc_sound bl q fr h Q hm hok.2 H.2 ro ds B c w a hq W F
      · exact wpc_sound bl p fr h Q hm hok.1 H.1 ro ds B c w a hp W F
  | bl, .block id b, fr, h, Q, hm, hok, H => by
    simp only [codeOk] at hok
    simp only [wpc] at H
    intro ro ds B c w a hro W F
    refine wpIn_block (wpIn_mono (wpc_sound (id :: bl) b fr h _ hm hok H ro ds B c w a hro W F) ?_)
    rintro e a' w' ⟨Ds, c', fr', h', ae, rfl, E, W', F', M, hq⟩
    cases ae with
    | normal => exact ⟨Ds, c', fr', h', .normal, rfl, E, W', F', M, hq⟩
    | exit id' =>
      simp only [AExit.toExit, Exit.inBlock, exitQ, pIdx] at hq ⊢
      split at hq
      · rename_i hid
        subst hid
        rw [if_pos rfl]
        exact ⟨Ds, c', fr', h', .normal, rfl, E, W', F', M, hq⟩
      · rename_i hid
        rw [if_neg hid]
        exact ⟨Ds, c', fr', h', .exit id', rfl, E, W', F', M, hq⟩
    | ret => exact ⟨Ds, c', fr', h', .ret, rfl, E, W', F', M, hq⟩
  | bl, .loop b, fr, h, Q, _, _, H => by
    simp only [wpc] at H
    split at H
    · refine WP.restr _ (WP.mono H ?_)
      intro e fr' h' hq
      cases e with
      | normal => exact hq.elim
      | exit id => exact selE_self hq
      | ret => exact hq
    · exact H.elim
  | bl, .rangeFunc g ps asn bd, fr, h, Q, _, _, H => by
    simp only [wpc] at H
    split at H
    · refine WP.restr _ (WP.mono H ?_)
      intro e fr' h' hq
      cases e with
      | normal => exact hq
      | exit id => exact selE_self hq
      | ret => exact hq
    · exact H.elim
  | bl, .exit id, fr, h, Q, _, _, H => fun ro ds B c w a hro W F => wpIn_exit ⟨[], c, fr, h, .exit id, rfl, Ext.refl _ _ _, W, F, Marks.nil _ _, H⟩
  | bl, .ret, fr, h, Q, _, _, H => fun ro ds B c w a hro W F => wpIn_ret ⟨[], c, fr, h, .ret, rfl, Ext.refl _ _ _, W, F, Marks.nil _ _, H⟩
  | bl, .scope .., _, _, _, _, _, H => by simp [wpc] at H
  | bl, .label .., _, _, _, _, _, H => by simp [wpc] at H
  | bl, .goto .., _, _, _, _, _, H => by simp [wpc] at H
  | bl, .refuse .., _, _, _, _, _, H => by simp [wpc] at H

/-- What is asked behind a round. -/
def loopPost (I : Nat → Fr → AHeap → Prop) (m : Nat) (Q : AExit → Fr → AHeap → Prop) : AExit → Fr → AHeap → Prop := fun e fr' h' =>
  match e with
  | .normal => ∃ m', m' < m ∧ I m' fr' h'
  | .exit id => Q (.exit id) fr' h'
  | .ret => Q .ret fr' h'

/-- A loop: an invariant with a number that falls. -/
theorem WP_loop {b : Code} {fr : Fr} {h : AHeap} {Q : AExit → Fr → AHeap → Prop} (hm : P.follows .mixedOrders = true) (hok : codeOk N b = true) (I : Nat → Fr → AHeap → Prop) (n : Nat) (h0 : I n fr h)
    (round : ∀ m fr h, I m fr h → WP P N b fr h (loopPost I m Q)) : WP P N (.loop b) fr h Q := by
  intro ro ds B c w a hro W F
  have hro' : ro = none ∨ noRF b = true := hro
  let Good : Nat → Act → World → Prop := fun m a' w' => ∃ Ds c' fr' h', Ext B c w c' w' ∧ WRel B c' h' w' ∧ FrRel N (Ds.map mark ++ ds) c' w' fr' a' ∧ Marks w w' Ds ∧ I m fr' h'
  have hex : Good n a w := ⟨[], c, fr, h, Ext.refl _ _ _, W, F, Marks.nil _ _, h0⟩
  have least : ∀ a' w', (∃ m, Good m a' w') → ∃ m, Good m a' w' ∧ ∀ k, k < m → ¬ Good k a' w' := by
    rintro a' w' ⟨m, hg⟩
    induction m using Nat.strongRecOn with
    | _ m ih =>
      by_cases hk : ∃ k, k < m ∧ Good k a' w'
      · obtain ⟨k, h1, h2⟩ := hk
        exact ih k h1 h2
      · exact ⟨m, hg, fun k h1 h2 => hk ⟨k, h1, h2⟩⟩
  let μ : Act → World → Nat := fun a' w' => open Classical in if hh : ∃ m, Good m a' w' then Classical.choose (least a' w' hh) else 0
  have hμ : ∀ a' w', (∃ m, Good m a' w') → Good (μ a' w') a' w' ∧ ∀ k, Good k a' w' → μ a' w' ≤ k := by
    intro a' w' hh
    have hs := Classical.choose_spec (least a' w' hh)
    have e : μ a' w' = Classical.choose (least a' w' hh) := by simp only [μ]; rw [dif_pos hh]
    rw [e]
    exact ⟨hs.1, fun k hk => Nat.le_of_not_lt fun hlt => hs.2 k hlt hk⟩
  refine wpIn_loop (fun a' w' => ∃ m, Good m a' w') μ ⟨n, hex⟩ ?_
  intro a' w' hI
  obtain ⟨⟨Ds, c', fr', h', E, W', F', M, hi⟩, hmin⟩ := hμ a' w' hI
  refine wpIn_mono (round (μ a' w') fr' h' hi ro _ B c' w' a' hro' W' F') ?_
  rintro e a2 w2 hp
  obtain ⟨Es, c2, fr2, h2, ae, rfl, E2, W2, F2, M2, hq⟩ := hp.trans E M
  cases ae with
  | normal =>
    simp only [loopPost] at hq
    obtain ⟨m', hlt, hi'⟩ := hq
    have hg : Good m' a2 w2 := ⟨Es, c2, fr2, h2, E2, W2, F2, M2, hi'⟩
    exact ⟨⟨m', hg⟩, Nat.lt_of_le_of_lt ((hμ a2 w2 ⟨m', hg⟩).2 m' hg) hlt⟩
  | exit id => exact ⟨Es, c2, fr2, h2, .exit id, rfl, E2, W2, F2, M2, hq⟩
  | ret => exact ⟨Es, c2, fr2, h2, .ret, rfl, E2, W2, F2, M2, hq⟩

theorem kill_put (h : AHeap) (id : Nat) (o : AObj) : (h.put id o).kill id = h.kill id := by
  simp only [AHeap.put, AHeap.kill]
  congr 1
  funext i
  by_cases e : i = id <;> simp [e]

/-- What holds behind a loop over a function: how its record was left. -/
def rangePostA (Q : AExit → Fr → AHeap → Prop) (fr : Fr) (h : AHeap) : Option Code → Prop
  | none => Q .normal fr h
  | some (.exit i) => Q (.exit i) fr h
  | some .ret => Q .ret fr h
  | _ => False

/-- A loop over a function: the function is called with the loop's yield. -/
theorem WP_range {g : Operand} {ps : Array Tmp} {asn bd : Code} {fr : Fr} {h : AHeap} {Q : AExit → Fr → AHeap → Prop} {gf : FuncId} {cap : List AV} (hg : aEv fr g = .fn (.func gf) [] cap)
    (H : CallsE P gf (.yld h.next :: cap) (h.push (.loop .ready none N ps asn bd fr)) (fun _ h' => ∃ st pe, h'.objs h.next = some (.loop st pe N ps asn bd fr) ∧ st ≠ .busy ∧ rangePostA Q fr (h'.kill h.next) pe)) :
    WP P N (.rangeFunc g ps asn bd) fr h Q := by
  intro ro ds B c w a hro W F
  have hr0 : ro = none := hro.resolve_right (by simp [noRF])
  subst hr0
  refine wpIn_rangeFunc ?_
  intro fn _
  have hv := F.ev W.gl g
  rw [hg] at hv
  simp only [VRel, LRel] at hv
  obtain ⟨fs, cs, hge, hfs, hcs⟩ := hv
  have hfs' : fs = #[] := by apply Array.ext'; simpa using hfs
  subst hfs'
  obtain ⟨L, hL⟩ : ∃ L : Loop, L = { state := .ready, pending := none, fn, tmps := a.tmps, params := ps, assign := asn, body := bd, defers := w.heap.size } := ⟨_, rfl⟩
  have hT : L.tmps = a.tmps := by rw [hL]
  obtain ⟨w1, hw1⟩ : ∃ w1, (w.alloc (.deferred (some []))).alloc (.loop L) = w1 := ⟨_, rfl⟩
  have W0 := W.alloc (.deferred (some []))
  have E0 := Ext.alloc W (.deferred (some []))
  have W1 := W0.alloc (.loop L)
  have E1 := E0.trans (Ext.alloc W0 (.loop L))
  have hD0 : Dfr (w.alloc (.deferred (some []))) w.heap.size := World.alloc_heap_new w _
  have hD1 := (Ext.alloc W0 (.loop L)).oth _ hD0
  have hLn : ((w.alloc (.deferred (some []))).alloc (.loop L)).heap[w.heap.size + 1]? = some (.loop L) := by
    have := World.alloc_heap_new (w.alloc (.deferred (some []))) (.loop L)
    rwa [World.size_alloc] at this
  obtain ⟨E2, W2⟩ := W1.name (b := w.heap.size + 1) (.loop .ready none N ps asn bd fr) (by have := W.base; omega) (by simp) (fun i hi => absurd (W.mlt i _ hi).2.2 (by omega))
    ⟨L, hLn, by rw [hL], by rw [hL], by rw [hL], by rw [hL], by rw [hL], by rw [hT]; exact F.1, fun i => by rw [hT]; exact VRel.mono E1 (F.2.2 i)⟩
  rw [hw1] at E1 E2 W2 hD1 hLn
  have Et := E1.trans E2
  refine ⟨w.heap.size + 1, [mark w.heap.size], w1, { target := .fn (.func gf) cs, args := #[.func (.yield (w.heap.size + 1)) #[] #[]] }, w1, gf, #[.func (.yield (w.heap.size + 1)) #[] #[]] ++ cs, w1, ?_, ?_, fun _ _ => trivial, ?_, by simp [wideR, Fence.wide], ?_⟩
  · rw [← hw1, hL]; exact run_enterLoop_outer _ _ _ _ _
  · simp only [resolve, hge]
    simp [go_sem]
  · simp only [invoke]
    exact H.1 _ _
  · have hargs : LRel (c.withM h.next (w.heap.size + 1)) w1 (.yld h.next :: cap) (Value.func (.yield (w.heap.size + 1)) #[] #[] :: cs.toList) := by
      simp only [LRel, VRel]
      exact ⟨_, _, rfl, ⟨w.heap.size + 1, by simp [Ctx.withM], rfl⟩, LRel.mono Et hcs⟩
    have HC := H.2 B _ w1 _ W2 hargs
    have hta : (Value.func (.yield (w.heap.size + 1)) #[] #[] :: cs.toList).toArray = #[.func (.yield (w.heap.size + 1)) #[] #[]] ++ cs := by
      apply Array.ext'; simp
    rw [hta] at HC
    refine CallsIn.mono (callsIn_wideR.2 HC) ?_
    rintro e w3 ⟨c3, u, v, h3, rfl, E3, W3, -, st, pe, ho3, hst, hq⟩
    have hm3 : c3.m h.next = some (w.heap.size + 1) := E3.m _ _ (by simp [Ctx.withM])
    obtain ⟨L3, k1, k2, k3, k4, k5, k6, k7, k8⟩ := W3.obj _ _ _ hm3 ho3
    obtain ⟨L4, hL4⟩ : ∃ L4 : Loop, L4 = { L3 with state := .exhausted } := ⟨_, rfl⟩
    obtain ⟨E4, W4⟩ := W3.putLoop (L' := L4) hm3 ho3 k1 (by rw [hL4]) (by rw [hL4]) (by rw [hL4]) (by rw [hL4]) rfl rfl
    have hend := run_endLoop (P := P) k1 (by rw [k2]; exact hst)
    rw [← hL4, k3] at hend
    have W5 := W4.kill h.next
    rw [kill_put] at W5
    have Ef := (Et.trans E3).trans E4
    refine ⟨pe, _, hend, ?_⟩
    have hM : Marks w (w3.putObj (w.heap.size + 1) (.loop L4)) [w.heap.size] := by
      refine ⟨by simp, fun D hD => ?_⟩
      simp only [List.mem_singleton] at hD
      subst hD
      exact ⟨Nat.le_refl _, E4.oth _ (E3.oth _ (E2.oth _ hD1))⟩
    have hF : FrRel N ([w.heap.size].map mark ++ ds) c3 (w3.putObj (w.heap.size + 1) (.loop L4)) fr { a with defers := [mark w.heap.size] ++ a.defers } := ⟨F.1, by simp [F.2.1], fun i => VRel.mono Ef (F.2.2 i)⟩
    cases pe with
    | none => exact ⟨[w.heap.size], c3, fr, _, .normal, rfl, Ef, W5, hF, hM, hq⟩
    | some cd =>
      cases cd with
      | exit i => exact wpIn_exit ⟨[w.heap.size], c3, fr, _, .exit i, rfl, Ef, W5, hF, hM, hq⟩
      | ret => exact wpIn_ret ⟨[w.heap.size], c3, fr, _, .ret, rfl, Ef, W5, hF, hM, hq⟩
      | _ => exact hq.elim

/-- A function's results. -/
def resA (P : Program) : List ResultVar → Fr → AHeap → (List AV → Prop) → Prop
  | [], _, _, K => K []
  | .tmp t :: rs, fr, h, K => resA P rs fr h (fun vs => K (fr t :: vs))
  | .cell a t :: rs, fr, h, K => match ldK P t with
    | some k => pLoad k (fr a) h (fun v => resA P rs fr h (fun vs => K (v :: vs)))
    | none => False

def resV (K : AV → Prop) : List AV → Prop
  | [v] => K v
  | vs => K (.tup vs)

/-- One result. -/
def resOne (tmps : Array Value) : ResultVar → Sem Value
  | .tmp t => pure (tmps.getD t undef)
  | .cell a t => do loadVar t (← asAddr (tmps.getD a undef))

theorem results_eq (fn : Func) (tmps : Array Value) : results fn tmps = (do
    let vs ← fn.results.mapM (resOne tmps)
    pure (if h : vs.size = 1 then vs[0] else .tuple vs)) := rfl

theorem resA_sound {B : Nat} {c : Ctx} {h : AHeap} {w : World} {fr : Fr} {a : Act} (W : WRel B c h w) (F : FrRel N ds c w fr a) : ∀ (rs : List ResultVar) (K : List AV → Prop), resA P rs fr h K →
    ∃ as vs, (rs.mapM (resOne a.tmps)).run P w = .ok vs w ∧ LRel c w as vs ∧ K as
  | [], K, H => ⟨[], [], by simp, by simp [LRel], H⟩
  | .tmp t :: rs, K, H => by
    simp only [resA] at H
    obtain ⟨as, vs, h1, h2, h3⟩ := resA_sound W F rs _ H
    refine ⟨fr t :: as, a.tmps.getD t undef :: vs, ?_, ?_, h3⟩
    · simp only [List.mapM_cons, resOne, Sem.run_bind, Sem.run_pure, Result.andThen_ok, h1]
    · simp only [LRel]; exact ⟨_, _, rfl, F.2.2 t, h2⟩
  | .cell x t :: rs, K, H => by
    simp only [resA] at H
    split at H <;> (try (exact H.elim))
    rename_i k hk
    obtain ⟨ad, v, z, hu, hr, hv, hK⟩ := pLoad_run (P := P) W hk (F.2.2 x) H
    obtain ⟨as, vs, h1, h2, h3⟩ := resA_sound W F rs _ hK
    refine ⟨v :: as, z :: vs, ?_, ?_, h3⟩
    · have ha : (asAddr (a.tmps.getD x undef)).run P w = .ok ad w := by rw [hu]; rfl
      simp only [List.mapM_cons, resOne, Sem.run_bind, ha, Sem.run_pure, Result.andThen_ok, hr, h1]
    · simp only [LRel]; exact ⟨_, _, rfl, hv, h2⟩

/-- The marks are taken, one by one. -/
theorem leaves_marks {B : Nat} {c c' : Ctx} {h' : AHeap} {w : World} {fr' : Fr} {fn : Func} {T : Array Value} {R : Ending → World → Prop} (hB : B ≤ w.heap.size) (goal : ∀ w', Ext B c w c' w' → WRel B c' h' w' → (∀ i, VRel c' w' (fr' i) (T.getD i undef)) → ∃ v, (results fn T).run P w' = .ok v w' ∧ R (.returned v) w') :
    ∀ (Ds : List Nat) (w' : World), Ext B c w c' w' → WRel B c' h' w' → (∀ i, VRel c' w' (fr' i) (T.getD i undef)) → Marks w w' Ds → LeavesInM (wideR none) 0 P fn T R (Ds.map mark) .returning w'
  | [], w', E, W', F, _ => goal w' E W' F
  | D :: Ds, w', E, W', F, M => by
    have hD := M.all D (by simp)
    have hnd := List.nodup_cons.1 M.nd
    refine ⟨by simp, Or.inl ⟨D, _, rfl, run_takeDeferred hD.2, ?_⟩⟩
    have hold : ∀ k, k ≠ D → (w'.putObj D (.deferred none)).heap[k]? = w'.heap[k]? := fun k hk => World.putObj_heap_other hk
    have hDD : w'.heap[D]? = some (.deferred (some [])) := hD.2
    have hnew : (w'.putObj D (.deferred none)).heap[D]? = some (.deferred none) := World.putObj_heap_same hD.2.lt
    have E0 : Ext0 B c' w' c' (w'.putObj D (.deferred none)) := by
      refine ⟨fun _ _ x => x, fun _ _ x => x, ⟨rfl, rfl, rfl, by simp, fun k hk => hold k (by omega)⟩, fun k o hk => ?_, fun k ty n hs => ?_⟩
      · by_cases e : k = D
        · subst e; simp [World.cell?, hDD, hnew]
        · exact World.cell?_of_block (a := ⟨k, o, none⟩) (hold k e)
      · obtain ⟨C, h1, h2⟩ := hs
        have e : k ≠ D := by rintro rfl; rw [hDD] at h1; cases h1
        exact ⟨C, by rw [hold k e, h1], h2⟩
    refine leaves_marks hB goal Ds _ ⟨E.toExt0.trans E0, fun k hk => ?_⟩ ⟨fun i k hi => ?_, W'.inj, fun i k o hi ho => ?_, fun k o hk => ?_, W'.fresh, by simpa using W'.base, W'.gl.mono0 E0⟩ (fun i => VRel.mono0 E0 (F i)) ⟨hnd.2, fun D' hD' => ?_⟩
    · have hlt := hk.lt
      have := E.oth k hk
      unfold Dfr at this ⊢
      rw [hold k (by omega)]; exact this
    · have := W'.mlt i k hi
      exact ⟨this.1, this.2.1, by simpa using this.2.2⟩
    · have hR := W'.obj i k o hi ho
      have hne : k ≠ D := by
        rintro rfl
        cases o with
        | row ty cs => obtain ⟨C, h1, _⟩ := hR; rw [hDD] at h1; cases h1
        | tok ty n => obtain ⟨C, h1, _⟩ := hR; rw [hDD] at h1; cases h1
        | loop st pe N ps asn bd fr => obtain ⟨L, h1, _⟩ := hR; rw [hDD] at h1; cases h1
      exact hR.keep0 E0 (hold k hne) (fun _ y => y)
    · have := W'.im k o hk; simpa using this
    · have h2 := M.all D' (by simp [hD'])
      have hne : D' ≠ D := by rintro rfl; exact hnd.1 hD'
      refine ⟨h2.1, ?_⟩
      have h3 := h2.2
      unfold Dfr at h3 ⊢
      rw [hold D' hne]; exact h3

theorem CallsA_intro {f : FuncId} {fn : Func} {body : Code} {args : List AV} {h : AHeap} {R : AV → AHeap → Prop} (cfg : Cfg) (hm : P.follows .mixedOrders = true) (hf : P.funcs[f]? = some fn) (hb : fn.body = some body) (hN : fn.ntmps = N) (hok : codeOk N body = true) (hargs : args.length ≤ N)
    (hcall : ∀ as w, (callFunc f as).run P w = .ok (.enter f as) w)
    (H : wpc P N cfg [] body (fun i => (args[i]?).getD .und) h (exitQ (fun fr' h' => resA P fn.results.toList fr' h' (resV fun v => R v h')) (fun _ _ _ => False) (fun fr' h' => resA P fn.results.toList fr' h' (resV fun v => R v h')))) : CallsA P f args h R := by
  refine Or.inl ⟨hcall, fun B c w vs W L => ?_⟩
  refine callsIn_wideR.1 (callsIn_of_wp_marks (F := wideR none) (n := 0) hf hb trivial ?_)
  have hl := L.length
  have F : FrRel N [] c w (fun i => (args[i]?).getD .und) { tmps := vs.toArray ++ Array.replicate (fn.ntmps - vs.toArray.size) undef, defers := [] } := by
    refine ⟨by simp; omega, rfl, fun i => ?_⟩
    by_cases hi : i < args.length
    · obtain ⟨v, hv, hr⟩ := L.get (i := i) (a := args[i]) (by simp [hi])
      have e1 : (args[i]?).getD .und = args[i] := by simp [hi]
      show VRel c w ((args[i]?).getD .und) ((vs.toArray ++ Array.replicate (fn.ntmps - vs.toArray.size) undef).getD i undef)
      rw [e1, Array.getD_eq_getD_getElem?, Array.getElem?_append_left (by simp; omega)]
      have : vs.toArray[i]? = some v := by simpa using hv
      rw [this]; exact hr
    · have e1 : (args[i]?).getD .und = .und := by simp [List.getElem?_eq_none (Nat.le_of_not_lt hi)]
      show VRel c w ((args[i]?).getD .und) _
      rw [e1]; simp [VRel]
  refine wpIn_mono (wpc_sound [] body _ h _ hm hok H none [] B c w _ (Or.inl rfl) W F) ?_
  rintro e a' w' ⟨Ds, c', fr', h', ae, rfl, E, W', F', M, hq⟩
  have fin : resA P fn.results.toList fr' h' (resV fun v => R v h') → LeavesInM (wideR none) 0 P fn a'.tmps (fun e w'' => ∃ c' u v h', e = .returned u ∧ Ext B c w c' w'' ∧ WRel B c' h' w'' ∧ VRel c' w'' v u ∧ R v h') a'.defers .returning w' := by
    intro hq
    have hdf : a'.defers = Ds.map mark := by have := F'.2.1; simpa using this
    rw [hdf]
    refine leaves_marks W.base (fun w' E W' Fv => ?_) Ds w' E W' F'.2.2 M
    obtain ⟨as, us, h1, h2, h3⟩ := resA_sound (N := a'.tmps.size) (ds := a'.defers) W' (a := a') ⟨rfl, rfl, Fv⟩ _ _ hq
    have hlen := h2.length
    by_cases h1' : us.length = 1
    · obtain ⟨u, rfl⟩ : ∃ u, us = [u] := by
        match us, h1' with
        | [u], _ => exact ⟨u, rfl⟩
      obtain ⟨v, rfl⟩ : ∃ v, as = [v] := by
        match as, hlen with
        | [v], _ => exact ⟨v, rfl⟩
      simp only [LRel] at h2
      obtain ⟨v', vs', he, hr, hn⟩ := h2
      simp only [List.cons.injEq] at he
      obtain ⟨rfl, rfl⟩ := he
      refine ⟨u, ?_, c', u, v, h', rfl, E, W', hr, h3⟩
      rw [results_eq, Array.mapM_eq_mapM_toList]
      simp only [Sem.run_bind, Sem.run_map, h1, Result.andThen_ok]
      rfl
    · refine ⟨.tuple us.toArray, ?_, c', .tuple us.toArray, .tup as, h', rfl, E, W', ?_, ?_⟩
      · rw [results_eq, Array.mapM_eq_mapM_toList]
        simp only [Sem.run_bind, Sem.run_map, h1, Result.andThen_ok]
        have : us.toArray.size ≠ 1 := by simpa using h1'
        rw [dif_neg this]; rfl
      · simp only [VRel]; exact ⟨us.toArray, rfl, by simpa using h2⟩
      · unfold resV at h3
        split at h3
        · simp at hlen; omega
        · exact h3
  cases ae with
  | normal => exact fin hq
  | ret => exact fin hq
  | exit id => exact hq.elim

/-- The body of the loop that begins with region k. -/
def loopOf (k : Nat) : Code → Option Code
  | .seq a b => match loopOf k a with | some r => some r | none => loopOf k b
  | .cond _ a b => match loopOf k a with | some r => some r | none => loopOf k b
  | .block _ b => loopOf k b
  | .loop b => if firstReg b = some k then some b else loopOf k b
  | .rangeFunc _ _ a b => match loopOf k a with | some r => some r | none => loopOf k b
  | _ => none
/-- The loop over a function that begins with region k. -/
def rangeOf (k : Nat) : Code → Option (Operand × Array Tmp × Code × Code)
  | .seq a b => match rangeOf k a with | some r => some r | none => rangeOf k b
  | .cond _ a b => match rangeOf k a with | some r => some r | none => rangeOf k b
  | .block _ b => rangeOf k b
  | .loop b => rangeOf k b
  | .rangeFunc g ps a b => if firstReg (.seq a b) = some k then some (g, ps, a, b) else match rangeOf k a with | some r => some r | none => rangeOf k b
  | _ => none

/-- A piece of code out of its condition, the frames behind it cut to what counts. -/
theorem WP_body (cfg : Cfg) (bl Ln Lx Lr : List Nat) {b : Code} {fr : Fr} {h : AHeap} {Q : AExit → Fr → AHeap → Prop} (hm : P.follows .mixedOrders = true) (hok : codeOk N b = true)
    (H : wpc P N cfg bl b fr h (exitQ (fun fr' h' => Q .normal (restr Ln fr') h') (fun id fr' h' => Q (.exit id) (restr Lx fr') h') (fun fr' h' => Q .ret (restr Lr fr') h'))) : WP P N b fr h Q := by
  intro ro ds B c w a hro W F
  refine wpIn_mono (wpc_sound bl b fr h _ hm hok H ro ds B c w a hro W F) ?_
  rintro e a' w' ⟨Ds, c', fr', h', ae, h1, h2, h3, h4, h5, h6⟩
  cases ae with
  | normal => exact ⟨Ds, c', restr Ln fr', h', .normal, h1, h2, h3, frOf_rel (B := B) h4 Ln, h5, h6⟩
  | exit id => exact ⟨Ds, c', restr Lx fr', h', .exit id, h1, h2, h3, frOf_rel (B := B) h4 Lx, h5, h6⟩
  | ret => exact ⟨Ds, c', restr Lr fr', h', .ret, h1, h2, h3, frOf_rel (B := B) h4 Lr, h5, h6⟩

end
end Go.Abs
