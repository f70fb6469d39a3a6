/- Operations, regions, code: what is to be shown, computed; and that it suffices. -/
import Derived.Test.YtppldbldpphlmaaAbsPrim3
import Derived.Laws.FloatArith
import Derived.Laws.NewFold
set_option linter.unusedVariables false
set_option linter.unusedSimpArgs false
namespace Go.Abs
open Go.RowKit

abbrev Fr := Nat → AV
noncomputable def upd (fr : Fr) (d : Nat) (v : AV) : Fr := fun i => Bool.rec (fr i) v (Nat.beq i d)
noncomputable def updO (fr : Fr) (d : Option Nat) (v : AV) : Fr := Option.rec fr (fun d => upd fr d v) d
theorem upd_eq (fr : Fr) (d : Nat) (v : AV) (i : Nat) : upd fr d v i = if i = d then v else fr i := by
  unfold upd
  by_cases h : i = d
  · rw [if_pos h, show Nat.beq i d = true from by simp [h]]
  · rw [if_neg h]
    cases hb : Nat.beq i d with
    | true => exact absurd (Nat.eq_of_beq_eq_true hb) h
    | false => rfl
@[simp] theorem updO_some (fr : Fr) (d : Nat) (v : AV) : updO fr (some d) v = upd fr d v := rfl
@[simp] theorem updO_none (fr : Fr) (v : AV) : updO fr none v = fr := rfl
def aEv (fr : Fr) : Operand → AV
  | .tmp t => fr t
  | .const v => ofConst v
  | .func f => .fn (.func f) [] []
  | .global _ => .und

/-- A call of a function answers so, whatever the machine's memory: its abstract contract. -/
def CallsE (P : Program) (f : FuncId) (args : List AV) (h : AHeap) (R : AV → AHeap → Prop) : Prop :=
  (∀ as w, (callFunc f as).run P w = .ok (.enter f as) w) ∧
  ∀ B c w vs, WRel B c h w → LRel c w args vs → Calls P f vs.toArray w (fun e w' => ∃ c' u v h', e = .returned u ∧ Ext B c w c' w' ∧ WRel B c' h' w' ∧ VRel c' w' v u ∧ R v h')

/-- A call of a function without a body. -/
def ExtA (P : Program) (f : FuncId) (args : List AV) (h : AHeap) (R : AV → AHeap → Prop) : Prop :=
  ∀ B c w vs, WRel B c h w → LRel c w args vs → ∃ c' u v h' w', (callFunc f vs.toArray).run P w = .ok (.value u) w' ∧ Ext B c w c' w' ∧ WRel B c' h' w' ∧ VRel c' w' v u ∧ R v h'
def CallsA (P : Program) (f : FuncId) (args : List AV) (h : AHeap) (R : AV → AHeap → Prop) : Prop := CallsE P f args h R ∨ ExtA P f args h R

theorem CallsA.mono {P : Program} {f : FuncId} {args : List AV} {h : AHeap} {R R' : AV → AHeap → Prop} (H : CallsA P f args h R) (hr : ∀ v h', R v h' → R' v h') : CallsA P f args h R' := by
  rcases H with H | H
  · exact Or.inl ⟨H.1, fun B c w vs W L => (H.2 B c w vs W L).mono fun e w' ⟨c', u, v, h', a, b, d, e', g⟩ => ⟨c', u, v, h', a, b, d, e', hr _ _ g⟩⟩
  · refine Or.inr fun B c w vs W L => ?_
    obtain ⟨c', u, v, h', w', a, b, d, e', g⟩ := H B c w vs W L
    exact ⟨c', u, v, h', w', a, b, d, e', hr _ _ g⟩

/-- A call of a value. -/
def pCallF (P : Program) (f : AV) (args : List AV) (h : AHeap) (K : AV → AHeap → Prop) : Prop :=
  match f with
  | .fn (.func g) first cap => CallsA P g (first ++ args ++ cap) h K
  | _ => False

def pPick (q x y : AV) (K : AV → Prop) : Prop := match q with | .bool t => K (if t then x else y) | _ => False
def pGuard (v : AV) (want : Bool) (T F : Prop) : Prop := match v with | .bool b => if b = want then T else F | .unkb => T ∧ F | .tup [] => F | _ => False
/-- What follows stands once. -/
def pJoin (body : (List AV → AHeap → Prop) → Prop) (k : List AV → AHeap → Prop) : Prop := body k
def nth (vs : List AV) (i : Nat) : AV := (vs[i]?).getD .und

/-- A builtin. -/
def wpBuiltin (P : Program) (by_ : Bool) (b : Builtin) (ts : List TypeId) (xs : List AV) (h : AHeap) (K : AV → AHeap → Prop) : Prop :=
  match b, ts, xs with
  | .append, [t, u], [s, x] => match slT P t with | some T => srcT P u = true ∧ pAppend by_ T s x h K | none => False
  | .len, [t], [x] => match lenK P t with | some k => pLen k x (fun v => K v h) | none => False
  | .max, _, xs => obind (maxA xs) (fun v => K v h)
  | .min, _, xs => obind (minA xs) (fun v => K v h)
  | _, _, _ => False

def isIface (P : Program) (t : TypeId) : Bool := match P.underlying t with | some (.interface _) => true | some _ => false | none => true

/-- One operation. 'by_': what it makes is read-only from now on, by value. -/
def wpOp (P : Program) (by_ : Bool) (o : Op) (ev : Operand → AV) (h : AHeap) (K : AV → AHeap → Prop) : Prop :=
  match o with
  | .move x => K (ev x) h
  | .assign x => K (ev x) h
  | .pick q x y => pPick (ev q) (ev x) (ev y) (fun v => K v h)
  | .alloc t => match zeroK P t with | some z => pAlloc t z h K | none => False
  | .box t x => pBox by_ t (ev x) h K
  | .build t parts => match placesK P t, zeroK P t with
    | some pl, some z => pBuild pl z (parts.toList.map fun p => (p.1, ev p.2)) (fun v => K v h)
    | _, _ => False
  | .buildSlice t len parts => match slT P t with
    | some T => match zeroK P T.e with
      | some z => (len = 0 → parts.toList = []) ∧ pBuildSl by_ T z len (parts.toList.map fun p => (p.1, ev p.2)) h K
      | none => False
    | none => False
  | .load t x => match ldK P t with | some k => pLoad k (ev x) h (fun v => K v h) | none => False
  | .store t a v => match szK P t with | some n => pStore n (ev a) (ev v) h (fun h' => K .und h') | none => False
  | .nilCheck x => pNil (ev x) (fun v => K v h)
  | .binOp op t x y _ => obind (binA (cmpK P t) op (ev x) (ev y)) (fun v => K v h)
  | .unOp op _ x => obind (unA op (ev x)) (fun v => K v h)
  | .convert s d x => match convK P s d with | some ck => pConv ck (ev x) h (fun v => K v h) | none => False
  | .makeSlice t l k => match slT P t with
    | some T => match zeroK P T.e with
      | some z => pMakeSl T z (ev l) (ev k) h K
      | none => False
    | none => False
  | .slice t x lo hi mx => match mx with
    | some _ => False
    | none => match P.underlying t with
      | some .string => pSliceStr (ev x) (lo.map ev) (hi.map ev) (fun v => K v h)
      | some (.slice e) => match szK P e with | some n => pSliceSl n (ev x) (lo.map ev) (hi.map ev) (fun v => K v h) | none => False
      | _ => False
  | .fieldAddr t x f => match fadK P t f with | some off => pFieldAddr off (ev x) (fun v => K v h) | none => False
  | .field t x f => match fldK P t f with | some (off, k) => pField off k (ev x) (fun v => K v h) | none => False
  | .indexAddr t x i => match ixK P t with | some ik => pIndexAddr ik (ev x) (ev i) (fun v => K v h) | none => False
  | .index t x i => match P.underlying t with | some .string => pIndexStr (ev x) (ev i) (fun v => K v h) | _ => False
  | .extract x i => pExtract i (ev x) (fun v => K v h)
  | .makeFunc f first cap => K (.fn f (first.toList.map ev) (cap.toList.map ev)) h
  | .makeInterface t x => isIface P t = false ∧ K (.ifc t (ev x)) h
  | .call q => match q.callee with
    | .builtin b => wpBuiltin P by_ b q.argTypes.toList (q.args.toList.map ev) h K
    | .value (.func g) => CallsA P g (q.args.toList.map ev) h K
    | .value f => pCallF P (ev f) (q.args.toList.map ev) h K
    | _ => False
  | _ => False

/-- The bits of what is no number. -/
def nanB : FloatKind → Nat → Prop
  | .f32, b => ∃ s f, s < 2 ∧ f < 8388607 ∧ b = s * 2147483648 + 2139095040 + 1 + f
  | .f64, b => ∃ s f, s < 2 ∧ f < 4503599627370495 ∧ b = s * 9223372036854775808 + 9218868437227405312 + 1 + f

/-- A sum, a difference, a product, a quotient of floats. -/
def pFArith (k : FloatKind) (op : BinOp) (x y : AV) (h : AHeap) (K : AV → AHeap → Prop) : Prop :=
  match x, y with
  | .flt k1 a, .flt k2 b => k1 = k ∧ k2 = k ∧ (match floatBits op k a b with | some r => K (.flt k r) h | none => ∀ r, nanB k r → K (.flt k r) h)
  | _, _ => False
def arithOp : BinOp → Bool | .add | .sub | .mul | .quo => true | _ => false
def fltK (P : Program) (t : TypeId) : Option FloatKind := match P.underlying t with | some (.float k) => some k | _ => none
def wpOpF (P : Program) (by_ : Bool) (o : Op) (ev : Operand → AV) (h : AHeap) (K : AV → AHeap → Prop) : Prop :=
  match o with
  | .binOp op t x y t2 => match arithOp op with
    | true => match fltK P t with
      | some k => pFArith k op (ev x) (ev y) h K
      | none => wpOp P by_ (.binOp op t x y t2) ev h K
    | false => wpOp P by_ (.binOp op t x y t2) ev h K
  | o => wpOp P by_ o ev h K

def byO (ch : Nat → Bool) (d : Option Nat) : Bool := match d with | some d => ch d | none => false

/-- Operations under one guard, together. -/
def splitG : List Oper → List (Option (Nat × Bool) × List Oper)
  | [] => []
  | o :: r => match o.guard, splitG r with
    | some g, (some g', l) :: gs => if g = g' then (some g, o :: l) :: gs else (some g, [o]) :: (some g', l) :: gs
    | g, gs => (g, [o]) :: gs

noncomputable def updN (fr : Fr) : List Oper → Nat → List AV → Fr
  | [], _, _ => fr
  | o :: l, n, vs => updN (updO fr o.dst (nth vs n)) l (n + 1) vs

/-- Operations one behind the other; k gets what they make. -/
def wpVals (P : Program) (ch : Nat → Bool) : List Oper → (List AV → AHeap → Prop) → Fr → AHeap → Prop
  | [], k, _, h => k [] h
  | o :: l, k, fr, h => wpOpF P (byO ch o.dst) o.op (aEv fr) h (fun v h' => wpVals P ch l (fun vs h2 => k (v :: vs) h2) (updO fr o.dst v) h')

def wpRun (P : Program) (ch : Nat → Bool) (Q : Fr → AHeap → Prop) : List Oper → Fr → AHeap → Prop
  | [], fr, h => Q fr h
  | o :: l, fr, h => wpOpF P (byO ch o.dst) o.op (aEv fr) h (fun v h' => wpRun P ch Q l (updO fr o.dst v) h')

/-- Values by which the frame is known from here on. -/
def pChunk (vs : List AV) (K : List AV → Prop) : Prop := K vs
noncomputable def frN : List Nat → Nat → List AV → Fr
  | [], _, _ => fun _ => .und
  | k :: L, n, vs => fun i => Bool.rec (frN L (n + 1) vs i) (nth vs n) (Nat.beq i k)
def wpSp (o : Option (List Nat)) (fr : Fr) (K : Fr → Prop) : Prop := match o with | none => K fr | some L => pChunk (L.map fr) (fun vs => K (frN L 0 vs))

theorem frN_spec (fr : Fr) (pre : List AV) : ∀ (L : List Nat) (i : Nat), frN L pre.length (pre ++ L.map fr) i = .und ∨ frN L pre.length (pre ++ L.map fr) i = fr i := by
  intro L
  induction L generalizing pre with
  | nil => intro i; exact Or.inl rfl
  | cons k L ih =>
    intro i
    simp only [frN]
    cases hb : Nat.beq i k with
    | true =>
      have e := Nat.eq_of_beq_eq_true hb
      subst e
      right
      simp [nth]
    | false =>
      have := ih (pre ++ [fr k]) i
      simpa using this

/-- A region's operations, group by group. -/
def wpGs (P : Program) (ch : Nat → Bool) (ops : Array Oper) (sp : Nat → Option (List Nat)) (Q : Fr → AHeap → Prop) : Nat → List (Option (Nat × Bool) × List Oper) → Fr → AHeap → Prop
  | _, [], fr, h => Q fr h
  | n, (none, l) :: gs, fr, h => wpRun P ch (fun fr' h' => wpSp (sp n) fr' (fun fr2 => wpGs P ch ops sp Q (n + 1) gs fr2 h')) l fr h
  | n, (some (j, want), l) :: gs, fr, h => match (ops[j]?).bind (·.dst) with
    | some d => match l.all (fun o => o.dst != some d) with
      | true => pJoin (fun k => pGuard (fr d) want (wpVals P ch l k fr h) (k (l.map fun _ => .tup []) h)) (fun vs h' => wpSp (sp n) (updN fr l 0 vs) (fun fr2 => wpGs P ch ops sp Q (n + 1) gs fr2 h'))
      | false => False
    | none => False

def wpOps (P : Program) (ch : Nat → Bool) (ops : Array Oper) (sp : Nat → Option (List Nat)) (Q : Fr → AHeap → Prop) (l : List Oper) (fr : Fr) (h : AHeap) : Prop := wpGs P ch ops sp Q 0 (splitG l) fr h

section
variable {P : Program} {B : Nat} {c : Ctx} {h : AHeap} {w : World}

/-- The frame: as many slots; each related. -/
def FrRel (N : Nat) (c : Ctx) (w : World) (fr : Fr) (a : Act) : Prop := a.tmps.size = N ∧ a.defers = [] ∧ ∀ i, VRel c w (fr i) (a.tmps.getD i undef)

theorem FrRel.sp {N : Nat} {fr : Fr} {a : Act} (F : FrRel N c w fr a) {o : Option (List Nat)} {K : Fr → Prop} (H : wpSp o fr K) : ∃ fr2, FrRel N c w fr2 a ∧ K fr2 := by
  cases o with
  | none => exact ⟨fr, F, H⟩
  | some L =>
    refine ⟨_, ⟨F.1, F.2.1, fun i => ?_⟩, H⟩
    rcases frN_spec fr [] L i with e | e
    · simp only [List.length_nil, List.nil_append] at e; rw [e]; simp [VRel]
    · simp only [List.length_nil, List.nil_append] at e; rw [e]; exact F.2.2 i

theorem FrRel.mono {N : Nat} {c' : Ctx} {w' : World} {fr : Fr} {a : Act} (F : FrRel N c w fr a) (E : Ext B c w c' w') : FrRel N c' w' fr a := ⟨F.1, F.2.1, fun i => VRel.mono E (F.2.2 i)⟩

theorem FrRel.ev {N : Nat} {fr : Fr} {a : Act} (F : FrRel N c w fr a) (x : Operand) : VRel c w (aEv fr x) (a.eval x) := by
  cases x with
  | tmp t => exact F.2.2 t
  | const v => exact ofConst_rel c w v
  | func f => simp only [aEv, Act.eval, VRel]; exact ⟨#[], #[], rfl, rfl, rfl⟩
  | global g => simp [aEv, VRel]

theorem FrRel.put {N : Nat} {fr : Fr} {a : Act} {d : Option Nat} {v : AV} {u : Value} (F : FrRel N c w fr a) (hd : ∀ k, d = some k → k < N) (hv : VRel c w v u) : FrRel N c w (updO fr d v) (a.put d u) := by
  cases d with
  | none => exact F
  | some k =>
    have hk := hd k rfl
    refine ⟨by simpa [Act.put] using F.1, by simpa [Act.put] using F.2.1, fun i => ?_⟩
    simp only [updO_some, upd_eq, Act.put]
    by_cases hi : i = k
    · subst hi
      rw [if_pos rfl]
      have : (a.tmps.setIfInBounds i u).getD i undef = u := by
        rw [Array.getD_eq_getD_getElem?, Array.getElem?_setIfInBounds_self_of_lt (by rw [F.1]; exact hk)]; rfl
      rw [this]; exact hv
    · rw [if_neg hi]
      have : (a.tmps.setIfInBounds k u).getD i undef = a.tmps.getD i undef := by
        rw [Array.getD_eq_getD_getElem?, Array.getD_eq_getD_getElem?, Array.getElem?_setIfInBounds_ne (Ne.symm hi)]
      rw [this]; exact F.2.2 i

theorem FrRel.list {N : Nat} {fr : Fr} {a : Act} (F : FrRel N c w fr a) (xs : List Operand) : LRel c w (xs.map (aEv fr)) (xs.map a.eval) := by
  induction xs with
  | nil => simp [LRel]
  | cons x xs ih => simp only [List.map_cons, LRel]; exact ⟨_, _, rfl, F.ev x, ih⟩

theorem FrRel.parts {N : Nat} {fr : Fr} {a : Act} (F : FrRel N c w fr a) (ps : List (Nat × Operand)) : PRel c w (ps.map fun p => (p.1, aEv fr p.2)) (ps.map fun p => (p.1, a.eval p.2)) := by
  induction ps with
  | nil => simp [PRel]
  | cons p ps ih => simp only [List.map_cons, PRel]; exact ⟨_, _, rfl, F.ev p.2, ih⟩

theorem FrRel.opt {N : Nat} {fr : Fr} {a : Act} (F : FrRel N c w fr a) (x : Option Operand) : ORelV c w (x.map (aEv fr)) (x.map a.eval) := by
  cases x with
  | none => exact Or.inl ⟨rfl, rfl⟩
  | some x => exact Or.inr ⟨_, _, rfl, rfl, F.ev x⟩

/-- What is asked behind an operation, of the machine. -/
def Then (B : Nat) (c : Ctx) (w : World) (a : Act) (d : Option Nat) (K : AV → AHeap → Prop) (next : Act → World → Prop) : Prop :=
  ∀ c' v h' w' u, Ext B c w c' w' → WRel B c' h' w' → VRel c' w' v u → K v h' → next (a.put d u) w'

theorem wp_of_does {o : Oper} {a : Act} {K : AV → AHeap → Prop} {next : Act → World → Prop} {Q : Exit → Act → World → Prop} {s : Sem Value} (he : execOp a.eval o = (do pure (.value (← s)))) (D : Does P B c w s K) (hK : Then B c w a o.dst K next) :
    o.wp P a w next Q := by
  obtain ⟨c', u, v, h', w', hr, E, W', hv, hk⟩ := D
  unfold Oper.wp
  rw [he]
  simp only [Sem.run_bind, hr, Result.andThen_ok, Sem.run_pure, Oper.upon]
  exact hK c' v h' w' u E W' hv hk

theorem wp_of_doesR {o : Oper} {a : Act} {K : AV → AHeap → Prop} {next : Act → World → Prop} {Q : Exit → Act → World → Prop} {s : Sem Value} (he : (execOp a.eval o).run P w = (s.run P w).andThen fun v w' => .ok (.value v) w') (D : Does P B c w s K) (hK : Then B c w a o.dst K next) :
    o.wp P a w next Q := by
  obtain ⟨c', u, v, h', w', hr, E, W', hv, hk⟩ := D
  unfold Oper.wp
  rw [he]
  simp only [hr, Result.andThen_ok, Oper.upon]
  exact hK c' v h' w' u E W' hv hk

theorem wpOp_sound {N : Nat} {by_ : Bool} {o : Oper} {fr : Fr} {a : Act} {K : AV → AHeap → Prop} {next : Act → World → Prop} {Q : Exit → Act → World → Prop} (W : WRel B c h w) (F : FrRel N c w fr a)
    (H : wpOp P by_ o.op (aEv fr) h K) (hK : Then B c w a o.dst K next) : o.wp P a w next Q := by
  cases ho : o.op <;> rw [ho] at H <;> simp only [wpOp] at H <;> (try (exact H.elim))
  case move x =>
    refine wp_of_does (s := pure (a.eval x)) (K := K) (B := B) (c := c) ?_ (Does.pure_ W (by simp) (F.ev x) H) hK
    simp only [execOp, ho]; rfl
  case assign x =>
    refine wp_of_does (s := pure (a.eval x)) (K := K) (B := B) (c := c) ?_ (Does.pure_ W (by simp) (F.ev x) H) hK
    simp only [execOp, ho]; rfl
  case pick q x y =>
    unfold pPick at H
    split at H
    · rename_i t ht
      have hq := F.ev q
      rw [ht] at hq
      have hq' := hq.bool_inv
      refine wp_of_does (s := pure (if t then a.eval x else a.eval y)) (K := K) (B := B) (c := c) ?_ (Does.pure_ W rfl ?_ H) hK
      · simp only [execOp, ho, hq', asBool]; cases t <;> rfl
      · cases t
        · exact F.ev y
        · exact F.ev x
    · exact H.elim
  case alloc t =>
    split at H <;> (try (exact H.elim))
    rename_i z hz
    exact wp_of_does (by simp only [execOp, ho]) (pAlloc_sound W hz H) hK
  case box t x => exact wp_of_does (by simp only [execOp, ho]) (pBox_sound W (F.ev x) H) hK
  case build t parts =>
    split at H <;> (try (exact H.elim))
    rename_i pl z hpl hz
    exact wp_of_does (by simp only [execOp, ho]) (pBuild_sound (vs := parts.map fun (i, x) => (i, a.eval x)) W hpl hz (by simpa using F.parts parts.toList) H) hK
  case buildSlice t len parts =>
    split at H <;> (try (exact H.elim))
    rename_i T hT
    split at H <;> (try (exact H.elim))
    rename_i z hz
    refine wp_of_does (by simp only [execOp, ho]) (pBuildSl_sound (vs := parts.map fun (i, x) => (i, a.eval x)) W hT hz (fun e => ?_) (by simpa using F.parts parts.toList) H.2) hK
    have := H.1 e
    simp [this]
  case load t x =>
    split at H <;> (try (exact H.elim))
    rename_i k hk
    exact wp_of_does (by simp only [execOp, ho]) (pLoad_sound W hk (F.ev x) H) hK
  case store t x y =>
    split at H <;> (try (exact H.elim))
    rename_i n hn
    obtain ⟨c', h', w', hr, E, W', hk⟩ := pStore_sound (P := P) W hn (F.ev x) (F.ev y) H
    unfold Oper.wp
    have he : execOp a.eval o = (do Instr.storeAt t (a.eval x) (a.eval y); pure .skip) := by simp only [execOp, ho]
    rw [he]
    simp only [Sem.run_bind, hr, Result.andThen_ok, Sem.run_pure, Oper.upon]
    exact hK c' .und h' w' undef E W' (by simp [VRel]) hk
  case nilCheck x =>
    obtain ⟨hk, hu⟩ := pNil_sound W (F.ev x) H
    refine wp_of_does (s := pure (a.eval x)) (K := K) (B := B) (c := c) ?_ (Does.pure_ W (by simp) (F.ev x) hk) hK
    rcases hu with ⟨b, hb⟩ | ⟨f, p, q, hb⟩ <;> simp only [execOp, ho, hb] <;> rfl
  case binOp op t x y t2 =>
    cases hr : binA (cmpK P t) op (aEv fr x) (aEv fr y) with
    | none => simp [hr] at H
    | some r =>
      simp only [hr, obind_some] at H
      obtain ⟨z, hz, hrz⟩ := binA_sound (xo := x) (yo := y) rfl (F.ev x) (F.ev y) hr
      exact wp_of_does (by simp only [execOp, ho]) (Does.pure_ W hz hrz H) hK
  case unOp op t x =>
    cases hr : unA op (aEv fr x) with
    | none => simp [hr] at H
    | some r =>
      simp only [hr, obind_some] at H
      obtain ⟨z, hz, hrz⟩ := unA_sound (P := P) (F.ev x) hr
      exact wp_of_does (by simp only [execOp, ho]) (Does.pure_ W hz hrz H) hK
  case convert s d x =>
    split at H <;> (try (exact H.elim))
    rename_i k hk
    exact wp_of_does (by simp only [execOp, ho]) (pConv_sound W hk (F.ev x) H) hK
  case makeSlice t l k =>
    split at H <;> (try (exact H.elim))
    rename_i T hT
    split at H <;> (try (exact H.elim))
    rename_i z hz
    exact wp_of_does (by simp only [execOp, ho]) (pMakeSl_sound W hT hz (F.ev l) (F.ev k) H) hK
  case slice t x lo hi mx =>
    cases mx with
    | some m => exact H.elim
    | none =>
      simp only at H
      split at H <;> (try (exact H.elim))
      · rename_i ht
        exact wp_of_does (by simp only [execOp, ho, Option.map_none]) (pSliceStr_sound W ht (F.ev x) (F.opt lo) (F.opt hi) H) hK
      · rename_i e ht
        split at H <;> (try (exact H.elim))
        rename_i n hn
        exact wp_of_does (by simp only [execOp, ho, Option.map_none]) (pSliceSl_sound W ht hn (F.ev x) (F.opt lo) (F.opt hi) H) hK
  case fieldAddr t x f =>
    split at H <;> (try (exact H.elim))
    rename_i off hoff
    exact wp_of_does (by simp only [execOp, ho]) (pFieldAddr_sound W hoff (F.ev x) H) hK
  case field t x f =>
    split at H <;> (try (exact H.elim))
    rename_i off k hk
    exact wp_of_does (by simp only [execOp, ho]) (pField_sound W hk (F.ev x) H) hK
  case indexAddr t x i =>
    split at H <;> (try (exact H.elim))
    rename_i k hk
    exact wp_of_does (by simp only [execOp, ho]) (pIndexAddr_sound W hk (F.ev x) (F.ev i) H) hK
  case index t x i =>
    split at H <;> (try (exact H.elim))
    rename_i ht
    exact wp_of_does (by simp only [execOp, ho]) (pIndexStr_sound W ht (F.ev x) (F.ev i) H) hK
  case extract x i => exact wp_of_does (by simp only [execOp, ho]) (pExtract_sound W (F.ev x) H) hK
  case makeFunc f first cap =>
    refine wp_of_does (s := pure (.func f (first.map a.eval) (cap.map a.eval))) (K := K) (B := B) (c := c) ?_ (Does.pure_ W rfl ?_ H) hK
    · simp only [execOp, ho, Instr.makeFunc]
    · simp only [VRel]
      exact ⟨_, _, rfl, by simpa using F.list first.toList, by simpa using F.list cap.toList⟩
  case makeInterface t x =>
    obtain ⟨hi, H⟩ := H
    unfold isIface at hi
    cases hd : P.underlying t with
    | none => simp [hd] at hi
    | some d =>
      refine wp_of_does (s := Instr.makeInterface t (a.eval x)) (K := K) (B := B) (c := c) (by simp only [execOp, ho]) (Does.pure_ W (u := .iface t (a.eval x)) ?_ ?_ H) hK
      · rw [hd] at hi
        cases d <;> simp [Instr.makeInterface, run_underlying hd] <;> simp at hi
      · simp only [VRel]; exact ⟨_, rfl, F.ev x⟩
  case call q =>
    cases hq : q.callee with
    | invoke r m => simp [hq] at H
    | builtin b =>
      simp only [hq] at H
      have hargs := F.list q.args.toList
      unfold wpBuiltin at H
      split at H <;> (try (exact H.elim))
      · rename_i t u s x hts hxs
        split at H <;> (try (exact H.elim))
        rename_i T hT
        obtain ⟨hsrc, H⟩ := H
        obtain ⟨so, xo, hso⟩ : ∃ so xo, q.args = #[so, xo] := by
          have : q.args.toList.length = 2 := by have := congrArg List.length hxs; simpa using this
          match hh : q.args.toList, this with
          | [so, xo], _ => exact ⟨so, xo, by rw [← Array.toArray_toList (xs := q.args), hh]⟩
        have hta : q.argTypes = #[t, u] := by rw [← Array.toArray_toList (xs := q.argTypes), hts]
        rw [hso] at hxs
        simp at hxs
        refine wp_of_doesR (s := Builtin.append_ #[t, u] o.type #[a.eval so, a.eval xo]) (K := K) (B := B) (c := c) ?_ (pAppend_sound W hT hsrc (hxs.1 ▸ F.ev so) (hxs.2 ▸ F.ev xo) H) hK
        unfold execOp
        simp only [ho, resolve, hq, hso, hta, invoke, builtin, Sem.run_bind, Sem.run_pure, Result.andThen_ok, List.map_toArray, List.map_cons, List.map_nil]
      · rename_i t x hts hxs
        split at H <;> (try (exact H.elim))
        rename_i k hk
        obtain ⟨xo, hso⟩ : ∃ xo, q.args = #[xo] := by
          have : q.args.toList.length = 1 := by have := congrArg List.length hxs; simpa using this
          match hh : q.args.toList, this with
          | [xo], _ => exact ⟨xo, by rw [← Array.toArray_toList (xs := q.args), hh]⟩
        have hta : q.argTypes = #[t] := by rw [← Array.toArray_toList (xs := q.argTypes), hts]
        rw [hso] at hxs
        simp at hxs
        refine wp_of_doesR (s := Builtin.len_ #[t] o.type #[a.eval xo]) (K := K) (B := B) (c := c) ?_ (pLen_sound W hk (hxs ▸ F.ev xo) H) hK
        unfold execOp
        simp only [ho, resolve, hq, hso, hta, invoke, builtin, Sem.run_bind, Sem.run_pure, Result.andThen_ok, List.map_toArray, List.map_cons, List.map_nil]
      · cases hr : maxA (q.args.toList.map (aEv fr)) with
        | none => simp [hr] at H
        | some r =>
          simp only [hr, obind_some] at H
          obtain ⟨z, hz, hrz⟩ := maxA_sound (P := P) _ _ r q.argTypes o.type hargs hr
          have : (q.args.toList.map a.eval).toArray = q.args.map a.eval := by apply Array.ext'; simp
          rw [this] at hz
          refine wp_of_doesR (s := Builtin.max_ q.argTypes o.type (q.args.map a.eval)) (K := K) (B := B) (c := c) ?_ (Does.pure_ W hz hrz H) hK
          unfold execOp
          simp only [ho, resolve, hq, invoke, builtin, Sem.run_bind, Sem.run_pure, Result.andThen_ok]
      · cases hr : minA (q.args.toList.map (aEv fr)) with
        | none => simp [hr] at H
        | some r =>
          simp only [hr, obind_some] at H
          obtain ⟨z, hz, hrz⟩ := minA_sound (P := P) _ _ r q.argTypes o.type hargs hr
          have : (q.args.toList.map a.eval).toArray = q.args.map a.eval := by apply Array.ext'; simp
          rw [this] at hz
          refine wp_of_doesR (s := Builtin.min_ q.argTypes o.type (q.args.map a.eval)) (K := K) (B := B) (c := c) ?_ (Does.pure_ W hz hrz H) hK
          unfold execOp
          simp only [ho, resolve, hq, invoke, builtin, Sem.run_bind, Sem.run_pure, Result.andThen_ok]
    | value f =>
      have main : ∀ (g : FuncId) (first cap : List AV), VRel c w (.fn (.func g) first cap) (a.eval f) → CallsA P g (first ++ q.args.toList.map (aEv fr) ++ cap) h K → o.wp P a w next Q := by
        intro g first cap hfv H
        simp only [VRel] at hfv
        obtain ⟨fs, cs, hfe, hfirst, hcap⟩ := hfv
        have hargs := F.list q.args.toList
        rcases H with H | H
        case inr =>
          obtain ⟨c', u, v, h', w', hr, E, W', hv, hk⟩ := H B c w (fs.toList ++ q.args.toList.map a.eval ++ cs.toList) W ((hfirst.append hargs).append hcap)
          have hta : (fs.toList ++ q.args.toList.map a.eval ++ cs.toList).toArray = fs ++ q.args.map a.eval ++ cs := by
            apply Array.ext'; simp
          rw [hta] at hr
          have he : (execOp a.eval o).run P w = .ok (.value u) w' := by
            simp only [execOp, ho, resolve, hq, hfe, Deferred.ofValue, Sem.run_bind, Sem.run_pure, Result.andThen_ok, invoke]
            exact hr
          unfold Oper.wp
          rw [he]
          simp only [Oper.upon]
          exact hK c' v h' w' u E W' hv hk
        obtain ⟨hcall, H⟩ := H
        have HC := H B c w (fs.toList ++ q.args.toList.map a.eval ++ cs.toList) W ((hfirst.append hargs).append hcap)
        have he : (execOp a.eval o).run P w = .ok (.enter g (fs ++ q.args.map a.eval ++ cs)) w := by
          simp only [execOp, ho, resolve, hq, hfe, Deferred.ofValue, Sem.run_bind, Sem.run_pure, Result.andThen_ok, invoke]
          exact hcall _ _
        unfold Oper.wp
        rw [he]
        simp only [Oper.upon]
        have hta : (fs.toList ++ q.args.toList.map a.eval ++ cs.toList).toArray = fs ++ q.args.map a.eval ++ cs := by
          apply Array.ext'; simp
        rw [hta] at HC
        refine HC.mono ?_
        rintro e w' ⟨c', u, v, h', rfl, E, W', hv, hk⟩
        exact hK c' v h' w' u E W' hv hk
      have viaF : pCallF P (aEv fr f) (q.args.toList.map (aEv fr)) h K → o.wp P a w next Q := by
        intro H
        unfold pCallF at H
        split at H <;> (try (exact H.elim))
        rename_i g first cap hf
        exact main g first cap (hf ▸ F.ev f) H
      cases f with
      | func g =>
        simp only [hq] at H
        exact main g [] [] (F.ev (.func g)) (by simpa using H)
      | tmp t => simp only [hq] at H; exact viaF H
      | const v => simp only [hq] at H; exact viaF H
      | global v => simp only [hq] at H; exact viaF H

theorem nanB_of (k : FloatKind) (a b t : Nat) : nanB k ((Question.nanBits k a b).cut t) := by
  cases k
  · exact ⟨t % 2, (t / 2) % (2 ^ 23 - 1), Nat.mod_lt _ (by omega), Nat.mod_lt _ (by decide), rfl⟩
  · exact ⟨t % 2, (t / 2) % (2 ^ 52 - 1), Nat.mod_lt _ (by omega), Nat.mod_lt _ (by decide), rfl⟩

theorem wpOpF_sound {N : Nat} {by_ : Bool} {o : Oper} {fr : Fr} {a : Act} {K : AV → AHeap → Prop} {next : Act → World → Prop} {Q : Exit → Act → World → Prop} (W : WRel B c h w) (F : FrRel N c w fr a)
    (H : wpOpF P by_ o.op (aEv fr) h K) (hK : Then B c w a o.dst K next) : o.wp P a w next Q := by
  unfold wpOpF at H
  split at H
  · rename_i op t x y t2 ho
    split at H
    · rename_i har
      split at H
      · rename_i k hk
        have hx := F.ev x
        have hy := F.ev y
        unfold pFArith at H
        split at H <;> (try (exact H.elim))
        rename_i k1 a1 k2 b1 hxe hye
        rw [hxe] at hx
        rw [hye] at hy
        simp only [VRel] at hx hy
        obtain ⟨rfl, h2, H⟩ := H
        subst h2
        have hg := run_guard_plain (P := P) (w := w) op t x y (.float k2 a1) (.float k2 b1) (by simp) (by simp)
        have he : execOp a.eval o = (do pure (.value (← (do eqGuard op t x y (a.eval x) (a.eval y); binOp op t (a.eval x) (a.eval y) : Sem Value)))) := by
          simp only [execOp, ho]
        refine wp_of_does (K := K) (B := B) (c := c) he ?_ hK
        rw [hx, hy]
        split at H
        · rename_i r hr
          refine Does.pure_ W (u := .float k2 r) ?_ ?_ H
          · rw [Sem.run_bind, hg]; exact run_float_arith w op t k2 a1 b1 r hr
          · simp [VRel]
        · rename_i hr
          have hn := nanB_of k2 a1 b1 (w.tape w.drawn (.nanBits k2 a1 b1))
          refine ⟨c, .float k2 ((Question.nanBits k2 a1 b1).cut (w.tape w.drawn (.nanBits k2 a1 b1))), .flt k2 ((Question.nanBits k2 a1 b1).cut (w.tape w.drawn (.nanBits k2 a1 b1))), h, w.drew, ?_, Ext.drew B c w, W.drew, by simp [VRel], H _ hn⟩
          rw [Sem.run_bind, hg]
          have hb : (binOp op t (.float k2 a1) (.float k2 b1)).run P w = ((choose (.nanBits k2 a1 b1)).run P w).andThen fun n w' => .ok (.float k2 n) w' := by
            cases op <;> simp only [arithOp, Bool.false_eq_true] at har <;> simp only [floatBits] at hr <;> simp [binOp, Op.floatArith, hr]
          simp only [Result.andThen_ok, hb]
          rw [run_choose_drew]
          simp [Question.forced]
      · exact wpOp_sound (by_ := by_) W F (by rw [ho]; exact H) hK
    · exact wpOp_sound (by_ := by_) W F (by rw [ho]; exact H) hK
  · exact wpOp_sound W F H hK

end
end Go.Abs
