/- Operations, regions, code: what is to be shown, computed; and that it suffices. -/
import Derived.Test.YtopfjochppdnfaaDoorAbsPrim3
import Derived.Laws.FloatArith
import Derived.Laws.NewFold
set_option linter.unusedVariables false
set_option linter.unusedSimpArgs false
namespace Go.Abs
open Go.RowKit

abbrev Fr := Nat → AV
noncomputable def upd (fr : Fr) (d : Nat) (v : AV) : Fr := fun i => Bool.rec (fr i) v (Nat.beq i d)
noncomputable def updO (fr : Fr) (d : Option Nat) (v : AV) : Fr := Option.rec fr (fun d => upd fr d v) d
theorem upd_eq (fr : Fr) (d : Nat) (v : AV) (i : Nat) : upd fr d v i = if i = d then v else fr i := by
  unfold upd
  by_cases h : i = d
  · rw [if_pos h, show Nat.beq i d = true from by simp [h]]
  · rw [if_neg h]
    cases hb : Nat.beq i d with
    | true => exact absurd (Nat.eq_of_beq_eq_true hb) h
    | false => rfl
@[simp] theorem updO_some (fr : Fr) (d : Nat) (v : AV) : updO fr (some d) v = upd fr d v := rfl
@[simp] theorem updO_none (fr : Fr) (v : AV) : updO fr none v = fr := rfl
def aEv (fr : Fr) : Operand → AV
  | .tmp t => fr t
  | .const v => ofConst v
  | .func f => .fn (.func f) [] []
  | .global g => .iptr (Globs g)

/-- The frame: as many slots; each related; what is deferred. -/
def FrRel (N : Nat) (ds : List Deferred) (c : Ctx) (w : World) (fr : Fr) (a : Act) : Prop := a.tmps.size = N ∧ a.defers = ds ∧ ∀ i, VRel c w (fr i) (a.tmps.getD i undef)

inductive AExit | normal | exit (id : Nat) | ret
def AExit.toExit : AExit → Exit | .normal => .normal | .exit id => .exit id | .ret => .ret

/-- What a loop over a function leaves among the deferred calls. -/
def mark (D : Nat) : Deferred := { target := .collected D, args := #[] }
structure Marks (w w' : World) (Ds : List Nat) : Prop where
  nd : Ds.Nodup
  all : ∀ D ∈ Ds, w.heap.size ≤ D ∧ Dfr w' D
theorem Marks.nil (w w' : World) : Marks w w' [] := ⟨List.nodup_nil, by simp⟩
theorem Dfr.lt {w : World} {b : Nat} (h : Dfr w b) : b < w.heap.size := (Array.getElem?_eq_some_iff.1 h).1
theorem Marks.more {w w' w'' : World} {Ds Es : List Nat} (h : Marks w w' Ds) (k : Marks w' w'' Es) (hs : w.heap.size ≤ w'.heap.size) (ho : ∀ b, Dfr w' b → Dfr w'' b) : Marks w w'' (Es ++ Ds) := by
  refine ⟨List.nodup_append.2 ⟨k.nd, h.nd, fun x hx y hy e => ?_⟩, fun D hD => ?_⟩
  · subst e
    have h1 := (k.all _ hx).1
    have h2 := (h.all _ hy).2.lt
    omega
  · rcases List.mem_append.1 hD with hD | hD
    · exact ⟨Nat.le_trans hs (k.all D hD).1, (k.all D hD).2⟩
    · exact ⟨(h.all D hD).1, ho D (h.all D hD).2⟩
theorem Marks.ahead {w w' w'' : World} {Es : List Nat} (k : Marks w' w'' Es) (hs : w.heap.size ≤ w'.heap.size) : Marks w w'' Es := ⟨k.nd, fun D hD => ⟨Nat.le_trans hs (k.all D hD).1, (k.all D hD).2⟩⟩

/-- What holds behind a piece of code, of the machine. -/
def PostA (B N : Nat) (ds : List Deferred) (c : Ctx) (w : World) (Q : AExit → Fr → AHeap → Prop) : Exit → Act → World → Prop := fun e a' w' =>
  ∃ Ds c' fr' h' ae, AExit.toExit ae = e ∧ Ext B c w c' w' ∧ WRel B c' h' w' ∧ FrRel N (Ds.map mark ++ ds) c' w' fr' a' ∧ Marks w w' Ds ∧ Q ae fr' h'

/-- No fence, in a loop's round or in none. -/
def wideR (ro : Option Nat) : Fence := { Fence.wide with round := ro }
theorem room_wideR (ro : Option Nat) (n : Nat) : (wideR ro).room n := room_wide n
theorem callsIn_wideR {ro : Option Nat} {n : Nat} {P : Program} {f : FuncId} {args : Array Value} {w : World} {R : Ending → World → Prop} : CallsIn (wideR ro) n P f args w R ↔ Calls P f args w R := callsIn_wide (n := n) (P := P) (f := f) (args := args) (w := w) (R := R)

/-- No loop over a function within. -/
def noRF : Code → Bool
  | .rangeFunc .. => false
  | .seq a b => noRF a && noRF b
  | .cond _ a b => noRF a && noRF b
  | .block _ b => noRF b
  | .loop b => noRF b
  | .scope b => noRF b
  | _ => true

/-- A piece of code does what is asked of it, whatever the machine's memory; in a round, too, if it holds no loop over a function. -/
def WP (P : Program) (N : Nat) (code : Code) (fr : Fr) (h : AHeap) (Q : AExit → Fr → AHeap → Prop) : Prop :=
  ∀ ro ds B c w a, (ro = none ∨ noRF code = true) → WRel B c h w → FrRel N ds c w fr a → code.wpIn (wideR ro) 0 P (PostA B N ds c w Q) a w

/-- What holds behind a piece of code, by how it was left. -/
def exitQ (n : Fr → AHeap → Prop) (x : Nat → Fr → AHeap → Prop) (r : Fr → AHeap → Prop) : AExit → Fr → AHeap → Prop := fun e fr h =>
  match e with
  | .normal => n fr h
  | .exit id => x id fr h
  | .ret => r fr h

/-- A call of a function answers so, whatever the machine's memory: its abstract contract. -/
def CallsE (P : Program) (f : FuncId) (args : List AV) (h : AHeap) (R : AV → AHeap → Prop) : Prop :=
  (∀ as w, (callFunc f as).run P w = .ok (.enter f as) w) ∧
  ∀ B c w vs, WRel B c h w → LRel c w args vs → Calls P f vs.toArray w (fun e w' => ∃ c' u v h', e = .returned u ∧ Ext B c w c' w' ∧ WRel B c' h' w' ∧ VRel c' w' v u ∧ R v h')

/-- A call of a function without a body. -/
def ExtA (P : Program) (f : FuncId) (args : List AV) (h : AHeap) (R : AV → AHeap → Prop) : Prop :=
  ∀ B c w vs, WRel B c h w → LRel c w args vs → ∃ c' u v h' w', (callFunc f vs.toArray).run P w = .ok (.value u) w' ∧ Ext B c w c' w' ∧ WRel B c' h' w' ∧ VRel c' w' v u ∧ R v h'
def CallsA (P : Program) (f : FuncId) (args : List AV) (h : AHeap) (R : AV → AHeap → Prop) : Prop := CallsE P f args h R ∨ ExtA P f args h R

theorem CallsA.mono {P : Program} {f : FuncId} {args : List AV} {h : AHeap} {R R' : AV → AHeap → Prop} (H : CallsA P f args h R) (hr : ∀ v h', R v h' → R' v h') : CallsA P f args h R' := by
  rcases H with H | H
  · exact Or.inl ⟨H.1, fun B c w vs W L => (H.2 B c w vs W L).mono fun e w' ⟨c', u, v, h', a, b, d, e', g⟩ => ⟨c', u, v, h', a, b, d, e', hr _ _ g⟩⟩
  · refine Or.inr fun B c w vs W L => ?_
    obtain ⟨c', u, v, h', w', a, b, d, e', g⟩ := H B c w vs W L
    exact ⟨c', u, v, h', w', a, b, d, e', hr _ _ g⟩

/-- A loop's parameters get values. -/
noncomputable def setPs : List Tmp → List AV → Fr → Fr
  | p :: ps, x :: xs, fr => setPs ps xs (upd fr p x)
  | _, _, fr => fr

/-- A round of the loop whose record is this object: its body does what is asked. -/
def YieldW (P : Program) (id : Nat) (args : List AV) (h : AHeap) (K : AV → AHeap → Prop) : Prop :=
  ∃ N ps asn bd fr, h.objs id = some (.loop .ready none N ps asn bd fr) ∧ args.length = ps.size ∧ (ps.toList.all fun p => Nat.blt p N) = true ∧ noRF asn = true ∧ noRF bd = true ∧
    WP P N asn (setPs ps.toList args fr) h (exitQ (fun fr1 h1 => h1.objs id = some (.loop .ready none N ps asn bd fr) ∧
      WP P N bd fr1 (h1.put id (.loop .busy none N ps asn bd fr)) (exitQ
        (fun _ h2 => h2.objs id = some (.loop .busy none N ps asn bd fr) ∧ K (.bool true) (h2.put id (.loop .ready none N ps asn bd fr)))
        (fun e _ h2 => h2.objs id = some (.loop .busy none N ps asn bd fr) ∧ K (.bool false) (h2.put id (.loop .done (some (.exit e)) N ps asn bd fr)))
        (fun _ h2 => h2.objs id = some (.loop .busy none N ps asn bd fr) ∧ K (.bool false) (h2.put id (.loop .done (some .ret) N ps asn bd fr)))))
      (fun _ _ _ => False) (fun _ _ => False))

/-- A call of a value. -/
def pCallF (P : Program) (f : AV) (args : List AV) (h : AHeap) (K : AV → AHeap → Prop) : Prop :=
  match f with
  | .fn (.func g) first cap => CallsA P g (first ++ args ++ cap) h K
  | .yld id => YieldW P id args h K
  | _ => False

def pPick (q x y : AV) (K : AV → Prop) : Prop := match q with | .bool t => K (if t then x else y) | _ => False
def pGuard (v : AV) (want : Bool) (T F : Prop) : Prop := match v with | .bool b => if b = want then T else F | .unkb => T ∧ F | .tup [] => F | _ => False
/-- What follows stands once. -/
def pJoin (body : (List AV → AHeap → Prop) → Prop) (k : List AV → AHeap → Prop) : Prop := body k
def nth (vs : List AV) (i : Nat) : AV := (vs[i]?).getD .und

/-- A builtin. -/
def wpBuiltin (P : Program) (by_ : Bool) (b : Builtin) (ts : List TypeId) (xs : List AV) (h : AHeap) (K : AV → AHeap → Prop) : Prop :=
  match b, ts, xs with
  | .append, [t, u], [s, x] => match slT P t with | some T => srcT P u = true ∧ pAppend by_ T s x h K | none => False
  | .len, [t], [x] => match lenK P t with | some k => pLen k x (fun v => K v h) | none => False
  | .max, _, xs => obind (maxA xs) (fun v => K v h)
  | .min, _, xs => obind (minA xs) (fun v => K v h)
  | _, _, _ => False

def isIface (P : Program) (t : TypeId) : Bool := match P.underlying t with | some (.interface _) => true | some _ => false | none => true

/-- One operation. 'by_': what it makes is read-only from now on, by value. -/
def wpOp (P : Program) (by_ : Bool) (o : Op) (ev : Operand → AV) (h : AHeap) (K : AV → AHeap → Prop) : Prop :=
  match o with
  | .move x => K (ev x) h
  | .assign x => K (ev x) h
  | .pick q x y => pPick (ev q) (ev x) (ev y) (fun v => K v h)
  | .alloc t => match zeroK P t with | some z => pAlloc t z h K | none => False
  | .box t x => pBox by_ t (ev x) h K
  | .build t parts => match placesK P t, zeroK P t with
    | some pl, some z => pBuild pl z (parts.toList.map fun p => (p.1, ev p.2)) (fun v => K v h)
    | _, _ => False
  | .buildSlice t len parts => match slT P t with
    | some T => match zeroK P T.e with
      | some z => (len = 0 → parts.toList = []) ∧ pBuildSl by_ T z len (parts.toList.map fun p => (p.1, ev p.2)) h K
      | none => False
    | none => False
  | .load t x => match ldK P t with | some k => pLoad k (ev x) h (fun v => K v h) | none => False
  | .store t a v => match szK P t with | some n => pStore n (ev a) (ev v) h (fun h' => K .und h') | none => False
  | .nilCheck x => pNil (ev x) (fun v => K v h)
  | .binOp op t x y _ => obind (binA (cmpK P t) op (ev x) (ev y)) (fun v => K v h)
  | .unOp op _ x => obind (unA op (ev x)) (fun v => K v h)
  | .convert s d x => match convK P s d with | some ck => pConv ck (ev x) h (fun v => K v h) | none => False
  | .makeSlice t l k => match slT P t with
    | some T => match zeroK P T.e with
      | some z => pMakeSl T z (ev l) (ev k) h K
      | none => False
    | none => False
  | .slice t x lo hi mx => match mx with
    | some _ => False
    | none => match P.underlying t with
      | some .string => pSliceStr (ev x) (lo.map ev) (hi.map ev) (fun v => K v h)
      | some (.slice e) => match szK P e with | some n => pSliceSl n (ev x) (lo.map ev) (hi.map ev) (fun v => K v h) | none => False
      | _ => False
  | .fieldAddr t x f => match fadK P t f with | some off => pFieldAddr off (ev x) (fun v => K v h) | none => False
  | .field t x f => match fldK P t f with | some (off, k) => pField off k (ev x) (fun v => K v h) | none => False
  | .indexAddr t x i => match ixK P t with | some ik => pIndexAddr ik (ev x) (ev i) (fun v => K v h) | none => False
  | .index t x i => match P.underlying t with | some .string => pIndexStr (ev x) (ev i) (fun v => K v h) | _ => False
  | .extract x i => pExtract i (ev x) (fun v => K v h)
  | .makeFunc f first cap => K (.fn f (first.toList.map ev) (cap.toList.map ev)) h
  | .makeInterface t x => isIface P t = false ∧ K (.ifc t (ev x)) h
  | .call q => match q.callee with
    | .builtin b => wpBuiltin P by_ b q.argTypes.toList (q.args.toList.map ev) h K
    | .value (.func g) => CallsA P g (q.args.toList.map ev) h K
    | .value f => pCallF P (ev f) (q.args.toList.map ev) h K
    | _ => False
  | _ => False

/-- The bits of what is no number. -/
def nanB : FloatKind → Nat → Prop
  | .f32, b => ∃ s f, s < 2 ∧ f < 8388607 ∧ b = s * 2147483648 + 2139095040 + 1 + f
  | .f64, b => ∃ s f, s < 2 ∧ f < 4503599627370495 ∧ b = s * 9223372036854775808 + 9218868437227405312 + 1 + f

/-- A sum, a difference, a product, a quotient of floats. -/
def pFArith (k : FloatKind) (op : BinOp) (x y : AV) (h : AHeap) (K : AV → AHeap → Prop) : Prop :=
  match x, y with
  | .flt k1 a, .flt k2 b => k1 = k ∧ k2 = k ∧ (match floatBits op k a b with | some r => K (.flt k r) h | none => ∀ r, nanB k r → K (.flt k r) h)
  | _, _ => False
def arithOp : BinOp → Bool | .add | .sub | .mul | .quo => true | _ => false
def fltK (P : Program) (t : TypeId) : Option FloatKind := match P.underlying t with | some (.float k) => some k | _ => none
def wpOpF (P : Program) (by_ : Bool) (o : Op) (ev : Operand → AV) (h : AHeap) (K : AV → AHeap → Prop) : Prop :=
  match o with
  | .binOp op t x y t2 => match arithOp op with
    | true => match fltK P t with
      | some k => pFArith k op (ev x) (ev y) h K
      | none => wpOp P by_ (.binOp op t x y t2) ev h K
    | false => wpOp P by_ (.binOp op t x y t2) ev h K
  | o => wpOp P by_ o ev h K

def byO (ch : Nat → Bool) (d : Option Nat) : Bool := match d with | some d => ch d | none => false

/-- Operations under one guard, together. -/
def splitG : List Oper → List (Option (Nat × Bool) × List Oper)
  | [] => []
  | o :: r => match o.guard, splitG r with
    | some g, (some g', l) :: gs => if g = g' then (some g, o :: l) :: gs else (some g, [o]) :: (some g', l) :: gs
    | g, gs => (g, [o]) :: gs

noncomputable def updN (fr : Fr) : List Oper → Nat → List AV → Fr
  | [], _, _ => fr
  | o :: l, n, vs => updN (updO fr o.dst (nth vs n)) l (n + 1) vs

/-- Operations one behind the other; k gets what they make. -/
def wpVals (P : Program) (ch : Nat → Bool) : List Oper → (List AV → AHeap → Prop) → Fr → AHeap → Prop
  | [], k, _, h => k [] h
  | o :: l, k, fr, h => wpOpF P (byO ch o.dst) o.op (aEv fr) h (fun v h' => wpVals P ch l (fun vs h2 => k (v :: vs) h2) (updO fr o.dst v) h')

def wpRun (P : Program) (ch : Nat → Bool) (Q : Fr → AHeap → Prop) : List Oper → Fr → AHeap → Prop
  | [], fr, h => Q fr h
  | o :: l, fr, h => wpOpF P (byO ch o.dst) o.op (aEv fr) h (fun v h' => wpRun P ch Q l (updO fr o.dst v) h')

/-- Values by which the frame is known from here on. -/
def pChunk (vs : List AV) (K : List AV → Prop) : Prop := K vs
noncomputable def frN : List Nat → Nat → List AV → Fr
  | [], _, _ => fun _ => .und
  | k :: L, n, vs => fun i => Bool.rec (frN L (n + 1) vs i) (nth vs n) (Nat.beq i k)
def wpSp (o : Option (List Nat)) (fr : Fr) (K : Fr → Prop) : Prop := match o with | none => K fr | some L => pChunk (L.map fr) (fun vs => K (frN L 0 vs))

theorem frN_spec (fr : Fr) (pre : List AV) : ∀ (L : List Nat) (i : Nat), frN L pre.length (pre ++ L.map fr) i = .und ∨ frN L pre.length (pre ++ L.map fr) i = fr i := by
  intro L
  induction L generalizing pre with
  | nil => intro i; exact Or.inl rfl
  | cons k L ih =>
    intro i
    simp only [frN]
    cases hb : Nat.beq i k with
    | true =>
      have e := Nat.eq_of_beq_eq_true hb
      subst e
      right
      simp [nth]
    | false =>
      have := ih (pre ++ [fr k]) i
      simpa using this

/-- A region's operations, group by group. -/
def wpGs (P : Program) (ch : Nat → Bool) (ops : Array Oper) (sp : Nat → Option (List Nat)) (Q : Fr → AHeap → Prop) : Nat → List (Option (Nat × Bool) × List Oper) → Fr → AHeap → Prop
  | _, [], fr, h => Q fr h
  | n, (none, l) :: gs, fr, h => wpRun P ch (fun fr' h' => wpSp (sp n) fr' (fun fr2 => wpGs P ch ops sp Q (n + 1) gs fr2 h')) l fr h
  | n, (some (j, want), l) :: gs, fr, h => match (ops[j]?).bind (·.dst) with
    | some d => match l.all (fun o => o.dst != some d) with
      | true => pJoin (fun k => pGuard (fr d) want (wpVals P ch l k fr h) (k (l.map fun _ => .tup []) h)) (fun vs h' => wpSp (sp n) (updN fr l 0 vs) (fun fr2 => wpGs P ch ops sp Q (n + 1) gs fr2 h'))
      | false => False
    | none => False

def wpOps (P : Program) (ch : Nat → Bool) (ops : Array Oper) (sp : Nat → Option (List Nat)) (Q : Fr → AHeap → Prop) (l : List Oper) (fr : Fr) (h : AHeap) : Prop := wpGs P ch ops sp Q 0 (splitG l) fr h

section
variable {P : Program} {B : Nat} {c : Ctx} {h : AHeap} {w : World} {ds : List Deferred}


theorem FrRel.sp {N : Nat} {fr : Fr} {a : Act} (F : FrRel N ds c w fr a) {o : Option (List Nat)} {K : Fr → Prop} (H : wpSp o fr K) : ∃ fr2, FrRel N ds c w fr2 a ∧ K fr2 := by
  cases o with
  | none => exact ⟨fr, F, H⟩
  | some L =>
    refine ⟨_, ⟨F.1, F.2.1, fun i => ?_⟩, H⟩
    rcases frN_spec fr [] L i with e | e
    · simp only [List.length_nil, List.nil_append] at e; rw [e]; simp [VRel]
    · simp only [List.length_nil, List.nil_append] at e; rw [e]; exact F.2.2 i

theorem FrRel.mono {N : Nat} {c' : Ctx} {w' : World} {fr : Fr} {a : Act} (F : FrRel N ds c w fr a) (E : Ext B c w c' w') : FrRel N ds c' w' fr a := ⟨F.1, F.2.1, fun i => VRel.mono E (F.2.2 i)⟩

theorem FrRel.ev {N : Nat} {fr : Fr} {a : Act} (F : FrRel N ds c w fr a) (G : GlR c w) (x : Operand) : VRel c w (aEv fr x) (a.eval x) := by
  cases x with
  | tmp t => exact F.2.2 t
  | const v => exact ofConst_rel c w v
  | func f => simp only [aEv, Act.eval, VRel]; exact ⟨#[], #[], rfl, rfl, rfl⟩
  | global g => simp only [aEv, Act.eval, VRel]; exact ⟨g, 0, rfl, G g⟩

theorem FrRel.put {N : Nat} {fr : Fr} {a : Act} {d : Option Nat} {v : AV} {u : Value} (F : FrRel N ds c w fr a) (hd : ∀ k, d = some k → k < N) (hv : VRel c w v u) : FrRel N ds c w (updO fr d v) (a.put d u) := by
  cases d with
  | none => exact F
  | some k =>
    have hk := hd k rfl
    refine ⟨by simpa [Act.put] using F.1, by simpa [Act.put] using F.2.1, fun i => ?_⟩
    simp only [updO_some, upd_eq, Act.put]
    by_cases hi : i = k
    · subst hi
      rw [if_pos rfl]
      have : (a.tmps.setIfInBounds i u).getD i undef = u := by
        rw [Array.getD_eq_getD_getElem?, Array.getElem?_setIfInBounds_self_of_lt (by rw [F.1]; exact hk)]; rfl
      rw [this]; exact hv
    · rw [if_neg hi]
      have : (a.tmps.setIfInBounds k u).getD i undef = a.tmps.getD i undef := by
        rw [Array.getD_eq_getD_getElem?, Array.getD_eq_getD_getElem?, Array.getElem?_setIfInBounds_ne (Ne.symm hi)]
      rw [this]; exact F.2.2 i

theorem FrRel.list {N : Nat} {fr : Fr} {a : Act} (F : FrRel N ds c w fr a) (G : GlR c w) (xs : List Operand) : LRel c w (xs.map (aEv fr)) (xs.map a.eval) := by
  induction xs with
  | nil => simp [LRel]
  | cons x xs ih => simp only [List.map_cons, LRel]; exact ⟨_, _, rfl, F.ev G x, ih⟩

theorem FrRel.parts {N : Nat} {fr : Fr} {a : Act} (F : FrRel N ds c w fr a) (G : GlR c w) (ps : List (Nat × Operand)) : PRel c w (ps.map fun p => (p.1, aEv fr p.2)) (ps.map fun p => (p.1, a.eval p.2)) := by
  induction ps with
  | nil => simp [PRel]
  | cons p ps ih => simp only [List.map_cons, PRel]; exact ⟨_, _, rfl, F.ev G p.2, ih⟩

theorem FrRel.opt {N : Nat} {fr : Fr} {a : Act} (F : FrRel N ds c w fr a) (G : GlR c w) (x : Option Operand) : ORelV c w (x.map (aEv fr)) (x.map a.eval) := by
  cases x with
  | none => exact Or.inl ⟨rfl, rfl⟩
  | some x => exact Or.inr ⟨_, _, rfl, rfl, F.ev G x⟩

/-- What is asked behind an operation, of the machine. -/
def Then (B : Nat) (c : Ctx) (w : World) (a : Act) (d : Option Nat) (K : AV → AHeap → Prop) (next : Act → World → Prop) : Prop :=
  ∀ c' v h' w' u, Ext B c w c' w' → WRel B c' h' w' → VRel c' w' v u → K v h' → next (a.put d u) w'

theorem wpR_of {o : Oper} {a : Act} {next : Act → World → Prop} {Q : Exit → Act → World → Prop} {ro : Option Nat} (hnd : ∀ q, o.op ≠ .defer q) (h : o.uponIn (wideR ro) 0 P a next Q ((execOp a.eval o).run P w)) : o.wpIn (wideR ro) 0 P a w next Q := by
  refine ⟨fun _ _ => trivial, ?_⟩
  rw [Oper.semAt_eq _ _ _ hnd]
  exact h

theorem wp_of_does {o : Oper} {a : Act} {K : AV → AHeap → Prop} {next : Act → World → Prop} {Q : Exit → Act → World → Prop} {s : Sem Value} {ro : Option Nat} (hnd : ∀ q, o.op ≠ .defer q) (he : execOp a.eval o = (do pure (.value (← s)))) (D : Does P B c w s K) (hK : Then B c w a o.dst K next) :
    o.wpIn (wideR ro) 0 P a w next Q := by
  obtain ⟨c', u, v, h', w', hr, E, W', hv, hk⟩ := D
  refine wpR_of hnd ?_
  rw [he]
  simp only [Sem.run_bind, hr, Result.andThen_ok, Sem.run_pure, Oper.uponIn]
  exact hK c' v h' w' u E W' hv hk

theorem wp_of_doesR {o : Oper} {a : Act} {K : AV → AHeap → Prop} {next : Act → World → Prop} {Q : Exit → Act → World → Prop} {s : Sem Value} {ro : Option Nat} (hnd : ∀ q, o.op ≠ .defer q) (he : (execOp a.eval o).run P w = (s.run P w).andThen fun v w' => .ok (.value v) w') (D : Does P B c w s K) (hK : Then B c w a o.dst K next) :
    o.wpIn (wideR ro) 0 P a w next Q := by
  obtain ⟨c', u, v, h', w', hr, E, W', hv, hk⟩ := D
  refine wpR_of hnd ?_
  rw [he]
  simp only [hr, Result.andThen_ok, Oper.uponIn]
  exact hK c' v h' w' u E W' hv hk

theorem cell_none {b o : Nat} {L : Loop} (hb : w.heap[b]? = some (.loop L)) : w.cell? ⟨b, o, none⟩ = none := by
  simp [World.cell?, hb]

/-- A loop's record turns. -/
theorem WRel.putLoop (W : WRel B c h w) {id b N : Nat} {st : LoopState} {pe : Option Code} {ps : Array Tmp} {asn bd : Code} {fr : Fr} {L L' : Loop} (hm : c.m id = some b) (ho : h.objs id = some (.loop st pe N ps asn bd fr)) (hL : w.heap[b]? = some (.loop L))
    (e1 : L'.params = L.params) (e2 : L'.assign = L.assign) (e3 : L'.body = L.body) (e4 : L'.tmps = L.tmps) {st' : LoopState} {pe' : Option Code} (e5 : L'.state = st') (e6 : L'.pending = pe') :
    Ext B c w c (w.putObj b (.loop L')) ∧ WRel B c (h.put id (.loop st' pe' N ps asn bd fr)) (w.putObj b (.loop L')) := by
  subst e5 e6
  obtain ⟨L0, g1, g2, g3, g4, g5, g6, g7, g8⟩ := W.obj id b _ hm ho
  rw [hL] at g1
  simp only [Option.some.injEq, Obj.loop.injEq] at g1
  subst g1
  have hbl := W.mlt id b hm
  have hnew : (w.putObj b (.loop L')).heap[b]? = some (.loop L') := World.putObj_heap_same hbl.2.2
  have hold : ∀ k, k ≠ b → (w.putObj b (.loop L')).heap[k]? = w.heap[k]? := fun k hk => World.putObj_heap_other hk
  have E : Ext B c w c (w.putObj b (.loop L')) := by
    refine ⟨⟨fun _ _ x => x, fun _ _ x => x, ⟨rfl, rfl, rfl, by simp, fun k hk => hold k (by omega)⟩, fun k o hk => ?_, fun k ty n hs => ?_⟩, fun k hk => ?_⟩
    · by_cases e : k = b
      · subst e; rw [cell_none hL, cell_none hnew]
      · exact World.cell?_of_block (a := ⟨k, o, none⟩) (hold k e)
    · obtain ⟨C, h1, h2⟩ := hs
      have e : k ≠ b := by rintro rfl; rw [hL] at h1; cases h1
      exact ⟨C, by rw [hold k e, h1], h2⟩
    · have e : k ≠ b := by rintro rfl; unfold Dfr at hk; rw [hL] at hk; cases hk
      unfold Dfr at hk ⊢
      rw [hold k e, hk]
  refine ⟨E, ⟨fun i k hi => ?_, ?_, ?_, fun k o hk => ?_, ?_, ?_, W.gl.mono E⟩⟩
  · have := W.mlt i k hi
    exact ⟨this.1, this.2.1, by simpa using this.2.2⟩
  · intro i j k hi hj h1 h2
    refine W.inj i j k hi hj ?_ ?_
    · simp only [AHeap.put_objs] at h1; split at h1
      · rename_i e; subst e; rw [ho]; simp
      · exact h1
    · simp only [AHeap.put_objs] at h2; split at h2
      · rename_i e; subst e; rw [ho]; simp
      · exact h2
  · intro i k o hi hio
    simp only [AHeap.put_objs] at hio
    split at hio
    · rename_i e
      subst e
      rw [hm] at hi; cases hi
      cases hio
      exact ⟨L', hnew, rfl, rfl, by rw [e1, g4], by rw [e2, g5], by rw [e3, g6], by rw [e4, g7], fun i => by rw [e4]; exact VRel.mono E (g8 i)⟩
    · rename_i e
      have hne : k ≠ b := by
        rintro rfl
        exact e (W.inj i id k hi hm (by rw [hio]; simp) (by rw [ho]; simp))
      exact (W.obj i k o hi hio).keep E (hold k hne) (fun _ y => y)
  · have := W.im k o hk; simpa using this
  · intro i hi
    simp only [AHeap.put_next] at hi
    simp only [AHeap.put_objs]
    split
    · rename_i e; subst e
      have := (W.mlt i b hm).1; omega
    · exact W.fresh i hi
  · simpa using W.base

theorem setPs_rel {N : Nat} : ∀ (ps : List Tmp) (args : List AV) (vs : List Value) (fr : Fr) (T : Array Value), (ps.all fun p => Nat.blt p N) = true → LRel c w args vs → args.length = ps.length → T.size = N → (∀ i, VRel c w (fr i) (T.getD i undef)) →
    ((ps.zip vs).foldl (fun t (p : Tmp × Value) => t.setIfInBounds p.1 p.2) T).size = N ∧ ∀ i, VRel c w (setPs ps args fr i) (((ps.zip vs).foldl (fun t (p : Tmp × Value) => t.setIfInBounds p.1 p.2) T).getD i undef)
  | [], args, vs, fr, T, _, _, hl, hs, hr => by
    have : args = [] := List.eq_nil_of_length_eq_zero (by simpa using hl)
    subst this
    exact ⟨by simpa using hs, by simpa [setPs] using hr⟩
  | p :: ps, [], vs, fr, T, _, _, hl, _, _ => by simp at hl
  | p :: ps, x :: xs, vs, fr, T, hp, hL, hl, hs, hr => by
    simp only [LRel] at hL
    obtain ⟨v, vs', rfl, hv, hL⟩ := hL
    simp only [List.all_cons, Bool.and_eq_true] at hp
    have hpN : p < N := Nat.le_of_ble_eq_true hp.1
    simp only [List.zip_cons_cons, List.foldl_cons, setPs]
    refine setPs_rel ps xs vs' (upd fr p x) (T.setIfInBounds p v) hp.2 hL (by simpa using hl) (by simpa using hs) fun i => ?_
    have := FrRel.put (N := N) (ds := []) (fr := fr) (a := ⟨T, []⟩) (d := some p) (v := x) (u := v) ⟨hs, rfl, hr⟩ (fun k e => by cases e; exact hpN) hv
    exact this.2.2 i

/-- A call of a loop's yield. -/
theorem YieldW.sound (W : WRel B c h w) {id b : Nat} {args : List AV} {vs : Array Value} {K : AV → AHeap → Prop} (hm : c.m id = some b) (hL : LRel c w args vs.toList) (H : YieldW P id args h K) :
    ∃ fn tmps asn bd, (Instr.yield b vs).run P w = .ok (.round b fn tmps asn bd) w ∧ RoundIn Fence.wide 0 P b fn tmps asn bd w (fun e w' => ∃ c' u v h', e = .returned u ∧ Ext B c w c' w' ∧ WRel B c' h' w' ∧ VRel c' w' v u ∧ K v h') := by
  obtain ⟨N, ps, asn, bd, fr, ho, hl, hp, hna, hnb, H⟩ := H
  obtain ⟨L, g1, g2, g3, g4, g5, g6, g7, g8⟩ := W.obj id b _ hm ho
  have hvl := hL.length
  have hsz : vs.size = L.params.size := by rw [g4, ← hl, ← hvl]; simp
  refine ⟨_, _, _, _, run_yield g1 hsz, roundIn_of_wpIn trivial ?_⟩
  have hfold : (L.params.zip vs).foldl (fun tmps (t, a) => tmps.setIfInBounds t a) L.tmps = (ps.toList.zip vs.toList).foldl (fun t (p : Tmp × Value) => t.setIfInBounds p.1 p.2) L.tmps := by
    rw [g4, ← Array.foldl_toList, Array.toList_zip]
  obtain ⟨r1, r2⟩ := setPs_rel (c := c) (w := w) ps.toList args vs.toList fr L.tmps hp hL (by simpa using hl) g7 g8
  rw [hfold, g5, g6]
  refine wpIn_mono (H (some b) [] B c w _ (Or.inr hna) W ⟨r1, rfl, r2⟩) ?_
  rintro e a1 w1 ⟨Ds, c1, fr1, h1, ae, rfl, E1, W1, F1, -, hq⟩
  cases ae with
  | exit id' => exact hq.elim
  | ret => exact hq.elim
  | normal =>
    obtain ⟨ho1, hb⟩ := hq
    have hm1 := E1.m _ _ hm
    obtain ⟨L1, k1, k2, k3, k4, k5, k6, k7, k8⟩ := W1.obj id b _ hm1 ho1
    obtain ⟨E2, W2⟩ := W1.putLoop (L' := { L1 with state := .busy }) hm1 ho1 k1 rfl rfl rfl rfl (st' := .busy) (pe' := none) rfl k3
    refine ⟨_, run_beginRound k1 k2, ?_⟩
    have F2 := F1.mono E2
    refine wpIn_mono (hb (some b) _ B c1 _ a1 (Or.inr hnb) W2 F2) ?_
    rintro e a3 w3 ⟨Ds3, c3, fr3, h3, ae3, rfl, E3, W3, F3, -, hq⟩
    have fin : ∀ (jump : Option Code) (hk : h3.objs id = some (.loop .busy none N ps asn bd fr)) (K3 : K (.bool jump.isNone) (h3.put id (.loop (if jump.isNone then .ready else .done) jump N ps asn bd fr))),
        ∃ v w', (Instr.endRound b jump).run P w3 = .ok v w' ∧ ∃ c' u v' h', Ending.returned v = .returned u ∧ Ext B c w c' w' ∧ WRel B c' h' w' ∧ VRel c' w' v' u ∧ K v' h' := by
      intro jump hk K3
      have hm3 := E3.m _ _ hm1
      obtain ⟨L3, j1, j2, j3, j4, j5, j6, j7, j8⟩ := W3.obj id b _ hm3 hk
      obtain ⟨E4, W4⟩ := W3.putLoop (L' := { L3 with state := if jump.isNone then .ready else .done, pending := jump }) hm3 hk j1 rfl rfl rfl rfl rfl rfl
      exact ⟨_, _, run_endRound jump j1, c3, _, .bool jump.isNone, _, rfl, ((E1.trans E2).trans E3).trans E4, W4, by simp [VRel], K3⟩
    cases ae3 with
    | normal => exact fin none hq.1 hq.2
    | exit id' => exact fin (some (.exit id')) hq.1 hq.2
    | ret => exact fin (some .ret) hq.1 hq.2

theorem wpOp_sound {N : Nat} {ro : Option Nat} {by_ : Bool} {o : Oper} {fr : Fr} {a : Act} {K : AV → AHeap → Prop} {next : Act → World → Prop} {Q : Exit → Act → World → Prop} (W : WRel B c h w) (F : FrRel N ds c w fr a)
    (H : wpOp P by_ o.op (aEv fr) h K) (hK : Then B c w a o.dst K next) : o.wpIn (wideR ro) 0 P a w next Q := by
  have hnd : ∀ q, o.op ≠ .defer q := by intro q e; rw [e] at H; exact H
  cases ho : o.op <;> rw [ho] at H <;> simp only [wpOp] at H <;> (try (exact H.elim))
  case move x =>
    refine wp_of_does hnd (s := pure (a.eval x)) (K := K) (B := B) (c := c) ?_ (Does.pure_ W (by simp) (F.ev W.gl x) H) hK
    simp only [execOp, ho]; rfl
  case assign x =>
    refine wp_of_does hnd (s := pure (a.eval x)) (K := K) (B := B) (c := c) ?_ (Does.pure_ W (by simp) (F.ev W.gl x) H) hK
    simp only [execOp, ho]; rfl
  case pick q x y =>
    unfold pPick at H
    split at H
    · rename_i t ht
      have hq := F.ev W.gl q
      rw [ht] at hq
      have hq' := hq.bool_inv
      refine wp_of_does hnd (s := pure (if t then a.eval x else a.eval y)) (K := K) (B := B) (c := c) ?_ (Does.pure_ W rfl ?_ H) hK
      · simp only [execOp, ho, hq', asBool]; cases t <;> rfl
      · cases t
        · exact F.ev W.gl y
        · exact F.ev W.gl x
    · exact H.elim
  case alloc t =>
    split at H <;> (try (exact H.elim))
    rename_i z hz
    exact wp_of_does hnd (by simp only [execOp, ho]) (pAlloc_sound W hz H) hK
  case box t x => exact wp_of_does hnd (by simp only [execOp, ho]) (pBox_sound W (F.ev W.gl x) H) hK
  case build t parts =>
    split at H <;> (try (exact H.elim))
    rename_i pl z hpl hz
    exact wp_of_does hnd (by simp only [execOp, ho]) (pBuild_sound (vs := parts.map fun (i, x) => (i, a.eval x)) W hpl hz (by simpa using F.parts W.gl parts.toList) H) hK
  case buildSlice t len parts =>
    split at H <;> (try (exact H.elim))
    rename_i T hT
    split at H <;> (try (exact H.elim))
    rename_i z hz
    refine wp_of_does hnd (by simp only [execOp, ho]) (pBuildSl_sound (vs := parts.map fun (i, x) => (i, a.eval x)) W hT hz (fun e => ?_) (by simpa using F.parts W.gl parts.toList) H.2) hK
    have := H.1 e
    simp [this]
  case load t x =>
    split at H <;> (try (exact H.elim))
    rename_i k hk
    exact wp_of_does hnd (by simp only [execOp, ho]) (pLoad_sound W hk (F.ev W.gl x) H) hK
  case store t x y =>
    split at H <;> (try (exact H.elim))
    rename_i n hn
    obtain ⟨c', h', w', hr, E, W', hk⟩ := pStore_sound (P := P) W hn (F.ev W.gl x) (F.ev W.gl y) H
    refine wpR_of hnd ?_
    have he : execOp a.eval o = (do Instr.storeAt t (a.eval x) (a.eval y); pure .skip) := by simp only [execOp, ho]
    rw [he]
    simp only [Sem.run_bind, hr, Result.andThen_ok, Sem.run_pure, Oper.uponIn]
    exact hK c' .und h' w' undef E W' (by simp [VRel]) hk
  case nilCheck x =>
    obtain ⟨hk, hu⟩ := pNil_sound W (F.ev W.gl x) H
    refine wp_of_does hnd (s := pure (a.eval x)) (K := K) (B := B) (c := c) ?_ (Does.pure_ W (by simp) (F.ev W.gl x) hk) hK
    rcases hu with ⟨b, hb⟩ | ⟨f, p, q, hb⟩ <;> simp only [execOp, ho, hb] <;> rfl
  case binOp op t x y t2 =>
    cases hr : binA (cmpK P t) op (aEv fr x) (aEv fr y) with
    | none => simp [hr] at H
    | some r =>
      simp only [hr, obind_some] at H
      obtain ⟨z, hz, hrz⟩ := binA_sound (xo := x) (yo := y) rfl (F.ev W.gl x) (F.ev W.gl y) hr
      exact wp_of_does hnd (by simp only [execOp, ho]) (Does.pure_ W hz hrz H) hK
  case unOp op t x =>
    cases hr : unA op (aEv fr x) with
    | none => simp [hr] at H
    | some r =>
      simp only [hr, obind_some] at H
      obtain ⟨z, hz, hrz⟩ := unA_sound (P := P) (F.ev W.gl x) hr
      exact wp_of_does hnd (by simp only [execOp, ho]) (Does.pure_ W hz hrz H) hK
  case convert s d x =>
    split at H <;> (try (exact H.elim))
    rename_i k hk
    exact wp_of_does hnd (by simp only [execOp, ho]) (pConv_sound W hk (F.ev W.gl x) H) hK
  case makeSlice t l k =>
    split at H <;> (try (exact H.elim))
    rename_i T hT
    split at H <;> (try (exact H.elim))
    rename_i z hz
    exact wp_of_does hnd (by simp only [execOp, ho]) (pMakeSl_sound W hT hz (F.ev W.gl l) (F.ev W.gl k) H) hK
  case slice t x lo hi mx =>
    cases mx with
    | some m => exact H.elim
    | none =>
      simp only at H
      split at H <;> (try (exact H.elim))
      · rename_i ht
        exact wp_of_does hnd (by simp only [execOp, ho, Option.map_none]) (pSliceStr_sound W ht (F.ev W.gl x) (F.opt W.gl lo) (F.opt W.gl hi) H) hK
      · rename_i e ht
        split at H <;> (try (exact H.elim))
        rename_i n hn
        exact wp_of_does hnd (by simp only [execOp, ho, Option.map_none]) (pSliceSl_sound W ht hn (F.ev W.gl x) (F.opt W.gl lo) (F.opt W.gl hi) H) hK
  case fieldAddr t x f =>
    split at H <;> (try (exact H.elim))
    rename_i off hoff
    exact wp_of_does hnd (by simp only [execOp, ho]) (pFieldAddr_sound W hoff (F.ev W.gl x) H) hK
  case field t x f =>
    split at H <;> (try (exact H.elim))
    rename_i off k hk
    exact wp_of_does hnd (by simp only [execOp, ho]) (pField_sound W hk (F.ev W.gl x) H) hK
  case indexAddr t x i =>
    split at H <;> (try (exact H.elim))
    rename_i k hk
    exact wp_of_does hnd (by simp only [execOp, ho]) (pIndexAddr_sound W hk (F.ev W.gl x) (F.ev W.gl i) H) hK
  case index t x i =>
    split at H <;> (try (exact H.elim))
    rename_i ht
    exact wp_of_does hnd (by simp only [execOp, ho]) (pIndexStr_sound W ht (F.ev W.gl x) (F.ev W.gl i) H) hK
  case extract x i => exact wp_of_does hnd (by simp only [execOp, ho]) (pExtract_sound W (F.ev W.gl x) H) hK
  case makeFunc f first cap =>
    refine wp_of_does hnd (s := pure (.func f (first.map a.eval) (cap.map a.eval))) (K := K) (B := B) (c := c) ?_ (Does.pure_ W rfl ?_ H) hK
    · simp only [execOp, ho, Instr.makeFunc]
    · simp only [VRel]
      exact ⟨_, _, rfl, by simpa using F.list W.gl first.toList, by simpa using F.list W.gl cap.toList⟩
  case makeInterface t x =>
    obtain ⟨hi, H⟩ := H
    unfold isIface at hi
    cases hd : P.underlying t with
    | none => simp [hd] at hi
    | some d =>
      refine wp_of_does hnd (s := Instr.makeInterface t (a.eval x)) (K := K) (B := B) (c := c) (by simp only [execOp, ho]) (Does.pure_ W (u := .iface t (a.eval x)) ?_ ?_ H) hK
      · rw [hd] at hi
        cases d <;> simp [Instr.makeInterface, run_underlying hd] <;> simp at hi
      · simp only [VRel]; exact ⟨_, rfl, F.ev W.gl x⟩
  case call q =>
    cases hq : q.callee with
    | invoke r m => simp [hq] at H
    | builtin b =>
      simp only [hq] at H
      have hargs := F.list W.gl q.args.toList
      unfold wpBuiltin at H
      split at H <;> (try (exact H.elim))
      · rename_i t u s x hts hxs
        split at H <;> (try (exact H.elim))
        rename_i T hT
        obtain ⟨hsrc, H⟩ := H
        obtain ⟨so, xo, hso⟩ : ∃ so xo, q.args = #[so, xo] := by
          have : q.args.toList.length = 2 := by have := congrArg List.length hxs; simpa using this
          match hh : q.args.toList, this with
          | [so, xo], _ => exact ⟨so, xo, by rw [← Array.toArray_toList (xs := q.args), hh]⟩
        have hta : q.argTypes = #[t, u] := by rw [← Array.toArray_toList (xs := q.argTypes), hts]
        rw [hso] at hxs
        simp at hxs
        refine wp_of_doesR hnd (s := Builtin.append_ #[t, u] o.type #[a.eval so, a.eval xo]) (K := K) (B := B) (c := c) ?_ (pAppend_sound W hT hsrc (hxs.1 ▸ F.ev W.gl so) (hxs.2 ▸ F.ev W.gl xo) H) hK
        unfold execOp
        simp only [ho, resolve, hq, hso, hta, invoke, builtin, Sem.run_bind, Sem.run_pure, Result.andThen_ok, List.map_toArray, List.map_cons, List.map_nil]
      · rename_i t x hts hxs
        split at H <;> (try (exact H.elim))
        rename_i k hk
        obtain ⟨xo, hso⟩ : ∃ xo, q.args = #[xo] := by
          have : q.args.toList.length = 1 := by have := congrArg List.length hxs; simpa using this
          match hh : q.args.toList, this with
          | [xo], _ => exact ⟨xo, by rw [← Array.toArray_toList (xs := q.args), hh]⟩
        have hta : q.argTypes = #[t] := by rw [← Array.toArray_toList (xs := q.argTypes), hts]
        rw [hso] at hxs
        simp at hxs
        refine wp_of_doesR hnd (s := Builtin.len_ #[t] o.type #[a.eval xo]) (K := K) (B := B) (c := c) ?_ (pLen_sound W hk (hxs ▸ F.ev W.gl xo) H) hK
        unfold execOp
        simp only [ho, resolve, hq, hso, hta, invoke, builtin, Sem.run_bind, Sem.run_pure, Result.andThen_ok, List.map_toArray, List.map_cons, List.map_nil]
      · cases hr : maxA (q.args.toList.map (aEv fr)) with
        | none => simp [hr] at H
        | some r =>
          simp only [hr, obind_some] at H
          obtain ⟨z, hz, hrz⟩ := maxA_sound (P := P) _ _ r q.argTypes o.type hargs hr
          have : (q.args.toList.map a.eval).toArray = q.args.map a.eval := by apply Array.ext'; simp
          rw [this] at hz
          refine wp_of_doesR hnd (s := Builtin.max_ q.argTypes o.type (q.args.map a.eval)) (K := K) (B := B) (c := c) ?_ (Does.pure_ W hz hrz H) hK
          unfold execOp
          simp only [ho, resolve, hq, invoke, builtin, Sem.run_bind, Sem.run_pure, Result.andThen_ok]
      · cases hr : minA (q.args.toList.map (aEv fr)) with
        | none => simp [hr] at H
        | some r =>
          simp only [hr, obind_some] at H
          obtain ⟨z, hz, hrz⟩ := minA_sound (P := P) _ _ r q.argTypes o.type hargs hr
          have : (q.args.toList.map a.eval).toArray = q.args.map a.eval := by apply Array.ext'; simp
          rw [this] at hz
          refine wp_of_doesR hnd (s := Builtin.min_ q.argTypes o.type (q.args.map a.eval)) (K := K) (B := B) (c := c) ?_ (Does.pure_ W hz hrz H) hK
          unfold execOp
          simp only [ho, resolve, hq, invoke, builtin, Sem.run_bind, Sem.run_pure, Result.andThen_ok]
    | value f =>
      have main : ∀ (g : FuncId) (first cap : List AV), VRel c w (.fn (.func g) first cap) (a.eval f) → CallsA P g (first ++ q.args.toList.map (aEv fr) ++ cap) h K → o.wpIn (wideR ro) 0 P a w next Q := by
        intro g first cap hfv H
        simp only [VRel] at hfv
        obtain ⟨fs, cs, hfe, hfirst, hcap⟩ := hfv
        have hargs := F.list W.gl q.args.toList
        rcases H with H | H
        case inr =>
          obtain ⟨c', u, v, h', w', hr, E, W', hv, hk⟩ := H B c w (fs.toList ++ q.args.toList.map a.eval ++ cs.toList) W ((hfirst.append hargs).append hcap)
          have hta : (fs.toList ++ q.args.toList.map a.eval ++ cs.toList).toArray = fs ++ q.args.map a.eval ++ cs := by
            apply Array.ext'; simp
          rw [hta] at hr
          have he : (execOp a.eval o).run P w = .ok (.value u) w' := by
            simp only [execOp, ho, resolve, hq, hfe, Deferred.ofValue, Sem.run_bind, Sem.run_pure, Result.andThen_ok, invoke]
            exact hr
          refine wpR_of hnd ?_
          rw [he]
          simp only [Oper.uponIn]
          exact hK c' v h' w' u E W' hv hk
        obtain ⟨hcall, H⟩ := H
        have HC := H B c w (fs.toList ++ q.args.toList.map a.eval ++ cs.toList) W ((hfirst.append hargs).append hcap)
        have he : (execOp a.eval o).run P w = .ok (.enter g (fs ++ q.args.map a.eval ++ cs)) w := by
          simp only [execOp, ho, resolve, hq, hfe, Deferred.ofValue, Sem.run_bind, Sem.run_pure, Result.andThen_ok, invoke]
          exact hcall _ _
        refine wpR_of hnd ?_
        rw [he]
        simp only [Oper.uponIn]
        refine ⟨by simp [wideR, Fence.wide], ?_⟩
        have hta : (fs.toList ++ q.args.toList.map a.eval ++ cs.toList).toArray = fs ++ q.args.map a.eval ++ cs := by
          apply Array.ext'; simp
        rw [hta] at HC
        refine CallsIn.mono (callsIn_wideR.2 HC) ?_
        rintro e w' ⟨c', u, v, h', rfl, E, W', hv, hk⟩
        exact hK c' v h' w' u E W' hv hk
      have viaF : pCallF P (aEv fr f) (q.args.toList.map (aEv fr)) h K → o.wpIn (wideR ro) 0 P a w next Q := by
        intro H
        unfold pCallF at H
        split at H <;> (try (exact H.elim))
        · rename_i g first cap hf
          exact main g first cap (hf ▸ F.ev W.gl f) H
        · rename_i id hf
          have hv := F.ev W.gl f
          rw [hf] at hv
          simp only [VRel] at hv
          obtain ⟨b, hm, hfe⟩ := hv
          obtain ⟨fn, tmps, asn, bd, hy, hR⟩ := YieldW.sound (P := P) (vs := q.args.map a.eval) W hm (by simpa using F.list W.gl q.args.toList) H
          have he : (execOp a.eval o).run P w = .ok (.round b fn tmps asn bd) w := by
            simp only [execOp, ho, resolve, hq, hfe, Deferred.ofValue, Sem.run_bind, Sem.run_pure, Result.andThen_ok, invoke, callFunc]
            simpa using hy
          refine wpR_of hnd ?_
          rw [he]
          simp only [Oper.uponIn]
          refine ⟨by simp [wideR, Fence.wide], RoundIn.mono (show RoundIn (wideR ro) 0 P b fn tmps asn bd w _ from hR) ?_⟩
          rintro e w' ⟨c', u, v, h', rfl, E, W', hv, hk⟩
          exact hK c' v h' w' u E W' hv hk
      cases f with
      | func g =>
        simp only [hq] at H
        exact main g [] [] (F.ev W.gl (.func g)) (by simpa using H)
      | tmp t => simp only [hq] at H; exact viaF H
      | const v => simp only [hq] at H; exact viaF H
      | global v => simp only [hq] at H; exact viaF H

theorem nanB_of (k : FloatKind) (a b t : Nat) : nanB k ((Question.nanBits k a b).cut t) := by
  cases k
  · exact ⟨t % 2, (t / 2) % (2 ^ 23 - 1), Nat.mod_lt _ (by omega), Nat.mod_lt _ (by decide), rfl⟩
  · exact ⟨t % 2, (t / 2) % (2 ^ 52 - 1), Nat.mod_lt _ (by omega), Nat.mod_lt _ (by decide), rfl⟩

theorem wpOpF_sound {N : Nat} {ro : Option Nat} {by_ : Bool} {o : Oper} {fr : Fr} {a : Act} {K : AV → AHeap → Prop} {next : Act → World → Prop} {Q : Exit → Act → World → Prop} (W : WRel B c h w) (F : FrRel N ds c w fr a)
    (H : wpOpF P by_ o.op (aEv fr) h K) (hK : Then B c w a o.dst K next) : o.wpIn (wideR ro) 0 P a w next Q := by
  have hnd : ∀ q, o.op ≠ .defer q := by intro q e; rw [e] at H; exact H
  unfold wpOpF at H
  split at H
  · rename_i op t x y t2 ho
    split at H
    · rename_i har
      split at H
      · rename_i k hk
        have hx := F.ev W.gl x
        have hy := F.ev W.gl y
        unfold pFArith at H
        split at H <;> (try (exact H.elim))
        rename_i k1 a1 k2 b1 hxe hye
        rw [hxe] at hx
        rw [hye] at hy
        simp only [VRel] at hx hy
        obtain ⟨rfl, h2, H⟩ := H
        subst h2
        have hg := run_guard_plain (P := P) (w := w) op t x y (.float k2 a1) (.float k2 b1) (by simp) (by simp)
        have he : execOp a.eval o = (do pure (.value (← (do eqGuard op t x y (a.eval x) (a.eval y); binOp op t (a.eval x) (a.eval y) : Sem Value)))) := by
          simp only [execOp, ho]
        refine wp_of_does hnd (K := K) (B := B) (c := c) he ?_ hK
        rw [hx, hy]
        split at H
        · rename_i r hr
          refine Does.pure_ W (u := .float k2 r) ?_ ?_ H
          · rw [Sem.run_bind, hg]; exact run_float_arith w op t k2 a1 b1 r hr
          · simp [VRel]
        · rename_i hr
          have hn := nanB_of k2 a1 b1 (w.tape w.drawn (.nanBits k2 a1 b1))
          refine ⟨c, .float k2 ((Question.nanBits k2 a1 b1).cut (w.tape w.drawn (.nanBits k2 a1 b1))), .flt k2 ((Question.nanBits k2 a1 b1).cut (w.tape w.drawn (.nanBits k2 a1 b1))), h, w.drew, ?_, Ext.drew B c w, W.drew, by simp [VRel], H _ hn⟩
          rw [Sem.run_bind, hg]
          have hb : (binOp op t (.float k2 a1) (.float k2 b1)).run P w = ((choose (.nanBits k2 a1 b1)).run P w).andThen fun n w' => .ok (.float k2 n) w' := by
            cases op <;> simp only [arithOp, Bool.false_eq_true] at har <;> simp only [floatBits] at hr <;> simp [binOp, Op.floatArith, hr]
          simp only [Result.andThen_ok, hb]
          rw [run_choose_drew]
          simp [Question.forced]
      · exact wpOp_sound (by_ := by_) W F (by rw [ho]; exact H) hK
    · exact wpOp_sound (by_ := by_) W F (by rw [ho]; exact H) hK
  · exact wpOp_sound W F H hK

end
end Go.Abs
