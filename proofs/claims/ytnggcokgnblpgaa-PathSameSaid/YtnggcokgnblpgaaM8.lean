/- Own texts, merged: CdRef, CdRefI0, CdRefI1, CdRefI2, CdRefI3, CdRefI4, CdRefI, CdRefG, CdRefH, CdRefS, CdBoth, CdEqu, AbsFrz, AbsRes. -/
import Derived.Test.YtnggcokgnblpgaaM7
set_option linter.unusedVariables false
set_option linter.unusedSimpArgs false
section
/- What the document's functions of codes compute: the small ones. -/
set_option maxRecDepth 100000
set_option maxHeartbeats 1000000
namespace Go.Proofs.Ytnggcokgnblpgaa
open Go.Abs
theorem ref_local_does (c : Cd) (l : Lo) (h : z04) : z03 Try.prog 22 [.agg c.cells, .agg l.cells] h (fun v h2 => v = .bool (z1a c l) ∧ h2 = h) := by
  apply padlockref09_local_wp
  unfold z1a
  (repeat simp -dsimp -implicitDefEqProofs (disch := omega) only [↓rP, rQ, rO, rL, ↓reduceIte, Nat.reduceEqDiff, Nat.reduceAdd, Nat.reduceLeDiff, z01, z05, ↓tyr])
  refine z0x (fun h4 => ?_) (fun h4 => ?_)
  · (repeat simp -dsimp -implicitDefEqProofs (disch := omega) only [↓rP, rQ, rO, rL, ↓reduceIte, Nat.reduceEqDiff, Nat.reduceAdd, Nat.reduceLeDiff, z01, z05, ↓tyr])
    rw [if_pos h4]
    exact z1c _ _ _
  · rw [if_neg h4]
    repeat' (first | (simp -dsimp -implicitDefEqProofs (disch := omega) only [↓rP, rQ, rO, rL, ↓reduceIte, Nat.reduceEqDiff, Nat.reduceAdd, Nat.reduceLeDiff, z01, z05, ↓tyr]) | refine Cut.go ?_ | refine z0x (fun _ => ?_) (fun _ => ?_) | refine z13 (fun _ => ?_) (fun _ => ?_) | refine z0i (fun _ => ?_) (fun _ => ?_) | refine z16 (fun _ => ?_) (fun _ => ?_) | refine Split.intro (fun _ => ?_) (fun _ => ?_))
    all_goals (simp [beqI, *])
    all_goals omega
theorem ref_Inside_does (c : Cd) (hl : (slL c.Sections).length ≤ 1000000) (t a : Int) (h : z04) : z03 Try.prog 35 [.agg c.cells, .int .i64 t, .int .i64 a] h (fun v h2 => v = .int .i64 (insI c t a) ∧ Keeps h h2 (fun _ => False)) := by
  apply padlockref09_Inside_wp
  (repeat simp -dsimp -implicitDefEqProofs (disch := omega) only [↓rP, rQ, rO, rL, ↓reduceIte, Nat.reduceEqDiff, Nat.reduceAdd, Nat.reduceLeDiff, z01, z05, ↓tyr])
  refine z1u z0v (by kernel_rfl) (fun n fr hh => ∃ k : Nat, k ≤ (slL c.Sections).length ∧ n = (slL c.Sections).length - k ∧ (∀ j x, j < k → (slL c.Sections)[j]? = some x → secP t a x = false) ∧ Keeps h hh (fun _ => False) ∧ fr = frOf [(1, .int .i64 t), (2, .int .i64 a), (10, slAV 3 z0e.cells c.Sections), (11, .int .i64 (slL c.Sections).length), (12, .int .i64 k)]) (slL c.Sections).length ⟨0, by omega, by omega, fun j x hj => by omega, .refl _ _, rfl⟩ ?_
  rintro n fr hh ⟨k, hk, rfl, hup, kp, rfl⟩
  apply padlockref09_Inside_loop2
  generalize hI : (fun (n : Nat) (fr : Fr) (hh : z04) => _) = I
  (repeat simp -dsimp -implicitDefEqProofs (disch := omega) only [↓rP, rQ, rO, rL, ↓reduceIte, Nat.reduceEqDiff, Nat.reduceAdd, Nat.reduceLeDiff, z01, z05, ↓tyr])
  refine z0i (fun hkl => ?_) (fun hkl => ?_)
  · obtain ⟨s, hx⟩ : ∃ s, (slL c.Sections)[k]? = some s := ⟨_, List.getElem?_eq_getElem (by omega)⟩
    have kp1 : Keeps h (hh.push (.row 51 s.cells)) (fun _ => False) := kp.go (Keeps.one _ _)
    have yes : secP t a s = true → insI c t a = k := fun hp => posI_here hx hp hup
    have on : secP t a s = false → loopPost I ((slL c.Sections).length - k) (z1q (fun _ _ => False) (fun _ _ _ => False) (fun _ _ => False)) .normal (frOf [(1, .int .i64 t), (2, .int .i64 a), (10, slAV 3 z0e.cells c.Sections), (11, .int .i64 (slL c.Sections).length), (12, .int .i64 (k + 1 : Nat))]) (hh.push (.row 51 s.cells)) := fun hm => by
      rw [z0a, ← hI]
      refine ⟨_, by omega, k + 1, by omega, rfl, fun j y hj hy => ?_, kp1, rfl⟩
      by_cases e : j = k
      · subst e; rw [hx] at hy; cases hy; exact hm
      · exact hup j y (by omega) hy
    simp only [z0a] at on
    repeat' (first | (simp -dsimp -implicitDefEqProofs (disch := omega) only [↓rP, rQ, rO, rL, ↓reduceIte, Nat.reduceEqDiff, Nat.reduceAdd, Nat.reduceLeDiff, z01, z05, ↓tyr, z0d hx, wkS k (by omega), z0a]) | refine Cut.go ?_ | refine z0x (fun _ => ?_) (fun _ => ?_) | refine z13 (fun _ => ?_) (fun _ => ?_) | refine z0i (fun _ => ?_) (fun _ => ?_) | refine z16 (fun _ => ?_) (fun _ => ?_) | refine Split.intro (fun _ => ?_) (fun _ => ?_))
    all_goals first
      | exact on (by simp [secP, *]; try omega)
      | (rw [yes (by simp [secP, *])]; exact ⟨rfl, kp1⟩)
  · have hke : k = (slL c.Sections).length := by omega
    subst hke
    (repeat simp -dsimp -implicitDefEqProofs (disch := omega) only [↓rP, rQ, rO, rL, ↓reduceIte, Nat.reduceEqDiff, Nat.reduceAdd, Nat.reduceLeDiff, z01, z05, ↓tyr])
    exact ⟨by unfold insI; rw [posI_none hup], kp⟩
def hasT : List (List UInt8) := [[], [100, 105], [100, 110], [100, 115, 114, 110], [100, 115, 120], [110, 105], [115, 114, 110, 105], [115, 120, 105], [100, 114, 110], [100, 105, 110], [100, 115], [105], [105], [116], [116, 105], [110], [110], []]
def hasS (op : Int) : List UInt8 := if op < 1 ∨ 18 ≤ op then [63] else hasT.getD op.toNat []
theorem z1k (op : Int) (h : z04) : z03 Try.prog 32 [.int .i64 op] h (fun v h2 => v = .str (hasS op) ∧ h2 = h) := by
  apply padlockref09_Has_wp
  refine ⟨by omega, by decide, rfl, ?_⟩
  have hf : fillE 1 (List.replicate 18 [AV.str []]) [(0, AV.str []), (1, AV.str [100, 105]), (2, AV.str [100, 110]), (3, AV.str [100, 115, 114, 110]), (4, AV.str [100, 115, 120]), (5, AV.str [110, 105]), (6, AV.str [115, 114, 110, 105]), (7, AV.str [115, 120, 105]), (8, AV.str [100, 114, 110]), (9, AV.str [100, 105, 110]), (10, AV.str [100, 115]), (11, AV.str [105]), (12, AV.str [105]), (13, AV.str [116]), (14, AV.str [116, 105]), (15, AV.str [110]), (16, AV.str [110]), (17, AV.str [])] = some (hasT.map fun s => [AV.str s]) := by
    simp [fillE, hasT, List.replicate, AV.fits, AV.cells]
  simp only [Nat.reduceAdd]
  rw [hf]
  simp only [if_true]
  (repeat simp -dsimp -implicitDefEqProofs (disch := omega) only [↓rP, rQ, rO, rL, ↓reduceIte, Nat.reduceEqDiff, Nat.reduceAdd, Nat.reduceLeDiff, z01, z05, ↓tyr])
  have hl : (hasT.map fun s => [AV.str s]).length = 18 := rfl
  unfold hasS
  refine z0i (fun h1 => ?_) (fun h1 => ?_)
  · (repeat simp -dsimp -implicitDefEqProofs (disch := omega) only [↓rP, rQ, rO, rL, ↓reduceIte, Nat.reduceEqDiff, Nat.reduceAdd, Nat.reduceLeDiff, z01, z05, ↓tyr])
    rw [if_pos (Or.inl h1)]
  (repeat simp -dsimp -implicitDefEqProofs (disch := omega) only [↓rP, rQ, rO, rL, ↓reduceIte, Nat.reduceEqDiff, Nat.reduceAdd, Nat.reduceLeDiff, z01, z05, ↓tyr])
  rw [hl]
  refine z16 (fun h2 => ?_) (fun h2 => ?_)
  · (repeat simp -dsimp -implicitDefEqProofs (disch := omega) only [↓rP, rQ, rO, rL, ↓reduceIte, Nat.reduceEqDiff, Nat.reduceAdd, Nat.reduceLeDiff, z01, z05, ↓tyr])
    rw [if_pos (Or.inr (by omega))]
  · rw [if_neg (by omega)]
    have hn : op.toNat < 18 := by omega
    have hg : (hasT.map fun s => [AV.str s])[op.toNat]? = some [AV.str (hasT.getD op.toNat [])] := by
      rw [List.getElem?_map, List.getElem?_eq_getElem (by rw [show hasT.length = 18 from rfl]; exact hn)]
      simp [List.getD_eq_getElem?_getD, show op.toNat < hasT.length from hn]
    have hix : ∀ K : AV → Prop, z09 (.slice 1) (.isl 1 (hasT.map fun s => [AV.str s])) (.int .i64 op) K = K (.iptr [AV.str (hasT.getD op.toNat [])]) := fun K => by
      have h0 : 0 ≤ op := by omega
      have h18 : op < 18 := by omega
      simp only [z09, hl, hg]
      simp [h0, h18]
    (repeat simp -dsimp -implicitDefEqProofs (disch := omega) only [↓rP, rQ, rO, rL, ↓reduceIte, Nat.reduceEqDiff, Nat.reduceAdd, Nat.reduceLeDiff, z01, z05, ↓tyr, hix])
theorem ref_has_does (s : List UInt8) (hs : s.length ≤ 1000) (c : UInt8) (h : z04) : z03 Try.prog 33 [.str s, .int .u8 (c.toNat : Int)] h (fun v h2 => v = .bool (s.contains c) ∧ h2 = h) := by
  apply padlockref09_has_wp
  (repeat simp -dsimp -implicitDefEqProofs (disch := omega) only [↓rP, rQ, rO, rL, ↓reduceIte, Nat.reduceEqDiff, Nat.reduceAdd, Nat.reduceLeDiff, z01, z05, ↓tyr])
  refine z1u z0v (by kernel_rfl) (fun n fr hh => ∃ k : Nat, k ≤ s.length ∧ n = s.length - k ∧ (s.take k).contains c = false ∧ hh = h ∧ fr = frOf [(0, .str s), (1, .int .u8 (c.toNat : Int)), (5, .int .i64 k)]) s.length ⟨0, by omega, by omega, by simp, rfl, rfl⟩ ?_
  rintro n fr hh ⟨k, hk, rfl, hup, rfl, rfl⟩
  apply padlockref09_has_loop2
  generalize hI : (fun (n : Nat) (fr : Fr) (hh : z04) => _) = I
  (repeat simp -dsimp -implicitDefEqProofs (disch := omega) only [↓rP, rQ, rO, rL, ↓reduceIte, Nat.reduceEqDiff, Nat.reduceAdd, Nat.reduceLeDiff, z01, z05, ↓tyr])
  refine z0i (fun hkl => ?_) (fun hkl => ?_)
  · obtain ⟨x, hx⟩ : ∃ x, s[k]? = some x := ⟨_, List.getElem?_eq_getElem (by omega)⟩
    have hix : ∀ K : AV → Prop, pIndexStr (.str s) (.int .i64 (k : Int)) K = K (.int .u8 (x.toNat : Int)) := fun K => by
      simp [pIndexStr, hx]
    have ht : s.take (k + 1) = s.take k ++ [x] := by rw [List.take_add_one, hx]; rfl
    (repeat simp -dsimp -implicitDefEqProofs (disch := omega) only [↓rP, rQ, rO, rL, ↓reduceIte, Nat.reduceEqDiff, Nat.reduceAdd, Nat.reduceLeDiff, z01, z05, ↓tyr, hix])
    refine z0x (fun e => ?_) (fun e => ?_)
    · (repeat simp -dsimp -implicitDefEqProofs (disch := omega) only [↓rP, rQ, rO, rL, ↓reduceIte, Nat.reduceEqDiff, Nat.reduceAdd, Nat.reduceLeDiff, z01, z05, ↓tyr])
      have : x = c := by
        have e' : x.toNat = c.toNat := by omega
        exact UInt8.toNat_inj.1 e'
      subst this
      simp [List.mem_of_getElem? hx]
    · have hne : x ≠ c := fun e' => e (by rw [e'])
      (repeat simp -dsimp -implicitDefEqProofs (disch := omega) only [↓rP, rQ, rO, rL, ↓reduceIte, Nat.reduceEqDiff, Nat.reduceAdd, Nat.reduceLeDiff, z01, z05, ↓tyr, wkS k (by omega)])
      rw [z0a, ← hI]
      refine ⟨_, by omega, k + 1, by omega, rfl, ?_, rfl, rfl⟩
      rw [ht, Bool.eq_false_iff]
      simp only [ne_eq, List.contains_iff_mem, List.mem_append, List.mem_singleton]
      rintro (h1 | h1)
      · rw [List.contains_iff_mem.2 h1] at hup; cases hup
      · exact hne h1.symm
  · have hke : k = s.length := by omega
    subst hke
    rw [List.take_length] at hup
    (repeat simp -dsimp -implicitDefEqProofs (disch := omega) only [↓rP, rQ, rO, rL, ↓reduceIte, Nat.reduceEqDiff, Nat.reduceAdd, Nat.reduceLeDiff, z01, z05, ↓tyr])
    rw [hup]
theorem z03.go {P : Program} {f : FuncId} {args : List AV} {h : z04} {v0 : AV} {K : AV → z04 → Prop} (H : z03 P f args h (fun v h2 => v = v0 ∧ h2 = h)) (hk : K v0 h) : z03 P f args h K := H.mono (by rintro _ _ ⟨rfl, rfl⟩; exact hk)
theorem z1o (c : Cd) (hl : (slL c.Sections).length ≤ 1000000) (t a : Int) (h : z04) : z03 Try.prog 35 [.agg c.cells, .int .i64 t, .int .i64 a] h (fun v h2 => v = .int .i64 (insI c t a) ∧ h2 = h) := z03.forget (by simp [z2v]) (ref_Inside_does c hl t a h)
theorem has_100 (s : List UInt8) (hs : s.length ≤ 1000) (h : z04) : z03 Try.prog 33 [.str s, .int .u8 100] h (fun v h2 => v = .bool (s.contains 100) ∧ h2 = h) := ref_has_does s hs 100 h
theorem has_115 (s : List UInt8) (hs : s.length ≤ 1000) (h : z04) : z03 Try.prog 33 [.str s, .int .u8 115] h (fun v h2 => v = .bool (s.contains 115) ∧ h2 = h) := ref_has_does s hs 115 h
theorem has_114 (s : List UInt8) (hs : s.length ≤ 1000) (h : z04) : z03 Try.prog 33 [.str s, .int .u8 114] h (fun v h2 => v = .bool (s.contains 114) ∧ h2 = h) := ref_has_does s hs 114 h
theorem has_110 (s : List UInt8) (hs : s.length ≤ 1000) (h : z04) : z03 Try.prog 33 [.str s, .int .u8 110] h (fun v h2 => v = .bool (s.contains 110) ∧ h2 = h) := ref_has_does s hs 110 h
theorem has_116 (s : List UInt8) (hs : s.length ≤ 1000) (h : z04) : z03 Try.prog 33 [.str s, .int .u8 116] h (fun v h2 => v = .bool (s.contains 116) ∧ h2 = h) := ref_has_does s hs 116 h
theorem has_105 (s : List UInt8) (hs : s.length ≤ 1000) (h : z04) : z03 Try.prog 33 [.str s, .int .u8 105] h (fun v h2 => v = .bool (s.contains 105) ∧ h2 = h) := ref_has_does s hs 105 h
theorem has_120 (s : List UInt8) (hs : s.length ≤ 1000) (h : z04) : z03 Try.prog 33 [.str s, .int .u8 120] h (fun v h2 => v = .bool (s.contains 120) ∧ h2 = h) := ref_has_does s hs 120 h
theorem keeps_put {h g : z04} (k : Keeps h g (fun _ => False)) {id : Nat} (hid : h.next ≤ id) (o : AObj) : Keeps h (g.put id o) (fun _ => False) :=
  ⟨k.next, fun i hi hs => by simp only [z04.z3n]; rw [if_neg (by omega)]; exact k.objs i hi hs⟩
def gD {α : Type} [Inhabited α] (o : Option (List α)) (n : Int) : α := (getI (slL o) n).getD default
theorem z1v {α : Type} [Inhabited α] {o : Option (List α)} {n : Int} (hq : btw n (slL o).length = true) : getI (slL o) n = some (gD o n) := by
  obtain ⟨x, hx⟩ := z1l.1 hq
  unfold gD; rw [hx]; rfl
theorem ixB_go {α : Type} [Inhabited α] {sz : Nat} {enc : α → List AV} {o : Option (List α)} {n : Int} {kk : IntKind} {K : AV → Prop} (hq : btw n (slL o).length = true) (hk : K (.iptr (enc (gD o n)))) : z09 (.slice sz) (slAV sz enc o) (.int kk n) K := by
  rw [ixI (z1v hq)]; exact hk
theorem z5b {α : Type} {o : Option (List α)} {n : Int} (hq : btw n (slL o).length = false) : getI (slL o) n = none := z2o.1 hq
theorem z3p (s : z15) (t a r : Int) : s = ⟨t, a, r⟩ ↔ s.Thread = t ∧ s.At = a ∧ s.Rec = r := by cases s; simp
theorem isB_btw {b : Bd} {n : Int} {want : Lo} (hq : btw n (slL b.Slots).length = true) : isB b n want = sameB (gD b.Slots n) want := by unfold isB; rw [z1v hq]
theorem z5c {b : Bd} {n : Int} {want : Lo} (hq : btw n (slL b.Slots).length = false) : isB b n want = false := by unfold isB; rw [z2o.1 hq]
theorem z2u (c : Cd) (b : Bd) (x : In) : fieldO c b x = if btw x.Rec (slL c.Records).length = true ∧ btw x.N (slL (gD c.Records x.Rec)).length = true ∧ isB b x.Src ⟨4, x.Rec, false⟩ = true then some (gD (gD c.Records x.Rec) x.N) else none := by
  unfold fieldO
  cases h1 : btw x.Rec (slL c.Records).length with
  | false => rw [z2o.1 h1]; simp
  | true =>
    rw [z1v h1]
    simp only
    cases h2 : btw x.N (slL (gD c.Records x.Rec)).length with
    | false => rw [z2o.1 h2]; simp
    | true => rw [z1v h2]; simp
theorem z3l (op : Int) : (hasS op).length ≤ 1000 := by
  unfold hasS
  split
  · decide
  · have : ∀ n : Nat, (hasT.getD n []).length ≤ 4 := fun n => by
      by_cases h : n < 18
      · have : ∀ m : Fin 18, (hasT.getD m.1 []).length ≤ 4 := by decide
        exact this ⟨n, h⟩
      · rw [List.getD_eq_getElem?_getD, List.getElem?_eq_none (by rw [show hasT.length = 18 from rfl]; omega)]; simp
    have := this op.toNat
    omega
end Go.Proofs.Ytnggcokgnblpgaa
end

section
/- What the two rows, and two more, of the document's instr hold. -/
set_option maxRecDepth 100000
set_option maxHeartbeats 4000000
namespace Go.Proofs.Ytnggcokgnblpgaa
open Go.Abs
theorem z3o {h H : z04} {b : Bd} {x : In} (o1 : H.objs h.next = some (.row 49 b.cells)) (o2 : H.objs (h.next + 1) = some (.row 45 x.cells)) (nx : H.next = h.next + 2) (kH : Keeps h H (fun _ => False)) :
    (∀ (off : Nat) (q : Option Nat) (K : AV → Prop), z02 q (.ptr h.next off) H K = z0h q b.cells off K) ∧
    (∀ (off : Nat) (q : Option Nat) (K : AV → Prop), z02 q (.ptr (h.next + 1) off) H K = z0h q x.cells off K) ∧
    (∀ (off : Nat) (q : Option Nat) (K : AV → Prop), z02 q (.ptr h.next off) ((H.push (AObj.row 53 [AV.int IntKind.i64 0, AV.int IntKind.i64 0, AV.bool false])).push (AObj.row 53 [AV.int IntKind.i64 0, AV.int IntKind.i64 0, AV.bool false])) K = z0h q b.cells off K) ∧
    (∀ (off : Nat) (q : Option Nat) (K : AV → Prop), z02 q (.ptr (h.next + 1) off) ((H.push (AObj.row 53 [AV.int IntKind.i64 0, AV.int IntKind.i64 0, AV.bool false])).push (AObj.row 53 [AV.int IntKind.i64 0, AV.int IntKind.i64 0, AV.bool false])) K = z0h q x.cells off K) ∧
    (∀ (d : Lo) (K : z04 → Prop), z0y 3 (.ptr H.next 0) (.agg d.cells) ((H.push (AObj.row 53 [AV.int IntKind.i64 0, AV.int IntKind.i64 0, AV.bool false])).push (AObj.row 53 [AV.int IntKind.i64 0, AV.int IntKind.i64 0, AV.bool false])) K = K (((H.push (AObj.row 53 [AV.int IntKind.i64 0, AV.int IntKind.i64 0, AV.bool false])).push (AObj.row 53 [AV.int IntKind.i64 0, AV.int IntKind.i64 0, AV.bool false])).put H.next (.row 53 d.cells))) ∧
    (∀ (d : Lo) (off : Nat) (q : Option Nat) (K : AV → Prop), z02 q (.ptr h.next off) (((H.push (AObj.row 53 [AV.int IntKind.i64 0, AV.int IntKind.i64 0, AV.bool false])).push (AObj.row 53 [AV.int IntKind.i64 0, AV.int IntKind.i64 0, AV.bool false])).put H.next (.row 53 d.cells)) K = z0h q b.cells off K) ∧
    (∀ (d : Lo) (off : Nat) (q : Option Nat) (K : AV → Prop), z02 q (.ptr (h.next + 1) off) (((H.push (AObj.row 53 [AV.int IntKind.i64 0, AV.int IntKind.i64 0, AV.bool false])).push (AObj.row 53 [AV.int IntKind.i64 0, AV.int IntKind.i64 0, AV.bool false])).put H.next (.row 53 d.cells)) K = z0h q x.cells off K) ∧
    (∀ (d : Lo) (off : Nat) (q : Option Nat) (K : AV → Prop), z02 q (.ptr H.next off) (((H.push (AObj.row 53 [AV.int IntKind.i64 0, AV.int IntKind.i64 0, AV.bool false])).push (AObj.row 53 [AV.int IntKind.i64 0, AV.int IntKind.i64 0, AV.bool false])).put H.next (.row 53 d.cells)) K = z0h q d.cells off K) ∧
    (∀ (s : Lo) (K : z04 → Prop), z0y 3 (.ptr (H.push (AObj.row 53 [AV.int IntKind.i64 0, AV.int IntKind.i64 0, AV.bool false])).next 0) (.agg s.cells) ((H.push (AObj.row 53 [AV.int IntKind.i64 0, AV.int IntKind.i64 0, AV.bool false])).push (AObj.row 53 [AV.int IntKind.i64 0, AV.int IntKind.i64 0, AV.bool false])) K = K (((H.push (AObj.row 53 [AV.int IntKind.i64 0, AV.int IntKind.i64 0, AV.bool false])).push (AObj.row 53 [AV.int IntKind.i64 0, AV.int IntKind.i64 0, AV.bool false])).put (H.push (AObj.row 53 [AV.int IntKind.i64 0, AV.int IntKind.i64 0, AV.bool false])).next (.row 53 s.cells))) ∧
    (∀ (s : Lo) (off : Nat) (q : Option Nat) (K : AV → Prop), z02 q (.ptr h.next off) (((H.push (AObj.row 53 [AV.int IntKind.i64 0, AV.int IntKind.i64 0, AV.bool false])).push (AObj.row 53 [AV.int IntKind.i64 0, AV.int IntKind.i64 0, AV.bool false])).put (H.push (AObj.row 53 [AV.int IntKind.i64 0, AV.int IntKind.i64 0, AV.bool false])).next (.row 53 s.cells)) K = z0h q b.cells off K) ∧
    (∀ (s : Lo) (off : Nat) (q : Option Nat) (K : AV → Prop), z02 q (.ptr (h.next + 1) off) (((H.push (AObj.row 53 [AV.int IntKind.i64 0, AV.int IntKind.i64 0, AV.bool false])).push (AObj.row 53 [AV.int IntKind.i64 0, AV.int IntKind.i64 0, AV.bool false])).put (H.push (AObj.row 53 [AV.int IntKind.i64 0, AV.int IntKind.i64 0, AV.bool false])).next (.row 53 s.cells)) K = z0h q x.cells off K) ∧
    (∀ (s : Lo) (off : Nat) (q : Option Nat) (K : AV → Prop), z02 q (.ptr (H.push (AObj.row 53 [AV.int IntKind.i64 0, AV.int IntKind.i64 0, AV.bool false])).next off) (((H.push (AObj.row 53 [AV.int IntKind.i64 0, AV.int IntKind.i64 0, AV.bool false])).push (AObj.row 53 [AV.int IntKind.i64 0, AV.int IntKind.i64 0, AV.bool false])).put (H.push (AObj.row 53 [AV.int IntKind.i64 0, AV.int IntKind.i64 0, AV.bool false])).next (.row 53 s.cells)) K = z0h q s.cells off K) ∧
    (∀ (d : Lo) (s : Lo) (K : z04 → Prop), z0y 3 (.ptr (H.push (AObj.row 53 [AV.int IntKind.i64 0, AV.int IntKind.i64 0, AV.bool false])).next 0) (.agg s.cells) (((H.push (AObj.row 53 [AV.int IntKind.i64 0, AV.int IntKind.i64 0, AV.bool false])).push (AObj.row 53 [AV.int IntKind.i64 0, AV.int IntKind.i64 0, AV.bool false])).put H.next (.row 53 d.cells)) K = K ((((H.push (AObj.row 53 [AV.int IntKind.i64 0, AV.int IntKind.i64 0, AV.bool false])).push (AObj.row 53 [AV.int IntKind.i64 0, AV.int IntKind.i64 0, AV.bool false])).put H.next (.row 53 d.cells)).put (H.push (AObj.row 53 [AV.int IntKind.i64 0, AV.int IntKind.i64 0, AV.bool false])).next (.row 53 s.cells))) ∧
    (∀ (d : Lo) (s : Lo) (off : Nat) (q : Option Nat) (K : AV → Prop), z02 q (.ptr h.next off) ((((H.push (AObj.row 53 [AV.int IntKind.i64 0, AV.int IntKind.i64 0, AV.bool false])).push (AObj.row 53 [AV.int IntKind.i64 0, AV.int IntKind.i64 0, AV.bool false])).put H.next (.row 53 d.cells)).put (H.push (AObj.row 53 [AV.int IntKind.i64 0, AV.int IntKind.i64 0, AV.bool false])).next (.row 53 s.cells)) K = z0h q b.cells off K) ∧
    (∀ (d : Lo) (s : Lo) (off : Nat) (q : Option Nat) (K : AV → Prop), z02 q (.ptr (h.next + 1) off) ((((H.push (AObj.row 53 [AV.int IntKind.i64 0, AV.int IntKind.i64 0, AV.bool false])).push (AObj.row 53 [AV.int IntKind.i64 0, AV.int IntKind.i64 0, AV.bool false])).put H.next (.row 53 d.cells)).put (H.push (AObj.row 53 [AV.int IntKind.i64 0, AV.int IntKind.i64 0, AV.bool false])).next (.row 53 s.cells)) K = z0h q x.cells off K) ∧
    (∀ (d : Lo) (s : Lo) (off : Nat) (q : Option Nat) (K : AV → Prop), z02 q (.ptr H.next off) ((((H.push (AObj.row 53 [AV.int IntKind.i64 0, AV.int IntKind.i64 0, AV.bool false])).push (AObj.row 53 [AV.int IntKind.i64 0, AV.int IntKind.i64 0, AV.bool false])).put H.next (.row 53 d.cells)).put (H.push (AObj.row 53 [AV.int IntKind.i64 0, AV.int IntKind.i64 0, AV.bool false])).next (.row 53 s.cells)) K = z0h q d.cells off K) ∧
    (∀ (d : Lo) (s : Lo) (off : Nat) (q : Option Nat) (K : AV → Prop), z02 q (.ptr (H.push (AObj.row 53 [AV.int IntKind.i64 0, AV.int IntKind.i64 0, AV.bool false])).next off) ((((H.push (AObj.row 53 [AV.int IntKind.i64 0, AV.int IntKind.i64 0, AV.bool false])).push (AObj.row 53 [AV.int IntKind.i64 0, AV.int IntKind.i64 0, AV.bool false])).put H.next (.row 53 d.cells)).put (H.push (AObj.row 53 [AV.int IntKind.i64 0, AV.int IntKind.i64 0, AV.bool false])).next (.row 53 s.cells)) K = z0h q s.cells off K) ∧
    (∀ (d : Lo) (s : Lo) (r : AObj) (off : Nat) (q : Option Nat) (K : AV → Prop), z02 q (.ptr (h.next + 1) off) (((((H.push (AObj.row 53 [AV.int IntKind.i64 0, AV.int IntKind.i64 0, AV.bool false])).push (AObj.row 53 [AV.int IntKind.i64 0, AV.int IntKind.i64 0, AV.bool false])).put H.next (.row 53 d.cells)).put (H.push (AObj.row 53 [AV.int IntKind.i64 0, AV.int IntKind.i64 0, AV.bool false])).next (.row 53 s.cells)).push r) K = z0h q x.cells off K) ∧
    (∀ (d : Lo) (s : Lo) (r : AObj) (off : Nat) (q : Option Nat) (K : AV → Prop), z02 q (.ptr H.next off) (((((H.push (AObj.row 53 [AV.int IntKind.i64 0, AV.int IntKind.i64 0, AV.bool false])).push (AObj.row 53 [AV.int IntKind.i64 0, AV.int IntKind.i64 0, AV.bool false])).put H.next (.row 53 d.cells)).put (H.push (AObj.row 53 [AV.int IntKind.i64 0, AV.int IntKind.i64 0, AV.bool false])).next (.row 53 s.cells)).push r) K = z0h q d.cells off K) ∧
    (∀ (s : Lo) (r : AObj) (off : Nat) (q : Option Nat) (K : AV → Prop), z02 q (.ptr (h.next + 1) off) ((((H.push (AObj.row 53 [AV.int IntKind.i64 0, AV.int IntKind.i64 0, AV.bool false])).push (AObj.row 53 [AV.int IntKind.i64 0, AV.int IntKind.i64 0, AV.bool false])).put (H.push (AObj.row 53 [AV.int IntKind.i64 0, AV.int IntKind.i64 0, AV.bool false])).next (.row 53 s.cells)).push r) K = z0h q x.cells off K) ∧
    (∀ (d s : Lo) (r : AObj), Keeps h (((((H.push (AObj.row 53 [AV.int IntKind.i64 0, AV.int IntKind.i64 0, AV.bool false])).push (AObj.row 53 [AV.int IntKind.i64 0, AV.int IntKind.i64 0, AV.bool false])).put H.next (.row 53 d.cells)).put (H.push (AObj.row 53 [AV.int IntKind.i64 0, AV.int IntKind.i64 0, AV.bool false])).next (.row 53 s.cells)).push r) (fun _ => False)) ∧
    (∀ (s : Lo) (r : AObj), Keeps h ((((H.push (AObj.row 53 [AV.int IntKind.i64 0, AV.int IntKind.i64 0, AV.bool false])).push (AObj.row 53 [AV.int IntKind.i64 0, AV.int IntKind.i64 0, AV.bool false])).put (H.push (AObj.row 53 [AV.int IntKind.i64 0, AV.int IntKind.i64 0, AV.bool false])).next (.row 53 s.cells)).push r) (fun _ => False)) ∧
    (Keeps h ((H.push (AObj.row 53 [AV.int IntKind.i64 0, AV.int IntKind.i64 0, AV.bool false])).push (AObj.row 53 [AV.int IntKind.i64 0, AV.int IntKind.i64 0, AV.bool false])) (fun _ => False)) ∧
    (∀ d : Lo, Keeps h (((H.push (AObj.row 53 [AV.int IntKind.i64 0, AV.int IntKind.i64 0, AV.bool false])).push (AObj.row 53 [AV.int IntKind.i64 0, AV.int IntKind.i64 0, AV.bool false])).put H.next (.row 53 d.cells)) (fun _ => False)) ∧
    (∀ s : Lo, Keeps h (((H.push (AObj.row 53 [AV.int IntKind.i64 0, AV.int IntKind.i64 0, AV.bool false])).push (AObj.row 53 [AV.int IntKind.i64 0, AV.int IntKind.i64 0, AV.bool false])).put (H.push (AObj.row 53 [AV.int IntKind.i64 0, AV.int IntKind.i64 0, AV.bool false])).next (.row 53 s.cells)) (fun _ => False)) ∧
    (∀ d s : Lo, Keeps h ((((H.push (AObj.row 53 [AV.int IntKind.i64 0, AV.int IntKind.i64 0, AV.bool false])).push (AObj.row 53 [AV.int IntKind.i64 0, AV.int IntKind.i64 0, AV.bool false])).put H.next (.row 53 d.cells)).put (H.push (AObj.row 53 [AV.int IntKind.i64 0, AV.int IntKind.i64 0, AV.bool false])).next (.row 53 s.cells)) (fun _ => False)) := by
  have l1 : ∀ (off : Nat) (q : Option Nat) (K : AV → Prop), z02 q (.ptr h.next off) H K = z0h q b.cells off K := fun off q K => z0o o1 q K
  have l2 : ∀ (off : Nat) (q : Option Nat) (K : AV → Prop), z02 q (.ptr (h.next + 1) off) H K = z0h q x.cells off K := fun off q K => z0o o2 q K
  have n1 : ¬ (h.next = h.next + 2 + 1) := by omega
  have n2 : ¬ (h.next + 1 = h.next + 2 + 1) := by omega
  have n3 : ¬ (h.next + 2 = h.next + 2 + 1) := by omega
  have g0 : ∀ (off : Nat) (q : Option Nat) (K : AV → Prop), z02 q (.ptr h.next off) ((H.push (AObj.row 53 [AV.int IntKind.i64 0, AV.int IntKind.i64 0, AV.bool false])).push (AObj.row 53 [AV.int IntKind.i64 0, AV.int IntKind.i64 0, AV.bool false])) K = z0h q b.cells off K := fun  off q K => z0o (ty := 49) (by simp [o1, o2, nx, n1, n2, n3]) q K
  have g1 : ∀ (off : Nat) (q : Option Nat) (K : AV → Prop), z02 q (.ptr (h.next + 1) off) ((H.push (AObj.row 53 [AV.int IntKind.i64 0, AV.int IntKind.i64 0, AV.bool false])).push (AObj.row 53 [AV.int IntKind.i64 0, AV.int IntKind.i64 0, AV.bool false])) K = z0h q x.cells off K := fun  off q K => z0o (ty := 45) (by simp [o1, o2, nx, n1, n2, n3]) q K
  have std : ∀ (d : Lo) (K : z04 → Prop), z0y 3 (.ptr H.next 0) (.agg d.cells) ((H.push (AObj.row 53 [AV.int IntKind.i64 0, AV.int IntKind.i64 0, AV.bool false])).push (AObj.row 53 [AV.int IntKind.i64 0, AV.int IntKind.i64 0, AV.bool false])) K = K (((H.push (AObj.row 53 [AV.int IntKind.i64 0, AV.int IntKind.i64 0, AV.bool false])).push (AObj.row 53 [AV.int IntKind.i64 0, AV.int IntKind.i64 0, AV.bool false])).put H.next (.row 53 d.cells)) := fun d K => by simp [z0y, nx, z0f.cells]
  have dd0 : ∀ (d : Lo) (off : Nat) (q : Option Nat) (K : AV → Prop), z02 q (.ptr h.next off) (((H.push (AObj.row 53 [AV.int IntKind.i64 0, AV.int IntKind.i64 0, AV.bool false])).push (AObj.row 53 [AV.int IntKind.i64 0, AV.int IntKind.i64 0, AV.bool false])).put H.next (.row 53 d.cells)) K = z0h q b.cells off K := fun d off q K => z0o (ty := 49) (by simp [o1, o2, nx, n1, n2, n3]) q K
  have dd1 : ∀ (d : Lo) (off : Nat) (q : Option Nat) (K : AV → Prop), z02 q (.ptr (h.next + 1) off) (((H.push (AObj.row 53 [AV.int IntKind.i64 0, AV.int IntKind.i64 0, AV.bool false])).push (AObj.row 53 [AV.int IntKind.i64 0, AV.int IntKind.i64 0, AV.bool false])).put H.next (.row 53 d.cells)) K = z0h q x.cells off K := fun d off q K => z0o (ty := 45) (by simp [o1, o2, nx, n1, n2, n3]) q K
  have dd3 : ∀ (d : Lo) (off : Nat) (q : Option Nat) (K : AV → Prop), z02 q (.ptr H.next off) (((H.push (AObj.row 53 [AV.int IntKind.i64 0, AV.int IntKind.i64 0, AV.bool false])).push (AObj.row 53 [AV.int IntKind.i64 0, AV.int IntKind.i64 0, AV.bool false])).put H.next (.row 53 d.cells)) K = z0h q d.cells off K := fun d off q K => z0o (ty := 53) (by simp [o1, o2, nx, n1, n2, n3]) q K
  have sts : ∀ (s : Lo) (K : z04 → Prop), z0y 3 (.ptr (H.push (AObj.row 53 [AV.int IntKind.i64 0, AV.int IntKind.i64 0, AV.bool false])).next 0) (.agg s.cells) ((H.push (AObj.row 53 [AV.int IntKind.i64 0, AV.int IntKind.i64 0, AV.bool false])).push (AObj.row 53 [AV.int IntKind.i64 0, AV.int IntKind.i64 0, AV.bool false])) K = K (((H.push (AObj.row 53 [AV.int IntKind.i64 0, AV.int IntKind.i64 0, AV.bool false])).push (AObj.row 53 [AV.int IntKind.i64 0, AV.int IntKind.i64 0, AV.bool false])).put (H.push (AObj.row 53 [AV.int IntKind.i64 0, AV.int IntKind.i64 0, AV.bool false])).next (.row 53 s.cells)) := fun s K => by simp [z0y, nx, z0f.cells]
  have ss0 : ∀ (s : Lo) (off : Nat) (q : Option Nat) (K : AV → Prop), z02 q (.ptr h.next off) (((H.push (AObj.row 53 [AV.int IntKind.i64 0, AV.int IntKind.i64 0, AV.bool false])).push (AObj.row 53 [AV.int IntKind.i64 0, AV.int IntKind.i64 0, AV.bool false])).put (H.push (AObj.row 53 [AV.int IntKind.i64 0, AV.int IntKind.i64 0, AV.bool false])).next (.row 53 s.cells)) K = z0h q b.cells off K := fun s off q K => z0o (ty := 49) (by simp [o1, o2, nx, n1, n2, n3]) q K
  have ss1 : ∀ (s : Lo) (off : Nat) (q : Option Nat) (K : AV → Prop), z02 q (.ptr (h.next + 1) off) (((H.push (AObj.row 53 [AV.int IntKind.i64 0, AV.int IntKind.i64 0, AV.bool false])).push (AObj.row 53 [AV.int IntKind.i64 0, AV.int IntKind.i64 0, AV.bool false])).put (H.push (AObj.row 53 [AV.int IntKind.i64 0, AV.int IntKind.i64 0, AV.bool false])).next (.row 53 s.cells)) K = z0h q x.cells off K := fun s off q K => z0o (ty := 45) (by simp [o1, o2, nx, n1, n2, n3]) q K
  have ss4 : ∀ (s : Lo) (off : Nat) (q : Option Nat) (K : AV → Prop), z02 q (.ptr (H.push (AObj.row 53 [AV.int IntKind.i64 0, AV.int IntKind.i64 0, AV.bool false])).next off) (((H.push (AObj.row 53 [AV.int IntKind.i64 0, AV.int IntKind.i64 0, AV.bool false])).push (AObj.row 53 [AV.int IntKind.i64 0, AV.int IntKind.i64 0, AV.bool false])).put (H.push (AObj.row 53 [AV.int IntKind.i64 0, AV.int IntKind.i64 0, AV.bool false])).next (.row 53 s.cells)) K = z0h q s.cells off K := fun s off q K => z0o (ty := 53) (by simp [o1, o2, nx, n1, n2, n3]) q K
  have stds : ∀ (d : Lo) (s : Lo) (K : z04 → Prop), z0y 3 (.ptr (H.push (AObj.row 53 [AV.int IntKind.i64 0, AV.int IntKind.i64 0, AV.bool false])).next 0) (.agg s.cells) (((H.push (AObj.row 53 [AV.int IntKind.i64 0, AV.int IntKind.i64 0, AV.bool false])).push (AObj.row 53 [AV.int IntKind.i64 0, AV.int IntKind.i64 0, AV.bool false])).put H.next (.row 53 d.cells)) K = K ((((H.push (AObj.row 53 [AV.int IntKind.i64 0, AV.int IntKind.i64 0, AV.bool false])).push (AObj.row 53 [AV.int IntKind.i64 0, AV.int IntKind.i64 0, AV.bool false])).put H.next (.row 53 d.cells)).put (H.push (AObj.row 53 [AV.int IntKind.i64 0, AV.int IntKind.i64 0, AV.bool false])).next (.row 53 s.cells)) := fun d s K => by simp [z0y, nx, z0f.cells]
  have ds0 : ∀ (d : Lo) (s : Lo) (off : Nat) (q : Option Nat) (K : AV → Prop), z02 q (.ptr h.next off) ((((H.push (AObj.row 53 [AV.int IntKind.i64 0, AV.int IntKind.i64 0, AV.bool false])).push (AObj.row 53 [AV.int IntKind.i64 0, AV.int IntKind.i64 0, AV.bool false])).put H.next (.row 53 d.cells)).put (H.push (AObj.row 53 [AV.int IntKind.i64 0, AV.int IntKind.i64 0, AV.bool false])).next (.row 53 s.cells)) K = z0h q b.cells off K := fun d s off q K => z0o (ty := 49) (by simp [o1, o2, nx, n1, n2, n3]) q K
  have ds1 : ∀ (d : Lo) (s : Lo) (off : Nat) (q : Option Nat) (K : AV → Prop), z02 q (.ptr (h.next + 1) off) ((((H.push (AObj.row 53 [AV.int IntKind.i64 0, AV.int IntKind.i64 0, AV.bool false])).push (AObj.row 53 [AV.int IntKind.i64 0, AV.int IntKind.i64 0, AV.bool false])).put H.next (.row 53 d.cells)).put (H.push (AObj.row 53 [AV.int IntKind.i64 0, AV.int IntKind.i64 0, AV.bool false])).next (.row 53 s.cells)) K = z0h q x.cells off K := fun d s off q K => z0o (ty := 45) (by simp [o1, o2, nx, n1, n2, n3]) q K
  have ds3 : ∀ (d : Lo) (s : Lo) (off : Nat) (q : Option Nat) (K : AV → Prop), z02 q (.ptr H.next off) ((((H.push (AObj.row 53 [AV.int IntKind.i64 0, AV.int IntKind.i64 0, AV.bool false])).push (AObj.row 53 [AV.int IntKind.i64 0, AV.int IntKind.i64 0, AV.bool false])).put H.next (.row 53 d.cells)).put (H.push (AObj.row 53 [AV.int IntKind.i64 0, AV.int IntKind.i64 0, AV.bool false])).next (.row 53 s.cells)) K = z0h q d.cells off K := fun d s off q K => z0o (ty := 53) (by simp [o1, o2, nx, n1, n2, n3]) q K
  have ds4 : ∀ (d : Lo) (s : Lo) (off : Nat) (q : Option Nat) (K : AV → Prop), z02 q (.ptr (H.push (AObj.row 53 [AV.int IntKind.i64 0, AV.int IntKind.i64 0, AV.bool false])).next off) ((((H.push (AObj.row 53 [AV.int IntKind.i64 0, AV.int IntKind.i64 0, AV.bool false])).push (AObj.row 53 [AV.int IntKind.i64 0, AV.int IntKind.i64 0, AV.bool false])).put H.next (.row 53 d.cells)).put (H.push (AObj.row 53 [AV.int IntKind.i64 0, AV.int IntKind.i64 0, AV.bool false])).next (.row 53 s.cells)) K = z0h q s.cells off K := fun d s off q K => z0o (ty := 53) (by simp [o1, o2, nx, n1, n2, n3]) q K
  have n4 : ¬ (h.next + 1 = h.next + 2 + 2) := by omega
  have n5 : ¬ (h.next + 2 = h.next + 2 + 2) := by omega
  have px : ∀ (d : Lo) (s : Lo) (r : AObj) (off : Nat) (q : Option Nat) (K : AV → Prop), z02 q (.ptr (h.next + 1) off) (((((H.push (AObj.row 53 [AV.int IntKind.i64 0, AV.int IntKind.i64 0, AV.bool false])).push (AObj.row 53 [AV.int IntKind.i64 0, AV.int IntKind.i64 0, AV.bool false])).put H.next (.row 53 d.cells)).put (H.push (AObj.row 53 [AV.int IntKind.i64 0, AV.int IntKind.i64 0, AV.bool false])).next (.row 53 s.cells)).push r) K = z0h q x.cells off K := fun d s r off q K => z0o (ty := 45) (by simp [o1, o2, nx, n1, n2, n3, n4, n5]) q K
  have pd : ∀ (d : Lo) (s : Lo) (r : AObj) (off : Nat) (q : Option Nat) (K : AV → Prop), z02 q (.ptr H.next off) (((((H.push (AObj.row 53 [AV.int IntKind.i64 0, AV.int IntKind.i64 0, AV.bool false])).push (AObj.row 53 [AV.int IntKind.i64 0, AV.int IntKind.i64 0, AV.bool false])).put H.next (.row 53 d.cells)).put (H.push (AObj.row 53 [AV.int IntKind.i64 0, AV.int IntKind.i64 0, AV.bool false])).next (.row 53 s.cells)).push r) K = z0h q d.cells off K := fun d s r off q K => z0o (ty := 53) (by simp [o1, o2, nx, n1, n2, n3, n4, n5]) q K
  have qx : ∀ (s : Lo) (r : AObj) (off : Nat) (q : Option Nat) (K : AV → Prop), z02 q (.ptr (h.next + 1) off) ((((H.push (AObj.row 53 [AV.int IntKind.i64 0, AV.int IntKind.i64 0, AV.bool false])).push (AObj.row 53 [AV.int IntKind.i64 0, AV.int IntKind.i64 0, AV.bool false])).put (H.push (AObj.row 53 [AV.int IntKind.i64 0, AV.int IntKind.i64 0, AV.bool false])).next (.row 53 s.cells)).push r) K = z0h q x.cells off K := fun s r off q K => z0o (ty := 45) (by simp [o1, o2, nx, n1, n2, n3, n4, n5]) q K
  have kDSp : ∀ (d s : Lo) (r : AObj), Keeps h (((((H.push (AObj.row 53 [AV.int IntKind.i64 0, AV.int IntKind.i64 0, AV.bool false])).push (AObj.row 53 [AV.int IntKind.i64 0, AV.int IntKind.i64 0, AV.bool false])).put H.next (.row 53 d.cells)).put (H.push (AObj.row 53 [AV.int IntKind.i64 0, AV.int IntKind.i64 0, AV.bool false])).next (.row 53 s.cells)).push r) (fun _ => False) := fun d s r => (keeps_put (keeps_put ((kH.go (Keeps.one _ _)).go (Keeps.one _ _)) (by omega) _) (by simp; omega) _).go (Keeps.one _ _)
  have kSp : ∀ (s : Lo) (r : AObj), Keeps h ((((H.push (AObj.row 53 [AV.int IntKind.i64 0, AV.int IntKind.i64 0, AV.bool false])).push (AObj.row 53 [AV.int IntKind.i64 0, AV.int IntKind.i64 0, AV.bool false])).put (H.push (AObj.row 53 [AV.int IntKind.i64 0, AV.int IntKind.i64 0, AV.bool false])).next (.row 53 s.cells)).push r) (fun _ => False) := fun s r => (keeps_put ((kH.go (Keeps.one _ _)).go (Keeps.one _ _)) (by simp; omega) _).go (Keeps.one _ _)
  have kG : Keeps h ((H.push (AObj.row 53 [AV.int IntKind.i64 0, AV.int IntKind.i64 0, AV.bool false])).push (AObj.row 53 [AV.int IntKind.i64 0, AV.int IntKind.i64 0, AV.bool false])) (fun _ => False) := (kH.go (Keeps.one _ _)).go (Keeps.one _ _)
  have kD : ∀ d : Lo, Keeps h (((H.push (AObj.row 53 [AV.int IntKind.i64 0, AV.int IntKind.i64 0, AV.bool false])).push (AObj.row 53 [AV.int IntKind.i64 0, AV.int IntKind.i64 0, AV.bool false])).put H.next (.row 53 d.cells)) (fun _ => False) := fun d => keeps_put kG (by omega) _
  have kS : ∀ s : Lo, Keeps h (((H.push (AObj.row 53 [AV.int IntKind.i64 0, AV.int IntKind.i64 0, AV.bool false])).push (AObj.row 53 [AV.int IntKind.i64 0, AV.int IntKind.i64 0, AV.bool false])).put (H.push (AObj.row 53 [AV.int IntKind.i64 0, AV.int IntKind.i64 0, AV.bool false])).next (.row 53 s.cells)) (fun _ => False) := fun s => keeps_put kG (by simp; omega) _
  have kDS : ∀ d s : Lo, Keeps h ((((H.push (AObj.row 53 [AV.int IntKind.i64 0, AV.int IntKind.i64 0, AV.bool false])).push (AObj.row 53 [AV.int IntKind.i64 0, AV.int IntKind.i64 0, AV.bool false])).put H.next (.row 53 d.cells)).put (H.push (AObj.row 53 [AV.int IntKind.i64 0, AV.int IntKind.i64 0, AV.bool false])).next (.row 53 s.cells)) (fun _ => False) := fun d s => keeps_put (kD d) (by simp; omega) _
  exact ⟨l1, l2, g0, g1, std, dd0, dd1, dd3, sts, ss0, ss1, ss4, stds, ds0, ds1, ds3, ds4, px, pd, qx, kDSp, kSp, kG, kD, kS, kDS⟩
end Go.Proofs.Ytnggcokgnblpgaa
end

section
/- What the document's instr computes, kind by kind. -/
set_option maxRecDepth 100000
set_option maxHeartbeats 4000000
namespace Go.Proofs.Ytnggcokgnblpgaa
open Go.Abs
theorem ri_1 (c : Cd) (hc : c.ok) (hs : (slL c.Sections).length ≤ 1000000) (t a : Int) (b : Bd) (x : In) (hb : getI (slL c.Threads) t = some b) (hx : getI (slL b.Code) a = some x) (hsl : ∀ l ∈ slL b.Slots, z1a c l = true)
    (hn : okI (slL b.Slots).length) (hit : okSl z0k.ok x.Items) (hix : okSl z0k.ok x.Index) (hitl : (slL x.Items).length ≤ 1000000) (hixl : (slL x.Index).length ≤ 1000000) (hcl : (slL b.Code).length ≤ 1000000) (hop : x.Op = 1) (h : z04) :
    z03 Try.prog 24 [.agg c.cells, .int .i64 t, .int .i64 a] h (fun v h2 => v = .bool (z1m c t b x a && (decide (x.Op = 17) == decide (a = (slL b.Code).length - 1))) ∧ Keeps h h2 (fun _ => False)) := by
  have kind : ∀ n : Int, btw n (slL b.Slots).length = true → ((gD b.Slots n).Kind = 1 ∨ (gD b.Slots n).Kind = 3) → (gD b.Slots n).Rec = 0 := fun n hq hk => by
    have := hsl _ (z3b (z1v hq))
    unfold z1a at this
    rw [if_neg (by omega)] at this
    simp only [Bool.and_eq_true, decide_eq_true_eq] at this
    exact this.2
  have hl := z3l 1
  have nq : (hasS 1 == [63]) = false := rfl
  have f100 : (hasS 1).contains 100 = true := rfl
  have f115 : (hasS 1).contains 115 = false := rfl
  have f114 : (hasS 1).contains 114 = false := rfl
  have f110 : (hasS 1).contains 110 = false := rfl
  have f116 : (hasS 1).contains 116 = false := rfl
  have f105 : (hasS 1).contains 105 = true := rfl
  have f120 : (hasS 1).contains 120 = false := rfl
  have wl : IntKind.i64.wrap (((slL b.Code).length : Int) - 1) = ((slL b.Code).length : Int) - 1 := wrapI (by omega) (by omega)
  apply z11
  (repeat (first | simp -dsimp -implicitDefEqProofs (disch := omega) only [↓rP, rQ, rO, rL, ↓reduceIte, Nat.reduceEqDiff, Nat.reduceAdd, Nat.reduceLeDiff, z01, z05, ↓tyr, ixI hb, ixI hx] | refine Cut.go ?_))
  have e2 : (h.push (.row 49 b.cells)).next = h.next + 1 := rfl
  have o1 : ((h.push (.row 49 b.cells)).push (.row 45 x.cells)).objs h.next = some (.row 49 b.cells) := by simp
  have o2 : ((h.push (.row 49 b.cells)).push (.row 45 x.cells)).objs (h.next + 1) = some (.row 45 x.cells) := by simp
  have nx : ((h.push (.row 49 b.cells)).push (.row 45 x.cells)).next = h.next + 2 := rfl
  have kH : Keeps h ((h.push (.row 49 b.cells)).push (.row 45 x.cells)) (fun _ => False) := (Keeps.one _ _).go (Keeps.one _ _)
  rw [e2]
  generalize ((h.push (.row 49 b.cells)).push (.row 45 x.cells)) = H at *
  simp only [hop]
  obtain ⟨l1, l2, g0, g1, std, dd0, dd1, dd3, sts, ss0, ss1, ss4, stds, ds0, ds1, ds3, ds4, px, pd, qx, kDSp, kSp, kG, kD, kS, kDS⟩ := z3o o1 o2 nx kH
  refine z03.go (z1k 1 _) ?_
  repeat' (first | (simp -dsimp -implicitDefEqProofs only [↓rP, rQ, rL, ↓reduceIte, Nat.reduceEqDiff, Nat.reduceAdd, Nat.reduceLeDiff, z01, z05, ↓tyr, Int.reduceBEq, Int.reduceBNe, Int.reduceLT, Int.reduceLE, decide_true, decide_false, f100, f115, f114, f110, f116, f105, f120, nq, hop, ↓l1, ↓l2, wl, ixI hb, ixI hx, ↓g0, ↓g1, ↓std, ↓dd0, ↓dd1, ↓dd3, ↓sts, ↓ss0, ↓ss1, ↓ss4, ↓stds, ↓ds0, ↓ds1, ↓ds3, ↓ds4, ↓px, ↓pd, ↓qx]) | with_reducible refine Cut.go ?_ | with_reducible refine z03.go (has_100 _ hl _) ?_ | with_reducible refine z03.go (has_115 _ hl _) ?_ | with_reducible refine z03.go (has_114 _ hl _) ?_ | with_reducible refine z03.go (has_110 _ hl _) ?_ | with_reducible refine z03.go (has_116 _ hl _) ?_ | with_reducible refine z03.go (has_105 _ hl _) ?_ | with_reducible refine z03.go (has_120 _ hl _) ?_ | with_reducible refine z03.go (z1c _ _ _) ?_ | with_reducible refine z03.go (z1o c hs _ _ _) ?_ | with_reducible refine z03.go (z10 _ hn _ hit hitl _) ?_ | with_reducible refine z03.go (z10 _ hn _ hix hixl _) ?_ | with_reducible refine ixB_go (by assumption) ?_ | unfold z0q | unfold z0r | unfold z0s | unfold z0t | unfold z0u | (with_reducible refine Split.intro (fun hq => ?_) (fun hq => ?_) <;> (try simp only [Bool.not_eq_true', Bool.not_eq_false'] at hq) <;> (try rw [hq])))
  all_goals clear l1 l2 g0 g1 std dd0 dd1 dd3 sts ss0 ss1 ss4 stds ds0 ds1 ds3 ds4 px pd qx o1 o2
  all_goals refine And.intro (congrArg AV.bool ?_) (by first | exact kH | exact kG | exact kD _ | exact kS _ | exact kDS _ _ | exact kDSp _ _ _ | exact kSp _ _)
  all_goals clear kH kG kD kS kDS kDSp kSp nx wl nq hl f100 f115 f114 f110 f116 f105 f120 e2 hb hx hcl hixl hitl hix hit hn hs hc
  all_goals have kd := kind x.Dst
  all_goals have ks := kind x.Src
  all_goals clear kind
  all_goals clear hsl
  all_goals simp_all [z2u, z1m, z3t, z3f, z3q, z18, goesB, z2m, siteB, sameB, isB_btw, z5c, List.length_pos_iff, z1v, z5b, z3p]
  all_goals try omega
  all_goals try (rw [Bool.eq_iff_iff]; simp_all [beqI]; try omega)
  all_goals try (split <;> simp_all)
  all_goals try omega
theorem ri_11 (c : Cd) (hc : c.ok) (hs : (slL c.Sections).length ≤ 1000000) (t a : Int) (b : Bd) (x : In) (hb : getI (slL c.Threads) t = some b) (hx : getI (slL b.Code) a = some x) (hsl : ∀ l ∈ slL b.Slots, z1a c l = true)
    (hn : okI (slL b.Slots).length) (hit : okSl z0k.ok x.Items) (hix : okSl z0k.ok x.Index) (hitl : (slL x.Items).length ≤ 1000000) (hixl : (slL x.Index).length ≤ 1000000) (hcl : (slL b.Code).length ≤ 1000000) (hop : x.Op = 11) (h : z04) :
    z03 Try.prog 24 [.agg c.cells, .int .i64 t, .int .i64 a] h (fun v h2 => v = .bool (z1m c t b x a && (decide (x.Op = 17) == decide (a = (slL b.Code).length - 1))) ∧ Keeps h h2 (fun _ => False)) := by
  have kind : ∀ n : Int, btw n (slL b.Slots).length = true → ((gD b.Slots n).Kind = 1 ∨ (gD b.Slots n).Kind = 3) → (gD b.Slots n).Rec = 0 := fun n hq hk => by
    have := hsl _ (z3b (z1v hq))
    unfold z1a at this
    rw [if_neg (by omega)] at this
    simp only [Bool.and_eq_true, decide_eq_true_eq] at this
    exact this.2
  have hl := z3l 11
  have nq : (hasS 11 == [63]) = false := rfl
  have f100 : (hasS 11).contains 100 = false := rfl
  have f115 : (hasS 11).contains 115 = false := rfl
  have f114 : (hasS 11).contains 114 = false := rfl
  have f110 : (hasS 11).contains 110 = false := rfl
  have f116 : (hasS 11).contains 116 = false := rfl
  have f105 : (hasS 11).contains 105 = true := rfl
  have f120 : (hasS 11).contains 120 = false := rfl
  have wl : IntKind.i64.wrap (((slL b.Code).length : Int) - 1) = ((slL b.Code).length : Int) - 1 := wrapI (by omega) (by omega)
  apply z11
  (repeat (first | simp -dsimp -implicitDefEqProofs (disch := omega) only [↓rP, rQ, rO, rL, ↓reduceIte, Nat.reduceEqDiff, Nat.reduceAdd, Nat.reduceLeDiff, z01, z05, ↓tyr, ixI hb, ixI hx] | refine Cut.go ?_))
  have e2 : (h.push (.row 49 b.cells)).next = h.next + 1 := rfl
  have o1 : ((h.push (.row 49 b.cells)).push (.row 45 x.cells)).objs h.next = some (.row 49 b.cells) := by simp
  have o2 : ((h.push (.row 49 b.cells)).push (.row 45 x.cells)).objs (h.next + 1) = some (.row 45 x.cells) := by simp
  have nx : ((h.push (.row 49 b.cells)).push (.row 45 x.cells)).next = h.next + 2 := rfl
  have kH : Keeps h ((h.push (.row 49 b.cells)).push (.row 45 x.cells)) (fun _ => False) := (Keeps.one _ _).go (Keeps.one _ _)
  rw [e2]
  generalize ((h.push (.row 49 b.cells)).push (.row 45 x.cells)) = H at *
  simp only [hop]
  obtain ⟨l1, l2, g0, g1, std, dd0, dd1, dd3, sts, ss0, ss1, ss4, stds, ds0, ds1, ds3, ds4, px, pd, qx, kDSp, kSp, kG, kD, kS, kDS⟩ := z3o o1 o2 nx kH
  refine z03.go (z1k 11 _) ?_
  repeat' (first | (simp -dsimp -implicitDefEqProofs only [↓rP, rQ, rL, ↓reduceIte, Nat.reduceEqDiff, Nat.reduceAdd, Nat.reduceLeDiff, z01, z05, ↓tyr, Int.reduceBEq, Int.reduceBNe, Int.reduceLT, Int.reduceLE, decide_true, decide_false, f100, f115, f114, f110, f116, f105, f120, nq, hop, ↓l1, ↓l2, wl, ixI hb, ixI hx, ↓g0, ↓g1, ↓std, ↓dd0, ↓dd1, ↓dd3, ↓sts, ↓ss0, ↓ss1, ↓ss4, ↓stds, ↓ds0, ↓ds1, ↓ds3, ↓ds4, ↓px, ↓pd, ↓qx]) | with_reducible refine Cut.go ?_ | with_reducible refine z03.go (has_100 _ hl _) ?_ | with_reducible refine z03.go (has_115 _ hl _) ?_ | with_reducible refine z03.go (has_114 _ hl _) ?_ | with_reducible refine z03.go (has_110 _ hl _) ?_ | with_reducible refine z03.go (has_116 _ hl _) ?_ | with_reducible refine z03.go (has_105 _ hl _) ?_ | with_reducible refine z03.go (has_120 _ hl _) ?_ | with_reducible refine z03.go (z1c _ _ _) ?_ | with_reducible refine z03.go (z1o c hs _ _ _) ?_ | with_reducible refine z03.go (z10 _ hn _ hit hitl _) ?_ | with_reducible refine z03.go (z10 _ hn _ hix hixl _) ?_ | with_reducible refine ixB_go (by assumption) ?_ | unfold z0q | unfold z0r | unfold z0s | unfold z0t | unfold z0u | (with_reducible refine Split.intro (fun hq => ?_) (fun hq => ?_) <;> (try simp only [Bool.not_eq_true', Bool.not_eq_false'] at hq) <;> (try rw [hq])))
  all_goals clear l1 l2 g0 g1 std dd0 dd1 dd3 sts ss0 ss1 ss4 stds ds0 ds1 ds3 ds4 px pd qx o1 o2
  all_goals refine And.intro (congrArg AV.bool ?_) (by first | exact kH | exact kG | exact kD _ | exact kS _ | exact kDS _ _ | exact kDSp _ _ _ | exact kSp _ _)
  all_goals clear kH kG kD kS kDS kDSp kSp nx wl nq hl f100 f115 f114 f110 f116 f105 f120 e2 hb hx hcl hixl hitl hix hit hn hs hc
  all_goals have kd := kind x.Dst
  all_goals have ks := kind x.Src
  all_goals clear kind
  all_goals clear hsl
  all_goals simp_all [z2u, z1m, z3t, z3f, z3q, z18, goesB, z2m, siteB, sameB, isB_btw, z5c, List.length_pos_iff, z1v, z5b, z3p]
  all_goals try omega
  all_goals try (rw [Bool.eq_iff_iff]; simp_all [beqI]; try omega)
  all_goals try (split <;> simp_all)
  all_goals try omega
theorem ri_12 (c : Cd) (hc : c.ok) (hs : (slL c.Sections).length ≤ 1000000) (t a : Int) (b : Bd) (x : In) (hb : getI (slL c.Threads) t = some b) (hx : getI (slL b.Code) a = some x) (hsl : ∀ l ∈ slL b.Slots, z1a c l = true)
    (hn : okI (slL b.Slots).length) (hit : okSl z0k.ok x.Items) (hix : okSl z0k.ok x.Index) (hitl : (slL x.Items).length ≤ 1000000) (hixl : (slL x.Index).length ≤ 1000000) (hcl : (slL b.Code).length ≤ 1000000) (hop : x.Op = 12) (h : z04) :
    z03 Try.prog 24 [.agg c.cells, .int .i64 t, .int .i64 a] h (fun v h2 => v = .bool (z1m c t b x a && (decide (x.Op = 17) == decide (a = (slL b.Code).length - 1))) ∧ Keeps h h2 (fun _ => False)) := by
  have kind : ∀ n : Int, btw n (slL b.Slots).length = true → ((gD b.Slots n).Kind = 1 ∨ (gD b.Slots n).Kind = 3) → (gD b.Slots n).Rec = 0 := fun n hq hk => by
    have := hsl _ (z3b (z1v hq))
    unfold z1a at this
    rw [if_neg (by omega)] at this
    simp only [Bool.and_eq_true, decide_eq_true_eq] at this
    exact this.2
  have hl := z3l 12
  have nq : (hasS 12 == [63]) = false := rfl
  have f100 : (hasS 12).contains 100 = false := rfl
  have f115 : (hasS 12).contains 115 = false := rfl
  have f114 : (hasS 12).contains 114 = false := rfl
  have f110 : (hasS 12).contains 110 = false := rfl
  have f116 : (hasS 12).contains 116 = false := rfl
  have f105 : (hasS 12).contains 105 = true := rfl
  have f120 : (hasS 12).contains 120 = false := rfl
  have wl : IntKind.i64.wrap (((slL b.Code).length : Int) - 1) = ((slL b.Code).length : Int) - 1 := wrapI (by omega) (by omega)
  apply z11
  (repeat (first | simp -dsimp -implicitDefEqProofs (disch := omega) only [↓rP, rQ, rO, rL, ↓reduceIte, Nat.reduceEqDiff, Nat.reduceAdd, Nat.reduceLeDiff, z01, z05, ↓tyr, ixI hb, ixI hx] | refine Cut.go ?_))
  have e2 : (h.push (.row 49 b.cells)).next = h.next + 1 := rfl
  have o1 : ((h.push (.row 49 b.cells)).push (.row 45 x.cells)).objs h.next = some (.row 49 b.cells) := by simp
  have o2 : ((h.push (.row 49 b.cells)).push (.row 45 x.cells)).objs (h.next + 1) = some (.row 45 x.cells) := by simp
  have nx : ((h.push (.row 49 b.cells)).push (.row 45 x.cells)).next = h.next + 2 := rfl
  have kH : Keeps h ((h.push (.row 49 b.cells)).push (.row 45 x.cells)) (fun _ => False) := (Keeps.one _ _).go (Keeps.one _ _)
  rw [e2]
  generalize ((h.push (.row 49 b.cells)).push (.row 45 x.cells)) = H at *
  simp only [hop]
  obtain ⟨l1, l2, g0, g1, std, dd0, dd1, dd3, sts, ss0, ss1, ss4, stds, ds0, ds1, ds3, ds4, px, pd, qx, kDSp, kSp, kG, kD, kS, kDS⟩ := z3o o1 o2 nx kH
  refine z03.go (z1k 12 _) ?_
  repeat' (first | (simp -dsimp -implicitDefEqProofs only [↓rP, rQ, rL, ↓reduceIte, Nat.reduceEqDiff, Nat.reduceAdd, Nat.reduceLeDiff, z01, z05, ↓tyr, Int.reduceBEq, Int.reduceBNe, Int.reduceLT, Int.reduceLE, decide_true, decide_false, f100, f115, f114, f110, f116, f105, f120, nq, hop, ↓l1, ↓l2, wl, ixI hb, ixI hx, ↓g0, ↓g1, ↓std, ↓dd0, ↓dd1, ↓dd3, ↓sts, ↓ss0, ↓ss1, ↓ss4, ↓stds, ↓ds0, ↓ds1, ↓ds3, ↓ds4, ↓px, ↓pd, ↓qx]) | with_reducible refine Cut.go ?_ | with_reducible refine z03.go (has_100 _ hl _) ?_ | with_reducible refine z03.go (has_115 _ hl _) ?_ | with_reducible refine z03.go (has_114 _ hl _) ?_ | with_reducible refine z03.go (has_110 _ hl _) ?_ | with_reducible refine z03.go (has_116 _ hl _) ?_ | with_reducible refine z03.go (has_105 _ hl _) ?_ | with_reducible refine z03.go (has_120 _ hl _) ?_ | with_reducible refine z03.go (z1c _ _ _) ?_ | with_reducible refine z03.go (z1o c hs _ _ _) ?_ | with_reducible refine z03.go (z10 _ hn _ hit hitl _) ?_ | with_reducible refine z03.go (z10 _ hn _ hix hixl _) ?_ | with_reducible refine ixB_go (by assumption) ?_ | unfold z0q | unfold z0r | unfold z0s | unfold z0t | unfold z0u | (with_reducible refine Split.intro (fun hq => ?_) (fun hq => ?_) <;> (try simp only [Bool.not_eq_true', Bool.not_eq_false'] at hq) <;> (try rw [hq])))
  all_goals clear l1 l2 g0 g1 std dd0 dd1 dd3 sts ss0 ss1 ss4 stds ds0 ds1 ds3 ds4 px pd qx o1 o2
  all_goals refine And.intro (congrArg AV.bool ?_) (by first | exact kH | exact kG | exact kD _ | exact kS _ | exact kDS _ _ | exact kDSp _ _ _ | exact kSp _ _)
  all_goals clear kH kG kD kS kDS kDSp kSp nx wl nq hl f100 f115 f114 f110 f116 f105 f120 e2 hb hx hcl hixl hitl hix hit hn hs hc
  all_goals have kd := kind x.Dst
  all_goals have ks := kind x.Src
  all_goals clear kind
  all_goals clear hsl
  all_goals simp_all [z2u, z1m, z3t, z3f, z3q, z18, goesB, z2m, siteB, sameB, isB_btw, z5c, List.length_pos_iff, z1v, z5b, z3p]
  all_goals try omega
  all_goals try (rw [Bool.eq_iff_iff]; simp_all [beqI]; try omega)
  all_goals try (split <;> simp_all)
  all_goals try omega
theorem ri_13 (c : Cd) (hc : c.ok) (hs : (slL c.Sections).length ≤ 1000000) (t a : Int) (b : Bd) (x : In) (hb : getI (slL c.Threads) t = some b) (hx : getI (slL b.Code) a = some x) (hsl : ∀ l ∈ slL b.Slots, z1a c l = true)
    (hn : okI (slL b.Slots).length) (hit : okSl z0k.ok x.Items) (hix : okSl z0k.ok x.Index) (hitl : (slL x.Items).length ≤ 1000000) (hixl : (slL x.Index).length ≤ 1000000) (hcl : (slL b.Code).length ≤ 1000000) (hop : x.Op = 13) (h : z04) :
    z03 Try.prog 24 [.agg c.cells, .int .i64 t, .int .i64 a] h (fun v h2 => v = .bool (z1m c t b x a && (decide (x.Op = 17) == decide (a = (slL b.Code).length - 1))) ∧ Keeps h h2 (fun _ => False)) := by
  have kind : ∀ n : Int, btw n (slL b.Slots).length = true → ((gD b.Slots n).Kind = 1 ∨ (gD b.Slots n).Kind = 3) → (gD b.Slots n).Rec = 0 := fun n hq hk => by
    have := hsl _ (z3b (z1v hq))
    unfold z1a at this
    rw [if_neg (by omega)] at this
    simp only [Bool.and_eq_true, decide_eq_true_eq] at this
    exact this.2
  have hl := z3l 13
  have nq : (hasS 13 == [63]) = false := rfl
  have f100 : (hasS 13).contains 100 = false := rfl
  have f115 : (hasS 13).contains 115 = false := rfl
  have f114 : (hasS 13).contains 114 = false := rfl
  have f110 : (hasS 13).contains 110 = false := rfl
  have f116 : (hasS 13).contains 116 = true := rfl
  have f105 : (hasS 13).contains 105 = false := rfl
  have f120 : (hasS 13).contains 120 = false := rfl
  have wl : IntKind.i64.wrap (((slL b.Code).length : Int) - 1) = ((slL b.Code).length : Int) - 1 := wrapI (by omega) (by omega)
  apply z11
  (repeat (first | simp -dsimp -implicitDefEqProofs (disch := omega) only [↓rP, rQ, rO, rL, ↓reduceIte, Nat.reduceEqDiff, Nat.reduceAdd, Nat.reduceLeDiff, z01, z05, ↓tyr, ixI hb, ixI hx] | refine Cut.go ?_))
  have e2 : (h.push (.row 49 b.cells)).next = h.next + 1 := rfl
  have o1 : ((h.push (.row 49 b.cells)).push (.row 45 x.cells)).objs h.next = some (.row 49 b.cells) := by simp
  have o2 : ((h.push (.row 49 b.cells)).push (.row 45 x.cells)).objs (h.next + 1) = some (.row 45 x.cells) := by simp
  have nx : ((h.push (.row 49 b.cells)).push (.row 45 x.cells)).next = h.next + 2 := rfl
  have kH : Keeps h ((h.push (.row 49 b.cells)).push (.row 45 x.cells)) (fun _ => False) := (Keeps.one _ _).go (Keeps.one _ _)
  rw [e2]
  generalize ((h.push (.row 49 b.cells)).push (.row 45 x.cells)) = H at *
  simp only [hop]
  obtain ⟨l1, l2, g0, g1, std, dd0, dd1, dd3, sts, ss0, ss1, ss4, stds, ds0, ds1, ds3, ds4, px, pd, qx, kDSp, kSp, kG, kD, kS, kDS⟩ := z3o o1 o2 nx kH
  refine z03.go (z1k 13 _) ?_
  repeat' (first | (simp -dsimp -implicitDefEqProofs only [↓rP, rQ, rL, ↓reduceIte, Nat.reduceEqDiff, Nat.reduceAdd, Nat.reduceLeDiff, z01, z05, ↓tyr, Int.reduceBEq, Int.reduceBNe, Int.reduceLT, Int.reduceLE, decide_true, decide_false, f100, f115, f114, f110, f116, f105, f120, nq, hop, ↓l1, ↓l2, wl, ixI hb, ixI hx, ↓g0, ↓g1, ↓std, ↓dd0, ↓dd1, ↓dd3, ↓sts, ↓ss0, ↓ss1, ↓ss4, ↓stds, ↓ds0, ↓ds1, ↓ds3, ↓ds4, ↓px, ↓pd, ↓qx]) | with_reducible refine Cut.go ?_ | with_reducible refine z03.go (has_100 _ hl _) ?_ | with_reducible refine z03.go (has_115 _ hl _) ?_ | with_reducible refine z03.go (has_114 _ hl _) ?_ | with_reducible refine z03.go (has_110 _ hl _) ?_ | with_reducible refine z03.go (has_116 _ hl _) ?_ | with_reducible refine z03.go (has_105 _ hl _) ?_ | with_reducible refine z03.go (has_120 _ hl _) ?_ | with_reducible refine z03.go (z1c _ _ _) ?_ | with_reducible refine z03.go (z1o c hs _ _ _) ?_ | with_reducible refine z03.go (z10 _ hn _ hit hitl _) ?_ | with_reducible refine z03.go (z10 _ hn _ hix hixl _) ?_ | with_reducible refine ixB_go (by assumption) ?_ | unfold z0q | unfold z0r | unfold z0s | unfold z0t | unfold z0u | (with_reducible refine Split.intro (fun hq => ?_) (fun hq => ?_) <;> (try simp only [Bool.not_eq_true', Bool.not_eq_false'] at hq) <;> (try rw [hq])))
  all_goals clear l1 l2 g0 g1 std dd0 dd1 dd3 sts ss0 ss1 ss4 stds ds0 ds1 ds3 ds4 px pd qx o1 o2
  all_goals refine And.intro (congrArg AV.bool ?_) (by first | exact kH | exact kG | exact kD _ | exact kS _ | exact kDS _ _ | exact kDSp _ _ _ | exact kSp _ _)
  all_goals clear kH kG kD kS kDS kDSp kSp nx wl nq hl f100 f115 f114 f110 f116 f105 f120 e2 hb hx hcl hixl hitl hix hit hn hs hc
  all_goals have kd := kind x.Dst
  all_goals have ks := kind x.Src
  all_goals clear kind
  all_goals clear hsl
  all_goals simp_all [z2u, z1m, z3t, z3f, z3q, z18, goesB, z2m, siteB, sameB, isB_btw, z5c, List.length_pos_iff, z1v, z5b, z3p]
  all_goals try omega
  all_goals try (rw [Bool.eq_iff_iff]; simp_all [beqI]; try omega)
  all_goals try (split <;> simp_all)
  all_goals try omega
theorem ri_14 (c : Cd) (hc : c.ok) (hs : (slL c.Sections).length ≤ 1000000) (t a : Int) (b : Bd) (x : In) (hb : getI (slL c.Threads) t = some b) (hx : getI (slL b.Code) a = some x) (hsl : ∀ l ∈ slL b.Slots, z1a c l = true)
    (hn : okI (slL b.Slots).length) (hit : okSl z0k.ok x.Items) (hix : okSl z0k.ok x.Index) (hitl : (slL x.Items).length ≤ 1000000) (hixl : (slL x.Index).length ≤ 1000000) (hcl : (slL b.Code).length ≤ 1000000) (hop : x.Op = 14) (h : z04) :
    z03 Try.prog 24 [.agg c.cells, .int .i64 t, .int .i64 a] h (fun v h2 => v = .bool (z1m c t b x a && (decide (x.Op = 17) == decide (a = (slL b.Code).length - 1))) ∧ Keeps h h2 (fun _ => False)) := by
  have kind : ∀ n : Int, btw n (slL b.Slots).length = true → ((gD b.Slots n).Kind = 1 ∨ (gD b.Slots n).Kind = 3) → (gD b.Slots n).Rec = 0 := fun n hq hk => by
    have := hsl _ (z3b (z1v hq))
    unfold z1a at this
    rw [if_neg (by omega)] at this
    simp only [Bool.and_eq_true, decide_eq_true_eq] at this
    exact this.2
  have hl := z3l 14
  have nq : (hasS 14 == [63]) = false := rfl
  have f100 : (hasS 14).contains 100 = false := rfl
  have f115 : (hasS 14).contains 115 = false := rfl
  have f114 : (hasS 14).contains 114 = false := rfl
  have f110 : (hasS 14).contains 110 = false := rfl
  have f116 : (hasS 14).contains 116 = true := rfl
  have f105 : (hasS 14).contains 105 = true := rfl
  have f120 : (hasS 14).contains 120 = false := rfl
  have wl : IntKind.i64.wrap (((slL b.Code).length : Int) - 1) = ((slL b.Code).length : Int) - 1 := wrapI (by omega) (by omega)
  apply z11
  (repeat (first | simp -dsimp -implicitDefEqProofs (disch := omega) only [↓rP, rQ, rO, rL, ↓reduceIte, Nat.reduceEqDiff, Nat.reduceAdd, Nat.reduceLeDiff, z01, z05, ↓tyr, ixI hb, ixI hx] | refine Cut.go ?_))
  have e2 : (h.push (.row 49 b.cells)).next = h.next + 1 := rfl
  have o1 : ((h.push (.row 49 b.cells)).push (.row 45 x.cells)).objs h.next = some (.row 49 b.cells) := by simp
  have o2 : ((h.push (.row 49 b.cells)).push (.row 45 x.cells)).objs (h.next + 1) = some (.row 45 x.cells) := by simp
  have nx : ((h.push (.row 49 b.cells)).push (.row 45 x.cells)).next = h.next + 2 := rfl
  have kH : Keeps h ((h.push (.row 49 b.cells)).push (.row 45 x.cells)) (fun _ => False) := (Keeps.one _ _).go (Keeps.one _ _)
  rw [e2]
  generalize ((h.push (.row 49 b.cells)).push (.row 45 x.cells)) = H at *
  simp only [hop]
  obtain ⟨l1, l2, g0, g1, std, dd0, dd1, dd3, sts, ss0, ss1, ss4, stds, ds0, ds1, ds3, ds4, px, pd, qx, kDSp, kSp, kG, kD, kS, kDS⟩ := z3o o1 o2 nx kH
  refine z03.go (z1k 14 _) ?_
  repeat' (first | (simp -dsimp -implicitDefEqProofs only [↓rP, rQ, rL, ↓reduceIte, Nat.reduceEqDiff, Nat.reduceAdd, Nat.reduceLeDiff, z01, z05, ↓tyr, Int.reduceBEq, Int.reduceBNe, Int.reduceLT, Int.reduceLE, decide_true, decide_false, f100, f115, f114, f110, f116, f105, f120, nq, hop, ↓l1, ↓l2, wl, ixI hb, ixI hx, ↓g0, ↓g1, ↓std, ↓dd0, ↓dd1, ↓dd3, ↓sts, ↓ss0, ↓ss1, ↓ss4, ↓stds, ↓ds0, ↓ds1, ↓ds3, ↓ds4, ↓px, ↓pd, ↓qx]) | with_reducible refine Cut.go ?_ | with_reducible refine z03.go (has_100 _ hl _) ?_ | with_reducible refine z03.go (has_115 _ hl _) ?_ | with_reducible refine z03.go (has_114 _ hl _) ?_ | with_reducible refine z03.go (has_110 _ hl _) ?_ | with_reducible refine z03.go (has_116 _ hl _) ?_ | with_reducible refine z03.go (has_105 _ hl _) ?_ | with_reducible refine z03.go (has_120 _ hl _) ?_ | with_reducible refine z03.go (z1c _ _ _) ?_ | with_reducible refine z03.go (z1o c hs _ _ _) ?_ | with_reducible refine z03.go (z10 _ hn _ hit hitl _) ?_ | with_reducible refine z03.go (z10 _ hn _ hix hixl _) ?_ | with_reducible refine ixB_go (by assumption) ?_ | unfold z0q | unfold z0r | unfold z0s | unfold z0t | unfold z0u | (with_reducible refine Split.intro (fun hq => ?_) (fun hq => ?_) <;> (try simp only [Bool.not_eq_true', Bool.not_eq_false'] at hq) <;> (try rw [hq])))
  all_goals clear l1 l2 g0 g1 std dd0 dd1 dd3 sts ss0 ss1 ss4 stds ds0 ds1 ds3 ds4 px pd qx o1 o2
  all_goals refine And.intro (congrArg AV.bool ?_) (by first | exact kH | exact kG | exact kD _ | exact kS _ | exact kDS _ _ | exact kDSp _ _ _ | exact kSp _ _)
  all_goals clear kH kG kD kS kDS kDSp kSp nx wl nq hl f100 f115 f114 f110 f116 f105 f120 e2 hb hx hcl hixl hitl hix hit hn hs hc
  all_goals have kd := kind x.Dst
  all_goals have ks := kind x.Src
  all_goals clear kind
  all_goals clear hsl
  all_goals simp_all [z2u, z1m, z3t, z3f, z3q, z18, goesB, z2m, siteB, sameB, isB_btw, z5c, List.length_pos_iff, z1v, z5b, z3p]
  all_goals try omega
  all_goals try (rw [Bool.eq_iff_iff]; simp_all [beqI]; try omega)
  all_goals try (split <;> simp_all)
  all_goals try omega
theorem ri_17 (c : Cd) (hc : c.ok) (hs : (slL c.Sections).length ≤ 1000000) (t a : Int) (b : Bd) (x : In) (hb : getI (slL c.Threads) t = some b) (hx : getI (slL b.Code) a = some x) (hsl : ∀ l ∈ slL b.Slots, z1a c l = true)
    (hn : okI (slL b.Slots).length) (hit : okSl z0k.ok x.Items) (hix : okSl z0k.ok x.Index) (hitl : (slL x.Items).length ≤ 1000000) (hixl : (slL x.Index).length ≤ 1000000) (hcl : (slL b.Code).length ≤ 1000000) (hop : x.Op = 17) (h : z04) :
    z03 Try.prog 24 [.agg c.cells, .int .i64 t, .int .i64 a] h (fun v h2 => v = .bool (z1m c t b x a && (decide (x.Op = 17) == decide (a = (slL b.Code).length - 1))) ∧ Keeps h h2 (fun _ => False)) := by
  have kind : ∀ n : Int, btw n (slL b.Slots).length = true → ((gD b.Slots n).Kind = 1 ∨ (gD b.Slots n).Kind = 3) → (gD b.Slots n).Rec = 0 := fun n hq hk => by
    have := hsl _ (z3b (z1v hq))
    unfold z1a at this
    rw [if_neg (by omega)] at this
    simp only [Bool.and_eq_true, decide_eq_true_eq] at this
    exact this.2
  have hl := z3l 17
  have nq : (hasS 17 == [63]) = false := rfl
  have f100 : (hasS 17).contains 100 = false := rfl
  have f115 : (hasS 17).contains 115 = false := rfl
  have f114 : (hasS 17).contains 114 = false := rfl
  have f110 : (hasS 17).contains 110 = false := rfl
  have f116 : (hasS 17).contains 116 = false := rfl
  have f105 : (hasS 17).contains 105 = false := rfl
  have f120 : (hasS 17).contains 120 = false := rfl
  have wl : IntKind.i64.wrap (((slL b.Code).length : Int) - 1) = ((slL b.Code).length : Int) - 1 := wrapI (by omega) (by omega)
  apply z11
  (repeat (first | simp -dsimp -implicitDefEqProofs (disch := omega) only [↓rP, rQ, rO, rL, ↓reduceIte, Nat.reduceEqDiff, Nat.reduceAdd, Nat.reduceLeDiff, z01, z05, ↓tyr, ixI hb, ixI hx] | refine Cut.go ?_))
  have e2 : (h.push (.row 49 b.cells)).next = h.next + 1 := rfl
  have o1 : ((h.push (.row 49 b.cells)).push (.row 45 x.cells)).objs h.next = some (.row 49 b.cells) := by simp
  have o2 : ((h.push (.row 49 b.cells)).push (.row 45 x.cells)).objs (h.next + 1) = some (.row 45 x.cells) := by simp
  have nx : ((h.push (.row 49 b.cells)).push (.row 45 x.cells)).next = h.next + 2 := rfl
  have kH : Keeps h ((h.push (.row 49 b.cells)).push (.row 45 x.cells)) (fun _ => False) := (Keeps.one _ _).go (Keeps.one _ _)
  rw [e2]
  generalize ((h.push (.row 49 b.cells)).push (.row 45 x.cells)) = H at *
  simp only [hop]
  obtain ⟨l1, l2, g0, g1, std, dd0, dd1, dd3, sts, ss0, ss1, ss4, stds, ds0, ds1, ds3, ds4, px, pd, qx, kDSp, kSp, kG, kD, kS, kDS⟩ := z3o o1 o2 nx kH
  refine z03.go (z1k 17 _) ?_
  repeat' (first | (simp -dsimp -implicitDefEqProofs only [↓rP, rQ, rL, ↓reduceIte, Nat.reduceEqDiff, Nat.reduceAdd, Nat.reduceLeDiff, z01, z05, ↓tyr, Int.reduceBEq, Int.reduceBNe, Int.reduceLT, Int.reduceLE, decide_true, decide_false, f100, f115, f114, f110, f116, f105, f120, nq, hop, ↓l1, ↓l2, wl, ixI hb, ixI hx, ↓g0, ↓g1, ↓std, ↓dd0, ↓dd1, ↓dd3, ↓sts, ↓ss0, ↓ss1, ↓ss4, ↓stds, ↓ds0, ↓ds1, ↓ds3, ↓ds4, ↓px, ↓pd, ↓qx]) | with_reducible refine Cut.go ?_ | with_reducible refine z03.go (has_100 _ hl _) ?_ | with_reducible refine z03.go (has_115 _ hl _) ?_ | with_reducible refine z03.go (has_114 _ hl _) ?_ | with_reducible refine z03.go (has_110 _ hl _) ?_ | with_reducible refine z03.go (has_116 _ hl _) ?_ | with_reducible refine z03.go (has_105 _ hl _) ?_ | with_reducible refine z03.go (has_120 _ hl _) ?_ | with_reducible refine z03.go (z1c _ _ _) ?_ | with_reducible refine z03.go (z1o c hs _ _ _) ?_ | with_reducible refine z03.go (z10 _ hn _ hit hitl _) ?_ | with_reducible refine z03.go (z10 _ hn _ hix hixl _) ?_ | with_reducible refine ixB_go (by assumption) ?_ | unfold z0q | unfold z0r | unfold z0s | unfold z0t | unfold z0u | (with_reducible refine Split.intro (fun hq => ?_) (fun hq => ?_) <;> (try simp only [Bool.not_eq_true', Bool.not_eq_false'] at hq) <;> (try rw [hq])))
  all_goals clear l1 l2 g0 g1 std dd0 dd1 dd3 sts ss0 ss1 ss4 stds ds0 ds1 ds3 ds4 px pd qx o1 o2
  all_goals refine And.intro (congrArg AV.bool ?_) (by first | exact kH | exact kG | exact kD _ | exact kS _ | exact kDS _ _ | exact kDSp _ _ _ | exact kSp _ _)
  all_goals clear kH kG kD kS kDS kDSp kSp nx wl nq hl f100 f115 f114 f110 f116 f105 f120 e2 hb hx hcl hixl hitl hix hit hn hs hc
  all_goals have kd := kind x.Dst
  all_goals have ks := kind x.Src
  all_goals clear kind
  all_goals clear hsl
  all_goals simp_all [z2u, z1m, z3t, z3f, z3q, z18, goesB, z2m, siteB, sameB, isB_btw, z5c, List.length_pos_iff, z1v, z5b, z3p]
  all_goals try omega
  all_goals try (rw [Bool.eq_iff_iff]; simp_all [beqI]; try omega)
  all_goals try (split <;> simp_all)
  all_goals try omega
end Go.Proofs.Ytnggcokgnblpgaa
end

section
/- What the document's instr computes, kind by kind. -/
set_option maxRecDepth 100000
set_option maxHeartbeats 4000000
namespace Go.Proofs.Ytnggcokgnblpgaa
open Go.Abs
theorem ri_2 (c : Cd) (hc : c.ok) (hs : (slL c.Sections).length ≤ 1000000) (t a : Int) (b : Bd) (x : In) (hb : getI (slL c.Threads) t = some b) (hx : getI (slL b.Code) a = some x) (hsl : ∀ l ∈ slL b.Slots, z1a c l = true)
    (hn : okI (slL b.Slots).length) (hit : okSl z0k.ok x.Items) (hix : okSl z0k.ok x.Index) (hitl : (slL x.Items).length ≤ 1000000) (hixl : (slL x.Index).length ≤ 1000000) (hcl : (slL b.Code).length ≤ 1000000) (hop : x.Op = 2) (h : z04) :
    z03 Try.prog 24 [.agg c.cells, .int .i64 t, .int .i64 a] h (fun v h2 => v = .bool (z1m c t b x a && (decide (x.Op = 17) == decide (a = (slL b.Code).length - 1))) ∧ Keeps h h2 (fun _ => False)) := by
  have kind : ∀ n : Int, btw n (slL b.Slots).length = true → ((gD b.Slots n).Kind = 1 ∨ (gD b.Slots n).Kind = 3) → (gD b.Slots n).Rec = 0 := fun n hq hk => by
    have := hsl _ (z3b (z1v hq))
    unfold z1a at this
    rw [if_neg (by omega)] at this
    simp only [Bool.and_eq_true, decide_eq_true_eq] at this
    exact this.2
  have hl := z3l 2
  have nq : (hasS 2 == [63]) = false := rfl
  have f100 : (hasS 2).contains 100 = true := rfl
  have f115 : (hasS 2).contains 115 = false := rfl
  have f114 : (hasS 2).contains 114 = false := rfl
  have f110 : (hasS 2).contains 110 = true := rfl
  have f116 : (hasS 2).contains 116 = false := rfl
  have f105 : (hasS 2).contains 105 = false := rfl
  have f120 : (hasS 2).contains 120 = false := rfl
  have wl : IntKind.i64.wrap (((slL b.Code).length : Int) - 1) = ((slL b.Code).length : Int) - 1 := wrapI (by omega) (by omega)
  apply z11
  (repeat (first | simp -dsimp -implicitDefEqProofs (disch := omega) only [↓rP, rQ, rO, rL, ↓reduceIte, Nat.reduceEqDiff, Nat.reduceAdd, Nat.reduceLeDiff, z01, z05, ↓tyr, ixI hb, ixI hx] | refine Cut.go ?_))
  have e2 : (h.push (.row 49 b.cells)).next = h.next + 1 := rfl
  have o1 : ((h.push (.row 49 b.cells)).push (.row 45 x.cells)).objs h.next = some (.row 49 b.cells) := by simp
  have o2 : ((h.push (.row 49 b.cells)).push (.row 45 x.cells)).objs (h.next + 1) = some (.row 45 x.cells) := by simp
  have nx : ((h.push (.row 49 b.cells)).push (.row 45 x.cells)).next = h.next + 2 := rfl
  have kH : Keeps h ((h.push (.row 49 b.cells)).push (.row 45 x.cells)) (fun _ => False) := (Keeps.one _ _).go (Keeps.one _ _)
  rw [e2]
  generalize ((h.push (.row 49 b.cells)).push (.row 45 x.cells)) = H at *
  simp only [hop]
  obtain ⟨l1, l2, g0, g1, std, dd0, dd1, dd3, sts, ss0, ss1, ss4, stds, ds0, ds1, ds3, ds4, px, pd, qx, kDSp, kSp, kG, kD, kS, kDS⟩ := z3o o1 o2 nx kH
  refine z03.go (z1k 2 _) ?_
  repeat' (first | (simp -dsimp -implicitDefEqProofs only [↓rP, rQ, rL, ↓reduceIte, Nat.reduceEqDiff, Nat.reduceAdd, Nat.reduceLeDiff, z01, z05, ↓tyr, Int.reduceBEq, Int.reduceBNe, Int.reduceLT, Int.reduceLE, decide_true, decide_false, f100, f115, f114, f110, f116, f105, f120, nq, hop, ↓l1, ↓l2, wl, ixI hb, ixI hx, ↓g0, ↓g1, ↓std, ↓dd0, ↓dd1, ↓dd3, ↓sts, ↓ss0, ↓ss1, ↓ss4, ↓stds, ↓ds0, ↓ds1, ↓ds3, ↓ds4, ↓px, ↓pd, ↓qx]) | with_reducible refine Cut.go ?_ | with_reducible refine z03.go (has_100 _ hl _) ?_ | with_reducible refine z03.go (has_115 _ hl _) ?_ | with_reducible refine z03.go (has_114 _ hl _) ?_ | with_reducible refine z03.go (has_110 _ hl _) ?_ | with_reducible refine z03.go (has_116 _ hl _) ?_ | with_reducible refine z03.go (has_105 _ hl _) ?_ | with_reducible refine z03.go (has_120 _ hl _) ?_ | with_reducible refine z03.go (z1c _ _ _) ?_ | with_reducible refine z03.go (z1o c hs _ _ _) ?_ | with_reducible refine z03.go (z10 _ hn _ hit hitl _) ?_ | with_reducible refine z03.go (z10 _ hn _ hix hixl _) ?_ | with_reducible refine ixB_go (by assumption) ?_ | unfold z0q | unfold z0r | unfold z0s | unfold z0t | unfold z0u | (with_reducible refine Split.intro (fun hq => ?_) (fun hq => ?_) <;> (try simp only [Bool.not_eq_true', Bool.not_eq_false'] at hq) <;> (try rw [hq])))
  all_goals clear l1 l2 g0 g1 std dd0 dd1 dd3 sts ss0 ss1 ss4 stds ds0 ds1 ds3 ds4 px pd qx o1 o2
  all_goals refine And.intro (congrArg AV.bool ?_) (by first | exact kH | exact kG | exact kD _ | exact kS _ | exact kDS _ _ | exact kDSp _ _ _ | exact kSp _ _)
  all_goals clear kH kG kD kS kDS kDSp kSp nx wl nq hl f100 f115 f114 f110 f116 f105 f120 e2 hb hx hcl hixl hitl hix hit hn hs hc
  all_goals have kd := kind x.Dst
  all_goals have ks := kind x.Src
  all_goals clear kind
  all_goals clear hsl
  all_goals simp_all [z2u, z1m, z3t, z3f, z3q, z18, goesB, z2m, siteB, sameB, isB_btw, z5c, List.length_pos_iff, z1v, z5b, z3p]
  all_goals try omega
  all_goals try (rw [Bool.eq_iff_iff]; simp_all [beqI]; try omega)
  all_goals try (split <;> simp_all)
  all_goals try omega
theorem ri_4 (c : Cd) (hc : c.ok) (hs : (slL c.Sections).length ≤ 1000000) (t a : Int) (b : Bd) (x : In) (hb : getI (slL c.Threads) t = some b) (hx : getI (slL b.Code) a = some x) (hsl : ∀ l ∈ slL b.Slots, z1a c l = true)
    (hn : okI (slL b.Slots).length) (hit : okSl z0k.ok x.Items) (hix : okSl z0k.ok x.Index) (hitl : (slL x.Items).length ≤ 1000000) (hixl : (slL x.Index).length ≤ 1000000) (hcl : (slL b.Code).length ≤ 1000000) (hop : x.Op = 4) (h : z04) :
    z03 Try.prog 24 [.agg c.cells, .int .i64 t, .int .i64 a] h (fun v h2 => v = .bool (z1m c t b x a && (decide (x.Op = 17) == decide (a = (slL b.Code).length - 1))) ∧ Keeps h h2 (fun _ => False)) := by
  have kind : ∀ n : Int, btw n (slL b.Slots).length = true → ((gD b.Slots n).Kind = 1 ∨ (gD b.Slots n).Kind = 3) → (gD b.Slots n).Rec = 0 := fun n hq hk => by
    have := hsl _ (z3b (z1v hq))
    unfold z1a at this
    rw [if_neg (by omega)] at this
    simp only [Bool.and_eq_true, decide_eq_true_eq] at this
    exact this.2
  have hl := z3l 4
  have nq : (hasS 4 == [63]) = false := rfl
  have f100 : (hasS 4).contains 100 = true := rfl
  have f115 : (hasS 4).contains 115 = true := rfl
  have f114 : (hasS 4).contains 114 = false := rfl
  have f110 : (hasS 4).contains 110 = false := rfl
  have f116 : (hasS 4).contains 116 = false := rfl
  have f105 : (hasS 4).contains 105 = false := rfl
  have f120 : (hasS 4).contains 120 = true := rfl
  have wl : IntKind.i64.wrap (((slL b.Code).length : Int) - 1) = ((slL b.Code).length : Int) - 1 := wrapI (by omega) (by omega)
  apply z11
  (repeat (first | simp -dsimp -implicitDefEqProofs (disch := omega) only [↓rP, rQ, rO, rL, ↓reduceIte, Nat.reduceEqDiff, Nat.reduceAdd, Nat.reduceLeDiff, z01, z05, ↓tyr, ixI hb, ixI hx] | refine Cut.go ?_))
  have e2 : (h.push (.row 49 b.cells)).next = h.next + 1 := rfl
  have o1 : ((h.push (.row 49 b.cells)).push (.row 45 x.cells)).objs h.next = some (.row 49 b.cells) := by simp
  have o2 : ((h.push (.row 49 b.cells)).push (.row 45 x.cells)).objs (h.next + 1) = some (.row 45 x.cells) := by simp
  have nx : ((h.push (.row 49 b.cells)).push (.row 45 x.cells)).next = h.next + 2 := rfl
  have kH : Keeps h ((h.push (.row 49 b.cells)).push (.row 45 x.cells)) (fun _ => False) := (Keeps.one _ _).go (Keeps.one _ _)
  rw [e2]
  generalize ((h.push (.row 49 b.cells)).push (.row 45 x.cells)) = H at *
  simp only [hop]
  obtain ⟨l1, l2, g0, g1, std, dd0, dd1, dd3, sts, ss0, ss1, ss4, stds, ds0, ds1, ds3, ds4, px, pd, qx, kDSp, kSp, kG, kD, kS, kDS⟩ := z3o o1 o2 nx kH
  refine z03.go (z1k 4 _) ?_
  repeat' (first | (simp -dsimp -implicitDefEqProofs only [↓rP, rQ, rL, ↓reduceIte, Nat.reduceEqDiff, Nat.reduceAdd, Nat.reduceLeDiff, z01, z05, ↓tyr, Int.reduceBEq, Int.reduceBNe, Int.reduceLT, Int.reduceLE, decide_true, decide_false, f100, f115, f114, f110, f116, f105, f120, nq, hop, ↓l1, ↓l2, wl, ixI hb, ixI hx, ↓g0, ↓g1, ↓std, ↓dd0, ↓dd1, ↓dd3, ↓sts, ↓ss0, ↓ss1, ↓ss4, ↓stds, ↓ds0, ↓ds1, ↓ds3, ↓ds4, ↓px, ↓pd, ↓qx]) | with_reducible refine Cut.go ?_ | with_reducible refine z03.go (has_100 _ hl _) ?_ | with_reducible refine z03.go (has_115 _ hl _) ?_ | with_reducible refine z03.go (has_114 _ hl _) ?_ | with_reducible refine z03.go (has_110 _ hl _) ?_ | with_reducible refine z03.go (has_116 _ hl _) ?_ | with_reducible refine z03.go (has_105 _ hl _) ?_ | with_reducible refine z03.go (has_120 _ hl _) ?_ | with_reducible refine z03.go (z1c _ _ _) ?_ | with_reducible refine z03.go (z1o c hs _ _ _) ?_ | with_reducible refine z03.go (z10 _ hn _ hit hitl _) ?_ | with_reducible refine z03.go (z10 _ hn _ hix hixl _) ?_ | with_reducible refine ixB_go (by assumption) ?_ | unfold z0q | unfold z0r | unfold z0s | unfold z0t | unfold z0u | (with_reducible refine Split.intro (fun hq => ?_) (fun hq => ?_) <;> (try simp only [Bool.not_eq_true', Bool.not_eq_false'] at hq) <;> (try rw [hq])))
  all_goals clear l1 l2 g0 g1 std dd0 dd1 dd3 sts ss0 ss1 ss4 stds ds0 ds1 ds3 ds4 px pd qx o1 o2
  all_goals refine And.intro (congrArg AV.bool ?_) (by first | exact kH | exact kG | exact kD _ | exact kS _ | exact kDS _ _ | exact kDSp _ _ _ | exact kSp _ _)
  all_goals clear kH kG kD kS kDS kDSp kSp nx wl nq hl f100 f115 f114 f110 f116 f105 f120 e2 hb hx hcl hixl hitl hix hit hn hs hc
  all_goals have kd := kind x.Dst
  all_goals have ks := kind x.Src
  all_goals clear kind
  all_goals clear hsl
  all_goals simp_all [z2u, z1m, z3t, z3f, z3q, z18, goesB, z2m, siteB, sameB, isB_btw, z5c, List.length_pos_iff, z1v, z5b, z3p]
  all_goals try omega
  all_goals try (rw [Bool.eq_iff_iff]; simp_all [beqI]; try omega)
  all_goals try (split <;> simp_all)
  all_goals try omega
theorem ri_5 (c : Cd) (hc : c.ok) (hs : (slL c.Sections).length ≤ 1000000) (t a : Int) (b : Bd) (x : In) (hb : getI (slL c.Threads) t = some b) (hx : getI (slL b.Code) a = some x) (hsl : ∀ l ∈ slL b.Slots, z1a c l = true)
    (hn : okI (slL b.Slots).length) (hit : okSl z0k.ok x.Items) (hix : okSl z0k.ok x.Index) (hitl : (slL x.Items).length ≤ 1000000) (hixl : (slL x.Index).length ≤ 1000000) (hcl : (slL b.Code).length ≤ 1000000) (hop : x.Op = 5) (h : z04) :
    z03 Try.prog 24 [.agg c.cells, .int .i64 t, .int .i64 a] h (fun v h2 => v = .bool (z1m c t b x a && (decide (x.Op = 17) == decide (a = (slL b.Code).length - 1))) ∧ Keeps h h2 (fun _ => False)) := by
  have kind : ∀ n : Int, btw n (slL b.Slots).length = true → ((gD b.Slots n).Kind = 1 ∨ (gD b.Slots n).Kind = 3) → (gD b.Slots n).Rec = 0 := fun n hq hk => by
    have := hsl _ (z3b (z1v hq))
    unfold z1a at this
    rw [if_neg (by omega)] at this
    simp only [Bool.and_eq_true, decide_eq_true_eq] at this
    exact this.2
  have hl := z3l 5
  have nq : (hasS 5 == [63]) = false := rfl
  have f100 : (hasS 5).contains 100 = false := rfl
  have f115 : (hasS 5).contains 115 = false := rfl
  have f114 : (hasS 5).contains 114 = false := rfl
  have f110 : (hasS 5).contains 110 = true := rfl
  have f116 : (hasS 5).contains 116 = false := rfl
  have f105 : (hasS 5).contains 105 = true := rfl
  have f120 : (hasS 5).contains 120 = false := rfl
  have wl : IntKind.i64.wrap (((slL b.Code).length : Int) - 1) = ((slL b.Code).length : Int) - 1 := wrapI (by omega) (by omega)
  apply z11
  (repeat (first | simp -dsimp -implicitDefEqProofs (disch := omega) only [↓rP, rQ, rO, rL, ↓reduceIte, Nat.reduceEqDiff, Nat.reduceAdd, Nat.reduceLeDiff, z01, z05, ↓tyr, ixI hb, ixI hx] | refine Cut.go ?_))
  have e2 : (h.push (.row 49 b.cells)).next = h.next + 1 := rfl
  have o1 : ((h.push (.row 49 b.cells)).push (.row 45 x.cells)).objs h.next = some (.row 49 b.cells) := by simp
  have o2 : ((h.push (.row 49 b.cells)).push (.row 45 x.cells)).objs (h.next + 1) = some (.row 45 x.cells) := by simp
  have nx : ((h.push (.row 49 b.cells)).push (.row 45 x.cells)).next = h.next + 2 := rfl
  have kH : Keeps h ((h.push (.row 49 b.cells)).push (.row 45 x.cells)) (fun _ => False) := (Keeps.one _ _).go (Keeps.one _ _)
  rw [e2]
  generalize ((h.push (.row 49 b.cells)).push (.row 45 x.cells)) = H at *
  simp only [hop]
  obtain ⟨l1, l2, g0, g1, std, dd0, dd1, dd3, sts, ss0, ss1, ss4, stds, ds0, ds1, ds3, ds4, px, pd, qx, kDSp, kSp, kG, kD, kS, kDS⟩ := z3o o1 o2 nx kH
  refine z03.go (z1k 5 _) ?_
  repeat' (first | (simp -dsimp -implicitDefEqProofs only [↓rP, rQ, rL, ↓reduceIte, Nat.reduceEqDiff, Nat.reduceAdd, Nat.reduceLeDiff, z01, z05, ↓tyr, Int.reduceBEq, Int.reduceBNe, Int.reduceLT, Int.reduceLE, decide_true, decide_false, f100, f115, f114, f110, f116, f105, f120, nq, hop, ↓l1, ↓l2, wl, ixI hb, ixI hx, ↓g0, ↓g1, ↓std, ↓dd0, ↓dd1, ↓dd3, ↓sts, ↓ss0, ↓ss1, ↓ss4, ↓stds, ↓ds0, ↓ds1, ↓ds3, ↓ds4, ↓px, ↓pd, ↓qx]) | with_reducible refine Cut.go ?_ | with_reducible refine z03.go (has_100 _ hl _) ?_ | with_reducible refine z03.go (has_115 _ hl _) ?_ | with_reducible refine z03.go (has_114 _ hl _) ?_ | with_reducible refine z03.go (has_110 _ hl _) ?_ | with_reducible refine z03.go (has_116 _ hl _) ?_ | with_reducible refine z03.go (has_105 _ hl _) ?_ | with_reducible refine z03.go (has_120 _ hl _) ?_ | with_reducible refine z03.go (z1c _ _ _) ?_ | with_reducible refine z03.go (z1o c hs _ _ _) ?_ | with_reducible refine z03.go (z10 _ hn _ hit hitl _) ?_ | with_reducible refine z03.go (z10 _ hn _ hix hixl _) ?_ | with_reducible refine ixB_go (by assumption) ?_ | unfold z0q | unfold z0r | unfold z0s | unfold z0t | unfold z0u | (with_reducible refine Split.intro (fun hq => ?_) (fun hq => ?_) <;> (try simp only [Bool.not_eq_true', Bool.not_eq_false'] at hq) <;> (try rw [hq])))
  all_goals clear l1 l2 g0 g1 std dd0 dd1 dd3 sts ss0 ss1 ss4 stds ds0 ds1 ds3 ds4 px pd qx o1 o2
  all_goals refine And.intro (congrArg AV.bool ?_) (by first | exact kH | exact kG | exact kD _ | exact kS _ | exact kDS _ _ | exact kDSp _ _ _ | exact kSp _ _)
  all_goals clear kH kG kD kS kDS kDSp kSp nx wl nq hl f100 f115 f114 f110 f116 f105 f120 e2 hb hx hcl hixl hitl hix hit hn hs hc
  all_goals have kd := kind x.Dst
  all_goals have ks := kind x.Src
  all_goals clear kind
  all_goals clear hsl
  all_goals simp_all [z2u, z1m, z3t, z3f, z3q, z18, goesB, z2m, siteB, sameB, isB_btw, z5c, List.length_pos_iff, z1v, z5b, z3p]
  all_goals try omega
  all_goals try (rw [Bool.eq_iff_iff]; simp_all [beqI]; try omega)
  all_goals try (split <;> simp_all)
  all_goals try omega
theorem ri_7 (c : Cd) (hc : c.ok) (hs : (slL c.Sections).length ≤ 1000000) (t a : Int) (b : Bd) (x : In) (hb : getI (slL c.Threads) t = some b) (hx : getI (slL b.Code) a = some x) (hsl : ∀ l ∈ slL b.Slots, z1a c l = true)
    (hn : okI (slL b.Slots).length) (hit : okSl z0k.ok x.Items) (hix : okSl z0k.ok x.Index) (hitl : (slL x.Items).length ≤ 1000000) (hixl : (slL x.Index).length ≤ 1000000) (hcl : (slL b.Code).length ≤ 1000000) (hop : x.Op = 7) (h : z04) :
    z03 Try.prog 24 [.agg c.cells, .int .i64 t, .int .i64 a] h (fun v h2 => v = .bool (z1m c t b x a && (decide (x.Op = 17) == decide (a = (slL b.Code).length - 1))) ∧ Keeps h h2 (fun _ => False)) := by
  have kind : ∀ n : Int, btw n (slL b.Slots).length = true → ((gD b.Slots n).Kind = 1 ∨ (gD b.Slots n).Kind = 3) → (gD b.Slots n).Rec = 0 := fun n hq hk => by
    have := hsl _ (z3b (z1v hq))
    unfold z1a at this
    rw [if_neg (by omega)] at this
    simp only [Bool.and_eq_true, decide_eq_true_eq] at this
    exact this.2
  have hl := z3l 7
  have nq : (hasS 7 == [63]) = false := rfl
  have f100 : (hasS 7).contains 100 = false := rfl
  have f115 : (hasS 7).contains 115 = true := rfl
  have f114 : (hasS 7).contains 114 = false := rfl
  have f110 : (hasS 7).contains 110 = false := rfl
  have f116 : (hasS 7).contains 116 = false := rfl
  have f105 : (hasS 7).contains 105 = true := rfl
  have f120 : (hasS 7).contains 120 = true := rfl
  have wl : IntKind.i64.wrap (((slL b.Code).length : Int) - 1) = ((slL b.Code).length : Int) - 1 := wrapI (by omega) (by omega)
  apply z11
  (repeat (first | simp -dsimp -implicitDefEqProofs (disch := omega) only [↓rP, rQ, rO, rL, ↓reduceIte, Nat.reduceEqDiff, Nat.reduceAdd, Nat.reduceLeDiff, z01, z05, ↓tyr, ixI hb, ixI hx] | refine Cut.go ?_))
  have e2 : (h.push (.row 49 b.cells)).next = h.next + 1 := rfl
  have o1 : ((h.push (.row 49 b.cells)).push (.row 45 x.cells)).objs h.next = some (.row 49 b.cells) := by simp
  have o2 : ((h.push (.row 49 b.cells)).push (.row 45 x.cells)).objs (h.next + 1) = some (.row 45 x.cells) := by simp
  have nx : ((h.push (.row 49 b.cells)).push (.row 45 x.cells)).next = h.next + 2 := rfl
  have kH : Keeps h ((h.push (.row 49 b.cells)).push (.row 45 x.cells)) (fun _ => False) := (Keeps.one _ _).go (Keeps.one _ _)
  rw [e2]
  generalize ((h.push (.row 49 b.cells)).push (.row 45 x.cells)) = H at *
  simp only [hop]
  obtain ⟨l1, l2, g0, g1, std, dd0, dd1, dd3, sts, ss0, ss1, ss4, stds, ds0, ds1, ds3, ds4, px, pd, qx, kDSp, kSp, kG, kD, kS, kDS⟩ := z3o o1 o2 nx kH
  refine z03.go (z1k 7 _) ?_
  repeat' (first | (simp -dsimp -implicitDefEqProofs only [↓rP, rQ, rL, ↓reduceIte, Nat.reduceEqDiff, Nat.reduceAdd, Nat.reduceLeDiff, z01, z05, ↓tyr, Int.reduceBEq, Int.reduceBNe, Int.reduceLT, Int.reduceLE, decide_true, decide_false, f100, f115, f114, f110, f116, f105, f120, nq, hop, ↓l1, ↓l2, wl, ixI hb, ixI hx, ↓g0, ↓g1, ↓std, ↓dd0, ↓dd1, ↓dd3, ↓sts, ↓ss0, ↓ss1, ↓ss4, ↓stds, ↓ds0, ↓ds1, ↓ds3, ↓ds4, ↓px, ↓pd, ↓qx]) | with_reducible refine Cut.go ?_ | with_reducible refine z03.go (has_100 _ hl _) ?_ | with_reducible refine z03.go (has_115 _ hl _) ?_ | with_reducible refine z03.go (has_114 _ hl _) ?_ | with_reducible refine z03.go (has_110 _ hl _) ?_ | with_reducible refine z03.go (has_116 _ hl _) ?_ | with_reducible refine z03.go (has_105 _ hl _) ?_ | with_reducible refine z03.go (has_120 _ hl _) ?_ | with_reducible refine z03.go (z1c _ _ _) ?_ | with_reducible refine z03.go (z1o c hs _ _ _) ?_ | with_reducible refine z03.go (z10 _ hn _ hit hitl _) ?_ | with_reducible refine z03.go (z10 _ hn _ hix hixl _) ?_ | with_reducible refine ixB_go (by assumption) ?_ | unfold z0q | unfold z0r | unfold z0s | unfold z0t | unfold z0u | (with_reducible refine Split.intro (fun hq => ?_) (fun hq => ?_) <;> (try simp only [Bool.not_eq_true', Bool.not_eq_false'] at hq) <;> (try rw [hq])))
  all_goals clear l1 l2 g0 g1 std dd0 dd1 dd3 sts ss0 ss1 ss4 stds ds0 ds1 ds3 ds4 px pd qx o1 o2
  all_goals refine And.intro (congrArg AV.bool ?_) (by first | exact kH | exact kG | exact kD _ | exact kS _ | exact kDS _ _ | exact kDSp _ _ _ | exact kSp _ _)
  all_goals clear kH kG kD kS kDS kDSp kSp nx wl nq hl f100 f115 f114 f110 f116 f105 f120 e2 hb hx hcl hixl hitl hix hit hn hs hc
  all_goals have kd := kind x.Dst
  all_goals have ks := kind x.Src
  all_goals clear kind
  all_goals clear hsl
  all_goals simp_all [z2u, z1m, z3t, z3f, z3q, z18, goesB, z2m, siteB, sameB, isB_btw, z5c, List.length_pos_iff, z1v, z5b, z3p]
  all_goals try omega
  all_goals try (rw [Bool.eq_iff_iff]; simp_all [beqI]; try omega)
  all_goals try (split <;> simp_all)
  all_goals try omega
theorem ri_10 (c : Cd) (hc : c.ok) (hs : (slL c.Sections).length ≤ 1000000) (t a : Int) (b : Bd) (x : In) (hb : getI (slL c.Threads) t = some b) (hx : getI (slL b.Code) a = some x) (hsl : ∀ l ∈ slL b.Slots, z1a c l = true)
    (hn : okI (slL b.Slots).length) (hit : okSl z0k.ok x.Items) (hix : okSl z0k.ok x.Index) (hitl : (slL x.Items).length ≤ 1000000) (hixl : (slL x.Index).length ≤ 1000000) (hcl : (slL b.Code).length ≤ 1000000) (hop : x.Op = 10) (h : z04) :
    z03 Try.prog 24 [.agg c.cells, .int .i64 t, .int .i64 a] h (fun v h2 => v = .bool (z1m c t b x a && (decide (x.Op = 17) == decide (a = (slL b.Code).length - 1))) ∧ Keeps h h2 (fun _ => False)) := by
  have kind : ∀ n : Int, btw n (slL b.Slots).length = true → ((gD b.Slots n).Kind = 1 ∨ (gD b.Slots n).Kind = 3) → (gD b.Slots n).Rec = 0 := fun n hq hk => by
    have := hsl _ (z3b (z1v hq))
    unfold z1a at this
    rw [if_neg (by omega)] at this
    simp only [Bool.and_eq_true, decide_eq_true_eq] at this
    exact this.2
  have hl := z3l 10
  have nq : (hasS 10 == [63]) = false := rfl
  have f100 : (hasS 10).contains 100 = true := rfl
  have f115 : (hasS 10).contains 115 = true := rfl
  have f114 : (hasS 10).contains 114 = false := rfl
  have f110 : (hasS 10).contains 110 = false := rfl
  have f116 : (hasS 10).contains 116 = false := rfl
  have f105 : (hasS 10).contains 105 = false := rfl
  have f120 : (hasS 10).contains 120 = false := rfl
  have wl : IntKind.i64.wrap (((slL b.Code).length : Int) - 1) = ((slL b.Code).length : Int) - 1 := wrapI (by omega) (by omega)
  apply z11
  (repeat (first | simp -dsimp -implicitDefEqProofs (disch := omega) only [↓rP, rQ, rO, rL, ↓reduceIte, Nat.reduceEqDiff, Nat.reduceAdd, Nat.reduceLeDiff, z01, z05, ↓tyr, ixI hb, ixI hx] | refine Cut.go ?_))
  have e2 : (h.push (.row 49 b.cells)).next = h.next + 1 := rfl
  have o1 : ((h.push (.row 49 b.cells)).push (.row 45 x.cells)).objs h.next = some (.row 49 b.cells) := by simp
  have o2 : ((h.push (.row 49 b.cells)).push (.row 45 x.cells)).objs (h.next + 1) = some (.row 45 x.cells) := by simp
  have nx : ((h.push (.row 49 b.cells)).push (.row 45 x.cells)).next = h.next + 2 := rfl
  have kH : Keeps h ((h.push (.row 49 b.cells)).push (.row 45 x.cells)) (fun _ => False) := (Keeps.one _ _).go (Keeps.one _ _)
  rw [e2]
  generalize ((h.push (.row 49 b.cells)).push (.row 45 x.cells)) = H at *
  simp only [hop]
  obtain ⟨l1, l2, g0, g1, std, dd0, dd1, dd3, sts, ss0, ss1, ss4, stds, ds0, ds1, ds3, ds4, px, pd, qx, kDSp, kSp, kG, kD, kS, kDS⟩ := z3o o1 o2 nx kH
  refine z03.go (z1k 10 _) ?_
  repeat' (first | (simp -dsimp -implicitDefEqProofs only [↓rP, rQ, rL, ↓reduceIte, Nat.reduceEqDiff, Nat.reduceAdd, Nat.reduceLeDiff, z01, z05, ↓tyr, Int.reduceBEq, Int.reduceBNe, Int.reduceLT, Int.reduceLE, decide_true, decide_false, f100, f115, f114, f110, f116, f105, f120, nq, hop, ↓l1, ↓l2, wl, ixI hb, ixI hx, ↓g0, ↓g1, ↓std, ↓dd0, ↓dd1, ↓dd3, ↓sts, ↓ss0, ↓ss1, ↓ss4, ↓stds, ↓ds0, ↓ds1, ↓ds3, ↓ds4, ↓px, ↓pd, ↓qx]) | with_reducible refine Cut.go ?_ | with_reducible refine z03.go (has_100 _ hl _) ?_ | with_reducible refine z03.go (has_115 _ hl _) ?_ | with_reducible refine z03.go (has_114 _ hl _) ?_ | with_reducible refine z03.go (has_110 _ hl _) ?_ | with_reducible refine z03.go (has_116 _ hl _) ?_ | with_reducible refine z03.go (has_105 _ hl _) ?_ | with_reducible refine z03.go (has_120 _ hl _) ?_ | with_reducible refine z03.go (z1c _ _ _) ?_ | with_reducible refine z03.go (z1o c hs _ _ _) ?_ | with_reducible refine z03.go (z10 _ hn _ hit hitl _) ?_ | with_reducible refine z03.go (z10 _ hn _ hix hixl _) ?_ | with_reducible refine ixB_go (by assumption) ?_ | unfold z0q | unfold z0r | unfold z0s | unfold z0t | unfold z0u | (with_reducible refine Split.intro (fun hq => ?_) (fun hq => ?_) <;> (try simp only [Bool.not_eq_true', Bool.not_eq_false'] at hq) <;> (try rw [hq])))
  all_goals clear l1 l2 g0 g1 std dd0 dd1 dd3 sts ss0 ss1 ss4 stds ds0 ds1 ds3 ds4 px pd qx o1 o2
  all_goals refine And.intro (congrArg AV.bool ?_) (by first | exact kH | exact kG | exact kD _ | exact kS _ | exact kDS _ _ | exact kDSp _ _ _ | exact kSp _ _)
  all_goals clear kH kG kD kS kDS kDSp kSp nx wl nq hl f100 f115 f114 f110 f116 f105 f120 e2 hb hx hcl hixl hitl hix hit hn hs hc
  all_goals have kd := kind x.Dst
  all_goals have ks := kind x.Src
  all_goals clear kind
  all_goals clear hsl
  all_goals simp_all [z2u, z1m, z3t, z3f, z3q, z18, goesB, z2m, siteB, sameB, isB_btw, z5c, List.length_pos_iff, z1v, z5b, z3p]
  all_goals try omega
  all_goals try (rw [Bool.eq_iff_iff]; simp_all [beqI]; try omega)
  all_goals try (split <;> simp_all)
  all_goals try omega
end Go.Proofs.Ytnggcokgnblpgaa
end

section
/- What the document's instr computes, kind by kind. -/
set_option maxRecDepth 100000
set_option maxHeartbeats 4000000
namespace Go.Proofs.Ytnggcokgnblpgaa
open Go.Abs
theorem ri_3 (c : Cd) (hc : c.ok) (hs : (slL c.Sections).length ≤ 1000000) (t a : Int) (b : Bd) (x : In) (hb : getI (slL c.Threads) t = some b) (hx : getI (slL b.Code) a = some x) (hsl : ∀ l ∈ slL b.Slots, z1a c l = true)
    (hn : okI (slL b.Slots).length) (hit : okSl z0k.ok x.Items) (hix : okSl z0k.ok x.Index) (hitl : (slL x.Items).length ≤ 1000000) (hixl : (slL x.Index).length ≤ 1000000) (hcl : (slL b.Code).length ≤ 1000000) (hop : x.Op = 3) (h : z04) :
    z03 Try.prog 24 [.agg c.cells, .int .i64 t, .int .i64 a] h (fun v h2 => v = .bool (z1m c t b x a && (decide (x.Op = 17) == decide (a = (slL b.Code).length - 1))) ∧ Keeps h h2 (fun _ => False)) := by
  have kind : ∀ n : Int, btw n (slL b.Slots).length = true → ((gD b.Slots n).Kind = 1 ∨ (gD b.Slots n).Kind = 3) → (gD b.Slots n).Rec = 0 := fun n hq hk => by
    have := hsl _ (z3b (z1v hq))
    unfold z1a at this
    rw [if_neg (by omega)] at this
    simp only [Bool.and_eq_true, decide_eq_true_eq] at this
    exact this.2
  have hl := z3l 3
  have nq : (hasS 3 == [63]) = false := rfl
  have f100 : (hasS 3).contains 100 = true := rfl
  have f115 : (hasS 3).contains 115 = true := rfl
  have f114 : (hasS 3).contains 114 = true := rfl
  have f110 : (hasS 3).contains 110 = true := rfl
  have f116 : (hasS 3).contains 116 = false := rfl
  have f105 : (hasS 3).contains 105 = false := rfl
  have f120 : (hasS 3).contains 120 = false := rfl
  have wl : IntKind.i64.wrap (((slL b.Code).length : Int) - 1) = ((slL b.Code).length : Int) - 1 := wrapI (by omega) (by omega)
  apply z11
  (repeat (first | simp -dsimp -implicitDefEqProofs (disch := omega) only [↓rP, rQ, rO, rL, ↓reduceIte, Nat.reduceEqDiff, Nat.reduceAdd, Nat.reduceLeDiff, z01, z05, ↓tyr, ixI hb, ixI hx] | refine Cut.go ?_))
  have e2 : (h.push (.row 49 b.cells)).next = h.next + 1 := rfl
  have o1 : ((h.push (.row 49 b.cells)).push (.row 45 x.cells)).objs h.next = some (.row 49 b.cells) := by simp
  have o2 : ((h.push (.row 49 b.cells)).push (.row 45 x.cells)).objs (h.next + 1) = some (.row 45 x.cells) := by simp
  have nx : ((h.push (.row 49 b.cells)).push (.row 45 x.cells)).next = h.next + 2 := rfl
  have kH : Keeps h ((h.push (.row 49 b.cells)).push (.row 45 x.cells)) (fun _ => False) := (Keeps.one _ _).go (Keeps.one _ _)
  rw [e2]
  generalize ((h.push (.row 49 b.cells)).push (.row 45 x.cells)) = H at *
  simp only [hop]
  obtain ⟨l1, l2, g0, g1, std, dd0, dd1, dd3, sts, ss0, ss1, ss4, stds, ds0, ds1, ds3, ds4, px, pd, qx, kDSp, kSp, kG, kD, kS, kDS⟩ := z3o o1 o2 nx kH
  refine z03.go (z1k 3 _) ?_
  repeat' (first | (simp -dsimp -implicitDefEqProofs only [↓rP, rQ, rL, ↓reduceIte, Nat.reduceEqDiff, Nat.reduceAdd, Nat.reduceLeDiff, z01, z05, ↓tyr, Int.reduceBEq, Int.reduceBNe, Int.reduceLT, Int.reduceLE, decide_true, decide_false, f100, f115, f114, f110, f116, f105, f120, nq, hop, ↓l1, ↓l2, wl, ixI hb, ixI hx, ↓g0, ↓g1, ↓std, ↓dd0, ↓dd1, ↓dd3, ↓sts, ↓ss0, ↓ss1, ↓ss4, ↓stds, ↓ds0, ↓ds1, ↓ds3, ↓ds4, ↓px, ↓pd, ↓qx]) | with_reducible refine Cut.go ?_ | with_reducible refine z03.go (has_100 _ hl _) ?_ | with_reducible refine z03.go (has_115 _ hl _) ?_ | with_reducible refine z03.go (has_114 _ hl _) ?_ | with_reducible refine z03.go (has_110 _ hl _) ?_ | with_reducible refine z03.go (has_116 _ hl _) ?_ | with_reducible refine z03.go (has_105 _ hl _) ?_ | with_reducible refine z03.go (has_120 _ hl _) ?_ | with_reducible refine z03.go (z1c _ _ _) ?_ | with_reducible refine z03.go (z1o c hs _ _ _) ?_ | with_reducible refine z03.go (z10 _ hn _ hit hitl _) ?_ | with_reducible refine z03.go (z10 _ hn _ hix hixl _) ?_ | with_reducible refine ixB_go (by assumption) ?_ | unfold z0q | unfold z0r | unfold z0s | unfold z0t | unfold z0u | (with_reducible refine Split.intro (fun hq => ?_) (fun hq => ?_) <;> (try simp only [Bool.not_eq_true', Bool.not_eq_false'] at hq) <;> (try rw [hq])))
  all_goals clear l1 l2 g0 g1 std dd0 dd1 dd3 sts ss0 ss1 ss4 stds ds0 ds1 ds3 ds4 px pd qx o1 o2
  all_goals refine And.intro (congrArg AV.bool ?_) (by first | exact kH | exact kG | exact kD _ | exact kS _ | exact kDS _ _ | exact kDSp _ _ _ | exact kSp _ _)
  all_goals clear kH kG kD kS kDS kDSp kSp nx wl nq hl f100 f115 f114 f110 f116 f105 f120 e2 hb hx hcl hixl hitl hix hit hn hs hc
  all_goals have kd := kind x.Dst
  all_goals have ks := kind x.Src
  all_goals clear kind
  all_goals clear hsl
  all_goals simp_all [z2u, z1m, z3t, z3f, z3q, z18, goesB, z2m, siteB, sameB, isB_btw, z5c, List.length_pos_iff, z1v, z5b, z3p]
  all_goals try omega
  all_goals try (rw [Bool.eq_iff_iff]; simp_all [beqI]; try omega)
  all_goals try (split <;> simp_all)
  all_goals try omega
theorem ri_6 (c : Cd) (hc : c.ok) (hs : (slL c.Sections).length ≤ 1000000) (t a : Int) (b : Bd) (x : In) (hb : getI (slL c.Threads) t = some b) (hx : getI (slL b.Code) a = some x) (hsl : ∀ l ∈ slL b.Slots, z1a c l = true)
    (hn : okI (slL b.Slots).length) (hit : okSl z0k.ok x.Items) (hix : okSl z0k.ok x.Index) (hitl : (slL x.Items).length ≤ 1000000) (hixl : (slL x.Index).length ≤ 1000000) (hcl : (slL b.Code).length ≤ 1000000) (hop : x.Op = 6) (h : z04) :
    z03 Try.prog 24 [.agg c.cells, .int .i64 t, .int .i64 a] h (fun v h2 => v = .bool (z1m c t b x a && (decide (x.Op = 17) == decide (a = (slL b.Code).length - 1))) ∧ Keeps h h2 (fun _ => False)) := by
  have kind : ∀ n : Int, btw n (slL b.Slots).length = true → ((gD b.Slots n).Kind = 1 ∨ (gD b.Slots n).Kind = 3) → (gD b.Slots n).Rec = 0 := fun n hq hk => by
    have := hsl _ (z3b (z1v hq))
    unfold z1a at this
    rw [if_neg (by omega)] at this
    simp only [Bool.and_eq_true, decide_eq_true_eq] at this
    exact this.2
  have hl := z3l 6
  have nq : (hasS 6 == [63]) = false := rfl
  have f100 : (hasS 6).contains 100 = false := rfl
  have f115 : (hasS 6).contains 115 = true := rfl
  have f114 : (hasS 6).contains 114 = true := rfl
  have f110 : (hasS 6).contains 110 = true := rfl
  have f116 : (hasS 6).contains 116 = false := rfl
  have f105 : (hasS 6).contains 105 = true := rfl
  have f120 : (hasS 6).contains 120 = false := rfl
  have wl : IntKind.i64.wrap (((slL b.Code).length : Int) - 1) = ((slL b.Code).length : Int) - 1 := wrapI (by omega) (by omega)
  apply z11
  (repeat (first | simp -dsimp -implicitDefEqProofs (disch := omega) only [↓rP, rQ, rO, rL, ↓reduceIte, Nat.reduceEqDiff, Nat.reduceAdd, Nat.reduceLeDiff, z01, z05, ↓tyr, ixI hb, ixI hx] | refine Cut.go ?_))
  have e2 : (h.push (.row 49 b.cells)).next = h.next + 1 := rfl
  have o1 : ((h.push (.row 49 b.cells)).push (.row 45 x.cells)).objs h.next = some (.row 49 b.cells) := by simp
  have o2 : ((h.push (.row 49 b.cells)).push (.row 45 x.cells)).objs (h.next + 1) = some (.row 45 x.cells) := by simp
  have nx : ((h.push (.row 49 b.cells)).push (.row 45 x.cells)).next = h.next + 2 := rfl
  have kH : Keeps h ((h.push (.row 49 b.cells)).push (.row 45 x.cells)) (fun _ => False) := (Keeps.one _ _).go (Keeps.one _ _)
  rw [e2]
  generalize ((h.push (.row 49 b.cells)).push (.row 45 x.cells)) = H at *
  simp only [hop]
  obtain ⟨l1, l2, g0, g1, std, dd0, dd1, dd3, sts, ss0, ss1, ss4, stds, ds0, ds1, ds3, ds4, px, pd, qx, kDSp, kSp, kG, kD, kS, kDS⟩ := z3o o1 o2 nx kH
  refine z03.go (z1k 6 _) ?_
  repeat' (first | (simp -dsimp -implicitDefEqProofs only [↓rP, rQ, rL, ↓reduceIte, Nat.reduceEqDiff, Nat.reduceAdd, Nat.reduceLeDiff, z01, z05, ↓tyr, Int.reduceBEq, Int.reduceBNe, Int.reduceLT, Int.reduceLE, decide_true, decide_false, f100, f115, f114, f110, f116, f105, f120, nq, hop, ↓l1, ↓l2, wl, ixI hb, ixI hx, ↓g0, ↓g1, ↓std, ↓dd0, ↓dd1, ↓dd3, ↓sts, ↓ss0, ↓ss1, ↓ss4, ↓stds, ↓ds0, ↓ds1, ↓ds3, ↓ds4, ↓px, ↓pd, ↓qx]) | with_reducible refine Cut.go ?_ | with_reducible refine z03.go (has_100 _ hl _) ?_ | with_reducible refine z03.go (has_115 _ hl _) ?_ | with_reducible refine z03.go (has_114 _ hl _) ?_ | with_reducible refine z03.go (has_110 _ hl _) ?_ | with_reducible refine z03.go (has_116 _ hl _) ?_ | with_reducible refine z03.go (has_105 _ hl _) ?_ | with_reducible refine z03.go (has_120 _ hl _) ?_ | with_reducible refine z03.go (z1c _ _ _) ?_ | with_reducible refine z03.go (z1o c hs _ _ _) ?_ | with_reducible refine z03.go (z10 _ hn _ hit hitl _) ?_ | with_reducible refine z03.go (z10 _ hn _ hix hixl _) ?_ | with_reducible refine ixB_go (by assumption) ?_ | unfold z0q | unfold z0r | unfold z0s | unfold z0t | unfold z0u | (with_reducible refine Split.intro (fun hq => ?_) (fun hq => ?_) <;> (try simp only [Bool.not_eq_true', Bool.not_eq_false'] at hq) <;> (try rw [hq])))
  all_goals clear l1 l2 g0 g1 std dd0 dd1 dd3 sts ss0 ss1 ss4 stds ds0 ds1 ds3 ds4 px pd qx o1 o2
  all_goals refine And.intro (congrArg AV.bool ?_) (by first | exact kH | exact kG | exact kD _ | exact kS _ | exact kDS _ _ | exact kDSp _ _ _ | exact kSp _ _)
  all_goals clear kH kG kD kS kDS kDSp kSp nx wl nq hl f100 f115 f114 f110 f116 f105 f120 e2 hb hx hcl hixl hitl hix hit hn hs hc
  all_goals have kd := kind x.Dst
  all_goals have ks := kind x.Src
  all_goals clear kind
  all_goals clear hsl
  all_goals simp_all [z2u, z1m, z3t, z3f, z3q, z18, goesB, z2m, siteB, sameB, isB_btw, z5c, List.length_pos_iff, z1v, z5b, z3p]
  all_goals try omega
  all_goals try (rw [Bool.eq_iff_iff]; simp_all [beqI]; try omega)
  all_goals try (split <;> simp_all)
  all_goals try omega
end Go.Proofs.Ytnggcokgnblpgaa
end

section
/- What the document's instr computes, kind by kind. -/
set_option maxRecDepth 100000
set_option maxHeartbeats 4000000
namespace Go.Proofs.Ytnggcokgnblpgaa
open Go.Abs
theorem ri_8 (c : Cd) (hc : c.ok) (hs : (slL c.Sections).length ≤ 1000000) (t a : Int) (b : Bd) (x : In) (hb : getI (slL c.Threads) t = some b) (hx : getI (slL b.Code) a = some x) (hsl : ∀ l ∈ slL b.Slots, z1a c l = true)
    (hn : okI (slL b.Slots).length) (hit : okSl z0k.ok x.Items) (hix : okSl z0k.ok x.Index) (hitl : (slL x.Items).length ≤ 1000000) (hixl : (slL x.Index).length ≤ 1000000) (hcl : (slL b.Code).length ≤ 1000000) (hop : x.Op = 8) (h : z04) :
    z03 Try.prog 24 [.agg c.cells, .int .i64 t, .int .i64 a] h (fun v h2 => v = .bool (z1m c t b x a && (decide (x.Op = 17) == decide (a = (slL b.Code).length - 1))) ∧ Keeps h h2 (fun _ => False)) := by
  have kind : ∀ n : Int, btw n (slL b.Slots).length = true → ((gD b.Slots n).Kind = 1 ∨ (gD b.Slots n).Kind = 3) → (gD b.Slots n).Rec = 0 := fun n hq hk => by
    have := hsl _ (z3b (z1v hq))
    unfold z1a at this
    rw [if_neg (by omega)] at this
    simp only [Bool.and_eq_true, decide_eq_true_eq] at this
    exact this.2
  have hl := z3l 8
  have nq : (hasS 8 == [63]) = false := rfl
  have f100 : (hasS 8).contains 100 = true := rfl
  have f115 : (hasS 8).contains 115 = false := rfl
  have f114 : (hasS 8).contains 114 = true := rfl
  have f110 : (hasS 8).contains 110 = true := rfl
  have f116 : (hasS 8).contains 116 = false := rfl
  have f105 : (hasS 8).contains 105 = false := rfl
  have f120 : (hasS 8).contains 120 = false := rfl
  have wl : IntKind.i64.wrap (((slL b.Code).length : Int) - 1) = ((slL b.Code).length : Int) - 1 := wrapI (by omega) (by omega)
  apply z11
  (repeat (first | simp -dsimp -implicitDefEqProofs (disch := omega) only [↓rP, rQ, rO, rL, ↓reduceIte, Nat.reduceEqDiff, Nat.reduceAdd, Nat.reduceLeDiff, z01, z05, ↓tyr, ixI hb, ixI hx] | refine Cut.go ?_))
  have e2 : (h.push (.row 49 b.cells)).next = h.next + 1 := rfl
  have o1 : ((h.push (.row 49 b.cells)).push (.row 45 x.cells)).objs h.next = some (.row 49 b.cells) := by simp
  have o2 : ((h.push (.row 49 b.cells)).push (.row 45 x.cells)).objs (h.next + 1) = some (.row 45 x.cells) := by simp
  have nx : ((h.push (.row 49 b.cells)).push (.row 45 x.cells)).next = h.next + 2 := rfl
  have kH : Keeps h ((h.push (.row 49 b.cells)).push (.row 45 x.cells)) (fun _ => False) := (Keeps.one _ _).go (Keeps.one _ _)
  rw [e2]
  generalize ((h.push (.row 49 b.cells)).push (.row 45 x.cells)) = H at *
  simp only [hop]
  obtain ⟨l1, l2, g0, g1, std, dd0, dd1, dd3, sts, ss0, ss1, ss4, stds, ds0, ds1, ds3, ds4, px, pd, qx, kDSp, kSp, kG, kD, kS, kDS⟩ := z3o o1 o2 nx kH
  refine z03.go (z1k 8 _) ?_
  repeat' (first | (simp -dsimp -implicitDefEqProofs only [↓rP, rQ, rL, ↓reduceIte, Nat.reduceEqDiff, Nat.reduceAdd, Nat.reduceLeDiff, z01, z05, ↓tyr, Int.reduceBEq, Int.reduceBNe, Int.reduceLT, Int.reduceLE, decide_true, decide_false, f100, f115, f114, f110, f116, f105, f120, nq, hop, ↓l1, ↓l2, wl, ixI hb, ixI hx, ↓g0, ↓g1, ↓std, ↓dd0, ↓dd1, ↓dd3, ↓sts, ↓ss0, ↓ss1, ↓ss4, ↓stds, ↓ds0, ↓ds1, ↓ds3, ↓ds4, ↓px, ↓pd, ↓qx]) | with_reducible refine Cut.go ?_ | with_reducible refine z03.go (has_100 _ hl _) ?_ | with_reducible refine z03.go (has_115 _ hl _) ?_ | with_reducible refine z03.go (has_114 _ hl _) ?_ | with_reducible refine z03.go (has_110 _ hl _) ?_ | with_reducible refine z03.go (has_116 _ hl _) ?_ | with_reducible refine z03.go (has_105 _ hl _) ?_ | with_reducible refine z03.go (has_120 _ hl _) ?_ | with_reducible refine z03.go (z1c _ _ _) ?_ | with_reducible refine z03.go (z1o c hs _ _ _) ?_ | with_reducible refine z03.go (z10 _ hn _ hit hitl _) ?_ | with_reducible refine z03.go (z10 _ hn _ hix hixl _) ?_ | with_reducible refine ixB_go (by assumption) ?_ | unfold z0q | unfold z0r | unfold z0s | unfold z0t | unfold z0u | (with_reducible refine Split.intro (fun hq => ?_) (fun hq => ?_) <;> (try simp only [Bool.not_eq_true', Bool.not_eq_false'] at hq) <;> (try rw [hq])))
  all_goals clear l1 l2 g0 g1 std dd0 dd1 dd3 sts ss0 ss1 ss4 stds ds0 ds1 ds3 ds4 px pd qx o1 o2
  all_goals refine And.intro (congrArg AV.bool ?_) (by first | exact kH | exact kG | exact kD _ | exact kS _ | exact kDS _ _ | exact kDSp _ _ _ | exact kSp _ _)
  all_goals clear kH kG kD kS kDS kDSp kSp nx wl nq hl f100 f115 f114 f110 f116 f105 f120 e2 hb hx hcl hixl hitl hix hit hn hs hc
  all_goals have kd := kind x.Dst
  all_goals have ks := kind x.Src
  all_goals clear kind
  all_goals clear hsl
  all_goals simp_all [z2u, z1m, z3t, z3f, z3q, z18, goesB, z2m, siteB, sameB, isB_btw, z5c, List.length_pos_iff, z1v, z5b, z3p]
  all_goals try omega
  all_goals try (rw [Bool.eq_iff_iff]; simp_all [beqI]; try omega)
  all_goals try (split <;> simp_all)
  all_goals try omega
theorem ri_9 (c : Cd) (hc : c.ok) (hs : (slL c.Sections).length ≤ 1000000) (t a : Int) (b : Bd) (x : In) (hb : getI (slL c.Threads) t = some b) (hx : getI (slL b.Code) a = some x) (hsl : ∀ l ∈ slL b.Slots, z1a c l = true)
    (hn : okI (slL b.Slots).length) (hit : okSl z0k.ok x.Items) (hix : okSl z0k.ok x.Index) (hitl : (slL x.Items).length ≤ 1000000) (hixl : (slL x.Index).length ≤ 1000000) (hcl : (slL b.Code).length ≤ 1000000) (hop : x.Op = 9) (h : z04) :
    z03 Try.prog 24 [.agg c.cells, .int .i64 t, .int .i64 a] h (fun v h2 => v = .bool (z1m c t b x a && (decide (x.Op = 17) == decide (a = (slL b.Code).length - 1))) ∧ Keeps h h2 (fun _ => False)) := by
  have kind : ∀ n : Int, btw n (slL b.Slots).length = true → ((gD b.Slots n).Kind = 1 ∨ (gD b.Slots n).Kind = 3) → (gD b.Slots n).Rec = 0 := fun n hq hk => by
    have := hsl _ (z3b (z1v hq))
    unfold z1a at this
    rw [if_neg (by omega)] at this
    simp only [Bool.and_eq_true, decide_eq_true_eq] at this
    exact this.2
  have hl := z3l 9
  have nq : (hasS 9 == [63]) = false := rfl
  have f100 : (hasS 9).contains 100 = true := rfl
  have f115 : (hasS 9).contains 115 = false := rfl
  have f114 : (hasS 9).contains 114 = false := rfl
  have f110 : (hasS 9).contains 110 = true := rfl
  have f116 : (hasS 9).contains 116 = false := rfl
  have f105 : (hasS 9).contains 105 = true := rfl
  have f120 : (hasS 9).contains 120 = false := rfl
  have wl : IntKind.i64.wrap (((slL b.Code).length : Int) - 1) = ((slL b.Code).length : Int) - 1 := wrapI (by omega) (by omega)
  apply z11
  (repeat (first | simp -dsimp -implicitDefEqProofs (disch := omega) only [↓rP, rQ, rO, rL, ↓reduceIte, Nat.reduceEqDiff, Nat.reduceAdd, Nat.reduceLeDiff, z01, z05, ↓tyr, ixI hb, ixI hx] | refine Cut.go ?_))
  have e2 : (h.push (.row 49 b.cells)).next = h.next + 1 := rfl
  have o1 : ((h.push (.row 49 b.cells)).push (.row 45 x.cells)).objs h.next = some (.row 49 b.cells) := by simp
  have o2 : ((h.push (.row 49 b.cells)).push (.row 45 x.cells)).objs (h.next + 1) = some (.row 45 x.cells) := by simp
  have nx : ((h.push (.row 49 b.cells)).push (.row 45 x.cells)).next = h.next + 2 := rfl
  have kH : Keeps h ((h.push (.row 49 b.cells)).push (.row 45 x.cells)) (fun _ => False) := (Keeps.one _ _).go (Keeps.one _ _)
  rw [e2]
  generalize ((h.push (.row 49 b.cells)).push (.row 45 x.cells)) = H at *
  simp only [hop]
  obtain ⟨l1, l2, g0, g1, std, dd0, dd1, dd3, sts, ss0, ss1, ss4, stds, ds0, ds1, ds3, ds4, px, pd, qx, kDSp, kSp, kG, kD, kS, kDS⟩ := z3o o1 o2 nx kH
  refine z03.go (z1k 9 _) ?_
  repeat' (first | (simp -dsimp -implicitDefEqProofs only [↓rP, rQ, rL, ↓reduceIte, Nat.reduceEqDiff, Nat.reduceAdd, Nat.reduceLeDiff, z01, z05, ↓tyr, Int.reduceBEq, Int.reduceBNe, Int.reduceLT, Int.reduceLE, decide_true, decide_false, f100, f115, f114, f110, f116, f105, f120, nq, hop, ↓l1, ↓l2, wl, ixI hb, ixI hx, ↓g0, ↓g1, ↓std, ↓dd0, ↓dd1, ↓dd3, ↓sts, ↓ss0, ↓ss1, ↓ss4, ↓stds, ↓ds0, ↓ds1, ↓ds3, ↓ds4, ↓px, ↓pd, ↓qx]) | with_reducible refine Cut.go ?_ | with_reducible refine z03.go (has_100 _ hl _) ?_ | with_reducible refine z03.go (has_115 _ hl _) ?_ | with_reducible refine z03.go (has_114 _ hl _) ?_ | with_reducible refine z03.go (has_110 _ hl _) ?_ | with_reducible refine z03.go (has_116 _ hl _) ?_ | with_reducible refine z03.go (has_105 _ hl _) ?_ | with_reducible refine z03.go (has_120 _ hl _) ?_ | with_reducible refine z03.go (z1c _ _ _) ?_ | with_reducible refine z03.go (z1o c hs _ _ _) ?_ | with_reducible refine z03.go (z10 _ hn _ hit hitl _) ?_ | with_reducible refine z03.go (z10 _ hn _ hix hixl _) ?_ | with_reducible refine ixB_go (by assumption) ?_ | unfold z0q | unfold z0r | unfold z0s | unfold z0t | unfold z0u | (with_reducible refine Split.intro (fun hq => ?_) (fun hq => ?_) <;> (try simp only [Bool.not_eq_true', Bool.not_eq_false'] at hq) <;> (try rw [hq])))
  all_goals clear l1 l2 g0 g1 std dd0 dd1 dd3 sts ss0 ss1 ss4 stds ds0 ds1 ds3 ds4 px pd qx o1 o2
  all_goals refine And.intro (congrArg AV.bool ?_) (by first | exact kH | exact kG | exact kD _ | exact kS _ | exact kDS _ _ | exact kDSp _ _ _ | exact kSp _ _)
  all_goals clear kH kG kD kS kDS kDSp kSp nx wl nq hl f100 f115 f114 f110 f116 f105 f120 e2 hb hx hcl hixl hitl hix hit hn hs hc
  all_goals have kd := kind x.Dst
  all_goals have ks := kind x.Src
  all_goals clear kind
  all_goals clear hsl
  all_goals simp_all [z2u, z1m, z3t, z3f, z3q, z18, goesB, z2m, siteB, sameB, isB_btw, z5c, List.length_pos_iff, z1v, z5b, z3p]
  all_goals try omega
  all_goals try (rw [Bool.eq_iff_iff]; simp_all [beqI]; try omega)
  all_goals try (split <;> simp_all)
  all_goals try omega
theorem ri_15 (c : Cd) (hc : c.ok) (hs : (slL c.Sections).length ≤ 1000000) (t a : Int) (b : Bd) (x : In) (hb : getI (slL c.Threads) t = some b) (hx : getI (slL b.Code) a = some x) (hsl : ∀ l ∈ slL b.Slots, z1a c l = true)
    (hn : okI (slL b.Slots).length) (hit : okSl z0k.ok x.Items) (hix : okSl z0k.ok x.Index) (hitl : (slL x.Items).length ≤ 1000000) (hixl : (slL x.Index).length ≤ 1000000) (hcl : (slL b.Code).length ≤ 1000000) (hop : x.Op = 15) (h : z04) :
    z03 Try.prog 24 [.agg c.cells, .int .i64 t, .int .i64 a] h (fun v h2 => v = .bool (z1m c t b x a && (decide (x.Op = 17) == decide (a = (slL b.Code).length - 1))) ∧ Keeps h h2 (fun _ => False)) := by
  have kind : ∀ n : Int, btw n (slL b.Slots).length = true → ((gD b.Slots n).Kind = 1 ∨ (gD b.Slots n).Kind = 3) → (gD b.Slots n).Rec = 0 := fun n hq hk => by
    have := hsl _ (z3b (z1v hq))
    unfold z1a at this
    rw [if_neg (by omega)] at this
    simp only [Bool.and_eq_true, decide_eq_true_eq] at this
    exact this.2
  have hl := z3l 15
  have nq : (hasS 15 == [63]) = false := rfl
  have f100 : (hasS 15).contains 100 = false := rfl
  have f115 : (hasS 15).contains 115 = false := rfl
  have f114 : (hasS 15).contains 114 = false := rfl
  have f110 : (hasS 15).contains 110 = true := rfl
  have f116 : (hasS 15).contains 116 = false := rfl
  have f105 : (hasS 15).contains 105 = false := rfl
  have f120 : (hasS 15).contains 120 = false := rfl
  have wl : IntKind.i64.wrap (((slL b.Code).length : Int) - 1) = ((slL b.Code).length : Int) - 1 := wrapI (by omega) (by omega)
  apply z11
  (repeat (first | simp -dsimp -implicitDefEqProofs (disch := omega) only [↓rP, rQ, rO, rL, ↓reduceIte, Nat.reduceEqDiff, Nat.reduceAdd, Nat.reduceLeDiff, z01, z05, ↓tyr, ixI hb, ixI hx] | refine Cut.go ?_))
  have e2 : (h.push (.row 49 b.cells)).next = h.next + 1 := rfl
  have o1 : ((h.push (.row 49 b.cells)).push (.row 45 x.cells)).objs h.next = some (.row 49 b.cells) := by simp
  have o2 : ((h.push (.row 49 b.cells)).push (.row 45 x.cells)).objs (h.next + 1) = some (.row 45 x.cells) := by simp
  have nx : ((h.push (.row 49 b.cells)).push (.row 45 x.cells)).next = h.next + 2 := rfl
  have kH : Keeps h ((h.push (.row 49 b.cells)).push (.row 45 x.cells)) (fun _ => False) := (Keeps.one _ _).go (Keeps.one _ _)
  rw [e2]
  generalize ((h.push (.row 49 b.cells)).push (.row 45 x.cells)) = H at *
  simp only [hop]
  obtain ⟨l1, l2, g0, g1, std, dd0, dd1, dd3, sts, ss0, ss1, ss4, stds, ds0, ds1, ds3, ds4, px, pd, qx, kDSp, kSp, kG, kD, kS, kDS⟩ := z3o o1 o2 nx kH
  refine z03.go (z1k 15 _) ?_
  repeat' (first | (simp -dsimp -implicitDefEqProofs only [↓rP, rQ, rL, ↓reduceIte, Nat.reduceEqDiff, Nat.reduceAdd, Nat.reduceLeDiff, z01, z05, ↓tyr, Int.reduceBEq, Int.reduceBNe, Int.reduceLT, Int.reduceLE, decide_true, decide_false, f100, f115, f114, f110, f116, f105, f120, nq, hop, ↓l1, ↓l2, wl, ixI hb, ixI hx, ↓g0, ↓g1, ↓std, ↓dd0, ↓dd1, ↓dd3, ↓sts, ↓ss0, ↓ss1, ↓ss4, ↓stds, ↓ds0, ↓ds1, ↓ds3, ↓ds4, ↓px, ↓pd, ↓qx]) | with_reducible refine Cut.go ?_ | with_reducible refine z03.go (has_100 _ hl _) ?_ | with_reducible refine z03.go (has_115 _ hl _) ?_ | with_reducible refine z03.go (has_114 _ hl _) ?_ | with_reducible refine z03.go (has_110 _ hl _) ?_ | with_reducible refine z03.go (has_116 _ hl _) ?_ | with_reducible refine z03.go (has_105 _ hl _) ?_ | with_reducible refine z03.go (has_120 _ hl _) ?_ | with_reducible refine z03.go (z1c _ _ _) ?_ | with_reducible refine z03.go (z1o c hs _ _ _) ?_ | with_reducible refine z03.go (z10 _ hn _ hit hitl _) ?_ | with_reducible refine z03.go (z10 _ hn _ hix hixl _) ?_ | with_reducible refine ixB_go (by assumption) ?_ | unfold z0q | unfold z0r | unfold z0s | unfold z0t | unfold z0u | (with_reducible refine Split.intro (fun hq => ?_) (fun hq => ?_) <;> (try simp only [Bool.not_eq_true', Bool.not_eq_false'] at hq) <;> (try rw [hq])))
  all_goals clear l1 l2 g0 g1 std dd0 dd1 dd3 sts ss0 ss1 ss4 stds ds0 ds1 ds3 ds4 px pd qx o1 o2
  all_goals refine And.intro (congrArg AV.bool ?_) (by first | exact kH | exact kG | exact kD _ | exact kS _ | exact kDS _ _ | exact kDSp _ _ _ | exact kSp _ _)
  all_goals clear kH kG kD kS kDS kDSp kSp nx wl nq hl f100 f115 f114 f110 f116 f105 f120 e2 hb hx hcl hixl hitl hix hit hn hs hc
  all_goals have kd := kind x.Dst
  all_goals have ks := kind x.Src
  all_goals clear kind
  all_goals clear hsl
  all_goals simp_all [z2u, z1m, z3t, z3f, z3q, z18, goesB, z2m, siteB, sameB, isB_btw, z5c, List.length_pos_iff, z1v, z5b, z3p]
  all_goals try omega
  all_goals try (rw [Bool.eq_iff_iff]; simp_all [beqI]; try omega)
  all_goals try (split <;> simp_all)
  all_goals try omega
theorem ri_16 (c : Cd) (hc : c.ok) (hs : (slL c.Sections).length ≤ 1000000) (t a : Int) (b : Bd) (x : In) (hb : getI (slL c.Threads) t = some b) (hx : getI (slL b.Code) a = some x) (hsl : ∀ l ∈ slL b.Slots, z1a c l = true)
    (hn : okI (slL b.Slots).length) (hit : okSl z0k.ok x.Items) (hix : okSl z0k.ok x.Index) (hitl : (slL x.Items).length ≤ 1000000) (hixl : (slL x.Index).length ≤ 1000000) (hcl : (slL b.Code).length ≤ 1000000) (hop : x.Op = 16) (h : z04) :
    z03 Try.prog 24 [.agg c.cells, .int .i64 t, .int .i64 a] h (fun v h2 => v = .bool (z1m c t b x a && (decide (x.Op = 17) == decide (a = (slL b.Code).length - 1))) ∧ Keeps h h2 (fun _ => False)) := by
  have kind : ∀ n : Int, btw n (slL b.Slots).length = true → ((gD b.Slots n).Kind = 1 ∨ (gD b.Slots n).Kind = 3) → (gD b.Slots n).Rec = 0 := fun n hq hk => by
    have := hsl _ (z3b (z1v hq))
    unfold z1a at this
    rw [if_neg (by omega)] at this
    simp only [Bool.and_eq_true, decide_eq_true_eq] at this
    exact this.2
  have hl := z3l 16
  have nq : (hasS 16 == [63]) = false := rfl
  have f100 : (hasS 16).contains 100 = false := rfl
  have f115 : (hasS 16).contains 115 = false := rfl
  have f114 : (hasS 16).contains 114 = false := rfl
  have f110 : (hasS 16).contains 110 = true := rfl
  have f116 : (hasS 16).contains 116 = false := rfl
  have f105 : (hasS 16).contains 105 = false := rfl
  have f120 : (hasS 16).contains 120 = false := rfl
  have wl : IntKind.i64.wrap (((slL b.Code).length : Int) - 1) = ((slL b.Code).length : Int) - 1 := wrapI (by omega) (by omega)
  apply z11
  (repeat (first | simp -dsimp -implicitDefEqProofs (disch := omega) only [↓rP, rQ, rO, rL, ↓reduceIte, Nat.reduceEqDiff, Nat.reduceAdd, Nat.reduceLeDiff, z01, z05, ↓tyr, ixI hb, ixI hx] | refine Cut.go ?_))
  have e2 : (h.push (.row 49 b.cells)).next = h.next + 1 := rfl
  have o1 : ((h.push (.row 49 b.cells)).push (.row 45 x.cells)).objs h.next = some (.row 49 b.cells) := by simp
  have o2 : ((h.push (.row 49 b.cells)).push (.row 45 x.cells)).objs (h.next + 1) = some (.row 45 x.cells) := by simp
  have nx : ((h.push (.row 49 b.cells)).push (.row 45 x.cells)).next = h.next + 2 := rfl
  have kH : Keeps h ((h.push (.row 49 b.cells)).push (.row 45 x.cells)) (fun _ => False) := (Keeps.one _ _).go (Keeps.one _ _)
  rw [e2]
  generalize ((h.push (.row 49 b.cells)).push (.row 45 x.cells)) = H at *
  simp only [hop]
  obtain ⟨l1, l2, g0, g1, std, dd0, dd1, dd3, sts, ss0, ss1, ss4, stds, ds0, ds1, ds3, ds4, px, pd, qx, kDSp, kSp, kG, kD, kS, kDS⟩ := z3o o1 o2 nx kH
  refine z03.go (z1k 16 _) ?_
  repeat' (first | (simp -dsimp -implicitDefEqProofs only [↓rP, rQ, rL, ↓reduceIte, Nat.reduceEqDiff, Nat.reduceAdd, Nat.reduceLeDiff, z01, z05, ↓tyr, Int.reduceBEq, Int.reduceBNe, Int.reduceLT, Int.reduceLE, decide_true, decide_false, f100, f115, f114, f110, f116, f105, f120, nq, hop, ↓l1, ↓l2, wl, ixI hb, ixI hx, ↓g0, ↓g1, ↓std, ↓dd0, ↓dd1, ↓dd3, ↓sts, ↓ss0, ↓ss1, ↓ss4, ↓stds, ↓ds0, ↓ds1, ↓ds3, ↓ds4, ↓px, ↓pd, ↓qx]) | with_reducible refine Cut.go ?_ | with_reducible refine z03.go (has_100 _ hl _) ?_ | with_reducible refine z03.go (has_115 _ hl _) ?_ | with_reducible refine z03.go (has_114 _ hl _) ?_ | with_reducible refine z03.go (has_110 _ hl _) ?_ | with_reducible refine z03.go (has_116 _ hl _) ?_ | with_reducible refine z03.go (has_105 _ hl _) ?_ | with_reducible refine z03.go (has_120 _ hl _) ?_ | with_reducible refine z03.go (z1c _ _ _) ?_ | with_reducible refine z03.go (z1o c hs _ _ _) ?_ | with_reducible refine z03.go (z10 _ hn _ hit hitl _) ?_ | with_reducible refine z03.go (z10 _ hn _ hix hixl _) ?_ | with_reducible refine ixB_go (by assumption) ?_ | unfold z0q | unfold z0r | unfold z0s | unfold z0t | unfold z0u | (with_reducible refine Split.intro (fun hq => ?_) (fun hq => ?_) <;> (try simp only [Bool.not_eq_true', Bool.not_eq_false'] at hq) <;> (try rw [hq])))
  all_goals clear l1 l2 g0 g1 std dd0 dd1 dd3 sts ss0 ss1 ss4 stds ds0 ds1 ds3 ds4 px pd qx o1 o2
  all_goals refine And.intro (congrArg AV.bool ?_) (by first | exact kH | exact kG | exact kD _ | exact kS _ | exact kDS _ _ | exact kDSp _ _ _ | exact kSp _ _)
  all_goals clear kH kG kD kS kDS kDSp kSp nx wl nq hl f100 f115 f114 f110 f116 f105 f120 e2 hb hx hcl hixl hitl hix hit hn hs hc
  all_goals have kd := kind x.Dst
  all_goals have ks := kind x.Src
  all_goals clear kind
  all_goals clear hsl
  all_goals simp_all [z2u, z1m, z3t, z3f, z3q, z18, goesB, z2m, siteB, sameB, isB_btw, z5c, List.length_pos_iff, z1v, z5b, z3p]
  all_goals try omega
  all_goals try (rw [Bool.eq_iff_iff]; simp_all [beqI]; try omega)
  all_goals try (split <;> simp_all)
  all_goals try omega
end Go.Proofs.Ytnggcokgnblpgaa
end

section
/- What the document's instr computes, of every instruction. -/
set_option maxRecDepth 100000
set_option maxHeartbeats 1000000
namespace Go.Proofs.Ytnggcokgnblpgaa
open Go.Abs
noncomputable def instrR (c : Cd) (t : Int) (b : Bd) (x : In) (a : Int) : Bool := z1m c t b x a && (decide (x.Op = 17) == decide (a = (slL b.Code).length - 1))
theorem instrB_none {c : Cd} {t : Int} {b : Bd} {x : In} {a : Int} (ho : x.Op < 1 ∨ 17 < x.Op) : z1m c t b x a = false := by
  unfold z1m
  rw [if_neg (by omega), if_neg (by omega), if_neg (by omega), if_neg (by omega), if_neg (by omega), if_neg (by omega), if_neg (by omega), if_neg (by omega)]
  have : decide (x.Op = 17) = false := decide_eq_false (by omega)
  simp [this]
theorem ri_0 (c : Cd) (t a : Int) (b : Bd) (x : In) (hb : getI (slL c.Threads) t = some b) (hx : getI (slL b.Code) a = some x) (ho : x.Op < 1 ∨ 17 < x.Op) (h : z04) :
    z03 Try.prog 24 [.agg c.cells, .int .i64 t, .int .i64 a] h (fun v h2 => v = .bool (instrR c t b x a) ∧ Keeps h h2 (fun _ => False)) := by
  have hs : hasS x.Op = [63] := by unfold hasS; rw [if_pos (by omega)]
  have nq : ([63] == ([63] : List UInt8)) = true := rfl
  apply z11
  (repeat (first | simp -dsimp -implicitDefEqProofs (disch := omega) only [↓rP, rQ, rO, rL, ↓reduceIte, Nat.reduceEqDiff, Nat.reduceAdd, Nat.reduceLeDiff, z01, z05, ↓tyr, ixI hb, ixI hx] | refine Cut.go ?_))
  refine z03.go (z1k x.Op _) ?_
  rw [hs]
  repeat' (first | (simp -dsimp -implicitDefEqProofs only [↓rP, rQ, rL, ↓reduceIte, Nat.reduceEqDiff, Nat.reduceAdd, Nat.reduceLeDiff, z01, z05, ↓tyr, Int.reduceBEq, Int.reduceBNe, Int.reduceLT, Int.reduceLE, decide_true, decide_false, nq]) | with_reducible refine Cut.go ?_ | unfold z0q | unfold z0r | unfold z0s | unfold z0t | unfold z0u)
  unfold instrR
  rw [instrB_none ho]
  exact ⟨rfl, (Keeps.one _ _).go (Keeps.one _ _)⟩
theorem ref_instr_does (c : Cd) (hc : c.ok) (sm : Small c) (t a : Int) (b : Bd) (x : In) (hb : getI (slL c.Threads) t = some b) (hx : getI (slL b.Code) a = some x) (hsl : ∀ l ∈ slL b.Slots, z1a c l = true) (h : z04) :
    z03 Try.prog 24 [.agg c.cells, .int .i64 t, .int .i64 a] h (fun v h2 => v = .bool (instrR c t b x a) ∧ h2 = h) := by
  have mb := z3b hb
  have mx := z3b hx
  have hs : (slL c.Sections).length ≤ 1000000 := by have := sm.secs; omega
  have h1 := sm.slots b mb
  have h2 := sm.code b mb
  have h3 := sm.items b mb x mx
  have h4 := sm.index b mb x mx
  have hxo := (hc.2.2.1.2 b mb).2.1.2 x mx
  have hit := hxo.2.2.2.2.2.2.1
  have hix := hxo.2.2.2.2.2.2.2
  have hn : okI (slL b.Slots).length := by unfold okI; omega
  refine z03.forget (by simp [z2v]) ?_
  unfold instrR
  rcases (by omega : (x.Op < 1 ∨ 17 < x.Op) ∨ x.Op = 1 ∨ x.Op = 2 ∨ x.Op = 3 ∨ x.Op = 4 ∨ x.Op = 5 ∨ x.Op = 6 ∨ x.Op = 7 ∨ x.Op = 8 ∨ x.Op = 9 ∨ x.Op = 10 ∨ x.Op = 11 ∨ x.Op = 12 ∨ x.Op = 13 ∨ x.Op = 14 ∨ x.Op = 15 ∨ x.Op = 16 ∨ x.Op = 17) with ho | ho | ho | ho | ho | ho | ho | ho | ho | ho | ho | ho | ho | ho | ho | ho | ho | ho
  · exact ri_0 c t a b x hb hx ho h
  · exact ri_1 c hc hs t a b x hb hx hsl hn hit hix (by omega) (by omega) (by omega) ho h
  · exact ri_2 c hc hs t a b x hb hx hsl hn hit hix (by omega) (by omega) (by omega) ho h
  · exact ri_3 c hc hs t a b x hb hx hsl hn hit hix (by omega) (by omega) (by omega) ho h
  · exact ri_4 c hc hs t a b x hb hx hsl hn hit hix (by omega) (by omega) (by omega) ho h
  · exact ri_5 c hc hs t a b x hb hx hsl hn hit hix (by omega) (by omega) (by omega) ho h
  · exact ri_6 c hc hs t a b x hb hx hsl hn hit hix (by omega) (by omega) (by omega) ho h
  · exact ri_7 c hc hs t a b x hb hx hsl hn hit hix (by omega) (by omega) (by omega) ho h
  · exact ri_8 c hc hs t a b x hb hx hsl hn hit hix (by omega) (by omega) (by omega) ho h
  · exact ri_9 c hc hs t a b x hb hx hsl hn hit hix (by omega) (by omega) (by omega) ho h
  · exact ri_10 c hc hs t a b x hb hx hsl hn hit hix (by omega) (by omega) (by omega) ho h
  · exact ri_11 c hc hs t a b x hb hx hsl hn hit hix (by omega) (by omega) (by omega) ho h
  · exact ri_12 c hc hs t a b x hb hx hsl hn hit hix (by omega) (by omega) (by omega) ho h
  · exact ri_13 c hc hs t a b x hb hx hsl hn hit hix (by omega) (by omega) (by omega) ho h
  · exact ri_14 c hc hs t a b x hb hx hsl hn hit hix (by omega) (by omega) (by omega) ho h
  · exact ri_15 c hc hs t a b x hb hx hsl hn hit hix (by omega) (by omega) (by omega) ho h
  · exact ri_16 c hc hs t a b x hb hx hsl hn hit hix (by omega) (by omega) (by omega) ho h
  · exact ri_17 c hc hs t a b x hb hx hsl hn hit hix (by omega) (by omega) (by omega) ho h
end Go.Proofs.Ytnggcokgnblpgaa
end

section
/- The document's Good: its loops within loops. -/
set_option maxRecDepth 100000
set_option maxHeartbeats 1000000
namespace Go.Proofs.Ytnggcokgnblpgaa
open Go.Abs
theorem all_no {α : Type} {p : α → Bool} {l : List α} {k : Nat} {x : α} (hx : l[k]? = some x) (hp : p x = false) : l.all p = false := List.all_eq_false.2 ⟨x, List.mem_of_getElem? hx, by simp [hp]⟩
theorem all_yes {α : Type} {p : α → Bool} {l : List α} (h : upTo (fun _ x => p x) l l.length) : l.all p = true := by
  rw [List.all_eq_true]
  intro x hx
  obtain ⟨k, hk⟩ := List.getElem?_of_mem hx
  exact h k x (List.getElem?_eq_some_iff.1 hk).1 hk
theorem g_cells (c : Cd) (o : Option (List Lo)) (hl : (slL o).length ≤ 1000000) (a57 a58 a59 : AV) (h0 : z04) (Q : z1j → Fr → z04 → Prop)
    (hret : ∀ h2, (slL o).all (fun x => !x.Once && z1a c x) = false → Keeps h0 h2 (fun _ => False) → Q .ret (frOf [(2, .bool false)]) h2)
    (hex : ∀ h2, (slL o).all (fun x => !x.Once && z1a c x) = true → Keeps h0 h2 (fun _ => False) → Q (.exit 2) (frOf [(1, .iptr c.cells), (57, a57), (58, a58), (59, a59)]) h2) :
    WP Try.prog 324 (.loop z3e) (frOf [(1, .iptr c.cells), (57, a57), (58, a58), (59, a59), (71, slAV 3 z0f.cells o), (72, .int .i64 (slL o).length), (73, .int .i64 0)]) h0 Q := by
  obtain ⟨I, hI⟩ : ∃ I : Nat → Fr → z04 → Prop, I = (fun n fr hh => ∃ k : Nat, k ≤ (slL o).length ∧ n = (slL o).length - k ∧ upTo (fun _ x => !x.Once && z1a c x) (slL o) k ∧ Keeps h0 hh (fun _ => False) ∧ fr = frOf [(1, .iptr c.cells), (57, a57), (58, a58), (59, a59), (71, slAV 3 z0f.cells o), (72, .int .i64 (slL o).length), (73, .int .i64 k)]) := ⟨_, rfl⟩
  refine z1u z0v (by kernel_rfl) I (slL o).length (by rw [hI]; exact ⟨0, by omega, by omega, z2p _ _, .refl _ _, rfl⟩) ?_
  intro n fr hh H
  rw [hI] at H
  obtain ⟨k, hk, rfl, hup, kp, rfl⟩ := H
  apply padlockref09_GoodR_loop10
  (repeat simp -dsimp -implicitDefEqProofs (disch := omega) only [↓rP, rQ, rO, rL, ↓reduceIte, Nat.reduceEqDiff, Nat.reduceAdd, Nat.reduceLeDiff, z01, z05, ↓tyr])
  refine z0i (fun hkl => ?_) (fun hkl => ?_)
  · obtain ⟨x, hx⟩ : ∃ x, (slL o)[k]? = some x := ⟨_, List.getElem?_eq_getElem (by omega)⟩
    have kp1 := kp.go (Keeps.one hh (.row 53 x.cells))
    have on : (!x.Once && z1a c x) = true → loopPost I ((slL o).length - k) Q .normal (frOf [(1, .iptr c.cells), (57, a57), (58, a58), (59, a59), (71, slAV 3 z0f.cells o), (72, .int .i64 (slL o).length), (73, .int .i64 (k + 1 : Nat))]) (hh.push (.row 53 x.cells)) := fun hp => by
      rw [z0a, hI]
      exact ⟨_, by omega, k + 1, by omega, rfl, z2i hup hx hp, kp1, rfl⟩
    have no : (!x.Once && z1a c x) = false → Q .ret (frOf [(2, .bool false)]) (hh.push (.row 53 x.cells)) := fun hp => hret _ (all_no hx hp) kp1
    (repeat simp -dsimp -implicitDefEqProofs (disch := omega) only [↓rP, rQ, rO, rL, ↓reduceIte, Nat.reduceEqDiff, Nat.reduceAdd, Nat.reduceLeDiff, z01, z05, ↓tyr, z0d hx])
    rcases ho : x.Once with _ | _
    · (repeat simp -dsimp -implicitDefEqProofs (disch := omega) only [↓rP, rQ, rO, rL, ↓reduceIte, Nat.reduceEqDiff, Nat.reduceAdd, Nat.reduceLeDiff, z01, z05, ↓tyr, ho])
      refine z03.go (ref_local_does c x _) ?_
      rcases hb : z1a c x with _ | _
      · (repeat simp -dsimp -implicitDefEqProofs (disch := omega) only [↓rP, rQ, rO, rL, ↓reduceIte, Nat.reduceEqDiff, Nat.reduceAdd, Nat.reduceLeDiff, z01, z05, ↓tyr, ho, Bool.not_false])
        exact no (by rw [ho, hb]; rfl)
      · (repeat simp -dsimp -implicitDefEqProofs (disch := omega) only [↓rP, rQ, rO, rL, ↓reduceIte, Nat.reduceEqDiff, Nat.reduceAdd, Nat.reduceLeDiff, z01, z05, ↓tyr, ho, Bool.not_true, wkS k (by omega)])
        exact on (by rw [ho, hb]; rfl)
    · (repeat simp -dsimp -implicitDefEqProofs (disch := omega) only [↓rP, rQ, rO, rL, ↓reduceIte, Nat.reduceEqDiff, Nat.reduceAdd, Nat.reduceLeDiff, z01, z05, ↓tyr, ho])
      exact no (by rw [ho]; rfl)
  · have hke : k = (slL o).length := by omega
    subst hke
    (repeat simp -dsimp -implicitDefEqProofs (disch := omega) only [↓rP, rQ, rO, rL, ↓reduceIte, Nat.reduceEqDiff, Nat.reduceAdd, Nat.reduceLeDiff, z01, z05, ↓tyr])
    exact hex hh (all_yes hup) kp
theorem g_slots (c : Cd) (o : Option (List Lo)) (hl : (slL o).length ≤ 1000000) (a88 a89 a90 : AV) (h0 : z04) (Q : z1j → Fr → z04 → Prop)
    (hret : ∀ h2, (slL o).all (z1a c) = false → Keeps h0 h2 (fun _ => False) → Q .ret (frOf [(2, .bool false)]) h2)
    (hex : ∀ h2, (slL o).all (z1a c) = true → Keeps h0 h2 (fun _ => False) → Q (.exit 6) (frOf [(1, .iptr c.cells), (88, a88), (89, a89), (90, a90)]) h2) :
    WP Try.prog 324 (.loop z4j) (frOf [(1, .iptr c.cells), (88, a88), (89, a89), (90, a90), (121, slAV 3 z0f.cells o), (122, .int .i64 (slL o).length), (123, .int .i64 0)]) h0 Q := by
  obtain ⟨I, hI⟩ : ∃ I : Nat → Fr → z04 → Prop, I = (fun n fr hh => ∃ k : Nat, k ≤ (slL o).length ∧ n = (slL o).length - k ∧ upTo (fun _ x => z1a c x) (slL o) k ∧ Keeps h0 hh (fun _ => False) ∧ fr = frOf [(1, .iptr c.cells), (88, a88), (89, a89), (90, a90), (121, slAV 3 z0f.cells o), (122, .int .i64 (slL o).length), (123, .int .i64 k)]) := ⟨_, rfl⟩
  refine z1u z0v (by kernel_rfl) I (slL o).length (by rw [hI]; exact ⟨0, by omega, by omega, z2p _ _, .refl _ _, rfl⟩) ?_
  intro n fr hh H
  rw [hI] at H
  obtain ⟨k, hk, rfl, hup, kp, rfl⟩ := H
  apply padlockref09_GoodR_loop22
  (repeat simp -dsimp -implicitDefEqProofs (disch := omega) only [↓rP, rQ, rO, rL, ↓reduceIte, Nat.reduceEqDiff, Nat.reduceAdd, Nat.reduceLeDiff, z01, z05, ↓tyr])
  refine z0i (fun hkl => ?_) (fun hkl => ?_)
  · obtain ⟨x, hx⟩ : ∃ x, (slL o)[k]? = some x := ⟨_, List.getElem?_eq_getElem (by omega)⟩
    have kp1 := kp.go (Keeps.one hh (.row 53 x.cells))
    (repeat simp -dsimp -implicitDefEqProofs (disch := omega) only [↓rP, rQ, rO, rL, ↓reduceIte, Nat.reduceEqDiff, Nat.reduceAdd, Nat.reduceLeDiff, z01, z05, ↓tyr, z0d hx])
    refine z03.go (ref_local_does c x _) ?_
    rcases hb : z1a c x with _ | _
    · (repeat simp -dsimp -implicitDefEqProofs (disch := omega) only [↓rP, rQ, rO, rL, ↓reduceIte, Nat.reduceEqDiff, Nat.reduceAdd, Nat.reduceLeDiff, z01, z05, ↓tyr, Bool.not_false])
      exact hret _ (all_no hx hb) kp1
    · (repeat simp -dsimp -implicitDefEqProofs (disch := omega) only [↓rP, rQ, rO, rL, ↓reduceIte, Nat.reduceEqDiff, Nat.reduceAdd, Nat.reduceLeDiff, z01, z05, ↓tyr, Bool.not_true, wkS k (by omega)])
      rw [z0a, hI]
      exact ⟨_, by omega, k + 1, by omega, rfl, z2i hup hx hb, kp1, rfl⟩
  · have hke : k = (slL o).length := by omega
    subst hke
    (repeat simp -dsimp -implicitDefEqProofs (disch := omega) only [↓rP, rQ, rO, rL, ↓reduceIte, Nat.reduceEqDiff, Nat.reduceAdd, Nat.reduceLeDiff, z01, z05, ↓tyr])
    exact hex hh (all_yes hup) kp
theorem g_instrs (c : Cd) (hc : c.ok) (sm : Small c) (i : Nat) (b : Bd) (hb : (slL c.Threads)[i]? = some b) (hsl : ∀ l ∈ slL b.Slots, z1a c l = true) (a304 a305 a306 : AV) (h0 : z04) (Q : z1j → Fr → z04 → Prop)
    (hret : allK (fun k x => instrR c i b x k) (slL b.Code) = false → Q .ret (frOf [(2, .bool false)]) h0)
    (hex : allK (fun k x => instrR c i b x k) (slL b.Code) = true → Q (.exit 16) (frOf [(1, .iptr c.cells), (304, a304), (305, a305), (306, a306)]) h0) :
    WP Try.prog 324 (.loop z4o) (frOf [(1, .iptr c.cells), (20, .int .i64 i), (304, a304), (305, a305), (306, a306), (313, .int .i64 (slL b.Code).length), (314, .int .i64 0)]) h0 Q := by
  have hcl := sm.code b (List.mem_of_getElem? hb)
  obtain ⟨I, hI⟩ : ∃ I : Nat → Fr → z04 → Prop, I = (fun n fr hh => ∃ k : Nat, k ≤ (slL b.Code).length ∧ n = (slL b.Code).length - k ∧ upTo (fun k x => instrR c i b x k) (slL b.Code) k ∧ hh = h0 ∧ fr = frOf [(1, .iptr c.cells), (20, .int .i64 i), (304, a304), (305, a305), (306, a306), (313, .int .i64 (slL b.Code).length), (314, .int .i64 k)]) := ⟨_, rfl⟩
  refine z1u z0v (by kernel_rfl) I (slL b.Code).length (by rw [hI]; exact ⟨0, by omega, by omega, z2p _ _, rfl, rfl⟩) ?_
  intro n fr hh H
  rw [hI] at H
  obtain ⟨k, hk, rfl, hup, rfl, rfl⟩ := H
  apply padlockref09_GoodR_loop56
  (repeat simp -dsimp -implicitDefEqProofs (disch := omega) only [↓rP, rQ, rO, rL, ↓reduceIte, Nat.reduceEqDiff, Nat.reduceAdd, Nat.reduceLeDiff, z01, z05, ↓tyr])
  refine z0i (fun hkl => ?_) (fun hkl => ?_)
  · obtain ⟨x, hx⟩ : ∃ x, (slL b.Code)[k]? = some x := ⟨_, List.getElem?_eq_getElem (by omega)⟩
    (repeat simp -dsimp -implicitDefEqProofs (disch := omega) only [↓rP, rQ, rO, rL, ↓reduceIte, Nat.reduceEqDiff, Nat.reduceAdd, Nat.reduceLeDiff, z01, z05, ↓tyr])
    refine z03.go (ref_instr_does c hc sm i k b x (by rw [z4g]; exact hb) (by rw [z4g]; exact hx) hsl _) ?_
    rcases hi : instrR c i b x k with _ | _
    · (repeat simp -dsimp -implicitDefEqProofs (disch := omega) only [↓rP, rQ, rO, rL, ↓reduceIte, Nat.reduceEqDiff, Nat.reduceAdd, Nat.reduceLeDiff, z01, z05, ↓tyr, Bool.not_false])
      exact hret (z2x hx hi)
    · (repeat simp -dsimp -implicitDefEqProofs (disch := omega) only [↓rP, rQ, rO, rL, ↓reduceIte, Nat.reduceEqDiff, Nat.reduceAdd, Nat.reduceLeDiff, z01, z05, ↓tyr, Bool.not_true, wkS k (by omega)])
      rw [z0a, hI]
      exact ⟨_, by omega, k + 1, by omega, rfl, z2i hup hx hi, rfl, rfl⟩
  · have hke : k = (slL b.Code).length := by omega
    subst hke
    (repeat simp -dsimp -implicitDefEqProofs (disch := omega) only [↓rP, rQ, rO, rL, ↓reduceIte, Nat.reduceEqDiff, Nat.reduceAdd, Nat.reduceLeDiff, z01, z05, ↓tyr])
    exact hex (upTo_all hup)
end Go.Proofs.Ytnggcokgnblpgaa
end

section
/- The document's Good: its outer loops. -/
set_option maxRecDepth 100000
set_option maxHeartbeats 1000000
namespace Go.Proofs.Ytnggcokgnblpgaa
open Go.Abs
def cellP (c : Cd) (o : Option (List Lo)) : Bool := (slL o).all (fun x => !x.Once && z1a c x)
def rowP (c : Cd) (i : Nat) (o : Option (List Lo)) : Bool := !(decide (0 < i) && decide (6 < (slL o).length)) && cellP c o
theorem g_rows (c : Cd) (ls : List (Option (List Lo))) (hl : ls.length ≤ 1000) (hr : ∀ o ∈ ls, (slL o).length ≤ 1000) (h0 : z04) (id : Nat) (hid : id < h0.next) (ho : h0.objs id = some (.row 23 (ls.map fun o => slAV 3 z0f.cells o))) (Q : z1j → Fr → z04 → Prop)
    (hret : ∀ h2, allK (rowP c) ls = false → Keeps h0 h2 (fun _ => False) → Q .ret (frOf [(2, .bool false)]) h2)
    (hex : ∀ h2, allK (rowP c) ls = true → Keeps h0 h2 (fun _ => False) → Q (.exit 0) (frOf [(1, .iptr c.cells)]) h2) :
    WP Try.prog 324 (.loop z4x) (frOf [(1, .iptr c.cells), (57, .sl id 0 ls.length 1), (58, .int .i64 ls.length), (59, .int .i64 0)]) h0 Q := by
  obtain ⟨I, hI⟩ : ∃ I : Nat → Fr → z04 → Prop, I = (fun n fr hh => ∃ k : Nat, k ≤ ls.length ∧ n = ls.length - k ∧ upTo (rowP c) ls k ∧ Keeps h0 hh (fun _ => False) ∧ fr = frOf [(1, .iptr c.cells), (57, .sl id 0 ls.length 1), (58, .int .i64 ls.length), (59, .int .i64 k)]) := ⟨_, rfl⟩
  refine z1u z0v (by kernel_rfl) I ls.length (by rw [hI]; exact ⟨0, by omega, by omega, z2p _ _, .refl _ _, rfl⟩) ?_
  intro n fr hh H
  rw [hI] at H
  obtain ⟨k, hk, rfl, hup, kp, rfl⟩ := H
  apply padlockref09_GoodR_loop5
  (repeat simp -dsimp -implicitDefEqProofs (disch := omega) only [↓rP, rQ, rO, rL, ↓reduceIte, Nat.reduceEqDiff, Nat.reduceAdd, Nat.reduceLeDiff, z01, z05, ↓tyr])
  refine z0i (fun hkl => ?_) (fun hkl => ?_)
  · obtain ⟨o, hx⟩ : ∃ o, ls[k]? = some o := ⟨_, List.getElem?_eq_getElem (by omega)⟩
    have hol := hr o (List.mem_of_getElem? hx)
    have ix : ∀ K : AV → Prop, z09 (.slice 1) (.sl id 0 ls.length 1) (.int .i64 (k : Int)) K = K (.ptr id k) := fun K => by
      simp [z09]; omega
    have ho2 : hh.objs id = some (.row 23 (ls.map fun o => slAV 3 z0f.cells o)) := by rw [kp.objs id hid (by simp)]; exact ho
    have ld : ∀ K : AV → Prop, z02 none (.ptr id k) hh K = K (slAV 3 z0f.cells o) := fun K => by
      rw [z0o ho2, pCells_none_some (v := slAV 3 z0f.cells o) (by rw [List.getElem?_map, hx]; rfl)]
    have bad : rowP c k o = false → allK (rowP c) ls = false := fun hp => z2x hx hp
    have inner : rowP c k o = cellP c o → WP Try.prog 324 (.loop z3e) (frOf [(1, .iptr c.cells), (57, .sl id 0 ls.length 1), (58, .int .i64 ls.length), (59, .int .i64 k), (71, slAV 3 z0f.cells o), (72, .int .i64 (slL o).length), (73, .int .i64 0)]) hh (fun e fr h2 => match e with | .ret => cellP c o = false ∧ Keeps hh h2 (fun _ => False) ∧ fr = frOf [(2, .bool false)] | .exit i => i = 2 ∧ cellP c o = true ∧ Keeps hh h2 (fun _ => False) ∧ fr = frOf [(1, .iptr c.cells), (57, .sl id 0 ls.length 1), (58, .int .i64 ls.length), (59, .int .i64 k)] | .normal => False) := fun _ =>
      g_cells c o (by omega) _ _ _ hh _ (fun h2 h k => ⟨h, k, rfl⟩) (fun h2 h k => ⟨rfl, h, k, rfl⟩)
    (repeat simp -dsimp -implicitDefEqProofs (disch := omega) only [↓rP, rQ, rO, rL, ↓reduceIte, Nat.reduceEqDiff, Nat.reduceAdd, Nat.reduceLeDiff, z01, z05, ↓tyr, ↓ix, ↓ld])
    refine z0i (fun h0k => ?_) (fun h0k => ?_)
    · (repeat simp -dsimp -implicitDefEqProofs (disch := omega) only [↓rP, rQ, rO, rL, ↓reduceIte, Nat.reduceEqDiff, Nat.reduceAdd, Nat.reduceLeDiff, z01, z05, ↓tyr, ↓ix, ↓ld])
      refine z0i (fun h6 => ?_) (fun h6 => ?_)
      · (repeat simp -dsimp -implicitDefEqProofs (disch := omega) only [↓rP, rQ, rO, rL, ↓reduceIte, Nat.reduceEqDiff, Nat.reduceAdd, Nat.reduceLeDiff, z01, z05, ↓tyr])
        have e1 : decide (0 < k) = true := decide_eq_true (by omega)
        have e2 : decide (6 < (slL o).length) = true := decide_eq_true (by omega)
        exact hret hh (bad (by unfold rowP; rw [e1, e2]; rfl)) kp
      · have e2 : decide (6 < (slL o).length) = false := decide_eq_false (by omega)
        have e : rowP c k o = cellP c o := by unfold rowP; rw [e2, Bool.and_false]; rfl
        (repeat simp -dsimp -implicitDefEqProofs (disch := omega) only [↓rP, rQ, rO, rL, ↓reduceIte, Nat.reduceEqDiff, Nat.reduceAdd, Nat.reduceLeDiff, z01, z05, ↓tyr])
        refine (inner e).mono ?_
        rintro (_ | i | _) fr h2 hq
        · exact hq.elim
        · obtain ⟨rfl, q1, q2, rfl⟩ := hq
          (repeat simp -dsimp -implicitDefEqProofs (disch := omega) only [↓rP, rQ, rO, rL, ↓reduceIte, Nat.reduceEqDiff, Nat.reduceAdd, Nat.reduceLeDiff, z01, z05, ↓tyr, wkS k (by omega)])
          rw [z0a, hI]
          exact ⟨_, by omega, k + 1, by omega, rfl, z2i hup hx (by rw [e]; exact q1), kp.go q2, rfl⟩
        · obtain ⟨q1, q2, rfl⟩ := hq
          (repeat simp -dsimp -implicitDefEqProofs (disch := omega) only [↓rP, rQ, rO, rL, ↓reduceIte, Nat.reduceEqDiff, Nat.reduceAdd, Nat.reduceLeDiff, z01, z05, ↓tyr])
          exact hret h2 (bad (by rw [e]; exact q1)) (kp.go q2)
    · have e1 : decide (0 < k) = false := decide_eq_false (by omega)
      have e : rowP c k o = cellP c o := by unfold rowP; rw [e1, Bool.false_and]; rfl
      (repeat simp -dsimp -implicitDefEqProofs (disch := omega) only [↓rP, rQ, rO, rL, ↓reduceIte, Nat.reduceEqDiff, Nat.reduceAdd, Nat.reduceLeDiff, z01, z05, ↓tyr])
      refine (inner e).mono ?_
      rintro (_ | i | _) fr h2 hq
      · exact hq.elim
      · obtain ⟨rfl, q1, q2, rfl⟩ := hq
        (repeat simp -dsimp -implicitDefEqProofs (disch := omega) only [↓rP, rQ, rO, rL, ↓reduceIte, Nat.reduceEqDiff, Nat.reduceAdd, Nat.reduceLeDiff, z01, z05, ↓tyr, wkS k (by omega)])
        rw [z0a, hI]
        exact ⟨_, by omega, k + 1, by omega, rfl, z2i hup hx (by rw [e]; exact q1), kp.go q2, rfl⟩
      · obtain ⟨q1, q2, rfl⟩ := hq
        (repeat simp -dsimp -implicitDefEqProofs (disch := omega) only [↓rP, rQ, rO, rL, ↓reduceIte, Nat.reduceEqDiff, Nat.reduceAdd, Nat.reduceLeDiff, z01, z05, ↓tyr])
        exact hret h2 (bad (by rw [e]; exact q1)) (kp.go q2)
  · have hke : k = ls.length := by omega
    subst hke
    (repeat simp -dsimp -implicitDefEqProofs (disch := omega) only [↓rP, rQ, rO, rL, ↓reduceIte, Nat.reduceEqDiff, Nat.reduceAdd, Nat.reduceLeDiff, z01, z05, ↓tyr])
    exact hex hh (upTo_all hup) kp
theorem g_bodies (c : Cd) (sm : Small c) (h0 : z04) (Q : z1j → Fr → z04 → Prop)
    (hret : ∀ h2, (slL c.Threads).all (bodyB c) = false → Keeps h0 h2 (fun _ => False) → Q .ret (frOf [(2, .bool false)]) h2)
    (hex : ∀ h2, (slL c.Threads).all (bodyB c) = true → Keeps h0 h2 (fun _ => False) → Q (.exit 4) (frOf [(1, .iptr c.cells)]) h2) :
    WP Try.prog 324 (.loop z4i) (frOf [(1, .iptr c.cells), (88, slAV 3 z0z.cells c.Threads), (89, .int .i64 (slL c.Threads).length), (90, .int .i64 0)]) h0 Q := by
  have hth := sm.threads
  obtain ⟨I, hI⟩ : ∃ I : Nat → Fr → z04 → Prop, I = (fun n fr hh => ∃ k : Nat, k ≤ (slL c.Threads).length ∧ n = (slL c.Threads).length - k ∧ upTo (fun _ b => bodyB c b) (slL c.Threads) k ∧ Keeps h0 hh (fun _ => False) ∧ fr = frOf [(1, .iptr c.cells), (88, slAV 3 z0z.cells c.Threads), (89, .int .i64 (slL c.Threads).length), (90, .int .i64 k)]) := ⟨_, rfl⟩
  refine z1u z0v (by kernel_rfl) I (slL c.Threads).length (by rw [hI]; exact ⟨0, by omega, by omega, z2p _ _, .refl _ _, rfl⟩) ?_
  intro n fr hh H
  rw [hI] at H
  obtain ⟨k, hk, rfl, hup, kp, rfl⟩ := H
  apply padlockref09_GoodR_loop17
  (repeat simp -dsimp -implicitDefEqProofs (disch := omega) only [↓rP, rQ, rO, rL, ↓reduceIte, Nat.reduceEqDiff, Nat.reduceAdd, Nat.reduceLeDiff, z01, z05, ↓tyr])
  refine z0i (fun hkl => ?_) (fun hkl => ?_)
  · obtain ⟨b, hx⟩ : ∃ b, (slL c.Threads)[k]? = some b := ⟨_, List.getElem?_eq_getElem (by omega)⟩
    have kp1 := kp.go (Keeps.one hh (.row 49 b.cells))
    have hsl := sm.slots b (List.mem_of_getElem? hx)
    have no : bodyB c b = false → Q .ret (frOf [(2, .bool false)]) (hh.push (.row 49 b.cells)) := fun hp => hret _ (all_no hx hp) kp1
    (repeat simp -dsimp -implicitDefEqProofs (disch := omega) only [↓rP, rQ, rO, rL, ↓reduceIte, Nat.reduceEqDiff, Nat.reduceAdd, Nat.reduceLeDiff, z01, z05, ↓tyr, z0d hx])
    refine z0i (fun h1 => ?_) (fun h1 => ?_)
    · (repeat simp -dsimp -implicitDefEqProofs (disch := omega) only [↓rP, rQ, rO, rL, ↓reduceIte, Nat.reduceEqDiff, Nat.reduceAdd, Nat.reduceLeDiff, z01, z05, ↓tyr])
      exact no (by simp [bodyB]; intros; omega)
    (repeat simp -dsimp -implicitDefEqProofs (disch := omega) only [↓rP, rQ, rO, rL, ↓reduceIte, Nat.reduceEqDiff, Nat.reduceAdd, Nat.reduceLeDiff, z01, z05, ↓tyr])
    refine z0i (fun h2 => ?_) (fun h2 => ?_)
    · (repeat simp -dsimp -implicitDefEqProofs (disch := omega) only [↓rP, rQ, rO, rL, ↓reduceIte, Nat.reduceEqDiff, Nat.reduceAdd, Nat.reduceLeDiff, z01, z05, ↓tyr])
      exact no (by simp [bodyB]; intros; omega)
    (repeat simp -dsimp -implicitDefEqProofs (disch := omega) only [↓rP, rQ, rO, rL, ↓reduceIte, Nat.reduceEqDiff, Nat.reduceAdd, Nat.reduceLeDiff, z01, z05, ↓tyr])
    refine z0i (fun h3 => ?_) (fun h3 => ?_)
    · (repeat simp -dsimp -implicitDefEqProofs (disch := omega) only [↓rP, rQ, rO, rL, ↓reduceIte, Nat.reduceEqDiff, Nat.reduceAdd, Nat.reduceLeDiff, z01, z05, ↓tyr])
      exact no (by simp [bodyB]; intros; omega)
    (repeat simp -dsimp -implicitDefEqProofs (disch := omega) only [↓rP, rQ, rO, rL, ↓reduceIte, Nat.reduceEqDiff, Nat.reduceAdd, Nat.reduceLeDiff, z01, z05, ↓tyr])
    refine z0i (fun h4 => ?_) (fun h4 => ?_)
    · (repeat simp -dsimp -implicitDefEqProofs (disch := omega) only [↓rP, rQ, rO, rL, ↓reduceIte, Nat.reduceEqDiff, Nat.reduceAdd, Nat.reduceLeDiff, z01, z05, ↓tyr])
      exact no (by simp [bodyB]; intros; omega)
    (repeat simp -dsimp -implicitDefEqProofs (disch := omega) only [↓rP, rQ, rO, rL, ↓reduceIte, Nat.reduceEqDiff, Nat.reduceAdd, Nat.reduceLeDiff, z01, z05, ↓tyr])
    refine z0i (fun h5 => ?_) (fun h5 => ?_)
    · (repeat simp -dsimp -implicitDefEqProofs (disch := omega) only [↓rP, rQ, rO, rL, ↓reduceIte, Nat.reduceEqDiff, Nat.reduceAdd, Nat.reduceLeDiff, z01, z05, ↓tyr])
      exact no (by simp [bodyB]; intros; omega)
    have e : bodyB c b = (slL b.Slots).all (z1a c) := by
      unfold bodyB
      rw [decide_eq_true (by omega : (slL b.Slots).length ≤ 64), decide_eq_true (by omega : 1 ≤ (slL b.Code).length), decide_eq_true (by omega : (slL b.Code).length ≤ 256), decide_eq_true (by omega : 0 ≤ b.Most), decide_eq_true (by omega : b.Most ≤ 4096)]
      rfl
    (repeat simp -dsimp -implicitDefEqProofs (disch := omega) only [↓rP, rQ, rO, rL, ↓reduceIte, Nat.reduceEqDiff, Nat.reduceAdd, Nat.reduceLeDiff, z01, z05, ↓tyr])
    refine g_slots c b.Slots (by omega) _ _ _ _ _ (fun h2 hg k2 => ?_) (fun h2 hg k2 => ?_)
    · (repeat simp -dsimp -implicitDefEqProofs (disch := omega) only [↓rP, rQ, rO, rL, ↓reduceIte, Nat.reduceEqDiff, Nat.reduceAdd, Nat.reduceLeDiff, z01, z05, ↓tyr])
      exact hret _ (all_no hx (by rw [e]; exact hg)) (kp1.go k2)
    · (repeat simp -dsimp -implicitDefEqProofs (disch := omega) only [↓rP, rQ, rO, rL, ↓reduceIte, Nat.reduceEqDiff, Nat.reduceAdd, Nat.reduceLeDiff, z01, z05, ↓tyr, wkS k (by omega)])
      rw [z0a, hI]
      exact ⟨_, by omega, k + 1, by omega, rfl, z2i hup hx (by rw [e]; exact hg), kp1.go k2, rfl⟩
  · have hke : k = (slL c.Threads).length := by omega
    subst hke
    (repeat simp -dsimp -implicitDefEqProofs (disch := omega) only [↓rP, rQ, rO, rL, ↓reduceIte, Nat.reduceEqDiff, Nat.reduceAdd, Nat.reduceLeDiff, z01, z05, ↓tyr])
    exact hex hh (all_yes hup) kp
theorem g_threads (c : Cd) (hc : c.ok) (sm : Small c) (hbd : (slL c.Threads).all (bodyB c) = true) (h0 : z04) (Q : z1j → Fr → z04 → Prop)
    (hret : ∀ h2, allK (fun i b => allK (fun k x => instrR c i b x k) (slL b.Code)) (slL c.Threads) = false → Keeps h0 h2 (fun _ => False) → Q .ret (frOf [(2, .bool false)]) h2)
    (hex : ∀ h2, allK (fun i b => allK (fun k x => instrR c i b x k) (slL b.Code)) (slL c.Threads) = true → Keeps h0 h2 (fun _ => False) → Q (.exit 14) (frOf []) h2) :
    WP Try.prog 324 (.loop z4n) (frOf [(1, .iptr c.cells), (304, slAV 3 z0z.cells c.Threads), (305, .int .i64 (slL c.Threads).length), (306, .int .i64 0)]) h0 Q := by
  have hth := sm.threads
  obtain ⟨I, hI⟩ : ∃ I : Nat → Fr → z04 → Prop, I = (fun n fr hh => ∃ k : Nat, k ≤ (slL c.Threads).length ∧ n = (slL c.Threads).length - k ∧ upTo (fun i b => allK (fun k x => instrR c i b x k) (slL b.Code)) (slL c.Threads) k ∧ Keeps h0 hh (fun _ => False) ∧ fr = frOf [(1, .iptr c.cells), (304, slAV 3 z0z.cells c.Threads), (305, .int .i64 (slL c.Threads).length), (306, .int .i64 k)]) := ⟨_, rfl⟩
  refine z1u z0v (by kernel_rfl) I (slL c.Threads).length (by rw [hI]; exact ⟨0, by omega, by omega, z2p _ _, .refl _ _, rfl⟩) ?_
  intro n fr hh H
  rw [hI] at H
  obtain ⟨k, hk, rfl, hup, kp, rfl⟩ := H
  apply padlockref09_GoodR_loop53
  (repeat simp -dsimp -implicitDefEqProofs (disch := omega) only [↓rP, rQ, rO, rL, ↓reduceIte, Nat.reduceEqDiff, Nat.reduceAdd, Nat.reduceLeDiff, z01, z05, ↓tyr])
  refine z0i (fun hkl => ?_) (fun hkl => ?_)
  · obtain ⟨b, hx⟩ : ∃ b, (slL c.Threads)[k]? = some b := ⟨_, List.getElem?_eq_getElem (by omega)⟩
    have kp1 := kp.go (Keeps.one hh (.row 49 b.cells))
    have hsl : ∀ l ∈ slL b.Slots, z1a c l = true := by
      have := List.all_eq_true.1 hbd b (List.mem_of_getElem? hx)
      unfold bodyB at this
      rw [Bool.and_eq_true] at this
      exact List.all_eq_true.1 this.2
    (repeat simp -dsimp -implicitDefEqProofs (disch := omega) only [↓rP, rQ, rO, rL, ↓reduceIte, Nat.reduceEqDiff, Nat.reduceAdd, Nat.reduceLeDiff, z01, z05, ↓tyr, z0d hx])
    refine g_instrs c hc sm k b hx hsl _ _ _ _ _ (fun hg => ?_) (fun hg => ?_)
    · (repeat simp -dsimp -implicitDefEqProofs (disch := omega) only [↓rP, rQ, rO, rL, ↓reduceIte, Nat.reduceEqDiff, Nat.reduceAdd, Nat.reduceLeDiff, z01, z05, ↓tyr])
      exact hret _ (z2x hx hg) kp1
    · (repeat simp -dsimp -implicitDefEqProofs (disch := omega) only [↓rP, rQ, rO, rL, ↓reduceIte, Nat.reduceEqDiff, Nat.reduceAdd, Nat.reduceLeDiff, z01, z05, ↓tyr, wkS k (by omega)])
      rw [z0a, hI]
      exact ⟨_, by omega, k + 1, by omega, rfl, z2i hup hx hg, kp1, rfl⟩
  · have hke : k = (slL c.Threads).length := by omega
    subst hke
    (repeat simp -dsimp -implicitDefEqProofs (disch := omega) only [↓rP, rQ, rO, rL, ↓reduceIte, Nat.reduceEqDiff, Nat.reduceAdd, Nat.reduceLeDiff, z01, z05, ↓tyr])
    exact hex hh (upTo_all hup) kp
end Go.Proofs.Ytnggcokgnblpgaa
end

section
/- The document's Good: sections and sites. -/
set_option maxRecDepth 100000
set_option maxHeartbeats 1000000
namespace Go.Proofs.Ytnggcokgnblpgaa
open Go.Abs
def sepP (i : Nat) (s : z0e) (j : Nat) (o : z0e) : Bool := decide (j = i) || !meetB s o
def secR (c : Cd) (i : Nat) (s : z0e) : Bool := endsB c i s && allK (sepP i s) (slL c.Sections)
theorem g_sep (c : Cd) (sm : Small c) (i : Nat) (hi : i ≤ 1000) (s : z0e) (a134 a135 a136 : AV) (h0 : z04) (id : Nat) (hid : id < h0.next) (ho : h0.objs id = some (.row 51 s.cells)) (Q : z1j → Fr → z04 → Prop)
    (hret : ∀ h2, allK (sepP i s) (slL c.Sections) = false → Keeps h0 h2 (fun _ => False) → Q .ret (frOf [(2, .bool false)]) h2)
    (hex : ∀ h2, allK (sepP i s) (slL c.Sections) = true → Keeps h0 h2 (fun _ => False) → Q (.exit 10) (frOf [(1, .iptr c.cells), (134, a134), (135, a135), (136, a136)]) h2) :
    WP Try.prog 324 (.loop z4l) (frOf [(1, .iptr c.cells), (12, .int .i64 i), (13, .ptr id 0), (134, a134), (135, a135), (136, a136), (214, slAV 3 z0e.cells c.Sections), (215, .int .i64 (slL c.Sections).length), (216, .int .i64 0)]) h0 Q := by
  have hsec := sm.secs
  obtain ⟨I, hI⟩ : ∃ I : Nat → Fr → z04 → Prop, I = (fun n fr hh => ∃ k : Nat, k ≤ (slL c.Sections).length ∧ n = (slL c.Sections).length - k ∧ upTo (sepP i s) (slL c.Sections) k ∧ Keeps h0 hh (fun _ => False) ∧ fr = frOf [(1, .iptr c.cells), (12, .int .i64 i), (13, .ptr id 0), (134, a134), (135, a135), (136, a136), (214, slAV 3 z0e.cells c.Sections), (215, .int .i64 (slL c.Sections).length), (216, .int .i64 k)]) := ⟨_, rfl⟩
  refine z1u z0v (by kernel_rfl) I (slL c.Sections).length (by rw [hI]; exact ⟨0, by omega, by omega, z2p _ _, .refl _ _, rfl⟩) ?_
  intro n fr hh H
  rw [hI] at H
  obtain ⟨k, hk, rfl, hup, kp, rfl⟩ := H
  apply padlockref09_GoodR_loop37
  (repeat (first | simp -dsimp -implicitDefEqProofs (disch := omega) only [↓rP, rQ, rO, rL, ↓reduceIte, Nat.reduceEqDiff, Nat.reduceAdd, Nat.reduceLeDiff, z01, z05, ↓tyr] | refine Cut.go ?_))
  refine z0i (fun hkl => ?_) (fun hkl => ?_)
  · obtain ⟨o, hx⟩ : ∃ o, (slL c.Sections)[k]? = some o := ⟨_, List.getElem?_eq_getElem (by omega)⟩
    have kp1 := kp.go (Keeps.one hh (.row 51 o.cells))
    have ho2 : (hh.push (.row 51 o.cells)).objs id = some (.row 51 s.cells) := by
      have := kp.next
      simp only [z04.z4u]
      rw [if_neg (by omega), kp.objs id hid (by simp), ho]
    have ld : ∀ (off : Nat) (q : Option Nat) (K : AV → Prop), z02 q (.ptr id off) (hh.push (.row 51 o.cells)) K = z0h q s.cells off K := fun off q K => z0o ho2 q K
    have no : sepP i s k o = false → Q .ret (frOf [(2, .bool false)]) (hh.push (.row 51 o.cells)) := fun hp => hret _ (z2x hx hp) kp1
    have on : sepP i s k o = true → loopPost I ((slL c.Sections).length - k) Q .normal (frOf [(1, .iptr c.cells), (12, .int .i64 i), (13, .ptr id 0), (134, a134), (135, a135), (136, a136), (214, slAV 3 z0e.cells c.Sections), (215, .int .i64 (slL c.Sections).length), (216, .int .i64 (k + 1 : Nat))]) (hh.push (.row 51 o.cells)) := fun hp => by
      rw [z0a, hI]
      exact ⟨_, by omega, k + 1, by omega, rfl, z2i hup hx hp, kp1, rfl⟩
    have wk := wkS k (by omega)
    have end1 : sepP i s k o = true ∨ sepP i s k o = false := by cases sepP i s k o <;> simp
    have isno : k ≠ i → o.Thread = s.Thread → s.From ≤ o.To → o.From ≤ s.To → sepP i s k o = false := fun a1 a2 a3 a4 => by simp [sepP, meetB, a1, a2, a3, a4]
    have ison : (k = i ∨ o.Thread ≠ s.Thread ∨ o.To < s.From ∨ s.To < o.From) → sepP i s k o = true := fun h => by
      simp only [sepP, meetB, Bool.or_eq_true, decide_eq_true_eq, Bool.not_eq_true', Bool.and_eq_false_iff, decide_eq_false_iff_not]
      omega
    repeat' (first | (simp -dsimp -implicitDefEqProofs (disch := omega) only [↓rP, rQ, rO, rL, ↓reduceIte, Nat.reduceEqDiff, Nat.reduceAdd, Nat.reduceLeDiff, z01, z05, ↓tyr, z0d hx, ↓ld, wk]) | with_reducible refine Cut.go ?_ | with_reducible refine z0x (fun _ => ?_) (fun _ => ?_) | with_reducible refine z13 (fun _ => ?_) (fun _ => ?_) | with_reducible refine z0i (fun _ => ?_) (fun _ => ?_) | with_reducible refine z16 (fun _ => ?_) (fun _ => ?_) | with_reducible refine Split_not ?_)
    all_goals first
      | exact on (ison (by omega))
      | exact no (isno (by omega) (by omega) (by omega) (by omega))
  · have hke : k = (slL c.Sections).length := by omega
    subst hke
    (repeat (first | simp -dsimp -implicitDefEqProofs (disch := omega) only [↓rP, rQ, rO, rL, ↓reduceIte, Nat.reduceEqDiff, Nat.reduceAdd, Nat.reduceLeDiff, z01, z05, ↓tyr] | refine Cut.go ?_))
    exact hex hh (upTo_all hup) kp
theorem g_sections (c : Cd) (sm : Small c) (h0 : z04) (Q : z1j → Fr → z04 → Prop)
    (hret : ∀ h2, allK (secR c) (slL c.Sections) = false → Keeps h0 h2 (fun _ => False) → Q .ret (frOf [(2, .bool false)]) h2)
    (hex : ∀ h2, allK (secR c) (slL c.Sections) = true → Keeps h0 h2 (fun _ => False) → Q (.exit 8) (frOf [(1, .iptr c.cells)]) h2) :
    WP Try.prog 324 (.loop z4k) (frOf [(1, .iptr c.cells), (134, slAV 3 z0e.cells c.Sections), (135, .int .i64 (slL c.Sections).length), (136, .int .i64 0)]) h0 Q := by
  have hsec := sm.secs
  obtain ⟨I, hI⟩ : ∃ I : Nat → Fr → z04 → Prop, I = (fun n fr hh => ∃ k : Nat, k ≤ (slL c.Sections).length ∧ n = (slL c.Sections).length - k ∧ upTo (secR c) (slL c.Sections) k ∧ Keeps h0 hh (fun _ => False) ∧ fr = frOf [(1, .iptr c.cells), (134, slAV 3 z0e.cells c.Sections), (135, .int .i64 (slL c.Sections).length), (136, .int .i64 k)]) := ⟨_, rfl⟩
  refine z1u z0v (by kernel_rfl) I (slL c.Sections).length (by rw [hI]; exact ⟨0, by omega, by omega, z2p _ _, .refl _ _, rfl⟩) ?_
  intro n fr hh H
  rw [hI] at H
  obtain ⟨k, hk, rfl, hup, kp, rfl⟩ := H
  apply padlockref09_GoodR_loop29
  (repeat (first | simp -dsimp -implicitDefEqProofs (disch := omega) only [↓rP, rQ, rO, rL, ↓reduceIte, Nat.reduceEqDiff, Nat.reduceAdd, Nat.reduceLeDiff, z01, z05, ↓tyr] | refine Cut.go ?_))
  refine z0i (fun hkl => ?_) (fun hkl => ?_)
  · obtain ⟨s, hx⟩ : ∃ s, (slL c.Sections)[k]? = some s := ⟨_, List.getElem?_eq_getElem (by omega)⟩
    have kp1 := kp.go (Keeps.one hh (.row 51 s.cells))
    have no : endsB c k s = false → Q .ret (frOf [(2, .bool false)]) (hh.push (.row 51 s.cells)) := fun hp => hret _ (z2x hx (by unfold secR; rw [hp]; rfl)) kp1
    (repeat (first | simp -dsimp -implicitDefEqProofs (disch := omega) only [↓rP, rQ, rO, rL, ↓reduceIte, Nat.reduceEqDiff, Nat.reduceAdd, Nat.reduceLeDiff, z01, z05, ↓tyr, z0d hx] | refine Cut.go ?_))
    refine z03.go (z1c _ _ _) ?_
    cases hb : getI (slL c.Threads) s.Thread with
    | none =>
      have hbt := z2o.2 hb
      (repeat (first | simp -dsimp -implicitDefEqProofs (disch := omega) only [↓rP, rQ, rO, rL, ↓reduceIte, Nat.reduceEqDiff, Nat.reduceAdd, Nat.reduceLeDiff, z01, z05, ↓tyr, hbt, Bool.not_false] | refine Cut.go ?_))
      exact no (by simp [endsB, z4c, hb])
    | some b =>
      have hbt := z1l.2 ⟨b, hb⟩
      (repeat (first | simp -dsimp -implicitDefEqProofs (disch := omega) only [↓rP, rQ, rO, rL, ↓reduceIte, Nat.reduceEqDiff, Nat.reduceAdd, Nat.reduceLeDiff, z01, z05, ↓tyr, hbt, Bool.not_true] | refine Cut.go ?_))
      refine z03.go (z1c _ _ _) ?_
      rcases h1 : btw s.From s.To with _ | _
      · (repeat (first | simp -dsimp -implicitDefEqProofs (disch := omega) only [↓rP, rQ, rO, rL, ↓reduceIte, Nat.reduceEqDiff, Nat.reduceAdd, Nat.reduceLeDiff, z01, z05, ↓tyr, hbt, h1, Bool.not_false] | refine Cut.go ?_))
        exact no (by unfold endsB; unfold btw at h1; rw [h1]; rfl)
      have h1' : 0 ≤ s.From ∧ s.From < s.To := by simpa [btw] using h1
      (repeat (first | simp -dsimp -implicitDefEqProofs (disch := omega) only [↓rP, rQ, rO, rL, ↓reduceIte, Nat.reduceEqDiff, Nat.reduceAdd, Nat.reduceLeDiff, z01, z05, ↓tyr, hbt, h1, Bool.not_true, ixI hb] | refine Cut.go ?_))
      refine z03.go (z1c _ _ _) ?_
      rcases h2 : btw s.To (slL b.Code).length with _ | _
      · (repeat (first | simp -dsimp -implicitDefEqProofs (disch := omega) only [↓rP, rQ, rO, rL, ↓reduceIte, Nat.reduceEqDiff, Nat.reduceAdd, Nat.reduceLeDiff, z01, z05, ↓tyr, hbt, h1, h2, Bool.not_false] | refine Cut.go ?_))
        exact no (by simp [endsB, z4c, hb, z5b h2])
      have h2' : 0 ≤ s.To ∧ s.To < (slL b.Code).length := by simpa [btw] using h2
      obtain ⟨x, hxx⟩ : ∃ x, getI (slL b.Code) s.From = some x := z1l.1 (by unfold btw; simp; omega)
      obtain ⟨y, hyy⟩ : ∃ y, getI (slL b.Code) s.To = some y := z1l.1 h2
      (repeat (first | simp -dsimp -implicitDefEqProofs (disch := omega) only [↓rP, rQ, rO, rL, ↓reduceIte, Nat.reduceEqDiff, Nat.reduceAdd, Nat.reduceLeDiff, z01, z05, ↓tyr, hbt, h1, h2, Bool.not_true, ixI hb, ixI hxx, ixI hyy] | refine Cut.go ?_))
      refine z13 (fun h4 => ?_) (fun h4 => ?_)
      · (repeat (first | simp -dsimp -implicitDefEqProofs (disch := omega) only [↓rP, rQ, rO, rL, ↓reduceIte, Nat.reduceEqDiff, Nat.reduceAdd, Nat.reduceLeDiff, z01, z05, ↓tyr] | refine Cut.go ?_))
        exact no (by simp [endsB, z4c, hb, hxx, h4])
      (repeat (first | simp -dsimp -implicitDefEqProofs (disch := omega) only [↓rP, rQ, rO, rL, ↓reduceIte, Nat.reduceEqDiff, Nat.reduceAdd, Nat.reduceLeDiff, z01, z05, ↓tyr, ixI hb, ixI hxx, ixI hyy] | refine Cut.go ?_))
      refine z13 (fun h5 => ?_) (fun h5 => ?_)
      · (repeat (first | simp -dsimp -implicitDefEqProofs (disch := omega) only [↓rP, rQ, rO, rL, ↓reduceIte, Nat.reduceEqDiff, Nat.reduceAdd, Nat.reduceLeDiff, z01, z05, ↓tyr] | refine Cut.go ?_))
        exact no (by simp [endsB, z4c, hb, hxx, h5])
      (repeat (first | simp -dsimp -implicitDefEqProofs (disch := omega) only [↓rP, rQ, rO, rL, ↓reduceIte, Nat.reduceEqDiff, Nat.reduceAdd, Nat.reduceLeDiff, z01, z05, ↓tyr, ixI hb, ixI hxx, ixI hyy] | refine Cut.go ?_))
      refine z13 (fun h6 => ?_) (fun h6 => ?_)
      · (repeat (first | simp -dsimp -implicitDefEqProofs (disch := omega) only [↓rP, rQ, rO, rL, ↓reduceIte, Nat.reduceEqDiff, Nat.reduceAdd, Nat.reduceLeDiff, z01, z05, ↓tyr] | refine Cut.go ?_))
        exact no (by simp [endsB, z4c, hb, hyy, h6])
      (repeat (first | simp -dsimp -implicitDefEqProofs (disch := omega) only [↓rP, rQ, rO, rL, ↓reduceIte, Nat.reduceEqDiff, Nat.reduceAdd, Nat.reduceLeDiff, z01, z05, ↓tyr, ixI hb, ixI hxx, ixI hyy] | refine Cut.go ?_))
      refine z13 (fun h7 => ?_) (fun h7 => ?_)
      · (repeat (first | simp -dsimp -implicitDefEqProofs (disch := omega) only [↓rP, rQ, rO, rL, ↓reduceIte, Nat.reduceEqDiff, Nat.reduceAdd, Nat.reduceLeDiff, z01, z05, ↓tyr] | refine Cut.go ?_))
        exact no (by simp [endsB, z4c, hb, hyy, h7])
      have he : endsB c k s = true := by
        simp only [endsB, z4c, hb, hxx, hyy, h4, h5, h6, h7, decide_true, Bool.and_true, Bool.and_eq_true, decide_eq_true_eq]
        omega
      (repeat (first | simp -dsimp -implicitDefEqProofs (disch := omega) only [↓rP, rQ, rO, rL, ↓reduceIte, Nat.reduceEqDiff, Nat.reduceAdd, Nat.reduceLeDiff, z01, z05, ↓tyr] | refine Cut.go ?_))
      refine g_sep c sm k (by omega) s _ _ _ _ hh.next (by simp) (by simp) _ (fun h3 hg k3 => ?_) (fun h3 hg k3 => ?_)
      · (repeat (first | simp -dsimp -implicitDefEqProofs (disch := omega) only [↓rP, rQ, rO, rL, ↓reduceIte, Nat.reduceEqDiff, Nat.reduceAdd, Nat.reduceLeDiff, z01, z05, ↓tyr] | refine Cut.go ?_))
        exact hret _ (z2x hx (by unfold secR; rw [hg, Bool.and_false])) (kp1.go k3)
      · (repeat (first | simp -dsimp -implicitDefEqProofs (disch := omega) only [↓rP, rQ, rO, rL, ↓reduceIte, Nat.reduceEqDiff, Nat.reduceAdd, Nat.reduceLeDiff, z01, z05, ↓tyr, wkS k (by omega)] | refine Cut.go ?_))
        rw [z0a, hI]
        exact ⟨_, by omega, k + 1, by omega, rfl, z2i hup hx (by unfold secR; rw [hg, he]; rfl), kp1.go k3, rfl⟩
  · have hke : k = (slL c.Sections).length := by omega
    subst hke
    (repeat (first | simp -dsimp -implicitDefEqProofs (disch := omega) only [↓rP, rQ, rO, rL, ↓reduceIte, Nat.reduceEqDiff, Nat.reduceAdd, Nat.reduceLeDiff, z01, z05, ↓tyr] | refine Cut.go ?_))
    exact hex hh (upTo_all hup) kp
theorem g_sites (c : Cd) (sm : Small c) (h0 : z04) (Q : z1j → Fr → z04 → Prop)
    (hret : ∀ h2, allK (siteOk c) (slL c.Sites) = false → Keeps h0 h2 (fun _ => False) → Q .ret (frOf [(2, .bool false)]) h2)
    (hex : ∀ h2, allK (siteOk c) (slL c.Sites) = true → Keeps h0 h2 (fun _ => False) → Q (.exit 12) (frOf [(1, .iptr c.cells)]) h2) :
    WP Try.prog 324 (.loop z4m) (frOf [(1, .iptr c.cells), (249, slAV 3 z15.cells c.Sites), (250, .int .i64 (slL c.Sites).length), (251, .int .i64 0)]) h0 Q := by
  have hsi := sm.sites
  obtain ⟨I, hI⟩ : ∃ I : Nat → Fr → z04 → Prop, I = (fun n fr hh => ∃ k : Nat, k ≤ (slL c.Sites).length ∧ n = (slL c.Sites).length - k ∧ upTo (siteOk c) (slL c.Sites) k ∧ Keeps h0 hh (fun _ => False) ∧ fr = frOf [(1, .iptr c.cells), (249, slAV 3 z15.cells c.Sites), (250, .int .i64 (slL c.Sites).length), (251, .int .i64 k)]) := ⟨_, rfl⟩
  refine z1u z0v (by kernel_rfl) I (slL c.Sites).length (by rw [hI]; exact ⟨0, by omega, by omega, z2p _ _, .refl _ _, rfl⟩) ?_
  intro n fr hh H
  rw [hI] at H
  obtain ⟨k, hk, rfl, hup, kp, rfl⟩ := H
  apply padlockref09_GoodR_loop44
  (repeat (first | simp -dsimp -implicitDefEqProofs (disch := omega) only [↓rP, rQ, rO, rL, ↓reduceIte, Nat.reduceEqDiff, Nat.reduceAdd, Nat.reduceLeDiff, z01, z05, ↓tyr] | refine Cut.go ?_))
  refine z0i (fun hkl => ?_) (fun hkl => ?_)
  · obtain ⟨s, hx⟩ : ∃ s, (slL c.Sites)[k]? = some s := ⟨_, List.getElem?_eq_getElem (by omega)⟩
    have kp1 := kp.go (Keeps.one hh (.row 64 s.cells))
    have no : siteOk c k s = false → Q .ret (frOf [(2, .bool false)]) (hh.push (.row 64 s.cells)) := fun hp => hret _ (z2x hx hp) kp1
    (repeat (first | simp -dsimp -implicitDefEqProofs (disch := omega) only [↓rP, rQ, rO, rL, ↓reduceIte, Nat.reduceEqDiff, Nat.reduceAdd, Nat.reduceLeDiff, z01, z05, ↓tyr, z0d hx] | refine Cut.go ?_))
    refine z03.go (z1c _ _ _) ?_
    cases hb : getI (slL c.Threads) s.Thread with
    | none =>
      have hbt := z2o.2 hb
      (repeat (first | simp -dsimp -implicitDefEqProofs (disch := omega) only [↓rP, rQ, rO, rL, ↓reduceIte, Nat.reduceEqDiff, Nat.reduceAdd, Nat.reduceLeDiff, z01, z05, ↓tyr, hbt, Bool.not_false] | refine Cut.go ?_))
      exact no (by simp [siteOk, z4c, hb])
    | some b =>
      have hbt := z1l.2 ⟨b, hb⟩
      (repeat (first | simp -dsimp -implicitDefEqProofs (disch := omega) only [↓rP, rQ, rO, rL, ↓reduceIte, Nat.reduceEqDiff, Nat.reduceAdd, Nat.reduceLeDiff, z01, z05, ↓tyr, hbt, ixI hb, Bool.not_true] | refine Cut.go ?_))
      refine z03.go (z1c _ _ _) ?_
      cases hx2 : getI (slL b.Code) s.At with
      | none =>
        have hbt2 := z2o.2 hx2
        (repeat (first | simp -dsimp -implicitDefEqProofs (disch := omega) only [↓rP, rQ, rO, rL, ↓reduceIte, Nat.reduceEqDiff, Nat.reduceAdd, Nat.reduceLeDiff, z01, z05, ↓tyr, hbt, hbt2, Bool.not_false] | refine Cut.go ?_))
        exact no (by simp [siteOk, z4c, hb, hx2])
      | some x =>
        have hbt2 := z1l.2 ⟨x, hx2⟩
        have kp2 := kp1.go (Keeps.one _ (.row 45 x.cells))
        have ho2 : ∀ o, ((hh.push (.row 64 s.cells)).push o).objs hh.next = some (.row 64 s.cells) := fun o => by simp
        have ld : ∀ (o : AObj) (off : Nat) (q : Option Nat) (K : AV → Prop), z02 q (.ptr hh.next off) ((hh.push (.row 64 s.cells)).push o) K = z0h q s.cells off K := fun o off q K => z0o (ho2 o) q K
        have no2 : siteOk c k s = false → Q .ret (frOf [(2, .bool false)]) ((hh.push (.row 64 s.cells)).push (.row 45 x.cells)) := fun hp => hret _ (z2x hx hp) kp2
        have on : siteOk c k s = true → loopPost I ((slL c.Sites).length - k) Q .normal (frOf [(1, .iptr c.cells), (249, slAV 3 z15.cells c.Sites), (250, .int .i64 (slL c.Sites).length), (251, .int .i64 (k + 1 : Nat))]) ((hh.push (.row 64 s.cells)).push (.row 45 x.cells)) := fun hm => by
          rw [z0a, hI]
          exact ⟨_, by omega, k + 1, by omega, rfl, z2i hup hx hm, kp2, rfl⟩
        repeat' (first | (simp -dsimp -implicitDefEqProofs (disch := omega) only [↓rP, rQ, rO, rL, ↓reduceIte, Nat.reduceEqDiff, Nat.reduceAdd, Nat.reduceLeDiff, z01, z05, ↓tyr, hbt, hbt2, ixI hb, ixI hx2, ↓ld, wkS k (by omega), Bool.not_true]) | refine Cut.go ?_ | refine z0x (fun _ => ?_) (fun _ => ?_) | refine z13 (fun _ => ?_) (fun _ => ?_) | refine z0i (fun _ => ?_) (fun _ => ?_) | refine z16 (fun _ => ?_) (fun _ => ?_) | refine Split.intro (fun _ => ?_) (fun _ => ?_))
        all_goals first
          | exact on (by simp [siteOk, z4c, hb, hx2, *]; try omega)
          | exact no2 (by simp [siteOk, z4c, hb, hx2, *]; try omega)
  · have hke : k = (slL c.Sites).length := by omega
    subst hke
    (repeat (first | simp -dsimp -implicitDefEqProofs (disch := omega) only [↓rP, rQ, rO, rL, ↓reduceIte, Nat.reduceEqDiff, Nat.reduceAdd, Nat.reduceLeDiff, z01, z05, ↓tyr] | refine Cut.go ?_))
    exact hex hh (upTo_all hup) kp
end Go.Proofs.Ytnggcokgnblpgaa
end

section
/- Which codes can be: the program, of small codes. -/
set_option maxRecDepth 100000
set_option maxHeartbeats 1000000
namespace Go.Proofs.Ytnggcokgnblpgaa
open Go.Abs
theorem fits_isl (sz : Nat) (es : List (List AV)) : (AV.isl sz es).fits = true := rfl
theorem cells_isl (sz : Nat) (es : List (List AV)) : (AV.isl sz es).cells = [AV.isl sz es] := rfl
theorem bsl_one (e : TypeId) (sz by_ : Nat) (z cs : List AV) (h : z04) (K : AV → z04 → Prop) : z1d true { e := e, sz := sz, by_ := by_ } z 1 [(0, .agg cs)] h K = (sz ≤ 16777216 ∧ z.length = sz ∧ cs.length = sz ∧ K (.isl sz [cs]) h) := by
  simp [z1d, fillE, AV.fits, AV.cells]
  by_cases hc : cs.length = sz <;> simp [hc]
theorem bsl_two (e : TypeId) (sz by_ : Nat) (z cs ds : List AV) (h : z04) (K : AV → z04 → Prop) : z1d true { e := e, sz := sz, by_ := by_ } z 2 [(0, .agg cs), (1, .agg ds)] h K = (2 * sz ≤ 16777216 ∧ z.length = sz ∧ cs.length = sz ∧ ds.length = sz ∧ K (.isl sz [cs, ds]) h) := by
  simp [z1d, fillE, AV.fits, AV.cells]
  by_cases hc : cs.length = sz <;> by_cases hd : ds.length = sz <;> simp [hc, hd, List.replicate]
theorem code_Good_p (c : Cd) (hc : c.ok) (hs : (slL c.Sections).length ≤ 1000000) (hsi : (slL c.Sites).length ≤ 1000000) (hg : (slL c.Globals).length ≤ 1000000) (hr : ∀ r ∈ slL c.Records, (slL r).length ≤ 1000000) (h : z04) : z03 Try.prog 18 [.agg c.cells] h (fun v h2 => v = .bool (okC c) ∧ h2 = h) := z03.forget (by simp [z2v]) (code_Good_does c hc hs hsi hg hr h)
theorem code_Good_s (c : Cd) (hc : c.ok) (s : Small c) (h : z04) : z03 Try.prog 18 [.agg c.cells] h (fun v h2 => v = .bool (okC c) ∧ h2 = h) := code_Good_p c hc (by have := s.secs; omega) (by have := s.sites; omega) (by have := s.globs; omega) (fun r hr => by have := s.fields r hr; omega) h
end Go.Proofs.Ytnggcokgnblpgaa
end

section
/- Which codes can be: the document and the program say the same. -/
set_option maxRecDepth 100000
set_option maxHeartbeats 1000000
namespace Go.Proofs.Ytnggcokgnblpgaa
open Go.Abs
theorem okC_split {c : Cd} (h : okC c = true) : (slL c.Records).length ≤ 6 ∧ (slL c.Threads).length ≤ 4 ∧ cellsB c (slL c.Globals) 8 = true ∧ sectionsB c = true ∧ sitesB c = true ∧ (slL c.Records).all (fun r => cellsB c (slL r) 6) = true ∧ threadsB c = true := by
  unfold okC at h
  simp only [Bool.and_eq_true, decide_eq_true_eq] at h
  obtain ⟨⟨⟨⟨⟨⟨h1, h2⟩, h3⟩, h4⟩, h5⟩, h6⟩, h7⟩ := h
  exact ⟨h1, h2, h3, h4, h5, h6, h7⟩
theorem meet_comm (s o : z0e) : meetB s o = meetB o s := by
  unfold meetB
  rw [Bool.eq_iff_iff]
  simp only [Bool.and_eq_true, decide_eq_true_eq]
  constructor <;> (rintro ⟨⟨a, b⟩, d⟩; exact ⟨⟨a.symm, d⟩, b⟩)
theorem secs_iff (c : Cd) : allK (secB c) (slL c.Sections) = true ↔ allK (secR c) (slL c.Sections) = true := by
  simp only [z2y]
  constructor
  · intro h k s hs
    have hk := h k s hs
    unfold secB at hk
    rw [Bool.and_eq_true] at hk
    unfold secR
    rw [hk.1, Bool.true_and, z2y]
    intro j o hj
    unfold sepP
    by_cases e : j = k
    · simp [e]
    · have : meetB s o = false := by
        rcases Nat.lt_or_gt_of_ne e with hlt | hgt
        · have := List.all_eq_true.1 hk.2 o (List.mem_of_getElem? (i := j) (by rw [List.getElem?_take_of_lt hlt, hj]))
          simpa using this
        · have hj2 := h j o hj
          unfold secB at hj2
          rw [Bool.and_eq_true] at hj2
          have := List.all_eq_true.1 hj2.2 s (List.mem_of_getElem? (i := k) (by rw [List.getElem?_take_of_lt hgt, hs]))
          rw [meet_comm]
          simpa using this
      simp [this]
  · intro h k s hs
    have hk := h k s hs
    unfold secR at hk
    rw [Bool.and_eq_true, z2y] at hk
    unfold secB
    rw [hk.1, Bool.true_and, List.all_eq_true]
    intro o ho
    obtain ⟨j, hj⟩ := List.getElem?_of_mem ho
    have hjl := (List.getElem?_eq_some_iff.1 hj).1
    rw [List.length_take] at hjl
    have hjk : j < k := by omega
    rw [List.getElem?_take_of_lt hjk] at hj
    have := hk.2 j o hj
    unfold sepP at this
    simpa [show j ≠ k by omega] using this
theorem rows_iff (c : Cd) (hg : (slL c.Globals).length ≤ 8) : allK (rowP c) (c.Globals :: slL c.Records) = true ↔ cellsB c (slL c.Globals) 8 = true ∧ (slL c.Records).all (fun r => cellsB c (slL r) 6) = true := by
  have e8 : cellsB c (slL c.Globals) 8 = cellP c c.Globals := by unfold cellsB cellP; rw [decide_eq_true (by omega), Bool.true_and]
  rw [e8, z2y, List.all_eq_true]
  have e6 : ∀ (i : Nat) (r : Option (List Lo)), rowP c (i + 1) r = cellsB c (slL r) 6 := fun i r => by
    unfold rowP cellsB cellP
    by_cases h : (slL r).length ≤ 6
    · rw [decide_eq_false (show ¬ 6 < (slL r).length by omega), decide_eq_true (show ((slL r).length : Int) ≤ 6 by omega)]; simp
    · rw [decide_eq_true (show 6 < (slL r).length by omega), decide_eq_false (show ¬ ((slL r).length : Int) ≤ 6 by omega)]; simp
  constructor
  · intro h
    refine ⟨by have := h 0 _ rfl; simpa [rowP] using this, fun r hr => ?_⟩
    obtain ⟨i, hi⟩ := List.getElem?_of_mem hr
    rw [← e6 i r]
    exact h (i + 1) r (by simpa using hi)
  · rintro ⟨h1, h2⟩ k o hk
    cases k with
    | zero => simp at hk; subst hk; simpa [rowP] using h1
    | succ k => rw [e6]; exact h2 o (List.mem_of_getElem? (by simpa using hk))
theorem threads_iff (c : Cd) : threadsB c = true ↔ (slL c.Threads).all (bodyB c) = true ∧ allK (fun i b => allK (fun k x => instrR c i b x k) (slL b.Code)) (slL c.Threads) = true := by
  have halt : ∀ (i : Nat) (b : Bd) (x : In) (k : Nat), z1m c i b x k = true → x.Op = 17 → (k : Int) = (slL b.Code).length - 1 := fun i b x k hi ho => by
    unfold z1m at hi
    rw [if_neg (by omega), if_neg (by omega), if_neg (by omega), if_neg (by omega), if_neg (by omega), if_neg (by omega), if_neg (by omega), if_neg (by omega)] at hi
    simp only [Bool.and_eq_true, decide_eq_true_eq] at hi
    exact hi.2
  unfold threadsB
  constructor
  · intro h
    rw [z2y] at h
    have part : ∀ (i : Nat) (b : Bd), (slL c.Threads)[i]? = some b → bodyB c b = true ∧ lastB b = true ∧ instrsB c i b = true := fun i b hb => by
      have := h i b hb
      unfold threadB at this
      simpa [and_assoc] using this
    refine ⟨List.all_eq_true.2 fun b hb => ?_, z2y.2 fun i b hb => z2y.2 fun k x hx => ?_⟩
    · obtain ⟨i, hi⟩ := List.getElem?_of_mem hb
      exact (part i b hi).1
    · obtain ⟨-, h2, h3⟩ := part i b hb
      have hi := z2y.1 h3 k x hx
      unfold instrR
      rw [hi, Bool.true_and]
      by_cases ho : x.Op = 17
      · rw [decide_eq_true ho, decide_eq_true (halt i b x k hi ho)]; rfl
      · have : ¬ ((k : Int) = (slL b.Code).length - 1) := fun e => by
          unfold lastB at h2
          rw [← e, z4g, hx] at h2
          exact ho (by simpa using h2)
        rw [decide_eq_false ho, decide_eq_false this]; rfl
  · rintro ⟨h1, h2⟩
    rw [z2y] at h2 ⊢
    intro i b hb
    have hbd := List.all_eq_true.1 h1 b (List.mem_of_getElem? hb)
    have hin := h2 i b hb
    rw [z2y] at hin
    have hpos : 1 ≤ (slL b.Code).length := by
      unfold bodyB at hbd
      simp only [Bool.and_eq_true, decide_eq_true_eq] at hbd
      exact hbd.1.1.1.1.2
    have e1 : instrsB c i b = true := z2y.2 fun k x hx => by
      have := hin k x hx
      unfold instrR at this
      rw [Bool.and_eq_true] at this
      exact this.1
    have e2 : lastB b = true := by
      obtain ⟨x, hx⟩ : ∃ x, (slL b.Code)[(slL b.Code).length - 1]? = some x := ⟨_, List.getElem?_eq_getElem (by omega)⟩
      have e : ((slL b.Code).length : Int) - 1 = (((slL b.Code).length - 1 : Nat) : Int) := by omega
      have := hin _ x hx
      unfold instrR at this
      rw [Bool.and_eq_true, ← e] at this
      unfold lastB
      rw [e, z4g, hx]
      simpa using this.2
    unfold threadB
    rw [hbd, e2, e1]; rfl
theorem okC_iff (c : Cd) : okC c = true ↔ (slL c.Records).length ≤ 6 ∧ (slL c.Globals).length ≤ 8 ∧ (slL c.Threads).length ≤ 4 ∧ (slL c.Sites).length ≤ 32 ∧ (slL c.Sections).length ≤ 32 ∧ allK (rowP c) (c.Globals :: slL c.Records) = true ∧ (slL c.Threads).all (bodyB c) = true ∧ allK (secR c) (slL c.Sections) = true ∧ allK (siteOk c) (slL c.Sites) = true ∧ allK (fun i b => allK (fun k x => instrR c i b x k) (slL b.Code)) (slL c.Threads) = true := by
  constructor
  · intro h
    obtain ⟨h1, h2, h3, h4, h5, h6, h7⟩ := okC_split h
    have hg : (slL c.Globals).length ≤ 8 := by
      unfold cellsB at h3; simp only [Bool.and_eq_true, decide_eq_true_eq] at h3; omega
    unfold sectionsB at h4
    unfold sitesB at h5
    simp only [Bool.and_eq_true, decide_eq_true_eq] at h4 h5
    have ht := (threads_iff c).1 h7
    exact ⟨h1, hg, h2, h5.1, h4.1, (rows_iff c hg).2 ⟨h3, h6⟩, ht.1, (secs_iff c).1 h4.2, h5.2, ht.2⟩
  · rintro ⟨h1, hg, h2, h3, h4, h5, h6, h7, h8, h9⟩
    obtain ⟨r1, r2⟩ := (rows_iff c hg).1 h5
    unfold okC sectionsB sitesB
    rw [decide_eq_true h1, decide_eq_true h2, r1, r2, decide_eq_true h4, decide_eq_true h3, (secs_iff c).2 h7, h8, (threads_iff c).2 ⟨h6, h9⟩]
    rfl
theorem keeps_kill {h g : z04} (k : Keeps h g (fun _ => False)) {id : Nat} (hid : h.next ≤ id) : Keeps h (g.kill id) (fun _ => False) :=
  ⟨k.next, fun i hi hs => by simp only [z04.kill_objs]; rw [if_neg (by omega)]; exact k.objs i hi hs⟩
theorem ref_Good_k (c : Cd) (hc : c.ok) (sm : Small c) (h : z04) : z03 Try.prog 12 [.agg c.cells] h (fun v h2 => v = .bool (okC c) ∧ Keeps h h2 (fun _ => False)) := by
  have no : ∀ {p : Prop}, (okC c = true → p) → ¬ p → okC c = false := fun hp hn => by
    rw [Bool.eq_false_iff]; exact fun e => hn (hp e)
  have hrec := sm.recs
  have hgl := sm.globs
  apply padlockref09_GoodR_wp
  (repeat (first | simp -dsimp -implicitDefEqProofs (disch := omega) only [↓rP, rQ, rO, rL, ↓reduceIte, Nat.reduceEqDiff, Nat.reduceAdd, Nat.reduceLeDiff, z01, z05, ↓tyr] | refine Cut.go ?_))
  refine z0i (fun h1 => ?_) (fun h1 => ?_)
  · (repeat (first | simp -dsimp -implicitDefEqProofs (disch := omega) only [↓rP, rQ, rO, rL, ↓reduceIte, Nat.reduceEqDiff, Nat.reduceAdd, Nat.reduceLeDiff, z01, z05, ↓tyr] | refine Cut.go ?_))
    rw [no (fun e => ((okC_iff c).1 e).1) (by omega)]
    (first | (refine And.intro (by simp) ?_; (repeat (first | assumption | with_reducible exact Keeps.refl _ _ | with_reducible refine Keeps.go ?_ (Keeps.one _ _) | with_reducible refine Keeps.go ?_ (by assumption)))) | (repeat (first | assumption | with_reducible exact Keeps.refl _ _ | with_reducible refine Keeps.go ?_ (Keeps.one _ _) | with_reducible refine Keeps.go ?_ (by assumption))))
  (repeat (first | simp -dsimp -implicitDefEqProofs (disch := omega) only [↓rP, rQ, rO, rL, ↓reduceIte, Nat.reduceEqDiff, Nat.reduceAdd, Nat.reduceLeDiff, z01, z05, ↓tyr] | refine Cut.go ?_))
  refine z0i (fun h2 => ?_) (fun h2 => ?_)
  · (repeat (first | simp -dsimp -implicitDefEqProofs (disch := omega) only [↓rP, rQ, rO, rL, ↓reduceIte, Nat.reduceEqDiff, Nat.reduceAdd, Nat.reduceLeDiff, z01, z05, ↓tyr] | refine Cut.go ?_))
    rw [no (fun e => ((okC_iff c).1 e).2.1) (by omega)]
    (first | (refine And.intro (by simp) ?_; (repeat (first | assumption | with_reducible exact Keeps.refl _ _ | with_reducible refine Keeps.go ?_ (Keeps.one _ _) | with_reducible refine Keeps.go ?_ (by assumption)))) | (repeat (first | assumption | with_reducible exact Keeps.refl _ _ | with_reducible refine Keeps.go ?_ (Keeps.one _ _) | with_reducible refine Keeps.go ?_ (by assumption))))
  (repeat (first | simp -dsimp -implicitDefEqProofs (disch := omega) only [↓rP, rQ, rO, rL, ↓reduceIte, Nat.reduceEqDiff, Nat.reduceAdd, Nat.reduceLeDiff, z01, z05, ↓tyr] | refine Cut.go ?_))
  refine z0i (fun h3 => ?_) (fun h3 => ?_)
  · (repeat (first | simp -dsimp -implicitDefEqProofs (disch := omega) only [↓rP, rQ, rO, rL, ↓reduceIte, Nat.reduceEqDiff, Nat.reduceAdd, Nat.reduceLeDiff, z01, z05, ↓tyr] | refine Cut.go ?_))
    rw [no (fun e => ((okC_iff c).1 e).2.2.1) (by omega)]
    (first | (refine And.intro (by simp) ?_; (repeat (first | assumption | with_reducible exact Keeps.refl _ _ | with_reducible refine Keeps.go ?_ (Keeps.one _ _) | with_reducible refine Keeps.go ?_ (by assumption)))) | (repeat (first | assumption | with_reducible exact Keeps.refl _ _ | with_reducible refine Keeps.go ?_ (Keeps.one _ _) | with_reducible refine Keeps.go ?_ (by assumption))))
  (repeat (first | simp -dsimp -implicitDefEqProofs (disch := omega) only [↓rP, rQ, rO, rL, ↓reduceIte, Nat.reduceEqDiff, Nat.reduceAdd, Nat.reduceLeDiff, z01, z05, ↓tyr] | refine Cut.go ?_))
  refine z0i (fun h4 => ?_) (fun h4 => ?_)
  · (repeat (first | simp -dsimp -implicitDefEqProofs (disch := omega) only [↓rP, rQ, rO, rL, ↓reduceIte, Nat.reduceEqDiff, Nat.reduceAdd, Nat.reduceLeDiff, z01, z05, ↓tyr] | refine Cut.go ?_))
    rw [no (fun e => ((okC_iff c).1 e).2.2.2.1) (by omega)]
    (first | (refine And.intro (by simp) ?_; (repeat (first | assumption | with_reducible exact Keeps.refl _ _ | with_reducible refine Keeps.go ?_ (Keeps.one _ _) | with_reducible refine Keeps.go ?_ (by assumption)))) | (repeat (first | assumption | with_reducible exact Keeps.refl _ _ | with_reducible refine Keeps.go ?_ (Keeps.one _ _) | with_reducible refine Keeps.go ?_ (by assumption))))
  (repeat (first | simp -dsimp -implicitDefEqProofs (disch := omega) only [↓rP, rQ, rO, rL, ↓reduceIte, Nat.reduceEqDiff, Nat.reduceAdd, Nat.reduceLeDiff, z01, z05, ↓tyr] | refine Cut.go ?_))
  refine z0i (fun h5 => ?_) (fun h5 => ?_)
  · (repeat (first | simp -dsimp -implicitDefEqProofs (disch := omega) only [↓rP, rQ, rO, rL, ↓reduceIte, Nat.reduceEqDiff, Nat.reduceAdd, Nat.reduceLeDiff, z01, z05, ↓tyr] | refine Cut.go ?_))
    rw [no (fun e => ((okC_iff c).1 e).2.2.2.2.1) (by omega)]
    (first | (refine And.intro (by simp) ?_; (repeat (first | assumption | with_reducible exact Keeps.refl _ _ | with_reducible refine Keeps.go ?_ (Keeps.one _ _) | with_reducible refine Keeps.go ?_ (by assumption)))) | (repeat (first | assumption | with_reducible exact Keeps.refl _ _ | with_reducible refine Keeps.go ?_ (Keeps.one _ _) | with_reducible refine Keeps.go ?_ (by assumption))))
  have bs : ∀ K : AV → z04 → Prop, z1d false { e := 23, sz := 1, by_ := 24 } [AV.nils] 1 [(0, slAV 3 z0f.cells c.Globals)] h K = K (.sl h.next 0 1 1) (h.push (.row 23 [slAV 3 z0f.cells c.Globals])) := fun K => by
    simp [z1d, fillE, fits_slAV, cells_slAV]
  have ap : ∀ K : AV → z04 → Prop, z3i false { e := 23, sz := 1, by_ := 24 } (.sl h.next 0 1 1) (slAV 1 (fun o => [slAV 3 z0f.cells o]) c.Records) (h.push (.row 23 [slAV 3 z0f.cells c.Globals])) K
      = K (.sl (h.next + 1) 0 (c.Globals :: slL c.Records).length 1) (((h.push (.row 23 [slAV 3 z0f.cells c.Globals])).kill h.next).push (.row 23 ((c.Globals :: slL c.Records).map fun o => slAV 3 z0f.cells o))) := fun K => by
    have ef : ((slL c.Records).map fun o => [slAV 3 z0f.cells o]).flatten = (slL c.Records).map fun o => slAV 3 z0f.cells o := by
      induction slL c.Records with
      | nil => rfl
      | cons a l ih => simp [ih]
    simp only [z3i, srcElems_slAV, z04.z4u, if_true]
    rw [ef]
    simp [bounded, maxLen, Nat.add_comm]
    intro; omega
  (repeat (first | simp -dsimp -implicitDefEqProofs (disch := omega) only [↓rP, rQ, rO, rL, ↓reduceIte, Nat.reduceEqDiff, Nat.reduceAdd, Nat.reduceLeDiff, z01, z05, ↓tyr, ↓bs, ↓ap] | refine Cut.go ?_))
  have kH : Keeps h (((h.push (.row 23 [slAV 3 z0f.cells c.Globals])).kill h.next).push (.row 23 ((c.Globals :: slL c.Records).map fun o => slAV 3 z0f.cells o))) (fun _ => False) := (keeps_kill (Keeps.one _ _) (Nat.le_refl _)).go (Keeps.one _ _)
  have hfl : ∀ o ∈ (c.Globals :: slL c.Records), (slL o).length ≤ 1000 := fun o ho => by
    rcases List.mem_cons.1 ho with rfl | ho
    · omega
    · have := sm.fields o ho; omega
  refine g_rows c (c.Globals :: slL c.Records) (by simp; omega) hfl _ (h.next + 1) (by simp) (by simp) _ (fun h6 hg k6 => ?_) (fun h6 hg k6 => ?_)
  · (repeat (first | simp -dsimp -implicitDefEqProofs (disch := omega) only [↓rP, rQ, rO, rL, ↓reduceIte, Nat.reduceEqDiff, Nat.reduceAdd, Nat.reduceLeDiff, z01, z05, ↓tyr] | refine Cut.go ?_))
    rw [no (fun e => ((okC_iff c).1 e).2.2.2.2.2.1) (by rw [hg]; simp)]
    exact ⟨rfl, kH.go k6⟩
  (repeat (first | simp -dsimp -implicitDefEqProofs (disch := omega) only [↓rP, rQ, rO, rL, ↓reduceIte, Nat.reduceEqDiff, Nat.reduceAdd, Nat.reduceLeDiff, z01, z05, ↓tyr] | refine Cut.go ?_))
  refine g_bodies c sm h6 _ (fun h7 hg7 k7 => ?_) (fun h7 hg7 k7 => ?_)
  · (repeat (first | simp -dsimp -implicitDefEqProofs (disch := omega) only [↓rP, rQ, rO, rL, ↓reduceIte, Nat.reduceEqDiff, Nat.reduceAdd, Nat.reduceLeDiff, z01, z05, ↓tyr] | refine Cut.go ?_))
    rw [no (fun e => ((okC_iff c).1 e).2.2.2.2.2.2.1) (by rw [hg7]; simp)]
    exact ⟨rfl, (kH.go k6).go k7⟩
  (repeat (first | simp -dsimp -implicitDefEqProofs (disch := omega) only [↓rP, rQ, rO, rL, ↓reduceIte, Nat.reduceEqDiff, Nat.reduceAdd, Nat.reduceLeDiff, z01, z05, ↓tyr] | refine Cut.go ?_))
  refine g_sections c sm h7 _ (fun h8 hg8 k8 => ?_) (fun h8 hg8 k8 => ?_)
  · (repeat (first | simp -dsimp -implicitDefEqProofs (disch := omega) only [↓rP, rQ, rO, rL, ↓reduceIte, Nat.reduceEqDiff, Nat.reduceAdd, Nat.reduceLeDiff, z01, z05, ↓tyr] | refine Cut.go ?_))
    rw [no (fun e => ((okC_iff c).1 e).2.2.2.2.2.2.2.1) (by rw [hg8]; simp)]
    exact ⟨rfl, ((kH.go k6).go k7).go k8⟩
  (repeat (first | simp -dsimp -implicitDefEqProofs (disch := omega) only [↓rP, rQ, rO, rL, ↓reduceIte, Nat.reduceEqDiff, Nat.reduceAdd, Nat.reduceLeDiff, z01, z05, ↓tyr] | refine Cut.go ?_))
  refine g_sites c sm h8 _ (fun h9 hg9 k9 => ?_) (fun h9 hg9 k9 => ?_)
  · (repeat (first | simp -dsimp -implicitDefEqProofs (disch := omega) only [↓rP, rQ, rO, rL, ↓reduceIte, Nat.reduceEqDiff, Nat.reduceAdd, Nat.reduceLeDiff, z01, z05, ↓tyr] | refine Cut.go ?_))
    rw [no (fun e => ((okC_iff c).1 e).2.2.2.2.2.2.2.2.1) (by rw [hg9]; simp)]
    exact ⟨rfl, (((kH.go k6).go k7).go k8).go k9⟩
  (repeat (first | simp -dsimp -implicitDefEqProofs (disch := omega) only [↓rP, rQ, rO, rL, ↓reduceIte, Nat.reduceEqDiff, Nat.reduceAdd, Nat.reduceLeDiff, z01, z05, ↓tyr] | refine Cut.go ?_))
  refine g_threads c hc sm hg7 h9 _ (fun h10 hg10 k10 => ?_) (fun h10 hg10 k10 => ?_)
  · (repeat (first | simp -dsimp -implicitDefEqProofs (disch := omega) only [↓rP, rQ, rO, rL, ↓reduceIte, Nat.reduceEqDiff, Nat.reduceAdd, Nat.reduceLeDiff, z01, z05, ↓tyr] | refine Cut.go ?_))
    rw [no (fun e => ((okC_iff c).1 e).2.2.2.2.2.2.2.2.2) (by rw [hg10]; simp)]
    exact ⟨rfl, ((((kH.go k6).go k7).go k8).go k9).go k10⟩
  (repeat (first | simp -dsimp -implicitDefEqProofs (disch := omega) only [↓rP, rQ, rO, rL, ↓reduceIte, Nat.reduceEqDiff, Nat.reduceAdd, Nat.reduceLeDiff, z01, z05, ↓tyr] | refine Cut.go ?_))
  rw [(okC_iff c).2 ⟨by omega, by omega, by omega, by omega, by omega, hg, hg7, hg8, hg9, hg10⟩]
  exact ⟨rfl, ((((kH.go k6).go k7).go k8).go k9).go k10⟩
theorem ref_Good_c (c : Cd) (hc : c.ok) (sm : Small c) (h : z04) : z03 Try.prog 12 [.agg c.cells] h (fun v h2 => v = .bool (okC c) ∧ h2 = h) := z03.forget (by simp [z2v]) (ref_Good_k c hc sm h)
end Go.Proofs.Ytnggcokgnblpgaa
end

section
/- One's own row, wherever it stands within arguments, becomes read-only from a call on. -/
namespace Go.Abs
open Go.RowKit
def Fz (id n sz : Nat) (es : List (List AV)) (c c' : Ctx) (w : World) : Prop := (∀ v, VRel c w (.sl id 0 n sz) v → VRel c' w (.isl sz es) v) ∧ ∃ B, Ext B c w c' w
def FzV (id n sz : Nat) (es : List (List AV)) (a b : AV) : Prop := ∀ c c' w, Fz id n sz es c c' w → ∀ v, VRel c w a v → VRel c' w b v
def FzL (id n sz : Nat) (es : List (List AV)) (xs bs : List AV) : Prop := ∀ c c' w, Fz id n sz es c c' w → ∀ vs, LRel c w xs vs → LRel c' w bs vs
def FzM (id n sz : Nat) (es : List (List AV)) (xs bs : List AV) : Prop := xs.length = bs.length ∧ ∀ c c' w, Fz id n sz es c c' w → ∀ b off, MRel c w xs b off → MRel c' w bs b off
def FzE (id n sz : Nat) (es : List (List AV)) (k : Nat) (xs bs : List (List AV)) : Prop := xs.length = bs.length ∧ ∀ c c' w, Fz id n sz es c c' w → ∀ b off, ERel c w k xs b off → ERel c' w k bs b off
section
variable {id n sz : Nat} {es : List (List AV)}
theorem FzV.same (a : AV) : FzV id n sz es a a := fun c c' w F v h => by obtain ⟨_, B, E⟩ := F; exact VRel.mono E h
theorem FzL.nil : FzL id n sz es [] [] := fun c c' w F vs h => by simpa [LRel] using h
theorem FzL.cons {a b : AV} {xs bs : List AV} (h1 : FzV id n sz es a b) (h2 : FzL id n sz es xs bs) : FzL id n sz es (a :: xs) (b :: bs) := fun c c' w F vs h => by
  simp only [LRel] at h ⊢
  obtain ⟨v, vs', e, hv, hl⟩ := h
  exact ⟨v, vs', e, h1 c c' w F v hv, h2 c c' w F vs' hl⟩
theorem FzL.same (xs : List AV) : FzL id n sz es xs xs := fun c c' w F vs h => by obtain ⟨_, B, E⟩ := F; exact LRel.mono E h
theorem FzM.nil : FzM id n sz es [] [] := ⟨rfl, fun c c' w F b off h => by simp [MRel]⟩
theorem FzM.cons {a b : AV} {xs bs : List AV} (h1 : FzV id n sz es a b) (h2 : FzM id n sz es xs bs) : FzM id n sz es (a :: xs) (b :: bs) := ⟨by simp [h2.1], fun c c' w F k off h => by
  have F' := F
  obtain ⟨_, B, E⟩ := F'
  simp only [MRel] at h ⊢
  obtain ⟨hi, ⟨u, hu, ho, hv⟩, hm⟩ := h
  exact ⟨E.im _ _ hi, ⟨u, hu, ho, h1 c c' w F u hv⟩, h2.2 c c' w F k _ hm⟩⟩
theorem FzM.same (xs : List AV) : FzM id n sz es xs xs := ⟨rfl, fun c c' w F b off h => by obtain ⟨_, B, E⟩ := F; exact MRel.mono E h⟩
theorem FzE.nil (k : Nat) : FzE id n sz es k [] [] := ⟨rfl, fun c c' w F b off h => by simp [ERel]⟩
theorem FzE.cons {k : Nat} {a b : List AV} {xs bs : List (List AV)} (h1 : FzM id n sz es a b) (h2 : FzE id n sz es k xs bs) : FzE id n sz es k (a :: xs) (b :: bs) := ⟨by simp [h2.1], fun c c' w F o off h => by
  simp only [ERel] at h ⊢
  exact ⟨h1.1 ▸ h.1, h1.2 c c' w F o off h.2.1, h2.2 c c' w F o _ h.2.2⟩⟩
theorem FzE.same (k : Nat) (xs : List (List AV)) : FzE id n sz es k xs xs := ⟨rfl, fun c c' w F b off h => by obtain ⟨_, B, E⟩ := F; exact ERel.mono E h⟩
theorem FzV.isl {k : Nat} {xs bs : List (List AV)} (h : FzE id n sz es k xs bs) : FzV id n sz es (.isl k xs) (.isl k bs) := fun c c' w F v hv => by
  simp only [VRel] at hv ⊢
  obtain ⟨a, cap, e1, e2, e3, e4⟩ := hv
  refine ⟨a, cap, by rw [← h.1]; exact e1, by rw [← h.1]; exact e2, by rw [← h.1]; exact e3, fun hne => ?_⟩
  obtain ⟨b, off, e5, e6⟩ := e4 (fun e0 => hne (List.length_eq_zero_iff.1 (by rw [← h.1, e0]; rfl)))
  exact ⟨b, off, e5, h.2 c c' w F b off e6⟩
theorem FzV.agg {xs bs : List AV} (h : FzL id n sz es xs bs) : FzV id n sz es (.agg xs) (.agg bs) := fun c c' w F v hv => by
  simp only [VRel] at hv ⊢
  obtain ⟨vs, e1, e2, e3⟩ := hv
  exact ⟨vs, e1, h c c' w F _ e2, e3⟩
end
end Go.Abs
end

section
/- The rows that a call made for its answer become read-only with its end: what it answers is then a value, and the heap is as it was. -/
namespace Go.Abs
open Go.RowKit
noncomputable def z04.killS (h : z04) (D : Nat → Prop) : z04 := { h with objs := fun i => @ite _ (D i) (Classical.propDecidable _) none (h.objs i) }
theorem killS_in {h : z04} {D : Nat → Prop} {i : Nat} (hi : D i) : (h.killS D).objs i = none := by simp [z04.killS, hi]
theorem killS_out {h : z04} {D : Nat → Prop} {i : Nat} (hi : ¬ D i) : (h.killS D).objs i = h.objs i := by simp [z04.killS, hi]
theorem killS_some {h : z04} {D : Nat → Prop} {i : Nat} {o : AObj} (hi : (h.killS D).objs i = some o) : ¬ D i ∧ h.objs i = some o := by
  by_cases d : D i
  · rw [killS_in d] at hi; cases hi
  · rw [killS_out d] at hi; exact ⟨d, hi⟩
theorem WRel.killS {B : Nat} {c : Ctx} {h : z04} {w : World} (W : WRel B c h w) (D : Nat → Prop) : WRel B c (h.killS D) w := by
  refine ⟨W.mlt, fun i j k hi hj h1 h2 => W.inj i j k hi hj ?_ ?_, fun i k x hi hio => W.obj i k x hi (killS_some hio).2, W.im, fun i hi => ?_, W.base, W.gl⟩
  · intro e; apply h1
    by_cases d : D i
    · exact killS_in d
    · rw [killS_out d]; exact e
  · intro e; apply h2
    by_cases d : D j
    · exact killS_in d
    · rw [killS_out d]; exact e
  · by_cases d : D i
    · exact killS_in d
    · rw [killS_out d]; exact W.fresh i hi
def Rz (H : z04) (D : Nat → Prop) (c c' : Ctx) (w : World) : Prop := ∃ B, WRel B c H w ∧ Ext B c w c' w ∧ ∀ id b, D id → c.m id = some b → ∀ x, c'.im b x
def RzV (H : z04) (D : Nat → Prop) (a b : AV) : Prop := ∀ c c' w, Rz H D c c' w → ∀ v, VRel c w a v → VRel c' w b v
def RzL (H : z04) (D : Nat → Prop) (xs bs : List AV) : Prop := ∀ c c' w, Rz H D c c' w → ∀ vs, LRel c w xs vs → LRel c' w bs vs
def RzM (H : z04) (D : Nat → Prop) (xs bs : List AV) : Prop := xs.length = bs.length ∧ ∀ c c' w, Rz H D c c' w → ∀ b off, MRel c w xs b off → MRel c' w bs b off
def RzE (H : z04) (D : Nat → Prop) (k : Nat) (xs bs : List (List AV)) : Prop := xs.length = bs.length ∧ ∀ c c' w, Rz H D c c' w → ∀ b off, ERel c w k xs b off → ERel c' w k bs b off
section
variable {H : z04} {D : Nat → Prop}
theorem RzV.same (a : AV) : RzV H D a a := fun c c' w F v h => by obtain ⟨B, _, E, _⟩ := F; exact VRel.mono E h
theorem RzL.nil : RzL H D [] [] := fun c c' w F vs h => by simpa [LRel] using h
theorem RzL.cons {a b : AV} {xs bs : List AV} (h1 : RzV H D a b) (h2 : RzL H D xs bs) : RzL H D (a :: xs) (b :: bs) := fun c c' w F vs h => by
  simp only [LRel] at h ⊢
  obtain ⟨v, vs', e, hv, hl⟩ := h
  exact ⟨v, vs', e, h1 c c' w F v hv, h2 c c' w F vs' hl⟩
theorem RzL.same (xs : List AV) : RzL H D xs xs := fun c c' w F vs h => by obtain ⟨B, _, E, _⟩ := F; exact LRel.mono E h
theorem RzM.nil : RzM H D [] [] := ⟨rfl, fun c c' w F b off h => by simp [MRel]⟩
theorem RzM.cons {a b : AV} {xs bs : List AV} (h1 : RzV H D a b) (h2 : RzM H D xs bs) : RzM H D (a :: xs) (b :: bs) := ⟨by simp [h2.1], fun c c' w F k off h => by
  have F' := F
  obtain ⟨B, _, E, _⟩ := F'
  simp only [MRel] at h ⊢
  obtain ⟨hi, ⟨u, hu, ho, hv⟩, hm⟩ := h
  exact ⟨E.im _ _ hi, ⟨u, hu, ho, h1 c c' w F u hv⟩, h2.2 c c' w F k _ hm⟩⟩
theorem RzM.same (xs : List AV) : RzM H D xs xs := ⟨rfl, fun c c' w F b off h => by obtain ⟨B, _, E, _⟩ := F; exact MRel.mono E h⟩
theorem RzE.nil (k : Nat) : RzE H D k [] [] := ⟨rfl, fun c c' w F b off h => by simp [ERel]⟩
theorem RzE.cons {k : Nat} {a b : List AV} {xs bs : List (List AV)} (h1 : RzM H D a b) (h2 : RzE H D k xs bs) : RzE H D k (a :: xs) (b :: bs) := ⟨by simp [h2.1], fun c c' w F o off h => by
  simp only [ERel] at h ⊢
  exact ⟨h1.1 ▸ h.1, h1.2 c c' w F o off h.2.1, h2.2 c c' w F o _ h.2.2⟩⟩
theorem RzE.same (k : Nat) (xs : List (List AV)) : RzE H D k xs xs := ⟨rfl, fun c c' w F b off h => by obtain ⟨B, _, E, _⟩ := F; exact ERel.mono E h⟩
theorem RzE.map {α : Type} {k : Nat} {f g : α → List AV} {l : List α} (h : ∀ x ∈ l, RzM H D (f x) (g x)) : RzE H D k (l.map f) (l.map g) := by
  induction l with
  | nil => exact RzE.nil k
  | cons x l ih => exact RzE.cons (h x (by simp)) (ih fun y hy => h y (by simp [hy]))
theorem RzV.isl {k : Nat} {xs bs : List (List AV)} (h : RzE H D k xs bs) : RzV H D (.isl k xs) (.isl k bs) := fun c c' w F v hv => by
  simp only [VRel] at hv ⊢
  obtain ⟨a, cap, e1, e2, e3, e4⟩ := hv
  refine ⟨a, cap, by rw [← h.1]; exact e1, by rw [← h.1]; exact e2, by rw [← h.1]; exact e3, fun hne => ?_⟩
  obtain ⟨b, off, e5, e6⟩ := e4 (fun e0 => hne (List.length_eq_zero_iff.1 (by rw [← h.1, e0]; rfl)))
  exact ⟨b, off, e5, h.2 c c' w F b off e6⟩
theorem RzV.gsl {id k : Nat} {xs bs : List (List AV)} (hm : xs.length ≤ 1000000) (h : RzE H D k xs bs) : RzV H D (.gsl id k xs) (.isl k bs) := fun c c' w F v hv =>
  RzV.isl h c c' w F v (gsl_isl id k xs hm c w v hv)
theorem RzV.agg {xs bs : List AV} (h : RzL H D xs bs) : RzV H D (.agg xs) (.agg bs) := fun c c' w F v hv => by
  simp only [VRel] at hv ⊢
  obtain ⟨vs, e1, e2, e3⟩ := hv
  exact ⟨vs, e1, h c c' w F _ e2, e3⟩
theorem RzV.row {id n sz : Nat} {ty : TypeId} {cs cs' : List AV} (hD : D id) (ho : H.objs id = some (.row ty cs)) (hn : n * sz ≤ cs.length) (hm : n ≤ 1000000) (hl : cs'.length = cs.length) (hc : ∀ (i : Nat) (a a' : AV), cs[i]? = some a → cs'[i]? = some a' → RzV H D a a') : RzV H D (.sl id 0 n sz) (.isl sz (chunk sz n cs')) := fun c c' w F v hv => by
  have F' := F
  obtain ⟨B, W, E, im⟩ := F'
  simp only [VRel] at hv ⊢
  obtain ⟨b, cap, ty', hb, rfl, hc1, hc2, -⟩ := hv
  have hcl : (chunk sz n cs').length = n := chunk_length sz n cs'
  refine ⟨some ⟨b, 0, none⟩, cap, by rw [hcl], by rw [hcl]; exact hc1, by rw [hcl]; omega, fun _ => ⟨b, 0, rfl, ?_⟩⟩
  refine erel_chunk n cs' 0 (by rw [hl]; exact hn) (MRel.ofFn fun i a' hi => ⟨im id b hD hb _, ?_⟩)
  obtain ⟨a, ha⟩ : ∃ a, cs[i]? = some a := by
    have := (List.getElem?_eq_some_iff.1 hi).1
    exact ⟨_, List.getElem?_eq_getElem (by omega)⟩
  obtain ⟨u, hu, hone, hr⟩ := W.row_get hb ho ha
  exact ⟨u, by rw [Nat.zero_add]; exact hu, hone, hc i a a' ha hi c c' w F u hr⟩
end
theorem WRel.settle {B : Nat} {c c' : Ctx} {h h2 : z04} {w w' : World} {D : Nat → Prop} {v v' : AV} {u : Value} (W : WRel B c h w) (E : Ext B c w c' w') (W' : WRel B c' h2 w') (K : Keeps h h2 (fun _ => False)) (hD : ∀ i, D i → h.next ≤ i ∧ h2.objs i ≠ none) (V : VRel c' w' v u) (Z : RzV h2 D v v') (hv : z2v (fun _ => False) v') :
    ∃ c2, Ext B c w c2 w' ∧ WRel B c2 h w' ∧ VRel c2 w' v' u := by
  obtain ⟨E2, W2⟩ := (W'.killS D).freeze (fun k _ => ∃ id, D id ∧ c'.m id = some k) (by rintro k x ⟨id, hd, hk⟩; exact (W'.mlt id k hk).2.2) (by
    rintro k x ⟨id, hd, hk⟩ i o hi hio
    obtain ⟨h3, h4⟩ := killS_some hio
    have := W'.inj i id k hi hk (by rw [h4]; simp) (hD id hd).2
    subst this; exact absurd hd h3)
  refine W.forget (E.trans E2) W2 ⟨K.next, fun i hi hs => ?_⟩ hv (Z c' _ w' ⟨B, W', E2, fun id b hd hb x => Or.inr ⟨id, hd, hb⟩⟩ u V)
  rw [killS_out (fun d => by have := (hD i d).1; omega)]
  exact K.objs i hi hs
theorem z03.result {P : Program} {f : FuncId} {args : List AV} {h : z04} {α : Type} {enc : α → AV} {Q : α → Prop} (hid : ∀ a, Q a → z2v (fun _ => False) (enc a))
    (H : z03 P f args h (fun v h2 => ∃ (D : Nat → Prop) (a : α), Q a ∧ RzV h2 D v (enc a) ∧ (∀ i, D i → h.next ≤ i ∧ h2.objs i ≠ none) ∧ Keeps h h2 (fun _ => False))) : z03 P f args h (fun v h2 => (∃ a, v = enc a ∧ Q a) ∧ h2 = h) := by
  rcases H with H | H
  · refine Or.inl ⟨H.1, fun B c w vs W L => (H.2 B c w vs W L).mono fun e w' ⟨c', u, v, h', a, E, W', V, D, q, hq, Z, hD, K⟩ => ?_⟩
    obtain ⟨c2, E2, W2, V2⟩ := W.settle E W' K hD V Z (hid q hq)
    exact ⟨c2, u, enc q, h, a, E2, W2, V2, ⟨q, rfl, hq⟩, rfl⟩
  · refine Or.inr fun B c w vs W L => ?_
    obtain ⟨c', u, v, h', w', a, E, W', V, D, q, hq, Z, hD, K⟩ := H B c w vs W L
    obtain ⟨c2, E2, W2, V2⟩ := W.settle E W' K hD V Z (hid q hq)
    exact ⟨c2, u, enc q, h, w', a, E2, W2, V2, ⟨q, rfl, hq⟩, rfl⟩
end Go.Abs
end

