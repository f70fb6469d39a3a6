/- What the document's instr computes, of every instruction. -/
import Derived.Test.YtppldbldpphlmaaCdGreat
import Derived.Test.YtppldbldpphlmaaCdRefI1
import Derived.Test.YtppldbldpphlmaaCdRefI2
import Derived.Test.YtppldbldpphlmaaCdRefI3
import Derived.Test.YtppldbldpphlmaaCdRefI4
set_option linter.unusedVariables false
set_option linter.unusedSimpArgs false
set_option maxRecDepth 100000
set_option maxHeartbeats 1000000
namespace Go.Proofs.Ytppldbldpphlmaa
open Go.Abs

/-- An instruction by the document: as by the program, and the last one, and no other, ends the thread. -/
noncomputable def instrR (c : Cd) (t : Int) (b : Bd) (x : In) (a : Int) : Bool := instrB c t b x a && (decide (x.Op = 17) == decide (a = (slL b.Code).length - 1))

theorem instrB_none {c : Cd} {t : Int} {b : Bd} {x : In} {a : Int} (ho : x.Op < 1 ∨ 17 < x.Op) : instrB c t b x a = false := by
  unfold instrB
  rw [if_neg (by omega), if_neg (by omega), if_neg (by omega), if_neg (by omega), if_neg (by omega), if_neg (by omega), if_neg (by omega), if_neg (by omega)]
  have : decide (x.Op = 17) = false := decide_eq_false (by omega)
  simp [this]

theorem ri_0 (c : Cd) (t a : Int) (b : Bd) (x : In) (hb : getI (slL c.Threads) t = some b) (hx : getI (slL b.Code) a = some x) (ho : x.Op < 1 ∨ 17 < x.Op) (h : AHeap) :
    CallsA Try.prog 57 [.agg c.cells, .int .i64 t, .int .i64 a] h (fun v h2 => v = .bool (instrR c t b x a) ∧ Keeps h h2 (fun _ => False)) := by
  have hs : hasS x.Op = [63] := by unfold hasS; rw [if_pos (by omega)]
  have nq : ([63] == ([63] : List UInt8)) = true := rfl
  apply padlockref09_instr_wp
  (repeat (first | simp -dsimp -implicitDefEqProofs (disch := omega) only [↓gp0, ↓gp1, ↓gp2, gq0, gq1, gq2, gq3, gq4, gq5, gq6, gq7, gq8, gq9, go0, go1, gl0, gl1, gl2, gl3, ↓reduceIte, Nat.reduceEqDiff, Nat.reduceAdd, Nat.reduceLeDiff, pBuild, fillA, ↓Api_Local.r, ↓Api_Item.r, ↓Api_Instr.r, ↓Api_Body.r, ↓Api_Site.r, ↓Api_Section.r, ↓Api_Code.r, ↓Api_Path.r, ↓Code_maker.r, ↓Api_Value.r, ixI hb, ixI hx] | refine Cut.go ?_))
  refine CallsA.go (ref_Has_does x.Op _) ?_
  rw [hs]
  repeat' (first | (simp -dsimp -implicitDefEqProofs only [↓gp0, ↓gp1, ↓gp2, gq0, gq1, gq2, gq3, gq4, gq5, gq6, gq7, gq8, gq9, gl0, gl1, gl2, gl3, ↓reduceIte, Nat.reduceEqDiff, Nat.reduceAdd, Nat.reduceLeDiff, pBuild, fillA, ↓Api_Local.r, ↓Api_Item.r, ↓Api_Instr.r, ↓Api_Body.r, ↓Api_Site.r, ↓Api_Section.r, ↓Api_Code.r, ↓Api_Path.r, ↓Code_maker.r, ↓Api_Value.r, Int.reduceBEq, Int.reduceBNe, Int.reduceLT, Int.reduceLE, decide_true, decide_false, nq]) | with_reducible refine Cut.go ?_ | unfold padlockref09_instr_wp_p1 | unfold padlockref09_instr_wp_p2 | unfold padlockref09_instr_wp_p3 | unfold padlockref09_instr_wp_p4 | unfold padlockref09_instr_wp_p5)
  unfold instrR
  rw [instrB_none ho]
  exact ⟨rfl, (Keeps.one _ _).go (Keeps.one _ _)⟩

theorem ref_instr_does (c : Cd) (hc : c.ok) (sm : Small c) (t a : Int) (b : Bd) (x : In) (hb : getI (slL c.Threads) t = some b) (hx : getI (slL b.Code) a = some x) (hsl : ∀ l ∈ slL b.Slots, localB c l = true) (h : AHeap) :
    CallsA Try.prog 57 [.agg c.cells, .int .i64 t, .int .i64 a] h (fun v h2 => v = .bool (instrR c t b x a) ∧ h2 = h) := by
  have mb := getI_mem hb
  have mx := getI_mem hx
  have hs : (slL c.Sections).length ≤ 1000000 := by have := sm.secs; omega
  have h1 := sm.slots b mb
  have h2 := sm.code b mb
  have h3 := sm.items b mb x mx
  have h4 := sm.index b mb x mx
  have hxo := (hc.2.2.1.2 b mb).2.1.2 x mx
  have hit := hxo.2.2.2.2.2.2.1
  have hix := hxo.2.2.2.2.2.2.2
  have hn : okI (slL b.Slots).length := by unfold okI; omega
  refine CallsA.forget (by simp [idsIn]) ?_
  unfold instrR
  rcases (by omega : (x.Op < 1 ∨ 17 < x.Op) ∨ x.Op = 1 ∨ x.Op = 2 ∨ x.Op = 3 ∨ x.Op = 4 ∨ x.Op = 5 ∨ x.Op = 6 ∨ x.Op = 7 ∨ x.Op = 8 ∨ x.Op = 9 ∨ x.Op = 10 ∨ x.Op = 11 ∨ x.Op = 12 ∨ x.Op = 13 ∨ x.Op = 14 ∨ x.Op = 15 ∨ x.Op = 16 ∨ x.Op = 17) with ho | ho | ho | ho | ho | ho | ho | ho | ho | ho | ho | ho | ho | ho | ho | ho | ho | ho
  · exact ri_0 c t a b x hb hx ho h
  · exact ri_1 c hc hs t a b x hb hx hsl hn hit hix (by omega) (by omega) (by omega) ho h
  · exact ri_2 c hc hs t a b x hb hx hsl hn hit hix (by omega) (by omega) (by omega) ho h
  · exact ri_3 c hc hs t a b x hb hx hsl hn hit hix (by omega) (by omega) (by omega) ho h
  · exact ri_4 c hc hs t a b x hb hx hsl hn hit hix (by omega) (by omega) (by omega) ho h
  · exact ri_5 c hc hs t a b x hb hx hsl hn hit hix (by omega) (by omega) (by omega) ho h
  · exact ri_6 c hc hs t a b x hb hx hsl hn hit hix (by omega) (by omega) (by omega) ho h
  · exact ri_7 c hc hs t a b x hb hx hsl hn hit hix (by omega) (by omega) (by omega) ho h
  · exact ri_8 c hc hs t a b x hb hx hsl hn hit hix (by omega) (by omega) (by omega) ho h
  · exact ri_9 c hc hs t a b x hb hx hsl hn hit hix (by omega) (by omega) (by omega) ho h
  · exact ri_10 c hc hs t a b x hb hx hsl hn hit hix (by omega) (by omega) (by omega) ho h
  · exact ri_11 c hc hs t a b x hb hx hsl hn hit hix (by omega) (by omega) (by omega) ho h
  · exact ri_12 c hc hs t a b x hb hx hsl hn hit hix (by omega) (by omega) (by omega) ho h
  · exact ri_13 c hc hs t a b x hb hx hsl hn hit hix (by omega) (by omega) (by omega) ho h
  · exact ri_14 c hc hs t a b x hb hx hsl hn hit hix (by omega) (by omega) (by omega) ho h
  · exact ri_15 c hc hs t a b x hb hx hsl hn hit hix (by omega) (by omega) (by omega) ho h
  · exact ri_16 c hc hs t a b x hb hx hsl hn hit hix (by omega) (by omega) (by omega) ho h
  · exact ri_17 c hc hs t a b x hb hx hsl hn hit hix (by omega) (by omega) (by omega) ho h

end Go.Proofs.Ytppldbldpphlmaa
