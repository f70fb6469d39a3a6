/- Roots, and sets whose sites are joined. -/
import Derived.Test.YtopfjochppdnfaaDoorClProg
set_option linter.unusedVariables false
set_option linter.unusedSimpArgs false
set_option maxRecDepth 100000
set_option maxHeartbeats 1000000
namespace Go.Proofs.YtopfjochppdnfaaDoor
open Go.Abs

theorem ix_ns {fid n k : Nat} (hk : k < n) (K : AV → Prop) : pIndexAddr (.slice 1) (.sl fid 0 n 1) (.int .i64 (k : Int)) K = K (.ptr fid k) := by
  rw [run_ixSl (by omega) (by omega)]; simp
theorem ld_ns {g : List Nat} {hh : AHeap} {fid k v : Nat} {T : TypeId} (ho : hh.objs fid = some (.row T (nsAV g))) (hv : g[k]? = some v) (K : AV → Prop) : pLoad none (.ptr fid k) hh K = K (.int .i64 (v : Nat)) := by
  rw [pLoad_ptr ho]; simp [pCells, nsAV_get, hv]
theorem st_ns {g : List Nat} {hh : AHeap} {fid k : Nat} {T : TypeId} (ho : hh.objs fid = some (.row T (nsAV g))) (hk : k < g.length) (v : Nat) (K : AHeap → Prop) : pStore 1 (.ptr fid k) (.int .i64 (v : Int)) hh K = K (hh.put fid (.row T (nsAV (g.set k v)))) := by
  rw [pStore_ptr ho (by rfl) (by rw [nsAV_len]; exact hk), nsAV_set]

theorem top_does {fid : Nat} {f : List Nat} (hl : Low f) {k : Nat} (hk : k < f.length) {h : AHeap} (ho : h.objs fid = some (.row 3 (nsAV f))) : CallsA Tryd.prog 32 [.sl fid 0 f.length 1, .int .i64 (k : Nat)] h (fun v h2 => v = .int .i64 (root f k : Nat) ∧ ∃ g, h2 = h.put fid (.row 3 (nsAV g)) ∧ Low g ∧ g.length = f.length ∧ ∀ x, root g x = root f x) := by
  apply class_forest_top_wp
  (repeat (first | simp -dsimp -implicitDefEqProofs (disch := omega) only [↓gp0, ↓gp1, ↓gp2, gq0, gq1, gq2, gq3, gq4, gq5, gq6, gq7, gq8, gq9, go0, go1, gl0, gl1, gl2, gl3, ↓reduceIte, Nat.reduceEqDiff, Nat.reduceAdd, Nat.reduceLeDiff, pBuild, fillA, ↓Api_Sets.r] | refine Cut.go ?_))
  obtain ⟨I, hI⟩ : ∃ I : Nat → Fr → AHeap → Prop, I = (fun m fr hh => ∃ (k' : Nat) (g : List Nat), m = k' ∧ k' < f.length ∧ hh = h.put fid (.row 3 (nsAV g)) ∧ Low g ∧ g.length = f.length ∧ (∀ x, root g x = root f x) ∧ root f k' = root f k ∧ fr = frOf [(0, .sl fid 0 f.length 1), (1, .int .i64 (k' : Nat))]) := ⟨_, rfl⟩
  refine WP_loop mixed_ (by kernel_rfl) I k (by rw [hI]; exact ⟨k, f, rfl, hk, (put_self ho).symm, hl, rfl, fun _ => rfl, rfl, rfl⟩) ?_
  intro m fr hh hi
  rw [hI] at hi
  obtain ⟨k', g, hmk, hk', rfl, hg, hgl, hr, hrk, rfl⟩ := hi
  apply class_forest_top_loop1
  have hob : (h.put fid (.row 3 (nsAV g))).objs fid = some (.row 3 (nsAV g)) := by simp
  have hkg : k' < g.length := by omega
  obtain ⟨p, hp⟩ : ∃ p, g[k']? = some p := ⟨_, List.getElem?_eq_getElem hkg⟩
  have hD : g.getD k' k' = p := by rw [List.getD_eq_getElem?_getD, hp]; rfl
  have hpk := hg k' p hp
  by_cases e : p = k'
  · subst e
    (repeat (first | simp -dsimp -implicitDefEqProofs (disch := omega) only [↓gp0, ↓gp1, ↓gp2, gq0, gq1, gq2, gq3, gq4, gq5, gq6, gq7, gq8, gq9, go0, go1, gl0, gl1, gl2, gl3, ↓reduceIte, Nat.reduceEqDiff, Nat.reduceAdd, Nat.reduceLeDiff, pBuild, fillA, ↓Api_Sets.r, ix_ns hk', ld_ns hob hp] | refine Cut.go ?_))
    refine ⟨?_, g, rfl, hg, hgl, hr⟩
    have : root f p = p := by rw [← hr]; exact root_stop (by rw [hD]; omega)
    rw [← hrk, this]
  have hpl : p < g.length := by omega
  obtain ⟨q, hq⟩ : ∃ q, g[p]? = some q := ⟨_, List.getElem?_eq_getElem hpl⟩
  have hDq : g.getD p p = q := by rw [List.getD_eq_getElem?_getD, hq]; rfl
  have hqp := hg p q hq
  have hb : ((p : Int) != (k' : Int)) = true := by simp; omega
  have hob2 : ((h.put fid (.row 3 (nsAV g))).put fid (.row 3 (nsAV (g.set k' q)))).objs fid = some (.row 3 (nsAV (g.set k' q))) := by simp
  have hget2 : (g.set k' q)[k']? = some q := by rw [List.getElem?_set_self hkg]
  (repeat (first | simp -dsimp -implicitDefEqProofs (disch := omega) only [↓gp0, ↓gp1, ↓gp2, gq0, gq1, gq2, gq3, gq4, gq5, gq6, gq7, gq8, gq9, go0, go1, gl0, gl1, gl2, gl3, ↓reduceIte, Nat.reduceEqDiff, Nat.reduceAdd, Nat.reduceLeDiff, pBuild, fillA, ↓Api_Sets.r, ix_ns hk', ix_ns (show p < f.length by omega), ld_ns hob hp, ld_ns hob hq, hb, st_ns hob hkg, ld_ns hob2 hget2] | refine Cut.go ?_))
  rw [loopPost_normal, hI]
  have hh2 := root_halve hg hkg (by rw [hD]; omega)
  rw [hD, hDq] at hh2
  refine ⟨q, by omega, q, g.set k' q, rfl, by omega, put_put _ _ _ _, hg.set (by omega), by simpa using hgl, fun x => by rw [hh2, hr], ?_, rfl⟩
  rw [← hrk, ← hr, ← hr]
  rw [root_step (k := k') (by rw [hD]; omega), hD]
  by_cases e2 : q < p
  · rw [root_step (k := p) (by rw [hDq]; exact e2), hDq]
  · have : q = p := by omega
    rw [this]

theorem join_does {fid : Nat} {f : List Nat} {P : List (Nat × Nat)} (hs : Says f P) {x : Nat} (hx : x < 18446744073709551616) (hb : ∀ k ∈ bitsOf x, k < f.length) (hlen : f.length ≤ 1000) {h : AHeap} (hfid : fid < h.next) (ho : h.objs fid = some (.row 3 (nsAV f))) :
    CallsA Tryd.prog 31 [.sl fid 0 f.length 1, .int .u64 (x : Nat)] h (fun v h2 => ∃ g, h2.objs fid = some (.row 3 (nsAV g)) ∧ Keeps h h2 (fun i => i = fid) ∧ Says g (P ++ (bitsOf x).map fun k => (firstB x, k)) ∧ g.length = f.length) := by
  apply class_forest_join_wp
  by_cases h0 : x = 0
  · subst h0
    (repeat (first | simp -dsimp -implicitDefEqProofs (disch := omega) only [↓gp0, ↓gp1, ↓gp2, gq0, gq1, gq2, gq3, gq4, gq5, gq6, gq7, gq8, gq9, go0, go1, gl0, gl1, gl2, gl3, ↓reduceIte, Nat.reduceEqDiff, Nat.reduceAdd, Nat.reduceLeDiff, pBuild, fillA, ↓Api_Sets.r, fits_sl, cells_sl] | refine Cut.go ?_))
    exact ⟨f, ho, Keeps.refl _ _, by simpa [bits_zero] using hs, rfl⟩
  have e0 : ((x : Int) == 0) = false := by simpa using h0
  have hlow := firstB_low h0 hx
  have hfirst : firstB x < f.length := hb _ (mem_bits.2 ⟨hlow.1, hlow.2.1⟩)
  (repeat (first | simp -dsimp -implicitDefEqProofs (disch := omega) only [↓gp0, ↓gp1, ↓gp2, gq0, gq1, gq2, gq3, gq4, gq5, gq6, gq7, gq8, gq9, go0, go1, gl0, gl1, gl2, gl3, ↓reduceIte, Nat.reduceEqDiff, Nat.reduceAdd, Nat.reduceLeDiff, pBuild, fillA, ↓Api_Sets.r, fits_sl, cells_sl, e0] | refine Cut.go ?_))
  refine CallsA.go (tz_does x hx _) ?_
  (repeat (first | simp -dsimp -implicitDefEqProofs (disch := omega) only [↓gp0, ↓gp1, ↓gp2, gq0, gq1, gq2, gq3, gq4, gq5, gq6, gq7, gq8, gq9, go0, go1, gl0, gl1, gl2, gl3, ↓reduceIte, Nat.reduceEqDiff, Nat.reduceAdd, Nat.reduceLeDiff, pBuild, fillA, ↓Api_Sets.r] | refine Cut.go ?_))
  rw [pStore_one (by rfl)]
  (repeat (first | simp -dsimp -implicitDefEqProofs (disch := omega) only [↓gp0, ↓gp1, ↓gp2, gq0, gq1, gq2, gq3, gq4, gq5, gq6, gq7, gq8, gq9, go0, go1, gl0, gl1, gl2, gl3, ↓reduceIte, Nat.reduceEqDiff, Nat.reduceAdd, Nat.reduceLeDiff, pBuild, fillA, ↓Api_Sets.r] | refine Cut.go ?_))
  refine (each_does x _).mono ?_
  rintro v h2 ⟨rfl, rfl⟩
  (repeat (first | simp -dsimp -implicitDefEqProofs (disch := omega) only [↓gp0, ↓gp1, ↓gp2, gq0, gq1, gq2, gq3, gq4, gq5, gq6, gq7, gq8, gq9, go0, go1, gl0, gl1, gl2, gl3, ↓reduceIte, Nat.reduceEqDiff, Nat.reduceAdd, Nat.reduceLeDiff, pBuild, fillA, ↓Api_Sets.r] | refine Cut.go ?_))
  obtain ⟨H, hH⟩ : ∃ H : AHeap, H = (h.push (.row 3 [.int .i64 (firstB x : Nat)])).push (.row 23 [.int .u64 (x : Nat)]) := ⟨_, rfl⟩
  have hHn : H.next = h.next + 2 := by rw [hH]; rfl
  have hHc : H.objs h.next = some (.row 3 [.int .i64 (firstB x : Nat)]) := by rw [hH]; simp
  have hHb : H.objs (h.next + 1) = some (.row 23 [.int .u64 (x : Nat)]) := by rw [hH]; simp
  have hHk : Keeps h H (fun i => i = fid) := by rw [hH]; exact ((Keeps.one _ _).go (Keeps.one _ _)).mono (fun _ e => e.elim)
  have hHf : H.objs fid = some (.row 3 (nsAV f)) := by rw [hH, push_old (by simp; omega), push_old hfid]; exact ho
  have e1 : (h.push (.row 3 [.int .i64 (firstB x : Nat)])).next = h.next + 1 := rfl
  rw [e1, ← hH]
  clear e1
  refine WP_rangeA Tryd.call58 (gf := 58) (cap := [.ptr (h.next + 1) 0]) (by rfl) ?_
  obtain ⟨lp, hlp⟩ : ∃ lp : LoopState → Option Code → AObj, lp = fun st pe => .loop st pe 39 #[14] c_class_forest_join_4 c_class_forest_join_5 (frOf [(2, AV.iptr [AV.sl fid 0 f.length 1]), (4, AV.ptr h.next 0), (13, AV.fn (Fn.func 58) [] [AV.ptr (h.next + 1) 0])]) := ⟨_, rfl⟩
  obtain ⟨J, hJ⟩ : ∃ J : Nat → AHeap → Prop, J = fun n hh => ∃ g, hh.objs fid = some (.row 3 (nsAV g)) ∧ Says g (P ++ ((bitsOf x).take n).map fun k => (firstB x, k)) ∧ g.length = f.length ∧ hh.objs h.next = some (.row 3 [.int .i64 (firstB x : Nat)]) ∧ hh.objs (h.next + 2) = some (lp .ready none) ∧ Keeps h hh (fun i => i = fid) := ⟨_, rfl⟩
  rw [hHn]
  refine (each1_does hx J (fun _ => False) _ (by simp [hHn, hHb]) ?_ ?_ ?_).mono ?_
  · rw [hJ]
    refine ⟨f, by rw [push_old (by omega)]; exact hHf, by simpa using hs, rfl, by rw [push_old (by omega)]; exact hHc, ?_, hHk.pushS _⟩
    rw [← hHn, hlp]; exact push_new _ _
  · intro n hh o hj
    rw [hJ] at hj ⊢
    obtain ⟨g, j1, j2, j3, j4, j5, j6⟩ := hj
    refine ⟨g, ?_, j2, j3, ?_, ?_, j6.putNew (by omega) _⟩
    · simp only [AHeap.put_objs]; rw [if_neg (by omega)]; exact j1
    · simp only [AHeap.put_objs]; rw [if_neg (by omega)]; exact j4
    · simp only [AHeap.put_objs]; rw [if_neg (by omega)]; exact j5
  · intro n k hh o hk hj hob
    rw [hJ] at hj
    obtain ⟨g, j1, j2, j3, j4, j5, j6⟩ := hj
    rw [hlp] at j5
    have hkm : k ∈ bitsOf x := List.mem_of_getElem? hk
    have hkl := hb k hkm
    refine YieldW.go (fr1 := frOf [(2, AV.iptr [AV.sl fid 0 f.length 1]), (4, AV.ptr h.next 0), (5, .int .i64 (k : Nat))]) j5 (by rfl) (by decide) (by kernel_rfl) (by kernel_rfl) ?_ ?_
    · show WP _ _ _ (setPs [14] [.int .i64 (k : Nat)] (frOf _)) _ _
      simp only [setPs, upd_frOf]
      refine WP.restr [2, 4, 14] ?_
      apply class_forest_join_loop4
      refine ⟨rfl, ?_, rfl⟩
      rfl
    · apply class_forest_join_loop5
      obtain ⟨G, hG⟩ : ∃ G : AHeap, G = hh.put (h.next + 2) (.loop .busy none 39 #[14] c_class_forest_join_4 c_class_forest_join_5 (frOf [(2, AV.iptr [AV.sl fid 0 f.length 1]), (4, AV.ptr h.next 0), (13, AV.fn (Fn.func 58) [] [AV.ptr (h.next + 1) 0])])) := ⟨_, rfl⟩
      rw [← hG]
      have g1 : G.objs fid = some (.row 3 (nsAV g)) := by rw [hG, put_old (by omega)]; exact j1
      have g4 : G.objs h.next = some (.row 3 [.int .i64 (firstB x : Nat)]) := by rw [hG, put_old (by omega)]; exact j4
      have ld4 : ∀ {F : AHeap} (hF : F.objs h.next = some (.row 3 [.int .i64 (firstB x : Nat)])) (K : AV → Prop), pLoad none (.ptr h.next 0) F K = K (.int .i64 (firstB x : Nat)) := fun hF K => by rw [pLoad_ptr hF]; simp [pCells]
      have hlow := j2.1
      rw [← j3] at hkl hfirst ⊢
      (repeat (first | simp -dsimp -implicitDefEqProofs (disch := omega) only [↓gp0, ↓gp1, ↓gp2, gq0, gq1, gq2, gq3, gq4, gq5, gq6, gq7, gq8, gq9, go0, go1, gl0, gl1, gl2, gl3, ↓reduceIte, Nat.reduceEqDiff, Nat.reduceAdd, Nat.reduceLeDiff, pBuild, fillA, ↓Api_Sets.r, ld4 g4, fits_sl, cells_sl] | refine Cut.go ?_))
      refine (top_does hlow hfirst g1).mono ?_
      rintro _ G2 ⟨rfl, g', rfl, hl2, hlen2, hr2⟩
      have g12 : (G.put fid (.row 3 (nsAV g'))).objs fid = some (.row 3 (nsAV g')) := by simp
      (repeat (first | simp -dsimp -implicitDefEqProofs (disch := omega) only [↓gp0, ↓gp1, ↓gp2, gq0, gq1, gq2, gq3, gq4, gq5, gq6, gq7, gq8, gq9, go0, go1, gl0, gl1, gl2, gl3, ↓reduceIte, Nat.reduceEqDiff, Nat.reduceAdd, Nat.reduceLeDiff, pBuild, fillA, ↓Api_Sets.r] | refine Cut.go ?_))
      rw [← hlen2]
      refine (top_does hl2 (k := k) (by omega) g12).mono ?_
      rintro _ G3 ⟨rfl, g'', rfl, hl3, hlen3, hr3⟩
      rw [put_put]
      have g13 : (G.put fid (.row 3 (nsAV g''))).objs fid = some (.row 3 (nsAV g'')) := by simp
      (repeat (first | simp -dsimp -implicitDefEqProofs (disch := omega) only [↓gp0, ↓gp1, ↓gp2, gq0, gq1, gq2, gq3, gq4, gq5, gq6, gq7, gq8, gq9, go0, go1, gl0, gl1, gl2, gl3, ↓reduceIte, Nat.reduceEqDiff, Nat.reduceAdd, Nat.reduceLeDiff, pBuild, fillA, ↓Api_Sets.r] | refine Cut.go ?_))
      have hra : root g (firstB x) = root g'' (firstB x) := by rw [hr3, hr2]
      have hrb : root g' k = root g'' k := by rw [hr3]
      have hla : root g'' (firstB x) < g''.length := Nat.lt_of_le_of_lt (root_le _) (by omega)
      have hlb : root g'' k < g''.length := Nat.lt_of_le_of_lt (root_le _) (by omega)
      have hM : max ((root g (firstB x) : Nat) : Int) (root g' k : Nat) = ((max (root g'' (firstB x)) (root g'' k) : Nat) : Int) := by rw [hra, hrb]; omega
      have hm : min ((root g (firstB x) : Nat) : Int) (root g' k : Nat) = ((min (root g'' (firstB x)) (root g'' k) : Nat) : Int) := by rw [hra, hrb]; omega
      rw [maxA_two, minA_two, hM, hm]
      have hMl : max (root g'' (firstB x)) (root g'' k) < g'.length := by omega
      (repeat (first | simp -dsimp -implicitDefEqProofs (disch := omega) only [↓gp0, ↓gp1, ↓gp2, gq0, gq1, gq2, gq3, gq4, gq5, gq6, gq7, gq8, gq9, go0, go1, gl0, gl1, gl2, gl3, ↓reduceIte, Nat.reduceEqDiff, Nat.reduceAdd, Nat.reduceLeDiff, pBuild, fillA, ↓Api_Sets.r, ix_ns hMl, st_ns g13 (show max (root g'' (firstB x)) (root g'' k) < g''.length by omega)] | refine Cut.go ?_))
      rw [put_put]
      have hsay : Says g'' (P ++ ((bitsOf x).take n).map fun k => (firstB x, k)) := j2.same hl3 (fun y => by rw [hr3, hr2])
      have hsay2 := hsay.link (i := firstB x) (j := k) (by omega) (by omega)
      refine ⟨by rw [hG, put_old (by omega)]; rw [put_new, hlen2, j3], Or.inl ⟨rfl, ?_, ?_⟩⟩
      · rw [put_old (by omega), put_old (by omega), hG, put_old (by omega)]; exact hob
      · rw [hJ]
        refine ⟨_, by rw [put_old (by omega), put_new], ?_, by simp; omega, by rw [put_old (by omega), put_old (by omega), hG, put_old (by omega)]; exact j4, by rw [put_new, hlp, hlen2, j3], ((hG ▸ j6.putNew (by omega) _).putS rfl _).putNew (by omega) _⟩
        have : (bitsOf x).take (n + 1) = (bitsOf x).take n ++ [k] := by rw [List.take_add_one, hk]; rfl
        rw [this, List.map_append, ← List.append_assoc]
        exact hsay2
  · rintro v h' (hj | hj)
    · rw [hJ] at hj
      obtain ⟨g, j1, j2, j3, j4, j5, j6⟩ := hj
      rw [hlp] at j5
      refine ⟨.ready, none, j5, by simp, ?_⟩
      simp only [rangePostA]
      (repeat (first | simp -dsimp -implicitDefEqProofs (disch := omega) only [↓gp0, ↓gp1, ↓gp2, gq0, gq1, gq2, gq3, gq4, gq5, gq6, gq7, gq8, gq9, go0, go1, gl0, gl1, gl2, gl3, ↓reduceIte, Nat.reduceEqDiff, Nat.reduceAdd, Nat.reduceLeDiff, pBuild, fillA, ↓Api_Sets.r] | refine Cut.go ?_))
      refine ⟨g, ?_, j6.killNew (by omega), by simpa using j2, j3⟩
      simp only [AHeap.kill_objs]; rw [if_neg (by omega)]; exact j1
    · exact hj.elim

end Go.Proofs.YtopfjochppdnfaaDoor
