/- Own texts, merged: PaSpec, CdProg, CdProg2, CdProg3, CdProg4, CdProg5, CdProg6, CdProg7, CdGreat. -/
import Derived.Test.YtnggcokgnblpgaaM6
set_option linter.unusedVariables false
set_option linter.unusedSimpArgs false
section
/- What is known of slots: by what it hangs on, and round by round, plainly. -/
set_option maxRecDepth 8000
set_option maxHeartbeats 1000000
namespace Go.Proofs.Ytnggcokgnblpgaa
open Go.Abs
abbrev Vl := z0l
def vUnk : Vl := ⟨0, ⟨false, 0, none⟩⟩
def vFresh : Vl := ⟨1, ⟨false, 0, none⟩⟩
def vWay (g : Bool) (n : Int) : Vl := ⟨2, ⟨g, n, none⟩⟩
def dstI (x : In) : Int := if x.Op = 1 ∨ x.Op = 2 ∨ x.Op = 3 ∨ x.Op = 4 ∨ x.Op = 8 ∨ x.Op = 9 ∨ x.Op = 10 then x.Dst else -1
def storeG (L : List In) (n : Int) : Bool := L.any fun x => decide (x.Op = 5) && decide (x.N = n)
def storeF (L : List In) (r n : Int) : Bool := L.any fun x => decide (x.Op = 6) && decide (x.Rec = r) && decide (x.N = n)
def byS (L : List In) (k : Int) : List In := L.filter fun x => decide (dstI x = k)
def longV (v : Vl) (n : Int) : Vl := ⟨2, ⟨v.Path.Global, v.Path.N, some (slL v.Path.Fields ++ [n])⟩⟩
def itemV (K : Int → Vl) (l : List z0k) : Vl := match l with | [y] => if y.Op = 2 then K y.N else vUnk | _ => vUnk
def z1w (L : List In) (K : Int → Vl) (x : In) : Vl :=
  if x.Op = 8 ∨ x.Op = 9 then vFresh
  else if x.Op = 1 then itemV K (slL x.Items)
  else if x.Op = 2 then (if storeG L x.N then vUnk else vWay true x.N)
  else if x.Op = 3 then (if (K x.Src).Kind = 2 ∧ (slL (K x.Src).Path.Fields).length ≤ 2 ∧ storeF L x.Rec x.N = false then longV (K x.Src) x.N else vUnk)
  else vUnk
def z4f (L : List In) (on : Int → Bool) (G : In → Vl) (k : Int) : Vl := match byS L k with | [] => vWay false k | [x] => if on k then G x else vUnk | _ => vUnk
def ofV (L : List In) (on : Int → Bool) : Nat → Int → Vl
  | 0 => z4f L on fun _ => vUnk
  | f + 1 => z4f L on fun x => z1w L (ofV L on f) x
def Lev (a b : Int → Vl) : Prop := ∀ k, (a k).Kind ≠ 0 → b k = a k
theorem Lev.refl (a : Int → Vl) : Lev a a := fun _ _ => rfl
theorem Lev.trans {a b c : Int → Vl} (h : Lev a b) (g : Lev b c) : Lev a c := fun k hk => by
  have h1 := h k hk
  rw [g k (by rw [h1]; exact hk), h1]
def UnkO (a : Int → Vl) : Prop := ∀ k, (a k).Kind = 0 → a k = vUnk
theorem givesV_mono {L : List In} {a b : Int → Vl} (h : Lev a b) {x : In} (hx : (z1w L a x).Kind ≠ 0) : z1w L b x = z1w L a x := by
  unfold z1w at hx ⊢
  split
  · rfl
  · rename_i h1
    rw [if_neg h1] at hx
    split
    · rename_i h2
      rw [if_pos h2] at hx
      unfold itemV at hx ⊢
      split
      · split
        · rename_i y he h3
          rw [he] at hx
          simp only [h3, if_true] at hx
          exact h _ hx
        · rfl
      · rfl
    · rename_i h2
      rw [if_neg h2] at hx
      split
      · rfl
      · rename_i h3
        rw [if_neg h3] at hx
        split
        · rename_i h4
          rw [if_pos h4] at hx
          by_cases h5 : (a x.Src).Kind = 2
          · rw [h x.Src (by omega)]
          · rw [if_neg (fun h => h5 h.1)] at hx; exact absurd rfl hx
        · rfl
theorem givesV_unk {L : List In} {a : Int → Vl} (h : UnkO a) (x : In) (hx : (z1w L a x).Kind = 0) : z1w L a x = vUnk := by
  unfold z1w at hx ⊢
  split
  · rename_i h1; rw [if_pos h1] at hx; cases hx
  · rename_i h1
    rw [if_neg h1] at hx
    split
    · rename_i h2
      rw [if_pos h2] at hx
      unfold itemV at hx ⊢
      split
      · split
        · rename_i y he h3
          rw [he] at hx
          simp only [h3, if_true] at hx
          exact h _ hx
        · rfl
      · rfl
    · rename_i h2
      rw [if_neg h2] at hx
      split
      · rename_i h3
        rw [if_pos h3] at hx
        split
        · rfl
        · rename_i h4; rw [if_neg h4] at hx; cases hx
      · rename_i h3
        rw [if_neg h3] at hx
        split
        · rename_i h4
          rw [if_pos h4] at hx
          split
          · rename_i h5; rw [if_pos h5] at hx; cases hx
          · rfl
        · rfl
theorem stepV_unk {L : List In} {on : Int → Bool} {G : In → Vl} (hG : ∀ x, (G x).Kind = 0 → G x = vUnk) : UnkO (z4f L on G) := fun k hk => by
  unfold z4f at hk ⊢
  split
  · rename_i h; rw [h] at hk; cases hk
  · rename_i x h
    rw [h] at hk
    simp only at hk
    split
    · rename_i h2; rw [if_pos h2] at hk; exact hG _ hk
    · rfl
  · rfl
theorem ofV_unk (L : List In) (on : Int → Bool) : ∀ f, UnkO (ofV L on f)
  | 0 => stepV_unk fun _ _ => rfl
  | f + 1 => stepV_unk fun x hx => givesV_unk (ofV_unk L on f) x hx
theorem stepV_mono {L : List In} {on : Int → Bool} {G G' : In → Vl} (hG : ∀ x, (G x).Kind ≠ 0 → G' x = G x) : Lev (z4f L on G) (z4f L on G') := fun k hk => by
  unfold z4f at hk ⊢
  split
  · rfl
  · rename_i x h
    rw [h] at hk
    simp only at hk
    split
    · rename_i h2; rw [if_pos h2] at hk; exact hG _ hk
    · rfl
  · rfl
theorem ofV_mono (L : List In) (on : Int → Bool) : ∀ f, Lev (ofV L on f) (ofV L on (f + 1))
  | 0 => stepV_mono fun x hx => absurd rfl hx
  | f + 1 => stepV_mono fun x hx => givesV_mono (ofV_mono L on f) hx
theorem ofV_le {L : List In} {on : Int → Bool} {f g : Nat} (h : f ≤ g) : Lev (ofV L on f) (ofV L on g) := by
  induction h with
  | refl => exact Lev.refl _
  | step _ ih => exact ih.trans (ofV_mono L on _)
theorem ofV_stay {L : List In} {on : Int → Bool} {f : Nat} (h : ofV L on (f + 1) = ofV L on f) : ∀ g, f ≤ g → ofV L on g = ofV L on f := by
  intro g hg
  induction hg with
  | refl => rfl
  | @step m hm ih =>
    have : ofV L on (m + 1) = ofV L on (f + 1) := by
      show (z4f L on fun x => z1w L (ofV L on m) x) = (z4f L on fun x => z1w L (ofV L on f) x)
      rw [ih]
    rw [this, h]
def Among (L : List In) (n : Nat) : Prop := ∀ x ∈ L, dstI x = -1 ∨ ∃ k : Nat, dstI x = k ∧ k < n
theorem byS_out {L : List In} {n : Nat} (h : Among L n) {k : Int} (hk : 0 ≤ k) (hn : n ≤ k) : byS L k = [] := by
  unfold byS
  rw [List.filter_eq_nil_iff]
  intro x hx
  simp only [decide_eq_true_eq]
  rcases h x hx with e | ⟨j, e, hj⟩ <;> omega
theorem byS_neg {L : List In} {n : Nat} (h : Among L n) {k : Int} (hk : k < -1) : byS L k = [] := by
  unfold byS
  rw [List.filter_eq_nil_iff]
  intro x hx
  simp only [decide_eq_true_eq]
  rcases h x hx with e | ⟨j, e, hj⟩ <;> omega
def cntV (n : Nat) (a : Int → Vl) : Nat := (List.range n).countP fun k => decide ((a (k : Nat)).Kind ≠ 0)
theorem cnt_lt {n : Nat} {p q : Nat → Bool} (h : ∀ j, j < n → p j = true → q j = true) {b : Nat} (hb : b < n) (h1 : p b = false) (h2 : q b = true) : (List.range n).countP p < (List.range n).countP q := by
  induction n with
  | zero => omega
  | succ n ih =>
    rw [List.range_succ, List.countP_append, List.countP_append]
    have hle : (List.range n).countP p ≤ (List.range n).countP q := List.countP_mono_left fun j hj hp => h j (by have := List.mem_range.1 hj; omega) hp
    rcases Nat.lt_or_eq_of_le (show b ≤ n by omega) with hbn | rfl
    · have := ih (fun j hj => h j (by omega)) hbn
      have h3 := h n (by omega)
      cases hp : p n <;> cases hq : q n <;> simp_all <;> omega
    · simp [h1, h2]; omega
def On1 (on : Int → Bool) : Prop := on (-1) = false
theorem ofV_more {L : List In} {on : Int → Bool} {n : Nat} (h : Among L n) (o1 : On1 on) (f : Nat) : ofV L on (f + 1) = ofV L on f ∨ cntV n (ofV L on f) < cntV n (ofV L on (f + 1)) := by
  by_cases e : ∃ k, ofV L on (f + 1) k ≠ ofV L on f k
  · right
    obtain ⟨k, hk⟩ := e
    have h0 : (ofV L on f k).Kind = 0 := Classical.byContradiction fun hn => hk (ofV_mono L on f k hn)
    have h1 : (ofV L on (f + 1) k).Kind ≠ 0 := fun h2 => hk (by rw [ofV_unk L on (f + 1) k h2, ofV_unk L on f k h0])
    have hb : byS L k ≠ [] := fun hb => by
      have : ∀ G, z4f L on G k = vWay false k := fun G => by unfold z4f; rw [hb]
      have h3 : ofV L on f k = vWay false k := by cases f <;> exact this _
      rw [h3] at h0; cases h0
    have hk1 : k ≠ -1 := by
      rintro rfl
      have : (ofV L on (f + 1) (-1)).Kind = 0 := by
        show (z4f L on _ (-1)).Kind = 0
        unfold z4f
        split
        · rename_i h2; exact absurd h2 hb
        · rw [o1]; rfl
        · rfl
      exact h1 this
    have hkr : 0 ≤ k ∧ k < n := by
      constructor
      · apply Classical.byContradiction; intro hn; exact hb (byS_neg h (by omega))
      · apply Classical.byContradiction; intro hn
        by_cases h2 : 0 ≤ k
        · exact hb (byS_out h h2 (by omega))
        · exact hb (byS_neg h (by omega))
    refine cnt_lt (b := k.toNat) (fun j hj hp => ?_) (by omega) ?_ ?_
    · simp only [decide_eq_true_eq] at hp ⊢
      rw [ofV_mono L on f _ hp]; exact hp
    · rw [Int.toNat_of_nonneg hkr.1]; simp [h0]
    · rw [Int.toNat_of_nonneg hkr.1]; simp [h1]
  · left
    funext k
    exact Classical.byContradiction fun hn => e ⟨k, hn⟩
theorem ofV_end {L : List In} {on : Int → Bool} {n : Nat} (h : Among L n) (o1 : On1 on) : ∀ g, n ≤ g → ofV L on g = ofV L on n := by
  have key : ∀ f, (∃ f', f' ≤ f ∧ ofV L on (f' + 1) = ofV L on f') ∨ f ≤ cntV n (ofV L on f) := by
    intro f
    induction f with
    | zero => right; omega
    | succ f ih =>
      rcases ih with ⟨f', h1, h2⟩ | ih
      · exact Or.inl ⟨f', by omega, h2⟩
      · rcases ofV_more h o1 f with h2 | h2
        · exact Or.inl ⟨f, by omega, h2⟩
        · right; omega
  have stay : ofV L on (n + 1) = ofV L on n := by
    rcases key n with ⟨f', h1, h2⟩ | h1
    · rw [ofV_stay h2 (n + 1) (by omega), ofV_stay h2 n h1]
    · rcases ofV_more h o1 n with h2 | h2
      · exact h2
      · have : cntV n (ofV L on (n + 1)) ≤ (List.range n).length := List.countP_le_length
        simp at this; omega
  exact ofV_stay stay
structure Snd (L : List In) (on : Int → Bool) (K : Int → Vl) : Prop where
  snd : ∀ k, (K k).Kind ≠ 0 → ∃ f, ofV L on f k = K k
  unk : UnkO K
  way : ∀ k, byS L k = [] → K k = vWay false k
def Done (L : List In) (on : Int → Bool) (K : Int → Vl) : Prop := ∀ x k, byS L k = [x] → on k = true → (K k).Kind = 0 → (z1w L K x).Kind = 0
theorem Snd.lev {L : List In} {on : Int → Bool} {K : Int → Vl} (s : Snd L on K) (d : Done L on K) : ∀ f, Lev (ofV L on f) K := by
  have key : ∀ (f : Nat) (G : In → Vl), (∀ x, (G x).Kind ≠ 0 → z1w L K x = G x) → (∀ k, z4f L on G k = ofV L on f k) → Lev (ofV L on f) K := by
    intro f G hG hf k hk
    have hk2 := hk
    rw [← hf] at hk2
    unfold z4f at hk2
    split at hk2
    · rename_i hb
      rw [s.way k hb, ← hf]
      unfold z4f; rw [hb]
    · rename_i x hb
      cases ho : on k with
      | false => rw [ho] at hk2; exact absurd rfl hk2
      | true =>
        rw [ho] at hk2
        simp only [if_true] at hk2
        have hg := hG x hk2
        have hK : (K k).Kind ≠ 0 := fun h0 => hk2 (by rw [← hg]; exact d x k hb ho h0)
        obtain ⟨f', hf'⟩ := s.snd k hK
        rcases Nat.le_total f f' with hle | hle
        · rw [← hf']; exact ofV_le hle k hk
        · have := ofV_le (L := L) (on := on) hle k (by rw [hf']; exact hK)
          rw [this, hf']
    · exact absurd rfl hk2
  intro f
  induction f with
  | zero => exact key 0 (fun _ => vUnk) (fun x hx => absurd rfl hx) (fun _ => rfl)
  | succ f ih => exact key (f + 1) (fun x => z1w L (ofV L on f) x) (fun x hx => givesV_mono ih hx) (fun _ => rfl)
theorem Snd.eq {L : List In} {on : Int → Bool} {K : Int → Vl} {n : Nat} (s : Snd L on K) (d : Done L on K) (h : Among L n) (o1 : On1 on) : K = ofV L on n := by
  funext k
  by_cases e : (K k).Kind = 0
  · have : (ofV L on n k).Kind = 0 := Classical.byContradiction fun hn => hn (by rw [← s.lev d n k hn]; exact e)
    rw [s.unk k e, ofV_unk L on n k this]
  · obtain ⟨f, hf⟩ := s.snd k e
    rcases Nat.le_total f n with hle | hle
    · rw [← hf]; exact (ofV_le hle k (by rw [hf]; exact e)).symm
    · rw [← hf, ofV_end h o1 f hle]
def updV (K : Int → Vl) (d : Int) (v : Vl) : Int → Vl := fun k => if k = d then v else K k
theorem Snd.upd {L : List In} {on : Int → Bool} {K : Int → Vl} (s : Snd L on K) {x : In} {d : Int} (hb : byS L d = [x]) (ho : on d = true) (hv : (z1w L K x).Kind ≠ 0) : Snd L on (updV K d (z1w L K x)) := by
  refine ⟨fun k hk => ?_, fun k hk => ?_, fun k hk => ?_⟩
  · unfold updV at hk ⊢
    split
    · rename_i e
      subst e
      -- what it hangs on is known by some number
      have : ∃ f, (∀ j, (K j).Kind ≠ 0 → j ∈ (match slL x.Items with | [y] => [(y.N : Int)] | _ => []) ++ [x.Src] → ofV L on f j = K j) := by
        have one : ∀ l : List Int, ∃ f, ∀ j ∈ l, (K j).Kind ≠ 0 → ofV L on f j = K j := by
          intro l
          induction l with
          | nil => exact ⟨0, by simp⟩
          | cons j l ih =>
            obtain ⟨f1, h1⟩ := ih
            by_cases e : (K j).Kind = 0
            · exact ⟨f1, fun i hi hk => by
                rcases List.mem_cons.1 hi with rfl | hi
                · exact absurd e hk
                · exact h1 i hi hk⟩
            · obtain ⟨f2, h2⟩ := s.snd j e
              refine ⟨max f1 f2, fun i hi hk => ?_⟩
              rcases List.mem_cons.1 hi with rfl | hi
              · rw [← h2]; exact ofV_le (Nat.le_max_right _ _) i (by rw [h2]; exact hk)
              · rw [← h1 i hi hk]; exact ofV_le (Nat.le_max_left _ _) i (by rw [h1 i hi hk]; exact hk)
        obtain ⟨f, hf⟩ := one ((match slL x.Items with | [y] => [(y.N : Int)] | _ => []) ++ [x.Src])
        exact ⟨f, fun j hk hj => hf j hj hk⟩
      obtain ⟨f, hf⟩ := this
      refine ⟨f + 1, ?_⟩
      show z4f L on (fun x => z1w L (ofV L on f) x) k = _
      unfold z4f
      rw [hb, ho]
      simp only [if_true]
      -- the same by these
      unfold z1w at hv ⊢
      split
      · rfl
      · rename_i h1
        rw [if_neg h1] at hv
        split
        · rename_i h2
          rw [if_pos h2] at hv
          unfold itemV at hv ⊢
          split
          · rename_i y hy
            split
            · rename_i h3
              rw [hy] at hv
              simp only [h3, if_true] at hv
              exact hf _ hv (by rw [hy]; simp)
            · rfl
          · rfl
        · rename_i h2
          rw [if_neg h2] at hv
          split
          · rfl
          · rename_i h3
            rw [if_neg h3] at hv
            split
            · rename_i h4
              rw [if_pos h4] at hv
              by_cases h5 : (K x.Src).Kind = 2
              · rw [hf x.Src (by omega) (by simp)]
              · rw [if_neg (fun h => h5 h.1)] at hv; exact absurd rfl hv
            · rfl
    · rename_i e
      rw [if_neg e] at hk
      exact s.snd k hk
  · unfold updV at hk ⊢
    split
    · rename_i e; rw [if_pos e] at hk; exact absurd hk hv
    · rename_i e; rw [if_neg e] at hk; exact s.unk k hk
  · unfold updV
    split
    · rename_i e; subst e; rw [hb] at hk; cases hk
    · exact s.way k hk
def startV (L : List In) : Int → Vl := fun k => match byS L k with | [] => vWay false k | _ => vUnk
theorem Snd.start (L : List In) (on : Int → Bool) : Snd L on (startV L) := by
  refine ⟨fun k hk => ⟨0, ?_⟩, fun k hk => ?_, fun k hk => ?_⟩
  · cases hb : byS L k with
    | nil =>
      have h1 : startV L k = vWay false k := by unfold startV; rw [hb]
      show z4f L on (fun _ => vUnk) k = _
      unfold z4f
      rw [hb, h1]
    | cons x l =>
      have h1 : startV L k = vUnk := by unfold startV; rw [hb]
      rw [h1] at hk; exact absurd rfl hk
  · unfold startV at hk ⊢
    split
    · rename_i h; rw [h] at hk; cases hk
    · rfl
  · unfold startV; rw [hk]
end Go.Proofs.Ytnggcokgnblpgaa
end

section
/- What the program's functions of codes compute: the small ones. -/
set_option maxRecDepth 100000
set_option maxHeartbeats 1000000
namespace Go.Proofs.Ytnggcokgnblpgaa
open Go.Abs
theorem z1b (n m : Int) (h : z04) : z03 Try.prog 39 [.int .i64 n, .int .i64 m] h (fun v h2 => v = .bool (btw n m) ∧ h2 = h) := by
  apply code_between_wp
  unfold btw
  repeat' (first | (simp -dsimp -implicitDefEqProofs (disch := omega) only [↓rP, rQ, rO, rL, ↓reduceIte, Nat.reduceEqDiff, Nat.reduceAdd, Nat.reduceLeDiff, z01, z05]) | refine Cut.go ?_ | refine z0x (fun _ => ?_) (fun _ => ?_) | refine z13 (fun _ => ?_) (fun _ => ?_) | refine z0i (fun _ => ?_) (fun _ => ?_) | refine z16 (fun _ => ?_) (fun _ => ?_) | refine Split.intro (fun _ => ?_) (fun _ => ?_))
  all_goals simp [*]
  all_goals omega
theorem z1c (n m : Int) (h : z04) : z03 Try.prog 23 [.int .i64 n, .int .i64 m] h (fun v h2 => v = .bool (btw n m) ∧ h2 = h) := by
  apply padlockref09_in_wp
  unfold btw
  repeat' (first | (simp -dsimp -implicitDefEqProofs (disch := omega) only [↓rP, rQ, rO, rL, ↓reduceIte, Nat.reduceEqDiff, Nat.reduceAdd, Nat.reduceLeDiff, z01, z05]) | refine Cut.go ?_ | refine z0x (fun _ => ?_) (fun _ => ?_) | refine z13 (fun _ => ?_) (fun _ => ?_) | refine z0i (fun _ => ?_) (fun _ => ?_) | refine z16 (fun _ => ?_) (fun _ => ?_) | refine Split.intro (fun _ => ?_) (fun _ => ?_))
  all_goals simp [*]
  all_goals omega
theorem ixf_Local_does (o : Option (List z0f)) (hl : (slL o).length ≤ 1000000) (p : z0f → Bool) (f : AV) (h : z04)
    (hf : ∀ x ∈ slL o, ∀ R : AV → z04 → Prop, R (.bool (p x)) h → pCallF Try.prog f [.agg x.cells] h R) :
    z03 Try.prog 44 [slAV 3 z0f.cells o, f] h (fun v h2 => v = .int .i64 (posI p (slL o)) ∧ h2 = h) := by
  apply slices_IndexFunc_api_Local_api_Local_wp
  (repeat simp -dsimp -implicitDefEqProofs (disch := omega) only [↓rP, rQ, rO, rL, ↓reduceIte, Nat.reduceEqDiff, Nat.reduceAdd, Nat.reduceLeDiff, z01, z05])
  refine z1u z0v (by kernel_rfl) (fun m fr hh => ∃ k : Nat, k ≤ (slL o).length ∧ m = (slL o).length - k ∧ (∀ j x, j < k → (slL o)[j]? = some x → p x = false) ∧ hh = h ∧ fr = frOf [(0, slAV 3 z0f.cells o), (1, f), (7, .int .i64 (slL o).length), (8, .int .i64 k)]) (slL o).length ⟨0, by omega, by omega, fun j x hj => by omega, rfl, rfl⟩ ?_
  rintro m fr hh ⟨k, hk, rfl, hfa, rfl, rfl⟩
  apply z4v
  generalize hI : (fun (m : Nat) (fr : Fr) (hh : z04) => _) = I
  (repeat simp -dsimp -implicitDefEqProofs (disch := omega) only [↓rP, rQ, rO, rL, ↓reduceIte, Nat.reduceEqDiff, Nat.reduceAdd, Nat.reduceLeDiff, z01, z05])
  refine z0i (fun hkl => ?_) (fun hkl => ?_)
  · obtain ⟨x, hx⟩ : ∃ x, (slL o)[k]? = some x := ⟨_, List.getElem?_eq_getElem (by omega)⟩
    have hl3 : (z0f.cells x).length = 3 := rfl
    have hc : (List.take 3 (z0f.cells x)) = x.cells := rfl
    (repeat simp -dsimp -implicitDefEqProofs (disch := omega) only [↓rP, rQ, rO, rL, ↓reduceIte, Nat.reduceEqDiff, Nat.reduceAdd, Nat.reduceLeDiff, z01, z05, z0d hx, hl3, hc])
    refine hf x (List.mem_of_getElem? hx) _ ?_
    cases hp : p x with
    | true =>
      (repeat simp -dsimp -implicitDefEqProofs (disch := omega) only [↓rP, rQ, rO, rL, ↓reduceIte, Nat.reduceEqDiff, Nat.reduceAdd, Nat.reduceLeDiff, z01, z05])
      rw [posI_here hx hp hfa]
    | false =>
      (repeat simp -dsimp -implicitDefEqProofs (disch := omega) only [↓rP, rQ, rO, rL, ↓reduceIte, Nat.reduceEqDiff, Nat.reduceAdd, Nat.reduceLeDiff, z01, z05])
      rw [z0a, ← hI]
      refine ⟨_, ?_, k + 1, by omega, rfl, fun j y hj hy => ?_, rfl, rfl⟩
      · omega
      · by_cases e : j = k
        · subst e; rw [hx] at hy; cases hy; exact hp
        · exact hfa j y (by omega) hy
  · have hke : k = (slL o).length := by omega
    subst hke
    (repeat simp -dsimp -implicitDefEqProofs (disch := omega) only [↓rP, rQ, rO, rL, ↓reduceIte, Nat.reduceEqDiff, Nat.reduceAdd, Nat.reduceLeDiff, z01, z05])
    rw [posI_none hfa]
theorem ixf_Section_does (o : Option (List z0e)) (hl : (slL o).length ≤ 1000000) (p : z0e → Bool) (f : AV) (h : z04)
    (hf : ∀ x ∈ slL o, ∀ R : AV → z04 → Prop, R (.bool (p x)) h → pCallF Try.prog f [.agg x.cells] h R) :
    z03 Try.prog 55 [slAV 3 z0e.cells o, f] h (fun v h2 => v = .int .i64 (posI p (slL o)) ∧ h2 = h) := by
  apply z4r
  (repeat simp -dsimp -implicitDefEqProofs (disch := omega) only [↓rP, rQ, rO, rL, ↓reduceIte, Nat.reduceEqDiff, Nat.reduceAdd, Nat.reduceLeDiff, z01, z05])
  refine z1u z0v (by kernel_rfl) (fun m fr hh => ∃ k : Nat, k ≤ (slL o).length ∧ m = (slL o).length - k ∧ (∀ j x, j < k → (slL o)[j]? = some x → p x = false) ∧ hh = h ∧ fr = frOf [(0, slAV 3 z0e.cells o), (1, f), (7, .int .i64 (slL o).length), (8, .int .i64 k)]) (slL o).length ⟨0, by omega, by omega, fun j x hj => by omega, rfl, rfl⟩ ?_
  rintro m fr hh ⟨k, hk, rfl, hfa, rfl, rfl⟩
  apply z3v
  generalize hI : (fun (m : Nat) (fr : Fr) (hh : z04) => _) = I
  (repeat simp -dsimp -implicitDefEqProofs (disch := omega) only [↓rP, rQ, rO, rL, ↓reduceIte, Nat.reduceEqDiff, Nat.reduceAdd, Nat.reduceLeDiff, z01, z05])
  refine z0i (fun hkl => ?_) (fun hkl => ?_)
  · obtain ⟨x, hx⟩ : ∃ x, (slL o)[k]? = some x := ⟨_, List.getElem?_eq_getElem (by omega)⟩
    have hl3 : (z0e.cells x).length = 3 := rfl
    have hc : (List.take 3 (z0e.cells x)) = x.cells := rfl
    (repeat simp -dsimp -implicitDefEqProofs (disch := omega) only [↓rP, rQ, rO, rL, ↓reduceIte, Nat.reduceEqDiff, Nat.reduceAdd, Nat.reduceLeDiff, z01, z05, z0d hx, hl3, hc])
    refine hf x (List.mem_of_getElem? hx) _ ?_
    cases hp : p x with
    | true =>
      (repeat simp -dsimp -implicitDefEqProofs (disch := omega) only [↓rP, rQ, rO, rL, ↓reduceIte, Nat.reduceEqDiff, Nat.reduceAdd, Nat.reduceLeDiff, z01, z05])
      rw [posI_here hx hp hfa]
    | false =>
      (repeat simp -dsimp -implicitDefEqProofs (disch := omega) only [↓rP, rQ, rO, rL, ↓reduceIte, Nat.reduceEqDiff, Nat.reduceAdd, Nat.reduceLeDiff, z01, z05])
      rw [z0a, ← hI]
      refine ⟨_, ?_, k + 1, by omega, rfl, fun j y hj hy => ?_, rfl, rfl⟩
      · omega
      · by_cases e : j = k
        · subst e; rw [hx] at hy; cases hy; exact hp
        · exact hfa j y (by omega) hy
  · have hke : k = (slL o).length := by omega
    subst hke
    (repeat simp -dsimp -implicitDefEqProofs (disch := omega) only [↓rP, rQ, rO, rL, ↓reduceIte, Nat.reduceEqDiff, Nat.reduceAdd, Nat.reduceLeDiff, z01, z05])
    rw [posI_none hfa]
theorem z1y (c : Cd) (hc : c.ok) (hl : (slL c.Sections).length ≤ 1000000) (t a : Int) (h : z04) : z03 Try.prog 46 [.agg c.cells, .int .i64 t, .int .i64 a] h (fun v h2 => v = .int .i64 (insI c t a) ∧ h2 = h) := by
  apply code_Inside_wp
  unfold z0n.cells
  (repeat simp -dsimp -implicitDefEqProofs (disch := omega) only [↓rP, rQ, rO, rL, ↓reduceIte, Nat.reduceEqDiff, Nat.reduceAdd, Nat.reduceLeDiff, z01, z05])
  refine ixf_Section_does c.Sections hl (secP t a) _ h fun s hs R hR => ?_
  simp only [pCallF, List.nil_append, List.append_nil, List.singleton_append, List.cons_append]
  apply code_Inside_1_wp
  unfold z0e.cells
  unfold secP at hR
  repeat' (first | (simp -dsimp -implicitDefEqProofs (disch := omega) only [↓rP, rQ, rO, rL, ↓reduceIte, Nat.reduceEqDiff, Nat.reduceAdd, Nat.reduceLeDiff, z01, z05]) | refine Cut.go ?_ | refine z0x (fun _ => ?_) (fun _ => ?_) | refine z13 (fun _ => ?_) (fun _ => ?_) | refine z0i (fun _ => ?_) (fun _ => ?_) | refine z16 (fun _ => ?_) (fun _ => ?_) | refine Split.intro (fun _ => ?_) (fun _ => ?_))
  all_goals (refine Eq.mp (congrArg (fun b => R (AV.bool b) h) ?_) hR; simp [*]; try omega)
theorem code_local_does (c : Cd) (l : Lo) (h : z04) : z03 Try.prog 38 [.agg c.cells, .agg l.cells] h (fun v h2 => v = .bool (z1a c l) ∧ h2 = h) := by
  apply code_local_wp
  unfold z0n.cells z0f.cells z1a
  (repeat simp -dsimp -implicitDefEqProofs (disch := omega) only [↓rP, rQ, rO, rL, ↓reduceIte, Nat.reduceEqDiff, Nat.reduceAdd, Nat.reduceLeDiff, z01, z05])
  refine z0x (fun h4 => ?_) (fun h4 => ?_)
  · (repeat simp -dsimp -implicitDefEqProofs (disch := omega) only [↓rP, rQ, rO, rL, ↓reduceIte, Nat.reduceEqDiff, Nat.reduceAdd, Nat.reduceLeDiff, z01, z05])
    rw [if_pos h4]
    exact z1b _ _ _
  · rw [if_neg h4]
    repeat' (first | (simp -dsimp -implicitDefEqProofs (disch := omega) only [↓rP, rQ, rO, rL, ↓reduceIte, Nat.reduceEqDiff, Nat.reduceAdd, Nat.reduceLeDiff, z01, z05]) | refine Cut.go ?_ | refine z0x (fun _ => ?_) (fun _ => ?_) | refine z13 (fun _ => ?_) (fun _ => ?_) | refine z0i (fun _ => ?_) (fun _ => ?_) | refine z16 (fun _ => ?_) (fun _ => ?_) | refine Split.intro (fun _ => ?_) (fun _ => ?_))
    all_goals (simp [beqI, *]; try omega)
theorem code_cells_does (c : Cd) (o : Option (List Lo)) (hl : (slL o).length ≤ 1000000) (most : Int) (h : z04) : z03 Try.prog 26 [.agg c.cells, slAV 3 z0f.cells o, .int .i64 most] h (fun v h2 => v = .bool (cellsB c (slL o) most) ∧ h2 = h) := by
  apply code_cells_wp
  unfold cellsB
  (repeat simp -dsimp -implicitDefEqProofs (disch := omega) only [↓rP, rQ, rO, rL, ↓reduceIte, Nat.reduceEqDiff, Nat.reduceAdd, Nat.reduceLeDiff, z01, z05, ↓tyr])
  refine z16 (fun h4 => ?_) (fun h4 => ?_)
  · (repeat simp -dsimp -implicitDefEqProofs (disch := omega) only [↓rP, rQ, rO, rL, ↓reduceIte, Nat.reduceEqDiff, Nat.reduceAdd, Nat.reduceLeDiff, z01, z05, ↓tyr])
    apply z2n
    refine (ixf_Local_does o hl (fun x => x.Once || !z1a c x) _ h fun x hx R hR => ?_).mono ?_
    · simp only [pCallF, List.nil_append, List.append_nil, List.singleton_append, List.cons_append]
      apply code_cells_1_wp
      (repeat simp -dsimp -implicitDefEqProofs (disch := omega) only [↓rP, rQ, rO, rL, ↓reduceIte, Nat.reduceEqDiff, Nat.reduceAdd, Nat.reduceLeDiff, z01, z05, ↓tyr])
      refine Split.intro (fun e => ?_) (fun e => ?_)
      · rw [e, Bool.true_or] at hR
        (repeat simp -dsimp -implicitDefEqProofs (disch := omega) only [↓rP, rQ, rO, rL, ↓reduceIte, Nat.reduceEqDiff, Nat.reduceAdd, Nat.reduceLeDiff, z01, z05, ↓tyr, e])
        exact hR
      · rw [e, Bool.false_or] at hR
        (repeat simp -dsimp -implicitDefEqProofs (disch := omega) only [↓rP, rQ, rO, rL, ↓reduceIte, Nat.reduceEqDiff, Nat.reduceAdd, Nat.reduceLeDiff, z01, z05, ↓tyr, e])
        refine (code_local_does c x h).mono ?_
        rintro _ _ ⟨rfl, rfl⟩
        (repeat simp -dsimp -implicitDefEqProofs (disch := omega) only [↓rP, rQ, rO, rL, ↓reduceIte, Nat.reduceEqDiff, Nat.reduceAdd, Nat.reduceLeDiff, z01, z05, ↓tyr, e])
        exact hR
    · rintro _ _ ⟨rfl, rfl⟩
      have e1 : (slL o).any (fun x => x.Once || !z1a c x) = !(slL o).all (fun x => !x.Once && z1a c x) := by
        rw [List.not_all_eq_any_not]; congr 1; funext x; simp
      have e2 := posI_neg (p := fun x => x.Once || !z1a c x) (l := slL o)
      rw [e1] at e2
      have e3 : decide (0 ≤ posI (fun x => x.Once || !z1a c x) (slL o)) = !(slL o).all (fun x => !x.Once && z1a c x) := by
        cases hb : (slL o).all (fun x => !x.Once && z1a c x) with
        | true => rw [hb] at e2; simp at e2 ⊢; omega
        | false => rw [hb] at e2; simp at e2 ⊢; omega
      (repeat simp -dsimp -implicitDefEqProofs (disch := omega) only [↓rP, rQ, rO, rL, ↓reduceIte, Nat.reduceEqDiff, Nat.reduceAdd, Nat.reduceLeDiff, z01, z05, ↓tyr, e3])
      try simp [h4]
  · (repeat simp -dsimp -implicitDefEqProofs (disch := omega) only [↓rP, rQ, rO, rL, ↓reduceIte, Nat.reduceEqDiff, Nat.reduceAdd, Nat.reduceLeDiff, z01, z05, ↓tyr])
    all_goals (have : ¬ (((slL o).length : Int) ≤ most) := by omega)
    all_goals simp [this]
theorem ixI {α : Type} {sz : Nat} {enc : α → List AV} {o : Option (List α)} {n : Int} {x : α} (hx : getI (slL o) n = some x) (kk : IntKind) (K : AV → Prop) : z09 (.slice sz) (slAV sz enc o) (.int kk n) K = K (.iptr (enc x)) := by
  obtain ⟨k, rfl, hk⟩ := getI_nat hx
  exact z0d hk kk K
theorem code_same_does (a b : Lo) (h : z04) : z03 Try.prog 63 [.agg a.cells, .agg b.cells] h (fun v h2 => v = .bool (sameB a b) ∧ h2 = h) := by
  apply code_same_wp
  unfold sameB
  repeat' (first | (simp -dsimp -implicitDefEqProofs (disch := omega) only [↓rP, rQ, rO, rL, ↓reduceIte, Nat.reduceEqDiff, Nat.reduceAdd, Nat.reduceLeDiff, z01, z05, ↓tyr]) | refine Cut.go ?_ | refine z0x (fun _ => ?_) (fun _ => ?_) | refine z13 (fun _ => ?_) (fun _ => ?_) | refine z0i (fun _ => ?_) (fun _ => ?_) | refine z16 (fun _ => ?_) (fun _ => ?_) | refine Split.intro (fun _ => ?_) (fun _ => ?_))
  all_goals (simp [beqI, *]; try omega)
def slotV (b : Bd) (n : Int) : Lo := (getI (slL b.Slots) n).getD ⟨0, 0, false⟩
theorem code_maker_slot_does (m : z0g) (n : Int) (h : z04) : z03 Try.prog 47 [.agg m.cells, .int .i64 n] h (fun v h2 => v = .tup [.agg (slotV m.body n).cells, .bool (getI (slL m.body.Slots) n).isSome] ∧ Keeps h h2 (fun _ => False)) := by
  apply code_maker_slot_wp
  unfold slotV
  (repeat simp -dsimp -implicitDefEqProofs (disch := omega) only [↓rP, rQ, rO, rL, ↓reduceIte, Nat.reduceEqDiff, Nat.reduceAdd, Nat.reduceLeDiff, z01, z05, ↓tyr])
  refine (z1b _ _ _).mono ?_
  rintro _ _ ⟨rfl, rfl⟩
  (repeat simp -dsimp -implicitDefEqProofs (disch := omega) only [↓rP, rQ, rO, rL, ↓reduceIte, Nat.reduceEqDiff, Nat.reduceAdd, Nat.reduceLeDiff, z01, z05, ↓tyr])
  cases hx : getI (slL m.body.Slots) n with
  | none =>
    have hb := z2o.2 hx
    (repeat simp -dsimp -implicitDefEqProofs (disch := omega) only [↓rP, rQ, rO, rL, ↓reduceIte, Nat.reduceEqDiff, Nat.reduceAdd, Nat.reduceLeDiff, z01, z05, ↓tyr, hb])
    rw [z2d (by rfl) (by rfl)]
    (repeat simp -dsimp -implicitDefEqProofs (disch := omega) only [↓rP, rQ, rO, rL, ↓reduceIte, Nat.reduceEqDiff, Nat.reduceAdd, Nat.reduceLeDiff, z01, z05, ↓tyr])
    exact ⟨rfl, Keeps.one _ _⟩
  | some x =>
    have hb := z1l.2 ⟨x, hx⟩
    (repeat simp -dsimp -implicitDefEqProofs (disch := omega) only [↓rP, rQ, rO, rL, ↓reduceIte, Nat.reduceEqDiff, Nat.reduceAdd, Nat.reduceLeDiff, z01, z05, ↓tyr, hb, ixI hx])
    exact ⟨rfl, Keeps.one _ _⟩
theorem z1n (m : z0g) (n : Int) (want : Lo) (h : z04) : z03 Try.prog 58 [.agg m.cells, .int .i64 n, .agg want.cells] h (fun v h2 => v = .bool (isB m.body n want) ∧ Keeps h h2 (fun _ => False)) := by
  apply code_maker_is_wp
  unfold isB
  (repeat simp -dsimp -implicitDefEqProofs (disch := omega) only [↓rP, rQ, rO, rL, ↓reduceIte, Nat.reduceEqDiff, Nat.reduceAdd, Nat.reduceLeDiff, z01, z05, ↓tyr])
  refine (code_maker_slot_does m n _).mono ?_
  rintro _ _ ⟨rfl, _⟩
  (repeat simp -dsimp -implicitDefEqProofs (disch := omega) only [↓rP, rQ, rO, rL, ↓reduceIte, Nat.reduceEqDiff, Nat.reduceAdd, Nat.reduceLeDiff, z01, z05, ↓tyr])
  unfold slotV
  cases hx : getI (slL m.body.Slots) n with
  | none =>
    simp only [Option.getD_none, Option.isSome_none]
    (repeat simp -dsimp -implicitDefEqProofs (disch := omega) only [↓rP, rQ, rO, rL, ↓reduceIte, Nat.reduceEqDiff, Nat.reduceAdd, Nat.reduceLeDiff, z01, z05, ↓tyr])
    (repeat (first | assumption | with_reducible exact Keeps.refl _ _ | with_reducible refine Keeps.go ?_ (Keeps.one _ _) | with_reducible refine Keeps.go ?_ (by assumption)))
  | some x =>
    simp only [Option.getD_some, Option.isSome_some]
    (repeat simp -dsimp -implicitDefEqProofs (disch := omega) only [↓rP, rQ, rO, rL, ↓reduceIte, Nat.reduceEqDiff, Nat.reduceAdd, Nat.reduceLeDiff, z01, z05, ↓tyr])
    refine (code_same_does x want _).mono ?_
    rintro _ _ ⟨rfl, rfl⟩
    (repeat simp -dsimp -implicitDefEqProofs (disch := omega) only [↓rP, rQ, rO, rL, ↓reduceIte, Nat.reduceEqDiff, Nat.reduceAdd, Nat.reduceLeDiff, z01, z05, ↓tyr])
    (repeat (first | assumption | with_reducible exact Keeps.refl _ _ | with_reducible refine Keeps.go ?_ (Keeps.one _ _) | with_reducible refine Keeps.go ?_ (by assumption)))
theorem z1g (m : z0g) (hm : m.ok) (o : Option (List It)) (ho : okSl z0k.ok o) (h : z04) : z03 Try.prog 49 [.agg m.cells, slAV 3 z0k.cells o] h (fun v h2 => v = .bool (z2m m.body o) ∧ Keeps h h2 (fun _ => False)) := by
  apply code_maker_good_wp
  (repeat simp -dsimp -implicitDefEqProofs (disch := omega) only [↓rP, rQ, rO, rL, ↓reduceIte, Nat.reduceEqDiff, Nat.reduceAdd, Nat.reduceLeDiff, z01, z05, ↓tyr])
  have := hm.2.2.1.1
  unfold maxLen at this
  exact calc_Good_does _ (by unfold okI; omega) o ho h
def fieldV (c : Cd) (b : Bd) (x : In) : Lo := (fieldO c b x).getD ⟨0, 0, false⟩
theorem code_maker_field_does (m : z0g) (x : In) (h : z04) : z03 Try.prog 59 [.agg m.cells, .agg x.cells] h (fun v h2 => v = .tup [.agg (fieldV m.Code m.body x).cells, .bool (fieldO m.Code m.body x).isSome] ∧ Keeps h h2 (fun _ => False)) := by
  apply code_maker_field_wp
  (repeat simp -dsimp -implicitDefEqProofs (disch := omega) only [↓rP, rQ, rO, rL, ↓reduceIte, Nat.reduceEqDiff, Nat.reduceAdd, Nat.reduceLeDiff, z01, z05, ↓tyr])
  refine (z1b _ _ _).mono ?_
  rintro _ _ ⟨rfl, rfl⟩
  (repeat simp -dsimp -implicitDefEqProofs (disch := omega) only [↓rP, rQ, rO, rL, ↓reduceIte, Nat.reduceEqDiff, Nat.reduceAdd, Nat.reduceLeDiff, z01, z05, ↓tyr])
  cases hx : getI (slL m.Code.Records) x.Rec with
  | none =>
    have hb := z2o.2 hx
    have e : fieldO m.Code m.body x = none := by unfold fieldO; rw [hx]
    (repeat simp -dsimp -implicitDefEqProofs (disch := omega) only [↓rP, rQ, rO, rL, ↓reduceIte, Nat.reduceEqDiff, Nat.reduceAdd, Nat.reduceLeDiff, z01, z05, ↓tyr, hb])
    rw [z2d (by rfl) (by rfl)]
    (repeat simp -dsimp -implicitDefEqProofs (disch := omega) only [↓rP, rQ, rO, rL, ↓reduceIte, Nat.reduceEqDiff, Nat.reduceAdd, Nat.reduceLeDiff, z01, z05, ↓tyr])
    unfold fieldV
    rw [e]
    exact ⟨rfl, Keeps.one _ _⟩
  | some r =>
    have hb := z1l.2 ⟨r, hx⟩
    (repeat simp -dsimp -implicitDefEqProofs (disch := omega) only [↓rP, rQ, rO, rL, ↓reduceIte, Nat.reduceEqDiff, Nat.reduceAdd, Nat.reduceLeDiff, z01, z05, ↓tyr, hb, ixI hx])
    refine (z1b _ _ _).mono ?_
    rintro _ _ ⟨rfl, rfl⟩
    (repeat simp -dsimp -implicitDefEqProofs (disch := omega) only [↓rP, rQ, rO, rL, ↓reduceIte, Nat.reduceEqDiff, Nat.reduceAdd, Nat.reduceLeDiff, z01, z05, ↓tyr])
    cases hy : getI (slL r) x.N with
    | none =>
      have hc := z2o.2 hy
      have e : fieldO m.Code m.body x = none := by unfold fieldO; rw [hx]; simp only; rw [hy]
      (repeat simp -dsimp -implicitDefEqProofs (disch := omega) only [↓rP, rQ, rO, rL, ↓reduceIte, Nat.reduceEqDiff, Nat.reduceAdd, Nat.reduceLeDiff, z01, z05, ↓tyr, hb, hc, ixI hx])
      rw [z2d (by rfl) (by rfl)]
      (repeat simp -dsimp -implicitDefEqProofs (disch := omega) only [↓rP, rQ, rO, rL, ↓reduceIte, Nat.reduceEqDiff, Nat.reduceAdd, Nat.reduceLeDiff, z01, z05, ↓tyr])
      unfold fieldV
      rw [e]
      exact ⟨rfl, Keeps.one _ _⟩
    | some f =>
      have hc := z1l.2 ⟨f, hy⟩
      have e : fieldO m.Code m.body x = if isB m.body x.Src ⟨4, x.Rec, false⟩ then some f else none := by unfold fieldO; rw [hx]; simp only; rw [hy]
      (repeat simp -dsimp -implicitDefEqProofs (disch := omega) only [↓rP, rQ, rO, rL, ↓reduceIte, Nat.reduceEqDiff, Nat.reduceAdd, Nat.reduceLeDiff, z01, z05, ↓tyr, hb, hc, ixI hx])
      refine (z1n m x.Src ⟨4, x.Rec, false⟩ _).mono ?_
      rintro _ h1 ⟨rfl, k1⟩
      have ho : h1.objs h.next = some (.row 53 [.int .i64 0, .int .i64 0, .bool false]) := by
        rw [k1.objs _ (by simp) (by simp)]; simp
      have st : ∀ (l : Lo) (K : z04 → Prop), z0y 3 (.ptr h.next 0) (.agg l.cells) h1 K = K (h1.put h.next (.row 53 l.cells)) := fun l K => by
        simp [z0y, ho, z0f.cells]
      have st0 : ∀ (K : z04 → Prop), z0y 3 (.ptr h.next 0) (.agg [.int .i64 0, .int .i64 0, .bool false]) h1 K = K (h1.put h.next (.row 53 (z0f.cells ⟨0, 0, false⟩))) := st ⟨0, 0, false⟩
      have kp : ∀ l : Lo, Keeps h (h1.put h.next (.row 53 l.cells)) (fun _ => False) := fun l => by
        refine ⟨?_, fun i hi _ => ?_⟩
        · have := k1.next; simp at this ⊢; omega
        · simp only [z04.z3n]
          rw [if_neg (by omega), k1.objs i (by simp; omega) (by simp)]
          simp; omega
      have ld : ∀ (l : Lo) (K : AV → Prop), z02 (some 3) (.ptr h.next 0) (h1.put h.next (.row 53 l.cells)) K = K (.agg l.cells) := fun l K => by
        rw [z0o (ty := 53) (cs := l.cells) (by simp)]; exact l.call K
      unfold fieldV
      rw [e]
      cases hi : isB m.body x.Src ⟨4, x.Rec, false⟩ with
      | false =>
        (repeat simp -dsimp -implicitDefEqProofs (disch := omega) only [↓rP, rQ, rO, rL, ↓reduceIte, Nat.reduceEqDiff, Nat.reduceAdd, Nat.reduceLeDiff, z01, z05, ↓tyr, hb, hc, ixI hx, ixI hy, hi, st0, ld])
        exact ⟨rfl, kp _⟩
      | true =>
        (repeat simp -dsimp -implicitDefEqProofs (disch := omega) only [↓rP, rQ, rO, rL, ↓reduceIte, Nat.reduceEqDiff, Nat.reduceAdd, Nat.reduceLeDiff, z01, z05, ↓tyr, hb, hc, ixI hx, ixI hy, hi, st, ld])
        exact ⟨rfl, kp _⟩
end Go.Proofs.Ytnggcokgnblpgaa
end

section
/- What the program's functions of codes compute: plain instructions, sites. -/
set_option maxRecDepth 100000
set_option maxHeartbeats 1000000
namespace Go.Proofs.Ytnggcokgnblpgaa
open Go.Abs
theorem plain_1001000 (x : In) (h : z04) : z03 Try.prog 48 [.agg x.cells, .bool true, .bool false, .bool false, .bool true, .bool false, .bool false, .bool false] h (fun v h2 => v = .bool (z18 x true false false true false false false) ∧ h2 = h) := by
  apply z1p
  unfold z18
  repeat' (first | (simp -dsimp -implicitDefEqProofs (disch := omega) only [↓rP, rQ, rO, rL, ↓reduceIte, Nat.reduceEqDiff, Nat.reduceAdd, Nat.reduceLeDiff, z01, z05, ↓tyr]) | refine Cut.go ?_ | refine z0x (fun _ => ?_) (fun _ => ?_) | refine z13 (fun _ => ?_) (fun _ => ?_) | refine z0i (fun _ => ?_) (fun _ => ?_) | refine z16 (fun _ => ?_) (fun _ => ?_) | refine Split.intro (fun _ => ?_) (fun _ => ?_))
  all_goals (simp [beqI, *, -Int.natCast_eq_zero, -List.length_eq_zero_iff]; try omega)
theorem plain_1111000 (x : In) (h : z04) : z03 Try.prog 48 [.agg x.cells, .bool true, .bool true, .bool true, .bool true, .bool false, .bool false, .bool false] h (fun v h2 => v = .bool (z18 x true true true true false false false) ∧ h2 = h) := by
  apply z1p
  unfold z18
  repeat' (first | (simp -dsimp -implicitDefEqProofs (disch := omega) only [↓rP, rQ, rO, rL, ↓reduceIte, Nat.reduceEqDiff, Nat.reduceAdd, Nat.reduceLeDiff, z01, z05, ↓tyr]) | refine Cut.go ?_ | refine z0x (fun _ => ?_) (fun _ => ?_) | refine z13 (fun _ => ?_) (fun _ => ?_) | refine z0i (fun _ => ?_) (fun _ => ?_) | refine z16 (fun _ => ?_) (fun _ => ?_) | refine Split.intro (fun _ => ?_) (fun _ => ?_))
  all_goals (simp [beqI, *, -Int.natCast_eq_zero, -List.length_eq_zero_iff]; try omega)
theorem plain_1100001 (x : In) (h : z04) : z03 Try.prog 48 [.agg x.cells, .bool true, .bool true, .bool false, .bool false, .bool false, .bool false, .bool true] h (fun v h2 => v = .bool (z18 x true true false false false false true) ∧ h2 = h) := by
  apply z1p
  unfold z18
  repeat' (first | (simp -dsimp -implicitDefEqProofs (disch := omega) only [↓rP, rQ, rO, rL, ↓reduceIte, Nat.reduceEqDiff, Nat.reduceAdd, Nat.reduceLeDiff, z01, z05, ↓tyr]) | refine Cut.go ?_ | refine z0x (fun _ => ?_) (fun _ => ?_) | refine z13 (fun _ => ?_) (fun _ => ?_) | refine z0i (fun _ => ?_) (fun _ => ?_) | refine z16 (fun _ => ?_) (fun _ => ?_) | refine Split.intro (fun _ => ?_) (fun _ => ?_))
  all_goals (simp [beqI, *, -Int.natCast_eq_zero, -List.length_eq_zero_iff]; try omega)
theorem plain_1100000 (x : In) (h : z04) : z03 Try.prog 48 [.agg x.cells, .bool true, .bool true, .bool false, .bool false, .bool false, .bool false, .bool false] h (fun v h2 => v = .bool (z18 x true true false false false false false) ∧ h2 = h) := by
  apply z1p
  unfold z18
  repeat' (first | (simp -dsimp -implicitDefEqProofs (disch := omega) only [↓rP, rQ, rO, rL, ↓reduceIte, Nat.reduceEqDiff, Nat.reduceAdd, Nat.reduceLeDiff, z01, z05, ↓tyr]) | refine Cut.go ?_ | refine z0x (fun _ => ?_) (fun _ => ?_) | refine z13 (fun _ => ?_) (fun _ => ?_) | refine z0i (fun _ => ?_) (fun _ => ?_) | refine z16 (fun _ => ?_) (fun _ => ?_) | refine Split.intro (fun _ => ?_) (fun _ => ?_))
  all_goals (simp [beqI, *, -Int.natCast_eq_zero, -List.length_eq_zero_iff]; try omega)
theorem plain_1011000 (x : In) (h : z04) : z03 Try.prog 48 [.agg x.cells, .bool true, .bool false, .bool true, .bool true, .bool false, .bool false, .bool false] h (fun v h2 => v = .bool (z18 x true false true true false false false) ∧ h2 = h) := by
  apply z1p
  unfold z18
  repeat' (first | (simp -dsimp -implicitDefEqProofs (disch := omega) only [↓rP, rQ, rO, rL, ↓reduceIte, Nat.reduceEqDiff, Nat.reduceAdd, Nat.reduceLeDiff, z01, z05, ↓tyr]) | refine Cut.go ?_ | refine z0x (fun _ => ?_) (fun _ => ?_) | refine z13 (fun _ => ?_) (fun _ => ?_) | refine z0i (fun _ => ?_) (fun _ => ?_) | refine z16 (fun _ => ?_) (fun _ => ?_) | refine Split.intro (fun _ => ?_) (fun _ => ?_))
  all_goals (simp [beqI, *, -Int.natCast_eq_zero, -List.length_eq_zero_iff]; try omega)
theorem plain_1001010 (x : In) (h : z04) : z03 Try.prog 48 [.agg x.cells, .bool true, .bool false, .bool false, .bool true, .bool false, .bool true, .bool false] h (fun v h2 => v = .bool (z18 x true false false true false true false) ∧ h2 = h) := by
  apply z1p
  unfold z18
  repeat' (first | (simp -dsimp -implicitDefEqProofs (disch := omega) only [↓rP, rQ, rO, rL, ↓reduceIte, Nat.reduceEqDiff, Nat.reduceAdd, Nat.reduceLeDiff, z01, z05, ↓tyr]) | refine Cut.go ?_ | refine z0x (fun _ => ?_) (fun _ => ?_) | refine z13 (fun _ => ?_) (fun _ => ?_) | refine z0i (fun _ => ?_) (fun _ => ?_) | refine z16 (fun _ => ?_) (fun _ => ?_) | refine Split.intro (fun _ => ?_) (fun _ => ?_))
  all_goals (simp [beqI, *, -Int.natCast_eq_zero, -List.length_eq_zero_iff]; try omega)
theorem plain_0001010 (x : In) (h : z04) : z03 Try.prog 48 [.agg x.cells, .bool false, .bool false, .bool false, .bool true, .bool false, .bool true, .bool false] h (fun v h2 => v = .bool (z18 x false false false true false true false) ∧ h2 = h) := by
  apply z1p
  unfold z18
  repeat' (first | (simp -dsimp -implicitDefEqProofs (disch := omega) only [↓rP, rQ, rO, rL, ↓reduceIte, Nat.reduceEqDiff, Nat.reduceAdd, Nat.reduceLeDiff, z01, z05, ↓tyr]) | refine Cut.go ?_ | refine z0x (fun _ => ?_) (fun _ => ?_) | refine z13 (fun _ => ?_) (fun _ => ?_) | refine z0i (fun _ => ?_) (fun _ => ?_) | refine z16 (fun _ => ?_) (fun _ => ?_) | refine Split.intro (fun _ => ?_) (fun _ => ?_))
  all_goals (simp [beqI, *, -Int.natCast_eq_zero, -List.length_eq_zero_iff]; try omega)
theorem plain_0111010 (x : In) (h : z04) : z03 Try.prog 48 [.agg x.cells, .bool false, .bool true, .bool true, .bool true, .bool false, .bool true, .bool false] h (fun v h2 => v = .bool (z18 x false true true true false true false) ∧ h2 = h) := by
  apply z1p
  unfold z18
  repeat' (first | (simp -dsimp -implicitDefEqProofs (disch := omega) only [↓rP, rQ, rO, rL, ↓reduceIte, Nat.reduceEqDiff, Nat.reduceAdd, Nat.reduceLeDiff, z01, z05, ↓tyr]) | refine Cut.go ?_ | refine z0x (fun _ => ?_) (fun _ => ?_) | refine z13 (fun _ => ?_) (fun _ => ?_) | refine z0i (fun _ => ?_) (fun _ => ?_) | refine z16 (fun _ => ?_) (fun _ => ?_) | refine Split.intro (fun _ => ?_) (fun _ => ?_))
  all_goals (simp [beqI, *, -Int.natCast_eq_zero, -List.length_eq_zero_iff]; try omega)
theorem plain_0100011 (x : In) (h : z04) : z03 Try.prog 48 [.agg x.cells, .bool false, .bool true, .bool false, .bool false, .bool false, .bool true, .bool true] h (fun v h2 => v = .bool (z18 x false true false false false true true) ∧ h2 = h) := by
  apply z1p
  unfold z18
  repeat' (first | (simp -dsimp -implicitDefEqProofs (disch := omega) only [↓rP, rQ, rO, rL, ↓reduceIte, Nat.reduceEqDiff, Nat.reduceAdd, Nat.reduceLeDiff, z01, z05, ↓tyr]) | refine Cut.go ?_ | refine z0x (fun _ => ?_) (fun _ => ?_) | refine z13 (fun _ => ?_) (fun _ => ?_) | refine z0i (fun _ => ?_) (fun _ => ?_) | refine z16 (fun _ => ?_) (fun _ => ?_) | refine Split.intro (fun _ => ?_) (fun _ => ?_))
  all_goals (simp [beqI, *, -Int.natCast_eq_zero, -List.length_eq_zero_iff]; try omega)
theorem plain_0001000 (x : In) (h : z04) : z03 Try.prog 48 [.agg x.cells, .bool false, .bool false, .bool false, .bool true, .bool false, .bool false, .bool false] h (fun v h2 => v = .bool (z18 x false false false true false false false) ∧ h2 = h) := by
  apply z1p
  unfold z18
  repeat' (first | (simp -dsimp -implicitDefEqProofs (disch := omega) only [↓rP, rQ, rO, rL, ↓reduceIte, Nat.reduceEqDiff, Nat.reduceAdd, Nat.reduceLeDiff, z01, z05, ↓tyr]) | refine Cut.go ?_ | refine z0x (fun _ => ?_) (fun _ => ?_) | refine z13 (fun _ => ?_) (fun _ => ?_) | refine z0i (fun _ => ?_) (fun _ => ?_) | refine z16 (fun _ => ?_) (fun _ => ?_) | refine Split.intro (fun _ => ?_) (fun _ => ?_))
  all_goals (simp [beqI, *, -Int.natCast_eq_zero, -List.length_eq_zero_iff]; try omega)
theorem plain_1000010 (x : In) (h : z04) : z03 Try.prog 48 [.agg x.cells, .bool true, .bool false, .bool false, .bool false, .bool false, .bool true, .bool false] h (fun v h2 => v = .bool (z18 x true false false false false true false) ∧ h2 = h) := by
  apply z1p
  unfold z18
  repeat' (first | (simp -dsimp -implicitDefEqProofs (disch := omega) only [↓rP, rQ, rO, rL, ↓reduceIte, Nat.reduceEqDiff, Nat.reduceAdd, Nat.reduceLeDiff, z01, z05, ↓tyr]) | refine Cut.go ?_ | refine z0x (fun _ => ?_) (fun _ => ?_) | refine z13 (fun _ => ?_) (fun _ => ?_) | refine z0i (fun _ => ?_) (fun _ => ?_) | refine z16 (fun _ => ?_) (fun _ => ?_) | refine Split.intro (fun _ => ?_) (fun _ => ?_))
  all_goals (simp [beqI, *, -Int.natCast_eq_zero, -List.length_eq_zero_iff]; try omega)
theorem plain_0000010 (x : In) (h : z04) : z03 Try.prog 48 [.agg x.cells, .bool false, .bool false, .bool false, .bool false, .bool false, .bool true, .bool false] h (fun v h2 => v = .bool (z18 x false false false false false true false) ∧ h2 = h) := by
  apply z1p
  unfold z18
  repeat' (first | (simp -dsimp -implicitDefEqProofs (disch := omega) only [↓rP, rQ, rO, rL, ↓reduceIte, Nat.reduceEqDiff, Nat.reduceAdd, Nat.reduceLeDiff, z01, z05, ↓tyr]) | refine Cut.go ?_ | refine z0x (fun _ => ?_) (fun _ => ?_) | refine z13 (fun _ => ?_) (fun _ => ?_) | refine z0i (fun _ => ?_) (fun _ => ?_) | refine z16 (fun _ => ?_) (fun _ => ?_) | refine Split.intro (fun _ => ?_) (fun _ => ?_))
  all_goals (simp [beqI, *, -Int.natCast_eq_zero, -List.length_eq_zero_iff]; try omega)
theorem plain_0000100 (x : In) (h : z04) : z03 Try.prog 48 [.agg x.cells, .bool false, .bool false, .bool false, .bool false, .bool true, .bool false, .bool false] h (fun v h2 => v = .bool (z18 x false false false false true false false) ∧ h2 = h) := by
  apply z1p
  unfold z18
  repeat' (first | (simp -dsimp -implicitDefEqProofs (disch := omega) only [↓rP, rQ, rO, rL, ↓reduceIte, Nat.reduceEqDiff, Nat.reduceAdd, Nat.reduceLeDiff, z01, z05, ↓tyr]) | refine Cut.go ?_ | refine z0x (fun _ => ?_) (fun _ => ?_) | refine z13 (fun _ => ?_) (fun _ => ?_) | refine z0i (fun _ => ?_) (fun _ => ?_) | refine z16 (fun _ => ?_) (fun _ => ?_) | refine Split.intro (fun _ => ?_) (fun _ => ?_))
  all_goals (simp [beqI, *, -Int.natCast_eq_zero, -List.length_eq_zero_iff]; try omega)
theorem plain_0000110 (x : In) (h : z04) : z03 Try.prog 48 [.agg x.cells, .bool false, .bool false, .bool false, .bool false, .bool true, .bool true, .bool false] h (fun v h2 => v = .bool (z18 x false false false false true true false) ∧ h2 = h) := by
  apply z1p
  unfold z18
  repeat' (first | (simp -dsimp -implicitDefEqProofs (disch := omega) only [↓rP, rQ, rO, rL, ↓reduceIte, Nat.reduceEqDiff, Nat.reduceAdd, Nat.reduceLeDiff, z01, z05, ↓tyr]) | refine Cut.go ?_ | refine z0x (fun _ => ?_) (fun _ => ?_) | refine z13 (fun _ => ?_) (fun _ => ?_) | refine z0i (fun _ => ?_) (fun _ => ?_) | refine z16 (fun _ => ?_) (fun _ => ?_) | refine Split.intro (fun _ => ?_) (fun _ => ?_))
  all_goals (simp [beqI, *, -Int.natCast_eq_zero, -List.length_eq_zero_iff]; try omega)
theorem plain_0000000 (x : In) (h : z04) : z03 Try.prog 48 [.agg x.cells, .bool false, .bool false, .bool false, .bool false, .bool false, .bool false, .bool false] h (fun v h2 => v = .bool (z18 x false false false false false false false) ∧ h2 = h) := by
  apply z1p
  unfold z18
  repeat' (first | (simp -dsimp -implicitDefEqProofs (disch := omega) only [↓rP, rQ, rO, rL, ↓reduceIte, Nat.reduceEqDiff, Nat.reduceAdd, Nat.reduceLeDiff, z01, z05, ↓tyr]) | refine Cut.go ?_ | refine z0x (fun _ => ?_) (fun _ => ?_) | refine z13 (fun _ => ?_) (fun _ => ?_) | refine z0i (fun _ => ?_) (fun _ => ?_) | refine z16 (fun _ => ?_) (fun _ => ?_) | refine Split.intro (fun _ => ?_) (fun _ => ?_))
  all_goals (simp [beqI, *, -Int.natCast_eq_zero, -List.length_eq_zero_iff]; try omega)
theorem site_eq (a b : z15) : binA (CmpK.flat [LK.int, LK.int, LK.int]) BinOp.eql (.agg a.cells) (.agg b.cells) = some (.bool (decide (a = b))) := by
  obtain ⟨a1, a2, a3⟩ := a
  obtain ⟨b1, b2, b3⟩ := b
  simp only [binA, binCmp, z15.cells, z2c, eqn]
  simp only [if_true, Option.map_some, Option.bind_some]
  congr 2
  rw [Bool.eq_iff_iff]
  simp
theorem code_maker_site_does (m : z0g) (x : In) (a rec : Int) (h : z04) : z03 Try.prog 60 [.agg m.cells, .agg x.cells, .int .i64 a, .int .i64 rec] h (fun v h2 => v = .bool (siteB m.Code m.thread x a rec) ∧ h2 = h) := by
  apply code_maker_site_wp
  unfold siteB
  (repeat simp -dsimp -implicitDefEqProofs (disch := omega) only [↓rP, rQ, rO, rL, ↓reduceIte, Nat.reduceEqDiff, Nat.reduceAdd, Nat.reduceLeDiff, z01, z05, ↓tyr])
  refine (z1b _ _ _).mono ?_
  rintro _ _ ⟨rfl, rfl⟩
  (repeat simp -dsimp -implicitDefEqProofs (disch := omega) only [↓rP, rQ, rO, rL, ↓reduceIte, Nat.reduceEqDiff, Nat.reduceAdd, Nat.reduceLeDiff, z01, z05, ↓tyr])
  cases hx : getI (slL m.Code.Sites) x.N with
  | none =>
    have hb := z2o.2 hx
    (repeat simp -dsimp -implicitDefEqProofs (disch := omega) only [↓rP, rQ, rO, rL, ↓reduceIte, Nat.reduceEqDiff, Nat.reduceAdd, Nat.reduceLeDiff, z01, z05, ↓tyr, hb])
    simp
  | some r =>
    have hb := z1l.2 ⟨r, hx⟩
    have hbc : binA (CmpK.flat [LK.int, LK.int, LK.int]) BinOp.eql (.agg r.cells) (.agg [.int .i64 m.thread, .int .i64 a, .int .i64 rec]) = some (.bool (decide (r = ⟨m.thread, a, rec⟩))) := site_eq r ⟨m.thread, a, rec⟩
    (repeat simp -dsimp -implicitDefEqProofs (disch := omega) only [↓rP, rQ, rO, rL, ↓reduceIte, Nat.reduceEqDiff, Nat.reduceAdd, Nat.reduceLeDiff, z01, z05, ↓tyr, hb, ixI hx, hbc])
    simp
theorem z19 (op : Int) (h : z04) : z03 Try.prog 45 [.int .i64 op] h (fun v h2 => v = .bool (decide (2 ≤ op) && decide (op ≤ 9)) ∧ h2 = h) := by
  apply code_shared_wp
  repeat' (first | (simp -dsimp -implicitDefEqProofs (disch := omega) only [↓rP, rQ, rO, rL, ↓reduceIte, Nat.reduceEqDiff, Nat.reduceAdd, Nat.reduceLeDiff, z01, z05, ↓tyr]) | refine Cut.go ?_ | refine z0x (fun _ => ?_) (fun _ => ?_) | refine z13 (fun _ => ?_) (fun _ => ?_) | refine z0i (fun _ => ?_) (fun _ => ?_) | refine z16 (fun _ => ?_) (fun _ => ?_) | refine Split.intro (fun _ => ?_) (fun _ => ?_))
  all_goals (simp [beqI, *, -Int.natCast_eq_zero, -List.length_eq_zero_iff]; try omega)
theorem code_maker_goes_does (m : z0g) (hm : m.ok) (hs : (slL m.Code.Sections).length ≤ 1000000) (a to : Int) (h : z04) : z03 Try.prog 52 [.agg m.cells, .int .i64 a, .int .i64 to] h (fun v h2 => v = .bool (goesB m.Code m.thread m.body a to) ∧ h2 = h) := by
  apply code_maker_goes_wp
  unfold goesB
  (repeat simp -dsimp -implicitDefEqProofs (disch := omega) only [↓rP, rQ, rO, rL, ↓reduceIte, Nat.reduceEqDiff, Nat.reduceAdd, Nat.reduceLeDiff, z01, z05, ↓tyr])
  refine (z1b _ _ _).mono ?_
  rintro _ _ ⟨rfl, rfl⟩
  (repeat simp -dsimp -implicitDefEqProofs (disch := omega) only [↓rP, rQ, rO, rL, ↓reduceIte, Nat.reduceEqDiff, Nat.reduceAdd, Nat.reduceLeDiff, z01, z05, ↓tyr])
  refine Split.intro (fun e => ?_) (fun e => ?_)
  · (repeat simp -dsimp -implicitDefEqProofs (disch := omega) only [↓rP, rQ, rO, rL, ↓reduceIte, Nat.reduceEqDiff, Nat.reduceAdd, Nat.reduceLeDiff, z01, z05, ↓tyr])
    have e2 : btw to (slL m.body.Code).length = false := by simpa using e
    simp [e2]
  · have e2 : btw to (slL m.body.Code).length = true := by simpa using e
    (repeat simp -dsimp -implicitDefEqProofs (disch := omega) only [↓rP, rQ, rO, rL, ↓reduceIte, Nat.reduceEqDiff, Nat.reduceAdd, Nat.reduceLeDiff, z01, z05, ↓tyr])
    refine (z1y m.Code hm.1 hs m.thread a _).mono ?_
    rintro _ _ ⟨rfl, rfl⟩
    (repeat simp -dsimp -implicitDefEqProofs (disch := omega) only [↓rP, rQ, rO, rL, ↓reduceIte, Nat.reduceEqDiff, Nat.reduceAdd, Nat.reduceLeDiff, z01, z05, ↓tyr])
    refine (z1y m.Code hm.1 hs m.thread to _).mono ?_
    rintro _ _ ⟨rfl, rfl⟩
    (repeat simp -dsimp -implicitDefEqProofs (disch := omega) only [↓rP, rQ, rO, rL, ↓reduceIte, Nat.reduceEqDiff, Nat.reduceAdd, Nat.reduceLeDiff, z01, z05, ↓tyr])
    simp [e2, beqI]
theorem code_maker_border_does (m : z0g) (x : In) (a : Int) (h : z04) : z03 Try.prog 53 [.agg m.cells, .agg x.cells, .int .i64 a] h (fun v h2 => v = .bool (z3q m.Code m.thread x a) ∧ Keeps h h2 (fun _ => False)) := by
  apply code_maker_border_wp
  unfold z3q
  (repeat simp -dsimp -implicitDefEqProofs (disch := omega) only [↓rP, rQ, rO, rL, ↓reduceIte, Nat.reduceEqDiff, Nat.reduceAdd, Nat.reduceLeDiff, z01, z05, ↓tyr])
  refine (plain_0001000 x _).mono ?_
  rintro _ _ ⟨rfl, rfl⟩
  (repeat simp -dsimp -implicitDefEqProofs (disch := omega) only [↓rP, rQ, rO, rL, ↓reduceIte, Nat.reduceEqDiff, Nat.reduceAdd, Nat.reduceLeDiff, z01, z05, ↓tyr])
  cases hp : z18 x false false false true false false false with
  | false =>
    (repeat simp -dsimp -implicitDefEqProofs (disch := omega) only [↓rP, rQ, rO, rL, ↓reduceIte, Nat.reduceEqDiff, Nat.reduceAdd, Nat.reduceLeDiff, z01, z05, ↓tyr])
    (first | (refine And.intro (by simp) ?_; (repeat (first | assumption | with_reducible exact Keeps.refl _ _ | with_reducible refine Keeps.go ?_ (Keeps.one _ _) | with_reducible refine Keeps.go ?_ (by assumption)))) | (repeat (first | assumption | with_reducible exact Keeps.refl _ _ | with_reducible refine Keeps.go ?_ (Keeps.one _ _) | with_reducible refine Keeps.go ?_ (by assumption))))
  | true =>
    (repeat simp -dsimp -implicitDefEqProofs (disch := omega) only [↓rP, rQ, rO, rL, ↓reduceIte, Nat.reduceEqDiff, Nat.reduceAdd, Nat.reduceLeDiff, z01, z05, ↓tyr])
    refine (z1b _ _ _).mono ?_
    rintro _ _ ⟨rfl, rfl⟩
    (repeat simp -dsimp -implicitDefEqProofs (disch := omega) only [↓rP, rQ, rO, rL, ↓reduceIte, Nat.reduceEqDiff, Nat.reduceAdd, Nat.reduceLeDiff, z01, z05, ↓tyr])
    cases hx : getI (slL m.Code.Sections) x.N with
    | none =>
      have hb := z2o.2 hx
      (repeat simp -dsimp -implicitDefEqProofs (disch := omega) only [↓rP, rQ, rO, rL, ↓reduceIte, Nat.reduceEqDiff, Nat.reduceAdd, Nat.reduceLeDiff, z01, z05, ↓tyr, hb])
      (first | (refine And.intro (by simp) ?_; (repeat (first | assumption | with_reducible exact Keeps.refl _ _ | with_reducible refine Keeps.go ?_ (Keeps.one _ _) | with_reducible refine Keeps.go ?_ (by assumption)))) | (repeat (first | assumption | with_reducible exact Keeps.refl _ _ | with_reducible refine Keeps.go ?_ (Keeps.one _ _) | with_reducible refine Keeps.go ?_ (by assumption))))
    | some s =>
      have hb := z1l.2 ⟨s, hx⟩
      repeat' (first | (simp -dsimp -implicitDefEqProofs (disch := omega) only [↓rP, rQ, rO, rL, ↓reduceIte, Nat.reduceEqDiff, Nat.reduceAdd, Nat.reduceLeDiff, z01, z05, ↓tyr, hb, ixI hx]) | refine Cut.go ?_ | refine z0x (fun _ => ?_) (fun _ => ?_) | refine z13 (fun _ => ?_) (fun _ => ?_) | refine z0i (fun _ => ?_) (fun _ => ?_) | refine z16 (fun _ => ?_) (fun _ => ?_) | refine Split.intro (fun _ => ?_) (fun _ => ?_))
      all_goals refine ⟨by simp [beqI, *], ?_⟩
      all_goals (repeat (first | assumption | with_reducible exact Keeps.refl _ _ | with_reducible refine Keeps.go ?_ (Keeps.one _ _) | with_reducible refine Keeps.go ?_ (by assumption)))
end Go.Proofs.Ytnggcokgnblpgaa
end

section
/- What the program's functions of codes compute: what loads and what stores. -/
set_option maxRecDepth 100000
set_option maxHeartbeats 1000000
namespace Go.Proofs.Ytnggcokgnblpgaa
open Go.Abs
theorem z2e (m : z0g) (hm : m.ok) (x : In) (hx : x.ok) (a : Int) (h : z04) : z03 Try.prog 50 [.agg m.cells, .agg x.cells, .int .i64 a] h (fun v h2 => v = .bool (z3t m.Code m.thread m.body x a) ∧ Keeps h h2 (fun _ => False)) := by
  obtain ⟨-, -, -, -, -, -, hit, hix⟩ := hx
  apply code_maker_loads_wp
  unfold z3t
  (repeat simp -dsimp -implicitDefEqProofs (disch := omega) only [↓rP, rQ, rO, rL, ↓reduceIte, Nat.reduceEqDiff, Nat.reduceAdd, Nat.reduceLeDiff, z01, z05, ↓tyr])
  refine z0x (fun h2 => ?_) (fun h2 => ?_)
  · rw [if_pos h2]
    (repeat simp -dsimp -implicitDefEqProofs (disch := omega) only [↓rP, rQ, rO, rL, ↓reduceIte, Nat.reduceEqDiff, Nat.reduceAdd, Nat.reduceLeDiff, z01, z05, ↓tyr])
    refine (plain_1001000 x _).mono ?_
    rintro _ _ ⟨rfl, rfl⟩
    (repeat simp -dsimp -implicitDefEqProofs (disch := omega) only [↓rP, rQ, rO, rL, ↓reduceIte, Nat.reduceEqDiff, Nat.reduceAdd, Nat.reduceLeDiff, z01, z05, ↓tyr])
    rcases hp : z18 x true false false true false false false with _ | _
    · (repeat simp -dsimp -implicitDefEqProofs (disch := omega) only [↓rP, rQ, rO, rL, ↓reduceIte, Nat.reduceEqDiff, Nat.reduceAdd, Nat.reduceLeDiff, z01, z05, ↓tyr])
      try simp only [Bool.false_and, Bool.and_false, Bool.and_true, Bool.true_and, true_and]
      (repeat (first | assumption | with_reducible exact Keeps.refl _ _ | with_reducible refine Keeps.go ?_ (Keeps.one _ _) | with_reducible refine Keeps.go ?_ (by assumption)))
    (repeat simp -dsimp -implicitDefEqProofs (disch := omega) only [↓rP, rQ, rO, rL, ↓reduceIte, Nat.reduceEqDiff, Nat.reduceAdd, Nat.reduceLeDiff, z01, z05, ↓tyr])
    refine (z1b _ _ _).mono ?_
    rintro _ _ ⟨rfl, rfl⟩
    (repeat simp -dsimp -implicitDefEqProofs (disch := omega) only [↓rP, rQ, rO, rL, ↓reduceIte, Nat.reduceEqDiff, Nat.reduceAdd, Nat.reduceLeDiff, z01, z05, ↓tyr])
    cases hg : getI (slL m.Code.Globals) x.N with
    | none =>
      have hb := z2o.2 hg
      (repeat simp -dsimp -implicitDefEqProofs (disch := omega) only [↓rP, rQ, rO, rL, ↓reduceIte, Nat.reduceEqDiff, Nat.reduceAdd, Nat.reduceLeDiff, z01, z05, ↓tyr, hb])
      (first | (refine And.intro (by simp) ?_; (repeat (first | assumption | with_reducible exact Keeps.refl _ _ | with_reducible refine Keeps.go ?_ (Keeps.one _ _) | with_reducible refine Keeps.go ?_ (by assumption)))) | (repeat (first | assumption | with_reducible exact Keeps.refl _ _ | with_reducible refine Keeps.go ?_ (Keeps.one _ _) | with_reducible refine Keeps.go ?_ (by assumption))))
    | some g =>
      have hb := z1l.2 ⟨g, hg⟩
      (repeat simp -dsimp -implicitDefEqProofs (disch := omega) only [↓rP, rQ, rO, rL, ↓reduceIte, Nat.reduceEqDiff, Nat.reduceAdd, Nat.reduceLeDiff, z01, z05, ↓tyr, hb, ixI hg])
      refine (z1n m x.Dst g _).mono ?_
      rintro _ _ ⟨rfl, _⟩
      (repeat simp -dsimp -implicitDefEqProofs (disch := omega) only [↓rP, rQ, rO, rL, ↓reduceIte, Nat.reduceEqDiff, Nat.reduceAdd, Nat.reduceLeDiff, z01, z05, ↓tyr, hb])
      (first | (refine And.intro (by simp) ?_; (repeat (first | assumption | with_reducible exact Keeps.refl _ _ | with_reducible refine Keeps.go ?_ (Keeps.one _ _) | with_reducible refine Keeps.go ?_ (by assumption)))) | (repeat (first | assumption | with_reducible exact Keeps.refl _ _ | with_reducible refine Keeps.go ?_ (Keeps.one _ _) | with_reducible refine Keeps.go ?_ (by assumption))))
  rw [if_neg h2]
  (repeat simp -dsimp -implicitDefEqProofs (disch := omega) only [↓rP, rQ, rO, rL, ↓reduceIte, Nat.reduceEqDiff, Nat.reduceAdd, Nat.reduceLeDiff, z01, z05, ↓tyr])
  refine z0x (fun h3 => ?_) (fun h3 => ?_)
  · rw [if_pos h3]
    (repeat simp -dsimp -implicitDefEqProofs (disch := omega) only [↓rP, rQ, rO, rL, ↓reduceIte, Nat.reduceEqDiff, Nat.reduceAdd, Nat.reduceLeDiff, z01, z05, ↓tyr])
    refine (code_maker_field_does m x _).mono ?_
    rintro _ _ ⟨rfl, _⟩
    (repeat simp -dsimp -implicitDefEqProofs (disch := omega) only [↓rP, rQ, rO, rL, ↓reduceIte, Nat.reduceEqDiff, Nat.reduceAdd, Nat.reduceLeDiff, z01, z05, ↓tyr])
    refine (plain_1111000 x _).mono ?_
    rintro _ _ ⟨rfl, rfl⟩
    (repeat simp -dsimp -implicitDefEqProofs (disch := omega) only [↓rP, rQ, rO, rL, ↓reduceIte, Nat.reduceEqDiff, Nat.reduceAdd, Nat.reduceLeDiff, z01, z05, ↓tyr])
    rcases hp : z18 x true true true true false false false with _ | _
    · (repeat simp -dsimp -implicitDefEqProofs (disch := omega) only [↓rP, rQ, rO, rL, ↓reduceIte, Nat.reduceEqDiff, Nat.reduceAdd, Nat.reduceLeDiff, z01, z05, ↓tyr])
      try simp only [Bool.false_and, Bool.and_false, Bool.and_true, Bool.true_and, true_and]
      (repeat (first | assumption | with_reducible exact Keeps.refl _ _ | with_reducible refine Keeps.go ?_ (Keeps.one _ _) | with_reducible refine Keeps.go ?_ (by assumption)))
    (repeat simp -dsimp -implicitDefEqProofs (disch := omega) only [↓rP, rQ, rO, rL, ↓reduceIte, Nat.reduceEqDiff, Nat.reduceAdd, Nat.reduceLeDiff, z01, z05, ↓tyr])
    unfold fieldV
    cases hf : fieldO m.Code m.body x with
    | none =>
      simp only [Option.isSome_none, Option.getD_none]
      (repeat simp -dsimp -implicitDefEqProofs (disch := omega) only [↓rP, rQ, rO, rL, ↓reduceIte, Nat.reduceEqDiff, Nat.reduceAdd, Nat.reduceLeDiff, z01, z05, ↓tyr])
      (first | (refine And.intro (by simp) ?_; (repeat (first | assumption | with_reducible exact Keeps.refl _ _ | with_reducible refine Keeps.go ?_ (Keeps.one _ _) | with_reducible refine Keeps.go ?_ (by assumption)))) | (repeat (first | assumption | with_reducible exact Keeps.refl _ _ | with_reducible refine Keeps.go ?_ (Keeps.one _ _) | with_reducible refine Keeps.go ?_ (by assumption))))
    | some f =>
      simp only [Option.isSome_some, Option.getD_some]
      (repeat simp -dsimp -implicitDefEqProofs (disch := omega) only [↓rP, rQ, rO, rL, ↓reduceIte, Nat.reduceEqDiff, Nat.reduceAdd, Nat.reduceLeDiff, z01, z05, ↓tyr])
      refine (z1n m x.Dst f _).mono ?_
      rintro _ _ ⟨rfl, _⟩
      (repeat simp -dsimp -implicitDefEqProofs (disch := omega) only [↓rP, rQ, rO, rL, ↓reduceIte, Nat.reduceEqDiff, Nat.reduceAdd, Nat.reduceLeDiff, z01, z05, ↓tyr])
      (first | (refine And.intro (by simp) ?_; (repeat (first | assumption | with_reducible exact Keeps.refl _ _ | with_reducible refine Keeps.go ?_ (Keeps.one _ _) | with_reducible refine Keeps.go ?_ (by assumption)))) | (repeat (first | assumption | with_reducible exact Keeps.refl _ _ | with_reducible refine Keeps.go ?_ (Keeps.one _ _) | with_reducible refine Keeps.go ?_ (by assumption))))
  rw [if_neg h3]
  (repeat simp -dsimp -implicitDefEqProofs (disch := omega) only [↓rP, rQ, rO, rL, ↓reduceIte, Nat.reduceEqDiff, Nat.reduceAdd, Nat.reduceLeDiff, z01, z05, ↓tyr])
  refine z0x (fun h4 => ?_) (fun h4 => ?_)
  · rw [if_pos h4]
    (repeat simp -dsimp -implicitDefEqProofs (disch := omega) only [↓rP, rQ, rO, rL, ↓reduceIte, Nat.reduceEqDiff, Nat.reduceAdd, Nat.reduceLeDiff, z01, z05, ↓tyr])
    refine (plain_1100001 x _).mono ?_
    rintro _ _ ⟨rfl, rfl⟩
    (repeat simp -dsimp -implicitDefEqProofs (disch := omega) only [↓rP, rQ, rO, rL, ↓reduceIte, Nat.reduceEqDiff, Nat.reduceAdd, Nat.reduceLeDiff, z01, z05, ↓tyr])
    rcases hp : z18 x true true false false false false true with _ | _
    · (repeat simp -dsimp -implicitDefEqProofs (disch := omega) only [↓rP, rQ, rO, rL, ↓reduceIte, Nat.reduceEqDiff, Nat.reduceAdd, Nat.reduceLeDiff, z01, z05, ↓tyr])
      try simp only [Bool.false_and, Bool.and_false, Bool.and_true, Bool.true_and, true_and]
      (repeat (first | assumption | with_reducible exact Keeps.refl _ _ | with_reducible refine Keeps.go ?_ (Keeps.one _ _) | with_reducible refine Keeps.go ?_ (by assumption)))
    (repeat simp -dsimp -implicitDefEqProofs (disch := omega) only [↓rP, rQ, rO, rL, ↓reduceIte, Nat.reduceEqDiff, Nat.reduceAdd, Nat.reduceLeDiff, z01, z05, ↓tyr])
    refine (z1n m x.Dst ⟨1, 0, false⟩ _).mono ?_
    rintro _ _ ⟨rfl, _⟩
    rcases hd : isB m.body x.Dst ⟨1, 0, false⟩ with _ | _
    · (repeat simp -dsimp -implicitDefEqProofs (disch := omega) only [↓rP, rQ, rO, rL, ↓reduceIte, Nat.reduceEqDiff, Nat.reduceAdd, Nat.reduceLeDiff, z01, z05, ↓tyr])
      try simp only [Bool.false_and, Bool.and_false, Bool.and_true, Bool.true_and, true_and]
      (repeat (first | assumption | with_reducible exact Keeps.refl _ _ | with_reducible refine Keeps.go ?_ (Keeps.one _ _) | with_reducible refine Keeps.go ?_ (by assumption)))
    (repeat simp -dsimp -implicitDefEqProofs (disch := omega) only [↓rP, rQ, rO, rL, ↓reduceIte, Nat.reduceEqDiff, Nat.reduceAdd, Nat.reduceLeDiff, z01, z05, ↓tyr])
    refine (z1n m x.Src ⟨3, 0, false⟩ _).mono ?_
    rintro _ _ ⟨rfl, _⟩
    rcases hs : isB m.body x.Src ⟨3, 0, false⟩ with _ | _
    · (repeat simp -dsimp -implicitDefEqProofs (disch := omega) only [↓rP, rQ, rO, rL, ↓reduceIte, Nat.reduceEqDiff, Nat.reduceAdd, Nat.reduceLeDiff, z01, z05, ↓tyr])
      try simp only [Bool.false_and, Bool.and_false, Bool.and_true, Bool.true_and, true_and]
      (repeat (first | assumption | with_reducible exact Keeps.refl _ _ | with_reducible refine Keeps.go ?_ (Keeps.one _ _) | with_reducible refine Keeps.go ?_ (by assumption)))
    (repeat simp -dsimp -implicitDefEqProofs (disch := omega) only [↓rP, rQ, rO, rL, ↓reduceIte, Nat.reduceEqDiff, Nat.reduceAdd, Nat.reduceLeDiff, z01, z05, ↓tyr])
    refine (z1g m hm x.Index hix _).mono ?_
    rintro _ _ ⟨rfl, _⟩
    (repeat simp -dsimp -implicitDefEqProofs (disch := omega) only [↓rP, rQ, rO, rL, ↓reduceIte, Nat.reduceEqDiff, Nat.reduceAdd, Nat.reduceLeDiff, z01, z05, ↓tyr])
    (first | (refine And.intro (by simp) ?_; (repeat (first | assumption | with_reducible exact Keeps.refl _ _ | with_reducible refine Keeps.go ?_ (Keeps.one _ _) | with_reducible refine Keeps.go ?_ (by assumption)))) | (repeat (first | assumption | with_reducible exact Keeps.refl _ _ | with_reducible refine Keeps.go ?_ (Keeps.one _ _) | with_reducible refine Keeps.go ?_ (by assumption))))
  rw [if_neg h4]
  (repeat simp -dsimp -implicitDefEqProofs (disch := omega) only [↓rP, rQ, rO, rL, ↓reduceIte, Nat.reduceEqDiff, Nat.reduceAdd, Nat.reduceLeDiff, z01, z05, ↓tyr])
  refine z0x (fun h5 => ?_) (fun h5 => ?_)
  · rw [if_pos h5]
    (repeat simp -dsimp -implicitDefEqProofs (disch := omega) only [↓rP, rQ, rO, rL, ↓reduceIte, Nat.reduceEqDiff, Nat.reduceAdd, Nat.reduceLeDiff, z01, z05, ↓tyr])
    refine (plain_1100000 x _).mono ?_
    rintro _ _ ⟨rfl, rfl⟩
    (repeat simp -dsimp -implicitDefEqProofs (disch := omega) only [↓rP, rQ, rO, rL, ↓reduceIte, Nat.reduceEqDiff, Nat.reduceAdd, Nat.reduceLeDiff, z01, z05, ↓tyr])
    rcases hp : z18 x true true false false false false false with _ | _
    · (repeat simp -dsimp -implicitDefEqProofs (disch := omega) only [↓rP, rQ, rO, rL, ↓reduceIte, Nat.reduceEqDiff, Nat.reduceAdd, Nat.reduceLeDiff, z01, z05, ↓tyr])
      try simp only [Bool.false_and, Bool.and_false, Bool.and_true, Bool.true_and, true_and]
      (repeat (first | assumption | with_reducible exact Keeps.refl _ _ | with_reducible refine Keeps.go ?_ (Keeps.one _ _) | with_reducible refine Keeps.go ?_ (by assumption)))
    (repeat simp -dsimp -implicitDefEqProofs (disch := omega) only [↓rP, rQ, rO, rL, ↓reduceIte, Nat.reduceEqDiff, Nat.reduceAdd, Nat.reduceLeDiff, z01, z05, ↓tyr])
    refine (z1n m x.Dst ⟨1, 0, false⟩ _).mono ?_
    rintro _ _ ⟨rfl, _⟩
    rcases hd : isB m.body x.Dst ⟨1, 0, false⟩ with _ | _
    · (repeat simp -dsimp -implicitDefEqProofs (disch := omega) only [↓rP, rQ, rO, rL, ↓reduceIte, Nat.reduceEqDiff, Nat.reduceAdd, Nat.reduceLeDiff, z01, z05, ↓tyr])
      try simp only [Bool.false_and, Bool.and_false, Bool.and_true, Bool.true_and, true_and]
      (repeat (first | assumption | with_reducible exact Keeps.refl _ _ | with_reducible refine Keeps.go ?_ (Keeps.one _ _) | with_reducible refine Keeps.go ?_ (by assumption)))
    (repeat simp -dsimp -implicitDefEqProofs (disch := omega) only [↓rP, rQ, rO, rL, ↓reduceIte, Nat.reduceEqDiff, Nat.reduceAdd, Nat.reduceLeDiff, z01, z05, ↓tyr])
    refine (z1n m x.Src ⟨3, 0, false⟩ _).mono ?_
    rintro _ _ ⟨rfl, _⟩
    (repeat simp -dsimp -implicitDefEqProofs (disch := omega) only [↓rP, rQ, rO, rL, ↓reduceIte, Nat.reduceEqDiff, Nat.reduceAdd, Nat.reduceLeDiff, z01, z05, ↓tyr])
    (first | (refine And.intro (by simp) ?_; (repeat (first | assumption | with_reducible exact Keeps.refl _ _ | with_reducible refine Keeps.go ?_ (Keeps.one _ _) | with_reducible refine Keeps.go ?_ (by assumption)))) | (repeat (first | assumption | with_reducible exact Keeps.refl _ _ | with_reducible refine Keeps.go ?_ (Keeps.one _ _) | with_reducible refine Keeps.go ?_ (by assumption))))
  rw [if_neg h5]
  (repeat simp -dsimp -implicitDefEqProofs (disch := omega) only [↓rP, rQ, rO, rL, ↓reduceIte, Nat.reduceEqDiff, Nat.reduceAdd, Nat.reduceLeDiff, z01, z05, ↓tyr])
  refine z0x (fun h6 => ?_) (fun h6 => ?_)
  · rw [if_pos h6]
    (repeat simp -dsimp -implicitDefEqProofs (disch := omega) only [↓rP, rQ, rO, rL, ↓reduceIte, Nat.reduceEqDiff, Nat.reduceAdd, Nat.reduceLeDiff, z01, z05, ↓tyr])
    refine (plain_1011000 x _).mono ?_
    rintro _ _ ⟨rfl, rfl⟩
    (repeat simp -dsimp -implicitDefEqProofs (disch := omega) only [↓rP, rQ, rO, rL, ↓reduceIte, Nat.reduceEqDiff, Nat.reduceAdd, Nat.reduceLeDiff, z01, z05, ↓tyr])
    rcases hp : z18 x true false true true false false false with _ | _
    · (repeat simp -dsimp -implicitDefEqProofs (disch := omega) only [↓rP, rQ, rO, rL, ↓reduceIte, Nat.reduceEqDiff, Nat.reduceAdd, Nat.reduceLeDiff, z01, z05, ↓tyr])
      try simp only [Bool.false_and, Bool.and_false, Bool.and_true, Bool.true_and, true_and]
      (repeat (first | assumption | with_reducible exact Keeps.refl _ _ | with_reducible refine Keeps.go ?_ (Keeps.one _ _) | with_reducible refine Keeps.go ?_ (by assumption)))
    (repeat simp -dsimp -implicitDefEqProofs (disch := omega) only [↓rP, rQ, rO, rL, ↓reduceIte, Nat.reduceEqDiff, Nat.reduceAdd, Nat.reduceLeDiff, z01, z05, ↓tyr])
    refine (z1b _ _ _).mono ?_
    rintro _ _ ⟨rfl, rfl⟩
    (repeat simp -dsimp -implicitDefEqProofs (disch := omega) only [↓rP, rQ, rO, rL, ↓reduceIte, Nat.reduceEqDiff, Nat.reduceAdd, Nat.reduceLeDiff, z01, z05, ↓tyr])
    rcases hd : btw x.Rec (slL m.Code.Records).length with _ | _
    · (repeat simp -dsimp -implicitDefEqProofs (disch := omega) only [↓rP, rQ, rO, rL, ↓reduceIte, Nat.reduceEqDiff, Nat.reduceAdd, Nat.reduceLeDiff, z01, z05, ↓tyr])
      try simp only [Bool.false_and, Bool.and_false, Bool.and_true, Bool.true_and, true_and]
      (repeat (first | assumption | with_reducible exact Keeps.refl _ _ | with_reducible refine Keeps.go ?_ (Keeps.one _ _) | with_reducible refine Keeps.go ?_ (by assumption)))
    (repeat simp -dsimp -implicitDefEqProofs (disch := omega) only [↓rP, rQ, rO, rL, ↓reduceIte, Nat.reduceEqDiff, Nat.reduceAdd, Nat.reduceLeDiff, z01, z05, ↓tyr])
    refine (z1n m x.Dst ⟨4, x.Rec, false⟩ _).mono ?_
    rintro _ _ ⟨rfl, _⟩
    rcases he : isB m.body x.Dst ⟨4, x.Rec, false⟩ with _ | _
    · (repeat simp -dsimp -implicitDefEqProofs (disch := omega) only [↓rP, rQ, rO, rL, ↓reduceIte, Nat.reduceEqDiff, Nat.reduceAdd, Nat.reduceLeDiff, z01, z05, ↓tyr])
      try simp only [Bool.false_and, Bool.and_false, Bool.and_true, Bool.true_and, true_and]
      (repeat (first | assumption | with_reducible exact Keeps.refl _ _ | with_reducible refine Keeps.go ?_ (Keeps.one _ _) | with_reducible refine Keeps.go ?_ (by assumption)))
    (repeat simp -dsimp -implicitDefEqProofs (disch := omega) only [↓rP, rQ, rO, rL, ↓reduceIte, Nat.reduceEqDiff, Nat.reduceAdd, Nat.reduceLeDiff, z01, z05, ↓tyr])
    refine (code_maker_site_does m x a x.Rec _).mono ?_
    rintro _ _ ⟨rfl, rfl⟩
    (repeat simp -dsimp -implicitDefEqProofs (disch := omega) only [↓rP, rQ, rO, rL, ↓reduceIte, Nat.reduceEqDiff, Nat.reduceAdd, Nat.reduceLeDiff, z01, z05, ↓tyr])
    (first | (refine And.intro (by simp) ?_; (repeat (first | assumption | with_reducible exact Keeps.refl _ _ | with_reducible refine Keeps.go ?_ (Keeps.one _ _) | with_reducible refine Keeps.go ?_ (by assumption)))) | (repeat (first | assumption | with_reducible exact Keeps.refl _ _ | with_reducible refine Keeps.go ?_ (Keeps.one _ _) | with_reducible refine Keeps.go ?_ (by assumption))))
  rw [if_neg h6]
  (repeat simp -dsimp -implicitDefEqProofs (disch := omega) only [↓rP, rQ, rO, rL, ↓reduceIte, Nat.reduceEqDiff, Nat.reduceAdd, Nat.reduceLeDiff, z01, z05, ↓tyr])
  refine (plain_1001010 x _).mono ?_
  rintro _ _ ⟨rfl, rfl⟩
  (repeat simp -dsimp -implicitDefEqProofs (disch := omega) only [↓rP, rQ, rO, rL, ↓reduceIte, Nat.reduceEqDiff, Nat.reduceAdd, Nat.reduceLeDiff, z01, z05, ↓tyr])
  rcases hp : z18 x true false false true false true false with _ | _
  · (repeat simp -dsimp -implicitDefEqProofs (disch := omega) only [↓rP, rQ, rO, rL, ↓reduceIte, Nat.reduceEqDiff, Nat.reduceAdd, Nat.reduceLeDiff, z01, z05, ↓tyr])
    try simp only [Bool.false_and, Bool.and_false, Bool.and_true, Bool.true_and, true_and]
    (repeat (first | assumption | with_reducible exact Keeps.refl _ _ | with_reducible refine Keeps.go ?_ (Keeps.one _ _) | with_reducible refine Keeps.go ?_ (by assumption)))
  (repeat simp -dsimp -implicitDefEqProofs (disch := omega) only [↓rP, rQ, rO, rL, ↓reduceIte, Nat.reduceEqDiff, Nat.reduceAdd, Nat.reduceLeDiff, z01, z05, ↓tyr])
  refine (z1n m x.Dst ⟨3, 0, false⟩ _).mono ?_
  rintro _ _ ⟨rfl, _⟩
  rcases he : isB m.body x.Dst ⟨3, 0, false⟩ with _ | _
  · (repeat simp -dsimp -implicitDefEqProofs (disch := omega) only [↓rP, rQ, rO, rL, ↓reduceIte, Nat.reduceEqDiff, Nat.reduceAdd, Nat.reduceLeDiff, z01, z05, ↓tyr])
    try simp only [Bool.false_and, Bool.and_false, Bool.and_true, Bool.true_and, true_and]
    (repeat (first | assumption | with_reducible exact Keeps.refl _ _ | with_reducible refine Keeps.go ?_ (Keeps.one _ _) | with_reducible refine Keeps.go ?_ (by assumption)))
  (repeat simp -dsimp -implicitDefEqProofs (disch := omega) only [↓rP, rQ, rO, rL, ↓reduceIte, Nat.reduceEqDiff, Nat.reduceAdd, Nat.reduceLeDiff, z01, z05, ↓tyr])
  refine (z1g m hm x.Items hit _).mono ?_
  rintro _ _ ⟨rfl, _⟩
  (repeat simp -dsimp -implicitDefEqProofs (disch := omega) only [↓rP, rQ, rO, rL, ↓reduceIte, Nat.reduceEqDiff, Nat.reduceAdd, Nat.reduceLeDiff, z01, z05, ↓tyr])
  rcases hg : z2m m.body x.Items with _ | _
  · (repeat simp -dsimp -implicitDefEqProofs (disch := omega) only [↓rP, rQ, rO, rL, ↓reduceIte, Nat.reduceEqDiff, Nat.reduceAdd, Nat.reduceLeDiff, z01, z05, ↓tyr])
    try simp only [Bool.false_and, Bool.and_false, Bool.and_true, Bool.true_and, true_and]
    (repeat (first | assumption | with_reducible exact Keeps.refl _ _ | with_reducible refine Keeps.go ?_ (Keeps.one _ _) | with_reducible refine Keeps.go ?_ (by assumption)))
  (repeat simp -dsimp -implicitDefEqProofs (disch := omega) only [↓rP, rQ, rO, rL, ↓reduceIte, Nat.reduceEqDiff, Nat.reduceAdd, Nat.reduceLeDiff, z01, z05, ↓tyr])
  refine (code_maker_site_does m x a (-1) _).mono ?_
  rintro _ _ ⟨rfl, rfl⟩
  (repeat simp -dsimp -implicitDefEqProofs (disch := omega) only [↓rP, rQ, rO, rL, ↓reduceIte, Nat.reduceEqDiff, Nat.reduceAdd, Nat.reduceLeDiff, z01, z05, ↓tyr])
  (first | (refine And.intro (by simp) ?_; (repeat (first | assumption | with_reducible exact Keeps.refl _ _ | with_reducible refine Keeps.go ?_ (Keeps.one _ _) | with_reducible refine Keeps.go ?_ (by assumption)))) | (repeat (first | assumption | with_reducible exact Keeps.refl _ _ | with_reducible refine Keeps.go ?_ (Keeps.one _ _) | with_reducible refine Keeps.go ?_ (by assumption))))
theorem z4z (m : z0g) (hm : m.ok) (x : In) (hx : x.ok) (h : z04) : z03 Try.prog 51 [.agg m.cells, .agg x.cells] h (fun v h2 => v = .bool (z3f m.Code m.body x) ∧ Keeps h h2 (fun _ => False)) := by
  obtain ⟨-, -, -, -, -, -, hit, hix⟩ := hx
  apply code_maker_stores_wp
  unfold z3f
  (repeat simp -dsimp -implicitDefEqProofs (disch := omega) only [↓rP, rQ, rO, rL, ↓reduceIte, Nat.reduceEqDiff, Nat.reduceAdd, Nat.reduceLeDiff, z01, z05, ↓tyr])
  refine z0x (fun h2 => ?_) (fun h2 => ?_)
  · rw [if_pos h2]
    (repeat simp -dsimp -implicitDefEqProofs (disch := omega) only [↓rP, rQ, rO, rL, ↓reduceIte, Nat.reduceEqDiff, Nat.reduceAdd, Nat.reduceLeDiff, z01, z05, ↓tyr])
    refine (plain_0001010 x _).mono ?_
    rintro _ _ ⟨rfl, rfl⟩
    (repeat simp -dsimp -implicitDefEqProofs (disch := omega) only [↓rP, rQ, rO, rL, ↓reduceIte, Nat.reduceEqDiff, Nat.reduceAdd, Nat.reduceLeDiff, z01, z05, ↓tyr])
    rcases hp : z18 x false false false true false true false with _ | _
    · (repeat simp -dsimp -implicitDefEqProofs (disch := omega) only [↓rP, rQ, rO, rL, ↓reduceIte, Nat.reduceEqDiff, Nat.reduceAdd, Nat.reduceLeDiff, z01, z05, ↓tyr])
      try simp only [Bool.false_and, Bool.and_false, Bool.and_true, Bool.true_and, true_and]
      (repeat (first | assumption | with_reducible exact Keeps.refl _ _ | with_reducible refine Keeps.go ?_ (Keeps.one _ _) | with_reducible refine Keeps.go ?_ (by assumption)))
    (repeat simp -dsimp -implicitDefEqProofs (disch := omega) only [↓rP, rQ, rO, rL, ↓reduceIte, Nat.reduceEqDiff, Nat.reduceAdd, Nat.reduceLeDiff, z01, z05, ↓tyr])
    refine (z1b _ _ _).mono ?_
    rintro _ _ ⟨rfl, rfl⟩
    (repeat simp -dsimp -implicitDefEqProofs (disch := omega) only [↓rP, rQ, rO, rL, ↓reduceIte, Nat.reduceEqDiff, Nat.reduceAdd, Nat.reduceLeDiff, z01, z05, ↓tyr])
    rcases hd : btw x.N (slL m.Code.Globals).length with _ | _
    · (repeat simp -dsimp -implicitDefEqProofs (disch := omega) only [↓rP, rQ, rO, rL, ↓reduceIte, Nat.reduceEqDiff, Nat.reduceAdd, Nat.reduceLeDiff, z01, z05, ↓tyr])
      try simp only [Bool.false_and, Bool.and_false, Bool.and_true, Bool.true_and, true_and]
      (repeat (first | assumption | with_reducible exact Keeps.refl _ _ | with_reducible refine Keeps.go ?_ (Keeps.one _ _) | with_reducible refine Keeps.go ?_ (by assumption)))
    (repeat simp -dsimp -implicitDefEqProofs (disch := omega) only [↓rP, rQ, rO, rL, ↓reduceIte, Nat.reduceEqDiff, Nat.reduceAdd, Nat.reduceLeDiff, z01, z05, ↓tyr])
    refine (z1g m hm x.Items hit _).mono ?_
    rintro _ _ ⟨rfl, _⟩
    (repeat simp -dsimp -implicitDefEqProofs (disch := omega) only [↓rP, rQ, rO, rL, ↓reduceIte, Nat.reduceEqDiff, Nat.reduceAdd, Nat.reduceLeDiff, z01, z05, ↓tyr])
    (first | (refine And.intro (by simp) ?_; (repeat (first | assumption | with_reducible exact Keeps.refl _ _ | with_reducible refine Keeps.go ?_ (Keeps.one _ _) | with_reducible refine Keeps.go ?_ (by assumption)))) | (repeat (first | assumption | with_reducible exact Keeps.refl _ _ | with_reducible refine Keeps.go ?_ (Keeps.one _ _) | with_reducible refine Keeps.go ?_ (by assumption))))
  rw [if_neg h2]
  (repeat simp -dsimp -implicitDefEqProofs (disch := omega) only [↓rP, rQ, rO, rL, ↓reduceIte, Nat.reduceEqDiff, Nat.reduceAdd, Nat.reduceLeDiff, z01, z05, ↓tyr])
  refine z0x (fun h3 => ?_) (fun h3 => ?_)
  · rw [if_pos h3]
    (repeat simp -dsimp -implicitDefEqProofs (disch := omega) only [↓rP, rQ, rO, rL, ↓reduceIte, Nat.reduceEqDiff, Nat.reduceAdd, Nat.reduceLeDiff, z01, z05, ↓tyr])
    refine (code_maker_field_does m x _).mono ?_
    rintro _ _ ⟨rfl, _⟩
    (repeat simp -dsimp -implicitDefEqProofs (disch := omega) only [↓rP, rQ, rO, rL, ↓reduceIte, Nat.reduceEqDiff, Nat.reduceAdd, Nat.reduceLeDiff, z01, z05, ↓tyr])
    refine (plain_0111010 x _).mono ?_
    rintro _ _ ⟨rfl, rfl⟩
    (repeat simp -dsimp -implicitDefEqProofs (disch := omega) only [↓rP, rQ, rO, rL, ↓reduceIte, Nat.reduceEqDiff, Nat.reduceAdd, Nat.reduceLeDiff, z01, z05, ↓tyr])
    rcases hp : z18 x false true true true false true false with _ | _
    · (repeat simp -dsimp -implicitDefEqProofs (disch := omega) only [↓rP, rQ, rO, rL, ↓reduceIte, Nat.reduceEqDiff, Nat.reduceAdd, Nat.reduceLeDiff, z01, z05, ↓tyr])
      try simp only [Bool.false_and, Bool.and_false, Bool.and_true, Bool.true_and, true_and]
      (repeat (first | assumption | with_reducible exact Keeps.refl _ _ | with_reducible refine Keeps.go ?_ (Keeps.one _ _) | with_reducible refine Keeps.go ?_ (by assumption)))
    (repeat simp -dsimp -implicitDefEqProofs (disch := omega) only [↓rP, rQ, rO, rL, ↓reduceIte, Nat.reduceEqDiff, Nat.reduceAdd, Nat.reduceLeDiff, z01, z05, ↓tyr])
    rcases hf : (fieldO m.Code m.body x).isSome with _ | _
    · (repeat simp -dsimp -implicitDefEqProofs (disch := omega) only [↓rP, rQ, rO, rL, ↓reduceIte, Nat.reduceEqDiff, Nat.reduceAdd, Nat.reduceLeDiff, z01, z05, ↓tyr])
      try simp only [Bool.false_and, Bool.and_false, Bool.and_true, Bool.true_and, true_and]
      (repeat (first | assumption | with_reducible exact Keeps.refl _ _ | with_reducible refine Keeps.go ?_ (Keeps.one _ _) | with_reducible refine Keeps.go ?_ (by assumption)))
    (repeat simp -dsimp -implicitDefEqProofs (disch := omega) only [↓rP, rQ, rO, rL, ↓reduceIte, Nat.reduceEqDiff, Nat.reduceAdd, Nat.reduceLeDiff, z01, z05, ↓tyr])
    refine (z1g m hm x.Items hit _).mono ?_
    rintro _ _ ⟨rfl, _⟩
    (repeat simp -dsimp -implicitDefEqProofs (disch := omega) only [↓rP, rQ, rO, rL, ↓reduceIte, Nat.reduceEqDiff, Nat.reduceAdd, Nat.reduceLeDiff, z01, z05, ↓tyr])
    (first | (refine And.intro (by simp) ?_; (repeat (first | assumption | with_reducible exact Keeps.refl _ _ | with_reducible refine Keeps.go ?_ (Keeps.one _ _) | with_reducible refine Keeps.go ?_ (by assumption)))) | (repeat (first | assumption | with_reducible exact Keeps.refl _ _ | with_reducible refine Keeps.go ?_ (Keeps.one _ _) | with_reducible refine Keeps.go ?_ (by assumption))))
  rw [if_neg h3]
  (repeat simp -dsimp -implicitDefEqProofs (disch := omega) only [↓rP, rQ, rO, rL, ↓reduceIte, Nat.reduceEqDiff, Nat.reduceAdd, Nat.reduceLeDiff, z01, z05, ↓tyr])
  refine (plain_0100011 x _).mono ?_
  rintro _ _ ⟨rfl, rfl⟩
  (repeat simp -dsimp -implicitDefEqProofs (disch := omega) only [↓rP, rQ, rO, rL, ↓reduceIte, Nat.reduceEqDiff, Nat.reduceAdd, Nat.reduceLeDiff, z01, z05, ↓tyr])
  rcases hp : z18 x false true false false false true true with _ | _
  · (repeat simp -dsimp -implicitDefEqProofs (disch := omega) only [↓rP, rQ, rO, rL, ↓reduceIte, Nat.reduceEqDiff, Nat.reduceAdd, Nat.reduceLeDiff, z01, z05, ↓tyr])
    try simp only [Bool.false_and, Bool.and_false, Bool.and_true, Bool.true_and, true_and]
    (repeat (first | assumption | with_reducible exact Keeps.refl _ _ | with_reducible refine Keeps.go ?_ (Keeps.one _ _) | with_reducible refine Keeps.go ?_ (by assumption)))
  (repeat simp -dsimp -implicitDefEqProofs (disch := omega) only [↓rP, rQ, rO, rL, ↓reduceIte, Nat.reduceEqDiff, Nat.reduceAdd, Nat.reduceLeDiff, z01, z05, ↓tyr])
  refine (z1n m x.Src ⟨3, 0, false⟩ _).mono ?_
  rintro _ _ ⟨rfl, _⟩
  rcases he : isB m.body x.Src ⟨3, 0, false⟩ with _ | _
  · (repeat simp -dsimp -implicitDefEqProofs (disch := omega) only [↓rP, rQ, rO, rL, ↓reduceIte, Nat.reduceEqDiff, Nat.reduceAdd, Nat.reduceLeDiff, z01, z05, ↓tyr])
    try simp only [Bool.false_and, Bool.and_false, Bool.and_true, Bool.true_and, true_and]
    (repeat (first | assumption | with_reducible exact Keeps.refl _ _ | with_reducible refine Keeps.go ?_ (Keeps.one _ _) | with_reducible refine Keeps.go ?_ (by assumption)))
  (repeat simp -dsimp -implicitDefEqProofs (disch := omega) only [↓rP, rQ, rO, rL, ↓reduceIte, Nat.reduceEqDiff, Nat.reduceAdd, Nat.reduceLeDiff, z01, z05, ↓tyr])
  refine (z1g m hm x.Items hit _).mono ?_
  rintro _ _ ⟨rfl, _⟩
  (repeat simp -dsimp -implicitDefEqProofs (disch := omega) only [↓rP, rQ, rO, rL, ↓reduceIte, Nat.reduceEqDiff, Nat.reduceAdd, Nat.reduceLeDiff, z01, z05, ↓tyr])
  rcases hg : z2m m.body x.Items with _ | _
  · (repeat simp -dsimp -implicitDefEqProofs (disch := omega) only [↓rP, rQ, rO, rL, ↓reduceIte, Nat.reduceEqDiff, Nat.reduceAdd, Nat.reduceLeDiff, z01, z05, ↓tyr])
    try simp only [Bool.false_and, Bool.and_false, Bool.and_true, Bool.true_and, true_and]
    (repeat (first | assumption | with_reducible exact Keeps.refl _ _ | with_reducible refine Keeps.go ?_ (Keeps.one _ _) | with_reducible refine Keeps.go ?_ (by assumption)))
  (repeat simp -dsimp -implicitDefEqProofs (disch := omega) only [↓rP, rQ, rO, rL, ↓reduceIte, Nat.reduceEqDiff, Nat.reduceAdd, Nat.reduceLeDiff, z01, z05, ↓tyr])
  refine (z1g m hm x.Index hix _).mono ?_
  rintro _ _ ⟨rfl, _⟩
  (repeat simp -dsimp -implicitDefEqProofs (disch := omega) only [↓rP, rQ, rO, rL, ↓reduceIte, Nat.reduceEqDiff, Nat.reduceAdd, Nat.reduceLeDiff, z01, z05, ↓tyr])
  (first | (refine And.intro (by simp) ?_; (repeat (first | assumption | with_reducible exact Keeps.refl _ _ | with_reducible refine Keeps.go ?_ (Keeps.one _ _) | with_reducible refine Keeps.go ?_ (by assumption)))) | (repeat (first | assumption | with_reducible exact Keeps.refl _ _ | with_reducible refine Keeps.go ?_ (Keeps.one _ _) | with_reducible refine Keeps.go ?_ (by assumption))))
end Go.Proofs.Ytnggcokgnblpgaa
end

section
/- What the program's functions of codes compute: instructions, threads. -/
set_option maxRecDepth 100000
set_option maxHeartbeats 1000000
namespace Go.Proofs.Ytnggcokgnblpgaa
open Go.Abs
theorem op18 (op : Int) : op = 1 ∨ (op = 2 ∨ op = 3 ∨ op = 4 ∨ op = 10 ∨ op = 8 ∨ op = 9) ∨ (op = 5 ∨ op = 6 ∨ op = 7) ∨ (op = 11 ∨ op = 12) ∨ op = 13 ∨ op = 14 ∨ (op = 15 ∨ op = 16) ∨ op = 17 ∨ (op < 1 ∨ 17 < op) := by omega
noncomputable def kindB (c : Cd) (t : Int) (b : Bd) (x : In) (a : Int) : Bool :=
  if x.Op = 1 then z18 x true false false false false true false && btw x.Dst (slL b.Slots).length && z2m b x.Items
  else if x.Op = 2 ∨ x.Op = 3 ∨ x.Op = 4 ∨ x.Op = 10 ∨ x.Op = 8 ∨ x.Op = 9 then z3t c t b x a
  else if x.Op = 5 ∨ x.Op = 6 ∨ x.Op = 7 then z3f c b x
  else if x.Op = 11 ∨ x.Op = 12 then z18 x false false false false false true false && z2m b x.Items
  else if x.Op = 13 then z18 x false false false false true false false && goesB c t b a x.To
  else if x.Op = 14 then z18 x false false false false true true false && goesB c t b a x.To && z2m b x.Items
  else if x.Op = 15 ∨ x.Op = 16 then z3q c t x a
  else decide (x.Op = 17) && z18 x false false false false false false false && decide (a = (slL b.Code).length - 1)
theorem instrB_eq (c : Cd) (t : Int) (b : Bd) (x : In) (a : Int) : z1m c t b x a = (!((decide (2 ≤ x.Op) && decide (x.Op ≤ 9)) && decide (insI c t a < 0)) && kindB c t b x a) := by
  unfold z1m
  by_cases h : (2 ≤ x.Op ∧ x.Op ≤ 9) ∧ insI c t a < 0
  · rw [if_pos h]; simp [h]
  · rw [if_neg h]
    have : ((decide (2 ≤ x.Op) && decide (x.Op ≤ 9)) && decide (insI c t a < 0)) = false := by
      rw [Bool.eq_false_iff]; simpa [and_assoc] using h
    rw [this]; rfl
theorem code_maker_instr_does (m : z0g) (hm : m.ok) (hs : (slL m.Code.Sections).length ≤ 1000000) (hcl : (slL m.body.Code).length ≤ 1000000) (x : In) (hx : x.ok) (a : Int) (h : z04) : z03 Try.prog 41 [.agg m.cells, .agg x.cells, .int .i64 a] h (fun v h2 => v = .bool (z1m m.Code m.thread m.body x a) ∧ Keeps h h2 (fun _ => False)) := by
  have hit := hx.2.2.2.2.2.2.1
  rw [instrB_eq]
  apply code_maker_instr_wp
  rcases op18 x.Op with hop | hop | hop | hop | hop | hop | hop | hop | hop
  · -- reckoned
    have hk : (!((decide (2 ≤ x.Op) && decide (x.Op ≤ 9)) && decide (insI m.Code m.thread a < 0)) && kindB m.Code m.thread m.body x a) = (z18 x true false false false false true false && btw x.Dst (slL m.body.Slots).length && z2m m.body x.Items) := by simp [kindB, hop]
    rw [hk]
    (repeat (first | simp -dsimp -implicitDefEqProofs (disch := omega) only [↓rP, rQ, rO, rL, ↓reduceIte, Nat.reduceEqDiff, Nat.reduceAdd, Nat.reduceLeDiff, z01, z05, ↓tyr] | refine Cut.go ?_))
    refine (z19 x.Op _).mono ?_
    rintro _ _ ⟨rfl, rfl⟩
    (repeat (first | simp -dsimp -implicitDefEqProofs (disch := omega) only [↓rP, rQ, rO, rL, ↓reduceIte, Nat.reduceEqDiff, Nat.reduceAdd, Nat.reduceLeDiff, z01, z05, ↓tyr, hop] | refine Cut.go ?_))
    refine (code_maker_slot_does m x.Dst _).mono ?_
    rintro _ h1 ⟨rfl, k1⟩
    (repeat (first | simp -dsimp -implicitDefEqProofs (disch := omega) only [↓rP, rQ, rO, rL, ↓reduceIte, Nat.reduceEqDiff, Nat.reduceAdd, Nat.reduceLeDiff, z01, z05, ↓tyr, hop] | refine Cut.go ?_))
    refine (plain_1000010 x _).mono ?_
    rintro _ _ ⟨rfl, rfl⟩
    (repeat (first | simp -dsimp -implicitDefEqProofs (disch := omega) only [↓rP, rQ, rO, rL, ↓reduceIte, Nat.reduceEqDiff, Nat.reduceAdd, Nat.reduceLeDiff, z01, z05, ↓tyr] | refine Cut.go ?_))
    have e : (getI (slL m.body.Slots) x.Dst).isSome = btw x.Dst (slL m.body.Slots).length := by
      cases hg : getI (slL m.body.Slots) x.Dst with
      | none => rw [z2o.2 hg]; rfl
      | some y => rw [z1l.2 ⟨y, hg⟩]; rfl
    rw [e]
    rcases hp : z18 x true false false false false true false with _ | _
    · (repeat (first | simp -dsimp -implicitDefEqProofs (disch := omega) only [↓rP, rQ, rO, rL, ↓reduceIte, Nat.reduceEqDiff, Nat.reduceAdd, Nat.reduceLeDiff, z01, z05, ↓tyr] | refine Cut.go ?_))
      try simp only [Bool.false_and, Bool.and_false, Bool.and_true, Bool.true_and, true_and]
      (repeat (first | assumption | with_reducible exact Keeps.refl _ _ | with_reducible refine Keeps.go ?_ (Keeps.one _ _) | with_reducible refine Keeps.go ?_ (by assumption)))
    (repeat (first | simp -dsimp -implicitDefEqProofs (disch := omega) only [↓rP, rQ, rO, rL, ↓reduceIte, Nat.reduceEqDiff, Nat.reduceAdd, Nat.reduceLeDiff, z01, z05, ↓tyr] | refine Cut.go ?_))
    rcases hd : btw x.Dst (slL m.body.Slots).length with _ | _
    · (repeat (first | simp -dsimp -implicitDefEqProofs (disch := omega) only [↓rP, rQ, rO, rL, ↓reduceIte, Nat.reduceEqDiff, Nat.reduceAdd, Nat.reduceLeDiff, z01, z05, ↓tyr] | refine Cut.go ?_))
      try simp only [Bool.false_and, Bool.and_false, Bool.and_true, Bool.true_and, true_and]
      (repeat (first | assumption | with_reducible exact Keeps.refl _ _ | with_reducible refine Keeps.go ?_ (Keeps.one _ _) | with_reducible refine Keeps.go ?_ (by assumption)))
    (repeat (first | simp -dsimp -implicitDefEqProofs (disch := omega) only [↓rP, rQ, rO, rL, ↓reduceIte, Nat.reduceEqDiff, Nat.reduceAdd, Nat.reduceLeDiff, z01, z05, ↓tyr] | refine Cut.go ?_))
    refine (z1g m hm x.Items hit _).mono ?_
    rintro _ _ ⟨rfl, _⟩
    (repeat (first | simp -dsimp -implicitDefEqProofs (disch := omega) only [↓rP, rQ, rO, rL, ↓reduceIte, Nat.reduceEqDiff, Nat.reduceAdd, Nat.reduceLeDiff, z01, z05, ↓tyr] | refine Cut.go ?_))
    (first | (refine And.intro (by simp) ?_; (repeat (first | assumption | with_reducible exact Keeps.refl _ _ | with_reducible refine Keeps.go ?_ (Keeps.one _ _) | with_reducible refine Keeps.go ?_ (by assumption)))) | (repeat (first | assumption | with_reducible exact Keeps.refl _ _ | with_reducible refine Keeps.go ?_ (Keeps.one _ _) | with_reducible refine Keeps.go ?_ (by assumption))))
  · rcases hop with hop | hop | hop | hop | hop | hop
    · (repeat (first | simp -dsimp -implicitDefEqProofs (disch := omega) only [↓rP, rQ, rO, rL, ↓reduceIte, Nat.reduceEqDiff, Nat.reduceAdd, Nat.reduceLeDiff, z01, z05, ↓tyr] | refine Cut.go ?_))
      refine (z19 x.Op _).mono ?_
      rintro _ _ ⟨rfl, rfl⟩
      (repeat (first | simp -dsimp -implicitDefEqProofs (disch := omega) only [↓rP, rQ, rO, rL, ↓reduceIte, Nat.reduceEqDiff, Nat.reduceAdd, Nat.reduceLeDiff, z01, z05, ↓tyr, hop] | refine Cut.go ?_))
      refine (z1y m.Code hm.1 hs m.thread a _).mono ?_
      rintro _ _ ⟨rfl, rfl⟩
      (repeat (first | simp -dsimp -implicitDefEqProofs (disch := omega) only [↓rP, rQ, rO, rL, ↓reduceIte, Nat.reduceEqDiff, Nat.reduceAdd, Nat.reduceLeDiff, z01, z05, ↓tyr, hop] | refine Cut.go ?_))
      rcases hin : decide (insI m.Code m.thread a < 0) with _ | _
      · (repeat (first | simp -dsimp -implicitDefEqProofs (disch := omega) only [↓rP, rQ, rO, rL, ↓reduceIte, Nat.reduceEqDiff, Nat.reduceAdd, Nat.reduceLeDiff, z01, z05, ↓tyr, hop, hin] | refine Cut.go ?_))
        refine (z2e m hm x hx a _).mono ?_
        rintro _ _ ⟨rfl, _⟩
        (repeat (first | simp -dsimp -implicitDefEqProofs (disch := omega) only [↓rP, rQ, rO, rL, ↓reduceIte, Nat.reduceEqDiff, Nat.reduceAdd, Nat.reduceLeDiff, z01, z05, ↓tyr] | refine Cut.go ?_))
        (first | (refine And.intro (by simp [kindB, hop]) ?_; (repeat (first | assumption | with_reducible exact Keeps.refl _ _ | with_reducible refine Keeps.go ?_ (Keeps.one _ _) | with_reducible refine Keeps.go ?_ (by assumption)))) | (repeat (first | assumption | with_reducible exact Keeps.refl _ _ | with_reducible refine Keeps.go ?_ (Keeps.one _ _) | with_reducible refine Keeps.go ?_ (by assumption))))
      · (repeat (first | simp -dsimp -implicitDefEqProofs (disch := omega) only [↓rP, rQ, rO, rL, ↓reduceIte, Nat.reduceEqDiff, Nat.reduceAdd, Nat.reduceLeDiff, z01, z05, ↓tyr, hop, hin] | refine Cut.go ?_))
        (first | (refine And.intro (by simp [hop]) ?_; (repeat (first | assumption | with_reducible exact Keeps.refl _ _ | with_reducible refine Keeps.go ?_ (Keeps.one _ _) | with_reducible refine Keeps.go ?_ (by assumption)))) | (repeat (first | assumption | with_reducible exact Keeps.refl _ _ | with_reducible refine Keeps.go ?_ (Keeps.one _ _) | with_reducible refine Keeps.go ?_ (by assumption))))
    · (repeat (first | simp -dsimp -implicitDefEqProofs (disch := omega) only [↓rP, rQ, rO, rL, ↓reduceIte, Nat.reduceEqDiff, Nat.reduceAdd, Nat.reduceLeDiff, z01, z05, ↓tyr] | refine Cut.go ?_))
      refine (z19 x.Op _).mono ?_
      rintro _ _ ⟨rfl, rfl⟩
      (repeat (first | simp -dsimp -implicitDefEqProofs (disch := omega) only [↓rP, rQ, rO, rL, ↓reduceIte, Nat.reduceEqDiff, Nat.reduceAdd, Nat.reduceLeDiff, z01, z05, ↓tyr, hop] | refine Cut.go ?_))
      refine (z1y m.Code hm.1 hs m.thread a _).mono ?_
      rintro _ _ ⟨rfl, rfl⟩
      (repeat (first | simp -dsimp -implicitDefEqProofs (disch := omega) only [↓rP, rQ, rO, rL, ↓reduceIte, Nat.reduceEqDiff, Nat.reduceAdd, Nat.reduceLeDiff, z01, z05, ↓tyr, hop] | refine Cut.go ?_))
      rcases hin : decide (insI m.Code m.thread a < 0) with _ | _
      · (repeat (first | simp -dsimp -implicitDefEqProofs (disch := omega) only [↓rP, rQ, rO, rL, ↓reduceIte, Nat.reduceEqDiff, Nat.reduceAdd, Nat.reduceLeDiff, z01, z05, ↓tyr, hop, hin] | refine Cut.go ?_))
        refine (z2e m hm x hx a _).mono ?_
        rintro _ _ ⟨rfl, _⟩
        (repeat (first | simp -dsimp -implicitDefEqProofs (disch := omega) only [↓rP, rQ, rO, rL, ↓reduceIte, Nat.reduceEqDiff, Nat.reduceAdd, Nat.reduceLeDiff, z01, z05, ↓tyr] | refine Cut.go ?_))
        (first | (refine And.intro (by simp [kindB, hop]) ?_; (repeat (first | assumption | with_reducible exact Keeps.refl _ _ | with_reducible refine Keeps.go ?_ (Keeps.one _ _) | with_reducible refine Keeps.go ?_ (by assumption)))) | (repeat (first | assumption | with_reducible exact Keeps.refl _ _ | with_reducible refine Keeps.go ?_ (Keeps.one _ _) | with_reducible refine Keeps.go ?_ (by assumption))))
      · (repeat (first | simp -dsimp -implicitDefEqProofs (disch := omega) only [↓rP, rQ, rO, rL, ↓reduceIte, Nat.reduceEqDiff, Nat.reduceAdd, Nat.reduceLeDiff, z01, z05, ↓tyr, hop, hin] | refine Cut.go ?_))
        (first | (refine And.intro (by simp [hop]) ?_; (repeat (first | assumption | with_reducible exact Keeps.refl _ _ | with_reducible refine Keeps.go ?_ (Keeps.one _ _) | with_reducible refine Keeps.go ?_ (by assumption)))) | (repeat (first | assumption | with_reducible exact Keeps.refl _ _ | with_reducible refine Keeps.go ?_ (Keeps.one _ _) | with_reducible refine Keeps.go ?_ (by assumption))))
    · (repeat (first | simp -dsimp -implicitDefEqProofs (disch := omega) only [↓rP, rQ, rO, rL, ↓reduceIte, Nat.reduceEqDiff, Nat.reduceAdd, Nat.reduceLeDiff, z01, z05, ↓tyr] | refine Cut.go ?_))
      refine (z19 x.Op _).mono ?_
      rintro _ _ ⟨rfl, rfl⟩
      (repeat (first | simp -dsimp -implicitDefEqProofs (disch := omega) only [↓rP, rQ, rO, rL, ↓reduceIte, Nat.reduceEqDiff, Nat.reduceAdd, Nat.reduceLeDiff, z01, z05, ↓tyr, hop] | refine Cut.go ?_))
      refine (z1y m.Code hm.1 hs m.thread a _).mono ?_
      rintro _ _ ⟨rfl, rfl⟩
      (repeat (first | simp -dsimp -implicitDefEqProofs (disch := omega) only [↓rP, rQ, rO, rL, ↓reduceIte, Nat.reduceEqDiff, Nat.reduceAdd, Nat.reduceLeDiff, z01, z05, ↓tyr, hop] | refine Cut.go ?_))
      rcases hin : decide (insI m.Code m.thread a < 0) with _ | _
      · (repeat (first | simp -dsimp -implicitDefEqProofs (disch := omega) only [↓rP, rQ, rO, rL, ↓reduceIte, Nat.reduceEqDiff, Nat.reduceAdd, Nat.reduceLeDiff, z01, z05, ↓tyr, hop, hin] | refine Cut.go ?_))
        refine (z2e m hm x hx a _).mono ?_
        rintro _ _ ⟨rfl, _⟩
        (repeat (first | simp -dsimp -implicitDefEqProofs (disch := omega) only [↓rP, rQ, rO, rL, ↓reduceIte, Nat.reduceEqDiff, Nat.reduceAdd, Nat.reduceLeDiff, z01, z05, ↓tyr] | refine Cut.go ?_))
        (first | (refine And.intro (by simp [kindB, hop]) ?_; (repeat (first | assumption | with_reducible exact Keeps.refl _ _ | with_reducible refine Keeps.go ?_ (Keeps.one _ _) | with_reducible refine Keeps.go ?_ (by assumption)))) | (repeat (first | assumption | with_reducible exact Keeps.refl _ _ | with_reducible refine Keeps.go ?_ (Keeps.one _ _) | with_reducible refine Keeps.go ?_ (by assumption))))
      · (repeat (first | simp -dsimp -implicitDefEqProofs (disch := omega) only [↓rP, rQ, rO, rL, ↓reduceIte, Nat.reduceEqDiff, Nat.reduceAdd, Nat.reduceLeDiff, z01, z05, ↓tyr, hop, hin] | refine Cut.go ?_))
        (first | (refine And.intro (by simp [hop]) ?_; (repeat (first | assumption | with_reducible exact Keeps.refl _ _ | with_reducible refine Keeps.go ?_ (Keeps.one _ _) | with_reducible refine Keeps.go ?_ (by assumption)))) | (repeat (first | assumption | with_reducible exact Keeps.refl _ _ | with_reducible refine Keeps.go ?_ (Keeps.one _ _) | with_reducible refine Keeps.go ?_ (by assumption))))
    · (repeat (first | simp -dsimp -implicitDefEqProofs (disch := omega) only [↓rP, rQ, rO, rL, ↓reduceIte, Nat.reduceEqDiff, Nat.reduceAdd, Nat.reduceLeDiff, z01, z05, ↓tyr] | refine Cut.go ?_))
      refine (z19 x.Op _).mono ?_
      rintro _ _ ⟨rfl, rfl⟩
      (repeat (first | simp -dsimp -implicitDefEqProofs (disch := omega) only [↓rP, rQ, rO, rL, ↓reduceIte, Nat.reduceEqDiff, Nat.reduceAdd, Nat.reduceLeDiff, z01, z05, ↓tyr, hop] | refine Cut.go ?_))
      refine (z2e m hm x hx a _).mono ?_
      rintro _ _ ⟨rfl, _⟩
      (repeat (first | simp -dsimp -implicitDefEqProofs (disch := omega) only [↓rP, rQ, rO, rL, ↓reduceIte, Nat.reduceEqDiff, Nat.reduceAdd, Nat.reduceLeDiff, z01, z05, ↓tyr] | refine Cut.go ?_))
      (first | (refine And.intro (by simp [kindB, hop]) ?_; (repeat (first | assumption | with_reducible exact Keeps.refl _ _ | with_reducible refine Keeps.go ?_ (Keeps.one _ _) | with_reducible refine Keeps.go ?_ (by assumption)))) | (repeat (first | assumption | with_reducible exact Keeps.refl _ _ | with_reducible refine Keeps.go ?_ (Keeps.one _ _) | with_reducible refine Keeps.go ?_ (by assumption))))
    · (repeat (first | simp -dsimp -implicitDefEqProofs (disch := omega) only [↓rP, rQ, rO, rL, ↓reduceIte, Nat.reduceEqDiff, Nat.reduceAdd, Nat.reduceLeDiff, z01, z05, ↓tyr] | refine Cut.go ?_))
      refine (z19 x.Op _).mono ?_
      rintro _ _ ⟨rfl, rfl⟩
      (repeat (first | simp -dsimp -implicitDefEqProofs (disch := omega) only [↓rP, rQ, rO, rL, ↓reduceIte, Nat.reduceEqDiff, Nat.reduceAdd, Nat.reduceLeDiff, z01, z05, ↓tyr, hop] | refine Cut.go ?_))
      refine (z1y m.Code hm.1 hs m.thread a _).mono ?_
      rintro _ _ ⟨rfl, rfl⟩
      (repeat (first | simp -dsimp -implicitDefEqProofs (disch := omega) only [↓rP, rQ, rO, rL, ↓reduceIte, Nat.reduceEqDiff, Nat.reduceAdd, Nat.reduceLeDiff, z01, z05, ↓tyr, hop] | refine Cut.go ?_))
      rcases hin : decide (insI m.Code m.thread a < 0) with _ | _
      · (repeat (first | simp -dsimp -implicitDefEqProofs (disch := omega) only [↓rP, rQ, rO, rL, ↓reduceIte, Nat.reduceEqDiff, Nat.reduceAdd, Nat.reduceLeDiff, z01, z05, ↓tyr, hop, hin] | refine Cut.go ?_))
        refine (z2e m hm x hx a _).mono ?_
        rintro _ _ ⟨rfl, _⟩
        (repeat (first | simp -dsimp -implicitDefEqProofs (disch := omega) only [↓rP, rQ, rO, rL, ↓reduceIte, Nat.reduceEqDiff, Nat.reduceAdd, Nat.reduceLeDiff, z01, z05, ↓tyr] | refine Cut.go ?_))
        (first | (refine And.intro (by simp [kindB, hop]) ?_; (repeat (first | assumption | with_reducible exact Keeps.refl _ _ | with_reducible refine Keeps.go ?_ (Keeps.one _ _) | with_reducible refine Keeps.go ?_ (by assumption)))) | (repeat (first | assumption | with_reducible exact Keeps.refl _ _ | with_reducible refine Keeps.go ?_ (Keeps.one _ _) | with_reducible refine Keeps.go ?_ (by assumption))))
      · (repeat (first | simp -dsimp -implicitDefEqProofs (disch := omega) only [↓rP, rQ, rO, rL, ↓reduceIte, Nat.reduceEqDiff, Nat.reduceAdd, Nat.reduceLeDiff, z01, z05, ↓tyr, hop, hin] | refine Cut.go ?_))
        (first | (refine And.intro (by simp [hop]) ?_; (repeat (first | assumption | with_reducible exact Keeps.refl _ _ | with_reducible refine Keeps.go ?_ (Keeps.one _ _) | with_reducible refine Keeps.go ?_ (by assumption)))) | (repeat (first | assumption | with_reducible exact Keeps.refl _ _ | with_reducible refine Keeps.go ?_ (Keeps.one _ _) | with_reducible refine Keeps.go ?_ (by assumption))))
    · (repeat (first | simp -dsimp -implicitDefEqProofs (disch := omega) only [↓rP, rQ, rO, rL, ↓reduceIte, Nat.reduceEqDiff, Nat.reduceAdd, Nat.reduceLeDiff, z01, z05, ↓tyr] | refine Cut.go ?_))
      refine (z19 x.Op _).mono ?_
      rintro _ _ ⟨rfl, rfl⟩
      (repeat (first | simp -dsimp -implicitDefEqProofs (disch := omega) only [↓rP, rQ, rO, rL, ↓reduceIte, Nat.reduceEqDiff, Nat.reduceAdd, Nat.reduceLeDiff, z01, z05, ↓tyr, hop] | refine Cut.go ?_))
      refine (z1y m.Code hm.1 hs m.thread a _).mono ?_
      rintro _ _ ⟨rfl, rfl⟩
      (repeat (first | simp -dsimp -implicitDefEqProofs (disch := omega) only [↓rP, rQ, rO, rL, ↓reduceIte, Nat.reduceEqDiff, Nat.reduceAdd, Nat.reduceLeDiff, z01, z05, ↓tyr, hop] | refine Cut.go ?_))
      rcases hin : decide (insI m.Code m.thread a < 0) with _ | _
      · (repeat (first | simp -dsimp -implicitDefEqProofs (disch := omega) only [↓rP, rQ, rO, rL, ↓reduceIte, Nat.reduceEqDiff, Nat.reduceAdd, Nat.reduceLeDiff, z01, z05, ↓tyr, hop, hin] | refine Cut.go ?_))
        refine (z2e m hm x hx a _).mono ?_
        rintro _ _ ⟨rfl, _⟩
        (repeat (first | simp -dsimp -implicitDefEqProofs (disch := omega) only [↓rP, rQ, rO, rL, ↓reduceIte, Nat.reduceEqDiff, Nat.reduceAdd, Nat.reduceLeDiff, z01, z05, ↓tyr] | refine Cut.go ?_))
        (first | (refine And.intro (by simp [kindB, hop]) ?_; (repeat (first | assumption | with_reducible exact Keeps.refl _ _ | with_reducible refine Keeps.go ?_ (Keeps.one _ _) | with_reducible refine Keeps.go ?_ (by assumption)))) | (repeat (first | assumption | with_reducible exact Keeps.refl _ _ | with_reducible refine Keeps.go ?_ (Keeps.one _ _) | with_reducible refine Keeps.go ?_ (by assumption))))
      · (repeat (first | simp -dsimp -implicitDefEqProofs (disch := omega) only [↓rP, rQ, rO, rL, ↓reduceIte, Nat.reduceEqDiff, Nat.reduceAdd, Nat.reduceLeDiff, z01, z05, ↓tyr, hop, hin] | refine Cut.go ?_))
        (first | (refine And.intro (by simp [hop]) ?_; (repeat (first | assumption | with_reducible exact Keeps.refl _ _ | with_reducible refine Keeps.go ?_ (Keeps.one _ _) | with_reducible refine Keeps.go ?_ (by assumption)))) | (repeat (first | assumption | with_reducible exact Keeps.refl _ _ | with_reducible refine Keeps.go ?_ (Keeps.one _ _) | with_reducible refine Keeps.go ?_ (by assumption))))
  · rcases hop with hop | hop | hop
    · (repeat (first | simp -dsimp -implicitDefEqProofs (disch := omega) only [↓rP, rQ, rO, rL, ↓reduceIte, Nat.reduceEqDiff, Nat.reduceAdd, Nat.reduceLeDiff, z01, z05, ↓tyr] | refine Cut.go ?_))
      refine (z19 x.Op _).mono ?_
      rintro _ _ ⟨rfl, rfl⟩
      (repeat (first | simp -dsimp -implicitDefEqProofs (disch := omega) only [↓rP, rQ, rO, rL, ↓reduceIte, Nat.reduceEqDiff, Nat.reduceAdd, Nat.reduceLeDiff, z01, z05, ↓tyr, hop] | refine Cut.go ?_))
      refine (z1y m.Code hm.1 hs m.thread a _).mono ?_
      rintro _ _ ⟨rfl, rfl⟩
      (repeat (first | simp -dsimp -implicitDefEqProofs (disch := omega) only [↓rP, rQ, rO, rL, ↓reduceIte, Nat.reduceEqDiff, Nat.reduceAdd, Nat.reduceLeDiff, z01, z05, ↓tyr, hop] | refine Cut.go ?_))
      rcases hin : decide (insI m.Code m.thread a < 0) with _ | _
      · (repeat (first | simp -dsimp -implicitDefEqProofs (disch := omega) only [↓rP, rQ, rO, rL, ↓reduceIte, Nat.reduceEqDiff, Nat.reduceAdd, Nat.reduceLeDiff, z01, z05, ↓tyr, hop, hin] | refine Cut.go ?_))
        refine (z4z m hm x hx _).mono ?_
        rintro _ _ ⟨rfl, _⟩
        (repeat (first | simp -dsimp -implicitDefEqProofs (disch := omega) only [↓rP, rQ, rO, rL, ↓reduceIte, Nat.reduceEqDiff, Nat.reduceAdd, Nat.reduceLeDiff, z01, z05, ↓tyr] | refine Cut.go ?_))
        (first | (refine And.intro (by simp [kindB, hop]) ?_; (repeat (first | assumption | with_reducible exact Keeps.refl _ _ | with_reducible refine Keeps.go ?_ (Keeps.one _ _) | with_reducible refine Keeps.go ?_ (by assumption)))) | (repeat (first | assumption | with_reducible exact Keeps.refl _ _ | with_reducible refine Keeps.go ?_ (Keeps.one _ _) | with_reducible refine Keeps.go ?_ (by assumption))))
      · (repeat (first | simp -dsimp -implicitDefEqProofs (disch := omega) only [↓rP, rQ, rO, rL, ↓reduceIte, Nat.reduceEqDiff, Nat.reduceAdd, Nat.reduceLeDiff, z01, z05, ↓tyr, hop, hin] | refine Cut.go ?_))
        (first | (refine And.intro (by simp [hop]) ?_; (repeat (first | assumption | with_reducible exact Keeps.refl _ _ | with_reducible refine Keeps.go ?_ (Keeps.one _ _) | with_reducible refine Keeps.go ?_ (by assumption)))) | (repeat (first | assumption | with_reducible exact Keeps.refl _ _ | with_reducible refine Keeps.go ?_ (Keeps.one _ _) | with_reducible refine Keeps.go ?_ (by assumption))))
    · (repeat (first | simp -dsimp -implicitDefEqProofs (disch := omega) only [↓rP, rQ, rO, rL, ↓reduceIte, Nat.reduceEqDiff, Nat.reduceAdd, Nat.reduceLeDiff, z01, z05, ↓tyr] | refine Cut.go ?_))
      refine (z19 x.Op _).mono ?_
      rintro _ _ ⟨rfl, rfl⟩
      (repeat (first | simp -dsimp -implicitDefEqProofs (disch := omega) only [↓rP, rQ, rO, rL, ↓reduceIte, Nat.reduceEqDiff, Nat.reduceAdd, Nat.reduceLeDiff, z01, z05, ↓tyr, hop] | refine Cut.go ?_))
      refine (z1y m.Code hm.1 hs m.thread a _).mono ?_
      rintro _ _ ⟨rfl, rfl⟩
      (repeat (first | simp -dsimp -implicitDefEqProofs (disch := omega) only [↓rP, rQ, rO, rL, ↓reduceIte, Nat.reduceEqDiff, Nat.reduceAdd, Nat.reduceLeDiff, z01, z05, ↓tyr, hop] | refine Cut.go ?_))
      rcases hin : decide (insI m.Code m.thread a < 0) with _ | _
      · (repeat (first | simp -dsimp -implicitDefEqProofs (disch := omega) only [↓rP, rQ, rO, rL, ↓reduceIte, Nat.reduceEqDiff, Nat.reduceAdd, Nat.reduceLeDiff, z01, z05, ↓tyr, hop, hin] | refine Cut.go ?_))
        refine (z4z m hm x hx _).mono ?_
        rintro _ _ ⟨rfl, _⟩
        (repeat (first | simp -dsimp -implicitDefEqProofs (disch := omega) only [↓rP, rQ, rO, rL, ↓reduceIte, Nat.reduceEqDiff, Nat.reduceAdd, Nat.reduceLeDiff, z01, z05, ↓tyr] | refine Cut.go ?_))
        (first | (refine And.intro (by simp [kindB, hop]) ?_; (repeat (first | assumption | with_reducible exact Keeps.refl _ _ | with_reducible refine Keeps.go ?_ (Keeps.one _ _) | with_reducible refine Keeps.go ?_ (by assumption)))) | (repeat (first | assumption | with_reducible exact Keeps.refl _ _ | with_reducible refine Keeps.go ?_ (Keeps.one _ _) | with_reducible refine Keeps.go ?_ (by assumption))))
      · (repeat (first | simp -dsimp -implicitDefEqProofs (disch := omega) only [↓rP, rQ, rO, rL, ↓reduceIte, Nat.reduceEqDiff, Nat.reduceAdd, Nat.reduceLeDiff, z01, z05, ↓tyr, hop, hin] | refine Cut.go ?_))
        (first | (refine And.intro (by simp [hop]) ?_; (repeat (first | assumption | with_reducible exact Keeps.refl _ _ | with_reducible refine Keeps.go ?_ (Keeps.one _ _) | with_reducible refine Keeps.go ?_ (by assumption)))) | (repeat (first | assumption | with_reducible exact Keeps.refl _ _ | with_reducible refine Keeps.go ?_ (Keeps.one _ _) | with_reducible refine Keeps.go ?_ (by assumption))))
    · (repeat (first | simp -dsimp -implicitDefEqProofs (disch := omega) only [↓rP, rQ, rO, rL, ↓reduceIte, Nat.reduceEqDiff, Nat.reduceAdd, Nat.reduceLeDiff, z01, z05, ↓tyr] | refine Cut.go ?_))
      refine (z19 x.Op _).mono ?_
      rintro _ _ ⟨rfl, rfl⟩
      (repeat (first | simp -dsimp -implicitDefEqProofs (disch := omega) only [↓rP, rQ, rO, rL, ↓reduceIte, Nat.reduceEqDiff, Nat.reduceAdd, Nat.reduceLeDiff, z01, z05, ↓tyr, hop] | refine Cut.go ?_))
      refine (z1y m.Code hm.1 hs m.thread a _).mono ?_
      rintro _ _ ⟨rfl, rfl⟩
      (repeat (first | simp -dsimp -implicitDefEqProofs (disch := omega) only [↓rP, rQ, rO, rL, ↓reduceIte, Nat.reduceEqDiff, Nat.reduceAdd, Nat.reduceLeDiff, z01, z05, ↓tyr, hop] | refine Cut.go ?_))
      rcases hin : decide (insI m.Code m.thread a < 0) with _ | _
      · (repeat (first | simp -dsimp -implicitDefEqProofs (disch := omega) only [↓rP, rQ, rO, rL, ↓reduceIte, Nat.reduceEqDiff, Nat.reduceAdd, Nat.reduceLeDiff, z01, z05, ↓tyr, hop, hin] | refine Cut.go ?_))
        refine (z4z m hm x hx _).mono ?_
        rintro _ _ ⟨rfl, _⟩
        (repeat (first | simp -dsimp -implicitDefEqProofs (disch := omega) only [↓rP, rQ, rO, rL, ↓reduceIte, Nat.reduceEqDiff, Nat.reduceAdd, Nat.reduceLeDiff, z01, z05, ↓tyr] | refine Cut.go ?_))
        (first | (refine And.intro (by simp [kindB, hop]) ?_; (repeat (first | assumption | with_reducible exact Keeps.refl _ _ | with_reducible refine Keeps.go ?_ (Keeps.one _ _) | with_reducible refine Keeps.go ?_ (by assumption)))) | (repeat (first | assumption | with_reducible exact Keeps.refl _ _ | with_reducible refine Keeps.go ?_ (Keeps.one _ _) | with_reducible refine Keeps.go ?_ (by assumption))))
      · (repeat (first | simp -dsimp -implicitDefEqProofs (disch := omega) only [↓rP, rQ, rO, rL, ↓reduceIte, Nat.reduceEqDiff, Nat.reduceAdd, Nat.reduceLeDiff, z01, z05, ↓tyr, hop, hin] | refine Cut.go ?_))
        (first | (refine And.intro (by simp [hop]) ?_; (repeat (first | assumption | with_reducible exact Keeps.refl _ _ | with_reducible refine Keeps.go ?_ (Keeps.one _ _) | with_reducible refine Keeps.go ?_ (by assumption)))) | (repeat (first | assumption | with_reducible exact Keeps.refl _ _ | with_reducible refine Keeps.go ?_ (Keeps.one _ _) | with_reducible refine Keeps.go ?_ (by assumption))))
  · rcases hop with hop | hop
    · (repeat (first | simp -dsimp -implicitDefEqProofs (disch := omega) only [↓rP, rQ, rO, rL, ↓reduceIte, Nat.reduceEqDiff, Nat.reduceAdd, Nat.reduceLeDiff, z01, z05, ↓tyr] | refine Cut.go ?_))
      refine (z19 x.Op _).mono ?_
      rintro _ _ ⟨rfl, rfl⟩
      (repeat (first | simp -dsimp -implicitDefEqProofs (disch := omega) only [↓rP, rQ, rO, rL, ↓reduceIte, Nat.reduceEqDiff, Nat.reduceAdd, Nat.reduceLeDiff, z01, z05, ↓tyr, hop] | refine Cut.go ?_))
      have hk : (!((decide (2 ≤ x.Op) && decide (x.Op ≤ 9)) && decide (insI m.Code m.thread a < 0)) && kindB m.Code m.thread m.body x a) = (z18 x false false false false false true false && z2m m.body x.Items) := by simp [kindB, hop]
      rw [hk]
      refine (plain_0000010 x _).mono ?_
      rintro _ _ ⟨rfl, rfl⟩
      (repeat (first | simp -dsimp -implicitDefEqProofs (disch := omega) only [↓rP, rQ, rO, rL, ↓reduceIte, Nat.reduceEqDiff, Nat.reduceAdd, Nat.reduceLeDiff, z01, z05, ↓tyr, hop] | refine Cut.go ?_))
      rcases hp : z18 x false false false false false true false with _ | _
      · (repeat (first | simp -dsimp -implicitDefEqProofs (disch := omega) only [↓rP, rQ, rO, rL, ↓reduceIte, Nat.reduceEqDiff, Nat.reduceAdd, Nat.reduceLeDiff, z01, z05, ↓tyr] | refine Cut.go ?_))
        try simp only [Bool.false_and, Bool.and_false, Bool.and_true, Bool.true_and, true_and]
        (repeat (first | assumption | with_reducible exact Keeps.refl _ _ | with_reducible refine Keeps.go ?_ (Keeps.one _ _) | with_reducible refine Keeps.go ?_ (by assumption)))
      (repeat (first | simp -dsimp -implicitDefEqProofs (disch := omega) only [↓rP, rQ, rO, rL, ↓reduceIte, Nat.reduceEqDiff, Nat.reduceAdd, Nat.reduceLeDiff, z01, z05, ↓tyr] | refine Cut.go ?_))
      refine (z1g m hm x.Items hit _).mono ?_
      rintro _ _ ⟨rfl, _⟩
      (repeat (first | simp -dsimp -implicitDefEqProofs (disch := omega) only [↓rP, rQ, rO, rL, ↓reduceIte, Nat.reduceEqDiff, Nat.reduceAdd, Nat.reduceLeDiff, z01, z05, ↓tyr] | refine Cut.go ?_))
      (first | (refine And.intro (by simp) ?_; (repeat (first | assumption | with_reducible exact Keeps.refl _ _ | with_reducible refine Keeps.go ?_ (Keeps.one _ _) | with_reducible refine Keeps.go ?_ (by assumption)))) | (repeat (first | assumption | with_reducible exact Keeps.refl _ _ | with_reducible refine Keeps.go ?_ (Keeps.one _ _) | with_reducible refine Keeps.go ?_ (by assumption))))
    · (repeat (first | simp -dsimp -implicitDefEqProofs (disch := omega) only [↓rP, rQ, rO, rL, ↓reduceIte, Nat.reduceEqDiff, Nat.reduceAdd, Nat.reduceLeDiff, z01, z05, ↓tyr] | refine Cut.go ?_))
      refine (z19 x.Op _).mono ?_
      rintro _ _ ⟨rfl, rfl⟩
      (repeat (first | simp -dsimp -implicitDefEqProofs (disch := omega) only [↓rP, rQ, rO, rL, ↓reduceIte, Nat.reduceEqDiff, Nat.reduceAdd, Nat.reduceLeDiff, z01, z05, ↓tyr, hop] | refine Cut.go ?_))
      have hk : (!((decide (2 ≤ x.Op) && decide (x.Op ≤ 9)) && decide (insI m.Code m.thread a < 0)) && kindB m.Code m.thread m.body x a) = (z18 x false false false false false true false && z2m m.body x.Items) := by simp [kindB, hop]
      rw [hk]
      refine (plain_0000010 x _).mono ?_
      rintro _ _ ⟨rfl, rfl⟩
      (repeat (first | simp -dsimp -implicitDefEqProofs (disch := omega) only [↓rP, rQ, rO, rL, ↓reduceIte, Nat.reduceEqDiff, Nat.reduceAdd, Nat.reduceLeDiff, z01, z05, ↓tyr, hop] | refine Cut.go ?_))
      rcases hp : z18 x false false false false false true false with _ | _
      · (repeat (first | simp -dsimp -implicitDefEqProofs (disch := omega) only [↓rP, rQ, rO, rL, ↓reduceIte, Nat.reduceEqDiff, Nat.reduceAdd, Nat.reduceLeDiff, z01, z05, ↓tyr] | refine Cut.go ?_))
        try simp only [Bool.false_and, Bool.and_false, Bool.and_true, Bool.true_and, true_and]
        (repeat (first | assumption | with_reducible exact Keeps.refl _ _ | with_reducible refine Keeps.go ?_ (Keeps.one _ _) | with_reducible refine Keeps.go ?_ (by assumption)))
      (repeat (first | simp -dsimp -implicitDefEqProofs (disch := omega) only [↓rP, rQ, rO, rL, ↓reduceIte, Nat.reduceEqDiff, Nat.reduceAdd, Nat.reduceLeDiff, z01, z05, ↓tyr] | refine Cut.go ?_))
      refine (z1g m hm x.Items hit _).mono ?_
      rintro _ _ ⟨rfl, _⟩
      (repeat (first | simp -dsimp -implicitDefEqProofs (disch := omega) only [↓rP, rQ, rO, rL, ↓reduceIte, Nat.reduceEqDiff, Nat.reduceAdd, Nat.reduceLeDiff, z01, z05, ↓tyr] | refine Cut.go ?_))
      (first | (refine And.intro (by simp) ?_; (repeat (first | assumption | with_reducible exact Keeps.refl _ _ | with_reducible refine Keeps.go ?_ (Keeps.one _ _) | with_reducible refine Keeps.go ?_ (by assumption)))) | (repeat (first | assumption | with_reducible exact Keeps.refl _ _ | with_reducible refine Keeps.go ?_ (Keeps.one _ _) | with_reducible refine Keeps.go ?_ (by assumption))))
  · (repeat (first | simp -dsimp -implicitDefEqProofs (disch := omega) only [↓rP, rQ, rO, rL, ↓reduceIte, Nat.reduceEqDiff, Nat.reduceAdd, Nat.reduceLeDiff, z01, z05, ↓tyr] | refine Cut.go ?_))
    refine (z19 x.Op _).mono ?_
    rintro _ _ ⟨rfl, rfl⟩
    (repeat (first | simp -dsimp -implicitDefEqProofs (disch := omega) only [↓rP, rQ, rO, rL, ↓reduceIte, Nat.reduceEqDiff, Nat.reduceAdd, Nat.reduceLeDiff, z01, z05, ↓tyr, hop] | refine Cut.go ?_))
    have hk : (!((decide (2 ≤ x.Op) && decide (x.Op ≤ 9)) && decide (insI m.Code m.thread a < 0)) && kindB m.Code m.thread m.body x a) = (z18 x false false false false true false false && goesB m.Code m.thread m.body a x.To) := by simp [kindB, hop]
    rw [hk]
    refine (plain_0000100 x _).mono ?_
    rintro _ _ ⟨rfl, rfl⟩
    (repeat (first | simp -dsimp -implicitDefEqProofs (disch := omega) only [↓rP, rQ, rO, rL, ↓reduceIte, Nat.reduceEqDiff, Nat.reduceAdd, Nat.reduceLeDiff, z01, z05, ↓tyr, hop] | refine Cut.go ?_))
    rcases hp : z18 x false false false false true false false with _ | _
    · (repeat (first | simp -dsimp -implicitDefEqProofs (disch := omega) only [↓rP, rQ, rO, rL, ↓reduceIte, Nat.reduceEqDiff, Nat.reduceAdd, Nat.reduceLeDiff, z01, z05, ↓tyr] | refine Cut.go ?_))
      try simp only [Bool.false_and, Bool.and_false, Bool.and_true, Bool.true_and, true_and]
      (repeat (first | assumption | with_reducible exact Keeps.refl _ _ | with_reducible refine Keeps.go ?_ (Keeps.one _ _) | with_reducible refine Keeps.go ?_ (by assumption)))
    (repeat (first | simp -dsimp -implicitDefEqProofs (disch := omega) only [↓rP, rQ, rO, rL, ↓reduceIte, Nat.reduceEqDiff, Nat.reduceAdd, Nat.reduceLeDiff, z01, z05, ↓tyr] | refine Cut.go ?_))
    refine (code_maker_goes_does m hm hs a x.To _).mono ?_
    rintro _ _ ⟨rfl, rfl⟩
    (repeat (first | simp -dsimp -implicitDefEqProofs (disch := omega) only [↓rP, rQ, rO, rL, ↓reduceIte, Nat.reduceEqDiff, Nat.reduceAdd, Nat.reduceLeDiff, z01, z05, ↓tyr] | refine Cut.go ?_))
    (first | (refine And.intro (by simp) ?_; (repeat (first | assumption | with_reducible exact Keeps.refl _ _ | with_reducible refine Keeps.go ?_ (Keeps.one _ _) | with_reducible refine Keeps.go ?_ (by assumption)))) | (repeat (first | assumption | with_reducible exact Keeps.refl _ _ | with_reducible refine Keeps.go ?_ (Keeps.one _ _) | with_reducible refine Keeps.go ?_ (by assumption))))
  · (repeat (first | simp -dsimp -implicitDefEqProofs (disch := omega) only [↓rP, rQ, rO, rL, ↓reduceIte, Nat.reduceEqDiff, Nat.reduceAdd, Nat.reduceLeDiff, z01, z05, ↓tyr] | refine Cut.go ?_))
    refine (z19 x.Op _).mono ?_
    rintro _ _ ⟨rfl, rfl⟩
    (repeat (first | simp -dsimp -implicitDefEqProofs (disch := omega) only [↓rP, rQ, rO, rL, ↓reduceIte, Nat.reduceEqDiff, Nat.reduceAdd, Nat.reduceLeDiff, z01, z05, ↓tyr, hop] | refine Cut.go ?_))
    have hk : (!((decide (2 ≤ x.Op) && decide (x.Op ≤ 9)) && decide (insI m.Code m.thread a < 0)) && kindB m.Code m.thread m.body x a) = (z18 x false false false false true true false && goesB m.Code m.thread m.body a x.To && z2m m.body x.Items) := by simp [kindB, hop]
    rw [hk]
    refine (plain_0000110 x _).mono ?_
    rintro _ _ ⟨rfl, rfl⟩
    (repeat (first | simp -dsimp -implicitDefEqProofs (disch := omega) only [↓rP, rQ, rO, rL, ↓reduceIte, Nat.reduceEqDiff, Nat.reduceAdd, Nat.reduceLeDiff, z01, z05, ↓tyr, hop] | refine Cut.go ?_))
    rcases hp : z18 x false false false false true true false with _ | _
    · (repeat (first | simp -dsimp -implicitDefEqProofs (disch := omega) only [↓rP, rQ, rO, rL, ↓reduceIte, Nat.reduceEqDiff, Nat.reduceAdd, Nat.reduceLeDiff, z01, z05, ↓tyr] | refine Cut.go ?_))
      try simp only [Bool.false_and, Bool.and_false, Bool.and_true, Bool.true_and, true_and]
      (repeat (first | assumption | with_reducible exact Keeps.refl _ _ | with_reducible refine Keeps.go ?_ (Keeps.one _ _) | with_reducible refine Keeps.go ?_ (by assumption)))
    (repeat (first | simp -dsimp -implicitDefEqProofs (disch := omega) only [↓rP, rQ, rO, rL, ↓reduceIte, Nat.reduceEqDiff, Nat.reduceAdd, Nat.reduceLeDiff, z01, z05, ↓tyr] | refine Cut.go ?_))
    refine (code_maker_goes_does m hm hs a x.To _).mono ?_
    rintro _ _ ⟨rfl, rfl⟩
    (repeat (first | simp -dsimp -implicitDefEqProofs (disch := omega) only [↓rP, rQ, rO, rL, ↓reduceIte, Nat.reduceEqDiff, Nat.reduceAdd, Nat.reduceLeDiff, z01, z05, ↓tyr] | refine Cut.go ?_))
    rcases hg : goesB m.Code m.thread m.body a x.To with _ | _
    · (repeat (first | simp -dsimp -implicitDefEqProofs (disch := omega) only [↓rP, rQ, rO, rL, ↓reduceIte, Nat.reduceEqDiff, Nat.reduceAdd, Nat.reduceLeDiff, z01, z05, ↓tyr] | refine Cut.go ?_))
      try simp only [Bool.false_and, Bool.and_false, Bool.and_true, Bool.true_and, true_and]
      (repeat (first | assumption | with_reducible exact Keeps.refl _ _ | with_reducible refine Keeps.go ?_ (Keeps.one _ _) | with_reducible refine Keeps.go ?_ (by assumption)))
    (repeat (first | simp -dsimp -implicitDefEqProofs (disch := omega) only [↓rP, rQ, rO, rL, ↓reduceIte, Nat.reduceEqDiff, Nat.reduceAdd, Nat.reduceLeDiff, z01, z05, ↓tyr] | refine Cut.go ?_))
    refine (z1g m hm x.Items hit _).mono ?_
    rintro _ _ ⟨rfl, _⟩
    (repeat (first | simp -dsimp -implicitDefEqProofs (disch := omega) only [↓rP, rQ, rO, rL, ↓reduceIte, Nat.reduceEqDiff, Nat.reduceAdd, Nat.reduceLeDiff, z01, z05, ↓tyr] | refine Cut.go ?_))
    (first | (refine And.intro (by simp) ?_; (repeat (first | assumption | with_reducible exact Keeps.refl _ _ | with_reducible refine Keeps.go ?_ (Keeps.one _ _) | with_reducible refine Keeps.go ?_ (by assumption)))) | (repeat (first | assumption | with_reducible exact Keeps.refl _ _ | with_reducible refine Keeps.go ?_ (Keeps.one _ _) | with_reducible refine Keeps.go ?_ (by assumption))))
  · rcases hop with hop | hop
    · (repeat (first | simp -dsimp -implicitDefEqProofs (disch := omega) only [↓rP, rQ, rO, rL, ↓reduceIte, Nat.reduceEqDiff, Nat.reduceAdd, Nat.reduceLeDiff, z01, z05, ↓tyr] | refine Cut.go ?_))
      refine (z19 x.Op _).mono ?_
      rintro _ _ ⟨rfl, rfl⟩
      (repeat (first | simp -dsimp -implicitDefEqProofs (disch := omega) only [↓rP, rQ, rO, rL, ↓reduceIte, Nat.reduceEqDiff, Nat.reduceAdd, Nat.reduceLeDiff, z01, z05, ↓tyr, hop] | refine Cut.go ?_))
      refine (code_maker_border_does m x a _).mono ?_
      rintro _ _ ⟨rfl, _⟩
      (repeat (first | simp -dsimp -implicitDefEqProofs (disch := omega) only [↓rP, rQ, rO, rL, ↓reduceIte, Nat.reduceEqDiff, Nat.reduceAdd, Nat.reduceLeDiff, z01, z05, ↓tyr, hop] | refine Cut.go ?_))
      (first | (refine And.intro (by simp [kindB, hop]) ?_; (repeat (first | assumption | with_reducible exact Keeps.refl _ _ | with_reducible refine Keeps.go ?_ (Keeps.one _ _) | with_reducible refine Keeps.go ?_ (by assumption)))) | (repeat (first | assumption | with_reducible exact Keeps.refl _ _ | with_reducible refine Keeps.go ?_ (Keeps.one _ _) | with_reducible refine Keeps.go ?_ (by assumption))))
    · (repeat (first | simp -dsimp -implicitDefEqProofs (disch := omega) only [↓rP, rQ, rO, rL, ↓reduceIte, Nat.reduceEqDiff, Nat.reduceAdd, Nat.reduceLeDiff, z01, z05, ↓tyr] | refine Cut.go ?_))
      refine (z19 x.Op _).mono ?_
      rintro _ _ ⟨rfl, rfl⟩
      (repeat (first | simp -dsimp -implicitDefEqProofs (disch := omega) only [↓rP, rQ, rO, rL, ↓reduceIte, Nat.reduceEqDiff, Nat.reduceAdd, Nat.reduceLeDiff, z01, z05, ↓tyr, hop] | refine Cut.go ?_))
      refine (code_maker_border_does m x a _).mono ?_
      rintro _ _ ⟨rfl, _⟩
      (repeat (first | simp -dsimp -implicitDefEqProofs (disch := omega) only [↓rP, rQ, rO, rL, ↓reduceIte, Nat.reduceEqDiff, Nat.reduceAdd, Nat.reduceLeDiff, z01, z05, ↓tyr, hop] | refine Cut.go ?_))
      (first | (refine And.intro (by simp [kindB, hop]) ?_; (repeat (first | assumption | with_reducible exact Keeps.refl _ _ | with_reducible refine Keeps.go ?_ (Keeps.one _ _) | with_reducible refine Keeps.go ?_ (by assumption)))) | (repeat (first | assumption | with_reducible exact Keeps.refl _ _ | with_reducible refine Keeps.go ?_ (Keeps.one _ _) | with_reducible refine Keeps.go ?_ (by assumption))))
  · (repeat (first | simp -dsimp -implicitDefEqProofs (disch := omega) only [↓rP, rQ, rO, rL, ↓reduceIte, Nat.reduceEqDiff, Nat.reduceAdd, Nat.reduceLeDiff, z01, z05, ↓tyr] | refine Cut.go ?_))
    refine (z19 x.Op _).mono ?_
    rintro _ _ ⟨rfl, rfl⟩
    (repeat (first | simp -dsimp -implicitDefEqProofs (disch := omega) only [↓rP, rQ, rO, rL, ↓reduceIte, Nat.reduceEqDiff, Nat.reduceAdd, Nat.reduceLeDiff, z01, z05, ↓tyr, hop] | refine Cut.go ?_))
    have hk : (!((decide (2 ≤ x.Op) && decide (x.Op ≤ 9)) && decide (insI m.Code m.thread a < 0)) && kindB m.Code m.thread m.body x a) = (z18 x false false false false false false false && decide (a = (slL m.body.Code).length - 1)) := by simp [kindB, hop]
    rw [hk]
    refine (plain_0000000 x _).mono ?_
    rintro _ _ ⟨rfl, rfl⟩
    (repeat (first | simp -dsimp -implicitDefEqProofs (disch := omega) only [↓rP, rQ, rO, rL, ↓reduceIte, Nat.reduceEqDiff, Nat.reduceAdd, Nat.reduceLeDiff, z01, z05, ↓tyr, hop] | refine Cut.go ?_))
    rcases hp : z18 x false false false false false false false with _ | _
    · (repeat (first | simp -dsimp -implicitDefEqProofs (disch := omega) only [↓rP, rQ, rO, rL, ↓reduceIte, Nat.reduceEqDiff, Nat.reduceAdd, Nat.reduceLeDiff, z01, z05, ↓tyr] | refine Cut.go ?_))
      try simp only [Bool.false_and, Bool.and_false, Bool.and_true, Bool.true_and, true_and]
      (repeat (first | assumption | with_reducible exact Keeps.refl _ _ | with_reducible refine Keeps.go ?_ (Keeps.one _ _) | with_reducible refine Keeps.go ?_ (by assumption)))
    (repeat (first | simp -dsimp -implicitDefEqProofs (disch := omega) only [↓rP, rQ, rO, rL, ↓reduceIte, Nat.reduceEqDiff, Nat.reduceAdd, Nat.reduceLeDiff, z01, z05, ↓tyr] | refine Cut.go ?_))
    (first | (refine And.intro (by simp [beqI]) ?_; (repeat (first | assumption | with_reducible exact Keeps.refl _ _ | with_reducible refine Keeps.go ?_ (Keeps.one _ _) | with_reducible refine Keeps.go ?_ (by assumption)))) | (repeat (first | assumption | with_reducible exact Keeps.refl _ _ | with_reducible refine Keeps.go ?_ (Keeps.one _ _) | with_reducible refine Keeps.go ?_ (by assumption))))
  · have hk : (!((decide (2 ≤ x.Op) && decide (x.Op ≤ 9)) && decide (insI m.Code m.thread a < 0)) && kindB m.Code m.thread m.body x a) = false := by
      unfold kindB
      rw [if_neg (by omega), if_neg (by omega), if_neg (by omega), if_neg (by omega), if_neg (by omega), if_neg (by omega), if_neg (by omega)]
      have : decide (x.Op = 17) = false := decide_eq_false (by omega)
      simp [this]
    rw [hk]
    have hsh : (decide (2 ≤ x.Op) && decide (x.Op ≤ 9)) = false := by
      rw [Bool.eq_false_iff]; simp only [ne_eq, Bool.and_eq_true, decide_eq_true_eq]; omega
    (repeat (first | simp -dsimp -implicitDefEqProofs (disch := omega) only [↓rP, rQ, rO, rL, ↓reduceIte, Nat.reduceEqDiff, Nat.reduceAdd, Nat.reduceLeDiff, z01, z05, ↓tyr] | refine Cut.go ?_))
    refine (z19 x.Op _).mono ?_
    rintro _ _ ⟨rfl, rfl⟩
    (repeat (first | simp -dsimp -implicitDefEqProofs (disch := omega) only [↓rP, rQ, rO, rL, ↓reduceIte, Nat.reduceEqDiff, Nat.reduceAdd, Nat.reduceLeDiff, z01, z05, ↓tyr, hsh] | refine Cut.go ?_))
    (first | (refine And.intro (by simp) ?_; (repeat (first | assumption | with_reducible exact Keeps.refl _ _ | with_reducible refine Keeps.go ?_ (Keeps.one _ _) | with_reducible refine Keeps.go ?_ (by assumption)))) | (repeat (first | assumption | with_reducible exact Keeps.refl _ _ | with_reducible refine Keeps.go ?_ (Keeps.one _ _) | with_reducible refine Keeps.go ?_ (by assumption))))
end Go.Proofs.Ytnggcokgnblpgaa
end

section
/- What the program's functions of codes compute: threads. -/
set_option maxRecDepth 100000
set_option maxHeartbeats 1000000
namespace Go.Proofs.Ytnggcokgnblpgaa
open Go.Abs
theorem ok_instr {m : z0g} (hm : m.ok) {x : In} (hx : x ∈ slL m.body.Code) : x.ok := hm.2.2.2.1.2 x hx
theorem code_maker_all_does (m : z0g) (hm : m.ok) (hs : (slL m.Code.Sections).length ≤ 1000000) (h : z04) : z03 Try.prog 29 [.agg m.cells] h (fun v h2 => v = .bool (threadB m.Code m.thread m.body) ∧ Keeps h h2 (fun _ => False)) := by
  apply code_maker_all_wp
  have e0 : threadB m.Code m.thread m.body = (decide ((slL m.body.Slots).length ≤ 64) && (decide (1 ≤ (slL m.body.Code).length) && (decide ((slL m.body.Code).length ≤ 256) && (decide (0 ≤ m.body.Most) && (decide (m.body.Most ≤ 4096) && (lastB m.body && ((slL m.body.Slots).all (z1a m.Code) && instrsB m.Code m.thread m.body))))))) := by
    unfold threadB bodyB
    simp only [Bool.and_assoc]
    congr 5
    rw [Bool.and_left_comm]
  rw [e0]
  have stop : ∀ (b r : Bool), b = false → (b && r) = false := fun b r e => by rw [e]; rfl
  (repeat simp -dsimp -implicitDefEqProofs (disch := omega) only [↓rP, rQ, rO, rL, ↓reduceIte, Nat.reduceEqDiff, Nat.reduceAdd, Nat.reduceLeDiff, z01, z05, ↓tyr])
  refine z0i (fun h1 => ?_) (fun h1 => ?_)
  · (repeat simp -dsimp -implicitDefEqProofs (disch := omega) only [↓rP, rQ, rO, rL, ↓reduceIte, Nat.reduceEqDiff, Nat.reduceAdd, Nat.reduceLeDiff, z01, z05, ↓tyr])
    try rw [decide_eq_false (by omega : ¬ (slL m.body.Slots).length ≤ 64)]
    (first | (refine And.intro (by simp) ?_; (repeat (first | assumption | with_reducible exact Keeps.refl _ _ | with_reducible refine Keeps.go ?_ (Keeps.one _ _) | with_reducible refine Keeps.go ?_ (by assumption)))) | (repeat (first | assumption | with_reducible exact Keeps.refl _ _ | with_reducible refine Keeps.go ?_ (Keeps.one _ _) | with_reducible refine Keeps.go ?_ (by assumption))))
  rw [decide_eq_true (by omega : (slL m.body.Slots).length ≤ 64)]
  (repeat simp -dsimp -implicitDefEqProofs (disch := omega) only [↓rP, rQ, rO, rL, ↓reduceIte, Nat.reduceEqDiff, Nat.reduceAdd, Nat.reduceLeDiff, z01, z05, ↓tyr])
  refine z0i (fun h2 => ?_) (fun h2 => ?_)
  · (repeat simp -dsimp -implicitDefEqProofs (disch := omega) only [↓rP, rQ, rO, rL, ↓reduceIte, Nat.reduceEqDiff, Nat.reduceAdd, Nat.reduceLeDiff, z01, z05, ↓tyr])
    try rw [decide_eq_false (by omega : ¬ 1 ≤ (slL m.body.Code).length)]
    (first | (refine And.intro (by simp) ?_; (repeat (first | assumption | with_reducible exact Keeps.refl _ _ | with_reducible refine Keeps.go ?_ (Keeps.one _ _) | with_reducible refine Keeps.go ?_ (by assumption)))) | (repeat (first | assumption | with_reducible exact Keeps.refl _ _ | with_reducible refine Keeps.go ?_ (Keeps.one _ _) | with_reducible refine Keeps.go ?_ (by assumption))))
  rw [decide_eq_true (by omega : 1 ≤ (slL m.body.Code).length)]
  (repeat simp -dsimp -implicitDefEqProofs (disch := omega) only [↓rP, rQ, rO, rL, ↓reduceIte, Nat.reduceEqDiff, Nat.reduceAdd, Nat.reduceLeDiff, z01, z05, ↓tyr])
  refine z0i (fun h3 => ?_) (fun h3 => ?_)
  · (repeat simp -dsimp -implicitDefEqProofs (disch := omega) only [↓rP, rQ, rO, rL, ↓reduceIte, Nat.reduceEqDiff, Nat.reduceAdd, Nat.reduceLeDiff, z01, z05, ↓tyr])
    try rw [decide_eq_false (by omega : ¬ (slL m.body.Code).length ≤ 256)]
    (first | (refine And.intro (by simp) ?_; (repeat (first | assumption | with_reducible exact Keeps.refl _ _ | with_reducible refine Keeps.go ?_ (Keeps.one _ _) | with_reducible refine Keeps.go ?_ (by assumption)))) | (repeat (first | assumption | with_reducible exact Keeps.refl _ _ | with_reducible refine Keeps.go ?_ (Keeps.one _ _) | with_reducible refine Keeps.go ?_ (by assumption))))
  rw [decide_eq_true (by omega : (slL m.body.Code).length ≤ 256)]
  (repeat simp -dsimp -implicitDefEqProofs (disch := omega) only [↓rP, rQ, rO, rL, ↓reduceIte, Nat.reduceEqDiff, Nat.reduceAdd, Nat.reduceLeDiff, z01, z05, ↓tyr])
  refine z0i (fun h4 => ?_) (fun h4 => ?_)
  · (repeat simp -dsimp -implicitDefEqProofs (disch := omega) only [↓rP, rQ, rO, rL, ↓reduceIte, Nat.reduceEqDiff, Nat.reduceAdd, Nat.reduceLeDiff, z01, z05, ↓tyr])
    try rw [decide_eq_false (by omega : ¬ 0 ≤ m.body.Most)]
    (first | (refine And.intro (by simp) ?_; (repeat (first | assumption | with_reducible exact Keeps.refl _ _ | with_reducible refine Keeps.go ?_ (Keeps.one _ _) | with_reducible refine Keeps.go ?_ (by assumption)))) | (repeat (first | assumption | with_reducible exact Keeps.refl _ _ | with_reducible refine Keeps.go ?_ (Keeps.one _ _) | with_reducible refine Keeps.go ?_ (by assumption))))
  rw [decide_eq_true (by omega : 0 ≤ m.body.Most)]
  (repeat simp -dsimp -implicitDefEqProofs (disch := omega) only [↓rP, rQ, rO, rL, ↓reduceIte, Nat.reduceEqDiff, Nat.reduceAdd, Nat.reduceLeDiff, z01, z05, ↓tyr])
  refine z0i (fun h5 => ?_) (fun h5 => ?_)
  · (repeat simp -dsimp -implicitDefEqProofs (disch := omega) only [↓rP, rQ, rO, rL, ↓reduceIte, Nat.reduceEqDiff, Nat.reduceAdd, Nat.reduceLeDiff, z01, z05, ↓tyr])
    try rw [decide_eq_false (by omega : ¬ m.body.Most ≤ 4096)]
    (first | (refine And.intro (by simp) ?_; (repeat (first | assumption | with_reducible exact Keeps.refl _ _ | with_reducible refine Keeps.go ?_ (Keeps.one _ _) | with_reducible refine Keeps.go ?_ (by assumption)))) | (repeat (first | assumption | with_reducible exact Keeps.refl _ _ | with_reducible refine Keeps.go ?_ (Keeps.one _ _) | with_reducible refine Keeps.go ?_ (by assumption))))
  rw [decide_eq_true (by omega : m.body.Most ≤ 4096)]
  obtain ⟨y, hy⟩ : ∃ y, getI (slL m.body.Code) ((slL m.body.Code).length - 1) = some y := z1l.1 (by unfold btw; simp; omega)
  have hlb : lastB m.body = decide (y.Op = 17) := by unfold lastB; rw [hy]
  rw [hlb]
  (repeat simp -dsimp -implicitDefEqProofs (disch := omega) only [↓rP, rQ, rO, rL, ↓reduceIte, Nat.reduceEqDiff, Nat.reduceAdd, Nat.reduceLeDiff, z01, z05, ↓tyr, ixI hy])
  refine z13 (fun h6 => ?_) (fun h6 => ?_)
  · (repeat simp -dsimp -implicitDefEqProofs (disch := omega) only [↓rP, rQ, rO, rL, ↓reduceIte, Nat.reduceEqDiff, Nat.reduceAdd, Nat.reduceLeDiff, z01, z05, ↓tyr])
    try rw [decide_eq_false h6]
    (first | (refine And.intro (by simp) ?_; (repeat (first | assumption | with_reducible exact Keeps.refl _ _ | with_reducible refine Keeps.go ?_ (Keeps.one _ _) | with_reducible refine Keeps.go ?_ (by assumption)))) | (repeat (first | assumption | with_reducible exact Keeps.refl _ _ | with_reducible refine Keeps.go ?_ (Keeps.one _ _) | with_reducible refine Keeps.go ?_ (by assumption))))
  rw [decide_eq_true h6]
  (repeat simp -dsimp -implicitDefEqProofs (disch := omega) only [↓rP, rQ, rO, rL, ↓reduceIte, Nat.reduceEqDiff, Nat.reduceAdd, Nat.reduceLeDiff, z01, z05, ↓tyr])
  apply z2n
  refine (ixf_Local_does m.body.Slots (by omega) (fun x => !z1a m.Code x) _ h fun x hx R hR => ?_).mono ?_
  · simp only [pCallF, List.nil_append, List.append_nil, List.singleton_append, List.cons_append]
    apply code_maker_all_1_wp
    (repeat simp -dsimp -implicitDefEqProofs (disch := omega) only [↓rP, rQ, rO, rL, ↓reduceIte, Nat.reduceEqDiff, Nat.reduceAdd, Nat.reduceLeDiff, z01, z05, ↓tyr])
    refine (code_local_does m.Code x h).mono ?_
    rintro _ _ ⟨rfl, rfl⟩
    (repeat simp -dsimp -implicitDefEqProofs (disch := omega) only [↓rP, rQ, rO, rL, ↓reduceIte, Nat.reduceEqDiff, Nat.reduceAdd, Nat.reduceLeDiff, z01, z05, ↓tyr])
    exact hR
  rintro _ h ⟨rfl, rfl⟩
  have e1 : (slL m.body.Slots).any (fun x => !z1a m.Code x) = !(slL m.body.Slots).all (z1a m.Code) := by
    rw [List.not_all_eq_any_not]
  have e2 := posI_neg (p := fun x => !z1a m.Code x) (l := slL m.body.Slots)
  rw [e1] at e2
  have e3 : decide (0 ≤ posI (fun x => !z1a m.Code x) (slL m.body.Slots)) = !(slL m.body.Slots).all (z1a m.Code) := by
    cases hb : (slL m.body.Slots).all (z1a m.Code) with
    | true => rw [hb] at e2; simp at e2 ⊢; omega
    | false => rw [hb] at e2; simp at e2 ⊢; omega
  rcases hb : (slL m.body.Slots).all (z1a m.Code) with _ | _
  · rw [hb] at e3
    (repeat simp -dsimp -implicitDefEqProofs (disch := omega) only [↓rP, rQ, rO, rL, ↓reduceIte, Nat.reduceEqDiff, Nat.reduceAdd, Nat.reduceLeDiff, z01, z05, ↓tyr, e3])
    (first | (refine And.intro (by simp) ?_; (repeat (first | assumption | with_reducible exact Keeps.refl _ _ | with_reducible refine Keeps.go ?_ (Keeps.one _ _) | with_reducible refine Keeps.go ?_ (by assumption)))) | (repeat (first | assumption | with_reducible exact Keeps.refl _ _ | with_reducible refine Keeps.go ?_ (Keeps.one _ _) | with_reducible refine Keeps.go ?_ (by assumption))))
  rw [hb] at e3
  (repeat simp -dsimp -implicitDefEqProofs (disch := omega) only [↓rP, rQ, rO, rL, ↓reduceIte, Nat.reduceEqDiff, Nat.reduceAdd, Nat.reduceLeDiff, z01, z05, ↓tyr, e3])
  refine z1u z0v (by kernel_rfl) (fun n fr hh => ∃ k : Nat, k ≤ (slL m.body.Code).length ∧ n = (slL m.body.Code).length - k ∧ upTo (fun k x => z1m m.Code m.thread m.body x k) (slL m.body.Code) k ∧ Keeps h hh (fun _ => False) ∧ fr = frOf [(1, .iptr m.cells), (53, slAV 8 z0b.cells m.body.Code), (54, .int .i64 (slL m.body.Code).length), (55, .int .i64 k)]) (slL m.body.Code).length ⟨0, by omega, by omega, z2p _ _, .refl _ _, rfl⟩ ?_
  rintro n fr hh ⟨k, hk, rfl, hup, kp, rfl⟩
  apply code_maker_all_loop7
  generalize hI : (fun (n : Nat) (fr : Fr) (hh : z04) => _) = I
  (repeat simp -dsimp -implicitDefEqProofs (disch := omega) only [↓rP, rQ, rO, rL, ↓reduceIte, Nat.reduceEqDiff, Nat.reduceAdd, Nat.reduceLeDiff, z01, z05, ↓tyr])
  refine z0i (fun hkl => ?_) (fun hkl => ?_)
  · obtain ⟨x, hx⟩ : ∃ x, (slL m.body.Code)[k]? = some x := ⟨_, List.getElem?_eq_getElem (by omega)⟩
    (repeat simp -dsimp -implicitDefEqProofs (disch := omega) only [↓rP, rQ, rO, rL, ↓reduceIte, Nat.reduceEqDiff, Nat.reduceAdd, Nat.reduceLeDiff, z01, z05, ↓tyr, z0d hx])
    refine (code_maker_instr_does m hm hs (by omega) x (ok_instr hm (List.mem_of_getElem? hx)) k _).mono ?_
    rintro _ h9 ⟨rfl, k9⟩
    have k10 := kp.go ((Keeps.one _ _).go k9)
    rcases hi : z1m m.Code m.thread m.body x k with _ | _
    · (repeat simp -dsimp -implicitDefEqProofs (disch := omega) only [↓rP, rQ, rO, rL, ↓reduceIte, Nat.reduceEqDiff, Nat.reduceAdd, Nat.reduceLeDiff, z01, z05, ↓tyr])
      have : instrsB m.Code m.thread m.body = false := z2x hx hi
      rw [this]
      exact ⟨rfl, k10⟩
    · (repeat simp -dsimp -implicitDefEqProofs (disch := omega) only [↓rP, rQ, rO, rL, ↓reduceIte, Nat.reduceEqDiff, Nat.reduceAdd, Nat.reduceLeDiff, z01, z05, ↓tyr])
      rw [z0a, ← hI]
      exact ⟨_, by omega, k + 1, by omega, rfl, z2i hup hx hi, k10, by simp⟩
  · have hke : k = (slL m.body.Code).length := by omega
    subst hke
    (repeat simp -dsimp -implicitDefEqProofs (disch := omega) only [↓rP, rQ, rO, rL, ↓reduceIte, Nat.reduceEqDiff, Nat.reduceAdd, Nat.reduceLeDiff, z01, z05, ↓tyr])
    have : instrsB m.Code m.thread m.body = true := upTo_all hup
    rw [this]
    exact ⟨rfl, kp⟩
end Go.Proofs.Ytnggcokgnblpgaa
end

section
/- What the program's functions of codes compute: sections, sites, codes. -/
set_option maxRecDepth 100000
set_option maxHeartbeats 1000000
namespace Go.Proofs.Ytnggcokgnblpgaa
open Go.Abs
theorem wkS (k : Nat) (hk : k ≤ 1000000) : IntKind.i64.wrap ((k : Int) + 1) = ((k + 1 : Nat) : Int) := by rw [wrapI (by omega) (by omega)]; omega
theorem slice_to {α : Type} (sz : Nat) (enc : α → List AV) (o : Option (List α)) (k : Nat) (hk : k ≤ (slL o).length) (kk : IntKind) (K : AV → Prop) : z3y sz (slAV sz enc o) none (some (.int kk (k : Int))) K = K (slAV sz enc (o.map (List.take k))) := by
  cases o with
  | none =>
    have : k = 0 := by simpa using hk
    subst this
    simp [z3y, slAV, bnd]
  | some l =>
    have : k ≤ l.length := by simpa using hk
    simp only [z3y, slAV, bnd, Option.map_some, List.length_map, Int.toNat_natCast, true_and, Int.toNat_zero, List.drop_zero, List.map_take]
    simp; omega
theorem slL_take {α : Type} (o : Option (List α)) (k : Nat) : slL (o.map (List.take k)) = (slL o).take k := by cases o <;> simp
theorem sections_inner (c : Cd) (s : z0e) (k : Nat) (hk : k ≤ (slL c.Sections).length) (hs : (slL c.Sections).length ≤ 1000000) (a1 a9 a10 : AV) (h0 : z04) (id : Nat) (hid : id < h0.next) (ho : h0.objs id = some (.row 51 s.cells)) (Q : z1j → Fr → z04 → Prop)
    (hret : ∀ h2, ((slL c.Sections).take k).all (fun o => !meetB s o) = false → Keeps h0 h2 (fun _ => False) → Q .ret (frOf [(2, .bool false)]) h2)
    (hex : ∀ h2, ((slL c.Sections).take k).all (fun o => !meetB s o) = true → Keeps h0 h2 (fun _ => False) → Q (.exit 2) (frOf [(1, a1), (9, a9), (10, a10), (11, .int .i64 k)]) h2) :
    WP Try.prog 125 (.loop c_code_sections_10) (frOf [(1, a1), (4, .ptr id 0), (9, a9), (10, a10), (11, .int .i64 k), (94, slAV 3 z0e.cells (c.Sections.map (List.take k))), (95, .int .i64 (k : Nat)), (96, .int .i64 0)]) h0 Q := by
  have hl : (slL (c.Sections.map (List.take k))).length = k := by rw [slL_take, List.length_take]; omega
  refine z1u z0v (by kernel_rfl) (fun n fr hh => ∃ j : Nat, j ≤ k ∧ n = k - j ∧ (∀ i o, i < j → (slL c.Sections)[i]? = some o → meetB s o = false) ∧ Keeps h0 hh (fun _ => False) ∧ fr = frOf [(1, a1), (4, .ptr id 0), (9, a9), (10, a10), (11, .int .i64 k), (94, slAV 3 z0e.cells (c.Sections.map (List.take k))), (95, .int .i64 (k : Nat)), (96, .int .i64 j)]) k ⟨0, by omega, by omega, fun i o hi => by omega, .refl _ _, rfl⟩ ?_
  rintro n fr hh ⟨j, hj, rfl, hup, kp, rfl⟩
  apply code_sections_loop10
  generalize hI : (fun (n : Nat) (fr : Fr) (hh : z04) => _) = I
  (repeat simp -dsimp -implicitDefEqProofs (disch := omega) only [↓rP, rQ, rO, rL, ↓reduceIte, Nat.reduceEqDiff, Nat.reduceAdd, Nat.reduceLeDiff, z01, z05, ↓tyr])
  refine z0i (fun hjk => ?_) (fun hjk => ?_)
  · obtain ⟨o, hx⟩ : ∃ o, (slL c.Sections)[j]? = some o := ⟨_, List.getElem?_eq_getElem (by omega)⟩
    have hx2 : (slL (c.Sections.map (List.take k)))[j]? = some o := by rw [slL_take, List.getElem?_take_of_lt (by omega), hx]
    have kp1 : Keeps h0 (hh.push (.row 51 o.cells)) (fun _ => False) := kp.go (Keeps.one _ _)
    have ho2 : (hh.push (.row 51 o.cells)).objs id = some (.row 51 s.cells) := by
      have := kp.next
      simp only [z04.z4u]
      rw [if_neg (by omega), kp.objs id hid (by simp), ho]
    have ld : ∀ (off : Nat) (q : Option Nat) (K : AV → Prop), z02 q (.ptr id off) (hh.push (.row 51 o.cells)) K = z0h q s.cells off K := fun off q K => z0o ho2 q K
    have yes : meetB s o = true → ((slL c.Sections).take k).all (fun o => !meetB s o) = false := fun hm => by
      rw [List.all_eq_false]
      exact ⟨o, List.mem_of_getElem? (i := j) (by rw [List.getElem?_take_of_lt (by omega), hx]), by simp [hm]⟩
    have on : meetB s o = false → loopPost I (k - j) Q .normal (frOf [(1, a1), (4, .ptr id 0), (9, a9), (10, a10), (11, .int .i64 k), (94, slAV 3 z0e.cells (c.Sections.map (List.take k))), (95, .int .i64 (k : Nat)), (96, .int .i64 (IntKind.i64.wrap ((j : Int) + 1)))]) (hh.push (.row 51 o.cells)) := fun hm => by
      rw [z0a, ← hI, wkS j (by omega)]
      refine ⟨_, ?_, j + 1, by omega, rfl, fun i y hi hy => ?_, kp1, rfl⟩
      · omega
      · by_cases e : i = j
        · subst e; rw [hx] at hy; cases hy; exact hm
        · exact hup i y (by omega) hy
    rw [wkS j (by omega)] at on
    repeat' (first | (simp -dsimp -implicitDefEqProofs (disch := omega) only [↓rP, rQ, rO, rL, ↓reduceIte, Nat.reduceEqDiff, Nat.reduceAdd, Nat.reduceLeDiff, z01, z05, ↓tyr, z0d hx2, ↓ld, wkS j (by omega)]) | refine Cut.go ?_ | refine z0x (fun _ => ?_) (fun _ => ?_) | refine z13 (fun _ => ?_) (fun _ => ?_) | refine z0i (fun _ => ?_) (fun _ => ?_) | refine z16 (fun _ => ?_) (fun _ => ?_) | refine Split.intro (fun _ => ?_) (fun _ => ?_))
    all_goals first
      | exact hret _ (yes (by simp [meetB, *])) kp1
      | exact on (by simp [meetB, *]; try omega)
  · have hke : j = k := by omega
    subst hke
    (repeat simp -dsimp -implicitDefEqProofs (disch := omega) only [↓rP, rQ, rO, rL, ↓reduceIte, Nat.reduceEqDiff, Nat.reduceAdd, Nat.reduceLeDiff, z01, z05, ↓tyr])
    refine hex hh ?_ kp
    rw [List.all_eq_true]
    intro o ho'
    obtain ⟨i, hi⟩ := List.getElem?_of_mem ho'
    have hij : i < j := by have := (List.getElem?_eq_some_iff.1 hi).1; rw [List.length_take] at this; omega
    rw [List.getElem?_take_of_lt hij] at hi
    rw [hup i o hij hi]; rfl
theorem code_sections_does (c : Cd) (hc : c.ok) (hs : (slL c.Sections).length ≤ 1000000) (h : z04) : z03 Try.prog 27 [.agg c.cells] h (fun v h2 => v = .bool (sectionsB c) ∧ Keeps h h2 (fun _ => False)) := by
  apply code_sections_wp
  (repeat simp -dsimp -implicitDefEqProofs (disch := omega) only [↓rP, rQ, rO, rL, ↓reduceIte, Nat.reduceEqDiff, Nat.reduceAdd, Nat.reduceLeDiff, z01, z05, ↓tyr])
  refine z1u z0v (by kernel_rfl) (fun n fr hh => ∃ k : Nat, k ≤ (slL c.Sections).length ∧ n = (slL c.Sections).length - k ∧ upTo (secB c) (slL c.Sections) k ∧ Keeps h hh (fun _ => False) ∧ fr = frOf [(1, .iptr c.cells), (9, slAV 3 z0e.cells c.Sections), (10, .int .i64 (slL c.Sections).length), (11, .int .i64 k)]) (slL c.Sections).length ⟨0, by omega, by omega, z2p _ _, .refl _ _, rfl⟩ ?_
  rintro n fr hh ⟨k, hk, rfl, hup, kp, rfl⟩
  apply code_sections_loop2
  generalize hI : (fun (n : Nat) (fr : Fr) (hh : z04) => _) = I
  (repeat simp -dsimp -implicitDefEqProofs (disch := omega) only [↓rP, rQ, rO, rL, ↓reduceIte, Nat.reduceEqDiff, Nat.reduceAdd, Nat.reduceLeDiff, z01, z05, ↓tyr])
  refine z0i (fun hkl => ?_) (fun hkl => ?_)
  · obtain ⟨s, hx⟩ : ∃ s, (slL c.Sections)[k]? = some s := ⟨_, List.getElem?_eq_getElem (by omega)⟩
    have kp1 : Keeps h (hh.push (.row 51 s.cells)) (fun _ => False) := kp.go (Keeps.one _ _)
    have bad : secB c k s = false → sectionsB c = false := fun hb => by unfold sectionsB; rw [z2x hx hb, Bool.and_false]
    (repeat simp -dsimp -implicitDefEqProofs (disch := omega) only [↓rP, rQ, rO, rL, ↓reduceIte, Nat.reduceEqDiff, Nat.reduceAdd, Nat.reduceLeDiff, z01, z05, ↓tyr, z0d hx])
    refine (z1b _ _ _).mono ?_
    rintro _ _ ⟨rfl, rfl⟩
    (repeat simp -dsimp -implicitDefEqProofs (disch := omega) only [↓rP, rQ, rO, rL, ↓reduceIte, Nat.reduceEqDiff, Nat.reduceAdd, Nat.reduceLeDiff, z01, z05, ↓tyr])
    cases hb : getI (slL c.Threads) s.Thread with
    | none =>
      have hbt := z2o.2 hb
      (repeat simp -dsimp -implicitDefEqProofs (disch := omega) only [↓rP, rQ, rO, rL, ↓reduceIte, Nat.reduceEqDiff, Nat.reduceAdd, Nat.reduceLeDiff, z01, z05, ↓tyr, hbt])
      rw [bad (by simp [secB, endsB, z4c, hb])]
      exact ⟨rfl, kp1⟩
    | some b =>
      have hbt := z1l.2 ⟨b, hb⟩
      (repeat simp -dsimp -implicitDefEqProofs (disch := omega) only [↓rP, rQ, rO, rL, ↓reduceIte, Nat.reduceEqDiff, Nat.reduceAdd, Nat.reduceLeDiff, z01, z05, ↓tyr, hbt])
      refine z0i (fun h1 => ?_) (fun h1 => ?_)
      · (repeat simp -dsimp -implicitDefEqProofs (disch := omega) only [↓rP, rQ, rO, rL, ↓reduceIte, Nat.reduceEqDiff, Nat.reduceAdd, Nat.reduceLeDiff, z01, z05, ↓tyr])
        rw [bad (by simp [secB, endsB]; omega)]
        exact ⟨rfl, kp1⟩
      (repeat simp -dsimp -implicitDefEqProofs (disch := omega) only [↓rP, rQ, rO, rL, ↓reduceIte, Nat.reduceEqDiff, Nat.reduceAdd, Nat.reduceLeDiff, z01, z05, ↓tyr])
      refine z16 (fun h2 => ?_) (fun h2 => ?_)
      · (repeat simp -dsimp -implicitDefEqProofs (disch := omega) only [↓rP, rQ, rO, rL, ↓reduceIte, Nat.reduceEqDiff, Nat.reduceAdd, Nat.reduceLeDiff, z01, z05, ↓tyr])
        rw [bad (by simp [secB, endsB]; omega)]
        exact ⟨rfl, kp1⟩
      (repeat simp -dsimp -implicitDefEqProofs (disch := omega) only [↓rP, rQ, rO, rL, ↓reduceIte, Nat.reduceEqDiff, Nat.reduceAdd, Nat.reduceLeDiff, z01, z05, ↓tyr, ixI hb])
      refine z16 (fun h3 => ?_) (fun h3 => ?_)
      · (repeat simp -dsimp -implicitDefEqProofs (disch := omega) only [↓rP, rQ, rO, rL, ↓reduceIte, Nat.reduceEqDiff, Nat.reduceAdd, Nat.reduceLeDiff, z01, z05, ↓tyr])
        have : getI (slL b.Code) s.To = none := z2o.1 (by unfold btw; simp; omega)
        rw [bad (by simp [secB, endsB, z4c, hb, this])]
        exact ⟨rfl, kp1⟩
      obtain ⟨x, hxx⟩ : ∃ x, getI (slL b.Code) s.From = some x := z1l.1 (by unfold btw; simp; omega)
      obtain ⟨y, hyy⟩ : ∃ y, getI (slL b.Code) s.To = some y := z1l.1 (by unfold btw; simp; omega)
      (repeat simp -dsimp -implicitDefEqProofs (disch := omega) only [↓rP, rQ, rO, rL, ↓reduceIte, Nat.reduceEqDiff, Nat.reduceAdd, Nat.reduceLeDiff, z01, z05, ↓tyr, ixI hb, ixI hxx, ixI hyy])
      refine z13 (fun h4 => ?_) (fun h4 => ?_)
      · (repeat simp -dsimp -implicitDefEqProofs (disch := omega) only [↓rP, rQ, rO, rL, ↓reduceIte, Nat.reduceEqDiff, Nat.reduceAdd, Nat.reduceLeDiff, z01, z05, ↓tyr])
        rw [bad (by simp [secB, endsB, z4c, hb, hxx, h4])]
        exact ⟨rfl, kp1⟩
      (repeat simp -dsimp -implicitDefEqProofs (disch := omega) only [↓rP, rQ, rO, rL, ↓reduceIte, Nat.reduceEqDiff, Nat.reduceAdd, Nat.reduceLeDiff, z01, z05, ↓tyr, ixI hb, ixI hxx, ixI hyy])
      refine z13 (fun h5 => ?_) (fun h5 => ?_)
      · (repeat simp -dsimp -implicitDefEqProofs (disch := omega) only [↓rP, rQ, rO, rL, ↓reduceIte, Nat.reduceEqDiff, Nat.reduceAdd, Nat.reduceLeDiff, z01, z05, ↓tyr])
        rw [bad (by simp [secB, endsB, z4c, hb, hxx, h5])]
        exact ⟨rfl, kp1⟩
      (repeat simp -dsimp -implicitDefEqProofs (disch := omega) only [↓rP, rQ, rO, rL, ↓reduceIte, Nat.reduceEqDiff, Nat.reduceAdd, Nat.reduceLeDiff, z01, z05, ↓tyr, ixI hb, ixI hxx, ixI hyy])
      refine z13 (fun h6 => ?_) (fun h6 => ?_)
      · (repeat simp -dsimp -implicitDefEqProofs (disch := omega) only [↓rP, rQ, rO, rL, ↓reduceIte, Nat.reduceEqDiff, Nat.reduceAdd, Nat.reduceLeDiff, z01, z05, ↓tyr])
        rw [bad (by simp [secB, endsB, z4c, hb, hyy, h6])]
        exact ⟨rfl, kp1⟩
      (repeat simp -dsimp -implicitDefEqProofs (disch := omega) only [↓rP, rQ, rO, rL, ↓reduceIte, Nat.reduceEqDiff, Nat.reduceAdd, Nat.reduceLeDiff, z01, z05, ↓tyr, ixI hb, ixI hxx, ixI hyy])
      refine z13 (fun h7 => ?_) (fun h7 => ?_)
      · (repeat simp -dsimp -implicitDefEqProofs (disch := omega) only [↓rP, rQ, rO, rL, ↓reduceIte, Nat.reduceEqDiff, Nat.reduceAdd, Nat.reduceLeDiff, z01, z05, ↓tyr])
        rw [bad (by simp [secB, endsB, z4c, hb, hyy, h7])]
        exact ⟨rfl, kp1⟩
      (repeat simp -dsimp -implicitDefEqProofs (disch := omega) only [↓rP, rQ, rO, rL, ↓reduceIte, Nat.reduceEqDiff, Nat.reduceAdd, Nat.reduceLeDiff, z01, z05, ↓tyr, slice_to 3 z0e.cells c.Sections k hk])
      have hlk : (slL (c.Sections.map (List.take k))).length = k := by rw [slL_take, List.length_take]; omega
      rw [hlk]
      have he : endsB c k s = true := by
        simp only [endsB, z4c, hb, hxx, hyy, h4, h5, h6, h7, decide_true, Bool.and_true, Bool.and_eq_true, decide_eq_true_eq]
        omega
      refine sections_inner c s k hk hs _ _ _ _ _ (by simp) (by simp) _ (fun h2 hm k2 => ?_) (fun h2 hm k2 => ?_)
      · (repeat simp -dsimp -implicitDefEqProofs (disch := omega) only [↓rP, rQ, rO, rL, ↓reduceIte, Nat.reduceEqDiff, Nat.reduceAdd, Nat.reduceLeDiff, z01, z05, ↓tyr])
        rw [bad (by unfold secB; rw [hm, Bool.and_false])]
        exact ⟨rfl, kp1.go k2⟩
      · (repeat simp -dsimp -implicitDefEqProofs (disch := omega) only [↓rP, rQ, rO, rL, ↓reduceIte, Nat.reduceEqDiff, Nat.reduceAdd, Nat.reduceLeDiff, z01, z05, ↓tyr])
        rw [z0a, ← hI]
        exact ⟨_, by omega, k + 1, by omega, rfl, z2i hup hx (by unfold secB; rw [hm, he]; rfl), kp1.go k2, by simp⟩
  · have hke : k = (slL c.Sections).length := by omega
    subst hke
    (repeat simp -dsimp -implicitDefEqProofs (disch := omega) only [↓rP, rQ, rO, rL, ↓reduceIte, Nat.reduceEqDiff, Nat.reduceAdd, Nat.reduceLeDiff, z01, z05, ↓tyr])
    have : allK (secB c) (slL c.Sections) = true := upTo_all hup
    unfold sectionsB
    rw [this]
    refine ⟨by simp; try omega, kp⟩
end Go.Proofs.Ytnggcokgnblpgaa
end

section
/- What the program's functions of codes compute: sites; which codes can be; which slot gets a value. -/
set_option maxRecDepth 100000
set_option maxHeartbeats 1000000
namespace Go.Proofs.Ytnggcokgnblpgaa
open Go.Abs
theorem code_sites_does (c : Cd) (hc : c.ok) (hs : (slL c.Sites).length ≤ 1000000) (h : z04) : z03 Try.prog 28 [.agg c.cells] h (fun v h2 => v = .bool (sitesB c) ∧ Keeps h h2 (fun _ => False)) := by
  apply code_sites_wp
  (repeat (first | simp -dsimp -implicitDefEqProofs (disch := omega) only [↓rP, rQ, rO, rL, ↓reduceIte, Nat.reduceEqDiff, Nat.reduceAdd, Nat.reduceLeDiff, z01, z05, ↓tyr] | refine Cut.go ?_))
  refine z1u z0v (by kernel_rfl) (fun n fr hh => ∃ k : Nat, k ≤ (slL c.Sites).length ∧ n = (slL c.Sites).length - k ∧ upTo (siteOk c) (slL c.Sites) k ∧ Keeps h hh (fun _ => False) ∧ fr = frOf [(1, .iptr c.cells), (7, slAV 3 z15.cells c.Sites), (8, .int .i64 (slL c.Sites).length), (9, .int .i64 k)]) (slL c.Sites).length ⟨0, by omega, by omega, z2p _ _, .refl _ _, rfl⟩ ?_
  rintro n fr hh ⟨k, hk, rfl, hup, kp, rfl⟩
  apply code_sites_loop2
  generalize hI : (fun (n : Nat) (fr : Fr) (hh : z04) => _) = I
  (repeat (first | simp -dsimp -implicitDefEqProofs (disch := omega) only [↓rP, rQ, rO, rL, ↓reduceIte, Nat.reduceEqDiff, Nat.reduceAdd, Nat.reduceLeDiff, z01, z05, ↓tyr] | refine Cut.go ?_))
  refine z0i (fun hkl => ?_) (fun hkl => ?_)
  · obtain ⟨s, hx⟩ : ∃ s, (slL c.Sites)[k]? = some s := ⟨_, List.getElem?_eq_getElem (by omega)⟩
    have kp1 : Keeps h (hh.push (.row 64 s.cells)) (fun _ => False) := kp.go (Keeps.one _ _)
    have bad : siteOk c k s = false → sitesB c = false := fun hb => by unfold sitesB; rw [z2x hx hb, Bool.and_false]
    (repeat (first | simp -dsimp -implicitDefEqProofs (disch := omega) only [↓rP, rQ, rO, rL, ↓reduceIte, Nat.reduceEqDiff, Nat.reduceAdd, Nat.reduceLeDiff, z01, z05, ↓tyr, z0d hx] | refine Cut.go ?_))
    refine (z1b _ _ _).mono ?_
    rintro _ _ ⟨rfl, rfl⟩
    (repeat (first | simp -dsimp -implicitDefEqProofs (disch := omega) only [↓rP, rQ, rO, rL, ↓reduceIte, Nat.reduceEqDiff, Nat.reduceAdd, Nat.reduceLeDiff, z01, z05, ↓tyr] | refine Cut.go ?_))
    cases hb : getI (slL c.Threads) s.Thread with
    | none =>
      have hbt := z2o.2 hb
      (repeat (first | simp -dsimp -implicitDefEqProofs (disch := omega) only [↓rP, rQ, rO, rL, ↓reduceIte, Nat.reduceEqDiff, Nat.reduceAdd, Nat.reduceLeDiff, z01, z05, ↓tyr, hbt] | refine Cut.go ?_))
      rw [bad (by simp [siteOk, z4c, hb])]
      exact ⟨rfl, kp1⟩
    | some b =>
      have hbt := z1l.2 ⟨b, hb⟩
      (repeat (first | simp -dsimp -implicitDefEqProofs (disch := omega) only [↓rP, rQ, rO, rL, ↓reduceIte, Nat.reduceEqDiff, Nat.reduceAdd, Nat.reduceLeDiff, z01, z05, ↓tyr, hbt, ixI hb] | refine Cut.go ?_))
      refine (z1b _ _ _).mono ?_
      rintro _ _ ⟨rfl, rfl⟩
      (repeat (first | simp -dsimp -implicitDefEqProofs (disch := omega) only [↓rP, rQ, rO, rL, ↓reduceIte, Nat.reduceEqDiff, Nat.reduceAdd, Nat.reduceLeDiff, z01, z05, ↓tyr, hbt, ixI hb] | refine Cut.go ?_))
      cases hx2 : getI (slL b.Code) s.At with
      | none =>
        have hbt2 := z2o.2 hx2
        (repeat (first | simp -dsimp -implicitDefEqProofs (disch := omega) only [↓rP, rQ, rO, rL, ↓reduceIte, Nat.reduceEqDiff, Nat.reduceAdd, Nat.reduceLeDiff, z01, z05, ↓tyr, hbt, hbt2] | refine Cut.go ?_))
        rw [bad (by simp [siteOk, z4c, hb, hx2])]
        exact ⟨rfl, kp1⟩
      | some x =>
        have hbt2 := z1l.2 ⟨x, hx2⟩
        have kp2 := kp1.go (Keeps.one _ (.row 45 x.cells))
        have ho2 : ∀ o, ((hh.push (.row 64 s.cells)).push o).objs hh.next = some (.row 64 s.cells) := fun o => by simp
        have ld : ∀ (o : AObj) (off : Nat) (q : Option Nat) (K : AV → Prop), z02 q (.ptr hh.next off) ((hh.push (.row 64 s.cells)).push o) K = z0h q s.cells off K := fun o off q K => z0o (ho2 o) q K
        have on : siteOk c k s = true → loopPost I ((slL c.Sites).length - k) (z1q (fun _ _ => False) (fun x4 fr5 h6 => False) (fun _ _ => False)) .normal (frOf [(1, .iptr c.cells), (7, slAV 3 z15.cells c.Sites), (8, .int .i64 (slL c.Sites).length), (9, .int .i64 (k + 1 : Nat))]) ((hh.push (.row 64 s.cells)).push (.row 45 x.cells)) := fun hm => by
          rw [z0a, ← hI]
          exact ⟨_, by omega, k + 1, by omega, rfl, z2i hup hx hm, kp2, rfl⟩
        simp only [z0a] at on
        repeat' (first | (simp -dsimp -implicitDefEqProofs (disch := omega) only [↓rP, rQ, rO, rL, ↓reduceIte, Nat.reduceEqDiff, Nat.reduceAdd, Nat.reduceLeDiff, z01, z05, ↓tyr, hbt, hbt2, ixI hb, ixI hx2, ↓ld, wkS k (by omega), z0a]) | refine Cut.go ?_ | refine z0x (fun _ => ?_) (fun _ => ?_) | refine z13 (fun _ => ?_) (fun _ => ?_) | refine z0i (fun _ => ?_) (fun _ => ?_) | refine z16 (fun _ => ?_) (fun _ => ?_) | refine Split.intro (fun _ => ?_) (fun _ => ?_))
        all_goals first
          | exact on (by simp [siteOk, z4c, hb, hx2, *]; try omega)
          | (rw [bad (by simp [siteOk, z4c, hb, hx2, *]; try omega)]; exact ⟨rfl, kp2⟩)
  · have hke : k = (slL c.Sites).length := by omega
    subst hke
    (repeat (first | simp -dsimp -implicitDefEqProofs (disch := omega) only [↓rP, rQ, rO, rL, ↓reduceIte, Nat.reduceEqDiff, Nat.reduceAdd, Nat.reduceLeDiff, z01, z05, ↓tyr] | refine Cut.go ?_))
    have : allK (siteOk c) (slL c.Sites) = true := upTo_all hup
    unfold sitesB
    rw [this]
    refine ⟨by simp; try omega, kp⟩
theorem code_Writes_does (x : In) (h : z04) : z03 Try.prog 30 [.agg x.cells] h (fun v h2 => v = .int .i64 (if x.Op = 1 ∨ x.Op = 2 ∨ x.Op = 3 ∨ x.Op = 4 ∨ x.Op = 8 ∨ x.Op = 9 ∨ x.Op = 10 then x.Dst else -1) ∧ h2 = h) := by
  apply code_Writes_wp
  repeat' (first | (simp -dsimp -implicitDefEqProofs (disch := omega) only [↓rP, rQ, rO, rL, ↓reduceIte, Nat.reduceEqDiff, Nat.reduceAdd, Nat.reduceLeDiff, z01, z05, ↓tyr]) | refine Cut.go ?_ | refine z0x (fun _ => ?_) (fun _ => ?_) | refine z13 (fun _ => ?_) (fun _ => ?_) | refine z0i (fun _ => ?_) (fun _ => ?_) | refine z16 (fun _ => ?_) (fun _ => ?_) | refine Split.intro (fun _ => ?_) (fun _ => ?_))
  all_goals simp [*]
theorem code_Good_does (c : Cd) (hc : c.ok) (hs : (slL c.Sections).length ≤ 1000000) (hsi : (slL c.Sites).length ≤ 1000000) (hg : (slL c.Globals).length ≤ 1000000) (hr : ∀ r ∈ slL c.Records, (slL r).length ≤ 1000000) (h : z04) : z03 Try.prog 18 [.agg c.cells] h (fun v h2 => v = .bool (okC c) ∧ Keeps h h2 (fun _ => False)) := by
  apply code_Good_wp
  have e0 : okC c = (decide ((slL c.Records).length ≤ 6) && (decide ((slL c.Threads).length ≤ 4) && (cellsB c (slL c.Globals) 8 && (sectionsB c && (sitesB c && ((slL c.Records).all (fun r => cellsB c (slL r) 6) && threadsB c)))))) := by
    unfold okC; simp only [Bool.and_assoc]
  rw [e0]
  (repeat (first | simp -dsimp -implicitDefEqProofs (disch := omega) only [↓rP, rQ, rO, rL, ↓reduceIte, Nat.reduceEqDiff, Nat.reduceAdd, Nat.reduceLeDiff, z01, z05, ↓tyr] | refine Cut.go ?_))
  refine z0i (fun h1 => ?_) (fun h1 => ?_)
  · (repeat (first | simp -dsimp -implicitDefEqProofs (disch := omega) only [↓rP, rQ, rO, rL, ↓reduceIte, Nat.reduceEqDiff, Nat.reduceAdd, Nat.reduceLeDiff, z01, z05, ↓tyr] | refine Cut.go ?_))
    rw [decide_eq_false (by omega : ¬ (slL c.Records).length ≤ 6)]
    (first | (refine And.intro (by simp) ?_; (repeat (first | assumption | with_reducible exact Keeps.refl _ _ | with_reducible refine Keeps.go ?_ (Keeps.one _ _) | with_reducible refine Keeps.go ?_ (by assumption)))) | (repeat (first | assumption | with_reducible exact Keeps.refl _ _ | with_reducible refine Keeps.go ?_ (Keeps.one _ _) | with_reducible refine Keeps.go ?_ (by assumption))))
  rw [decide_eq_true (by omega : (slL c.Records).length ≤ 6)]
  (repeat (first | simp -dsimp -implicitDefEqProofs (disch := omega) only [↓rP, rQ, rO, rL, ↓reduceIte, Nat.reduceEqDiff, Nat.reduceAdd, Nat.reduceLeDiff, z01, z05, ↓tyr] | refine Cut.go ?_))
  refine z0i (fun h2 => ?_) (fun h2 => ?_)
  · (repeat (first | simp -dsimp -implicitDefEqProofs (disch := omega) only [↓rP, rQ, rO, rL, ↓reduceIte, Nat.reduceEqDiff, Nat.reduceAdd, Nat.reduceLeDiff, z01, z05, ↓tyr] | refine Cut.go ?_))
    rw [decide_eq_false (by omega : ¬ (slL c.Threads).length ≤ 4)]
    (first | (refine And.intro (by simp) ?_; (repeat (first | assumption | with_reducible exact Keeps.refl _ _ | with_reducible refine Keeps.go ?_ (Keeps.one _ _) | with_reducible refine Keeps.go ?_ (by assumption)))) | (repeat (first | assumption | with_reducible exact Keeps.refl _ _ | with_reducible refine Keeps.go ?_ (Keeps.one _ _) | with_reducible refine Keeps.go ?_ (by assumption))))
  rw [decide_eq_true (by omega : (slL c.Threads).length ≤ 4)]
  (repeat (first | simp -dsimp -implicitDefEqProofs (disch := omega) only [↓rP, rQ, rO, rL, ↓reduceIte, Nat.reduceEqDiff, Nat.reduceAdd, Nat.reduceLeDiff, z01, z05, ↓tyr] | refine Cut.go ?_))
  refine (code_cells_does c c.Globals hg 8 _).mono ?_
  rintro _ h ⟨rfl, rfl⟩
  rcases hb1 : cellsB c (slL c.Globals) 8 with _ | _
  · (repeat (first | simp -dsimp -implicitDefEqProofs (disch := omega) only [↓rP, rQ, rO, rL, ↓reduceIte, Nat.reduceEqDiff, Nat.reduceAdd, Nat.reduceLeDiff, z01, z05, ↓tyr, Bool.not_false, Bool.not_true] | refine Cut.go ?_))
    (first | (refine And.intro (by simp) ?_; (repeat (first | assumption | with_reducible exact Keeps.refl _ _ | with_reducible refine Keeps.go ?_ (Keeps.one _ _) | with_reducible refine Keeps.go ?_ (by assumption)))) | (repeat (first | assumption | with_reducible exact Keeps.refl _ _ | with_reducible refine Keeps.go ?_ (Keeps.one _ _) | with_reducible refine Keeps.go ?_ (by assumption))))
  (repeat (first | simp -dsimp -implicitDefEqProofs (disch := omega) only [↓rP, rQ, rO, rL, ↓reduceIte, Nat.reduceEqDiff, Nat.reduceAdd, Nat.reduceLeDiff, z01, z05, ↓tyr, Bool.not_false, Bool.not_true] | refine Cut.go ?_))
  refine (code_sections_does c hc hs _).mono ?_
  rintro _ h3 ⟨rfl, k3⟩
  rcases hb2 : sectionsB c with _ | _
  · (repeat (first | simp -dsimp -implicitDefEqProofs (disch := omega) only [↓rP, rQ, rO, rL, ↓reduceIte, Nat.reduceEqDiff, Nat.reduceAdd, Nat.reduceLeDiff, z01, z05, ↓tyr, Bool.not_false, Bool.not_true] | refine Cut.go ?_))
    (first | (refine And.intro (by simp) ?_; (repeat (first | assumption | with_reducible exact Keeps.refl _ _ | with_reducible refine Keeps.go ?_ (Keeps.one _ _) | with_reducible refine Keeps.go ?_ (by assumption)))) | (repeat (first | assumption | with_reducible exact Keeps.refl _ _ | with_reducible refine Keeps.go ?_ (Keeps.one _ _) | with_reducible refine Keeps.go ?_ (by assumption))))
  (repeat (first | simp -dsimp -implicitDefEqProofs (disch := omega) only [↓rP, rQ, rO, rL, ↓reduceIte, Nat.reduceEqDiff, Nat.reduceAdd, Nat.reduceLeDiff, z01, z05, ↓tyr, Bool.not_false, Bool.not_true] | refine Cut.go ?_))
  refine (code_sites_does c hc hsi _).mono ?_
  rintro _ h4 ⟨rfl, k4⟩
  rcases hb3 : sitesB c with _ | _
  · (repeat (first | simp -dsimp -implicitDefEqProofs (disch := omega) only [↓rP, rQ, rO, rL, ↓reduceIte, Nat.reduceEqDiff, Nat.reduceAdd, Nat.reduceLeDiff, z01, z05, ↓tyr, Bool.not_false, Bool.not_true] | refine Cut.go ?_))
    (first | (refine And.intro (by simp) ?_; (repeat (first | assumption | with_reducible exact Keeps.refl _ _ | with_reducible refine Keeps.go ?_ (Keeps.one _ _) | with_reducible refine Keeps.go ?_ (by assumption)))) | (repeat (first | assumption | with_reducible exact Keeps.refl _ _ | with_reducible refine Keeps.go ?_ (Keeps.one _ _) | with_reducible refine Keeps.go ?_ (by assumption))))
  (repeat (first | simp -dsimp -implicitDefEqProofs (disch := omega) only [↓rP, rQ, rO, rL, ↓reduceIte, Nat.reduceEqDiff, Nat.reduceAdd, Nat.reduceLeDiff, z01, z05, ↓tyr, Bool.not_false, Bool.not_true] | refine Cut.go ?_))
  refine z1u z0v (by kernel_rfl) (fun n fr hh => ∃ k : Nat, k ≤ (slL c.Records).length ∧ n = (slL c.Records).length - k ∧ upTo (fun _ r => cellsB c (slL r) 6) (slL c.Records) k ∧ Keeps h hh (fun _ => False) ∧ fr = frOf [(1, .iptr c.cells), (35, slAV 1 (fun o => [slAV 3 z0f.cells o]) c.Records), (36, .int .i64 (slL c.Records).length), (37, .int .i64 k)]) (slL c.Records).length ⟨0, by omega, by omega, z2p _ _, k3.go k4, rfl⟩ ?_
  rintro n fr hh ⟨k, hk, rfl, hup, kp, rfl⟩
  apply code_Good_loop4
  generalize hI : (fun (n : Nat) (fr : Fr) (hh : z04) => _) = I
  (repeat (first | simp -dsimp -implicitDefEqProofs (disch := omega) only [↓rP, rQ, rO, rL, ↓reduceIte, Nat.reduceEqDiff, Nat.reduceAdd, Nat.reduceLeDiff, z01, z05, ↓tyr] | refine Cut.go ?_))
  refine z0i (fun hkl => ?_) (fun hkl => ?_)
  · obtain ⟨r, hx⟩ : ∃ r, (slL c.Records)[k]? = some r := ⟨_, List.getElem?_eq_getElem (by omega)⟩
    (repeat (first | simp -dsimp -implicitDefEqProofs (disch := omega) only [↓rP, rQ, rO, rL, ↓reduceIte, Nat.reduceEqDiff, Nat.reduceAdd, Nat.reduceLeDiff, z01, z05, ↓tyr, z0d hx] | refine Cut.go ?_))
    refine (code_cells_does c r (hr r (List.mem_of_getElem? hx)) 6 _).mono ?_
    rintro _ hh ⟨rfl, rfl⟩
    rcases hi : cellsB c (slL r) 6 with _ | _
    · (repeat (first | simp -dsimp -implicitDefEqProofs (disch := omega) only [↓rP, rQ, rO, rL, ↓reduceIte, Nat.reduceEqDiff, Nat.reduceAdd, Nat.reduceLeDiff, z01, z05, ↓tyr] | refine Cut.go ?_))
      have : (slL c.Records).all (fun r => cellsB c (slL r) 6) = false := by
        rw [List.all_eq_false]; exact ⟨r, List.mem_of_getElem? hx, by simp [hi]⟩
      rw [this]
      (first | (refine And.intro (by simp) ?_; (repeat (first | assumption | with_reducible exact Keeps.refl _ _ | with_reducible refine Keeps.go ?_ (Keeps.one _ _) | with_reducible refine Keeps.go ?_ (by assumption)))) | (repeat (first | assumption | with_reducible exact Keeps.refl _ _ | with_reducible refine Keeps.go ?_ (Keeps.one _ _) | with_reducible refine Keeps.go ?_ (by assumption))))
    · (repeat (first | simp -dsimp -implicitDefEqProofs (disch := omega) only [↓rP, rQ, rO, rL, ↓reduceIte, Nat.reduceEqDiff, Nat.reduceAdd, Nat.reduceLeDiff, z01, z05, ↓tyr] | refine Cut.go ?_))
      rw [z0a, ← hI]
      exact ⟨_, by omega, k + 1, by omega, rfl, z2i hup hx hi, kp, by simp⟩
  have hke : k = (slL c.Records).length := by omega
  subst hke
  have hall : (slL c.Records).all (fun r => cellsB c (slL r) 6) = true := by
    rw [List.all_eq_true]
    intro r hr'
    obtain ⟨i, hi⟩ := List.getElem?_of_mem hr'
    exact hup i r (List.getElem?_eq_some_iff.1 hi).1 hi
  rw [hall]
  (repeat (first | simp -dsimp -implicitDefEqProofs (disch := omega) only [↓rP, rQ, rO, rL, ↓reduceIte, Nat.reduceEqDiff, Nat.reduceAdd, Nat.reduceLeDiff, z01, z05, ↓tyr] | refine Cut.go ?_))
  refine z1u z0v (by kernel_rfl) (fun n fr hh => ∃ k : Nat, k ≤ (slL c.Threads).length ∧ n = (slL c.Threads).length - k ∧ upTo (fun k b => threadB c k b) (slL c.Threads) k ∧ Keeps h hh (fun _ => False) ∧ fr = frOf [(1, .iptr c.cells), (47, slAV 3 z0z.cells c.Threads), (48, .int .i64 (slL c.Threads).length), (49, .int .i64 k)]) (slL c.Threads).length ⟨0, by omega, by omega, z2p _ _, kp, rfl⟩ ?_
  rintro n fr hh ⟨k, hk, rfl, hup, kp, rfl⟩
  apply code_Good_loop10
  generalize hI : (fun (n : Nat) (fr : Fr) (hh : z04) => _) = I
  (repeat (first | simp -dsimp -implicitDefEqProofs (disch := omega) only [↓rP, rQ, rO, rL, ↓reduceIte, Nat.reduceEqDiff, Nat.reduceAdd, Nat.reduceLeDiff, z01, z05, ↓tyr] | refine Cut.go ?_))
  refine z0i (fun hkl => ?_) (fun hkl => ?_)
  · obtain ⟨b, hx⟩ : ∃ b, (slL c.Threads)[k]? = some b := ⟨_, List.getElem?_eq_getElem (by omega)⟩
    have hbd : ∀ K : AV → Prop, z01 [(0, 5), (5, 1), (6, 3)] [AV.nils, AV.nils, AV.nils, AV.nils, AV.nils, AV.int IntKind.i64 0, AV.nils, AV.nils, AV.int IntKind.i64 0] [(0, .agg c.cells), (1, .int .i64 k), (2, .agg b.cells)] K = K (.agg (z0g.cells ⟨c, k, b⟩)) := fun K => by
      have s1 : ∀ {α : Type} (sz : Nat) (enc : α → List AV) (o : Option (List α)), (slAV sz enc o).fits = true := fits_slAV
      simp [z01, z05, AV.fits, AV.cells, z0n.cells, z0z.cells, z0g.cells]
    (repeat (first | simp -dsimp -implicitDefEqProofs (disch := omega) only [↓rP, rQ, rO, rL, ↓reduceIte, Nat.reduceEqDiff, Nat.reduceAdd, Nat.reduceLeDiff, z01, z05, ↓tyr, z0d hx, ↓hbd] | refine Cut.go ?_))
    refine (code_maker_all_does ⟨c, k, b⟩ ⟨hc, by unfold okI; constructor <;> (simp only; omega), hc.2.2.1.2 b (List.mem_of_getElem? hx)⟩ hs _).mono ?_
    rintro _ h9 ⟨rfl, k9⟩
    have k10 := kp.go ((Keeps.one _ _).go k9)
    rcases hi : threadB c k b with _ | _
    · (repeat (first | simp -dsimp -implicitDefEqProofs (disch := omega) only [↓rP, rQ, rO, rL, ↓reduceIte, Nat.reduceEqDiff, Nat.reduceAdd, Nat.reduceLeDiff, z01, z05, ↓tyr, hi] | refine Cut.go ?_))
      have : threadsB c = false := z2x hx hi
      rw [this]
      exact ⟨rfl, k10⟩
    · (repeat (first | simp -dsimp -implicitDefEqProofs (disch := omega) only [↓rP, rQ, rO, rL, ↓reduceIte, Nat.reduceEqDiff, Nat.reduceAdd, Nat.reduceLeDiff, z01, z05, ↓tyr, hi] | refine Cut.go ?_))
      rw [z0a, ← hI]
      exact ⟨_, by omega, k + 1, by omega, rfl, z2i hup hx hi, k10, by simp⟩
  have hke : k = (slL c.Threads).length := by omega
  subst hke
  (repeat (first | simp -dsimp -implicitDefEqProofs (disch := omega) only [↓rP, rQ, rO, rL, ↓reduceIte, Nat.reduceEqDiff, Nat.reduceAdd, Nat.reduceLeDiff, z01, z05, ↓tyr] | refine Cut.go ?_))
  have : threadsB c = true := upTo_all hup
  rw [this]
  exact ⟨rfl, kp⟩
end Go.Proofs.Ytnggcokgnblpgaa
end

section
/- Which codes are more than is played; what the document tells of two codes. -/
set_option maxRecDepth 100000
set_option maxHeartbeats 1000000
namespace Go.Proofs.Ytnggcokgnblpgaa
open Go.Abs
def greatX (x : In) : Bool := decide (200 < (slL x.Items).length) || decide (200 < (slL x.Index).length)
def greatT (b : Bd) : Bool := decide (300 < (slL b.Slots).length) || decide (600 < (slL b.Code).length) || (slL b.Code).any greatX
def greatB (c : Cd) : Bool := decide (20 < (slL c.Records).length) || (decide (100 < (slL c.Globals).length) || (decide (8 < (slL c.Threads).length) || (decide (100 < (slL c.Sites).length) || (decide (100 < (slL c.Sections).length) || ((slL c.Records).any (fun r => decide (100 < (slL r).length)) || (slL c.Threads).any greatT)))))
theorem any_yes {α : Type} {p : α → Bool} {l : List α} {k : Nat} {x : α} (hx : l[k]? = some x) (hp : p x = true) : l.any p = true := List.any_eq_true.2 ⟨x, List.mem_of_getElem? hx, hp⟩
theorem any_no {α : Type} {p : α → Bool} {l : List α} (h : upTo (fun _ x => !p x) l l.length) : l.any p = false := by
  rw [List.any_eq_false]
  intro x hx
  obtain ⟨k, hk⟩ := List.getElem?_of_mem hx
  have := h k x (List.getElem?_eq_some_iff.1 hk).1 hk
  simpa using this
theorem great_inner (b : Bd) (hcl : (slL b.Code).length ≤ 1000000) (a49 a50 a51 : AV) (h0 : z04) (Q : z1j → Fr → z04 → Prop)
    (hret : ∀ h2, (slL b.Code).any greatX = true → Keeps h0 h2 (fun _ => False) → Q .ret (frOf [(2, .bool true)]) h2)
    (hex : ∀ h2, (slL b.Code).any greatX = false → Keeps h0 h2 (fun _ => False) → Q (.exit 4) (frOf [(49, a49), (50, a50), (51, a51)]) h2) :
    WP Try.prog 84 (.loop z4p) (frOf [(49, a49), (50, a50), (51, a51), (66, slAV 8 z0b.cells b.Code), (67, .int .i64 (slL b.Code).length), (68, .int .i64 0)]) h0 Q := by
  refine z1u z0v (by kernel_rfl) (fun n fr hh => ∃ k : Nat, k ≤ (slL b.Code).length ∧ n = (slL b.Code).length - k ∧ upTo (fun _ x => !greatX x) (slL b.Code) k ∧ Keeps h0 hh (fun _ => False) ∧ fr = frOf [(49, a49), (50, a50), (51, a51), (66, slAV 8 z0b.cells b.Code), (67, .int .i64 (slL b.Code).length), (68, .int .i64 k)]) (slL b.Code).length ⟨0, by omega, by omega, z2p _ _, .refl _ _, rfl⟩ ?_
  rintro n fr hh ⟨k, hk, rfl, hup, kp, rfl⟩
  apply padlockref09_Great_loop15
  generalize hI : (fun (n : Nat) (fr : Fr) (hh : z04) => _) = I
  (repeat simp -dsimp -implicitDefEqProofs (disch := omega) only [↓rP, rQ, rO, rL, ↓reduceIte, Nat.reduceEqDiff, Nat.reduceAdd, Nat.reduceLeDiff, z01, z05, ↓tyr])
  refine z0i (fun hkl => ?_) (fun hkl => ?_)
  · obtain ⟨x, hx⟩ : ∃ x, (slL b.Code)[k]? = some x := ⟨_, List.getElem?_eq_getElem (by omega)⟩
    have kp1 := kp.go (Keeps.one hh (.row 45 x.cells))
    have yes : greatX x = true → Q .ret (frOf [(2, .bool true)]) (hh.push (.row 45 x.cells)) := fun hg => hret _ (any_yes hx hg) kp1
    (repeat simp -dsimp -implicitDefEqProofs (disch := omega) only [↓rP, rQ, rO, rL, ↓reduceIte, Nat.reduceEqDiff, Nat.reduceAdd, Nat.reduceLeDiff, z01, z05, ↓tyr, z0d hx])
    refine z0i (fun h1 => ?_) (fun h1 => ?_)
    · (repeat simp -dsimp -implicitDefEqProofs (disch := omega) only [↓rP, rQ, rO, rL, ↓reduceIte, Nat.reduceEqDiff, Nat.reduceAdd, Nat.reduceLeDiff, z01, z05, ↓tyr])
      exact yes (by simp [greatX]; omega)
    (repeat simp -dsimp -implicitDefEqProofs (disch := omega) only [↓rP, rQ, rO, rL, ↓reduceIte, Nat.reduceEqDiff, Nat.reduceAdd, Nat.reduceLeDiff, z01, z05, ↓tyr])
    refine z0i (fun h2 => ?_) (fun h2 => ?_)
    · (repeat simp -dsimp -implicitDefEqProofs (disch := omega) only [↓rP, rQ, rO, rL, ↓reduceIte, Nat.reduceEqDiff, Nat.reduceAdd, Nat.reduceLeDiff, z01, z05, ↓tyr])
      exact yes (by simp [greatX]; omega)
    · (repeat simp -dsimp -implicitDefEqProofs (disch := omega) only [↓rP, rQ, rO, rL, ↓reduceIte, Nat.reduceEqDiff, Nat.reduceAdd, Nat.reduceLeDiff, z01, z05, ↓tyr, wkS k (by omega)])
      rw [z0a, ← hI]
      exact ⟨_, by omega, k + 1, by omega, rfl, z2i hup hx (by simp [greatX]; omega), kp1, rfl⟩
  · have hke : k = (slL b.Code).length := by omega
    subst hke
    (repeat simp -dsimp -implicitDefEqProofs (disch := omega) only [↓rP, rQ, rO, rL, ↓reduceIte, Nat.reduceEqDiff, Nat.reduceAdd, Nat.reduceLeDiff, z01, z05, ↓tyr])
    exact hex hh (any_no hup) kp
theorem ref_Great_k (c : Cd) (hc : c.ok) (h : z04) : z03 Try.prog 8 [.agg c.cells] h (fun v h2 => v = .bool (greatB c) ∧ Keeps h h2 (fun _ => False)) := by
  apply padlockref09_Great_wp
  unfold greatB
  (repeat simp -dsimp -implicitDefEqProofs (disch := omega) only [↓rP, rQ, rO, rL, ↓reduceIte, Nat.reduceEqDiff, Nat.reduceAdd, Nat.reduceLeDiff, z01, z05, ↓tyr])
  refine z0i (fun h1 => ?_) (fun h1 => ?_)
  · (repeat simp -dsimp -implicitDefEqProofs (disch := omega) only [↓rP, rQ, rO, rL, ↓reduceIte, Nat.reduceEqDiff, Nat.reduceAdd, Nat.reduceLeDiff, z01, z05, ↓tyr])
    rw [decide_eq_true (by omega : 20 < (slL c.Records).length)]
    (first | (refine And.intro (by simp) ?_; (repeat (first | assumption | with_reducible exact Keeps.refl _ _ | with_reducible refine Keeps.go ?_ (Keeps.one _ _) | with_reducible refine Keeps.go ?_ (by assumption)))) | (repeat (first | assumption | with_reducible exact Keeps.refl _ _ | with_reducible refine Keeps.go ?_ (Keeps.one _ _) | with_reducible refine Keeps.go ?_ (by assumption))))
  rw [decide_eq_false (by omega : ¬ 20 < (slL c.Records).length)]
  (repeat simp -dsimp -implicitDefEqProofs (disch := omega) only [↓rP, rQ, rO, rL, ↓reduceIte, Nat.reduceEqDiff, Nat.reduceAdd, Nat.reduceLeDiff, z01, z05, ↓tyr])
  refine z0i (fun h2 => ?_) (fun h2 => ?_)
  · (repeat simp -dsimp -implicitDefEqProofs (disch := omega) only [↓rP, rQ, rO, rL, ↓reduceIte, Nat.reduceEqDiff, Nat.reduceAdd, Nat.reduceLeDiff, z01, z05, ↓tyr])
    rw [decide_eq_true (by omega : 100 < (slL c.Globals).length)]
    (first | (refine And.intro (by simp) ?_; (repeat (first | assumption | with_reducible exact Keeps.refl _ _ | with_reducible refine Keeps.go ?_ (Keeps.one _ _) | with_reducible refine Keeps.go ?_ (by assumption)))) | (repeat (first | assumption | with_reducible exact Keeps.refl _ _ | with_reducible refine Keeps.go ?_ (Keeps.one _ _) | with_reducible refine Keeps.go ?_ (by assumption))))
  rw [decide_eq_false (by omega : ¬ 100 < (slL c.Globals).length)]
  (repeat simp -dsimp -implicitDefEqProofs (disch := omega) only [↓rP, rQ, rO, rL, ↓reduceIte, Nat.reduceEqDiff, Nat.reduceAdd, Nat.reduceLeDiff, z01, z05, ↓tyr])
  refine z0i (fun h3 => ?_) (fun h3 => ?_)
  · (repeat simp -dsimp -implicitDefEqProofs (disch := omega) only [↓rP, rQ, rO, rL, ↓reduceIte, Nat.reduceEqDiff, Nat.reduceAdd, Nat.reduceLeDiff, z01, z05, ↓tyr])
    rw [decide_eq_true (by omega : 8 < (slL c.Threads).length)]
    (first | (refine And.intro (by simp) ?_; (repeat (first | assumption | with_reducible exact Keeps.refl _ _ | with_reducible refine Keeps.go ?_ (Keeps.one _ _) | with_reducible refine Keeps.go ?_ (by assumption)))) | (repeat (first | assumption | with_reducible exact Keeps.refl _ _ | with_reducible refine Keeps.go ?_ (Keeps.one _ _) | with_reducible refine Keeps.go ?_ (by assumption))))
  rw [decide_eq_false (by omega : ¬ 8 < (slL c.Threads).length)]
  (repeat simp -dsimp -implicitDefEqProofs (disch := omega) only [↓rP, rQ, rO, rL, ↓reduceIte, Nat.reduceEqDiff, Nat.reduceAdd, Nat.reduceLeDiff, z01, z05, ↓tyr])
  refine z0i (fun h4 => ?_) (fun h4 => ?_)
  · (repeat simp -dsimp -implicitDefEqProofs (disch := omega) only [↓rP, rQ, rO, rL, ↓reduceIte, Nat.reduceEqDiff, Nat.reduceAdd, Nat.reduceLeDiff, z01, z05, ↓tyr])
    rw [decide_eq_true (by omega : 100 < (slL c.Sites).length)]
    (first | (refine And.intro (by simp) ?_; (repeat (first | assumption | with_reducible exact Keeps.refl _ _ | with_reducible refine Keeps.go ?_ (Keeps.one _ _) | with_reducible refine Keeps.go ?_ (by assumption)))) | (repeat (first | assumption | with_reducible exact Keeps.refl _ _ | with_reducible refine Keeps.go ?_ (Keeps.one _ _) | with_reducible refine Keeps.go ?_ (by assumption))))
  rw [decide_eq_false (by omega : ¬ 100 < (slL c.Sites).length)]
  (repeat simp -dsimp -implicitDefEqProofs (disch := omega) only [↓rP, rQ, rO, rL, ↓reduceIte, Nat.reduceEqDiff, Nat.reduceAdd, Nat.reduceLeDiff, z01, z05, ↓tyr])
  refine z0i (fun h5 => ?_) (fun h5 => ?_)
  · (repeat simp -dsimp -implicitDefEqProofs (disch := omega) only [↓rP, rQ, rO, rL, ↓reduceIte, Nat.reduceEqDiff, Nat.reduceAdd, Nat.reduceLeDiff, z01, z05, ↓tyr])
    rw [decide_eq_true (by omega : 100 < (slL c.Sections).length)]
    (first | (refine And.intro (by simp) ?_; (repeat (first | assumption | with_reducible exact Keeps.refl _ _ | with_reducible refine Keeps.go ?_ (Keeps.one _ _) | with_reducible refine Keeps.go ?_ (by assumption)))) | (repeat (first | assumption | with_reducible exact Keeps.refl _ _ | with_reducible refine Keeps.go ?_ (Keeps.one _ _) | with_reducible refine Keeps.go ?_ (by assumption))))
  rw [decide_eq_false (by omega : ¬ 100 < (slL c.Sections).length)]
  (repeat simp -dsimp -implicitDefEqProofs (disch := omega) only [↓rP, rQ, rO, rL, ↓reduceIte, Nat.reduceEqDiff, Nat.reduceAdd, Nat.reduceLeDiff, z01, z05, ↓tyr])
  refine z1u z0v (by kernel_rfl) (fun n fr hh => ∃ k : Nat, k ≤ (slL c.Records).length ∧ n = (slL c.Records).length - k ∧ upTo (fun _ r => !decide (100 < (slL r).length)) (slL c.Records) k ∧ hh = h ∧ fr = frOf [(1, .iptr c.cells), (38, slAV 1 (fun o => [slAV 3 z0f.cells o]) c.Records), (39, .int .i64 (slL c.Records).length), (40, .int .i64 k)]) (slL c.Records).length ⟨0, by omega, by omega, z2p _ _, rfl, rfl⟩ ?_
  rintro n fr hh ⟨k, hk, rfl, hup, rfl, rfl⟩
  apply padlockref09_Great_loop4
  generalize hI : (fun (n : Nat) (fr : Fr) (hh : z04) => _) = I
  (repeat simp -dsimp -implicitDefEqProofs (disch := omega) only [↓rP, rQ, rO, rL, ↓reduceIte, Nat.reduceEqDiff, Nat.reduceAdd, Nat.reduceLeDiff, z01, z05, ↓tyr])
  refine z0i (fun hkl => ?_) (fun hkl => ?_)
  · obtain ⟨r, hx⟩ : ∃ r, (slL c.Records)[k]? = some r := ⟨_, List.getElem?_eq_getElem (by omega)⟩
    (repeat simp -dsimp -implicitDefEqProofs (disch := omega) only [↓rP, rQ, rO, rL, ↓reduceIte, Nat.reduceEqDiff, Nat.reduceAdd, Nat.reduceLeDiff, z01, z05, ↓tyr, z0d hx])
    refine z0i (fun h6 => ?_) (fun h6 => ?_)
    · (repeat simp -dsimp -implicitDefEqProofs (disch := omega) only [↓rP, rQ, rO, rL, ↓reduceIte, Nat.reduceEqDiff, Nat.reduceAdd, Nat.reduceLeDiff, z01, z05, ↓tyr])
      have : (slL c.Records).any (fun r => decide (100 < (slL r).length)) = true := any_yes hx (by simp; omega)
      rw [this]
      (first | (refine And.intro (by simp) ?_; (repeat (first | assumption | with_reducible exact Keeps.refl _ _ | with_reducible refine Keeps.go ?_ (Keeps.one _ _) | with_reducible refine Keeps.go ?_ (by assumption)))) | (repeat (first | assumption | with_reducible exact Keeps.refl _ _ | with_reducible refine Keeps.go ?_ (Keeps.one _ _) | with_reducible refine Keeps.go ?_ (by assumption))))
    · (repeat simp -dsimp -implicitDefEqProofs (disch := omega) only [↓rP, rQ, rO, rL, ↓reduceIte, Nat.reduceEqDiff, Nat.reduceAdd, Nat.reduceLeDiff, z01, z05, ↓tyr, wkS k (by omega)])
      rw [z0a, ← hI]
      exact ⟨_, by omega, k + 1, by omega, rfl, z2i hup hx (by simp; omega), rfl, rfl⟩
  have hke : k = (slL c.Records).length := by omega
  subst hke
  rw [any_no hup]
  clear hup hI hk hkl
  (repeat simp -dsimp -implicitDefEqProofs (disch := omega) only [↓rP, rQ, rO, rL, ↓reduceIte, Nat.reduceEqDiff, Nat.reduceAdd, Nat.reduceLeDiff, z01, z05, ↓tyr])
  refine z1u z0v (by kernel_rfl) (fun n fr h9 => ∃ k : Nat, k ≤ (slL c.Threads).length ∧ n = (slL c.Threads).length - k ∧ upTo (fun _ b => !greatT b) (slL c.Threads) k ∧ Keeps hh h9 (fun _ => False) ∧ fr = frOf [(49, slAV 3 z0z.cells c.Threads), (50, .int .i64 (slL c.Threads).length), (51, .int .i64 k)]) (slL c.Threads).length ⟨0, by omega, by omega, z2p _ _, .refl _ _, rfl⟩ ?_
  rintro n fr h9 ⟨k, hk, rfl, hup, kp, rfl⟩
  apply padlockref09_Great_loop10
  generalize hI : (fun (n : Nat) (fr : Fr) (hh : z04) => _) = I
  (repeat simp -dsimp -implicitDefEqProofs (disch := omega) only [↓rP, rQ, rO, rL, ↓reduceIte, Nat.reduceEqDiff, Nat.reduceAdd, Nat.reduceLeDiff, z01, z05, ↓tyr])
  refine z0i (fun hkl => ?_) (fun hkl => ?_)
  · obtain ⟨b, hx⟩ : ∃ b, (slL c.Threads)[k]? = some b := ⟨_, List.getElem?_eq_getElem (by omega)⟩
    have kp1 := kp.go (Keeps.one h9 (.row 49 b.cells))
    (repeat simp -dsimp -implicitDefEqProofs (disch := omega) only [↓rP, rQ, rO, rL, ↓reduceIte, Nat.reduceEqDiff, Nat.reduceAdd, Nat.reduceLeDiff, z01, z05, ↓tyr, z0d hx])
    refine z0i (fun h1 => ?_) (fun h1 => ?_)
    · (repeat simp -dsimp -implicitDefEqProofs (disch := omega) only [↓rP, rQ, rO, rL, ↓reduceIte, Nat.reduceEqDiff, Nat.reduceAdd, Nat.reduceLeDiff, z01, z05, ↓tyr])
      have : (slL c.Threads).any greatT = true := any_yes hx (by simp [greatT]; omega)
      rw [this]
      exact ⟨rfl, kp1⟩
    (repeat simp -dsimp -implicitDefEqProofs (disch := omega) only [↓rP, rQ, rO, rL, ↓reduceIte, Nat.reduceEqDiff, Nat.reduceAdd, Nat.reduceLeDiff, z01, z05, ↓tyr])
    refine z0i (fun h2 => ?_) (fun h2 => ?_)
    · (repeat simp -dsimp -implicitDefEqProofs (disch := omega) only [↓rP, rQ, rO, rL, ↓reduceIte, Nat.reduceEqDiff, Nat.reduceAdd, Nat.reduceLeDiff, z01, z05, ↓tyr])
      have : (slL c.Threads).any greatT = true := any_yes hx (by simp [greatT]; omega)
      rw [this]
      exact ⟨rfl, kp1⟩
    (repeat simp -dsimp -implicitDefEqProofs (disch := omega) only [↓rP, rQ, rO, rL, ↓reduceIte, Nat.reduceEqDiff, Nat.reduceAdd, Nat.reduceLeDiff, z01, z05, ↓tyr])
    refine great_inner b (by omega) _ _ _ _ _ (fun h3 hg k3 => ?_) (fun h3 hg k3 => ?_)
    · (repeat simp -dsimp -implicitDefEqProofs (disch := omega) only [↓rP, rQ, rO, rL, ↓reduceIte, Nat.reduceEqDiff, Nat.reduceAdd, Nat.reduceLeDiff, z01, z05, ↓tyr])
      have : (slL c.Threads).any greatT = true := any_yes hx (by unfold greatT; rw [hg]; simp)
      rw [this]
      exact ⟨rfl, kp1.go k3⟩
    · (repeat simp -dsimp -implicitDefEqProofs (disch := omega) only [↓rP, rQ, rO, rL, ↓reduceIte, Nat.reduceEqDiff, Nat.reduceAdd, Nat.reduceLeDiff, z01, z05, ↓tyr, wkS k (by omega)])
      rw [z0a, ← hI]
      exact ⟨_, by omega, k + 1, by omega, rfl, z2i hup hx (by unfold greatT; rw [hg]; simp; omega), kp1.go k3, rfl⟩
  · have hke : k = (slL c.Threads).length := by omega
    subst hke
    (repeat simp -dsimp -implicitDefEqProofs (disch := omega) only [↓rP, rQ, rO, rL, ↓reduceIte, Nat.reduceEqDiff, Nat.reduceAdd, Nat.reduceLeDiff, z01, z05, ↓tyr])
    rw [any_no hup]
    exact ⟨rfl, kp⟩
theorem ref_Great_does (c : Cd) (hc : c.ok) (h : z04) : z03 Try.prog 8 [.agg c.cells] h (fun v h2 => v = .bool (greatB c) ∧ h2 = h) := z03.forget (by simp [z2v]) (ref_Great_k c hc h)
structure Small (c : Cd) : Prop where
  recs : (slL c.Records).length ≤ 20
  globs : (slL c.Globals).length ≤ 100
  threads : (slL c.Threads).length ≤ 8
  sites : (slL c.Sites).length ≤ 100
  secs : (slL c.Sections).length ≤ 100
  fields : ∀ r ∈ slL c.Records, (slL r).length ≤ 100
  slots : ∀ b ∈ slL c.Threads, (slL b.Slots).length ≤ 300
  code : ∀ b ∈ slL c.Threads, (slL b.Code).length ≤ 600
  items : ∀ b ∈ slL c.Threads, ∀ x ∈ slL b.Code, (slL x.Items).length ≤ 200
  index : ∀ b ∈ slL c.Threads, ∀ x ∈ slL b.Code, (slL x.Index).length ≤ 200
theorem small_of {c : Cd} (h : greatB c = false) : Small c := by
  simp only [greatB, Bool.or_eq_false_iff, decide_eq_false_iff_not, List.any_eq_false, greatT, greatX, Bool.or_eq_true, decide_eq_true_eq, not_or, List.any_eq_true, not_exists, not_and] at h
  obtain ⟨h1, h2, h3, h4, h5, h6, h7⟩ := h
  exact ⟨by omega, by omega, by omega, by omega, by omega, fun r hr => by have := h6 r hr; omega, fun b hb => by have := (h7 b hb).1.1; omega, fun b hb => by have := (h7 b hb).1.2; omega, fun b hb x hx => by have := ((h7 b hb).2 x hx).1; omega, fun b hb x hx => by have := ((h7 b hb).2 x hx).2; omega⟩
end Go.Proofs.Ytnggcokgnblpgaa
end

