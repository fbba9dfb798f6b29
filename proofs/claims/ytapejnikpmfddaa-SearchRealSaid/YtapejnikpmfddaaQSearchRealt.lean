/- A part of the claim SearchReal. -/
import Derived.Test.YtapejnikpmfddaaQSearchReals
set_option linter.unusedVariables false
set_option linter.unusedSimpArgs false
namespace Go.Proofs.Ytapejnikpmfddaa.X
open Go.RowKit Go.Proofs.YtapejnikpmfddaaW.PrintWords Go.Proofs.YtapejnikpmfddaaW.PrintMore
def pvd (f : Nat → Bool → Bool) (v : Bool) : Nat → Nat → Bool
 | _, 0 => v
 | i, d + 1 => f i (pvd f v (i + 1) d)
theorem getD_set (l : List Bool) (i j : Nat) (x : Bool) (hi : i < l.length) : (l.set i x).getD j false = if j = i then x else l.getD j false := by
 rw [List.getD_eq_getElem?_getD, List.getElem?_set, List.getD_eq_getElem?_getD]
 by_cases h : i = j
 ·subst h
  rw [if_pos rfl, if_pos rfl, if_pos hi]; rfl
 ·rw [if_neg h, if_neg (fun e => h e.symm)]
theorem pass_spec (f : Nat → Bool → Bool) (n b : Nat) (v : Bool) : ∀ (j : Nat) (out : List Bool), j ≤ n → b < n → out.length = n → (∀ i, j ≤ i → i < n → out.getD i false = pvd f v i (n - i)) → (j = n → out.getD b false = v) → ∀ i, i < n → (passD f n b j out).getD i false = pvd f v i (n - i)
 | 0, out, _, _, _, h, _, i, hi => by rw [passD]; exact h i (Nat.zero_le _) hi
 | j + 1, out, hj, hb, hl, h, hv, i, hi => by
  rw [passD]
  have hx : f j (out.getD (nextS n b j) false) = pvd f v j (n - j) := by
   unfold nextS
   by_cases hlt : j + 1 < n
   ·rw [if_pos hlt, h (j + 1) (Nat.le_refl _) hlt, show n - j = (n - (j + 1)) + 1 by omega]; rfl
   ·rw [if_neg hlt, hv (by omega), show n - j = 1 by omega]; rfl
  refine pass_spec f n b v j _ (by omega) hb (by simp [hl]) (fun i' h1 h2 => ?_) (fun e => by omega) i hi
  rw [getD_set _ _ _ _ (by omega)]
  by_cases e : i' = j
  ·subst e; rw [if_pos rfl]; exact hx
  ·rw [if_neg e]; exact h i' (by omega) h2
theorem pass_get (f : Nat → Bool → Bool) (n b : Nat) (out : List Bool) (hb : b < n) (hl : out.length = n) (i : Nat) (hi : i < n) : (passD f n b n out).getD i false = pvd f (out.getD b false) i (n - i) :=
 pass_spec f n b _ n out (Nat.le_refl _) hb hl (fun i h1 h2 => by omega) (fun _ => rfl) i hi
theorem rep_getD (n : Nat) (x : Bool) (b : Nat) (hb : b < n) : (List.replicate n x).getD b false = x := by
 rw [List.getD_eq_getElem?_getD, List.getElem?_replicate, if_pos hb]; rfl
theorem settle_get (f : Nat → Bool → Bool) (n b : Nat) (first : Bool) (hb : b < n) (i : Nat) (hi : i < n) : (settleS f n b first).getD i false = pvd f (pvd f first b (n - b)) i (n - i) := by
 unfold settleS
 rw [pass_get f n b _ hb (by simp [len_pass]) i hi, pass_get f n b _ hb (by simp) b hb, rep_getD n first b hb]
def MonoB (f : Nat → Bool → Bool) : Prop := ∀ i, f i false = true → f i true = true
theorem pvd_mono {f : Nat → Bool → Bool} (h : MonoB f) : ∀ (d i : Nat), pvd f false i d = true → pvd f true i d = true
 | 0, i, h0 => by cases h0
 | d + 1, i, h0 => by
  simp only [pvd] at h0 ⊢
  cases h1 : pvd f false (i + 1) d with
  | true => rw [h1] at h0; rw [pvd_mono h d (i + 1) h1]; exact h0
  | false =>
   rw [h1] at h0
   cases pvd f true (i + 1) d with
   | true => exact h i h0
   | false => exact h0
theorem pvd_idem {f : Nat → Bool → Bool} (h : MonoB f) (d i : Nat) (v : Bool) : pvd f (pvd f v i d) i d = pvd f v i d := by
 have hm := pvd_mono h d i
 cases v <;> cases h1 : pvd f false i d <;> cases h2 : pvd f true i d <;> simp_all
theorem ext_getD {l m : List Bool} {n : Nat} (hl : l.length = n) (hm : m.length = n) (h : ∀ i, i < n → l.getD i false = m.getD i false) : l = m := by
 apply List.ext_getElem (by omega)
 intro i h1 h2
 have := h i (by omega)
 rwa [List.getD_eq_getElem?_getD, List.getD_eq_getElem?_getD, List.getElem?_eq_getElem h1, List.getElem?_eq_getElem h2] at this
theorem settle_fix {f : Nat → Bool → Bool} (h : MonoB f) (n b : Nat) (first : Bool) (hb : b < n) (i : Nat) (hi : i < n) : (settleS f n b first).getD i false = f i ((settleS f n b first).getD (nextS n b i) false) := by
 rw [settle_get f n b first hb i hi, settle_get f n b first hb _ (nextS_lt hb)]
 unfold nextS
 by_cases hlt : i + 1 < n
 ·rw [if_pos hlt, show n - i = (n - (i + 1)) + 1 by omega]; rfl
 ·rw [if_neg hlt, pvd_idem h, show n - i = 1 by omega]; rfl
theorem settle_const (f : Nat → Bool) (n b : Nat) (first : Bool) (hb : b < n) : settleS (fun i _ => f i) n b first = (List.range n).map f := by
 refine ext_getD (len_settle _ _ _ _) (by simp) (fun i hi => ?_)
 rw [settle_get _ n b first hb i hi, show n - i = (n - (i + 1)) + 1 by omega]
 simp [pvd, hi]
theorem mono_const (f : Nat → Bool) : MonoB (fun i _ => f i) := fun _ h => h
theorem mono_until (p q : Nat → Bool) : MonoB (fun i nx => q i || p i && nx) := fun i h => by cases h1 : q i <;> cases h2 : p i <;> simp_all
theorem mono_release (p q : Nat → Bool) : MonoB (fun i nx => q i && (p i || nx)) := fun i h => by cases h1 : q i <;> cases h2 : p i <;> simp_all
end Go.Proofs.Ytapejnikpmfddaa.X
namespace Go.Proofs.Ytapejnikpmfddaa.L
open Go.RowKit Go.Proofs.YtapejnikpmfddaaW.PrintWords Go.Proofs.YtapejnikpmfddaaW.PrintMore
open Go.Proofs.Ytapejnikpmfddaa.P Go.Proofs.Ytapejnikpmfddaa.Evx Go.Proofs.Ytapejnikpmfddaa.X
theorem movesL_app (sv : Int) : ∀ (L1 L2 : List Bool) (k : Nat), movesL sv (L1 ++ L2) k = (movesL sv L1 k && movesL sv L2 (k + L1.length))
 | [], L2, k => by simp [movesL]
 | x :: r, L2, k => by
  simp only [List.cons_append, movesL, List.length_cons]
  rw [movesL_app sv r L2 (k + 1), Bool.and_assoc, show k + 1 + r.length = k + (r.length + 1) by omega]
theorem getD_map (l : List (List Bool)) (i j : Nat) : (l.map (fun r => r.getD i false)).getD j false = (l.getD j []).getD i false := by
 rw [List.getD_eq_getElem?_getD, List.getElem?_map, List.getD_eq_getElem?_getD (l := l)]
 cases l[j]? <;> simp
theorem val_bit {op m lt : Int} {bit bit' x y : Bool} (h : timedS op = true → bit = bit') : valOp op m lt bit x y = valOp op m lt bit' x y := by
 cases ht : timedS op with
 | true => rw [h ht]
 | false =>
  have h6 : ¬ op = 6 := fun e => by rw [e] at ht; cases ht
  have h7 : ¬ op = 7 := fun e => by rw [e] at ht; cases ht
  have h8 : ¬ op = 8 := fun e => by rw [e] at ht; cases ht
  unfold valOp
  simp only [if_neg h6, if_neg h7, if_neg h8]
theorem timed_cases {op : Int} (h : timedS op = true) : op = 6 ∨ op = 7 ∨ op = 8 := by
 simp only [timedS, Bool.and_eq_true, decide_eq_true_eq] at h
 omega
theorem until_ev {V x y : Nat → Bool} (hs : ∀ i, V i = (y i || x i && V (i + 1))) (hf : ∀ i, ∃ j, i ≤ j ∧ (!V j || y j) = true) : ∀ i, V i = true → ∃ d, y (i + d) = true := by
 intro i hi
 obtain ⟨j, hj, hg⟩ := hf i
 have key : ∀ e i, V i = true → (!V (i + e) || y (i + e)) = true → ∃ d, y (i + d) = true := by
  intro e
  induction e with
  | zero =>
   intro i h1 h2
   rw [Nat.add_zero, h1] at h2
   exact ⟨0, by simpa using h2⟩
  | succ e ih =>
   intro i h1 h2
   cases hy : y i with
   | true => exact ⟨0, hy⟩
   | false =>
    have h3 := hs i
    rw [h1, hy, Bool.false_or] at h3
    have h4 : V (i + 1) = true := by
     have := h3.symm
     rw [Bool.and_eq_true] at this
     exact this.2
    obtain ⟨d, hd⟩ := ih (i + 1) h4 (by rw [show i + 1 + e = i + (e + 1) by omega]; exact h2)
    exact ⟨d + 1, by rw [show i + (d + 1) = i + 1 + d by omega]; exact hd⟩
 exact key (j - i) i hi (by rw [show i + (j - i) = j by omega]; exact hg)
theorem until_up {V W x y : Nat → Bool} (hv : ∀ i, V i = (y i || x i && V (i + 1))) (hw : ∀ i, W i = (y i || x i && W (i + 1))) : ∀ d i, V i = true → y (i + d) = true → W i = true
 | 0, i, _, h2 => by rw [hw i, show y i = true from h2, Bool.true_or]
 | d + 1, i, h1, h2 => by
  rw [hw i]
  cases hy : y i with
  | true => rfl
  | false =>
   have h3 := hv i
   rw [h1, hy, Bool.false_or] at h3
   have h4 := h3.symm
   rw [Bool.and_eq_true] at h4
   rw [h4.1, until_up hv hw d (i + 1) h4.2 (by rw [show i + 1 + d = i + (d + 1) by omega]; exact h2)]; rfl
theorem until_eq {V W x y : Nat → Bool} (hv : ∀ i, V i = (y i || x i && V (i + 1))) (hw : ∀ i, W i = (y i || x i && W (i + 1)))
  (fv : ∀ i, ∃ j, i ≤ j ∧ (!V j || y j) = true) (fw : ∀ i, ∃ j, i ≤ j ∧ (!W j || y j) = true) (i : Nat) : V i = W i := by
 have h1 : V i = true → W i = true := fun h => by
  obtain ⟨d, hd⟩ := until_ev hv fv i h
  exact until_up hv hw d i h hd
 have h2 : W i = true → V i = true := fun h => by
  obtain ⟨d, hd⟩ := until_ev hw fw i h
  exact until_up hw hv d i h hd
 cases a : V i <;> cases b : W i
 ·rfl
 ·exact absurd (h2 b) (by rw [a]; decide)
 ·exact absurd (h1 a) (by rw [b]; decide)
 ·rfl
theorem release_eq {V W x y : Nat → Bool} (hv : ∀ i, V i = (y i && (x i || V (i + 1)))) (hw : ∀ i, W i = (y i && (x i || W (i + 1))))
  (fv : ∀ i, ∃ j, i ≤ j ∧ (V j || !y j) = true) (fw : ∀ i, ∃ j, i ≤ j ∧ (W j || !y j) = true) (i : Nat) : V i = W i := by
 have h := until_eq (V := fun i => !V i) (W := fun i => !W i) (x := fun i => !x i) (y := fun i => !y i) (fun i => by rw [hv i]; cases y i <;> cases x i <;> cases V (i + 1) <;> rfl) (fun i => by rw [hw i]; cases y i <;> cases x i <;> cases W (i + 1) <;> rfl)
  (fun i => by obtain ⟨j, h1, h2⟩ := fv i; exact ⟨j, h1, by simp only [Bool.not_not]; exact h2⟩) (fun i => by obtain ⟨j, h1, h2⟩ := fw i; exact ⟨j, h1, by simp only [Bool.not_not]; exact h2⟩) i
 have := congrArg (fun b => !b) h
 simpa using this
def kid (W : S29 → Nat → Bool) (s : S29) (n i : Nat) : Bool := (s.f2.map (fun g => W g i)).getD n false
structure Truth (σ : Nat → Int) (W : S29 → Nat → Bool) : Prop where
 step : ∀ s, soundS s = true → ∀ i, W s i = valOp s.f0 s.f1 (σ i) (if s.f0 = 6 then kid W s 0 (i + 1) else W s (i + 1)) (kid W s 0 i) (kid W s 1 i)
 fair : ∀ s, soundS s = true → timedS s.f0 = true → ∀ i, ∃ j, i ≤ j ∧ goodOp s.f0 (W s j) (kid W s 1 j) = true
theorem goodL_get (sv lt : Int) (op : Int) (b : Bool) (l : List Bool) (h : timedS op = true) : (ownE op b ++ l).getD 0 false = b := by
 unfold ownE
 rw [if_pos h]; rfl
theorem getD_app_right (A B : List Bool) (i : Nat) : (A ++ B).getD (A.length + i) false = B.getD i false := by
 rw [List.getD_eq_getElem?_getD, List.getElem?_append_right (by omega), List.getD_eq_getElem?_getD, show A.length + i - A.length = i by omega]
theorem getD_app_left (A B : List Bool) (i : Nat) (h : i < A.length) : (A ++ B).getD i false = A.getD i false := by
 rw [List.getD_eq_getElem?_getD, List.getElem?_append_left h, List.getD_eq_getElem?_getD]
section
variable {σ : Nat → Int} {W : S29 → Nat → Bool} {st : Nat → Int}
mutual
theorem val_truth (hT : Truth σ W) : ∀ (s : S29) (k : Nat), soundS s = true → (∀ i, movesL (st i) (saidS (st (i + 1)) (σ (i + 1)) s k) k = true) → (∀ q, q < tnS s → ∀ i, ∃ j, i ≤ j ∧ (goodS (st j) (σ j) s k).getD q false = true) → ∀ i, valS (st i) (σ i) s k = W s i
 | ⟨op, m, kids⟩, k, hs, hm, hg => by
  have hown : ∀ i, movesL (st i) (ownE op (saidOp op ((valL (st (i + 1)) (σ (i + 1)) kids (k + tS op)).getD 0 false) (valS (st (i + 1)) (σ (i + 1)) ⟨op, m, kids⟩ k))) k = true ∧ movesL (st i) (saidL (st (i + 1)) (σ (i + 1)) kids (k + tS op)) (k + tS op) = true := fun i => by
   have h := hm i
   rw [said_eq, movesL_app, len_own, Bool.and_eq_true] at h
   exact h
  have ih := val_truthL hT kids (k + tS op) (sound_kids_all hs) (fun i => (hown i).2) (fun q hq i => by
   obtain ⟨j, h1, h2⟩ := hg (tS op + q) (by rw [tn_eq]; simp only; omega) i
   rw [good_eq] at h2
   have h3 := getD_app_right (ownE op (goodOp op (valS (st j) (σ j) ⟨op, m, kids⟩ k) ((valL (st j) (σ j) kids (k + tS op)).getD 1 false))) (goodL (st j) (σ j) kids (k + tS op)) q
   rw [len_own] at h3
   exact ⟨j, h1, by rw [← h3]; exact h2⟩)
  have hx : ∀ i, (valL (st i) (σ i) kids (k + tS op)).getD 0 false = kid W ⟨op, m, kids⟩ 0 i := fun i => by rw [ih i]; rfl
  have hy : ∀ i, (valL (st i) (σ i) kids (k + tS op)).getD 1 false = kid W ⟨op, m, kids⟩ 1 i := fun i => by rw [ih i]; rfl
  have hv : ∀ i, valS (st i) (σ i) ⟨op, m, kids⟩ k = valOp op m (σ i) (bitK (st i) k) (kid W ⟨op, m, kids⟩ 0 i) (kid W ⟨op, m, kids⟩ 1 i) := fun i => by
   rw [val_eq]
   simp only
   rw [hx i, hy i]
  have hw := hT.step ⟨op, m, kids⟩ hs
  simp only at hw
  cases ht : timedS op with
  | false =>
   intro i
   rw [hv i, hw i]
   exact val_bit (fun h => by rw [ht] at h; cases h)
  | true =>
   have hb : ∀ i, bitK (st i) k = saidOp op (kid W ⟨op, m, kids⟩ 0 (i + 1)) (valS (st (i + 1)) (σ (i + 1)) ⟨op, m, kids⟩ k) := fun i => by
    have h := (hown i).1
    unfold ownE at h
    rw [if_pos ht, hx (i + 1)] at h
    simp only [movesL, Bool.and_true] at h
    exact (beq_iff_eq.1 h).symm
   have hgd : ∀ i, ∃ j, i ≤ j ∧ goodOp op (valS (st j) (σ j) ⟨op, m, kids⟩ k) (kid W ⟨op, m, kids⟩ 1 j) = true := fun i => by
    obtain ⟨j, h1, h2⟩ := hg 0 (by rw [tn_eq]; unfold tS; simp only; rw [if_pos ht]; omega) i
    rw [good_eq, goodL_get (st j) (σ j) _ _ _ ht] at h2
    simp only at h2
    rw [hy j] at h2
    exact ⟨j, h1, h2⟩
   have hfw := hT.fair ⟨op, m, kids⟩ hs ht
   simp only at hfw
   rcases timed_cases ht with h | h | h
   ·subst h
    intro i
    rw [hv i, hw i, hb i]
    rfl
   ·subst h
    refine until_eq (x := fun i => kid W ⟨7, m, kids⟩ 0 i) (y := fun i => kid W ⟨7, m, kids⟩ 1 i) (fun i => ?_) (fun i => ?_) (fun i => ?_) (fun i => ?_)
    ·rw [hv i, hb i]; rfl
    ·rw [hw i]; rfl
    ·obtain ⟨j, h1, h2⟩ := hgd i
     exact ⟨j, h1, h2⟩
    ·obtain ⟨j, h1, h2⟩ := hfw i
     exact ⟨j, h1, h2⟩
   ·subst h
    refine release_eq (x := fun i => kid W ⟨8, m, kids⟩ 0 i) (y := fun i => kid W ⟨8, m, kids⟩ 1 i) (fun i => ?_) (fun i => ?_) (fun i => ?_) (fun i => ?_)
    ·rw [hv i, hb i]; rfl
    ·rw [hw i]; rfl
    ·obtain ⟨j, h1, h2⟩ := hgd i
     exact ⟨j, h1, h2⟩
    ·obtain ⟨j, h1, h2⟩ := hfw i
     exact ⟨j, h1, h2⟩
theorem val_truthL (hT : Truth σ W) : ∀ (l : List S29) (k : Nat), soundL l = true → (∀ i, movesL (st i) (saidL (st (i + 1)) (σ (i + 1)) l k) k = true) → (∀ q, q < tnL l → ∀ i, ∃ j, i ≤ j ∧ (goodL (st j) (σ j) l k).getD q false = true) → ∀ i, valL (st i) (σ i) l k = l.map (fun g => W g i)
 | [], k, _, _, _ => fun i => rfl
 | c :: r, k, hs, hm, hg => by
  simp only [soundL, Bool.and_eq_true] at hs
  have hp : ∀ i, movesL (st i) (saidS (st (i + 1)) (σ (i + 1)) c k) k = true ∧ movesL (st i) (saidL (st (i + 1)) (σ (i + 1)) r (k + tnS c)) (k + tnS c) = true := fun i => by
   have h := hm i
   rw [saidL, movesL_app, len_said, Bool.and_eq_true] at h
   exact h
  have h1 := val_truth hT c k hs.1 (fun i => (hp i).1) (fun q hq i => by
   obtain ⟨j, h1, h2⟩ := hg q (by rw [tnL]; omega) i
   rw [goodL, getD_app_left _ _ _ (by rw [len_good]; exact hq)] at h2
   exact ⟨j, h1, h2⟩)
  have h2 := val_truthL hT r (k + tnS c) hs.2 (fun i => (hp i).2) (fun q hq i => by
   obtain ⟨j, h1, h2⟩ := hg (tnS c + q) (by rw [tnL]; omega) i
   have h3 := getD_app_right (goodS (st j) (σ j) c k) (goodL (st j) (σ j) r (k + tnS c)) q
   rw [len_good] at h3
   rw [goodL, h3] at h2
   exact ⟨j, h1, h2⟩)
  intro i
  rw [valL, h1 i, h2 i, List.map_cons]
end
end
def gdR (ls : List Int) (b i : Nat) (t : S29) : Bool := goodOp t.f0 ((rowS ls b t).getD i false) (((rowL ls b t.f2).getD 1 []).getD i false)
theorem const_get (f : Nat → Bool) (n b : Nat) (first : Bool) (hb : b < n) (i : Nat) (hi : i < n) : (settleS (fun i _ => f i) n b first).getD i false = f i := by
 rw [settle_const f n b first hb, List.getD_eq_getElem?_getD, List.getElem?_map, List.getElem?_range hi]
 rfl
theorem row_step (ls : List Int) (b : Nat) (op m : Int) (x y : List Bool) (hb : b < ls.length) (i : Nat) (hi : i < ls.length) (hop : 0 ≤ kidsS op) :
  (rowOp ls b op m x y).getD i false = valOp op m (ls.getD i 0) (if op = 6 then x.getD (nextS ls.length b i) false else (rowOp ls b op m x y).getD (nextS ls.length b i) false) (x.getD i false) (y.getD i false) := by
 rcases op_cases hop with h | h | h | h | h | h | h | h <;> subst h
 ·exact const_get (fun _ => true) _ _ false hb i hi
 ·exact const_get (fun i => bitS (ls.getD i 0) m) _ _ false hb i hi
 ·exact const_get (fun i => !(x.getD i false)) _ _ false hb i hi
 ·exact const_get (fun i => x.getD i false && y.getD i false) _ _ false hb i hi
 ·exact const_get (fun i => x.getD i false || y.getD i false) _ _ false hb i hi
 ·exact const_get (fun i => x.getD (nextS ls.length b i) false) _ _ false hb i hi
 ·exact settle_fix (mono_until (fun i => x.getD i false) (fun i => y.getD i false)) _ _ false hb i hi
 ·exact settle_fix (mono_release (fun i => x.getD i false) (fun i => y.getD i false)) _ _ true hb i hi
theorem pvd_until (p q : Nat → Bool) : ∀ (d i : Nat), (∀ j, i ≤ j → j < i + d → q j = false) → pvd (fun i nx => q i || p i && nx) false i d = false
 | 0, i, _ => rfl
 | d + 1, i, h => by
  simp only [pvd]
  rw [pvd_until p q d (i + 1) (fun j h1 h2 => h j (by omega) (by omega)), h i (Nat.le_refl _) (by omega)]
  simp
theorem pvd_release (p q : Nat → Bool) : ∀ (d i : Nat), (∀ j, i ≤ j → j < i + d → q j = true) → pvd (fun i nx => q i && (p i || nx)) true i d = true
 | 0, i, _ => rfl
 | d + 1, i, h => by
  simp only [pvd]
  rw [pvd_release p q d (i + 1) (fun j h1 h2 => h j (by omega) (by omega)), h i (Nat.le_refl _) (by omega)]
  simp
theorem settled (ls : List Int) (b : Nat) (hb : b < ls.length) (t : S29) (ht : timedS t.f0 = true) : ∃ i, b ≤ i ∧ i < ls.length ∧ gdR ls b i t = true := by
 have h3 : t.f0 = 6 ∨ t.f0 = 7 ∨ t.f0 = 8 := by
  simp only [timedS, Bool.and_eq_true, decide_eq_true_eq] at ht
  omega
 rcases h3 with h | h | h
 ·exact ⟨b, Nat.le_refl _, hb, by unfold gdR goodOp; rw [if_pos h]⟩
 ·by_cases hq : ∃ j, b ≤ j ∧ j < ls.length ∧ ((rowL ls b t.f2).getD 1 []).getD j false = true
  ·obtain ⟨j, j1, j2, j3⟩ := hq
   refine ⟨j, j1, j2, ?_⟩
   unfold gdR
   rw [h, j3]
   simp [goodOp]
  ·have hall : ∀ j, b ≤ j → j < b + (ls.length - b) → ((rowL ls b t.f2).getD 1 []).getD j false = false := fun j h1 h2 => by
    cases hc : ((rowL ls b t.f2).getD 1 []).getD j false with
    | false => rfl
    | true => exact absurd ⟨j, h1, by omega, hc⟩ hq
   refine ⟨b, Nat.le_refl _, hb, ?_⟩
   have hr : (rowS ls b t).getD b false = false := by
    rw [row_eq, h]
    show (settleS (fun i nx => ((rowL ls b t.f2).getD 1 []).getD i false || ((rowL ls b t.f2).getD 0 []).getD i false && nx) ls.length b false).getD b false = false
    have hx := pvd_until (fun i => ((rowL ls b t.f2).getD 0 []).getD i false) (fun i => ((rowL ls b t.f2).getD 1 []).getD i false) (ls.length - b) b hall
    rw [settle_get _ _ _ _ hb b hb, hx, hx]
   unfold gdR
   rw [h, hr]
   simp [goodOp]
 ·by_cases hq : ∃ j, b ≤ j ∧ j < ls.length ∧ ((rowL ls b t.f2).getD 1 []).getD j false = false
  ·obtain ⟨j, j1, j2, j3⟩ := hq
   refine ⟨j, j1, j2, ?_⟩
   unfold gdR
   rw [h, j3]
   simp [goodOp]
  ·have hall : ∀ j, b ≤ j → j < b + (ls.length - b) → ((rowL ls b t.f2).getD 1 []).getD j false = true := fun j h1 h2 => by
    cases hc : ((rowL ls b t.f2).getD 1 []).getD j false with
    | true => rfl
    | false => exact absurd ⟨j, h1, by omega, hc⟩ hq
   refine ⟨b, Nat.le_refl _, hb, ?_⟩
   have hr : (rowS ls b t).getD b false = true := by
    rw [row_eq, h]
    show (settleS (fun i nx => ((rowL ls b t.f2).getD 1 []).getD i false && (((rowL ls b t.f2).getD 0 []).getD i false || nx)) ls.length b true).getD b false = true
    have hx := pvd_release (fun i => ((rowL ls b t.f2).getD 0 []).getD i false) (fun i => ((rowL ls b t.f2).getD 1 []).getD i false) (ls.length - b) b hall
    rw [settle_get _ _ _ _ hb b hb, hx, hx]
   unfold gdR
   rw [h, hr]
   simp [goodOp]
theorem wraps_i64 (n : Int) (h0 : 0 ≤ n) (h1 : n < 2 ^ 62) : IntKind.i64.wrap n = n := by rw [IntKind.wrap_i64]; omega
theorem div_cast (a k : Nat) : (a : Int) / 2 ^ k = ((a / 2 ^ k : Nat) : Int) := by
 rw [Int.natCast_ediv, Int.natCast_pow]; rfl
theorem bitK_nat (a k : Nat) (h : a < 2 ^ 62) : bitK (a : Int) k = decide (a / 2 ^ k % 2 = 1) := by
 unfold bitK
 rw [div_cast]
 have hlt : a / 2 ^ k < 2 ^ 62 := Nat.lt_of_le_of_lt (Nat.div_le_self _ _) h
 have := Go.bits_mask .i64 62 (by decide) wraps_i64 1 (by decide) ((a / 2 ^ k : Nat) : Int) (Int.natCast_nonneg _) (by exact_mod_cast hlt)
 have e1 : ((2 : Int) ^ 1 - 1) = 1 := by decide
 have e2 : ((2 : Int) ^ 1) = 2 := by decide
 rw [e1, e2] at this
 rw [this]
 generalize a / 2 ^ k = x at *
 by_cases hb : x % 2 = 1
 ·rw [decide_eq_true hb]
  exact beq_iff_eq.2 (by omega)
 ·rw [decide_eq_false hb]
  exact beq_eq_false_iff_ne.2 (by omega)
def numL : List Bool → Nat
 | [] => 0
 | b :: r => b.toNat + 2 * numL r
theorem numL_lt : ∀ l : List Bool, numL l < 2 ^ l.length
 | [] => by simp [numL]
 | b :: r => by
  have := numL_lt r
  have hb : b.toNat ≤ 1 := by cases b <;> decide
  simp only [numL, List.length_cons, Nat.pow_succ]
  omega
theorem moves_num : ∀ (L : List Bool) (k a : Nat), a < 2 ^ 62 → a / 2 ^ k < 2 ^ L.length → movesL (a : Int) L k = decide (a / 2 ^ k = numL L)
 | [], k, a, h1, h2 => by
  have : a / 2 ^ k = 0 := by simpa using h2
  exact (decide_eq_true this).symm
 | b :: r, k, a, h1, h2 => by
  have hc : numL (b :: r) = b.toNat + 2 * numL r := rfl
  show (b == bitK (a : Int) k && movesL (a : Int) r (k + 1)) = _
  have e1 : a / 2 ^ (k + 1) = a / 2 ^ k / 2 := by rw [Nat.pow_succ, Nat.div_div_eq_div_mul]
  simp only [List.length_cons, Nat.pow_succ] at h2
  rw [moves_num r (k + 1) a h1 (by rw [e1]; omega), bitK_nat a k h1, e1]
  generalize a / 2 ^ k = x at *
  generalize numL (b :: r) = y at *
  generalize numL r = z at *
  cases b
  ·have hc : y = 2 * z := by rw [hc]; simp
   by_cases hx : x % 2 = 1
   ·rw [decide_eq_true hx, decide_eq_false (show ¬ x = y by omega)]; rfl
   ·rw [decide_eq_false hx]
    by_cases hy : x / 2 = z
    ·rw [decide_eq_true hy, decide_eq_true (show x = y by omega)]; rfl
    ·rw [decide_eq_false hy, decide_eq_false (show ¬ x = y by omega)]; rfl
  ·have hc : y = 1 + 2 * z := by rw [hc]; simp
   by_cases hx : x % 2 = 1
   ·rw [decide_eq_true hx]
    by_cases hy : x / 2 = z
    ·rw [decide_eq_true hy, decide_eq_true (show x = y by omega)]; rfl
    ·rw [decide_eq_false hy, decide_eq_false (show ¬ x = y by omega)]; rfl
   ·rw [decide_eq_false hx, decide_eq_false (show ¬ x = y by omega)]; rfl
def posn (n b : Nat) : Nat → Nat
 | 0 => 0
 | i + 1 => nextS n b (posn n b i)
theorem posn_lt {n b : Nat} (hb : b < n) : ∀ i, posn n b i < n
 | 0 => by show 0 < n; omega
 | i + 1 => nextS_lt hb
theorem posn_up {n b : Nat} : ∀ (d i : Nat), posn n b i + d < n → posn n b (i + d) = posn n b i + d
 | 0, i, _ => rfl
 | d + 1, i, h => by
  have ih := posn_up (n := n) (b := b) d i (by omega)
  show nextS n b (posn n b (i + d)) = _
  rw [ih]
  unfold nextS
  rw [if_pos (by omega)]; omega
theorem posn_wrap {n b : Nat} (hb : b < n) (i : Nat) : posn n b (i + (n - 1 - posn n b i) + 1) = b := by
 have h := posn_lt hb i
 show nextS n b (posn n b (i + (n - 1 - posn n b i))) = b
 rw [posn_up _ _ (by omega)]
 unfold nextS
 rw [if_neg (by omega)]
theorem posn_hits {n b p : Nat} (hb : b < n) (h1 : b ≤ p) (h2 : p < n) (i : Nat) : ∃ j, i ≤ j ∧ posn n b j = p := by
 have h := posn_wrap hb i
 refine ⟨i + (n - 1 - posn n b i) + 1 + (p - b), by omega, ?_⟩
 rw [posn_up _ _ (by rw [h]; omega), h]; omega
theorem posn_id {n b i : Nat} (h : i < n) : posn n b i = i := by
 have := posn_up (n := n) (b := b) i 0 (by show 0 + i < n; omega)
 rw [Nat.zero_add] at this
 rw [this]
 show 0 + i = i
 omega
theorem posn_per {n b : Nat} (hb : b < n) : ∀ t, posn n b (b + (n - b) + t) = posn n b (b + t)
 | 0 => by
  have h := posn_wrap hb 0
  rw [show posn n b 0 = 0 from rfl, show 0 + (n - 1 - 0) + 1 = b + (n - b) + 0 by omega] at h
  rw [h, Nat.add_zero, posn_id hb]
 | t + 1 => by
  show nextS n b (posn n b (b + (n - b) + t)) = nextS n b (posn n b (b + t))
  rw [posn_per hb t]
theorem rowL_map (ls : List Int) (b : Nat) : ∀ l : List S29, rowL ls b l = l.map (rowS ls b)
 | [] => rfl
 | c :: r => by rw [rowL, rowL_map ls b r, List.map_cons]
def lassoW (ls : List Int) (b : Nat) (s : S29) (i : Nat) : Bool := (rowS ls b s).getD (posn ls.length b i) false
theorem lasso_kid (ls : List Int) (b : Nat) (s : S29) (n i : Nat) : kid (lassoW ls b) s n i = ((rowL ls b s.f2).getD n []).getD (posn ls.length b i) false := by
 unfold kid lassoW
 rw [rowL_map, ← getD_map, List.map_map]; rfl
theorem lasso_truth (ls : List Int) (b : Nat) (hb : b < ls.length) : Truth (fun i => ls.getD (posn ls.length b i) 0) (lassoW ls b) := by
 constructor
 ·intro s hs i
  have h := row_step ls b s.f0 s.f1 ((rowL ls b s.f2).getD 0 []) ((rowL ls b s.f2).getD 1 []) hb (posn ls.length b i) (posn_lt hb i) (sound_parts hs).1
  rw [← row_eq] at h
  rw [lasso_kid, lasso_kid, lasso_kid]
  exact h
 ·intro s hs ht i
  obtain ⟨p, h1, h2, h3⟩ := settled ls b hb s ht
  obtain ⟨j, h4, h5⟩ := posn_hits hb h1 h2 i
  refine ⟨j, h4, ?_⟩
  rw [lasso_kid]
  unfold lassoW
  rw [h5]
  exact h3
theorem aheadN_num (s : Nat) (lt : Int) : ∀ l : List S81, aheadN s lt l = numL (l.map (aheadB s lt))
 | [] => rfl
 | q :: r => by
  rw [aheadN, List.map_cons, numL, aheadN_num s lt r]
  cases aheadB s lt q <;> rfl
theorem bit_shift (a d m k : Nat) (ha : a < 2 ^ 62) (hk : k < m) : bitK (((a / 2 ^ d) % 2 ^ m : Nat) : Int) k = bitK (a : Int) (k + d) := by
 have h1 : (a / 2 ^ d) % 2 ^ m < 2 ^ 62 := Nat.lt_of_le_of_lt (Nat.le_trans (Nat.mod_le _ _) (Nat.div_le_self _ _)) ha
 rw [bitK_nat _ _ h1, bitK_nat _ _ ha, ← Nat.testBit_eq_decide_div_mod_eq, ← Nat.testBit_eq_decide_div_mod_eq, Nat.testBit_mod_two_pow, decide_eq_true hk, Bool.true_and, Nat.testBit_div_two_pow, Nat.add_comm]
mutual
theorem val_shift (a d m : Nat) (lt : Int) (ha : a < 2 ^ 62) : ∀ (s : S29) (k : Nat), k + tnS s ≤ m → valS (((a / 2 ^ d) % 2 ^ m : Nat) : Int) lt s k = valS (a : Int) lt s (k + d)
 | ⟨op, n, kids⟩, k, h => by
  rw [tn_eq] at h
  simp only at h
  rw [val_eq, val_eq]
  simp only
  rw [val_shiftL a d m lt ha kids (k + tS op) (by omega), show k + tS op + d = k + d + tS op by omega]
  refine val_bit (fun ht => bit_shift a d m k ha ?_)
  unfold tS at h
  rw [if_pos ht] at h
  omega
theorem val_shiftL (a d m : Nat) (lt : Int) (ha : a < 2 ^ 62) : ∀ (l : List S29) (k : Nat), k + tnL l ≤ m → valL (((a / 2 ^ d) % 2 ^ m : Nat) : Int) lt l k = valL (a : Int) lt l (k + d)
 | [], k, _ => rfl
 | c :: r, k, h => by
  rw [tnL] at h
  rw [valL, valL, val_shift a d m lt ha c k (by omega), val_shiftL a d m lt ha r (k + tnS c) (by omega), show k + tnS c + d = k + d + tnS c by omega]
end
def ownF (s : S29) : List S29 := if timedS s.f0 = true then [s] else []
theorem times_eq (s : S29) : timesS s = ownF s ++ timesL s.f2 := by cases s; rw [timesS]; rfl
theorem len_ownF (s : S29) : (ownF s).length = tS s.f0 := by unfold ownF tS; split <;> rfl
theorem size_nat {s : S29} (h : mayF s = 0) : sizeS s = ((2 ^ tnS s : Nat) : Int) := by
 unfold sizeS
 rw [if_pos h, Int.natCast_pow]; rfl
theorem part_val (a : Nat) (lt : Int) (ha : a < 2 ^ 62) (t : S29) (i : Nat) (hm : mayF t = 0) (ht : timedS t.f0 = true) : aheadB a lt (secOf t i) = saidOp t.f0 ((valL (a : Int) lt t.f2 (i + tS t.f0)).getD 0 false) (valS (a : Int) lt t i) := by
 have hh := head_may hm
 have key : ∀ f : Nat, valueF (headT t) (((a / 2 ^ f) % 2 ^ tnS (headT t) : Nat) : Int) lt = valS (a : Int) lt (headT t) f := fun f => by
  have hst : stateS (headT t) (((a / 2 ^ f) % 2 ^ tnS (headT t) : Nat) : Int) = true := by
   refine decide_eq_true ?_
   rw [size_nat hh]
   have := Nat.mod_lt (a / 2 ^ f) (Nat.pow_pos (n := tnS (headT t)) (show 0 < 2 by decide))
   omega
  unfold valueF
  rw [if_pos hst, val_shift a f (tnS (headT t)) lt ha (headT t) 0 (by omega), Nat.zero_add]
 have hs := (may_zero hm).2.2.2
 by_cases h6 : t.f0 = 6
 ·have hk : 0 < t.f2.length := by
   have hp := (sound_parts hs).2.1
   rw [h6] at hp
   have h9 : kidsS 6 = 1 := by decide
   omega
  have hsec : aheadB a lt (secOf t i) = valueF (headT t) (((a / 2 ^ (i + 1)) % 2 ^ tnS (headT t) : Nat) : Int) lt := by
   unfold aheadB secOf
   simp only [Int.toNat_natCast, if_pos h6]
  rw [hsec, key (i + 1)]
  have hhd : headT t = t.f2.getD 0 z29 := by unfold headT; rw [if_pos h6]
  rw [hhd, show saidOp t.f0 ((valL (a : Int) lt t.f2 (i + tS t.f0)).getD 0 false) (valS (a : Int) lt t i) = (valL (a : Int) lt t.f2 (i + tS t.f0)).getD 0 false from if_pos h6]
  have hts : tS t.f0 = 1 := by unfold tS; rw [if_pos ht]
  rw [hts]
  match hf : t.f2, hk with
  | c :: r, _ => rfl
 ·have hsec : aheadB a lt (secOf t i) = valueF (headT t) (((a / 2 ^ i) % 2 ^ tnS (headT t) : Nat) : Int) lt := by
   unfold aheadB secOf
   simp only [Int.toNat_natCast, if_neg h6, Nat.add_zero]
  have hhd : headT t = t := by unfold headT; rw [if_neg h6]
  rw [hsec, key i, hhd, show saidOp t.f0 ((valL (a : Int) lt t.f2 (i + tS t.f0)).getD 0 false) (valS (a : Int) lt t i) = valS (a : Int) lt t i from if_neg h6]
mutual
theorem ahead_said (a : Nat) (lt : Int) (ha : a < 2 ^ 62) : ∀ (s : S29) (k : Nat), (∀ t, t ∈ timesS s → mayF t = 0) → (partsOf (timesS s) k).map (aheadB a lt) = saidS (a : Int) lt s k
 | ⟨op, n, kids⟩, k, h => by
  have h' := h
  rw [times_eq] at h' ⊢
  rw [partsOf_app, List.map_append, said_eq, len_ownF]
  have hk := ahead_saidL a lt ha kids (k + tS op) (fun t ht => h' t (List.mem_append_right _ ht))
  simp only at hk ⊢
  rw [hk]
  congr 1
  unfold ownF ownE
  by_cases ht : timedS op = true
  ·rw [if_pos (show timedS (S29.mk op n kids).f0 = true from ht), if_pos ht]
   show [aheadB a lt (secOf ⟨op, n, kids⟩ k)] = _
   have hm : mayF ⟨op, n, kids⟩ = 0 := h' _ (List.mem_append_left _ (by unfold ownF; rw [if_pos (show timedS (S29.mk op n kids).f0 = true from ht)]; exact List.mem_singleton.2 rfl))
   rw [part_val a lt ha ⟨op, n, kids⟩ k hm ht]
  ·rw [if_neg (show ¬ timedS (S29.mk op n kids).f0 = true from ht), if_neg ht]; rfl
theorem ahead_saidL (a : Nat) (lt : Int) (ha : a < 2 ^ 62) : ∀ (l : List S29) (k : Nat), (∀ t, t ∈ timesL l → mayF t = 0) → (partsOf (timesL l) k).map (aheadB a lt) = saidL (a : Int) lt l k
 | [], k, _ => rfl
 | c :: r, k, h => by
  rw [timesL] at h ⊢
  rw [partsOf_app, List.map_append, ahead_said a lt ha c k (fun t ht => h t (List.mem_append_left _ ht)), len_times, ahead_saidL a lt ha r (k + tnS c) (fun t ht => h t (List.mem_append_right _ ht)), saidL]
end
theorem ahead_num {f : S29} (hm : mayF f = 0) (a : Nat) (lt : Int) (ha : a < 2 ^ 62) : aheadN a lt (partsOf (timesS f) 0) = numL (saidS (a : Int) lt f 0) := by
 rw [aheadN_num, ahead_said a lt ha f 0 (fun t ht => (times_sub f t ht).may hm)]
theorem size_pos (f : S29) : 0 < 2 ^ tnS f := Nat.pow_pos (by decide)
theorem size_le {f : S29} (hm : mayF f = 0) : 2 ^ tnS f ≤ 256 := Nat.pow_le_pow_right (n := 2) (by decide) (may_zero hm).2.2.1
section
variable {ls ss : List Int} {nxs : List (List Int)} {f : S29}
theorem divmod {w t n : Nat} (h : t < n) : (w * n + t) / n = w ∧ (w * n + t) % n = t := by
 constructor
 ·rw [Nat.mul_comm, Nat.mul_add_div (by omega), Nat.div_eq_of_lt h, Nat.add_zero]
 ·rw [Nat.mul_comm, Nat.mul_add_mod, Nat.mod_eq_of_lt h]
theorem next_mem (hok : (newPD ls ss nxs f).Ok) {x y : Nat} (hx : x < (newPD ls ss nxs f).N) : y ∈ (newPD ls ss nxs f).next x ↔ ∃ w t, w ∈ (newPD ls ss nxs f).nxs.getD (x / 2 ^ tnS f) [] ∧ t < 2 ^ tnS f ∧ aheadN t (ls.getD w 0) (partsOf (timesS f) 0) = x % 2 ^ tnS f ∧ y = w * 2 ^ tnS f + t := by
 have hd : x / 2 ^ tnS f < ls.length := hok.div hx
 have hmod : x % 2 ^ tnS f < 2 ^ tnS f := Nat.mod_lt _ (size_pos f)
 have hrow : ∀ w, w < ls.length → (newPD ls ss nxs f).after.getD (w * 2 ^ tnS f + x % 2 ^ tnS f) [] = (List.range (2 ^ tnS f)).filter (fun u => aheadN u (ls.getD w 0) (partsOf (timesS f) 0) == x % 2 ^ tnS f) := fun w hw => by
  have hlt : w * 2 ^ tnS f + x % 2 ^ tnS f < 2 ^ tnS f * ls.length := by
   have h1 : (w + 1) * 2 ^ tnS f ≤ ls.length * 2 ^ tnS f := Nat.mul_le_mul_right _ hw
   have h2 : (w + 1) * 2 ^ tnS f = w * 2 ^ tnS f + 2 ^ tnS f := Nat.succ_mul ..
   rw [Nat.mul_comm (2 ^ tnS f) ls.length]
   omega
  show (stageL (partsOf (timesS f) 0) ls (2 ^ tnS f) (2 ^ tnS f * ls.length) ls.length 0).getD _ [] = _
  rw [stage_get hlt]
  unfold stageF
  rw [(divmod hmod).1, (divmod hmod).2, if_pos hw]
 have hE : (newPD ls ss nxs f).next x = ((newPD ls ss nxs f).nxs.getD (x / 2 ^ tnS f) []).flatMap ((newPD ls ss nxs f).nextRow (x % 2 ^ tnS f)) := rfl
 rw [hE, List.mem_flatMap]
 constructor
 ·rintro ⟨w, hw, hy⟩
  have hwl := hok.nx _ hd w hw
  have hR : (newPD ls ss nxs f).nextRow (x % 2 ^ tnS f) w = ((newPD ls ss nxs f).after.getD (w * 2 ^ tnS f + x % 2 ^ tnS f) []).map (fun t => w * 2 ^ tnS f + t) := rfl
  rw [hR, hrow w hwl, List.mem_map] at hy
  obtain ⟨t, ht, rfl⟩ := hy
  rw [List.mem_filter, List.mem_range] at ht
  exact ⟨w, t, hw, ht.1, beq_iff_eq.1 ht.2, rfl⟩
 ·rintro ⟨w, t, hw, ht, ha, rfl⟩
  have hwl := hok.nx _ hd w hw
  refine ⟨w, hw, ?_⟩
  have hR : (newPD ls ss nxs f).nextRow (x % 2 ^ tnS f) w = ((newPD ls ss nxs f).after.getD (w * 2 ^ tnS f + x % 2 ^ tnS f) []).map (fun t => w * 2 ^ tnS f + t) := rfl
  rw [hR, hrow w hwl, List.mem_map]
  exact ⟨t, by rw [List.mem_filter, List.mem_range]; exact ⟨ht, beq_iff_eq.2 ha⟩, rfl⟩
theorem good_eqG (hm : mayF f = 0) {q x : Nat} (hq : q < tnS f) : (newPD ls ss nxs f).good q x = (goodS ((x % 2 ^ tnS f : Nat) : Int) (ls.getD (x / 2 ^ tnS f) 0) f 0).getD q false := by
 have hmod : x % 2 ^ tnS f < 2 ^ tnS f := Nat.mod_lt _ (size_pos f)
 show goodF f (q : Int) ((x % 2 ^ tnS f : Nat) : Int) (ls.getD (x / 2 ^ tnS f) 0) = _
 unfold goodF
 have hst : stateS f ((x % 2 ^ tnS f : Nat) : Int) = true := decide_eq_true (by rw [size_nat hm]; omega)
 rw [hst, decide_eq_true (show (0 : Int) ≤ (q : Int) by omega), decide_eq_true (show (q : Int) < (tnS f : Int) by omega), Int.toNat_natCast]
 rfl
theorem value_eqG (hm : mayF f = 0) {v s : Nat} (hs : s < 2 ^ tnS f) : (newPD ls ss nxs f).value v s = valS ((s : Nat) : Int) (ls.getD v 0) f 0 := by
 show valueF f (s : Int) (ls.getD v 0) = _
 unfold valueF
 rw [if_pos (show stateS f (s : Int) = true from decide_eq_true (by rw [size_nat hm]; omega))]
theorem starts_mem {want : Bool} {x : Nat} : x ∈ (newPD ls ss nxs f).starts want ↔ ∃ v s, v ∈ (newPD ls ss nxs f).ss ∧ s < 2 ^ tnS f ∧ (newPD ls ss nxs f).value v s = want ∧ x = v * 2 ^ tnS f + s := by
 unfold PD.starts PD.startRow
 rw [List.mem_flatMap]
 constructor
 ·rintro ⟨v, hv, hx⟩
  obtain ⟨s, hs, rfl⟩ := List.mem_map.1 hx
  rw [List.mem_filter, List.mem_range] at hs
  exact ⟨v, s, hv, hs.1, beq_iff_eq.1 hs.2, rfl⟩
 ·rintro ⟨v, s, hv, hs, hval, rfl⟩
  exact ⟨v, hv, List.mem_map.2 ⟨s, by rw [List.mem_filter, List.mem_range]; exact ⟨hs, beq_iff_eq.2 hval⟩, rfl⟩⟩
theorem path_truth (hok : (newPD ls ss nxs f).Ok) (hm : mayF f = 0) {x : Nat → Nat} (hN : ∀ i, x i < (newPD ls ss nxs f).N) (hp : ∀ i, x (i + 1) ∈ (newPD ls ss nxs f).next (x i)) (hg : ∀ q, q < tnS f → ∀ i, ∃ j, i ≤ j ∧ (newPD ls ss nxs f).good q (x j) = true)
  {W : S29 → Nat → Bool} (hT : Truth (fun i => ls.getD (x i / 2 ^ tnS f) 0) W) : ∀ i, valS ((x i % 2 ^ tnS f : Nat) : Int) (ls.getD (x i / 2 ^ tnS f) 0) f 0 = W f i := by
 have h256 := size_le hm
 refine val_truth (st := fun i => ((x i % 2 ^ tnS f : Nat) : Int)) hT f 0 (may_zero hm).2.2.2 (fun i => ?_) (fun q hq i => ?_)
 ·obtain ⟨w, t, hw, ht, ha, e⟩ := (next_mem hok (hN i)).1 (hp i)
  have hmod : x i % 2 ^ tnS f < 2 ^ tnS f := Nat.mod_lt _ (size_pos f)
  rw [e, (divmod ht).1, (divmod ht).2, moves_num _ 0 (x i % 2 ^ tnS f) (by omega) (by rw [len_said, Nat.pow_zero, Nat.div_one]; exact hmod), Nat.pow_zero, Nat.div_one]
  rw [ahead_num hm t _ (by omega)] at ha
  exact decide_eq_true ha.symm
 ·obtain ⟨j, h1, h2⟩ := hg q hq i
  exact ⟨j, h1, by rw [good_eqG hm hq] at h2; exact h2⟩
theorem way_step {nx : Nat → List Nat} {inn : Nat → Bool} : ∀ (l : List Nat), Sg.IsWay nx inn l → ∀ i, i + 1 < l.length → l.getD (i + 1) 0 ∈ nx (l.getD i 0)
 | [], _, i, h => by simp at h
 | [a], _, i, h => by simp at h
 | a :: b :: r, hw, 0, _ => hw.1
 | a :: b :: r, hw, i + 1, h => way_step (b :: r) hw.2.2 i (by simpa using h)
theorem found_path (hok : (newPD ls ss nxs f).Ok) (hm : mayF f = 0) {want : Bool} {a c : List Nat} (h : findG ls ss nxs f want = some (a, c)) :
  a.length < (a ++ c).length ∧ (∀ i, (a ++ c).getD (posn (a ++ c).length a.length i) 0 < (newPD ls ss nxs f).N) ∧ (a ++ c).getD 0 0 ∈ (newPD ls ss nxs f).starts want ∧
  (∀ i, (a ++ c).getD (posn (a ++ c).length a.length (i + 1)) 0 ∈ (newPD ls ss nxs f).next ((a ++ c).getD (posn (a ++ c).length a.length i) 0)) ∧
  (∀ q, q < tnS f → ∀ i, ∃ j, i ≤ j ∧ (newPD ls ss nxs f).good q ((a ++ c).getD (posn (a ++ c).length a.length j) 0) = true) := by
 have hs := Sg.find_spec (nx := (newPD ls ss nxs f).next) (good := (newPD ls ss nxs f).good) (N := (newPD ls ss nxs f).N) (P := (newPD ls ss nxs f).P) (frm := (newPD ls ss nxs f).starts want) (fun x hx y hy => hok.next_lt hx hy) (fun x hx => hok.starts_lt want hx)
 have h' : Sg.findF (newPD ls ss nxs f).next (newPD ls ss nxs f).good (newPD ls ss nxs f).N (newPD ls ss nxs f).P ((newPD ls ss nxs f).starts want) = some (a, c) := h
 rw [h'] at hs
 obtain ⟨⟨x0, r, ec, hway⟩, ⟨b0, r0, e0, hst⟩, hgood⟩ := hs
 have hlc : 0 < c.length := by rw [ec]; simp
 have hla : (a ++ c).length = a.length + c.length := List.length_append
 have hb : a.length < (a ++ c).length := by omega
 have h00 : (a ++ c).getD 0 0 = b0 := by rw [e0]; rfl
 have hx0 : (a ++ c).getD a.length 0 = x0 := by rw [List.getD_eq_getElem?_getD, List.getElem?_append_right (Nat.le_refl _), Nat.sub_self, ec]; rfl
 have hpp : (newPD ls ss nxs f).P = tnS f := by
  show (partsOf (timesS f) 0).length = tnS f
  rw [len_partsOf, len_times]
 have hstep : ∀ i, (a ++ c).getD (posn (a ++ c).length a.length (i + 1)) 0 ∈ (newPD ls ss nxs f).next ((a ++ c).getD (posn (a ++ c).length a.length i) 0) := fun i => by
  have hp := posn_lt hb i
  have e1 : posn (a ++ c).length a.length (i + 1) = nextS (a ++ c).length a.length (posn (a ++ c).length a.length i) := rfl
  rw [e1]
  generalize posn (a ++ c).length a.length i = p at hp ⊢
  have hw := way_step _ hway p (by rw [List.length_append, List.length_singleton]; omega)
  have g1 : (a ++ c ++ [x0]).getD p 0 = (a ++ c).getD p 0 := by rw [List.getD_eq_getElem?_getD, List.getElem?_append_left hp, List.getD_eq_getElem?_getD]
  rw [g1] at hw
  unfold nextS
  by_cases hn : p + 1 < (a ++ c).length
  ·rw [if_pos hn]
   have g2 : (a ++ c ++ [x0]).getD (p + 1) 0 = (a ++ c).getD (p + 1) 0 := by rw [List.getD_eq_getElem?_getD, List.getElem?_append_left hn, List.getD_eq_getElem?_getD]
   rw [g2] at hw
   exact hw
  ·rw [if_neg hn, hx0]
   have g2 : (a ++ c ++ [x0]).getD (p + 1) 0 = x0 := by rw [List.getD_eq_getElem?_getD, List.getElem?_append_right (by omega), show p + 1 - (a ++ c).length = 0 by omega]; rfl
   rw [g2] at hw
   exact hw
 have h0 : (a ++ c).getD 0 0 ∈ (newPD ls ss nxs f).starts want := by rw [h00]; exact hst
 have hlt : ∀ i, (a ++ c).getD (posn (a ++ c).length a.length i) 0 < (newPD ls ss nxs f).N := by
  intro i
  induction i with
  | zero => exact hok.starts_lt want h0
  | succ i ih => exact hok.next_lt ih (hstep i)
 refine ⟨hb, hlt, h0, hstep, fun q hq i => ?_⟩
 obtain ⟨y, hy, hgy⟩ := hgood q (by rw [hpp]; exact hq)
 obtain ⟨p, hp, e⟩ := List.getElem_of_mem hy
 obtain ⟨j, h1, h2⟩ := posn_hits hb (show a.length ≤ a.length + p by omega) (by omega) i
 refine ⟨j, h1, ?_⟩
 rw [h2, List.getD_eq_getElem?_getD, List.getElem?_append_right (by omega), Nat.add_sub_cancel_left, List.getElem?_eq_getElem hp]
 show (newPD ls ss nxs f).good q (c[p]'hp) = true
 rw [e]
 exact hgy
theorem found_truth (hok : (newPD ls ss nxs f).Ok) (hm : mayF f = 0) {want : Bool} {a c : List Nat} (h : findG ls ss nxs f want = some (a, c)) {W : S29 → Nat → Bool}
  (hT : Truth (fun i => ls.getD ((a ++ c).getD (posn (a ++ c).length a.length i) 0 / 2 ^ tnS f) 0) W) : W f 0 = want := by
 obtain ⟨hb, hN, h0, hp, hg⟩ := found_path hok hm h
 have hv := path_truth hok hm (x := fun i => (a ++ c).getD (posn (a ++ c).length a.length i) 0) hN hp hg hT 0
 rw [show posn (a ++ c).length a.length 0 = 0 from rfl] at hv
 obtain ⟨v, s, hv0, hs, hval, e⟩ := starts_mem.1 h0
 rw [e, (divmod hs).1, (divmod hs).2] at hv
 rw [← hv, ← value_eqG (ss := ss) (nxs := nxs) hm hs, hval]
theorem found_verts (hok : (newPD ls ss nxs f).Ok) (hm : mayF f = 0) {want : Bool} {a c : List Nat} (h : findG ls ss nxs f want = some (a, c)) :
  (a ++ c).getD 0 0 / 2 ^ tnS f ∈ (newPD ls ss nxs f).ss ∧ (∀ i, (a ++ c).getD (posn (a ++ c).length a.length i) 0 / 2 ^ tnS f < ls.length) ∧ ∀ i, (a ++ c).getD (posn (a ++ c).length a.length (i + 1)) 0 / 2 ^ tnS f ∈ (newPD ls ss nxs f).nxs.getD ((a ++ c).getD (posn (a ++ c).length a.length i) 0 / 2 ^ tnS f) [] := by
 obtain ⟨hb, hN, h0, hp, hg⟩ := found_path hok hm h
 refine ⟨?_, fun i => hok.div (hN i), fun i => ?_⟩
 ·obtain ⟨v, s, hv0, hs, hval, e⟩ := starts_mem.1 h0
  rw [e, (divmod hs).1]; exact hv0
 ·obtain ⟨w, t, hw, ht, ha, e⟩ := (next_mem hok (hN i)).1 (hp i)
  rw [e, (divmod ht).1]; exact hw
def nwW (W : S29 → Nat → Bool) (i : Nat) (t : S29) : Bool := if t.f0 = 6 then kid W t 0 i else W t i
def gdW (W : S29 → Nat → Bool) (i : Nat) (t : S29) : Bool := goodOp t.f0 (W t i) (kid W t 1 i)
end
section
variable {σ : Nat → Int} {W : S29 → Nat → Bool} {sv : Int} {i : Nat}
theorem moves_part {s : S29} {k : Nat} (h : movesL sv ((timesS s).map (nwW W (i + 1))) k = true) : (timedS s.f0 = true → bitK sv k = nwW W (i + 1) s) ∧ movesL sv ((timesL s.f2).map (nwW W (i + 1))) (k + tS s.f0) = true := by
 rw [times_eq, List.map_append, movesL_app, Bool.and_eq_true] at h
 have hl : ((ownF s).map (nwW W (i + 1))).length = tS s.f0 := by rw [List.length_map, len_ownF]
 rw [hl] at h
 refine ⟨fun ht => ?_, h.2⟩
 have h1 := h.1
 unfold ownF at h1
 rw [if_pos ht] at h1
 simp only [List.map_cons, List.map_nil, movesL, Bool.and_true] at h1
 exact (beq_iff_eq.1 h1).symm
mutual
theorem val_of (hT : Truth σ W) : ∀ (s : S29) (k : Nat), soundS s = true → movesL sv ((timesS s).map (nwW W (i + 1))) k = true → valS sv (σ i) s k = W s i
 | ⟨op, m, kids⟩, k, hs, hm => by
  have hp := moves_part hm
  have ih := val_ofL hT kids (k + tS op) (sound_kids_all hs) hp.2
  rw [val_eq, hT.step ⟨op, m, kids⟩ hs i]
  simp only
  rw [ih]
  refine val_bit (fun ht => ?_)
  rw [hp.1 ht]
  rfl
theorem val_ofL (hT : Truth σ W) : ∀ (l : List S29) (k : Nat), soundL l = true → movesL sv ((timesL l).map (nwW W (i + 1))) k = true → valL sv (σ i) l k = l.map (fun g => W g i)
 | [], k, _, _ => rfl
 | c :: r, k, hs, hm => by
  simp only [soundL, Bool.and_eq_true] at hs
  rw [timesL, List.map_append, movesL_app, Bool.and_eq_true, List.length_map, len_times] at hm
  rw [valL, val_of hT c k hs.1 hm.1, val_ofL hT r _ hs.2 hm.2, List.map_cons]
end
mutual
theorem said_of (hT : Truth σ W) : ∀ (s : S29) (k : Nat), soundS s = true → movesL sv ((timesS s).map (nwW W (i + 1))) k = true → saidS sv (σ i) s k = (timesS s).map (nwW W i)
 | ⟨op, m, kids⟩, k, hs, hm => by
  have hp := moves_part hm
  have hv := val_of hT ⟨op, m, kids⟩ k hs hm
  have hk := val_ofL hT kids (k + tS op) (sound_kids_all hs) hp.2
  rw [times_eq, List.map_append, said_eq, said_ofL hT kids _ (sound_kids_all hs) hp.2, hv]
  simp only
  rw [hk]
  congr 1
  unfold ownE ownF
  by_cases ht : timedS op = true
  ·rw [if_pos ht, if_pos (show timedS (S29.mk op m kids).f0 = true from ht)]; rfl
  ·rw [if_neg ht, if_neg (show ¬ timedS (S29.mk op m kids).f0 = true from ht)]; rfl
theorem said_ofL (hT : Truth σ W) : ∀ (l : List S29) (k : Nat), soundL l = true → movesL sv ((timesL l).map (nwW W (i + 1))) k = true → saidL sv (σ i) l k = (timesL l).map (nwW W i)
 | [], k, _, _ => rfl
 | c :: r, k, hs, hm => by
  simp only [soundL, Bool.and_eq_true] at hs
  rw [timesL, List.map_append, movesL_app, Bool.and_eq_true, List.length_map, len_times] at hm
  rw [timesL, List.map_append, saidL, said_of hT c k hs.1 hm.1, said_ofL hT r _ hs.2 hm.2]
end
mutual
theorem good_of (hT : Truth σ W) : ∀ (s : S29) (k : Nat), soundS s = true → movesL sv ((timesS s).map (nwW W (i + 1))) k = true → goodS sv (σ i) s k = (timesS s).map (gdW W i)
 | ⟨op, m, kids⟩, k, hs, hm => by
  have hp := moves_part hm
  have hv := val_of hT ⟨op, m, kids⟩ k hs hm
  have hk := val_ofL hT kids (k + tS op) (sound_kids_all hs) hp.2
  rw [times_eq, List.map_append, good_eq, good_ofL hT kids _ (sound_kids_all hs) hp.2, hv]
  simp only
  rw [hk]
  congr 1
  unfold ownE ownF
  by_cases ht : timedS op = true
  ·rw [if_pos ht, if_pos (show timedS (S29.mk op m kids).f0 = true from ht)]; rfl
  ·rw [if_neg ht, if_neg (show ¬ timedS (S29.mk op m kids).f0 = true from ht)]; rfl
theorem good_ofL (hT : Truth σ W) : ∀ (l : List S29) (k : Nat), soundL l = true → movesL sv ((timesL l).map (nwW W (i + 1))) k = true → goodL sv (σ i) l k = (timesL l).map (gdW W i)
 | [], k, _, _ => rfl
 | c :: r, k, hs, hm => by
  simp only [soundL, Bool.and_eq_true] at hs
  rw [timesL, List.map_append, movesL_app, Bool.and_eq_true, List.length_map, len_times] at hm
  rw [timesL, List.map_append, goodL, good_of hT c k hs.1 hm.1, good_ofL hT r _ hs.2 hm.2]
end
end
mutual
theorem times_own : ∀ (s t : S29), t ∈ timesS s → timedS t.f0 = true
 | ⟨op, m, kids⟩, t, h => by
  rw [times_eq] at h
  rcases List.mem_append.1 h with h | h
  ·unfold ownF at h
   split at h
   ·rename_i ho
    rw [List.mem_singleton.1 h]; exact ho
   ·cases h
  ·exact times_ownL kids t h
theorem times_ownL : ∀ (l : List S29) (t : S29), t ∈ timesL l → timedS t.f0 = true
 | [], t, h => by simp [timesL] at h
 | c :: r, t, h => by
  rw [timesL] at h
  rcases List.mem_append.1 h with h | h
  ·exact times_own c t h
  ·exact times_ownL r t h
end
theorem reach_path {nx : Nat → List Nat} {x : Nat → Nat} (hp : ∀ i, x (i + 1) ∈ nx (x i)) : ∀ d i, Sg.Reach nx (x i) (x (i + d))
 | 0, i => Sg.Reach.refl _
 | d + 1, i => (reach_path hp d i).snoc (hp (i + d))
section
variable {ls ss : List Int} {nxs : List (List Int)} {f : S29}
theorem truth_found (hok : (newPD ls ss nxs f).Ok) (hm : mayF f = 0) {want : Bool} (h : findG ls ss nxs f want = none) {v : Nat → Nat} (hv0 : v 0 ∈ (newPD ls ss nxs f).ss) (hvl : ∀ i, v i < ls.length) (hv : ∀ i, v (i + 1) ∈ (newPD ls ss nxs f).nxs.getD (v i) [])
  {W : S29 → Nat → Bool} (hT : Truth (fun i => ls.getD (v i) 0) W) {b p : Nat} (hp0 : 0 < p) (hper : ∀ i, b ≤ i → v (i + p) = v i) (hperW : ∀ s i, soundS s = true → b ≤ i → W s (i + p) = W s i) : W f 0 ≠ want := by
 intro hw
 have hs := (may_zero hm).2.2.2
 have h256 := size_le hm
 have hspec := Sg.find_spec (nx := (newPD ls ss nxs f).next) (good := (newPD ls ss nxs f).good) (N := (newPD ls ss nxs f).N) (P := (newPD ls ss nxs f).P) (frm := (newPD ls ss nxs f).starts want) (fun x hx y hy => hok.next_lt hx hy) (fun x hx => hok.starts_lt want hx)
 have h' : Sg.findF (newPD ls ss nxs f).next (newPD ls ss nxs f).good (newPD ls ss nxs f).N (newPD ls ss nxs f).P ((newPD ls ss nxs f).starts want) = none := h
 rw [h'] at hspec
 have hpp : (newPD ls ss nxs f).P = tnS f := by
  show (partsOf (timesS f) 0).length = tnS f
  rw [len_partsOf, len_times]
 obtain ⟨t, ht⟩ : ∃ t : Nat → Nat, ∀ i, t i = numL ((timesS f).map (nwW W (i + 1))) := ⟨fun i => numL ((timesS f).map (nwW W (i + 1))), fun _ => rfl⟩
 have htl : ∀ i, t i < 2 ^ tnS f := fun i => by
  rw [ht i]
  have := numL_lt ((timesS f).map (nwW W (i + 1)))
  rwa [List.length_map, len_times] at this
 have hmv : ∀ i, movesL ((t i : Nat) : Int) ((timesS f).map (nwW W (i + 1))) 0 = true := fun i => by
  have := htl i
  rw [moves_num _ 0 (t i) (by omega) (by rw [List.length_map, len_times, Nat.pow_zero, Nat.div_one]; exact htl i), Nat.pow_zero, Nat.div_one, ht i]
  exact decide_eq_true rfl
 have hval : ∀ i, valS ((t i : Nat) : Int) (ls.getD (v i) 0) f 0 = W f i := fun i => val_of hT f 0 hs (hmv i)
 have hsaid : ∀ i, saidS ((t i : Nat) : Int) (ls.getD (v i) 0) f 0 = (timesS f).map (nwW W i) := fun i => said_of hT f 0 hs (hmv i)
 have hgood : ∀ i, goodS ((t i : Nat) : Int) (ls.getD (v i) 0) f 0 = (timesS f).map (gdW W i) := fun i => good_of hT f 0 hs (hmv i)
 obtain ⟨x, hx⟩ : ∃ x : Nat → Nat, ∀ i, x i = v i * 2 ^ tnS f + t i := ⟨fun i => v i * 2 ^ tnS f + t i, fun _ => rfl⟩
 have hxd : ∀ i, x i / 2 ^ tnS f = v i := fun i => by rw [hx i, (divmod (htl i)).1]
 have hxm : ∀ i, x i % 2 ^ tnS f = t i := fun i => by rw [hx i, (divmod (htl i)).2]
 have hxN : ∀ i, x i < (newPD ls ss nxs f).N := fun i => by
  have h1 : (v i + 1) * 2 ^ tnS f ≤ ls.length * 2 ^ tnS f := Nat.mul_le_mul_right _ (hvl i)
  have h2 : (v i + 1) * 2 ^ tnS f = v i * 2 ^ tnS f + 2 ^ tnS f := Nat.succ_mul ..
  have h3 := htl i
  show x i < 2 ^ tnS f * ls.length
  rw [hx i, Nat.mul_comm (2 ^ tnS f) ls.length]
  omega
 have hpath : ∀ i, x (i + 1) ∈ (newPD ls ss nxs f).next (x i) := fun i => by
  refine (next_mem hok (hxN i)).2 ⟨v (i + 1), t (i + 1), by rw [hxd i]; exact hv i, htl (i + 1), ?_, hx (i + 1)⟩
  have := htl (i + 1)
  rw [hxm i, ahead_num hm (t (i + 1)) _ (by omega), hsaid (i + 1), ht i]
 have hst : x 0 ∈ (newPD ls ss nxs f).starts want := by
  refine starts_mem.2 ⟨v 0, t 0, hv0, htl 0, ?_, hx 0⟩
  rw [value_eqG hm (htl 0), hval 0, hw]
 have hkp : ∀ s n i, soundS s = true → b ≤ i → kid W s n (i + p) = kid W s n i := fun s n i hs0 hi => by
  unfold kid
  congr 1
  apply List.map_congr_left
  intro g hg
  refine hperW g i ?_ hi
  exact (SubF.kid hg).ps hs0
 have hsub : ∀ g, g ∈ timesS f → soundS g = true := fun g hg => (times_sub f g hg).ps hs
 have hxp : ∀ i, b ≤ i → x (i + p) = x i := fun i hi => by
  rw [hx, hx, hper i hi, ht, ht]
  congr 2
  apply List.map_congr_left
  intro g hg
  unfold nwW
  rw [show i + p + 1 = i + 1 + p by omega, hkp g 0 (i + 1) (hsub g hg) (by omega), hperW g (i + 1) (hsub g hg) (by omega)]
 have hxk : ∀ k, x (b + k * p) = x b := fun k => by
  induction k with
  | zero => rw [Nat.zero_mul, Nat.add_zero]
  | succ k ih => rw [Nat.succ_mul, ← Nat.add_assoc, hxp _ (by omega), ih]
 have hback : ∀ j, b ≤ j → Sg.Reach (newPD ls ss nxs f).next (x j) (x b) := fun j hj => by
  have h1 : j ≤ b + (j + 1) * p := by
   have : j + 1 ≤ (j + 1) * p := Nat.le_mul_of_pos_right _ hp0
   omega
  have := reach_path hpath (b + (j + 1) * p - j) j
  rwa [show j + (b + (j + 1) * p - j) = b + (j + 1) * p by omega, hxk] at this
 refine hspec (x 0) (x b) hst (by have := reach_path hpath b 0; rwa [Nat.zero_add] at this) ⟨⟨x (b + 1), hpath b, hback (b + 1) (by omega)⟩, fun q hq => ?_⟩
 rw [hpp] at hq
 have hql : q < (timesS f).length := by rw [len_times]; exact hq
 have hti := times_own f _ (List.getElem_mem hql)
 obtain ⟨j, hj1, hj2⟩ := hT.fair _ (hsub _ (List.getElem_mem hql)) hti b
 refine ⟨x j, by have := reach_path hpath (j - b) b; rwa [show b + (j - b) = j by omega] at this, hback j hj1, ?_⟩
 rw [good_eqG hm hq, hxd, hxm, hgood j, List.getD_eq_getElem?_getD, List.getElem?_map, List.getElem?_eq_getElem hql]
 exact hj2
end
section
variable {ls ss : List Int} {nxs : List (List Int)} {f : S29}
theorem nxs_get {v : Nat} (hv : v < nxs.length) : (newPD ls ss nxs f).nxs.getD v [] = (nxs.getD v []).map Int.toNat := by
 show (nxs.map (fun l => l.map Int.toNat)).getD v [] = _
 rw [List.getD_eq_getElem?_getD, List.getElem?_map, List.getElem?_eq_getElem hv, List.getD_eq_getElem?_getD, List.getElem?_eq_getElem hv]; rfl
end
theorem back_len (came : List Int) : ∀ (k y : Nat), (Sg.backL came k y).length ≤ k + 1
 | 0, y => Nat.le_refl 1
 | k + 1, y => by
  unfold Sg.backL
  split
  ·have := back_len came k (came.getD y 0 - 1).toNat
   rw [List.length_cons]; omega
  ·rw [List.length_singleton]; omega
theorem hunt_le (nx : Nat → List Nat) (inn goal : Nat → Bool) (N : Nat) : ∀ (k i : Nat) (s : List Int × List Nat), (Sg.huntF nx inn goal N k i s).length ≤ N + 1
 | 0, i, s => Nat.zero_le _
 | k + 1, i, s => by
  unfold Sg.huntF
  split
  ·split
   ·rw [List.length_reverse]; exact back_len _ _ _
   ·exact hunt_le nx inn goal N k (i + 1) _
  ·exact Nat.zero_le _
theorem way_le (nx : Nat → List Nat) (inn goal : Nat → Bool) (N : Nat) (frm : List Nat) : (Sg.wayF nx inn goal N frm).length ≤ N + 1 := hunt_le nx inn goal N _ _ _
theorem parts_le (nx : Nat → List Nat) (inn : Nat → Bool) (good : Nat → Nat → Bool) (N : Nat) : ∀ (r out : List Nat), (Sg.partsF nx inn good N r out).length ≤ out.length + r.length * N
 | [], out => by unfold Sg.partsF; omega
 | i :: r, out => by
  unfold Sg.partsF
  have h := parts_le nx inn good N r (if out.any (good i) = true then out else out ++ (Sg.wayF nx inn (good i) N [out.getLastD 0]).tail)
  have h2 : (if out.any (good i) = true then out else out ++ (Sg.wayF nx inn (good i) N [out.getLastD 0]).tail).length ≤ out.length + N := by
   split
   ·omega
   ·rw [List.length_append, List.length_tail]
    have := way_le nx inn (good i) N [out.getLastD 0]
    omega
  rw [List.length_cons, Nat.succ_mul]
  omega
theorem round_le (nx : Nat → List Nat) (inn : Nat → Bool) (good : Nat → Nat → Bool) (N P x : Nat) : (Sg.roundF nx inn good N P x).length ≤ 1 + P * N + N := by
 unfold Sg.roundF Sg.backF
 have h1 := parts_le nx inn good N (List.range P) [x]
 rw [List.length_range, List.length_singleton] at h1
 rw [List.length_append, List.length_dropLast]
 have h2 := way_le nx inn (fun y => y == x) N ((nx ((Sg.partsF nx inn good N (List.range P) [x]).getLastD 0)).filter inn)
 omega
theorem find_le {nx : Nat → List Nat} {good : Nat → Nat → Bool} {N P : Nat} {frm a c : List Nat} (h : Sg.findF nx good N P frm = some (a, c)) : a.length ≤ N ∧ c.length ≤ 1 + P * N + N := by
 unfold Sg.findF at h
 split at h
 ·cases h
 ·have h' := Option.some.inj h
  injection h' with h1 h2
  rw [← h1, ← h2]
  refine ⟨?_, round_le _ _ _ _ _ _⟩
  rw [List.length_dropLast]
  have := way_le nx (fun _ => true) (Sg.hasF ‹_›) N frm
  omega
section
variable {ls ss : List Int} {nxs : List (List Int)} {f : S29}
def nxN (nxs : List (List Int)) (v : Nat) : List Nat := (nxs.getD v []).map Int.toNat
def PathN (ls ss : List Int) (nxs : List (List Int)) (l : List Nat) : Prop :=
 (∀ x, x ∈ l → x < ls.length) ∧ l.getD 0 0 ∈ ss.map Int.toNat ∧ ∀ i, i + 1 < l.length → l.getD (i + 1) 0 ∈ nxN nxs (l.getD i 0)
def WayN (ls ss : List Int) (nxs : List (List Int)) (l : List Nat) (b : Nat) : Prop :=
 b < l.length ∧ l.getD 0 0 ∈ ss.map Int.toNat ∧ (∀ i, l.getD (posn l.length b i) 0 < ls.length) ∧ ∀ i, l.getD (posn l.length b (i + 1)) 0 ∈ nxN nxs (l.getD (posn l.length b i) 0)
theorem getD_mem {l : List Nat} {i : Nat} (h : i < l.length) : l.getD i 0 ∈ l := by
 rw [List.getD_eq_getElem?_getD, List.getElem?_eq_getElem h]; exact List.getElem_mem h
theorem getD_left {α : Type} (l r : List α) (d : α) {i : Nat} (h : i < l.length) : (l ++ r).getD i d = l.getD i d := by
 rw [List.getD_eq_getElem?_getD, List.getElem?_append_left h, List.getD_eq_getElem?_getD]
theorem getD_end {α : Type} (l : List α) (x d : α) : (l ++ [x]).getD l.length d = x := by
 rw [List.getD_eq_getElem?_getD, List.getElem?_append_right (Nat.le_refl _), Nat.sub_self]; rfl
theorem path_step {l : List Nat} {v y : Nat} (h : PathN ls ss nxs (l ++ [v])) (hy : y ∈ nxN nxs v) (hl : y < ls.length) : PathN ls ss nxs (l ++ [v] ++ [y]) := by
 obtain ⟨h1, h2, h3⟩ := h
 have hlen : (l ++ [v]).length = l.length + 1 := by rw [List.length_append]; rfl
 refine ⟨fun x hx => ?_, ?_, fun i hi => ?_⟩
 ·rcases List.mem_append.1 hx with hx | hx
  ·exact h1 x hx
  ·rw [List.mem_singleton.1 hx]; exact hl
 ·rw [getD_left _ _ _ (by omega)]; exact h2
 ·rw [List.length_append, List.length_singleton] at hi
  by_cases hn : i + 1 < (l ++ [v]).length
  ·rw [getD_left _ _ _ hn, getD_left _ _ _ (by omega)]; exact h3 i hn
  ·have e : i = l.length := by omega
   subst e
   rw [show l.length + 1 = (l ++ [v]).length by omega, getD_end, getD_left _ _ _ (by omega), getD_end]
   exact hy
theorem path_way {l : List Nat} {v j : Nat} (h : PathN ls ss nxs (l ++ [v])) (hj : j < l.length) (hv : l.getD j 0 = v) : WayN ls ss nxs l j := by
 obtain ⟨h1, h2, h3⟩ := h
 have hlen : (l ++ [v]).length = l.length + 1 := by rw [List.length_append]; rfl
 refine ⟨hj, by rw [← getD_left l [v] 0 (by omega)]; exact h2, fun i => ?_, fun i => ?_⟩
 ·exact h1 _ (List.mem_append_left _ (getD_mem (posn_lt hj i)))
 ·have hp := posn_lt hj i
  have e1 : posn l.length j (i + 1) = nextS l.length j (posn l.length j i) := rfl
  rw [e1]
  generalize posn l.length j i = p at hp ⊢
  have h4 := h3 p (by omega)
  rw [getD_left l [v] 0 hp] at h4
  unfold nextS
  by_cases hn : p + 1 < l.length
  ·rw [if_pos hn]
   rw [getD_left l [v] 0 hn] at h4
   exact h4
  ·rw [if_neg hn, hv]
   rw [show p + 1 = l.length by omega, getD_end] at h4
   exact h4
theorem castL_get (l : List Nat) (i : Nat) : (castL l).getD i 0 = ((l.getD i 0 : Nat) : Int) := by
 show (l.map (fun n : Nat => (n : Int))).getD i 0 = _
 rw [List.getD_eq_getElem?_getD, List.getElem?_map, List.getD_eq_getElem?_getD]
 cases l[i]? <;> rfl
theorem castL_len (l : List Nat) : (castL l).length = l.length := List.length_map ..
theorem mem_cast {l : List Int} (h0 : ∀ x, x ∈ l → 0 ≤ x) {v : Nat} (h : v ∈ l.map Int.toNat) : l.contains (v : Int) = true := by
 obtain ⟨x, hx, e⟩ := List.mem_map.1 h
 have := h0 x hx
 have e2 : x = (v : Int) := by omega
 rw [← e2]
 exact List.contains_iff_mem.2 hx
theorem row_pos (hg : GraphOk ls ss nxs) (v : Nat) : ∀ x, x ∈ nxs.getD v [] → 0 ≤ x := fun x hx => by
 by_cases hv : v < nxs.length
 ·rw [List.getD_eq_getElem?_getD, List.getElem?_eq_getElem hv] at hx
  exact ((hg.nx _ (List.getElem_mem hv)).2.2 x hx).1
 ·rw [List.getD_eq_getElem?_getD, List.getElem?_eq_none (by omega)] at hx
  cases hx
theorem way_word (hmG : mayG ls ss nxs = 0) {l : List Nat} {b : Nat} (h : WayN ls ss nxs l b) (hb : b ≤ 3000) (hn : l.length - b ≤ 27000) : wordB ls ss nxs (castL (l.take b)) (castL (l.drop b)) = true := by
 have hg := mayG_ok hmG
 obtain ⟨h1, h2, h3, h4⟩ := h
 have hall : castL (l.take b) ++ castL (l.drop b) = castL l := by
  show (l.take b).map _ ++ (l.drop b).map _ = l.map _
  rw [← List.map_append, List.take_append_drop]
 have hlp : 0 < (l.drop b).length := by rw [List.length_drop]; omega
 unfold wordB walkB wordS
 rw [hall, len_letters, len_letters, castL_len, castL_len, castL_len, List.length_take, List.length_drop]
 simp only [Bool.and_eq_true, decide_eq_true_eq, List.all_eq_true, List.mem_range]
 refine ⟨hmG, List.ne_nil_of_length_pos (by rw [castL_len]; exact hlp), fun i hi => ?_, ?_, by omega⟩
 ·unfold okAt
  have h5 := h3 i
  rw [posn_id hi] at h5
  rw [castL_get, if_neg (by omega), if_neg (by omega)]
  by_cases h0 : i = 0
  ·rw [if_pos h0]
   subst h0
   exact mem_cast (fun x hx => (hg.st x hx).1) h2
  ·rw [if_neg h0, castL_get, Int.toNat_natCast]
   have h6 := h4 (i - 1)
   rw [show i - 1 + 1 = i by omega, posn_id hi, posn_id (by omega : i - 1 < l.length)] at h6
   exact mem_cast (row_pos hg _) h6
 ·have h6 := h4 (l.length - 1)
  have e : posn l.length b (l.length - 1 + 1) = b := by
   show nextS l.length b (posn l.length b (l.length - 1)) = b
   rw [posn_id (by omega)]
   unfold nextS
   rw [if_neg (by omega)]
  rw [e, posn_id (by omega : l.length - 1 < l.length)] at h6
  rw [castL_get, castL_get, Int.toNat_natCast]
  have e2 : (l.drop b).getD 0 0 = l.getD b 0 := by
   rw [List.getD_eq_getElem?_getD, List.getElem?_drop, Nat.add_zero, List.getD_eq_getElem?_getD]
  rw [e2]
  exact mem_cast (row_pos hg _) h6
theorem way_letters (l : List Nat) (b : Nat) : lettersG ls (castL (l.take b)) ++ lettersG ls (castL (l.drop b)) = l.map (fun v => ls.getD v 0) := by
 show ((l.take b).map _).map _ ++ ((l.drop b).map _).map _ = _
 rw [List.map_map, List.map_map, ← List.map_append, List.take_append_drop]
 exact List.map_congr_left (fun x _ => by simp)
theorem letters_get {l : List Nat} {i : Nat} (h : i < l.length) : (l.map (fun v => ls.getD v 0)).getD i 0 = ls.getD (l.getD i 0) 0 := by
 have e : l.getD i 0 = l[i]'h := by rw [List.getD_eq_getElem?_getD, List.getElem?_eq_getElem h]; rfl
 rw [e, List.getD_eq_getElem?_getD, List.getElem?_map, List.getElem?_eq_getElem h]; rfl
theorem way_lasso (ls : List Int) {l : List Nat} {b : Nat} (hb : b < l.length) : Truth (fun i => ls.getD (l.getD (posn l.length b i) 0) 0) (lassoW (l.map (fun v => ls.getD v 0)) b) := by
 have hT := lasso_truth (l.map (fun v => ls.getD v 0)) b (by rw [List.length_map]; exact hb)
 have e : (fun i => (l.map (fun v => ls.getD v 0)).getD (posn (l.map (fun v => ls.getD v 0)).length b i) 0) = (fun i => ls.getD (l.getD (posn l.length b i) 0) 0) := funext (fun i => by
  rw [List.length_map]
  exact letters_get (posn_lt hb i))
 rw [e] at hT
 exact hT
theorem way_truth (hg : GraphOk ls ss nxs) (hm : mayF f = 0) {want : Bool} (h : findG ls ss nxs f want = none) {l : List Nat} {b : Nat} (hw : WayN ls ss nxs l b) : lassoW (l.map (fun v => ls.getD v 0)) b f 0 ≠ want := by
 obtain ⟨h1, h2, h3, h4⟩ := hw
 have hok := newPD_ok hg hm
 refine truth_found hok hm h (v := fun i => l.getD (posn l.length b i) 0) h2 h3 (fun i => ?_) (way_lasso ls h1) (b := b) (p := l.length - b) (by omega) (fun i hi => ?_) (fun s i _ hi => ?_)
 ·show _ ∈ (newPD ls ss nxs f).nxs.getD _ []
  rw [nxs_get (by rw [hg.nn]; exact h3 i)]
  exact h4 i
 ·have := posn_per h1 (i - b)
  rw [show b + (l.length - b) + (i - b) = i + (l.length - b) by omega, show b + (i - b) = i by omega] at this
  show l.getD (posn l.length b (i + (l.length - b))) 0 = l.getD (posn l.length b i) 0
  rw [this]
 ·have := posn_per h1 (i - b)
  rw [show b + (l.length - b) + (i - b) = i + (l.length - b) by omega, show b + (i - b) = i by omega] at this
  unfold lassoW
  rw [List.length_map, this]
theorem found_way (hg : GraphOk ls ss nxs) (hm : mayF f = 0) {want : Bool} {a c : List Nat} (h : findG ls ss nxs f want = some (a, c)) :
  WayN ls ss nxs ((a ++ c).map (fun x => x / 2 ^ tnS f)) a.length ∧ lassoW (((a ++ c).map (fun x => x / 2 ^ tnS f)).map (fun v => ls.getD v 0)) a.length f 0 = want := by
 have hok := newPD_ok hg hm
 obtain ⟨h0, h1, h2⟩ := found_verts hok hm h
 have hb := (found_path hok hm h).1
 have hlen : ((a ++ c).map (fun x => x / 2 ^ tnS f)).length = (a ++ c).length := List.length_map ..
 have hget : ∀ i, i < (a ++ c).length → ((a ++ c).map (fun x => x / 2 ^ tnS f)).getD i 0 = (a ++ c).getD i 0 / 2 ^ tnS f := fun i hi => by
  rw [List.getD_eq_getElem?_getD, List.getElem?_map, List.getElem?_eq_getElem hi, List.getD_eq_getElem?_getD, List.getElem?_eq_getElem hi]; rfl
 have hp := fun i => hget _ (posn_lt hb i)
 refine ⟨⟨by rw [hlen]; exact hb, by rw [hget 0 (by omega)]; exact h0, fun i => by rw [hlen, hp]; exact h1 i, fun i => ?_⟩, ?_⟩
 ·rw [hlen, hp, hp]
  have h3 := h2 i
  rw [nxs_get (by rw [hg.nn]; exact h1 i)] at h3
  exact h3
 ·refine found_truth hok hm h ?_
  have hT := way_lasso ls (l := (a ++ c).map (fun x => x / 2 ^ tnS f)) (b := a.length) (by rw [hlen]; exact hb)
  have e : (fun i => ls.getD (((a ++ c).map (fun x => x / 2 ^ tnS f)).getD (posn ((a ++ c).map (fun x => x / 2 ^ tnS f)).length a.length i) 0) 0) = (fun i => ls.getD ((a ++ c).getD (posn (a ++ c).length a.length i) 0 / 2 ^ tnS f) 0) := funext (fun i => by rw [hlen, hp])
  rw [e] at hT
  exact hT
theorem found_len (hm : mayF f = 0) (h200 : 2 ^ tnS f * ls.length ≤ 200) {want : Bool} {a c : List Nat} (h : findG ls ss nxs f want = some (a, c)) : a.length ≤ 200 ∧ c.length ≤ 2000 := by
 have h1 := find_le (show Sg.findF (newPD ls ss nxs f).next (newPD ls ss nxs f).good (newPD ls ss nxs f).N (newPD ls ss nxs f).P ((newPD ls ss nxs f).starts want) = some (a, c) from h)
 have hP : (newPD ls ss nxs f).P ≤ 8 := by
  show (partsOf (timesS f) 0).length ≤ 8
  rw [len_partsOf, len_times]
  exact (may_zero hm).2.2.1
 have hN : (newPD ls ss nxs f).N ≤ 200 := by
  show 2 ^ tnS f * ls.length ≤ 200
  exact h200
 have h2 : (newPD ls ss nxs f).P * (newPD ls ss nxs f).N ≤ 8 * 200 := Nat.mul_le_mul hP hN
 omega
theorem found_split (a c : List Nat) : ((a ++ c).map (fun x => x / 2 ^ tnS f)).take a.length = a.map (fun x => x / 2 ^ tnS f) ∧ ((a ++ c).map (fun x => x / 2 ^ tnS f)).drop a.length = c.map (fun x => x / 2 ^ tnS f) := by
 rw [List.map_append]
 constructor
 ·rw [List.take_left' (List.length_map ..)]
 ·rw [List.drop_left' (List.length_map ..)]
theorem none_start (hg : GraphOk ls ss nxs) (hm : mayF f = 0) (h : ss = []) (want : Bool) : findG ls ss nxs f want = none := by
 cases e : findG ls ss nxs f want with
 | none => rfl
 | some q =>
  obtain ⟨a, c⟩ := q
  have h0 := (found_verts (newPD_ok hg hm) hm e).1
  have h1 : (a ++ c).getD 0 0 / 2 ^ tnS f ∈ ss.map Int.toNat := h0
  rw [h] at h1
  cases h1
def SeenOk (l : List Nat) (f : Int → Int) : Prop := ∀ x : Nat, f x = 0 ∨ ∃ j : Nat, j < l.length ∧ f x = (j : Int) + 1 ∧ l.getD j 0 = x
theorem seen_nil : SeenOk [] (fun _ => 0) := fun x => .inl rfl
theorem seen_keep {l : List Nat} {f : Int → Int} (h : SeenOk l f) (v : Nat) : SeenOk (l ++ [v]) f := fun x => by
 rcases h x with h | ⟨j, h1, h2, h3⟩
 ·exact .inl h
 ·exact .inr ⟨j, by rw [List.length_append]; omega, h2, by rw [getD_left l [v] 0 h1]; exact h3⟩
theorem seen_add {l : List Nat} {f : Int → Int} (h : SeenOk l f) (v : Nat) : SeenOk (l ++ [v]) (fun y => if y = (v : Int) then (l.length : Int) + 1 else f y) := fun x => by
 by_cases hx : (x : Int) = (v : Int)
 ·refine .inr ⟨l.length, by rw [List.length_append]; show _ < _ + 1; omega, by simp only; rw [if_pos hx], ?_⟩
  rw [getD_end]; omega
 ·rcases seen_keep h v x with h | h
  ·exact .inl (by simp only; rw [if_neg hx]; exact h)
  ·obtain ⟨j, h1, h2, h3⟩ := h
   exact .inr ⟨j, h1, by simp only; rw [if_neg hx]; exact h2, h3⟩
theorem found_told (hmG : mayG ls ss nxs = 0) (hm : mayF f = 0) (h200 : 2 ^ tnS f * ls.length ≤ 200) {want : Bool} {a c : List Nat} (h : findG ls ss nxs f want = some (a, c)) :
  wordB ls ss nxs (vertsG ls ss nxs f a) (vertsG ls ss nxs f c) = true ∧ (vertsG ls ss nxs f a).length ≤ 200 ∧ 1 ≤ (vertsG ls ss nxs f c).length ∧ (vertsG ls ss nxs f c).length ≤ 2000 ∧
   lassoW (lettersG ls (vertsG ls ss nxs f a) ++ lettersG ls (vertsG ls ss nxs f c)) (lettersG ls (vertsG ls ss nxs f a)).length f 0 = want := by
 have hg := mayG_ok hmG
 obtain ⟨h1, h2⟩ := found_way hg hm h
 obtain ⟨h3, h4⟩ := found_len hm h200 h
 obtain ⟨e1, e2⟩ := found_split (f := f) a c
 have la : (vertsG ls ss nxs f a).length = a.length := by
  show (castL (a.map _)).length = _
  rw [castL_len, List.length_map]
 have lc : (vertsG ls ss nxs f c).length = c.length := by
  show (castL (c.map _)).length = _
  rw [castL_len, List.length_map]
 have hb := h1.1
 rw [List.length_map, List.length_append] at hb
 have ea : castL (((a ++ c).map (fun x => x / 2 ^ tnS f)).take a.length) = vertsG ls ss nxs f a := by rw [e1]; rfl
 have ec : castL (((a ++ c).map (fun x => x / 2 ^ tnS f)).drop a.length) = vertsG ls ss nxs f c := by rw [e2]; rfl
 refine ⟨?_, by omega, by omega, by omega, ?_⟩
 ·have := way_word hmG h1 (by omega) (by rw [List.length_map, List.length_append]; omega)
  rw [ea, ec] at this
  exact this
 ·have := way_letters (ls := ls) ((a ++ c).map (fun x => x / 2 ^ tnS f)) a.length
  rw [ea, ec] at this
  rw [this, len_letters, la]
  exact h2
theorem walk_told (hmG : mayG ls ss nxs = 0) (hm : mayF f = 0) {l : List Nat} {v j : Nat} (hp : PathN ls ss nxs (l ++ [v])) (hj : j < l.length) (hv : l.getD j 0 = v) (hl : l.length ≤ 1000) :
  wordB ls ss nxs ((castL l).take j) ((castL l).drop j) = true ∧ ∀ want, findG ls ss nxs f want = none → lassoW (lettersG ls ((castL l).take j) ++ lettersG ls ((castL l).drop j)) (lettersG ls ((castL l).take j)).length f 0 ≠ want := by
 have hw := path_way hp hj hv
 have e1 : (castL l).take j = castL (l.take j) := (List.map_take ..).symm
 have e2 : (castL l).drop j = castL (l.drop j) := (List.map_drop ..).symm
 rw [e1, e2]
 refine ⟨way_word hmG hw (by omega) (by omega), fun want h => ?_⟩
 have := way_truth (mayG_ok hmG) hm h hw
 rw [way_letters, len_letters, castL_len, List.length_take, Nat.min_eq_left (by omega)]
 exact this
end
end Go.Proofs.Ytapejnikpmfddaa.L
