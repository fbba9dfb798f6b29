/- A part of the claim SearchForms. -/
import Derived.Test.YtapejnikpmfddaaGreatQSearchFormso
set_option linter.unusedVariables false
set_option linter.unusedSimpArgs false
namespace Go.Proofs.YtapejnikpmfddaaGreat.X
open Go.RowKit Go.Proofs.aI.bM Go.Proofs.aI.dM
def nU (f : Nat → Bool → Bool) (v : Bool) : Nat → Nat → Bool
 | _, 0 => v
 | i, d + 1 => f i (nU f v (i + 1) d)
theorem BI (l : List Bool) (i j : Nat) (x : Bool) (hi : i < l.length) : (l.set i x).getD j false = if j = i then x else l.getD j false := by
 rw [List.getD_eq_getElem?_getD, List.getElem?_set, List.getD_eq_getElem?_getD];by_cases h : i = j
 ·subst h;rw [if_pos rfl, if_pos rfl, if_pos hi]; rfl
 ·rw [if_neg h, if_neg (fun e => h e.symm)]
theorem ag3 (f : Nat → Bool → Bool) (n b : Nat) (v : Bool) : ∀ (j : Nat) (out : List Bool), j ≤ n → b < n → out.length = n → (∀ i, j ≤ i → i < n → out.getD i false = nU f v i (n - i)) → (j = n → out.getD b false = v) → ∀ i, i < n → (tJ f n b j out).getD i false = nU f v i (n - i)
 | 0, out, _, _, _, h, _, i, hi => by rw [tJ]; exact h i (Nat.zero_le _) hi
 | j + 1, out, hj, hb, hl, h, hv, i, hi => by
  rw [tJ];have hx : f j (out.getD (jg n b j) false) = nU f v j (n - j) := by
   unfold jg;by_cases hlt : j + 1 < n
   ·rw [if_pos hlt, h (j + 1) (Nat.le_refl _) hlt, show n - j = (n - (j + 1)) + 1 by omega]; rfl
   ·rw [if_neg hlt, hv ag, show n - j = 1 by omega]; rfl
  refine ag3 f n b v j _ ag hb (by simp [hl]) (fun i' h1 h2 => ?_) (fun e => by omega) i hi;rw [BI _ _ _ _ ag];by_cases e : i' = j
  ·subst e; rw [if_pos rfl]; exact hx
  ·rw [if_neg e]; exact h i' ag h2
theorem ag4 (f : Nat → Bool → Bool) (n b : Nat) (out : List Bool) (hb : b < n) (hl : out.length = n) (i : Nat) (hi : i < n) : (tJ f n b n out).getD i false = nU f (out.getD b false) i (n - i) :=
 ag3 f n b _ n out (Nat.le_refl _) hb hl (fun i h1 h2 => by omega) (fun _ => rfl) i hi
theorem asJ (n : Nat) (x : Bool) (b : Nat) (hb : b < n) : (List.replicate n x).getD b false = x := by
 rw [List.getD_eq_getElem?_getD, List.getElem?_replicate, if_pos hb]; rfl
theorem MP (f : Nat → Bool → Bool) (n b : Nat) (first : Bool) (hb : b < n) (i : Nat) (hi : i < n) : (jh f n b first).getD i false = nU f (nU f first b (n - b)) i (n - i) := by
 unfold jh;rw [ag4 f n b _ hb (by simp [UC]) i hi, ag4 f n b _ hb (by simp) b hb, asJ n first b hb]
def Jm (f : Nat → Bool → Bool) : Prop := ∀ i, f i false = true → f i true = true
theorem ag5 {f : Nat → Bool → Bool} (h : Jm f) : ∀ (d i : Nat), nU f false i d = true → nU f true i d = true
 | 0, i, h0 => by cases h0
 | d + 1, i, h0 => by
  simp only [nU] at h0 ⊢;cases h1 : nU f false (i + 1) d with
  | true => rw [h1] at h0; rw [ag5 h d (i + 1) h1]; exact h0
  | false =>
   rw [h1] at h0;cases nU f true (i + 1) d with
   | true => exact h i h0
   | false => exact h0
theorem asK {f : Nat → Bool → Bool} (h : Jm f) (d i : Nat) (v : Bool) : nU f (nU f v i d) i d = nU f v i d := by
 have hm := ag5 h d i;cases v <;> cases h1 : nU f false i d <;> cases h2 : nU f true i d <;> simp_all
theorem asL {l m : List Bool} {n : Nat} (hl : l.length = n) (hm : m.length = n) (h : ∀ i, i < n → l.getD i false = m.getD i false) : l = m := by
 apply List.ext_getElem ag
 intro i h1 h2;have := h i ag
 rwa [List.getD_eq_getElem?_getD, List.getD_eq_getElem?_getD, List.getElem?_eq_getElem h1, List.getElem?_eq_getElem h2] at this
theorem ag6 {f : Nat → Bool → Bool} (h : Jm f) (n b : Nat) (first : Bool) (hb : b < n) (i : Nat) (hi : i < n) : (jh f n b first).getD i false = f i ((jh f n b first).getD (jg n b i) false) := by
 rw [MP f n b first hb i hi, MP f n b first hb _ (Ph hb)];unfold jg;by_cases hlt : i + 1 < n
 ·rw [if_pos hlt, show n - i = (n - (i + 1)) + 1 by omega]; rfl
 ·rw [if_neg hlt, asK h, show n - i = 1 by omega]; rfl
theorem asM (f : Nat → Bool) (n b : Nat) (first : Bool) (hb : b < n) : jh (fun i _ => f i) n b first = (List.range n).map f := by
 refine asL (adF _ _ _ _) (by simp) (fun i hi => ?_);rw [MP _ n b first hb i hi, show n - i = (n - (i + 1)) + 1 by omega];simp [nU, hi]
theorem Tz (f : Nat → Bool) : Jm (fun i _ => f i) := fun _ h => h
theorem asN (p q : Nat → Bool) : Jm (fun i nx => q i || p i && nx) := fun i h => by cases h1 : q i <;> cases h2 : p i <;> simp_all
theorem asO (p q : Nat → Bool) : Jm (fun i nx => q i && (p i || nx)) := fun i h => by cases h1 : q i <;> cases h2 : p i <;> simp_all
end Go.Proofs.YtapejnikpmfddaaGreat.X
namespace Go.Proofs.YtapejnikpmfddaaGreat.L
open Go.RowKit Go.Proofs.aI.bM Go.Proofs.aI.dM
open Go.Proofs.YtapejnikpmfddaaGreat.P Go.Proofs.YtapejnikpmfddaaGreat.gY Go.Proofs.YtapejnikpmfddaaGreat.X
theorem Gz (sv : Int) : ∀ (L1 L2 : List Bool) (k : Nat), jN sv (L1 ++ L2) k = (jN sv L1 k && jN sv L2 (k + L1.length))
 | [], L2, k => by simp [jN]
 | x :: r, L2, k => by
  simp only [List.cons_append, jN, List.length_cons];rw [Gz sv r L2 (k + 1), Bool.and_assoc, show k + 1 + r.length = k + (r.length + 1) by omega]
theorem getD_map (l : List (List Bool)) (i j : Nat) : (l.map (fun r => r.getD i false)).getD j false = (l.getD j []).getD i false := by
 rw [List.getD_eq_getElem?_getD, List.getElem?_map, List.getD_eq_getElem?_getD (l := l)];cases l[j]? <;> simp
theorem YL {op m lt : Int} {bit ag7 x y : Bool} (h : dB op = true → bit = ag7) : mG op m lt bit x y = mG op m lt ag7 x y := by
 cases ht : dB op with
 | true => rw [h ht]
 | false =>
  have h6 : ¬ op = 6 := fun e => by rw [e] at ht; cases ht
  have h7 : ¬ op = 7 := fun e => by rw [e] at ht; cases ht
  have h8 : ¬ op = 8 := fun e => by rw [e] at ht; cases ht
  unfold mG;simp only [if_neg h6, if_neg h7, if_neg h8]
theorem asP {op : Int} (h : dB op = true) : op = 6 ∨ op = 7 ∨ op = 8 := by
 simp only [dB, Bool.and_eq_true, decide_eq_true_eq] at h;omega
theorem ag8 {V x y : Nat → Bool} (hs : ∀ i, V i = (y i || x i && V (i + 1))) (hf : ∀ i, ∃ j, i ≤ j ∧ (!V j || y j) = true) : ∀ i, V i = true → ∃ d, y (i + d) = true := by
 intro i hi;obtain ⟨j, hj, hg⟩ := hf i;have key : ∀ e i, V i = true → (!V (i + e) || y (i + e)) = true → ∃ d, y (i + d) = true := by
  intro e
  induction e with
  | zero =>
   intro i h1 h2;rw [Nat.add_zero, h1] at h2;exact ⟨0, by simpa using h2⟩
  | succ e ih =>
   intro i h1 h2;cases hy : y i with
   | true => exact ⟨0, hy⟩
   | false =>
    have h3 := hs i;rw [h1, hy, Bool.false_or] at h3;have h4 : V (i + 1) = true := by
     have := h3.symm;rw [Bool.and_eq_true] at this;exact this.2
    obtain ⟨d, hd⟩ := ih (i + 1) h4 (by rw [show i + 1 + e = i + (e + 1) by omega]; exact h2);exact ⟨d + 1, by rw [show i + (d + 1) = i + 1 + d by omega]; exact hd⟩
 exact key (j - i) i hi (by rw [show i + (j - i) = j by omega]; exact hg)
theorem YM {V W x y : Nat → Bool} (hv : ∀ i, V i = (y i || x i && V (i + 1))) (hw : ∀ i, W i = (y i || x i && W (i + 1))) : ∀ d i, V i = true → y (i + d) = true → W i = true
 | 0, i, _, h2 => by rw [hw i, show y i = true from h2, Bool.true_or]
 | d + 1, i, h1, h2 => by
  rw [hw i];cases hy : y i with
  | true => rfl
  | false =>
   have h3 := hv i;rw [h1, hy, Bool.false_or] at h3;have h4 := h3.symm;rw [Bool.and_eq_true] at h4;rw [h4.1, YM hv hw d (i + 1) h4.2 (by rw [show i + 1 + d = i + (d + 1) by omega]; exact h2)]; rfl
theorem ag9 {V W x y : Nat → Bool} (hv : ∀ i, V i = (y i || x i && V (i + 1))) (hw : ∀ i, W i = (y i || x i && W (i + 1)))
  (fv : ∀ i, ∃ j, i ≤ j ∧ (!V j || y j) = true) (fw : ∀ i, ∃ j, i ≤ j ∧ (!W j || y j) = true) (i : Nat) : V i = W i := by
 have h1 : V i = true → W i = true := fun h => by
  obtain ⟨d, hd⟩ := ag8 hv fv i h;exact YM hv hw d i h hd
 have h2 : W i = true → V i = true := fun h => by
  obtain ⟨d, hd⟩ := ag8 hw fw i h;exact YM hw hv d i h hd
 cases a : V i <;> cases b : W i
 ·rfl
 ·exact absurd (h2 b) (by rw [a]; decide)
 ·exact absurd (h1 a) (by rw [b]; decide)
 ·rfl
theorem asQ {V W x y : Nat → Bool} (hv : ∀ i, V i = (y i && (x i || V (i + 1)))) (hw : ∀ i, W i = (y i && (x i || W (i + 1))))
  (fv : ∀ i, ∃ j, i ≤ j ∧ (V j || !y j) = true) (fw : ∀ i, ∃ j, i ≤ j ∧ (W j || !y j) = true) (i : Nat) : V i = W i := by
 have h := ag9 (V := fun i => !V i) (W := fun i => !W i) (x := fun i => !x i) (y := fun i => !y i) (fun i => by rw [hv i]; cases y i <;> cases x i <;> cases V (i + 1) <;> rfl) (fun i => by rw [hw i]; cases y i <;> cases x i <;> cases W (i + 1) <;> rfl)
  (fun i => by obtain ⟨j, h1, h2⟩ := fv i; exact ⟨j, h1, by simp only [Bool.not_not]; exact h2⟩) (fun i => by obtain ⟨j, h1, h2⟩ := fw i; exact ⟨j, h1, by simp only [Bool.not_not]; exact h2⟩) i
 have := congrArg (fun b => !b) h;simpa using this
def kid (W : ak → Nat → Bool) (s : ak) (n i : Nat) : Bool := (s.f2.map (fun g => W g i)).getD n false
structure tu (σ : Nat → Int) (W : ak → Nat → Bool) : Prop where
 step : ∀ s, cO s = true → ∀ i, W s i = mG s.f0 s.f1 (σ i) (if s.f0 = 6 then kid W s 0 (i + 1) else W s (i + 1)) (kid W s 0 i) (kid W s 1 i)
 fair : ∀ s, cO s = true → dB s.f0 = true → ∀ i, ∃ j, i ≤ j ∧ wu s.f0 (W s j) (kid W s 1 j) = true
theorem asR (sv lt : Int) (op : Int) (b : Bool) (l : List Bool) (h : dB op = true) : (bX op b ++ l).getD 0 false = b := by
 unfold bX;rw [if_pos h]; rfl
theorem ag_ (A B : List Bool) (i : Nat) : (A ++ B).getD (A.length + i) false = B.getD i false := by
 rw [List.getD_eq_getElem?_getD, List.getElem?_append_right ag, List.getD_eq_getElem?_getD, show A.length + i - A.length = i by omega]
theorem asS (A B : List Bool) (i : Nat) (h : i < A.length) : (A ++ B).getD i false = A.getD i false := by
 rw [List.getD_eq_getElem?_getD, List.getElem?_append_left h, List.getD_eq_getElem?_getD]
section
variable {σ : Nat → Int} {W : ak → Nat → Bool} {st : Nat → Int}
mutual
theorem aha (hT : tu σ W) : ∀ (s : ak) (k : Nat), cO s = true → (∀ i, jN (st i) (kH (st (i + 1)) (σ (i + 1)) s k) k = true) → (∀ q, q < az s → ∀ i, ∃ j, i ≤ j ∧ (jW (st j) (σ j) s k).getD q false = true) → ∀ i, dZ (st i) (σ i) s k = W s i
 | ⟨op, m, kids⟩, k, hs, hm, hg => by
  have hown : ∀ i, jN (st i) (bX op (EP op ((dO (st (i + 1)) (σ (i + 1)) kids (k + tS op)).getD 0 false) (dZ (st (i + 1)) (σ (i + 1)) ⟨op, m, kids⟩ k))) k = true ∧ jN (st i) (mW (st (i + 1)) (σ (i + 1)) kids (k + tS op)) (k + tS op) = true := fun i => by
   have h := hm i;rw [Pj, Gz, tL, Bool.and_eq_true] at h;exact h
  have ih := ahb hT kids (k + tS op) (Af hs) (fun i => (hown i).2) (fun q hq i => by
   obtain ⟨j, h1, h2⟩ := hg (tS op + q) (by rw [ER]; simp only; omega) i;rw [Pk] at h2;have h3 := ag_ (bX op (wu op (dZ (st j) (σ j) ⟨op, m, kids⟩ k) ((dO (st j) (σ j) kids (k + tS op)).getD 1 false))) (nM (st j) (σ j) kids (k + tS op)) q;rw [tL] at h3;exact ⟨j, h1, by rw [← h3]; exact h2⟩)
  have hx : ∀ i, (dO (st i) (σ i) kids (k + tS op)).getD 0 false = kid W ⟨op, m, kids⟩ 0 i := fun i => by rw [ih i]; rfl
  have hy : ∀ i, (dO (st i) (σ i) kids (k + tS op)).getD 1 false = kid W ⟨op, m, kids⟩ 1 i := fun i => by rw [ih i]; rfl
  have hv : ∀ i, dZ (st i) (σ i) ⟨op, m, kids⟩ k = mG op m (σ i) (jG (st i) k) (kid W ⟨op, m, kids⟩ 0 i) (kid W ⟨op, m, kids⟩ 1 i) := fun i => by
   rw [Ig];simp only;rw [hx i, hy i]
  have hw := hT.step ⟨op, m, kids⟩ hs;simp only at hw;cases ht : dB op with
  | false =>
   intro i;rw [hv i, hw i];exact YL (fun h => by rw [ht] at h; cases h)
  | true =>
   have hb : ∀ i, jG (st i) k = EP op (kid W ⟨op, m, kids⟩ 0 (i + 1)) (dZ (st (i + 1)) (σ (i + 1)) ⟨op, m, kids⟩ k) := fun i => by
    have h := (hown i).1;unfold bX at h;rw [if_pos ht, hx (i + 1)] at h;simp only [jN, Bool.and_true] at h;exact (beq_iff_eq.1 h).symm
   have hgd : ∀ i, ∃ j, i ≤ j ∧ wu op (dZ (st j) (σ j) ⟨op, m, kids⟩ k) (kid W ⟨op, m, kids⟩ 1 j) = true := fun i => by
    obtain ⟨j, h1, h2⟩ := hg 0 (by rw [ER]; unfold tS; simp only; rw [if_pos ht]; omega) i;rw [Pk, asR (st j) (σ j) _ _ _ ht] at h2;simp only at h2;rw [hy j] at h2;exact ⟨j, h1, h2⟩
   have hfw := hT.fair ⟨op, m, kids⟩ hs ht;simp only at hfw;rcases asP ht with h | h | h
   ·subst h;intro i;rw [hv i, hw i, hb i];rfl
   ·subst h;refine ag9 (x := fun i => kid W ⟨7, m, kids⟩ 0 i) (y := fun i => kid W ⟨7, m, kids⟩ 1 i) (fun i => ?_) (fun i => ?_) (fun i => ?_) (fun i => ?_)
    ·rw [hv i, hb i]; rfl
    ·rw [hw i]; rfl
    ·obtain ⟨j, h1, h2⟩ := hgd i;exact ⟨j, h1, h2⟩
    ·obtain ⟨j, h1, h2⟩ := hfw i;exact ⟨j, h1, h2⟩
   ·subst h;refine asQ (x := fun i => kid W ⟨8, m, kids⟩ 0 i) (y := fun i => kid W ⟨8, m, kids⟩ 1 i) (fun i => ?_) (fun i => ?_) (fun i => ?_) (fun i => ?_)
    ·rw [hv i, hb i]; rfl
    ·rw [hw i]; rfl
    ·obtain ⟨j, h1, h2⟩ := hgd i;exact ⟨j, h1, h2⟩
    ·obtain ⟨j, h1, h2⟩ := hfw i;exact ⟨j, h1, h2⟩
theorem ahb (hT : tu σ W) : ∀ (l : List ak) (k : Nat), gp l = true → (∀ i, jN (st i) (mW (st (i + 1)) (σ (i + 1)) l k) k = true) → (∀ q, q < dI l → ∀ i, ∃ j, i ≤ j ∧ (nM (st j) (σ j) l k).getD q false = true) → ∀ i, dO (st i) (σ i) l k = l.map (fun g => W g i)
 | [], k, _, _, _ => fun i => rfl
 | c :: r, k, hs, hm, hg => by
  simp only [gp, Bool.and_eq_true] at hs;have hp : ∀ i, jN (st i) (kH (st (i + 1)) (σ (i + 1)) c k) k = true ∧ jN (st i) (mW (st (i + 1)) (σ (i + 1)) r (k + az c)) (k + az c) = true := fun i => by
   have h := hm i;rw [mW, Gz, Kn, Bool.and_eq_true] at h;exact h
  have h1 := aha hT c k hs.1 (fun i => (hp i).1) (fun q hq i => by
   obtain ⟨j, h1, h2⟩ := hg q (by rw [dI]; omega) i;rw [nM, asS _ _ _ (by rw [Ie]; exact hq)] at h2;exact ⟨j, h1, h2⟩)
  have h2 := ahb hT r (k + az c) hs.2 (fun i => (hp i).2) (fun q hq i => by
   obtain ⟨j, h1, h2⟩ := hg (az c + q) (by rw [dI]; omega) i;have h3 := ag_ (jW (st j) (σ j) c k) (nM (st j) (σ j) r (k + az c)) q;rw [Ie] at h3;rw [nM, h3] at h2;exact ⟨j, h1, h2⟩)
  intro i;rw [dO, h1 i, h2 i, List.map_cons]
end
end
def Jn (ls : List Int) (b i : Nat) (t : ak) : Bool := wu t.f0 ((mH ls b t).getD i false) (((fZ ls b t.f2).getD 1 []).getD i false)
theorem Jo (f : Nat → Bool) (n b : Nat) (first : Bool) (hb : b < n) (i : Nat) (hi : i < n) : (jh (fun i _ => f i) n b first).getD i false = f i := by
 rw [asM f n b first hb, List.getD_eq_getElem?_getD, List.getElem?_map, List.getElem?_range hi];rfl
theorem row_step (ls : List Int) (b : Nat) (op m : Int) (x y : List Bool) (hb : b < ls.length) (i : Nat) (hi : i < ls.length) (hop : 0 ≤ fC op) :
  (uM ls b op m x y).getD i false = mG op m (ls.getD i 0) (if op = 6 then x.getD (jg ls.length b i) false else (uM ls b op m x y).getD (jg ls.length b i) false) (x.getD i false) (y.getD i false) := by
 rcases Pn hop with h | h | h | h | h | h | h | h <;> subst h
 ·exact Jo (fun _ => true) _ _ false hb i hi
 ·exact Jo (fun i => uL (ls.getD i 0) m) _ _ false hb i hi
 ·exact Jo (fun i => !(x.getD i false)) _ _ false hb i hi
 ·exact Jo (fun i => x.getD i false && y.getD i false) _ _ false hb i hi
 ·exact Jo (fun i => x.getD i false || y.getD i false) _ _ false hb i hi
 ·exact Jo (fun i => x.getD (jg ls.length b i) false) _ _ false hb i hi
 ·exact ag6 (asN (fun i => x.getD i false) (fun i => y.getD i false)) _ _ false hb i hi
 ·exact ag6 (asO (fun i => x.getD i false) (fun i => y.getD i false)) _ _ true hb i hi
theorem ahc (p q : Nat → Bool) : ∀ (d i : Nat), (∀ j, i ≤ j → j < i + d → q j = false) → nU (fun i nx => q i || p i && nx) false i d = false
 | 0, i, _ => rfl
 | d + 1, i, h => by
  simp only [nU];rw [ahc p q d (i + 1) (fun j h1 h2 => h j ag ag), h i (Nat.le_refl _) ag];simp
theorem ahd (p q : Nat → Bool) : ∀ (d i : Nat), (∀ j, i ≤ j → j < i + d → q j = true) → nU (fun i nx => q i && (p i || nx)) true i d = true
 | 0, i, _ => rfl
 | d + 1, i, h => by
  simp only [nU];rw [ahd p q d (i + 1) (fun j h1 h2 => h j ag ag), h i (Nat.le_refl _) ag];simp
theorem settled (ls : List Int) (b : Nat) (hb : b < ls.length) (t : ak) (ht : dB t.f0 = true) : ∃ i, b ≤ i ∧ i < ls.length ∧ Jn ls b i t = true := by
 have h3 : t.f0 = 6 ∨ t.f0 = 7 ∨ t.f0 = 8 := by
  simp only [dB, Bool.and_eq_true, decide_eq_true_eq] at ht;omega
 rcases h3 with h | h | h
 ·exact ⟨b, Nat.le_refl _, hb, by unfold Jn wu; rw [if_pos h]⟩
 ·by_cases hq : ∃ j, b ≤ j ∧ j < ls.length ∧ ((fZ ls b t.f2).getD 1 []).getD j false = true
  ·obtain ⟨j, j1, j2, j3⟩ := hq;refine ⟨j, j1, j2, ?_⟩;unfold Jn;rw [h, j3];simp [wu]
  ·have hall : ∀ j, b ≤ j → j < b + (ls.length - b) → ((fZ ls b t.f2).getD 1 []).getD j false = false := fun j h1 h2 => by
    cases hc : ((fZ ls b t.f2).getD 1 []).getD j false with
    | false => rfl
    | true => exact absurd ⟨j, h1, by omega, hc⟩ hq
   refine ⟨b, Nat.le_refl _, hb, ?_⟩;have hr : (mH ls b t).getD b false = false := by
    rw [yM, h];show (jh (fun i nx => ((fZ ls b t.f2).getD 1 []).getD i false || ((fZ ls b t.f2).getD 0 []).getD i false && nx) ls.length b false).getD b false = false;have hx := ahc (fun i => ((fZ ls b t.f2).getD 0 []).getD i false) (fun i => ((fZ ls b t.f2).getD 1 []).getD i false) (ls.length - b) b hall;rw [MP _ _ _ _ hb b hb, hx, hx]
   unfold Jn;rw [h, hr];simp [wu]
 ·by_cases hq : ∃ j, b ≤ j ∧ j < ls.length ∧ ((fZ ls b t.f2).getD 1 []).getD j false = false
  ·obtain ⟨j, j1, j2, j3⟩ := hq;refine ⟨j, j1, j2, ?_⟩;unfold Jn;rw [h, j3];simp [wu]
  ·have hall : ∀ j, b ≤ j → j < b + (ls.length - b) → ((fZ ls b t.f2).getD 1 []).getD j false = true := fun j h1 h2 => by
    cases hc : ((fZ ls b t.f2).getD 1 []).getD j false with
    | true => rfl
    | false => exact absurd ⟨j, h1, by omega, hc⟩ hq
   refine ⟨b, Nat.le_refl _, hb, ?_⟩;have hr : (mH ls b t).getD b false = true := by
    rw [yM, h];show (jh (fun i nx => ((fZ ls b t.f2).getD 1 []).getD i false && (((fZ ls b t.f2).getD 0 []).getD i false || nx)) ls.length b true).getD b false = true;have hx := ahd (fun i => ((fZ ls b t.f2).getD 0 []).getD i false) (fun i => ((fZ ls b t.f2).getD 1 []).getD i false) (ls.length - b) b hall;rw [MP _ _ _ _ hb b hb, hx, hx]
   unfold Jn;rw [h, hr];simp [wu]
theorem asT (n : Int) (h0 : 0 ≤ n) (h1 : n < 2 ^ 62) : IntKind.i64.wrap n = n := by rw [IntKind.wrap_i64]; omega
theorem asU (a k : Nat) : (a : Int) / 2 ^ k = ((a / 2 ^ k : Nat) : Int) := by
 rw [Int.natCast_ediv, Int.natCast_pow]; rfl
theorem YN (a k : Nat) (h : a < 2 ^ 62) : jG (a : Int) k = decide (a / 2 ^ k % 2 = 1) := by
 unfold jG;rw [asU];have hlt : a / 2 ^ k < 2 ^ 62 := Nat.lt_of_le_of_lt (Nat.div_le_self _ _) h;have := Go.bits_mask .i64 62 ai asT 1 ai ((a / 2 ^ k : Nat) : Int) (Int.natCast_nonneg _) (by exact_mod_cast hlt);have e1 : ((2 : Int) ^ 1 - 1) = 1 := by decide
 have e2 : ((2 : Int) ^ 1) = 2 := by decide
 rw [e1, e2] at this;rw [this];generalize a / 2 ^ k = x at *;by_cases hb : x % 2 = 1
 ·rw [decide_eq_true hb];exact beq_iff_eq.2 ag
 ·rw [decide_eq_false hb];exact beq_eq_false_iff_ne.2 ag
def vU : List Bool → Nat
 | [] => 0
 | b :: r => b.toNat + 2 * vU r
theorem ahe : ∀ l : List Bool, vU l < 2 ^ l.length
 | [] => by simp [vU]
 | b :: r => by
  have := ahe r;have hb : b.toNat ≤ 1 := by cases b <;> decide
  simp only [vU, List.length_cons, Nat.pow_succ];omega
theorem Ry : ∀ (L : List Bool) (k a : Nat), a < 2 ^ 62 → a / 2 ^ k < 2 ^ L.length → jN (a : Int) L k = decide (a / 2 ^ k = vU L)
 | [], k, a, h1, h2 => by
  have : a / 2 ^ k = 0 := by simpa using h2
  exact (decide_eq_true this).symm
 | b :: r, k, a, h1, h2 => by
  have hc : vU (b :: r) = b.toNat + 2 * vU r := rfl;show (b == jG (a : Int) k && jN (a : Int) r (k + 1)) = _;have e1 : a / 2 ^ (k + 1) = a / 2 ^ k / 2 := by rw [Nat.pow_succ, Nat.div_div_eq_div_mul]
  simp only [List.length_cons, Nat.pow_succ] at h2;rw [Ry r (k + 1) a h1 (by rw [e1]; omega), YN a k h1, e1];generalize a / 2 ^ k = x at *;generalize vU (b :: r) = y at *;generalize vU r = z at *;cases b
  ·have hc : y = 2 * z := by rw [hc]; simp
   by_cases hx : x % 2 = 1
   ·rw [decide_eq_true hx, decide_eq_false (show ¬ x = y by omega)]; rfl
   ·rw [decide_eq_false hx];by_cases hy : x / 2 = z
    ·rw [decide_eq_true hy, decide_eq_true (show x = y by omega)]; rfl
    ·rw [decide_eq_false hy, decide_eq_false (show ¬ x = y by omega)]; rfl
  ·have hc : y = 1 + 2 * z := by rw [hc]; simp
   by_cases hx : x % 2 = 1
   ·rw [decide_eq_true hx];by_cases hy : x / 2 = z
    ·rw [decide_eq_true hy, decide_eq_true (show x = y by omega)]; rfl
    ·rw [decide_eq_false hy, decide_eq_false (show ¬ x = y by omega)]; rfl
   ·rw [decide_eq_false hx, decide_eq_false (show ¬ x = y by omega)]; rfl
def eT (n b : Nat) : Nat → Nat
 | 0 => 0
 | i + 1 => jg n b (eT n b i)
theorem Rz {n b : Nat} (hb : b < n) : ∀ i, eT n b i < n
 | 0 => by show 0 < n; omega
 | i + 1 => Ph hb
theorem RA {n b : Nat} : ∀ (d i : Nat), eT n b i + d < n → eT n b (i + d) = eT n b i + d
 | 0, i, _ => rfl
 | d + 1, i, h => by
  have ih := RA (n := n) (b := b) d i ag;show jg n b (eT n b (i + d)) = _;rw [ih];unfold jg;rw [if_pos ag]; omega
theorem ahf {n b : Nat} (hb : b < n) (i : Nat) : eT n b (i + (n - 1 - eT n b i) + 1) = b := by
 have h := Rz hb i;show jg n b (eT n b (i + (n - 1 - eT n b i))) = b;rw [RA _ _ ag];unfold jg;rw [if_neg ag]
theorem ahg {n b p : Nat} (hb : b < n) (h1 : b ≤ p) (h2 : p < n) (i : Nat) : ∃ j, i ≤ j ∧ eT n b j = p := by
 have h := ahf hb i;refine ⟨i + (n - 1 - eT n b i) + 1 + (p - b), by omega, ?_⟩;rw [RA _ _ (by rw [h]; omega), h]; omega
theorem ahh {n b i : Nat} (h : i < n) : eT n b i = i := by
 have := RA (n := n) (b := b) i 0 (by show 0 + i < n; omega);rw [Nat.zero_add] at this;rw [this];show 0 + i = i;omega
theorem RB {n b : Nat} (hb : b < n) : ∀ t, eT n b (b + (n - b) + t) = eT n b (b + t)
 | 0 => by
  have h := ahf hb 0;rw [show eT n b 0 = 0 from rfl, show 0 + (n - 1 - 0) + 1 = b + (n - b) + 0 by omega] at h;rw [h, Nat.add_zero, ahh hb]
 | t + 1 => by
  show jg n b (eT n b (b + (n - b) + t)) = jg n b (eT n b (b + t));rw [RB hb t]
theorem ahi (ls : List Int) (b : Nat) : ∀ l : List ak, fZ ls b l = l.map (mH ls b)
 | [] => rfl
 | c :: r => by rw [fZ, ahi ls b r, List.map_cons]
def MQ (ls : List Int) (b : Nat) (s : ak) (i : Nat) : Bool := (mH ls b s).getD (eT ls.length b i) false
theorem RD (ls : List Int) (b : Nat) (s : ak) (n i : Nat) : kid (MQ ls b) s n i = ((fZ ls b s.f2).getD n []).getD (eT ls.length b i) false := by
 unfold kid MQ;rw [ahi, ← getD_map, List.map_map]; rfl
theorem asV (ls : List Int) (b : Nat) (hb : b < ls.length) : tu (fun i => ls.getD (eT ls.length b i) 0) (MQ ls b) := by
 constructor
 ·intro s hs i;have h := row_step ls b s.f0 s.f1 ((fZ ls b s.f2).getD 0 []) ((fZ ls b s.f2).getD 1 []) hb (eT ls.length b i) (Rz hb i) (C8 hs).1;rw [← yM] at h;rw [RD, RD, RD];exact h
 ·intro s hs ht i;obtain ⟨p, h1, h2, h3⟩ := settled ls b hb s ht;obtain ⟨j, h4, h5⟩ := ahg hb h1 h2 i;refine ⟨j, h4, ?_⟩;rw [RD];unfold MQ;rw [h5];exact h3
theorem ahj (s : Nat) (lt : Int) : ∀ l : List lM, ng s lt l = vU (l.map (sP s lt))
 | [] => rfl
 | q :: r => by
  rw [ng, List.map_cons, vU, ahj s lt r];cases sP s lt q <;> rfl
theorem asW (a d m k : Nat) (ha : a < 2 ^ 62) (hk : k < m) : jG (((a / 2 ^ d) % 2 ^ m : Nat) : Int) k = jG (a : Int) (k + d) := by
 have h1 : (a / 2 ^ d) % 2 ^ m < 2 ^ 62 := Nat.lt_of_le_of_lt (Nat.le_trans (Nat.mod_le _ _) (Nat.div_le_self _ _)) ha;rw [YN _ _ h1, YN _ _ ha, ← Nat.testBit_eq_decide_div_mod_eq, ← Nat.testBit_eq_decide_div_mod_eq, Nat.testBit_mod_two_pow, decide_eq_true hk, Bool.true_and, Nat.testBit_div_two_pow, Nat.add_comm]
mutual
theorem ahk (a d m : Nat) (lt : Int) (ha : a < 2 ^ 62) : ∀ (s : ak) (k : Nat), k + az s ≤ m → dZ (((a / 2 ^ d) % 2 ^ m : Nat) : Int) lt s k = dZ (a : Int) lt s (k + d)
 | ⟨op, n, kids⟩, k, h => by
  rw [ER] at h;simp only at h;rw [Ig, Ig];simp only;rw [ahl a d m lt ha kids (k + tS op) ag, show k + tS op + d = k + d + tS op by omega];refine YL (fun ht => asW a d m k ha ?_);unfold tS at h;rw [if_pos ht] at h;omega
theorem ahl (a d m : Nat) (lt : Int) (ha : a < 2 ^ 62) : ∀ (l : List ak) (k : Nat), k + dI l ≤ m → dO (((a / 2 ^ d) % 2 ^ m : Nat) : Int) lt l k = dO (a : Int) lt l (k + d)
 | [], k, _ => rfl
 | c :: r, k, h => by
  rw [dI] at h;rw [dO, dO, ahk a d m lt ha c k ag, ahl a d m lt ha r (k + az c) ag, show k + az c + d = k + d + az c by omega]
end
def mQ (s : ak) : List ak := if dB s.f0 = true then [s] else []
theorem AX (s : ak) : bU s = mQ s ++ fO s.f2 := by cases s; rw [bU]; rfl
theorem ahm (s : ak) : (mQ s).length = tS s.f0 := by unfold mQ tS; split <;> rfl
theorem MR {s : ak} (h : bW s = 0) : jB s = ((2 ^ az s : Nat) : Int) := by
 unfold jB;rw [if_pos h, Int.natCast_pow]; rfl
theorem asX (a : Nat) (lt : Int) (ha : a < 2 ^ 62) (t : ak) (i : Nat) (hm : bW t = 0) (ht : dB t.f0 = true) : sP a lt (wP t i) = EP t.f0 ((dO (a : Int) lt t.f2 (i + tS t.f0)).getD 0 false) (dZ (a : Int) lt t i) := by
 have hh := U1 hm;have key : ∀ f : Nat, kL (jX t) (((a / 2 ^ f) % 2 ^ az (jX t) : Nat) : Int) lt = dZ (a : Int) lt (jX t) f := fun f => by
  have hst : il (jX t) (((a / 2 ^ f) % 2 ^ az (jX t) : Nat) : Int) = true := by
   refine decide_eq_true ?_;rw [MR hh];have := Nat.mod_lt (a / 2 ^ f) (Nat.pow_pos (n := az (jX t)) (show 0 < 2 by decide));omega
  unfold kL;rw [if_pos hst, ahk a f (az (jX t)) lt ha (jX t) 0 ag, Nat.zero_add]
 have hs := (kZ hm).2.2.2;by_cases h6 : t.f0 = 6
 ·have hk : 0 < t.f2.length := by
   have hp := (C8 hs).2.1;rw [h6] at hp;have h9 : fC 6 = 1 := by decide
   omega
  have YO : sP a lt (wP t i) = kL (jX t) (((a / 2 ^ (i + 1)) % 2 ^ az (jX t) : Nat) : Int) lt := by
   unfold sP wP;simp only [Int.toNat_natCast, if_pos h6]
  rw [YO, key (i + 1)];have hhd : jX t = t.f2.getD 0 z29 := by unfold jX; rw [if_pos h6]
  rw [hhd, show EP t.f0 ((dO (a : Int) lt t.f2 (i + tS t.f0)).getD 0 false) (dZ (a : Int) lt t i) = (dO (a : Int) lt t.f2 (i + tS t.f0)).getD 0 false from if_pos h6];have hts : tS t.f0 = 1 := by unfold tS; rw [if_pos ht]
  rw [hts];match hf : t.f2, hk with
  | c :: r, _ => rfl
 ·have YO : sP a lt (wP t i) = kL (jX t) (((a / 2 ^ i) % 2 ^ az (jX t) : Nat) : Int) lt := by
   unfold sP wP;simp only [Int.toNat_natCast, if_neg h6, Nat.add_zero]
  have hhd : jX t = t := by unfold jX; rw [if_neg h6]
  rw [YO, key i, hhd, show EP t.f0 ((dO (a : Int) lt t.f2 (i + tS t.f0)).getD 0 false) (dZ (a : Int) lt t i) = dZ (a : Int) lt t i from if_neg h6]
mutual
theorem ahn (a : Nat) (lt : Int) (ha : a < 2 ^ 62) : ∀ (s : ak) (k : Nat), (∀ t, t ∈ bU s → bW t = 0) → (partsOf (bU s) k).map (sP a lt) = kH (a : Int) lt s k
 | ⟨op, n, kids⟩, k, h => by
  have h' := h;rw [AX] at h' ⊢;rw [QT, List.map_append, Pj, ahm];have hk := aho a lt ha kids (k + tS op) (fun t ht => h' t (List.mem_append_right _ ht));simp only at hk ⊢;rw [hk];congr 1;unfold mQ bX;by_cases ht : dB op = true
  ·rw [if_pos (show dB (ak.mk op n kids).f0 = true from ht), if_pos ht];show [sP a lt (wP ⟨op, n, kids⟩ k)] = _;have hm : bW ⟨op, n, kids⟩ = 0 := h' _ (List.mem_append_left _ (by unfold mQ; rw [if_pos (show dB (ak.mk op n kids).f0 = true from ht)]; exact List.mem_singleton.2 rfl));rw [asX a lt ha ⟨op, n, kids⟩ k hm ht]
  ·rw [if_neg (show ¬ dB (ak.mk op n kids).f0 = true from ht), if_neg ht]; rfl
theorem aho (a : Nat) (lt : Int) (ha : a < 2 ^ 62) : ∀ (l : List ak) (k : Nat), (∀ t, t ∈ fO l → bW t = 0) → (partsOf (fO l) k).map (sP a lt) = mW (a : Int) lt l k
 | [], k, _ => rfl
 | c :: r, k, h => by
  rw [fO] at h ⊢;rw [QT, List.map_append, ahn a lt ha c k (fun t ht => h t (List.mem_append_left _ ht)), iW, aho a lt ha r (k + az c) (fun t ht => h t (List.mem_append_right _ ht)), mW]
end
theorem YP {f : ak} (hm : bW f = 0) (a : Nat) (lt : Int) (ha : a < 2 ^ 62) : ng a lt (partsOf (bU f) 0) = vU (kH (a : Int) lt f 0) := by
 rw [ahj, ahn a lt ha f 0 (fun t ht => (Kt f t ht).may hm)]
theorem size_pos (f : ak) : 0 < 2 ^ az f := Nat.pow_pos ai
theorem size_le {f : ak} (hm : bW f = 0) : 2 ^ az f ≤ 256 := Nat.pow_le_pow_right (n := 2) ai (kZ hm).2.2.1
section
variable {ls ss : List Int} {nxs : List (List Int)} {f : ak}
theorem ym {w t n : Nat} (h : t < n) : (w * n + t) / n = w ∧ (w * n + t) % n = t := by
 constructor
 ·rw [Nat.mul_comm, Nat.mul_add_div ag, Nat.div_eq_of_lt h, Nat.add_zero]
 ·rw [Nat.mul_comm, Nat.mul_add_mod, Nat.mod_eq_of_lt h]
theorem RF (hok : (bH ls ss nxs f).Ok) {x y : Nat} (hx : x < (bH ls ss nxs f).N) : y ∈ (bH ls ss nxs f).next x ↔ ∃ w t, w ∈ (bH ls ss nxs f).nxs.getD (x / 2 ^ az f) [] ∧ t < 2 ^ az f ∧ ng t (ls.getD w 0) (partsOf (bU f) 0) = x % 2 ^ az f ∧ y = w * 2 ^ az f + t := by
 have hd : x / 2 ^ az f < ls.length := hok.div hx;have hmod : x % 2 ^ az f < 2 ^ az f := Nat.mod_lt _ (size_pos f);have hrow : ∀ w, w < ls.length → (bH ls ss nxs f).after.getD (w * 2 ^ az f + x % 2 ^ az f) [] = (List.range (2 ^ az f)).filter (fun u => ng u (ls.getD w 0) (partsOf (bU f) 0) == x % 2 ^ az f) := fun w hw => by
  have hlt : w * 2 ^ az f + x % 2 ^ az f < 2 ^ az f * ls.length := by
   have h1 : (w + 1) * 2 ^ az f ≤ ls.length * 2 ^ az f := Nat.mul_le_mul_right _ hw;have h2 : (w + 1) * 2 ^ az f = w * 2 ^ az f + 2 ^ az f := Nat.succ_mul ..;rw [Nat.mul_comm (2 ^ az f) ls.length];omega
  show (mo (partsOf (bU f) 0) ls (2 ^ az f) (2 ^ az f * ls.length) ls.length 0).getD _ [] = _;rw [XT hlt];unfold vQ;rw [(ym hmod).1, (ym hmod).2, if_pos hw]
 have hE : (bH ls ss nxs f).next x = ((bH ls ss nxs f).nxs.getD (x / 2 ^ az f) []).flatMap ((bH ls ss nxs f).vE (x % 2 ^ az f)) := rfl;rw [hE, List.mem_flatMap];constructor
 ·rintro ⟨w, hw, hy⟩;have hwl := hok.nx _ hd w hw;have hR : (bH ls ss nxs f).vE (x % 2 ^ az f) w = ((bH ls ss nxs f).after.getD (w * 2 ^ az f + x % 2 ^ az f) []).map (fun t => w * 2 ^ az f + t) := rfl;rw [hR, hrow w hwl, List.mem_map] at hy;obtain ⟨t, ht, rfl⟩ := hy;rw [List.mem_filter, List.mem_range] at ht;exact ⟨w, t, hw, ht.1, beq_iff_eq.1 ht.2, rfl⟩
 ·rintro ⟨w, t, hw, ht, ha, rfl⟩;have hwl := hok.nx _ hd w hw;refine ⟨w, hw, ?_⟩;have hR : (bH ls ss nxs f).vE (x % 2 ^ az f) w = ((bH ls ss nxs f).after.getD (w * 2 ^ az f + x % 2 ^ az f) []).map (fun t => w * 2 ^ az f + t) := rfl;rw [hR, hrow w hwl, List.mem_map];exact ⟨t, by rw [List.mem_filter, List.mem_range]; exact ⟨ht, beq_iff_eq.2 ha⟩, rfl⟩
theorem ahp (hm : bW f = 0) {q x : Nat} (hq : q < az f) : (bH ls ss nxs f).good q x = (jW ((x % 2 ^ az f : Nat) : Int) (ls.getD (x / 2 ^ az f) 0) f 0).getD q false := by
 have hmod : x % 2 ^ az f < 2 ^ az f := Nat.mod_lt _ (size_pos f);show BG f (q : Int) ((x % 2 ^ az f : Nat) : Int) (ls.getD (x / 2 ^ az f) 0) = _;unfold BG;have hst : il f ((x % 2 ^ az f : Nat) : Int) = true := decide_eq_true (by rw [MR hm]; omega);rw [hst, decide_eq_true (show (0 : Int) ≤ (q : Int) by omega), decide_eq_true (show (q : Int) < (az f : Int) by omega), Int.toNat_natCast];rfl
theorem ahq (hm : bW f = 0) {v s : Nat} (hs : s < 2 ^ az f) : (bH ls ss nxs f).value v s = dZ ((s : Nat) : Int) (ls.getD v 0) f 0 := by
 show kL f (s : Int) (ls.getD v 0) = _;unfold kL;rw [if_pos (show il f (s : Int) = true from decide_eq_true (by rw [MR hm]; omega))]
theorem MS {want : Bool} {x : Nat} : x ∈ (bH ls ss nxs f).starts want ↔ ∃ v s, v ∈ (bH ls ss nxs f).ss ∧ s < 2 ^ az f ∧ (bH ls ss nxs f).value v s = want ∧ x = v * 2 ^ az f + s := by
 unfold PD.starts PD.zf;rw [List.mem_flatMap];constructor
 ·rintro ⟨v, hv, hx⟩;obtain ⟨s, hs, rfl⟩ := List.mem_map.1 hx;rw [List.mem_filter, List.mem_range] at hs;exact ⟨v, s, hv, hs.1, beq_iff_eq.1 hs.2, rfl⟩
 ·rintro ⟨v, s, hv, hs, hval, rfl⟩;exact ⟨v, hv, List.mem_map.2 ⟨s, by rw [List.mem_filter, List.mem_range]; exact ⟨hs, beq_iff_eq.2 hval⟩, rfl⟩⟩
theorem asY (hok : (bH ls ss nxs f).Ok) (hm : bW f = 0) {x : Nat → Nat} (hN : ∀ i, x i < (bH ls ss nxs f).N) (hp : ∀ i, x (i + 1) ∈ (bH ls ss nxs f).next (x i)) (hg : ∀ q, q < az f → ∀ i, ∃ j, i ≤ j ∧ (bH ls ss nxs f).good q (x j) = true)
  {W : ak → Nat → Bool} (hT : tu (fun i => ls.getD (x i / 2 ^ az f) 0) W) : ∀ i, dZ ((x i % 2 ^ az f : Nat) : Int) (ls.getD (x i / 2 ^ az f) 0) f 0 = W f i := by
 have ahr := size_le hm;refine aha (st := fun i => ((x i % 2 ^ az f : Nat) : Int)) hT f 0 (kZ hm).2.2.2 (fun i => ?_) (fun q hq i => ?_)
 ·obtain ⟨w, t, hw, ht, ha, e⟩ := (RF hok (hN i)).1 (hp i);have hmod : x i % 2 ^ az f < 2 ^ az f := Nat.mod_lt _ (size_pos f);rw [e, (ym ht).1, (ym ht).2, Ry _ 0 (x i % 2 ^ az f) ag (by rw [Kn, Nat.pow_zero, Nat.div_one]; exact hmod), Nat.pow_zero, Nat.div_one];rw [YP hm t _ ag] at ha;exact decide_eq_true ha.symm
 ·obtain ⟨j, h1, h2⟩ := hg q hq i;exact ⟨j, h1, by rw [ahp hm hq] at h2; exact h2⟩
theorem ahs {nx : Nat → List Nat} {inn : Nat → Bool} : ∀ (l : List Nat), Sg.iw nx inn l → ∀ i, i + 1 < l.length → l.getD (i + 1) 0 ∈ nx (l.getD i 0)
 | [], _, i, h => by simp at h
 | [a], _, i, h => by simp at h
 | a :: b :: r, hw, 0, _ => hw.1
 | a :: b :: r, hw, i + 1, h => ahs (b :: r) hw.2.2 i (by simpa using h)
theorem RH (hok : (bH ls ss nxs f).Ok) (hm : bW f = 0) {want : Bool} {a c : List Nat} (h : iK ls ss nxs f want = some (a, c)) :
  a.length < (a ++ c).length ∧ (∀ i, (a ++ c).getD (eT (a ++ c).length a.length i) 0 < (bH ls ss nxs f).N) ∧ (a ++ c).getD 0 0 ∈ (bH ls ss nxs f).starts want ∧
  (∀ i, (a ++ c).getD (eT (a ++ c).length a.length (i + 1)) 0 ∈ (bH ls ss nxs f).next ((a ++ c).getD (eT (a ++ c).length a.length i) 0)) ∧
  (∀ q, q < az f → ∀ i, ∃ j, i ≤ j ∧ (bH ls ss nxs f).good q ((a ++ c).getD (eT (a ++ c).length a.length j) 0) = true) := by
 have hs := Sg.find_spec (nx := (bH ls ss nxs f).next) (good := (bH ls ss nxs f).good) (N := (bH ls ss nxs f).N) (P := (bH ls ss nxs f).P) (frm := (bH ls ss nxs f).starts want) (fun x hx y hy => hok.xS hx hy) (fun x hx => hok.LY want hx);have h' : Sg.findF (bH ls ss nxs f).next (bH ls ss nxs f).good (bH ls ss nxs f).N (bH ls ss nxs f).P ((bH ls ss nxs f).starts want) = some (a, c) := h;rw [h'] at hs;obtain ⟨⟨x0, r, ec, Lx⟩, ⟨b0, r0, e0, hst⟩, hgood⟩ := hs;have hlc : 0 < c.length := by rw [ec]; simp
 have hla : (a ++ c).length = a.length + c.length := List.length_append;have hb : a.length < (a ++ c).length := by omega
 have h00 : (a ++ c).getD 0 0 = b0 := by rw [e0]; rfl
 have hx0 : (a ++ c).getD a.length 0 = x0 := by rw [List.getD_eq_getElem?_getD, List.getElem?_append_right (Nat.le_refl _), Nat.sub_self, ec]; rfl
 have CZ : (bH ls ss nxs f).P = az f := by
  show (partsOf (bU f) 0).length = az f;rw [DY, iW]
 have hstep : ∀ i, (a ++ c).getD (eT (a ++ c).length a.length (i + 1)) 0 ∈ (bH ls ss nxs f).next ((a ++ c).getD (eT (a ++ c).length a.length i) 0) := fun i => by
  have hp := Rz hb i;have e1 : eT (a ++ c).length a.length (i + 1) = jg (a ++ c).length a.length (eT (a ++ c).length a.length i) := rfl;rw [e1];generalize eT (a ++ c).length a.length i = p at hp ⊢;have hw := ahs _ Lx p (by rw [List.length_append, List.length_singleton]; omega);have g1 : (a ++ c ++ [x0]).getD p 0 = (a ++ c).getD p 0 := by rw [List.getD_eq_getElem?_getD, List.getElem?_append_left hp, List.getD_eq_getElem?_getD]
  rw [g1] at hw;unfold jg;by_cases hn : p + 1 < (a ++ c).length
  ·rw [if_pos hn];have g2 : (a ++ c ++ [x0]).getD (p + 1) 0 = (a ++ c).getD (p + 1) 0 := by rw [List.getD_eq_getElem?_getD, List.getElem?_append_left hn, List.getD_eq_getElem?_getD]
   rw [g2] at hw;exact hw
  ·rw [if_neg hn, hx0];have g2 : (a ++ c ++ [x0]).getD (p + 1) 0 = x0 := by rw [List.getD_eq_getElem?_getD, List.getElem?_append_right ag, show p + 1 - (a ++ c).length = 0 by omega]; rfl
   rw [g2] at hw;exact hw
 have h0 : (a ++ c).getD 0 0 ∈ (bH ls ss nxs f).starts want := by rw [h00]; exact hst
 have hlt : ∀ i, (a ++ c).getD (eT (a ++ c).length a.length i) 0 < (bH ls ss nxs f).N := by
  intro i
  induction i with
  | zero => exact hok.LY want h0
  | succ i ih => exact hok.xS ih (hstep i)
 refine ⟨hb, hlt, h0, hstep, fun q hq i => ?_⟩;obtain ⟨y, hy, hgy⟩ := hgood q (by rw [CZ]; exact hq);obtain ⟨p, hp, e⟩ := List.getElem_of_mem hy;obtain ⟨j, h1, h2⟩ := ahg hb (show a.length ≤ a.length + p by omega) ag i;refine ⟨j, h1, ?_⟩;rw [h2, List.getD_eq_getElem?_getD, List.getElem?_append_right ag, Nat.add_sub_cancel_left, List.getElem?_eq_getElem hp];show (bH ls ss nxs f).good q (c[p]'hp) = true;rw [e];exact hgy
theorem asZ (hok : (bH ls ss nxs f).Ok) (hm : bW f = 0) {want : Bool} {a c : List Nat} (h : iK ls ss nxs f want = some (a, c)) {W : ak → Nat → Bool}
  (hT : tu (fun i => ls.getD ((a ++ c).getD (eT (a ++ c).length a.length i) 0 / 2 ^ az f) 0) W) : W f 0 = want := by
 obtain ⟨hb, hN, h0, hp, hg⟩ := RH hok hm h;have hv := asY hok hm (x := fun i => (a ++ c).getD (eT (a ++ c).length a.length i) 0) hN hp hg hT 0;rw [show eT (a ++ c).length a.length 0 = 0 from rfl] at hv;obtain ⟨v, s, hv0, hs, hval, e⟩ := MS.1 h0;rw [e, (ym hs).1, (ym hs).2] at hv;rw [← hv, ← ahq (ss := ss) (nxs := nxs) hm hs, hval]
theorem as0 (hok : (bH ls ss nxs f).Ok) (hm : bW f = 0) {want : Bool} {a c : List Nat} (h : iK ls ss nxs f want = some (a, c)) :
  (a ++ c).getD 0 0 / 2 ^ az f ∈ (bH ls ss nxs f).ss ∧ (∀ i, (a ++ c).getD (eT (a ++ c).length a.length i) 0 / 2 ^ az f < ls.length) ∧ ∀ i, (a ++ c).getD (eT (a ++ c).length a.length (i + 1)) 0 / 2 ^ az f ∈ (bH ls ss nxs f).nxs.getD ((a ++ c).getD (eT (a ++ c).length a.length i) 0 / 2 ^ az f) [] := by
 obtain ⟨hb, hN, h0, hp, hg⟩ := RH hok hm h;refine ⟨?_, fun i => hok.div (hN i), fun i => ?_⟩
 ·obtain ⟨v, s, hv0, hs, hval, e⟩ := MS.1 h0;rw [e, (ym hs).1]; exact hv0
 ·obtain ⟨w, t, hw, ht, ha, e⟩ := (RF hok (hN i)).1 (hp i);rw [e, (ym ht).1]; exact hw
def rf (W : ak → Nat → Bool) (i : Nat) (t : ak) : Bool := if t.f0 = 6 then kid W t 0 i else W t i
def YQ (W : ak → Nat → Bool) (i : Nat) (t : ak) : Bool := wu t.f0 (W t i) (kid W t 1 i)
end
section
variable {σ : Nat → Int} {W : ak → Nat → Bool} {sv : Int} {i : Nat}
theorem YR {s : ak} {k : Nat} (h : jN sv ((bU s).map (rf W (i + 1))) k = true) : (dB s.f0 = true → jG sv k = rf W (i + 1) s) ∧ jN sv ((fO s.f2).map (rf W (i + 1))) (k + tS s.f0) = true := by
 rw [AX, List.map_append, Gz, Bool.and_eq_true] at h;have hl : ((mQ s).map (rf W (i + 1))).length = tS s.f0 := by rw [List.length_map, ahm]
 rw [hl] at h;refine ⟨fun ht => ?_, h.2⟩;have h1 := h.1;unfold mQ at h1;rw [if_pos ht] at h1;simp only [List.map_cons, List.map_nil, jN, Bool.and_true] at h1;exact (beq_iff_eq.1 h1).symm
mutual
theorem RI (hT : tu σ W) : ∀ (s : ak) (k : Nat), cO s = true → jN sv ((bU s).map (rf W (i + 1))) k = true → dZ sv (σ i) s k = W s i
 | ⟨op, m, kids⟩, k, hs, hm => by
  have hp := YR hm;have ih := RJ hT kids (k + tS op) (Af hs) hp.2;rw [Ig, hT.step ⟨op, m, kids⟩ hs i];simp only;rw [ih];refine YL (fun ht => ?_);rw [hp.1 ht];rfl
theorem RJ (hT : tu σ W) : ∀ (l : List ak) (k : Nat), gp l = true → jN sv ((fO l).map (rf W (i + 1))) k = true → dO sv (σ i) l k = l.map (fun g => W g i)
 | [], k, _, _ => rfl
 | c :: r, k, hs, hm => by
  simp only [gp, Bool.and_eq_true] at hs;rw [fO, List.map_append, Gz, Bool.and_eq_true, List.length_map, iW] at hm;rw [dO, RI hT c k hs.1 hm.1, RJ hT r _ hs.2 hm.2, List.map_cons]
end
mutual
theorem aht (hT : tu σ W) : ∀ (s : ak) (k : Nat), cO s = true → jN sv ((bU s).map (rf W (i + 1))) k = true → kH sv (σ i) s k = (bU s).map (rf W i)
 | ⟨op, m, kids⟩, k, hs, hm => by
  have hp := YR hm;have hv := RI hT ⟨op, m, kids⟩ k hs hm;have hk := RJ hT kids (k + tS op) (Af hs) hp.2;rw [AX, List.map_append, Pj, ahu hT kids _ (Af hs) hp.2, hv];simp only;rw [hk];congr 1;unfold bX mQ;by_cases ht : dB op = true
  ·rw [if_pos ht, if_pos (show dB (ak.mk op m kids).f0 = true from ht)]; rfl
  ·rw [if_neg ht, if_neg (show ¬ dB (ak.mk op m kids).f0 = true from ht)]; rfl
theorem ahu (hT : tu σ W) : ∀ (l : List ak) (k : Nat), gp l = true → jN sv ((fO l).map (rf W (i + 1))) k = true → mW sv (σ i) l k = (fO l).map (rf W i)
 | [], k, _, _ => rfl
 | c :: r, k, hs, hm => by
  simp only [gp, Bool.and_eq_true] at hs;rw [fO, List.map_append, Gz, Bool.and_eq_true, List.length_map, iW] at hm;rw [fO, List.map_append, mW, aht hT c k hs.1 hm.1, ahu hT r _ hs.2 hm.2]
end
mutual
theorem ahv (hT : tu σ W) : ∀ (s : ak) (k : Nat), cO s = true → jN sv ((bU s).map (rf W (i + 1))) k = true → jW sv (σ i) s k = (bU s).map (YQ W i)
 | ⟨op, m, kids⟩, k, hs, hm => by
  have hp := YR hm;have hv := RI hT ⟨op, m, kids⟩ k hs hm;have hk := RJ hT kids (k + tS op) (Af hs) hp.2;rw [AX, List.map_append, Pk, ahw hT kids _ (Af hs) hp.2, hv];simp only;rw [hk];congr 1;unfold bX mQ;by_cases ht : dB op = true
  ·rw [if_pos ht, if_pos (show dB (ak.mk op m kids).f0 = true from ht)]; rfl
  ·rw [if_neg ht, if_neg (show ¬ dB (ak.mk op m kids).f0 = true from ht)]; rfl
theorem ahw (hT : tu σ W) : ∀ (l : List ak) (k : Nat), gp l = true → jN sv ((fO l).map (rf W (i + 1))) k = true → nM sv (σ i) l k = (fO l).map (YQ W i)
 | [], k, _, _ => rfl
 | c :: r, k, hs, hm => by
  simp only [gp, Bool.and_eq_true] at hs;rw [fO, List.map_append, Gz, Bool.and_eq_true, List.length_map, iW] at hm;rw [fO, List.map_append, nM, ahv hT c k hs.1 hm.1, ahw hT r _ hs.2 hm.2]
end
end
mutual
theorem ahx : ∀ (s t : ak), t ∈ bU s → dB t.f0 = true
 | ⟨op, m, kids⟩, t, h => by
  rw [AX] at h;rcases List.mem_append.1 h with h | h
  ·unfold mQ at h;split at h
   ·rename_i ho
    rw [List.mem_singleton.1 h]; exact ho
   ·cases h
  ·exact ahy kids t h
theorem ahy : ∀ (l : List ak) (t : ak), t ∈ fO l → dB t.f0 = true
 | [], t, h => by simp [fO] at h
 | c :: r, t, h => by
  rw [fO] at h;rcases List.mem_append.1 h with h | h
  ·exact ahx c t h
  ·exact ahy r t h
end
theorem RL {nx : Nat → List Nat} {x : Nat → Nat} (hp : ∀ i, x (i + 1) ∈ nx (x i)) : ∀ d i, Sg.Reach nx (x i) (x (i + d))
 | 0, i => Sg.Reach.refl _
 | d + 1, i => (RL hp d i).snoc (hp (i + d))
section
variable {ls ss : List Int} {nxs : List (List Int)} {f : ak}
theorem as1 (hok : (bH ls ss nxs f).Ok) (hm : bW f = 0) {want : Bool} (h : iK ls ss nxs f want = none) {v : Nat → Nat} (hv0 : v 0 ∈ (bH ls ss nxs f).ss) (hvl : ∀ i, v i < ls.length) (hv : ∀ i, v (i + 1) ∈ (bH ls ss nxs f).nxs.getD (v i) [])
  {W : ak → Nat → Bool} (hT : tu (fun i => ls.getD (v i) 0) W) {b p : Nat} (hp0 : 0 < p) (Ea : ∀ i, b ≤ i → v (i + p) = v i) (ahz : ∀ s i, cO s = true → b ≤ i → W s (i + p) = W s i) : W f 0 ≠ want := by
 intro hw;have hs := (kZ hm).2.2.2;have ahr := size_le hm;have hspec := Sg.find_spec (nx := (bH ls ss nxs f).next) (good := (bH ls ss nxs f).good) (N := (bH ls ss nxs f).N) (P := (bH ls ss nxs f).P) (frm := (bH ls ss nxs f).starts want) (fun x hx y hy => hok.xS hx hy) (fun x hx => hok.LY want hx);have h' : Sg.findF (bH ls ss nxs f).next (bH ls ss nxs f).good (bH ls ss nxs f).N (bH ls ss nxs f).P ((bH ls ss nxs f).starts want) = none := h;rw [h'] at hspec;have CZ : (bH ls ss nxs f).P = az f := by
  show (partsOf (bU f) 0).length = az f;rw [DY, iW]
 obtain ⟨t, ht⟩ : ∃ t : Nat → Nat, ∀ i, t i = vU ((bU f).map (rf W (i + 1))) := ⟨fun i => vU ((bU f).map (rf W (i + 1))), fun _ => rfl⟩;have htl : ∀ i, t i < 2 ^ az f := fun i => by
  rw [ht i];have := ahe ((bU f).map (rf W (i + 1)))
  rwa [List.length_map, iW] at this
 have hmv : ∀ i, jN ((t i : Nat) : Int) ((bU f).map (rf W (i + 1))) 0 = true := fun i => by
  have := htl i;rw [Ry _ 0 (t i) ag (by rw [List.length_map, iW, Nat.pow_zero, Nat.div_one]; exact htl i), Nat.pow_zero, Nat.div_one, ht i];exact decide_eq_true rfl
 have hval : ∀ i, dZ ((t i : Nat) : Int) (ls.getD (v i) 0) f 0 = W f i := fun i => RI hT f 0 hs (hmv i);have hsaid : ∀ i, kH ((t i : Nat) : Int) (ls.getD (v i) 0) f 0 = (bU f).map (rf W i) := fun i => aht hT f 0 hs (hmv i);have hgood : ∀ i, jW ((t i : Nat) : Int) (ls.getD (v i) 0) f 0 = (bU f).map (YQ W i) := fun i => ahv hT f 0 hs (hmv i);obtain ⟨x, hx⟩ : ∃ x : Nat → Nat, ∀ i, x i = v i * 2 ^ az f + t i := ⟨fun i => v i * 2 ^ az f + t i, fun _ => rfl⟩;have hxd : ∀ i, x i / 2 ^ az f = v i := fun i => by rw [hx i, (ym (htl i)).1]
 have hxm : ∀ i, x i % 2 ^ az f = t i := fun i => by rw [hx i, (ym (htl i)).2]
 have ou : ∀ i, x i < (bH ls ss nxs f).N := fun i => by
  have h1 : (v i + 1) * 2 ^ az f ≤ ls.length * 2 ^ az f := Nat.mul_le_mul_right _ (hvl i);have h2 : (v i + 1) * 2 ^ az f = v i * 2 ^ az f + 2 ^ az f := Nat.succ_mul ..;have h3 := htl i;show x i < 2 ^ az f * ls.length;rw [hx i, Nat.mul_comm (2 ^ az f) ls.length];omega
 have RN : ∀ i, x (i + 1) ∈ (bH ls ss nxs f).next (x i) := fun i => by
  refine (RF hok (ou i)).2 ⟨v (i + 1), t (i + 1), by rw [hxd i]; exact hv i, htl (i + 1), ?_, hx (i + 1)⟩;have := htl (i + 1);rw [hxm i, YP hm (t (i + 1)) _ ag, hsaid (i + 1), ht i]
 have hst : x 0 ∈ (bH ls ss nxs f).starts want := by
  refine MS.2 ⟨v 0, t 0, hv0, htl 0, ?_, hx 0⟩;rw [ahq hm (htl 0), hval 0, hw]
 have hkp : ∀ s n i, cO s = true → b ≤ i → kid W s n (i + p) = kid W s n i := fun s n i hs0 hi => by
  unfold kid;congr 1;apply List.map_congr_left;intro g hg;refine ahz g i ?_ hi;exact (sG.kid hg).ps hs0
 have hsub : ∀ g, g ∈ bU f → cO g = true := fun g hg => (Kt f g hg).ps hs;have hxp : ∀ i, b ≤ i → x (i + p) = x i := fun i hi => by
  rw [hx, hx, Ea i hi, ht, ht];congr 2;apply List.map_congr_left;intro g hg;unfold rf;rw [show i + p + 1 = i + 1 + p by omega, hkp g 0 (i + 1) (hsub g hg) ag, ahz g (i + 1) (hsub g hg) ag]
 have hxk : ∀ k, x (b + k * p) = x b := fun k => by
  induction k with
  | zero => rw [Nat.zero_mul, Nat.add_zero]
  | succ k ih => rw [Nat.succ_mul, ← Nat.add_assoc, hxp _ ag, ih]
 have hback : ∀ j, b ≤ j → Sg.Reach (bH ls ss nxs f).next (x j) (x b) := fun j hj => by
  have h1 : j ≤ b + (j + 1) * p := by
   have : j + 1 ≤ (j + 1) * p := Nat.le_mul_of_pos_right _ hp0;omega
  have := RL RN (b + (j + 1) * p - j) j
  rwa [show j + (b + (j + 1) * p - j) = b + (j + 1) * p by omega, hxk] at this
 refine hspec (x 0) (x b) hst (by have := RL RN b 0; rwa [Nat.zero_add] at this) ⟨⟨x (b + 1), RN b, hback (b + 1) ag⟩, fun q hq => ?_⟩;rw [CZ] at hq;have Bg : q < (bU f).length := by rw [iW]; exact hq
 have hti := ahx f _ (List.getElem_mem Bg);obtain ⟨j, hj1, hj2⟩ := hT.fair _ (hsub _ (List.getElem_mem Bg)) hti b;refine ⟨x j, by have := RL RN (j - b) b; rwa [show b + (j - b) = j by omega] at this, hback j hj1, ?_⟩;rw [ahp hm hq, hxd, hxm, hgood j, List.getD_eq_getElem?_getD, List.getElem?_map, List.getElem?_eq_getElem Bg];exact hj2
end
theorem as2 {v : Nat → Nat} {b p : Nat} (hp : 0 < p) (Ea : ∀ i, b ≤ i → v (i + p) = v i) : ∀ i, v i = v (eT (b + p) b i) := by
 intro i;have key : ∀ n i, i < n → v i = v (eT (b + p) b i) := by
  intro n
  induction n with
  | zero => intro i h; omega
  | succ n ih =>
   intro i h;by_cases hi : i < b + p
   ·rw [ahh hi]
   ·have h1 := RB (n := b + p) (b := b) ag (i - b - p);rw [show b + (b + p - b) + (i - b - p) = i by omega, show b + (i - b - p) = i - p by omega] at h1;rw [h1, ← ih (i - p) ag];have := Ea (i - p) ag;rw [show i - p + p = i by omega] at this;exact this
 exact key (i + 1) i ag
theorem as3 (ls : List Int) {v : Nat → Nat} {b p : Nat} (hp : 0 < p) (Ea : ∀ i, b ≤ i → v (i + p) = v i) : ∃ W, tu (fun i => ls.getD (v i) 0) W ∧ ∀ s i, b ≤ i → W s (i + p) = W s i := by
 obtain ⟨L, hL⟩ : ∃ L : List Int, L = (List.range (b + p)).map (fun i => ls.getD (v i) 0) := ⟨_, rfl⟩;have hl : L.length = b + p := by rw [hL, List.length_map, List.length_range]
 have hb : b < L.length := by omega
 have hT := asV L b hb;have e : (fun i => L.getD (eT L.length b i) 0) = (fun i => ls.getD (v i) 0) := funext (fun i => by
  have h := Rz hb i;rw [hl] at h ⊢;rw [hL, List.getD_eq_getElem?_getD, List.getElem?_map, List.getElem?_range h];show ls.getD (v (eT (b + p) b i)) 0 = _;rw [← as2 hp Ea i])
 rw [e] at hT;refine ⟨_, hT, fun s i hi => ?_⟩;unfold MQ;have := RB hb (i - b);rw [hl] at this ⊢;rw [show b + (b + p - b) + (i - b) = i + p by omega, show b + (i - b) = i by omega] at this;rw [this]
section
variable {ls ss : List Int} {nxs : List (List Int)} {f : ak}
end
end Go.Proofs.YtapejnikpmfddaaGreat.L
namespace Go.Proofs.YtapejnikpmfddaaGreat.X
open Go.RowKit Go.Proofs.aI.bM Go.Proofs.aI.dM
open Go.Proofs.YtapejnikpmfddaaGreat.P Go.Proofs.YtapejnikpmfddaaGreat.gY
def YS (s : ak) : Prop := ∀ (d r : Int), 0 ≤ d → d ≤ 41 → 0 ≤ r → r ≤ 500 → ∃ n : Int, Ev (fun k => kS.f k s.f0 s.f1 s.f2 d r) n ∧ 1 ≤ n ∧ n ≤ 1000
theorem ahA (kids : List ak) (d r : Int) (hd0 : 0 ≤ d) (hd : d ≤ 40) (hr0 : 1 ≤ r) (hr : r ≤ 500) (ih : ∀ k ∈ kids, YS k) :
  ∀ (e j : Nat) (n : Int), j + e = kids.length → (j : Int) < n → n ≤ r → ∃ n' : Int, Ev (fun k => kS.l0 k d r n kids (kids.length : Int) j) n' ∧ 1 ≤ n' ∧ n' ≤ 1000
 | 0, j, n, hj, h1, h2 => ⟨n, eO (fun k => rfl) (lN ag (dx _)), by omega, by omega⟩
 | e + 1, j, n, hj, h1, h2 => by
  have hlt : j < kids.length := by omega
  obtain ⟨x, hx, x1, x2⟩ := ih _ (List.getElem_mem hlt) (d + 1) (r - n) ag ag ag ag;by_cases hc : n + x > r
  ·refine ⟨1000, eO (fun k => rfl) (dC ag (dC ag (dC ag ?_))), by omega, by omega⟩;rw [Ih kids j hlt, jA (x := d + 1) ag ag, jA (x := r - n) ag ag];refine qO hx ?_;rw [jA ag ag];exact dC hc (dx _)
  ·obtain ⟨n', hn', a1, a2⟩ := ahA kids d r hd0 hd hr0 hr ih e (j + 1) (n + x) ag ag ag;refine ⟨n', eO (fun k => rfl) (dC ag (dC ag (dC ag ?_))), a1, a2⟩;rw [Ih kids j hlt, jA (x := d + 1) ag ag, jA (x := r - n) ag ag];refine qO hx ?_;rw [jA (x := n + x) ag ag, jA (x := (j : Int) + 1) ag ag];refine lN hc ?_
   exact_mod_cast hn'
mutual
theorem ahB : ∀ s : ak, YS s
 | ⟨op, m, kids⟩ => by
  intro d r h1 h2 h3 h4;have ih := ahC kids;by_cases hd : d > 40
  ·exact ⟨1000, eO (fun k => rfl) (dC hd (eO (f := fun _ => some 1000) (fun k => rfl) (dx _))), by omega, by omega⟩
  ·by_cases hr : r < 1
   ·exact ⟨1000, eO (fun k => rfl) (lN hd (eO (fun k => rfl) (dC (decide_eq_true hr) (dx _)))), by omega, by omega⟩
   ·obtain ⟨n', hn', a1, a2⟩ := ahA kids d r h1 ag ag h4 ih kids.length 0 1 ag ag ag;exact ⟨n', eO (fun k => rfl) (lN hd (eO (fun k => rfl) (lN (by rw [decide_eq_false hr]; simp) hn'))), a1, a2⟩
theorem ahC : ∀ l : List ak, ∀ k ∈ l, YS k
 | [], k, hk => by cases hk
 | a :: r, k, hk => by
  rcases List.mem_cons.1 hk with e | e
  ·rw [e]; exact ahB a
  ·exact ahC r k e
end
theorem as4 (s : ak) : ∃ n : Int, Ev (fun k => Jd.f k s.f0 s.f1 s.f2) n ∧ 0 ≤ n ∧ n ≤ 1000 := by
 obtain ⟨n, hn, a1, a2⟩ := ahB s 0 500 ag ag ag ag;unfold Jd.f;by_cases h : n > 300
 ·exact ⟨n, qO hn (dC h (dx _)), by omega, by omega⟩
 ·exact ⟨0, qO hn (lN h (dx _)), by omega, by omega⟩
open Go.Proofs.aI.dG
mutual
def nV (sv lt : Int) : ak → Nat → List Bool
 | ⟨op, m, kids⟩, k => bX op (dZ sv lt ⟨op, m, kids⟩ k) ++ rq sv lt kids (k + tS op)
def rq (sv lt : Int) : List ak → Nat → List Bool
 | [], _ => []
 | c :: r, k => nV sv lt c k ++ rq sv lt r (k + az c)
end
mutual
def rW (sv lt : Int) : ak → Nat → List Bool
 | ⟨op, m, kids⟩, k => bX op ((dO sv lt kids (k + tS op)).getLastD false) ++ uE sv lt kids (k + tS op)
def uE (sv lt : Int) : List ak → Nat → List Bool
 | [], _ => []
 | c :: r, k => rW sv lt c k ++ uE sv lt r (k + az c)
end
mutual
def rX (sv lt : Int) : ak → Nat → List Bool
 | ⟨op, m, kids⟩, k => bX op ((dO sv lt kids (k + tS op)).getD 0 false) ++ uF sv lt kids (k + tS op)
def uF (sv lt : Int) : List ak → Nat → List Bool
 | [], _ => []
 | c :: r, k => rX sv lt c k ++ uF sv lt r (k + az c)
end
mutual
theorem Eb (sv lt : Int) : ∀ (s : ak) (k : Nat), (nV sv lt s k).length = az s
 | ⟨op, m, kids⟩, k => by simp only [nV, List.length_append, tL, ahD sv lt kids, az]
theorem ahD (sv lt : Int) : ∀ (l : List ak) (k : Nat), (rq sv lt l k).length = dI l
 | [], _ => rfl
 | c :: r, k => by simp only [rq, List.length_append, Eb sv lt c, ahD sv lt r, dI]
end
mutual
theorem MU (sv lt : Int) : ∀ (s : ak) (k : Nat), (rW sv lt s k).length = az s
 | ⟨op, m, kids⟩, k => by simp only [rW, List.length_append, tL, ahE sv lt kids, az]
theorem ahE (sv lt : Int) : ∀ (l : List ak) (k : Nat), (uE sv lt l k).length = dI l
 | [], _ => rfl
 | c :: r, k => by simp only [uE, List.length_append, MU sv lt c, ahE sv lt r, dI]
end
mutual
theorem MV (sv lt : Int) : ∀ (s : ak) (k : Nat), (rX sv lt s k).length = az s
 | ⟨op, m, kids⟩, k => by simp only [rX, List.length_append, tL, ahF sv lt kids, az]
theorem ahF (sv lt : Int) : ∀ (l : List ak) (k : Nat), (uF sv lt l k).length = dI l
 | [], _ => rfl
 | c :: r, k => by simp only [uF, List.length_append, MV sv lt c, ahF sv lt r, dI]
end
theorem YT (sv lt : Int) (s : ak) (k : Nat) : nV sv lt s k = bX s.f0 (dZ sv lt s k) ++ rq sv lt s.f2 (k + tS s.f0) := by cases s; rw [nV]
theorem ahG (sv lt : Int) (s : ak) (k : Nat) : rW sv lt s k = bX s.f0 ((dO sv lt s.f2 (k + tS s.f0)).getLastD false) ++ uE sv lt s.f2 (k + tS s.f0) := by cases s; rw [rW]
theorem ahH (sv lt : Int) (s : ak) (k : Nat) : rX sv lt s k = bX s.f0 ((dO sv lt s.f2 (k + tS s.f0)).getD 0 false) ++ uF sv lt s.f2 (k + tS s.f0) := by cases s; rw [rX]
def cK {α : Type} (a b c : α) : Fin 3 → α
 | 0 => a
 | 1 => b
 | 2 => c
theorem ahI {α : Type} (a b c x : α) : (fun j => if j = 0 then x else cK a b c j) = cK x b c := by funext j; match j with | 0 => rfl | 1 => rfl | 2 => rfl
theorem YU {α : Type} (a b c x : α) : (fun j => if j = 1 then x else cK a b c j) = cK a x c := by funext j; match j with | 0 => rfl | 1 => rfl | 2 => rfl
theorem YV {α : Type} (a b c x : α) : (fun j => if j = 2 then x else cK a b c j) = cK a b x := by funext j; match j with | 0 => rfl | 1 => rfl | 2 => rfl
def ny (w : World) (ob : Nat) (a b c : Value) : Prop := w.heap[ob]? = some (.cells #[a, b, c] 86 (0, 0))
section
variable {w w1 : World} {ob : Nat} {a b c : Value}
theorem MW (h : ny w ob a b c) : w.cell? ⟨ob, 0, none⟩ = some a := (aj h 0).trans rfl
theorem GA (h : ny w ob a b c) : w.cell? ⟨ob, 1, none⟩ = some b := (aj h 1).trans rfl
theorem Jp (h : ny w ob a b c) : w.cell? ⟨ob, 2, none⟩ = some c := (aj h 2).trans rfl
theorem ahJ (h : ny w ob a b c) (v : Value) : ny (w.setCell ⟨ob, 0, none⟩ v) ob v b c := (jc h 0 v).trans rfl
theorem ahK (h : ny w ob a b c) (v : Value) : ny (w.setCell ⟨ob, 1, none⟩ v) ob a v c := (jc h 1 v).trans rfl
theorem ahL (h : ny w ob a b c) (v : Value) : ny (w.setCell ⟨ob, 2, none⟩ v) ob a b v := (jc h 2 v).trans rfl
end
def BX (W w : World) (g : Nat) (x : Bool) : Prop := W.heap.size ≤ g ∧ w.heap[g]? = some (.cells #[.bool x] 4 (0, 0))
structure Rows {ι : Type} [DecidableEq ι] (w0 W0 : World) (rb : Nat) (vs : ι → Value) (w : World) (v : ι → Value) (l : ι → List Bool) : Prop where
 o : ∀ i, w.ownsRow w0.heap.size 4 1 (v i) (l i).length (encs Value.bool (l i))
 ne : ∀ i j, i ≠ j → (v i).ownBlock = none ∨ (v i).ownBlock ≠ (v j).ownBlock
 kp : Kept W0 w (fun k => (∃ i, some k = (vs i).ownBlock) ∨ k = rb)
 n : ∀ i k, (v i).ownBlock = some k → some k = (vs i).ownBlock ∨ W0.heap.size ≤ k
 lt : ∀ i k, (vs i).ownBlock = some k → k < W0.heap.size
 rl : rb < W0.heap.size
 r : ∀ i, some rb ≠ (vs i).ownBlock
 bl : Below w0.heap.size w0 w
 wz : w0.heap.size ≤ rb
section
variable {ι : Type} [DecidableEq ι] {w0 W0 w w1 : World} {rb g cap : Nat} {vs v : ι → Value} {l : ι → List Bool}
theorem Rows.RO (h : Rows w0 W0 rb vs w v l) (i : ι) : some rb ≠ (v i).ownBlock := fun e => by
 rcases h.n i rb e.symm with h1 | h1
 ·exact h.r i h1
 ·have := h.rl; omega
theorem Rows.step (h : Rows w0 W0 rb vs w v l) (hk : Kept w w1 (fun k => k = rb)) (hb : Below w0.heap.size w0 w1) : Rows w0 W0 rb vs w1 v l :=
 { h with
  o := fun i => yu (h.o i) (fun k hk1 => hk.2 k (iD (h.o i) k hk1) (fun e => h.RO i (by rw [hk1, e])))
  kp := h.kp.CJ hk (fun k e => .inl (.inr e))
  bl := hb }
theorem Rows.alloc (h : Rows w0 W0 rb vs w v l) (o : Obj) : Rows w0 W0 rb vs (w.alloc o) v l := h.step ((Kept.refl w _).alloc o) (aW h.bl _)
theorem Rows.drew (h : Rows w0 W0 rb vs w v l) : Rows w0 W0 rb vs w.drew v l := h.step ((Kept.refl w _).drew) (bV h.bl)
theorem Rows.below (h : Rows w0 W0 rb vs w v l) (hb : Below w.heap.size w w1) : Rows w0 W0 rb vs w1 v l := h.step (Kept.of_below hb _) (h.bl.trans (hb.mono h.bl.size))
theorem Rows.Bt (h : Rows w0 W0 rb vs w v l) (j : Nat) (u : Value) : Rows w0 W0 rb vs (w.setCell ⟨rb, j, none⟩ u) v l :=
 h.step (Kept.setCell (p := ⟨rb, j, none⟩) (Kept.refl w (fun k => k = rb)) (.inl rfl) u) (h.bl.setCell h.wz u)
theorem Rows.app (h : Rows w0 W0 rb vs w v l) (i : ι) (hv : v i = vs i) (b : Bool) (ho : w1.ownsRow w0.heap.size 4 1 (.slice (some ⟨g, 0, none⟩) ((l i).length + 1) cap) ((l i).length + 1) (encs Value.bool (l i) ++ [.bool b])) (hg : w.grownBy w1 (v i).ownBlock) (hat : (v i).ownBlock = some g ∨ g = w.heap.size) :
  Rows w0 W0 rb vs w1 (fun j => if j = i then .slice (some ⟨g, 0, none⟩) ((l i).length + 1) cap else v j) (fun j => if j = i then l i ++ [b] else l j) := by
 have oV : (Value.slice (some ⟨g, 0, none⟩) ((l i).length + 1) cap).ownBlock = some g := rfl;have hnew : ∀ j, j ≠ i → (v j).ownBlock ≠ some g := by
  intro j hj e;have h2 := iD (h.o j) g e;rcases hat with h1 | h1
  ·rcases h.ne j i hj with h3 | h3
   ·rw [h3] at e; cases e
   ·exact h3 (by rw [e, h1])
  ·omega
 refine { h with o := ?_, ne := ?_, kp := ?_, n := ?_, bl := ?_ }
 ·intro j;by_cases hj : j = i
  ·subst hj;simp only [if_pos];rw [U2, List.length_append];exact ho
  ·simp only [if_neg hj];refine yu (h.o j) (fun k hk => hg.block k (iD (h.o j) k hk) (fun e => ?_));rcases h.ne j i hj with h1 | h1
   ·rw [h1] at hk; cases hk
   ·exact h1 (by rw [hk, e])
 ·intro j k hjk;by_cases hj : j = i
  ·subst hj;simp only [if_pos, if_neg (Ne.symm hjk)];exact .inr (fun e => hnew k (Ne.symm hjk) (e.symm.trans oV))
  ·by_cases hk : k = i
   ·subst hk;simp only [if_pos, if_neg hj];exact .inr (fun e => hnew j hj (e.trans oV))
   ·simp only [if_neg hj, if_neg hk];exact h.ne j k hjk
 ·exact Kept.Cz hg h.kp (fun k hk => .inl (.inl ⟨i, by rw [← hv, hk]⟩))
 ·intro j k hk;by_cases hj : j = i
  ·subst hj;simp only [if_pos] at hk;rw [oV] at hk;injection hk with hk
   subst hk;rcases hat with h1 | h1
   ·exact .inl (by rw [← hv, h1])
   ·right; have := h.kp.1; omega
  ·simp only [if_neg hj] at hk;exact h.n j k hk
 ·exact Tq h.bl _ h.bl.size hg (xm (h.o i))
theorem Rows.YW (h : Rows w0 W0 rb vs w v l) (i : ι) (hv : v i = vs i) {x : Bool} (hb : BX W0 w g x) (hg : w.grownBy w1 (v i).ownBlock) : BX W0 w1 g x :=
 ⟨hb.1, oM hb.2 hg (fun e => by rw [hv] at e; have := h.lt i g e.symm; have := hb.1; omega)⟩
theorem Rows.keepR (h : Rows w0 W0 rb vs w v l) (i : ι) (hv : v i = vs i) {o : Obj} (hb : w.heap[rb]? = some o) (hg : w.grownBy w1 (v i).ownBlock) : w1.heap[rb]? = some o := oM hb hg (h.RO i)
theorem Rows.put (h : Rows w0 W0 rb vs w v l) (i : ι) {k : Nat} (hk : k < (l i).length) :
  ∃ g c, v i = .slice (some ⟨g, 0, none⟩) (l i).length c ∧ g ≠ rb ∧ w.cell? ⟨g, k, none⟩ = some (.bool ((l i).getD k false)) ∧ w.frozen? ⟨g, k, none⟩ = false ∧ (some g = (vs i).ownBlock ∨ W0.heap.size ≤ g) ∧
   ∀ b, Rows w0 W0 rb vs (w.setCell ⟨g, k, none⟩ (.bool b)) v (fun j => if j = i then (l i).set k b else l j) := by
 obtain ⟨g, c, e, hb, hl, p, q, s⟩ := Ey (h.o i) hk;have oV : (v i).ownBlock = some g := by rw [e]; rfl
 refine ⟨g, c, e, fun e2 => h.RO i (by rw [oV, e2]), p, q, ?_, fun b => ?_⟩
 ·rcases h.n i g oV with h1 | h1
  ·exact .inl h1
  ·exact .inr h1
 ·refine { h with o := ?_, kp := ?_, bl := h.bl.setCell hb _ }
  ·intro j;by_cases hj : j = i
   ·subst hj;simp only [if_pos];exact s b
   ·simp only [if_neg hj];refine NL (p := ⟨g, k, none⟩) (h.o j) (fun e2 => ?_) _;rcases h.ne i j (Ne.symm hj) with h1 | h1
    ·rw [oV] at h1; cases h1
    ·exact h1 (by rw [oV, e2])
  ·refine h.kp.setCell (p := ⟨g, k, none⟩) ?_ _;rcases h.n i g oV with h1 | h1
   ·exact .inl (.inl ⟨i, h1⟩)
   ·exact .inr h1
end
theorem as5 {w0 W0 w : World} {rb : Nat} {vs : Fin 3 → Value} {a b c x : Value} {la lb lc lx : List Bool} (h : Rows w0 W0 rb vs w (fun j => if j = 0 then x else cK a b c j) (fun j => if j = 0 then lx else cK la lb lc j)) : Rows w0 W0 rb vs w (cK x b c) (cK lx lb lc) := by rw [ahI, ahI] at h; exact h
theorem as6 {w0 W0 w : World} {rb : Nat} {vs : Fin 3 → Value} {a b c x : Value} {la lb lc lx : List Bool} (h : Rows w0 W0 rb vs w (fun j => if j = 1 then x else cK a b c j) (fun j => if j = 1 then lx else cK la lb lc j)) : Rows w0 W0 rb vs w (cK a x c) (cK la lx lc) := by rw [YU, YU] at h; exact h
theorem as7 {w0 W0 w : World} {rb : Nat} {vs : Fin 3 → Value} {a b c x : Value} {la lb lc lx : List Bool} (h : Rows w0 W0 rb vs w (fun j => if j = 2 then x else cK a b c j) (fun j => if j = 2 then lx else cK la lb lc j)) : Rows w0 W0 rb vs w (cK a b x) (cK la lb lx) := by rw [YV, YV] at h; exact h
theorem wY {w : World} {base : Nat} {v : Value} {l : List Bool} (h : w.ownsRow base 4 1 v l.length (encs Value.bool l)) : ∃ A n c, v = .slice A n c := by
 obtain ⟨A, c, e, _⟩ := xJ h;exact ⟨A, _, c, e⟩
theorem ahM {w0 W0 w : World} {rb : Nat} {vs v : Fin 3 → Value} {la lb lc lx : List Bool} (h : Rows w0 W0 rb vs w v (fun j => if j = 1 then lx else cK la lb lc j)) : Rows w0 W0 rb vs w v (cK la lx lc) := by rw [YU] at h; exact h
theorem as8 {w0 W0 w : World} {rb : Nat} {vs v : Fin 3 → Value} {la lb lc lx : List Bool} (h : Rows w0 W0 rb vs w v (fun j => if j = 2 then lx else cK la lb lc j)) : Rows w0 W0 rb vs w v (cK la lb lx) := by rw [YV] at h; exact h
end Go.Proofs.YtapejnikpmfddaaGreat.X
