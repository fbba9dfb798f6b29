/- A part of the claim SearchForms. -/
import Derived.Laws.StructEq
import Derived.Test.YtapejnikpmfddaaGreatQSearchFormsa
set_option linter.unusedVariables false
set_option linter.unusedSimpArgs false
namespace Go.Proofs.aI.bM
open Go.RowKit
namespace Kd
def chunks (sz : Nat) (n : Nat) (inner : List Value) : List (List Value) := (List.range n).map fun j => (inner.drop (j * sz)).take sz
theorem CK (sz n : Nat) (inner : List Value) : (chunks sz n inner).length = n := by simp [chunks]
theorem aj8 {sz n : Nat} {inner : List Value} {j : Nat} (hj : j < n) : (chunks sz n inner)[j]? = some ((inner.drop (j * sz)).take sz) := by simp [chunks, hj]
theorem N7 {sz n : Nat} {inner : List Value} {j : Nat} {c : List Value} (h : (chunks sz n inner)[j]? = some c) : c = (inner.drop (j * sz)).take sz := by
 have hj : j < n := by have := (List.getElem?_eq_some_iff.1 h).1; rwa [CK] at this
 rw [aj8 hj] at h;injection h with h
 exact h.symm
theorem aj9 {α : Type} {Rr : α → List Value → Prop} {sz : Nat} {xs : List α} {inner : List Value} (h : iM Rr sz xs inner) (hR : ∀ x c, Rr x c → c.length = sz ∧ ∀ u ∈ c, u.oneCell' = true) : iM (fun x cs => cs = x ∧ cs.length = sz ∧ ∀ u ∈ cs, u.oneCell' = true) sz (chunks sz xs.length inner) inner := by
 refine ⟨by rw [CK]; exact h.1, fun j p hj => ?_⟩;have hjl : j < xs.length := by have := (List.getElem?_eq_some_iff.1 hj).1; rwa [CK] at this
 have hp := N7 hj;exact ⟨hp.symm, hR _ _ (h.2 j _ (List.getElem?_eq_getElem hjl))⟩
section
variable {α : Type} {d : Kd α} {e base n cc g : Nat} {ok ok' okp S : Nat → Prop} {w w1 W W1 : World} {A : Option Addr} {u v v1 : Value} {xs : List α} {x : α} {c : List Value}
theorem aaY (h : F d W ok A n xs) (z : α) (i : Int) (h0 : 0 ≤ i) (h1 : i < n) :
  ∃ ad c, A = some ad ∧ c.length = d.sz ∧ FK d W ok (xs.getD i.toNat z) c ∧ (∀ j u, c[j]? = some u → W.cell? (ad.add (i.toNat * d.sz + j)) = some u) ∧ (0 < d.sz → ok ad.block) := by
 obtain ⟨ad, c, rfl, hcl, hK, hcc⟩ := CE (NZ h) z i h0 h1;have hin : 0 < d.sz → ok ad.block := by
  intro hs;by_cases hk : ok ad.block
  ·exact hk
  ·obtain ⟨W', h2, h3⟩ := aj7 W ad.block;obtain ⟨G6, c', he, hcl', _, TQ⟩ := CE (h W' (fun k hk' _ => h2 k (fun e => hk (e ▸ hk')))) z i h0 h1;injection he with he
   subst he;have h4 := TQ 0 _ (List.getElem?_eq_getElem ag);rw [h3 _ (add_block _ _)] at h4;cases h4
 refine ⟨ad, c, rfl, hcl, fun W' hW => ?_, hcc, hin⟩;obtain ⟨G6, c', he, hcl', hK', TQ⟩ := CE (h W' hW) z i h0 h1;injection he with he
 subst he;have hc : c = c' := by
  apply List.ext_getElem?
  intro j;by_cases hj : j < d.sz
  ·have hb : W'.heap[ad.block]? = W.heap[ad.block]? := by
    have h5 := hcc j _ (List.getElem?_eq_getElem ag);have h6 := World.block_lt_of_cell? W _ h5;rw [add_block] at h6;exact hW _ (hin ag) h6
   have h5 := hcc j _ (List.getElem?_eq_getElem ag);have h6 := TQ j _ (List.getElem?_eq_getElem ag);have h7 : W'.cell? (ad.add (i.toNat * d.sz + j)) = W.cell? (ad.add (i.toNat * d.sz + j)) := by simp [World.cell?, add_block, hb]
   rw [h7, h5] at h6;rw [List.getElem?_eq_getElem ag, List.getElem?_eq_getElem ag];exact h6
  ·rw [List.getElem?_eq_none ag, List.getElem?_eq_none ag]
 rw [hc];exact hK'
theorem aj_ (h : F d W ok A n xs) : qD (fun x c => FK d W ok x c) d.sz W A n xs := by
 obtain ⟨hl, hm, hn⟩ := NZ h;refine ⟨hl, hm, fun hp => ?_⟩;obtain ⟨ad, rfl, _⟩ := hn hp;refine ⟨ad, rfl, fun j p hj => ?_⟩;obtain ⟨hjl, hjp⟩ := List.getElem?_eq_some_iff.1 hj;obtain ⟨G6, c, he, hcl, hK, hcc, _⟩ := aaY h p (j : Int) ag ag;injection he with he
 subst he;simp only [Int.toNat_natCast] at hK hcc;rw [List.getD_eq_getElem?_getD, hj] at hK;exact ⟨c, hcl, hK, hcc⟩
def N {α : Type} (d : Kd α) (e : Nat) (w : World) (base : Nat) (ok : Nat → Prop) (v : Value) (xs : List α) : Prop :=
 (∀ k, v.ownBlock = some k → ok k) ∧ ∃ rows : List (List Value), rows.length = xs.length ∧ (raw d.sz).R e w base (fun k => some k = v.ownBlock) v rows ∧ ∀ (j : Nat) (x : α) (c : List Value), xs[j]? = some x → rows[j]? = some c → FK d w (fun k => ok k ∧ some k ≠ v.ownBlock) x c
theorem aka {sz : Nat} {rows : List (List Value)} (h : (raw sz).R e w base ok v rows) : (raw sz).R e w base (fun k => some k = v.ownBlock) v rows := aaN rfl h
theorem TR {sz : Nat} {rows : List (List Value)} (h : (raw sz).R e w base ok v rows) : (raw sz).R e w base (fun _ => True) v rows := jd h (fun _ _ => trivial)
theorem R_N (h : d.R e w base ok v xs) : N d e w base ok v xs := by
 obtain ⟨h0, inner, ho, hr⟩ := h;refine ⟨h0, chunks d.sz xs.length inner, CK _ _ _, ⟨fun k hk => hk.symm, inner, by rw [CK]; exact ho, aj9 hr (fun x c hp => ⟨d.lI (d.iN hp), d.kC (d.iN hp)⟩)⟩, fun j x c hx hc => ?_⟩;rw [N7 hc];exact aj6 (hr.2 j x hx)
theorem JU (d : Kd α) (e : Nat) (w : World) (base : Nat) (ok : Nat → Prop) : N d e w base ok (.slice none 0 0) [] := R_N (lK _ _ _ _ _)
theorem pJ (h : N d e w base ok v xs) (hok : ∀ k, ok k → ok' k) : N d e w base ok' v xs := by
 obtain ⟨h0, rows, hl, hR, hf⟩ := h;exact ⟨fun k hk => hok k (h0 k hk), rows, hl, hR, fun j x c hx hc => TP (hf j x c hx hc) (fun k hk => ⟨hok k hk.1, hk.2⟩)⟩
theorem N8 (h : N d e w base ok v xs) : ∀ k, v.ownBlock = some k → k < w.heap.size := by
 obtain ⟨_, rows, _, hR, _⟩ := h;exact aau hR
theorem akb (h : N d e w base ok v xs) : ∀ k, v.ownBlock = some k → base ≤ k := by
 obtain ⟨_, rows, _, hR, _⟩ := h;exact TB hR
theorem aaZ (h : N d e w base ok v xs) (hok : ∀ k, ok k → k ≠ g) : some g ≠ v.ownBlock := fun he => hok g (h.1 g he.symm) rfl
theorem TS (h : N d e w base ok v xs) : N d e w base (fun k => ok k ∧ k < w.heap.size) v xs := by
 have hlt := N8 h;obtain ⟨h0, rows, hl, hR, hf⟩ := h;exact ⟨fun k hk => ⟨h0 k hk, hlt k hk⟩, rows, hl, hR, fun j x c hx hc => TP (aaW (hf j x c hx hc)) (fun k hk => ⟨⟨hk.1.1, hk.2⟩, hk.1.2⟩)⟩
theorem N9 {base' : Nat} (h : N d e w base ok v xs) (hb : base' ≤ base) : N d e w base' ok v xs := by
 obtain ⟨h0, rows, hl, hR, hf⟩ := h;exact ⟨h0, rows, hl, sj hR hb, hf⟩
theorem JV (h : N d e w base ok v xs) (hm : ∀ k, ok k → k < w.heap.size → w1.heap[k]? = w.heap[k]?) : N d e w1 base ok v xs := by
 obtain ⟨h0, rows, hl, hR, hf⟩ := h;exact ⟨h0, rows, hl, Eu hR (fun k hk hlt => hm k (h0 k hk.symm) hlt), fun j x c hx hc => aaX (hf j x c hx hc) (fun k hk hlt => hm k hk.1 hlt)⟩
theorem Bh (h : N d e w base ok v xs) (hb : Below w.heap.size w w1) : N d e w1 base ok v xs := JV h (fun k _ hk => hb.block k hk)
theorem zP (h : N d e w base ok v xs) (o : Obj) : N d e (w.alloc o) base ok v xs := Bh h (aW (Below.refl _ _) o)
theorem zQ (h : N d e w base ok v xs) : N d e w.drew base ok v xs := Bh h (Tp (Below.refl _ _))
theorem zR (h : N d e w base ok v xs) (m : Nat) : N d e (w.drewN m) base ok v xs := Bh h (fB (Below.refl _ _) m)
theorem CL (h : N d e w base ok v xs) {p : Addr} (hok : ∀ k, ok k → k ≠ p.block) (u : Value) : N d e (w.setCell p u) base ok v xs := JV h (fun k ho _ => Below.heap_setCell w p u k (hok k ho))
theorem akc (h : N d e w base ok v xs) (hk : Kept w w1 S) (hok : ∀ k, ok k → ¬ S k) : N d e w1 base ok v xs := JV h (fun k ho hlt => hk.2 k hlt (hok k ho))
theorem akd (h : N d e W base ok v xs) (hbase : ∀ k, u.ownBlock = some k → W.heap.size ≤ k) (hb : Below W.heap.size W w1) : N d e w1 base (fun k => ok k ∧ some k ≠ u.ownBlock) v xs :=
 pJ (Bh (TS h) hb) (fun k hk => ⟨hk.1, fun he => by have := hbase k he.symm; have := hk.2; omega⟩)
theorem ake (h : N d e w base ok v xs) (a : Nat) (ha : w.heap.size ≤ a) : N d e w base (fun k => ok k ∧ k ≠ a) v xs := pJ (TS h) (fun k hk => ⟨hk.1, by have := hk.2; omega⟩)
theorem akf (h : N d e W base (fun k => ok k ∧ some k ≠ u.ownBlock) v xs) {u1 : Value} (hg : W.grownBy w1 u.ownBlock) (hat : u1.ownBlock = u.ownBlock ∨ ∃ b, u1.ownBlock = some b ∧ W.heap.size ≤ b) : N d e w1 base (fun k => ok k ∧ some k ≠ u1.ownBlock) v xs := by
 refine pJ (JV (TS h) (fun k hk hlt => hg.block k hlt hk.1.2)) (fun k hk => ⟨hk.1.1, ?_⟩);rcases hat with hat | ⟨b, hb, hle⟩
 ·rw [hat]; exact hk.1.2
 ·rw [hb];intro he;injection he with he
  have := hk.2;omega
theorem ED (h : N d e w base ok v xs) : ∃ A c, v = .slice A xs.length c := by
 obtain ⟨_, rows, hl, hR, _⟩ := h;obtain ⟨A, c, he⟩ := vX hR;exact ⟨A, c, by rw [he, hl]⟩
theorem Oa {n c : Nat} (h : N d e w base ok (.slice A n c) xs) : n = xs.length ∧ n ≤ c ∧ d.C w A xs.length xs := by
 obtain ⟨_, rows, hl, hR, hf⟩ := h;obtain ⟨hn, hc, hC⟩ := pI hR;refine ⟨by omega, hc, ?_⟩;rw [hl] at hC;refine ⟨rfl, hC.2.1, fun hp => ?_⟩;obtain ⟨ad, he, hcell⟩ := hC.2.2 hp;refine ⟨ad, he, fun j p hj => ?_⟩;have hjl : j < rows.length := by have := (List.getElem?_eq_some_iff.1 hj).1; omega
 obtain ⟨c', hcl, hK, hcc⟩ := hcell j _ (List.getElem?_eq_getElem hjl);have hk := Hf (hf j p _ hj (List.getElem?_eq_getElem hjl));refine ⟨c', hcl, ?_, hcc⟩;rw [show c' = rows[j] from hK.1];exact hk
theorem TU {n : Nat} (h : N d e w base ok (.slice A n cc) xs) : F d w ok A n xs := fun W' hW => by
 have h2 := Oa (JV h hW);rw [h2.1];exact h2.2.2
end
end Kd
end Go.Proofs.aI.bM
namespace Go.Proofs.aI.bM
namespace Kd
end Kd
end Go.Proofs.aI.bM
namespace Go.Proofs.aI.bM
namespace Kd
end Kd
end Go.Proofs.aI.bM
namespace Go.Proofs.aI.bM
end Go.Proofs.aI.bM
namespace Go.Proofs.aI.dG
def up (b : Nat → Bool) (i : Nat) : Nat → Bool := fun j => if j = i then true else b j
theorem oN (b : Nat → Bool) (i : Nat) : up b i i = true := by simp [up]
theorem EE {b : Nat → Bool} {i j : Nat} (h : j ≠ i) : up b i j = b j := by simp [up, h]
def pK (n : Nat) (O : List Nat) (b : Nat → Bool) : List Bool := (List.range n).map fun j => if O.contains j then b j else true
def ig (a : Act) (b : Nat → Bool) : List (Nat × Tmp × Value) → Act
 | [] => a
 | e :: r => ig (if b e.1 = true then a.put (some e.2.1) e.2.2 else a) b r
section
variable {P : Program} {ops : Array Oper} {Q : Exit → Act → World → Prop} {md : Region.Mode} {T : Bool × List (List Nat × List Nat)} {B : List Nat} {O : List Nat} {b : Nat → Bool} {i j n : Nat}
theorem akg : (pK n O b).length = n := by simp [pK]
theorem Ob {d : Bool} (hj : j < n) : (pK n O b).getD j d = if O.contains j then b j else true := by
 simp [pK, List.getD_eq_getElem?_getD, hj]
theorem akh (hi : O.contains i = true) : (pK n O b).set i true = pK n O (up b i) := by
 apply List.ext_getElem?
 intro j;by_cases hj : j < n
 ·by_cases hij : i = j
  ·subst hij;have hl : i < (pK n O b).length := by rw [akg]; exact hj
   rw [List.getElem?_set_self hl];simp only [pK, List.getElem?_map, List.getElem?_range hj, Option.map_some, hi, if_true, oN]
  ·rw [List.getElem?_set_ne hij];simp only [pK, List.getElem?_map, List.getElem?_range hj, Option.map_some];rw [EE (Ne.symm hij)]
 ·rw [List.getElem?_eq_none (by simp [pK]; omega), List.getElem?_eq_none (by simp [pK]; omega)]
def EF (P : Program) (ops : Array Oper) (Q : Exit → Act → World → Prop) (B : List Nat) (O : List Nat) (I : (Nat → Bool) → Act → World → Prop) (i : Nat) : Prop :=
 ∀ b a w, I b a w → b i = false → (∀ j, (O.contains j && (B.getD i 0).testBit j) = true → b j = true) → (∀ d, (O.contains d && (B.getD d 0).testBit i) = true → b d = false) →
  ∃ oi, ops[i]? = some oi ∧ ∀ K : Act → World → Prop, Shut (∀ a' w', I (up b i) a' w' → K a' w') → if Region.wanted oi (yielded ops a.tmps) = true then Oper.wp P oi a w K Q else K (a.put oi.dst undef) w
theorem JW {I : (Nat → Bool) → Act → World → Prop} : ∀ i ∈ ([] : List Nat), EF P ops Q B O I i := fun _ h => by cases h
theorem dm {I : (Nat → Bool) → Act → World → Prop} {rs : List Nat} (h : EF P ops Q B O I i) (hs : ∀ j ∈ rs, EF P ops Q B O I j) : ∀ j ∈ i :: rs, EF P ops Q B O I j := fun j hj => by
 rcases List.mem_cons.1 hj with rfl | hj
 ·exact h
 ·exact hs j hj
def yx (T : List (List Nat × List Nat)) (O : List Nat) : Bool :=
 (List.range T.length).all (fun d => match T[d]? with
  | some r => (O.contains d || r.1.all fun n => !O.contains n) && r.1.all fun n => decide (n < d)
  | none => false) && O.all (fun i => decide (i < T.length)) && decide O.Nodup
theorem Hg {T : List (List Nat × List Nat)} (h : yx T O = true) {d : Nat} {r : List Nat × List Nat} (hr : T[d]? = some r) : (O.contains d = false → ∀ n ∈ r.1, O.contains n = false) ∧ ∀ n ∈ r.1, n < d := by
 simp only [yx, Bool.and_eq_true] at h;have h1 := List.all_eq_true.1 h.1.1 d (List.mem_range.2 (List.getElem?_eq_some_iff.1 hr).1);rw [hr] at h1;simp only [Bool.and_eq_true, Bool.or_eq_true, List.all_eq_true, decide_eq_true_eq] at h1;refine ⟨fun hd n hn => ?_, h1.2⟩;rcases h1.1 with h2 | h2
 ·rw [hd] at h2; cases h2
 ·simpa using h2 n hn
theorem aa0 {T : List (List Nat × List Nat)} (h : yx T O = true) {i : Nat} (hi : i ∈ O) : i < T.length := by
 simp only [yx, Bool.and_eq_true] at h;simpa using List.all_eq_true.1 h.1.2 i hi
theorem aki {T : List (List Nat × List Nat)} (h : yx T O = true) : O.Nodup := by
 simp only [yx, Bool.and_eq_true] at h;exact of_decide_eq_true h.2
def Closed (T : List (List Nat × List Nat)) (O : List Nat) (b : Nat → Bool) : Prop := ∀ d r, T[d]? = some r → O.contains d = true → b d = true → ∀ n ∈ r.1, O.contains n = true → b n = true
theorem aa1 {T : List (List Nat × List Nat)} (hw : ik T B = true) (hk : yx T O = true) : ∀ (m d : Nat), d ≤ m → d < T.length → O.contains d = false → ∀ j, (B.getD d 0).testBit j = true → O.contains j = false := by
 intro m
 induction m with
 | zero =>
  intro d hd hl hO j hj;have hd0 : d = 0 := by omega
  subst hd0;have hr : T[0]? = some T[0] := List.getElem?_eq_getElem hl;have h1 := List.all_eq_true.1 hw 0 (List.mem_range.2 hl);rw [hr] at h1;simp only [beq_iff_eq] at h1;have h2 : (xA B 0 T[0].1).testBit j = true := by rw [← h1, Nat.testBit_or, hj, Bool.true_or]
  obtain ⟨n, hn, h3⟩ := EC h2;have := (Hg hk hr).2 n hn;omega
 | succ m ih =>
  intro d hd hl hO j hj;have hr : T[d]? = some T[d] := List.getElem?_eq_getElem hl;have h1 := List.all_eq_true.1 hw d (List.mem_range.2 hl);rw [hr] at h1;simp only [beq_iff_eq] at h1;have h2 : (xA B d T[d].1).testBit j = true := by rw [← h1, Nat.testBit_or, hj, Bool.true_or]
  obtain ⟨n, hn, h3⟩ := EC h2;have hO2 := (Hg hk hr).1 hO n hn;rcases h3 with rfl | ⟨h4, h5⟩
  ·exact hO2
  ·exact ih n ag ag hO2 j h5
theorem aa2 {T : List (List Nat × List Nat)} (hw : ik T B = true) (hk : yx T O = true) (hc : Closed T O b) : ∀ (m d : Nat), d ≤ m → d < T.length → O.contains d = true → b d = true → ∀ j, O.contains j = true → (B.getD d 0).testBit j = true → b j = true := by
 intro m
 induction m with
 | zero =>
  intro d hd hl hO hb j Oc hj;have hd0 : d = 0 := by omega
  subst hd0;have hr : T[0]? = some T[0] := List.getElem?_eq_getElem hl;have h1 := List.all_eq_true.1 hw 0 (List.mem_range.2 hl);rw [hr] at h1;simp only [beq_iff_eq] at h1;have h2 : (xA B 0 T[0].1).testBit j = true := by rw [← h1, Nat.testBit_or, hj, Bool.true_or]
  obtain ⟨n, hn, h3⟩ := EC h2;have := (Hg hk hr).2 n hn;omega
 | succ m ih =>
  intro d hd hl hO hb j Oc hj;have hr : T[d]? = some T[d] := List.getElem?_eq_getElem hl;have h1 := List.all_eq_true.1 hw d (List.mem_range.2 hl);rw [hr] at h1;simp only [beq_iff_eq] at h1;have h2 : (xA B d T[d].1).testBit j = true := by rw [← h1, Nat.testBit_or, hj, Bool.true_or]
  obtain ⟨n, hn, h3⟩ := EC h2;rcases h3 with rfl | ⟨h4, h5⟩
  ·exact hc d _ hr hO hb n hn Oc
  ·cases hO2 : O.contains n with
   | true => exact ih n ag ag hO2 (hc d _ hr hO hb n hn hO2) j Oc h5
   | false =>
    have := aa1 hw hk n n (Nat.le_refl _) ag hO2 j h5;rw [Oc] at this;cases this
theorem aa3 : ∀ {O : List Nat}, O.Nodup → i ∈ O → b i = false → (O.filter fun j => !up b i j).length + 1 = (O.filter fun j => !b j).length
 | [], _, hi, _ => by cases hi
 | x :: r, hn, hi, hb => by
  rw [List.nodup_cons] at hn;rcases List.mem_cons.1 hi with rfl | hi
  ·have h1 : (r.filter fun j => !up b i j) = r.filter fun j => !b j := by
    refine List.filter_congr (fun j hj => ?_);rw [EE (fun e => hn.1 (by rw [← e]; exact hj))]
   rw [List.filter_cons, List.filter_cons];simp [oN, hb, h1]
  ·have hxi : x ≠ i := fun e => hn.1 (e ▸ hi);have h1 := aa3 hn.2 hi hb;rw [List.filter_cons, List.filter_cons, EE hxi];cases hbx : b x
   ·simp only [Bool.not_false, if_true, List.length_cons];omega
   ·simpa using h1
theorem akj (hT : dh md ops = T) (hw : ik T.2 B = true) (hk : yx T.2 O = true) (I : (Nat → Bool) → Act → World → Prop) (hs : ∀ i ∈ O, EF P ops Q B O I i)
  (hend : ∀ b a w, (∀ j, O.contains j = true → b j = true) → I b a w → Q .normal a w) :
  ∀ (m : Nat) (b : Nat → Bool) (a : Act) (w : World), (O.filter fun j => !b j).length = m → Closed T.2 O b → I b a w → gq P md ops Q (fun _ => True) [] m (pK T.2.length O b).toArray a w := by
 subst hT;have aa4 : ∀ {b : Nat → Bool} {i : Nat}, i ∈ Region.ready md ops (pK (dh md ops).2.length O b).toArray → i < (dh md ops).2.length ∧ O.contains i = true ∧ b i = false ∧ ∀ r, (dh md ops).2[i]? = some r → ∀ n ∈ r.1, n < (dh md ops).2.length → O.contains n = true → b n = true := by
  intro b i hi;rw [ready_eq] at hi;unfold EB at hi;rw [List.mem_filter, List.mem_range] at hi;obtain ⟨hl, h1⟩ := hi;unfold zN at h1;rw [Bool.and_eq_true, Ob hl] at h1;obtain ⟨h2, h3⟩ := h1;have h4 : O.contains i = true := by
   cases h : O.contains i with
   | true => rfl
   | false => rw [h] at h2; simp at h2
  rw [h4] at h2;refine ⟨hl, h4, by simpa using h2, fun r hr n hn hnl hO => ?_⟩;rw [hr] at h3;simp only [List.all_eq_true] at h3;have h5 := h3 n hn;rw [Ob hnl, hO] at h5;simpa using h5
 intro m
 induction m with
 | zero =>
  intro b a w hm hc hI;have hall : ∀ j, O.contains j = true → b j = true := by
   intro j hj;cases hb : b j with
   | true => rfl
   | false =>
    have : j ∈ O.filter fun j => !b j := List.mem_filter.2 ⟨List.contains_iff_mem.1 hj, by simp [hb]⟩;rw [List.eq_nil_of_length_eq_zero hm] at this;cases this
  refine ⟨?_, hend b a w hall hI⟩;refine List.eq_nil_iff_forall_not_mem.2 (fun i hi => ?_);obtain ⟨_, h1, h2, _⟩ := aa4 hi;rw [hall i h1] at h2;cases h2
 | succ m ih =>
  intro b a w hm hc hI;refine ⟨fun hr => ?_, fun i hi => ?_⟩
  ·exfalso
   -- the smallest number that au7 listed is ready
   have hex : ∃ i, O.contains i = true ∧ b i = false := by
    cases hf : O.filter (fun j => !b j) with
    | nil => rw [hf] at hm; simp at hm
    | cons x r =>
     have hx : x ∈ O.filter (fun j => !b j) := by rw [hf]; exact List.mem_cons_self
     rw [List.mem_filter] at hx;exact ⟨x, List.contains_iff_mem.2 hx.1, by simpa using hx.2⟩
   have hmin : ∀ k, (∃ i, i ≤ k ∧ O.contains i = true ∧ b i = false) → ∃ i, O.contains i = true ∧ b i = false ∧ ∀ j, j < i → O.contains j = true → b j = true := by
    intro k
    induction k with
    | zero =>
     rintro ⟨i, hi, h1, h2⟩;exact ⟨i, h1, h2, fun j hj => by omega⟩
    | succ k ihk =>
     rintro ⟨i, hi, h1, h2⟩;by_cases hlow : ∃ j, j ≤ k ∧ O.contains j = true ∧ b j = false
     ·exact ihk hlow
     ·refine ⟨i, h1, h2, fun j hj hO => ?_⟩;cases hb : b j with
      | true => rfl
      | false => exact absurd ⟨j, by omega, hO, hb⟩ hlow
   obtain ⟨i0, h1, h2⟩ := hex;obtain ⟨i, hO, hb, hlow⟩ := hmin i0 ⟨i0, Nat.le_refl _, h1, h2⟩;have hl := aa0 hk (List.contains_iff_mem.1 hO);have hin : i ∈ Region.ready md ops (pK (dh md ops).2.length O b).toArray := by
    rw [ready_eq];unfold EB;rw [List.mem_filter, List.mem_range];refine ⟨hl, ?_⟩;unfold zN;rw [Ob hl, hO, hb];have hr2 : (dh md ops).2[i]? = some (dh md ops).2[i] := List.getElem?_eq_getElem hl;rw [hr2];simp only [if_true, Bool.not_false, Bool.true_and, List.all_eq_true];intro n hn;have hni := (Hg hk hr2).2 n hn;rw [Ob ag];cases Od : O.contains n with
    | true => simpa using hlow n hni Od
    | false => simp
   rw [hr] at hin;cases hin
  ·obtain ⟨hl, hO, hb, TV⟩ := aa4 hi;have hon : ∀ j, (O.contains j && (B.getD i 0).testBit j) = true → b j = true := by
    intro j hj;rw [Bool.and_eq_true] at hj;have hr2 : (dh md ops).2[i]? = some (dh md ops).2[i] := List.getElem?_eq_getElem hl;have h1 := List.all_eq_true.1 hw i (List.mem_range.2 hl);rw [hr2] at h1;simp only [beq_iff_eq] at h1;have h2 : (xA B i (dh md ops).2[i].1).testBit j = true := by rw [← h1, Nat.testBit_or, hj.2, Bool.true_or]
    obtain ⟨n, hn, h3⟩ := EC h2;have hni := (Hg hk hr2).2 n hn;rcases h3 with rfl | ⟨h4, h5⟩
    ·exact TV _ hr2 n hn ag hj.1
    ·cases hO2 : O.contains n with
     | true => exact aa2 hw hk hc n n (Nat.le_refl _) ag hO2 (TV _ hr2 n hn ag hO2) j hj.1 h5
     | false =>
      have := aa1 hw hk n n (Nat.le_refl _) ag hO2 j h5;rw [hj.1] at this;cases this
   have hoff : ∀ d, (O.contains d && (B.getD d 0).testBit i) = true → b d = false := by
    intro d hd;rw [Bool.and_eq_true] at hd;cases hbd : b d with
    | false => rfl
    | true =>
     have hdl := aa0 hk (List.contains_iff_mem.1 hd.1);have := aa2 hw hk hc d d (Nat.le_refl _) hdl hd.1 hbd i hO hd.2;rw [hb] at this;cases this
   obtain ⟨oi, hoi, hK⟩ := hs i (List.contains_iff_mem.1 hO) b a w hI hb hon hoff;refine wpOp_step hoi (fun K' hK' => hK K' (fun a' w' hI' => hK' a' w' ⟨fun _ _ => trivial, ?_⟩));have hset : (pK (dh md ops).2.length O b).toArray.setIfInBounds i true = (pK (dh md ops).2.length O (up b i)).toArray := by
    apply Array.ext'
    rw [Array.toList_setIfInBounds];exact akh hO
   rw [hset];refine ih (up b i) a' w' ?_ ?_ hI'
   ·have := aa3 (aki hk) (List.contains_iff_mem.1 hO) hb;omega
   ·intro d r hr hOd hbd n hn Od;by_cases hni : n = i
    ·rw [hni, oN]
    ·rw [EE hni];by_cases hdi : d = i
     ·subst hdi;exact TV r hr n hn (by have := (Hg hk hr).2 n hn; omega) Od
     ·rw [EE hdi] at hbd;exact hc d r hr hOd hbd n hn Od
theorem kF {b : Nat → Bool} {t : Tmp} : ∀ {L : List (Nat × Tmp × Value)} {a : Act}, (L.all fun e => !(e.2.1 == t)) = true → (ig a b L).tmps[t]? = a.tmps[t]?
 | [], _, _ => rfl
 | e :: r, a, h => by
  rw [List.all_cons, Bool.and_eq_true] at h;have he : e.2.1 ≠ t := by simpa using h.1
  unfold ig;by_cases hb : b e.1 = true
  ·rw [if_pos hb, kF h.2];simp [Act.put, Array.getElem?_setIfInBounds_ne he]
  ·rw [if_neg hb];exact kF h.2
theorem dL {b : Nat → Bool} {e : Nat × Tmp × Value} : ∀ {L : List (Nat × Tmp × Value)} {a : Act} (k : Nat), L[k]? = some e → ((L.drop (k + 1)).all fun x => !(x.2.1 == e.2.1)) = true → b e.1 = true → Nat.ble (e.2.1 + 1) a.tmps.size = true → (ig a b L).tmps[e.2.1]? = some e.2.2
 | [], _, _, h, _, _, _ => by cases h
 | x :: r, a, 0, h, hd, hb, ht => by
  simp only [List.getElem?_cons_zero, Option.some.injEq] at h;subst h;unfold ig;rw [if_pos hb, kF (by simpa using hd)];have ht2 : x.2.1 < a.tmps.size := Nat.le_of_ble_eq_true ht;simp [Act.put, ht2]
 | x :: r, a, k + 1, h, hd, hb, ht => by
  unfold ig;refine dL k (by simpa using h) (by simpa using hd) hb ?_;by_cases hx : b x.1 = true
  ·rw [if_pos hx];simpa [Act.put] using ht
  ·rw [if_neg hx];exact ht
theorem put_comm {a : Act} {s t : Tmp} {u v : Value} (h : s ≠ t) : (a.put (some s) u).put (some t) v = (a.put (some t) v).put (some s) u := by
 simp only [Act.put];rw [Array.setIfInBounds_comm _ _ h]
theorem TW {b : Nat → Bool} {t : Tmp} {v : Value} : ∀ {L : List (Nat × Tmp × Value)} {a : Act}, (L.all fun e => !(e.2.1 == t)) = true → (ig a b L).put (some t) v = ig (a.put (some t) v) b L
 | [], _, _ => rfl
 | e :: r, a, h => by
  rw [List.all_cons, Bool.and_eq_true] at h;have he : e.2.1 ≠ t := by simpa using h.1
  unfold ig;by_cases hb : b e.1 = true
  ·rw [if_pos hb, if_pos hb, TW h.2, put_comm he]
  ·rw [if_neg hb, if_neg hb];exact TW h.2
theorem TY {b : Nat → Bool} {i : Nat} : ∀ {L : List (Nat × Tmp × Value)} {a : Act}, (L.all fun e => !(e.1 == i)) = true → ig a (up b i) L = ig a b L
 | [], _, _ => rfl
 | e :: r, a, h => by
  rw [List.all_cons, Bool.and_eq_true] at h;have he : e.1 ≠ i := by simpa using h.1
  unfold ig;rw [EE he];exact TY h.2
theorem aa5 {b : Nat → Bool} {i : Nat} {t : Tmp} {v0 v : Value} : ∀ {L1 L2 : List (Nat × Tmp × Value)} {a : Act}, b i = false → ((L1 ++ L2).all fun e => !(e.1 == i) && !(e.2.1 == t)) = true →
  (ig a b (L1 ++ (i, t, v0) :: L2)).put (some t) v = ig a (up b i) (L1 ++ (i, t, v) :: L2)
 | [], L2, a, hb, h => by
  simp only [List.nil_append] at h ⊢;have h1 : (L2.all fun e => !(e.1 == i)) = true := List.all_eq_true.2 (fun e he => by have := List.all_eq_true.1 h e he; simp only [Bool.and_eq_true] at this; exact this.1);have h2 : (L2.all fun e => !(e.2.1 == t)) = true := List.all_eq_true.2 (fun e he => by have := List.all_eq_true.1 h e he; simp only [Bool.and_eq_true] at this; exact this.2);unfold ig;rw [if_neg (by rw [hb]; decide), if_pos (oN b i), TW h2, TY h1]
 | e :: r, L2, a, hb, h => by
  simp only [List.cons_append, List.all_cons, Bool.and_eq_true] at h;have he : e.1 ≠ i := by simpa using h.1.1
  simp only [List.cons_append];unfold ig;rw [EE he];exact aa5 hb h.2
theorem dH {b : Nat → Bool} {i : Nat} {t : Tmp} {v0 v : Value} {a : Act} {L L' : List (Nat × Tmp × Value)} (k : Nat) (hb : b i = false) (hL : L[k]? = some (i, t, v0)) (hL' : L.set k (i, t, v) = L') (hd : ((L.take k ++ L.drop (k + 1)).all fun e => !(e.1 == i) && !(e.2.1 == t)) = true) :
  (ig a b L).put (some t) v = ig a (up b i) L' := by
 have hk := (List.getElem?_eq_some_iff.1 hL).1;have h1 : L = L.take k ++ (i, t, v0) :: L.drop (k + 1) := by
  have h2 : L[k] = (i, t, v0) := (List.getElem?_eq_some_iff.1 hL).2;rw [← h2, List.getElem_cons_drop, List.take_append_drop]
 have h3 : L' = L.take k ++ (i, t, v) :: L.drop (k + 1) := by rw [← hL', List.set_eq_take_append_cons_drop, if_pos hk]
 rw [h3]
 conv => lhs; rw [h1]
 exact aa5 hb hd
theorem Hl {b : Nat → Bool} {i : Nat} {L : List (Nat × Tmp × Value)} {a : Act} {v : Value} (h : (L.all fun e => !(e.1 == i)) = true) : (ig a b L).put none v = ig a (up b i) L := (TY h).symm
theorem akk {l : Array Bool} {fuel : Nat} {a : Act} {w : World} (O : List Nat) (I : (Nat → Bool) → Act → World → Prop) (hT : dh md ops = T) (hw : ik T.2 B = true) (hk : yx T.2 O = true)
  (hl : (pK T.2.length O (fun _ => false) == l.toList && O.length == fuel) = true) (h0 : I (fun _ => false) a w) (hs : ∀ i ∈ O, EF P ops Q B O I i)
  (hend : ∀ b a w, (∀ j, O.contains j = true → b j = true) → I b a w → Q .normal a w) : gq P md ops Q (fun _ => True) [] fuel l a w := by
 rw [Bool.and_eq_true, beq_iff_eq, beq_iff_eq] at hl;have h1 := akj hT hw hk I hs hend fuel (fun _ => false) a w (by rw [← hl.2]; simp) (fun d r _ _ hb => by cases hb) h0;have h2 : (pK T.2.length O (fun _ => false)).toArray = l := by apply Array.ext'; exact hl.1
 rw [h2] at h1;exact h1
theorem JX {l : Array Bool} {fuel : Nat} {a : Act} {w : World} (O : List Nat) (I : Act → (Nat → Bool) → Act → World → Prop) (hT : dh md ops = T) (hw : ik T.2 B = true) (hk : yx T.2 O = true)
  (hl : (pK T.2.length O (fun _ => false) == l.toList && O.length == fuel) = true) (h0 : I a (fun _ => false) a w) (hs : ∀ i ∈ O, EF P ops Q B O (I a) i)
  (hend : ∀ b a' w, (∀ j, O.contains j = true → b j = true) → I a b a' w → Q .normal a' w) : gq P md ops Q (fun _ => True) [] fuel l a w := akk O (I a) hT hw hk hl h0 hs hend
end
end Go.Proofs.aI.dG
namespace Go.Proofs.aI.bM
open Go.RowKit
end Go.Proofs.aI.bM
namespace Go.Proofs.aI.dG
section
variable {ops : Array Oper} {a : Act} {o og : Oper} {g : Nat} {t : Tmp} {u : Bool}
theorem zS {v : Value} (h : a.tmps[t]? = some v) : a.eval (.tmp t) = v := by simp [Act.eval, h]
end
end Go.Proofs.aI.dG
namespace Go.Proofs.aI.bM
open Go.RowKit
section
variable {P : Program} {ops : Array Oper} {rest : List Oper} {o : Oper} {a : Act} {Q : Exit → Act → World → Prop} {W : World}
theorem TZ (hw : Region.wanted o (yielded ops a.tmps) = true) (h : wpList P ops Q ({ o with guard := none } :: rest) a W) : wpList P ops Q (o :: rest) a W := by
 have h1 : Region.wanted { o with guard := none } (yielded ops a.tmps) = true := rfl;unfold wpList at h ⊢;rw [if_pos h1] at h;rw [if_pos hw];exact h
end
end Go.Proofs.aI.bM
namespace Go.Proofs.aI.bM
open Go.RowKit
namespace Kd
section
variable {α : Type} {d : Kd α} {e base n cap g : Nat} {ok ok' okp : Nat → Prop} {w w1 W : World} {v v1 : Value} {xs ys : List α}
theorem T9 {rows news : List (List Value)} (h0 : ∀ k, v.ownBlock = some k → ok k) (hl : rows.length = xs.length) (hf : ∀ (j : Nat) (x : α) (c : List Value), xs[j]? = some x → rows[j]? = some c → FK d W (fun k => ok k ∧ some k ≠ v.ownBlock) x c)
  (hl2 : news.length = ys.length) (hf2 : ∀ (j : Nat) (x : α) (c : List Value), ys[j]? = some x → news[j]? = some c → FK d W okp x c) (mE : ∀ k, okp k → ok k ∧ some k ≠ v.ownBlock) (hfresh : ∀ k, W.heap.size ≤ k → ok k)
  (hR : (raw d.sz).R e w1 base (fun _ => True) v1 (rows ++ news)) (hg : W.grownBy w1 v.ownBlock) (hat : v1.ownBlock = v.ownBlock ∨ ∃ b, v1.ownBlock = some b ∧ W.heap.size ≤ b) : N d e w1 base ok v1 (xs ++ ys) := by
 have hne : ∀ k, some k ≠ v.ownBlock → k < W.heap.size → some k ≠ v1.ownBlock := by
  intro k hk hlt;rcases hat with hat | ⟨b, hb, hle⟩
  ·rw [hat]; exact hk
  ·rw [hb];intro he;injection he with he
   omega
 have step : ∀ {x : α} {c : List Value} {o : Nat → Prop}, FK d W o x c → (∀ k, o k → ok k ∧ some k ≠ v.ownBlock) → FK d w1 (fun k => ok k ∧ some k ≠ v1.ownBlock) x c := by
  intro x c o hq ho;exact TP (aaX (aaW hq) (fun k hk hlt => hg.block k hlt (ho k hk.1).2)) (fun k hk => ⟨(ho k hk.1).1, hne k (ho k hk.1).2 hk.2⟩)
 refine ⟨fun k hk => ?_, rows ++ news, by rw [List.length_append, List.length_append, hl, hl2], aka hR, fun j x c hx hc => ?_⟩
 ·rcases hat with hat | ⟨b, hb, hle⟩
  ·exact h0 k (hat ▸ hk)
  ·rw [hb] at hk;injection hk with hk
   exact hfresh k ag
 ·rcases Nat.lt_or_ge j xs.length with hlt | hge
  ·rw [List.getElem?_append_left hlt] at hx;rw [List.getElem?_append_left ag] at hc;exact step (hf j x c hx hc) (fun _ hk => hk)
  ·rw [List.getElem?_append_right hge] at hx;rw [List.getElem?_append_right ag, hl] at hc;exact step (hf2 _ x c hx hc) mE
theorem aa6 {x : α} {c : List Value} (h : FK d W ok x c) : c = c ∧ c.length = d.sz ∧ ∀ u ∈ c, u.oneCell' = true := ⟨rfl, d.lI (Hf h), d.kC (Hf h)⟩
theorem akl {Rr : α → List Value → Prop} {sz m : Nat} {A : Option Addr} (h : qD Rr sz W A m ys) (hR : ∀ x c, Rr x c → c.length = sz ∧ ∀ u ∈ c, u.oneCell' = true) :
  ∃ news : List (List Value), news.length = ys.length ∧ qD (fun x cs => cs = x ∧ cs.length = sz ∧ ∀ u ∈ cs, u.oneCell' = true) sz W A m news ∧ ∀ (j : Nat) (x : α) (c : List Value), ys[j]? = some x → news[j]? = some c → Rr x c := by
 rcases Nat.eq_zero_or_pos m with h0 | hp
 ·have hy : ys = [] := List.eq_nil_of_length_eq_zero (h.1.trans h0);subst hy;exact ⟨[], rfl, ⟨h0 ▸ rfl, h.2.1, fun hp => by omega⟩, fun j x c hx => by simp at hx⟩
 ·obtain ⟨ad, rfl, _⟩ := h.2.2 hp;obtain ⟨inner, hr, hc⟩ := qD.aah h;refine ⟨chunks sz ys.length inner, CK _ _ _, ⟨by rw [CK]; exact h.1, h.2.1, fun _ => ⟨ad, rfl, fun j p hj => ?_⟩⟩, fun j x c hx hcc => ?_⟩
  ·have hjl : j < ys.length := by have := (List.getElem?_eq_some_iff.1 hj).1; rwa [CK] at this
   have hpe := N7 hj;have hq := hR _ _ (hr.2 j _ (List.getElem?_eq_getElem hjl));rw [← hpe] at hq;refine ⟨p, hq.1, ⟨rfl, hq⟩, fun i u hu => ?_⟩;have hu2 : inner[j * sz + i]? = some u := by
    rw [hpe, List.getElem?_take] at hu;split at hu
    ·rw [List.getElem?_drop] at hu;exact hu
    ·cases hu
   exact hc _ u hu2
  ·rw [N7 hcc];exact hr.2 j x hx
end
section
variable {P : Program} {ops : Array Oper} {rest : List Oper} {o : Oper} {a : Act} {Q : Exit → Act → World → Prop} {Kc : Act → World → Prop} {α : Type}
theorem akm (d : Kd α) {w0 W : World} (base : Nat) (hgd : o.guard = none) (s x : Operand) (t e : TypeId) (z : Value) (bytes : Nat)
  (ho : o.op = .call { callee := .builtin .append, args := #[s, x], argTypes := #[t, t] })
  (ht : P.underlying t = some (.slice e)) (hinfo : (P.info? e).map (fun i => (i.zero, i.size, i.bytes)) = some (some z, d.sz, bytes)) (hz : z.cells.size = d.sz) (hs0 : 0 < d.sz) (hb0 : 0 < bytes)
  (v : Value) (xs : List α) (p : α) (cs : List Value) (ok okp : Nat → Prop) (hs : a.eval s = v) (hx : a.eval x = .slice (some ⟨W.heap.size, 0, none⟩) 1 1) (hp : FK d W okp p cs) (mE : ∀ k, okp k → ok k ∧ some k ≠ v.ownBlock) (hfresh : ∀ k, W.heap.size ≤ k → ok k)
  (HO : N d e W base ok v xs) (HB : Below base w0 W) (hbase : base ≤ W.heap.size) (hl : (xs.length + 1) * bytes ≤ 140737488355328)
  (h : ∀ v1 w1, N d e w1 base ok v1 (xs ++ [p]) → Below base w0 w1 → W.grownBy w1 v.ownBlock → (v1.ownBlock = v.ownBlock ∨ ∃ b, v1.ownBlock = some b ∧ W.heap.size ≤ b) → wpList P ops Q rest (a.put o.dst v1) w1) :
  wpList P ops Q (o :: rest) a (W.alloc (.cells cs.toArray e)) := by
 obtain ⟨h0, rows, hlr, hR, hf⟩ := HO;refine xw (raw d.sz) base hgd s x t e z bytes ho ht hinfo hz hs0 hb0 v rows cs cs (fun _ => True) (fun _ => False) hs hx (aa6 hp) (fun _ hk => hk.elim) (fun _ _ => trivial) (TR hR) HB hbase (by rw [hlr]; exact hl) ?_;intro v1 w1 hr hb hg hat;exact h v1 w1 (T9 h0 hlr hf (ys := [p]) (news := [cs]) rfl (fun j y c hy hc => by
  rcases j with _ | j
  ·simp only [List.getElem?_cons_zero, Option.some.injEq] at hy hc;rw [← hy, ← hc]; exact hp
  ·simp at hy) mE hfresh hr hg hat) hb hg hat
theorem aa7 (d : Kd α) {w0 W : World} (base : Nat) (hw : Region.wanted o (yielded ops a.tmps) = true) (s x : Operand) (t e : TypeId) (z : Value) (bytes : Nat)
  (ho : o.op = .call { callee := .builtin .append, args := #[s, x], argTypes := #[t, t] })
  (ht : P.underlying t = some (.slice e)) (hinfo : (P.info? e).map (fun i => (i.zero, i.size, i.bytes)) = some (some z, d.sz, bytes)) (hz : z.cells.size = d.sz) (hs0 : 0 < d.sz) (hb0 : 0 < bytes)
  (v : Value) (xs : List α) (p : α) (cs : List Value) (ok okp : Nat → Prop) (hs : a.eval s = v) (hx : a.eval x = .slice (some ⟨W.heap.size, 0, none⟩) 1 1) (hp : FK d W okp p cs) (mE : ∀ k, okp k → ok k ∧ some k ≠ v.ownBlock) (hfresh : ∀ k, W.heap.size ≤ k → ok k)
  (HO : N d e W base ok v xs) (HB : Below base w0 W) (hbase : base ≤ W.heap.size) (hl : (xs.length + 1) * bytes ≤ 140737488355328)
  (h : ∀ v1 w1, N d e w1 base ok v1 (xs ++ [p]) → Below base w0 w1 → W.grownBy w1 v.ownBlock → (v1.ownBlock = v.ownBlock ∨ ∃ b, v1.ownBlock = some b ∧ W.heap.size ≤ b) → Kc (a.put o.dst v1) w1) :
  if Region.wanted o (yielded ops a.tmps) = true then Oper.wp P o a (W.alloc (.cells cs.toArray e)) Kc Q else Kc (a.put o.dst undef) (W.alloc (.cells cs.toArray e)) := by
 obtain ⟨h0, rows, hlr, hR, hf⟩ := HO;refine Ty (raw d.sz) base hw s x t e z bytes ho ht hinfo hz hs0 hb0 v rows cs cs (fun _ => True) (fun _ => False) hs hx (aa6 hp) (fun _ hk => hk.elim) (fun _ _ => trivial) (TR hR) HB hbase (by rw [hlr]; exact hl) ?_;intro v1 w1 hr hb hg hat;exact h v1 w1 (T9 h0 hlr hf (ys := [p]) (news := [cs]) rfl (fun j y c hy hc => by
  rcases j with _ | j
  ·simp only [List.getElem?_cons_zero, Option.some.injEq] at hy hc;rw [← hy, ← hc]; exact hp
  ·simp at hy) mE hfresh hr hg hat) hb hg hat
theorem akn (d : Kd α) {w0 W : World} (base : Nat) (hgd : o.guard = none) (s x : Operand) (t e : TypeId) (z : Value) (bytes : Nat)
  (ho : o.op = .call { callee := .builtin .append, args := #[s, x], argTypes := #[t, t] })
  (ht : P.underlying t = some (.slice e)) (hinfo : (P.info? e).map (fun i => (i.zero, i.size, i.bytes)) = some (some z, d.sz, bytes)) (hz : z.cells.size = d.sz) (hs0 : 0 < d.sz) (hb0 : 0 < bytes)
  (v : Value) (xs ys : List α) (A : Option Addr) (m c : Nat) (ok okp : Nat → Prop) (hs : a.eval s = v) (hx : a.eval x = .slice A m c)
  (HO : N d e W base ok v xs) (HR : F d W okp A m ys) (mE : ∀ k, okp k → ok k ∧ some k ≠ v.ownBlock) (hfresh : ∀ k, W.heap.size ≤ k → ok k)
  (HB : Below base w0 W) (hbase : base ≤ W.heap.size) (hl : (xs.length + m) * bytes ≤ 140737488355328)
  (h : ∀ v1 w1, N d e w1 base ok v1 (xs ++ ys) → Below base w0 w1 → W.grownBy w1 v.ownBlock → (v1.ownBlock = v.ownBlock ∨ ∃ b, v1.ownBlock = some b ∧ W.heap.size ≤ b) → wpList P ops Q rest (a.put o.dst v1) w1) :
  wpList P ops Q (o :: rest) a W := by
 obtain ⟨h0, rows, hlr, hR, hf⟩ := HO;obtain ⟨news, hnl, hnr, hnf⟩ := akl (aj_ HR) (fun y c hk => ⟨d.lI (Hf hk), d.kC (Hf hk)⟩);refine aay (raw d.sz) base hgd s x t e z bytes ho ht hinfo hz hs0 hb0 v rows news A m c (fun _ => True) (fun _ => False) hs hx (TR hR) hnr (fun _ _ hk => hk) (fun _ hk => hk.elim) (fun _ _ => trivial) HB hbase (by rw [hlr]; exact hl) ?_;intro v1 w1 hr hb hg hat;exact h v1 w1 (T9 h0 hlr hf hnl hnf mE hfresh hr hg hat) hb hg hat
end
end Kd
end Go.Proofs.aI.bM
namespace Go.Proofs.aI.dM
open Go.RowKit Go.Proofs.aI.bM
namespace Kd
open Go.Proofs.aI.bM.Kd
end Kd

namespace Kd
open Go.Proofs.aI.bM.Kd
section
variable {α : Type} {d : Kd α} {e base g N : Nat} {ok : Nat → Prop} {W w1 : World} {u v : Value} {xs : List α}
end
end Kd
theorem nE (k k' : IntKind) (x y : Int) : Builtin.max2 (.int k x) (.int k' y) = pure (.int k (if x < y then y else x)) := by simp only [Builtin.max2, gt_iff_lt]
theorem nG (k k' : IntKind) (x y : Int) : Builtin.min2 (.int k x) (.int k' y) = pure (.int k (if y < x then y else x)) := by simp only [Builtin.min2]
theorem nH (ats : Array TypeId) (ty : TypeId) (a b : Value) : Builtin.max_ ats ty #[a, b] = (Builtin.max2 a b >>= fun s => pure s) := by simp only [Builtin.max_, List.foldlM_cons, List.foldlM_nil]
theorem nI (ats : Array TypeId) (ty : TypeId) (a b : Value) : Builtin.min_ ats ty #[a, b] = (Builtin.min2 a b >>= fun s => pure s) := by simp only [Builtin.min_, List.foldlM_cons, List.foldlM_nil]
theorem nW (ats : Array TypeId) (ty : TypeId) (a b c : Value) : Builtin.max_ ats ty #[a, b, c] = (Builtin.max2 a b >>= fun s => Builtin.max2 s c >>= fun s => pure s) := by simp only [Builtin.max_, List.foldlM_cons, List.foldlM_nil]
theorem nX (ats : Array TypeId) (ty : TypeId) (a b c : Value) : Builtin.min_ ats ty #[a, b, c] = (Builtin.min2 a b >>= fun s => Builtin.min2 s c >>= fun s => pure s) := by simp only [Builtin.min_, List.foldlM_cons, List.foldlM_nil]
theorem nY (ats : Array TypeId) (ty : TypeId) (a b c d : Value) : Builtin.max_ ats ty #[a, b, c, d] = (Builtin.max2 a b >>= fun s => Builtin.max2 s c >>= fun s => Builtin.max2 s d >>= fun s => pure s) := by simp only [Builtin.max_, List.foldlM_cons, List.foldlM_nil]
theorem nZ (ats : Array TypeId) (ty : TypeId) (a b c d : Value) : Builtin.min_ ats ty #[a, b, c, d] = (Builtin.min2 a b >>= fun s => Builtin.min2 s c >>= fun s => Builtin.min2 s d >>= fun s => pure s) := by simp only [Builtin.min_, List.foldlM_cons, List.foldlM_nil]
end Go.Proofs.aI.dM
namespace Go.Proofs.aI.bM
open Go.RowKit
section
variable {P : Program} {ops : Array Oper} {rest : List Oper} {o : Oper} {a : Act} {Q : Exit → Act → World → Prop} {W : World}
theorem kX {f : FuncId} {as : Array Operand} {ts : Array TypeId} (_ho : o.op = .call { callee := .value (.func f), args := as, argTypes := ts }) (h : wpList P ops Q (o :: rest) a W) : wpList P ops Q (o :: rest) a W := h
theorem lL {b : Builtin} {xs : Array Operand} {ts : Array TypeId} (_ho : o.op = .call { callee := .builtin b, args := xs, argTypes := ts }) (h : wpList P ops Q (o :: rest) a W) : wpList P ops Q (o :: rest) a W := h
end
def mn (a b : Int) : Int := if b < a then b else a
def shl (k : IntKind) (x y : Int) : Int := k.wrap (x * 2 ^ min y.toNat k.bits)
def shr (k : IntKind) (x y : Int) : Int := x / 2 ^ min y.toNat k.bits
theorem ako {k : IntKind} {x y j : Int} (h : shl k x y = j) (hy : y ≤ k.bits) : k.wrap (x * 2 ^ y.toNat) = j := by rw [← h]; unfold shl; rw [Nat.min_eq_left ag]
theorem Oe {k : IntKind} {x y j : Int} (h : shr k x y = j) (hy : y ≤ k.bits) : x / 2 ^ y.toNat = j := by rw [← h]; unfold shr; rw [Nat.min_eq_left ag]
namespace Kd
section
variable {α : Type} {d : Kd α} {e base : Nat} {ok : Nat → Prop} {W w1 : World} {v : Value} {xs : List α}
end
section
variable {α : Type} {d : Kd α} {e base g n cap : Nat} {ok gX okp : Nat → Prop} {W : World} {xs : List α} {i : Int} {c : List Value}
theorem aa8 (h : H d e W base ok (.slice (some ⟨g, 0, none⟩) n cap) xs i gX c) (h0 : 0 ≤ i) (h1 : i < n) : (∀ j u, c[j]? = some u → W.cell? ⟨g, i.toNat * d.sz + j, none⟩ = some u) ∧ ∀ j, W.frozen? ⟨g, i.toNat * d.sz + j, none⟩ = false := by
 obtain ⟨rows, _, hraw, _, _, hcc, _⟩ := aaT h h0 h1;obtain ⟨_, _, _, _, hfr⟩ := ajt hraw [] i h0 h1;exact ⟨hcc, hfr⟩
theorem aa9 (hH : H d e W base ok (.slice (some ⟨g, 0, none⟩) n cap) xs i gX c) (h0 : 0 ≤ i) (h1 : i < n) {seg : List Value} {j : Nat} (hj : j + seg.length ≤ d.sz)
  {x' : α} (hM : d.M W base okp x' (c.take j ++ seg ++ c.drop (j + seg.length))) (mE : ∀ k, okp k → gX k) :
  S d e (W.setCells g (i.toNat * d.sz + j) seg) base ok (.slice (some ⟨g, 0, none⟩) n cap) (xs.set i.toNat x') ∧ W.grownBy (W.setCells g (i.toNat * d.sz + j) seg) (some g) :=
 ajV (okg := fun _ => False) (ajS hH (fun _ hk => ⟨hk, fun h => h⟩)) h0 h1 hj hM (fun k hk => .inl (mE k hk)) (fun _ hk => hk.elim)
end
section
variable {α : Type} {d : Kd α} {e base b b' g N : Nat} {ok ok1 : Nat → Prop} {W W2 w1 : World} {u v : Value} {xs ys : List α} {S : Nat → Prop}
end
end Kd
end Go.Proofs.aI.bM
namespace Go.Proofs.aI.bM
open Go.RowKit
namespace Kd
def V {α : Type} (d : Kd α) (_e : Nat) (W : World) (au8 : Nat) (ok : Nat → Prop) (v : Value) (xs : List α) : Prop := ∃ A c, v = .slice A xs.length c ∧ xs.length ≤ c ∧ F d W ok A xs.length xs
section
variable {α β : Type} {d : Kd α} {e base base' n m c g N' lo hi : Nat} {ok ok' S : Nat → Prop} {w W w1 : World} {A : Option Addr} {ad : Addr} {u v v1 : Value} {xs : List α}
theorem Ua (d : Kd α) (e : Nat) (W : World) (base : Nat) (ok : Nat → Prop) : V d e W base ok (.slice none 0 0) [] := ⟨none, 0, rfl, Nat.le_refl _, aj5 d W ok⟩
theorem akp (h : N d e W base (fun k => ok k ∧ some k ≠ v.ownBlock) u xs) (hg : W.grownBy w1 v.ownBlock) (hat : v1.ownBlock = v.ownBlock ∨ ∃ b, v1.ownBlock = some b ∧ W.heap.size ≤ b) : N d e w1 base (fun k => ok k ∧ some k ≠ v1.ownBlock) u xs := akf h hg hat
end
end Kd
end Go.Proofs.aI.bM
namespace Go.Proofs.aI.dG
open Go.RowKit Go.Proofs.aI.bM Go.Proofs.aI.dM
section
variable {P : Program} {ops : Array Oper} {Q : Exit → Act → World → Prop} {md : Region.Mode} {S : World → Prop} {ds : List Nat}
theorem pz {T : Bool × List (List Nat × List Nat)} (hT : dh md ops = T) (i : Nat) (N : Option Tmp) (l' : Array Bool) {oi : Oper} {v : Value} {fuel : Nat} {l : Array Bool} {a : Act} {w : World} (hi : ops[i]? = some oi) (hN : oi.dst = N) {a' : Act}
    (h : gq P md ops Q S ds fuel l' a' w) (hc : NW T l.toList l'.toList i = true := by kernel_rfl) (hw : Region.wanted oi (yielded ops a.tmps) = true := by rfl) (hv : ∀ w', (execOp a.eval oi).run P w' = .ok (.value v) w' := by (intro w'; go_simp; with_reducible rfl)) (ha : a.put N v = a' := by (simp only [Act.put, List.setIfInBounds_toArray, List.set_cons_zero, List.set_cons_succ, bE, dS]; rfl))
    (hQ : ∀ c a w, Q (.panic c) (a.put oi.dst v) w → Q (.panic c) a w := by exact fun _ _ _ h => h) : gq P md ops Q S ds (fuel + 1) l a w :=
  aaF l' hi hN (aaK hT hc) hQ (Or.inl ⟨hw, hv⟩) ha h
theorem pu {T : Bool × List (List Nat × List Nat)} (hT : dh md ops = T) (i : Nat) (N : Option Tmp) (l' : Array Bool) {oi : Oper} {fuel : Nat} {l : Array Bool} {a : Act} {w : World} (hi : ops[i]? = some oi) (hN : oi.dst = N) {a' : Act}
    (h : gq P md ops Q S ds fuel l' a' w) (hc : NW T l.toList l'.toList i = true := by kernel_rfl) (hw : Region.wanted oi (yielded ops a.tmps) = false := by rfl) (ha : a.put N undef = a' := by (simp only [Act.put, List.setIfInBounds_toArray, List.set_cons_zero, List.set_cons_succ, bE, dS]; rfl))
    (hQ : ∀ c a w, Q (.panic c) (a.put oi.dst undef) w → Q (.panic c) a w := by exact fun _ _ _ h => h) : gq P md ops Q S ds (fuel + 1) l a w :=
  aaF l' hi hN (aaK hT hc) hQ (Or.inr ⟨hw, rfl⟩) ha h
theorem tz {T : Bool × List (List Nat × List Nat)} {B : List Nat} (hT : dh md ops = T) (hB : ik T.2 B = true) (i : Nat) (N : Option Tmp) (l' : Array Bool) {oi : Oper} {v : Value} {fuel : Nat} {l : Array Bool} {a : Act} {w : World} (hi : ops[i]? = some oi) (hN : oi.dst = N) (hS : S w) {a' : Act}
    (h : gq P md ops Q S ds fuel l' a' w) (hc : TM T B ds l.toList l'.toList i = true := by kernel_rfl) (hw : Region.wanted oi (yielded ops a.tmps) = true := by rfl) (hv : ∀ w', S w' → (execOp a.eval oi).run P w' = .ok (.value v) w' := by (intro w' s0; go_simp; with_reducible rfl)) (ha : a.put N v = a' := by (simp only [Act.put, List.setIfInBounds_toArray, List.set_cons_zero, List.set_cons_succ, bE, dS]; rfl))
    (hQ : ∀ c a w, Q (.panic c) (a.put oi.dst v) w → Q (.panic c) a w := by exact fun _ _ _ h => h) : gq P md ops Q S ds (fuel + 1) l a w :=
  Tw l' hi hN (ajM hT hB hc) hQ (Or.inl ⟨hw, hv⟩) hS ha h
end
/-- What is kept, out of what is laid aside. -/
theorem B_ {p : Prop} (h : p := by repeat (first | (with_reducible first | exact Zd.out (by assumption) | apply aW | apply fB | apply bV | refine NP ?_ (Zd.out (by assumption))) | exact Zd.out (by assumption))) : p := h
theorem K_ {p : Prop} (h : p := by (with_reducible repeat (first | refine bd_ ?_ _ | refine bO ?_ | refine bf ?_ _)); exact Zd.out (by assumption)) : p := h
theorem aA {x : Bool} {p : Prop} (h : x = false) (h' : x = true) : p := absurd (h.symm.trans h') ai
abbrev au (n k : Nat) : Array Bool := ⟨(List.range n).map (fun i => k.testBit i)⟩
abbrev aa_ := au 32 0
abbrev aba := au 32 1
abbrev abb := au 32 5
abbrev abd := au 32 7
abbrev abe := au 32 15
abbrev abf := au 32 31
abbrev abg := au 32 63
abbrev abh := au 32 127
abbrev abj := au 32 255
abbrev abk := au 32 511
abbrev abl := au 32 1023
abbrev abm := au 32 2047
abbrev abn := au 32 4095
abbrev abo := au 32 8191
abbrev abp := au 32 16383
abbrev abq := au 32 32767
abbrev abr := au 32 65535
abbrev abt := au 32 131071
abbrev abu := au 32 262143
abbrev abv := au 32 524287
abbrev abw := au 32 1048575
abbrev abx := au 32 2097151
abbrev aby := au 32 4194303
abbrev abz := au 32 8388607
abbrev abA := au 32 16777215
abbrev abB := au 32 33554431
abbrev abC := au 32 67108863
abbrev abD := au 32 134217727
abbrev abE := au 32 268435455
abbrev abF := au 32 536870911
abbrev abG := au 32 1073741823
abbrev abH := au 32 2147483647
abbrev abI := au 32 4294967295
abbrev Hm := au 20 0
abbrev Ho := au 20 1
abbrev JY := au 20 3
abbrev JZ := au 20 7
abbrev akq := au 20 15
abbrev akr := au 20 31
abbrev aks := au 20 287
abbrev akt := au 20 799
abbrev aku := au 20 1823
abbrev Ub := au 15 0
abbrev Uc := au 15 1
abbrev Ud := au 15 3
abbrev Ue := au 15 7
abbrev akv := au 15 23
abbrev akw := au 15 55
abbrev akx := au 15 119
abbrev aky := au 15 247
abbrev akz := au 15 759
abbrev akA := au 15 1783
abbrev akB := au 15 1791
abbrev Uf := au 15 2047
abbrev Ug := au 15 4095
abbrev Uh := au 15 8191
abbrev Ui := au 15 16383
abbrev Uj := au 15 32767
abbrev Og := au 20 23
abbrev Oh := au 20 55
abbrev Oi := au 20 119
abbrev Oj := au 20 247
abbrev Ol := au 20 759
abbrev Om := au 20 1783
abbrev Oo := au 20 3831
abbrev Oq := au 20 7927
abbrev Ot := au 20 16119
abbrev Ou := au 20 32503
abbrev Ov := au 20 65271
abbrev Ow := au 20 65279
abbrev J2 := au 20 65535
abbrev J3 := au 20 131071
abbrev J4 := au 20 262143
abbrev J5 := au 20 524287
abbrev J6 := au 20 1048575
abbrev akC := au 8 0
abbrev akD := au 8 1
abbrev akE := au 8 3
abbrev akF := au 8 7
abbrev akG := au 8 15
abbrev akH := au 8 31
abbrev akI := au 8 63
abbrev akJ := au 8 127
abbrev akK := au 8 255
abbrev abJ := au 16 0
abbrev abK := au 16 1
abbrev abL := au 16 3
abbrev abM := au 16 7
abbrev akL := au 16 23
abbrev akM := au 16 55
abbrev akN := au 16 119
abbrev akO := au 16 247
abbrev akP := au 16 503
abbrev akQ := au 16 1527
abbrev akR := au 16 17911
abbrev akS := au 16 17919
abbrev akT := au 16 18431
abbrev akU := au 16 20479
abbrev akV := au 16 24575
abbrev abN := au 16 32767
abbrev abO := au 16 65535
abbrev akW := au 16 15
abbrev akX := au 16 31
abbrev akY := au 16 63
abbrev akZ := au 16 127
abbrev ak0 := au 16 383
abbrev ak1 := au 16 895
abbrev ak2 := au 16 1919
abbrev ak3 := au 16 2047
abbrev ak4 := au 16 4095
abbrev ak5 := au 16 8191
abbrev ak6 := au 16 16383
abbrev abP := au 9 0
abbrev ak7 := au 9 4
abbrev ak8 := au 9 12
abbrev ak9 := au 9 44
abbrev ak_ := au 9 108
abbrev ala := au 9 109
abbrev alb := au 9 111
abbrev abQ := au 9 127
abbrev abR := au 9 255
abbrev abS := au 9 511
abbrev alc := au 29 0
abbrev ald := au 29 1
abbrev ale := au 29 3
abbrev alf := au 29 7
abbrev alg := au 29 23
abbrev alh := au 29 55
abbrev ali := au 29 119
abbrev alj := au 29 247
abbrev alk := au 29 759
abbrev alm := au 29 1783
abbrev aln := au 29 3831
abbrev alo := au 29 7927
abbrev alp := au 29 24311
abbrev alq := au 29 57079
abbrev alr := au 29 122615
abbrev als := au 29 253687
abbrev alu := au 29 777975
abbrev alv := au 29 1826551
abbrev alx := au 29 3923703
abbrev aly := au 29 3923711
abbrev alz := au 29 3923967
abbrev alA := au 29 3932159
abbrev alB := au 29 4194303
abbrev alC := au 29 8388607
abbrev alD := au 29 16777215
abbrev alE := au 29 33554431
abbrev alF := au 29 67108863
abbrev alG := au 29 134217727
abbrev alH := au 29 268435455
abbrev alI := au 29 536870911
abbrev alJ := au 18 0
abbrev alK := au 18 1
abbrev alL := au 18 3
abbrev alM := au 18 7
abbrev alN := au 18 15
abbrev alO := au 18 47
abbrev alP := au 18 111
abbrev alQ := au 18 239
abbrev alR := au 18 495
abbrev alS := au 18 1519
abbrev alT := au 18 1535
abbrev alU := au 18 2047
abbrev alV := au 18 4095
abbrev alW := au 18 8191
abbrev alX := au 18 16383
abbrev alY := au 18 32767
abbrev alZ := au 18 65535
abbrev al0 := au 18 131071
abbrev al1 := au 18 262143
abbrev al2 := au 14 0
abbrev al3 := au 14 1
abbrev al4 := au 14 3
abbrev al5 := au 14 7
abbrev al6 := au 14 23
abbrev al7 := au 14 55
abbrev al8 := au 14 119
abbrev al9 := au 14 247
abbrev al_ := au 14 759
abbrev ama := au 14 767
abbrev amb := au 14 1023
abbrev amc := au 14 2047
abbrev amd := au 14 4095
abbrev ame := au 14 8191
abbrev amf := au 14 16383
abbrev amg := au 10 0
abbrev amh := au 12 0
abbrev abT := au 15 15
abbrev abU := au 15 79
abbrev abV := au 15 95
abbrev abW := au 15 127
abbrev abX := au 15 255
abbrev abY := au 15 511
abbrev abZ := au 15 1023
abbrev ami := au 25 0
abbrev amj := au 25 1
abbrev amk := au 25 3
abbrev aml := au 25 7
abbrev amm := au 25 23
abbrev amn := au 25 55
abbrev amo := au 25 119
abbrev amq := au 25 247
abbrev amr := au 25 503
abbrev ams := au 25 1015
abbrev amt := au 25 2039
abbrev amu := au 25 4087
abbrev amv := au 25 12279
abbrev amw := au 25 28663
abbrev amx := au 25 61431
abbrev amy := au 25 126967
abbrev amz := au 25 258039
abbrev amA := au 25 1306615
abbrev amB := au 25 1306623
abbrev amC := au 25 1310719
abbrev amD := au 25 1572863
abbrev amE := au 25 2097151
abbrev amF := au 25 4194303
abbrev amG := au 25 8388607
abbrev amH := au 25 16777215
abbrev amI := au 25 33554431
abbrev ab0 := au 13 0
abbrev amJ := au 13 1
abbrev amK := au 13 3
abbrev amL := au 13 7
abbrev amM := au 13 15
abbrev amN := au 13 31
abbrev amO := au 13 63
abbrev amP := au 13 127
abbrev amQ := au 13 255
abbrev amR := au 13 511
abbrev amS := au 13 1023
abbrev amT := au 13 2047
abbrev amU := au 13 4095
abbrev amV := au 13 8191
abbrev amW := au 19 0
abbrev amX := au 19 1
abbrev amY := au 19 5
abbrev amZ := au 19 37
abbrev am0 := au 19 549
abbrev Ox := au 37 0
abbrev Oy := au 37 1
abbrev Oz := au 37 3
abbrev OA := au 37 7
abbrev OB := au 37 15
abbrev OC := au 37 31
abbrev OD := au 37 63
abbrev OE := au 37 127
abbrev OG := au 37 255
abbrev OH := au 37 511
abbrev OI := au 37 1023
abbrev OJ := au 37 2047
abbrev OL := au 37 4095
abbrev ab1 := au 37 8191
abbrev ab2 := au 37 16383
abbrev ab3 := au 37 32767
abbrev ab4 := au 37 65535
abbrev ab5 := au 37 131071
abbrev ab6 := au 37 262143
abbrev ab7 := au 37 524287
abbrev ab8 := au 37 1048575
abbrev ab9 := au 37 2097151
abbrev OM := au 37 4194303
abbrev OO := au 37 8388607
abbrev OP := au 37 16777215
abbrev OQ := au 37 33554431
abbrev OT := au 37 67108863
abbrev OU := au 37 134217727
abbrev OV := au 37 268435455
abbrev OW := au 37 536870911
abbrev OX := au 37 1073741823
abbrev OY := au 37 2147483647
abbrev ab_ := au 37 4294967295
abbrev OZ := au 37 8589934591
abbrev O0 := au 37 17179869183
abbrev O1 := au 37 34359738367
abbrev O3 := au 37 68719476735
abbrev O4 := au 37 137438953471
abbrev aca := au 37 6442450943
abbrev acb := au 37 12287
abbrev acd := au 37 28671
abbrev ace := au 37 61439
abbrev acf := au 37 126975
abbrev acg := au 37 258047
abbrev ach := au 37 782335
abbrev aci := au 37 1830911
abbrev acj := au 37 3928063
abbrev ack := au 37 3932159
abbrev acm := au 38 0
abbrev acn := au 38 1
abbrev aco := au 38 3
abbrev acp := au 38 7
abbrev acr := au 38 15
abbrev acs := au 38 31
abbrev acu := au 38 63
abbrev acv := au 38 127
abbrev acw := au 38 255
abbrev acx := au 38 511
abbrev acy := au 38 1023
abbrev acz := au 38 2047
abbrev acA := au 38 4095
abbrev acB := au 38 8191
abbrev acC := au 38 16383
abbrev am1 := au 38 49151
abbrev acD := au 38 65535
abbrev acE := au 38 131071
abbrev acF := au 38 262143
abbrev acG := au 38 524287
abbrev acH := au 38 1048575
abbrev acI := au 38 2097151
abbrev acJ := au 38 4194303
abbrev acK := au 38 8388607
abbrev acL := au 38 16777215
abbrev acM := au 38 33554431
abbrev am2 := au 38 67108863
abbrev am3 := au 38 134217727
abbrev am4 := au 38 268435455
abbrev am5 := au 38 536870911
abbrev am6 := au 38 1073741823
abbrev am7 := au 38 2147483647
abbrev am8 := au 38 4294967295
abbrev am9 := au 38 8589934591
abbrev acN := au 38 17179869183
abbrev acO := au 38 34359738367
abbrev acP := au 38 68719476735
abbrev acQ := au 38 137438953471
abbrev acR := au 38 274877906943
abbrev am_ := au 38 32767
abbrev ana := au 38 100663295
abbrev anb := au 38 234881023
abbrev anc := au 38 503316479
abbrev ane := au 38 1040187391
abbrev anf := au 38 9630121983
abbrev ang := au 38 9663676415
abbrev anh := au 38 10737418239
abbrev ani := au 38 12884901887
abbrev anj := au 20 5
abbrev ank := au 20 13
abbrev anl := au 20 29
abbrev anm := au 20 61
abbrev ann := au 20 125
abbrev ano := au 20 1149
abbrev anp := au 20 3197
abbrev anq := au 20 3199
abbrev anr := au 20 3327
abbrev ant := au 20 3583
abbrev anu := au 20 4095
abbrev anv := au 20 8191
abbrev anw := au 20 16383
abbrev anx := au 20 32767
abbrev anz := au 9 1
abbrev anA := au 9 3
abbrev anB := au 9 7
abbrev anC := au 9 15
abbrev anD := au 9 31
abbrev anE := au 9 63
end Go.Proofs.aI.dG
