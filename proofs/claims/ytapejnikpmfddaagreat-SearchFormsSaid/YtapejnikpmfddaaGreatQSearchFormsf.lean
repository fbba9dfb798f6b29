/- A part of the claim SearchForms. -/
import Derived.Test.YtapejnikpmfddaaGreatQSearchFormse
set_option linter.unusedVariables false
set_option linter.unusedSimpArgs false
namespace Go.Proofs.YtapejnikpmfddaaGreat.X
open Go.RowKit Go.Proofs.aI.bM Go.Proofs.aI.dG Go.Proofs.aI.dM
open Go.Proofs.YtapejnikpmfddaaGreat.P Go.Proofs.YtapejnikpmfddaaGreat.gY
def qQ (w : World) (rb : Nat) (sv lt : Int) (vs vg : Value) : Prop := w.heap[rb]? = some (.cells #[.int .i64 sv, .int .u32 lt, vs, vg] 135 (0, 0))
def BK (W w : World) (g : Nat) : Prop := W.heap.size ≤ g ∧ w.heap[g]? = some (.cells #[.bool false] 4 (0, 0))
section
variable {w w1 W : World} {rb : Nat} {sv lt : Int} {vs vg v : Value}
theorem aoH (h : qQ w rb sv lt vs vg) : w.cell? ⟨rb, 0, none⟩ = some (.int .i64 sv) := (aj h 0).trans rfl
theorem aoI (h : qQ w rb sv lt vs vg) : w.cell? ⟨rb, 1, none⟩ = some (.int .u32 lt) := (aj h 1).trans rfl
theorem PE (h : qQ w rb sv lt vs vg) : w.cell? ⟨rb, 2, none⟩ = some vs := (aj h 2).trans rfl
theorem PG (h : qQ w rb sv lt vs vg) : w.cell? ⟨rb, 3, none⟩ = some vg := (aj h 3).trans rfl
theorem aoJ (h : qQ w rb sv lt vs vg) (v : Value) : qQ (w.setCell ⟨rb, 2, none⟩ v) rb sv lt v vg := (jc h 2 v).trans rfl
theorem aoK (h : qQ w rb sv lt vs vg) (v : Value) : qQ (w.setCell ⟨rb, 3, none⟩ v) rb sv lt vs v := (jc h 3 v).trans rfl
theorem Ku {n : Nat} (h : n ≤ w.heap.size) (o : Obj) : n ≤ (w.alloc o).heap.size := by simp; omega
theorem Kv {n : Nat} (h : n ≤ w.heap.size) (p : Addr) (v : Value) : n ≤ (w.setCell p v).heap.size := by simpa using h
end
def RS (rb : Nat) (vs vg : Value) : Nat → Prop := fun k => some k = vs.ownBlock ∨ some k = vg.ownBlock ∨ k = rb
structure Two (w0 W0 : World) (rb : Nat) (vs vg : Value) (w : World) (v1 : Value) (l1 : List Bool) (v2 : Value) (l2 : List Bool) : Prop where
 o1 : w.ownsRow w0.heap.size 4 1 v1 l1.length (encs Value.bool l1)
 o2 : w.ownsRow w0.heap.size 4 1 v2 l2.length (encs Value.bool l2)
 ne : v1.ownBlock = none ∨ v1.ownBlock ≠ v2.ownBlock
 kp : Kept W0 w (RS rb vs vg)
 n1 : ∀ k, v1.ownBlock = some k → some k = vs.ownBlock ∨ W0.heap.size ≤ k
 n2 : ∀ k, v2.ownBlock = some k → some k = vg.ownBlock ∨ W0.heap.size ≤ k
 PH : ∀ k, vs.ownBlock = some k → k < W0.heap.size
 lt2 : ∀ k, vg.ownBlock = some k → k < W0.heap.size
 rl : rb < W0.heap.size
 r1 : some rb ≠ vs.ownBlock
 r2 : some rb ≠ vg.ownBlock
 bl : Below w0.heap.size w0 w
 wz : w0.heap.size ≤ rb
section
variable {w0 W0 w w1 : World} {rb g cap : Nat} {sv lt : Int} {vs vg v1 v2 x y v : Value} {l1 l2 : List Bool}
theorem Two.le (h : Two w0 W0 rb vs vg w v1 l1 v2 l2) : W0.heap.size ≤ w.heap.size := h.kp.1
theorem Two.rb1 (h : Two w0 W0 rb vs vg w v1 l1 v2 l2) : some rb ≠ v1.ownBlock := fun e => by
 rcases h.n1 rb e.symm with h1 | h1
 ·exact h.r1 h1
 ·have := h.rl; omega
theorem Two.rb2 (h : Two w0 W0 rb vs vg w v1 l1 v2 l2) : some rb ≠ v2.ownBlock := fun e => by
 rcases h.n2 rb e.symm with h1 | h1
 ·exact h.r2 h1
 ·have := h.rl; omega
theorem Two.step (h : Two w0 W0 rb vs vg w v1 l1 v2 l2) (hk : Kept w w1 (fun k => k = rb)) (hb : Below w0.heap.size w0 w1) : Two w0 W0 rb vs vg w1 v1 l1 v2 l2 :=
 { h with
  o1 := yu h.o1 (fun k hk1 => hk.2 k (iD h.o1 k hk1) (fun e => h.rb1 (by rw [hk1, e])))
  o2 := yu h.o2 (fun k hk1 => hk.2 k (iD h.o2 k hk1) (fun e => h.rb2 (by rw [hk1, e])))
  kp := h.kp.CJ hk (fun k e => .inl (.inr (.inr e)))
  bl := hb }
theorem Two.alloc (h : Two w0 W0 rb vs vg w v1 l1 v2 l2) (o : Obj) : Two w0 W0 rb vs vg (w.alloc o) v1 l1 v2 l2 :=
 h.step ((Kept.refl w _).alloc o) (aW h.bl _)
theorem Two.drew (h : Two w0 W0 rb vs vg w v1 l1 v2 l2) : Two w0 W0 rb vs vg w.drew v1 l1 v2 l2 := h.step ((Kept.refl w _).drew) (bV h.bl)
theorem Two.Bt (h : Two w0 W0 rb vs vg w v1 l1 v2 l2) (j : Nat) (v : Value) : Two w0 W0 rb vs vg (w.setCell ⟨rb, j, none⟩ v) v1 l1 v2 l2 :=
 h.step (Kept.setCell (p := ⟨rb, j, none⟩) (Kept.refl w (fun k => k = rb)) (.inl rfl) v) (h.bl.setCell h.wz v)
theorem U2 (l : List Bool) (b : Bool) : encs Value.bool (l ++ [b]) = encs Value.bool l ++ [.bool b] := by simp [encs]
theorem Two.app1 (h : Two w0 W0 rb vs vg w vs l1 v2 l2) (ho : w1.ownsRow w0.heap.size 4 1 (.slice (some ⟨g, 0, none⟩) (l1.length + 1) cap) (l1.length + 1) (encs Value.bool l1 ++ [.bool false])) (hg : w.grownBy w1 vs.ownBlock) (hat : vs.ownBlock = some g ∨ g = w.heap.size) :
  Two w0 W0 rb vs vg w1 (.slice (some ⟨g, 0, none⟩) (l1.length + 1) cap) (l1 ++ [false]) v2 l2 := by
 have oV : (Value.slice (some ⟨g, 0, none⟩) (l1.length + 1) cap).ownBlock = some g := rfl;refine { h with o1 := ?_, o2 := ?_, ne := ?_, kp := ?_, n1 := ?_, bl := ?_ }
 ·rw [U2, List.length_append]; exact ho
 ·refine yu h.o2 (fun k hk => hg.block k (iD h.o2 k hk) (fun e => ?_));rcases h.ne with h1 | h1
  ·rw [h1] at e; cases e
  ·exact h1 (by rw [← e, hk])
 ·refine .inr (fun e => ?_);rw [oV] at e;have h2 := iD h.o2 g e.symm;rcases hat with h1 | h1
  ·rcases h.ne with h3 | h3
   ·rw [h3] at h1; cases h1
   ·exact h3 (by rw [h1, e])
  ·omega
 ·exact Kept.Cz hg h.kp (fun k hk => .inl (.inl hk.symm))
 ·intro k hk;rw [oV] at hk;injection hk with hk
  subst hk;rcases hat with h1 | h1
  ·exact .inl h1.symm
  ·right; have := h.le; omega
 ·exact Tq h.bl _ h.bl.size hg (xm h.o1)
theorem Two.aoL (h : Two w0 W0 rb vs vg w v1 l1 vg l2) (ho : w1.ownsRow w0.heap.size 4 1 (.slice (some ⟨g, 0, none⟩) (l2.length + 1) cap) (l2.length + 1) (encs Value.bool l2 ++ [.bool false])) (hg : w.grownBy w1 vg.ownBlock) (hat : vg.ownBlock = some g ∨ g = w.heap.size) :
  Two w0 W0 rb vs vg w1 v1 l1 (.slice (some ⟨g, 0, none⟩) (l2.length + 1) cap) (l2 ++ [false]) := by
 have oV : (Value.slice (some ⟨g, 0, none⟩) (l2.length + 1) cap).ownBlock = some g := rfl;refine { h with o1 := ?_, o2 := ?_, ne := ?_, kp := ?_, n2 := ?_, bl := ?_ }
 ·refine yu h.o1 (fun k hk => hg.block k (iD h.o1 k hk) (fun e => ?_));rcases h.ne with h1 | h1
  ·rw [h1] at hk; cases hk
  ·exact h1 (by rw [hk, e])
 ·rw [U2, List.length_append]; exact ho
 ·rcases h.ne with h1 | h1
  ·exact .inl h1
  ·refine .inr (fun e => ?_);rw [oV] at e;have h2 := iD h.o1 g e;rcases hat with h3 | h3
   ·exact h1 (by rw [e, h3])
   ·omega
 ·exact Kept.Cz hg h.kp (fun k hk => .inl (.inr (.inl hk.symm)))
 ·intro k hk;rw [oV] at hk;injection hk with hk
  subst hk;rcases hat with h1 | h1
  ·exact .inl h1.symm
  ·right; have := h.le; omega
 ·exact Tq h.bl _ h.bl.size hg (xm h.o2)
theorem Two.aoM (h : Two w0 W0 rb vs vg w vs l1 v2 l2) (hb : BK W0 w g) (hg : w.grownBy w1 vs.ownBlock) : BK W0 w1 g :=
 ⟨hb.1, oM hb.2 hg (fun e => by have := h.PH g e.symm; have := hb.1; omega)⟩
theorem Two.aoN (h : Two w0 W0 rb vs vg w vs l1 v2 l2) (hb : qQ w rb sv lt x y) (hg : w.grownBy w1 vs.ownBlock) : qQ w1 rb sv lt x y := oM hb hg h.r1
theorem Two.aoO (h : Two w0 W0 rb vs vg w v1 l1 vg l2) (hb : qQ w rb sv lt x y) (hg : w.grownBy w1 vg.ownBlock) : qQ w1 rb sv lt x y := oM hb hg h.r2
end
structure jC (w0 w : World) (rb : Nat) (sv lt : Int) (said good : List Bool) (vs vg : Value) : Prop where
 blk : qQ w rb sv lt vs vg
 o1 : w.ownsRow w0.heap.size 4 1 vs said.length (encs Value.bool said)
 o2 : w.ownsRow w0.heap.size 4 1 vg good.length (encs Value.bool good)
 ne : vs.ownBlock = none ∨ vs.ownBlock ≠ vg.ownBlock
 bl : Below w0.heap.size w0 w
 wz : w0.heap.size ≤ rb
structure Fr (w : World) (rb : Nat) (vs vg : Value) (w' : World) (v1 v2 : Value) : Prop where
 kp : Kept w w' (RS rb vs vg)
 n1 : ∀ k, v1.ownBlock = some k → some k = vs.ownBlock ∨ w.heap.size ≤ k
 n2 : ∀ k, v2.ownBlock = some k → some k = vg.ownBlock ∨ w.heap.size ≤ k
section
variable {w0 w w1 w2 : World} {rb g : Nat} {sv lt : Int} {vs vg v1 v2 x y v : Value} {l1 l2 said good : List Bool}
theorem Fr.refl (w : World) (rb : Nat) (vs vg : Value) : Fr w rb vs vg w vs vg := ⟨Kept.refl _ _, fun _ h => .inl h.symm, fun _ h => .inl h.symm⟩
theorem Fr.trans (h : Fr w rb vs vg w1 v1 v2) (k : Fr w1 rb v1 v2 w2 x y) : Fr w rb vs vg w2 x y := by
 have hle := h.kp.1;refine ⟨h.kp.CJ k.kp ?_, ?_, ?_⟩
 ·rintro j (e | e | e)
  ·rcases h.n1 j e.symm with h1 | h1
   ·exact .inl (.inl h1)
   ·exact .inr h1
  ·rcases h.n2 j e.symm with h1 | h1
   ·exact .inl (.inr (.inl h1))
   ·exact .inr h1
  ·exact .inl (.inr (.inr e))
 ·intro j e;rcases k.n1 j e with h1 | h1
  ·exact h.n1 j h1.symm
  ·exact .inr ag
 ·intro j e;rcases k.n2 j e with h1 | h1
  ·exact h.n2 j h1.symm
  ·exact .inr ag
theorem Fr.alloc (h : Fr w rb vs vg w1 v1 v2) (o : Obj) : Fr w rb vs vg (w1.alloc o) v1 v2 := ⟨h.kp.alloc o, h.n1, h.n2⟩
theorem Fr.drewN (h : Fr w rb vs vg w1 v1 v2) (m : Nat) : Fr w rb vs vg (w1.drewN m) v1 v2 := ⟨h.kp.drewN m, h.n1, h.n2⟩
theorem jC.Kw (h : jC w0 w rb sv lt said good vs vg) : some rb ≠ vs.ownBlock := fun e => by
 obtain ⟨cs, hc⟩ := Et h.o1 rb e.symm;exact Tu h.blk hc ai rfl
theorem jC.Ky (h : jC w0 w rb sv lt said good vs vg) : some rb ≠ vg.ownBlock := fun e => by
 obtain ⟨cs, hc⟩ := Et h.o2 rb e.symm;exact Tu h.blk hc ai rfl
theorem jC.below (h : jC w0 w rb sv lt said good vs vg) (hb : Below w.heap.size w w1) : jC w0 w1 rb sv lt said good vs vg :=
 { h with
  blk := (hb.block _ (aT h.blk)).trans h.blk
  o1 := yu h.o1 (fun k hk => hb.block k (iD h.o1 k hk))
  o2 := yu h.o2 (fun k hk => hb.block k (iD h.o2 k hk))
  bl := h.bl.trans (hb.mono h.bl.size) }
theorem jC.alloc (h : jC w0 w rb sv lt said good vs vg) (o : Obj) : jC w0 (w.alloc o) rb sv lt said good vs vg := h.below (aW (Below.refl _ _) _)
theorem jC.drewN (h : jC w0 w rb sv lt said good vs vg) (m : Nat) : jC w0 (w.drewN m) rb sv lt said good vs vg := h.below (fB (Below.refl _ _) _)
theorem jC.two (h : jC w0 w rb sv lt said good vs vg) : Two w0 w rb vs vg w vs said vg good :=
 { o1 := h.o1, o2 := h.o2, ne := h.ne, kp := Kept.refl _ _, n1 := fun _ e => .inl e.symm, n2 := fun _ e => .inl e.symm, PH := iD h.o1, lt2 := iD h.o2, rl := aT h.blk, r1 := h.Kw, r2 := h.Ky, bl := h.bl, wz := h.wz }
theorem Two.rdr (h : Two w0 w rb vs vg w1 v1 l1 v2 l2) (hb : qQ w1 rb sv lt v1 v2) : jC w0 w1 rb sv lt l1 l2 v1 v2 ∧ Fr w rb vs vg w1 v1 v2 :=
 ⟨{ blk := hb, o1 := h.o1, o2 := h.o2, ne := h.ne, bl := h.bl, wz := h.wz }, ⟨h.kp, h.n1, h.n2⟩⟩
theorem Fr.box (h : Fr w rb vs vg w1 v1 v2) (hR : jC w0 w rb sv lt said good vs vg) {o : Obj} (hb : w.heap[g]? = some o) (h1 : some g ≠ vs.ownBlock) (h2 : some g ≠ vg.ownBlock) (h3 : g ≠ rb) : w1.heap[g]? = some o :=
 JS hb h.kp (by rintro (e | e | e) <;> contradiction)
end
theorem xJ {w : World} {base : Nat} {v : Value} {l : List Bool} (h : w.ownsRow base 4 1 v l.length (encs Value.bool l)) : ∃ A c, v = .slice A l.length c ∧ l.length ≤ c := by
 rcases h.2 with ⟨rfl, h0⟩ | ⟨g, cap, cur, rfl, _, _, hc, _⟩
 ·exact ⟨none, 0, by rw [h0], by omega⟩
 ·exact ⟨_, _, rfl, hc⟩
theorem Ey {w : World} {base k : Nat} {v : Value} {l : List Bool} (h : w.ownsRow base 4 1 v l.length (encs Value.bool l)) (hk : k < l.length) :
  ∃ g c, v = .slice (some ⟨g, 0, none⟩) l.length c ∧ base ≤ g ∧ l.length ≤ c ∧ w.cell? ⟨g, k, none⟩ = some (.bool (l.getD k false)) ∧ w.frozen? ⟨g, k, none⟩ = false ∧ ∀ b, (w.setCell ⟨g, k, none⟩ (.bool b)).ownsRow base 4 1 v (l.set k b).length (encs Value.bool (l.set k b)) := by
 rcases h.2 with ⟨_, h0⟩ | ⟨g, cap, cur, rfl, hb, hh, hc, hm, hs, ht⟩
 ·omega
 ·have hkc : k < cur.size := by omega
  have hcell : cur[k]? = some (.bool (l.getD k false)) := by
   have h1 : (cur.toList.take (l.length * 1))[k]? = some (.bool (l.getD k false)) := by rw [ht]; simp [encs, hk]
   rw [List.getElem?_take_of_lt ag] at h1;simpa using h1
  refine ⟨g, cap, rfl, hb, hc, (aj hh k).trans hcell, aN hh k, fun b => ⟨by simp [encs], .inr ⟨g, cap, cur.setIfInBounds k (.bool b), by simp, hb, jc hh k _, by simpa using hc, hm, by simpa using hs, ?_⟩⟩⟩;rw [Array.toList_setIfInBounds, List.length_set, List.take_set, ht];simp [encs, List.map_set]
theorem jC.put {w0 w : World} {rb k : Nat} {sv lt : Int} {sd gd : List Bool} {x1 x2 : Value} (h : jC w0 w rb sv lt sd gd x1 x2) (h1 : k < sd.length) (h2 : k < gd.length) :
  ∃ g1 c1 g2 c2, x1 = .slice (some ⟨g1, 0, none⟩) sd.length c1 ∧ x2 = .slice (some ⟨g2, 0, none⟩) gd.length c2 ∧ g1 ≠ g2 ∧ w.cell? ⟨g1, k, none⟩ = some (.bool (sd.getD k false)) ∧ w.frozen? ⟨g1, k, none⟩ = false ∧ w.cell? ⟨g2, k, none⟩ = some (.bool (gd.getD k false)) ∧ w.frozen? ⟨g2, k, none⟩ = false ∧
   ∀ a b, jC w0 ((w.setCell ⟨g1, k, none⟩ (.bool a)).setCell ⟨g2, k, none⟩ (.bool b)) rb sv lt (sd.set k a) (gd.set k b) x1 x2 ∧ Fr w rb x1 x2 ((w.setCell ⟨g1, k, none⟩ (.bool a)).setCell ⟨g2, k, none⟩ (.bool b)) x1 x2 := by
 obtain ⟨g1, c1, e1, b1, l1, p1, q1, s1⟩ := Ey h.o1 h1;obtain ⟨g2, c2, e2, b2, l2, p2, q2, s2⟩ := Ey h.o2 h2;have hb1 : x1.ownBlock = some g1 := by rw [e1]; rfl
 have hb2 : x2.ownBlock = some g2 := by rw [e2]; rfl
 have hne : g1 ≠ g2 := by
  rcases h.ne with h3 | h3
  ·rw [hb1] at h3; cases h3
  ·rw [hb1, hb2] at h3;exact fun e => h3 (by rw [e])
 refine ⟨g1, c1, g2, c2, e1, e2, hne, p1, q1, p2, q2, fun a b => ⟨?_, ?_⟩⟩
 ·have r1 := h.Kw;have r2 := h.Ky;rw [hb1] at r1;rw [hb2] at r2;refine ⟨?_, ?_, ?_, h.ne, (h.bl.setCell b1 _).setCell b2 _, h.wz⟩
  ·exact dK (p := ⟨g2, k, none⟩) (dK (p := ⟨g1, k, none⟩) h.blk (fun e => r1 (by rw [e])) _) (fun e => r2 (by rw [e])) _
  ·exact NL (p := ⟨g2, k, none⟩) (s1 a) (by rw [hb1]; exact fun e => hne (by injection e with e; exact e.symm)) _
  ·have h3 : (w.setCell ⟨g1, k, none⟩ (.bool a)).ownsRow w0.heap.size 4 1 x2 gd.length (encs Value.bool gd) := NL (p := ⟨g1, k, none⟩) h.o2 (by rw [hb2]; exact fun e => hne (by injection e)) _;obtain ⟨g3, c3, e3, _, _, _, _, s3⟩ := Ey h3 h2;rw [e2] at e3;injection e3 with e3 _ _
   injection e3 with e3
   injection e3 with e3
   subst e3;exact s3 b
 ·exact ⟨((Kept.refl w _).setCell (p := ⟨g1, k, none⟩) (.inl (.inl hb1.symm)) _).setCell (p := ⟨g2, k, none⟩) (.inl (.inr (.inl hb2.symm))) _, fun _ e => .inl e.symm, fun _ e => .inl e.symm⟩
theorem jC.U3 {w0 w : World} {rb k : Nat} {sv lt : Int} {sd gd : List Bool} {x1 x2 : Value} (h : jC w0 w rb sv lt sd gd x1 x2) (h1 : k < sd.length) (h2 : k < gd.length) :
  ∃ g1 c1 g2 c2, x1 = .slice (some ⟨g1, 0, none⟩) sd.length c1 ∧ x2 = .slice (some ⟨g2, 0, none⟩) gd.length c2 ∧ g1 ≠ g2 ∧ w.cell? ⟨g1, k, none⟩ = some (.bool (sd.getD k false)) ∧ w.frozen? ⟨g1, k, none⟩ = false ∧ w.cell? ⟨g2, k, none⟩ = some (.bool (gd.getD k false)) ∧ w.frozen? ⟨g2, k, none⟩ = false ∧
   ∀ W, Below w.heap.size w W → ∀ a b, jC w0 ((W.setCell ⟨g1, k, none⟩ (.bool a)).setCell ⟨g2, k, none⟩ (.bool b)) rb sv lt (sd.set k a) (gd.set k b) x1 x2 ∧ Fr w rb x1 x2 ((W.setCell ⟨g1, k, none⟩ (.bool a)).setCell ⟨g2, k, none⟩ (.bool b)) x1 x2 := by
 obtain ⟨g1, c1, g2, c2, e1, e2, r⟩ := h.put h1 h2;refine ⟨g1, c1, g2, c2, e1, e2, r.1, r.2.1, r.2.2.1, r.2.2.2.1, r.2.2.2.2.1, fun W hW a b => ?_⟩;obtain ⟨g3, c3, g4, c4, e3, e4, s⟩ := (h.below hW).put h1 h2;have q1 : g3 = g1 := by rw [e1] at e3; injection e3 with e3 _ _; injection e3 with e3; injection e3 with e3; exact e3.symm
 have q2 : g4 = g2 := by rw [e2] at e4; injection e4 with e4 _ _; injection e4 with e4; injection e4 with e4; exact e4.symm
 subst q1 q2;have s2 := s.2.2.2.2.2 a b;refine ⟨s2.1, ?_⟩;have hF : Fr w rb x1 x2 W x1 x2 := ⟨Kept.of_below hW _, fun _ e => .inl e.symm, fun _ e => .inl e.symm⟩;exact hF.trans s2.2
theorem set_mid (a b : List Bool) (x y : Bool) : (a ++ [x] ++ b).set a.length y = a ++ [y] ++ b := by
 rw [List.append_assoc, List.set_append_right _ _ (Nat.le_refl _), Nat.sub_self];simp
end Go.Proofs.YtapejnikpmfddaaGreat.X
