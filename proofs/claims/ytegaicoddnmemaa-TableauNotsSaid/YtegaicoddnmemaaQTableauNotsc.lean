/- A part of the claim TableauNots. -/
import Derived.Deep.AppendLies
import Derived.Outline
import Derived.Test.YtegaicoddnmemaaQTableauNotsa
import Derived.Test.YtegaicoddnmemaaQTableauNotsb
namespace Go.Proofs.Ytegaicoddnmemaa.X
open Go.RowKit Go.Proofs.YtegaicoddnmemaaW.PrintWords Go.Proofs.YtegaicoddnmemaaW.PrintLast Go.Proofs.YtegaicoddnmemaaW.PrintMore
open Go.Proofs.Ytegaicoddnmemaa.P Go.Proofs.Ytegaicoddnmemaa.Evx
set_option linter.unusedSimpArgs false
set_option linter.unusedVariables false
/-- The reader's block. -/
def RdrB (w : World) (rb : Nat) (sv lt : Int) (vs vg : Value) : Prop := w.heap[rb]? = some (.cells #[.int .i64 sv, .int .u32 lt, vs, vg] 64 (0, 0))
/-- A block of one bool, made since W. -/
def BK (W w : World) (g : Nat) : Prop := W.heap.size ≤ g ∧ w.heap[g]? = some (.cells #[.bool false] 4 (0, 0))
section
variable {w w1 W : World} {rb : Nat} {sv lt : Int} {vs vg v : Value}
theorem rdrB_0 (h : RdrB w rb sv lt vs vg) : w.cell? ⟨rb, 0, none⟩ = some (.int .i64 sv) := (blk_cell h 0).trans rfl
theorem rdrB_1 (h : RdrB w rb sv lt vs vg) : w.cell? ⟨rb, 1, none⟩ = some (.int .u32 lt) := (blk_cell h 1).trans rfl
theorem rdrB_2 (h : RdrB w rb sv lt vs vg) : w.cell? ⟨rb, 2, none⟩ = some vs := (blk_cell h 2).trans rfl
theorem rdrB_3 (h : RdrB w rb sv lt vs vg) : w.cell? ⟨rb, 3, none⟩ = some vg := (blk_cell h 3).trans rfl
theorem rdrB_set2 (h : RdrB w rb sv lt vs vg) (v : Value) : RdrB (w.setCell ⟨rb, 2, none⟩ v) rb sv lt v vg := (blk_set h 2 v).trans rfl
theorem rdrB_set3 (h : RdrB w rb sv lt vs vg) (v : Value) : RdrB (w.setCell ⟨rb, 3, none⟩ v) rb sv lt vs v := (blk_set h 3 v).trans rfl
theorem le_alloc {n : Nat} (h : n ≤ w.heap.size) (o : Obj) : n ≤ (w.alloc o).heap.size := by simp; omega
theorem le_set {n : Nat} (h : n ≤ w.heap.size) (p : Addr) (v : Value) : n ≤ (w.setCell p v).heap.size := by simpa using h
end
/-- What a reader's work may write. -/
def RS (rb : Nat) (vs vg : Value) : Nat → Prop := fun k => some k = vs.ownBlock ∨ some k = vg.ownBlock ∨ k = rb
/-- Two rows of bools, grown out of vs and vg since W0. -/
structure Two (w0 W0 : World) (rb : Nat) (vs vg : Value) (w : World) (v1 : Value) (l1 : List Bool) (v2 : Value) (l2 : List Bool) : Prop where
  o1 : w.ownsRow w0.heap.size 4 1 v1 l1.length (encs Value.bool l1)
  o2 : w.ownsRow w0.heap.size 4 1 v2 l2.length (encs Value.bool l2)
  ne : v1.ownBlock = none ∨ v1.ownBlock ≠ v2.ownBlock
  kp : Kept W0 w (RS rb vs vg)
  n1 : ∀ k, v1.ownBlock = some k → some k = vs.ownBlock ∨ W0.heap.size ≤ k
  n2 : ∀ k, v2.ownBlock = some k → some k = vg.ownBlock ∨ W0.heap.size ≤ k
  lt1 : ∀ k, vs.ownBlock = some k → k < W0.heap.size
  lt2 : ∀ k, vg.ownBlock = some k → k < W0.heap.size
  rl : rb < W0.heap.size
  r1 : some rb ≠ vs.ownBlock
  r2 : some rb ≠ vg.ownBlock
  bl : Below w0.heap.size w0 w
  rb0 : w0.heap.size ≤ rb
section
variable {w0 W0 w w1 : World} {rb g cap : Nat} {sv lt : Int} {vs vg v1 v2 x y v : Value} {l1 l2 : List Bool}
theorem Two.le (h : Two w0 W0 rb vs vg w v1 l1 v2 l2) : W0.heap.size ≤ w.heap.size := h.kp.1
theorem Two.rb1 (h : Two w0 W0 rb vs vg w v1 l1 v2 l2) : some rb ≠ v1.ownBlock := fun e => by
  rcases h.n1 rb e.symm with h1 | h1
  · exact h.r1 h1
  · have := h.rl; omega
theorem Two.rb2 (h : Two w0 W0 rb vs vg w v1 l1 v2 l2) : some rb ≠ v2.ownBlock := fun e => by
  rcases h.n2 rb e.symm with h1 | h1
  · exact h.r2 h1
  · have := h.rl; omega
/-- Behind an event that keeps both rows. -/
theorem Two.step (h : Two w0 W0 rb vs vg w v1 l1 v2 l2) (hk : Kept w w1 (fun k => k = rb)) (hb : Below w0.heap.size w0 w1) : Two w0 W0 rb vs vg w1 v1 l1 v2 l2 :=
  { h with
    o1 := own_move h.o1 (fun k hk1 => hk.2 k (own_lt h.o1 k hk1) (fun e => h.rb1 (by rw [hk1, e])))
    o2 := own_move h.o2 (fun k hk1 => hk.2 k (own_lt h.o2 k hk1) (fun e => h.rb2 (by rw [hk1, e])))
    kp := h.kp.then_ hk (fun k e => .inl (.inr (.inr e)))
    bl := hb }
theorem Two.alloc (h : Two w0 W0 rb vs vg w v1 l1 v2 l2) (o : Obj) : Two w0 W0 rb vs vg (w.alloc o) v1 l1 v2 l2 :=
  h.step ((Kept.refl w _).alloc o) (below_alloc h.bl _)
theorem Two.drew (h : Two w0 W0 rb vs vg w v1 l1 v2 l2) : Two w0 W0 rb vs vg w.drew v1 l1 v2 l2 := h.step ((Kept.refl w _).drew) (below_drew1 h.bl)
theorem Two.setR (h : Two w0 W0 rb vs vg w v1 l1 v2 l2) (j : Nat) (v : Value) : Two w0 W0 rb vs vg (w.setCell ⟨rb, j, none⟩ v) v1 l1 v2 l2 :=
  h.step (Kept.setCell (p := ⟨rb, j, none⟩) (Kept.refl w (fun k => k = rb)) (.inl rfl) v) (h.bl.setCell h.rb0 v)
theorem encs_snoc (l : List Bool) (b : Bool) : encs Value.bool (l ++ [b]) = encs Value.bool l ++ [.bool b] := by simp [encs]
theorem Two.app1 (h : Two w0 W0 rb vs vg w vs l1 v2 l2) (ho : w1.ownsRow w0.heap.size 4 1 (.slice (some ⟨g, 0, none⟩) (l1.length + 1) cap) (l1.length + 1) (encs Value.bool l1 ++ [.bool false])) (hg : w.grownBy w1 vs.ownBlock) (hat : vs.ownBlock = some g ∨ g = w.heap.size) :
    Two w0 W0 rb vs vg w1 (.slice (some ⟨g, 0, none⟩) (l1.length + 1) cap) (l1 ++ [false]) v2 l2 := by
  have hob : (Value.slice (some ⟨g, 0, none⟩) (l1.length + 1) cap).ownBlock = some g := rfl
  refine { h with o1 := ?_, o2 := ?_, ne := ?_, kp := ?_, n1 := ?_, bl := ?_ }
  · rw [encs_snoc, List.length_append]; exact ho
  · refine own_move h.o2 (fun k hk => hg.block k (own_lt h.o2 k hk) (fun e => ?_))
    rcases h.ne with h1 | h1
    · rw [h1] at e; cases e
    · exact h1 (by rw [← e, hk])
  · refine .inr (fun e => ?_)
    rw [hob] at e
    have h2 := own_lt h.o2 g e.symm
    rcases hat with h1 | h1
    · rcases h.ne with h3 | h3
      · rw [h3] at h1; cases h1
      · exact h3 (by rw [h1, e])
    · omega
  · exact Kept.of_grown hg h.kp (fun k hk => .inl (.inl hk.symm))
  · intro k hk
    rw [hob] at hk
    injection hk with hk
    subst hk
    rcases hat with h1 | h1
    · exact .inl h1.symm
    · right; have := h.le; omega
  · exact pw_below_grown h.bl _ h.bl.size hg (own_base h.o1)
theorem Two.app2 (h : Two w0 W0 rb vs vg w v1 l1 vg l2) (ho : w1.ownsRow w0.heap.size 4 1 (.slice (some ⟨g, 0, none⟩) (l2.length + 1) cap) (l2.length + 1) (encs Value.bool l2 ++ [.bool false])) (hg : w.grownBy w1 vg.ownBlock) (hat : vg.ownBlock = some g ∨ g = w.heap.size) :
    Two w0 W0 rb vs vg w1 v1 l1 (.slice (some ⟨g, 0, none⟩) (l2.length + 1) cap) (l2 ++ [false]) := by
  have hob : (Value.slice (some ⟨g, 0, none⟩) (l2.length + 1) cap).ownBlock = some g := rfl
  refine { h with o1 := ?_, o2 := ?_, ne := ?_, kp := ?_, n2 := ?_, bl := ?_ }
  · refine own_move h.o1 (fun k hk => hg.block k (own_lt h.o1 k hk) (fun e => ?_))
    rcases h.ne with h1 | h1
    · rw [h1] at hk; cases hk
    · exact h1 (by rw [hk, e])
  · rw [encs_snoc, List.length_append]; exact ho
  · rcases h.ne with h1 | h1
    · exact .inl h1
    · refine .inr (fun e => ?_)
      rw [hob] at e
      have h2 := own_lt h.o1 g e
      rcases hat with h3 | h3
      · exact h1 (by rw [e, h3])
      · omega
  · exact Kept.of_grown hg h.kp (fun k hk => .inl (.inr (.inl hk.symm)))
  · intro k hk
    rw [hob] at hk
    injection hk with hk
    subst hk
    rcases hat with h1 | h1
    · exact .inl h1.symm
    · right; have := h.le; omega
  · exact pw_below_grown h.bl _ h.bl.size hg (own_base h.o2)
theorem Two.keepB1 (h : Two w0 W0 rb vs vg w vs l1 v2 l2) (hb : BK W0 w g) (hg : w.grownBy w1 vs.ownBlock) : BK W0 w1 g :=
  ⟨hb.1, blk_grown hb.2 hg (fun e => by have := h.lt1 g e.symm; have := hb.1; omega)⟩
theorem Two.keepR1 (h : Two w0 W0 rb vs vg w vs l1 v2 l2) (hb : RdrB w rb sv lt x y) (hg : w.grownBy w1 vs.ownBlock) : RdrB w1 rb sv lt x y := blk_grown hb hg h.r1
theorem Two.keepR2 (h : Two w0 W0 rb vs vg w v1 l1 vg l2) (hb : RdrB w rb sv lt x y) (hg : w.grownBy w1 vg.ownBlock) : RdrB w1 rb sv lt x y := blk_grown hb hg h.r2
end
/-- A reader with its rows. -/
structure Rdr (w0 w : World) (rb : Nat) (sv lt : Int) (said good : List Bool) (vs vg : Value) : Prop where
  blk : RdrB w rb sv lt vs vg
  o1 : w.ownsRow w0.heap.size 4 1 vs said.length (encs Value.bool said)
  o2 : w.ownsRow w0.heap.size 4 1 vg good.length (encs Value.bool good)
  ne : vs.ownBlock = none ∨ vs.ownBlock ≠ vg.ownBlock
  bl : Below w0.heap.size w0 w
  rb0 : w0.heap.size ≤ rb
/-- What a reader's work from w to w' leaves. -/
structure Fr (w : World) (rb : Nat) (vs vg : Value) (w' : World) (v1 v2 : Value) : Prop where
  kp : Kept w w' (RS rb vs vg)
  n1 : ∀ k, v1.ownBlock = some k → some k = vs.ownBlock ∨ w.heap.size ≤ k
  n2 : ∀ k, v2.ownBlock = some k → some k = vg.ownBlock ∨ w.heap.size ≤ k
section
variable {w0 w w1 w2 : World} {rb g : Nat} {sv lt : Int} {vs vg v1 v2 x y v : Value} {l1 l2 said good : List Bool}
theorem Fr.refl (w : World) (rb : Nat) (vs vg : Value) : Fr w rb vs vg w vs vg := ⟨Kept.refl _ _, fun _ h => .inl h.symm, fun _ h => .inl h.symm⟩
theorem Fr.trans (h : Fr w rb vs vg w1 v1 v2) (k : Fr w1 rb v1 v2 w2 x y) : Fr w rb vs vg w2 x y := by
  have hle := h.kp.1
  refine ⟨h.kp.then_ k.kp ?_, ?_, ?_⟩
  · rintro j (e | e | e)
    · rcases h.n1 j e.symm with h1 | h1
      · exact .inl (.inl h1)
      · exact .inr h1
    · rcases h.n2 j e.symm with h1 | h1
      · exact .inl (.inr (.inl h1))
      · exact .inr h1
    · exact .inl (.inr (.inr e))
  · intro j e
    rcases k.n1 j e with h1 | h1
    · exact h.n1 j h1.symm
    · exact .inr (by omega)
  · intro j e
    rcases k.n2 j e with h1 | h1
    · exact h.n2 j h1.symm
    · exact .inr (by omega)
theorem Fr.alloc (h : Fr w rb vs vg w1 v1 v2) (o : Obj) : Fr w rb vs vg (w1.alloc o) v1 v2 := ⟨h.kp.alloc o, h.n1, h.n2⟩
theorem Fr.drewN (h : Fr w rb vs vg w1 v1 v2) (m : Nat) : Fr w rb vs vg (w1.drewN m) v1 v2 := ⟨h.kp.drewN m, h.n1, h.n2⟩
theorem Rdr.rne1 (h : Rdr w0 w rb sv lt said good vs vg) : some rb ≠ vs.ownBlock := fun e => by
  obtain ⟨cs, hc⟩ := own_typed h.o1 rb e.symm
  exact blk_ne h.blk hc (by decide) rfl
theorem Rdr.rne2 (h : Rdr w0 w rb sv lt said good vs vg) : some rb ≠ vg.ownBlock := fun e => by
  obtain ⟨cs, hc⟩ := own_typed h.o2 rb e.symm
  exact blk_ne h.blk hc (by decide) rfl
theorem Rdr.below (h : Rdr w0 w rb sv lt said good vs vg) (hb : Below w.heap.size w w1) : Rdr w0 w1 rb sv lt said good vs vg :=
  { h with
    blk := (hb.block _ (blk_lt h.blk)).trans h.blk
    o1 := own_move h.o1 (fun k hk => hb.block k (own_lt h.o1 k hk))
    o2 := own_move h.o2 (fun k hk => hb.block k (own_lt h.o2 k hk))
    bl := h.bl.trans (hb.mono h.bl.size) }
theorem Rdr.alloc (h : Rdr w0 w rb sv lt said good vs vg) (o : Obj) : Rdr w0 (w.alloc o) rb sv lt said good vs vg := h.below (below_alloc (Below.refl _ _) _)
theorem Rdr.drewN (h : Rdr w0 w rb sv lt said good vs vg) (m : Nat) : Rdr w0 (w.drewN m) rb sv lt said good vs vg := h.below (pw_below_drewN (Below.refl _ _) _)
theorem Rdr.two (h : Rdr w0 w rb sv lt said good vs vg) : Two w0 w rb vs vg w vs said vg good :=
  { o1 := h.o1, o2 := h.o2, ne := h.ne, kp := Kept.refl _ _, n1 := fun _ e => .inl e.symm, n2 := fun _ e => .inl e.symm, lt1 := own_lt h.o1, lt2 := own_lt h.o2, rl := blk_lt h.blk, r1 := h.rne1, r2 := h.rne2, bl := h.bl, rb0 := h.rb0 }
theorem Two.rdr (h : Two w0 w rb vs vg w1 v1 l1 v2 l2) (hb : RdrB w1 rb sv lt v1 v2) : Rdr w0 w1 rb sv lt l1 l2 v1 v2 ∧ Fr w rb vs vg w1 v1 v2 :=
  ⟨{ blk := hb, o1 := h.o1, o2 := h.o2, ne := h.ne, bl := h.bl, rb0 := h.rb0 }, ⟨h.kp, h.n1, h.n2⟩⟩
/-- A block that is not the reader's stays. -/
theorem Fr.box (h : Fr w rb vs vg w1 v1 v2) (hR : Rdr w0 w rb sv lt said good vs vg) {o : Obj} (hb : w.heap[g]? = some o) (h1 : some g ≠ vs.ownBlock) (h2 : some g ≠ vg.ownBlock) (h3 : g ≠ rb) : w1.heap[g]? = some o :=
  blk_kept hb h.kp (by rintro (e | e | e) <;> contradiction)
end
theorem own_form {w : World} {base : Nat} {v : Value} {l : List Bool} (h : w.ownsRow base 4 1 v l.length (encs Value.bool l)) : ∃ A c, v = .slice A l.length c ∧ l.length ≤ c := by
  rcases h.2 with ⟨rfl, h0⟩ | ⟨g, cap, cur, rfl, _, _, hc, _⟩
  · exact ⟨none, 0, by rw [h0], by omega⟩
  · exact ⟨_, _, rfl, hc⟩
/-- A cell of a row of one's own: it is there, and may be written. -/
theorem own_put {w : World} {base k : Nat} {v : Value} {l : List Bool} (h : w.ownsRow base 4 1 v l.length (encs Value.bool l)) (hk : k < l.length) :
    ∃ g c, v = .slice (some ⟨g, 0, none⟩) l.length c ∧ base ≤ g ∧ l.length ≤ c ∧ w.cell? ⟨g, k, none⟩ = some (.bool (l.getD k false)) ∧ w.frozen? ⟨g, k, none⟩ = false ∧ ∀ b, (w.setCell ⟨g, k, none⟩ (.bool b)).ownsRow base 4 1 v (l.set k b).length (encs Value.bool (l.set k b)) := by
  rcases h.2 with ⟨_, h0⟩ | ⟨g, cap, cur, rfl, hb, hh, hc, hm, hs, ht⟩
  · omega
  · have hkc : k < cur.size := by omega
    have hcell : cur[k]? = some (.bool (l.getD k false)) := by
      have h1 : (cur.toList.take (l.length * 1))[k]? = some (.bool (l.getD k false)) := by rw [ht]; simp [encs, hk]
      rw [List.getElem?_take_of_lt (by omega)] at h1
      simpa using h1
    refine ⟨g, cap, rfl, hb, hc, (blk_cell hh k).trans hcell, blk_frozen hh k, fun b => ⟨by simp [encs], .inr ⟨g, cap, cur.setIfInBounds k (.bool b), by simp, hb, blk_set hh k _, by simpa using hc, hm, by simpa using hs, ?_⟩⟩⟩
    rw [Array.toList_setIfInBounds, List.length_set, List.take_set, ht]
    simp [encs, List.map_set]
theorem Rdr.put {w0 w : World} {rb k : Nat} {sv lt : Int} {sd gd : List Bool} {x1 x2 : Value} (h : Rdr w0 w rb sv lt sd gd x1 x2) (h1 : k < sd.length) (h2 : k < gd.length) :
    ∃ g1 c1 g2 c2, x1 = .slice (some ⟨g1, 0, none⟩) sd.length c1 ∧ x2 = .slice (some ⟨g2, 0, none⟩) gd.length c2 ∧ g1 ≠ g2 ∧ w.cell? ⟨g1, k, none⟩ = some (.bool (sd.getD k false)) ∧ w.frozen? ⟨g1, k, none⟩ = false ∧ w.cell? ⟨g2, k, none⟩ = some (.bool (gd.getD k false)) ∧ w.frozen? ⟨g2, k, none⟩ = false ∧
      ∀ a b, Rdr w0 ((w.setCell ⟨g1, k, none⟩ (.bool a)).setCell ⟨g2, k, none⟩ (.bool b)) rb sv lt (sd.set k a) (gd.set k b) x1 x2 ∧ Fr w rb x1 x2 ((w.setCell ⟨g1, k, none⟩ (.bool a)).setCell ⟨g2, k, none⟩ (.bool b)) x1 x2 := by
  obtain ⟨g1, c1, e1, b1, l1, p1, q1, s1⟩ := own_put h.o1 h1
  obtain ⟨g2, c2, e2, b2, l2, p2, q2, s2⟩ := own_put h.o2 h2
  have hb1 : x1.ownBlock = some g1 := by rw [e1]; rfl
  have hb2 : x2.ownBlock = some g2 := by rw [e2]; rfl
  have hne : g1 ≠ g2 := by
    rcases h.ne with h3 | h3
    · rw [hb1] at h3; cases h3
    · rw [hb1, hb2] at h3
      exact fun e => h3 (by rw [e])
  refine ⟨g1, c1, g2, c2, e1, e2, hne, p1, q1, p2, q2, fun a b => ⟨?_, ?_⟩⟩
  · have r1 := h.rne1
    have r2 := h.rne2
    rw [hb1] at r1
    rw [hb2] at r2
    refine ⟨?_, ?_, ?_, h.ne, (h.bl.setCell b1 _).setCell b2 _, h.rb0⟩
    · exact blk_far (p := ⟨g2, k, none⟩) (blk_far (p := ⟨g1, k, none⟩) h.blk (fun e => r1 (by rw [e])) _) (fun e => r2 (by rw [e])) _
    · exact own_setCell (p := ⟨g2, k, none⟩) (s1 a) (by rw [hb1]; exact fun e => hne (by injection e with e; exact e.symm)) _
    · have h3 : (w.setCell ⟨g1, k, none⟩ (.bool a)).ownsRow w0.heap.size 4 1 x2 gd.length (encs Value.bool gd) := own_setCell (p := ⟨g1, k, none⟩) h.o2 (by rw [hb2]; exact fun e => hne (by injection e)) _
      obtain ⟨g3, c3, e3, _, _, _, _, s3⟩ := own_put h3 h2
      rw [e2] at e3
      injection e3 with e3 _ _
      injection e3 with e3
      injection e3 with e3
      subst e3
      exact s3 b
  · exact ⟨((Kept.refl w _).setCell (p := ⟨g1, k, none⟩) (.inl (.inl hb1.symm)) _).setCell (p := ⟨g2, k, none⟩) (.inl (.inr (.inl hb2.symm))) _, fun _ e => .inl e.symm, fun _ e => .inl e.symm⟩
/-- The same in any later world that keeps all. -/
theorem Rdr.putL {w0 w : World} {rb k : Nat} {sv lt : Int} {sd gd : List Bool} {x1 x2 : Value} (h : Rdr w0 w rb sv lt sd gd x1 x2) (h1 : k < sd.length) (h2 : k < gd.length) :
    ∃ g1 c1 g2 c2, x1 = .slice (some ⟨g1, 0, none⟩) sd.length c1 ∧ x2 = .slice (some ⟨g2, 0, none⟩) gd.length c2 ∧ g1 ≠ g2 ∧ w.cell? ⟨g1, k, none⟩ = some (.bool (sd.getD k false)) ∧ w.frozen? ⟨g1, k, none⟩ = false ∧ w.cell? ⟨g2, k, none⟩ = some (.bool (gd.getD k false)) ∧ w.frozen? ⟨g2, k, none⟩ = false ∧
      ∀ W, Below w.heap.size w W → ∀ a b, Rdr w0 ((W.setCell ⟨g1, k, none⟩ (.bool a)).setCell ⟨g2, k, none⟩ (.bool b)) rb sv lt (sd.set k a) (gd.set k b) x1 x2 ∧ Fr w rb x1 x2 ((W.setCell ⟨g1, k, none⟩ (.bool a)).setCell ⟨g2, k, none⟩ (.bool b)) x1 x2 := by
  obtain ⟨g1, c1, g2, c2, e1, e2, r⟩ := h.put h1 h2
  refine ⟨g1, c1, g2, c2, e1, e2, r.1, r.2.1, r.2.2.1, r.2.2.2.1, r.2.2.2.2.1, fun W hW a b => ?_⟩
  obtain ⟨g3, c3, g4, c4, e3, e4, s⟩ := (h.below hW).put h1 h2
  have q1 : g3 = g1 := by rw [e1] at e3; injection e3 with e3 _ _; injection e3 with e3; injection e3 with e3; exact e3.symm
  have q2 : g4 = g2 := by rw [e2] at e4; injection e4 with e4 _ _; injection e4 with e4; injection e4 with e4; exact e4.symm
  subst q1 q2
  have s2 := s.2.2.2.2.2 a b
  refine ⟨s2.1, ?_⟩
  have hF : Fr w rb x1 x2 W x1 x2 := ⟨Kept.of_below hW _, fun _ e => .inl e.symm, fun _ e => .inl e.symm⟩
  exact hF.trans s2.2
theorem set_mid (a b : List Bool) (x y : Bool) : (a ++ [x] ++ b).set a.length y = a ++ [y] ++ b := by
  rw [List.append_assoc, List.set_append_right _ _ (Nat.le_refl _), Nat.sub_self]
  simp
end Go.Proofs.Ytegaicoddnmemaa.X

namespace Go.Proofs.Ytegaicoddnmemaa.X
open Go.RowKit Go.Proofs.YtegaicoddnmemaaW.PrintWords Go.Proofs.YtegaicoddnmemaaW.PrintLast Go.Proofs.YtegaicoddnmemaaW.PrintMore
open Go.Proofs.Ytegaicoddnmemaa.P Go.Proofs.Ytegaicoddnmemaa.Evx
set_option linter.unusedSimpArgs false
set_option linter.unusedVariables false
/-- A node's row out of its kids' rows. -/
def rowOp (ls : List Int) (b : Nat) (op m : Int) (x y : List Bool) : List Bool :=
  if op = 2 then settleS (fun i _ => bitS (ls.getD i 0) m) ls.length b false
  else if op = 3 then settleS (fun i _ => !(x.getD i false)) ls.length b false
  else if op = 4 then settleS (fun i _ => x.getD i false && y.getD i false) ls.length b false
  else if op = 5 then settleS (fun i _ => x.getD i false || y.getD i false) ls.length b false
  else if op = 6 then settleS (fun i _ => x.getD (nextS ls.length b i) false) ls.length b false
  else if op = 7 then settleS (fun i nx => y.getD i false || x.getD i false && nx) ls.length b false
  else if op = 8 then settleS (fun i nx => y.getD i false && (x.getD i false || nx)) ls.length b true
  else settleS (fun _ _ => true) ls.length b false
mutual
def rowS (ls : List Int) (b : Nat) : S24 → List Bool
  | ⟨op, m, kids⟩ => rowOp ls b op m ((rowL ls b kids).getD 0 []) ((rowL ls b kids).getD 1 [])
def rowL (ls : List Int) (b : Nat) : List S24 → List (List Bool)
  | [] => []
  | k :: r => rowS ls b k :: rowL ls b r
end
theorem rowL_get (ls : List Int) (b : Nat) : ∀ (l : List S24) (i : Nat) (h : i < l.length), (rowL ls b l).getD i [] = rowS ls b (l[i]'h)
  | k :: r, 0, h => by simp [rowL]
  | k :: r, i + 1, h => by
    have := rowL_get ls b r i (by simpa using h)
    simpa [rowL] using this
theorem len_settle (f : Nat → Bool → Bool) (n b : Nat) (first : Bool) : (settleS f n b first).length = n := by simp [settleS, len_pass]
theorem len_rowOp (ls : List Int) (b : Nat) (op m : Int) (x y : List Bool) : (rowOp ls b op m x y).length = ls.length := by
  unfold rowOp
  repeat' split
  all_goals exact len_settle _ _ _ _
theorem len_row (ls : List Int) (b : Nat) (s : S24) : (rowS ls b s).length = ls.length := by
  obtain ⟨op, m, kids⟩ := s
  rw [rowS]
  exact len_rowOp _ _ _ _ _ _
theorem sound_mem : ∀ {l : List S24}, soundL l = true → ∀ (i : Nat) (h : i < l.length), soundS (l[i]'h) = true
  | k :: r, h, 0, _ => by simp only [soundL, Bool.and_eq_true] at h; exact h.1
  | k :: r, h, i + 1, hi => by simp only [soundL, Bool.and_eq_true] at h; exact sound_mem h.2 i (by simpa using hi)
theorem sound_kid {s : S24} (h : soundS s = true) (i : Nat) (hi : i < s.f2.length) : soundS (s.f2[i]'hi) = true := by
  obtain ⟨op, m, kids⟩ := s
  simp only [soundS, Bool.and_eq_true] at h
  exact sound_mem h.2.2.2.2 i hi
theorem sound_parts {s : S24} (h : soundS s = true) : 0 ≤ kidsS s.f0 ∧ (s.f2.length : Int) = kidsS s.f0 ∧ 0 ≤ s.f1 ∧ s.f1 ≤ mostS s.f0 := by
  obtain ⟨op, m, kids⟩ := s
  simp only [soundS, Bool.and_eq_true, decide_eq_true_eq] at h
  exact ⟨h.1, h.2.1, h.2.2.1, h.2.2.2.1⟩
theorem row_eq (ls : List Int) (b : Nat) (s : S24) : rowS ls b s = rowOp ls b s.f0 s.f1 ((rowL ls b s.f2).getD 0 []) ((rowL ls b s.f2).getD 1 []) := by cases s; rfl
theorem op_cases {op : Int} (h : 0 ≤ kidsS op) : op = 1 ∨ op = 2 ∨ op = 3 ∨ op = 4 ∨ op = 5 ∨ op = 6 ∨ op = 7 ∨ op = 8 := by
  unfold kidsS at h
  split at h
  · omega
  · split at h
    · omega
    · split at h
      · omega
      · omega
def RowAt (ls : List Int) (b : Nat) (s : S24) : Prop := ∀ (rb : Nat) (A : Option Addr) (c n : Nat) (A2 : Option Addr) (cp : Nat) (w : World), ls.length = n → IsRower w rb A n c b → Kd.C (Kd.int .u32) w A n ls → 0 < n → n < 1000000000 → b < n → Kd.C k24 w A2 s.f2.length s.f2 → s.f2.length ≤ cp → soundS s = true →
  Calls Try.prog 42 #[.pointer (some ⟨rb, 0, none⟩), .agg #[.int .i64 s.f0, .int .i64 s.f1, .slice A2 s.f2.length cp]] w fun e w' => ∃ g, e = .returned (.slice (some ⟨g, 0, none⟩) n n) ∧ w.heap.size ≤ g ∧ BRow w' g (rowS ls b s) ∧ Below w.heap.size w w'
/-- The four boxes of a call of row. -/
def rowBoxes (w : World) (rb : Nat) (op m : Int) (A2 : Option Addr) (len cp : Nat) : World :=
  (((w.alloc (.cells #[.pointer (some ⟨rb, 0, none⟩)] 70)).alloc (.cells #[.int .i64 op, .int .i64 m, .slice A2 len cp] 24)).alloc (.cells #[.slice none 0 0] 45)).alloc (.cells #[.slice none 0 0] 45)
structure RowSt (w wx : World) (rb : Nat) (op m : Int) (A2 : Option Addr) (len cp : Nat) (va vb : Value) : Prop where
  c0 : Cell1 wx w.heap.size (.pointer (some ⟨rb, 0, none⟩)) 70
  c1 : wx.heap[w.heap.size + 1]? = some (.cells #[.int .i64 op, .int .i64 m, .slice A2 len cp] 24 (0, 0))
  c2 : Cell1 wx (w.heap.size + 1 + 1) va 45
  c3 : Cell1 wx (w.heap.size + 1 + 1 + 1) vb 45
  bl : Below w.heap.size w wx
  sz : w.heap.size + 1 + 1 + 1 + 1 ≤ wx.heap.size
theorem RowSt.start (w : World) (rb : Nat) (op m : Int) (A2 : Option Addr) (len cp : Nat) : RowSt w (rowBoxes w rb op m A2 len cp) rb op m A2 len cp (.slice none 0 0) (.slice none 0 0) := by
  refine ⟨?_, ?_, ?_, ?_, ?_, ?_⟩
  · exact blk_alloc (blk_alloc (blk_alloc (heap_alloc_new w _) _) _) _
  · refine blk_alloc (blk_alloc ?_ _) _
    have := heap_alloc_new (w.alloc (.cells #[.pointer (some ⟨rb, 0, none⟩)] 70)) (.cells #[.int .i64 op, .int .i64 m, .slice A2 len cp] 24)
    simpa using this
  · refine blk_alloc ?_ _
    have := heap_alloc_new ((w.alloc (.cells #[.pointer (some ⟨rb, 0, none⟩)] 70)).alloc (.cells #[.int .i64 op, .int .i64 m, .slice A2 len cp] 24)) (.cells #[.slice none 0 0] 45)
    simpa using this
  · have := heap_alloc_new (((w.alloc (.cells #[.pointer (some ⟨rb, 0, none⟩)] 70)).alloc (.cells #[.int .i64 op, .int .i64 m, .slice A2 len cp] 24)).alloc (.cells #[.slice none 0 0] 45)) (.cells #[.slice none 0 0] 45)
    simpa [Cell1, rowBoxes] using this
  · exact below_alloc (below_alloc (below_alloc (below_alloc (Below.refl _ _) _) _) _) _
  · simp [rowBoxes]
/-- Behind a call that keeps all blocks. -/
theorem RowSt.next {w wx w' : World} {rb : Nat} {op m : Int} {A2 : Option Addr} {len cp : Nat} {va vb : Value} (h : RowSt w wx rb op m A2 len cp va vb) (hB : Below wx.heap.size wx w') : RowSt w w' rb op m A2 len cp va vb :=
  ⟨(hB.block _ (blk_lt h.c0)).trans h.c0, (hB.block _ (blk_lt h.c1)).trans h.c1, (hB.block _ (blk_lt h.c2)).trans h.c2, (hB.block _ (blk_lt h.c3)).trans h.c3, h.bl.trans (hB.mono h.bl.size), Nat.le_trans h.sz hB.size⟩
theorem RowSt.drewN {w wx : World} {rb : Nat} {op m : Int} {A2 : Option Addr} {len cp : Nat} {va vb : Value} (h : RowSt w wx rb op m A2 len cp va vb) (k : Nat) : RowSt w (wx.drewN k) rb op m A2 len cp va vb :=
  h.next (pw_below_drewN (Below.refl _ _) k)
theorem RowSt.setA {w wx : World} {rb : Nat} {op m : Int} {A2 : Option Addr} {len cp : Nat} {va vb : Value} (h : RowSt w wx rb op m A2 len cp va vb) (v : Value) : RowSt w (wx.setCell ⟨w.heap.size + 1 + 1, 0, none⟩ v) rb op m A2 len cp v vb :=
  ⟨blk_far h.c0 (by first | (simp; done) | (simp; omega) | omega) v, blk_far h.c1 (by first | (simp; done) | (simp; omega) | omega) v, (blk_set h.c2 0 v).trans (by simp), blk_far h.c3 (by first | (simp; done) | (simp; omega) | omega) v, h.bl.setCell (by first | (simp; done) | (simp; omega) | omega) v, by simpa using h.sz⟩
theorem RowSt.setB {w wx : World} {rb : Nat} {op m : Int} {A2 : Option Addr} {len cp : Nat} {va vb : Value} (h : RowSt w wx rb op m A2 len cp va vb) (v : Value) : RowSt w (wx.setCell ⟨w.heap.size + 1 + 1 + 1, 0, none⟩ v) rb op m A2 len cp va v :=
  ⟨blk_far h.c0 (by first | (simp; done) | (simp; omega) | omega) v, blk_far h.c1 (by first | (simp; done) | (simp; omega) | omega) v, blk_far h.c2 (by first | (simp; done) | (simp; omega) | omega) v, (blk_set h.c3 0 v).trans (by simp), h.bl.setCell (by first | (simp; done) | (simp; omega) | omega) v, by simpa using h.sz⟩
/-- A kid's row lies there. -/
def RowIs (w wx : World) (n : Nat) (v : Value) (x : List Bool) : Prop := ∃ ga, v = .slice (some ⟨ga, 0, none⟩) n n ∧ w.heap.size + 1 + 1 + 1 + 1 ≤ ga ∧ BRow wx ga x ∧ x.length = n
theorem RowIs.next {w wx w' : World} {n : Nat} {v : Value} {x : List Bool} (h : RowIs w wx n v x) (hB : Below wx.heap.size wx w') : RowIs w w' n v x := by
  obtain ⟨ga, h1, h2, h3, h4⟩ := h
  exact ⟨ga, h1, h2, (hB.block _ (blk_lt h3)).trans h3, h4⟩
theorem RowIs.set_ {w wx : World} {n : Nat} {v : Value} {x : List Bool} (h : RowIs w wx n v x) {p : Addr} (hp : p.block < w.heap.size + 1 + 1 + 1 + 1) (u : Value) : RowIs w (wx.setCell p u) n v x := by
  obtain ⟨ga, h1, h2, h3, h4⟩ := h
  exact ⟨ga, h1, h2, blk_far h3 (by omega) u, h4⟩
set_option maxHeartbeats 8000000 in
set_option maxRecDepth 100000 in
theorem row_calls (ls : List Int) (b : Nat) (s : S24) (ih : ∀ k ∈ s.f2, RowAt ls b k) : RowAt ls b s := by
  intro rb A c n A2 cp w hn hR hC h0 h1 hb hk hc hs
  have huF := Try.underlying24
  have huL := Try.underlying22
  have huR := Try.underlying73
  have hus := Try.underlying45
  have hmf : ∀ fn first cap w, (Instr.makeFunc fn first cap).run Try.prog w = .ok (.func fn first cap) w := fun _ _ _ _ => rfl
  have hst := RowSt.start w rb s.f0 s.f1 A2 s.f2.length cp
  have HR := Aside0.mk hR
  have HK := Aside0.mk hk
  have HC := Aside0.mk hC
  have HS := Aside0.mk hs
  have HIH := Aside0.mk (fun (i : Nat) (hi : i < s.f2.length) W (hB : Below w.heap.size w W) => fun A3 c3 hk3 hc3 => ih (s.f2[i]'hi) (List.getElem_mem hi) rb A c n A3 c3 W hn ((hB.block _ (blk_lt hR)).trans hR) (Kd.C_below hC hB) h0 h1 hb hk3 hc3 (sound_kid hs i hi))
  have hlen := Kd.C_max hk
  clear hR hC hk hs ih
  go_enter Try.func42, Try.ntmps42
  go_upto_if 10 with fail
  change Code.wp _ _ _ _ (rowBoxes w rb s.f0 s.f1 A2 s.f2.length cp)
  generalize rowBoxes w rb s.f0 s.f1 A2 s.f2.length cp = W4 at *
  have HST := Aside0.mk hst
  go_cut [] (fun wx => ∃ va x, Aside0 (RowSt w wx rb s.f0 s.f1 A2 s.f2.length cp va (.slice none 0 0)) ∧ Aside0 (0 < s.f2.length → RowIs w wx n va x ∧ x = (rowL ls b s.f2).getD 0 []))
  case first =>
    by_cases hl : 0 < s.f2.length
    · obtain ⟨ad, A3, c3, hA, hx0, hx1, hx2, hl2, hk2⟩ := kid_at HK.out hst.bl 0 hl hl
      subst hA
      have e0 : ad.add (0 * 3) = ad := by cases ad; simp [Addr.add]
      rw [e0] at hx0 hx1 hx2
      have HK2 := Aside0.mk (Kd.C_below hk2 hst.bl)
      have HL2 := Aside0.mk hl2
      have xp0 := cell1 hst.c0
      have xp1 : W4.cell? ⟨w.heap.size + 1, 2, none⟩ = some (.slice (some ad) s.f2.length cp) := (blk_cell hst.c1 2).trans rfl
      have fp2 := blk_frozen hst.c2 0
      have xp2 := cell1 hst.c2
      clear hst hk2 hl2
      go_upto_region 3 with fail
      have HCALL := Aside0.mk (HIH.out 0 hl W4.drew (below_drew1 HST.out.bl) A3 c3 (Kd.C_drew HK2.out) HL2.out)
      have HD := Aside0.mk (HST.out.next (below_drew1 (Below.refl _ _)))
      have HDZ := Aside0.mk HST.out.sz
      go_region_with (go_at_call 42; refine HCALL.out.mono ?_; rintro e w5 ⟨g, rfl, hg, hG, hB⟩; have HS5 := Aside0.mk (HD.out.next hB); have HG := Aside0.mk hG; have HGG := Aside0.mk (show W4.heap.size ≤ g from hg); have xq2 := cell1 HS5.out.c2; have fq2 := blk_frozen HS5.out.c2 0; clear hG hB hg)
      all_goals (
        go_wp2_with fail
        go_meet
        exact ⟨_, rowS ls b (s.f2[0]'hl), ⟨HS5.out.setA _⟩, ⟨fun _ => ⟨RowIs.set_ ⟨g, rfl, Nat.le_trans HDZ.out HGG.out, HG.out, (len_row _ _ _).trans hn⟩ (by simp) _, (rowL_get ls b s.f2 0 hl).symm⟩⟩⟩)
    · have hd : decide (0 < s.f2.length) = false := decide_eq_false hl
      go_wp2
      go_meet
      exact ⟨_, [], HST, ⟨fun h => absurd h hl⟩⟩
  case rest =>
    obtain ⟨va, x, HST2, HX⟩ := hcut
    have x1l : wc.cell? ⟨w.heap.size + 1, 2, none⟩ = some (.slice A2 s.f2.length cp) := (blk_cell HST2.out.c1 2).trans rfl
    clear hst HST
    go_upto_if 20 with fail
    go_cut [] (fun wx => ∃ vb y, Aside0 (RowSt w wx rb s.f0 s.f1 A2 s.f2.length cp va vb) ∧ Aside0 (0 < s.f2.length → RowIs w wx n va x ∧ x = (rowL ls b s.f2).getD 0 []) ∧ Aside0 (1 < s.f2.length → RowIs w wx n vb y ∧ y = (rowL ls b s.f2).getD 1 []))
    case first =>
      by_cases hl : 1 < s.f2.length
      · obtain ⟨ad, A3, c3, hA, hx0, hx1, hx2, hl2, hk2⟩ := kid_at HK.out HST2.out.bl 1 hl hl
        subst hA
        simp only [Nat.one_mul] at hx0 hx1 hx2
        have hx1a : wc.cell? ⟨ad.block, ad.off + 3 + 1, none⟩ = some (.int .i64 (s.f2[1]'hl).f1) := hx1
        have hx2a : wc.cell? ⟨ad.block, ad.off + 3 + 2, none⟩ = some (.slice A3 (s.f2[1]'hl).f2.length c3) := hx2
        have hx0a : wc.cell? ⟨ad.block, ad.off + 3, none⟩ = some (.int .i64 (s.f2[1]'hl).f0) := hx0
        have HK2 := Aside0.mk (Kd.C_below hk2 HST2.out.bl)
        have HL2 := Aside0.mk hl2
        have xp0 := cell1 HST2.out.c0
        have fp3 := blk_frozen HST2.out.c3 0
        have xp3 := cell1 HST2.out.c3
        clear hk2 hl2
        have HCALL := Aside0.mk (HIH.out 1 hl wc.drew (below_drew1 HST2.out.bl) A3 c3 (Kd.C_drew HK2.out) HL2.out)
        have HD := Aside0.mk (HST2.out.next (below_drew1 (Below.refl _ _)))
        have HDZ := Aside0.mk HST2.out.sz
        go_upto_region 5 with fail
        go_region_with (go_at_call 42; refine HCALL.out.mono ?_; rintro e w5 ⟨g, rfl, hg, hG, hB⟩; have HS5 := Aside0.mk (HD.out.next hB); have HX5 := Aside0.mk (fun h => And.intro ((HX.out h).1.next ((below_drew1 (Below.refl _ _)).trans hB)) (HX.out h).2); have HG := Aside0.mk hG; have HGG := Aside0.mk (show wc.heap.size ≤ g from hg); have xq2 := cell1 HS5.out.c3; have fq2 := blk_frozen HS5.out.c3 0; clear hG hB hg)
        all_goals (
          go_wp2_with fail
          go_meet
          exact ⟨_, rowS ls b (s.f2[1]'hl), ⟨HS5.out.setB _⟩, ⟨fun h => ⟨(HX5.out h).1.set_ (by simp) _, (HX5.out h).2⟩⟩, ⟨fun _ => ⟨RowIs.set_ ⟨g, rfl, Nat.le_trans HDZ.out HGG.out, HG.out, (len_row _ _ _).trans hn⟩ (by simp) _, (rowL_get ls b s.f2 1 hl).symm⟩⟩⟩)
      · have hd : decide (1 < s.f2.length) = false := decide_eq_false hl
        go_wp2
        go_meet
        exact ⟨_, [], HST2, HX, ⟨fun h => absurd h hl⟩⟩
    case rest =>
      obtain ⟨vb, y, HST3, HXX, HYY⟩ := hcut
      have hpart := sound_parts HS.out
      have hRw : IsRower wc rb A n c b := (HST3.out.bl.block _ (blk_lt HR.out)).trans HR.out
      have hCw := Kd.C_below HC.out HST3.out.bl
      have hc1 := HST3.out.c1
      have x00 := cell1 HST3.out.c0
      have x0 : wc.cell? ⟨w.heap.size + 1, 0, none⟩ = some (.int .i64 s.f0) := (blk_cell HST3.out.c1 0).trans rfl
      clear HST2 HX x1l HIH HK
      rcases op_cases hpart.1 with hop | hop | hop | hop | hop | hop | hop | hop
      · -- op 1
        have hkk := hpart.2.1
        have hmm := hpart.2.2.2
        rw [hop] at hkk hmm x0
        have hrow : rowS ls b s = settleS (fun _ _ => true) n b false := by
          rw [row_eq, hop]
          unfold rowOp
          rw [if_neg (by decide), if_neg (by decide), if_neg (by decide), if_neg (by decide), if_neg (by decide), if_neg (by decide), if_neg (by decide)]
          rw [hn]
        have HE := Aside0.mk (each_calls 65 #[] (enters_f Try.func65 (by kernel_rfl) rfl) (fun _ => true) rb A n c b wc hRw h0 h1 hb (fun W hW i hi => row8_calls i W))
        have HO := Aside0.mk hrow
        clear hrow
        go_wp2_with (go_at_call 55; refine HE.out.mono ?_; rintro e w6 ⟨g, rfl, hg, hG, hB⟩; have HG := Aside0.mk hG; have HB := Aside0.mk hB; have HGS := Aside0.mk hg; clear hG hB hg)
        go_ret
        exact ⟨g, rfl, Nat.le_trans HST3.out.bl.size HGS.out, by rw [HO.out]; exact HG.out, HST3.out.bl.trans (HB.out.mono HST3.out.bl.size)⟩
      · -- op 2
        have hkk := hpart.2.1
        have hmm := hpart.2.2.2
        rw [hop] at hkk hmm x0
        have hrow : rowS ls b s = settleS (fun i _ => bitS (ls.getD i 0) s.f1) n b false := by
          rw [row_eq, hop]
          unfold rowOp
          rw [if_pos rfl]
          rw [hn]
        have hm2 : mostS 2 = 19 := by decide
        have HE := Aside0.mk (each_calls 56 #[.pointer (some ⟨w.heap.size, 0, none⟩), .pointer (some ⟨(w.heap.size + 1), 0, none⟩)] (enters_f Try.func56 (by kernel_rfl) rfl) (fun i => bitS (ls.getD i 0) s.f1) rb A n c b wc hRw h0 h1 hb (fun W hW i hi => row1_calls w.heap.size (w.heap.size + 1) rb n c b i A A2 ls s.f0 s.f1 s.f2.length cp W ((hW.block _ (blk_lt HST3.out.c0)).trans HST3.out.c0) ((hW.block _ (blk_lt hRw)).trans hRw) (Kd.C_below hCw hW) ((hW.block _ (blk_lt hc1)).trans hc1) hi hpart.2.2.1 (by omega)))
        have HO := Aside0.mk hrow
        clear hrow
        go_wp2_with (go_at_call 55; refine HE.out.mono ?_; rintro e w6 ⟨g, rfl, hg, hG, hB⟩; have HG := Aside0.mk hG; have HB := Aside0.mk hB; have HGS := Aside0.mk hg; clear hG hB hg)
        go_ret
        exact ⟨g, rfl, Nat.le_trans HST3.out.bl.size HGS.out, by rw [HO.out]; exact HG.out, HST3.out.bl.trans (HB.out.mono HST3.out.bl.size)⟩
      · -- op 3
        have hkk := hpart.2.1
        have hmm := hpart.2.2.2
        rw [hop] at hkk hmm x0
        have hrow : rowS ls b s = settleS (fun i _ => !(((rowL ls b s.f2).getD 0 []).getD i false)) n b false := by
          rw [row_eq, hop]
          unfold rowOp
          rw [if_neg (by decide), if_pos rfl]
          rw [hn]
        obtain ⟨⟨ga, rfl, hga, hA, hAl⟩, hxe⟩ := HXX.out (by have h9 : kidsS 3 = 1 := (by decide); omega)
        rw [← hxe] at hrow
        have HE := Aside0.mk (each_calls 57 #[.pointer (some ⟨(w.heap.size + 1 + 1), 0, none⟩)] (enters_f Try.func57 (by kernel_rfl) rfl) (fun i => !(x.getD i false)) rb A n c b wc hRw h0 h1 hb (fun W hW i hi => row2_calls (w.heap.size + 1 + 1) ga n i x W ((hW.block _ (blk_lt HST3.out.c2)).trans HST3.out.c2) ((hW.block _ (blk_lt hA)).trans hA) hAl hi))
        have HO := Aside0.mk hrow
        clear hrow
        go_wp2_with (go_at_call 55; refine HE.out.mono ?_; rintro e w6 ⟨g, rfl, hg, hG, hB⟩; have HG := Aside0.mk hG; have HB := Aside0.mk hB; have HGS := Aside0.mk hg; clear hG hB hg)
        go_ret
        exact ⟨g, rfl, Nat.le_trans HST3.out.bl.size HGS.out, by rw [HO.out]; exact HG.out, HST3.out.bl.trans (HB.out.mono HST3.out.bl.size)⟩
      · -- op 4
        have hkk := hpart.2.1
        have hmm := hpart.2.2.2
        rw [hop] at hkk hmm x0
        have hrow : rowS ls b s = settleS (fun i _ => ((rowL ls b s.f2).getD 0 []).getD i false && ((rowL ls b s.f2).getD 1 []).getD i false) n b false := by
          rw [row_eq, hop]
          unfold rowOp
          rw [if_neg (by decide), if_neg (by decide), if_pos rfl]
          rw [hn]
        obtain ⟨⟨ga, rfl, hga, hA, hAl⟩, hxe⟩ := HXX.out (by have h9 : kidsS 4 = 2 := (by decide); omega)
        rw [← hxe] at hrow
        obtain ⟨⟨gb, rfl, hgb, hBB, hBl⟩, hye⟩ := HYY.out (by have h9 : kidsS 4 = 2 := (by decide); omega)
        rw [← hye] at hrow
        have HE := Aside0.mk (each_calls 58 #[.pointer (some ⟨(w.heap.size + 1 + 1), 0, none⟩), .pointer (some ⟨(w.heap.size + 1 + 1 + 1), 0, none⟩)] (enters_f Try.func58 (by kernel_rfl) rfl) (fun i => x.getD i false && y.getD i false) rb A n c b wc hRw h0 h1 hb (fun W hW i hi => row3_calls (w.heap.size + 1 + 1) (w.heap.size + 1 + 1 + 1) ga gb n i x y W ((hW.block _ (blk_lt HST3.out.c2)).trans HST3.out.c2) ((hW.block _ (blk_lt hA)).trans hA) hAl ((hW.block _ (blk_lt HST3.out.c3)).trans HST3.out.c3) ((hW.block _ (blk_lt hBB)).trans hBB) hBl hi))
        have HO := Aside0.mk hrow
        clear hrow
        go_wp2_with (go_at_call 55; refine HE.out.mono ?_; rintro e w6 ⟨g, rfl, hg, hG, hB⟩; have HG := Aside0.mk hG; have HB := Aside0.mk hB; have HGS := Aside0.mk hg; clear hG hB hg)
        go_ret
        exact ⟨g, rfl, Nat.le_trans HST3.out.bl.size HGS.out, by rw [HO.out]; exact HG.out, HST3.out.bl.trans (HB.out.mono HST3.out.bl.size)⟩
      · -- op 5
        have hkk := hpart.2.1
        have hmm := hpart.2.2.2
        rw [hop] at hkk hmm x0
        have hrow : rowS ls b s = settleS (fun i _ => ((rowL ls b s.f2).getD 0 []).getD i false || ((rowL ls b s.f2).getD 1 []).getD i false) n b false := by
          rw [row_eq, hop]
          unfold rowOp
          rw [if_neg (by decide), if_neg (by decide), if_neg (by decide), if_pos rfl]
          rw [hn]
        obtain ⟨⟨ga, rfl, hga, hA, hAl⟩, hxe⟩ := HXX.out (by have h9 : kidsS 5 = 2 := (by decide); omega)
        rw [← hxe] at hrow
        obtain ⟨⟨gb, rfl, hgb, hBB, hBl⟩, hye⟩ := HYY.out (by have h9 : kidsS 5 = 2 := (by decide); omega)
        rw [← hye] at hrow
        have HE := Aside0.mk (each_calls 59 #[.pointer (some ⟨(w.heap.size + 1 + 1), 0, none⟩), .pointer (some ⟨(w.heap.size + 1 + 1 + 1), 0, none⟩)] (enters_f Try.func59 (by kernel_rfl) rfl) (fun i => x.getD i false || y.getD i false) rb A n c b wc hRw h0 h1 hb (fun W hW i hi => row4_calls (w.heap.size + 1 + 1) (w.heap.size + 1 + 1 + 1) ga gb n i x y W ((hW.block _ (blk_lt HST3.out.c2)).trans HST3.out.c2) ((hW.block _ (blk_lt hA)).trans hA) hAl ((hW.block _ (blk_lt HST3.out.c3)).trans HST3.out.c3) ((hW.block _ (blk_lt hBB)).trans hBB) hBl hi))
        have HO := Aside0.mk hrow
        clear hrow
        go_wp2_with (go_at_call 55; refine HE.out.mono ?_; rintro e w6 ⟨g, rfl, hg, hG, hB⟩; have HG := Aside0.mk hG; have HB := Aside0.mk hB; have HGS := Aside0.mk hg; clear hG hB hg)
        go_ret
        exact ⟨g, rfl, Nat.le_trans HST3.out.bl.size HGS.out, by rw [HO.out]; exact HG.out, HST3.out.bl.trans (HB.out.mono HST3.out.bl.size)⟩
      · -- op 6
        have hkk := hpart.2.1
        have hmm := hpart.2.2.2
        rw [hop] at hkk hmm x0
        have hrow : rowS ls b s = settleS (fun i _ => ((rowL ls b s.f2).getD 0 []).getD (nextS n b i) false) n b false := by
          rw [row_eq, hop]
          unfold rowOp
          rw [if_neg (by decide), if_neg (by decide), if_neg (by decide), if_neg (by decide), if_pos rfl]
          rw [hn]
        obtain ⟨⟨ga, rfl, hga, hA, hAl⟩, hxe⟩ := HXX.out (by have h9 : kidsS 6 = 1 := (by decide); omega)
        rw [← hxe] at hrow
        have HE := Aside0.mk (each_calls 60 #[.pointer (some ⟨(w.heap.size + 1 + 1), 0, none⟩), .pointer (some ⟨w.heap.size, 0, none⟩)] (enters_f Try.func60 (by kernel_rfl) rfl) (fun i => x.getD (nextS n b i) false) rb A n c b wc hRw h0 h1 hb (fun W hW i hi => row5_calls (w.heap.size + 1 + 1) w.heap.size ga rb n c b i A x W ((hW.block _ (blk_lt HST3.out.c2)).trans HST3.out.c2) ((hW.block _ (blk_lt hA)).trans hA) hAl ((hW.block _ (blk_lt HST3.out.c0)).trans HST3.out.c0) ((hW.block _ (blk_lt hRw)).trans hRw) hb hi h1))
        have HO := Aside0.mk hrow
        clear hrow
        go_wp2_with (go_at_call 55; refine HE.out.mono ?_; rintro e w6 ⟨g, rfl, hg, hG, hB⟩; have HG := Aside0.mk hG; have HB := Aside0.mk hB; have HGS := Aside0.mk hg; clear hG hB hg)
        go_ret
        exact ⟨g, rfl, Nat.le_trans HST3.out.bl.size HGS.out, by rw [HO.out]; exact HG.out, HST3.out.bl.trans (HB.out.mono HST3.out.bl.size)⟩
      · -- op 7
        have hkk := hpart.2.1
        have hmm := hpart.2.2.2
        rw [hop] at hkk hmm x0
        have hrow : rowS ls b s = settleS (fun i nx => ((rowL ls b s.f2).getD 1 []).getD i false || ((rowL ls b s.f2).getD 0 []).getD i false && nx) n b false := by
          rw [row_eq, hop]
          unfold rowOp
          rw [if_neg (by decide), if_neg (by decide), if_neg (by decide), if_neg (by decide), if_neg (by decide), if_pos rfl]
          rw [hn]
        obtain ⟨⟨ga, rfl, hga, hA, hAl⟩, hxe⟩ := HXX.out (by have h9 : kidsS 7 = 2 := (by decide); omega)
        rw [← hxe] at hrow
        obtain ⟨⟨gb, rfl, hgb, hBB, hBl⟩, hye⟩ := HYY.out (by have h9 : kidsS 7 = 2 := (by decide); omega)
        rw [← hye] at hrow
        have HE := Aside0.mk (settle_calls 63 #[.pointer (some ⟨(w.heap.size + 1 + 1 + 1), 0, none⟩), .pointer (some ⟨(w.heap.size + 1 + 1), 0, none⟩)] (enters_f Try.func63 (by kernel_rfl) rfl) (fun i nx => y.getD i false || x.getD i false && nx) rb A n c b false wc hRw h0 h1 hb (fun W hW i nx hi => row6_calls (w.heap.size + 1 + 1) (w.heap.size + 1 + 1 + 1) ga gb n i nx x y W ((hW.block _ (blk_lt HST3.out.c2)).trans HST3.out.c2) ((hW.block _ (blk_lt hA)).trans hA) hAl ((hW.block _ (blk_lt HST3.out.c3)).trans HST3.out.c3) ((hW.block _ (blk_lt hBB)).trans hBB) hBl hi))
        have HO := Aside0.mk hrow
        clear hrow
        go_wp2_with (go_at_call 62; refine HE.out.mono ?_; rintro e w6 ⟨g, rfl, hg, hG, hB⟩; have HG := Aside0.mk hG; have HB := Aside0.mk hB; have HGS := Aside0.mk hg; clear hG hB hg)
        go_ret
        exact ⟨g, rfl, Nat.le_trans HST3.out.bl.size HGS.out, by rw [HO.out]; exact HG.out, HST3.out.bl.trans (HB.out.mono HST3.out.bl.size)⟩
      · -- op 8
        have hkk := hpart.2.1
        have hmm := hpart.2.2.2
        rw [hop] at hkk hmm x0
        have hrow : rowS ls b s = settleS (fun i nx => ((rowL ls b s.f2).getD 1 []).getD i false && (((rowL ls b s.f2).getD 0 []).getD i false || nx)) n b true := by
          rw [row_eq, hop]
          unfold rowOp
          rw [if_neg (by decide), if_neg (by decide), if_neg (by decide), if_neg (by decide), if_neg (by decide), if_neg (by decide), if_pos rfl]
          rw [hn]
        obtain ⟨⟨ga, rfl, hga, hA, hAl⟩, hxe⟩ := HXX.out (by have h9 : kidsS 8 = 2 := (by decide); omega)
        rw [← hxe] at hrow
        obtain ⟨⟨gb, rfl, hgb, hBB, hBl⟩, hye⟩ := HYY.out (by have h9 : kidsS 8 = 2 := (by decide); omega)
        rw [← hye] at hrow
        have HE := Aside0.mk (settle_calls 64 #[.pointer (some ⟨(w.heap.size + 1 + 1 + 1), 0, none⟩), .pointer (some ⟨(w.heap.size + 1 + 1), 0, none⟩)] (enters_f Try.func64 (by kernel_rfl) rfl) (fun i nx => y.getD i false && (x.getD i false || nx)) rb A n c b true wc hRw h0 h1 hb (fun W hW i nx hi => row7_calls (w.heap.size + 1 + 1) (w.heap.size + 1 + 1 + 1) ga gb n i nx x y W ((hW.block _ (blk_lt HST3.out.c2)).trans HST3.out.c2) ((hW.block _ (blk_lt hA)).trans hA) hAl ((hW.block _ (blk_lt HST3.out.c3)).trans HST3.out.c3) ((hW.block _ (blk_lt hBB)).trans hBB) hBl hi))
        have HO := Aside0.mk hrow
        clear hrow
        go_wp2_with (go_at_call 62; refine HE.out.mono ?_; rintro e w6 ⟨g, rfl, hg, hG, hB⟩; have HG := Aside0.mk hG; have HB := Aside0.mk hB; have HGS := Aside0.mk hg; clear hG hB hg)
        go_ret
        exact ⟨g, rfl, Nat.le_trans HST3.out.bl.size HGS.out, by rw [HO.out]; exact HG.out, HST3.out.bl.trans (HB.out.mono HST3.out.bl.size)⟩
end Go.Proofs.Ytegaicoddnmemaa.X

namespace Go.Proofs.Ytegaicoddnmemaa.X
open Go.RowKit Go.Proofs.YtegaicoddnmemaaW.PrintWords Go.Proofs.YtegaicoddnmemaaW.PrintLast Go.Proofs.YtegaicoddnmemaaW.PrintMore
open Go.Proofs.Ytegaicoddnmemaa.P Go.Proofs.Ytegaicoddnmemaa.Evx
set_option linter.unusedSimpArgs false
set_option linter.unusedVariables false
def rdr_value.T4 : Bool × List (List Nat × List Nat) := (true, [([], []), ([], []), ([], []), ([2], [2]), ([3], [3]), ([4], [4]), ([], []), ([5, 6], [5, 6]), ([], []), ([8], [8]), ([9], [9]), ([10], [10]), ([], []), ([11, 12, 7], [11, 12]), ([0, 0, 2, 3, 4, 5, 6, 7, 11, 13], [0]), ([14, 0, 2, 3, 4, 5, 6, 7, 11, 13], [14]), ([15, 7, 13, 0, 2, 3, 4, 5, 6, 7, 11, 13], [7, 15]), ([1, 0, 1, 2, 3, 4, 5, 6, 7, 8, 9, 10, 11, 12, 13, 14, 15, 16], [1]), ([17, 0, 1, 2, 3, 4, 5, 6, 7, 8, 9, 10, 11, 12, 13, 14, 15, 16], [17]), ([18, 13, 16, 0, 1, 2, 3, 4, 5, 6, 7, 8, 9, 10, 11, 12, 13, 14, 15, 16], [13, 18])])
def rdr_value.B4 : List Nat := [0, 0, 0, 4, 12, 28, 0, 124, 0, 256, 768, 1792, 0, 8188, 16381, 32765, 65533, 131071, 262143, 524287]
theorem rdr_value.tab4 : rtab .any (opsOf Try.f52 4) = rdr_value.T4 := by kernel_rfl
theorem rdr_value.bits4 : waitsOk rdr_value.T4.2 rdr_value.B4 = true := by kernel_rfl
def rdr_value.T25 : Bool × List (List Nat × List Nat) := (true, [([], []), ([0], [0]), ([1], [1]), ([2], [2]), ([], []), ([], []), ([5], [5]), ([6], [6]), ([7], [7]), ([], []), ([], []), ([3, 4, 0, 1, 2, 3, 4, 8, 10], [3, 4]), ([11, 10, 0, 1, 2, 3, 4, 8, 10], [10, 11]), ([8, 9, 0, 1, 2, 3, 4, 5, 6, 7, 8, 9, 10, 11, 12], [8, 9]), ([13, 12, 0, 1, 2, 3, 4, 5, 6, 7, 8, 9, 10, 11, 12], [13])])
def rdr_value.B25 : List Nat := [0, 1, 3, 7, 0, 0, 32, 96, 224, 0, 0, 1535, 3583, 8191, 16383]
theorem rdr_value.tab25 : rtab .any (opsOf Try.f52 25) = rdr_value.T25 := by kernel_rfl
theorem rdr_value.bits25 : waitsOk rdr_value.T25.2 rdr_value.B25 = true := by kernel_rfl
def rdr_value.T29 : Bool × List (List Nat × List Nat) := (true, [([], []), ([0], [0]), ([1], [1]), ([2], [2]), ([], []), ([], []), ([5], [5]), ([6], [6]), ([7], [7]), ([], []), ([], []), ([], []), ([11], [11]), ([12], [12]), ([13], [13]), ([13, 14], [13, 14]), ([3, 4, 0, 1, 2, 3, 4, 8, 10], [3, 4]), ([16, 10, 13, 0, 1, 2, 3, 4, 8, 10], [10, 16]), ([8, 9, 0, 1, 2, 3, 4, 5, 6, 7, 8, 9, 10, 11, 12, 13, 14, 15, 16, 17], [8, 9]), ([18, 15, 17, 0, 1, 2, 3, 4, 5, 6, 7, 8, 9, 10, 11, 12, 13, 14, 15, 16, 17], [15, 18])])
def rdr_value.B29 : List Nat := [0, 1, 3, 7, 0, 0, 32, 96, 224, 0, 0, 0, 2048, 6144, 14336, 30720, 1535, 81407, 262143, 524287]
theorem rdr_value.tab29 : rtab .any (opsOf Try.f52 29) = rdr_value.T29 := by kernel_rfl
theorem rdr_value.bits29 : waitsOk rdr_value.T29.2 rdr_value.B29 = true := by kernel_rfl
def rdr_value.T33 : Bool × List (List Nat × List Nat) := (true, [([], []), ([0], [0]), ([1], [1]), ([2], [2]), ([], []), ([], []), ([5], [5]), ([6], [6]), ([7], [7]), ([], []), ([], []), ([], []), ([11], [11]), ([12], [12]), ([13, 12], [12, 13]), ([12, 14], [12, 14]), ([3, 4, 0, 1, 2, 3, 4, 8, 10], [3, 4]), ([16, 10, 12, 0, 1, 2, 3, 4, 8, 10], [10, 16]), ([8, 9, 0, 1, 2, 3, 4, 5, 6, 7, 8, 9, 10, 11, 12, 13, 14, 15, 16, 17], [8, 9]), ([18, 15, 17, 0, 1, 2, 3, 4, 5, 6, 7, 8, 9, 10, 11, 12, 13, 14, 15, 16, 17], [15, 18])])
def rdr_value.B33 : List Nat := [0, 1, 3, 7, 0, 0, 32, 96, 224, 0, 0, 0, 2048, 6144, 14336, 30720, 1535, 73215, 262143, 524287]
theorem rdr_value.tab33 : rtab .any (opsOf Try.f52 33) = rdr_value.T33 := by kernel_rfl
theorem rdr_value.bits33 : waitsOk rdr_value.T33.2 rdr_value.B33 = true := by kernel_rfl
def RdAt (w0 : World) (s : S24) : Prop := ∀ (rb : Nat) (sv lt : Int) (said good : List Bool) (vs vg : Value) (A : Option Addr) (cp : Nat) (w : World), Rdr w0 w rb sv lt said good vs vg → said.length = good.length → said.length + tnS s ≤ 60 → Kd.C k24 w0 A s.f2.length s.f2 → s.f2.length ≤ cp → soundS s = true →
    Calls Try.prog 52 #[.pointer (some ⟨rb, 0, none⟩), .agg #[.int .i64 s.f0, .int .i64 s.f1, .slice A s.f2.length cp]] w fun e w' => e = .returned (.bool (valS sv lt s said.length)) ∧ ∃ v1 v2, Rdr w0 w' rb sv lt (said ++ saidS sv lt s said.length) (good ++ goodS sv lt s said.length) v1 v2 ∧ Fr w rb vs vg w' v1 v2
theorem infoBool0 : (Try.prog.info? 4).map (fun i => (i.zero, i.size, i.bytes)) = some (some (.bool false), 1, 1) := by kernel_rfl
theorem infoB : ∃ i, Try.prog.info? 4 = some i ∧ i.zero = some (.bool false) ∧ i.size = 1 ∧ i.bytes = 1 := by
  obtain ⟨i, hi, hz⟩ := Option.map_eq_some_iff.1 infoBool0
  simp only [Prod.mk.injEq] at hz
  exact ⟨i, hi, hz⟩
set_option maxHeartbeats 8000000 in
set_option maxRecDepth 100000 in
theorem value_calls (w0 : World) (s : S24) (ih : ∀ k ∈ s.f2, RdAt w0 k) : RdAt w0 s := by
  intro rb sv lt said good vs vg A cp w hR hlg hbd hk hc hs
  have huF := Try.underlying24
  have huL := Try.underlying22
  have hur := Try.underlying64
  have hus := Try.underlying45
  obtain ⟨W1, hW1⟩ : ∃ W1, W1 = w.alloc (.cells #[.int .i64 s.f0, .int .i64 s.f1, .slice A s.f2.length cp] 24) := ⟨_, rfl⟩
  have hR1 : Rdr w0 W1 rb sv lt said good vs vg := by rw [hW1]; exact hR.alloc _
  have hF1 : Fr w rb vs vg W1 vs vg := by rw [hW1]; exact (Fr.refl _ _ _ _).alloc _
  have hbx : W1.heap[w.heap.size]? = some (.cells #[.int .i64 s.f0, .int .i64 s.f1, .slice A s.f2.length cp] 24 (0, 0)) := by rw [hW1]; exact heap_alloc_new w _
  have hb1 : some w.heap.size ≠ vs.ownBlock := fun e => Nat.lt_irrefl _ (own_lt hR.o1 _ e.symm)
  have hb2 : some w.heap.size ≠ vg.ownBlock := fun e => Nat.lt_irrefl _ (own_lt hR.o2 _ e.symm)
  have hb3 : w.heap.size ≠ rb := fun e => Nat.lt_irrefl _ (e ▸ blk_lt hR.blk)
  have HBOX := Aside0.mk (fun (w1 : World) (v1 v2 : Value) (h : Fr W1 rb vs vg w1 v1 v2) => h.box hR1 hbx hb1 hb2 hb3)
  have HR1 := Aside0.mk hR1
  have HF1 := Aside0.mk hF1
  have HK := Aside0.mk hk
  have HS := Aside0.mk hs
  have HIH := Aside0.mk ih
  have HLG := Aside0.mk hlg
  have HBD := Aside0.mk hbd
  have HW1 := Aside0.mk hW1
  have hpart := sound_parts hs
  have hk2 := (kids_range s.f0).2
  have hl2 : s.f2.length ≤ 2 := by omega
  have HOP := Aside0.mk (op_cases hpart.1)
  have HM0 := Aside0.mk hpart.2.2
  have x0 : W1.cell? ⟨w.heap.size, 0, none⟩ = some (.int .i64 s.f0) := (blk_cell hbx 0).trans rfl
  have y2 := rdrB_2 hR1.blk
  obtain ⟨A1, c1, hvs, hc1⟩ := own_form hR.o1
  obtain ⟨A2, c2, hvg, hc2⟩ := own_form hR.o2
  subst hvs hvg
  have HEQ := Aside0.mk (And.intro (val_eq sv lt s said.length) (And.intro (said_eq sv lt s said.length) (good_eq sv lt s said.length)))
  have HTN := Aside0.mk (tn_eq s)
  clear hR hk hs ih hlg hbd hR1 hF1 hpart hk2
  go_enter Try.func52, Try.ntmps52
  go_upto_region 1 with fail
  rw [← hW1]
  clear hW1
  go_cut [5] (fun v5 wx => ∃ tm : Bool, v5 = .bool tm ∧ Aside0 (timedS s.f0 = tm) ∧ wx = W1)
  case first =>
    by_cases h6 : 6 ≤ s.f0
    · by_cases h8 : s.f0 ≤ 8
      · have HT := Aside0.mk (show timedS s.f0 = true from by unfold timedS; rw [decide_eq_true h6, decide_eq_true h8]; rfl)
        go_wp2
        go_meet
        exact ⟨_, rfl, HT, rfl⟩
      · have HT := Aside0.mk (show timedS s.f0 = false from by unfold timedS; rw [decide_eq_false h8]; simp)
        go_wp2
        go_meet
        exact ⟨_, rfl, HT, rfl⟩
    · have HT := Aside0.mk (show timedS s.f0 = false from by unfold timedS; rw [decide_eq_false h6]; simp)
      go_wp2
      go_meet
      exact ⟨_, rfl, HT, rfl⟩
  case rest =>
    obtain ⟨tm, rfl, HT, hwc⟩ := hcut
    rw [hwc]
    clear hwc wc
    go_upto_if 28 with fail
    go_cut [] (fun wx => ∃ v1 v2, Aside0 (Rdr w0 wx rb sv lt (said ++ ownE s.f0 false) (good ++ ownE s.f0 false) v1 v2) ∧ Aside0 (Fr W1 rb (.slice A1 said.length c1) (.slice A2 good.length c2) wx v1 v2))
    case first =>
      cases tm with
      | false =>
        have HE := Aside0.mk (show ownE s.f0 false = [] from by unfold ownE; rw [HT.out]; rfl)
        go_wp2
        go_meet
        exact ⟨_, _, ⟨by rw [HE.out, List.append_nil, List.append_nil]; exact HR1.out⟩, ⟨Fr.refl _ _ _ _⟩⟩
      | true =>
        have HE := Aside0.mk (show ownE s.f0 false = [false] from by unfold ownE; rw [HT.out]; rfl)
        have HUS := Aside0.mk hus
        obtain ⟨iB, hiB⟩ := infoB
        have HIB := Aside0.mk hiB
        have GS := Aside0.mk (show W1.heap.size ≤ W1.drew.heap.size from Nat.le_refl _)
        have T0 := Aside0.mk HR1.out.two.drew
        have K0 := Aside0.mk (show RdrB W1.drew rb sv lt (.slice A1 said.length c1) (.slice A2 good.length c2) from HR1.out.blk)
        have HBB := Aside0.mk HR1.out.bl.size
        have hb := HBD.out
        have hg := HLG.out
        have HBD2 := HBD
        replace HBD := Aside0.mk (show (said.length + 1 ≤ maxLen ∧ (said.length + 1) * 1 ≤ 140737488355328) ∧ (good.length + 1 ≤ maxLen ∧ (good.length + 1) * 1 ≤ 140737488355328) from by unfold maxLen; omega)
        clear hiB hb hg
        go_upto_region 4 with fail
        refine start_ (n := 20) (S := fun w' => True) (ds := []) #[false, false, false, false, false, false, false, false, false, false, false, false, false, false, false, false, false, false, false, false] (by kernel_rfl) rfl rfl trivial (fun hHeld => ?_)
        refine with_tabW rdr_value.tab4 rdr_value.bits4 (fun HT_ HW_ => ?_)
        refine pure_ (i := 0) (N := some 29) (v := ?_) (a' := ?_) #[true, false, false, false, false, false, false, false, false, false, false, false, false, false, false, false, false, false, false, false] rfl rfl (any_of HT_.out (by kernel_rfl)) (fun _ _ _ h => h) (Or.inl ⟨by rfl, ?_⟩) ?_ ?_
        rotate_left
        · intro w'
          go_simp
          with_reducible rfl
        rotate_left
        · simp only [Act.put, List.setIfInBounds_toArray, List.set_cons_zero, List.set_cons_succ, i64_w, i32_w]
          rfl
        refine pure_ (i := 1) (N := some 30) (v := ?_) (a' := ?_) #[true, true, false, false, false, false, false, false, false, false, false, false, false, false, false, false, false, false, false, false] rfl rfl (any_of HT_.out (by kernel_rfl)) (fun _ _ _ h => h) (Or.inl ⟨by rfl, ?_⟩) ?_ ?_
        rotate_left
        · intro w'
          go_simp
          with_reducible rfl
        rotate_left
        · simp only [Act.put, List.setIfInBounds_toArray, List.set_cons_zero, List.set_cons_succ, i64_w, i32_w]
          rfl
        refine pure_ (i := 2) (N := some 31) (v := ?_) (a' := ?_) #[true, true, true, false, false, false, false, false, false, false, false, false, false, false, false, false, false, false, false, false] rfl rfl (any_of HT_.out (by kernel_rfl)) (fun _ _ _ h => h) (Or.inl ⟨by rfl, ?_⟩) ?_ ?_
        rotate_left
        · intro w'
          go_simp
          with_reducible rfl
        rotate_left
        · simp only [Act.put, List.setIfInBounds_toArray, List.set_cons_zero, List.set_cons_succ, i64_w, i32_w]
          rfl
        refine pure_ (i := 3) (N := some 32) (v := ?_) (a' := ?_) #[true, true, true, true, false, false, false, false, false, false, false, false, false, false, false, false, false, false, false, false] rfl rfl (any_of HT_.out (by kernel_rfl)) (fun _ _ _ h => h) (Or.inl ⟨by rfl, ?_⟩) ?_ ?_
        rotate_left
        · intro w'
          go_simp
          with_reducible rfl
        rotate_left
        · simp only [Act.put, List.setIfInBounds_toArray, List.set_cons_zero, List.set_cons_succ, i64_w, i32_w]
          rfl
        refine pure_ (i := 4) (N := some 33) (v := ?_) (a' := ?_) #[true, true, true, true, true, false, false, false, false, false, false, false, false, false, false, false, false, false, false, false] rfl rfl (any_of HT_.out (by kernel_rfl)) (fun _ _ _ h => h) (Or.inl ⟨by rfl, ?_⟩) ?_ ?_
        rotate_left
        · intro w'
          go_simp
          with_reducible rfl
        rotate_left
        · simp only [Act.put, List.setIfInBounds_toArray, List.set_cons_zero, List.set_cons_succ, i64_w, i32_w]
          rfl
        refine pure_ (i := 8) (N := some 37) (v := ?_) (a' := ?_) #[true, true, true, true, true, false, false, false, true, false, false, false, false, false, false, false, false, false, false, false] rfl rfl (any_of HT_.out (by kernel_rfl)) (fun _ _ _ h => h) (Or.inl ⟨by rfl, ?_⟩) ?_ ?_
        rotate_left
        · intro w'
          go_simp
          with_reducible rfl
        rotate_left
        · simp only [Act.put, List.setIfInBounds_toArray, List.set_cons_zero, List.set_cons_succ, i64_w, i32_w]
          rfl
        refine pure_ (i := 9) (N := some 38) (v := ?_) (a' := ?_) #[true, true, true, true, true, false, false, false, true, true, false, false, false, false, false, false, false, false, false, false] rfl rfl (any_of HT_.out (by kernel_rfl)) (fun _ _ _ h => h) (Or.inl ⟨by rfl, ?_⟩) ?_ ?_
        rotate_left
        · intro w'
          go_simp
          with_reducible rfl
        rotate_left
        · simp only [Act.put, List.setIfInBounds_toArray, List.set_cons_zero, List.set_cons_succ, i64_w, i32_w]
          rfl
        refine pure_ (i := 10) (N := some 39) (v := ?_) (a' := ?_) #[true, true, true, true, true, false, false, false, true, true, true, false, false, false, false, false, false, false, false, false] rfl rfl (any_of HT_.out (by kernel_rfl)) (fun _ _ _ h => h) (Or.inl ⟨by rfl, ?_⟩) ?_ ?_
        rotate_left
        · intro w'
          go_simp
          with_reducible rfl
        rotate_left
        · simp only [Act.put, List.setIfInBounds_toArray, List.set_cons_zero, List.set_cons_succ, i64_w, i32_w]
          rfl
        refine inv_at [5, 6, 7, 11, 12, 13, 14, 15, 16, 17, 18, 19] (fun a0_ b a w' => ∃ (gb1 : Nat) (gb2 : Nat) (v1 : Value) (v2 : Value) (m6_ : Value) (m12_ : Value), a = putSel a0_ b [(5, 34, .slice A1 said.length c1), (6, 35, m6_), (7, 36, v1), (11, 40, .slice A2 good.length c2), (12, 41, m12_), (13, 42, v2), (14, 43, .pointer (some ⟨rb, 0, none⟩)), (15, 44, .pointer (some ⟨rb, 2, none⟩)), (17, 45, .pointer (some ⟨rb, 0, none⟩)), (18, 46, .pointer (some ⟨rb, 3, none⟩))] ∧ (W1.heap.size ≤ w'.heap.size) ∧ (b 7 = false → Two w0 W1 rb (.slice A1 said.length c1) (.slice A2 good.length c2) w' (.slice A1 said.length c1) said (.slice A2 good.length c2) good) ∧ (b 7 = true → b 13 = false → Two w0 W1 rb (.slice A1 said.length c1) (.slice A2 good.length c2) w' v1 (said ++ [false]) (.slice A2 good.length c2) good) ∧ (b 13 = true → Two w0 W1 rb (.slice A1 said.length c1) (.slice A2 good.length c2) w' v1 (said ++ [false]) v2 (good ++ [false])) ∧ (b 6 = true → b 7 = false → BK W1 w' gb1) ∧ (b 12 = true → b 13 = false → BK W1 w' gb2) ∧ (b 16 = false → RdrB w' rb sv lt (.slice A1 said.length c1) (.slice A2 good.length c2)) ∧ (b 16 = true → b 19 = false → RdrB w' rb sv lt v1 (.slice A2 good.length c2)) ∧ (b 19 = true → RdrB w' rb sv lt v1 v2) ∧ (b 6 = true → (m6_ : Value) = .slice (some ⟨gb1, 0, none⟩) 1 1) ∧ (b 12 = true → (m12_ : Value) = .slice (some ⟨gb2, 0, none⟩) 1 1)) HT_.out HW_.out (by kernel_rfl) (by kernel_rfl) ?_ ?_ ?_
        · exact ⟨0, 0, .bool false, .bool false, .bool false, .bool false, by simp only [putSel, Bool.false_eq_true, if_false], GS.out, fun _ => T0.out, fun h_ => absurd h_ (by decide), fun h_ => absurd h_ (by decide), fun h_ => absurd h_ (by decide), fun h_ => absurd h_ (by decide), fun _ => K0.out, fun h_ => absurd h_ (by decide), fun h_ => absurd h_ (by decide), fun h_ => absurd h_ (by decide), fun h_ => absurd h_ (by decide)⟩
        · skip
          clear GS K0 T0
          refine steps_cons ?_ ?_
          · rintro b a w' ⟨gb1, gb2, v1, v2, m6_, m12_, ha, Q_GS, Q_T0, Q_T1, Q_T2, Q_B1, Q_B2, Q_K0, Q_K1, Q_K2, Q_X6_, Q_X12_⟩ hb_ hon hoff
            refine ⟨_, rfl, fun K hK => ?_⟩
            have e33 : a.tmps[33]? = some (.pointer (some ⟨rb, 2, none⟩)) := by rw [ha]; exact (putSel_off rfl).trans rfl
            replace ha := Aside0.mk ha
            have GS := Aside0.mk Q_GS
            have T0 := Aside0.mk (Q_T0 (hoff 7 (by kernel_rfl)))
            have K0 := Aside0.mk (Q_K0 (hoff 16 (by kernel_rfl)))
            have hk := rdrB_2 K0.out
            refine value_ (w1 := w') (v := .slice A1 said.length c1) (by rfl) rfl ?_ ?_
            · go_simp
              (try simp only [i64_w])
              try rfl
            refine hK.out _ _ ⟨gb1, gb2, v1, v2, m6_, m12_, (by rw [ha.out]; exact putSel_upk 0 hb_ rfl rfl rfl), Q_GS, Q_T0, fun h0_ _ => absurd ((hoff 7 (by kernel_rfl)).symm.trans h0_) (by decide), fun h0_ => absurd ((hoff 13 (by kernel_rfl)).symm.trans h0_) (by decide), Q_B1, Q_B2, Q_K0, fun h0_ _ => absurd ((hoff 16 (by kernel_rfl)).symm.trans h0_) (by decide), fun h0_ => absurd ((hoff 19 (by kernel_rfl)).symm.trans h0_) (by decide), Q_X6_, Q_X12_⟩
          refine steps_cons ?_ ?_
          · rintro b a w' ⟨gb1, gb2, v1, v2, m6_, m12_, ha, Q_GS, Q_T0, Q_T1, Q_T2, Q_B1, Q_B2, Q_K0, Q_K1, Q_K2, Q_X6_, Q_X12_⟩ hb_ hon hoff
            refine ⟨_, rfl, fun K hK => ?_⟩
            replace ha := Aside0.mk ha
            have GS := Aside0.mk Q_GS
            have T0 := Aside0.mk (Q_T0 (hoff 7 (by kernel_rfl)))
            have K0 := Aside0.mk (Q_K0 (hoff 16 (by kernel_rfl)))
            refine value_ (w1 := w'.alloc (.cells #[.bool false] 4)) (v := .slice (some ⟨w'.heap.size, 0, none⟩) 1 1) (by rfl) rfl ?_ ?_
            · go_simp
            refine hK.out _ _ ⟨w'.heap.size, gb2, v1, v2, (.slice (some ⟨w'.heap.size, 0, none⟩) 1 1), m12_, (by rw [ha.out]; exact putSel_upk 1 hb_ rfl rfl rfl), le_alloc GS.out _, fun _ => T0.out.alloc _, fun h0_ _ => absurd ((hoff 7 (by kernel_rfl)).symm.trans h0_) (by decide), fun h0_ => absurd ((hoff 13 (by kernel_rfl)).symm.trans h0_) (by decide), fun _ _ => ⟨GS.out, heap_alloc_new w' _⟩, fun h0_ h1_ => ⟨(Q_B2 h0_ h1_).1, blk_alloc (Q_B2 h0_ h1_).2 _⟩, fun _ => blk_alloc K0.out _, fun h0_ _ => absurd ((hoff 16 (by kernel_rfl)).symm.trans h0_) (by decide), fun h0_ => absurd ((hoff 19 (by kernel_rfl)).symm.trans h0_) (by decide), fun _ => rfl, Q_X12_⟩
          refine steps_cons ?_ ?_
          · rintro b a w' ⟨gb1, gb2, v1, v2, m6_, m12_, ha, Q_GS, Q_T0, Q_T1, Q_T2, Q_B1, Q_B2, Q_K0, Q_K1, Q_K2, Q_X6_, Q_X12_⟩ hb_ hon hoff
            refine ⟨_, rfl, fun K hK => ?_⟩
            have e34 : a.tmps[34]? = some (.slice A1 said.length c1) := by rw [ha]; exact putSel_on (e := (5, 34, .slice A1 said.length c1)) 0 rfl rfl (hon 5 (by kernel_rfl)) rfl
            have e35 : a.tmps[35]? = some (m6_) := by rw [ha]; exact putSel_on (e := (6, 35, m6_)) 1 rfl rfl (hon 6 (by kernel_rfl)) rfl
            rw [Q_X6_ (hon 6 (by kernel_rfl))] at e35
            replace ha := Aside0.mk ha
            have GS := Aside0.mk Q_GS
            have T0 := Aside0.mk (Q_T0 hb_)
            have B1 := Aside0.mk (Q_B1 (hon 6 (by kernel_rfl)) hb_)
            have K0 := Aside0.mk (Q_K0 (hoff 16 (by kernel_rfl)))
            refine step_append_lies _ rfl (.tmp 34) (.tmp 35) 45 (by rfl) w0.heap.size 4 iB (.bool false) 1 1 HUS.out HIB.out.1 HIB.out.2.1 HIB.out.2.2.1 HIB.out.2.2.2 rfl (by decide) (.slice A1 said.length c1) _ _ (eval_of e34) T0.out.o1 ⟨gb1, 0, none⟩ 1 1 [.bool false] (eval_of e35) rfl (World.news_of_block B1.out.2) (by intro u hu; rw [List.mem_singleton.1 hu]; rfl) (by decide) HBD.out.1.1 HBD.out.1.2 (Nat.le_trans HBB.out GS.out) w'.heap.size rfl ?_
            intro g cap w1 hown hgrow hat hlt
            refine hK.out _ _ ⟨gb1, gb2, (.slice (some ⟨g, 0, none⟩) (said.length + 1) cap), v2, m6_, m12_, (by rw [ha.out]; exact putSel_upk 2 hb_ rfl rfl rfl), Nat.le_trans GS.out hgrow.size, fun h0_ => absurd ((up_self b 7).symm.trans h0_) (by decide), fun _ _ => T0.out.app1 hown hgrow hat, fun h0_ => absurd ((hoff 13 (by kernel_rfl)).symm.trans h0_) (by decide), fun _ h1_ => absurd ((up_self b 7).symm.trans h1_) (by decide), fun h0_ h1_ => T0.out.keepB1 (Q_B2 h0_ h1_) hgrow, fun _ => T0.out.keepR1 K0.out hgrow, fun h0_ _ => absurd ((hoff 16 (by kernel_rfl)).symm.trans h0_) (by decide), fun h0_ => absurd ((hoff 19 (by kernel_rfl)).symm.trans h0_) (by decide), Q_X6_, Q_X12_⟩
          refine steps_cons ?_ ?_
          · rintro b a w' ⟨gb1, gb2, v1, v2, m6_, m12_, ha, Q_GS, Q_T0, Q_T1, Q_T2, Q_B1, Q_B2, Q_K0, Q_K1, Q_K2, Q_X6_, Q_X12_⟩ hb_ hon hoff
            refine ⟨_, rfl, fun K hK => ?_⟩
            have e39 : a.tmps[39]? = some (.pointer (some ⟨rb, 3, none⟩)) := by rw [ha]; exact (putSel_off rfl).trans rfl
            replace ha := Aside0.mk ha
            have GS := Aside0.mk Q_GS
            have K0 := Aside0.mk (Q_K0 (hoff 16 (by kernel_rfl)))
            have hk := rdrB_3 K0.out
            refine value_ (w1 := w') (v := .slice A2 good.length c2) (by rfl) rfl ?_ ?_
            · go_simp
              (try simp only [i64_w])
              try rfl
            refine hK.out _ _ ⟨gb1, gb2, v1, v2, m6_, m12_, (by rw [ha.out]; exact putSel_upk 3 hb_ rfl rfl rfl), Q_GS, Q_T0, Q_T1, fun h0_ => absurd ((hoff 13 (by kernel_rfl)).symm.trans h0_) (by decide), Q_B1, Q_B2, Q_K0, fun h0_ _ => absurd ((hoff 16 (by kernel_rfl)).symm.trans h0_) (by decide), fun h0_ => absurd ((hoff 19 (by kernel_rfl)).symm.trans h0_) (by decide), Q_X6_, Q_X12_⟩
          refine steps_cons ?_ ?_
          · rintro b a w' ⟨gb1, gb2, v1, v2, m6_, m12_, ha, Q_GS, Q_T0, Q_T1, Q_T2, Q_B1, Q_B2, Q_K0, Q_K1, Q_K2, Q_X6_, Q_X12_⟩ hb_ hon hoff
            refine ⟨_, rfl, fun K hK => ?_⟩
            replace ha := Aside0.mk ha
            have GS := Aside0.mk Q_GS
            have K0 := Aside0.mk (Q_K0 (hoff 16 (by kernel_rfl)))
            refine value_ (w1 := w'.alloc (.cells #[.bool false] 4)) (v := .slice (some ⟨w'.heap.size, 0, none⟩) 1 1) (by rfl) rfl ?_ ?_
            · go_simp
            refine hK.out _ _ ⟨gb1, w'.heap.size, v1, v2, m6_, (.slice (some ⟨w'.heap.size, 0, none⟩) 1 1), (by rw [ha.out]; exact putSel_upk 4 hb_ rfl rfl rfl), le_alloc GS.out _, fun h0_ => (Q_T0 h0_).alloc _, fun h0_ h1_ => (Q_T1 h0_ h1_).alloc _, fun h0_ => absurd ((hoff 13 (by kernel_rfl)).symm.trans h0_) (by decide), fun h0_ h1_ => ⟨(Q_B1 h0_ h1_).1, blk_alloc (Q_B1 h0_ h1_).2 _⟩, fun _ _ => ⟨GS.out, heap_alloc_new w' _⟩, fun _ => blk_alloc K0.out _, fun h0_ _ => absurd ((hoff 16 (by kernel_rfl)).symm.trans h0_) (by decide), fun h0_ => absurd ((hoff 19 (by kernel_rfl)).symm.trans h0_) (by decide), Q_X6_, fun _ => rfl⟩
          refine steps_cons ?_ ?_
          · rintro b a w' ⟨gb1, gb2, v1, v2, m6_, m12_, ha, Q_GS, Q_T0, Q_T1, Q_T2, Q_B1, Q_B2, Q_K0, Q_K1, Q_K2, Q_X6_, Q_X12_⟩ hb_ hon hoff
            refine ⟨_, rfl, fun K hK => ?_⟩
            have e40 : a.tmps[40]? = some (.slice A2 good.length c2) := by rw [ha]; exact putSel_on (e := (11, 40, .slice A2 good.length c2)) 3 rfl rfl (hon 11 (by kernel_rfl)) rfl
            have e41 : a.tmps[41]? = some (m12_) := by rw [ha]; exact putSel_on (e := (12, 41, m12_)) 4 rfl rfl (hon 12 (by kernel_rfl)) rfl
            rw [Q_X12_ (hon 12 (by kernel_rfl))] at e41
            replace ha := Aside0.mk ha
            have GS := Aside0.mk Q_GS
            have T1 := Aside0.mk (Q_T1 (hon 7 (by kernel_rfl)) hb_)
            have B2 := Aside0.mk (Q_B2 (hon 12 (by kernel_rfl)) hb_)
            have K0 := Aside0.mk (Q_K0 (hoff 16 (by kernel_rfl)))
            refine step_append_lies _ rfl (.tmp 40) (.tmp 41) 45 (by rfl) w0.heap.size 4 iB (.bool false) 1 1 HUS.out HIB.out.1 HIB.out.2.1 HIB.out.2.2.1 HIB.out.2.2.2 rfl (by decide) (.slice A2 good.length c2) _ _ (eval_of e40) T1.out.o2 ⟨gb2, 0, none⟩ 1 1 [.bool false] (eval_of e41) rfl (World.news_of_block B2.out.2) (by intro u hu; rw [List.mem_singleton.1 hu]; rfl) (by decide) HBD.out.2.1 HBD.out.2.2 (Nat.le_trans HBB.out GS.out) w'.heap.size rfl ?_
            intro g cap w1 hown hgrow hat hlt
            refine hK.out _ _ ⟨gb1, gb2, v1, (.slice (some ⟨g, 0, none⟩) (good.length + 1) cap), m6_, m12_, (by rw [ha.out]; exact putSel_upk 5 hb_ rfl rfl rfl), Nat.le_trans GS.out hgrow.size, fun h0_ => absurd ((hon 7 (by kernel_rfl)).symm.trans h0_) (by decide), fun _ h1_ => absurd ((up_self b 13).symm.trans h1_) (by decide), fun _ => T1.out.app2 hown hgrow hat, fun _ h1_ => absurd ((hon 7 (by kernel_rfl)).symm.trans h1_) (by decide), fun _ h1_ => absurd ((up_self b 13).symm.trans h1_) (by decide), fun _ => T1.out.keepR2 K0.out hgrow, fun h0_ _ => absurd ((hoff 16 (by kernel_rfl)).symm.trans h0_) (by decide), fun h0_ => absurd ((hoff 19 (by kernel_rfl)).symm.trans h0_) (by decide), Q_X6_, Q_X12_⟩
          refine steps_cons ?_ ?_
          · rintro b a w' ⟨gb1, gb2, v1, v2, m6_, m12_, ha, Q_GS, Q_T0, Q_T1, Q_T2, Q_B1, Q_B2, Q_K0, Q_K1, Q_K2, Q_X6_, Q_X12_⟩ hb_ hon hoff
            refine ⟨_, rfl, fun K hK => ?_⟩
            have e29 : a.tmps[29]? = some (.pointer (some ⟨rb, 0, none⟩)) := by rw [ha]; exact (putSel_off rfl).trans rfl
            replace ha := Aside0.mk ha
            have GS := Aside0.mk Q_GS
            have T2 := Aside0.mk (Q_T2 (hon 13 (by kernel_rfl)))
            have K0 := Aside0.mk (Q_K0 (hoff 16 (by kernel_rfl)))
            refine value_ (w1 := w') (v := .pointer (some ⟨rb, 0, none⟩)) (by rfl) rfl ?_ ?_
            · go_simp
              (try simp only [i64_w])
              try rfl
            refine hK.out _ _ ⟨gb1, gb2, v1, v2, m6_, m12_, (by rw [ha.out]; exact putSel_upk 6 hb_ rfl rfl rfl), Q_GS, fun h0_ => absurd ((hon 7 (by kernel_rfl)).symm.trans h0_) (by decide), fun _ h1_ => absurd ((hon 13 (by kernel_rfl)).symm.trans h1_) (by decide), Q_T2, fun _ h1_ => absurd ((hon 7 (by kernel_rfl)).symm.trans h1_) (by decide), fun _ h1_ => absurd ((hon 13 (by kernel_rfl)).symm.trans h1_) (by decide), Q_K0, fun h0_ _ => absurd ((hoff 16 (by kernel_rfl)).symm.trans h0_) (by decide), fun h0_ => absurd ((hoff 19 (by kernel_rfl)).symm.trans h0_) (by decide), Q_X6_, Q_X12_⟩
          refine steps_cons ?_ ?_
          · rintro b a w' ⟨gb1, gb2, v1, v2, m6_, m12_, ha, Q_GS, Q_T0, Q_T1, Q_T2, Q_B1, Q_B2, Q_K0, Q_K1, Q_K2, Q_X6_, Q_X12_⟩ hb_ hon hoff
            refine ⟨_, rfl, fun K hK => ?_⟩
            have e43 : a.tmps[43]? = some (.pointer (some ⟨rb, 0, none⟩)) := by rw [ha]; exact putSel_on (e := (14, 43, .pointer (some ⟨rb, 0, none⟩))) 6 rfl rfl (hon 14 (by kernel_rfl)) rfl
            replace ha := Aside0.mk ha
            have GS := Aside0.mk Q_GS
            have T2 := Aside0.mk (Q_T2 (hon 13 (by kernel_rfl)))
            have K0 := Aside0.mk (Q_K0 (hoff 16 (by kernel_rfl)))
            refine value_ (w1 := w') (v := .pointer (some ⟨rb, 2, none⟩)) (by rfl) rfl ?_ ?_
            · go_simp
              (try simp only [i64_w])
              try rfl
            refine hK.out _ _ ⟨gb1, gb2, v1, v2, m6_, m12_, (by rw [ha.out]; exact putSel_upk 7 hb_ rfl rfl rfl), Q_GS, fun h0_ => absurd ((hon 7 (by kernel_rfl)).symm.trans h0_) (by decide), fun _ h1_ => absurd ((hon 13 (by kernel_rfl)).symm.trans h1_) (by decide), Q_T2, fun _ h1_ => absurd ((hon 7 (by kernel_rfl)).symm.trans h1_) (by decide), fun _ h1_ => absurd ((hon 13 (by kernel_rfl)).symm.trans h1_) (by decide), Q_K0, fun h0_ _ => absurd ((hoff 16 (by kernel_rfl)).symm.trans h0_) (by decide), fun h0_ => absurd ((hoff 19 (by kernel_rfl)).symm.trans h0_) (by decide), Q_X6_, Q_X12_⟩
          refine steps_cons ?_ ?_
          · rintro b a w' ⟨gb1, gb2, v1, v2, m6_, m12_, ha, Q_GS, Q_T0, Q_T1, Q_T2, Q_B1, Q_B2, Q_K0, Q_K1, Q_K2, Q_X6_, Q_X12_⟩ hb_ hon hoff
            refine ⟨_, rfl, fun K hK => ?_⟩
            have e44 : a.tmps[44]? = some (.pointer (some ⟨rb, 2, none⟩)) := by rw [ha]; exact putSel_on (e := (15, 44, .pointer (some ⟨rb, 2, none⟩))) 7 rfl rfl (hon 15 (by kernel_rfl)) rfl
            have e36 : a.tmps[36]? = some (v1) := by rw [ha]; exact putSel_on (e := (7, 36, v1)) 2 rfl rfl (hon 7 (by kernel_rfl)) rfl
            replace ha := Aside0.mk ha
            have GS := Aside0.mk Q_GS
            have T2 := Aside0.mk (Q_T2 (hon 13 (by kernel_rfl)))
            have K0 := Aside0.mk (Q_K0 hb_)
            obtain ⟨A_, c_, rfl, _⟩ := own_form T2.out.o1
            have hc := rdrB_2 K0.out
            have hf := blk_frozen K0.out 2
            refine skip_ (w1 := w'.setCell ⟨rb, 2, none⟩ (.slice A_ (said ++ [false]).length c_)) (by rfl) rfl ?_ ?_
            · go_simp
            refine hK.out _ _ ⟨gb1, gb2, (.slice A_ (said ++ [false]).length c_), v2, m6_, m12_, (by rw [ha.out]; exact putSel_none (v := undef) rfl), le_set GS.out _ _, fun h0_ => absurd ((hon 7 (by kernel_rfl)).symm.trans h0_) (by decide), fun _ h1_ => absurd ((hon 13 (by kernel_rfl)).symm.trans h1_) (by decide), fun _ => T2.out.setR _ _, fun _ h1_ => absurd ((hon 7 (by kernel_rfl)).symm.trans h1_) (by decide), fun _ h1_ => absurd ((hon 13 (by kernel_rfl)).symm.trans h1_) (by decide), fun h0_ => absurd ((up_self b 16).symm.trans h0_) (by decide), fun _ _ => rdrB_set2 K0.out _, fun h0_ => absurd ((hoff 19 (by kernel_rfl)).symm.trans h0_) (by decide), Q_X6_, Q_X12_⟩
          refine steps_cons ?_ ?_
          · rintro b a w' ⟨gb1, gb2, v1, v2, m6_, m12_, ha, Q_GS, Q_T0, Q_T1, Q_T2, Q_B1, Q_B2, Q_K0, Q_K1, Q_K2, Q_X6_, Q_X12_⟩ hb_ hon hoff
            refine ⟨_, rfl, fun K hK => ?_⟩
            have e30 : a.tmps[30]? = some (.pointer (some ⟨rb, 0, none⟩)) := by rw [ha]; exact (putSel_off rfl).trans rfl
            replace ha := Aside0.mk ha
            have GS := Aside0.mk Q_GS
            have T2 := Aside0.mk (Q_T2 (hon 13 (by kernel_rfl)))
            have K1 := Aside0.mk (Q_K1 (hon 16 (by kernel_rfl)) (hoff 19 (by kernel_rfl)))
            refine value_ (w1 := w') (v := .pointer (some ⟨rb, 0, none⟩)) (by rfl) rfl ?_ ?_
            · go_simp
              (try simp only [i64_w])
              try rfl
            refine hK.out _ _ ⟨gb1, gb2, v1, v2, m6_, m12_, (by rw [ha.out]; exact putSel_upk 8 hb_ rfl rfl rfl), Q_GS, fun h0_ => absurd ((hon 7 (by kernel_rfl)).symm.trans h0_) (by decide), fun _ h1_ => absurd ((hon 13 (by kernel_rfl)).symm.trans h1_) (by decide), Q_T2, fun _ h1_ => absurd ((hon 7 (by kernel_rfl)).symm.trans h1_) (by decide), fun _ h1_ => absurd ((hon 13 (by kernel_rfl)).symm.trans h1_) (by decide), fun h0_ => absurd ((hon 16 (by kernel_rfl)).symm.trans h0_) (by decide), Q_K1, fun h0_ => absurd ((hoff 19 (by kernel_rfl)).symm.trans h0_) (by decide), Q_X6_, Q_X12_⟩
          refine steps_cons ?_ ?_
          · rintro b a w' ⟨gb1, gb2, v1, v2, m6_, m12_, ha, Q_GS, Q_T0, Q_T1, Q_T2, Q_B1, Q_B2, Q_K0, Q_K1, Q_K2, Q_X6_, Q_X12_⟩ hb_ hon hoff
            refine ⟨_, rfl, fun K hK => ?_⟩
            have e45 : a.tmps[45]? = some (.pointer (some ⟨rb, 0, none⟩)) := by rw [ha]; exact putSel_on (e := (17, 45, .pointer (some ⟨rb, 0, none⟩))) 8 rfl rfl (hon 17 (by kernel_rfl)) rfl
            replace ha := Aside0.mk ha
            have GS := Aside0.mk Q_GS
            have T2 := Aside0.mk (Q_T2 (hon 13 (by kernel_rfl)))
            have K1 := Aside0.mk (Q_K1 (hon 16 (by kernel_rfl)) (hoff 19 (by kernel_rfl)))
            refine value_ (w1 := w') (v := .pointer (some ⟨rb, 3, none⟩)) (by rfl) rfl ?_ ?_
            · go_simp
              (try simp only [i64_w])
              try rfl
            refine hK.out _ _ ⟨gb1, gb2, v1, v2, m6_, m12_, (by rw [ha.out]; exact putSel_upk 9 hb_ rfl rfl rfl), Q_GS, fun h0_ => absurd ((hon 7 (by kernel_rfl)).symm.trans h0_) (by decide), fun _ h1_ => absurd ((hon 13 (by kernel_rfl)).symm.trans h1_) (by decide), Q_T2, fun _ h1_ => absurd ((hon 7 (by kernel_rfl)).symm.trans h1_) (by decide), fun _ h1_ => absurd ((hon 13 (by kernel_rfl)).symm.trans h1_) (by decide), fun h0_ => absurd ((hon 16 (by kernel_rfl)).symm.trans h0_) (by decide), Q_K1, fun h0_ => absurd ((hoff 19 (by kernel_rfl)).symm.trans h0_) (by decide), Q_X6_, Q_X12_⟩
          refine steps_cons ?_ ?_
          · rintro b a w' ⟨gb1, gb2, v1, v2, m6_, m12_, ha, Q_GS, Q_T0, Q_T1, Q_T2, Q_B1, Q_B2, Q_K0, Q_K1, Q_K2, Q_X6_, Q_X12_⟩ hb_ hon hoff
            refine ⟨_, rfl, fun K hK => ?_⟩
            have e46 : a.tmps[46]? = some (.pointer (some ⟨rb, 3, none⟩)) := by rw [ha]; exact putSel_on (e := (18, 46, .pointer (some ⟨rb, 3, none⟩))) 9 rfl rfl (hon 18 (by kernel_rfl)) rfl
            have e42 : a.tmps[42]? = some (v2) := by rw [ha]; exact putSel_on (e := (13, 42, v2)) 5 rfl rfl (hon 13 (by kernel_rfl)) rfl
            replace ha := Aside0.mk ha
            have GS := Aside0.mk Q_GS
            have T2 := Aside0.mk (Q_T2 (hon 13 (by kernel_rfl)))
            have K1 := Aside0.mk (Q_K1 (hon 16 (by kernel_rfl)) hb_)
            obtain ⟨A_, c_, rfl, _⟩ := own_form T2.out.o2
            have hc := rdrB_3 K1.out
            have hf := blk_frozen K1.out 3
            refine skip_ (w1 := w'.setCell ⟨rb, 3, none⟩ (.slice A_ (good ++ [false]).length c_)) (by rfl) rfl ?_ ?_
            · go_simp
            refine hK.out _ _ ⟨gb1, gb2, v1, (.slice A_ (good ++ [false]).length c_), m6_, m12_, (by rw [ha.out]; exact putSel_none (v := undef) rfl), le_set GS.out _ _, fun h0_ => absurd ((hon 7 (by kernel_rfl)).symm.trans h0_) (by decide), fun _ h1_ => absurd ((hon 13 (by kernel_rfl)).symm.trans h1_) (by decide), fun _ => T2.out.setR _ _, fun _ h1_ => absurd ((hon 7 (by kernel_rfl)).symm.trans h1_) (by decide), fun _ h1_ => absurd ((hon 13 (by kernel_rfl)).symm.trans h1_) (by decide), fun h0_ => absurd ((hon 16 (by kernel_rfl)).symm.trans h0_) (by decide), fun _ h1_ => absurd ((up_self b 19).symm.trans h1_) (by decide), fun _ => rdrB_set3 K1.out _, Q_X6_, Q_X12_⟩
          exact steps_nil
        · rintro b a w' hall ⟨gb1, gb2, v1, v2, m6_, m12_, ha, Q_GS, Q_T0, Q_T1, Q_T2, Q_B1, Q_B2, Q_K0, Q_K1, Q_K2, Q_X6_, Q_X12_⟩
          clear GS K0 T0
          have hb5_ := hall 5 (by kernel_rfl)
          have hb6_ := hall 6 (by kernel_rfl)
          have hb7_ := hall 7 (by kernel_rfl)
          have hb11_ := hall 11 (by kernel_rfl)
          have hb12_ := hall 12 (by kernel_rfl)
          have hb13_ := hall 13 (by kernel_rfl)
          have hb14_ := hall 14 (by kernel_rfl)
          have hb15_ := hall 15 (by kernel_rfl)
          have hb16_ := hall 16 (by kernel_rfl)
          have hb17_ := hall 17 (by kernel_rfl)
          have hb18_ := hall 18 (by kernel_rfl)
          have hb19_ := hall 19 (by kernel_rfl)
          subst ha
          obtain rfl := Q_X6_ hb6_
          obtain rfl := Q_X12_ hb12_
          simp only [putSel, hb5_, hb6_, hb7_, hb11_, hb12_, hb13_, hb14_, hb15_, hb16_, hb17_, hb18_, hb19_, if_true, Act.put, List.setIfInBounds_toArray, List.set_cons_zero, List.set_cons_succ]
          have GS := Aside0.mk Q_GS
          clear Q_GS
          clear Q_T0
          clear Q_T1
          have T2 := Aside0.mk (Q_T2 hb13_)
          clear Q_T2
          clear Q_B1
          clear Q_B2
          clear Q_K0
          clear Q_K1
          have K2 := Aside0.mk (Q_K2 hb19_)
          clear Q_K2
          clear hall hb5_ hb6_ hb7_ hb11_ hb12_ hb13_ hb14_ hb15_ hb16_ hb17_ hb18_ hb19_
          go_wp2_with fail
          go_meet
          have hfin := T2.out.rdr K2.out
          exact ⟨v1, v2, ⟨by rw [HE.out]; exact hfin.1⟩, ⟨hfin.2⟩⟩
    case rest =>
      obtain ⟨y1, y2v, HRb, HFb⟩ := hcut
      have hbxc := HBOX.out _ _ _ HFb.out
      have z2 : wc.cell? ⟨w.heap.size, 2, none⟩ = some (.slice A s.f2.length cp) := (blk_cell hbxc 2).trans rfl
      obtain ⟨K, hK⟩ : ∃ K, K = said.length + tS s.f0 := ⟨_, rfl⟩
      have HKD := Aside0.mk hK
      have hsl : (said ++ ownE s.f0 false).length = K := by rw [List.length_append, len_own, hK]
      have hgl : (good ++ ownE s.f0 false).length = K := by rw [List.length_append, len_own, hK, HLG.out]
      have HSL := Aside0.mk hsl
      have HGL := Aside0.mk hgl
      have HLT := Aside0.mk (show K + tnL s.f2 ≤ 60 from by have := HBD.out; have := HTN.out; omega)
      clear hbxc x0 y2 hK hsl hgl
      have hlen := Kd.C_max HK.out
      go_wp2
      go_loopg [50, 7, 8] s.f2.length (fun kq v50 v7 v8 w' => ∃ (j : Nat) (pre sd gd : List Bool) (x1 x2 : Value), j + kq = s.f2.length ∧ v50 = .int .i64 j ∧ v7 = .bool (pre.getD 0 false) ∧ v8 = .bool (pre.getD 1 false) ∧ Aside0 (pre.length = j) ∧ Aside0 (pre ++ valL sv lt (s.f2.drop j) sd.length = valL sv lt s.f2 K) ∧ Aside0 (sd ++ saidL sv lt (s.f2.drop j) sd.length = said ++ ownE s.f0 false ++ saidL sv lt s.f2 K) ∧ Aside0 (gd ++ goodL sv lt (s.f2.drop j) sd.length = good ++ ownE s.f0 false ++ goodL sv lt s.f2 K) ∧ Aside0 (sd.length = gd.length) ∧ Aside0 (sd.length + tnL (s.f2.drop j) = K + tnL s.f2) ∧ Aside0 (Rdr w0 w' rb sv lt sd gd x1 x2) ∧ Aside0 (Fr W1 rb (.slice A1 said.length c1) (.slice A2 good.length c2) w' x1 x2))
      case atStart => exact ⟨0, [], said ++ ownE s.f0 false, good ++ ownE s.f0 false, y1, y2v, by omega, rfl, rfl, rfl, ⟨rfl⟩, ⟨by rw [HSL.out]; rfl⟩, ⟨by rw [HSL.out]; rfl⟩, ⟨by rw [HSL.out]; rfl⟩, ⟨by rw [HSL.out, HGL.out]⟩, ⟨by rw [HSL.out]; rfl⟩, HRb, HFb⟩
      case round =>
        obtain ⟨j, pre, sd, gd, x1, x2, hj, rfl, rfl, rfl, HPL, HPV, HPS, HPG, HLQ, HTQ, HRd, HFd⟩ := hrel
        have HJ := Aside0.mk hj
        clear hj
        by_cases hlt : j < s.f2.length
        · obtain ⟨ad, A3, cp3, e0, hx0, hx1, hx2, hl3, hk3⟩ := kid_at HK.out HRd.out.bl j hlt hlt
          cases e0
          have HK3 := Aside0.mk hk3
          have HL3 := Aside0.mk hl3
          clear hk3 hl3
          have hd := List.drop_eq_getElem_cons hlt
          have HD := Aside0.mk hd
          clear hd
          have htn : sd.length + tnS (s.f2[j]'hlt) ≤ 60 := by
            have h1 := HTQ.out
            rw [HD.out] at h1
            have h2 := HLT.out
            simp only [tnL] at h1
            omega
          have HKK := Aside0.mk (fun W h => HIH.out (s.f2[j]'hlt) (List.getElem_mem hlt) rb sv lt sd gd x1 x2 A3 cp3 W h HLQ.out htn HK3.out HL3.out (sound_kid HS.out j hlt))
          clear htn
          have hPV : (pre ++ [valS sv lt (s.f2[j]'hlt) sd.length]) ++ valL sv lt (s.f2.drop (j + 1)) (sd.length + tnS (s.f2[j]'hlt)) = valL sv lt s.f2 K := by
            rw [← HPV.out, HD.out, valL, List.append_assoc]; rfl
          have hPS : (sd ++ saidS sv lt (s.f2[j]'hlt) sd.length) ++ saidL sv lt (s.f2.drop (j + 1)) (sd.length + tnS (s.f2[j]'hlt)) = said ++ ownE s.f0 false ++ saidL sv lt s.f2 K := by
            rw [← HPS.out, HD.out, saidL, List.append_assoc]
          have hPG : (gd ++ goodS sv lt (s.f2[j]'hlt) sd.length) ++ goodL sv lt (s.f2.drop (j + 1)) (sd.length + tnS (s.f2[j]'hlt)) = good ++ ownE s.f0 false ++ goodL sv lt s.f2 K := by
            rw [← HPG.out, HD.out, goodL, List.append_assoc]
          have hQL : (sd ++ saidS sv lt (s.f2[j]'hlt) sd.length).length = sd.length + tnS (s.f2[j]'hlt) := by rw [List.length_append, len_said]
          have hQG : (gd ++ goodS sv lt (s.f2[j]'hlt) sd.length).length = sd.length + tnS (s.f2[j]'hlt) := by rw [List.length_append, len_good, HLQ.out]
          have hTN : sd.length + tnS (s.f2[j]'hlt) + tnL (s.f2.drop (j + 1)) = K + tnL s.f2 := by rw [← HTQ.out, HD.out, tnL]; omega
          have HPV2 := Aside0.mk hPV
          have HPS2 := Aside0.mk hPS
          have HPG2 := Aside0.mk hPG
          have HQL := Aside0.mk hQL
          have HQG := Aside0.mk hQG
          have HTN2 := Aside0.mk hTN
          clear hPV hPS hPG hQL hQG hTN
          obtain ⟨vv, hvv⟩ : ∃ vv, vv = valS sv lt (s.f2[j]'hlt) sd.length := ⟨_, rfl⟩
          rw [← hvv] at HPV2
          have HVV := Aside0.mk hvv
          clear hvv
          by_cases hj0 : j = 0
          · have hjb : ((j : Int) == 0) = true := by rw [hj0]; rfl
            have hp0 : pre = [] := List.length_eq_zero_iff.1 (by rw [HPL.out, hj0])
            subst hp0
            have HJ0 := Aside0.mk hj0
            clear hj0
            go_wp2_with (go_at_call 52; refine (HKK.out _ (HRd.out.alloc _)).mono ?_; rintro e w2 ⟨rfl, u1, u2, hR2, hF2⟩; have HR2 := Aside0.mk hR2; have HF2 := Aside0.mk (HFd.out.alloc _ |>.trans hF2); clear hR2 hF2; rw [← HVV.out])
            go_roundg (gk - 1)
            case measure => have := HJ.out; omega
            case rel => exact ⟨j + 1, [vv], _, _, u1, u2, by have := HJ.out; omega, by go_num, rfl, rfl, ⟨by rw [HJ0.out]; rfl⟩, ⟨by rw [HQL.out]; exact HPV2.out⟩, ⟨by rw [HQL.out]; exact HPS2.out⟩, ⟨by rw [HQL.out]; exact HPG2.out⟩, ⟨by rw [HQL.out, HQG.out]⟩, ⟨by rw [HQL.out]; exact HTN2.out⟩, HR2, HF2⟩
          · have hjb : ((j : Int) == 0) = false := beq_eq_false_iff_ne.2 (by omega)
            have hj1 : j = 1 := by omega
            obtain ⟨pa, rfl⟩ : ∃ pa, pre = [pa] := List.length_eq_one_iff.1 (by rw [HPL.out, hj1])
            have HJ1 := Aside0.mk hj1
            clear hj1 hj0
            go_wp2_with (go_at_call 52; refine (HKK.out _ (HRd.out.alloc _)).mono ?_; rintro e w2 ⟨rfl, u1, u2, hR2, hF2⟩; have HR2 := Aside0.mk hR2; have HF2 := Aside0.mk (HFd.out.alloc _ |>.trans hF2); clear hR2 hF2; rw [← HVV.out])
            go_roundg (gk - 1)
            case measure => have := HJ.out; omega
            case rel => exact ⟨j + 1, [pa, vv], _, _, u1, u2, by have := HJ.out; omega, by go_num, rfl, rfl, ⟨by rw [HJ1.out]; rfl⟩, ⟨by rw [HQL.out]; exact HPV2.out⟩, ⟨by rw [HQL.out]; exact HPS2.out⟩, ⟨by rw [HQL.out]; exact HPG2.out⟩, ⟨by rw [HQL.out, HQG.out]⟩, ⟨by rw [HQL.out]; exact HTN2.out⟩, HR2, HF2⟩
        · have hdr : s.f2.drop j = [] := List.drop_eq_nil_of_le (by omega)
          have hpv : pre = valL sv lt s.f2 K := by have := HPV.out; rw [hdr, valL, List.append_nil] at this; exact this
          have hps : sd = said ++ ownE s.f0 false ++ saidL sv lt s.f2 K := by have := HPS.out; rw [hdr, saidL, List.append_nil] at this; exact this
          have hpg : gd = good ++ ownE s.f0 false ++ goodL sv lt s.f2 K := by have := HPG.out; rw [hdr, goodL, List.append_nil] at this; exact this
          have hEQ := HEQ.out
          rw [← HKD.out, ← hpv] at hEQ
          obtain ⟨xa, hxa⟩ : ∃ xa, xa = pre.getD 0 false := ⟨_, rfl⟩
          obtain ⟨xb, hxb⟩ : ∃ xb, xb = pre.getD 1 false := ⟨_, rfl⟩
          rw [← hxa, ← hxb] at hEQ
          rw [← hxa, ← hxb]
          have HEQ2 := Aside0.mk hEQ
          have HPS2 := Aside0.mk hps
          have HPG2 := Aside0.mk hpg
          have hbxc := HBOX.out _ _ _ HFd.out
          have z0 : wr.cell? ⟨w.heap.size, 0, none⟩ = some (.int .i64 s.f0) := (blk_cell hbxc 0).trans rfl
          have z1 : wr.cell? ⟨w.heap.size, 1, none⟩ = some (.int .i64 s.f1) := (blk_cell hbxc 1).trans rfl
          have r0 := rdrB_0 HRd.out.blk
          have r1 := rdrB_1 HRd.out.blk
          have r2 := rdrB_2 HRd.out.blk
          have r3 := rdrB_3 HRd.out.blk
          have hkb : said.length ≤ 60 := by have := HBD.out; omega
          clear hdr hpv hps hpg hEQ hxa hxb hbxc
          go_upto_region 14 with fail
          go_cut [12] (fun v12 wx => v12 = .bool (tm && bitK sv said.length) ∧ wx = wr)
          case first =>
            cases tm with
            | false =>
              go_wp2
              go_meet
              exact ⟨rfl, rfl⟩
            | true =>
              go_wp2
              go_meet
              exact ⟨rfl, rfl⟩
          case rest =>
            obtain ⟨rfl, hwc⟩ := hcut
            rw [hwc]
            clear hwc wc
            rcases HOP.out with hop | hop | hop | hop | hop | hop | hop | hop
            · -- op 1
              have hmm := HM0.out
              rw [hop] at z0 hmm
              have htm : tm = false := by rw [← HT.out, hop]; rfl
              subst htm
              have hval : valS sv lt s said.length = (true) := by
                rw [HEQ2.out.1, hop]; unfold valOp
                rw [if_neg (by decide), if_neg (by decide), if_neg (by decide), if_neg (by decide), if_neg (by decide), if_neg (by decide), if_neg (by decide)]
              have HV := Aside0.mk hval
              have hfs : said ++ saidS sv lt s said.length = sd := by rw [HEQ2.out.2.1, HPS2.out, hop]; unfold ownE; rw [if_neg (by decide), if_neg (by decide), List.append_nil, List.nil_append]
              have hfg : good ++ goodS sv lt s said.length = gd := by rw [HEQ2.out.2.2, HPG2.out, hop]; unfold ownE; rw [if_neg (by decide), if_neg (by decide), List.append_nil, List.nil_append]
              have HFS := Aside0.mk hfs
              have HFG := Aside0.mk hfg
              clear hval hfs hfg
              clear hmm
              go_wp2
              go_ret
              exact ⟨by rw [HV.out]; rfl, x1, x2, by rw [HFS.out, HFG.out]; exact HRd.out, HF1.out.trans HFd.out⟩
            · -- op 2
              have hmm := HM0.out
              rw [hop] at z0 hmm
              have htm : tm = false := by rw [← HT.out, hop]; rfl
              subst htm
              have hval : valS sv lt s said.length = (bitS lt s.f1) := by
                rw [HEQ2.out.1, hop]; unfold valOp
                rw [if_pos rfl]
              have HV := Aside0.mk hval
              have hfs : said ++ saidS sv lt s said.length = sd := by rw [HEQ2.out.2.1, HPS2.out, hop]; unfold ownE; rw [if_neg (by decide), if_neg (by decide), List.append_nil, List.nil_append]
              have hfg : good ++ goodS sv lt s said.length = gd := by rw [HEQ2.out.2.2, HPG2.out, hop]; unfold ownE; rw [if_neg (by decide), if_neg (by decide), List.append_nil, List.nil_append]
              have HFS := Aside0.mk hfs
              have HFG := Aside0.mk hfg
              clear hval hfs hfg
              have hm2 : mostS 2 = 19 := by decide
              have hw : IntKind.u64.wrap s.f1 = s.f1 := u64_id hmm.1 (by omega)
              have HBT := Aside0.mk (show bitS lt s.f1 = ((Go.bits .and .u32 (lt / 2 ^ s.f1.toNat) 1) == 1) from by unfold bitS; rw [hw, ← shr_small (k := .u32) (x := lt) (y := s.f1) rfl (by show s.f1 ≤ 32; omega)])
              have hm0 := hmm.1
              have hm1 : s.f1 < 32 := by omega
              clear hw hm2 hmm
              go_wp2
              go_quiet (fail)
              go_wp2
              go_ret
              exact ⟨by rw [HV.out, HBT.out]; rfl, x1, x2, by rw [HFS.out, HFG.out]; exact HRd.out.drewN _, (HF1.out.trans HFd.out).drewN _⟩
            · -- op 3
              have hmm := HM0.out
              rw [hop] at z0 hmm
              have htm : tm = false := by rw [← HT.out, hop]; rfl
              subst htm
              have hval : valS sv lt s said.length = (!xa) := by
                rw [HEQ2.out.1, hop]; unfold valOp
                rw [if_neg (by decide), if_pos rfl]
              have HV := Aside0.mk hval
              have hfs : said ++ saidS sv lt s said.length = sd := by rw [HEQ2.out.2.1, HPS2.out, hop]; unfold ownE; rw [if_neg (by decide), if_neg (by decide), List.append_nil, List.nil_append]
              have hfg : good ++ goodS sv lt s said.length = gd := by rw [HEQ2.out.2.2, HPG2.out, hop]; unfold ownE; rw [if_neg (by decide), if_neg (by decide), List.append_nil, List.nil_append]
              have HFS := Aside0.mk hfs
              have HFG := Aside0.mk hfg
              clear hval hfs hfg
              clear hmm
              go_wp2
              go_ret
              exact ⟨by rw [HV.out]; rfl, x1, x2, by rw [HFS.out, HFG.out]; exact HRd.out, HF1.out.trans HFd.out⟩
            · -- op 4
              have hmm := HM0.out
              rw [hop] at z0 hmm
              have htm : tm = false := by rw [← HT.out, hop]; rfl
              subst htm
              have hval : valS sv lt s said.length = (xa && xb) := by
                rw [HEQ2.out.1, hop]; unfold valOp
                rw [if_neg (by decide), if_neg (by decide), if_pos rfl]
              have HV := Aside0.mk hval
              have hfs : said ++ saidS sv lt s said.length = sd := by rw [HEQ2.out.2.1, HPS2.out, hop]; unfold ownE; rw [if_neg (by decide), if_neg (by decide), List.append_nil, List.nil_append]
              have hfg : good ++ goodS sv lt s said.length = gd := by rw [HEQ2.out.2.2, HPG2.out, hop]; unfold ownE; rw [if_neg (by decide), if_neg (by decide), List.append_nil, List.nil_append]
              have HFS := Aside0.mk hfs
              have HFG := Aside0.mk hfg
              clear hval hfs hfg
              clear hmm
              cases xa
              · go_wp2
                go_ret
                exact ⟨by rw [HV.out]; rfl, x1, x2, by rw [HFS.out, HFG.out]; exact HRd.out, HF1.out.trans HFd.out⟩
              · go_wp2
                go_ret
                exact ⟨by rw [HV.out]; rfl, x1, x2, by rw [HFS.out, HFG.out]; exact HRd.out, HF1.out.trans HFd.out⟩
            · -- op 5
              have hmm := HM0.out
              rw [hop] at z0 hmm
              have htm : tm = false := by rw [← HT.out, hop]; rfl
              subst htm
              have hval : valS sv lt s said.length = (xa || xb) := by
                rw [HEQ2.out.1, hop]; unfold valOp
                rw [if_neg (by decide), if_neg (by decide), if_neg (by decide), if_pos rfl]
              have HV := Aside0.mk hval
              have hfs : said ++ saidS sv lt s said.length = sd := by rw [HEQ2.out.2.1, HPS2.out, hop]; unfold ownE; rw [if_neg (by decide), if_neg (by decide), List.append_nil, List.nil_append]
              have hfg : good ++ goodS sv lt s said.length = gd := by rw [HEQ2.out.2.2, HPG2.out, hop]; unfold ownE; rw [if_neg (by decide), if_neg (by decide), List.append_nil, List.nil_append]
              have HFS := Aside0.mk hfs
              have HFG := Aside0.mk hfg
              clear hval hfs hfg
              clear hmm
              cases xa
              · go_wp2
                go_ret
                exact ⟨by rw [HV.out]; rfl, x1, x2, by rw [HFS.out, HFG.out]; exact HRd.out, HF1.out.trans HFd.out⟩
              · go_wp2
                go_ret
                exact ⟨by rw [HV.out]; rfl, x1, x2, by rw [HFS.out, HFG.out]; exact HRd.out, HF1.out.trans HFd.out⟩
            · -- op 6
              have hmm := HM0.out
              rw [hop] at z0 hmm
              have htm : tm = true := by rw [← HT.out, hop]; rfl
              subst htm
              have hval : valS sv lt s said.length = (bitK sv said.length) := by
                rw [HEQ2.out.1, hop]; unfold valOp
                rw [if_neg (by decide), if_neg (by decide), if_neg (by decide), if_neg (by decide), if_pos rfl]
              have HV := Aside0.mk hval
              have hlsd : said.length < sd.length := by rw [HPS2.out, List.length_append, List.length_append, len_own, hop]; have : tS 6 = 1 := rfl; omega
              have hlgd : said.length < gd.length := by rw [← HLQ.out]; exact hlsd
              have hfs : said ++ saidS sv lt s said.length = sd.set said.length xa := by
                have h1 : ∀ b, ownE 6 b = [b] := fun b => rfl
                rw [HEQ2.out.2.1, HPS2.out, hval, hop, h1, h1, set_mid, List.append_assoc]; rfl
              have hfg : good ++ goodS sv lt s said.length = gd.set said.length true := by
                have h1 : ∀ b, ownE 6 b = [b] := fun b => rfl
                rw [HEQ2.out.2.2, HPG2.out, hval, hop, h1, h1, HLG.out, set_mid, List.append_assoc]; rfl
              have HFS := Aside0.mk hfs
              have HFG := Aside0.mk hfg
              obtain ⟨g1, q1, g2, q2, rfl, rfl, hne, p1, f1, p2, f2, hput⟩ := HRd.out.putL hlsd hlgd
              have HPUT := Aside0.mk hput
              have i0 : (0 : Int) ≤ (said.length : Int) := by omega
              have i1 : (said.length : Int) < (sd.length : Int) := by omega
              have i2 : (said.length : Int) < (gd.length : Int) := by omega
              have hne2 : ¬ g2 = g1 := fun e => hne e.symm
              generalize bitK sv said.length = bk at *
              clear hval hfs hfg hput hmm
              have hr1 : ¬ rb = g1 := fun e => HRd.out.rne1 (by rw [e]; rfl)
              have hr2 : ¬ rb = g2 := fun e => HRd.out.rne2 (by rw [e]; rfl)
              go_upto_region 25 with fail
              refine start_ (n := 15) (S := fun w' => w'.cell? ⟨rb, 2, none⟩ = some (.slice (some ⟨g1, 0, none⟩) sd.length q1) ∧ w'.cell? ⟨rb, 3, none⟩ = some (.slice (some ⟨g2, 0, none⟩) gd.length q2)) (ds := [12, 14]) #[false, false, false, false, false, false, false, false, false, false, false, false, false, false, false] (by kernel_rfl) rfl rfl ⟨r2, r3⟩ (fun hHeld => ?_)
              refine with_tabW rdr_value.tab25 rdr_value.bits25 (fun HT_ HW_ => ?_)
              refine pure_ (i := 0) (N := some 107) (v := ?_) (a' := ?_) #[true, false, false, false, false, false, false, false, false, false, false, false, false, false, false] rfl rfl (any_of HT_.out (by kernel_rfl)) (fun _ _ _ h => h) (Or.inl ⟨by rfl, ?_⟩) ?_ ?_
              rotate_left
              · intro w'
                go_simp
                with_reducible rfl
              rotate_left
              · simp only [Act.put, List.setIfInBounds_toArray, List.set_cons_zero, List.set_cons_succ, i64_w, i32_w]
                rfl
              refine pure_ (i := 1) (N := some 108) (v := ?_) (a' := ?_) #[true, true, false, false, false, false, false, false, false, false, false, false, false, false, false] rfl rfl (any_of HT_.out (by kernel_rfl)) (fun _ _ _ h => h) (Or.inl ⟨by rfl, ?_⟩) ?_ ?_
              rotate_left
              · intro w'
                go_simp
                with_reducible rfl
              rotate_left
              · simp only [Act.put, List.setIfInBounds_toArray, List.set_cons_zero, List.set_cons_succ, i64_w, i32_w]
                rfl
              refine pure_ (i := 2) (N := some 109) (v := ?_) (a' := ?_) #[true, true, true, false, false, false, false, false, false, false, false, false, false, false, false] rfl rfl (any_of HT_.out (by kernel_rfl)) (fun _ _ _ h => h) (Or.inl ⟨by rfl, ?_⟩) ?_ ?_
              rotate_left
              · intro w'
                go_simp
                with_reducible rfl
              rotate_left
              · simp only [Act.put, List.setIfInBounds_toArray, List.set_cons_zero, List.set_cons_succ, i64_w, i32_w]
                rfl
              refine pure_ (i := 4) (N := some 111) (v := ?_) (a' := ?_) #[true, true, true, false, true, false, false, false, false, false, false, false, false, false, false] rfl rfl (any_of HT_.out (by kernel_rfl)) (fun _ _ _ h => h) (Or.inl ⟨by rfl, ?_⟩) ?_ ?_
              rotate_left
              · intro w'
                go_simp
                with_reducible rfl
              rotate_left
              · simp only [Act.put, List.setIfInBounds_toArray, List.set_cons_zero, List.set_cons_succ, i64_w, i32_w]
                rfl
              refine pure_ (i := 5) (N := some 112) (v := ?_) (a' := ?_) #[true, true, true, false, true, true, false, false, false, false, false, false, false, false, false] rfl rfl (any_of HT_.out (by kernel_rfl)) (fun _ _ _ h => h) (Or.inl ⟨by rfl, ?_⟩) ?_ ?_
              rotate_left
              · intro w'
                go_simp
                with_reducible rfl
              rotate_left
              · simp only [Act.put, List.setIfInBounds_toArray, List.set_cons_zero, List.set_cons_succ, i64_w, i32_w]
                rfl
              refine pure_ (i := 6) (N := some 113) (v := ?_) (a' := ?_) #[true, true, true, false, true, true, true, false, false, false, false, false, false, false, false] rfl rfl (any_of HT_.out (by kernel_rfl)) (fun _ _ _ h => h) (Or.inl ⟨by rfl, ?_⟩) ?_ ?_
              rotate_left
              · intro w'
                go_simp
                with_reducible rfl
              rotate_left
              · simp only [Act.put, List.setIfInBounds_toArray, List.set_cons_zero, List.set_cons_succ, i64_w, i32_w]
                rfl
              refine pure_ (i := 7) (N := some 114) (v := ?_) (a' := ?_) #[true, true, true, false, true, true, true, true, false, false, false, false, false, false, false] rfl rfl (any_of HT_.out (by kernel_rfl)) (fun _ _ _ h => h) (Or.inl ⟨by rfl, ?_⟩) ?_ ?_
              rotate_left
              · intro w'
                go_simp
                with_reducible rfl
              rotate_left
              · simp only [Act.put, List.setIfInBounds_toArray, List.set_cons_zero, List.set_cons_succ, i64_w, i32_w]
                rfl
              refine pure_ (i := 9) (N := some 116) (v := ?_) (a' := ?_) #[true, true, true, false, true, true, true, true, false, true, false, false, false, false, false] rfl rfl (any_of HT_.out (by kernel_rfl)) (fun _ _ _ h => h) (Or.inl ⟨by rfl, ?_⟩) ?_ ?_
              rotate_left
              · intro w'
                go_simp
                with_reducible rfl
              rotate_left
              · simp only [Act.put, List.setIfInBounds_toArray, List.set_cons_zero, List.set_cons_succ, i64_w, i32_w]
                rfl
              refine pure_ (i := 10) (N := some 117) (v := ?_) (a' := ?_) #[true, true, true, false, true, true, true, true, false, true, true, false, false, false, false] rfl rfl (any_of HT_.out (by kernel_rfl)) (fun _ _ _ h => h) (Or.inl ⟨by rfl, ?_⟩) ?_ ?_
              rotate_left
              · intro w'
                go_simp
                with_reducible rfl
              rotate_left
              · simp only [Act.put, List.setIfInBounds_toArray, List.set_cons_zero, List.set_cons_succ, i64_w, i32_w]
                rfl
              refine take_ (i := 3) (N := some 110) (v := ?_) (a' := ?_) #[true, true, true, true, true, true, true, true, false, true, true, false, false, false, false] rfl rfl (take_ofW HT_.out HW_.out (by kernel_rfl)) (fun _ _ _ h => h) (Or.inl ⟨by rfl, ?_⟩) hHeld ?_ ?_
              rotate_left
              · rintro w' ⟨s0, s1⟩
                go_simp
                with_reducible rfl
              rotate_left
              · simp only [Act.put, List.setIfInBounds_toArray, List.set_cons_zero, List.set_cons_succ, i64_w, i32_w]
                rfl
              refine take_ (i := 8) (N := some 115) (v := ?_) (a' := ?_) #[true, true, true, true, true, true, true, true, true, true, true, false, false, false, false] rfl rfl (take_ofW HT_.out HW_.out (by kernel_rfl)) (fun _ _ _ h => h) (Or.inl ⟨by rfl, ?_⟩) hHeld ?_ ?_
              rotate_left
              · rintro w' ⟨s0, s1⟩
                go_simp
                with_reducible rfl
              rotate_left
              · simp only [Act.put, List.setIfInBounds_toArray, List.set_cons_zero, List.set_cons_succ, i64_w, i32_w]
                rfl
              refine pure_ (i := 11) (N := some 118) (v := ?_) (a' := ?_) #[true, true, true, true, true, true, true, true, true, true, true, true, false, false, false] rfl rfl (any_of HT_.out (by kernel_rfl)) (fun _ _ _ h => h) (Or.inl ⟨by rfl, ?_⟩) ?_ ?_
              rotate_left
              · intro w'
                go_simp
                with_reducible rfl
              rotate_left
              · simp only [Act.put, List.setIfInBounds_toArray, List.set_cons_zero, List.set_cons_succ, i64_w, i32_w]
                rfl
              refine last_ (i := 12) (N := none) #[true, true, true, true, true, true, true, true, true, true, true, true, true, false, false] rfl rfl (one_of HT_.out (by kernel_rfl)) (by decide) (fun K hK => ?_)
              refine skip_ (w1 := ?_) (by rfl) rfl ?_ ?_
              rotate_left
              · go_simp
                rfl
              refine hK.out _ _ ?_
              clear hK K
              refine pure_ (i := 13) (N := some 119) (v := ?_) (a' := ?_) #[true, true, true, true, true, true, true, true, true, true, true, true, true, true, false] rfl rfl (any_of HT_.out (by kernel_rfl)) (fun _ _ _ h => h) (Or.inl ⟨by rfl, ?_⟩) ?_ ?_
              rotate_left
              · intro w'
                go_simp
                with_reducible rfl
              rotate_left
              · simp only [Act.put, List.setIfInBounds_toArray, List.set_cons_zero, List.set_cons_succ, i64_w, i32_w]
                rfl
              refine last_ (i := 14) (N := none) #[true, true, true, true, true, true, true, true, true, true, true, true, true, true, true] rfl rfl (one_of HT_.out (by kernel_rfl)) (by decide) (fun K hK => ?_)
              refine skip_ (w1 := ?_) (by rfl) rfl ?_ ?_
              rotate_left
              · go_simp
                rfl
              refine hK.out _ _ ?_
              clear hK K
              refine done_ (done_of HT_.out (by kernel_rfl)) ?_
              go_wp2
              go_ret
              exact ⟨by rw [HV.out]; rfl, _, _, by rw [HFS.out, HFG.out]; exact (HPUT.out _ (below_drew1 (Below.refl _ _)) xa true).1, (HF1.out.trans HFd.out).trans (HPUT.out _ (below_drew1 (Below.refl _ _)) xa true).2⟩
            · -- op 7
              have hmm := HM0.out
              rw [hop] at z0 hmm
              have htm : tm = true := by rw [← HT.out, hop]; rfl
              subst htm
              have hval : valS sv lt s said.length = (xb || xa && bitK sv said.length) := by
                rw [HEQ2.out.1, hop]; unfold valOp
                rw [if_neg (by decide), if_neg (by decide), if_neg (by decide), if_neg (by decide), if_neg (by decide), if_pos rfl]
              have HV := Aside0.mk hval
              have hlsd : said.length < sd.length := by rw [HPS2.out, List.length_append, List.length_append, len_own, hop]; have : tS 7 = 1 := rfl; omega
              have hlgd : said.length < gd.length := by rw [← HLQ.out]; exact hlsd
              have hfs : said ++ saidS sv lt s said.length = sd.set said.length (xb || xa && bitK sv said.length) := by
                have h1 : ∀ b, ownE 7 b = [b] := fun b => rfl
                rw [HEQ2.out.2.1, HPS2.out, hval, hop, h1, h1, set_mid, List.append_assoc]; rfl
              have hfg : good ++ goodS sv lt s said.length = gd.set said.length (!(xb || xa && bitK sv said.length) || xb) := by
                have h1 : ∀ b, ownE 7 b = [b] := fun b => rfl
                rw [HEQ2.out.2.2, HPG2.out, hval, hop, h1, h1, HLG.out, set_mid, List.append_assoc]; rfl
              have HFS := Aside0.mk hfs
              have HFG := Aside0.mk hfg
              obtain ⟨g1, q1, g2, q2, rfl, rfl, hne, p1, f1, p2, f2, hput⟩ := HRd.out.putL hlsd hlgd
              have HPUT := Aside0.mk hput
              have i0 : (0 : Int) ≤ (said.length : Int) := by omega
              have i1 : (said.length : Int) < (sd.length : Int) := by omega
              have i2 : (said.length : Int) < (gd.length : Int) := by omega
              have hne2 : ¬ g2 = g1 := fun e => hne e.symm
              generalize bitK sv said.length = bk at *
              clear hval hfs hfg hput hmm
              have hr1 : ¬ rb = g1 := fun e => HRd.out.rne1 (by rw [e]; rfl)
              have hr2 : ¬ rb = g2 := fun e => HRd.out.rne2 (by rw [e]; rfl)
              go_upto_region 28 with fail
              go_cut [13] (fun v13 wx => v13 = .bool (xb || xa && bk) ∧ wx = wr)
              case first =>
                cases xb <;> cases xa <;> (
                  go_wp2
                  go_meet
                  exact ⟨by first | rfl | (cases bk <;> rfl), rfl⟩)
              case rest =>
                obtain ⟨rfl, hwc⟩ := hcut
                rw [hwc]
                clear hwc wc
                generalize (xb || xa && bk) = is at *
                cases is with
                | false =>
                  go_upto_region 29 with fail
                  refine start_ (n := 20) (S := fun w' => w'.cell? ⟨rb, 2, none⟩ = some (.slice (some ⟨g1, 0, none⟩) sd.length q1) ∧ w'.cell? ⟨rb, 3, none⟩ = some (.slice (some ⟨g2, 0, none⟩) gd.length q2)) (ds := [17, 19]) #[false, false, false, false, false, false, false, false, false, false, false, false, false, false, false, false, false, false, false, false] (by kernel_rfl) rfl rfl ⟨r2, r3⟩ (fun hHeld => ?_)
                  refine with_tabW rdr_value.tab29 rdr_value.bits29 (fun HT_ HW_ => ?_)
                  refine pure_ (i := 0) (N := some 130) (v := ?_) (a' := ?_) #[true, false, false, false, false, false, false, false, false, false, false, false, false, false, false, false, false, false, false, false] rfl rfl (any_of HT_.out (by kernel_rfl)) (fun _ _ _ h => h) (Or.inl ⟨by rfl, ?_⟩) ?_ ?_
                  rotate_left
                  · intro w'
                    go_simp
                    with_reducible rfl
                  rotate_left
                  · simp only [Act.put, List.setIfInBounds_toArray, List.set_cons_zero, List.set_cons_succ, i64_w, i32_w]
                    rfl
                  refine pure_ (i := 1) (N := some 131) (v := ?_) (a' := ?_) #[true, true, false, false, false, false, false, false, false, false, false, false, false, false, false, false, false, false, false, false] rfl rfl (any_of HT_.out (by kernel_rfl)) (fun _ _ _ h => h) (Or.inl ⟨by rfl, ?_⟩) ?_ ?_
                  rotate_left
                  · intro w'
                    go_simp
                    with_reducible rfl
                  rotate_left
                  · simp only [Act.put, List.setIfInBounds_toArray, List.set_cons_zero, List.set_cons_succ, i64_w, i32_w]
                    rfl
                  refine pure_ (i := 2) (N := some 132) (v := ?_) (a' := ?_) #[true, true, true, false, false, false, false, false, false, false, false, false, false, false, false, false, false, false, false, false] rfl rfl (any_of HT_.out (by kernel_rfl)) (fun _ _ _ h => h) (Or.inl ⟨by rfl, ?_⟩) ?_ ?_
                  rotate_left
                  · intro w'
                    go_simp
                    with_reducible rfl
                  rotate_left
                  · simp only [Act.put, List.setIfInBounds_toArray, List.set_cons_zero, List.set_cons_succ, i64_w, i32_w]
                    rfl
                  refine pure_ (i := 4) (N := some 134) (v := ?_) (a' := ?_) #[true, true, true, false, true, false, false, false, false, false, false, false, false, false, false, false, false, false, false, false] rfl rfl (any_of HT_.out (by kernel_rfl)) (fun _ _ _ h => h) (Or.inl ⟨by rfl, ?_⟩) ?_ ?_
                  rotate_left
                  · intro w'
                    go_simp
                    with_reducible rfl
                  rotate_left
                  · simp only [Act.put, List.setIfInBounds_toArray, List.set_cons_zero, List.set_cons_succ, i64_w, i32_w]
                    rfl
                  refine pure_ (i := 5) (N := some 135) (v := ?_) (a' := ?_) #[true, true, true, false, true, true, false, false, false, false, false, false, false, false, false, false, false, false, false, false] rfl rfl (any_of HT_.out (by kernel_rfl)) (fun _ _ _ h => h) (Or.inl ⟨by rfl, ?_⟩) ?_ ?_
                  rotate_left
                  · intro w'
                    go_simp
                    with_reducible rfl
                  rotate_left
                  · simp only [Act.put, List.setIfInBounds_toArray, List.set_cons_zero, List.set_cons_succ, i64_w, i32_w]
                    rfl
                  refine pure_ (i := 6) (N := some 136) (v := ?_) (a' := ?_) #[true, true, true, false, true, true, true, false, false, false, false, false, false, false, false, false, false, false, false, false] rfl rfl (any_of HT_.out (by kernel_rfl)) (fun _ _ _ h => h) (Or.inl ⟨by rfl, ?_⟩) ?_ ?_
                  rotate_left
                  · intro w'
                    go_simp
                    with_reducible rfl
                  rotate_left
                  · simp only [Act.put, List.setIfInBounds_toArray, List.set_cons_zero, List.set_cons_succ, i64_w, i32_w]
                    rfl
                  refine pure_ (i := 7) (N := some 137) (v := ?_) (a' := ?_) #[true, true, true, false, true, true, true, true, false, false, false, false, false, false, false, false, false, false, false, false] rfl rfl (any_of HT_.out (by kernel_rfl)) (fun _ _ _ h => h) (Or.inl ⟨by rfl, ?_⟩) ?_ ?_
                  rotate_left
                  · intro w'
                    go_simp
                    with_reducible rfl
                  rotate_left
                  · simp only [Act.put, List.setIfInBounds_toArray, List.set_cons_zero, List.set_cons_succ, i64_w, i32_w]
                    rfl
                  refine pure_ (i := 9) (N := some 139) (v := ?_) (a' := ?_) #[true, true, true, false, true, true, true, true, false, true, false, false, false, false, false, false, false, false, false, false] rfl rfl (any_of HT_.out (by kernel_rfl)) (fun _ _ _ h => h) (Or.inl ⟨by rfl, ?_⟩) ?_ ?_
                  rotate_left
                  · intro w'
                    go_simp
                    with_reducible rfl
                  rotate_left
                  · simp only [Act.put, List.setIfInBounds_toArray, List.set_cons_zero, List.set_cons_succ, i64_w, i32_w]
                    rfl
                  refine pure_ (i := 10) (N := some 140) (v := ?_) (a' := ?_) #[true, true, true, false, true, true, true, true, false, true, true, false, false, false, false, false, false, false, false, false] rfl rfl (any_of HT_.out (by kernel_rfl)) (fun _ _ _ h => h) (Or.inl ⟨by rfl, ?_⟩) ?_ ?_
                  rotate_left
                  · intro w'
                    go_simp
                    with_reducible rfl
                  rotate_left
                  · simp only [Act.put, List.setIfInBounds_toArray, List.set_cons_zero, List.set_cons_succ, i64_w, i32_w]
                    rfl
                  refine pure_ (i := 11) (N := some 141) (v := ?_) (a' := ?_) #[true, true, true, false, true, true, true, true, false, true, true, true, false, false, false, false, false, false, false, false] rfl rfl (any_of HT_.out (by kernel_rfl)) (fun _ _ _ h => h) (Or.inl ⟨by rfl, ?_⟩) ?_ ?_
                  rotate_left
                  · intro w'
                    go_simp
                    with_reducible rfl
                  rotate_left
                  · simp only [Act.put, List.setIfInBounds_toArray, List.set_cons_zero, List.set_cons_succ, i64_w, i32_w]
                    rfl
                  refine pure_ (i := 12) (N := some 142) (v := ?_) (a' := ?_) #[true, true, true, false, true, true, true, true, false, true, true, true, true, false, false, false, false, false, false, false] rfl rfl (any_of HT_.out (by kernel_rfl)) (fun _ _ _ h => h) (Or.inl ⟨by rfl, ?_⟩) ?_ ?_
                  rotate_left
                  · intro w'
                    go_simp
                    with_reducible rfl
                  rotate_left
                  · simp only [Act.put, List.setIfInBounds_toArray, List.set_cons_zero, List.set_cons_succ, i64_w, i32_w]
                    rfl
                  refine pure_ (i := 13) (N := some 143) (v := ?_) (a' := ?_) #[true, true, true, false, true, true, true, true, false, true, true, true, true, true, false, false, false, false, false, false] rfl rfl (any_of HT_.out (by kernel_rfl)) (fun _ _ _ h => h) (Or.inl ⟨by rfl, ?_⟩) ?_ ?_
                  rotate_left
                  · intro w'
                    go_simp
                    with_reducible rfl
                  rotate_left
                  · simp only [Act.put, List.setIfInBounds_toArray, List.set_cons_zero, List.set_cons_succ, i64_w, i32_w]
                    rfl
                  refine pure_ (i := 14) (N := some 144) (v := undef) (a' := ?_) #[true, true, true, false, true, true, true, true, false, true, true, true, true, true, true, false, false, false, false, false] rfl rfl (any_of HT_.out (by kernel_rfl)) (fun _ _ _ h => h) (Or.inr ⟨by rfl, rfl⟩) ?_ ?_
                  rotate_left
                  · simp only [Act.put, List.setIfInBounds_toArray, List.set_cons_zero, List.set_cons_succ, i64_w, i32_w]
                    rfl
                  refine pure_ (i := 15) (N := some 145) (v := ?_) (a' := ?_) #[true, true, true, false, true, true, true, true, false, true, true, true, true, true, true, true, false, false, false, false] rfl rfl (any_of HT_.out (by kernel_rfl)) (fun _ _ _ h => h) (Or.inl ⟨by rfl, ?_⟩) ?_ ?_
                  rotate_left
                  · intro w'
                    go_simp
                    with_reducible rfl
                  rotate_left
                  · simp only [Act.put, List.setIfInBounds_toArray, List.set_cons_zero, List.set_cons_succ, i64_w, i32_w]
                    rfl
                  refine take_ (i := 3) (N := some 133) (v := ?_) (a' := ?_) #[true, true, true, true, true, true, true, true, false, true, true, true, true, true, true, true, false, false, false, false] rfl rfl (take_ofW HT_.out HW_.out (by kernel_rfl)) (fun _ _ _ h => h) (Or.inl ⟨by rfl, ?_⟩) hHeld ?_ ?_
                  rotate_left
                  · rintro w' ⟨s0, s1⟩
                    go_simp
                    with_reducible rfl
                  rotate_left
                  · simp only [Act.put, List.setIfInBounds_toArray, List.set_cons_zero, List.set_cons_succ, i64_w, i32_w]
                    rfl
                  refine take_ (i := 8) (N := some 138) (v := ?_) (a' := ?_) #[true, true, true, true, true, true, true, true, true, true, true, true, true, true, true, true, false, false, false, false] rfl rfl (take_ofW HT_.out HW_.out (by kernel_rfl)) (fun _ _ _ h => h) (Or.inl ⟨by rfl, ?_⟩) hHeld ?_ ?_
                  rotate_left
                  · rintro w' ⟨s0, s1⟩
                    go_simp
                    with_reducible rfl
                  rotate_left
                  · simp only [Act.put, List.setIfInBounds_toArray, List.set_cons_zero, List.set_cons_succ, i64_w, i32_w]
                    rfl
                  refine pure_ (i := 16) (N := some 146) (v := ?_) (a' := ?_) #[true, true, true, true, true, true, true, true, true, true, true, true, true, true, true, true, true, false, false, false] rfl rfl (any_of HT_.out (by kernel_rfl)) (fun _ _ _ h => h) (Or.inl ⟨by rfl, ?_⟩) ?_ ?_
                  rotate_left
                  · intro w'
                    go_simp
                    with_reducible rfl
                  rotate_left
                  · simp only [Act.put, List.setIfInBounds_toArray, List.set_cons_zero, List.set_cons_succ, i64_w, i32_w]
                    rfl
                  refine last_ (i := 17) (N := none) #[true, true, true, true, true, true, true, true, true, true, true, true, true, true, true, true, true, true, false, false] rfl rfl (one_of HT_.out (by kernel_rfl)) (by decide) (fun K hK => ?_)
                  refine skip_ (w1 := ?_) (by rfl) rfl ?_ ?_
                  rotate_left
                  · go_simp
                    rfl
                  refine hK.out _ _ ?_
                  clear hK K
                  refine pure_ (i := 18) (N := some 147) (v := ?_) (a' := ?_) #[true, true, true, true, true, true, true, true, true, true, true, true, true, true, true, true, true, true, true, false] rfl rfl (any_of HT_.out (by kernel_rfl)) (fun _ _ _ h => h) (Or.inl ⟨by rfl, ?_⟩) ?_ ?_
                  rotate_left
                  · intro w'
                    go_simp
                    with_reducible rfl
                  rotate_left
                  · simp only [Act.put, List.setIfInBounds_toArray, List.set_cons_zero, List.set_cons_succ, i64_w, i32_w]
                    rfl
                  refine last_ (i := 19) (N := none) #[true, true, true, true, true, true, true, true, true, true, true, true, true, true, true, true, true, true, true, true] rfl rfl (one_of HT_.out (by kernel_rfl)) (by decide) (fun K hK => ?_)
                  refine skip_ (w1 := ?_) (by rfl) rfl ?_ ?_
                  rotate_left
                  · go_simp
                    rfl
                  refine hK.out _ _ ?_
                  clear hK K
                  refine done_ (done_of HT_.out (by kernel_rfl)) ?_
                  go_wp2
                  go_ret
                  exact ⟨by rw [HV.out]; rfl, _, _, by rw [HFS.out, HFG.out]; exact (HPUT.out _ (below_drew1 (Below.refl _ _)) _ _).1, (HF1.out.trans HFd.out).trans (HPUT.out _ (below_drew1 (Below.refl _ _)) _ _).2⟩
                | true =>
                  go_upto_region 29 with fail
                  refine start_ (n := 20) (S := fun w' => w'.cell? ⟨rb, 2, none⟩ = some (.slice (some ⟨g1, 0, none⟩) sd.length q1) ∧ w'.cell? ⟨rb, 3, none⟩ = some (.slice (some ⟨g2, 0, none⟩) gd.length q2)) (ds := [17, 19]) #[false, false, false, false, false, false, false, false, false, false, false, false, false, false, false, false, false, false, false, false] (by kernel_rfl) rfl rfl ⟨r2, r3⟩ (fun hHeld => ?_)
                  refine with_tabW rdr_value.tab29 rdr_value.bits29 (fun HT_ HW_ => ?_)
                  refine pure_ (i := 0) (N := some 130) (v := ?_) (a' := ?_) #[true, false, false, false, false, false, false, false, false, false, false, false, false, false, false, false, false, false, false, false] rfl rfl (any_of HT_.out (by kernel_rfl)) (fun _ _ _ h => h) (Or.inl ⟨by rfl, ?_⟩) ?_ ?_
                  rotate_left
                  · intro w'
                    go_simp
                    with_reducible rfl
                  rotate_left
                  · simp only [Act.put, List.setIfInBounds_toArray, List.set_cons_zero, List.set_cons_succ, i64_w, i32_w]
                    rfl
                  refine pure_ (i := 1) (N := some 131) (v := ?_) (a' := ?_) #[true, true, false, false, false, false, false, false, false, false, false, false, false, false, false, false, false, false, false, false] rfl rfl (any_of HT_.out (by kernel_rfl)) (fun _ _ _ h => h) (Or.inl ⟨by rfl, ?_⟩) ?_ ?_
                  rotate_left
                  · intro w'
                    go_simp
                    with_reducible rfl
                  rotate_left
                  · simp only [Act.put, List.setIfInBounds_toArray, List.set_cons_zero, List.set_cons_succ, i64_w, i32_w]
                    rfl
                  refine pure_ (i := 2) (N := some 132) (v := ?_) (a' := ?_) #[true, true, true, false, false, false, false, false, false, false, false, false, false, false, false, false, false, false, false, false] rfl rfl (any_of HT_.out (by kernel_rfl)) (fun _ _ _ h => h) (Or.inl ⟨by rfl, ?_⟩) ?_ ?_
                  rotate_left
                  · intro w'
                    go_simp
                    with_reducible rfl
                  rotate_left
                  · simp only [Act.put, List.setIfInBounds_toArray, List.set_cons_zero, List.set_cons_succ, i64_w, i32_w]
                    rfl
                  refine pure_ (i := 4) (N := some 134) (v := ?_) (a' := ?_) #[true, true, true, false, true, false, false, false, false, false, false, false, false, false, false, false, false, false, false, false] rfl rfl (any_of HT_.out (by kernel_rfl)) (fun _ _ _ h => h) (Or.inl ⟨by rfl, ?_⟩) ?_ ?_
                  rotate_left
                  · intro w'
                    go_simp
                    with_reducible rfl
                  rotate_left
                  · simp only [Act.put, List.setIfInBounds_toArray, List.set_cons_zero, List.set_cons_succ, i64_w, i32_w]
                    rfl
                  refine pure_ (i := 5) (N := some 135) (v := ?_) (a' := ?_) #[true, true, true, false, true, true, false, false, false, false, false, false, false, false, false, false, false, false, false, false] rfl rfl (any_of HT_.out (by kernel_rfl)) (fun _ _ _ h => h) (Or.inl ⟨by rfl, ?_⟩) ?_ ?_
                  rotate_left
                  · intro w'
                    go_simp
                    with_reducible rfl
                  rotate_left
                  · simp only [Act.put, List.setIfInBounds_toArray, List.set_cons_zero, List.set_cons_succ, i64_w, i32_w]
                    rfl
                  refine pure_ (i := 6) (N := some 136) (v := ?_) (a' := ?_) #[true, true, true, false, true, true, true, false, false, false, false, false, false, false, false, false, false, false, false, false] rfl rfl (any_of HT_.out (by kernel_rfl)) (fun _ _ _ h => h) (Or.inl ⟨by rfl, ?_⟩) ?_ ?_
                  rotate_left
                  · intro w'
                    go_simp
                    with_reducible rfl
                  rotate_left
                  · simp only [Act.put, List.setIfInBounds_toArray, List.set_cons_zero, List.set_cons_succ, i64_w, i32_w]
                    rfl
                  refine pure_ (i := 7) (N := some 137) (v := ?_) (a' := ?_) #[true, true, true, false, true, true, true, true, false, false, false, false, false, false, false, false, false, false, false, false] rfl rfl (any_of HT_.out (by kernel_rfl)) (fun _ _ _ h => h) (Or.inl ⟨by rfl, ?_⟩) ?_ ?_
                  rotate_left
                  · intro w'
                    go_simp
                    with_reducible rfl
                  rotate_left
                  · simp only [Act.put, List.setIfInBounds_toArray, List.set_cons_zero, List.set_cons_succ, i64_w, i32_w]
                    rfl
                  refine pure_ (i := 9) (N := some 139) (v := ?_) (a' := ?_) #[true, true, true, false, true, true, true, true, false, true, false, false, false, false, false, false, false, false, false, false] rfl rfl (any_of HT_.out (by kernel_rfl)) (fun _ _ _ h => h) (Or.inl ⟨by rfl, ?_⟩) ?_ ?_
                  rotate_left
                  · intro w'
                    go_simp
                    with_reducible rfl
                  rotate_left
                  · simp only [Act.put, List.setIfInBounds_toArray, List.set_cons_zero, List.set_cons_succ, i64_w, i32_w]
                    rfl
                  refine pure_ (i := 10) (N := some 140) (v := ?_) (a' := ?_) #[true, true, true, false, true, true, true, true, false, true, true, false, false, false, false, false, false, false, false, false] rfl rfl (any_of HT_.out (by kernel_rfl)) (fun _ _ _ h => h) (Or.inl ⟨by rfl, ?_⟩) ?_ ?_
                  rotate_left
                  · intro w'
                    go_simp
                    with_reducible rfl
                  rotate_left
                  · simp only [Act.put, List.setIfInBounds_toArray, List.set_cons_zero, List.set_cons_succ, i64_w, i32_w]
                    rfl
                  refine pure_ (i := 11) (N := some 141) (v := ?_) (a' := ?_) #[true, true, true, false, true, true, true, true, false, true, true, true, false, false, false, false, false, false, false, false] rfl rfl (any_of HT_.out (by kernel_rfl)) (fun _ _ _ h => h) (Or.inl ⟨by rfl, ?_⟩) ?_ ?_
                  rotate_left
                  · intro w'
                    go_simp
                    with_reducible rfl
                  rotate_left
                  · simp only [Act.put, List.setIfInBounds_toArray, List.set_cons_zero, List.set_cons_succ, i64_w, i32_w]
                    rfl
                  refine pure_ (i := 12) (N := some 142) (v := ?_) (a' := ?_) #[true, true, true, false, true, true, true, true, false, true, true, true, true, false, false, false, false, false, false, false] rfl rfl (any_of HT_.out (by kernel_rfl)) (fun _ _ _ h => h) (Or.inl ⟨by rfl, ?_⟩) ?_ ?_
                  rotate_left
                  · intro w'
                    go_simp
                    with_reducible rfl
                  rotate_left
                  · simp only [Act.put, List.setIfInBounds_toArray, List.set_cons_zero, List.set_cons_succ, i64_w, i32_w]
                    rfl
                  refine pure_ (i := 13) (N := some 143) (v := ?_) (a' := ?_) #[true, true, true, false, true, true, true, true, false, true, true, true, true, true, false, false, false, false, false, false] rfl rfl (any_of HT_.out (by kernel_rfl)) (fun _ _ _ h => h) (Or.inl ⟨by rfl, ?_⟩) ?_ ?_
                  rotate_left
                  · intro w'
                    go_simp
                    with_reducible rfl
                  rotate_left
                  · simp only [Act.put, List.setIfInBounds_toArray, List.set_cons_zero, List.set_cons_succ, i64_w, i32_w]
                    rfl
                  refine pure_ (i := 14) (N := some 144) (v := ?_) (a' := ?_) #[true, true, true, false, true, true, true, true, false, true, true, true, true, true, true, false, false, false, false, false] rfl rfl (any_of HT_.out (by kernel_rfl)) (fun _ _ _ h => h) (Or.inl ⟨by rfl, ?_⟩) ?_ ?_
                  rotate_left
                  · intro w'
                    go_simp
                    with_reducible rfl
                  rotate_left
                  · simp only [Act.put, List.setIfInBounds_toArray, List.set_cons_zero, List.set_cons_succ, i64_w, i32_w]
                    rfl
                  refine pure_ (i := 15) (N := some 145) (v := ?_) (a' := ?_) #[true, true, true, false, true, true, true, true, false, true, true, true, true, true, true, true, false, false, false, false] rfl rfl (any_of HT_.out (by kernel_rfl)) (fun _ _ _ h => h) (Or.inl ⟨by rfl, ?_⟩) ?_ ?_
                  rotate_left
                  · intro w'
                    go_simp
                    with_reducible rfl
                  rotate_left
                  · simp only [Act.put, List.setIfInBounds_toArray, List.set_cons_zero, List.set_cons_succ, i64_w, i32_w]
                    rfl
                  refine take_ (i := 3) (N := some 133) (v := ?_) (a' := ?_) #[true, true, true, true, true, true, true, true, false, true, true, true, true, true, true, true, false, false, false, false] rfl rfl (take_ofW HT_.out HW_.out (by kernel_rfl)) (fun _ _ _ h => h) (Or.inl ⟨by rfl, ?_⟩) hHeld ?_ ?_
                  rotate_left
                  · rintro w' ⟨s0, s1⟩
                    go_simp
                    with_reducible rfl
                  rotate_left
                  · simp only [Act.put, List.setIfInBounds_toArray, List.set_cons_zero, List.set_cons_succ, i64_w, i32_w]
                    rfl
                  refine take_ (i := 8) (N := some 138) (v := ?_) (a' := ?_) #[true, true, true, true, true, true, true, true, true, true, true, true, true, true, true, true, false, false, false, false] rfl rfl (take_ofW HT_.out HW_.out (by kernel_rfl)) (fun _ _ _ h => h) (Or.inl ⟨by rfl, ?_⟩) hHeld ?_ ?_
                  rotate_left
                  · rintro w' ⟨s0, s1⟩
                    go_simp
                    with_reducible rfl
                  rotate_left
                  · simp only [Act.put, List.setIfInBounds_toArray, List.set_cons_zero, List.set_cons_succ, i64_w, i32_w]
                    rfl
                  refine pure_ (i := 16) (N := some 146) (v := ?_) (a' := ?_) #[true, true, true, true, true, true, true, true, true, true, true, true, true, true, true, true, true, false, false, false] rfl rfl (any_of HT_.out (by kernel_rfl)) (fun _ _ _ h => h) (Or.inl ⟨by rfl, ?_⟩) ?_ ?_
                  rotate_left
                  · intro w'
                    go_simp
                    with_reducible rfl
                  rotate_left
                  · simp only [Act.put, List.setIfInBounds_toArray, List.set_cons_zero, List.set_cons_succ, i64_w, i32_w]
                    rfl
                  refine last_ (i := 17) (N := none) #[true, true, true, true, true, true, true, true, true, true, true, true, true, true, true, true, true, true, false, false] rfl rfl (one_of HT_.out (by kernel_rfl)) (by decide) (fun K hK => ?_)
                  refine skip_ (w1 := ?_) (by rfl) rfl ?_ ?_
                  rotate_left
                  · go_simp
                    rfl
                  refine hK.out _ _ ?_
                  clear hK K
                  refine pure_ (i := 18) (N := some 147) (v := ?_) (a' := ?_) #[true, true, true, true, true, true, true, true, true, true, true, true, true, true, true, true, true, true, true, false] rfl rfl (any_of HT_.out (by kernel_rfl)) (fun _ _ _ h => h) (Or.inl ⟨by rfl, ?_⟩) ?_ ?_
                  rotate_left
                  · intro w'
                    go_simp
                    with_reducible rfl
                  rotate_left
                  · simp only [Act.put, List.setIfInBounds_toArray, List.set_cons_zero, List.set_cons_succ, i64_w, i32_w]
                    rfl
                  refine last_ (i := 19) (N := none) #[true, true, true, true, true, true, true, true, true, true, true, true, true, true, true, true, true, true, true, true] rfl rfl (one_of HT_.out (by kernel_rfl)) (by decide) (fun K hK => ?_)
                  refine skip_ (w1 := ?_) (by rfl) rfl ?_ ?_
                  rotate_left
                  · go_simp
                    rfl
                  refine hK.out _ _ ?_
                  clear hK K
                  refine done_ (done_of HT_.out (by kernel_rfl)) ?_
                  go_wp2
                  go_ret
                  exact ⟨by rw [HV.out]; rfl, _, _, by rw [HFS.out, HFG.out]; exact (HPUT.out _ (below_drew1 (Below.refl _ _)) _ _).1, (HF1.out.trans HFd.out).trans (HPUT.out _ (below_drew1 (Below.refl _ _)) _ _).2⟩
            · -- op 8
              have hmm := HM0.out
              rw [hop] at z0 hmm
              have htm : tm = true := by rw [← HT.out, hop]; rfl
              subst htm
              have hval : valS sv lt s said.length = (xb && (xa || bitK sv said.length)) := by
                rw [HEQ2.out.1, hop]; unfold valOp
                rw [if_neg (by decide), if_neg (by decide), if_neg (by decide), if_neg (by decide), if_neg (by decide), if_neg (by decide), if_pos rfl]
              have HV := Aside0.mk hval
              have hlsd : said.length < sd.length := by rw [HPS2.out, List.length_append, List.length_append, len_own, hop]; have : tS 8 = 1 := rfl; omega
              have hlgd : said.length < gd.length := by rw [← HLQ.out]; exact hlsd
              have hfs : said ++ saidS sv lt s said.length = sd.set said.length (xb && (xa || bitK sv said.length)) := by
                have h1 : ∀ b, ownE 8 b = [b] := fun b => rfl
                rw [HEQ2.out.2.1, HPS2.out, hval, hop, h1, h1, set_mid, List.append_assoc]; rfl
              have hfg : good ++ goodS sv lt s said.length = gd.set said.length ((xb && (xa || bitK sv said.length)) || !xb) := by
                have h1 : ∀ b, ownE 8 b = [b] := fun b => rfl
                rw [HEQ2.out.2.2, HPG2.out, hval, hop, h1, h1, HLG.out, set_mid, List.append_assoc]; rfl
              have HFS := Aside0.mk hfs
              have HFG := Aside0.mk hfg
              obtain ⟨g1, q1, g2, q2, rfl, rfl, hne, p1, f1, p2, f2, hput⟩ := HRd.out.putL hlsd hlgd
              have HPUT := Aside0.mk hput
              have i0 : (0 : Int) ≤ (said.length : Int) := by omega
              have i1 : (said.length : Int) < (sd.length : Int) := by omega
              have i2 : (said.length : Int) < (gd.length : Int) := by omega
              have hne2 : ¬ g2 = g1 := fun e => hne e.symm
              generalize bitK sv said.length = bk at *
              clear hval hfs hfg hput hmm
              have hr1 : ¬ rb = g1 := fun e => HRd.out.rne1 (by rw [e]; rfl)
              have hr2 : ¬ rb = g2 := fun e => HRd.out.rne2 (by rw [e]; rfl)
              go_upto_region 32 with fail
              go_cut [14] (fun v13 wx => v13 = .bool (xb && (xa || bk)) ∧ wx = wr)
              case first =>
                cases xb <;> cases xa <;> (
                  go_wp2
                  go_meet
                  exact ⟨by first | rfl | (cases bk <;> rfl), rfl⟩)
              case rest =>
                obtain ⟨rfl, hwc⟩ := hcut
                rw [hwc]
                clear hwc wc
                generalize (xb && (xa || bk)) = is at *
                cases is with
                | false =>
                  go_upto_region 33 with fail
                  refine start_ (n := 20) (S := fun w' => w'.cell? ⟨rb, 2, none⟩ = some (.slice (some ⟨g1, 0, none⟩) sd.length q1) ∧ w'.cell? ⟨rb, 3, none⟩ = some (.slice (some ⟨g2, 0, none⟩) gd.length q2)) (ds := [17, 19]) #[false, false, false, false, false, false, false, false, false, false, false, false, false, false, false, false, false, false, false, false] (by kernel_rfl) rfl rfl ⟨r2, r3⟩ (fun hHeld => ?_)
                  refine with_tabW rdr_value.tab33 rdr_value.bits33 (fun HT_ HW_ => ?_)
                  refine pure_ (i := 0) (N := some 158) (v := ?_) (a' := ?_) #[true, false, false, false, false, false, false, false, false, false, false, false, false, false, false, false, false, false, false, false] rfl rfl (any_of HT_.out (by kernel_rfl)) (fun _ _ _ h => h) (Or.inl ⟨by rfl, ?_⟩) ?_ ?_
                  rotate_left
                  · intro w'
                    go_simp
                    with_reducible rfl
                  rotate_left
                  · simp only [Act.put, List.setIfInBounds_toArray, List.set_cons_zero, List.set_cons_succ, i64_w, i32_w]
                    rfl
                  refine pure_ (i := 1) (N := some 159) (v := ?_) (a' := ?_) #[true, true, false, false, false, false, false, false, false, false, false, false, false, false, false, false, false, false, false, false] rfl rfl (any_of HT_.out (by kernel_rfl)) (fun _ _ _ h => h) (Or.inl ⟨by rfl, ?_⟩) ?_ ?_
                  rotate_left
                  · intro w'
                    go_simp
                    with_reducible rfl
                  rotate_left
                  · simp only [Act.put, List.setIfInBounds_toArray, List.set_cons_zero, List.set_cons_succ, i64_w, i32_w]
                    rfl
                  refine pure_ (i := 2) (N := some 160) (v := ?_) (a' := ?_) #[true, true, true, false, false, false, false, false, false, false, false, false, false, false, false, false, false, false, false, false] rfl rfl (any_of HT_.out (by kernel_rfl)) (fun _ _ _ h => h) (Or.inl ⟨by rfl, ?_⟩) ?_ ?_
                  rotate_left
                  · intro w'
                    go_simp
                    with_reducible rfl
                  rotate_left
                  · simp only [Act.put, List.setIfInBounds_toArray, List.set_cons_zero, List.set_cons_succ, i64_w, i32_w]
                    rfl
                  refine pure_ (i := 4) (N := some 162) (v := ?_) (a' := ?_) #[true, true, true, false, true, false, false, false, false, false, false, false, false, false, false, false, false, false, false, false] rfl rfl (any_of HT_.out (by kernel_rfl)) (fun _ _ _ h => h) (Or.inl ⟨by rfl, ?_⟩) ?_ ?_
                  rotate_left
                  · intro w'
                    go_simp
                    with_reducible rfl
                  rotate_left
                  · simp only [Act.put, List.setIfInBounds_toArray, List.set_cons_zero, List.set_cons_succ, i64_w, i32_w]
                    rfl
                  refine pure_ (i := 5) (N := some 163) (v := ?_) (a' := ?_) #[true, true, true, false, true, true, false, false, false, false, false, false, false, false, false, false, false, false, false, false] rfl rfl (any_of HT_.out (by kernel_rfl)) (fun _ _ _ h => h) (Or.inl ⟨by rfl, ?_⟩) ?_ ?_
                  rotate_left
                  · intro w'
                    go_simp
                    with_reducible rfl
                  rotate_left
                  · simp only [Act.put, List.setIfInBounds_toArray, List.set_cons_zero, List.set_cons_succ, i64_w, i32_w]
                    rfl
                  refine pure_ (i := 6) (N := some 164) (v := ?_) (a' := ?_) #[true, true, true, false, true, true, true, false, false, false, false, false, false, false, false, false, false, false, false, false] rfl rfl (any_of HT_.out (by kernel_rfl)) (fun _ _ _ h => h) (Or.inl ⟨by rfl, ?_⟩) ?_ ?_
                  rotate_left
                  · intro w'
                    go_simp
                    with_reducible rfl
                  rotate_left
                  · simp only [Act.put, List.setIfInBounds_toArray, List.set_cons_zero, List.set_cons_succ, i64_w, i32_w]
                    rfl
                  refine pure_ (i := 7) (N := some 165) (v := ?_) (a' := ?_) #[true, true, true, false, true, true, true, true, false, false, false, false, false, false, false, false, false, false, false, false] rfl rfl (any_of HT_.out (by kernel_rfl)) (fun _ _ _ h => h) (Or.inl ⟨by rfl, ?_⟩) ?_ ?_
                  rotate_left
                  · intro w'
                    go_simp
                    with_reducible rfl
                  rotate_left
                  · simp only [Act.put, List.setIfInBounds_toArray, List.set_cons_zero, List.set_cons_succ, i64_w, i32_w]
                    rfl
                  refine pure_ (i := 9) (N := some 167) (v := ?_) (a' := ?_) #[true, true, true, false, true, true, true, true, false, true, false, false, false, false, false, false, false, false, false, false] rfl rfl (any_of HT_.out (by kernel_rfl)) (fun _ _ _ h => h) (Or.inl ⟨by rfl, ?_⟩) ?_ ?_
                  rotate_left
                  · intro w'
                    go_simp
                    with_reducible rfl
                  rotate_left
                  · simp only [Act.put, List.setIfInBounds_toArray, List.set_cons_zero, List.set_cons_succ, i64_w, i32_w]
                    rfl
                  refine pure_ (i := 10) (N := some 168) (v := ?_) (a' := ?_) #[true, true, true, false, true, true, true, true, false, true, true, false, false, false, false, false, false, false, false, false] rfl rfl (any_of HT_.out (by kernel_rfl)) (fun _ _ _ h => h) (Or.inl ⟨by rfl, ?_⟩) ?_ ?_
                  rotate_left
                  · intro w'
                    go_simp
                    with_reducible rfl
                  rotate_left
                  · simp only [Act.put, List.setIfInBounds_toArray, List.set_cons_zero, List.set_cons_succ, i64_w, i32_w]
                    rfl
                  refine pure_ (i := 11) (N := some 169) (v := ?_) (a' := ?_) #[true, true, true, false, true, true, true, true, false, true, true, true, false, false, false, false, false, false, false, false] rfl rfl (any_of HT_.out (by kernel_rfl)) (fun _ _ _ h => h) (Or.inl ⟨by rfl, ?_⟩) ?_ ?_
                  rotate_left
                  · intro w'
                    go_simp
                    with_reducible rfl
                  rotate_left
                  · simp only [Act.put, List.setIfInBounds_toArray, List.set_cons_zero, List.set_cons_succ, i64_w, i32_w]
                    rfl
                  refine pure_ (i := 12) (N := some 170) (v := ?_) (a' := ?_) #[true, true, true, false, true, true, true, true, false, true, true, true, true, false, false, false, false, false, false, false] rfl rfl (any_of HT_.out (by kernel_rfl)) (fun _ _ _ h => h) (Or.inl ⟨by rfl, ?_⟩) ?_ ?_
                  rotate_left
                  · intro w'
                    go_simp
                    with_reducible rfl
                  rotate_left
                  · simp only [Act.put, List.setIfInBounds_toArray, List.set_cons_zero, List.set_cons_succ, i64_w, i32_w]
                    rfl
                  refine pure_ (i := 13) (N := some 171) (v := ?_) (a' := ?_) #[true, true, true, false, true, true, true, true, false, true, true, true, true, true, false, false, false, false, false, false] rfl rfl (any_of HT_.out (by kernel_rfl)) (fun _ _ _ h => h) (Or.inl ⟨by rfl, ?_⟩) ?_ ?_
                  rotate_left
                  · intro w'
                    go_simp
                    with_reducible rfl
                  rotate_left
                  · simp only [Act.put, List.setIfInBounds_toArray, List.set_cons_zero, List.set_cons_succ, i64_w, i32_w]
                    rfl
                  refine pure_ (i := 14) (N := some 172) (v := ?_) (a' := ?_) #[true, true, true, false, true, true, true, true, false, true, true, true, true, true, true, false, false, false, false, false] rfl rfl (any_of HT_.out (by kernel_rfl)) (fun _ _ _ h => h) (Or.inl ⟨by rfl, ?_⟩) ?_ ?_
                  rotate_left
                  · intro w'
                    go_simp
                    with_reducible rfl
                  rotate_left
                  · simp only [Act.put, List.setIfInBounds_toArray, List.set_cons_zero, List.set_cons_succ, i64_w, i32_w]
                    rfl
                  refine pure_ (i := 15) (N := some 173) (v := ?_) (a' := ?_) #[true, true, true, false, true, true, true, true, false, true, true, true, true, true, true, true, false, false, false, false] rfl rfl (any_of HT_.out (by kernel_rfl)) (fun _ _ _ h => h) (Or.inl ⟨by rfl, ?_⟩) ?_ ?_
                  rotate_left
                  · intro w'
                    go_simp
                    with_reducible rfl
                  rotate_left
                  · simp only [Act.put, List.setIfInBounds_toArray, List.set_cons_zero, List.set_cons_succ, i64_w, i32_w]
                    rfl
                  refine take_ (i := 3) (N := some 161) (v := ?_) (a' := ?_) #[true, true, true, true, true, true, true, true, false, true, true, true, true, true, true, true, false, false, false, false] rfl rfl (take_ofW HT_.out HW_.out (by kernel_rfl)) (fun _ _ _ h => h) (Or.inl ⟨by rfl, ?_⟩) hHeld ?_ ?_
                  rotate_left
                  · rintro w' ⟨s0, s1⟩
                    go_simp
                    with_reducible rfl
                  rotate_left
                  · simp only [Act.put, List.setIfInBounds_toArray, List.set_cons_zero, List.set_cons_succ, i64_w, i32_w]
                    rfl
                  refine take_ (i := 8) (N := some 166) (v := ?_) (a' := ?_) #[true, true, true, true, true, true, true, true, true, true, true, true, true, true, true, true, false, false, false, false] rfl rfl (take_ofW HT_.out HW_.out (by kernel_rfl)) (fun _ _ _ h => h) (Or.inl ⟨by rfl, ?_⟩) hHeld ?_ ?_
                  rotate_left
                  · rintro w' ⟨s0, s1⟩
                    go_simp
                    with_reducible rfl
                  rotate_left
                  · simp only [Act.put, List.setIfInBounds_toArray, List.set_cons_zero, List.set_cons_succ, i64_w, i32_w]
                    rfl
                  refine pure_ (i := 16) (N := some 174) (v := ?_) (a' := ?_) #[true, true, true, true, true, true, true, true, true, true, true, true, true, true, true, true, true, false, false, false] rfl rfl (any_of HT_.out (by kernel_rfl)) (fun _ _ _ h => h) (Or.inl ⟨by rfl, ?_⟩) ?_ ?_
                  rotate_left
                  · intro w'
                    go_simp
                    with_reducible rfl
                  rotate_left
                  · simp only [Act.put, List.setIfInBounds_toArray, List.set_cons_zero, List.set_cons_succ, i64_w, i32_w]
                    rfl
                  refine last_ (i := 17) (N := none) #[true, true, true, true, true, true, true, true, true, true, true, true, true, true, true, true, true, true, false, false] rfl rfl (one_of HT_.out (by kernel_rfl)) (by decide) (fun K hK => ?_)
                  refine skip_ (w1 := ?_) (by rfl) rfl ?_ ?_
                  rotate_left
                  · go_simp
                    rfl
                  refine hK.out _ _ ?_
                  clear hK K
                  refine pure_ (i := 18) (N := some 175) (v := ?_) (a' := ?_) #[true, true, true, true, true, true, true, true, true, true, true, true, true, true, true, true, true, true, true, false] rfl rfl (any_of HT_.out (by kernel_rfl)) (fun _ _ _ h => h) (Or.inl ⟨by rfl, ?_⟩) ?_ ?_
                  rotate_left
                  · intro w'
                    go_simp
                    with_reducible rfl
                  rotate_left
                  · simp only [Act.put, List.setIfInBounds_toArray, List.set_cons_zero, List.set_cons_succ, i64_w, i32_w]
                    rfl
                  refine last_ (i := 19) (N := none) #[true, true, true, true, true, true, true, true, true, true, true, true, true, true, true, true, true, true, true, true] rfl rfl (one_of HT_.out (by kernel_rfl)) (by decide) (fun K hK => ?_)
                  refine skip_ (w1 := ?_) (by rfl) rfl ?_ ?_
                  rotate_left
                  · go_simp
                    rfl
                  refine hK.out _ _ ?_
                  clear hK K
                  refine done_ (done_of HT_.out (by kernel_rfl)) ?_
                  go_wp2
                  go_ret
                  exact ⟨by rw [HV.out]; rfl, _, _, by rw [HFS.out, HFG.out]; exact (HPUT.out _ (below_drew1 (Below.refl _ _)) _ _).1, (HF1.out.trans HFd.out).trans (HPUT.out _ (below_drew1 (Below.refl _ _)) _ _).2⟩
                | true =>
                  go_upto_region 33 with fail
                  refine start_ (n := 20) (S := fun w' => w'.cell? ⟨rb, 2, none⟩ = some (.slice (some ⟨g1, 0, none⟩) sd.length q1) ∧ w'.cell? ⟨rb, 3, none⟩ = some (.slice (some ⟨g2, 0, none⟩) gd.length q2)) (ds := [17, 19]) #[false, false, false, false, false, false, false, false, false, false, false, false, false, false, false, false, false, false, false, false] (by kernel_rfl) rfl rfl ⟨r2, r3⟩ (fun hHeld => ?_)
                  refine with_tabW rdr_value.tab33 rdr_value.bits33 (fun HT_ HW_ => ?_)
                  refine pure_ (i := 0) (N := some 158) (v := ?_) (a' := ?_) #[true, false, false, false, false, false, false, false, false, false, false, false, false, false, false, false, false, false, false, false] rfl rfl (any_of HT_.out (by kernel_rfl)) (fun _ _ _ h => h) (Or.inl ⟨by rfl, ?_⟩) ?_ ?_
                  rotate_left
                  · intro w'
                    go_simp
                    with_reducible rfl
                  rotate_left
                  · simp only [Act.put, List.setIfInBounds_toArray, List.set_cons_zero, List.set_cons_succ, i64_w, i32_w]
                    rfl
                  refine pure_ (i := 1) (N := some 159) (v := ?_) (a' := ?_) #[true, true, false, false, false, false, false, false, false, false, false, false, false, false, false, false, false, false, false, false] rfl rfl (any_of HT_.out (by kernel_rfl)) (fun _ _ _ h => h) (Or.inl ⟨by rfl, ?_⟩) ?_ ?_
                  rotate_left
                  · intro w'
                    go_simp
                    with_reducible rfl
                  rotate_left
                  · simp only [Act.put, List.setIfInBounds_toArray, List.set_cons_zero, List.set_cons_succ, i64_w, i32_w]
                    rfl
                  refine pure_ (i := 2) (N := some 160) (v := ?_) (a' := ?_) #[true, true, true, false, false, false, false, false, false, false, false, false, false, false, false, false, false, false, false, false] rfl rfl (any_of HT_.out (by kernel_rfl)) (fun _ _ _ h => h) (Or.inl ⟨by rfl, ?_⟩) ?_ ?_
                  rotate_left
                  · intro w'
                    go_simp
                    with_reducible rfl
                  rotate_left
                  · simp only [Act.put, List.setIfInBounds_toArray, List.set_cons_zero, List.set_cons_succ, i64_w, i32_w]
                    rfl
                  refine pure_ (i := 4) (N := some 162) (v := ?_) (a' := ?_) #[true, true, true, false, true, false, false, false, false, false, false, false, false, false, false, false, false, false, false, false] rfl rfl (any_of HT_.out (by kernel_rfl)) (fun _ _ _ h => h) (Or.inl ⟨by rfl, ?_⟩) ?_ ?_
                  rotate_left
                  · intro w'
                    go_simp
                    with_reducible rfl
                  rotate_left
                  · simp only [Act.put, List.setIfInBounds_toArray, List.set_cons_zero, List.set_cons_succ, i64_w, i32_w]
                    rfl
                  refine pure_ (i := 5) (N := some 163) (v := ?_) (a' := ?_) #[true, true, true, false, true, true, false, false, false, false, false, false, false, false, false, false, false, false, false, false] rfl rfl (any_of HT_.out (by kernel_rfl)) (fun _ _ _ h => h) (Or.inl ⟨by rfl, ?_⟩) ?_ ?_
                  rotate_left
                  · intro w'
                    go_simp
                    with_reducible rfl
                  rotate_left
                  · simp only [Act.put, List.setIfInBounds_toArray, List.set_cons_zero, List.set_cons_succ, i64_w, i32_w]
                    rfl
                  refine pure_ (i := 6) (N := some 164) (v := ?_) (a' := ?_) #[true, true, true, false, true, true, true, false, false, false, false, false, false, false, false, false, false, false, false, false] rfl rfl (any_of HT_.out (by kernel_rfl)) (fun _ _ _ h => h) (Or.inl ⟨by rfl, ?_⟩) ?_ ?_
                  rotate_left
                  · intro w'
                    go_simp
                    with_reducible rfl
                  rotate_left
                  · simp only [Act.put, List.setIfInBounds_toArray, List.set_cons_zero, List.set_cons_succ, i64_w, i32_w]
                    rfl
                  refine pure_ (i := 7) (N := some 165) (v := ?_) (a' := ?_) #[true, true, true, false, true, true, true, true, false, false, false, false, false, false, false, false, false, false, false, false] rfl rfl (any_of HT_.out (by kernel_rfl)) (fun _ _ _ h => h) (Or.inl ⟨by rfl, ?_⟩) ?_ ?_
                  rotate_left
                  · intro w'
                    go_simp
                    with_reducible rfl
                  rotate_left
                  · simp only [Act.put, List.setIfInBounds_toArray, List.set_cons_zero, List.set_cons_succ, i64_w, i32_w]
                    rfl
                  refine pure_ (i := 9) (N := some 167) (v := ?_) (a' := ?_) #[true, true, true, false, true, true, true, true, false, true, false, false, false, false, false, false, false, false, false, false] rfl rfl (any_of HT_.out (by kernel_rfl)) (fun _ _ _ h => h) (Or.inl ⟨by rfl, ?_⟩) ?_ ?_
                  rotate_left
                  · intro w'
                    go_simp
                    with_reducible rfl
                  rotate_left
                  · simp only [Act.put, List.setIfInBounds_toArray, List.set_cons_zero, List.set_cons_succ, i64_w, i32_w]
                    rfl
                  refine pure_ (i := 10) (N := some 168) (v := ?_) (a' := ?_) #[true, true, true, false, true, true, true, true, false, true, true, false, false, false, false, false, false, false, false, false] rfl rfl (any_of HT_.out (by kernel_rfl)) (fun _ _ _ h => h) (Or.inl ⟨by rfl, ?_⟩) ?_ ?_
                  rotate_left
                  · intro w'
                    go_simp
                    with_reducible rfl
                  rotate_left
                  · simp only [Act.put, List.setIfInBounds_toArray, List.set_cons_zero, List.set_cons_succ, i64_w, i32_w]
                    rfl
                  refine pure_ (i := 11) (N := some 169) (v := ?_) (a' := ?_) #[true, true, true, false, true, true, true, true, false, true, true, true, false, false, false, false, false, false, false, false] rfl rfl (any_of HT_.out (by kernel_rfl)) (fun _ _ _ h => h) (Or.inl ⟨by rfl, ?_⟩) ?_ ?_
                  rotate_left
                  · intro w'
                    go_simp
                    with_reducible rfl
                  rotate_left
                  · simp only [Act.put, List.setIfInBounds_toArray, List.set_cons_zero, List.set_cons_succ, i64_w, i32_w]
                    rfl
                  refine pure_ (i := 12) (N := some 170) (v := ?_) (a' := ?_) #[true, true, true, false, true, true, true, true, false, true, true, true, true, false, false, false, false, false, false, false] rfl rfl (any_of HT_.out (by kernel_rfl)) (fun _ _ _ h => h) (Or.inl ⟨by rfl, ?_⟩) ?_ ?_
                  rotate_left
                  · intro w'
                    go_simp
                    with_reducible rfl
                  rotate_left
                  · simp only [Act.put, List.setIfInBounds_toArray, List.set_cons_zero, List.set_cons_succ, i64_w, i32_w]
                    rfl
                  refine pure_ (i := 13) (N := some 171) (v := undef) (a' := ?_) #[true, true, true, false, true, true, true, true, false, true, true, true, true, true, false, false, false, false, false, false] rfl rfl (any_of HT_.out (by kernel_rfl)) (fun _ _ _ h => h) (Or.inr ⟨by rfl, rfl⟩) ?_ ?_
                  rotate_left
                  · simp only [Act.put, List.setIfInBounds_toArray, List.set_cons_zero, List.set_cons_succ, i64_w, i32_w]
                    rfl
                  refine pure_ (i := 14) (N := some 172) (v := undef) (a' := ?_) #[true, true, true, false, true, true, true, true, false, true, true, true, true, true, true, false, false, false, false, false] rfl rfl (any_of HT_.out (by kernel_rfl)) (fun _ _ _ h => h) (Or.inr ⟨by rfl, rfl⟩) ?_ ?_
                  rotate_left
                  · simp only [Act.put, List.setIfInBounds_toArray, List.set_cons_zero, List.set_cons_succ, i64_w, i32_w]
                    rfl
                  refine pure_ (i := 15) (N := some 173) (v := ?_) (a' := ?_) #[true, true, true, false, true, true, true, true, false, true, true, true, true, true, true, true, false, false, false, false] rfl rfl (any_of HT_.out (by kernel_rfl)) (fun _ _ _ h => h) (Or.inl ⟨by rfl, ?_⟩) ?_ ?_
                  rotate_left
                  · intro w'
                    go_simp
                    with_reducible rfl
                  rotate_left
                  · simp only [Act.put, List.setIfInBounds_toArray, List.set_cons_zero, List.set_cons_succ, i64_w, i32_w]
                    rfl
                  refine take_ (i := 3) (N := some 161) (v := ?_) (a' := ?_) #[true, true, true, true, true, true, true, true, false, true, true, true, true, true, true, true, false, false, false, false] rfl rfl (take_ofW HT_.out HW_.out (by kernel_rfl)) (fun _ _ _ h => h) (Or.inl ⟨by rfl, ?_⟩) hHeld ?_ ?_
                  rotate_left
                  · rintro w' ⟨s0, s1⟩
                    go_simp
                    with_reducible rfl
                  rotate_left
                  · simp only [Act.put, List.setIfInBounds_toArray, List.set_cons_zero, List.set_cons_succ, i64_w, i32_w]
                    rfl
                  refine take_ (i := 8) (N := some 166) (v := ?_) (a' := ?_) #[true, true, true, true, true, true, true, true, true, true, true, true, true, true, true, true, false, false, false, false] rfl rfl (take_ofW HT_.out HW_.out (by kernel_rfl)) (fun _ _ _ h => h) (Or.inl ⟨by rfl, ?_⟩) hHeld ?_ ?_
                  rotate_left
                  · rintro w' ⟨s0, s1⟩
                    go_simp
                    with_reducible rfl
                  rotate_left
                  · simp only [Act.put, List.setIfInBounds_toArray, List.set_cons_zero, List.set_cons_succ, i64_w, i32_w]
                    rfl
                  refine pure_ (i := 16) (N := some 174) (v := ?_) (a' := ?_) #[true, true, true, true, true, true, true, true, true, true, true, true, true, true, true, true, true, false, false, false] rfl rfl (any_of HT_.out (by kernel_rfl)) (fun _ _ _ h => h) (Or.inl ⟨by rfl, ?_⟩) ?_ ?_
                  rotate_left
                  · intro w'
                    go_simp
                    with_reducible rfl
                  rotate_left
                  · simp only [Act.put, List.setIfInBounds_toArray, List.set_cons_zero, List.set_cons_succ, i64_w, i32_w]
                    rfl
                  refine last_ (i := 17) (N := none) #[true, true, true, true, true, true, true, true, true, true, true, true, true, true, true, true, true, true, false, false] rfl rfl (one_of HT_.out (by kernel_rfl)) (by decide) (fun K hK => ?_)
                  refine skip_ (w1 := ?_) (by rfl) rfl ?_ ?_
                  rotate_left
                  · go_simp
                    rfl
                  refine hK.out _ _ ?_
                  clear hK K
                  refine pure_ (i := 18) (N := some 175) (v := ?_) (a' := ?_) #[true, true, true, true, true, true, true, true, true, true, true, true, true, true, true, true, true, true, true, false] rfl rfl (any_of HT_.out (by kernel_rfl)) (fun _ _ _ h => h) (Or.inl ⟨by rfl, ?_⟩) ?_ ?_
                  rotate_left
                  · intro w'
                    go_simp
                    with_reducible rfl
                  rotate_left
                  · simp only [Act.put, List.setIfInBounds_toArray, List.set_cons_zero, List.set_cons_succ, i64_w, i32_w]
                    rfl
                  refine last_ (i := 19) (N := none) #[true, true, true, true, true, true, true, true, true, true, true, true, true, true, true, true, true, true, true, true] rfl rfl (one_of HT_.out (by kernel_rfl)) (by decide) (fun K hK => ?_)
                  refine skip_ (w1 := ?_) (by rfl) rfl ?_ ?_
                  rotate_left
                  · go_simp
                    rfl
                  refine hK.out _ _ ?_
                  clear hK K
                  refine done_ (done_of HT_.out (by kernel_rfl)) ?_
                  go_wp2
                  go_ret
                  exact ⟨by rw [HV.out]; rfl, _, _, by rw [HFS.out, HFG.out]; exact (HPUT.out _ (below_drew1 (Below.refl _ _)) _ _).1, (HF1.out.trans HFd.out).trans (HPUT.out _ (below_drew1 (Below.refl _ _)) _ _).2⟩
end Go.Proofs.Ytegaicoddnmemaa.X

namespace Go.Proofs.Ytegaicoddnmemaa.X
open Go.RowKit Go.Proofs.YtegaicoddnmemaaW.PrintWords Go.Proofs.YtegaicoddnmemaaW.PrintLast Go.Proofs.YtegaicoddnmemaaW.PrintMore
open Go.Proofs.Ytegaicoddnmemaa.P Go.Proofs.Ytegaicoddnmemaa.Evx
set_option linter.unusedSimpArgs false
set_option linter.unusedVariables false
mutual
theorem rd_all (w0 : World) : ∀ s : S24, RdAt w0 s
  | ⟨op, m, kids⟩ => value_calls w0 ⟨op, m, kids⟩ (rd_kids w0 kids)
theorem rd_kids (w0 : World) : ∀ (l : List S24) (k : S24), k ∈ l → RdAt w0 k
  | [], k, hk => by simp at hk
  | a :: r, k, hk => by
    rcases List.mem_cons.1 hk with h | h
    · rw [h]
      exact rd_all w0 a
    · exact rd_kids w0 r k h
end
theorem rdr_new (w W : World) (sv lt : Int) (hB : Below w.heap.size w W) : Rdr w (W.alloc (.cells #[.int .i64 sv, .int .u32 lt, .slice none 0 0, .slice none 0 0] 64)) W.heap.size sv lt [] [] (.slice none 0 0) (.slice none 0 0) :=
  { blk := heap_alloc_new W _, o1 := World.ownsRow_nil _ _ _ _, o2 := World.ownsRow_nil _ _ _ _, ne := .inl rfl, bl := below_alloc hB _, rb0 := hB.size }
set_option maxHeartbeats 1600000 in
theorem read_calls (s : S24) (sv lt : Int) (A : Option Addr) (cp : Nat) (w : World) (hr : Kd.C k24 w A s.f2.length s.f2) (hc : s.f2.length ≤ cp) (hs : soundS s = true) (ht : tnS s ≤ 60) :
    Calls Try.prog 38 #[.agg #[.int .i64 s.f0, .int .i64 s.f1, .slice A s.f2.length cp], .int .i64 sv, .int .u32 lt] w fun e w' => ∃ rb v1 v2, e = .returned (.tuple #[.pointer (some ⟨rb, 0, none⟩), .bool (valS sv lt s 0)]) ∧ Rdr w w' rb sv lt (saidS sv lt s 0) (goodS sv lt s 0) v1 v2 := by
  have huF := Try.underlying24
  have hur := Try.underlying64
  have hR := rdr_new w (w.alloc (.cells #[.int .i64 s.f0, .int .i64 s.f1, .slice A s.f2.length cp] 24)) sv lt (below_alloc (Below.refl _ _) _)
  have hz : (w.alloc (.cells #[.int .i64 s.f0, .int .i64 s.f1, .slice A s.f2.length cp] 24)).heap.size = w.heap.size + 1 := by simp
  rw [hz] at hR
  have HC := Aside0.mk (rd_all w s (w.heap.size + 1) sv lt [] [] (.slice none 0 0) (.slice none 0 0) A cp _ hR rfl (by simpa using ht) hr hc hs)
  clear hR hz hr hc hs ht
  go_enter Try.func38, Try.ntmps38
  go_wp2_with (go_at_call 52; refine HC.out.mono ?_; rintro e w1 ⟨rfl, v1, v2, hR, hF⟩; have HR := Aside0.mk hR; clear hR hF)
  go_ret2
  exact ⟨w.heap.size + 1, v1, v2, rfl, HR.out⟩
def valueF (s : S24) (sv lt : Int) : Bool := if stateS s sv = true then valS sv lt s 0 else false
set_option maxHeartbeats 1600000 in
theorem Value_calls (s : S24) (sv lt : Int) (A : Option Addr) (cp : Nat) (w : World) (hr : Kd.C k24 w A s.f2.length s.f2) (hc : s.f2.length ≤ cp) :
    Calls Try.prog 17 #[.agg #[.int .i64 s.f0, .int .i64 s.f1, .slice A s.f2.length cp], .int .i64 sv, .int .u32 lt] w fun e w' => e = .returned (.bool (valueF s sv lt)) ∧ Below w.heap.size w w' := by
  have huF := Try.underlying24
  obtain ⟨W1, hW1⟩ : ∃ W1, W1 = w.alloc (.cells #[.int .i64 s.f0, .int .i64 s.f1, .slice A s.f2.length cp] 24) := ⟨_, rfl⟩
  have hB1 : Below w.heap.size w W1 := by rw [hW1]; exact below_alloc (Below.refl _ _) _
  have hbx : W1.heap[w.heap.size]? = some (.cells #[.int .i64 s.f0, .int .i64 s.f1, .slice A s.f2.length cp] 24 (0, 0)) := by rw [hW1]; exact heap_alloc_new w _
  have HBX := Aside0.mk hbx
  have HB1 := Aside0.mk hB1
  have HR := Aside0.mk hr
  have HW1 := Aside0.mk hW1
  have x0 : W1.cell? ⟨w.heap.size, 0, none⟩ = some (.int .i64 s.f0) := (blk_cell hbx 0).trans rfl
  have x1 : W1.cell? ⟨w.heap.size, 1, none⟩ = some (.int .i64 s.f1) := (blk_cell hbx 1).trans rfl
  have x2 : W1.cell? ⟨w.heap.size, 2, none⟩ = some (.slice A s.f2.length cp) := (blk_cell hbx 2).trans rfl
  obtain ⟨k1, hk1⟩ := (state_ev s sv).rounds
  have HVF := Aside0.mk (show valueF s sv lt = if stateS s sv = true then valS sv lt s 0 else false from rfl)
  have HM := Aside0.mk (@state_may s sv)
  have HK1 := Aside0.mk hk1
  clear hbx hB1 hr hk1
  cases hst : stateS s sv with
  | false =>
    rw [hst] at HK1 HVF
    have HX := Aside0.mk (show valueF s sv lt = false from by rw [HVF.out]; rfl)
    clear hst
    go_enter Try.func17, Try.ntmps17
    go_upto_region 1 with fail
    rw [← hW1]
    clear hW1
    go_wp2_with (go_at_call 37; refine (tableau_state.calls k1 s.f0 s.f1 A cp s.f2 sv false _ (Kd.C_below HR.out HB1.out) hc HK1.out).mono ?_; rintro e w1 ⟨rfl, hB⟩; have HB := Aside0.mk hB; clear hB)
    go_ret
    exact ⟨show Ending.returned (.bool false) = _ from by rw [HX.out], HB1.out.trans (HB.out.mono HB1.out.size)⟩
  | true =>
    have hz := may_zero (HM.out hst)
    have HZ := Aside0.mk hz
    rw [hst] at HK1 HVF
    have HX := Aside0.mk (show valueF s sv lt = valS sv lt s 0 from by rw [HVF.out]; rfl)
    clear hst hz
    go_enter Try.func17, Try.ntmps17
    go_upto_region 1 with fail
    rw [← hW1]
    clear hW1
    go_wp2_with (first | (go_at_call 37; refine (tableau_state.calls k1 s.f0 s.f1 A cp s.f2 sv true _ (Kd.C_below HR.out HB1.out) hc HK1.out).mono ?_; rintro e w1 ⟨rfl, hB⟩; have HB := Aside0.mk (HB1.out.trans (hB.mono HB1.out.size)); have HBX1 := Aside0.mk ((hB.block _ (blk_lt HBX.out)).trans HBX.out); have y0 := (blk_cell HBX1.out 0).trans rfl; have y1 := (blk_cell HBX1.out 1).trans rfl; have y2 := (blk_cell HBX1.out 2).trans rfl; clear hB) | (go_at_call 38; refine (read_calls s sv lt A cp _ (Kd.C_below HR.out HB.out) hc HZ.out.2.2.2 (by have := HZ.out; omega)).mono ?_; rintro e w2 ⟨rb, v1, v2, rfl, hRd⟩; have HB2 := Aside0.mk (HB.out.trans (hRd.bl.mono HB.out.size)); clear hRd))
    go_ret
    exact ⟨show Ending.returned (.bool (valS sv lt s 0)) = _ from by rw [HX.out], HB2.out⟩
end Go.Proofs.Ytegaicoddnmemaa.X

namespace Go.Proofs.Ytegaicoddnmemaa.X
open Go.RowKit Go.Proofs.YtegaicoddnmemaaW.PrintWords Go.Proofs.YtegaicoddnmemaaW.PrintLast Go.Proofs.YtegaicoddnmemaaW.PrintMore
open Go.Proofs.Ytegaicoddnmemaa.P Go.Proofs.Ytegaicoddnmemaa.Evx
set_option linter.unusedSimpArgs false
set_option linter.unusedVariables false
theorem Timed_some (op : Int) : parryref22_Timed.f op = some (timedS op) := by
  unfold parryref22_Timed.f timedS
  repeat' split
  all_goals (congr 1; rw [Bool.eq_iff_iff]; simp; omega)
end Go.Proofs.Ytegaicoddnmemaa.X

namespace Go.Proofs.Ytegaicoddnmemaa.P
open Go.RowKit Go.Proofs.YtegaicoddnmemaaW.PrintWords Go.Proofs.YtegaicoddnmemaaW.PrintLast Go.Proofs.YtegaicoddnmemaaW.PrintMore
attribute [local go_sem] max2_int min2_int max_two min_two max_three min_three max_four min_four   -- for this text's walks alone
set_option linter.unusedVariables false
set_option linter.unusedSimpArgs false

mutual
def parryref22_count.j0 : Nat → Int → Int → Bool → Int → Int → List (S24) → Option (Int × Int)
  | 0, _, _, _, _, _, _ => none
  | k + 1, x1, x2, x19, x172000, x172001, x172002 => if x19 = true then (some (61, 0)) else ((parryref22_Timed.f x172000).bind fun t172 => (if t172 = true then (parryref22_count.j1 k x1 x2 1 1 x172000 x172001 x172002) else (parryref22_count.j1 k x1 x2 1 0 x172000 x172001 x172002)))
def parryref22_count.j1 : Nat → Int → Int → Int → Int → Int → Int → List (S24) → Option (Int × Int)
  | 0, _, _, _, _, _, _, _ => none
  | k + 1, x1, x2, x8, x9, x172000, x172001, x172002 => parryref22_count.l0 k x1 x2 x8 x9 x172002 (x172002.length : Int) 0
def parryref22_count.l0 : Nat → Int → Int → Int → Int → List (S24) → Int → Int → Option (Int × Int)
  | 0, _, _, _, _, _, _, _ => none
  | k + 1, x1, x2, x8, x9, x24, x25, x26 => if x26 < x25 then (if 0 ≤ x26 then (if x26 < (x24.length : Int) then ((parryref22_count.f k ((rd_T24 x24 x26).f0) ((rd_T24 x24 x26).f1) ((rd_T24 x24 x26).f2) (wrap64 (x1 + 1)) (wrap64 (x2 - x8))).bind fun bt175 => (if (wrap64 (x8 + bt175.1)) > 60 then (some (wrap64 (x8 + bt175.1), wrap64 (x9 + bt175.2))) else (parryref22_count.l0 k x1 x2 (wrap64 (x8 + bt175.1)) (wrap64 (x9 + bt175.2)) x24 x25 (wrap64 (x26 + 1))))) else (none)) else (none)) else (some (x8, x9))
def parryref22_count.f : Nat → Int → Int → List (S24) → Int → Int → Option (Int × Int)
  | 0, _, _, _, _, _ => none
  | k + 1, a0_0, a0_1, l0_2, a1, a2 => if a1 > 12 then (parryref22_count.j0 k a1 a2 true a0_0 a0_1 l0_2) else (parryref22_count.j0 k a1 a2 (decide (a2 < 1)) a0_0 a0_1 l0_2)
end
theorem parryref22_count.mono_l : ∀ k, (∀ y0 y1 y2 y3 y4, LeO (parryref22_count.f k y0 y1 y2 y3 y4) (parryref22_count.f (k + 1) y0 y1 y2 y3 y4)) ∧ (∀ y0 y1 y2 y3 y4 y5, LeO (parryref22_count.j0 k y0 y1 y2 y3 y4 y5) (parryref22_count.j0 (k + 1) y0 y1 y2 y3 y4 y5)) ∧ (∀ y0 y1 y2 y3 y4 y5 y6, LeO (parryref22_count.j1 k y0 y1 y2 y3 y4 y5 y6) (parryref22_count.j1 (k + 1) y0 y1 y2 y3 y4 y5 y6)) ∧ (∀ y0 y1 y2 y3 y4 y5 y6, LeO (parryref22_count.l0 k y0 y1 y2 y3 y4 y5 y6) (parryref22_count.l0 (k + 1) y0 y1 y2 y3 y4 y5 y6))
  | 0 => ⟨fun _ _ _ _ _ r h => by simp [parryref22_count.f] at h, fun _ _ _ _ _ _ r h => by simp [parryref22_count.j0] at h, fun _ _ _ _ _ _ _ r h => by simp [parryref22_count.j1] at h, fun _ _ _ _ _ _ _ r h => by simp [parryref22_count.l0] at h⟩
  | k + 1 => by
    obtain ⟨ih0, ih1, ih2, ih3⟩ := parryref22_count.mono_l k
    refine ⟨?_, ?_, ?_, ?_⟩
    · intro y0 y1 y2 y3 y4
      unfold parryref22_count.f
      repeat' first
      | (with_reducible exact ih0 _ _ _ _ _)
      | (with_reducible exact ih1 _ _ _ _ _ _)
      | (with_reducible exact ih2 _ _ _ _ _ _ _)
      | (with_reducible exact ih3 _ _ _ _ _ _ _)
      | (with_reducible exact LeO.refl _)
      | (with_reducible exact LeO.none _)
      | (with_reducible refine LeO.ite ?_ ?_)
      | (with_reducible refine LeO.bind ?_ (fun _ => ?_))
      | exact ih0 _ _ _ _ _
      | exact ih1 _ _ _ _ _ _
      | exact ih2 _ _ _ _ _ _ _
      | exact ih3 _ _ _ _ _ _ _
      | exact LeO.none _
      | refine LeO.ite ?_ ?_
      | refine LeO.bind ?_ (fun _ => ?_)
    · intro y0 y1 y2 y3 y4 y5
      unfold parryref22_count.j0
      repeat' first
      | (with_reducible exact ih0 _ _ _ _ _)
      | (with_reducible exact ih1 _ _ _ _ _ _)
      | (with_reducible exact ih2 _ _ _ _ _ _ _)
      | (with_reducible exact ih3 _ _ _ _ _ _ _)
      | (with_reducible exact LeO.refl _)
      | (with_reducible exact LeO.none _)
      | (with_reducible refine LeO.ite ?_ ?_)
      | (with_reducible refine LeO.bind ?_ (fun _ => ?_))
      | exact ih0 _ _ _ _ _
      | exact ih1 _ _ _ _ _ _
      | exact ih2 _ _ _ _ _ _ _
      | exact ih3 _ _ _ _ _ _ _
      | exact LeO.none _
      | refine LeO.ite ?_ ?_
      | refine LeO.bind ?_ (fun _ => ?_)
    · intro y0 y1 y2 y3 y4 y5 y6
      unfold parryref22_count.j1
      repeat' first
      | (with_reducible exact ih0 _ _ _ _ _)
      | (with_reducible exact ih1 _ _ _ _ _ _)
      | (with_reducible exact ih2 _ _ _ _ _ _ _)
      | (with_reducible exact ih3 _ _ _ _ _ _ _)
      | (with_reducible exact LeO.refl _)
      | (with_reducible exact LeO.none _)
      | (with_reducible refine LeO.ite ?_ ?_)
      | (with_reducible refine LeO.bind ?_ (fun _ => ?_))
      | exact ih0 _ _ _ _ _
      | exact ih1 _ _ _ _ _ _
      | exact ih2 _ _ _ _ _ _ _
      | exact ih3 _ _ _ _ _ _ _
      | exact LeO.none _
      | refine LeO.ite ?_ ?_
      | refine LeO.bind ?_ (fun _ => ?_)
    · intro y0 y1 y2 y3 y4 y5 y6
      unfold parryref22_count.l0
      repeat' first
      | (with_reducible exact ih0 _ _ _ _ _)
      | (with_reducible exact ih1 _ _ _ _ _ _)
      | (with_reducible exact ih2 _ _ _ _ _ _ _)
      | (with_reducible exact ih3 _ _ _ _ _ _ _)
      | (with_reducible exact LeO.refl _)
      | (with_reducible exact LeO.none _)
      | (with_reducible refine LeO.ite ?_ ?_)
      | (with_reducible refine LeO.bind ?_ (fun _ => ?_))
      | exact ih0 _ _ _ _ _
      | exact ih1 _ _ _ _ _ _
      | exact ih2 _ _ _ _ _ _ _
      | exact ih3 _ _ _ _ _ _ _
      | exact LeO.none _
      | refine LeO.ite ?_ ?_
      | refine LeO.bind ?_ (fun _ => ?_)
theorem parryref22_count.mono : ∀ a0 a1 a2 a3 a4 k, LeO (parryref22_count.f k a0 a1 a2 a3 a4) (parryref22_count.f (k + 1) a0 a1 a2 a3 a4) := by
  intro a0 a1 a2 a3 a4 k
  obtain ⟨ih0, ih1, ih2, ih3⟩ := parryref22_count.mono_l k
  exact ih0 a0 a1 a2 a3 a4
set_option maxHeartbeats 8000000 in
set_option maxRecDepth 100000 in
theorem parryref22_count.calls (k : Nat) : ∀ (a0_0 : Int) (a0_1 : Int) (A0_2 : Option Addr) (c0_2 : Nat) (l0_2 : List (S24)) (a1 : Int) (a2 : Int) (r1 : Int) (r2 : Int) (w : World) (hr0_2 : Kd.C k24 w A0_2 l0_2.length l0_2) (hc0_2 : l0_2.length ≤ c0_2) (h : parryref22_count.f k a0_0 a0_1 l0_2 a1 a2 = some (r1, r2)),
    Calls Try.prog 35 #[.agg #[.int .i64 a0_0, .int .i64 a0_1, .slice A0_2 l0_2.length c0_2], .int .i64 a1, .int .i64 a2] w fun e w' => e = .returned (.tuple #[.int .i64 r1, .int .i64 r2]) ∧ Below w.heap.size w w' := by
  induction k using Nat.strongRecOn with
  | _ k ih =>
  intro a0_0 a0_1 A0_2 c0_2 l0_2 a1 a2 r1 r2 w hr0_2 hc0_2 h
  cases k with
  | zero => exact absurd h (by simp [parryref22_count.f])
  | succ k =>
  simp only [parryref22_count.f] at h
  have hu24 := Try.underlying24
  have HR0_2 := Aside0.mk hr0_2
  have HC0_2 := Aside0.mk hc0_2
  clear hr0_2 hc0_2
  have HB := Aside0.mk (Below.refl w.heap.size w)
  have H : (if a1 > 12 then (parryref22_count.j0 k a1 a2 true a0_0 a0_1 l0_2) else (parryref22_count.j0 k a1 a2 (decide (a2 < 1)) a0_0 a0_1 l0_2)) = some (r1, r2) := h
  clear h
  have HC4 := Aside0.mk H
  clear H
  go_enter Try.func35, Try.ntmps35
  go_upto_region 1 with (first | ((with_reducible refine gate_dst (N := 3) rfl ?_); refine box_event ?hg (N := 3) ?hd (cs := #[.int .i64 a0_0, .int .i64 a0_1, .slice A0_2 l0_2.length c0_2]) (t := 24) ?hr ?_; (case hd => rfl); (case hg => rfl); (case hr => first | (go_simp; done) | (go_simp; rfl)); intro gb171 hg w5 hbox hb; have n0_ := Aside0.mk (below_step (by repeat (first | (with_reducible first | exact HB.out | apply below_alloc | apply pw_below_drewN | apply below_drew1) | exact HB.out)) hb); have n1_ := Aside0.mk (hbox); have n2_ := Aside0.mk ((by rw [hg]; exact (below_size (by repeat (first | (with_reducible first | exact HB.out | apply below_alloc | apply pw_below_drewN | apply below_drew1) | exact HB.out))) : w.heap.size ≤ gb171)); have n3_ := Aside0.mk ((by rw [hg]; exact (below_size (by repeat (first | (with_reducible first | exact HB.out | apply below_alloc | apply pw_below_drewN | apply below_drew1) | exact HB.out))) : w.heap.size ≤ gb171)); clear HB; have HB := n0_; have BK171 := n1_; have GW171 := n2_; have GE171 := n3_; clear n0_ n1_ n2_ n3_; clear hb hbox hg))
  (try simp only [Act.put, List.setIfInBounds_toArray, List.set_cons_zero, List.set_cons_succ])
  go_cut [19] (fun v19 wc => ∃ (kq : Nat) (x19_3 : Bool), v19 = .bool x19_3 ∧ Aside0 (parryref22_count.j0 kq a1 a2 x19_3 a0_0 a0_1 l0_2 = some (r1, r2)) ∧ Aside0 (kq ≤ k) ∧ Aside0 (wc.heap[gb171]? = some (.cells #[.int .i64 a0_0, .int .i64 a0_1, (.slice A0_2 l0_2.length c0_2)] 24 (0, 0))) ∧ Aside0 (Below w.heap.size w wc))
  case first =>
    have H := HC4.out
    clear HC4
    by_cases c6 : a1 > 12
    · rw [if_pos c6] at H
      have c6b0 : decide (12 < a1) = true := decide_eq_true c6
      clear c6
      (first | rw [c6b0] | (simp only [i64_w, i32_w]; rw [c6b0]) | skip)
      have H' := Aside0.mk H
      clear H
      go_wp2
      go_meet
      case rel => exact ⟨_, (true), (by first | rfl | (simp; done) | (simp [*]; done)), H', ⟨by first | omega | exact Nat.le_refl _⟩, ⟨by (with_reducible repeat (first | refine blk_drewN ?_ _ | refine blk_drew ?_ | refine blk_alloc ?_ _)); exact BK171.out⟩, ⟨by repeat (first | (with_reducible first | exact HB.out | apply below_alloc | apply pw_below_drewN | apply below_drew1 | refine below_set ?_ GE171.out) | exact HB.out)⟩⟩
    · rw [if_neg c6] at H
      have c6b0 : decide (12 < a1) = false := decide_eq_false c6
      clear c6
      (first | rw [c6b0] | (simp only [i64_w, i32_w]; rw [c6b0]) | skip)
      have H' := Aside0.mk H
      clear H
      go_wp2
      go_meet
      case rel => exact ⟨_, (decide (a2 < 1)), (by first | rfl | (simp; done) | (simp [*]; done)), H', ⟨by first | omega | exact Nat.le_refl _⟩, ⟨by (with_reducible repeat (first | refine blk_drewN ?_ _ | refine blk_drew ?_ | refine blk_alloc ?_ _)); exact BK171.out⟩, ⟨by repeat (first | (with_reducible first | exact HB.out | apply below_alloc | apply pw_below_drewN | apply below_drew1 | refine below_set ?_ GE171.out) | exact HB.out)⟩⟩
  case rest =>
    clear HC4
    try clear p2
    try clear c3
    try clear c6
    try clear c6b0
    obtain ⟨kq, x19_3, rfl, HA, HJ3, BK171, HB⟩ := hcut
    cases kq with
    | zero => exact absurd HA.out (by simp [parryref22_count.j0])
    | succ kj3 =>
      have H := HA.out
      clear HA
      simp only [parryref22_count.j0] at H
      by_cases c7 : x19_3 = true
      · subst c7
        have H1 : (some (61, 0)) = some (r1, r2) := by rw [if_pos rfl] at H; exact H
        clear H
        have H := H1
        clear H1
        simp only [Option.some.injEq, Prod.mk.injEq] at H
        obtain ⟨rfl, rfl⟩ := H
        go_wp2
        go_ret2
        exact ⟨by first | rfl | (simp [errW_none, errW_some] <;> rfl) | (simp [*, errW_none, errW_some] <;> rfl), by repeat (first | (with_reducible first | exact HB.out | apply below_alloc | apply pw_below_drewN | apply below_drew1 | refine below_set ?_ GE171.out) | exact HB.out)⟩
      · replace c7 := Bool.eq_false_iff.mpr c7
        subst c7
        have H1 : ((parryref22_Timed.f a0_0).bind fun t172 => (if t172 = true then (parryref22_count.j1 kj3 a1 a2 1 1 a0_0 a0_1 l0_2) else (parryref22_count.j1 kj3 a1 a2 1 0 a0_0 a0_1 l0_2))) = some (r1, r2) := by rw [if_neg (show ¬ (false = true) by decide)] at H; exact H
        clear H
        have H := H1
        clear H1
        replace H := Option.bind_eq_some_iff.mp H
        obtain ⟨t172, A80, H⟩ := H
        replace H : (if t172 = true then (parryref22_count.j1 kj3 a1 a2 1 1 a0_0 a0_1 l0_2) else (parryref22_count.j1 kj3 a1 a2 1 0 a0_0 a0_1 l0_2)) = some (r1, r2) := H
        have A8 := Aside0.mk A80
        clear A80
        have HC9 := Aside0.mk H
        clear H
        have hcz10_0 : wc.cell? ⟨gb171, 0, none⟩ = some (.int .i64 a0_0) := (blk_cell BK171.out 0).trans rfl
        have hcz10_1 : wc.cell? ⟨gb171, 1, none⟩ = some (.int .i64 a0_1) := (blk_cell BK171.out 1).trans rfl
        have hcz10_2 : wc.cell? ⟨gb171, 2, none⟩ = some (.slice A0_2 l0_2.length c0_2) := (blk_cell BK171.out 2).trans rfl
        have hfz10_0 := blk_frozen BK171.out 0
        have hfz10_1 := blk_frozen BK171.out 1
        have hfz10_2 := blk_frozen BK171.out 2
        go_upto_if 22 with (first | ((with_reducible refine gate_callee (f := 46) rfl ?_); refine goesL_ (some 22) rfl rfl Try.func46 (by kernel_rfl) rfl #[.int .i64 a0_0] rfl (by (try simp only [List.map_toArray, List.map_cons, List.map_nil]); first | done | rfl | (simp only [List.length_drop, List.length_take]; rfl)) ?_; (with_reducible refine (parryref22_Timed.calls a0_0 t172 _ A8.out).mono ?_); rintro e w' ⟨rfl, ⟨nd, rfl⟩⟩; refine ⟨_, rfl, ?_⟩))
        (try simp only [Act.put, List.setIfInBounds_toArray, List.set_cons_zero, List.set_cons_succ])
        go_cut [9] (fun v9 wc => ∃ (kq : Nat) (x9_8 : Int), v9 = .int .i64 x9_8 ∧ Aside0 (parryref22_count.j1 kq a1 a2 1 x9_8 a0_0 a0_1 l0_2 = some (r1, r2)) ∧ Aside0 (kq ≤ kj3) ∧ Aside0 (wc.heap[gb171]? = some (.cells #[.int .i64 a0_0, .int .i64 a0_1, (.slice A0_2 l0_2.length c0_2)] 24 (0, 0))) ∧ Aside0 (Below w.heap.size w wc))
        case first =>
          have H := HC9.out
          clear HC9
          by_cases c11 : t172 = true
          · subst c11
            have H1 : (parryref22_count.j1 kj3 a1 a2 1 1 a0_0 a0_1 l0_2) = some (r1, r2) := by rw [if_pos rfl] at H; exact H
            clear H
            have H := H1
            clear H1
            have H' := Aside0.mk H
            clear H
            go_wp2
            go_meet
            case rel => exact ⟨_, (1), (by first | rfl | (simp; done) | (simp [*]; done)), H', ⟨by have := HJ3.out; first | omega | exact Nat.le_refl _⟩, ⟨by (with_reducible repeat (first | refine blk_drewN ?_ _ | refine blk_drew ?_ | refine blk_alloc ?_ _)); exact BK171.out⟩, ⟨by repeat (first | (with_reducible first | exact HB.out | apply below_alloc | apply pw_below_drewN | apply below_drew1 | refine below_set ?_ GE171.out) | exact HB.out)⟩⟩
          · replace c11 := Bool.eq_false_iff.mpr c11
            subst c11
            have H1 : (parryref22_count.j1 kj3 a1 a2 1 0 a0_0 a0_1 l0_2) = some (r1, r2) := by rw [if_neg (show ¬ (false = true) by decide)] at H; exact H
            clear H
            have H := H1
            clear H1
            have H' := Aside0.mk H
            clear H
            go_wp2
            go_meet
            case rel => exact ⟨_, (0), (by first | rfl | (simp; done) | (simp [*]; done)), H', ⟨by have := HJ3.out; first | omega | exact Nat.le_refl _⟩, ⟨by (with_reducible repeat (first | refine blk_drewN ?_ _ | refine blk_drew ?_ | refine blk_alloc ?_ _)); exact BK171.out⟩, ⟨by repeat (first | (with_reducible first | exact HB.out | apply below_alloc | apply pw_below_drewN | apply below_drew1 | refine below_set ?_ GE171.out) | exact HB.out)⟩⟩
        case rest =>
          clear HC9
          try clear c1
          try clear p2
          try clear c3
          try clear c4
          try clear c6
          try clear c6b0
          try clear c7
          try clear c11
          try clear hcz10_0
          try clear hcz10_1
          try clear hcz10_2
          try clear hfz10_0
          try clear hfz10_1
          try clear hfz10_2
          try clear p2
          obtain ⟨kq, x9_8, rfl, HA, HJ8, BK171, HB⟩ := hcut
          cases kq with
          | zero => exact absurd HA.out (by simp [parryref22_count.j1])
          | succ kj8 =>
            have H := HA.out
            clear HA
            simp only [parryref22_count.j1] at H
            have H' := Aside0.mk H
            clear H
            have hcz12_0 : wc.cell? ⟨gb171, 0, none⟩ = some (.int .i64 a0_0) := (blk_cell BK171.out 0).trans rfl
            have hcz12_1 : wc.cell? ⟨gb171, 1, none⟩ = some (.int .i64 a0_1) := (blk_cell BK171.out 1).trans rfl
            have hcz12_2 : wc.cell? ⟨gb171, 2, none⟩ = some (.slice A0_2 l0_2.length c0_2) := (blk_cell BK171.out 2).trans rfl
            have hfz12_0 := blk_frozen BK171.out 0
            have hfz12_1 := blk_frozen BK171.out 1
            have hfz12_2 := blk_frozen BK171.out 2
            go_wp2
            go_loopg [8, 9, 26] kj8 (fun kq v8 v9 v26 w' => ∃ (x8_3 : Int) (x9_3 : Int) (x26_3 : Int), v8 = .int .i64 x8_3 ∧ v9 = .int .i64 x9_3 ∧ v26 = .int .i64 x26_3 ∧ Aside0 (parryref22_count.l0 kq a1 a2 x8_3 x9_3 l0_2 (l0_2.length : Int) x26_3 = some (r1, r2)) ∧ Aside0 (kq ≤ kj8) ∧ Aside0 (w'.heap[gb171]? = some (.cells #[.int .i64 a0_0, .int .i64 a0_1, (.slice A0_2 l0_2.length c0_2)] 24 (0, 0))) ∧ Aside0 (Below w.heap.size w w'))
            case atStart => exact ⟨(1), (x9_8), (0), (by first | rfl | (simp; done) | (simp [*]; done)), (by first | rfl | (simp; done) | (simp [*]; done)), (by first | rfl | (simp; done) | (simp [*]; done)), H', ⟨Nat.le_refl _⟩, ⟨by (with_reducible repeat (first | refine blk_drewN ?_ _ | refine blk_drew ?_ | refine blk_alloc ?_ _)); exact BK171.out⟩, ⟨by repeat (first | (with_reducible first | exact HB.out | apply below_alloc | apply pw_below_drewN | apply below_drew1 | refine below_set ?_ GE171.out) | exact HB.out)⟩⟩
            case round =>
              clear H'
              try clear c1
              try clear p2
              try clear c3
              try clear c4
              try clear c6
              try clear c6b0
              try clear c7
              try clear c11
              try clear hcz10_0
              try clear hcz10_1
              try clear hcz10_2
              try clear hcz12_0
              try clear hcz12_1
              try clear hcz12_2
              try clear hfz10_0
              try clear hfz10_1
              try clear hfz10_2
              try clear hfz12_0
              try clear hfz12_1
              try clear hfz12_2
              try clear p2
              obtain ⟨x8_3, x9_3, x26_3, rfl, rfl, rfl, HA, HK3, BK171, HB⟩ := hrel
              cases gk with
              | zero => exact absurd HA.out (by simp [parryref22_count.l0])
              | succ k3 =>
                have H := HA.out
                clear HA
                simp only [parryref22_count.l0] at H
                by_cases c13 : x26_3 < (l0_2.length : Int)
                · rw [if_pos c13] at H
                  have c13b0 : decide (x26_3 < (l0_2.length : Int)) = true := decide_eq_true c13
                  clear c13
                  by_cases c14 : 0 ≤ x26_3
                  · rw [if_pos c14] at H
                    have c14b0 : decide (0 ≤ x26_3) = true := decide_eq_true c14
                    clear c14
                    by_cases c15 : x26_3 < (l0_2.length : Int)
                    · rw [if_pos c15] at H
                      have c15b0 : decide (x26_3 < (l0_2.length : Int)) = true := decide_eq_true c15
                      clear c15
                      replace H := Option.bind_eq_some_iff.mp H
                      obtain ⟨⟨t175, t176⟩, A160, H⟩ := H
                      replace H : (if (wrap64 (x8_3 + t175)) > 60 then (some (wrap64 (x8_3 + t175), wrap64 (x9_3 + t176))) else (parryref22_count.l0 k3 a1 a2 (wrap64 (x8_3 + t175)) (wrap64 (x9_3 + t176)) l0_2 (l0_2.length : Int) (wrap64 (x26_3 + 1)))) = some (r1, r2) := H
                      have A16 := Aside0.mk A160
                      clear A160
                      by_cases c17 : (wrap64 (x8_3 + t175)) > 60
                      · rw [if_pos c17] at H
                        have c17b0 : decide (60 < (wrap64 (x8_3 + t175))) = true := decide_eq_true c17
                        clear c17
                        simp only [Option.some.injEq, Prod.mk.injEq] at H
                        obtain ⟨rfl, rfl⟩ := H
                        have p173 : 0 ≤ (x26_3 : Int) := of_decide_eq_true (by first | (with_reducible assumption) | assumption)
                        have q173 : x26_3 < (l0_2.length : Int) := of_decide_eq_true (by first | (with_reducible assumption) | assumption)
                        obtain ⟨ad173, A173_2, c173_2, e173, hx173_0, hx173_1, hx173_2, hl173_2, hi173_2⟩ := at_T24 HR0_2.out x26_3 p173 q173
                        cases e173
                        replace hx173_0 := (HB.out.cell (World.block_lt_of_cell? w _ hx173_0)).trans hx173_0
                        replace hx173_1 := (HB.out.cell (World.block_lt_of_cell? w _ hx173_1)).trans hx173_1
                        replace hx173_2 := (HB.out.cell (World.block_lt_of_cell? w _ hx173_2)).trans hx173_2
                        have HR173_2 := Aside0.mk hi173_2
                        have HC173_2 := Aside0.mk hl173_2
                        clear hi173_2 hl173_2
                        replace p173 := eq_true p173
                        replace q173 := eq_true q173
                        go_wp2_with (first | ((with_reducible refine gate_dst (N := 11) rfl ?_); refine box_event ?hg (N := 11) ?hd (cs := #[.int .i64 0, .int .i64 0, .slice none 0 0]) (t := 24) ?hr ?_; (case hd => rfl); (case hg => rfl); (case hr => first | (go_simp; done) | (go_simp; rfl)); intro gb174 hg w18 hbox hb; have n0_ := Aside0.mk (blk_below (g := gb171) (o := .cells #[.int .i64 a0_0, .int .i64 a0_1, .slice (some ad173) l0_2.length c0_2] 24 (0, 0)) (by (with_reducible repeat (first | refine blk_drewN ?_ _ | refine blk_drew ?_ | refine blk_alloc ?_ _)); exact BK171.out) hb); have n1_ := Aside0.mk (below_step (by repeat (first | (with_reducible first | exact HB.out | apply below_alloc | apply pw_below_drewN | apply below_drew1 | refine below_set ?_ GE171.out) | exact HB.out)) hb); have n2_ := Aside0.mk (hbox); have n3_ := Aside0.mk ((by rw [hg]; exact (below_size (by repeat (first | (with_reducible first | exact HB.out | apply below_alloc | apply pw_below_drewN | apply below_drew1 | refine below_set ?_ GE171.out) | exact HB.out))) : w.heap.size ≤ gb174)); have n4_ := Aside0.mk ((by rw [hg]; exact (below_size (by repeat (first | (with_reducible first | exact HB.out | apply below_alloc | apply pw_below_drewN | apply below_drew1 | refine below_set ?_ GE171.out) | exact HB.out))) : w.heap.size ≤ gb174)); have n5_ := Aside0.mk ((by rw [hg]; exact Nat.ne_of_lt (blk_lt (g := gb171) (o := .cells #[.int .i64 a0_0, .int .i64 a0_1, .slice (some ad173) l0_2.length c0_2] 24 (0, 0)) (by (with_reducible repeat (first | refine blk_drewN ?_ _ | refine blk_drew ?_ | refine blk_alloc ?_ _)); exact BK171.out)) : gb171 ≠ gb174)); have n6_ := Aside0.mk ((by rw [hg]; exact Nat.ne_of_gt (blk_lt (g := gb171) (o := .cells #[.int .i64 a0_0, .int .i64 a0_1, .slice (some ad173) l0_2.length c0_2] 24 (0, 0)) (by (with_reducible repeat (first | refine blk_drewN ?_ _ | refine blk_drew ?_ | refine blk_alloc ?_ _)); exact BK171.out)) : gb174 ≠ gb171)); clear BK171; clear HB; have BK171 := n0_; have HB := n1_; have BK174 := n2_; have GW174 := n3_; have GE174 := n4_; have NB171_174 := n5_; have NB174_171 := n6_; clear n0_ n1_ n2_ n3_ n4_ n5_ n6_; clear hb hbox hg; have hnb19 := NB174_171.out; have hnc19 := NB171_174.out; have hcz20_0 : w18.cell? ⟨gb174, 0, none⟩ = some (.int .i64 0) := (blk_cell BK174.out 0).trans rfl; have hcz20_1 : w18.cell? ⟨gb174, 1, none⟩ = some (.int .i64 0) := (blk_cell BK174.out 1).trans rfl; have hcz20_2 : w18.cell? ⟨gb174, 2, none⟩ = some (.slice none 0 0) := (blk_cell BK174.out 2).trans rfl; have hfz20_0 := blk_frozen BK174.out 0; have hfz20_1 := blk_frozen BK174.out 1; have hfz20_2 := blk_frozen BK174.out 2) | ((with_reducible refine gate_callee (f := 35) rfl ?_); refine goesL_ (some 37) rfl rfl Try.func35 (by kernel_rfl) rfl #[.agg #[.int .i64 ((rd_T24 l0_2 x26_3).f0), .int .i64 ((rd_T24 l0_2 x26_3).f1), .slice A173_2 ((rd_T24 l0_2 x26_3).f2).length c173_2], .int .i64 (wrap64 (a1 + 1)), .int .i64 (wrap64 (a2 - x8_3))] rfl (by (try simp only [List.map_toArray, List.map_cons, List.map_nil]); first | done | rfl | (simp only [List.length_drop, List.length_take]; rfl)) ?_; (with_reducible refine (ih k3 (by have := HJ3.out; have := HJ8.out; have := HK3.out; omega) ((rd_T24 l0_2 x26_3).f0) ((rd_T24 l0_2 x26_3).f1) _ _ ((rd_T24 l0_2 x26_3).f2) (wrap64 (a1 + 1)) (wrap64 (a2 - x8_3)) t175 t176 _ ?side1 ?side2 A16.out).mono ?_); (case side1 => exact Kd.C_below HR173_2.out (by repeat (first | (with_reducible first | exact HB.out | apply below_alloc | apply pw_below_drewN | apply below_drew1 | refine below_set ?_ GE171.out | refine below_set ?_ GE174.out) | exact HB.out))); (case side2 => exact HC173_2.out); rintro e w21 ⟨rfl, hb⟩; refine ⟨_, rfl, ?_⟩; have n0_ := Aside0.mk (blk_below (g := gb171) (o := .cells #[.int .i64 a0_0, .int .i64 a0_1, .slice (some ad173) l0_2.length c0_2] 24 (0, 0)) (by (with_reducible repeat (first | refine blk_drewN ?_ _ | refine blk_drew ?_ | refine blk_alloc ?_ _)); refine blk_far ?_ NB171_174.out _; (with_reducible repeat (first | refine blk_drewN ?_ _ | refine blk_drew ?_ | refine blk_alloc ?_ _)); refine blk_far ?_ NB171_174.out _; (with_reducible repeat (first | refine blk_drewN ?_ _ | refine blk_drew ?_ | refine blk_alloc ?_ _)); refine blk_far ?_ NB171_174.out _; (with_reducible repeat (first | refine blk_drewN ?_ _ | refine blk_drew ?_ | refine blk_alloc ?_ _)); exact BK171.out) hb); have n1_ := Aside0.mk (blk_below (g := gb174) (o := .cells #[.int .i64 ((rd_T24 l0_2 x26_3).f0), .int .i64 ((rd_T24 l0_2 x26_3).f1), .slice A173_2 ((rd_T24 l0_2 x26_3).f2).length c173_2] 24 (0, 0)) (by (with_reducible repeat (first | refine blk_drewN ?_ _ | refine blk_drew ?_ | refine blk_alloc ?_ _)); refine blk_put (cs := #[.int .i64 ((rd_T24 l0_2 x26_3).f0), .int .i64 ((rd_T24 l0_2 x26_3).f1), .slice none 0 0]) ?_ 2 _ rfl; (with_reducible repeat (first | refine blk_drewN ?_ _ | refine blk_drew ?_ | refine blk_alloc ?_ _)); refine blk_put (cs := #[.int .i64 ((rd_T24 l0_2 x26_3).f0), .int .i64 0, .slice none 0 0]) ?_ 1 _ rfl; (with_reducible repeat (first | refine blk_drewN ?_ _ | refine blk_drew ?_ | refine blk_alloc ?_ _)); refine blk_put (cs := #[.int .i64 0, .int .i64 0, .slice none 0 0]) ?_ 0 _ rfl; (with_reducible repeat (first | refine blk_drewN ?_ _ | refine blk_drew ?_ | refine blk_alloc ?_ _)); exact BK174.out) hb); have n2_ := Aside0.mk (below_step (by repeat (first | (with_reducible first | exact HB.out | apply below_alloc | apply pw_below_drewN | apply below_drew1 | refine below_set ?_ GE171.out | refine below_set ?_ GE174.out) | exact HB.out)) hb); clear BK171; clear BK174; clear HB; have BK171 := n0_; have BK174 := n1_; have HB := n2_; clear n0_ n1_ n2_; (try clear hb); (try clear hb2); (try clear hk); (try clear hi)))
                        go_ret2
                        exact ⟨by first | rfl | (simp [errW_none, errW_some] <;> rfl) | (simp [*, errW_none, errW_some] <;> rfl), by repeat (first | (with_reducible first | exact HB.out | apply below_alloc | apply pw_below_drewN | apply below_drew1 | refine below_set ?_ GE171.out | refine below_set ?_ GE174.out) | exact HB.out)⟩
                      · rw [if_neg c17] at H
                        have c17b0 : decide (60 < (wrap64 (x8_3 + t175))) = false := decide_eq_false c17
                        clear c17
                        have H' := Aside0.mk H
                        clear H
                        have p173 : 0 ≤ (x26_3 : Int) := of_decide_eq_true (by first | (with_reducible assumption) | assumption)
                        have q173 : x26_3 < (l0_2.length : Int) := of_decide_eq_true (by first | (with_reducible assumption) | assumption)
                        obtain ⟨ad173, A173_2, c173_2, e173, hx173_0, hx173_1, hx173_2, hl173_2, hi173_2⟩ := at_T24 HR0_2.out x26_3 p173 q173
                        cases e173
                        replace hx173_0 := (HB.out.cell (World.block_lt_of_cell? w _ hx173_0)).trans hx173_0
                        replace hx173_1 := (HB.out.cell (World.block_lt_of_cell? w _ hx173_1)).trans hx173_1
                        replace hx173_2 := (HB.out.cell (World.block_lt_of_cell? w _ hx173_2)).trans hx173_2
                        have HR173_2 := Aside0.mk hi173_2
                        have HC173_2 := Aside0.mk hl173_2
                        clear hi173_2 hl173_2
                        replace p173 := eq_true p173
                        replace q173 := eq_true q173
                        go_wp2_with (first | ((with_reducible refine gate_dst (N := 11) rfl ?_); refine box_event ?hg (N := 11) ?hd (cs := #[.int .i64 0, .int .i64 0, .slice none 0 0]) (t := 24) ?hr ?_; (case hd => rfl); (case hg => rfl); (case hr => first | (go_simp; done) | (go_simp; rfl)); intro gb174 hg w22 hbox hb; have n0_ := Aside0.mk (blk_below (g := gb171) (o := .cells #[.int .i64 a0_0, .int .i64 a0_1, .slice (some ad173) l0_2.length c0_2] 24 (0, 0)) (by (with_reducible repeat (first | refine blk_drewN ?_ _ | refine blk_drew ?_ | refine blk_alloc ?_ _)); exact BK171.out) hb); have n1_ := Aside0.mk (below_step (by repeat (first | (with_reducible first | exact HB.out | apply below_alloc | apply pw_below_drewN | apply below_drew1 | refine below_set ?_ GE171.out) | exact HB.out)) hb); have n2_ := Aside0.mk (hbox); have n3_ := Aside0.mk ((by rw [hg]; exact (below_size (by repeat (first | (with_reducible first | exact HB.out | apply below_alloc | apply pw_below_drewN | apply below_drew1 | refine below_set ?_ GE171.out) | exact HB.out))) : w.heap.size ≤ gb174)); have n4_ := Aside0.mk ((by rw [hg]; exact (below_size (by repeat (first | (with_reducible first | exact HB.out | apply below_alloc | apply pw_below_drewN | apply below_drew1 | refine below_set ?_ GE171.out) | exact HB.out))) : w.heap.size ≤ gb174)); have n5_ := Aside0.mk ((by rw [hg]; exact Nat.ne_of_lt (blk_lt (g := gb171) (o := .cells #[.int .i64 a0_0, .int .i64 a0_1, .slice (some ad173) l0_2.length c0_2] 24 (0, 0)) (by (with_reducible repeat (first | refine blk_drewN ?_ _ | refine blk_drew ?_ | refine blk_alloc ?_ _)); exact BK171.out)) : gb171 ≠ gb174)); have n6_ := Aside0.mk ((by rw [hg]; exact Nat.ne_of_gt (blk_lt (g := gb171) (o := .cells #[.int .i64 a0_0, .int .i64 a0_1, .slice (some ad173) l0_2.length c0_2] 24 (0, 0)) (by (with_reducible repeat (first | refine blk_drewN ?_ _ | refine blk_drew ?_ | refine blk_alloc ?_ _)); exact BK171.out)) : gb174 ≠ gb171)); clear BK171; clear HB; have BK171 := n0_; have HB := n1_; have BK174 := n2_; have GW174 := n3_; have GE174 := n4_; have NB171_174 := n5_; have NB174_171 := n6_; clear n0_ n1_ n2_ n3_ n4_ n5_ n6_; clear hb hbox hg; have hnb23 := NB174_171.out; have hnc23 := NB171_174.out; have hcz24_0 : w22.cell? ⟨gb174, 0, none⟩ = some (.int .i64 0) := (blk_cell BK174.out 0).trans rfl; have hcz24_1 : w22.cell? ⟨gb174, 1, none⟩ = some (.int .i64 0) := (blk_cell BK174.out 1).trans rfl; have hcz24_2 : w22.cell? ⟨gb174, 2, none⟩ = some (.slice none 0 0) := (blk_cell BK174.out 2).trans rfl; have hfz24_0 := blk_frozen BK174.out 0; have hfz24_1 := blk_frozen BK174.out 1; have hfz24_2 := blk_frozen BK174.out 2) | ((with_reducible refine gate_callee (f := 35) rfl ?_); refine goesL_ (some 37) rfl rfl Try.func35 (by kernel_rfl) rfl #[.agg #[.int .i64 ((rd_T24 l0_2 x26_3).f0), .int .i64 ((rd_T24 l0_2 x26_3).f1), .slice A173_2 ((rd_T24 l0_2 x26_3).f2).length c173_2], .int .i64 (wrap64 (a1 + 1)), .int .i64 (wrap64 (a2 - x8_3))] rfl (by (try simp only [List.map_toArray, List.map_cons, List.map_nil]); first | done | rfl | (simp only [List.length_drop, List.length_take]; rfl)) ?_; (with_reducible refine (ih k3 (by have := HJ3.out; have := HJ8.out; have := HK3.out; omega) ((rd_T24 l0_2 x26_3).f0) ((rd_T24 l0_2 x26_3).f1) _ _ ((rd_T24 l0_2 x26_3).f2) (wrap64 (a1 + 1)) (wrap64 (a2 - x8_3)) t175 t176 _ ?side1 ?side2 A16.out).mono ?_); (case side1 => exact Kd.C_below HR173_2.out (by repeat (first | (with_reducible first | exact HB.out | apply below_alloc | apply pw_below_drewN | apply below_drew1 | refine below_set ?_ GE171.out | refine below_set ?_ GE174.out) | exact HB.out))); (case side2 => exact HC173_2.out); rintro e w25 ⟨rfl, hb⟩; refine ⟨_, rfl, ?_⟩; have n0_ := Aside0.mk (blk_below (g := gb171) (o := .cells #[.int .i64 a0_0, .int .i64 a0_1, .slice (some ad173) l0_2.length c0_2] 24 (0, 0)) (by (with_reducible repeat (first | refine blk_drewN ?_ _ | refine blk_drew ?_ | refine blk_alloc ?_ _)); refine blk_far ?_ NB171_174.out _; (with_reducible repeat (first | refine blk_drewN ?_ _ | refine blk_drew ?_ | refine blk_alloc ?_ _)); refine blk_far ?_ NB171_174.out _; (with_reducible repeat (first | refine blk_drewN ?_ _ | refine blk_drew ?_ | refine blk_alloc ?_ _)); refine blk_far ?_ NB171_174.out _; (with_reducible repeat (first | refine blk_drewN ?_ _ | refine blk_drew ?_ | refine blk_alloc ?_ _)); exact BK171.out) hb); have n1_ := Aside0.mk (blk_below (g := gb174) (o := .cells #[.int .i64 ((rd_T24 l0_2 x26_3).f0), .int .i64 ((rd_T24 l0_2 x26_3).f1), .slice A173_2 ((rd_T24 l0_2 x26_3).f2).length c173_2] 24 (0, 0)) (by (with_reducible repeat (first | refine blk_drewN ?_ _ | refine blk_drew ?_ | refine blk_alloc ?_ _)); refine blk_put (cs := #[.int .i64 ((rd_T24 l0_2 x26_3).f0), .int .i64 ((rd_T24 l0_2 x26_3).f1), .slice none 0 0]) ?_ 2 _ rfl; (with_reducible repeat (first | refine blk_drewN ?_ _ | refine blk_drew ?_ | refine blk_alloc ?_ _)); refine blk_put (cs := #[.int .i64 ((rd_T24 l0_2 x26_3).f0), .int .i64 0, .slice none 0 0]) ?_ 1 _ rfl; (with_reducible repeat (first | refine blk_drewN ?_ _ | refine blk_drew ?_ | refine blk_alloc ?_ _)); refine blk_put (cs := #[.int .i64 0, .int .i64 0, .slice none 0 0]) ?_ 0 _ rfl; (with_reducible repeat (first | refine blk_drewN ?_ _ | refine blk_drew ?_ | refine blk_alloc ?_ _)); exact BK174.out) hb); have n2_ := Aside0.mk (below_step (by repeat (first | (with_reducible first | exact HB.out | apply below_alloc | apply pw_below_drewN | apply below_drew1 | refine below_set ?_ GE171.out | refine below_set ?_ GE174.out) | exact HB.out)) hb); clear BK171; clear BK174; clear HB; have BK171 := n0_; have BK174 := n1_; have HB := n2_; clear n0_ n1_ n2_; (try clear hb); (try clear hb2); (try clear hk); (try clear hi)))
                        go_roundg k3
                        case measure => have := HJ3.out; have := HJ8.out; have := HK3.out; omega
                        case rel => exact ⟨(wrap64 (x8_3 + t175)), (wrap64 (x9_3 + t176)), (wrap64 (x26_3 + 1)), (by first | rfl | (simp; done) | (simp [*]; done)), (by first | rfl | (simp; done) | (simp [*]; done)), (by first | rfl | (simp; done) | (simp [*]; done)), H', ⟨by have := HJ3.out; have := HJ8.out; have := HK3.out; omega⟩, ⟨by (with_reducible repeat (first | refine blk_drewN ?_ _ | refine blk_drew ?_ | refine blk_alloc ?_ _)); exact BK171.out⟩, ⟨by repeat (first | (with_reducible first | exact HB.out | apply below_alloc | apply pw_below_drewN | apply below_drew1 | refine below_set ?_ GE171.out | refine below_set ?_ GE174.out) | exact HB.out)⟩⟩
                    · rw [if_neg c15] at H
                      exact absurd H (by simp)
                  · rw [if_neg c14] at H
                    exact absurd H (by simp)
                · rw [if_neg c13] at H
                  have c13b0 : decide (x26_3 < (l0_2.length : Int)) = false := decide_eq_false c13
                  clear c13
                  simp only [Option.some.injEq, Prod.mk.injEq] at H
                  obtain ⟨rfl, rfl⟩ := H
                  go_wp2
                  go_ret2
                  exact ⟨by first | rfl | (simp [errW_none, errW_some] <;> rfl) | (simp [*, errW_none, errW_some] <;> rfl), by repeat (first | (with_reducible first | exact HB.out | apply below_alloc | apply pw_below_drewN | apply below_drew1 | refine below_set ?_ GE171.out) | exact HB.out)⟩

end Go.Proofs.Ytegaicoddnmemaa.P

namespace Go.Proofs.Ytegaicoddnmemaa.P
open Go.RowKit Go.Proofs.YtegaicoddnmemaaW.PrintWords Go.Proofs.YtegaicoddnmemaaW.PrintLast Go.Proofs.YtegaicoddnmemaaW.PrintMore
attribute [local go_sem] max2_int min2_int max_two min_two max_three min_three max_four min_four   -- for this text's walks alone
set_option linter.unusedVariables false
set_option linter.unusedSimpArgs false

mutual
def parryref22_Kids.j0 : Nat → Int → Bool → Option (Int)
  | 0, _, _ => none
  | k + 1, x3, x4 => if x4 = true then (some 0) else (if x3 = 3 then (parryref22_Kids.j1 k x3 (x3 == 3)) else (parryref22_Kids.j1 k x3 (x3 == 6)))
def parryref22_Kids.j1 : Nat → Int → Bool → Option (Int)
  | 0, _, _ => none
  | k + 1, x3, x7 => if x7 = true then (some 1) else (if x3 = 4 then (some 2) else (if x3 = 5 then (some 2) else (if x3 = 7 then (some 2) else (if x3 = 8 then (some 2) else (some (-1))))))
end
def parryref22_Kids.f (k : Nat) (a0 : Int) : Option (Int) := if a0 = 1 then (parryref22_Kids.j0 k a0 (a0 == 1)) else (parryref22_Kids.j0 k a0 (a0 == 2))
theorem parryref22_Kids.mono_l : ∀ k, (∀ y0 y1, LeO (parryref22_Kids.j0 k y0 y1) (parryref22_Kids.j0 (k + 1) y0 y1)) ∧ (∀ y0 y1, LeO (parryref22_Kids.j1 k y0 y1) (parryref22_Kids.j1 (k + 1) y0 y1))
  | 0 => ⟨fun _ _ r h => by simp [parryref22_Kids.j0] at h, fun _ _ r h => by simp [parryref22_Kids.j1] at h⟩
  | k + 1 => by
    obtain ⟨ih0, ih1⟩ := parryref22_Kids.mono_l k
    refine ⟨?_, ?_⟩
    · intro y0 y1
      unfold parryref22_Kids.j0
      repeat' first
      | (with_reducible exact ih0 _ _)
      | (with_reducible exact ih1 _ _)
      | (with_reducible exact LeO.refl _)
      | (with_reducible exact LeO.none _)
      | (with_reducible refine LeO.ite ?_ ?_)
      | (with_reducible refine LeO.bind ?_ (fun _ => ?_))
      | exact ih0 _ _
      | exact ih1 _ _
      | exact LeO.none _
      | refine LeO.ite ?_ ?_
      | refine LeO.bind ?_ (fun _ => ?_)
    · intro y0 y1
      unfold parryref22_Kids.j1
      repeat' first
      | (with_reducible exact ih0 _ _)
      | (with_reducible exact ih1 _ _)
      | (with_reducible exact LeO.refl _)
      | (with_reducible exact LeO.none _)
      | (with_reducible refine LeO.ite ?_ ?_)
      | (with_reducible refine LeO.bind ?_ (fun _ => ?_))
      | exact ih0 _ _
      | exact ih1 _ _
      | exact LeO.none _
      | refine LeO.ite ?_ ?_
      | refine LeO.bind ?_ (fun _ => ?_)
theorem parryref22_Kids.mono : ∀ a0 k, LeO (parryref22_Kids.f k a0) (parryref22_Kids.f (k + 1) a0) := by
  intro a0 k
  obtain ⟨ih0, ih1⟩ := parryref22_Kids.mono_l k
  unfold parryref22_Kids.f
  repeat' first
      | (with_reducible exact ih0 _ _)
      | (with_reducible exact ih1 _ _)
      | (with_reducible exact LeO.refl _)
      | (with_reducible exact LeO.none _)
      | (with_reducible refine LeO.ite ?_ ?_)
      | (with_reducible refine LeO.bind ?_ (fun _ => ?_))
      | exact ih0 _ _
      | exact ih1 _ _
      | exact LeO.none _
      | refine LeO.ite ?_ ?_
      | refine LeO.bind ?_ (fun _ => ?_)
set_option maxHeartbeats 8000000 in
set_option maxRecDepth 100000 in
theorem parryref22_Kids.calls (k : Nat) (a0 : Int) (r : Int) (w : World) (h : parryref22_Kids.f k a0 = some r) :
    Calls Try.prog 51 #[.int .i64 a0] w fun e w' => e = .returned (.int .i64 r) ∧ Drawn0 w w' := by
  have H : (if a0 = 1 then (parryref22_Kids.j0 k a0 (a0 == 1)) else (parryref22_Kids.j0 k a0 (a0 == 2))) = some r := h
  clear h
  have HC2 := Aside0.mk H
  clear H
  go_enter Try.func51, Try.ntmps51
  go_upto_if 4 with (fail)
  go_cut [4] (fun v4 wc => ∃ (kq : Nat) (x4_1 : Bool), v4 = .bool x4_1 ∧ Aside0 (parryref22_Kids.j0 kq a0 x4_1 = some r) ∧ Aside0 (kq ≤ k) ∧ Drawn0 w wc)
  case first =>
    have H := HC2.out
    clear HC2
    by_cases c3 : a0 = 1
    · rw [if_pos c3] at H
      have c3b0 : (a0 == 1) = true := beq_iff_eq.mpr c3
      have c3b1 : (a0 != 1) = false := bne_eq_false_iff_eq.mpr c3
      clear c3
      (first | rw [c3b0] | (simp only [i64_w, i32_w]; rw [c3b0]) | skip)
      have H' := Aside0.mk H
      clear H
      go_wp2
      go_meet
      case rel => exact ⟨_, ((a0 == 1)), (by first | rfl | (simp; done) | (simp [*]; done)), H', ⟨by first | omega | exact Nat.le_refl _⟩, by repeat (first | exact Drawn0.refl _ | apply Drawn0.step)⟩
    · rw [if_neg c3] at H
      have c3b0 : (a0 == 1) = false := beq_eq_false_iff_ne.mpr c3
      have c3b1 : (a0 != 1) = true := bne_iff_ne.mpr c3
      (first | rw [c3b0] | (simp only [i64_w, i32_w]; rw [c3b0]) | skip)
      have H' := Aside0.mk H
      clear H
      go_wp2
      go_meet
      case rel => exact ⟨_, ((a0 == 2)), (by first | rfl | (simp; done) | (simp [*]; done)), H', ⟨by first | omega | exact Nat.le_refl _⟩, by repeat (first | exact Drawn0.refl _ | apply Drawn0.step)⟩
  case rest =>
    clear HC2
    try clear p2
    try clear c3
    try clear c3b0
    try clear c3b1
    obtain ⟨kq, x4_1, rfl, HA, HJ1, ⟨mc1, rfl⟩⟩ := hcut
    cases kq with
    | zero => exact absurd HA.out (by simp [parryref22_Kids.j0])
    | succ kj1 =>
      have H := HA.out
      clear HA
      simp only [parryref22_Kids.j0] at H
      by_cases c4 : x4_1 = true
      · subst c4
        have H1 : (some 0) = some r := by rw [if_pos rfl] at H; exact H
        clear H
        have H := H1
        clear H1
        obtain rfl := Option.some.inj H
        go_wp2
        go_ret
        exact ⟨by first | rfl | (simp; done) | (simp [*]; done), by repeat (first | exact Drawn0.refl _ | apply Drawn0.step)⟩
      · replace c4 := Bool.eq_false_iff.mpr c4
        subst c4
        have H1 : (if a0 = 3 then (parryref22_Kids.j1 kj1 a0 (a0 == 3)) else (parryref22_Kids.j1 kj1 a0 (a0 == 6))) = some r := by rw [if_neg (show ¬ (false = true) by decide)] at H; exact H
        clear H
        have H := H1
        clear H1
        have HC5 := Aside0.mk H
        clear H
        go_upto_if 7 with (fail)
        go_cut [7] (fun v7 wc => ∃ (kq : Nat) (x7_4 : Bool), v7 = .bool x7_4 ∧ Aside0 (parryref22_Kids.j1 kq a0 x7_4 = some r) ∧ Aside0 (kq ≤ kj1) ∧ Drawn0 w wc)
        case first =>
          have H := HC5.out
          clear HC5
          by_cases c6 : a0 = 3
          · rw [if_pos c6] at H
            have c6b0 : (a0 == 3) = true := beq_iff_eq.mpr c6
            have c6b1 : (a0 != 3) = false := bne_eq_false_iff_eq.mpr c6
            clear c6
            (first | rw [c6b0] | (simp only [i64_w, i32_w]; rw [c6b0]) | skip)
            have H' := Aside0.mk H
            clear H
            go_wp2
            go_meet
            case rel => exact ⟨_, ((a0 == 3)), (by first | rfl | (simp; done) | (simp [*]; done)), H', ⟨by have := HJ1.out; first | omega | exact Nat.le_refl _⟩, by repeat (first | exact Drawn0.refl _ | apply Drawn0.step)⟩
          · rw [if_neg c6] at H
            have c6b0 : (a0 == 3) = false := beq_eq_false_iff_ne.mpr c6
            have c6b1 : (a0 != 3) = true := bne_iff_ne.mpr c6
            (first | rw [c6b0] | (simp only [i64_w, i32_w]; rw [c6b0]) | skip)
            have H' := Aside0.mk H
            clear H
            go_wp2
            go_meet
            case rel => exact ⟨_, ((a0 == 6)), (by first | rfl | (simp; done) | (simp [*]; done)), H', ⟨by have := HJ1.out; first | omega | exact Nat.le_refl _⟩, by repeat (first | exact Drawn0.refl _ | apply Drawn0.step)⟩
        case rest =>
          clear HC5
          try clear c1
          try clear p2
          try clear c3
          try clear c3b0
          try clear c3b1
          try clear c4
          try clear c5
          try clear c6
          try clear c6b0
          try clear c6b1
          try clear p2
          obtain ⟨kq, x7_4, rfl, HA, HJ4, ⟨mc4, rfl⟩⟩ := hcut
          cases kq with
          | zero => exact absurd HA.out (by simp [parryref22_Kids.j1])
          | succ kj4 =>
            have H := HA.out
            clear HA
            simp only [parryref22_Kids.j1] at H
            by_cases c7 : x7_4 = true
            · subst c7
              have H1 : (some 1) = some r := by rw [if_pos rfl] at H; exact H
              clear H
              have H := H1
              clear H1
              obtain rfl := Option.some.inj H
              go_wp2
              go_ret
              exact ⟨by first | rfl | (simp; done) | (simp [*]; done), by repeat (first | exact Drawn0.refl _ | apply Drawn0.step)⟩
            · replace c7 := Bool.eq_false_iff.mpr c7
              subst c7
              have H1 : (if a0 = 4 then (some 2) else (if a0 = 5 then (some 2) else (if a0 = 7 then (some 2) else (if a0 = 8 then (some 2) else (some (-1)))))) = some r := by rw [if_neg (show ¬ (false = true) by decide)] at H; exact H
              clear H
              have H := H1
              clear H1
              by_cases c8 : a0 = 4
              · rw [if_pos c8] at H
                have c8b0 : (a0 == 4) = true := beq_iff_eq.mpr c8
                have c8b1 : (a0 != 4) = false := bne_eq_false_iff_eq.mpr c8
                clear c8
                obtain rfl := Option.some.inj H
                go_wp2
                go_ret
                exact ⟨by first | rfl | (simp; done) | (simp [*]; done), by repeat (first | exact Drawn0.refl _ | apply Drawn0.step)⟩
              · rw [if_neg c8] at H
                have c8b0 : (a0 == 4) = false := beq_eq_false_iff_ne.mpr c8
                have c8b1 : (a0 != 4) = true := bne_iff_ne.mpr c8
                by_cases c9 : a0 = 5
                · rw [if_pos c9] at H
                  have c9b0 : (a0 == 5) = true := beq_iff_eq.mpr c9
                  have c9b1 : (a0 != 5) = false := bne_eq_false_iff_eq.mpr c9
                  clear c9
                  obtain rfl := Option.some.inj H
                  go_wp2
                  go_ret
                  exact ⟨by first | rfl | (simp; done) | (simp [*]; done), by repeat (first | exact Drawn0.refl _ | apply Drawn0.step)⟩
                · rw [if_neg c9] at H
                  have c9b0 : (a0 == 5) = false := beq_eq_false_iff_ne.mpr c9
                  have c9b1 : (a0 != 5) = true := bne_iff_ne.mpr c9
                  by_cases c10 : a0 = 7
                  · rw [if_pos c10] at H
                    have c10b0 : (a0 == 7) = true := beq_iff_eq.mpr c10
                    have c10b1 : (a0 != 7) = false := bne_eq_false_iff_eq.mpr c10
                    clear c10
                    obtain rfl := Option.some.inj H
                    go_wp2
                    go_ret
                    exact ⟨by first | rfl | (simp; done) | (simp [*]; done), by repeat (first | exact Drawn0.refl _ | apply Drawn0.step)⟩
                  · rw [if_neg c10] at H
                    have c10b0 : (a0 == 7) = false := beq_eq_false_iff_ne.mpr c10
                    have c10b1 : (a0 != 7) = true := bne_iff_ne.mpr c10
                    by_cases c11 : a0 = 8
                    · rw [if_pos c11] at H
                      have c11b0 : (a0 == 8) = true := beq_iff_eq.mpr c11
                      have c11b1 : (a0 != 8) = false := bne_eq_false_iff_eq.mpr c11
                      clear c11
                      obtain rfl := Option.some.inj H
                      go_wp2
                      go_ret
                      exact ⟨by first | rfl | (simp; done) | (simp [*]; done), by repeat (first | exact Drawn0.refl _ | apply Drawn0.step)⟩
                    · rw [if_neg c11] at H
                      have c11b0 : (a0 == 8) = false := beq_eq_false_iff_ne.mpr c11
                      have c11b1 : (a0 != 8) = true := bne_iff_ne.mpr c11
                      obtain rfl := Option.some.inj H
                      go_wp2
                      go_ret
                      exact ⟨by first | rfl | (simp; done) | (simp [*]; done), by repeat (first | exact Drawn0.refl _ | apply Drawn0.step)⟩

end Go.Proofs.Ytegaicoddnmemaa.P

namespace Go.Proofs.Ytegaicoddnmemaa.X
open Go.RowKit Go.Proofs.YtegaicoddnmemaaW.PrintWords Go.Proofs.YtegaicoddnmemaaW.PrintLast Go.Proofs.YtegaicoddnmemaaW.PrintMore
open Go.Proofs.Ytegaicoddnmemaa.P Go.Proofs.Ytegaicoddnmemaa.Evx
set_option linter.unusedSimpArgs false
set_option linter.unusedVariables false
theorem Kids_ev (op : Int) : Ev (fun k => parryref22_Kids.f k op) (kidsS op) := by
  have h1 : ∀ b : Bool, b = decide (op = 3 ∨ op = 6) → ¬ (op = 1 ∨ op = 2) → Ev (fun k => parryref22_Kids.j1 k op b) (kidsS op) := by
    intro b hb h0
    refine ev_step (fun k => rfl) (ev_bool (fun h => ?_) (fun h => ?_))
    · rw [h] at hb
      have := of_decide_eq_true hb.symm
      exact ev_eq (ev_some _) (by unfold kidsS; rw [if_neg h0, if_pos this])
    · rw [h] at hb
      have := of_decide_eq_false hb.symm
      have e : kidsS op = if op = 4 ∨ op = 5 ∨ op = 7 ∨ op = 8 then 2 else -1 := by unfold kidsS; rw [if_neg h0, if_neg this]
      rw [e]
      refine ev_ite (fun c => ev_eq (ev_some _) ?_) (fun c4 => ev_ite (fun c => ev_eq (ev_some _) ?_) (fun c5 => ev_ite (fun c => ev_eq (ev_some _) ?_) (fun c7 => ev_ite (fun c => ev_eq (ev_some _) ?_) (fun c8 => ev_eq (ev_some _) ?_))))
      · rw [if_pos (by omega)]
      · rw [if_pos (by omega)]
      · rw [if_pos (by omega)]
      · rw [if_pos (by omega)]
      · rw [if_neg (by omega)]
  have h0 : ∀ b : Bool, b = decide (op = 1 ∨ op = 2) → Ev (fun k => parryref22_Kids.j0 k op b) (kidsS op) := by
    intro b hb
    refine ev_step (fun k => rfl) (ev_bool (fun h => ?_) (fun h => ?_))
    · rw [h] at hb
      have := of_decide_eq_true hb.symm
      exact ev_eq (ev_some _) (by unfold kidsS; rw [if_pos this])
    · rw [h] at hb
      have h2 := of_decide_eq_false hb.symm
      refine ev_ite (fun c => h1 _ ?_ h2) (fun c => h1 _ ?_ h2)
      · simp [c]
      · simp [c, show (op == 6) = decide (op = 6) from rfl]
  unfold parryref22_Kids.f
  refine ev_ite (fun c => h0 _ ?_) (fun c => h0 _ ?_)
  · simp [c]
  · simp [c, show (op == 2) = decide (op = 2) from rfl]
def rsd.T1 : Bool × List (List Nat × List Nat) := (true, [([], []), ([0], [0]), ([1], [1]), ([2], [2]), ([3, 2], [3]), ([4], [4]), ([5, 4], [4, 5]), ([6, 4], [4, 6]), ([4], [4]), ([8, 4], [4, 8]), ([9, 4, 4], [4, 9]), ([7, 10, 4], [4, 7, 10]), ([4, 11], [4, 11])])
def rsd.B1 : List Nat := [0, 1, 3, 7, 15, 31, 63, 127, 31, 287, 799, 2047, 4095]
theorem rsd.tab1 : rtab .any (opsOf Try.f36 1) = rsd.T1 := by kernel_rfl
theorem rsd.bits1 : waitsOk rsd.T1.2 rsd.B1 = true := by kernel_rfl
theorem bnot {b : Bool} (h : (!b) = true) : b = false := by simpa using h
def RsAt (s : S24) : Prop := ∀ (A : Option Addr) (cp : Nat) (w : World), Kd.C k24 w A s.f2.length s.f2 → s.f2.length ≤ cp →
    Calls Try.prog 36 #[.agg #[.int .i64 s.f0, .int .i64 s.f1, .slice A s.f2.length cp]] w fun e w' => e = .returned (.bool (soundS s)) ∧ Below w.heap.size w w'
set_option maxHeartbeats 4000000 in
set_option maxRecDepth 100000 in
theorem rsound_calls (s : S24) (ih : ∀ k ∈ s.f2, RsAt k) : RsAt s := by
  intro A cp w hk hc
  have huF := Try.underlying24
  have huL := Try.underlying22
  obtain ⟨W1, hW1⟩ : ∃ W1, W1 = w.alloc (.cells #[.int .i64 s.f0, .int .i64 s.f1, .slice A s.f2.length cp] 24) := ⟨_, rfl⟩
  have hB1 : Below w.heap.size w W1 := by rw [hW1]; exact below_alloc (Below.refl _ _) _
  have hbx : W1.heap[w.heap.size]? = some (.cells #[.int .i64 s.f0, .int .i64 s.f1, .slice A s.f2.length cp] 24 (0, 0)) := by rw [hW1]; exact heap_alloc_new w _
  have HBX := Aside0.mk hbx
  have HB1 := Aside0.mk hB1
  have HK := Aside0.mk hk
  have HIH := Aside0.mk ih
  obtain ⟨kk, hkk⟩ := (Kids_ev s.f0).rounds
  have hkr := kids_range s.f0
  have HKK := Aside0.mk hkk
  have HD := Aside0.mk (show soundS s = (decide (0 ≤ kidsS s.f0) && (decide ((s.f2.length : Int) = kidsS s.f0) && (decide (0 ≤ s.f1) && (decide (s.f1 ≤ mostS s.f0) && soundL s.f2)))) from by cases s; rfl)
  have HMO := Aside0.mk (show mostS s.f0 = if s.f0 = 2 then 19 else 0 from rfl)
  have x0 : W1.cell? ⟨w.heap.size, 0, none⟩ = some (.int .i64 s.f0) := (blk_cell hbx 0).trans rfl
  have x1 : W1.cell? ⟨w.heap.size, 1, none⟩ = some (.int .i64 s.f1) := (blk_cell hbx 1).trans rfl
  have x2 : W1.cell? ⟨w.heap.size, 2, none⟩ = some (.slice A s.f2.length cp) := (blk_cell hbx 2).trans rfl
  have hlen := Kd.C_max HK.out
  clear hbx hB1 hk ih hkk
  generalize kidsS s.f0 = Kq at *
  generalize mostS s.f0 = M at *
  generalize soundS s = R at *
  go_enter Try.func36, Try.ntmps36
  go_upto_region 1 with fail
  rw [← hW1]
  clear hW1
  go_cut [17] (fun v17 wx => ∃ (t : Bool) (m : Nat), v17 = .bool t ∧ Aside0 ((!(decide (0 ≤ Kq) && decide ((s.f2.length : Int) = Kq))) = t) ∧ wx = W1.drewN m)
  case first =>
    by_cases c1 : 0 ≤ Kq
    · have d1 : decide (Kq < 0) = false := decide_eq_false (by omega)
      have HC1 := Aside0.mk c1
      clear c1
      go_region_with (go_at_call 51; refine (parryref22_Kids.calls kk s.f0 Kq _ HKK.out).mono ?_; rintro e w1 ⟨rfl, hd0⟩; obtain ⟨m, rfl⟩ := hd0.out)
      all_goals (
        go_wp2_with fail
        go_meet
        exact ⟨_, _, rfl, ⟨by rw [decide_eq_true HC1.out, Bool.true_and]; rfl⟩, rfl⟩)
    · have d1 : decide (Kq < 0) = true := decide_eq_true (by omega)
      have HC1 := Aside0.mk c1
      clear c1
      refine start_ (n := 13) (S := fun w' => w'.cell? ⟨w.heap.size, 0, none⟩ = some (.int .i64 s.f0) ∧ w'.cell? ⟨w.heap.size, 2, none⟩ = some (.slice A s.f2.length cp)) (ds := []) #[false, false, false, false, false, false, false, false, false, false, false, false, false] (by kernel_rfl) rfl rfl ⟨x0, x2⟩ (fun hHeld => ?_)
      refine with_tabW rsd.tab1 rsd.bits1 (fun HT_ HW_ => ?_)
      refine pure_ (i := 0) (N := some 5) (v := ?_) (a' := ?_) #[true, false, false, false, false, false, false, false, false, false, false, false, false] rfl rfl (any_of HT_.out (by kernel_rfl)) (fun _ _ _ h => h) (Or.inl ⟨by rfl, ?_⟩) ?_ ?_
      rotate_left
      · intro w'
        go_simp
        with_reducible rfl
      rotate_left
      · simp only [Act.put, List.setIfInBounds_toArray, List.set_cons_zero, List.set_cons_succ, i64_w, i32_w]
        rfl
      refine take_ (i := 1) (N := some 6) (v := ?_) (a' := ?_) #[true, true, false, false, false, false, false, false, false, false, false, false, false] rfl rfl (take_ofW HT_.out HW_.out (by kernel_rfl)) (fun _ _ _ h => h) (Or.inl ⟨by rfl, ?_⟩) hHeld ?_ ?_
      rotate_left
      · rintro w' ⟨s0, s1⟩
        go_simp
        with_reducible rfl
      rotate_left
      · simp only [Act.put, List.setIfInBounds_toArray, List.set_cons_zero, List.set_cons_succ, i64_w, i32_w]
        rfl
      refine one_ (i := 2) (N := some 7) #[true, true, true, false, false, false, false, false, false, false, false, false, false] rfl rfl (one_of HT_.out (by kernel_rfl)) (by decide) (fun K hK => ?_)
      refine goes_ Try.func51 (by kernel_rfl) rfl #[.int .i64 s.f0] (by rfl) rfl rfl (by simp only [List.map_toArray, List.map_cons, List.map_nil]; rfl) ?_
      with_reducible refine (parryref22_Kids.calls kk s.f0 Kq _ HKK.out).mono ?_
      rintro e w1 ⟨rfl, hd0⟩
      obtain ⟨m, rfl⟩ := hd0.out
      refine ⟨_, rfl, ?_⟩
      refine hK.out _ _ ⟨x0, x2⟩ (fun hHeld => ?_)
      clear hK K
      refine norm_ (a' := ?_) ?_ ?_
      rotate_left
      · show Act.put _ (some 7) _ = _
        simp only [Act.put, List.setIfInBounds_toArray, List.set_cons_zero, List.set_cons_succ, i64_w, i32_w]
        rfl
      refine pure_ (i := 3) (N := some 8) (v := ?_) (a' := ?_) #[true, true, true, true, false, false, false, false, false, false, false, false, false] rfl rfl (any_of HT_.out (by kernel_rfl)) (fun _ _ _ h => h) (Or.inl ⟨by rfl, ?_⟩) ?_ ?_
      rotate_left
      · intro w'
        go_simp
        with_reducible rfl
      rotate_left
      · simp only [Act.put, List.setIfInBounds_toArray, List.set_cons_zero, List.set_cons_succ, i64_w, i32_w]
        rfl
      refine pure_ (i := 4) (N := some 9) (v := ?_) (a' := ?_) #[true, true, true, true, true, false, false, false, false, false, false, false, false] rfl rfl (any_of HT_.out (by kernel_rfl)) (fun _ _ _ h => h) (Or.inl ⟨by rfl, ?_⟩) ?_ ?_
      rotate_left
      · intro w'
        go_simp
        with_reducible rfl
      rotate_left
      · simp only [Act.put, List.setIfInBounds_toArray, List.set_cons_zero, List.set_cons_succ, i64_w, i32_w]
        rfl
      refine pure_ (i := 5) (N := some 10) (v := undef) (a' := ?_) #[true, true, true, true, true, true, false, false, false, false, false, false, false] rfl rfl (any_of HT_.out (by kernel_rfl)) (fun _ _ _ h => h) (Or.inr ⟨by rfl, rfl⟩) ?_ ?_
      rotate_left
      · simp only [Act.put, List.setIfInBounds_toArray, List.set_cons_zero, List.set_cons_succ, i64_w, i32_w]
        rfl
      refine pure_ (i := 6) (N := some 11) (v := undef) (a' := ?_) #[true, true, true, true, true, true, true, false, false, false, false, false, false] rfl rfl (any_of HT_.out (by kernel_rfl)) (fun _ _ _ h => h) (Or.inr ⟨by rfl, rfl⟩) ?_ ?_
      rotate_left
      · simp only [Act.put, List.setIfInBounds_toArray, List.set_cons_zero, List.set_cons_succ, i64_w, i32_w]
        rfl
      refine pure_ (i := 7) (N := some 12) (v := undef) (a' := ?_) #[true, true, true, true, true, true, true, true, false, false, false, false, false] rfl rfl (any_of HT_.out (by kernel_rfl)) (fun _ _ _ h => h) (Or.inr ⟨by rfl, rfl⟩) ?_ ?_
      rotate_left
      · simp only [Act.put, List.setIfInBounds_toArray, List.set_cons_zero, List.set_cons_succ, i64_w, i32_w]
        rfl
      refine pure_ (i := 8) (N := some 13) (v := undef) (a' := ?_) #[true, true, true, true, true, true, true, true, true, false, false, false, false] rfl rfl (any_of HT_.out (by kernel_rfl)) (fun _ _ _ h => h) (Or.inr ⟨by rfl, rfl⟩) ?_ ?_
      rotate_left
      · simp only [Act.put, List.setIfInBounds_toArray, List.set_cons_zero, List.set_cons_succ, i64_w, i32_w]
        rfl
      refine pure_ (i := 9) (N := some 14) (v := undef) (a' := ?_) #[true, true, true, true, true, true, true, true, true, true, false, false, false] rfl rfl (any_of HT_.out (by kernel_rfl)) (fun _ _ _ h => h) (Or.inr ⟨by rfl, rfl⟩) ?_ ?_
      rotate_left
      · simp only [Act.put, List.setIfInBounds_toArray, List.set_cons_zero, List.set_cons_succ, i64_w, i32_w]
        rfl
      refine pure_ (i := 10) (N := some 15) (v := undef) (a' := ?_) #[true, true, true, true, true, true, true, true, true, true, true, false, false] rfl rfl (any_of HT_.out (by kernel_rfl)) (fun _ _ _ h => h) (Or.inr ⟨by rfl, rfl⟩) ?_ ?_
      rotate_left
      · simp only [Act.put, List.setIfInBounds_toArray, List.set_cons_zero, List.set_cons_succ, i64_w, i32_w]
        rfl
      refine pure_ (i := 11) (N := some 16) (v := undef) (a' := ?_) #[true, true, true, true, true, true, true, true, true, true, true, true, false] rfl rfl (any_of HT_.out (by kernel_rfl)) (fun _ _ _ h => h) (Or.inr ⟨by rfl, rfl⟩) ?_ ?_
      rotate_left
      · simp only [Act.put, List.setIfInBounds_toArray, List.set_cons_zero, List.set_cons_succ, i64_w, i32_w]
        rfl
      refine pure_ (i := 12) (N := some 17) (v := ?_) (a' := ?_) #[true, true, true, true, true, true, true, true, true, true, true, true, true] rfl rfl (any_of HT_.out (by kernel_rfl)) (fun _ _ _ h => h) (Or.inl ⟨by rfl, ?_⟩) ?_ ?_
      rotate_left
      · intro w'
        go_simp
        with_reducible rfl
      rotate_left
      · simp only [Act.put, List.setIfInBounds_toArray, List.set_cons_zero, List.set_cons_succ, i64_w, i32_w]
        rfl
      refine done_ (done_of HT_.out (by kernel_rfl)) ?_
      go_wp2_with fail
      go_meet
      exact ⟨_, _, rfl, ⟨by rw [decide_eq_false (show ¬ 0 ≤ Kq by have := HC1.out; omega)]; rfl⟩, rfl⟩
  case rest =>
    obtain ⟨t, m, rfl, HT, hwc⟩ := hcut
    rw [hwc]
    clear hwc wc
    cases t with
    | true =>
      have HX := Aside0.mk (show R = false from by rw [HD.out, ← Bool.and_assoc, bnot HT.out]; rfl)
      go_wp2
      go_ret
      exact ⟨by rw [HX.out]; rfl, pw_below_drewN HB1.out _⟩
    | false =>
      have hT : (decide (0 ≤ Kq) && decide ((s.f2.length : Int) = Kq)) = true := by simpa using HT.out
      have HD2 := Aside0.mk (show R = (decide (0 ≤ s.f1) && (decide (s.f1 ≤ M) && soundL s.f2)) from by rw [HD.out, ← Bool.and_assoc, hT, Bool.true_and])
      clear hT
      go_upto_region 3 with fail
      go_cut [40] (fun v40 wx => ∃ (t : Bool), v40 = .bool t ∧ Aside0 ((!(decide (0 ≤ s.f1) && decide (s.f1 ≤ M))) = t) ∧ wx = W1.drewN m)
      case first =>
        by_cases h2 : s.f0 = 2
        · have hm : M = 19 := by rw [HMO.out, if_pos h2]
          have e2 : (s.f0 == 2) = true := beq_iff_eq.mpr h2
          have e3 : (s.f0 != 2) = false := bne_eq_false_iff_eq.mpr h2
          have HMM := Aside0.mk hm
          clear h2 hm
          by_cases c3 : s.f1 < 0
          · go_wp2
            go_meet
            exact ⟨_, rfl, ⟨by rw [decide_eq_false (show ¬ 0 ≤ s.f1 by omega)]; rfl⟩, rfl⟩
          · by_cases c4 : 20 ≤ s.f1
            · go_wp2
              go_meet
              exact ⟨_, rfl, ⟨by rw [HMM.out, decide_eq_false (show ¬ s.f1 ≤ 19 by omega), Bool.and_false]; rfl⟩, rfl⟩
            · go_wp2
              go_meet
              exact ⟨_, rfl, ⟨by rw [HMM.out, decide_eq_true (show s.f1 ≤ 19 by omega), decide_eq_true (show 0 ≤ s.f1 by omega)]; rfl⟩, rfl⟩
        · have hm : M = 0 := by rw [HMO.out, if_neg h2]
          have e2 : (s.f0 == 2) = false := beq_eq_false_iff_ne.mpr h2
          have e3 : (s.f0 != 2) = true := bne_iff_ne.mpr h2
          have HMM := Aside0.mk hm
          clear h2 hm
          go_wp2
          go_meet
          refine ⟨_, rfl, ⟨?_⟩, rfl⟩
          rw [HMM.out]
          by_cases c : s.f1 = 0
          · rw [c]; rfl
          · have h9 : (s.f1 != 0) = true := by simpa using c
            rw [h9]
            by_cases c4 : 0 ≤ s.f1
            · rw [decide_eq_false (show ¬ s.f1 ≤ 0 by omega), Bool.and_false]; rfl
            · rw [decide_eq_false c4]; rfl
      case rest =>
        obtain ⟨t, rfl, HT2, hwc⟩ := hcut
        rw [hwc]
        clear hwc wc
        cases t with
        | true =>
          have HX := Aside0.mk (show R = false from by rw [HD2.out, ← Bool.and_assoc, bnot HT2.out]; rfl)
          go_wp2
          go_ret
          exact ⟨by rw [HX.out]; rfl, pw_below_drewN HB1.out _⟩
        | false =>
          have hT : (decide (0 ≤ s.f1) && decide (s.f1 ≤ M)) = true := by simpa using HT2.out
          have HD3 := Aside0.mk (show R = soundL s.f2 from by rw [HD2.out, ← Bool.and_assoc, hT, Bool.true_and])
          clear hT
          go_wp2
          go_loopg [44] s.f2.length (fun kq v44 w' => ∃ j : Nat, j + kq = s.f2.length ∧ v44 = .int .i64 j ∧ Aside0 (soundL (s.f2.drop j) = soundL s.f2) ∧ Aside0 (Below w.heap.size w w'))
          case atStart => exact ⟨0, by omega, rfl, ⟨rfl⟩, ⟨pw_below_drewN HB1.out _⟩⟩
          case round =>
            obtain ⟨j, hj, rfl, HSL, HBj⟩ := hrel
            have HJ := Aside0.mk hj
            clear hj
            by_cases hlt : j < s.f2.length
            · obtain ⟨ad, A3, c3, e0, hx0, hx1, hx2, hl3, hk3⟩ := kid_at HK.out HBj.out j hlt hlt
              cases e0
              have HCALL := Aside0.mk (HIH.out (s.f2[j]'hlt) (List.getElem_mem hlt) A3 c3 _ (Kd.C_below (Kd.C_below hk3 HBj.out) (below_alloc (Below.refl _ _) (.cells #[.int .i64 (s.f2[j]'hlt).f0, .int .i64 (s.f2[j]'hlt).f1, .slice A3 (s.f2[j]'hlt).f2.length c3] 24))) hl3)
              have HST := Aside0.mk (show soundL s.f2 = (soundS (s.f2[j]'hlt) && soundL (s.f2.drop (j + 1))) from by rw [← HSL.out, List.drop_eq_getElem_cons hlt, soundL])
              generalize soundS (s.f2[j]'hlt) = b at *
              clear hk3 hl3
              cases b with
              | true =>
                have HS2 := Aside0.mk (show soundL (s.f2.drop (j + 1)) = soundL s.f2 from by rw [HST.out, Bool.true_and])
                go_wp2_with (go_at_call 36; refine HCALL.out.mono ?_; rintro e w2 ⟨rfl, hB⟩; have HB2 := Aside0.mk (HBj.out.trans (((below_alloc (Below.refl _ _) _ : Below wr.heap.size wr _).trans (hB.mono (by simp))).mono HBj.out.size)); clear hB)
                go_roundg (gk - 1)
                case measure => have := HJ.out; omega
                case rel => exact ⟨j + 1, by have := HJ.out; omega, by go_num, HS2, HB2⟩
              | false =>
                have HX := Aside0.mk (show R = false from by rw [HD3.out, HST.out, Bool.false_and])
                go_wp2_with (go_at_call 36; refine HCALL.out.mono ?_; rintro e w2 ⟨rfl, hB⟩; have HB2 := Aside0.mk (HBj.out.trans (((below_alloc (Below.refl _ _) _ : Below wr.heap.size wr _).trans (hB.mono (by simp))).mono HBj.out.size)); clear hB)
                go_ret
                exact ⟨by rw [HX.out]; rfl, HB2.out⟩
            · have HX := Aside0.mk (show R = true from by rw [HD3.out, ← HSL.out, List.drop_eq_nil_of_le (by omega)]; rfl)
              go_wp2
              go_ret
              exact ⟨by rw [HX.out]; rfl, HBj.out⟩
mutual
theorem rsound_all : ∀ s : S24, RsAt s
  | ⟨op, m, kids⟩ => rsound_calls ⟨op, m, kids⟩ (rsound_kids kids)
theorem rsound_kids : ∀ (l : List S24) (k : S24), k ∈ l → RsAt k
  | [], k, hk => by simp at hk
  | a :: r, k, hk => by
    rcases List.mem_cons.1 hk with h | h
    · rw [h]
      exact rsound_all a
    · exact rsound_kids r k h
end
def parryref22_sound.f (a0_0 : Int) (a0_1 : Int) (l0_2 : List S24) : Option Bool := some (soundS ⟨a0_0, a0_1, l0_2⟩)
theorem parryref22_sound.calls (a0_0 : Int) (a0_1 : Int) (A0_2 : Option Addr) (c0_2 : Nat) (l0_2 : List S24) (r : Bool) (w : World) (hr0_2 : Kd.C k24 w A0_2 l0_2.length l0_2) (hc0_2 : l0_2.length ≤ c0_2) (h : parryref22_sound.f a0_0 a0_1 l0_2 = some r) :
    Calls Try.prog 36 #[.agg #[.int .i64 a0_0, .int .i64 a0_1, .slice A0_2 l0_2.length c0_2]] w fun e w' => e = .returned (.bool r) ∧ Below w.heap.size w w' := by
  obtain rfl := Option.some.inj h
  exact rsound_all ⟨a0_0, a0_1, l0_2⟩ A0_2 c0_2 w hr0_2 hc0_2
end Go.Proofs.Ytegaicoddnmemaa.X

namespace Go.Proofs.Ytegaicoddnmemaa.P
open Go.RowKit Go.Proofs.YtegaicoddnmemaaW.PrintWords Go.Proofs.YtegaicoddnmemaaW.PrintLast Go.Proofs.YtegaicoddnmemaaW.PrintMore
attribute [local go_sem] max2_int min2_int max_two min_two max_three min_three max_four min_four   -- for this text's walks alone
set_option linter.unusedVariables false
set_option linter.unusedSimpArgs false

open Go.Proofs.Ytegaicoddnmemaa.X
def parryref22_May.j0 : Nat → Bool → Int → Int → List (S24) → Option (Int)
  | 0, _, _, _, _ => none
  | k + 1, x10, x178000, x178001, x178002 => if x10 = true then (some 7) else ((parryref22_sound.f x178000 x178001 x178002).bind fun t180 => (if t180 = true then (some 0) else (some 1)))
def parryref22_May.f (k : Nat) (a0_0 : Int) (a0_1 : Int) (l0_2 : List (S24)) : Option (Int) := (parryref22_count.f k a0_0 a0_1 l0_2 1 60).bind fun bt178 => (if bt178.1 > 60 then (parryref22_May.j0 k true a0_0 a0_1 l0_2) else (parryref22_May.j0 k (decide (bt178.2 > 8)) a0_0 a0_1 l0_2))
theorem parryref22_May.mono_l : ∀ k, (∀ y0 y1 y2 y3, LeO (parryref22_May.j0 k y0 y1 y2 y3) (parryref22_May.j0 (k + 1) y0 y1 y2 y3))
  | 0 => fun _ _ _ _ r h => by simp [parryref22_May.j0] at h
  | k + 1 => by
    have ih0 := parryref22_May.mono_l k
    · intro y0 y1 y2 y3
      unfold parryref22_May.j0
      repeat' first
      | (with_reducible exact ih0 _ _ _ _)
      | (with_reducible exact parryref22_count.mono _ _ _ _ _ _)
      | (with_reducible exact LeO.refl _)
      | (with_reducible exact LeO.none _)
      | (with_reducible refine LeO.ite ?_ ?_)
      | (with_reducible refine LeO.bind ?_ (fun _ => ?_))
      | exact ih0 _ _ _ _
      | exact parryref22_count.mono _ _ _ _ _ _
      | exact LeO.none _
      | refine LeO.ite ?_ ?_
      | refine LeO.bind ?_ (fun _ => ?_)
theorem parryref22_May.mono : ∀ a0 a1 a2 k, LeO (parryref22_May.f k a0 a1 a2) (parryref22_May.f (k + 1) a0 a1 a2) := by
  intro a0 a1 a2 k
  have ih0 := parryref22_May.mono_l k
  unfold parryref22_May.f
  repeat' first
      | (with_reducible exact ih0 _ _ _ _)
      | (with_reducible exact parryref22_count.mono _ _ _ _ _ _)
      | (with_reducible exact LeO.refl _)
      | (with_reducible exact LeO.none _)
      | (with_reducible refine LeO.ite ?_ ?_)
      | (with_reducible refine LeO.bind ?_ (fun _ => ?_))
      | exact ih0 _ _ _ _
      | exact parryref22_count.mono _ _ _ _ _ _
      | exact LeO.none _
      | refine LeO.ite ?_ ?_
      | refine LeO.bind ?_ (fun _ => ?_)
set_option maxHeartbeats 8000000 in
set_option maxRecDepth 100000 in
theorem parryref22_May.calls (k : Nat) (a0_0 : Int) (a0_1 : Int) (A0_2 : Option Addr) (c0_2 : Nat) (l0_2 : List (S24)) (r : Int) (w : World) (hr0_2 : Kd.C k24 w A0_2 l0_2.length l0_2) (hc0_2 : l0_2.length ≤ c0_2) (h : parryref22_May.f k a0_0 a0_1 l0_2 = some r) :
    Calls Try.prog 15 #[.agg #[.int .i64 a0_0, .int .i64 a0_1, .slice A0_2 l0_2.length c0_2]] w fun e w' => e = .returned (.int .i64 r) ∧ Below w.heap.size w w' := by
  have hu24 := Try.underlying24
  have HR0_2 := Aside0.mk hr0_2
  have HC0_2 := Aside0.mk hc0_2
  clear hr0_2 hc0_2
  have HB := Aside0.mk (Below.refl w.heap.size w)
  have H : ((parryref22_count.f k a0_0 a0_1 l0_2 1 60).bind fun bt178 => (if bt178.1 > 60 then (parryref22_May.j0 k true a0_0 a0_1 l0_2) else (parryref22_May.j0 k (decide (bt178.2 > 8)) a0_0 a0_1 l0_2))) = some r := h
  clear h
  replace H := Option.bind_eq_some_iff.mp H
  obtain ⟨⟨t178, t179⟩, A20, H⟩ := H
  replace H : (if t178 > 60 then (parryref22_May.j0 k true a0_0 a0_1 l0_2) else (parryref22_May.j0 k (decide (t179 > 8)) a0_0 a0_1 l0_2)) = some r := H
  have A2 := Aside0.mk A20
  clear A20
  have HC3 := Aside0.mk H
  clear H
  go_enter Try.func15, Try.ntmps15
  go_upto_region 2 with (first | ((with_reducible refine gate_dst (N := 1) rfl ?_); refine box_event ?hg (N := 1) ?hd (cs := #[.int .i64 a0_0, .int .i64 a0_1, .slice A0_2 l0_2.length c0_2]) (t := 24) ?hr ?_; (case hd => rfl); (case hg => rfl); (case hr => first | (go_simp; done) | (go_simp; rfl)); intro gb177 hg w4 hbox hb; have n0_ := Aside0.mk (below_step (by repeat (first | (with_reducible first | exact HB.out | apply below_alloc | apply pw_below_drewN | apply below_drew1) | exact HB.out)) hb); have n1_ := Aside0.mk (hbox); have n2_ := Aside0.mk ((by rw [hg]; exact (below_size (by repeat (first | (with_reducible first | exact HB.out | apply below_alloc | apply pw_below_drewN | apply below_drew1) | exact HB.out))) : w.heap.size ≤ gb177)); have n3_ := Aside0.mk ((by rw [hg]; exact (below_size (by repeat (first | (with_reducible first | exact HB.out | apply below_alloc | apply pw_below_drewN | apply below_drew1) | exact HB.out))) : w.heap.size ≤ gb177)); clear HB; have HB := n0_; have BK177 := n1_; have GW177 := n2_; have GE177 := n3_; clear n0_ n1_ n2_ n3_; clear hb hbox hg; have hcz5_0 : w4.cell? ⟨gb177, 0, none⟩ = some (.int .i64 a0_0) := (blk_cell BK177.out 0).trans rfl; have hcz5_1 : w4.cell? ⟨gb177, 1, none⟩ = some (.int .i64 a0_1) := (blk_cell BK177.out 1).trans rfl; have hcz5_2 : w4.cell? ⟨gb177, 2, none⟩ = some (.slice A0_2 l0_2.length c0_2) := (blk_cell BK177.out 2).trans rfl; have hfz5_0 := blk_frozen BK177.out 0; have hfz5_1 := blk_frozen BK177.out 1; have hfz5_2 := blk_frozen BK177.out 2) | ((with_reducible refine gate_callee (f := 35) rfl ?_); refine goesL_ (some 7) rfl rfl Try.func35 (by kernel_rfl) rfl #[.agg #[.int .i64 a0_0, .int .i64 a0_1, .slice A0_2 l0_2.length c0_2], .int .i64 1, .int .i64 60] rfl (by (try simp only [List.map_toArray, List.map_cons, List.map_nil]); first | done | rfl | (simp only [List.length_drop, List.length_take]; rfl)) ?_; (with_reducible refine (parryref22_count.calls k a0_0 a0_1 _ _ l0_2 1 60 t178 t179 _ ?side1 ?side2 A2.out).mono ?_); (case side1 => repeat (first | exact (Kd.C_below HR0_2.out HB.out) | (with_reducible refine Kd.C_alloc ?_ _) | (with_reducible refine Kd.C_drewN ?_ _) | (with_reducible refine Kd.C_drew ?_))); (case side2 => exact HC0_2.out); rintro e w6 ⟨rfl, hb⟩; refine ⟨_, rfl, ?_⟩; have n0_ := Aside0.mk (blk_below (g := gb177) (o := .cells #[.int .i64 a0_0, .int .i64 a0_1, .slice A0_2 l0_2.length c0_2] 24 (0, 0)) (by (with_reducible repeat (first | refine blk_drewN ?_ _ | refine blk_drew ?_ | refine blk_alloc ?_ _)); exact BK177.out) hb); have n1_ := Aside0.mk (below_step (by repeat (first | (with_reducible first | exact HB.out | apply below_alloc | apply pw_below_drewN | apply below_drew1 | refine below_set ?_ GE177.out) | exact HB.out)) hb); clear BK177; clear HB; have BK177 := n0_; have HB := n1_; clear n0_ n1_; (try clear hb); (try clear hb2); (try clear hk); (try clear hi)))
  (try simp only [Act.put, List.setIfInBounds_toArray, List.set_cons_zero, List.set_cons_succ])
  go_cut [10] (fun v10 wc => ∃ (kq : Nat) (x10_2 : Bool), v10 = .bool x10_2 ∧ Aside0 (parryref22_May.j0 kq x10_2 a0_0 a0_1 l0_2 = some r) ∧ Aside0 (kq ≤ k) ∧ Aside0 (wc.heap[gb177]? = some (.cells #[.int .i64 a0_0, .int .i64 a0_1, (.slice A0_2 l0_2.length c0_2)] 24 (0, 0))) ∧ Aside0 (Below w.heap.size w wc))
  case first =>
    have H := HC3.out
    clear HC3
    by_cases c7 : t178 > 60
    · rw [if_pos c7] at H
      have c7b0 : decide (60 < t178) = true := decide_eq_true c7
      clear c7
      (first | rw [c7b0] | (simp only [i64_w, i32_w]; rw [c7b0]) | skip)
      have H' := Aside0.mk H
      clear H
      go_wp2
      go_meet
      case rel => exact ⟨_, (true), (by first | rfl | (simp; done) | (simp [*]; done)), H', ⟨by first | omega | exact Nat.le_refl _⟩, ⟨by (with_reducible repeat (first | refine blk_drewN ?_ _ | refine blk_drew ?_ | refine blk_alloc ?_ _)); exact BK177.out⟩, ⟨by repeat (first | (with_reducible first | exact HB.out | apply below_alloc | apply pw_below_drewN | apply below_drew1 | refine below_set ?_ GE177.out) | exact HB.out)⟩⟩
    · rw [if_neg c7] at H
      have c7b0 : decide (60 < t178) = false := decide_eq_false c7
      clear c7
      (first | rw [c7b0] | (simp only [i64_w, i32_w]; rw [c7b0]) | skip)
      have H' := Aside0.mk H
      clear H
      go_wp2
      go_meet
      case rel => exact ⟨_, (decide (t179 > 8)), (by first | rfl | (simp; done) | (simp [*]; done)), H', ⟨by first | omega | exact Nat.le_refl _⟩, ⟨by (with_reducible repeat (first | refine blk_drewN ?_ _ | refine blk_drew ?_ | refine blk_alloc ?_ _)); exact BK177.out⟩, ⟨by repeat (first | (with_reducible first | exact HB.out | apply below_alloc | apply pw_below_drewN | apply below_drew1 | refine below_set ?_ GE177.out) | exact HB.out)⟩⟩
  case rest =>
    clear HC3
    try clear c1
    try clear p2
    try clear c3
    try clear c7
    try clear c7b0
    try clear hcz5_0
    try clear hcz5_1
    try clear hcz5_2
    try clear hfz5_0
    try clear hfz5_1
    try clear hfz5_2
    obtain ⟨kq, x10_2, rfl, HA, HJ2, BK177, HB⟩ := hcut
    cases kq with
    | zero => exact absurd HA.out (by simp [parryref22_May.j0])
    | succ kj2 =>
      have H := HA.out
      clear HA
      simp only [parryref22_May.j0] at H
      by_cases c8 : x10_2 = true
      · subst c8
        have H1 : (some 7) = some r := by rw [if_pos rfl] at H; exact H
        clear H
        have H := H1
        clear H1
        obtain rfl := Option.some.inj H
        go_wp2
        go_ret
        exact ⟨by first | rfl | (simp [errW_none, errW_some] <;> rfl) | (simp [*, errW_none, errW_some] <;> rfl), by repeat (first | (with_reducible first | exact HB.out | apply below_alloc | apply pw_below_drewN | apply below_drew1 | refine below_set ?_ GE177.out) | exact HB.out)⟩
      · replace c8 := Bool.eq_false_iff.mpr c8
        subst c8
        have H1 : ((parryref22_sound.f a0_0 a0_1 l0_2).bind fun t180 => (if t180 = true then (some 0) else (some 1))) = some r := by rw [if_neg (show ¬ (false = true) by decide)] at H; exact H
        clear H
        have H := H1
        clear H1
        replace H := Option.bind_eq_some_iff.mp H
        obtain ⟨t180, A90, H⟩ := H
        replace H : (if t180 = true then (some 0) else (some 1)) = some r := H
        have A9 := Aside0.mk A90
        clear A90
        by_cases c10 : t180 = true
        · subst c10
          have H1 : (some 0) = some r := by rw [if_pos rfl] at H; exact H
          clear H
          have H := H1
          clear H1
          obtain rfl := Option.some.inj H
          have hcz11_0 : wc.cell? ⟨gb177, 0, none⟩ = some (.int .i64 a0_0) := (blk_cell BK177.out 0).trans rfl
          have hcz11_1 : wc.cell? ⟨gb177, 1, none⟩ = some (.int .i64 a0_1) := (blk_cell BK177.out 1).trans rfl
          have hcz11_2 : wc.cell? ⟨gb177, 2, none⟩ = some (.slice A0_2 l0_2.length c0_2) := (blk_cell BK177.out 2).trans rfl
          have hfz11_0 := blk_frozen BK177.out 0
          have hfz11_1 := blk_frozen BK177.out 1
          have hfz11_2 := blk_frozen BK177.out 2
          go_wp2_with (first | ((with_reducible refine gate_callee (f := 36) rfl ?_); refine goesL_ (some 19) rfl rfl Try.func36 (by kernel_rfl) rfl #[.agg #[.int .i64 a0_0, .int .i64 a0_1, .slice A0_2 l0_2.length c0_2]] rfl (by (try simp only [List.map_toArray, List.map_cons, List.map_nil]); first | done | rfl | (simp only [List.length_drop, List.length_take]; rfl)) ?_; (with_reducible refine (parryref22_sound.calls a0_0 a0_1 _ _ l0_2 true _ ?side1 ?side2 A9.out).mono ?_); (case side1 => repeat (first | exact (Kd.C_below HR0_2.out HB.out) | (with_reducible refine Kd.C_alloc ?_ _) | (with_reducible refine Kd.C_drewN ?_ _) | (with_reducible refine Kd.C_drew ?_))); (case side2 => exact HC0_2.out); rintro e w12 ⟨rfl, hb⟩; refine ⟨_, rfl, ?_⟩; have n0_ := Aside0.mk (blk_below (g := gb177) (o := .cells #[.int .i64 a0_0, .int .i64 a0_1, .slice A0_2 l0_2.length c0_2] 24 (0, 0)) (by (with_reducible repeat (first | refine blk_drewN ?_ _ | refine blk_drew ?_ | refine blk_alloc ?_ _)); exact BK177.out) hb); have n1_ := Aside0.mk (below_step (by repeat (first | (with_reducible first | exact HB.out | apply below_alloc | apply pw_below_drewN | apply below_drew1 | refine below_set ?_ GE177.out) | exact HB.out)) hb); clear BK177; clear HB; have BK177 := n0_; have HB := n1_; clear n0_ n1_; (try clear hb); (try clear hb2); (try clear hk); (try clear hi)))
          go_ret
          exact ⟨by first | rfl | (simp [errW_none, errW_some] <;> rfl) | (simp [*, errW_none, errW_some] <;> rfl), by repeat (first | (with_reducible first | exact HB.out | apply below_alloc | apply pw_below_drewN | apply below_drew1 | refine below_set ?_ GE177.out) | exact HB.out)⟩
        · replace c10 := Bool.eq_false_iff.mpr c10
          subst c10
          have H1 : (some 1) = some r := by rw [if_neg (show ¬ (false = true) by decide)] at H; exact H
          clear H
          have H := H1
          clear H1
          obtain rfl := Option.some.inj H
          have hcz13_0 : wc.cell? ⟨gb177, 0, none⟩ = some (.int .i64 a0_0) := (blk_cell BK177.out 0).trans rfl
          have hcz13_1 : wc.cell? ⟨gb177, 1, none⟩ = some (.int .i64 a0_1) := (blk_cell BK177.out 1).trans rfl
          have hcz13_2 : wc.cell? ⟨gb177, 2, none⟩ = some (.slice A0_2 l0_2.length c0_2) := (blk_cell BK177.out 2).trans rfl
          have hfz13_0 := blk_frozen BK177.out 0
          have hfz13_1 := blk_frozen BK177.out 1
          have hfz13_2 := blk_frozen BK177.out 2
          go_wp2_with (first | ((with_reducible refine gate_callee (f := 36) rfl ?_); refine goesL_ (some 19) rfl rfl Try.func36 (by kernel_rfl) rfl #[.agg #[.int .i64 a0_0, .int .i64 a0_1, .slice A0_2 l0_2.length c0_2]] rfl (by (try simp only [List.map_toArray, List.map_cons, List.map_nil]); first | done | rfl | (simp only [List.length_drop, List.length_take]; rfl)) ?_; (with_reducible refine (parryref22_sound.calls a0_0 a0_1 _ _ l0_2 false _ ?side1 ?side2 A9.out).mono ?_); (case side1 => repeat (first | exact (Kd.C_below HR0_2.out HB.out) | (with_reducible refine Kd.C_alloc ?_ _) | (with_reducible refine Kd.C_drewN ?_ _) | (with_reducible refine Kd.C_drew ?_))); (case side2 => exact HC0_2.out); rintro e w14 ⟨rfl, hb⟩; refine ⟨_, rfl, ?_⟩; have n0_ := Aside0.mk (blk_below (g := gb177) (o := .cells #[.int .i64 a0_0, .int .i64 a0_1, .slice A0_2 l0_2.length c0_2] 24 (0, 0)) (by (with_reducible repeat (first | refine blk_drewN ?_ _ | refine blk_drew ?_ | refine blk_alloc ?_ _)); exact BK177.out) hb); have n1_ := Aside0.mk (below_step (by repeat (first | (with_reducible first | exact HB.out | apply below_alloc | apply pw_below_drewN | apply below_drew1 | refine below_set ?_ GE177.out) | exact HB.out)) hb); clear BK177; clear HB; have BK177 := n0_; have HB := n1_; clear n0_ n1_; (try clear hb); (try clear hb2); (try clear hk); (try clear hi)))
          go_ret
          exact ⟨by first | rfl | (simp [errW_none, errW_some] <;> rfl) | (simp [*, errW_none, errW_some] <;> rfl), by repeat (first | (with_reducible first | exact HB.out | apply below_alloc | apply pw_below_drewN | apply below_drew1 | refine below_set ?_ GE177.out) | exact HB.out)⟩

end Go.Proofs.Ytegaicoddnmemaa.P

namespace Go.Proofs.Ytegaicoddnmemaa.X
open Go.RowKit Go.Proofs.YtegaicoddnmemaaW.PrintWords Go.Proofs.YtegaicoddnmemaaW.PrintMore
open Go.Proofs.Ytegaicoddnmemaa.P Go.Proofs.Ytegaicoddnmemaa.Evx
set_option linter.unusedVariables false
set_option linter.unusedSimpArgs false
/-- What count tells: exact where the formula fits, more than the room where it does not. -/
def CntAt (s : S24) : Prop := ∀ (d r : Int), 1 ≤ d → d ≤ 13 → r ≤ 60 → 60 ≤ r + 60 * d → ∃ n t : Int, Ev (fun k => parryref22_count.f k s.f0 s.f1 s.f2 d r) (n, t) ∧ 1 ≤ n ∧ n ≤ 61 + 60 * (13 - d) ∧ 0 ≤ t ∧ t ≤ n ∧
  ((nS s : Int) ≤ r ∧ d + hS s ≤ 13 → n = nS s ∧ t = tnS s) ∧ (¬ ((nS s : Int) ≤ r ∧ d + hS s ≤ 13) → r < n)
theorem nS_pos (s : S24) : 1 ≤ nS s := by cases s; simp only [nS]; omega
theorem count_l (kids : List S24) (d r : Int) (hd1 : 1 ≤ d) (hd : d ≤ 12) (hr : r ≤ 60) (hr2 : 60 ≤ r + 60 * d) (ih : ∀ k ∈ kids, CntAt k) :
    ∀ (e j : Nat) (n t : Int), j + e = kids.length → (j : Int) < n → n ≤ 60 → 0 ≤ t → t ≤ n → ∃ n' t' : Int, Ev (fun k => parryref22_count.l0 k d r n t kids (kids.length : Int) j) (n', t') ∧ 1 ≤ n' ∧ n' ≤ 61 + 60 * (13 - d) ∧ 0 ≤ t' ∧ t' ≤ n' ∧
      (n + nL (kids.drop j) ≤ r ∧ d + 1 + hL (kids.drop j) ≤ 13 → n' = n + nL (kids.drop j) ∧ t' = t + tnL (kids.drop j)) ∧ (¬ (n + nL (kids.drop j) ≤ r ∧ d + 1 + hL (kids.drop j) ≤ 13) → r < n')
  | 0, j, n, t, hj, h1, h2, h3, h4 => by
    refine ⟨n, t, ev_step (fun k => rfl) (ev_neg (by omega) (ev_some _)), by omega, by omega, h3, h4, ?_, ?_⟩
    · rw [List.drop_eq_nil_of_le (by omega)]; simp [nL, tnL]
    · rw [List.drop_eq_nil_of_le (by omega)]; simp only [nL, hL]; omega
  | e + 1, j, n, t, hj, h1, h2, h3, h4 => by
    have hlt : j < kids.length := by omega
    obtain ⟨x, y, hx, x1, x2, y1, y2, q1, q2⟩ := ih _ (List.getElem_mem hlt) (d + 1) (r - n) (by omega) (by omega) (by omega) (by omega)
    have hdr := List.drop_eq_getElem_cons hlt
    rw [hdr]
    simp only [nL, tnL, hL]
    have hk1 : 1 ≤ nS (kids[j]'hlt) := by cases (kids[j]'hlt); simp only [nS]; omega
    by_cases hc : n + x > 60
    · refine ⟨n + x, t + y, ev_step (fun k => rfl) (ev_pos (by omega) (ev_pos (by omega) (ev_pos (by omega) ?_))), by omega, by omega, by omega, by omega, ?_, ?_⟩
      · rw [rdT_nat kids j hlt, w64 (by omega) (by omega), w64 (by omega) (by omega)]
        refine ev_bind hx ?_
        simp only
        rw [w64 (by omega) (by omega), w64 (by omega) (by omega)]
        exact ev_pos hc (ev_some _)
      · intro hq
        have := q1 (by omega)
        omega
      · intro _
        omega
    · obtain ⟨n', t', hn', a1, a2, a3, a4, b1, b2⟩ := count_l kids d r hd1 hd hr hr2 ih e (j + 1) (n + x) (t + y) (by omega) (by omega) (by omega) (by omega) (by omega)
      refine ⟨n', t', ev_step (fun k => rfl) (ev_pos (by omega) (ev_pos (by omega) (ev_pos (by omega) ?_))), a1, a2, a3, a4, ?_, ?_⟩
      · rw [rdT_nat kids j hlt, w64 (by omega) (by omega), w64 (by omega) (by omega)]
        refine ev_bind hx ?_
        simp only
        rw [w64 (by omega) (by omega), w64 (by omega) (by omega), w64 (by omega) (by omega)]
        refine ev_neg hc ?_
        exact_mod_cast hn'
      · intro hq
        have := q1 (by omega)
        have := b1 (by omega)
        omega
      · intro hq
        by_cases hq2 : (nS (kids[j]'hlt) : Int) ≤ r - n ∧ d + 1 + hS (kids[j]'hlt) ≤ 13
        · have := q1 hq2
          exact b2 (by omega)
        · have := q2 hq2
          exact b2 (by omega)
mutual
theorem count_ev : ∀ s : S24, CntAt s
  | ⟨op, m, kids⟩ => by
    intro d r h1 h2 h3 h4
    have ih := count_evL kids
    by_cases hd : d > 12
    · refine ⟨61, 0, ev_step (fun k => rfl) (ev_pos hd (ev_step (f := fun _ => some (61, 0)) (fun k => rfl) (ev_some _))), by omega, by omega, by omega, by omega, ?_, fun _ => by omega⟩
      intro hq
      simp only [hS] at hq
      omega
    · by_cases hr : r < 1
      · refine ⟨61, 0, ev_step (fun k => rfl) (ev_neg hd (ev_step (fun k => rfl) (ev_pos (decide_eq_true hr) (ev_some _)))), by omega, by omega, by omega, by omega, ?_, fun _ => by omega⟩
        intro hq
        have := nS_pos ⟨op, m, kids⟩
        omega
      · have hts : 0 ≤ (tS op : Int) ∧ (tS op : Int) ≤ 1 := by unfold tS; split <;> simp
        obtain ⟨n', t', hn', a1, a2, a3, a4, b1, b2⟩ := count_l kids d r h1 (by omega) h3 h4 ih kids.length 0 1 (tS op) (by omega) (by omega) (by omega) hts.1 hts.2
        refine ⟨n', t', ev_step (fun k => rfl) (ev_neg hd (ev_step (fun k => rfl) (ev_neg (by rw [decide_eq_false hr]; simp) ?_))), a1, a2, a3, a4, ?_, ?_⟩
        · refine ev_bindv (Timed_some op) (ev_bool (fun c => ?_) (fun c => ?_))
          · have e1 : (tS op : Int) = 1 := by unfold tS; rw [if_pos c]; rfl
            rw [e1] at hn'
            exact ev_step (fun k => rfl) hn'
          · have e1 : (tS op : Int) = 0 := by unfold tS; rw [if_neg (by rw [c]; simp)]; rfl
            rw [e1] at hn'
            exact ev_step (fun k => rfl) hn'
        · intro hq
          simp only [nS, hS, tnS] at hq ⊢
          have := b1 (by rw [List.drop_zero]; omega)
          rw [List.drop_zero] at this
          omega
        · intro hq
          simp only [nS, hS] at hq
          exact b2 (by rw [List.drop_zero]; omega)
theorem count_evL : ∀ l : List S24, ∀ k ∈ l, CntAt k
  | [], k, hk => by cases hk
  | a :: r, k, hk => by
    rcases List.mem_cons.1 hk with e | e
    · rw [e]; exact count_ev a
    · exact count_evL r k e
end
theorem rMay_ev (s : S24) : Ev (fun n => parryref22_May.f n s.f0 s.f1 s.f2) (mayF s) := by
  obtain ⟨n, t, hx, a1, a2, a3, a4, q1, q2⟩ := count_ev s 1 60 (by omega) (by omega) (by omega) (by omega)
  rw [may_eq]
  unfold parryref22_May.f
  refine ev_bind hx ?_
  have h0 : ∀ b : Bool, b = !decide (nS s ≤ 60 ∧ hS s ≤ 12 ∧ tnS s ≤ 8) → Ev (fun n => parryref22_May.j0 n b s.f0 s.f1 s.f2) (if nS s ≤ 60 ∧ hS s ≤ 12 ∧ tnS s ≤ 8 then (if soundS s = true then 0 else 1) else 7) := by
    intro b hb
    refine ev_step (fun k => rfl) (ev_bool (fun h => ?_) (fun h => ?_))
    · rw [h] at hb
      have hq : ¬ (nS s ≤ 60 ∧ hS s ≤ 12 ∧ tnS s ≤ 8) := of_decide_eq_false (bnot hb.symm)
      exact ev_eq (ev_some _) (by rw [if_neg hq])
    · rw [h] at hb
      have hq : nS s ≤ 60 ∧ hS s ≤ 12 ∧ tnS s ≤ 8 := by simpa using hb.symm
      rw [if_pos hq]
      have hso : parryref22_sound.f s.f0 s.f1 s.f2 = some (soundS s) := by cases s; rfl
      exact ev_bindv hso (ev_ite (fun c => by rw [if_pos c]; exact ev_some _) (fun c => by rw [if_neg c]; exact ev_some _))
  refine ev_ite (fun c => h0 _ ?_) (fun c => h0 _ ?_)
  · have hq : ¬ (nS s ≤ 60 ∧ hS s ≤ 12 ∧ tnS s ≤ 8) := fun h => by have := q1 (by omega); simp only at c; omega
    rw [decide_eq_false hq]; rfl
  · have hq : (nS s : Int) ≤ 60 ∧ 1 + (hS s : Int) ≤ 13 := by
      apply Classical.byContradiction
      intro h
      have := q2 h
      simp only at c
      omega
    have := q1 hq
    simp only
    by_cases ht : t > 8
    · rw [decide_eq_true ht, decide_eq_false (by omega)]; rfl
    · rw [decide_eq_false ht, decide_eq_true (by omega)]; rfl
end Go.Proofs.Ytegaicoddnmemaa.X

namespace Go.Proofs.Ytegaicoddnmemaa.X
open Go.RowKit Go.Proofs.YtegaicoddnmemaaW.PrintWords Go.Proofs.YtegaicoddnmemaaW.PrintLast Go.Proofs.YtegaicoddnmemaaW.PrintMore
open Go.Proofs.Ytegaicoddnmemaa.P Go.Proofs.Ytegaicoddnmemaa.Evx
set_option linter.unusedSimpArgs false
set_option linter.unusedVariables false
/-- A row of one's own, made behind w0, of formulas that lie in wk. -/
def TRowB (wk w0 w : World) (v : Value) (l : List S24) : Prop := OwnRow (k24.K wk) 24 3 w w0.heap.size v l
theorem trow_readB {wk w0 w : World} {v : Value} {l : List S24} (h : TRowB wk w0 w v l) (hb : Below wk.heap.size wk w) : ∃ A c, v = .slice A l.length c ∧ l.length ≤ c ∧ Kd.C k24 w A l.length l := by
  obtain ⟨A, c, e, hl, hr⟩ := OwnRow.reads h
  exact ⟨A, c, e, hl, hr.imp_ (Below.refl _ _) (fun _ _ hp => k24.K_below hb hp)⟩
end Go.Proofs.Ytegaicoddnmemaa.X

namespace Go.Proofs.Ytegaicoddnmemaa.P
end Go.Proofs.Ytegaicoddnmemaa.P

namespace Go.Proofs.Ytegaicoddnmemaa.X
open Go.RowKit Go.Proofs.YtegaicoddnmemaaW.PrintWords Go.Proofs.YtegaicoddnmemaaW.PrintLast Go.Proofs.YtegaicoddnmemaaW.PrintMore
open Go.Proofs.Ytegaicoddnmemaa.P
set_option linter.unusedSimpArgs false
set_option linter.unusedVariables false
theorem infoU32 : (Try.prog.info? 36).map (fun i => (i.zero, i.size, i.bytes)) = some (some (.int .u32 0), 1, 4) := by kernel_rfl
set_option maxHeartbeats 1600000 in
theorem Grow_nil (m : Int) (w : World) (h0 : 0 < m) (h1 : m < 1000000000) :
    Calls Try.prog 54 #[.slice none 0 0, .int .i64 m] w fun e w' => ∃ v, e = .returned v ∧ Kd.R (Kd.int .u32) 36 w' w.heap.size (fun _ => True) v [] ∧ Below w.heap.size w w' := by
  have hus := Try.underlying25
  have hui := Try.underlying3
  have hnn : ¬ m < 0 := by omega
  go_enter Try.func54, Try.ntmps54
  go_wp2_with ((with_reducible refine gate_builtin (b := .append) (xs := #[.tmp 20, .tmp 21]) rfl ?_); at_builtin; refine Kd.R_append_zeros (Kd.int .u32) (w0 := w) w.heap.size rfl (.tmp 20) (.tmp 21) 25 3 36 (.int .u32 0) 4 rfl hus hui infoU32 rfl (by decide) (by decide) (.slice none 0 0) [] 0 (kx := .i64) m (fun _ => True) rfl rfl rfl (fun _ _ => trivial) (Kd.R_nil _ _ _ _ _) (by omega) (Below.refl _ _) (Nat.le_refl _) (by simp; omega) ?_; intro v1 w1 hR hB hg hat; obtain ⟨A1, c1, hv1⟩ := Kd.R_slice hR; subst hv1; have HR := Aside0.mk hR; have HB := Aside0.mk hB; clear hR hB hg hat)
  go_ret
  exact ⟨_, rfl, by have := Kd.R_take (m := 0) HR.out (by simp); simpa using this, HB.out⟩
set_option maxHeartbeats 4000000 in
set_option maxRecDepth 100000 in
theorem Concat_calls (gb : Nat) (A1 A2 : Option Addr) (c1 c2 : Nat) (l1 l2 : List Int) (w : World) (hb : w.heap[gb]? = some (.cells #[.slice A1 l1.length c1, .slice A2 l2.length c2] 25 (0, 0))) (hr1 : Kd.C (Kd.int .u32) w A1 l1.length l1) (hr2 : Kd.C (Kd.int .u32) w A2 l2.length l2) (h0 : 0 < l1.length + l2.length) (h1 : l1.length + l2.length < 1000000000) :
    Calls Try.prog 41 #[.slice (some ⟨gb, 0, none⟩) 2 2] w fun e w' => ∃ v, e = .returned v ∧ Kd.R (Kd.int .u32) 36 w' w.heap.size (fun _ => True) v (l1 ++ l2) ∧ Below w.heap.size w w' := by
  have hus := Try.underlying25
  have huss := Try.underlying84
  have hui := Try.underlying3
  have hgb : gb < w.heap.size := blk_lt hb
  have x0 : w.cell? ⟨gb, 0, none⟩ = some (.slice A1 l1.length c1) := (blk_cell hb 0).trans rfl
  have x1 : w.cell? ⟨gb, 1, none⟩ = some (.slice A2 l2.length c2) := (blk_cell hb 1).trans rfl
  have R1 := Aside0.mk hr1
  have R2 := Aside0.mk hr2
  have X0 := Aside0.mk x0
  have X1 := Aside0.mk x1
  clear hb hr1 hr2 x0 x1
  go_enter Try.func41, Try.ntmps41
  go_wp2
  go_loopg [3, 11] 2 (fun kq v3 v11 w' => (kq = 2 ∧ v3 = .int .i64 0 ∧ v11 = .int .i64 0 ∧ w' = w) ∨ (kq = 1 ∧ v3 = .int .i64 (l1.length : Int) ∧ v11 = .int .i64 1 ∧ w' = w) ∨ (kq = 0 ∧ v3 = .int .i64 ((l1.length : Int) + (l2.length : Int)) ∧ v11 = .int .i64 2 ∧ w' = w))
  case atStart => exact .inl ⟨rfl, rfl, rfl, rfl⟩
  case round =>
    rcases hrel with ⟨rfl, rfl, rfl, rfl⟩ | ⟨rfl, rfl, rfl, rfl⟩ | ⟨rfl, rfl, rfl, rfl⟩
    · have y0 := X0.out
      have hn : ¬ ((l1.length : Int) < 0) := by omega
      go_wp2
      go_roundg 1
      case measure => omega
      case rel => exact .inr (.inl ⟨rfl, by first | rfl | (simp; done), rfl, rfl⟩)
    · have y1 := X1.out
      have hn : ¬ ((l1.length : Int) + (l2.length : Int) < 0) := by omega
      go_wp2
      go_roundg 0
      case measure => omega
      case rel => exact .inr (.inr ⟨rfl, by first | rfl | (simp; done), rfl, rfl⟩)
    · obtain ⟨WW, rfl⟩ : ∃ W : World, W = wr := ⟨_, rfl⟩
      go_wp2_with (go_at_call 54; refine (Grow_nil _ _ (by omega) (by omega)).mono ?_; rintro e w1 ⟨v, rfl, hR, hB⟩; have HR := Aside0.mk hR; have HB := Aside0.mk hB; clear hR hB)
      go_loopg [6, 27] 2 (fun kq v6 v27 w' => Aside0 (Below WW.heap.size WW w') ∧ ((kq = 2 ∧ v27 = .int .i64 0 ∧ Aside0 (Kd.R (Kd.int .u32) 36 w' WW.heap.size (fun _ => True) v6 [])) ∨ (kq = 1 ∧ v27 = .int .i64 1 ∧ Aside0 (Kd.R (Kd.int .u32) 36 w' WW.heap.size (fun _ => True) v6 l1)) ∨ (kq = 0 ∧ v27 = .int .i64 2 ∧ Aside0 (Kd.R (Kd.int .u32) 36 w' WW.heap.size (fun _ => True) v6 (l1 ++ l2)))))
      case atStart => exact ⟨HB, .inl ⟨rfl, rfl, HR⟩⟩
      case round =>
        obtain ⟨HBV, hrel⟩ := hrel
        rcases hrel with ⟨rfl, rfl, HV⟩ | ⟨rfl, rfl, HV⟩ | ⟨rfl, rfl, HV⟩
        · have y0 := (HBV.out.cell (World.block_lt_of_cell? _ _ X0.out)).trans X0.out
          go_wp2_with (first | ((with_reducible refine gate_builtin (b := .append) (xs := #[.tmp 31, .tmp 32]) rfl ?_); at_builtin; refine Kd.R_append_row (Value.int .u32) (0 : Int) (h1 := fun _ => rfl) (w0 := WW) WW.heap.size rfl (.tmp 31) (.tmp 32) 25 36 (.int .u32 0) 4 rfl hus infoU32 rfl (by decide) u6 [] l1 A1 l1.length c1 (fun _ => True) rfl rfl (fun _ _ => trivial) HV.out (Kd.C_below R1.out HBV.out) HBV.out HBV.out.size (by first | omega | (simp; omega)) ?_; intro v1 w2 hR hB hg hat; have HV2 := Aside0.mk hR; have HBV2 := Aside0.mk hB; clear hR hB hg hat))
          go_roundg 1
          case measure => omega
          case rel => exact ⟨HBV2, .inr (.inl ⟨rfl, rfl, HV2⟩)⟩
        · have y1 := (HBV.out.cell (World.block_lt_of_cell? _ _ X1.out)).trans X1.out
          go_wp2_with (first | ((with_reducible refine gate_builtin (b := .append) (xs := #[.tmp 31, .tmp 32]) rfl ?_); at_builtin; refine Kd.R_append_row (Value.int .u32) (0 : Int) (h1 := fun _ => rfl) (w0 := WW) WW.heap.size rfl (.tmp 31) (.tmp 32) 25 36 (.int .u32 0) 4 rfl hus infoU32 rfl (by decide) u6 l1 l2 A2 l2.length c2 (fun _ => True) rfl rfl (fun _ _ => trivial) HV.out (Kd.C_below R2.out HBV.out) HBV.out HBV.out.size (by first | omega | (simp; omega)) ?_; intro v1 w2 hR hB hg hat; have HV2 := Aside0.mk hR; have HBV2 := Aside0.mk hB; clear hR hB hg hat))
          go_roundg 0
          case measure => omega
          case rel => exact ⟨HBV2, .inr (.inr ⟨rfl, rfl, HV2⟩)⟩
        · go_wp2
          go_ret
          exact ⟨_, rfl, HV.out, HBV.out⟩
end Go.Proofs.Ytegaicoddnmemaa.X

namespace Go.Proofs.Ytegaicoddnmemaa.X
open Go.RowKit Go.Proofs.YtegaicoddnmemaaW.PrintWords Go.Proofs.YtegaicoddnmemaaW.PrintLast Go.Proofs.YtegaicoddnmemaaW.PrintMore
open Go.Proofs.Ytegaicoddnmemaa.P Go.Proofs.Ytegaicoddnmemaa.Evx
set_option linter.unusedSimpArgs false
set_option linter.unusedVariables false
mutual
theorem row_all (ls : List Int) (b : Nat) : ∀ s : S24, RowAt ls b s
  | ⟨op, m, kids⟩ => row_calls ls b ⟨op, m, kids⟩ (row_kids ls b kids)
theorem row_kids (ls : List Int) (b : Nat) : ∀ (l : List S24) (k : S24), k ∈ l → RowAt ls b k
  | [], k, hk => by simp at hk
  | a :: r, k, hk => by
    rcases List.mem_cons.1 hk with h | h
    · rw [h]
      exact row_all ls b a
    · exact row_kids ls b r k h
end
/-- May a word be? -/
def wordS (st lp : List Int) : Bool := decide (st.length ≤ 3000 ∧ 1 ≤ lp.length ∧ lp.length ≤ 27000)
theorem mayWord_some (st lp : List Int) : formula_MayWord.f st lp = some (wordS st lp) := by
  unfold formula_MayWord.f wordS
  split
  · split
    · congr 1
      rw [decide_eq_decide]
      omega
    · rw [decide_eq_false]
      omega
  · rw [decide_eq_false]
    omega
theorem brow_R {w w' : World} {g n : Nat} {l : List Bool} (h : BRow w' g l) (hl : l.length = n) (hg : w.heap.size ≤ g) (hn : n < 1000000000) : Kd.R Kd.bool 4 w' w.heap.size (fun _ => True) (.slice (some ⟨g, 0, none⟩) n n) l := by
  refine Kd.R_of_own ?_ (fun _ _ => trivial)
  rw [hl]
  refine ⟨by simp [encs, hl], .inr ⟨g, n, (boolsOf l).toArray, rfl, hg, h, Nat.le_refl _, by simp [maxLen]; omega, by simp [boolsOf, hl], ?_⟩⟩
  simp [boolsOf, encs, hl]
  rw [List.take_of_length_le (by simp [hl])]
theorem rower_new (w : World) (A : Option Addr) (n c b : Nat) : IsRower (w.alloc (.cells #[.slice A n c, .int .i64 (b : Int)] 73)) w.heap.size A n c b := heap_alloc_new _ _
def rowF (s : S24) (st lp : List Int) : List Bool := if mayF s = 0 ∧ wordS st lp = true then rowS (st ++ lp) st.length s else []
theorem may_sound {s : S24} (h : mayF s = 0) : soundS s = true := by
  unfold mayF at h
  split at h
  · split at h
    · assumption
    · simp at h
  · simp at h
set_option maxHeartbeats 8000000 in
set_option maxRecDepth 100000 in
theorem Row_calls (s : S24) (st lp : List Int) (A : Option Addr) (cp : Nat) (A1 A2 : Option Addr) (c1 c2 : Nat) (w : World) (hr : Kd.C k24 w A s.f2.length s.f2) (hc : s.f2.length ≤ cp) (hr1 : Kd.C (Kd.int .u32) w A1 st.length st) (hc1 : st.length ≤ c1) (hr2 : Kd.C (Kd.int .u32) w A2 lp.length lp) (hc2 : lp.length ≤ c2) :
    Calls Try.prog 24 #[.agg #[.int .i64 s.f0, .int .i64 s.f1, .slice A s.f2.length cp], .agg #[.slice A1 st.length c1, .slice A2 lp.length c2]] w fun e w' => ∃ v0_ : Value, e = .returned v0_ ∧ Kd.R Kd.bool 4 w' w.heap.size (fun _ => True) v0_ (rowF s st lp) ∧ Below w.heap.size w w' := by
  have huF := Try.underlying24
  have huL := Try.underlying22
  have huW := Try.underlying27
  have huR := Try.underlying73
  have hus := Try.underlying45
  have huu := Try.underlying25
  have huuu := Try.underlying84
  obtain ⟨W2, hW2⟩ : ∃ W2, W2 = (w.alloc (.cells #[.int .i64 s.f0, .int .i64 s.f1, .slice A s.f2.length cp] 24)).alloc (.cells #[.slice A1 st.length c1, .slice A2 lp.length c2] 27) := ⟨_, rfl⟩
  have hB2 : Below w.heap.size w W2 := by rw [hW2]; exact below_alloc (below_alloc (Below.refl _ _) _) _
  have hb1 : W2.heap[w.heap.size]? = some (.cells #[.int .i64 s.f0, .int .i64 s.f1, .slice A s.f2.length cp] 24 (0, 0)) := by rw [hW2]; exact blk_alloc (heap_alloc_new w _) _
  have hb2 : W2.heap[w.heap.size + 1]? = some (.cells #[.slice A1 st.length c1, .slice A2 lp.length c2] 27 (0, 0)) := by
    rw [hW2]
    have := heap_alloc_new (w.alloc (.cells #[.int .i64 s.f0, .int .i64 s.f1, .slice A s.f2.length cp] 24)) (.cells #[.slice A1 st.length c1, .slice A2 lp.length c2] 27)
    simpa using this
  have HMAY := Aside0.mk (May_calls s A cp W2 (Kd.C_below hr hB2) hc)
  have HW2 := Aside0.mk hW2
  have x0 : W2.cell? ⟨w.heap.size, 0, none⟩ = some (.int .i64 s.f0) := (blk_cell hb1 0).trans rfl
  have x1 : W2.cell? ⟨w.heap.size, 1, none⟩ = some (.int .i64 s.f1) := (blk_cell hb1 1).trans rfl
  have x2 : W2.cell? ⟨w.heap.size, 2, none⟩ = some (.slice A s.f2.length cp) := (blk_cell hb1 2).trans rfl
  have HB2 := Aside0.mk hB2
  have HBX1 := Aside0.mk hb1
  have HBX2 := Aside0.mk hb2
  have HRR := Aside0.mk hr
  have HRF := Aside0.mk (show rowF s st lp = if mayF s = 0 ∧ wordS st lp = true then rowS (st ++ lp) st.length s else [] from rfl)
  have HC1 := Aside0.mk (Kd.C_below hr1 hB2)
  have HC2 := Aside0.mk (Kd.C_below hr2 hB2)
  have HMS := Aside0.mk (@may_sound s)
  clear hb1 hb2 hr hr1 hr2
  generalize mayF s = mv at *
  by_cases hm : mv = 0
  · have em : (mv != 0) = false := by rw [hm]; rfl
    cases hw : wordS st lp with
    | false =>
      have HX := Aside0.mk (show rowF s st lp = [] from by rw [HRF.out, hw, if_neg (by simp)])
      have HWD := Aside0.mk ((mayWord_some st lp).trans (by rw [hw]))
      clear hw
      go_enter Try.func24, Try.ntmps24
      go_upto_region 1 with fail
      rw [← hW2]
      clear hW2 hB2
      go_wp2_with (first | (go_at_call 14; refine HMAY.out.mono ?_; rintro e w3 ⟨rfl, hB3⟩; have HB3 := Aside0.mk hB3; have HBX3 := Aside0.mk ((hB3.block _ (blk_lt HBX2.out)).trans HBX2.out); have y0 := (blk_cell HBX3.out 0).trans rfl; have y1 := (blk_cell HBX3.out 1).trans rfl; clear hB3) | (go_at_call 28; refine (formula_MayWord.calls A1 c1 st A2 c2 lp false _ (Kd.C_below HC1.out HB3.out) hc1 (Kd.C_below HC2.out HB3.out) hc2 HWD.out).mono ?_; rintro e w4 ⟨rfl, hB4⟩; have HB4 := Aside0.mk hB4; clear hB4))
      go_ret
      exact ⟨_, rfl, by rw [HX.out]; exact Kd.R_nil _ _ _ _ _, (HB2.out.trans (HB3.out.mono HB2.out.size)).trans (HB4.out.mono (Nat.le_trans HB2.out.size HB3.out.size))⟩
    | true =>
      have hwp : st.length ≤ 3000 ∧ 1 ≤ lp.length ∧ lp.length ≤ 27000 := of_decide_eq_true hw
      have HX := Aside0.mk (show rowF s st lp = rowS (st ++ lp) st.length s from by rw [HRF.out, hw, if_pos ⟨hm, rfl⟩])
      have HWD := Aside0.mk ((mayWord_some st lp).trans (by rw [hw]))
      have HSO := Aside0.mk (HMS.out hm)
      clear hw
      go_enter Try.func24, Try.ntmps24
      go_upto_region 1 with fail
      rw [← hW2]
      clear hW2 hB2
      go_upto_region 3 with (first | (go_at_call 14; refine HMAY.out.mono ?_; rintro e w3 ⟨rfl, hB3⟩; have HB3 := Aside0.mk hB3; have HBX3 := Aside0.mk ((hB3.block _ (blk_lt HBX2.out)).trans HBX2.out); have HBY3 := Aside0.mk ((hB3.block _ (blk_lt HBX1.out)).trans HBX1.out); have y0 := (blk_cell HBX3.out 0).trans rfl; have y1 := (blk_cell HBX3.out 1).trans rfl; clear hB3) | (go_at_call 28; refine (formula_MayWord.calls A1 c1 st A2 c2 lp true _ (Kd.C_below HC1.out HB3.out) hc1 (Kd.C_below HC2.out HB3.out) hc2 HWD.out).mono ?_; rintro e w4 ⟨rfl, hB4⟩; have HB4 := Aside0.mk hB4; have HBX4 := Aside0.mk ((hB4.block _ (blk_lt HBX3.out)).trans HBX3.out); have HBY4 := Aside0.mk ((hB4.block _ (blk_lt HBY3.out)).trans HBY3.out); have z0 := (blk_cell HBX4.out 0).trans rfl; have z1 := (blk_cell HBX4.out 1).trans rfl; clear hB4))
      have HCA := Aside0.mk (Kd.C_below HC1.out (HB3.out.trans (HB4.out.mono HB3.out.size)))
      have HCB := Aside0.mk (Kd.C_below HC2.out (HB3.out.trans (HB4.out.mono HB3.out.size)))
      have HCAT := Aside0.mk (Concat_calls w4.heap.size A1 A2 c1 c2 st lp (w4.drew.alloc (.cells #[.slice A1 st.length c1, .slice A2 lp.length c2] 25)) (heap_alloc_new w4.drew _) (Kd.C_alloc (Kd.C_drew HCA.out) _) (Kd.C_alloc (Kd.C_drew HCB.out) _) (by omega) (by omega))
      have hb4 : Below w4.heap.size w4 (w4.drew.alloc (.cells #[.slice A1 st.length c1, .slice A2 lp.length c2] 25)) := below_alloc (below_drew1 (Below.refl _ _)) _
      have HB44 := Aside0.mk hb4
      have z0a : w4.cell? ⟨w.heap.size + 1, 0, none⟩ = some (.slice A1 st.length c1) := (blk_cell HBX4.out 0).trans rfl
      have z1a : w4.cell? ⟨w.heap.size + 1, 1, none⟩ = some (.slice A2 lp.length c2) := (blk_cell HBX4.out 1).trans rfl
      have z0b : (w4.drew.alloc (.cells #[.slice A1 st.length c1, .slice A2 lp.length c2] 25)).cell? ⟨w.heap.size + 1, 0, none⟩ = some (.slice A1 st.length c1) := (HB44.out.cell (World.block_lt_of_cell? _ _ z0a)).trans z0a
      have z0c : (w4.alloc (.cells #[.slice A1 st.length c1, .slice A2 lp.length c2] 25)).cell? ⟨w.heap.size + 1, 0, none⟩ = some (.slice A1 st.length c1) := ((below_alloc (Below.refl _ _) _ : Below w4.heap.size w4 _).cell (World.block_lt_of_cell? _ _ z0a)).trans z0a
      clear hb4
      go_cut [5] from 14 to 24 (fun v5 wx => ∃ rb A5 c5, v5 = .pointer (some ⟨rb, 0, none⟩) ∧ Aside0 (IsRower wx rb A5 (st.length + lp.length) c5 st.length) ∧ Aside0 (Kd.C (Kd.int .u32) wx A5 (st.length + lp.length) (st ++ lp)) ∧ Aside0 (Below w4.heap.size w4 wx))
      case first =>
        go_region_with (go_at_call 41; refine HCAT.out.mono ?_; rintro e w5 ⟨v5, rfl, hR5, hB5⟩; obtain ⟨A5, c5, e5⟩ := Kd.R_slice hR5; subst e5; have HR5 := Aside0.mk hR5; have HB5 := Aside0.mk (HB44.out.trans (hB5.mono HB44.out.size)); have HBX5 := Aside0.mk ((HB5.out.block _ (blk_lt HBX4.out)).trans HBX4.out); have q0 : w5.cell? ⟨w.heap.size + 1, 0, none⟩ = some (.slice A1 st.length c1) := (blk_cell HBX5.out 0).trans rfl; clear hR5 hB5)
        all_goals (
          go_wp2_with fail
          go_meet
          exact ⟨_, A5, c5, rfl, ⟨rower_new w5 A5 (st.length + lp.length) c5 st.length⟩, ⟨Kd.C_alloc (by have := (Kd.R_reads' HR5.out).2.2; rwa [List.length_append] at this) _⟩, ⟨HB5.out.trans (below_alloc (Below.refl _ _) _ |>.mono HB5.out.size)⟩⟩)
      case rest =>
        obtain ⟨rb, A5, c5, rfl, HIR, HCC, HB5⟩ := hcut
        have HB5w : Below w.heap.size w wc := HB2.out.trans ((HB3.out.trans ((HB4.out.trans (HB5.out.mono HB4.out.size)).mono HB3.out.size)).mono HB2.out.size)
        have HBY5 := Aside0.mk ((HB5.out.block _ (blk_lt HBY4.out)).trans HBY4.out)
        have t0 : wc.cell? ⟨w.heap.size, 0, none⟩ = some (.int .i64 s.f0) := (blk_cell HBY5.out 0).trans rfl
        have t1 : wc.cell? ⟨w.heap.size, 1, none⟩ = some (.int .i64 s.f1) := (blk_cell HBY5.out 1).trans rfl
        have t2 : wc.cell? ⟨w.heap.size, 2, none⟩ = some (.slice A s.f2.length cp) := (blk_cell HBY5.out 2).trans rfl
        have HROW := Aside0.mk (row_all (st ++ lp) st.length s rb A5 c5 (st.length + lp.length) A cp wc (by simp) HIR.out HCC.out (by omega) (by omega) (by omega) (Kd.C_below HRR.out HB5w) hc HSO.out)
        have HBW := Aside0.mk HB5w
        clear HB5w
        go_wp2_with (go_at_call 42; refine HROW.out.mono ?_; rintro e w6 ⟨g, rfl, hg, hG, hB6⟩; have HG6 := Aside0.mk hG; have HGS := Aside0.mk hg; have HB6 := Aside0.mk hB6; clear hG hg hB6)
        go_ret
        exact ⟨_, rfl, by rw [HX.out]; exact brow_R HG6.out ((len_row _ _ _).trans (by first | rfl | simp)) (Nat.le_trans HBW.out.size HGS.out) (by first | omega | (simp; omega)), HBW.out.trans (HB6.out.mono HBW.out.size)⟩
  · have em : (mv != 0) = true := by simpa using hm
    have HX := Aside0.mk (show rowF s st lp = [] from by rw [HRF.out, if_neg (fun h => hm h.1)])
    go_enter Try.func24, Try.ntmps24
    go_upto_region 1 with fail
    rw [← hW2]
    clear hW2 hB2
    go_wp2_with (go_at_call 14; refine HMAY.out.mono ?_; rintro e w3 ⟨rfl, hB3⟩; have HB3 := Aside0.mk hB3; clear hB3)
    go_ret
    exact ⟨_, rfl, by rw [HX.out]; exact Kd.R_nil _ _ _ _ _, HB2.out.trans (HB3.out.mono HB2.out.size)⟩
end Go.Proofs.Ytegaicoddnmemaa.X

namespace Go.Proofs.Ytegaicoddnmemaa.X
open Go.RowKit Go.Proofs.YtegaicoddnmemaaW.PrintWords Go.Proofs.YtegaicoddnmemaaW.PrintMore
open Go.Proofs.Ytegaicoddnmemaa.P Go.Proofs.Ytegaicoddnmemaa.Evx
set_option linter.unusedVariables false
set_option linter.unusedSimpArgs false
/-- A state with bit k. -/
def orBit (x : Int) (k : Nat) : Int := Go.bits .or .i64 x (wrap64 (2 ^ k))
/-- What a timed node's row speaks of. -/
def headT (t : S24) : S24 := if t.f0 = 6 then t.f2.getD 0 z24 else t
def runAt (row : List Bool) (n b k : Nat) (out : List Int) (i : Nat) : Int := if row.getD (nextS n b i) false = true then orBit (out.getD i 0) k else out.getD i 0
/-- One timed node's bits. -/
def runRow (row : List Bool) (n b k : Nat) (out : List Int) : List Int := (List.range n).map (runAt row n b k out)
def runL (st lp : List Int) : List S24 → Nat → List Int → List Int
  | [], _, out => out
  | t :: r, k, out => runL st lp r (k + 1) (runRow (rowF (headT t) st lp) (st.length + lp.length) st.length k out)
def runS (s : S24) (st lp : List Int) : List Int := if mayF s = 0 ∧ wordS st lp = true then runL st lp (timesS s) 0 (List.replicate (st.length + lp.length) 0) else []
def runOk (s : S24) (st lp : List Int) : Bool := decide (mayF s = 0) && wordS st lp
theorem len_runRow (row : List Bool) (n b k : Nat) (out : List Int) : (runRow row n b k out).length = n := by simp [runRow]
/-- Smaller. -/
structure SubF (t s : S24) : Prop where
  pn : nS t ≤ nS s
  ph : hS t ≤ hS s
  pt : tnS t ≤ tnS s
  ps : soundS s = true → soundS t = true
theorem SubF.refl (s : S24) : SubF s s := ⟨Nat.le_refl _, Nat.le_refl _, Nat.le_refl _, id⟩
theorem SubF.trans {a b c : S24} (h : SubF a b) (k : SubF b c) : SubF a c := ⟨Nat.le_trans h.pn k.pn, Nat.le_trans h.ph k.ph, Nat.le_trans h.pt k.pt, fun x => h.ps (k.ps x)⟩
theorem SubF.may {t s : S24} (h : SubF t s) (hm : mayF s = 0) : mayF t = 0 := by
  obtain ⟨h1, h2, h3, h4⟩ := may_zero hm
  rw [may_eq, if_pos (show nS t ≤ 60 ∧ hS t ≤ 12 ∧ tnS t ≤ 8 from ⟨Nat.le_trans h.pn h1, Nat.le_trans h.ph h2, Nat.le_trans h.pt h3⟩), if_pos (h.ps h4)]
theorem nL_mem : ∀ {l : List S24} {k : S24}, k ∈ l → nS k ≤ nL l ∧ hS k ≤ hL l ∧ tnS k ≤ tnL l
  | a :: r, k, h => by
    simp only [nL, hL, tnL]
    rcases List.mem_cons.1 h with e | e
    · subst e; omega
    · have := nL_mem e; omega
theorem SubF.kid {s k : S24} (h : k ∈ s.f2) : SubF k s := by
  obtain ⟨op, m, kids⟩ := s
  have := nL_mem (show k ∈ kids from h)
  refine ⟨?_, ?_, ?_, fun hs => sound_in (sound_kids_all hs) k h⟩
  · simp only [nS]; exact Nat.le_trans this.1 (by omega)
  · simp only [hS]; exact Nat.le_trans this.2.1 (by omega)
  · simp only [tnS]; exact Nat.le_trans this.2.2 (by omega)
mutual
theorem times_sub : ∀ (s t : S24), t ∈ timesS s → SubF t s
  | ⟨op, m, kids⟩, t, h => by
    simp only [timesS, List.mem_append] at h
    rcases h with h | h
    · split at h
      · rw [List.mem_singleton.1 h]; exact SubF.refl _
      · cases h
    · obtain ⟨k, hk, hs⟩ := times_subL kids t h
      exact hs.trans (SubF.kid hk)
theorem times_subL : ∀ (l : List S24) (t : S24), t ∈ timesL l → ∃ k ∈ l, SubF t k
  | [], t, h => by simp [timesL] at h
  | a :: r, t, h => by
    simp only [timesL, List.mem_append] at h
    rcases h with h | h
    · exact ⟨a, by simp, times_sub a t h⟩
    · obtain ⟨k, hk, hs⟩ := times_subL r t h
      exact ⟨k, by simp [hk], hs⟩
end
theorem head_may {t : S24} (h : mayF t = 0) : mayF (headT t) = 0 := by
  unfold headT
  split
  · rename_i h6
    have hs := (may_zero h).2.2.2
    have hp := sound_parts hs
    have h1 : kidsS 6 = 1 := by decide
    rw [h6, h1] at hp
    have hl : 0 < t.f2.length := by omega
    have : t.f2.getD 0 z24 = t.f2[0]'hl := by rw [List.getD_eq_getElem?_getD, List.getElem?_eq_getElem hl]; rfl
    rw [this]
    exact (SubF.kid (List.getElem_mem hl)).may h
  · exact h
theorem next6 {t : S24} (h : mayF t = 0) (h6 : t.f0 = 6) : 0 < t.f2.length := by
  have hp := sound_parts (may_zero h).2.2.2
  have h1 : kidsS 6 = 1 := by decide
  rw [h6, h1] at hp
  omega
theorem len_rowF {t : S24} {st lp : List Int} (h : mayF t = 0) (hw : wordS st lp = true) : (rowF t st lp).length = st.length + lp.length := by
  unfold rowF
  rw [if_pos ⟨h, hw⟩, len_row, List.length_append]
end Go.Proofs.Ytegaicoddnmemaa.X

