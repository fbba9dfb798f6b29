/- A part of the claim SearchForms. -/
import Derived.Below
import Derived.Deep.Draws
import Derived.Deep.AppendLies
import Derived.Maps.AppendAt
import Derived.OwnWalk
import Derived.Laws.BytesArg
import Derived.Laws.MakeOwn
import Derived.Laws.OwnMore
import Derived.Deep.OwnRows
import Derived.Tactics
import Derived.Lib.ConvBytes
import Derived.Laws.Slices
import Derived.WalkKit
import Derived.KernelRfl
import Derived.RowKit3
import Derived.Deep.LoopGhost
import Derived.Deep.QuietTactic
import Derived.BigQuiet
import Derived.WideLaws
import Derived.Deep.DeepCutAuto
import Derived.Deep.CutBlock
import Derived.Deep.RegionHeld3
import Derived.Laws.Rows
import Derived.Lib.AppendStr
import Derived.ArgAppend
import Derived.Laws.IdiomCopy
import Derived.RowKit
import Derived.OrdersHeld
import Derived.Laws.BitsLemmas
set_option linter.unusedVariables false
set_option linter.unusedSimpArgs false
theorem aa {p : Prop} (h : p := by kernel_rfl) : p := h
theorem ai {p : Prop} (h : p := by decide) : p := h
theorem ag {p : Prop} (h : p := by omega) : p := h
theorem bu {p : Prop} (h : p := by rfl) : p := h
namespace Go.Proofs.aI.bM
open Go.RowKit

structure Zd (p : Prop) : Prop where mk :: (out : p)
structure bC (w w' : World) : Prop where mk :: (out : ∃ n, w' = w.drewN n)
theorem bC.refl (w : World) : bC w w := ⟨⟨0, rfl⟩⟩
theorem bC.step {w w' : World} (h : bC w w') (n : Nat) : bC w (w'.drewN n) := by
  obtain ⟨m, rfl⟩ := h;exact ⟨⟨m + n, World.drewN_drewN ..⟩⟩
theorem bC.below {w w' : World} (h : bC w w') : Below w.heap.size w w' := by
  obtain ⟨n, rfl⟩ := h
  induction n with
  | zero => exact Below.refl _ _
  | succ n ih => rw [← World.drew_drewN]; exact ih.drew


def rd (xs : List Int) (i : Int) : Int := xs.getD i.toNat 0
def nums (k : IntKind) (xs : List Int) : List Value := xs.map fun x => .int k x
theorem aW {w W : World} (h : Below w.heap.size w W) (o : Obj) : Below w.heap.size w (W.alloc o) := h.alloc h.size o
theorem Tp {B : Nat} {w W : World} (h : Below B w W) : Below B w W.drew := ⟨h.os, h.tape, h.output, h.size, h.block⟩
theorem fB {B : Nat} {w W : World} (h : Below B w W) (n : Nat) : Below B w (W.drewN n) := ⟨h.os, h.tape, h.output, h.size, h.block⟩
theorem aiM {B : Nat} {w w1 w2 : World} (h : Below B w w1) (hB : B ≤ w1.heap.size) (k : Below w1.heap.size w1 w2) : Below B w w2 :=
  h.trans ⟨k.os, k.tape, k.output, k.size, fun i hi => k.block i (Nat.lt_of_lt_of_le hi hB)⟩
theorem Tq {B : Nat} {w w1 : World} (h : Below B w w1) (row : Option Nat) (hB : B ≤ w1.heap.size) {w2 : World} (hg : w1.grownBy w2 row) (hr : ∀ k, row = some k → B ≤ k) : Below B w w2 := h.grown hg hB hr
theorem aiN {w w1 : World} (h : Below w.heap.size w w1) (row : Option Nat) : w.grownBy w1 row := ⟨h.os, h.tape, h.output, h.size, fun i hi _ => h.block i hi⟩
theorem aG {w w1 : World} (h : Below w.heap.size w w1) {a : Addr} {v : Value} (hc : w.cell? a = some v) : w1.cell? a = some v := (h.cell (World.block_lt_of_cell? w a hc)).trans hc

theorem add_plain (g j : Nat) : (⟨g, 0, none⟩ : Addr).add j = ⟨g, j, none⟩ := by unfold Addr.add; split <;> simp_all

def au5 (w : World) (k : IntKind) (A : Option Addr) (n : Nat) (xs : List Int) : Prop :=
  xs.length = n ∧ n ≤ 9223372036854775807 ∧ (0 < n → ∃ ad, A = some ad ∧ ∀ j, j < n → w.cell? (ad.add j) = some (.int k (xs.getD j 0)))
theorem aiO (W : World) (base : Nat) (e : TypeId) (size : Nat) : W.ownsRow base e size (.slice none 0 0) 0 [] := ⟨by simp, .inl ⟨rfl, rfl⟩⟩
theorem xm {w : World} {base : Nat} {e : TypeId} {size n : Nat} {v : Value} {xs : List Value} (h : w.ownsRow base e size v n xs) (k : Nat) (hk : v.ownBlock = some k) : base ≤ k := by
  rcases h.2 with ⟨rfl, _⟩ | ⟨g, cap, cur, rfl, hb, _⟩
  · simp [Value.ownBlock] at hk
  · have : g = k := by simpa [Value.ownBlock] using hk
    omega
theorem iD {w : World} {base : Nat} {e : TypeId} {size n : Nat} {v : Value} {xs : List Value} (h : w.ownsRow base e size v n xs) (k : Nat) (hk : v.ownBlock = some k) : k < w.heap.size := by
  rcases h.2 with ⟨rfl, _⟩ | ⟨g, cap, cur, rfl, hb, hh, _⟩
  · simp [Value.ownBlock] at hk
  · have : g = k := by simpa [Value.ownBlock] using hk
    subst this;exact (Array.getElem?_eq_some_iff.1 hh).1
theorem aiP {w w1 : World} {base : Nat} {e : TypeId} {size n : Nat} {v : Value} {xs : List Value} (h : w.ownsRow base e size v n xs) (hb : Below w.heap.size w w1) : w1.ownsRow base e size v n xs :=
  h.kept (aiN hb none) (by cases v.ownBlock <;> simp)
theorem Tt {w : World} {base n : Nat} {e : TypeId} {size : Nat} {v : Value} {xs : List Value} (h : w.ownsRow base e size v n xs) : ∃ A c, v = .slice A n c := by
  rcases h.2 with ⟨rfl, rfl⟩ | ⟨g, cap, cur, rfl, _⟩
  · exact ⟨none, 0, rfl⟩
  · exact ⟨_, cap, rfl⟩
section
variable {P : Program} {ops : Array Oper} {rest : List Oper} {o : Oper} {a : Act} {Q : Exit → Act → World → Prop}

end

section
variable {P : Program}
theorem aiQ (t e : TypeId) (k : IntKind) (bytes : Nat) (ht : P.underlying t = some (.slice e)) (hinfo : (P.info? e).map (fun i => (i.zero, i.size, i.bytes)) = some (some (.int k 0), 1, bytes)) (hb0 : 0 < bytes)
    (m : Nat) (hn : m * bytes ≤ 281474976710656) :
    ∀ W : World, (Instr.makeSlice t (.int .i64 (m : Int)) (.int .i64 (m : Int))).run P W = .ok (.slice (some ⟨W.heap.size, 0, none⟩) m m) (W.alloc (.cells (madeCells #[.int k 0] m) e)) := by
  intro W;have hm : m ≤ 281474976710656 := Nat.le_trans (Nat.le_mul_of_pos_right _ hb0) hn;exact run_make_row' t e (.int k 0) bytes ht hinfo rfl .i64 .i64 m (by rw [Nat.mul_comm]; exact hn) ag W
end
theorem aiR {W : World} {base g n cap : Nat} {e : TypeId} {k : IntKind} {xs : List Int} (h : W.ownsRow base e 1 (.slice (some ⟨g, 0, none⟩) n cap) n (nums k xs)) (i x : Int) :
    (W.setCell ⟨g, i.toNat, none⟩ (.int k x)).ownsRow base e 1 (.slice (some ⟨g, 0, none⟩) n cap) n (nums k (xs.set i.toNat x)) ∧ W.grownBy (W.setCell ⟨g, i.toNat, none⟩ (.int k x)) (some g) := by
  have hs := h.stored i.toNat (.int k x);have he : (nums k xs).set i.toNat (.int k x) = nums k (xs.set i.toNat x) := by simp [nums, List.map_set]
  rwa [he] at hs

section
variable {P : Program} {ops : Array Oper} {rest : List Oper} {o : Oper} {a : Act} {Q : Exit → Act → World → Prop}
end

def bytesOf (s : ByteArray) : List Int := s.data.toList.map fun b => (b.toNat : Int)
def LeO {α : Type} (a b : Option α) : Prop := ∀ r, a = some r → b = some r
def iM {α : Type} (R : α → List Value → Prop) (size : Nat) (ps : List α) (cs : List Value) : Prop :=
  cs.length = ps.length * size ∧ ∀ j p, ps[j]? = some p → R p ((cs.drop (j * size)).take size)
theorem iM.none {α : Type} (R : α → List Value → Prop) (size : Nat) : iM R size [] [] := ⟨by simp, fun j p h => by simp at h⟩
theorem iM.snoc {α : Type} {R : α → List Value → Prop} {size : Nat} {ps : List α} {cs c : List Value} {p : α} (h : iM R size ps cs) (hp : R p c) (hc : c.length = size) : iM R size (ps ++ [p]) (cs ++ c) := by
  refine ⟨by rw [List.length_append, h.1, hc, List.length_append, List.length_singleton, Nat.add_mul, Nat.one_mul], fun j q hq => ?_⟩;rcases Nat.lt_or_ge j ps.length with hj | hj
  · rw [List.getElem?_append_left hj] at hq
    have h1 : j * size + size ≤ cs.length := by rw [h.1, ← Nat.succ_mul]; exact Nat.mul_le_mul_right _ hj
    have h2 := h.2 j q hq;rw [List.drop_append_of_le_length ag, List.take_append_of_le_length (by rw [List.length_drop]; omega)];exact h2
  · have hj' : j = ps.length := by
      have := (List.getElem?_eq_some_iff.1 hq).1;rw [List.length_append, List.length_singleton] at this;omega
    subst hj';have hq' : p = q := by simpa using hq
    subst hq';rw [← h.1, List.drop_left, ← hc, List.take_length];exact hp
theorem iM.pq {α : Type} {R R' : α → List Value → Prop} {size : Nat} {ps : List α} {cs : List Value} (h : iM R size ps cs) (hR : ∀ p c, R p c → R' p c) : iM R' size ps cs := ⟨h.1, fun j p hj => hR _ _ (h.2 j p hj)⟩

def qD {α : Type} (R : α → List Value → Prop) (size : Nat) (w : World) (A : Option Addr) (n : Nat) (ps : List α) : Prop :=
  ps.length = n ∧ n ≤ 9223372036854775807 ∧ (0 < n → ∃ ad, A = some ad ∧ ∀ j p, ps[j]? = some p → ∃ c, c.length = size ∧ R p c ∧ ∀ i u, c[i]? = some u → w.cell? (ad.add (j * size + i)) = some u)
theorem qD.aiS {α : Type} {R : α → List Value → Prop} {size : Nat} {w : World} {A : Option Addr} {n : Nat} {ps : List α} (h : qD R size w A n ps) (d : α) (i : Int) (h0 : 0 ≤ i) (h1 : i < n) :
    ∃ ad c, A = some ad ∧ c.length = size ∧ R (ps.getD i.toNat d) c ∧ ∀ j u, c[j]? = some u → w.cell? (ad.add (i.toNat * size + j)) = some u := by
  obtain ⟨ad, e, hc⟩ := h.2.2 ag;have hl : i.toNat < ps.length := by have := h.1; omega
  obtain ⟨c, hs, hr, hcell⟩ := hc i.toNat _ (List.getElem?_eq_getElem hl);refine ⟨ad, c, e, hs, ?_, hcell⟩;rw [List.getD_eq_getElem?_getD, List.getElem?_eq_getElem hl];exact hr
theorem qD.pq {α : Type} {R R' : α → List Value → Prop} {size : Nat} {w w1 : World} {A : Option Addr} {n : Nat} {ps : List α} (h : qD R size w A n ps) (hb : Below w.heap.size w w1) (hR : ∀ p c, R p c → R' p c) : qD R' size w1 A n ps :=
  ⟨h.1, h.2.1, fun hn => by
    obtain ⟨ad, e, hc⟩ := h.2.2 hn;refine ⟨ad, e, fun j p hj => ?_⟩;obtain ⟨c, hs, hr, hcell⟩ := hc j p hj;exact ⟨c, hs, hR _ _ hr, fun i u hu => aG hb (hcell i u hu)⟩⟩
theorem aiT {α : Type} {R : α → List Value → Prop} {w : World} {base n size : Nat} {e : TypeId} {v : Value} {ps : List α} {cs : List Value} (h : w.ownsRow base e size v n cs) (hR : iM R size ps cs) (hn : ps.length = n) :
    ∃ A c, v = .slice A n c ∧ qD R size w A n ps := by
  rcases Nat.eq_zero_or_pos n with h0 | h0
  · rcases h.2 with ⟨rfl, rfl⟩ | ⟨g, cap, cur, rfl, _⟩
    · exact ⟨none, 0, rfl, hn, by omega, fun hp => absurd hp ag⟩
    · exact ⟨_, cap, rfl, hn, by omega, fun hp => absurd hp ag⟩
  · obtain ⟨g, cap, rfl, _, _⟩ := h.form h0
    have hm : n ≤ 9223372036854775807 := by
      rcases h.2 with ⟨_, h1⟩ | ⟨g', cap', cur, he, _, _, h1, h2, _⟩
      · omega
      · simp only [maxLen] at h2
        omega
    refine ⟨_, cap, rfl, hn, hm, fun _ => ⟨_, rfl, fun j p hj => ⟨(cs.drop (j * size)).take size, ?_, hR.2 j p hj, fun i u hu => ?_⟩⟩⟩
    · have hjl := (List.getElem?_eq_some_iff.1 hj).1
      have h1 : j * size + size ≤ cs.length := by rw [hR.1, ← Nat.succ_mul]; exact Nat.mul_le_mul_right _ hjl
      rw [List.length_take, List.length_drop];omega
    · refine h.cells (g := g) rfl _ u ?_
      rw [List.getElem?_take] at hu;split at hu
      · rw [List.getElem?_drop] at hu
        exact hu
      · cases hu
theorem aab (ad : Addr) (m j : Nat) (hj : 0 < j) : ad.add (m + j) = ⟨(ad.add m).block, (ad.add m).off + j, none⟩ := by
  unfold Addr.add;by_cases hm : m = 0
  · subst hm
    simp [Nat.ne_of_gt hj]
  · simp [hm, Nat.add_assoc]

section
variable {P : Program} {ops : Array Oper} {rest : List Oper} {o : Oper} {a : Act} {Q : Exit → Act → World → Prop}
theorem aac {w0 W : World} (base : Nat) (hgd : o.guard = none) (s x : Operand) (t e : TypeId) (z : Value) (size bytes : Nat)
    (ho : o.op = .call { callee := .builtin .append, args := #[s, x], argTypes := #[t, t] })
    (ht : P.underlying t = some (.slice e)) (hinfo : (P.info? e).map (fun i => (i.zero, i.size, i.bytes)) = some (some z, size, bytes)) (hz : z.cells.size = size) (hs0 : 0 < size) (hb0 : 0 < bytes)
    (v : Value) (n : Nat) (xs ys : List Value) (hs : a.eval s = v) (hx : a.eval x = .slice (some ⟨W.heap.size, 0, none⟩) 1 1) (hys : ys.length = size) (h1 : ∀ u ∈ ys, u.oneCell' = true)
    (HO : W.ownsRow base e size v n xs) (HB : Below base w0 W) (hbase : base ≤ W.heap.size) (hl : (n + 1) * bytes ≤ 140737488355328)
    (h : ∀ v1 w1, w1.ownsRow base e size v1 (n + 1) (xs ++ ys) → Below base w0 w1 → W.grownBy w1 v.ownBlock → (v1.ownBlock = v.ownBlock ∨ ∃ b, v1.ownBlock = some b ∧ W.heap.size ≤ b) → wpList P ops Q rest (a.put o.dst v1) w1) :
    wpList P ops Q (o :: rest) a (W.alloc (.cells ys.toArray e)) := by
  obtain ⟨i0, hi, hzz⟩ := Option.map_eq_some_iff.1 hinfo;simp only [Prod.mk.injEq] at hzz;obtain ⟨hz0, hz1, hz2⟩ := hzz;have hlen : n + 1 ≤ 140737488355328 := Nat.le_trans (Nat.le_mul_of_pos_right _ hb0) hl;refine wpList_append_own_at (W.alloc (.cells ys.toArray e)) hgd s x t ho base e i0 z size bytes ht hi hz0 hz1 hz2 hz hs0 v n xs hs (HO.alloc _) ⟨W.heap.size, 0, none⟩ 1 1 ys hx (by rw [hys]; simp)
    (by simpa using World.news_of_block (cs := ys.toArray) (t := e) (fr := (0, 0)) (heap_alloc_new W (.cells ys.toArray e))) h1 (by simp only [maxLen]; omega) hl (by simp; omega) ?_
  intro v1 w1 hown hg _ hat;refine h v1 w1 hown ((HB.alloc hbase _).grown hg (by simp; omega) (xm HO)) (World.grownBy.trans (World.grownBy_alloc W _ _) hg) ?_;rcases hat with hat | hat
  · exact .inl hat
  · exact .inr ⟨_, hat, by simp⟩
end

theorem NL {w : World} {base : Nat} {e : TypeId} {size n : Nat} {v : Value} {xs : List Value} (h : w.ownsRow base e size v n xs) {p : Addr} (hne : some p.block ≠ v.ownBlock) (u : Value) : (w.setCell p u).ownsRow base e size v n xs := by
  obtain ⟨h1, h2⟩ := h;refine ⟨h1, ?_⟩;rcases h2 with h2 | ⟨g, cap, cur, rfl, hg, hh, r⟩
  · exact .inl h2
  · exact .inr ⟨g, cap, cur, rfl, hg, by rw [Below.heap_setCell _ _ _ _ (fun e => hne (by rw [e]; rfl))]; exact hh, r⟩
theorem jc {w : World} {g : Nat} {t : TypeId} {cs : Array Value} (h : w.heap[g]? = some (.cells cs t (0, 0))) (i : Nat) (u : Value) : (w.setCell ⟨g, i, none⟩ u).heap[g]? = some (.cells (cs.setIfInBounds i u) t (0, 0)) := by
  simp [World.setCell, Array.getElem?_modify, h]
theorem dK {w : World} {g : Nat} {t : TypeId} {cs : Array Value} (h : w.heap[g]? = some (.cells cs t (0, 0))) {p : Addr} (hp : g ≠ p.block) (u : Value) : (w.setCell p u).heap[g]? = some (.cells cs t (0, 0)) := (Below.heap_setCell w p u g hp).trans h
theorem aT {w : World} {g : Nat} {o : Obj} (h : w.heap[g]? = some o) : g < w.heap.size := (Array.getElem?_eq_some_iff.1 h).1
theorem aj {w : World} {g : Nat} {t : TypeId} {cs : Array Value} (h : w.heap[g]? = some (.cells cs t (0, 0))) (i : Nat) : w.cell? ⟨g, i, none⟩ = cs[i]? := cell_of_row w g i cs t (0, 0) h
theorem aN {w : World} {g : Nat} {t : TypeId} {cs : Array Value} (h : w.heap[g]? = some (.cells cs t (0, 0))) (i : Nat) : w.frozen? ⟨g, i, none⟩ = false := by simp [World.frozen?, h]
theorem oM {w w1 : World} {g : Nat} {o : Obj} {row : Option Nat} (h : w.heap[g]? = some o) (hg : w.grownBy w1 row) (hne : some g ≠ row) : w1.heap[g]? = some o := (hg.block g (aT h) hne).trans h
theorem Tu {w : World} {g g' : Nat} {t t' : TypeId} {cs cs' : Array Value} (h : w.heap[g]? = some (.cells cs t (0, 0))) (h' : w.heap[g']? = some (.cells cs' t' (0, 0))) (hne : t ≠ t') : g ≠ g' := by
  rintro rfl;rw [h] at h';injection h' with h'
  injection h' with _ ht
  exact hne ht
def kU (w w' : World) (g : Nat) (row : Option Nat) : Prop := w.heap.size ≤ w'.heap.size ∧ ∀ i, i < w.heap.size → i ≠ g → some i ≠ row → w'.heap[i]? = w.heap[i]?
theorem kU.refl (w : World) (g : Nat) (row : Option Nat) : kU w w g row := ⟨Nat.le_refl _, fun _ _ _ _ => rfl⟩
theorem kU.Cz {w w1 : World} {row : Option Nat} (h : w.grownBy w1 row) (g : Nat) : kU w w1 g row := ⟨h.size, fun i hi _ hr => h.block i hi hr⟩
theorem kU.CB {w w1 : World} {g : Nat} {row : Option Nat} (h : kU w w1 g row) (j : Nat) (u : Value) : kU w (w1.setCell ⟨g, j, none⟩ u) g row :=
  ⟨by simpa [World.setCell] using h.1, fun i hi hg hr => (Below.heap_setCell w1 ⟨g, j, none⟩ u i hg).trans (h.2 i hi hg hr)⟩
theorem kU.trans {w w1 w2 : World} {g : Nat} {row Tv : Option Nat} (h : kU w w1 g row) (k : kU w1 w2 g Tv) (hr : Tv = row ∨ ∃ b, Tv = some b ∧ w.heap.size ≤ b) : kU w w2 g row :=
  ⟨Nat.le_trans h.1 k.1, fun i hi hg hn => by
    refine (k.2 i (Nat.lt_of_lt_of_le hi h.1) hg ?_).trans (h.2 i hi hg hn);rcases hr with rfl | ⟨b, rfl, hb⟩
    · exact hn
    · intro e
      injection e with e
      omega⟩
def Ev {α : Type} (g : Nat → Option α) (r : α) : Prop := ∃ K, ∀ k, K ≤ k → g k = some r
theorem Ev.now {α : Type} (r : α) : Ev (fun _ => some r) r := ⟨0, fun _ _ => rfl⟩
theorem Ev.rounds {α : Type} {g : Nat → Option α} {r : α} (h : Ev g r) : ∃ k, g k = some r := by
  obtain ⟨K, h⟩ := h;exact ⟨K, h K (Nat.le_refl _)⟩
theorem Ev.bind {α β : Type} {g : Nat → Option α} {f : Nat → α → Option β} {a : α} {r : β} (h : Ev g a) (k : Ev (fun n => f n a) r) : Ev (fun n => (g n).bind (f n)) r := by
  obtain ⟨K, h⟩ := h;obtain ⟨K', k⟩ := k;refine ⟨max K K', fun n hn => ?_⟩;have h1 := h n ag;have h2 := k n ag;simp only [h1, Option.bind_some];exact h2
theorem Ev.step {α : Type} {g f : Nat → Option α} {r : α} (h : ∀ k, g (k + 1) = f k) (k : Ev f r) : Ev g r := by
  obtain ⟨K, k⟩ := k;refine ⟨K + 1, fun n hn => ?_⟩;obtain ⟨m, rfl⟩ : ∃ m, n = m + 1 := ⟨n - 1, by omega⟩;rw [h];exact k m ag
theorem Ev.congr {α : Type} {g f : Nat → Option α} {r : α} (h : ∀ k, g k = f k) (k : Ev f r) : Ev g r := by
  obtain ⟨K, k⟩ := k;exact ⟨K, fun n hn => (h n).trans (k n hn)⟩
section
variable {P : Program} {ops : Array Oper} {o : Oper} {a : Act} {Q : Exit → Act → World → Prop} {K : Act → World → Prop}
theorem aad {w0 W : World} (base : Nat) (hw : Region.wanted o (yielded ops a.tmps) = true) (s x : Operand) (t e : TypeId) (z : Value) (size bytes : Nat)
    (ho : o.op = .call { callee := .builtin .append, args := #[s, x], argTypes := #[t, t] })
    (ht : P.underlying t = some (.slice e)) (hinfo : (P.info? e).map (fun i => (i.zero, i.size, i.bytes)) = some (some z, size, bytes)) (hz : z.cells.size = size) (hs0 : 0 < size) (hb0 : 0 < bytes)
    (v : Value) (n : Nat) (xs ys : List Value) (hs : a.eval s = v) (hx : a.eval x = .slice (some ⟨W.heap.size, 0, none⟩) 1 1) (hys : ys.length = size) (h1 : ∀ u ∈ ys, u.oneCell' = true)
    (HO : W.ownsRow base e size v n xs) (HB : Below base w0 W) (hbase : base ≤ W.heap.size) (hl : (n + 1) * bytes ≤ 140737488355328)
    (h : ∀ v1 w1, w1.ownsRow base e size v1 (n + 1) (xs ++ ys) → Below base w0 w1 → W.grownBy w1 v.ownBlock → (v1.ownBlock = v.ownBlock ∨ ∃ b, v1.ownBlock = some b ∧ W.heap.size ≤ b) → K (a.put o.dst v1) w1) :
    if Region.wanted o (yielded ops a.tmps) = true then Oper.wp P o a (W.alloc (.cells ys.toArray e)) K Q else K (a.put o.dst undef) (W.alloc (.cells ys.toArray e)) := by
  obtain ⟨i0, hi, hzz⟩ := Option.map_eq_some_iff.1 hinfo;simp only [Prod.mk.injEq] at hzz;obtain ⟨hz0, hz1, hz2⟩ := hzz;have hlen : n + 1 ≤ 140737488355328 := Nat.le_trans (Nat.le_mul_of_pos_right _ hb0) hl;rw [if_pos hw];obtain ⟨v1, w1, hr, hown, hg, _, hat⟩ := run_append_own_at (P := P) (W.alloc (.cells ys.toArray e)) base t o.type e i0 z size bytes ht hi hz0 hz1 hz2 hz hs0 v n xs (HO.alloc _) ⟨W.heap.size, 0, none⟩ 1 1 ys (by rw [hys]; simp)
    (by simpa using World.news_of_block (cs := ys.toArray) (t := e) (fr := (0, 0)) (heap_alloc_new W (.cells ys.toArray e))) h1 (by simp only [maxLen]; omega) hl (by simp; omega)
  unfold Oper.wp execOp;simp only [ho, resolve, invoke, builtin, Sem.run_bind, Sem.run_pure, Result.andThen_ok, List.map_toArray, List.map_cons, List.map_nil, hs, hx, hr];refine h v1 w1 hown ((HB.alloc hbase _).grown hg (by simp; omega) (xm HO)) (World.grownBy.trans (World.grownBy_alloc W _ _) hg) ?_;rcases hat with hat | hat
  · exact .inl hat
  · exact .inr ⟨_, hat, by simp⟩
end
theorem aiU {w : World} {base base' : Nat} {e : TypeId} {size n : Nat} {v : Value} {xs : List Value} (h : w.ownsRow base e size v n xs) (hb : base' ≤ base) : w.ownsRow base' e size v n xs := by
  obtain ⟨h1, h2⟩ := h;refine ⟨h1, ?_⟩;rcases h2 with h2 | ⟨g, cap, cur, rfl, hg, r⟩
  · exact .inl h2
  · exact .inr ⟨g, cap, cur, rfl, Nat.le_trans hb hg, r⟩
section
variable {α : Type} {enc : α → Value} {d : α}
def encs (enc : α → Value) (xs : List α) : List Value := xs.map enc
def qE (d : α) (xs : List α) (i : Int) : α := xs.getD i.toNat d
theorem aae (xs : List α) : (encs enc xs).length = xs.length := by simp [encs]
theorem aaf (xs : List α) (j : Nat) (h : j < xs.length) : (encs enc xs)[j]? = some (enc (xs.getD j d)) := by
  simp [encs, List.getElem?_eq_getElem h, List.getD_eq_getElem?_getD]
def rC (enc : α → Value) (d : α) (w : World) (A : Option Addr) (n : Nat) (xs : List α) : Prop :=
  xs.length = n ∧ n ≤ 9223372036854775807 ∧ (0 < n → ∃ ad, A = some ad ∧ ∀ j, j < n → w.cell? (ad.add j) = some (enc (xs.getD j d)))
theorem rC.at_ {w : World} {A : Option Addr} {n : Nat} {xs : List α} (h : rC enc d w A n xs) (i : Int) (h0 : 0 ≤ i) (h1 : i < n) : ∃ ad, A = some ad ∧ w.cell? (ad.add i.toNat) = some (enc (qE d xs i)) := by
  obtain ⟨ad, e, hc⟩ := h.2.2 ag;exact ⟨ad, e, hc _ ag⟩
theorem rC.Tw {w : World} {A : Option Addr} {n : Nat} {xs : List α} (h : rC enc d w A n xs) (i : Nat) (hi : i ≤ n) : rC enc d w A i (xs.take i) := by
  refine ⟨by rw [List.length_take, h.1]; omega, by have := h.2.1; omega, fun hp => ?_⟩;obtain ⟨ad, e, hc⟩ := h.2.2 ag;refine ⟨ad, e, fun j hj => ?_⟩;rw [hc j ag];simp [List.getD_eq_getElem?_getD, hj]
theorem rC.aiV {w : World} {A : Option Addr} {n c : Nat} {xs : List α} (h : rC enc d w A n xs) (i : Nat) (hi : i ≤ n) (hc : n ≤ c) : rC enc d w (if c = i then A else A.map (·.add i)) (n - i) (xs.drop i) := by
  refine ⟨by rw [List.length_drop, h.1], by have := h.2.1; omega, fun hp => ?_⟩;obtain ⟨ad, rfl, hcell⟩ := h.2.2 ag;rw [if_neg ag];refine ⟨ad.add i, rfl, fun j hj => ?_⟩;have ha : (ad.add i).add j = ad.add (i + j) := by
    unfold Addr.add;by_cases h1 : i = 0 <;> by_cases h2 : j = 0 <;> simp [h1, h2, Nat.add_assoc]
  rw [ha, hcell (i + j) ag];simp [List.getD_eq_getElem?_getD, List.getElem?_drop]
theorem aiW {P : Program} (enc : α → Value) (d : α) (t e : TypeId) (kl : IntKind) {i : TypeInfo} (ht : P.underlying t = some (.slice e)) (hi : P.info? e = some i) (hsz : i.size = 1) (A : Option Addr) (n c m : Nat) (hm : m ≤ n) :
    ∃ A' : Option Addr, (∀ W : World, (Instr.slice t (.slice A n c) (some (.int kl (m : Int))) none none).run P W = .ok (.slice A' (n - m) (c - m)) W) ∧
      ∀ (w : World) (xs : List α), n ≤ c → rC enc d w A n xs → rC enc d w A' (n - m) (xs.drop m) := by
  refine ⟨if c = m then A else A.map (·.add m), fun W => ?_, fun w xs hc h => h.aiV m hm hc⟩;have hel : P.elem t = e := by simp [Program.elem, ht]
  have hu : P.underlying t = some (.slice (P.elem t)) := by rw [hel]; exact ht
  rw [run_slice_l W t A n c hu kl (m : Int) (Int.natCast_nonneg _) ag, hel];simp [sizeOf, typeInfo, hi, hsz, sliced, Result.andThen]
theorem Tx {P : Program} (t e : TypeId) (z : Value) (bytes : Nat) (ht : P.underlying t = some (.slice e)) (hinfo : (P.info? e).map (fun i => (i.zero, i.size, i.bytes)) = some (some z, 1, bytes)) (hz : z.cells = #[z]) (hb0 : 0 < bytes)
    (m : Nat) (hn : m * bytes ≤ 281474976710656) :
    ∀ W : World, (Instr.makeSlice t (.int .i64 (m : Int)) (.int .i64 (m : Int))).run P W = .ok (.slice (some ⟨W.heap.size, 0, none⟩) m m) (W.alloc (.cells (madeCells #[z] m) e)) := by
  intro W;have hm : m ≤ 281474976710656 := Nat.le_trans (Nat.le_mul_of_pos_right _ hb0) hn;exact run_make_row' t e z bytes ht hinfo hz .i64 .i64 m (by rw [Nat.mul_comm]; exact hn) ag W
theorem aag (W : World) (base : Nat) (e : TypeId) (m : Nat) (hb : base ≤ W.heap.size) (hm : m ≤ 9223372036854775807) :
    (W.alloc (.cells (madeCells #[enc d] m) e)).ownsRow base e 1 (.slice (some ⟨W.heap.size, 0, none⟩) m m) m (encs enc (List.replicate m d)) := by
  have h := World.ownsRow_lit (base := base) (e := e) (size := 1) W (madeCells #[enc d] m) m hb (by simpa [maxLen] using hm) (by simp [size_madeCells]);have hl : (madeCells #[enc d] m).toList = encs enc (List.replicate m d) := by
    apply List.ext_getElem
    · simp [encs, madeCells]
    · intro i h1 h2
      simp [encs, madeCells, Nat.mod_one]
  rwa [hl] at h
theorem aiX {W : World} {base g n cap : Nat} {e : TypeId} {xs : List α} (h : W.ownsRow base e 1 (.slice (some ⟨g, 0, none⟩) n cap) n (encs enc xs)) (i : Int) (h0 : 0 ≤ i) (h1 : i < n) :
    W.cell? ⟨g, i.toNat, none⟩ = some (enc (qE d xs i)) ∧ W.frozen? ⟨g, i.toNat, none⟩ = false := by
  have hl : xs.length = n := by have := h.1; simp [encs] at this; exact this
  constructor
  · have hc := h.cells (g := g) rfl i.toNat _ (aaf (d := d) xs i.toNat ag)
    rwa [add_plain] at hc
  · rcases h.2 with ⟨h', _⟩ | ⟨g', cap', cur, h', _, hh, _⟩
    · cases h'
    · have : g = g' := by injection h' with h'; injection h' with h'; injection h' with h'
      subst this;simp [World.frozen?, hh]
theorem aiY {W : World} {base g n cap : Nat} {e : TypeId} {xs : List α} (h : W.ownsRow base e 1 (.slice (some ⟨g, 0, none⟩) n cap) n (encs enc xs)) (i : Int) (x : α) :
    (W.setCell ⟨g, i.toNat, none⟩ (enc x)).ownsRow base e 1 (.slice (some ⟨g, 0, none⟩) n cap) n (encs enc (xs.set i.toNat x)) ∧ W.grownBy (W.setCell ⟨g, i.toNat, none⟩ (enc x)) (some g) := by
  have hs := h.stored i.toNat (enc x);have he : (encs enc xs).set i.toNat (enc x) = encs enc (xs.set i.toNat x) := by simp [encs, List.map_set]
  rwa [he] at hs
end
section
variable {α : Type} {P : Program} {ops : Array Oper} {rest : List Oper} {o : Oper} {a : Act} {Q : Exit → Act → World → Prop}
theorem aiZ {w0 W : World} (enc : α → Value) (d : α) (base : Nat) (hgd : o.guard = none) (s x : Operand) (t e : TypeId) (z : Value) (bytes : Nat)
    (ho : o.op = .call { callee := .builtin .append, args := #[s, x], argTypes := #[t, t] })
    (ht : P.underlying t = some (.slice e)) (hinfo : (P.info? e).map (fun i => (i.zero, i.size, i.bytes)) = some (some z, 1, bytes)) (hz : z.cells.size = 1) (hb0 : 0 < bytes) (h1 : ∀ x : α, (enc x).oneCell' = true)
    (v : Value) (xs ys : List α) (A : Option Addr) (m c : Nat) (hs : a.eval s = v) (hx : a.eval x = .slice A m c)
    (HO : W.ownsRow base e 1 v xs.length (encs enc xs)) (HR : rC enc d W A m ys) (HB : Below base w0 W) (hbase : base ≤ W.heap.size) (hl : (xs.length + m) * bytes ≤ 140737488355328)
    (h : ∀ v1 w1, w1.ownsRow base e 1 v1 (xs ++ ys).length (encs enc (xs ++ ys)) → Below base w0 w1 → W.grownBy w1 v.ownBlock → (v1.ownBlock = v.ownBlock ∨ ∃ b, v1.ownBlock = some b ∧ W.heap.size ≤ b) → wpList P ops Q rest (a.put o.dst v1) w1) :
    wpList P ops Q (o :: rest) a W := by
  obtain ⟨i0, hi, hzz⟩ := Option.map_eq_some_iff.1 hinfo;simp only [Prod.mk.injEq] at hzz;obtain ⟨hz0, hz1, hz2⟩ := hzz;have hm : ys.length = m := HR.1;have hlen : xs.length + m ≤ 140737488355328 := Nat.le_trans (Nat.le_mul_of_pos_right _ hb0) hl;have hrun : ∃ v1 w1, (Builtin.append_ #[t, t] o.type #[v, .slice A m c]).run P W = .ok v1 w1 ∧ w1.ownsRow base e 1 v1 (xs ++ ys).length (encs enc (xs ++ ys)) ∧ W.grownBy w1 v.ownBlock ∧ (v1.ownBlock = v.ownBlock ∨ v1.ownBlock = some W.heap.size) := by
    rcases A with _ | ad
    · have h0 : m = 0 := by
        rcases Nat.eq_zero_or_pos m with h0 | h0
        · exact h0
        · obtain ⟨ad, h, _⟩ := HR.2.2 h0
          cases h
      subst h0;obtain rfl : ys = [] := List.eq_nil_of_length_eq_zero hm;refine ⟨v, W, ?_, by simpa using HO, World.grownBy.refl W _, .inl rfl⟩;rcases HO.2 with ⟨rfl, hn⟩ | ⟨g, cap, cur, rfl, _, _, hnc, _⟩
      · simp [Builtin.append_, run_underlying ht, sizeOf, typeInfo, hi, Builtin.lenOf, Builtin.firstCells]
      · simp [Builtin.append_, run_underlying ht, sizeOf, typeInfo, hi, Builtin.lenOf, Builtin.firstCells, hnc, storeCells]
    · have hcells : ∀ j u, (encs enc ys)[j]? = some u → W.cell? (ad.add j) = some u := by
        intro j u hu;have hj : j < ys.length := by
          rcases Nat.lt_or_ge j ys.length with h | h
          · exact h
          · simp [encs, List.getElem?_eq_none h] at hu
        obtain ⟨G6, h', hc⟩ := HR.2.2 ag;injection h' with h'
        subst h';rw [aaf (d := d) ys j hj] at hu;rw [← hu];exact hc j ag
      obtain ⟨v1, w1, hr, h2, h3, _, h5⟩ := run_append_own_at (P := P) W base t o.type e i0 z 1 bytes ht hi hz0 hz1 hz2 hz ag v xs.length (encs enc xs) HO ad m c (encs enc ys) (by simp [encs, hm]) hcells
        (by intro u hu; simp only [encs, List.mem_map] at hu; obtain ⟨q, _, rfl⟩ := hu; exact h1 q) (by simp only [maxLen]; omega) hl hbase
      exact ⟨v1, w1, hr, by simpa [encs, hm] using h2, h3, h5⟩
  obtain ⟨v1, w1, hr, hown, hg, hat⟩ := hrun;refine wpList_plain hgd fun K hK => ?_;unfold Oper.wp execOp;simp only [ho, resolve, invoke, builtin, Sem.run_bind, Sem.run_pure, Result.andThen_ok, List.map_toArray, List.map_cons, List.map_nil, hs, hx, hr];refine hK _ _ (h v1 w1 hown (HB.grown hg hbase (xm HO)) hg ?_);rcases hat with hat | hat
  · exact .inl hat
  · exact .inr ⟨_, hat, Nat.le_refl _⟩
end

theorem bf {w : World} {g : Nat} {o : Obj} (h : w.heap[g]? = some o) (o' : Obj) : (w.alloc o').heap[g]? = some o := (Below.heap_alloc w o' g (aT h)).trans h
theorem bO {w : World} {g : Nat} {o : Obj} (h : w.heap[g]? = some o) : w.drew.heap[g]? = some o := h
theorem bd_ {w : World} {g : Nat} {o : Obj} (h : w.heap[g]? = some o) (n : Nat) : (w.drewN n).heap[g]? = some o := h
theorem eU {w w1 : World} {g : Nat} {o : Obj} (h : w.heap[g]? = some o) (hb : Below w.heap.size w w1) : w1.heap[g]? = some o := (hb.block g (aT h)).trans h
theorem ai0 (w : World) (o : Obj) : (w.alloc o).heap[w.heap.size]? = some o := heap_alloc_new w o
section
variable {P : Program}
end
theorem ai1 {w : World} {base n m c size : Nat} {e : TypeId} {A : Option Addr} {xs : List Value} (h : w.ownsRow base e size (.slice A m c) n xs) : m ≤ c := by
  rcases h.2 with ⟨he, _⟩ | ⟨g, cap, cur, he, _, _, hnc, _⟩
  · injection he with _ h2 h3
    omega
  · injection he with _ h2 h3
    omega
def nC {α : Type} (R : α → List Value → Prop) (e : TypeId) (size : Nat) (w : World) (base : Nat) (v : Value) (ps : List α) : Prop :=
  ∃ inner, w.ownsRow base e size v ps.length inner ∧ iM R size ps inner
section
variable {α : Type} {R R' : α → List Value → Prop} {e : TypeId} {size : Nat} {w w1 : World} {base : Nat} {v : Value} {ps : List α}
theorem nC.none_ (R : α → List Value → Prop) (e : TypeId) (size : Nat) (w : World) (base : Nat) : nC R e size w base (.slice none 0 0) [] := ⟨[], aiO _ _ _ _, iM.none _ _⟩
theorem nC.pq (h : nC R e size w base v ps) (hR : ∀ p c, R p c → R' p c) : nC R' e size w base v ps := by
  obtain ⟨inner, ho, hr⟩ := h;exact ⟨inner, ho, hr.pq hR⟩
theorem nC.below (h : nC R e size w base v ps) (hb : Below w.heap.size w w1) : nC R e size w1 base v ps := by
  obtain ⟨inner, ho, hr⟩ := h;exact ⟨inner, aiP ho hb, hr⟩
theorem nC.reads (h : nC R e size w base v ps) : ∃ A c, v = .slice A ps.length c ∧ ps.length ≤ c ∧ qD R size w A ps.length ps := by
  obtain ⟨inner, ho, hr⟩ := h;obtain ⟨A, c, rfl, hrow⟩ := aiT ho hr rfl;exact ⟨A, c, rfl, ai1 ho, hrow⟩
end
section
variable {P : Program} {ops : Array Oper} {rest : List Oper} {o : Oper} {a : Act} {Q : Exit → Act → World → Prop} {α : Type} {R : α → List Value → Prop}
end
section
variable {P : Program} {ops : Array Oper} {o : Oper} {a : Act} {Q : Exit → Act → World → Prop} {K : Act → World → Prop} {α : Type} {R : α → List Value → Prop}
end
theorem qD.aah {α : Type} {R : α → List Value → Prop} {size : Nat} {w : World} {ad : Addr} {n : Nat} {ps : List α} (h : qD R size w (some ad) n ps) :
    ∃ inner, iM R size ps inner ∧ ∀ j u, inner[j]? = some u → w.cell? (ad.add j) = some u := by
  have key : ∀ m, m ≤ ps.length → ∃ inner, iM R size (ps.take m) inner ∧ ∀ j u, inner[j]? = some u → w.cell? (ad.add j) = some u := by
    intro m
    induction m with
    | zero => exact fun _ => ⟨[], iM.none _ _, fun j u hu => by simp at hu⟩
    | succ m ih =>
      intro hm;obtain ⟨inner, hr, hc⟩ := ih ag;obtain ⟨G6, he, hcell⟩ := h.2.2 (by have := h.1; omega);injection he with he
      subst he;obtain ⟨c, hcl, hp, hcc⟩ := hcell m _ (List.getElem?_eq_getElem (show m < ps.length by omega));refine ⟨inner ++ c, ?_, fun j u hu => ?_⟩
      · rw [List.take_succ_eq_append_getElem (show m < ps.length by omega)]
        exact hr.snoc hp hcl
      · have hil : inner.length = m * size := by rw [hr.1, List.length_take, Nat.min_eq_left ag]
        rcases Nat.lt_or_ge j inner.length with hj | hj
        · rw [List.getElem?_append_left hj] at hu
          exact hc j u hu
        · rw [List.getElem?_append_right hj] at hu
          have := hcc (j - inner.length) u hu
          rwa [hil, Nat.add_sub_cancel' ag] at this
  obtain ⟨inner, hr, hc⟩ := key ps.length (Nat.le_refl _);rw [List.take_length] at hr;exact ⟨inner, hr, hc⟩
section
variable {α : Type} {P : Program}
theorem ai2 (enc : α → Value) (d : α) (t e : TypeId) (kl : IntKind) {i : TypeInfo} (ht : P.underlying t = some (.slice e)) (hi : P.info? e = some i) (hsz : i.size = 1) (A : Option Addr) (c : Nat) (xs : List α) (j : Int) (h0 : 0 ≤ j) (hm : j ≤ xs.length) (hc : xs.length ≤ c) :
    (∀ W : World, (Instr.slice t (.slice A xs.length c) none (some (.int kl j)) none).run P W = .ok (.slice A (xs.take j.toNat).length c) W) ∧
      (∀ w : World, rC enc d w A xs.length xs → rC enc d w A (xs.take j.toNat).length (xs.take j.toNat)) ∧ (xs.take j.toNat).length ≤ c := by
  have hl : (xs.take j.toNat).length = j.toNat := by rw [List.length_take]; omega
  refine ⟨fun W => ?_, fun w h => by rw [hl]; exact h.Tw j.toNat ag, by rw [hl]; omega⟩;have hel : P.elem t = e := by simp [Program.elem, ht]
  have hu : P.underlying t = some (.slice (P.elem t)) := by rw [hel]; exact ht
  have ha : (A.map fun x => x.add 0) = A := by cases A <;> simp [Addr.add]
  rw [run_slice_h W t A xs.length c hu kl j h0 ag, hel, hl];simp [sizeOf, typeInfo, hi, hsz, sliced, Result.andThen, ha]
end

section
variable {P : Program} {ops : Array Oper} {rest : List Oper} {o : Oper} {a : Act} {Q : Exit → Act → World → Prop}
end
structure Kd (α : Type) where
  sz : Nat
  E : List Nat
  K : World → α → List Value → Prop
  M : World → Nat → (Nat → Prop) → α → List Value → Prop
  lI : ∀ {w x cs}, K w x cs → cs.length = sz
  kC : ∀ {w x cs}, K w x cs → ∀ u ∈ cs, u.oneCell' = true
  pE : ∀ {w w1 : World} {x cs}, Below w.heap.size w w1 → K w x cs → K w1 x cs
  iN : ∀ {w base ok x cs}, M w base ok x cs → K w x cs
  gM : ∀ {w base ok ok' x cs}, (∀ k, ok k → ok' k) → M w base ok x cs → M w base ok' x cs
  mU : ∀ {w : World} {base ok x cs}, M w base ok x cs → M w base (fun k => ok k ∧ base ≤ k ∧ k < w.heap.size ∧ ∃ q, q ∈ E ∧ ∃ cells, w.heap[k]? = some (.cells cells q (0, 0))) x cs
  lJ : ∀ {w w1 : World} {base ok x cs}, (∀ k, ok k → w1.heap[k]? = w.heap[k]?) → M w base ok x cs → M w1 base ok x cs
  qF : ∀ {w base base' ok x cs}, base' ≤ base → M w base ok x cs → M w base' ok x cs

theorem yu {w w1 : World} {base : Nat} {e : TypeId} {size n : Nat} {v : Value} {xs : List Value} (h : w.ownsRow base e size v n xs) (hm : ∀ k, v.ownBlock = some k → w1.heap[k]? = w.heap[k]?) : w1.ownsRow base e size v n xs := by
  obtain ⟨h1, h2⟩ := h;refine ⟨h1, ?_⟩;rcases h2 with h2 | ⟨g, cap, cur, rfl, hg, hh, r⟩
  · exact .inl h2
  · exact .inr ⟨g, cap, cur, rfl, hg, (hm g (by simp [Value.ownBlock])).trans hh, r⟩
theorem Et {w : World} {base : Nat} {e : TypeId} {size n : Nat} {v : Value} {xs : List Value} (h : w.ownsRow base e size v n xs) (k : Nat) (hk : v.ownBlock = some k) : ∃ cells, w.heap[k]? = some (.cells cells e (0, 0)) := by
  rcases h.2 with ⟨rfl, _⟩ | ⟨g, cap, cur, rfl, hg, hh, r⟩
  · simp [Value.ownBlock] at hk
  · have : g = k := by simpa [Value.ownBlock] using hk
    subst this;exact ⟨cur, hh⟩

namespace Kd
def C {α : Type} (d : Kd α) (w : World) (A : Option Addr) (n : Nat) (xs : List α) : Prop := qD (d.K w) d.sz w A n xs
def R {α : Type} (d : Kd α) (e : Nat) (w : World) (base : Nat) (ok : Nat → Prop) (v : Value) (xs : List α) : Prop :=
  (∀ k, v.ownBlock = some k → ok k) ∧ nC (d.M w base (fun k => ok k ∧ some k ≠ v.ownBlock)) e d.sz w base v xs
section
variable {α : Type} {d : Kd α} {e : Nat} {w w1 : World} {base : Nat} {ok ok' : Nat → Prop} {v : Value} {xs : List α}
theorem aQ {A : Option Addr} {n : Nat} (h : d.C w A n xs) (hb : Below w.heap.size w w1) : d.C w1 A n xs := qD.pq h hb (fun _ _ hp => d.pE hb hp)
theorem lK (d : Kd α) (e : Nat) (w : World) (base : Nat) (ok : Nat → Prop) : d.R e w base ok (.slice none 0 0) [] := ⟨fun k hk => by simp [Value.ownBlock] at hk, nC.none_ _ _ _ _ _⟩
theorem jd (h : d.R e w base ok v xs) (hok : ∀ k, ok k → ok' k) : d.R e w base ok' v xs := ⟨fun k hk => hok k (h.1 k hk), h.2.pq (fun _ _ hp => d.gM (fun k hk => ⟨hok k hk.1, hk.2⟩) hp)⟩
theorem xn (h : d.R e w base ok v xs) : d.R e w base (fun k => ok k ∧ base ≤ k ∧ k < w.heap.size ∧ ∃ q, q ∈ e :: d.E ∧ ∃ cells, w.heap[k]? = some (.cells cells q (0, 0))) v xs := by
  obtain ⟨h0, inner, ho, hr⟩ := h;refine ⟨fun k hk => ?_, inner, ho, hr.pq (fun _ _ hp => d.gM (fun k hk => ?_) (d.mU hp))⟩
  · obtain ⟨cells, hc⟩ := Et ho k hk
    exact ⟨h0 k hk, xm ho k hk, iD ho k hk, e, List.mem_cons_self, cells, hc⟩
  · obtain ⟨⟨h1, h2⟩, h3, h4, q, hq, hc⟩ := hk
    exact ⟨⟨h1, h3, h4, q, List.mem_cons_of_mem _ hq, hc⟩, h2⟩
theorem JF (h : d.R e w base ok v xs) (hm : ∀ k, ok k → w1.heap[k]? = w.heap[k]?) : d.R e w1 base ok v xs := by
  obtain ⟨h0, inner, ho, hr⟩ := h;exact ⟨h0, inner, yu ho (fun k hk => hm k (h0 k hk)), hr.pq (fun _ _ hp => d.lJ (fun k hk => hm k hk.1) hp)⟩
theorem sj {base' : Nat} (h : d.R e w base ok v xs) (hb : base' ≤ base) : d.R e w base' ok v xs := by
  obtain ⟨h0, inner, ho, hr⟩ := h;exact ⟨h0, inner, aiU ho hb, hr.pq (fun _ _ hp => d.qF hb hp)⟩
theorem Eu (h : d.R e w base ok v xs) (hm : ∀ k, ok k → k < w.heap.size → w1.heap[k]? = w.heap[k]?) : d.R e w1 base ok v xs :=
  jd (JF (xn h) (fun k hk => hm k hk.1 hk.2.2.1)) (fun _ hk => hk.1)
theorem aai {x : α} {cs : List Value} (h : d.M w base ok x cs) (hm : ∀ k, ok k → k < w.heap.size → w1.heap[k]? = w.heap[k]?) : d.M w1 base ok x cs :=
  d.gM (fun _ hk => hk.1) (d.lJ (fun k hk => hm k hk.1 hk.2.2.1) (d.mU h))
theorem gU (h : d.R e w base ok v xs) (hb : Below w.heap.size w w1) : d.R e w1 base ok v xs := Eu h (fun k _ hk => hb.block k hk)
theorem aaj (h : d.R e w base ok v xs) {row : Option Nat} (hg : w.grownBy w1 row) (hok : ∀ k, ok k → some k ≠ row) : d.R e w1 base ok v xs := Eu h (fun k ho hk => hg.block k hk (hok k ho))
theorem Be (h : d.R e w base ok v xs) {p : Addr} (hok : ∀ k, ok k → k ≠ p.block) (u : Value) : d.R e (w.setCell p u) base ok v xs := Eu h (fun k ho _ => Below.heap_setCell w p u k (hok k ho))
theorem iO (h : d.R e w base ok v xs) : ∃ A c, v = .slice A xs.length c ∧ xs.length ≤ c ∧ d.C w A xs.length xs := by
  obtain ⟨A, c, he, hl, hr⟩ := nC.reads h.2;exact ⟨A, c, he, hl, hr.pq (Below.refl _ _) (fun _ _ hp => d.iN hp)⟩
theorem vX (h : d.R e w base ok v xs) : ∃ A c, v = .slice A xs.length c := by
  obtain ⟨A, c, he, _⟩ := iO h;exact ⟨A, c, he⟩
theorem xu (h : d.R e w base ok v xs) : ∃ inner, w.ownsRow base e d.sz v xs.length inner := by
  obtain ⟨_, inner, ho, _⟩ := h;exact ⟨inner, ho⟩
end

def scalar {α : Type} (enc : α → Value) (h1 : ∀ x, (enc x).oneCell' = true) : Kd α where
  sz := 1
  E := []
  K := fun _ x cs => cs = [enc x]
  M := fun _ _ _ x cs => cs = [enc x]
  lI := fun h => by rw [h]; rfl
  kC := fun h u hu => by
    rw [h] at hu;rw [List.mem_singleton.1 hu];exact h1 _
  pE := fun _ h => h
  iN := fun h => h
  gM := fun _ h => h
  mU := fun h => h
  lJ := fun _ h => h
  qF := fun _ h => h
def int (k : IntKind) : Kd Int := scalar (Value.int k) (fun _ => rfl)
def bool : Kd Bool := scalar Value.bool (fun _ => rfl)
def slice {α : Type} (e : Nat) (d : Kd α) : Kd (List α) where
  sz := 1
  E := e :: d.E
  K := fun w xs cs => ∃ A c, cs = [.slice A xs.length c] ∧ xs.length ≤ c ∧ d.C w A xs.length xs
  M := fun w base ok xs cs => ∃ v, cs = [v] ∧ d.R e w base ok v xs
  lI := by
    rintro w x cs ⟨A, c, rfl, _⟩;rfl
  kC := by
    rintro w x cs ⟨A, c, rfl, _⟩ u hu;rw [List.mem_singleton.1 hu];rfl
  pE := by
    rintro w w1 x cs hb ⟨A, c, rfl, hl, hr⟩;exact ⟨A, c, rfl, hl, aQ hr hb⟩
  iN := by
    rintro w base ok x cs ⟨v, rfl, h⟩;obtain ⟨A, c, rfl, hl, hr⟩ := iO h;exact ⟨A, c, rfl, hl, hr⟩
  gM := by
    rintro w base ok ok' x cs hok ⟨v, rfl, h⟩;exact ⟨v, rfl, jd h hok⟩
  mU := by
    rintro w base ok x cs ⟨v, rfl, h⟩;exact ⟨v, rfl, xn h⟩
  lJ := by
    rintro w w1 base ok x cs hm ⟨v, rfl, h⟩;exact ⟨v, rfl, JF h hm⟩
  qF := by
    rintro w base base' ok x cs hb ⟨v, rfl, h⟩;exact ⟨v, rfl, sj h hb⟩
def pair {α β : Type} (a : Kd α) (b : Kd β) : Kd (α × β) where
  sz := a.sz + b.sz
  E := a.E ++ b.E
  K := fun w x cs => ∃ c0 c1, cs = c0 ++ c1 ∧ a.K w x.1 c0 ∧ b.K w x.2 c1
  M := fun w base ok x cs => ∃ c0 c1, cs = c0 ++ c1 ∧ a.M w base ok x.1 c0 ∧ b.M w base ok x.2 c1
  lI := by
    rintro w x cs ⟨c0, c1, rfl, h0, h1⟩;rw [List.length_append, a.lI h0, b.lI h1]
  kC := by
    rintro w x cs ⟨c0, c1, rfl, h0, h1⟩ u hu;rcases List.mem_append.1 hu with hu | hu
    · exact a.kC h0 u hu
    · exact b.kC h1 u hu
  pE := by
    rintro w w1 x cs hb ⟨c0, c1, rfl, h0, h1⟩;exact ⟨c0, c1, rfl, a.pE hb h0, b.pE hb h1⟩
  iN := by
    rintro w base ok x cs ⟨c0, c1, rfl, h0, h1⟩;exact ⟨c0, c1, rfl, a.iN h0, b.iN h1⟩
  gM := by
    rintro w base ok ok' x cs hok ⟨c0, c1, rfl, h0, h1⟩;exact ⟨c0, c1, rfl, a.gM hok h0, b.gM hok h1⟩
  mU := by
    rintro w base ok x cs ⟨c0, c1, rfl, h0, h1⟩;refine ⟨c0, c1, rfl, a.gM ?_ (a.mU h0), b.gM ?_ (b.mU h1)⟩
    · rintro k ⟨h2, h3, h4, q, hq, hc⟩
      exact ⟨h2, h3, h4, q, List.mem_append_left _ hq, hc⟩
    · rintro k ⟨h2, h3, h4, q, hq, hc⟩
      exact ⟨h2, h3, h4, q, List.mem_append_right _ hq, hc⟩
  lJ := by
    rintro w w1 base ok x cs hm ⟨c0, c1, rfl, h0, h1⟩;exact ⟨c0, c1, rfl, a.lJ hm h0, b.lJ hm h1⟩
  qF := by
    rintro w base base' ok x cs hb ⟨c0, c1, rfl, h0, h1⟩;exact ⟨c0, c1, rfl, a.qF hb h0, b.qF hb h1⟩
def G7 {α β : Type} (d : Kd α) (f : β → α) : Kd β where
  sz := d.sz
  E := d.E
  K := fun w x cs => d.K w (f x) cs
  M := fun w base ok x cs => d.M w base ok (f x) cs
  lI := d.lI
  kC := d.kC
  pE := d.pE
  iN := d.iN
  gM := d.gM
  mU := d.mU
  lJ := d.lJ
  qF := d.qF
def bot {α : Type} (sz : Nat) (E : List Nat) : Kd α where
  sz := sz
  E := E
  K := fun _ _ _ => False
  M := fun _ _ _ _ _ => False
  lI := fun h => h.elim
  kC := fun h => h.elim
  pE := fun _ h => h
  iN := fun h => h
  gM := fun _ h => h
  mU := fun h => h
  lJ := fun _ h => h
  qF := fun _ h => h
def upto {α : Type} (F : Kd α → Kd α) (sz : Nat) (E : List Nat) : Nat → Kd α
  | 0 => bot sz E
  | n + 1 => F (upto F sz E n)
def fix {α : Type} (F : Kd α → Kd α) (sz : Nat) (E : List Nat) (hs : ∀ n, (upto F sz E n).sz = sz) (hE : ∀ n q, q ∈ (upto F sz E n).E → q ∈ E) : Kd α where
  sz := sz
  E := E
  K := fun w x cs => ∃ n, (upto F sz E n).K w x cs
  M := fun w base ok x cs => ∃ n, (upto F sz E n).M w base ok x cs
  lI := by
    rintro w x cs ⟨n, h⟩;rw [(upto F sz E n).lI h, hs n]
  kC := by
    rintro w x cs ⟨n, h⟩;exact (upto F sz E n).kC h
  pE := by
    rintro w w1 x cs hb ⟨n, h⟩;exact ⟨n, (upto F sz E n).pE hb h⟩
  iN := by
    rintro w base ok x cs ⟨n, h⟩;exact ⟨n, (upto F sz E n).iN h⟩
  gM := by
    rintro w base ok ok' x cs hok ⟨n, h⟩;exact ⟨n, (upto F sz E n).gM hok h⟩
  mU := by
    rintro w base ok x cs ⟨n, h⟩;refine ⟨n, (upto F sz E n).gM ?_ ((upto F sz E n).mU h)⟩;rintro k ⟨h2, h3, h4, q, hq, hc⟩;exact ⟨h2, h3, h4, q, hE n q hq, hc⟩
  lJ := by
    rintro w w1 base ok x cs hm ⟨n, h⟩;exact ⟨n, (upto F sz E n).lJ hm h⟩
  qF := by
    rintro w base base' ok x cs hb ⟨n, h⟩;exact ⟨n, (upto F sz E n).qF hb h⟩

theorem CE {α : Type} {d : Kd α} {w : World} {A : Option Addr} {n : Nat} {xs : List α} (h : d.C w A n xs) (z : α) (i : Int) (h0 : 0 ≤ i) (h1 : i < n) :
    ∃ ad c, A = some ad ∧ c.length = d.sz ∧ d.K w (xs.getD i.toNat z) c ∧ ∀ j u, c[j]? = some u → w.cell? (ad.add (i.toNat * d.sz + j)) = some u := qD.aiS h z i h0 h1
theorem aak {α : Type} {d : Kd α} {e base : Nat} {ok okp : Nat → Prop} {W w1 : World} {v v1 : Value} {xs : List α} {p : α} {inner cs : List Value} (h0 : ∀ k, v.ownBlock = some k → ok k) (hr : iM (d.M W base (fun k => ok k ∧ some k ≠ v.ownBlock)) d.sz xs inner) (hp : d.M W base okp p cs) (mE : ∀ k, okp k → ok k ∧ some k ≠ v.ownBlock) (hfresh : ∀ k, W.heap.size ≤ k → ok k)
    (hown : w1.ownsRow base e d.sz v1 (xs.length + 1) (inner ++ cs)) (hg : W.grownBy w1 v.ownBlock) (hat : v1.ownBlock = v.ownBlock ∨ ∃ b, v1.ownBlock = some b ∧ W.heap.size ≤ b) : d.R e w1 base ok v1 (xs ++ [p]) := by
  have hne : ∀ k, some k ≠ v.ownBlock → k < W.heap.size → some k ≠ v1.ownBlock := by
    intro k hk hlt;rcases hat with hat | ⟨b, hb, hle⟩
    · rw [hat]; exact hk
    · rw [hb]
      intro he;injection he with he
      omega
  have step : ∀ {q : α} {c : List Value} {o : Nat → Prop}, d.M W base o q c → (∀ k, o k → ok k ∧ some k ≠ v.ownBlock) → d.M w1 base (fun k => ok k ∧ some k ≠ v1.ownBlock) q c := by
    intro q c o hq ho;have h1 := d.lJ (w1 := w1) (fun k hk => hg.block k hk.2.2.1 (ho k hk.1).2) (d.mU hq);exact d.gM (fun k hk => ⟨(ho k hk.1).1, hne k (ho k hk.1).2 hk.2.2.1⟩) h1
  refine ⟨fun k hk => ?_, inner ++ cs, by rw [List.length_append, List.length_singleton]; exact hown, ?_⟩
  · rcases hat with hat | ⟨b, hb, hle⟩
    · exact h0 k (hat ▸ hk)
    · rw [hb] at hk
      injection hk with hk
      exact hfresh k ag
  · exact (hr.pq (fun _ _ hq => step hq (fun _ hk => hk))).snoc (step hp mE) (d.lI (d.iN hp))
section
variable {P : Program} {ops : Array Oper} {rest : List Oper} {o : Oper} {a : Act} {Q : Exit → Act → World → Prop} {α : Type}
theorem xw (d : Kd α) {w0 W : World} (base : Nat) (hgd : o.guard = none) (s x : Operand) (t e : TypeId) (z : Value) (bytes : Nat)
    (ho : o.op = .call { callee := .builtin .append, args := #[s, x], argTypes := #[t, t] })
    (ht : P.underlying t = some (.slice e)) (hinfo : (P.info? e).map (fun i => (i.zero, i.size, i.bytes)) = some (some z, d.sz, bytes)) (hz : z.cells.size = d.sz) (hs0 : 0 < d.sz) (hb0 : 0 < bytes)
    (v : Value) (xs : List α) (p : α) (cs : List Value) (ok okp : Nat → Prop) (hs : a.eval s = v) (hx : a.eval x = .slice (some ⟨W.heap.size, 0, none⟩) 1 1) (hp : d.M W base okp p cs) (mE : ∀ k, okp k → ok k ∧ some k ≠ v.ownBlock) (hfresh : ∀ k, W.heap.size ≤ k → ok k)
    (HO : d.R e W base ok v xs) (HB : Below base w0 W) (hbase : base ≤ W.heap.size) (hl : (xs.length + 1) * bytes ≤ 140737488355328)
    (h : ∀ v1 w1, d.R e w1 base ok v1 (xs ++ [p]) → Below base w0 w1 → W.grownBy w1 v.ownBlock → (v1.ownBlock = v.ownBlock ∨ ∃ b, v1.ownBlock = some b ∧ W.heap.size ≤ b) → wpList P ops Q rest (a.put o.dst v1) w1) :
    wpList P ops Q (o :: rest) a (W.alloc (.cells cs.toArray e)) := by
  obtain ⟨h0, inner, hown, hr⟩ := HO;refine aac base hgd s x t e z d.sz bytes ho ht hinfo hz hs0 hb0 v xs.length inner cs hs hx (d.lI (d.iN hp)) (d.kC (d.iN hp)) hown HB hbase hl ?_;intro v1 w1 hown1 hb1 hg1 Ew;exact h v1 w1 (aak h0 hr hp mE hfresh hown1 hg1 Ew) hb1 hg1 Ew
end
section
variable {P : Program} {ops : Array Oper} {o : Oper} {a : Act} {Q : Exit → Act → World → Prop} {Kc : Act → World → Prop} {α : Type}
theorem Ty (d : Kd α) {w0 W : World} (base : Nat) (hw : Region.wanted o (yielded ops a.tmps) = true) (s x : Operand) (t e : TypeId) (z : Value) (bytes : Nat)
    (ho : o.op = .call { callee := .builtin .append, args := #[s, x], argTypes := #[t, t] })
    (ht : P.underlying t = some (.slice e)) (hinfo : (P.info? e).map (fun i => (i.zero, i.size, i.bytes)) = some (some z, d.sz, bytes)) (hz : z.cells.size = d.sz) (hs0 : 0 < d.sz) (hb0 : 0 < bytes)
    (v : Value) (xs : List α) (p : α) (cs : List Value) (ok okp : Nat → Prop) (hs : a.eval s = v) (hx : a.eval x = .slice (some ⟨W.heap.size, 0, none⟩) 1 1) (hp : d.M W base okp p cs) (mE : ∀ k, okp k → ok k ∧ some k ≠ v.ownBlock) (hfresh : ∀ k, W.heap.size ≤ k → ok k)
    (HO : d.R e W base ok v xs) (HB : Below base w0 W) (hbase : base ≤ W.heap.size) (hl : (xs.length + 1) * bytes ≤ 140737488355328)
    (h : ∀ v1 w1, d.R e w1 base ok v1 (xs ++ [p]) → Below base w0 w1 → W.grownBy w1 v.ownBlock → (v1.ownBlock = v.ownBlock ∨ ∃ b, v1.ownBlock = some b ∧ W.heap.size ≤ b) → Kc (a.put o.dst v1) w1) :
    if Region.wanted o (yielded ops a.tmps) = true then Oper.wp P o a (W.alloc (.cells cs.toArray e)) Kc Q else Kc (a.put o.dst undef) (W.alloc (.cells cs.toArray e)) := by
  obtain ⟨h0, inner, hown, hr⟩ := HO;refine aad base hw s x t e z d.sz bytes ho ht hinfo hz hs0 hb0 v xs.length inner cs hs hx (d.lI (d.iN hp)) (d.kC (d.iN hp)) hown HB hbase hl ?_;intro v1 w1 hown1 hb1 hg1 Ew;exact h v1 w1 (aak h0 hr hp mE hfresh hown1 hg1 Ew) hb1 hg1 Ew
end
theorem ai3 {α : Type} {enc : α → Value} (xs : List α) : iM (fun (x : α) (cs : List Value) => cs = [enc x]) 1 xs (encs enc xs) := by
  refine ⟨by simp [encs], fun j p hj => ?_⟩;obtain ⟨hl, hp⟩ := List.getElem?_eq_some_iff.1 hj;have hl' : j < (encs enc xs).length := by rw [aae]; exact hl
  rw [Nat.mul_one, List.drop_eq_getElem_cons hl'];simp [encs, hp]
theorem vY {α : Type} {enc : α → Value} {h1 : ∀ x, (enc x).oneCell' = true} {e : Nat} {w : World} {base : Nat} {ok : Nat → Prop} {v : Value} {xs : List α} (ho : w.ownsRow base e 1 v xs.length (encs enc xs)) (hok : ∀ k, v.ownBlock = some k → ok k) : (scalar enc h1).R e w base ok v xs := ⟨hok, encs enc xs, ho, ai3 xs⟩
theorem JG {α : Type} {enc : α → Value} {h1 : ∀ x, (enc x).oneCell' = true} {e : Nat} {w : World} {base : Nat} {ok : Nat → Prop} {v : Value} {xs : List α} (h : (scalar enc h1).R e w base ok v xs) : w.ownsRow base e 1 v xs.length (encs enc xs) := by
  obtain ⟨_, inner, ho, hr⟩ := h;have : inner = encs enc xs := by
    apply List.ext_getElem?
    intro j;rcases Nat.lt_or_ge j xs.length with hj | hj
    · have h2 := hr.2 j _ (List.getElem?_eq_getElem hj)
      have hl : j < inner.length := by have := hr.1; simp [scalar] at this; omega
      have h3 : (inner.drop (j * 1)).take 1 = [enc xs[j]] := h2;rw [Nat.mul_one, List.drop_eq_getElem_cons hl] at h3;have h4 : inner[j] = enc xs[j] := by
        have h5 := congrArg List.head? h3;rw [List.take_succ_cons] at h5;exact Option.some.inj h5
      rw [List.getElem?_eq_getElem hl, h4];simp [encs, List.getElem?_eq_getElem hj]
    · have h3 : inner.length = xs.length := by have := hr.1; simp [scalar] at this; omega
      rw [List.getElem?_eq_none ag, List.getElem?_eq_none (by rw [aae]; omega)]
  rw [← this];exact ho
theorem JH {α : Type} {enc : α → Value} {d : α} {h1 : ∀ x, (enc x).oneCell' = true} {w : World} {A : Option Addr} {n : Nat} {xs : List α} (h : rC enc d w A n xs) : (scalar enc h1).C w A n xs := by
  refine ⟨h.1, h.2.1, fun hn => ?_⟩;obtain ⟨ad, e, hc⟩ := h.2.2 hn;refine ⟨ad, e, fun j p hj => ⟨[enc p], rfl, rfl, fun i u hu => ?_⟩⟩;obtain ⟨hl, hp⟩ := List.getElem?_eq_some_iff.1 hj;have h2 := hc j (by have := h.1; omega);rw [List.getD_eq_getElem?_getD, hj] at h2;cases i with
  | zero =>
    have : enc p = u := by simpa using hu
    subst this;simpa [scalar] using h2
  | succ i => simp at hu
theorem yw {α : Type} {enc : α → Value} {d : α} {h1 : ∀ x, (enc x).oneCell' = true} {w : World} {A : Option Addr} {n : Nat} {xs : List α} (h : (scalar enc h1).C w A n xs) : rC enc d w A n xs := by
  refine ⟨h.1, h.2.1, fun hn => ?_⟩;obtain ⟨ad, e, hc⟩ := h.2.2 hn;refine ⟨ad, e, fun j hj => ?_⟩;have hl : j < xs.length := by have := h.1; omega
  obtain ⟨c, _, hK, hcell⟩ := hc j _ (List.getElem?_eq_getElem hl);have hK' : c = [enc xs[j]] := hK;subst hK';have := hcell 0 _ rfl;simpa [scalar, List.getD_eq_getElem?_getD, List.getElem?_eq_getElem hl] using this
end Kd
namespace Kd
structure qG {α β : Type} (F : Kd α → Kd β) : Prop where
  sz : ∀ d d' : Kd α, d.sz = d'.sz → (F d).sz = (F d').sz
  K : ∀ d d' : Kd α, d.sz = d'.sz → (∀ w x cs, d.K w x cs → d'.K w x cs) → ∀ w x cs, (F d).K w x cs → (F d').K w x cs
  M : ∀ d d' : Kd α, d.sz = d'.sz → (∀ w base ok x cs, d.M w base ok x cs → d'.M w base ok x cs) → ∀ w base ok x cs, (F d).M w base ok x cs → (F d').M w base ok x cs
theorem Tz {α β : Type} (k : Kd β) : qG (fun _ : Kd α => k) := ⟨fun _ _ _ => rfl, fun _ _ _ _ _ _ _ h => h, fun _ _ _ _ _ _ _ _ _ h => h⟩
theorem ai4 {α : Type} : qG (fun d : Kd α => d) := ⟨fun _ _ h => h, fun _ _ _ h => h, fun _ _ _ h => h⟩
theorem TA {α : Type} {d d' : Kd α} (hs : d.sz = d'.sz) (h : ∀ w x cs, d.K w x cs → d'.K w x cs) {w : World} {A : Option Addr} {n : Nat} {xs : List α} (hc : d.C w A n xs) : d'.C w A n xs := by
  unfold C at hc ⊢;rw [← hs];exact hc.pq (Below.refl _ _) (fun _ _ hp => h _ _ _ hp)
theorem aal {α : Type} {d d' : Kd α} (hs : d.sz = d'.sz) (h : ∀ w base ok x cs, d.M w base ok x cs → d'.M w base ok x cs) {e : Nat} {w : World} {base : Nat} {ok : Nat → Prop} {v : Value} {xs : List α} (hr : d.R e w base ok v xs) : d'.R e w base ok v xs := by
  unfold R at hr ⊢;rw [← hs];exact ⟨hr.1, hr.2.pq (fun _ _ hp => h _ _ _ _ _ hp)⟩
theorem ai5 {α β : Type} (e : Nat) {G : Kd α → Kd β} (hG : qG G) : qG (fun d => slice e (G d)) := by
  refine ⟨fun _ _ _ => rfl, ?_, ?_⟩
  · rintro d d' hs h w x cs ⟨A, c, rfl, hl, hr⟩
    exact ⟨A, c, rfl, hl, TA (hG.sz d d' hs) (hG.K d d' hs h) hr⟩
  · rintro d d' hs h w base ok x cs ⟨v, rfl, hr⟩
    exact ⟨v, rfl, aal (hG.sz d d' hs) (hG.M d d' hs h) hr⟩
theorem aam {α β γ : Type} {G : Kd α → Kd β} {H : Kd α → Kd γ} (hG : qG G) (hH : qG H) : qG (fun d => pair (G d) (H d)) := by
  refine ⟨fun d d' hs => ?_, ?_, ?_⟩
  · show (G d).sz + (H d).sz = (G d').sz + (H d').sz
    rw [hG.sz d d' hs, hH.sz d d' hs]
  · rintro d d' hs h w x cs ⟨c0, c1, rfl, h0, h1⟩
    exact ⟨c0, c1, rfl, hG.K d d' hs h _ _ _ h0, hH.K d d' hs h _ _ _ h1⟩
  · rintro d d' hs h w base ok x cs ⟨c0, c1, rfl, h0, h1⟩
    exact ⟨c0, c1, rfl, hG.M d d' hs h _ _ _ _ _ h0, hH.M d d' hs h _ _ _ _ _ h1⟩
theorem ai6 {α β γ : Type} {G : Kd α → Kd β} (f : γ → β) (hG : qG G) : qG (fun d => G7 (G d) f) :=
  ⟨hG.sz, fun d d' hs h w x cs => hG.K d d' hs h w (f x) cs, fun d d' hs h w base ok x cs => hG.M d d' hs h w base ok (f x) cs⟩
def Sub {α β : Type} (F : Kd α → Kd β) (E : List Nat) : Prop := ∀ d : Kd α, (∀ q, q ∈ d.E → q ∈ E) → ∀ q, q ∈ (F d).E → q ∈ E
theorem sub_const {α β : Type} {E : List Nat} (k : Kd β) (h : ∀ q, q ∈ k.E → q ∈ E) : Sub (fun _ : Kd α => k) E := fun _ _ => h
theorem ai7 {α : Type} {E : List Nat} : Sub (fun d : Kd α => d) E := fun _ h => h
theorem ai8 {α β : Type} {E : List Nat} (e : Nat) {G : Kd α → Kd β} (he : e ∈ E) (hG : Sub G E) : Sub (fun d => slice e (G d)) E := fun d h q hq => by
  rcases List.mem_cons.1 hq with rfl | hq
  · exact he
  · exact hG d h q hq
theorem aan {α β γ : Type} {E : List Nat} {G : Kd α → Kd β} {H : Kd α → Kd γ} (hG : Sub G E) (hH : Sub H E) : Sub (fun d => pair (G d) (H d)) E := fun d h q hq => by
  rcases List.mem_append.1 hq with hq | hq
  · exact hG d h q hq
  · exact hH d h q hq
theorem ai9 {α β γ : Type} {E : List Nat} {G : Kd α → Kd β} (f : γ → β) (hG : Sub G E) : Sub (fun d => G7 (G d) f) E := hG
theorem aao {α : Type} {F : Kd α → Kd α} {sz : Nat} {E : List Nat} (h : Sub F E) : ∀ n q, q ∈ (upto F sz E n).E → q ∈ E
  | 0, _, hq => hq
  | n + 1, q, hq => h _ (aao h n) q hq
theorem ai_ {α : Type} {F : Kd α → Kd α} {sz : Nat} {E : List Nat} (h : ∀ d : Kd α, (F d).sz = sz) : ∀ n, (upto F sz E n).sz = sz
  | 0 => rfl
  | _ + 1 => h _
section
variable {α : Type} {F : Kd α → Kd α} {sz : Nat} {E : List Nat} {hs : ∀ n, (upto F sz E n).sz = sz} {hE : ∀ n q, q ∈ (upto F sz E n).E → q ∈ E}
theorem aap (hm : qG F) (hs : ∀ n, (upto F sz E n).sz = sz) : ∀ n {w x cs}, (upto F sz E n).K w x cs → (upto F sz E (n + 1)).K w x cs
  | 0, _, _, _, h => h.elim
  | n + 1, _, _, _, h => hm.K _ _ (by rw [hs n, hs (n + 1)]) (fun _ _ _ hk => aap hm hs n hk) _ _ _ h
theorem aaq (hm : qG F) (hs : ∀ n, (upto F sz E n).sz = sz) : ∀ n {w base ok x cs}, (upto F sz E n).M w base ok x cs → (upto F sz E (n + 1)).M w base ok x cs
  | 0, _, _, _, _, _, h => h.elim
  | n + 1, _, _, _, _, _, h => hm.M _ _ (by rw [hs n, hs (n + 1)]) (fun _ _ _ _ _ hk => aaq hm hs n hk) _ _ _ _ _ h
theorem aar (hm : qG F) (hs : ∀ n, (upto F sz E n).sz = sz) {n m : Nat} (hnm : n ≤ m) {w x cs} (h : (upto F sz E n).K w x cs) : (upto F sz E m).K w x cs := by
  obtain ⟨j, rfl⟩ := Nat.exists_eq_add_of_le hnm
  induction j with
  | zero => exact h
  | succ j ih => exact aap hm hs _ (ih ag)
theorem aas (hm : qG F) (hs : ∀ n, (upto F sz E n).sz = sz) {n m : Nat} (hnm : n ≤ m) {w base ok x cs} (h : (upto F sz E n).M w base ok x cs) : (upto F sz E m).M w base ok x cs := by
  obtain ⟨j, rfl⟩ := Nat.exists_eq_add_of_le hnm
  induction j with
  | zero => exact h
  | succ j ih => exact aaq hm hs _ (ih ag)
theorem aja {n : Nat} {w : World} {A : Option Addr} {m : Nat} {xs : List α} (h : (upto F sz E n).C w A m xs) : (fix F sz E hs hE).C w A m xs := TA (d' := fix F sz E hs hE) (hs n) (fun w x cs hp => (⟨n, hp⟩ : ∃ n, (upto F sz E n).K w x cs)) h
theorem bounded {P : Nat → Nat → Prop} (hP : ∀ n m j, n ≤ m → P n j → P m j) : ∀ m, (∀ j, j < m → ∃ n, P n j) → ∃ N, ∀ j, j < m → P N j
  | 0, _ => ⟨0, fun j hj => absurd hj (Nat.not_lt_zero j)⟩
  | m + 1, h => by
    obtain ⟨N, hN⟩ := bounded hP m (fun j hj => h j ag);obtain ⟨n, hn⟩ := h m ag;refine ⟨max N n, fun j hj => ?_⟩;rcases Nat.lt_or_ge j m with hj' | hj'
    · exact hP N _ j (Nat.le_max_left _ _) (hN j hj')
    · have : j = m := by omega
      subst this;exact hP n _ j (Nat.le_max_right _ _) hn
theorem ajb {α : Type} {R : Nat → α → List Value → Prop} (hR : ∀ n m p c, n ≤ m → R n p c → R m p c) {size : Nat} {ps : List α} {cs : List Value} (h : iM (fun p c => ∃ n, R n p c) size ps cs) : ∃ N, iM (R N) size ps cs := by
  obtain ⟨N, hN⟩ := bounded (P := fun n j => ∀ p, ps[j]? = some p → R n p ((cs.drop (j * size)).take size)) (fun n m j hnm hp p hj => hR n m p _ hnm (hp p hj)) ps.length
    (fun j hj => by
      obtain ⟨n, hn⟩ := h.2 j _ (List.getElem?_eq_getElem hj);refine ⟨n, fun p hp => ?_⟩;rw [List.getElem?_eq_getElem hj] at hp;injection hp with hp
      rw [← hp];exact hn)
  exact ⟨N, h.1, fun j p hj => hN j (List.getElem?_eq_some_iff.1 hj).1 p hj⟩
theorem ajc (hm : qG F) {e : Nat} {w : World} {base : Nat} {ok : Nat → Prop} {v : Value} {xs : List α} (h : (fix F sz E hs hE).R e w base ok v xs) : ∃ n, (upto F sz E n).R e w base ok v xs := by
  obtain ⟨h0, inner, ho, hr⟩ := h;obtain ⟨N, hN⟩ := ajb (R := fun n p c => (upto F sz E n).M w base (fun k => ok k ∧ some k ≠ v.ownBlock) p c) (fun n m p c hnm hp => aas hm hs hnm hp) hr;refine ⟨N, h0, inner, ?_, ?_⟩
  · rw [hs N]; exact ho
  · rw [hs N]; exact hN
theorem ajd (hm : qG F) {w : World} {A : Option Addr} {m : Nat} {xs : List α} (h : (fix F sz E hs hE).C w A m xs) : ∃ n, (upto F sz E n).C w A m xs := by
  rcases Nat.eq_zero_or_pos m with hz | hpos
  · subst hz
    exact ⟨0, h.1, h.2.1, fun hp => absurd hp (Nat.lt_irrefl 0)⟩
  · obtain ⟨ad, e, hc⟩ := h.2.2 hpos
    obtain ⟨N, hN⟩ := bounded (P := fun n j => ∀ p, xs[j]? = some p → ∃ c, c.length = sz ∧ (upto F sz E n).K w p c ∧ ∀ i u, c[i]? = some u → w.cell? (ad.add (j * sz + i)) = some u)
      (fun n n' j hnm hp p hj => by
        obtain ⟨c, h1, h2, h3⟩ := hp p hj;exact ⟨c, h1, aar hm hs hnm h2, h3⟩) xs.length
      (fun j hj => by
        obtain ⟨c, h1, ⟨n, h2⟩, h3⟩ := hc j _ (List.getElem?_eq_getElem hj);refine ⟨n, fun p hp => ?_⟩;rw [List.getElem?_eq_getElem hj] at hp;injection hp with hp
        rw [← hp];exact ⟨c, h1, h2, h3⟩)
    refine ⟨N, h.1, h.2.1, fun _ => ⟨ad, e, fun j p hj => ?_⟩⟩;rw [hs N];exact hN j (List.getElem?_eq_some_iff.1 hj).1 p hj
theorem aje (hm : qG F) (hs : ∀ n, (upto F sz E n).sz = sz) {n m : Nat} (hnm : n ≤ m) {e : Nat} {w : World} {base : Nat} {ok : Nat → Prop} {v : Value} {xs : List α} (h : (upto F sz E n).R e w base ok v xs) : (upto F sz E m).R e w base ok v xs := aal (by rw [hs n, hs m]) (fun _ _ _ _ _ hp => aas hm hs hnm hp) h
theorem ajf (hm : qG F) (hs : ∀ n, (upto F sz E n).sz = sz) {n m : Nat} (hnm : n ≤ m) {w : World} {A : Option Addr} {l : Nat} {xs : List α} (h : (upto F sz E n).C w A l xs) : (upto F sz E m).C w A l xs := TA (by rw [hs n, hs m]) (fun _ _ _ hp => aar hm hs hnm hp) h
end
end Kd
namespace Kd
theorem ajg {α : Type} {d : Kd α} {e base : Nat} {ok : Nat → Prop} {W w1 : World} {u v v1 : Value} {xs : List α} (h : d.R e W base (fun k => ok k ∧ some k ≠ v.ownBlock) u xs) (hg : W.grownBy w1 v.ownBlock) (hat : v1.ownBlock = v.ownBlock ∨ ∃ b, v1.ownBlock = some b ∧ W.heap.size ≤ b) : d.R e w1 base (fun k => ok k ∧ some k ≠ v1.ownBlock) u xs := by
  refine jd (JF (xn h) (fun k hk => hg.block k hk.2.2.1 hk.1.2)) (fun k hk => ⟨hk.1.1, ?_⟩);rcases hat with hat | ⟨b, hb, hle⟩
  · rw [hat]; exact hk.1.2
  · rw [hb]
    intro he;injection he with he
    have := hk.2.2.1;omega
end Kd
namespace Kd
section
variable {α β : Type} {d : Kd α} {d' : Kd β} {e e' : Nat} {w w1 W : World} {base b b' : Nat} {ok ok' okv oku : Nat → Prop} {v u : Value} {xs : List α} {ys : List β}
theorem qH (h : d.R e w base ok v xs) (o : Obj) : d.R e (w.alloc o) base ok v xs := gU h (aW (Below.refl _ _) o)
theorem qI (h : d.R e w base ok v xs) : d.R e w.drew base ok v xs := gU h (Tp (Below.refl _ _))
theorem rD (h : d.R e w base ok v xs) (m : Nat) : d.R e (w.drewN m) base ok v xs := gU h (fB (Below.refl _ _) m)
theorem Bf {A : Option Addr} {n : Nat} (h : d.C w A n xs) (o : Obj) : d.C (w.alloc o) A n xs := aQ h (aW (Below.refl _ _) o)
theorem JI {A : Option Addr} {n : Nat} (h : d.C w A n xs) : d.C w.drew A n xs := aQ h (Tp (Below.refl _ _))
theorem ajh {A : Option Addr} {n : Nat} (h : d.C w A n xs) (m : Nat) : d.C (w.drewN m) A n xs := aQ h (fB (Below.refl _ _) m)
theorem aat (d : Kd α) (w : World) : d.C w none ([] : List α).length [] := ⟨rfl, by simp, fun h => absurd h (Nat.lt_irrefl 0)⟩
theorem pG {A : Option Addr} {n : Nat} (h : d.C w A n xs) : n ≤ 9223372036854775807 := h.2.1
theorem pI {A : Option Addr} {n c : Nat} (h : d.R e w base ok (.slice A n c) xs) : n = xs.length ∧ n ≤ c ∧ d.C w A xs.length xs := by
  obtain ⟨A', c', he, hl, hr⟩ := iO h;injection he with h1 h2 h3
  subst h1;exact ⟨h2, by omega, hr⟩
theorem aau (h : d.R e w base ok v xs) : ∀ k, v.ownBlock = some k → k < w.heap.size := by
  obtain ⟨inner, ho⟩ := xu h;exact iD ho
theorem TB (h : d.R e w base ok v xs) : ∀ k, v.ownBlock = some k → base ≤ k := by
  obtain ⟨inner, ho⟩ := xu h;exact xm ho
theorem NM (h : d.R e w base ok v xs) {g : Nat} (hok : ∀ k, ok k → k ≠ g) : some g ≠ v.ownBlock := fun e => hok g (h.1 g e.symm) rfl
theorem aji (h : d.R e w base ok v xs) (hp : 0 < xs.length) : ∃ g cap, v = .slice (some ⟨g, 0, none⟩) xs.length cap ∧ base ≤ g ∧ g < w.heap.size ∧ ∃ cells, w.heap[g]? = some (.cells cells e (0, 0)) := by
  obtain ⟨inner, ho⟩ := xu h;obtain ⟨g, cap, he, hb, hl⟩ := ho.form hp;obtain ⟨cells, hc⟩ := Et ho g (by rw [he]; simp [Value.ownBlock]);exact ⟨g, cap, he, hb, hl, cells, hc⟩
end
section
variable {w W : World} {A : Option Addr} {n : Nat}
theorem xx {k : IntKind} {xs : List Int} (h : (Kd.int k).C w A n xs) (i : Int) (h0 : 0 ≤ i) (h1 : i < n) : ∃ ad, A = some ad ∧ w.cell? (ad.add i.toNat) = some (.int k (rd xs i)) :=
  rC.at_ (yw (enc := Value.int k) (d := (0 : Int)) (h1 := fun _ => rfl) h) i h0 h1
theorem TC {xs : List Bool} (h : Kd.bool.C w A n xs) (i : Int) (h0 : 0 ≤ i) (h1 : i < n) : ∃ ad, A = some ad ∧ w.cell? (ad.add i.toNat) = some (.bool (qE false xs i)) :=
  rC.at_ (yw (enc := Value.bool) (d := false) (h1 := fun _ => rfl) h) i h0 h1
variable {α : Type} {enc : α → Value} {h1 : ∀ x, (enc x).oneCell' = true} {e base g cap : Nat} {ok : Nat → Prop} {xs : List α}
theorem ajj (d : α) (h : (scalar enc h1).R e W base ok (.slice (some ⟨g, 0, none⟩) xs.length cap) xs) (i : Int) (h0 : 0 ≤ i) (hi : i < xs.length) : W.cell? ⟨g, i.toNat, none⟩ = some (enc (qE d xs i)) ∧ W.frozen? ⟨g, i.toNat, none⟩ = false := aiX (JG h) i h0 hi
theorem ajk (h : (scalar enc h1).R e W base ok (.slice (some ⟨g, 0, none⟩) xs.length cap) xs) (i : Int) (x : α) : (scalar enc h1).R e (W.setCell ⟨g, i.toNat, none⟩ (enc x)) base ok (.slice (some ⟨g, 0, none⟩) xs.length cap) (xs.set i.toNat x) ∧ W.grownBy (W.setCell ⟨g, i.toNat, none⟩ (enc x)) (some g) := by
  obtain ⟨ho, hg⟩ := aiY (JG h) i x;exact ⟨vY (by rw [List.length_set]; exact ho) h.1, hg⟩
end

section
variable {P : Program} {ops : Array Oper} {rest : List Oper} {o : Oper} {a : Act} {Q : Exit → Act → World → Prop}
theorem ajl {W w1 : World} {v : Value} (hgd : o.guard = none) (hrun : (execOp a.eval o).run P W = .ok (.value v) w1) (h : wpList P ops Q rest (a.put o.dst v) w1) : wpList P ops Q (o :: rest) a W := by
  refine wpList_plain hgd fun K hK => ?_;unfold Oper.wp;rw [hrun];exact hK _ _ h
variable {α : Type}
theorem ajm {α : Type} {R : α → List Value → Prop} {z : Value} {size : Nat} {z0 : α} (hz : z.cells.size = size) (hs : 0 < size) (h0 : R z0 z.cells.toList) (m : Nat) : iM R size (List.replicate m z0) (madeCells z.cells (m * size)).toList := by
  refine ⟨by simp [size_madeCells], fun j p hj => ?_⟩;obtain ⟨hjl, hp⟩ := List.getElem?_eq_some_iff.1 hj;have hjm : j < m := by simpa using hjl
  have hp' : z0 = p := by simpa using hp
  subst hp';have hle : j * size + size ≤ m * size := by rw [← Nat.succ_mul]; exact Nat.mul_le_mul_right _ hjm
  have : ((madeCells z.cells (m * size)).toList.drop (j * size)).take size = z.cells.toList := by
    apply List.ext_getElem
    · simp [size_madeCells, hz]
      omega
    · intro i h1 h2
      have hi : i < size := by rw [Array.length_toList, hz] at h2; exact h2
      have hmod : (j * size + i) % size = i := by
        rw [Nat.mul_comm, Nat.mul_add_mod];exact Nat.mod_eq_of_lt hi
      simp [madeCells, hz, hmod]
      rw [getElem!_pos z.cells i ag]
  rw [this];exact h0
end
end Kd
theorem aav {w : World} {base n m c size : Nat} {e : TypeId} {A : Option Addr} {xs : List Value} (h : w.ownsRow base e size (.slice A n c) n xs) (hm : m ≤ n) : w.ownsRow base e size (.slice A m c) m (xs.take (m * size)) := by
  obtain ⟨h1, h2⟩ := h;refine ⟨by rw [List.length_take, h1]; exact Nat.min_eq_left (Nat.mul_le_mul_right _ hm), ?_⟩;rcases h2 with ⟨he, h0⟩ | ⟨g, cap, cur, he, hb, hh, hnc, hcm, hcs, ht⟩
  · injection he with ha _ hc
    subst ha; subst hc;exact .inl ⟨by rw [show m = 0 by omega], by omega⟩
  · injection he with ha _ hc
    subst ha; subst hc;refine .inr ⟨g, c, cur, rfl, hb, hh, by omega, hcm, hcs, ?_⟩;rw [← ht, List.take_take, Nat.min_eq_left (Nat.mul_le_mul_right _ hm)]
section
variable {P : Program}
theorem JJ (t e : TypeId) (kh : IntKind) {i : TypeInfo} (ht : P.underlying t = some (.slice e)) (hi : P.info? e = some i) (A : Option Addr) (n c : Nat) (j : Int) (h0 : 0 ≤ j) (hm : j ≤ n) (hc : n ≤ c) :
    ∀ W : World, (Instr.slice t (.slice A n c) none (some (.int kh j)) none).run P W = .ok (.slice A j.toNat c) W := by
  intro W;have hel : P.elem t = e := by simp [Program.elem, ht]
  have hu : P.underlying t = some (.slice (P.elem t)) := by rw [hel]; exact ht
  have ha : (A.map fun x => x.add 0) = A := by cases A <;> simp [Addr.add]
  rw [run_slice_h W t A n c hu kh j h0 ag, hel];simp [sizeOf, typeInfo, hi, sliced, Result.andThen, ha]
theorem TD (t e : TypeId) (kl : IntKind) {i : TypeInfo} (ht : P.underlying t = some (.slice e)) (hi : P.info? e = some i) (size : Nat) (hsz : i.size = size) (A : Option Addr) (n c : Nat) (j : Int) (h0 : 0 ≤ j) (hm : j ≤ n) :
    ∀ W : World, (Instr.slice t (.slice A n c) (some (.int kl j)) none none).run P W = .ok (.slice (if c = j.toNat then A else A.map (·.add (j.toNat * size))) (n - j.toNat) (c - j.toNat)) W := by
  intro W;have hel : P.elem t = e := by simp [Program.elem, ht]
  have hu : P.underlying t = some (.slice (P.elem t)) := by rw [hel]; exact ht
  rw [run_slice_l W t A n c hu kl j h0 hm, hel];simp [sizeOf, typeInfo, hi, hsz, sliced, Result.andThen]
end
def aaw (w : World) (base : Nat) (e : TypeId) (size : Nat) (v : Value) (n : Nat) (xs : List Value) : Prop :=
  xs.length = n * size ∧
  ((n = 0 ∧ ∃ A, v = .slice A 0 0 ∧ ∀ a, A = some a → base ≤ a.block ∧ ∃ cur, w.heap[a.block]? = some (.cells cur e (0, 0))) ∨
   ∃ g off cap cur, v = .slice (some ⟨g, off * size, none⟩) n cap ∧ base ≤ g ∧ w.heap[g]? = some (.cells cur e (0, 0)) ∧ n ≤ cap ∧ off + cap ≤ maxLen ∧ cur.size = (off + cap) * size ∧ (cur.toList.drop (off * size)).take (n * size) = xs)
section
variable {w w1 : World} {base n size : Nat} {e : TypeId} {v : Value} {xs : List Value}
theorem ajn (h : w.ownsRow base e size v n xs) : aaw w base e size v n xs := by
  obtain ⟨h1, h2⟩ := h;refine ⟨h1, ?_⟩;rcases h2 with ⟨rfl, h0⟩ | ⟨g, cap, cur, rfl, hb, hh, hnc, hcm, hcs, ht⟩
  · exact .inl ⟨h0, none, rfl, fun a ha => by cases ha⟩
  · exact .inr ⟨g, 0, cap, cur, by rw [Nat.zero_mul], hb, hh, hnc, by rw [Nat.zero_add]; exact hcm, by rw [Nat.zero_add]; exact hcs, by rw [Nat.zero_mul, List.drop_zero]; exact ht⟩
theorem JK (g o j : Nat) : (⟨g, o, none⟩ : Addr).add j = ⟨g, o + j, none⟩ := by unfold Addr.add; split <;> simp_all
theorem TE {g : Nat} : ∀ (vs : List Value) (o : Nat) {w : World} (k : Nat), k ≠ g → (w.setCells g o vs).heap[k]? = w.heap[k]?
  | [], _, _, _, _ => rfl
  | v :: r, o, w, k, hk => by
    rw [World.setCells, TE r (o + 1) k hk];exact Below.heap_setCell w ⟨g, o, none⟩ v k hk
theorem TF (g : Nat) : ∀ (vs : List Value) (o : Nat) (w : World), (w.setCells g o vs).os = w.os ∧ (w.setCells g o vs).tape = w.tape ∧ (w.setCells g o vs).output = w.output ∧ (w.setCells g o vs).heap.size = w.heap.size
  | [], _, _ => ⟨rfl, rfl, rfl, rfl⟩
  | v :: r, o, w => by
    obtain ⟨h1, h2, h3, h4⟩ := TF g r (o + 1) (w.setCell ⟨g, o, none⟩ v);rw [World.setCells];exact ⟨h1, h2, h3, by rw [h4]; simp [World.setCell]⟩
theorem TG {g : Nat} {e : TypeId} : ∀ (vs : List Value) (o : Nat) (w : World) (cur : Array Value), w.heap[g]? = some (.cells cur e (0, 0)) → o + vs.length ≤ cur.size →
    ∃ cur', (w.setCells g o vs).heap[g]? = some (.cells cur' e (0, 0)) ∧ cur'.size = cur.size ∧ cur'.toList = cur.toList.take o ++ vs ++ cur.toList.drop (o + vs.length)
  | [], o, w, cur, h, _ => ⟨cur, h, rfl, by simp⟩
  | v :: r, o, w, cur, h, hl => by
    have h2 := jc h o v;simp only [List.length_cons] at hl;obtain ⟨cur', h3, h4, h5⟩ := TG r (o + 1) (w.setCell ⟨g, o, none⟩ v) _ h2 (by simp; omega);refine ⟨cur', h3, by rw [h4]; simp, ?_⟩;rw [h5, Array.toList_setIfInBounds];have ho : o < cur.toList.length := by rw [Array.length_toList]; omega
    rw [List.take_set, List.drop_set_of_lt ag];simp only [List.length_cons];rw [show o + 1 + r.length = o + (r.length + 1) by omega];congr 1;rw [List.take_succ_eq_append_getElem ho, List.set_append_right _ _ (by rw [List.length_take]; omega)];have ho' : o < cur.size := by omega
    simp [Nat.min_eq_left (Nat.le_of_lt ho')]
end
section
variable {P : Program}
end
namespace Kd
theorem ajo {α : Type} {R : α → List Value → Prop} {size m : Nat} {ps : List α} {cs : List Value} (h : iM R size ps cs) (hm : m ≤ ps.length) : iM R size (ps.take m) (cs.take (m * size)) := by
  refine ⟨by rw [List.length_take, List.length_take, h.1, Nat.min_eq_left hm, Nat.min_eq_left (Nat.mul_le_mul_right _ hm)], fun j p hj => ?_⟩;rw [List.getElem?_take] at hj;split at hj
  · rename_i hjm
    have := h.2 j p hj;have hle : j * size + size ≤ m * size := by rw [← Nat.succ_mul]; exact Nat.mul_le_mul_right _ hjm
    rw [List.drop_take, List.take_take, Nat.min_eq_left ag];exact this
  · cases hj
theorem NN {α : Type} {d : Kd α} {e m n c : Nat} {w : World} {base : Nat} {ok : Nat → Prop} {A : Option Addr} {xs : List α} (h : d.R e w base ok (.slice A n c) xs) (hm : m ≤ xs.length) : d.R e w base ok (.slice A m c) (xs.take m) := by
  obtain ⟨h0, inner, ho, hr⟩ := h;have hn : n = xs.length := by
    obtain ⟨A', c', he⟩ := Tt ho;injection he
  subst hn;have hb : ∀ x y : Nat, (Value.slice A x c).ownBlock = (Value.slice A y c).ownBlock := by
    intro x y;cases A <;> rfl
  refine ⟨fun k hk => h0 k (by rw [hb _ m]; exact hk), inner.take (m * d.sz), ?_, ?_⟩
  · rw [List.length_take, Nat.min_eq_left hm]
    exact aav ho hm
  · rw [hb m xs.length]
    exact ajo hr hm
def Q {α : Type} (d : Kd α) (e : Nat) (w : World) (base : Nat) (ok : Nat → Prop) (v : Value) (xs : List α) : Prop :=
  (∀ k, v.ownBlock = some k → ok k) ∧ ∃ inner, aaw w base e d.sz v xs.length inner ∧ iM (d.M w base (fun k => ok k ∧ some k ≠ v.ownBlock)) d.sz xs inner
section
variable {α : Type} {d : Kd α} {e : Nat} {w w1 W : World} {base : Nat} {ok ok' : Nat → Prop} {v : Value} {xs : List α}
theorem ajp (h : d.R e w base ok v xs) : d.Q e w base ok v xs := by
  obtain ⟨h0, inner, ho, hr⟩ := h;exact ⟨h0, inner, ajn ho, hr⟩
theorem TH (d : Kd α) (e : Nat) (w : World) (base : Nat) (ok : Nat → Prop) : d.Q e w base ok (.slice none 0 0) [] := ajp (lK d e w base ok)
end
section
variable {P : Program} {ops : Array Oper} {rest : List Oper} {o : Oper} {a : Act} {Q' : Exit → Act → World → Prop} {Kc : Act → World → Prop} {α : Type}
end
end Kd
namespace Kd
section
variable {α : Type} {d : Kd α} {e e' : Nat} {w w1 W : World} {base : Nat} {ok : Nat → Prop} {u v : Value} {xs : List α}
theorem ajq (h : d.R e w base ok v xs) : ∀ k, v.ownBlock = some k → ∃ cells, w.heap[k]? = some (.cells cells e (0, 0)) := by
  obtain ⟨inner, ho⟩ := xu h;exact fun k hk => Et ho k hk
theorem ajr (hu : d.R e W base ok u xs) (hbase : ∀ k, v.ownBlock = some k → W.heap.size ≤ k) (hb : Below W.heap.size W w1) : d.R e w1 base (fun k => ok k ∧ some k ≠ v.ownBlock) u xs :=
  jd (JF (xn hu) (fun k hk => hb.block k hk.2.2.1)) (fun k hk => ⟨hk.1, fun he => by have := hbase k he.symm; have := hk.2.2.1; omega⟩)
theorem ajs (h : d.R e w1 W.heap.size ok v xs) (hlt : ∀ k, u.ownBlock = some k → k < W.heap.size) : d.R e w1 W.heap.size (fun k => ok k ∧ some k ≠ u.ownBlock) v xs :=
  jd (xn h) (fun k hk => ⟨hk.1, fun he => by have := hlt k he.symm; have := hk.2.1; omega⟩)

theorem fresh' (hlt : ∀ k, u.ownBlock = some k → k < W.heap.size) : ∀ k, W.heap.size ≤ k → some k ≠ u.ownBlock := fun k hk he => by have := hlt k he.symm; omega
end
end Kd
theorem JL {α : Type} (a seg : List α) (o : Nat) (h : o + seg.length ≤ a.length) (q : Nat) :
    (a.take o ++ seg ++ a.drop (o + seg.length))[q]? = if q < o then a[q]? else if q < o + seg.length then seg[q - o]? else a[q]? := by
  have hl : (a.take o).length = o := by rw [List.length_take]; omega
  rw [List.append_assoc];by_cases h1 : q < o
  · rw [if_pos h1, List.getElem?_append_left ag, List.getElem?_take, if_pos h1]
  · rw [if_neg h1, List.getElem?_append_right ag, hl]
    by_cases h2 : q < o + seg.length
    · rw [if_pos h2, List.getElem?_append_left ag]
    · rw [if_neg h2, List.getElem?_append_right ag, List.getElem?_drop]
      congr 1
      omega
namespace Kd
section
variable {α : Type} {d : Kd α} {e base g n cap : Nat} {ok okp : Nat → Prop} {W : World} {xs : List α}
theorem ajt (h : d.R e W base ok (.slice (some ⟨g, 0, none⟩) n cap) xs) (z : α) (i : Int) (h0 : 0 ≤ i) (h1 : i < n) :
    ∃ c, c.length = d.sz ∧ d.M W base (fun k => ok k ∧ k ≠ g) (xs.getD i.toNat z) c ∧ (∀ j u, c[j]? = some u → W.cell? ⟨g, i.toNat * d.sz + j, none⟩ = some u) ∧ ∀ j, W.frozen? ⟨g, i.toNat * d.sz + j, none⟩ = false := by
  obtain ⟨hn, hnc, hC⟩ := pI h;obtain ⟨_, inner, ho, hr⟩ := h;have hil : i.toNat < xs.length := by omega
  have hseg : i.toNat * d.sz + d.sz ≤ inner.length := by rw [hr.1, ← Nat.succ_mul]; exact Nat.mul_le_mul_right _ hil
  have hM := hr.2 i.toNat _ (List.getElem?_eq_getElem hil);refine ⟨(inner.drop (i.toNat * d.sz)).take d.sz, by rw [List.length_take, List.length_drop]; omega, ?_, fun j u hu => ?_, fun j => ?_⟩
  · rw [List.getD_eq_getElem?_getD, List.getElem?_eq_getElem hil]
    exact d.gM (fun k hk => ⟨hk.1, fun he => hk.2 (by rw [he]; simp [Value.ownBlock])⟩) hM
  · rw [List.getElem?_take] at hu
    split at hu
    · rw [List.getElem?_drop] at hu
      have := ho.cells (g := g) (by simp [Value.ownBlock]) _ u hu
      rwa [add_plain] at this
    · cases hu
  · obtain ⟨cells, hc⟩ := Et ho g (by simp [Value.ownBlock])
    exact aN hc _
theorem aju (h : d.R e W base ok (.slice (some ⟨g, 0, none⟩) n cap) xs) (i : Int) (h0 : 0 ≤ i) (h1 : i < n) {c seg : List Value} {j : Nat} (hcl : c.length = d.sz) (hcc : ∀ j u, c[j]? = some u → W.cell? ⟨g, i.toNat * d.sz + j, none⟩ = some u)
    (hj : j + seg.length ≤ d.sz) {x' : α} (hM : d.M W base okp x' (c.take j ++ seg ++ c.drop (j + seg.length))) (mE : ∀ k, okp k → ok k ∧ k ≠ g) :
    d.R e (W.setCells g (i.toNat * d.sz + j) seg) base ok (.slice (some ⟨g, 0, none⟩) n cap) (xs.set i.toNat x') ∧ W.grownBy (W.setCells g (i.toNat * d.sz + j) seg) (some g) := by
  obtain ⟨hn, hnc, _⟩ := pI h;obtain ⟨hok, inner, ho, hr⟩ := h;have hil : i.toNat < xs.length := by omega
  have hseg : i.toNat * d.sz + d.sz ≤ inner.length := by rw [hr.1, ← Nat.succ_mul]; exact Nat.mul_le_mul_right _ hil
  have hin : inner.length = n * d.sz := by rw [hr.1, hn]
  obtain ⟨ho1, ho2⟩ := ho;rcases ho2 with ⟨hv, _⟩ | ⟨g', cap', cur, hv, hb, hh, hnc', hcm, hcs, ht⟩
  · cases hv
  injection hv with ha _ hc
  injection ha with ha
  injection ha with hg
  subst hg; subst hc;have hfit : i.toNat * d.sz + j + seg.length ≤ cur.size := by
    have : n * d.sz ≤ cap * d.sz := Nat.mul_le_mul_right _ hnc;omega
  obtain ⟨cur', h3, h4, h5⟩ := TG seg (i.toNat * d.sz + j) W cur hh hfit;obtain ⟨s1, s2, s3, s4⟩ := TF g seg (i.toNat * d.sz + j) W;have TI : ∀ k, k ≠ g → (W.setCells g (i.toNat * d.sz + j) seg).heap[k]? = W.heap[k]? := fun k hk => TE seg _ k hk
  -- the element's cells before are what was read
  have ajv : ∀ q, q < d.sz → c[q]? = inner[i.toNat * d.sz + q]? := by
    intro q hq;have hq' : q < c.length := by omega
    have h6 := hcc q _ (List.getElem?_eq_getElem hq');rw [cell_of_row W g _ cur e (0, 0) hh] at h6;rw [List.getElem?_eq_getElem hq', ← h6, ← ht, List.getElem?_take, if_pos (by rw [← hn]; omega), Array.getElem?_toList]
  refine ⟨⟨hok, inner.take (i.toNat * d.sz + j) ++ seg ++ inner.drop (i.toNat * d.sz + j + seg.length), ⟨?_, .inr ⟨g, cap, cur', by rw [List.length_set, hn], hb, h3, by rw [List.length_set, ← hn]; exact hnc, hcm, by rw [h4, hcs], ?_⟩⟩, ?_⟩,
    ⟨s1, s2, s3, by rw [s4]; exact Nat.le_refl _, fun k _ hk => TI k (fun he => hk (by rw [he]))⟩⟩
  · rw [List.length_set]
    simp only [List.length_append, List.length_take, List.length_drop];rw [hr.1] at hseg ⊢;omega
  · rw [List.length_set, ← hn]
    apply List.ext_getElem?
    intro q;rw [List.getElem?_take, h5];rw [JL cur.toList seg (i.toNat * d.sz + j) (by rw [Array.length_toList]; omega) q, JL inner seg (i.toNat * d.sz + j) ag q];have ajw : ∀ q, q < n * d.sz → cur.toList[q]? = inner[q]? := by
      intro q hq;rw [← ht, List.getElem?_take, if_pos (by rw [← hn]; exact hq)]
    by_cases hq : q < n * d.sz
    · rw [if_pos hq, ajw q hq]
    · rw [if_neg hq, if_neg ag, if_neg ag, List.getElem?_eq_none ag]
  · refine ⟨?_, fun m p hm => ?_⟩
    · rw [List.length_set]
      simp only [List.length_append, List.length_take, List.length_drop];rw [hr.1] at hseg ⊢;omega
    · have CF : m < xs.length := by
        have := (List.getElem?_eq_some_iff.1 hm).1
        rwa [List.length_set] at this
      have au6 : m * d.sz + d.sz ≤ inner.length := by rw [hr.1, ← Nat.succ_mul]; exact Nat.mul_le_mul_right _ CF
      have hgo : some g = (Value.slice (some ⟨g, 0, none⟩) n cap).ownBlock := by simp [Value.ownBlock]
      by_cases rE : m = i.toNat
      · subst rE
        rw [List.getElem?_set_self ag] at hm;injection hm with hm
        subst hm;have hcells : ((inner.take (i.toNat * d.sz + j) ++ seg ++ inner.drop (i.toNat * d.sz + j + seg.length)).drop (i.toNat * d.sz)).take d.sz = c.take j ++ seg ++ c.drop (j + seg.length) := by
          apply List.ext_getElem?
          intro q;rw [List.getElem?_take, List.getElem?_drop, JL inner seg _ ag, JL c seg j ag q];by_cases hq : q < d.sz
          · rw [if_pos hq, ajv q hq]
            by_cases hq1 : q < j
            · rw [if_pos ag, if_pos hq1]
            · rw [if_neg ag, if_neg hq1]
              by_cases hq2 : q < j + seg.length
              · rw [if_pos ag, if_pos hq2]
                congr 1
                omega
              · rw [if_neg ag, if_neg hq2]
          · rw [if_neg hq, if_neg ag, if_neg ag, List.getElem?_eq_none ag]
        rw [hcells];refine d.gM (fun k hk => ?_) (d.lJ (w1 := W.setCells g (i.toNat * d.sz + j) seg) (fun k hk => TI k (mE k hk).2) hM);exact ⟨(mE k hk).1, fun he => (mE k hk).2 (by rw [← hgo] at he; injection he)⟩
      · rw [List.getElem?_set_ne ag] at hm
        have hold := hr.2 m p hm;have hcells : ((inner.take (i.toNat * d.sz + j) ++ seg ++ inner.drop (i.toNat * d.sz + j + seg.length)).drop (m * d.sz)).take d.sz = (inner.drop (m * d.sz)).take d.sz := by
          apply List.ext_getElem?
          intro q;rw [List.getElem?_take, List.getElem?_take, List.getElem?_drop, List.getElem?_drop, JL inner seg _ ag];by_cases hq : q < d.sz
          · rw [if_pos hq, if_pos hq]
            rcases Nat.lt_or_gt_of_ne rE with hlt | hgt
            · have : m * d.sz + d.sz ≤ i.toNat * d.sz := by rw [← Nat.succ_mul]; exact Nat.mul_le_mul_right _ hlt
              rw [if_pos ag]
            · have : i.toNat * d.sz + d.sz ≤ m * d.sz := by rw [← Nat.succ_mul]; exact Nat.mul_le_mul_right _ hgt
              rw [if_neg ag, if_neg ag]
          · rw [if_neg hq, if_neg hq]
        rw [hcells];refine d.lJ (fun k hk => TI k (fun he => hk.2 (by rw [he]; exact hgo))) hold
end
end Kd
namespace Kd
section
variable {α : Type} {F : Kd α → Kd α} {sz : Nat} {E : List Nat} {hs : ∀ n, (upto F sz E n).sz = sz} {hE : ∀ n q, q ∈ (upto F sz E n).E → q ∈ E}
end
end Kd
namespace Kd
theorem aax {α : Type} {R : α → List Value → Prop} {size : Nat} {ps qs : List α} {cs ds : List Value} (h : iM R size ps cs) (h' : iM R size qs ds) : iM R size (ps ++ qs) (cs ++ ds) := by
  refine ⟨by rw [List.length_append, List.length_append, h.1, h'.1, Nat.add_mul], fun j p hj => ?_⟩;rcases Nat.lt_or_ge j ps.length with hlt | hge
  · rw [List.getElem?_append_left hlt] at hj
    have hle : j * size + size ≤ cs.length := by rw [h.1, ← Nat.succ_mul]; exact Nat.mul_le_mul_right _ hlt
    rw [List.drop_append_of_le_length ag, List.take_append_of_le_length (by rw [List.length_drop]; omega)];exact h.2 j p hj
  · rw [List.getElem?_append_right hge] at hj
    have h2 := h'.2 (j - ps.length) p hj;have hle : ps.length * size ≤ j * size := Nat.mul_le_mul_right _ hge;rw [List.drop_append, List.drop_eq_nil_of_le (by rw [h.1]; exact hle), List.nil_append, h.1, ← Nat.sub_mul];exact h2
section
variable {P : Program} {ops : Array Oper} {rest : List Oper} {o : Oper} {a : Act} {Q : Exit → Act → World → Prop} {α : Type}
theorem aay (d : Kd α) {Rr : α → List Value → Prop} {w0 W : World} (base : Nat) (hgd : o.guard = none) (s x : Operand) (t e : TypeId) (z : Value) (bytes : Nat)
    (ho : o.op = .call { callee := .builtin .append, args := #[s, x], argTypes := #[t, t] })
    (ht : P.underlying t = some (.slice e)) (hinfo : (P.info? e).map (fun i => (i.zero, i.size, i.bytes)) = some (some z, d.sz, bytes)) (hz : z.cells.size = d.sz) (hs0 : 0 < d.sz) (hb0 : 0 < bytes)
    (v : Value) (xs ys : List α) (A : Option Addr) (m c : Nat) (ok okp : Nat → Prop) (hs : a.eval s = v) (hx : a.eval x = .slice A m c)
    (HO : d.R e W base ok v xs) (HR : qD Rr d.sz W A m ys) (hKM : ∀ x cs, Rr x cs → d.M W base okp x cs) (mE : ∀ k, okp k → ok k ∧ some k ≠ v.ownBlock) (hfresh : ∀ k, W.heap.size ≤ k → ok k)
    (HB : Below base w0 W) (hbase : base ≤ W.heap.size) (hl : (xs.length + m) * bytes ≤ 140737488355328)
    (h : ∀ v1 w1, d.R e w1 base ok v1 (xs ++ ys) → Below base w0 w1 → W.grownBy w1 v.ownBlock → (v1.ownBlock = v.ownBlock ∨ ∃ b, v1.ownBlock = some b ∧ W.heap.size ≤ b) → wpList P ops Q rest (a.put o.dst v1) w1) :
    wpList P ops Q (o :: rest) a W := by
  obtain ⟨i0, hi, hzz⟩ := Option.map_eq_some_iff.1 hinfo;simp only [Prod.mk.injEq] at hzz;obtain ⟨hz0, hz1, hz2⟩ := hzz;have hm : ys.length = m := HR.1;have hlen : xs.length + m ≤ 140737488355328 := Nat.le_trans (Nat.le_mul_of_pos_right _ hb0) hl;obtain ⟨hok, inner, hown, hr⟩ := HO;have hrun : ∃ v1 w1, (Builtin.append_ #[t, t] o.type #[v, .slice A m c]).run P W = .ok v1 w1 ∧ d.R e w1 base ok v1 (xs ++ ys) ∧ W.grownBy w1 v.ownBlock ∧ (v1.ownBlock = v.ownBlock ∨ ∃ b, v1.ownBlock = some b ∧ W.heap.size ≤ b) := by
    rcases A with _ | ad
    · have h0 : m = 0 := by
        rcases Nat.eq_zero_or_pos m with h0 | h0
        · exact h0
        · obtain ⟨ad, h, _⟩ := HR.2.2 h0
          cases h
      subst h0;obtain rfl : ys = [] := List.eq_nil_of_length_eq_zero hm;refine ⟨v, W, ?_, by rw [List.append_nil]; exact ⟨hok, inner, hown, hr⟩, World.grownBy.refl W _, .inl rfl⟩;rcases hown.2 with ⟨rfl, hn⟩ | ⟨g, cap, cur, rfl, _, _, hnc, _⟩
      · simp [Builtin.append_, run_underlying ht, sizeOf, typeInfo, hi, Builtin.lenOf, Builtin.firstCells]
      · simp [Builtin.append_, run_underlying ht, sizeOf, typeInfo, hi, Builtin.lenOf, Builtin.firstCells, hnc, storeCells]
    · obtain ⟨news, hnr, hnc⟩ := qD.aah HR
      have Ex : iM (d.M W base okp) d.sz ys news := hnr.pq (fun p c hp => hKM p c hp);have hone : ∀ u ∈ news, u.oneCell' = true := by
        intro u hu;obtain ⟨q, hq, rfl⟩ := List.mem_iff_getElem.1 hu;have Bg : q / d.sz < ys.length := by
          rw [Nat.div_lt_iff_lt_mul hs0];rw [← Ex.1];exact hq
        have hc := Ex.2 (q / d.sz) _ (List.getElem?_eq_getElem Bg);refine d.kC (d.iN hc) _ ?_;rw [List.mem_iff_getElem?];refine ⟨q % d.sz, ?_⟩;rw [List.getElem?_take, if_pos (Nat.mod_lt _ hs0), List.getElem?_drop, Nat.mul_comm, Nat.div_add_mod, List.getElem?_eq_getElem hq]
      obtain ⟨v1, w1, hrun, h2, hg, _, hat⟩ := run_append_own_at (P := P) W base t o.type e i0 z d.sz bytes ht hi hz0 hz1 hz2 hz hs0 v xs.length inner hown ad m c news (by rw [Ex.1, hm]) hnc hone (by simp only [maxLen]; omega) hl hbase;have hat' : v1.ownBlock = v.ownBlock ∨ ∃ b, v1.ownBlock = some b ∧ W.heap.size ≤ b := by
        rcases hat with hat | hat
        · exact .inl hat
        · exact .inr ⟨_, hat, Nat.le_refl _⟩
      have hne : ∀ k, some k ≠ v.ownBlock → k < W.heap.size → some k ≠ v1.ownBlock := by
        intro k hk hlt;rcases hat' with hat | ⟨b, hb, hle⟩
        · rw [hat]; exact hk
        · rw [hb]
          intro he;injection he with he
          omega
      have step : ∀ {q : α} {c : List Value} {o : Nat → Prop}, d.M W base o q c → (∀ k, o k → ok k ∧ some k ≠ v.ownBlock) → d.M w1 base (fun k => ok k ∧ some k ≠ v1.ownBlock) q c := by
        intro q c o hq ho;have h1 := d.lJ (w1 := w1) (fun k hk => hg.block k hk.2.2.1 (ho k hk.1).2) (d.mU hq);exact d.gM (fun k hk => ⟨(ho k hk.1).1, hne k (ho k hk.1).2 hk.2.2.1⟩) h1
      refine ⟨v1, w1, hrun, ⟨fun k hk => ?_, inner ++ news, by rw [List.length_append, hm]; exact h2, aax (hr.pq (fun _ _ hq => step hq (fun _ hk => hk))) (Ex.pq (fun _ _ hq => step hq mE))⟩, hg, hat'⟩;rcases hat' with hat | ⟨b, hb, hle⟩
      · exact hok k (hat ▸ hk)
      · rw [hb] at hk
        injection hk with hk
        exact hfresh k ag
  obtain ⟨v1, w1, hr1, h1, hg, hat⟩ := hrun;refine wpList_plain hgd fun K hK => ?_;unfold Oper.wp execOp;simp only [ho, resolve, invoke, builtin, Sem.run_bind, Sem.run_pure, Result.andThen_ok, List.map_toArray, List.map_cons, List.map_nil, hs, hx, hr1];exact hK _ _ (h v1 w1 h1 (HB.grown hg hbase (xm hown)) hg hat)
end
end Kd
namespace Kd
section
variable {P : Program} {ops : Array Oper} {rest : List Oper} {o : Oper} {a : Act} {Q : Exit → Act → World → Prop} {α : Type}
end
end Kd
theorem add_add (a : Addr) (i j : Nat) : (a.add i).add j = a.add (i + j) := by
  unfold Addr.add;by_cases h1 : i = 0 <;> by_cases h2 : j = 0 <;> simp [h1, h2, Nat.add_assoc]
namespace Kd
section
variable {α : Type} {k : Kd α} {w : World} {A : Option Addr} {xs : List α} {m c : Nat}
theorem aaz (h : k.C w A xs.length xs) (hm : m ≤ xs.length) : k.C w A (xs.take m).length (xs.take m) := by
  have hl : (xs.take m).length = m := by rw [List.length_take]; omega
  refine ⟨rfl, by rw [hl]; have := h.2.1; omega, fun hp => ?_⟩;obtain ⟨ad, e, hc⟩ := h.2.2 ag;refine ⟨ad, e, fun j p hj => hc j p ?_⟩;rw [List.getElem?_take] at hj;split at hj
  · exact hj
  · cases hj
theorem aaA (h : k.C w A xs.length xs) (hm : m ≤ xs.length) (hc : xs.length ≤ c) : k.C w (if c = m then A else A.map (·.add (m * k.sz))) (xs.drop m).length (xs.drop m) := by
  have hl : (xs.drop m).length = xs.length - m := List.length_drop;refine ⟨rfl, by rw [hl]; have := h.2.1; omega, fun hp => ?_⟩;rw [hl] at hp;obtain ⟨ad, rfl, hcell⟩ := h.2.2 ag;rw [if_neg ag];refine ⟨ad.add (m * k.sz), rfl, fun j p hj => ?_⟩;rw [List.getElem?_drop] at hj;obtain ⟨cs, h1, h2, h3⟩ := hcell (m + j) p hj;refine ⟨cs, h1, h2, fun i u hu => ?_⟩;rw [add_add, show m * k.sz + (j * k.sz + i) = (m + j) * k.sz + i by rw [Nat.add_mul]; omega];exact h3 i u hu
end
end Kd
section
variable {P : Program}
end
theorem bP {w W : World} (h : Below w.heap.size w W) : w.heap.size ≤ W.heap.size := h.size
theorem df {w W w2 : World} (h : Below w.heap.size w W) (k : Below W.heap.size W w2) : Below w.heap.size w w2 := aiM h h.size k
theorem NP {w W : World} {g j : Nat} {v : Value} (h : Below w.heap.size w W) (hg : w.heap.size ≤ g) : Below w.heap.size w (W.setCell ⟨g, j, none⟩ v) := h.setCell hg _
theorem aaB {w W : World} {g : Nat} {row : Option Nat} (h : kU w W g row) (m : Nat) : kU w (W.drewN m) g row := h
theorem JM {w W : World} {g : Nat} (h : kU w W g none) (o : Obj) : kU w (W.alloc o) g none := h.trans (kU.Cz (World.grownBy_alloc W o none) g) (.inl rfl)
theorem add_block (a : Addr) (i : Nat) : (a.add i).block = a.block := by unfold Addr.add; split <;> rfl
theorem jS {w : World} {g : Nat} {t : TypeId} {cs cs' : Array Value} (h : w.heap[g]? = some (.cells cs t (0, 0))) (i : Nat) (u : Value) (e : cs.setIfInBounds i u = cs') : (w.setCell ⟨g, i, none⟩ u).heap[g]? = some (.cells cs' t (0, 0)) := e ▸ jc h i u
theorem Ey {W : World} {base g cap : Nat} {e : TypeId} {k : IntKind} {xs : List Int} (h : W.ownsRow base e 1 (.slice (some ⟨g, 0, none⟩) xs.length cap) xs.length (nums k xs)) (i x : Int) :
    (W.setCell ⟨g, i.toNat, none⟩ (.int k x)).ownsRow base e 1 (.slice (some ⟨g, 0, none⟩) xs.length cap) (xs.set i.toNat x).length (nums k (xs.set i.toNat x)) := by
  have := (aiR h i x).1
  rwa [show (xs.set i.toNat x).length = xs.length by simp]
theorem bV {base : Nat} {w W : World} (h : Below base w W) : Below base w W.drew := h.drew
namespace Kd
section
variable {α β : Type} {d : Kd α} {d' : Kd β} {e e' base base' n : Nat} {ok ok' : Nat → Prop} {w W w1 W1 : World} {v u : Value} {xs : List α} {ys : List β} {A : Option Addr} {c : Nat}
end
section
variable {α : Type} {enc : α → Value} {h1 : ∀ x, (enc x).oneCell' = true} {w W : World} {A : Option Addr} {n g : Nat} {xs : List α}
end
end Kd
namespace Kd
section
variable {α : Type} {d : Kd α} {e base g : Nat} {ok : Nat → Prop} {w w1 : World} {v : Value} {xs : List α} {o : Obj}
theorem ajx (h : d.R e w base ok v xs) (a : Nat) (ha : w.heap.size ≤ a) : d.R e w base (fun k => ok k ∧ k ≠ a) v xs := jd (xn h) (fun k hk => ⟨hk.1, by have := hk.2.2.1; omega⟩)
theorem NQ (h : d.R e w1 w.heap.size ok v xs) (hb : w.heap[g]? = some o) : d.R e w1 w.heap.size (fun k => ok k ∧ k ≠ g) v xs := jd (xn h) (fun k hk => ⟨hk.1, by have := aT hb; have := hk.2.1; omega⟩)
theorem xy (hb : w.heap[g]? = some o) : ∀ k, w.heap.size ≤ k → k ≠ g := fun k hk => by have := aT hb; omega
end
end Kd
section
variable {P : Program} {ops : Array Oper} {rest : List Oper} {o : Oper} {a : Act} {Q : Exit → Act → World → Prop}
theorem gG {W : World} (hgd : o.guard = none) {N : Tmp} (_hd : o.dst = some N) {cs : Array Value} {t : TypeId}
    (hrun : (execOp a.eval o).run P W = .ok (.value (.pointer (some ⟨W.heap.size, 0, none⟩))) (W.alloc (.cells cs t (0, 0))))
    (h : ∀ g, g = W.heap.size → ∀ w1, w1.heap[g]? = some (.cells cs t (0, 0)) → Below W.heap.size W w1 → wpList P ops Q rest (a.put o.dst (.pointer (some ⟨g, 0, none⟩))) w1) : wpList P ops Q (o :: rest) a W :=
  Kd.ajl hgd hrun (h _ rfl _ (ai0 W _) (aW (Below.refl _ _) _))
theorem Kd.Ez {α : Type} (enc : α → Value) (d : α) {h1 : ∀ x : α, (enc x).oneCell' = true} {w0 W : World} (base : Nat) (hgd : o.guard = none) (s x : Operand) (t e : TypeId) (z : Value) (bytes : Nat)
    (ho : o.op = .call { callee := .builtin .append, args := #[s, x], argTypes := #[t, t] })
    (ht : P.underlying t = some (.slice e)) (hinfo : (P.info? e).map (fun i => (i.zero, i.size, i.bytes)) = some (some z, 1, bytes)) (hz : z.cells.size = 1) (hb0 : 0 < bytes)
    (v : Value) (xs ys : List α) (A : Option Addr) (m c : Nat) (ok : Nat → Prop) (hs : a.eval s = v) (hx : a.eval x = .slice A m c) (hfresh : ∀ k, W.heap.size ≤ k → ok k)
    (HO : (Kd.scalar enc h1).R e W base ok v xs) (HR : (Kd.scalar enc h1).C W A m ys) (HB : Below base w0 W) (hbase : base ≤ W.heap.size) (hl : (xs.length + m) * bytes ≤ 140737488355328)
    (h : ∀ v1 w1, (Kd.scalar enc h1).R e w1 base ok v1 (xs ++ ys) → Below base w0 w1 → W.grownBy w1 v.ownBlock → (v1.ownBlock = v.ownBlock ∨ ∃ b, v1.ownBlock = some b ∧ W.heap.size ≤ b) → wpList P ops Q rest (a.put o.dst v1) w1) :
    wpList P ops Q (o :: rest) a W := by
  refine aiZ (w0 := w0) enc d base hgd s x t e z bytes ho ht hinfo hz hb0 h1 v xs ys A m c hs hx (Kd.JG HO) (Kd.yw (d := d) HR) HB hbase hl ?_;intro v1 w1 hown hb hg hat;refine h v1 w1 (Kd.vY hown (fun k hk => ?_)) hb hg hat;rcases hat with e1 | ⟨b, e1, hbb⟩
  · exact HO.1 k (by rw [← e1]; exact hk)
  · rw [e1] at hk
    injection hk with hk
    subst hk;exact hfresh _ hbb
end
namespace Kd
section
variable {α : Type} {enc : α → Value} {h1 : ∀ x, (enc x).oneCell' = true} {e base g n cap : Nat} {ok : Nat → Prop} {W : World} {xs : List α}
theorem JN (d : α) (h : (scalar enc h1).R e W base ok (.slice (some ⟨g, 0, none⟩) n cap) xs) (i : Int) (h0 : 0 ≤ i) (hi : i < n) : W.cell? ⟨g, i.toNat, none⟩ = some (enc (qE d xs i)) ∧ W.frozen? ⟨g, i.toNat, none⟩ = false := by
  obtain ⟨rfl, _⟩ := pI h;exact ajj d h i h0 hi
theorem JO (h : (scalar enc h1).R e W base ok (.slice (some ⟨g, 0, none⟩) n cap) xs) (i : Int) (x : α) : (scalar enc h1).R e (W.setCell ⟨g, i.toNat, none⟩ (enc x)) base ok (.slice (some ⟨g, 0, none⟩) n cap) (xs.set i.toNat x) := by
  obtain ⟨rfl, _⟩ := pI h;exact (ajk h i x).1
end
end Kd
section
variable {P : Program} {ops : Array Oper} {rest : List Oper} {o : Oper} {a : Act} {Q : Exit → Act → World → Prop}
end
namespace Kd
section
variable {α : Type} {enc : α → Value} {h1 : ∀ x, (enc x).oneCell' = true} {e base g n cap : Nat} {ok : Nat → Prop} {W : World} {xs : List α}
end
end Kd
section
variable {P : Program} {ops : Array Oper} {rest : List Oper} {o : Oper} {a : Act} {Q : Exit → Act → World → Prop} {W : World}
theorem gH {N : Tmp} (_hN : o.dst = some N) (h : wpList P ops Q (o :: rest) a W) : wpList P ops Q (o :: rest) a W := h
end
section
variable {P : Program} {ops : Array Oper} {o : Oper} {a : Act} {Q : Exit → Act → World → Prop} {Kc : Act → World → Prop}
namespace Kd
variable {α : Type}
end Kd
end
section
variable {P : Program} {tmps : Array Value} {w : World}
end
namespace Kd
section
variable {P : Program} {α : Type}
end
section
variable {P : Program} {ops : Array Oper} {rest : List Oper} {o : Oper} {a : Act} {Q : Exit → Act → World → Prop} {Kc : Act → World → Prop} {α : Type}
end
end Kd

end Go.Proofs.aI.bM
namespace Go.Proofs.aI.dG

section
variable {P : Program} {ops : Array Oper} {Q : Exit → Act → World → Prop} {md : Region.Mode} {S : World → Prop} {ds : List Nat}

def Region.xz (md : Region.Mode) (ops : Array Oper) (i : Nat) : Nat → Nat → Bool
 | 0, _ => false
 | fuel + 1, d => match ops[d]? with
  | some o => o.after.any fun e => Region.binds md e && (e.on == i || Region.xz md ops i fuel e.on)
  | none => false

def Region.JP (md : Region.Mode) (ops : Array Oper) (listed : Array Bool) : Bool :=
 (List.range ops.size).all fun j => !listed.getD j false || match ops[j]? with
  | some o => o.after.all fun e => !Region.binds md e || listed.getD e.on false
  | none => true

def Region.lastB (md : Region.Mode) (ops : Array Oper) (listed : Array Bool) (ds : List Nat) (i : Nat) : Bool :=
 ds.all fun d => listed.getD d true || Region.xz md ops i ops.size d

def EA (md : Region.Mode) (ops : Array Oper) (listed : Array Bool) : Prop :=
 ∀ j oj, ops[j]? = some oj → listed.getD j false = true → ∀ e ∈ oj.after, Region.binds md e = true → listed.getD e.on false = true

theorem Region.ajy {listed : Array Bool} (h : Region.JP md ops listed = true) : EA md ops listed := by
 intro j oj hj hl e he hb;have hlt : j < ops.size := (Array.getElem?_eq_some_iff.1 hj).1;have h1 := List.all_eq_true.1 h j (List.mem_range.2 hlt);simp only [hl, hj, Bool.not_true, Bool.false_or] at h1;have h2 := Array.all_eq_true_iff_forall_mem.1 h1 e he;simpa [hb] using h2

theorem EA.set {listed : Array Bool} {i : Nat} (h : EA md ops listed) (hi : i ∈ Region.ready md ops listed) : EA md ops (listed.setIfInBounds i true) := by
 obtain ⟨_, oi, hoi, hall⟩ := mem_ready.1 hi;intro j oj hj hl e he hb;by_cases hij : i = j
 ·subst hij;have : oj = oi := Option.some.inj (hj.symm.trans hoi);subst this;exact getD_set_true (hall e he hb)
 ·rw [getD_set_ne false hij] at hl;exact getD_set_true (h j oj hj hl e he hb)

theorem Region.aaC {listed : Array Bool} {i : Nat} (hc : EA md ops listed) : ∀ (fuel d : Nat), Region.xz md ops i fuel d = true → listed.getD d false = true → listed.getD i false = true
 | 0, _, h, _ => by simp [Region.xz] at h
 | fuel + 1, d, h, hl => by
  unfold Region.xz at h;cases ho : ops[d]? with
  | none => rw [ho] at h; simp at h
  | some o =>
   rw [ho] at h;obtain ⟨e, he, h1⟩ := Array.any_eq_true'.1 h;simp only [Bool.and_eq_true, Bool.or_eq_true, beq_iff_eq] at h1;have hle := hc d o ho hl e he h1.1;rcases h1.2 with h2 | h2
   ·rw [← h2]; exact hle
   ·exact Region.aaC hc fuel e.on h2 hle

theorem Region.ajz {listed : Array Bool} {i d fuel : Nat} (hc : EA md ops listed) (hr : Region.xz md ops i fuel d = true) (hun : listed.getD i true = false) : d ∉ Region.ready md ops listed := by
 intro hd;obtain ⟨_, o, ho, hall⟩ := mem_ready.1 hd;have hi : listed.getD i false = true := by
  cases fuel with
  | zero => simp [Region.xz] at hr
  | succ n =>
   unfold Region.xz at hr;rw [ho] at hr;obtain ⟨e, he, h1⟩ := Array.any_eq_true'.1 hr;simp only [Bool.and_eq_true, Bool.or_eq_true, beq_iff_eq] at h1;have hle := hall e he h1.1;rcases h1.2 with h2 | h2
   ·rw [← h2]; exact hle
   ·exact Region.aaC hc n e.on h2 hle
 rcases Nat.lt_or_ge i listed.size with h' | h'
 ·simp [h'] at hun hi
  rw [hun] at hi;cases hi
 ·simp [Array.getElem?_eq_none h'] at hun

def gq (P : Program) (md : Region.Mode) (ops : Array Oper) (Q : Exit → Act → World → Prop) (S : World → Prop) (ds : List Nat) : Nat → Array Bool → Act → World → Prop
 | 0, listed, a, w => Region.ready md ops listed = [] ∧ Q .normal a w
 | fuel + 1, listed, a, w =>
  (Region.ready md ops listed = [] → Q .normal a w) ∧
  ∀ i ∈ Region.ready md ops listed, wpOp P ops Q i (fun a' w' => (i ∉ ds → S w → S w') ∧ gq P md ops Q S ds fuel (listed.setIfInBounds i true) a' w') a w

theorem aaD : ∀ (fuel : Nat) (listed : Array Bool) (a : Act) (w : World), gq P md ops Q S ds fuel listed a w → wpAny P md ops Q fuel listed a w
 | 0, _, _, _, h => h
 | fuel + 1, _, _, _, h => ⟨h.1, fun i hi => wpOp_mono (fun a' w' h' => aaD fuel _ a' w' h'.2) (h.2 i hi)⟩

theorem ajA {i : Nat} {oi : Oper} {v : Value} (hi : ops[i]? = some oi) (hsel : ∀ (j : Nat) (o : Oper) cs b, ops[j]? = some o → o.op ≠ .select cs b)
  (hQ : ∀ c a w, Q (.panic c) (a.put oi.dst v) w → Q (.panic c) a w) (n : Nat) :
  ∀ (fuel : Nat) (listed : Array Bool) (a : Act) (w : World),
   (∀ j oj, ops[j]? = some oj → j ≠ i → listed.getD j true = false → (∀ e ∈ oj.after, Region.binds md e = true → e.on ≠ i) → oi.apart ops oj = true) →
   EA md ops listed → (∀ d ∈ ds, listed.getD d true = false → Region.xz md ops i n d = true) →
   i ∈ Region.ready md ops listed → YieldsIf P ops S oi v a → S w →
   gq P md ops Q S ds fuel (listed.setIfInBounds i true) (a.put oi.dst v) w → gq P md ops Q S ds (fuel + 1) listed a w := by
 intro fuel
 induction fuel with
 | zero =>
  intro listed a w _ _ _ hr hy hS H;refine ⟨fun h => (by rw [h] at hr; cases hr), fun j hj => ?_⟩;by_cases hji : j = i
  ·subst hji; exact hy.wpOp hi hS ⟨fun _ h => h, H⟩
  ·have := ready_mono hj hji;rw [H.1] at this;cases this
 | succ fuel ih =>
  intro listed a w hfree hc hd hr hy hS H;refine ⟨fun h => (by rw [h] at hr; cases hr), fun j hj => ?_⟩;by_cases hji : j = i
  ·subst hji; exact hy.wpOp hi hS ⟨fun _ h => h, H⟩
  ·have h1 := H.2 j (ready_mono hj hji);obtain ⟨hjun, oj, hoj, hall⟩ := mem_ready.1 hj;have G8 := (mem_ready.1 hr).1;have hnot : ∀ e ∈ oj.after, Region.binds md e = true → e.on ≠ i := fun e he hb heq => by
    have h1 := hall e he hb;rw [heq] at h1;rcases Nat.lt_or_ge i listed.size with h' | h'
    ·simp [h'] at G8 h1; rw [G8] at h1; cases h1
    ·simp [Array.getElem?_eq_none h'] at h1
   have hjd : j ∉ ds := fun hm => Region.ajz hc (hd j hm hjun) G8 hj;have h2 := wpOp_putIf hoj (hfree j oj hoj hji hjun hnot) (fun cs b => hsel i oi cs b hi) (fun cs b => hsel j oj cs b hoj) hQ hy h1;have hfree' : ∀ k ok, ops[k]? = some ok → k ≠ i → (listed.setIfInBounds j true).getD k true = false →
     (∀ e ∈ ok.after, Region.binds md e = true → e.on ≠ i) → oi.apart ops ok = true := fun k ok hk hki hun hno => by
    refine hfree k ok hk hki ?_ hno;by_cases hjk : j = k
    ·subst hjk; exact hjun
    ·rw [getD_set_ne true hjk] at hun; exact hun
   have hd' : ∀ d ∈ ds, (listed.setIfInBounds j true).getD d true = false → Region.xz md ops i n d = true := fun d hm hun => by
    refine hd d hm ?_;by_cases hjk : j = d
    ·subst hjk; exact hjun
    ·rw [getD_set_ne true hjk] at hun; exact hun
   refine wpOp_mono (fun a' w' h3 => ⟨h3.2.1, ih (listed.setIfInBounds j true) a' w' hfree' (hc.set hj) hd' (ready_mono hr (Ne.symm hji)) h3.1 (h3.2.1 hjd hS) ?_⟩) h2;rw [Array.setIfInBounds_comm _ _ hji];exact h3.2.2

theorem ajB {i : Nat} {oi : Oper} {v : Value} (hi : ops[i]? = some oi) (hsel : ∀ (j : Nat) (o : Oper) cs b, ops[j]? = some o → o.op ≠ .select cs b)
  (hQ : ∀ c a w, Q (.panic c) (a.put oi.dst v) w → Q (.panic c) a w) :
  ∀ (fuel : Nat) (listed : Array Bool) (a : Act) (w : World),
   (∀ j oj, ops[j]? = some oj → j ≠ i → listed.getD j true = false → (∀ e ∈ oj.after, Region.binds md e = true → e.on ≠ i) → oi.apart ops oj = true) →
   i ∈ Region.ready md ops listed → Yields P ops oi v a →
   gq P md ops Q S ds fuel (listed.setIfInBounds i true) (a.put oi.dst v) w → gq P md ops Q S ds (fuel + 1) listed a w := by
 intro fuel
 induction fuel with
 | zero =>
  intro listed a w _ hr hy H;refine ⟨fun h => (by rw [h] at hr; cases hr), fun j hj => ?_⟩;by_cases hji : j = i
  ·subst hji; exact (hy.yieldsIf (S := fun _ => True)).wpOp hi trivial ⟨fun _ h => h, H⟩
  ·have := ready_mono hj hji;rw [H.1] at this;cases this
 | succ fuel ih =>
  intro listed a w hfree hr hy H;refine ⟨fun h => (by rw [h] at hr; cases hr), fun j hj => ?_⟩;by_cases hji : j = i
  ·subst hji; exact (hy.yieldsIf (S := fun _ => True)).wpOp hi trivial ⟨fun _ h => h, H⟩
  ·have h1 := H.2 j (ready_mono hj hji);obtain ⟨hjun, oj, hoj, hall⟩ := mem_ready.1 hj;have G8 := (mem_ready.1 hr).1;have hnot : ∀ e ∈ oj.after, Region.binds md e = true → e.on ≠ i := fun e he hb heq => by
    have h1 := hall e he hb;rw [heq] at h1;rcases Nat.lt_or_ge i listed.size with h' | h'
    ·simp [h'] at G8 h1; rw [G8] at h1; cases h1
    ·simp [Array.getElem?_eq_none h'] at h1
   have h2 := wpOp_put hoj (hfree j oj hoj hji hjun hnot) (fun cs b => hsel i oi cs b hi) (fun cs b => hsel j oj cs b hoj) hQ hy h1;have hfree' : ∀ k ok, ops[k]? = some ok → k ≠ i → (listed.setIfInBounds j true).getD k true = false →
     (∀ e ∈ ok.after, Region.binds md e = true → e.on ≠ i) → oi.apart ops ok = true := fun k ok hk hki hun hno => by
    refine hfree k ok hk hki ?_ hno;by_cases hjk : j = k
    ·subst hjk; exact hjun
    ·rw [getD_set_ne true hjk] at hun; exact hun
   refine wpOp_mono (fun a' w' h3 => ⟨h3.2.1, ih (listed.setIfInBounds j true) a' w' hfree' (ready_mono hr (Ne.symm hji)) h3.1 ?_⟩) h2;rw [Array.setIfInBounds_comm _ _ hji];exact h3.2.2

theorem ajC {i : Nat} {oi : Oper} {v : Value} {fuel : Nat} {listed : Array Bool} {a : Act} {w : World} (hi : ops[i]? = some oi)
  (hs : Region.noSelect ops = true) (hf : Region.free md ops listed i = true) (hr : (Region.ready md ops listed).contains i = true)
  (hc : Region.JP md ops listed = true) (hl : Region.lastB md ops listed ds i = true)
  (hQ : ∀ c a w, Q (.panic c) (a.put oi.dst v) w → Q (.panic c) a w) (hy : YieldsIf P ops S oi v a) (hS : S w)
  (h : gq P md ops Q S ds fuel (listed.setIfInBounds i true) (a.put oi.dst v) w) : gq P md ops Q S ds (fuel + 1) listed a w :=
 ajA hi (Region.noSelect_spec hs) hQ ops.size fuel listed a w (Region.free_spec hi hf) (Region.ajy hc)
  (fun d hm hun => by have := List.all_eq_true.1 hl d hm; rw [hun] at this; simpa using this) (by simpa using hr) hy hS h

theorem ajD {rs : List Nat} {fuel : Nat} {listed : Array Bool} {a : Act} {w : World} (hr : Region.ready md ops listed = rs) (hne : rs ≠ [])
  (h : ∀ i ∈ rs, wpOp P ops Q i (fun a' w' => (i ∉ ds → S w → S w') ∧ gq P md ops Q S ds fuel (listed.setIfInBounds i true) a' w') a w) : gq P md ops Q S ds (fuel + 1) listed a w :=
 ⟨fun h0 => absurd (hr ▸ h0) hne, hr ▸ h⟩

theorem ajE {listed : Array Bool} {a : Act} {w : World} (hr : Region.ready md ops listed = []) (h : Q .normal a w) :
  ∀ fuel, gq P md ops Q S ds fuel listed a w
 | 0 => ⟨hr, h⟩
 | _ + 1 => ⟨fun _ => h, by rw [hr]; simp⟩

theorem ajF {id : Nat} {a : Act} {w : World} (hm : P.follows .mixedOrders = true)
  (h : gq P .any ops Q S ds ops.size (Array.replicate ops.size false) a { w with drawn := w.drawn + 1 }) : (Code.region id ops true).wp P Q a w :=
 wp_region_any hm (aaD _ _ _ _ h)

end

section
variable {P : Program} {ops : Array Oper} {Q : Exit → Act → World → Prop} {md : Region.Mode} {S : World → Prop} {ds : List Nat}

def vZ (P : Program) (md : Region.Mode) (ops : Array Oper) (Q : Exit → Act → World → Prop) (S : World → Prop) (ds : List Nat) (fuel : Nat) (listed : Array Bool) (a : Act) (w : World) (rs : List Nat) : Prop :=
 ∀ i ∈ rs, wpOp P ops Q i (fun a' w' => (i ∉ ds → S w → S w') ∧ gq P md ops Q S ds fuel (listed.setIfInBounds i true) a' w') a w
theorem vZ.nil {fuel : Nat} {listed : Array Bool} {a : Act} {w : World} : vZ P md ops Q S ds fuel listed a w [] := fun _ h => by cases h
theorem vZ.cons {fuel : Nat} {listed : Array Bool} {a : Act} {w : World} {i : Nat} {o : Oper} {rs : List Nat} (ho : ops[i]? = some o) (hd : i ∉ ds)
  (h : ∀ K' : Act → World → Prop, Shut (∀ a w, S w → (S w → gq P md ops Q S ds fuel (listed.setIfInBounds i true) a w) → K' a w) → if Region.wanted o (yielded ops a.tmps) = true then Oper.wp P o a w K' Q else K' (a.put o.dst undef) w)
  (hs : vZ P md ops Q S ds fuel listed a w rs) : vZ P md ops Q S ds fuel listed a w (i :: rs) := fun j hj => by
 rcases List.mem_cons.1 hj with rfl | hj
 ·exact wpOp_step ho (fun K' hK => h K' (fun a w hS hW => hK a w ⟨fun _ _ => hS, hW hS⟩))
 ·exact hs j hj
theorem vZ.ajG {fuel : Nat} {listed : Array Bool} {a : Act} {w : World} {i : Nat} {o : Oper} {rs : List Nat} (ho : ops[i]? = some o) (hd : i ∈ ds)
  (h : ∀ K' : Act → World → Prop, Shut (∀ a w, gq P md ops Q S ds fuel (listed.setIfInBounds i true) a w → K' a w) → if Region.wanted o (yielded ops a.tmps) = true then Oper.wp P o a w K' Q else K' (a.put o.dst undef) w)
  (hs : vZ P md ops Q S ds fuel listed a w rs) : vZ P md ops Q S ds fuel listed a w (i :: rs) := fun j hj => by
 rcases List.mem_cons.1 hj with rfl | hj
 ·exact wpOp_step ho (fun K' hK => h K' (fun a w hW => hK a w ⟨fun hn => absurd hd hn, hW⟩))
 ·exact hs j hj
theorem aaE {rs : List Nat} {fuel : Nat} {listed : Array Bool} {a : Act} {w : World} (hr : Region.ready md ops listed = rs) (hne : rs ≠ [])
  (h : vZ P md ops Q S ds fuel listed a w rs) : gq P md ops Q S ds (fuel + 1) listed a w := ajD hr hne h
theorem iP {id n : Nat} {a : Act} {w : World} (l : Array Bool) (hm : P.follows .mixedOrders = true) (hn : ops.size = n) (hl : Array.replicate n false = l) (hS : S w.drew)
  (h : S w.drew → gq P .any ops Q S ds n l a w.drew) : (Code.region id ops true).wp P Q a w := by
 subst hn;subst hl;exact ajF hm (h hS)
def takeB (md : Region.Mode) (ops : Array Oper) (ds : List Nat) (l l' : Array Bool) (i : Nat) : Bool :=
 Region.noSelect ops && Region.free md ops l i && (Region.ready md ops l).contains i && Region.JP md ops l && Region.lastB md ops l ds i && (l.setIfInBounds i true == l')
theorem Tw {i : Nat} {N : Option Tmp} {oi : Oper} {v : Value} {fuel : Nat} {l : Array Bool} {a : Act} {w : World} (l' : Array Bool) (hi : ops[i]? = some oi) (hN : oi.dst = N) (hc : takeB md ops ds l l' i = true)
  (hQ : ∀ c a w, Q (.panic c) (a.put oi.dst v) w → Q (.panic c) a w) (hy : YieldsIf P ops S oi v a) (hS : S w) {a' : Act} (ha : a.put N v = a')
  (h : gq P md ops Q S ds fuel l' a' w) : gq P md ops Q S ds (fuel + 1) l a w := by
 subst ha;subst hN;simp only [takeB, Bool.and_eq_true, beq_iff_eq] at hc;obtain ⟨⟨⟨⟨⟨h1, h2⟩, h3⟩, h4⟩, h5⟩, h6⟩ := hc;subst h6;exact ajC hi h1 h2 h3 h4 h5 hQ hy hS h
def NR (md : Region.Mode) (ops : Array Oper) (l l' : Array Bool) (i : Nat) : Bool :=
 Region.noSelect ops && Region.free md ops l i && (Region.ready md ops l).contains i && (l.setIfInBounds i true == l')
theorem aaF {i : Nat} {N : Option Tmp} {oi : Oper} {v : Value} {fuel : Nat} {l : Array Bool} {a : Act} {w : World} (l' : Array Bool) (hi : ops[i]? = some oi) (hN : oi.dst = N) (hc : NR md ops l l' i = true)
  (hQ : ∀ c a w, Q (.panic c) (a.put oi.dst v) w → Q (.panic c) a w) (hy : Yields P ops oi v a) {a' : Act} (ha : a.put N v = a')
  (h : gq P md ops Q S ds fuel l' a' w) : gq P md ops Q S ds (fuel + 1) l a w := by
 subst ha;subst hN;simp only [NR, Bool.and_eq_true, beq_iff_eq] at hc;obtain ⟨⟨⟨h1, h2⟩, h3⟩, h6⟩ := hc;subst h6;exact ajB hi (Region.noSelect_spec h1) hQ fuel l a w (Region.free_spec hi h2) (by simpa using h3) hy h
def G9 (md : Region.Mode) (ops : Array Oper) (l l' : Array Bool) (i : Nat) : Bool := (Region.ready md ops l == [i]) && (l.setIfInBounds i true == l')
theorem gV {i : Nat} {N : Option Tmp} {oi : Oper} {fuel : Nat} {l : Array Bool} {a : Act} {w : World} (l' : Array Bool) (hi : ops[i]? = some oi) (hN : oi.dst = N) (hc : G9 md ops l l' i = true) (hd : i ∉ ds)
  (h : ∀ K : Act → World → Prop, Shut (∀ a' w', S w' → (S w' → gq P md ops Q S ds fuel l' a' w') → K a' w') → if Region.wanted oi (yielded ops a.tmps) = true then Oper.wp P oi a w K Q else K (a.put N undef) w) :
  gq P md ops Q S ds (fuel + 1) l a w := by
 subst hN;simp only [G9, Bool.and_eq_true, beq_iff_eq] at hc;obtain ⟨h1, h2⟩ := hc;subst h2;exact aaE h1 (by simp) (vZ.cons hi hd (fun K hK => h K hK) vZ.nil)
theorem kV {i : Nat} {N : Option Tmp} {oi : Oper} {fuel : Nat} {l : Array Bool} {a : Act} {w : World} (l' : Array Bool) (hi : ops[i]? = some oi) (hN : oi.dst = N) (hc : G9 md ops l l' i = true) (hd : i ∈ ds)
  (h : ∀ K : Act → World → Prop, Shut (∀ a' w', gq P md ops Q S ds fuel l' a' w' → K a' w') → if Region.wanted oi (yielded ops a.tmps) = true then Oper.wp P oi a w K Q else K (a.put N undef) w) :
  gq P md ops Q S ds (fuel + 1) l a w := by
 subst hN;simp only [G9, Bool.and_eq_true, beq_iff_eq] at hc;obtain ⟨h1, h2⟩ := hc;subst h2;exact aaE h1 (by simp) (vZ.ajG hi hd (fun K hK => h K hK) vZ.nil)
theorem kD {l : Array Bool} {a : Act} {w : World} {n : Nat} (hr : (Region.ready md ops l == []) = true) (h : Q .normal a w) : gq P md ops Q S ds n l a w := ajE (by simpa using hr) h n
theorem gW {fuel : Nat} {l : Array Bool} {a a' : Act} {w : World} (ha : a = a') (h : gq P md ops Q S ds fuel l a' w) : gq P md ops Q S ds fuel l a w := by
 subst ha;exact h
theorem call_ {oi : Oper} {N : Option Tmp} {a : Act} {w : World} {K : Act → World → Prop} (f : FuncId) (args : Array Value) (hw : Region.wanted oi (yielded ops a.tmps) = true) (hN : oi.dst = N) (hrun : (execOp a.eval oi).run P w = .ok (.enter f args) w)
  (h : Calls P f args w fun e w' => ∃ v, e = .returned v ∧ K (a.put N v) w') : if Region.wanted oi (yielded ops a.tmps) = true then Oper.wp P oi a w K Q else K (a.put N undef) w := by
 rw [if_pos hw];subst hN;unfold Oper.wp;rw [hrun, Oper.upon_enter];refine h.mono fun e w'' hh => ?_;obtain ⟨v, rfl, hk⟩ := hh;exact hk
theorem aaG {f : FuncId} {fn : Func} (hf : P.funcs[f]? = some fn) (hname : (fn.name == "runtime.NumGoroutine") = false) (hb : fn.body.isSome = true) (args : Array Value) (w : World) : (callFunc f args).run P w = .ok (.enter f args) w := by
 have h1 : fn.name ≠ "runtime.NumGoroutine" := by simpa using hname
 obtain ⟨c, hc⟩ := Option.isSome_iff_exists.1 hb;simp [callFunc, hf, h1, hc]
theorem jT {oi : Oper} {N : Option Tmp} {a : Act} {w : World} {K : Act → World → Prop} {f : FuncId} {fn : Func} {as : Array Operand} {ts : Array TypeId} (hf : P.funcs[f]? = some fn) (hname : (fn.name == "runtime.NumGoroutine") = false) (hb : fn.body.isSome = true) (args : Array Value)
  (hw : Region.wanted oi (yielded ops a.tmps) = true) (hN : oi.dst = N) (hop : oi.op = .call { callee := .value (.func f), args := as, argTypes := ts }) (hargs : as.map a.eval = args)
  (h : Calls P f args w fun e w' => ∃ v, e = .returned v ∧ K (a.put N v) w') : if Region.wanted oi (yielded ops a.tmps) = true then Oper.wp P oi a w K Q else K (a.put N undef) w := by
 refine call_ f args hw hN ?_ h;have he := aaG hf hname hb args w;unfold execOp;simp [hop, resolve, Deferred.ofValue, invoke, Act.eval, hargs, he]
theorem kW {rest : List Oper} {oi : Oper} {a : Act} {w : World} (N : Option Tmp) (hd : oi.dst = N) (hg : oi.guard = none) {f : FuncId} {fn : Func} {as : Array Operand} {ts : Array TypeId} (hf : P.funcs[f]? = some fn) (hname : (fn.name == "runtime.NumGoroutine") = false) (hb : fn.body.isSome = true) (args : Array Value)
  (hop : oi.op = .call { callee := .value (.func f), args := as, argTypes := ts }) (hargs : as.map a.eval = args)
  (h : Calls P f args w fun e w' => ∃ v, e = .returned v ∧ wpList P ops Q rest (a.put N v) w') : wpList P ops Q (oi :: rest) a w := by
 refine wpList_plain hg fun K hK => ?_;have he := aaG hf hname hb args w;have hrun : (execOp a.eval oi).run P w = .ok (.enter f args) w := by
  unfold execOp;simp [hop, resolve, Deferred.ofValue, invoke, Act.eval, hargs, he]
 unfold Oper.wp;rw [hrun, Oper.upon_enter];refine h.mono fun e w'' hh => ?_;obtain ⟨v, rfl, hk⟩ := hh;subst hd;exact hK _ _ hk
theorem dQ {oi : Oper} {N : Option Tmp} {a : Act} {w w1 : World} {v : Value} {K : Act → World → Prop} (hw : Region.wanted oi (yielded ops a.tmps) = true) (hN : oi.dst = N) (hrun : (execOp a.eval oi).run P w = .ok (.value v) w1)
  (h : K (a.put N v) w1) : if Region.wanted oi (yielded ops a.tmps) = true then Oper.wp P oi a w K Q else K (a.put N undef) w := by
 rw [if_pos hw];subst hN;unfold Oper.wp;rw [hrun];exact h
theorem iQ {oi : Oper} {a : Act} {w w1 : World} {K : Act → World → Prop} (hw : Region.wanted oi (yielded ops a.tmps) = true) (hN : oi.dst = none) (hrun : (execOp a.eval oi).run P w = .ok .skip w1)
  (h : K a w1) : if Region.wanted oi (yielded ops a.tmps) = true then Oper.wp P oi a w K Q else K (a.put none undef) w := by
 rw [if_pos hw];unfold Oper.wp;rw [hrun];show K (a.put oi.dst undef) w1;rw [hN];exact h
theorem bE (n : Int) : IntKind.i64.wrap n = Go.RowKit.wrap64 n := by unfold Go.RowKit.wrap64; exact IntKind.wrap_i64 n
theorem dS (n : Int) : IntKind.i32.wrap n = Go.RowKit.wrap32 n := by unfold Go.RowKit.wrap32; exact IntKind.wrap_i32 n
end
open Go.Proofs.aI.bM (Zd)
def Ha (md : Region.Mode) (o : Oper) : List Nat := (o.after.toList.filter (fun e => Region.binds md e)).map (fun e => e.on)
def TJ (md : Region.Mode) (ops : Array Oper) (i : Nat) (oi : Oper) : List Nat := (List.range ops.size).filter fun j => !(j == i) && match ops[j]? with
 | some oj => !(oj.after.any (fun e => Region.binds md e && e.on == i) || oi.apart ops oj)
 | none => false
def dh (md : Region.Mode) (ops : Array Oper) : Bool × List (List Nat × List Nat) := (Region.noSelect ops, (List.range ops.size).map fun i => match ops[i]? with
 | some o => (Ha md o, TJ md ops i o)
 | none => ([], []))
def zN (T : List (List Nat × List Nat)) (l : List Bool) (i : Nat) : Bool := !l.getD i true && match T[i]? with
 | some r => r.1.all (fun j => l.getD j false)
 | none => false
def EB (T : List (List Nat × List Nat)) (l : List Bool) : List Nat := (List.range T.length).filter (zN T l)
def JQ (T : List (List Nat × List Nat)) (l : List Bool) (i : Nat) : Bool := match T[i]? with
 | some r => r.2.all (fun j => l.getD j true)
 | none => false
def NS (T : List (List Nat × List Nat)) (l : List Bool) : Bool := (List.range T.length).all fun j => !l.getD j false || match T[j]? with
 | some r => r.1.all (fun k => l.getD k false)
 | none => true
def Hd (T : List (List Nat × List Nat)) (i : Nat) : Nat → Nat → Bool
 | 0, _ => false
 | fuel + 1, d => match T[d]? with
  | some r => r.1.any fun j => j == i || Hd T i fuel j
  | none => false
def lastT (T : List (List Nat × List Nat)) (l : List Bool) (ds : List Nat) (i : Nat) : Bool := ds.all fun d => l.getD d true || Hd T i T.length d
section
variable {md : Region.Mode} {ops : Array Oper} {T : Bool × List (List Nat × List Nat)} {l l' li lj lk : Array Bool} {ds : List Nat} {i j k : Nat}
theorem gd (l : Array Bool) (j : Nat) (b : Bool) : l.getD j b = l.toList.getD j b := by simp [Array.getD_eq_getD_getElem?, List.getD_eq_getElem?_getD]
theorem aaH (o : Oper) (p : Nat → Bool) : o.after.all (fun e => !Region.binds md e || p e.on) = (Ha md o).all p := by
 unfold Ha;rw [← Array.all_toList]
 induction o.after.toList with
 | nil => rfl
 | cons e r ih =>
  rw [List.all_cons, ih, List.filter_cons];cases h : Region.binds md e <;> simp
theorem ajH (o : Oper) (p : Nat → Bool) : o.after.any (fun e => Region.binds md e && p e.on) = (Ha md o).any p := by
 unfold Ha;rw [← Array.any_toList]
 induction o.after.toList with
 | nil => rfl
 | cons e r ih =>
  rw [List.any_cons, ih, List.filter_cons];cases h : Region.binds md e <;> simp
theorem NT : (dh md ops).2.length = ops.size := by simp [dh]
theorem NU {o : Oper} (h : ops[i]? = some o) : (dh md ops).2[i]? = some (Ha md o, TJ md ops i o) := by
 have hi := (Array.getElem?_eq_some_iff.1 h).1;unfold dh;rw [List.getElem?_map, List.getElem?_range hi, Option.map_some, h]
theorem NV (h : ops[i]? = none) : (dh md ops).2[i]? = none := by
 have hi : ops.size ≤ i := Array.getElem?_eq_none_iff.1 h;exact List.getElem?_eq_none (by rw [NT]; exact hi)
theorem ajI : zN (dh md ops).2 l.toList i = (!l.getD i true && ((ops[i]?).map (·.after.all fun e => !Region.binds md e || l.getD e.on false)).getD false) := by
 unfold zN;rw [gd];cases h : ops[i]? with
 | none => rw [NV h]; rfl
 | some o =>
  rw [NU h];simp only [Option.map_some, Option.getD_some];rw [← aaH];simp only [gd]
theorem ready_eq : Region.ready md ops l = EB (dh md ops).2 l.toList := by
 unfold Region.ready EB;rw [NT];refine List.filter_congr (fun i _ => ?_);rw [ajI]
theorem free_eq : Region.free md ops l i = JQ (dh md ops).2 l.toList i := by
 unfold Region.free JQ;cases h : ops[i]? with
 | none => rw [NV h]
 | some oi =>
  rw [NU h];simp only [TJ];rw [List.all_filter];congr 1
  funext j
  rw [gd];cases hj : ops[j]? with
  | none => cases (j == i) <;> cases (l.toList.getD j true) <;> simp
  | some oj =>
   cases (j == i) <;> cases (l.toList.getD j true) <;> cases (oj.after.any (fun e => Region.binds md e && e.on == i) || oi.apart ops oj) <;> simp_all
theorem ajJ : Region.JP md ops l = NS (dh md ops).2 l.toList := by
 unfold Region.JP NS;rw [NT];congr 1
 funext j
 rw [gd];cases h : ops[j]? with
 | none => rw [NV h]
 | some o =>
  rw [NU h];simp only;rw [← aaH];simp only [gd]
theorem aaI : ∀ (fuel d : Nat), Region.xz md ops i fuel d = Hd (dh md ops).2 i fuel d
 | 0, _ => rfl
 | fuel + 1, d => by
  unfold Region.xz Hd;cases h : ops[d]? with
  | none => rw [NV h]
  | some o =>
   rw [NU h];simp only;rw [← ajH];congr 1
   funext e
   rw [aaI fuel]
theorem ajK : Region.lastB md ops l ds i = lastT (dh md ops).2 l.toList ds i := by
 unfold Region.lastB lastT;rw [NT];congr 1
 funext d
 rw [gd, aaI]
theorem aaJ (h : zN T.2 l.toList i = true) (hT : dh md ops = T) : (Region.ready md ops l).contains i = true := by
 subst hT;rw [ready_eq];unfold EB;rw [List.contains_iff_mem, List.mem_filter, List.mem_range];refine ⟨?_, h⟩;unfold zN at h;rw [Bool.and_eq_true] at h;cases hq : (dh md ops).2[i]? with
 | none => rw [hq] at h; simp at h
 | some r => exact (List.getElem?_eq_some_iff.1 hq).1
theorem TK (h : (l.toList.set i true == l'.toList) = true) : (l.setIfInBounds i true == l') = true := by
 rw [beq_iff_eq] at h ⊢;apply Array.ext';rw [Array.toList_setIfInBounds];exact h
def NW (T : Bool × List (List Nat × List Nat)) (l l' : List Bool) (i : Nat) : Bool := T.1 && JQ T.2 l i && zN T.2 l i && (l.set i true == l')
theorem aaK (hT : dh md ops = T) (h : NW T l.toList l'.toList i = true) : NR md ops l l' i = true := by
 simp only [NW, Bool.and_eq_true] at h;obtain ⟨⟨⟨h1, h2⟩, h3⟩, h4⟩ := h;have h5 := aaJ h3 hT;have h6 := TK h4;subst hT;simp only [NR, Bool.and_eq_true];exact ⟨⟨⟨h1, by rw [free_eq]; exact h2⟩, h5⟩, h6⟩
def TL (T : Bool × List (List Nat × List Nat)) (ds : List Nat) (l l' : List Bool) (i : Nat) : Bool := T.1 && JQ T.2 l i && zN T.2 l i && NS T.2 l && lastT T.2 l ds i && (l.set i true == l')
theorem ajL (hT : dh md ops = T) (h : TL T ds l.toList l'.toList i = true) : takeB md ops ds l l' i = true := by
 simp only [TL, Bool.and_eq_true] at h;obtain ⟨⟨⟨⟨⟨h1, h2⟩, h3⟩, h4⟩, h5⟩, h6⟩ := h;have h7 := aaJ h3 hT;have h8 := TK h6;subst hT;simp only [takeB, Bool.and_eq_true];exact ⟨⟨⟨⟨⟨h1, by rw [free_eq]; exact h2⟩, h7⟩, by rw [ajJ]; exact h4⟩, by rw [ajK]; exact h5⟩, h8⟩
theorem di (hT : dh md ops = T) (h : (EB T.2 l.toList == [i] && l.toList.set i true == l'.toList) = true) : G9 md ops l l' i = true := by
 simp only [Bool.and_eq_true] at h;obtain ⟨h1, h2⟩ := h;subst hT;simp only [G9, Bool.and_eq_true];exact ⟨by rw [ready_eq]; exact h1, TK h2⟩
theorem kE (hT : dh md ops = T) (h : (EB T.2 l.toList == []) = true) : (Region.ready md ops l == []) = true := by
 subst hT;rw [ready_eq];exact h
def xA (B : List Nat) (d : Nat) : List Nat → Nat
 | [] => 0
 | n :: r => (2 ^ n ||| (if n < d then B.getD n 0 else 0)) ||| xA B d r
def ik (T : List (List Nat × List Nat)) (B : List Nat) : Bool := (List.range T.length).all fun d => match T[d]? with
 | some r => (B.getD d 0 ||| xA B d r.1) == xA B d r.1
 | none => false
theorem EC {B : List Nat} {d i : Nat} : ∀ {ns : List Nat}, (xA B d ns).testBit i = true → ∃ n ∈ ns, n = i ∨ (n < d ∧ (B.getD n 0).testBit i = true)
 | [], h => by simp [xA] at h
 | n :: r, h => by
  unfold xA at h;rw [Nat.testBit_or, Nat.testBit_or, Bool.or_eq_true, Bool.or_eq_true] at h;rcases h with (h | h) | h
  ·rw [Nat.testBit_two_pow] at h;exact ⟨n, List.mem_cons_self, .inl (by simpa using h)⟩
  ·by_cases hn : n < d
   ·rw [if_pos hn] at h;exact ⟨n, List.mem_cons_self, .inr ⟨hn, h⟩⟩
   ·rw [if_neg hn] at h;simp at h
  ·obtain ⟨m, hm, h2⟩ := EC h;exact ⟨m, List.mem_cons_of_mem _ hm, h2⟩
theorem aaL {T : List (List Nat × List Nat)} {B : List Nat} (hB : ik T B = true) : ∀ (fuel d : Nat), d < fuel → d < T.length → (B.getD d 0).testBit i = true → Hd T i fuel d = true
 | 0, d, h, _, _ => by omega
 | fuel + 1, d, h, hd, hb => by
  have h1 := List.all_eq_true.1 hB d (List.mem_range.2 hd);cases hr : T[d]? with
  | none => rw [hr] at h1; simp at h1
  | some r =>
   rw [hr] at h1;simp only [beq_iff_eq] at h1;have h2 : (xA B d r.1).testBit i = true := by rw [← h1, Nat.testBit_or, hb, Bool.true_or]
   obtain ⟨n, hn, h3⟩ := EC h2;unfold Hd;rw [hr];simp only;rw [List.any_eq_true];refine ⟨n, hn, ?_⟩;rcases h3 with rfl | ⟨h4, h5⟩
   ·simp
   ·rw [aaL hB fuel n ag ag h5, Bool.or_true]
def aaM (T : List (List Nat × List Nat)) (B : List Nat) (l : List Bool) (ds : List Nat) (i : Nat) : Bool := ds.all fun d => l.getD d true || (decide (d < T.length) && (B.getD d 0).testBit i)
def TM (T : Bool × List (List Nat × List Nat)) (B : List Nat) (ds : List Nat) (l l' : List Bool) (i : Nat) : Bool := T.1 && JQ T.2 l i && zN T.2 l i && NS T.2 l && aaM T.2 B l ds i && (l.set i true == l')
theorem ajM {B : List Nat} (hT : dh md ops = T) (hB : ik T.2 B = true) (h : TM T B ds l.toList l'.toList i = true) : takeB md ops ds l l' i = true := by
 refine ajL hT ?_;simp only [TM, TL, Bool.and_eq_true] at h ⊢;obtain ⟨⟨⟨⟨⟨h1, h2⟩, h3⟩, h4⟩, h5⟩, h6⟩ := h;refine ⟨⟨⟨⟨⟨h1, h2⟩, h3⟩, h4⟩, ?_⟩, h6⟩;unfold aaM at h5;unfold lastT;rw [List.all_eq_true] at h5 ⊢;intro d hd;have h7 := h5 d hd;rw [Bool.or_eq_true, Bool.and_eq_true, decide_eq_true_eq] at h7;rcases h7 with h7 | ⟨h8, h9⟩
 ·rw [h7, Bool.true_or]
 ·rw [aaL hB _ d h8 h8 h9, Bool.or_true]
theorem iR {P : Program} {Q : Exit → Act → World → Prop} {S : World → Prop} {n : Nat} {a : Act} {w : World} {B : List Nat} (hT : dh md ops = T) (hB : ik T.2 B = true) (h : Zd (dh md ops = T) → Zd (ik T.2 B = true) → gq P md ops Q S ds n l a w) : gq P md ops Q S ds n l a w := h ⟨hT⟩ ⟨hB⟩
end
def zO : Code → Nat → Option (Array Oper)
 | .region id ops _, k => if id == k then some ops else none
 | .seq a b, k => match zO a k with
  | some o => some o
  | none => zO b k
 | .cond _ a b, k => match zO a k with
  | some o => some o
  | none => zO b k
 | .block _ c, k => zO c k
 | .loop c, k => zO c k
 | .scope c, k => zO c k
 | .rangeFunc _ _ a b, k => match zO a k with
  | some o => some o
  | none => zO b k
 | _, _ => none
def opsOf (f : Func) (k : Nat) : Array Oper := ((f.body.bind fun c => zO c k)).getD #[]
end Go.Proofs.aI.dG
namespace Go.Proofs.aI.dG
end Go.Proofs.aI.dG
namespace Go.Proofs.aI.bM
namespace Kd
end Kd
end Go.Proofs.aI.bM
namespace Go.Proofs.aI.bM
open Go.RowKit
namespace Kd
def tag {α : Type} (f : Nat → Nat) (d : Kd α) : Kd (α × Nat) where
  sz := d.sz
  E := d.E
  K := fun w x cs => d.K w x.1 cs
  M := fun w base ok x cs => d.M w base (fun k => ok k ∧ f k = x.2) x.1 cs
  lI := fun h => d.lI h
  kC := fun h => d.kC h
  pE := fun hb h => d.pE hb h
  iN := fun h => d.iN h
  gM := fun hok h => d.gM (fun k hk => ⟨hok k hk.1, hk.2⟩) h
  mU := fun h => d.gM (fun _ hk => ⟨⟨hk.1.1, hk.2⟩, hk.1.2⟩) (d.mU h)
  lJ := fun hm h => d.lJ (fun k hk => hm k hk.1) h
  qF := fun hb h => d.qF hb h
def bare {α : Type} (d : Kd α) : Kd α where
  sz := d.sz
  E := d.E
  K := d.K
  M := fun w base _ x cs => d.M w base (fun _ => False) x cs
  lI := fun h => d.lI h
  kC := fun h => d.kC h
  pE := fun hb h => d.pE hb h
  iN := fun h => d.iN h
  gM := fun _ h => h
  mU := fun h => h
  lJ := fun _ h => d.lJ (fun _ hk => hk.elim) h
  qF := fun hb h => d.qF hb h
def raw (sz : Nat) : Kd (List Value) where
  sz := sz
  E := []
  K := fun _ x cs => cs = x ∧ cs.length = sz ∧ ∀ u ∈ cs, u.oneCell' = true
  M := fun _ _ _ x cs => cs = x ∧ cs.length = sz ∧ ∀ u ∈ cs, u.oneCell' = true
  lI := fun h => h.2.1
  kC := fun h => h.2.2
  pE := fun _ h => h
  iN := fun h => h
  gM := fun _ h => h
  mU := fun h => h
  lJ := fun _ h => h
  qF := fun _ h => h
def S {α : Type} (d : Kd α) (e : Nat) (w : World) (base : Nat) (ok : Nat → Prop) (v : Value) (xs : List α) : Prop := ∃ f, (tag f d).R e w base ok v xs.zipIdx
section
variable {α β : Type} {d : Kd α} {d' : Kd β} {e e' : Nat} {w w1 W : World} {base b : Nat} {ok ok' okv oku : Nat → Prop} {u v : Value} {xs : List α} {ys : List β}
theorem CG {xs : List α} {j : Nat} {p : α} (h : xs[j]? = some p) : xs.zipIdx[j]? = some (p, j) := by rw [List.getElem?_zipIdx, h, Nat.zero_add]; rfl
theorem S_R (h : S d e w base ok v xs) : d.R e w base ok v xs := by
  obtain ⟨f, h0, inner, ho, hr⟩ := h;rw [List.length_zipIdx] at ho;exact ⟨h0, inner, ho, by have := hr.1; rw [List.length_zipIdx] at this; exact this, fun j p hj => d.gM (fun _ hk => hk.1) (hr.2 j (p, j) (CG hj))⟩
theorem aaN (hE : d.E = []) (h : d.R e w base ok v xs) : d.R e w base (fun k => some k = v.ownBlock) v xs := by
  obtain ⟨h0, inner, ho, hr⟩ := h;refine ⟨fun k hk => hk.symm, inner, ho, hr.pq (fun p c hp => d.gM (fun k hk => ?_) (d.mU hp))⟩;obtain ⟨_, _, _, q, hq, _⟩ := hk;rw [hE] at hq;cases hq
theorem TN (d : Kd α) (e : Nat) (w : World) (base : Nat) (ok : Nat → Prop) : S d e w base ok (.slice none 0 0) [] := ⟨fun _ => 0, lK _ _ _ _ _⟩
theorem aaO (h : S d e w base ok v xs) (hok : ∀ k, ok k → ok' k) : S d e w base ok' v xs := by
  obtain ⟨f, h⟩ := h;exact ⟨f, jd h hok⟩
theorem ajN (h : S d e w base ok v xs) : S d e w base (fun k => ok k ∧ base ≤ k ∧ k < w.heap.size ∧ ∃ q, q ∈ e :: d.E ∧ ∃ cells, w.heap[k]? = some (.cells cells q (0, 0))) v xs := by
  obtain ⟨f, h⟩ := h;exact ⟨f, xn h⟩
theorem ajO (h : S d e w base ok v xs) (hm : ∀ k, ok k → w1.heap[k]? = w.heap[k]?) : S d e w1 base ok v xs := by
  obtain ⟨f, h⟩ := h;exact ⟨f, JF h hm⟩
theorem aaP (h : S d e w base ok v xs) (hm : ∀ k, ok k → k < w.heap.size → w1.heap[k]? = w.heap[k]?) : S d e w1 base ok v xs :=
  aaO (ajO (ajN h) (fun k hk => hm k hk.1 hk.2.2.1)) (fun _ hk => hk.1)
theorem JR (h : S d e w base ok v xs) (hb : Below w.heap.size w w1) : S d e w1 base ok v xs := aaP h (fun k _ hk => hb.block k hk)
theorem ajP (h : (bare d).R e w base ok v xs) : S d e w base ok v xs := by
  obtain ⟨h0, inner, ho, hr⟩ := h;refine ⟨fun _ => 0, h0, inner, by rw [List.length_zipIdx]; exact ho, by rw [List.length_zipIdx]; exact hr.1, fun j p hj => ?_⟩;rw [List.getElem?_zipIdx, Nat.zero_add] at hj;obtain ⟨x, hx, rfl⟩ := Option.map_eq_some_iff.1 hj;exact d.gM (fun _ hk => hk.elim) (hr.2 j x hx)
end
section
variable {α β : Type} {d : Kd α} {d' : Kd β} {e e' g : Nat} {w w1 W : World} {base b : Nat} {ok ok' okv oku : Nat → Prop} {u v : Value} {xs : List α} {ys : List β}
end
section
open Classical in
variable {P : Program} {ops : Array Oper} {rest : List Oper} {o : Oper} {a : Act} {Q : Exit → Act → World → Prop} {Kc : Act → World → Prop} {α : Type}
end
def gap {α : Type} (f : Nat → Nat) (d : Kd α) (i : Nat) (c : List Value) : Kd (α × Nat) where
  sz := d.sz
  E := d.E
  K := fun w x cs => (x.2 = i → cs = c ∧ cs.length = d.sz ∧ ∀ u ∈ cs, u.oneCell' = true) ∧ (x.2 ≠ i → d.K w x.1 cs)
  M := fun w base ok x cs => (x.2 = i → cs = c ∧ cs.length = d.sz ∧ ∀ u ∈ cs, u.oneCell' = true) ∧ (x.2 ≠ i → d.M w base (fun k => ok k ∧ f k = x.2) x.1 cs)
  lI := fun {w x cs} h => by
    by_cases hx : x.2 = i
    · exact (h.1 hx).2.1
    · exact d.lI (h.2 hx)
  kC := fun {w x cs} h => by
    by_cases hx : x.2 = i
    · exact (h.1 hx).2.2
    · exact d.kC (h.2 hx)
  pE := fun hb h => ⟨h.1, fun hx => d.pE hb (h.2 hx)⟩
  iN := fun h => ⟨h.1, fun hx => d.iN (h.2 hx)⟩
  gM := fun hok h => ⟨h.1, fun hx => d.gM (fun k hk => ⟨hok k hk.1, hk.2⟩) (h.2 hx)⟩
  mU := fun h => ⟨h.1, fun hx => d.gM (fun _ hk => ⟨⟨hk.1.1, hk.2⟩, hk.1.2⟩) (d.mU (h.2 hx))⟩
  lJ := fun hm h => ⟨h.1, fun hx => d.lJ (fun k hk => hm k hk.1) (h.2 hx)⟩
  qF := fun hb h => ⟨h.1, fun hx => d.qF hb (h.2 hx)⟩
def H {α : Type} (d : Kd α) (e : Nat) (w : World) (base : Nat) (ok : Nat → Prop) (v : Value) (xs : List α) (i : Int) (gX : Nat → Prop) (c : List Value) : Prop :=
  (∀ k, gX k → ok k) ∧ ∃ f, (gap f d i.toNat c).R e w base (fun k => ok k ∧ ¬ gX k) v xs.zipIdx
section
variable {α β : Type} {d : Kd α} {e e' g n cap : Nat} {w w1 W : World} {base : Nat} {ok ok' gX okp : Nat → Prop} {u v : Value} {xs : List α} {i : Int} {c : List Value}
theorem aaQ (h : S d e W base ok (.slice (some ⟨g, 0, none⟩) n cap) xs) (z : α) (i : Int) (h0 : 0 ≤ i) (h1 : i < n) :
    ∃ (gX : Nat → Prop) (c : List Value), c.length = d.sz ∧ d.M W base gX (xs.getD i.toNat z) c ∧ (∀ j u, c[j]? = some u → W.cell? ⟨g, i.toNat * d.sz + j, none⟩ = some u) ∧ (∀ k, gX k → ok k ∧ k ≠ g) ∧ H d e W base ok (.slice (some ⟨g, 0, none⟩) n cap) xs i gX c := by
  obtain ⟨f, hR⟩ := h;have hn := (pI hR).1;rw [List.length_zipIdx] at hn;have hgo : some g = (Value.slice (some ⟨g, 0, none⟩) n cap).ownBlock := by simp [Value.ownBlock]
  obtain ⟨hok0, inner, ho, hr⟩ := hR;have hil : i.toNat < xs.length := by omega
  have hlen : inner.length = xs.length * d.sz := by have := hr.1; rw [List.length_zipIdx] at this; exact this
  have hseg : i.toNat * d.sz + d.sz ≤ inner.length := by rw [hlen, ← Nat.succ_mul]; exact Nat.mul_le_mul_right _ hil
  have hM := hr.2 i.toNat _ (CG (List.getElem?_eq_getElem hil));have hkg : ∀ k, some k ≠ (Value.slice (some ⟨g, 0, none⟩) n cap).ownBlock → k ≠ g := fun k hk he => hk (by rw [he]; exact hgo);refine ⟨fun k => (ok k ∧ k ≠ g) ∧ f k = i.toNat, (inner.drop (i.toNat * d.sz)).take d.sz, by rw [List.length_take, List.length_drop]; omega, ?_, fun j u hu => ?_, fun k hk => hk.1, fun k hk => hk.1.1, f, fun k hk => ⟨hok0 k hk, fun h2 => h2.1.2 ?_⟩, inner, ho, hr.1, fun m p hm => ?_⟩
  · rw [List.getD_eq_getElem?_getD, List.getElem?_eq_getElem hil]
    exact d.gM (fun k hk => ⟨⟨hk.1.1, hkg k hk.1.2⟩, hk.2⟩) hM
  · rw [List.getElem?_take] at hu
    split at hu
    · rw [List.getElem?_drop] at hu
      have := ho.cells (g := g) hgo.symm _ u hu
      rwa [add_plain] at this
    · cases hu
  · rw [← hgo] at hk; injection hk with hk; exact hk.symm
  · have hold := hr.2 m p hm
    have hp2 : p.2 = m := by
      rw [List.getElem?_zipIdx, Nat.zero_add] at hm;obtain ⟨q, _, rfl⟩ := Option.map_eq_some_iff.1 hm;rfl
    refine ⟨fun hx => ?_, fun hx => d.gM (fun k hk => ⟨⟨⟨hk.1.1, fun h2 => hx ?_⟩, hk.1.2⟩, hk.2⟩) hold⟩
    · have rE : m = i.toNat := by omega
      subst rE;exact ⟨rfl, d.lI (d.iN hM), d.kC (d.iN hM)⟩
    · rw [← hk.2]; exact h2.2
open Classical in
theorem ajQ (h : H d e w base ok v xs i gX c) {x' : α} (hM : d.M w base okp x' c) (hok : ∀ k, okp k → gX k) : S d e w base ok v (xs.set i.toNat x') := by
  obtain ⟨ho, f, h0, inner, hown, hr⟩ := h;refine ⟨fun k => if gX k then i.toNat else f k, fun k hk => (h0 k hk).1, inner, by rw [List.length_zipIdx, List.length_set]; rw [List.length_zipIdx] at hown; exact hown, by have := hr.1; rw [List.length_zipIdx] at this; rw [List.length_zipIdx, List.length_set]; exact this, fun m p hm => ?_⟩;rw [List.getElem?_zipIdx, Nat.zero_add] at hm;obtain ⟨q, hq, rfl⟩ := Option.map_eq_some_iff.1 hm;have CF : m < xs.length := by
    have := (List.getElem?_eq_some_iff.1 hq).1
    rwa [List.length_set] at this
  by_cases rE : m = i.toNat
  · subst rE
    rw [List.getElem?_set_self CF] at hq;injection hq with hq
    subst hq;have hc := ((hr.2 i.toNat _ (CG (List.getElem?_eq_getElem CF))).1 rfl).1;show d.M w base _ x' ((inner.drop (i.toNat * d.sz)).take d.sz);rw [show (inner.drop (i.toNat * d.sz)).take d.sz = c from hc];exact d.gM (fun k hk => ⟨⟨ho k (hok k hk), fun he => (h0 k he.symm).2 (hok k hk)⟩, if_pos (hok k hk)⟩) hM
  · rw [List.getElem?_set_ne (Ne.symm rE)] at hq
    exact d.gM (fun k hk => ⟨⟨hk.1.1.1, hk.1.2⟩, (if_neg hk.1.1.2).trans hk.2⟩) ((hr.2 m (q, m) (CG hq)).2 rE)
theorem aaR (h : H d e w base ok v xs i gX c) : H d e w base ok v xs i (fun k => gX k ∨ ok k ∧ w.heap.size ≤ k) c := by
  obtain ⟨ho, f, h⟩ := h;exact ⟨fun k hk => hk.elim (ho k) (fun h2 => h2.1), f, jd (xn h) (fun k hk => ⟨hk.1.1, fun h2 => h2.elim hk.1.2 (fun h3 => by have := hk.2.2.1; omega)⟩)⟩
theorem ajR (h : H d e w base ok v xs i gX c) (hm : ∀ k, ok k → ¬ gX k → k < w.heap.size → w1.heap[k]? = w.heap[k]?) : H d e w1 base ok v xs i gX c := by
  obtain ⟨ho, f, h⟩ := h;exact ⟨ho, f, Eu h (fun k hk hlt => hm k hk.1 hk.2 hlt)⟩
theorem aaS (h : H d e w base ok v xs i gX c) {row : Option Nat} (hg : w.grownBy w1 row) (hrow : ∀ k, row = some k → gX k) : H d e w1 base ok v xs i gX c :=
  ajR h (fun k _ hn hlt => hg.block k hlt (fun he => hn (hrow k he.symm)))
theorem ajS (h : H d e w base ok v xs i gX c) (hok : ∀ k, ok k → ok' k) : H d e w base ok' v xs i gX c := by
  obtain ⟨ho, f, h⟩ := h;exact ⟨fun k hk => hok k (ho k hk), f, jd h (fun k hk => ⟨hok k hk.1, hk.2⟩)⟩
theorem ajT {okg : Nat → Prop} (h : H d e w base (fun k => ok k ∧ ¬ okg k) v xs i gX c) (hg : ∀ k, okg k → ok k) : H d e w base ok v xs i (fun k => gX k ∨ okg k) c := by
  obtain ⟨ho, f, h⟩ := h;exact ⟨fun k hk => hk.elim (fun h2 => (ho k h2).1) (hg k), f, jd h (fun k hk => ⟨hk.1.1, fun h2 => h2.elim hk.2 hk.1.2⟩)⟩
theorem aaT (h : H d e W base ok (.slice (some ⟨g, 0, none⟩) n cap) xs i gX c) (h0 : 0 ≤ i) (h1 : i < n) :
    ∃ rows : List (List Value), rows.length = xs.length ∧ (raw d.sz).R e W base (fun _ => True) (.slice (some ⟨g, 0, none⟩) n cap) rows ∧ c.length = d.sz ∧ (∀ u ∈ c, u.oneCell' = true) ∧ (∀ j u, c[j]? = some u → W.cell? ⟨g, i.toNat * d.sz + j, none⟩ = some u) ∧
      ∀ w1 c', W.grownBy w1 (some g) → (raw d.sz).R e w1 base (fun _ => True) (.slice (some ⟨g, 0, none⟩) n cap) (rows.set i.toNat c') → H d e w1 base ok (.slice (some ⟨g, 0, none⟩) n cap) xs i gX c' := by
  obtain ⟨hoo, f, hR⟩ := h;have hn := (pI hR).1;rw [List.length_zipIdx] at hn;have hgo : some g = (Value.slice (some ⟨g, 0, none⟩) n cap).ownBlock := by simp [Value.ownBlock]
  obtain ⟨hok0, inner, ho, hr⟩ := hR;have hil : i.toNat < xs.length := by omega
  have hlen : inner.length = xs.length * d.sz := by have := hr.1; rw [List.length_zipIdx] at this; exact this
  have hkg : ∀ k, some k ≠ (Value.slice (some ⟨g, 0, none⟩) n cap).ownBlock → k ≠ g := fun k hk he => hk (by rw [he]; exact hgo);have hci := (hr.2 i.toNat _ (CG (List.getElem?_eq_getElem hil))).1 rfl;rw [hci.1] at hci;have hc := ((hr.2 i.toNat _ (CG (List.getElem?_eq_getElem hil))).1 rfl).1;refine ⟨(List.range xs.length).map fun j => (inner.drop (j * d.sz)).take d.sz, by rw [List.length_map, List.length_range], ⟨fun _ _ => trivial, inner, ?_, ?_, fun j p hj => ?_⟩, hci.2.1, hci.2.2, fun j u hu => ?_, fun w1 c' hg hraw => ?_⟩
  · rw [List.length_map, List.length_range]; rw [List.length_zipIdx] at ho; exact ho
  · rw [List.length_map, List.length_range]; exact hlen
  · rw [List.getElem?_map] at hj
    obtain ⟨j', hj', rfl⟩ := Option.map_eq_some_iff.1 hj;obtain ⟨hl, he⟩ := List.getElem?_eq_some_iff.1 hj';rw [List.getElem_range] at he;subst he;rw [List.length_range] at hl;have hm := (gap f d i.toNat c).iN (hr.2 j _ (CG (List.getElem?_eq_getElem hl)));exact ⟨rfl, (gap f d i.toNat c).lI hm, (gap f d i.toNat c).kC hm⟩
  · rw [← hc, List.getElem?_take] at hu
    split at hu
    · rw [List.getElem?_drop] at hu
      have := ho.cells (g := g) hgo.symm _ u hu
      rwa [add_plain] at this
    · cases hu
  · obtain ⟨_, NY, ho', hr'⟩ := hraw
    have hl' : NY.length = xs.length * d.sz := by have := hr'.1; rw [List.length_set, List.length_map, List.length_range] at this; exact this
    rw [List.length_set, List.length_map, List.length_range] at ho';refine ⟨hoo, f, hok0, NY, by rw [List.length_zipIdx]; exact ho', by rw [List.length_zipIdx]; exact hl', fun m p hm => ?_⟩;rw [List.getElem?_zipIdx, Nat.zero_add] at hm;obtain ⟨q, hq, rfl⟩ := Option.map_eq_some_iff.1 hm;have CF : m < xs.length := (List.getElem?_eq_some_iff.1 hq).1;have hold := hr.2 m (q, m) (CG hq);refine ⟨fun hx => ?_, fun hx => ?_⟩
    · have hx' : m = i.toNat := hx
      subst hx';exact hr'.2 i.toNat c' (List.getElem?_set_self (by rw [List.length_map, List.length_range]; exact CF))
    · have hx' : m ≠ i.toNat := hx
      have hcm := (hr'.2 m ((inner.drop (m * d.sz)).take d.sz) (by
        rw [List.getElem?_set_ne (Ne.symm hx'), List.getElem?_map, List.getElem?_eq_getElem (by rw [List.length_range]; exact CF), List.getElem_range];rfl)).1
      show d.M w1 base _ q ((NY.drop (m * d.sz)).take d.sz);rw [show (NY.drop (m * d.sz)).take d.sz = _ from hcm];exact d.gM (fun k hk => hk.1) (d.lJ (w1 := w1) (fun k hk => hg.block k hk.2.2.1 (fun he => hkg k hk.1.1.2 (by injection he))) (d.mU (hold.2 hx)))
theorem ajU (h : H d e W base ok (.slice (some ⟨g, 0, none⟩) n cap) xs i gX c) (h0 : 0 ≤ i) (h1 : i < n) {seg : List Value} {j : Nat} (hj : j + seg.length ≤ d.sz) (hone : ∀ q ∈ seg, q.oneCell' = true) :
    H d e (W.setCells g (i.toNat * d.sz + j) seg) base ok (.slice (some ⟨g, 0, none⟩) n cap) xs i gX (c.take j ++ seg ++ c.drop (j + seg.length)) ∧ W.grownBy (W.setCells g (i.toNat * d.sz + j) seg) (some g) := by
  obtain ⟨rows, _, hraw, hcl, hco, hcc, hback⟩ := aaT h h0 h1;obtain ⟨h2, h3⟩ := aju hraw i h0 h1 (c := c) (seg := seg) (j := j) (x' := c.take j ++ seg ++ c.drop (j + seg.length)) (okp := fun _ => False) hcl hcc hj
    ⟨rfl, by
      show (c.take j ++ seg ++ c.drop (j + seg.length)).length = d.sz;simp only [List.length_append, List.length_take, List.length_drop]; omega, fun u hu => by
      rcases List.mem_append.1 hu with hu | hu
      · rcases List.mem_append.1 hu with hu | hu
        · exact hco u (List.mem_of_mem_take hu)
        · exact hone u hu
      · exact hco u (List.mem_of_mem_drop hu)⟩ (fun _ hk => hk.elim)
  exact ⟨hback _ _ h3 h2, h3⟩
theorem ajV {okg : Nat → Prop} (hH : H d e W base (fun k => ok k ∧ ¬ okg k) (.slice (some ⟨g, 0, none⟩) n cap) xs i gX c) (h0 : 0 ≤ i) (h1 : i < n) {seg : List Value} {j : Nat} (hj : j + seg.length ≤ d.sz)
    {x' : α} (hM : d.M W base okp x' (c.take j ++ seg ++ c.drop (j + seg.length))) (mE : ∀ k, okp k → gX k ∨ okg k) (hg : ∀ k, okg k → ok k ∧ k ≠ g) :
    S d e (W.setCells g (i.toNat * d.sz + j) seg) base ok (.slice (some ⟨g, 0, none⟩) n cap) (xs.set i.toNat x') ∧ W.grownBy (W.setCells g (i.toNat * d.sz + j) seg) (some g) := by
  have hne : ∀ k, gX k ∨ okg k → k ≠ g := by
    intro k hk he;subst he;rcases hk with hk | hk
    · obtain ⟨_, f, hR⟩ := hH
      exact (hR.1 k (by simp [Value.ownBlock])).2 hk
    · exact (hg k hk).2 rfl
  obtain ⟨h2, h3⟩ := ajU (ajT hH (fun k hk => (hg k hk).1)) h0 h1 hj (fun q hq => d.kC (d.iN hM) q (List.mem_append_left _ (List.mem_append_right _ hq)));exact ⟨ajQ h2 (aai hM (fun k hk hlt => h3.block k hlt (fun he => hne k (mE k hk) (by injection he)))) mE, h3⟩
end
section
variable {P : Program} {ops : Array Oper} {rest : List Oper} {o : Oper} {a : Act} {Q : Exit → Act → World → Prop} {α : Type}
end
end Kd
end Go.Proofs.aI.bM
namespace Go.Proofs.aI.bM
open Go.RowKit
namespace Kd
theorem ajW {α : Type} {R : α → List Value → Prop} {size : Nat} {ps : List α} {cs : List Value} (h : iM R size ps cs) (hs0 : 0 < size) (hR : ∀ p c, R p c → ∀ u ∈ c, u.oneCell' = true) : ∀ u ∈ cs, u.oneCell' = true := by
 intro u hu;obtain ⟨q, hq, rfl⟩ := List.mem_iff_getElem.1 hu;have Bg : q / size < ps.length := by
  rw [Nat.div_lt_iff_lt_mul hs0, ← h.1];exact hq
 refine hR _ _ (h.2 (q / size) _ (List.getElem?_eq_getElem Bg)) _ ?_;rw [List.mem_iff_getElem?];refine ⟨q % size, ?_⟩;rw [List.getElem?_take, if_pos (Nat.mod_lt _ hs0), List.getElem?_drop, Nat.mul_comm, Nat.div_add_mod, List.getElem?_eq_getElem hq]
section
variable {α : Type} {n : Nat} {d : Kd α} {hs : 0 < d.sz} {w : World} {base : Nat} {ok : Nat → Prop} {xs : List α} {cs : List Value}
end
section
variable {α : Type} {n : Nat} {enc : α → Value} {h1 : ∀ x, (enc x).oneCell' = true} {hs : 0 < (scalar enc h1).sz} {w : World} {base : Nat} {ok : Nat → Prop} {xs : List α} {cs : List Value}
end
end Kd
end Go.Proofs.aI.bM
namespace Go.Proofs.aI.bM
open Go.RowKit
section
variable {P : Program}
theorem ajX (w : World) (base : Nat) (t ti ty e : TypeId) (i : TypeInfo) (z : Value) (size bytes : Nat) (ht : P.underlying t = some (.slice e)) {k : IntKind} (hti : P.underlying ti = some (.int k)) (hi : P.info? e = some i) (hz : i.zero = some z)
  (hsize : i.size = size) (hby : i.bytes = bytes) (hzs : z.cells.size = size) (hsz : 0 < size) (hb0 : 0 < bytes)
  (v : Value) (n : Nat) (xs : List Value) (hown : w.ownsRow base e size v n xs) (kx : IntKind) (m : Nat) (h1 : ∀ u ∈ (Builtin.zeroCells z.cells m).toList, u.oneCell' = true)
  (hbytes : (n + m) * bytes ≤ 140737488355328) (hbase : base ≤ w.heap.size) :
  ∃ v' w', (Builtin.append_ #[t, ti] ty #[v, .int kx m]).run P w = .ok v' w' ∧ w'.ownsRow base e size v' (n + m) (xs ++ (Builtin.zeroCells z.cells m).toList) ∧ w.grownBy w' v.ownBlock ∧
   (v'.ownBlock = v.ownBlock ∨ v'.ownBlock = some w.heap.size) := by
 subst hsize;subst hby;have hle : n + m ≤ 140737488355328 := Nat.le_trans (Nat.le_mul_of_pos_right _ hb0) hbytes;have h63 : n + m ≤ maxLen := by simp only [maxLen]; omega
 have hw : IntKind.i64.wrap (m : Int) = m := by rw [IntKind.wrap_i64]; omega
 have hw0 : IntKind.i64.wrap 0 = 0 := by rw [IntKind.wrap_i64]; rfl
 have hneg : ¬ ((m : Int) < 0) := by omega
 have hmb : m * i.bytes ≤ 140737488355328 := Nat.le_trans (Nat.mul_le_mul_right _ (Nat.le_add_left m n)) hbytes;have hbig : ¬ (281474976710656 < (m : Int) * (i.bytes : Int)) := by
  rw [← Int.natCast_mul];omega
 have hsn : i.size ≠ 0 := by omega
 obtain ⟨news, hnews⟩ : ∃ news, news = (Builtin.zeroCells z.cells m).toList := ⟨_, rfl⟩;rw [← hnews] at h1 ⊢;have hl : news.length = m * i.size := by rw [hnews, Array.length_toList, size_zeroCells, hzs]
 have hna : Builtin.zeroCells z.cells m = news.toArray := by rw [hnews]
 have hlen : (xs ++ news).length = (n + m) * i.size := by rw [List.length_append, hown.1, hl, Nat.add_mul]
 have hnil : m = 0 → news = [] := fun h => List.eq_nil_of_length_eq_zero (by rw [hl, h, Nat.zero_mul]);have grown : ∀ (old : Nat), old < n + m → ∀ (row : Option Nat),
   (w.drew.alloc (.cells (xs.toArray ++ news.toArray ++ Builtin.zeroCells z.cells (grownCap w (n + m) old e - (n + m))) e)).ownsRow base e i.size
    (.slice (some ⟨w.heap.size, 0, none⟩) (n + m) (grownCap w (n + m) old e)) (n + m) (xs ++ news) ∧
   w.grownBy (w.drew.alloc (.cells (xs.toArray ++ news.toArray ++ Builtin.zeroCells z.cells (grownCap w (n + m) old e - (n + m))) e)) row := by
  intro old ho row;have hge := grownCap_ge w (n + m) old e;have hcm : grownCap w (n + m) old e ≤ maxLen := grownCap_le_maxLen w (n + m) old e h63;refine ⟨⟨hlen, .inr ⟨w.heap.size, _, _, rfl, hbase, heap_alloc_new w.drew _, hge, hcm, ?_, ?_⟩⟩, ⟨rfl, rfl, rfl, by simp, fun k hk _ => heap_alloc_old w.drew _ hk⟩⟩
  ·simp only [Array.size_append, List.size_toArray, size_zeroCells, hzs, hown.1, hl, ← Nat.add_mul];congr 1;omega
  ·simp only [Array.toList_append, List.append_assoc];rw [← List.append_assoc, ← hlen];exact List.take_left
 have runs : ∀ (A : Option Addr) (cap : Nat), cap < n + m → (Builtin.firstCells i.size n (.slice A n cap)).run P w.drew = .ok xs.toArray w.drew → (Builtin.append_ #[t, ti] ty #[.slice A n cap, .int kx m]).run P w =
   .ok (.slice (some ⟨w.heap.size, 0, none⟩) (n + m) (grownCap w (n + m) cap e)) (w.drew.alloc (.cells (xs.toArray ++ news.toArray ++ Builtin.zeroCells z.cells (grownCap w (n + m) cap e - (n + m))) e)) := by
  intro A cap hcap hfo;have hn : ¬ (n + m ≤ cap) := by omega
  have h63' : ¬ (9223372036854775807 < ((n : Int) + (m : Int))) := by omega
  have hfit := growslice_fits hcap hbytes;have h48' : ¬ (281474976710656 < Builtin.nextslicecap (n + m) cap * i.bytes) := by omega
  by_cases hm : m = 0
  ·have hnl := hnil hm;subst hm;rw [hnl];simp only [Nat.add_zero] at hn h63' h48' ⊢;have ajY : ¬ (9223372036854775807 < (n : Int)) := by omega
   simp [Builtin.append_, run_underlying ht, run_underlying hti, sizeOf, typeInfo, zeroValue, hi, hz, asInt, asIntOf, hw0, hn, ajY, h48', Question.forced, hfo, newRow, grownCap]
  ·have hmz : ¬ (m * i.size = 0) := Nat.mul_ne_zero hm hsn;simp [Builtin.append_, run_underlying ht, run_underlying hti, sizeOf, typeInfo, zeroValue, hi, hz, asInt, asIntOf, hw, hneg, hbig, hn, h63', h48', Question.forced, hfo, newRow, grownCap, hmz, hna];congr 2;apply Array.ext';simp [List.append_assoc]
 rcases hown.2 with ⟨rfl, rfl⟩ | ⟨g, cap, cur, rfl, hbg, hg, hnc, hcm, hcs, htake⟩
 ·have hx : xs = [] := List.eq_nil_of_length_eq_zero (by simpa using hown.1);subst hx;by_cases hm : m = 0
  ·have hnl := hnil hm;subst hm;rw [hnl];refine ⟨.slice none 0 0, w, ?_, World.ownsRow_nil w base e i.size, ⟨rfl, rfl, rfl, Nat.le_refl _, fun _ _ _ => rfl⟩, Or.inl rfl⟩;simp [Builtin.append_, run_underlying ht, run_underlying hti, sizeOf, typeInfo, hi, asInt, asIntOf, hw0]
  ·have hgr := grown 0 ag (Value.ownBlock (.slice none 0 0));exact ⟨_, _, runs none 0 ag (by simp [Builtin.firstCells]), hgr.1, hgr.2, Or.inr rfl⟩
 ·by_cases hroom : n + m ≤ cap
  ·have hfit : n * i.size + news.length ≤ cur.size := by rw [hl, hcs, ← Nat.add_mul]; exact Nat.mul_le_mul_right _ hroom
   obtain ⟨cur', h3, h4, h5⟩ := TG news (n * i.size) w cur hg hfit;obtain ⟨s1, s2, s3, s4⟩ := TF g news (n * i.size) w;have hst := run_storeCells_cells (P := P) g (n * i.size) news 0 w (fun j hj => by rw [cell_of_row w g _ cur e (0, 0) hg]; simp; omega) (fun j _ => aN hg _) h1;simp only [Nat.add_zero] at hst;refine ⟨.slice (some ⟨g, 0, none⟩) (n + m) cap, w.setCells g (n * i.size) news, ?_, ⟨hlen, .inr ⟨g, cap, cur', rfl, hbg, h3, hroom, hcm, by rw [h4, hcs], ?_⟩⟩, ⟨s1, s2, s3, by rw [s4]; exact Nat.le_refl _, fun k _ hk => TE news _ k (fun e => hk (by simp [Value.ownBlock, e]))⟩, Or.inl rfl⟩
   ·by_cases hm : m = 0
    ·have hnl := hnil hm;subst hm;rw [hnl] at hst ⊢;simp [Builtin.append_, run_underlying ht, run_underlying hti, sizeOf, typeInfo, hi, asInt, asIntOf, hw0, hnc, add_plain, hst]
    ·have hmz : ¬ (m * i.size = 0) := Nat.mul_ne_zero hm hsn;simp [Builtin.append_, run_underlying ht, run_underlying hti, sizeOf, typeInfo, zeroValue, hi, hz, asInt, asIntOf, hw, hneg, hbig, hroom, hmz, hna, add_plain, hst]
   ·rw [h5];have h6 : cur.toList.take (n * i.size) = xs := htake;rw [h6, ← hlen];exact List.take_left
  ·have holds : ∀ j u, xs[j]? = some u → w.cell? ((⟨g, 0, none⟩ : Addr).add j) = some u := hown.cells (g := g) rfl;have hgr := grown cap ag (Value.ownBlock (.slice (some ⟨g, 0, none⟩) n cap));exact ⟨_, _, runs (some ⟨g, 0, none⟩) cap ag (run_firstCells_some (P := P) w.drew i.size n _ n cap xs hown.1 (by simpa using holds)), hgr.1, hgr.2, Or.inr rfl⟩
end
namespace Kd
theorem ajZ {α : Type} {R : α → List Value → Prop} {z : Value} {size : Nat} {z0 : α} (hz : z.cells.size = size) (hs : 0 < size) (h0 : R z0 z.cells.toList) (m : Nat) : iM R size (List.replicate m z0) (Builtin.zeroCells z.cells m).toList := by
 have h := ajm hz hs h0 m;rw [show Builtin.zeroCells z.cells m = madeCells z.cells (m * size) by unfold Builtin.zeroCells madeCells; rw [hz]];exact h
section
variable {P : Program} {ops : Array Oper} {rest : List Oper} {o : Oper} {a : Act} {Q : Exit → Act → World → Prop} {Kc : Act → World → Prop} {α : Type}
theorem aj0 (d : Kd α) {W : World} (base : Nat) (t ti ty e : TypeId) (z : Value) (bytes : Nat) (ht : P.underlying t = some (.slice e)) {k : IntKind} (hti : P.underlying ti = some (.int k)) (hinfo : (P.info? e).map (fun i => (i.zero, i.size, i.bytes)) = some (some z, d.sz, bytes)) (hz : z.cells.size = d.sz) (hs0 : 0 < d.sz) (hb0 : 0 < bytes)
  (v : Value) (xs : List α) (z0 : α) {ok : Nat → Prop} (hzero : d.M W base (fun _ => False) z0 z.cells.toList) (hfresh : ∀ k, W.heap.size ≤ k → ok k) (HO : d.R e W base ok v xs) (kx : IntKind) (n : Int) (h0 : 0 ≤ n) (hl : (xs.length + n.toNat) * bytes ≤ 140737488355328) (hbase : base ≤ W.heap.size) :
  ∃ v1 w1, (Builtin.append_ #[t, ti] ty #[v, .int kx n]).run P W = .ok v1 w1 ∧ d.R e w1 base ok v1 (xs ++ List.replicate n.toNat z0) ∧ W.grownBy w1 v.ownBlock ∧ (v1.ownBlock = v.ownBlock ∨ ∃ b, v1.ownBlock = some b ∧ W.heap.size ≤ b) := by
 obtain ⟨m, rfl⟩ := Int.eq_ofNat_of_zero_le h0;simp only [Int.toNat_natCast] at hl ⊢;obtain ⟨i0, hi, hzz⟩ := Option.map_eq_some_iff.1 hinfo;simp only [Prod.mk.injEq] at hzz;obtain ⟨hz0, hz1, hz2⟩ := hzz;obtain ⟨hok, inner, hown, hr⟩ := HO;have Ex : iM (d.M W base (fun _ => False)) d.sz (List.replicate m z0) (Builtin.zeroCells z.cells m).toList := ajZ hz hs0 hzero m;obtain ⟨v1, w1, hrun, h2, hg, hat⟩ := ajX (P := P) W base t ti ty e i0 z d.sz bytes ht hti hi hz0 hz1 hz2 hz hs0 hb0 v xs.length inner hown kx m (ajW Ex hs0 (fun _ _ hp => d.kC (d.iN hp))) hl hbase;have hat' : v1.ownBlock = v.ownBlock ∨ ∃ b, v1.ownBlock = some b ∧ W.heap.size ≤ b := by
  rcases hat with hat | hat
  ·exact .inl hat
  ·exact .inr ⟨_, hat, Nat.le_refl _⟩
 have hne : ∀ k, some k ≠ v.ownBlock → k < W.heap.size → some k ≠ v1.ownBlock := by
  intro k hk hlt;rcases hat' with hat | ⟨b, hb, hle⟩
  ·rw [hat]; exact hk
  ·rw [hb];intro he;injection he with he
   omega
 have step : ∀ {q : α} {c : List Value} {o : Nat → Prop}, d.M W base o q c → (∀ k, o k → ok k ∧ some k ≠ v.ownBlock) → d.M w1 base (fun k => ok k ∧ some k ≠ v1.ownBlock) q c := by
  intro q c o hq ho;have h1 := d.lJ (w1 := w1) (fun k hk => hg.block k hk.2.2.1 (ho k hk.1).2) (d.mU hq);exact d.gM (fun k hk => ⟨(ho k hk.1).1, hne k (ho k hk.1).2 hk.2.2.1⟩) h1
 refine ⟨v1, w1, hrun, ⟨fun k hk => ?_, inner ++ (Builtin.zeroCells z.cells m).toList, by rw [List.length_append, List.length_replicate]; exact h2, aax (hr.pq (fun _ _ hq => step hq (fun _ hk => hk))) (Ex.pq (fun _ _ hq => step hq (fun _ hk => hk.elim)))⟩, hg, hat'⟩;rcases hat' with hat | ⟨b, hb, hle⟩
 ·exact hok k (hat ▸ hk)
 ·rw [hb] at hk;injection hk with hk
  exact hfresh k ag
theorem aaU (d : Kd α) {w0 W : World} (base : Nat) (hgd : o.guard = none) (s x : Operand) (t ti e : TypeId) (z : Value) (bytes : Nat)
  (ho : o.op = .call { callee := .builtin .append, args := #[s, x], argTypes := #[t, ti] })
  (ht : P.underlying t = some (.slice e)) {k : IntKind} (hti : P.underlying ti = some (.int k)) (hinfo : (P.info? e).map (fun i => (i.zero, i.size, i.bytes)) = some (some z, d.sz, bytes)) (hz : z.cells.size = d.sz) (hs0 : 0 < d.sz) (hb0 : 0 < bytes)
  (v : Value) (xs : List α) (z0 : α) {kx : IntKind} (n : Int) (ok : Nat → Prop) (hs : a.eval s = v) (hx : a.eval x = .int kx n) (hzero : d.M W base (fun _ => False) z0 z.cells.toList) (hfresh : ∀ k, W.heap.size ≤ k → ok k)
  (HO : d.R e W base ok v xs) (h0 : 0 ≤ n) (HB : Below base w0 W) (hbase : base ≤ W.heap.size) (hl : (xs.length + n.toNat) * bytes ≤ 140737488355328)
  (h : ∀ v1 w1, d.R e w1 base ok v1 (xs ++ List.replicate n.toNat z0) → Below base w0 w1 → W.grownBy w1 v.ownBlock → (v1.ownBlock = v.ownBlock ∨ ∃ b, v1.ownBlock = some b ∧ W.heap.size ≤ b) → wpList P ops Q rest (a.put o.dst v1) w1) :
  wpList P ops Q (o :: rest) a W := by
 obtain ⟨v1, w1, hr1, h1, hg, hat⟩ := aj0 (P := P) d base t ti o.type e z bytes ht hti hinfo hz hs0 hb0 v xs z0 hzero hfresh HO kx n h0 hl hbase;refine wpList_plain hgd fun K hK => ?_;unfold Oper.wp execOp;simp only [ho, resolve, invoke, builtin, Sem.run_bind, Sem.run_pure, Result.andThen_ok, List.map_toArray, List.map_cons, List.map_nil, hs, hx, hr1];exact hK _ _ (h v1 w1 h1 (HB.grown hg hbase (TB HO)) hg hat)
end
section
variable {α : Type} {d : Kd α} {e : Nat} {w : World} {base : Nat} {ok : Nat → Prop} {v : Value} {xs : List α}
end
section
variable {P : Program} {ops : Array Oper} {rest : List Oper} {o : Oper} {a : Act} {Q : Exit → Act → World → Prop} {Kc : Act → World → Prop} {α : Type}
end
end Kd
end Go.Proofs.aI.bM
namespace Go.Proofs.aI.bM
open Go.RowKit
namespace Kd
structure Heap {α : Type} (d : Kd α) : Prop where
 K : ∀ {w w1 : World} {x : α} {cs : List Value}, (∀ k, k < w.heap.size → w1.heap[k]? = w.heap[k]?) → d.K w x cs → d.K w1 x cs
section
variable {α : Type} {d : Kd α} {e base g n c : Nat} {ok : Nat → Prop} {w w0 W : World} {A : Option Addr} {xs : List α}
end
end Kd
end Go.Proofs.aI.bM
namespace Go.Proofs.aI.bM
open Go.RowKit
def Kept (w W : World) (S : Nat → Prop) : Prop := w.heap.size ≤ W.heap.size ∧ ∀ i, i < w.heap.size → ¬ S i → W.heap[i]? = w.heap[i]?
section
variable {w W W2 : World} {S S2 S' : Nat → Prop}
theorem Kept.refl (w : World) (S : Nat → Prop) : Kept w w S := ⟨Nat.le_refl _, fun _ _ _ => rfl⟩
theorem Kept.of_below (h : Below w.heap.size w W) (S : Nat → Prop) : Kept w W S := ⟨h.size, fun i hi _ => h.block i hi⟩
theorem Kept.CJ (h : Kept w W S) (k : Kept W W2 S2) (hs : ∀ k, S2 k → S k ∨ w.heap.size ≤ k) : Kept w W2 S :=
 ⟨Nat.le_trans h.1 k.1, fun i hi hn => (k.2 i (Nat.lt_of_lt_of_le hi h.1) (fun h2 => (hs i h2).elim hn (fun h3 => by omega))).trans (h.2 i hi hn)⟩
theorem Kept.Cz {row : Option Nat} (hg : W.grownBy W2 row) (h : Kept w W S) (hr : ∀ k, row = some k → S k ∨ w.heap.size ≤ k) : Kept w W2 S :=
 h.CJ (S2 := fun k => row = some k) ⟨hg.size, fun i hi hn => hg.block i hi (fun he => hn he.symm)⟩ hr
theorem Kept.below (h : Kept w W S) (hb : Below W.heap.size W W2) : Kept w W2 S := h.CJ (Kept.of_below hb (fun _ => False)) (fun _ hk => hk.elim)
theorem Kept.alloc (h : Kept w W S) (o : Obj) : Kept w (W.alloc o) S := h.below (aW (Below.refl _ _) o)
theorem Kept.drew (h : Kept w W S) : Kept w W.drew S := h
theorem Kept.drewN (h : Kept w W S) (m : Nat) : Kept w (W.drewN m) S := h
theorem Kept.setCell (h : Kept w W S) {p : Addr} (hp : S p.block ∨ w.heap.size ≤ p.block) (u : Value) : Kept w (W.setCell p u) S :=
 h.CJ (S2 := fun k => k = p.block) ⟨by simp [World.setCell], fun i _ hn => Below.heap_setCell W p u i hn⟩ (fun k hk => by rw [hk]; exact hp)
theorem JS {g : Nat} {o : Obj} (hb : W.heap[g]? = some o) (hk : Kept W W2 S) (hne : ¬ S g) : W2.heap[g]? = some o := (hk.2 g (aT hb) hne).trans hb
end
namespace Kd
section
variable {α : Type} {d : Kd α} {e base n c : Nat} {ok gX S S2 : Nat → Prop} {w w0 W W1 W2 : World} {v : Value} {A : Option Addr} {xs : List α} {i : Int} {cs : List Value}
theorem aj1 (h : Kd.S d e W base ok v xs) (hk : Kept W W2 S) (hne : ∀ k, ok k → ¬ S k) : Kd.S d e W2 base ok v xs := aaP h (fun k ho hlt => hk.2 k hlt (hne k ho))
end
end Kd
def nD (P : World → Prop) (W : World) (ok : Nat → Prop) : Prop := ∀ W' : World, (∀ k, ok k → k < W.heap.size → W'.heap[k]? = W.heap[k]?) → P W'
theorem aj2 {W W1 : World} {k : Nat} (h : W1.heap[k]? = W.heap[k]?) (hlt : k < W.heap.size) : k < W1.heap.size := by
 rw [Array.getElem?_eq_getElem hlt] at h;exact (Array.getElem?_eq_some_iff.1 h).1
namespace nD
variable {P Q : World → Prop} {W W1 : World} {ok ok' : Nat → Prop}
theorem now (h : nD P W ok) : P W := h W (fun _ _ _ => rfl)
theorem mono (h : nD P W ok) (hok : ∀ k, ok k → ok' k) : nD P W ok' := fun W' hW => h W' (fun k hk hlt => hW k (hok k hk) hlt)
theorem bound (h : nD P W ok) : nD P W (fun k => ok k ∧ k < W.heap.size) := fun W' hW => h W' (fun k hk hlt => hW k ⟨hk, hlt⟩ hlt)
theorem step (h : nD P W ok) (hm : ∀ k, ok k → k < W.heap.size → W1.heap[k]? = W.heap[k]?) : nD P W1 ok := fun W' hW => h W' (fun k hk hlt => (hW k hk (aj2 (hm k hk hlt) hlt)).trans (hm k hk hlt))
theorem imp (h : nD P W ok) (hi : ∀ W', P W' → Q W') : nD Q W ok := fun W' hW => hi W' (h W' hW)
theorem old (h : nD P W ok) (hb : Below W.heap.size W W1) : nD P W1 (fun k => ok k ∧ k < W.heap.size) := (h.bound).step (fun k _ hlt => hb.block k hlt)
end nD
namespace Kd
def F {α : Type} (d : Kd α) (W : World) (ok : Nat → Prop) (A : Option Addr) (n : Nat) (xs : List α) : Prop := nD (fun W => d.C W A n xs) W ok
def FK {α : Type} (d : Kd α) (W : World) (ok : Nat → Prop) (x : α) (c : List Value) : Prop := nD (fun W => d.K W x c) W ok
section
variable {α β : Type} {d : Kd α} {e base n n' cc g N : Nat} {ok ok' okp S : Nat → Prop} {w w0 w1 W W1 : World} {A A' : Option Addr} {u v v1 : Value} {xs : List α} {xs' : List β} {d' : Kd β} {x : α} {c : List Value}
theorem NZ (h : F d W ok A n xs) : d.C W A n xs := nD.now h
theorem aj3 (h : F d W ok A n xs) : F d W (fun k => ok k ∧ k < W.heap.size) A n xs := nD.bound h
theorem aaV (h : F d W ok A n xs) (hm : ∀ k, ok k → k < W.heap.size → W1.heap[k]? = W.heap[k]?) : F d W1 ok A n xs := nD.step h hm
theorem He (h : F d W ok A n xs) (hb : Below W.heap.size W W1) : F d W1 ok A n xs := aaV h (fun k _ hlt => hb.block k hlt)
theorem aj4 (h : F d W ok A n xs) (hk : Kept W W1 S) (hok : ∀ k, ok k → ¬ S k) : F d W1 ok A n xs := aaV h (fun k ho hlt => hk.2 k hlt (hok k ho))
theorem aj5 (d : Kd α) (W : World) (ok : Nat → Prop) : F d W ok none ([] : List α).length [] := fun W' _ => aat d W'
theorem Hf (h : FK d W ok x c) : d.K W x c := nD.now h
theorem TP (h : FK d W ok x c) (hok : ∀ k, ok k → ok' k) : FK d W ok' x c := nD.mono h hok
theorem aaW (h : FK d W ok x c) : FK d W (fun k => ok k ∧ k < W.heap.size) x c := nD.bound h
theorem aaX (h : FK d W ok x c) (hm : ∀ k, ok k → k < W.heap.size → W1.heap[k]? = W.heap[k]?) : FK d W1 ok x c := nD.step h hm
theorem aj6 (h : d.M W base ok x c) : FK d W ok x c := fun _ hW => d.iN (aai h hW)
theorem aj7 (W : World) (g : Nat) : ∃ W' : World, (∀ k, k ≠ g → W'.heap[k]? = W.heap[k]?) ∧ ∀ a : Addr, a.block = g → W'.cell? a = none := by
 refine ⟨{ W with heap := W.heap.setIfInBounds g (.cells #[] 0) }, fun k hk => by simp [Ne.symm hk], fun a ha => ?_⟩;subst ha;by_cases hlt : a.block < W.heap.size
 ·simp [World.cell?, hlt]
 ·simp [World.cell?, hlt]
end
end Kd
end Go.Proofs.aI.bM
