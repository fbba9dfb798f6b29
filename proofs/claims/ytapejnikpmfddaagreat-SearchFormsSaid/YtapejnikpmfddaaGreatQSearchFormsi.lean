/- A part of the claim SearchForms. -/
import Derived.StillTailTactics
import Derived.Lib.SliceRun
import Derived.Test.YtapejnikpmfddaaGreatQSearchFormsh
set_option linter.unusedVariables false
set_option linter.unusedSimpArgs false
set_option maxHeartbeats 8000000
set_option maxRecDepth 100000
namespace Go.Proofs.YtapejnikpmfddaaGreat.Sg
inductive Reach (nx : Nat → List Nat) : Nat → Nat → Prop
 | refl (x : Nat) : Reach nx x x
 | step {x y z : Nat} : y ∈ nx x → Reach nx y z → Reach nx x z
section
variable {nx : Nat → List Nat}
theorem Reach.trans {x y z : Nat} (h : Reach nx x y) (k : Reach nx y z) : Reach nx x z := by
 induction h with
 | refl _ => exact k
 | step e _ ih => exact .step e (ih k)
theorem Reach.one {x y : Nat} (h : y ∈ nx x) : Reach nx x y := .step h (.refl _)
theorem Reach.snoc {x y z : Nat} (h : Reach nx x y) (e : z ∈ nx y) : Reach nx x z := h.trans (.one e)
theorem Reach.closed {S : Nat → Prop} (hS : ∀ x, S x → ∀ y ∈ nx x, S y) {x y : Nat} (h : Reach nx x y) (hx : S x) : S y := by
 induction h with
 | refl _ => exact hx
 | step e _ ih => exact ih (hS _ hx _ e)
end
def Av (nx : Nat → List Nat) (P : Nat) (good : Nat → Nat → Bool) (x : Nat) : Prop :=
 (∃ y ∈ nx x, Reach nx y x) ∧ ∀ i, i < P → ∃ y, Reach nx x y ∧ Reach nx y x ∧ good i y = true
theorem Av.move {nx : Nat → List Nat} {P : Nat} {good : Nat → Nat → Bool} {x z : Nat} (h : Av nx P good x) (h1 : Reach nx x z) (h2 : Reach nx z x) : Av nx P good z := by
 obtain ⟨⟨y, hy, hyx⟩, hg⟩ := h;constructor
 ·have hp : Reach nx z x := h2;cases hp with
  | refl _ => exact ⟨y, hy, hyx⟩
  | step e r => exact ⟨_, e, r.trans h1⟩
 ·intro i hi;obtain ⟨y, a, b, c⟩ := hg i hi;exact ⟨y, h2.trans a, b.trans h1, c⟩
structure FS where
 nums : List Nat
 bJ : List Nat
 on : List Bool
 met : Nat
 bB : List Nat
 calls : List (Nat × List Nat)
 found : Option (List Bool)
def ib (nx : Nat → List Nat) (st : FS) (x : Nat) : FS :=
 { st with nums := st.nums.set x (st.met + 1), bJ := st.bJ.set x (st.met + 1), on := st.on.set x true, met := st.met + 1, bB := x :: st.bB, calls := (x, nx x) :: st.calls }
def nQ (x : Nat) : List Nat → List Nat × List Nat
 | [] => ([], [])
 | y :: r => if y = x then ([y], r) else (y :: (nQ x r).1, (nQ x r).2)
def marks (b : Bool) (l : List Nat) (c : List Bool) : List Bool := l.foldl (fun c y => c.set y b) c
def jZ (st : FS) (x : Nat) : List (Nat × List Nat) → List Nat
 | [] => st.bJ
 | (u, _) :: _ => st.bJ.set u (min (st.bJ.getD u 0) (st.bJ.getD x 0))
def xO (gK : List Bool → List Nat → Bool) (st : FS) (x : Nat) (cs : List (Nat × List Nat)) : FS :=
 if (jZ st x cs).getD x 0 < st.nums.getD x 0 then { st with bJ := jZ st x cs, calls := cs }
 else
  { st with bJ := jZ st x cs, calls := cs, bB := (nQ x st.bB).2, on := marks false (nQ x st.bB).1 st.on, found := if st.found.isNone && gK (marks true (nQ x st.bB).1 (List.replicate st.nums.length false)) (nQ x st.bB).1 then some (marks true (nQ x st.bB).1 (List.replicate st.nums.length false)) else st.found }
def pX (nx : Nat → List Nat) (gK : List Bool → List Nat → Bool) (st : FS) : FS :=
 match st.calls with
 | [] => st
 | (x, []) :: cs => xO gK st x cs
 | (x, y :: r) :: cs =>
  if st.nums.getD y 0 = 0 then ib nx { st with calls := (x, r) :: cs } y
  else if st.on.getD y false = true then { st with calls := (x, r) :: cs, bJ := st.bJ.set x (min (st.bJ.getD x 0) (st.nums.getD y 0)) }
  else { st with calls := (x, r) :: cs }
def sI (nx : Nat → List Nat) (gK : List Bool → List Nat → Bool) : Nat → FS → FS
 | 0, st => st
 | k + 1, st => if st.calls.isEmpty then st else sI nx gK k (pX nx gK st)
def Dq (nx : Nat → List Nat) (nums : List Nat) : Nat → Nat
 | 0 => 0
 | n + 1 => Dq nx nums n + (if nums.getD n 0 = 0 then (nx n).length + 2 else 0)
def left (l : List (Nat × List Nat)) : Nat := (l.map fun c => c.2.length + 1).sum
def mu (nx : Nat → List Nat) (N : Nat) (st : FS) : Nat := Dq nx st.nums N + left st.calls
def sJ (nx : Nat → List Nat) (gK : List Bool → List Nat → Bool) (N : Nat) : List Nat → FS → Option (List Bool)
 | [], _ => none
 | x :: r, st => if 0 < st.nums.getD x 0 then sJ nx gK N r st else
  match (sI nx gK (mu nx N (ib nx st x)) (ib nx st x)).found with
  | some c => some c
  | none => sJ nx gK N r (sI nx gK (mu nx N (ib nx st x)) (ib nx st x))
def BH (N : Nat) : FS := ⟨List.replicate N 0, List.replicate N 0, List.replicate N false, 0, [], [], none⟩
def Dr (nx : Nat → List Nat) (gK : List Bool → List Nat → Bool) (N : Nat) (l : List Nat) : Option (List Bool) := sJ nx gK N l (BH N)
end Go.Proofs.YtapejnikpmfddaaGreat.Sg
namespace Go.Proofs.YtapejnikpmfddaaGreat.Sg
theorem BI {α : Type} (l : List α) (i j : Nat) (a d : α) : (l.set i a).getD j d = if i = j then (if j < l.length then a else d) else l.getD j d := by
 rw [List.getD_eq_getElem?_getD, List.getElem?_set];by_cases h : i = j
 ·subst h;rw [if_pos rfl, if_pos rfl];split <;> rfl
 ·rw [if_neg h, if_neg h, List.getD_eq_getElem?_getD]
theorem getD_lt {l : List Nat} {v : Nat} (h : l.getD v 0 ≠ 0) : v < l.length := by
 by_cases hv : v < l.length
 ·exact hv
 ·rw [List.getD_eq_getElem?_getD, List.getElem?_eq_none ag] at h;exact absurd rfl h
theorem Dt {l : List Nat} {i j : Nat} (a : Nat) (h : j ≠ i) : (l.set i a).getD j 0 = l.getD j 0 := by rw [BI, if_neg (Ne.symm h)]
theorem BJ {l : List Nat} {i : Nat} (a : Nat) (h : i < l.length) : (l.set i a).getD i 0 = a := by rw [BI, if_pos rfl, if_pos h]
section
variable (nx : Nat → List Nat) (N P : Nat) (good : Nat → Nat → Bool) (frm : List Nat)
structure vk (c : List Bool) : Prop where
 len : c.length = N
 lt : ∀ v, c.getD v false = true → v < N
 conn : ∀ a b, c.getD a false = true → c.getD b false = true → Reach nx a b
 full : ∀ a b, c.getD a false = true → Reach nx a b → Reach nx b a → c.getD b false = true
 acc : ∃ a, c.getD a false = true ∧ Av nx P good a
 root : ∀ a, c.getD a false = true → ∃ r ∈ frm, Reach nx r a
def KY (st : FS) : Prop := match st.found with
 | none => ∀ v, st.nums.getD v 0 ≠ 0 → v ∉ st.bB → ¬ Av nx P good v
 | some c => vk nx N P good frm c
structure Inv (ex : Nat → Prop) (st : FS) : Prop where
 ln : st.nums.length = N
 ll : st.bJ.length = N
 lo : st.on.length = N
 le : ∀ v, st.nums.getD v 0 ≤ st.met
 inj : ∀ v w, st.nums.getD v 0 = st.nums.getD w 0 → st.nums.getD v 0 ≠ 0 → v = w
 Fu : ∀ v, st.on.getD v false = true ↔ v ∈ st.bB
 sv : ∀ v, v ∈ st.bB → st.nums.getD v 0 ≠ 0
 ss : st.bB.Pairwise (fun a b => st.nums.getD b 0 < st.nums.getD a 0)
 cs : ∀ c, c ∈ st.calls.map Prod.fst → c ∈ st.bB
 cp : (st.calls.map Prod.fst).Pairwise (fun a b => st.nums.getD b 0 < st.nums.getD a 0)
 rest : ∀ c, c ∈ st.calls → ∃ pre, nx c.1 = pre ++ c.2 ∧ ∀ z, z ∈ pre → ex z ∨ (st.nums.getD z 0 ≠ 0 ∧ (z ∈ st.bB → st.bJ.getD c.1 0 ≤ st.nums.getD z 0))
 fin : ∀ v, st.nums.getD v 0 ≠ 0 → v ∉ st.calls.map Prod.fst → ∀ z, z ∈ nx v → st.nums.getD z 0 ≠ 0
 Ir : ∀ v, st.nums.getD v 0 ≠ 0 → v ∉ st.bB → ∀ z, z ∈ nx v → z ∉ st.bB
 up : ∀ c, c ∈ st.calls.map Prod.fst → ∀ y, y ∈ st.bB → st.nums.getD c 0 ≤ st.nums.getD y 0 → Reach nx c y
 down : ∀ y, y ∈ st.bB → ∃ c, c ∈ st.calls.map Prod.fst ∧ st.nums.getD c 0 ≤ st.nums.getD y 0 ∧ Reach nx y c
 l1 : ∀ c, c ∈ st.calls.map Prod.fst → ∃ w, w ∈ st.bB ∧ st.nums.getD w 0 = st.bJ.getD c 0 ∧ st.nums.getD w 0 ≤ st.nums.getD c 0 ∧ Reach nx c w
 l2 : ∀ v, v ∈ st.bB → v ∉ st.calls.map Prod.fst → ∀ c, c ∈ st.calls.map Prod.fst → st.nums.getD c 0 ≤ st.nums.getD v 0 → (∀ c', c' ∈ st.calls.map Prod.fst → st.nums.getD c' 0 ≤ st.nums.getD v 0 → st.nums.getD c' 0 ≤ st.nums.getD c 0) → ∀ z, z ∈ nx v → z ∈ st.bB → st.bJ.getD c 0 ≤ st.nums.getD z 0
 root : ∀ v, st.nums.getD v 0 ≠ 0 → ∃ r, r ∈ frm ∧ Reach nx r v
 l6 : KY nx N P good frm st
end
section
variable {nx : Nat → List Nat} {N P : Nat} {good : Nat → Nat → Bool} {frm : List Nat} {ex : Nat → Prop} {st : FS}
theorem Inv.lt (h : Inv nx N P good frm ex st) {v : Nat} (hv : st.nums.getD v 0 ≠ 0) : v < N := h.ln ▸ getD_lt hv
theorem aeN {y : Nat} (h : Inv nx N P good frm ex st) (hex : ∀ z, ex z → z = y) (hy : y < N) (h0 : st.nums.getD y 0 = 0) (hr : ∃ r, r ∈ frm ∧ Reach nx r y) (hc : ∀ c, c ∈ st.calls.map Prod.fst → Reach nx c y) :
  Inv nx N P good frm (fun _ => False) (ib nx st y) := by
 have hny : y ∉ st.bB := fun hm => h.sv y hm h0;have Iu : ∀ v, (ib nx st y).nums.getD v 0 = if y = v then st.met + 1 else st.nums.getD v 0 := by
  intro v;show (st.nums.set y (st.met + 1)).getD v 0 = _;rw [BI];by_cases e : y = v
  ·rw [if_pos e, if_pos e, if_pos (by rw [h.ln]; omega)]
  ·rw [if_neg e, if_neg e]
 have VJ : ∀ v, v ≠ y → (ib nx st y).bJ.getD v 0 = st.bJ.getD v 0 := fun v hv => Dt _ hv;have apF : (ib nx st y).bJ.getD y 0 = st.met + 1 := BJ _ (by rw [h.ll]; exact hy);have mI : ∀ v, v ≠ y → (ib nx st y).nums.getD v 0 = st.nums.getD v 0 := fun v hv => by rw [Iu, if_neg (Ne.symm hv)]
 have Fv : (ib nx st y).nums.getD y 0 = st.met + 1 := by rw [Iu, if_pos rfl]
 have aeO : ∀ v, st.nums.getD v 0 ≠ 0 → (ib nx st y).nums.getD v 0 ≠ 0 := fun v hv => by
  rw [Iu]; split <;> omega
 have BL : ∀ v, v ∈ st.bB → v ≠ y := fun v hv e => hny (e ▸ hv);have AA : ∀ v, v ∈ st.calls.map Prod.fst → v ≠ y := fun v hv => BL v (h.cs v hv);have old : ∀ v, (ib nx st y).nums.getD v 0 ≠ 0 → v ≠ y → st.nums.getD v 0 ≠ 0 := fun v hv hn => by rwa [mI v hn] at hv
 have Du : (ib nx st y).bB = y :: st.bB := rfl;have Fw : (ib nx st y).calls.map Prod.fst = y :: st.calls.map Prod.fst := rfl;constructor
 ·show (st.nums.set _ _).length = N; rw [List.length_set]; exact h.ln
 ·show (st.bJ.set _ _).length = N; rw [List.length_set]; exact h.ll
 ·show (st.on.set _ _).length = N; rw [List.length_set]; exact h.lo
 ·intro v;rw [Iu];have := h.le v;show _ ≤ st.met + 1;split <;> omega
 ·intro v w e hv;have h1 := h.le v;have h2 := h.le w;rw [Iu] at e hv;rw [Iu] at e;by_cases a : y = v <;> by_cases b : y = w
  ·omega
  ·rw [if_pos a, if_neg b] at e; omega
  ·rw [if_neg a, if_pos b] at e; omega
  ·rw [if_neg a, if_neg b] at e;rw [if_neg a] at hv;exact h.inj v w e hv
 ·intro v;show (st.on.set y true).getD v false = true ↔ v ∈ y :: st.bB;rw [BI];by_cases e : y = v
  ·rw [if_pos e, if_pos (by rw [h.lo]; omega)];simp [e]
  ·rw [if_neg e, h.Fu v, List.mem_cons];exact ⟨.inr, fun k => k.resolve_left (fun a => e a.symm)⟩
 ·intro v hv;rw [Du] at hv;rcases List.mem_cons.1 hv with e | e
  ·rw [e, Fv]; omega
  ·exact aeO v (h.sv v e)
 ·rw [Du];refine List.pairwise_cons.2 ⟨fun b hb => ?_, ?_⟩
  ·rw [Fv, mI b (BL b hb)];have := h.le b;omega
  ·refine h.ss.imp_of_mem (fun {a b} ha hb hab => ?_);rw [mI a (BL a ha), mI b (BL b hb)];exact hab
 ·intro c hcm;rw [Fw] at hcm;rcases List.mem_cons.1 hcm with e | e
  ·rw [e]; exact List.mem_cons_self ..
  ·exact List.mem_cons_of_mem _ (h.cs c e)
 ·rw [Fw];refine List.pairwise_cons.2 ⟨fun b hb => ?_, ?_⟩
  ·rw [Fv, mI b (AA b hb)];have := h.le b;omega
  ·refine h.cp.imp_of_mem (fun {a b} ha hb hab => ?_);rw [mI a (AA a ha), mI b (AA b hb)];exact hab
 ·intro c hcm;rcases List.mem_cons.1 (show c ∈ (y, nx y) :: st.calls from hcm) with e | e
  ·refine ⟨[], by rw [e]; rfl, fun z hz => by cases hz⟩
  ·obtain ⟨pre, e1, e2⟩ := h.rest c e;have hcg : c.1 ∈ st.calls.map Prod.fst := List.mem_map_of_mem e;refine ⟨pre, e1, fun z hz => .inr ?_⟩;rw [VJ c.1 (AA _ hcg)];by_cases uf : z = y
   ·subst uf;rw [Fv];refine ⟨by omega, fun _ => ?_⟩;obtain ⟨w, _, w2, w3, _⟩ := h.l1 c.1 hcg;have := h.le w;omega
   ·rcases e2 z hz with e3 | ⟨e3, e4⟩
    ·exact absurd (hex z e3) uf
    ·rw [mI z uf];exact ⟨e3, fun hzs => e4 ((List.mem_cons.1 hzs).resolve_left uf)⟩
 ·intro v hv hn z hz;rw [Fw] at hn;have vw : v ≠ y := fun e => hn (by rw [e]; exact List.mem_cons_self ..);exact aeO z (h.fin v (old v hv vw) (fun k => hn (List.mem_cons_of_mem _ k)) z hz)
 ·intro v hv hn z hz;rw [Du] at hn ⊢;have vw : v ≠ y := fun e => hn (by rw [e]; exact List.mem_cons_self ..);have hns : v ∉ st.bB := fun k => hn (List.mem_cons_of_mem _ k);have h1 := h.Ir v (old v hv vw) hns z hz;have h2 := h.fin v (old v hv vw) (fun k => hns (h.cs v k)) z hz;intro hm;rcases List.mem_cons.1 hm with e | e
  ·rw [e] at h2; exact h2 h0
  ·exact h1 e
 ·intro c hcm z hz hle;rw [Fw] at hcm;rw [Du] at hz;rcases List.mem_cons.1 hcm with e | e
  ·rcases List.mem_cons.1 hz with e' | e'
   ·rw [e, e']; exact .refl _
   ·rw [e, Fv, mI z (BL z e')] at hle;have := h.le z;omega
  ·rcases List.mem_cons.1 hz with e' | e'
   ·rw [e']; exact hc c e
   ·rw [mI c (AA c e), mI z (BL z e')] at hle;exact h.up c e z e' hle
 ·intro z hz;rw [Du] at hz;rw [Fw];rcases List.mem_cons.1 hz with e | e
  ·exact ⟨y, List.mem_cons_self .., by rw [e]; exact Nat.le_refl _, by rw [e]; exact .refl _⟩
  ·obtain ⟨c, c1, c2, c3⟩ := h.down z e;exact ⟨c, List.mem_cons_of_mem _ c1, by rw [mI c (AA c c1), mI z (BL z e)]; exact c2, c3⟩
 ·intro c hcm;rw [Fw] at hcm;rw [Du];rcases List.mem_cons.1 hcm with e | e
  ·exact ⟨y, List.mem_cons_self .., by rw [e, Fv, apF], by rw [e]; exact Nat.le_refl _, by rw [e]; exact .refl _⟩
  ·obtain ⟨w, w1, w2, w3, w4⟩ := h.l1 c e;exact ⟨w, List.mem_cons_of_mem _ w1, by rw [mI w (BL w w1), VJ c (AA c e)]; exact w2, by rw [mI w (BL w w1), mI c (AA c e)]; exact w3, w4⟩
 ·intro v hv hn c hcm hle hmax z hz hzs;rw [Du] at hv hzs;rw [Fw] at hn hcm hmax;have vw : v ≠ y := fun e => hn (by rw [e]; exact List.mem_cons_self ..);have hvs := (List.mem_cons.1 hv).resolve_left vw;have Bu : v ∉ st.calls.map Prod.fst := fun k => hn (List.mem_cons_of_mem _ k);have hcy : c ≠ y := fun e => by
   rw [e, Fv, mI v vw] at hle;have := h.le v;omega
  have hcg := (List.mem_cons.1 hcm).resolve_left hcy;have hzv := h.fin v (h.sv v hvs) Bu z hz;have uf : z ≠ y := fun e => hzv (by rw [e]; exact h0);rw [VJ c hcy, mI z uf];rw [mI c hcy, mI v vw] at hle;refine h.l2 v hvs Bu c hcg hle (fun c' hc' apG => ?_) z hz ((List.mem_cons.1 hzs).resolve_left uf);have := hmax c' (List.mem_cons_of_mem _ hc') (by rw [mI c' (AA c' hc'), mI v vw]; exact apG)
  rwa [mI c' (AA c' hc'), mI c hcy] at this
 ·intro v hv;by_cases vw : v = y
  ·rw [vw]; exact hr
  ·exact h.root v (old v hv vw)
 ·have hf := h.l6;unfold KY at hf ⊢;show match st.found with
   | none => _
   | some c => _
  cases hfo : st.found with
  | some c => rw [hfo] at hf; exact hf
  | none =>
   rw [hfo] at hf;intro v hv hn;rw [Du] at hn;have vw : v ≠ y := fun e => hn (by rw [e]; exact List.mem_cons_self ..);exact hf v (old v hv vw) (fun k => hn (List.mem_cons_of_mem _ k))
end
end Go.Proofs.YtapejnikpmfddaaGreat.Sg
namespace Go.Proofs.YtapejnikpmfddaaGreat.Sg
section
variable {nx : Nat → List Nat} {N P : Nat} {good : Nat → Nat → Bool} {frm : List Nat} {st : FS}
theorem Inv.top {x : Nat} {r : List Nat} {cs : List (Nat × List Nat)} {ex : Nat → Prop} (h : Inv nx N P good frm ex st) (hc : st.calls = (x, r) :: cs) : ∀ c, c ∈ st.calls.map Prod.fst → st.nums.getD c 0 ≤ st.nums.getD x 0 := by
 have hp := h.cp;rw [hc] at hp ⊢;intro c hm;rcases List.mem_cons.1 (show c ∈ x :: cs.map Prod.fst from hm) with e | e
 ·rw [e]; exact Nat.le_refl _
 ·exact Nat.le_of_lt ((List.pairwise_cons.1 hp).1 c e)
theorem Inv.aeP {x : Nat} {r : List Nat} {cs : List (Nat × List Nat)} {ex : Nat → Prop} (h : Inv nx N P good frm ex st) (hc : st.calls = (x, r) :: cs) : ∀ c, c ∈ st.calls.map Prod.fst → Reach nx c x := fun c hm =>
 h.up c hm x (h.cs x (by rw [hc]; exact List.mem_cons_self ..)) (h.top hc c hm)
theorem VK {x y : Nat} {r : List Nat} {cs : List (Nat × List Nat)} (h : Inv nx N P good frm (fun _ => False) st) (hc : st.calls = (x, y :: r) :: cs) (ex : Nat → Prop) (hy : ex y ∨ (st.nums.getD y 0 ≠ 0 ∧ (y ∈ st.bB → st.bJ.getD x 0 ≤ st.nums.getD y 0))) :
  Inv nx N P good frm ex { st with calls := (x, r) :: cs } := by
 have hg : ({ st with calls := (x, r) :: cs } : FS).calls.map Prod.fst = st.calls.map Prod.fst := by rw [hc]; rfl
 constructor
 ·exact h.ln
 ·exact h.ll
 ·exact h.lo
 ·exact h.le
 ·exact h.inj
 ·exact h.Fu
 ·exact h.sv
 ·exact h.ss
 ·rw [hg]; exact h.cs
 ·rw [hg]; exact h.cp
 ·intro c hm;rcases List.mem_cons.1 (show c ∈ (x, r) :: cs from hm) with e | e
  ·obtain ⟨pre, e1, e2⟩ := h.rest (x, y :: r) (by rw [hc]; exact List.mem_cons_self ..);rw [e];refine ⟨pre ++ [y], by rw [e1]; simp, fun z hz => ?_⟩;rcases List.mem_append.1 hz with hz | hz
   ·exact .inr ((e2 z hz).resolve_left (fun k => k))
   ·rw [List.mem_singleton.1 hz]; exact hy
  ·obtain ⟨pre, e1, e2⟩ := h.rest c (by rw [hc]; exact List.mem_cons_of_mem _ e);exact ⟨pre, e1, fun z hz => .inr ((e2 z hz).resolve_left (fun k => k))⟩
 ·rw [hg]; exact h.fin
 ·exact h.Ir
 ·rw [hg]; exact h.up
 ·rw [hg]; exact h.down
 ·rw [hg]; exact h.l1
 ·rw [hg]; exact h.l2
 ·exact h.root
 ·exact h.l6
theorem apH {x y m : Nat} {ex : Nat → Prop} (h : Inv nx N P good frm ex st) (hx : x ∈ st.calls.map Prod.fst) (hy : y ∈ st.bB) (hr : Reach nx x y) (hm : m = min (st.bJ.getD x 0) (st.nums.getD y 0)) :
  Inv nx N P good frm ex { st with bJ := st.bJ.set x m } := by
 have hxl : x < st.bJ.length := by rw [h.ll]; exact h.lt (h.sv x (h.cs x hx))
 have hle : ∀ c, (st.bJ.set x m).getD c 0 ≤ st.bJ.getD c 0 := by
  intro c;by_cases e : c = x
  ·rw [e, BJ _ hxl]; omega
  ·rw [Dt _ e]; exact Nat.le_refl _
 constructor
 ·exact h.ln
 ·show (st.bJ.set _ _).length = N; rw [List.length_set]; exact h.ll
 ·exact h.lo
 ·exact h.le
 ·exact h.inj
 ·exact h.Fu
 ·exact h.sv
 ·exact h.ss
 ·exact h.cs
 ·exact h.cp
 ·intro c hc;obtain ⟨pre, e1, e2⟩ := h.rest c hc;refine ⟨pre, e1, fun z hz => ?_⟩;rcases e2 z hz with e3 | ⟨e3, e4⟩
  ·exact .inl e3
  ·exact .inr ⟨e3, fun k => Nat.le_trans (hle c.1) (e4 k)⟩
 ·exact h.fin
 ·exact h.Ir
 ·exact h.up
 ·exact h.down
 ·intro c hc;show ∃ w, w ∈ st.bB ∧ st.nums.getD w 0 = (st.bJ.set x m).getD c 0 ∧ _;obtain ⟨w, w1, w2, w3, w4⟩ := h.l1 c hc;by_cases e : c = x
  ·rw [e, BJ _ hxl];rw [e] at w2 w3 w4;by_cases hlt : st.nums.getD y 0 < st.bJ.getD x 0
   ·exact ⟨y, hy, by omega, by show st.nums.getD y 0 ≤ st.nums.getD x 0; omega, hr⟩
   ·exact ⟨w, w1, by omega, w3, w4⟩
  ·rw [Dt _ e];exact ⟨w, w1, w2, w3, w4⟩
 ·intro v hv hn c hc h1 h2 z hz hzs;exact Nat.le_trans (hle c) (h.l2 v hv hn c hc h1 h2 z hz hzs)
 ·exact h.root
 ·exact h.l6
theorem VL (x : Nat) : ∀ (l : List Nat), x ∈ l → ∃ T R, nQ x l = (T ++ [x], R) ∧ l = T ++ x :: R ∧ x ∉ T
 | y :: r, h => by
  unfold nQ;by_cases e : y = x
  ·rw [if_pos e];exact ⟨[], r, by simp [e], by rw [e]; rfl, by simp⟩
  ·rw [if_neg e];obtain ⟨T, R, e1, e2, e3⟩ := VL x r ((List.mem_cons.1 h).resolve_left (Ne.symm e));refine ⟨y :: T, R, by rw [e1]; rfl, by rw [e2]; rfl, ?_⟩;intro k;rcases List.mem_cons.1 k with k | k
   ·exact e k.symm
   ·exact e3 k
theorem VM (b : Bool) : ∀ (l : List Nat) (c : List Bool) (v : Nat), v < c.length → (marks b l c).getD v false = if v ∈ l then b else c.getD v false
 | [], c, v, h => by simp [marks]
 | y :: r, c, v, h => by
  show (marks b r (c.set y b)).getD v false = _;rw [VM b r (c.set y b) v (by rw [List.length_set]; exact h), BI];by_cases e : y = v
  ·subst e;rw [if_pos rfl, if_pos h, if_pos (List.mem_cons_self ..)];split <;> rfl
  ·rw [if_neg e];by_cases k : v ∈ r
   ·rw [if_pos k, if_pos (List.mem_cons_of_mem _ k)]
   ·rw [if_neg k, if_neg (fun a => (List.mem_cons.1 a).elim (fun q => e q.symm) k)]
theorem KZ (b : Bool) : ∀ (l : List Nat) (c : List Bool), (marks b l c).length = c.length
 | [], c => rfl
 | y :: r, c => by
  show (marks b r (c.set y b)).length = _;rw [KZ b r, List.length_set]
theorem aeQ {b : Bool} {l : List Nat} {c : List Bool} {v : Nat} (h : ¬ v < c.length) : (marks b l c).getD v false = false := by
 rw [List.getD_eq_getElem?_getD, List.getElem?_eq_none (by rw [KZ]; omega)]; rfl
def gm (nx : Nat → List Nat) (P : Nat) (good : Nat → Nat → Bool) (c : List Bool) (all : List Nat) : Bool :=
 !((nx (all.headD 0)).filter fun y => c.getD y false).isEmpty && (List.range P).all fun i => all.any fun x => good i x
end
end Go.Proofs.YtapejnikpmfddaaGreat.Sg
namespace Go.Proofs.YtapejnikpmfddaaGreat.Sg
section
variable {nx : Nat → List Nat} {N P : Nat} {good : Nat → Nat → Bool} {frm : List Nat} {st : FS}
theorem aeR (st : FS) (x : Nat) (cs : List (Nat × List Nat)) : (jZ st x cs).length = st.bJ.length := by
 match cs with
 | [] => rfl
 | (u, _) :: _ => exact List.length_set ..
theorem aeS (st : FS) (x : Nat) (cs : List (Nat × List Nat)) (v : Nat) (hu : ∀ u r cs', cs = (u, r) :: cs' → u < st.bJ.length) : (jZ st x cs).getD v 0 ≤ st.bJ.getD v 0 := by
 match cs with
 | [] => exact Nat.le_refl _
 | (u, r) :: cs' =>
  show (st.bJ.set u _).getD v 0 ≤ _;by_cases e : v = u
  ·rw [e, BJ _ (hu u r cs' rfl)]; omega
  ·rw [Dt _ e]; exact Nat.le_refl _
theorem apI {x : Nat} {cs : List (Nat × List Nat)} (h : Inv nx N P good frm (fun _ => False) st) (hc : st.calls = (x, []) :: cs) (hl : st.bJ.getD x 0 < st.nums.getD x 0) :
  Inv nx N P good frm (fun _ => False) { st with bJ := jZ st x cs, calls := cs } := by
 have hg : st.calls.map Prod.fst = x :: cs.map Prod.fst := by rw [hc]; rfl
 have hcp := h.cp;rw [hg] at hcp;have hcp1 := (List.pairwise_cons.1 hcp).1;have hcp2 := (List.pairwise_cons.1 hcp).2;have hxg : x ∈ st.calls.map Prod.fst := by rw [hg]; exact List.mem_cons_self ..
 have hxs := h.cs x hxg;have mem : ∀ c, c ∈ cs.map Prod.fst → c ∈ st.calls.map Prod.fst := fun c k => by rw [hg]; exact List.mem_cons_of_mem _ k
 have hur : ∀ u r cs', cs = (u, r) :: cs' → u < st.bJ.length := fun u r cs' e => by
  rw [h.ll];exact h.lt (h.sv u (h.cs u (mem u (by rw [e]; exact List.mem_cons_self ..))))
 have hle := fun v => aeS st x cs v hur;obtain ⟨w, w1, w2, w3, w4⟩ := h.l1 x hxg;obtain ⟨c', d1, d2, d3⟩ := h.down w w1;have hcx : c' ≠ x := fun e => by rw [e] at d2; omega
 have hc' : c' ∈ cs.map Prod.fst := by
  rw [hg] at d1;exact (List.mem_cons.1 d1).resolve_left hcx
 obtain ⟨⟨u, ru⟩, cs', rfl⟩ : ∃ q q', cs = q :: q' := by
  match cs, hc' with
  | q :: q', _ => exact ⟨q, q', rfl⟩
 have PX : u ∈ ((u, ru) :: cs').map Prod.fst := List.mem_cons_self ..;have VN := hur u ru cs' rfl;have K4 : st.nums.getD u 0 < st.nums.getD x 0 := hcp1 u PX;have lu : (jZ st x ((u, ru) :: cs')).getD u 0 = min (st.bJ.getD u 0) (st.bJ.getD x 0) := BJ _ VN;have lo : ∀ v, v ≠ u → (jZ st x ((u, ru) :: cs')).getD v 0 = st.bJ.getD v 0 := fun v hv => Dt _ hv;have aeT : ∀ c, c ∈ ((u, ru) :: cs').map Prod.fst → st.nums.getD c 0 ≤ st.nums.getD u 0 := fun c hm => by
  rcases List.mem_cons.1 hm with e | e
  ·rw [e]; exact Nat.le_refl _
  ·exact Nat.le_of_lt ((List.pairwise_cons.1 hcp2).1 c e)
 constructor
 ·exact h.ln
 ·exact (aeR st x ((u, ru) :: cs')).trans h.ll
 ·exact h.lo
 ·exact h.le
 ·exact h.inj
 ·exact h.Fu
 ·exact h.sv
 ·exact h.ss
 ·exact fun c k => h.cs c (mem c k)
 ·exact hcp2
 ·intro c hm;obtain ⟨pre, e1, e2⟩ := h.rest c (by rw [hc]; exact List.mem_cons_of_mem _ hm);refine ⟨pre, e1, fun z hz => ?_⟩;rcases e2 z hz with e3 | ⟨e3, e4⟩
  ·exact .inl e3
  ·exact .inr ⟨e3, fun k => Nat.le_trans (hle c.1) (e4 k)⟩
 ·intro v hv hn z hz;by_cases e : v = x
  ·obtain ⟨pre, e1, e2⟩ := h.rest (x, []) (by rw [hc]; exact List.mem_cons_self ..);rw [e] at hz;rw [show nx x = pre from by rw [← List.append_nil pre]; exact e1] at hz;exact ((e2 z hz).resolve_left (fun k => k)).1
  ·exact h.fin v hv (fun k => by rw [hg] at k; exact (List.mem_cons.1 k).elim e hn) z hz
 ·exact h.Ir
 ·exact fun c k => h.up c (mem c k)
 ·intro y hy;obtain ⟨c, c1, c2, c3⟩ := h.down y hy;by_cases e : c = x
  ·rw [e] at c2 c3;exact ⟨c', hc', by show st.nums.getD c' 0 ≤ st.nums.getD y 0; omega, c3.trans (w4.trans d3)⟩
  ·rw [hg] at c1;exact ⟨c, (List.mem_cons.1 c1).resolve_left e, c2, c3⟩
 ·intro c hm;show ∃ w, w ∈ st.bB ∧ st.nums.getD w 0 = (jZ st x ((u, ru) :: cs')).getD c 0 ∧ _;obtain ⟨w', a1, a2, a3, a4⟩ := h.l1 c (mem c hm);by_cases e : c = u
  ·rw [e, lu];rw [e] at a2 a3 a4;by_cases hlt : st.bJ.getD x 0 < st.bJ.getD u 0
   ·exact ⟨w, w1, by omega, by show st.nums.getD w 0 ≤ st.nums.getD u 0; omega, (h.up u (mem u PX) x hxs (Nat.le_of_lt K4)).trans w4⟩
   ·exact ⟨w', a1, by omega, a3, a4⟩
  ·rw [lo c e];exact ⟨w', a1, a2, a3, a4⟩
 ·intro v hv hn c hm h1 h2 z hz hzs;by_cases e : v = x
  ·have VO : c = u := by
    have a := h2 u PX (by rw [e]; exact Nat.le_of_lt K4);have b := aeT c hm;exact h.inj c u (Nat.le_antisymm b a) (h.sv c (h.cs c (mem c hm)))
   obtain ⟨pre, e1, e2⟩ := h.rest (x, []) (by rw [hc]; exact List.mem_cons_self ..);rw [e] at hz;rw [show nx x = pre from by rw [← List.append_nil pre]; exact e1] at hz;have := ((e2 z hz).resolve_left (fun k => k)).2 hzs;show (jZ st x ((u, ru) :: cs')).getD c 0 ≤ st.nums.getD z 0;rw [VO, lu];simp only at this;omega
  ·have hno : v ∉ st.calls.map Prod.fst := fun k => by rw [hg] at k; exact (List.mem_cons.1 k).elim e hn
   by_cases hxv : st.nums.getD x 0 ≤ st.nums.getD v 0
   ·have := h.l2 v hv hno x hxg hxv (fun c' k _ => h.top hc c' k) z hz hzs;have VO : c = u := by
     have a := h2 u PX (Nat.le_trans (Nat.le_of_lt K4) hxv);have b := aeT c hm;exact h.inj c u (Nat.le_antisymm b a) (h.sv c (h.cs c (mem c hm)))
    show (jZ st x ((u, ru) :: cs')).getD c 0 ≤ st.nums.getD z 0;rw [VO, lu];omega
   ·have := h.l2 v hv hno c (mem c hm) h1 (fun c' k k' => by
     rw [hg] at k;rcases List.mem_cons.1 k with e' | e'
     ·rw [e'] at k'; exact absurd k' hxv
     ·exact h2 c' e' k') z hz hzs
    exact Nat.le_trans (hle c) this
 ·exact h.root
 ·exact h.l6
theorem apJ {x : Nat} {cs : List (Nat × List Nat)} (h : Inv nx N P good frm (fun _ => False) st) (hc : st.calls = (x, []) :: cs) (hl : ¬ st.bJ.getD x 0 < st.nums.getD x 0) :
  Inv nx N P good frm (fun _ => False) { st with bJ := jZ st x cs, calls := cs, bB := (nQ x st.bB).2, on := marks false (nQ x st.bB).1 st.on, found := if st.found.isNone && gm nx P good (marks true (nQ x st.bB).1 (List.replicate st.nums.length false)) (nQ x st.bB).1 then some (marks true (nQ x st.bB).1 (List.replicate st.nums.length false)) else st.found } := by
 have hg : st.calls.map Prod.fst = x :: cs.map Prod.fst := by rw [hc]; rfl
 have hcp := h.cp;rw [hg] at hcp;have hcp1 := (List.pairwise_cons.1 hcp).1;have hcp2 := (List.pairwise_cons.1 hcp).2;have hxg : x ∈ st.calls.map Prod.fst := by rw [hg]; exact List.mem_cons_self ..
 have hxs := h.cs x hxg;have mem : ∀ c, c ∈ cs.map Prod.fst → c ∈ st.calls.map Prod.fst := fun c k => by rw [hg]; exact List.mem_cons_of_mem _ k
 have hur : ∀ u r cs', cs = (u, r) :: cs' → u < st.bJ.length := fun u r cs' e => by
  rw [h.ll];exact h.lt (h.sv u (h.cs u (mem u (by rw [e]; exact List.mem_cons_self ..))))
 have hle := fun v => aeS st x cs v hur;obtain ⟨w, w1, w2, w3, w4⟩ := h.l1 x hxg;have hlx : st.bJ.getD x 0 = st.nums.getD x 0 := by omega
 -- the low numbers of what is left are as they were
 have hsame : ∀ c, c ∈ cs.map Prod.fst → (jZ st x cs).getD c 0 = st.bJ.getD c 0 := by
  intro c hm;match cs, hm, hur, hcp1, mem with
  | (u, ru) :: cs', hm, hur, hcp1, mem =>
   show (st.bJ.set u _).getD c 0 = _;by_cases e : c = u
   ·rw [e, BJ _ (hur u ru cs' rfl)];obtain ⟨w', _, a2, a3, _⟩ := h.l1 u (mem u (List.mem_cons_self ..));have := hcp1 u (List.mem_cons_self ..);omega
   ·rw [Dt _ e]
 obtain ⟨T, R, hp, hsplit, hxT⟩ := VL x st.bB hxs;have hss := h.ss;rw [hsplit] at hss;have VP := List.pairwise_append.1 hss;have K5 : ∀ y, y ∈ R → st.nums.getD y 0 < st.nums.getD x 0 := fun y hy => (List.pairwise_cons.1 VP.2.1).1 y hy;have VQ : ∀ y, y ∈ T → st.nums.getD x 0 < st.nums.getD y 0 := fun y hy => VP.2.2 y hy x (List.mem_cons_self ..);have PY : ∀ y, y ∈ T ++ [x] → st.nums.getD x 0 ≤ st.nums.getD y 0 := fun y hy => by
  rcases List.mem_append.1 hy with k | k
  ·exact Nat.le_of_lt (VQ y k)
  ·rw [List.mem_singleton.1 k]; exact Nat.le_refl _
 have hTs : ∀ y, y ∈ T ++ [x] → y ∈ st.bB := fun y hy => by
  rw [hsplit];rcases List.mem_append.1 hy with k | k
  ·exact List.mem_append_left _ k
  ·rw [List.mem_singleton.1 k]; exact List.mem_append_right _ (List.mem_cons_self ..)
 have hRs : ∀ y, y ∈ R → y ∈ st.bB := fun y hy => by rw [hsplit]; exact List.mem_append_right _ (List.mem_cons_of_mem _ hy)
 have hTR : ∀ y, y ∈ st.bB → y ∈ T ++ [x] ∨ y ∈ R := fun y hy => by
  rw [hsplit] at hy;rcases List.mem_append.1 hy with k | k
  ·exact .inl (List.mem_append_left _ k)
  ·rcases List.mem_cons.1 k with e | e
   ·exact .inl (List.mem_append_right _ (by rw [e]; exact List.mem_singleton.2 rfl))
   ·exact .inr e
 have aeU : ∀ y, y ∈ T ++ [x] → y ∉ R := fun y a b => by have := PY y a; have := K5 y b; omega
 have hp1 : (nQ x st.bB).1 = T ++ [x] := by rw [hp]
 have hp2 : (nQ x st.bB).2 = R := by rw [hp]
 have csR : ∀ c, c ∈ cs.map Prod.fst → c ∈ R := fun c k => by
  rcases hTR c (h.cs c (mem c k)) with a | a
  ·have := PY c a;have := hcp1 c k;omega
  ·exact a
 have aeV : ∀ z, z ∈ nx x → st.nums.getD z 0 ≠ 0 ∧ (z ∈ st.bB → st.bJ.getD x 0 ≤ st.nums.getD z 0) := fun z hz => by
  obtain ⟨pre, e1, e2⟩ := h.rest (x, []) (by rw [hc]; exact List.mem_cons_self ..);rw [show nx x = pre from by rw [← List.append_nil pre]; exact e1] at hz;exact (e2 z hz).resolve_left (fun k => k)
 have fin' : ∀ v, st.nums.getD v 0 ≠ 0 → v ∉ cs.map Prod.fst → ∀ z, z ∈ nx v → st.nums.getD z 0 ≠ 0 := by
  intro v hv hn z hz;by_cases e : v = x
  ·rw [e] at hz; exact (aeV z hz).1
  ·exact h.fin v hv (fun k => by rw [hg] at k; exact (List.mem_cons.1 k).elim e hn) z hz
 have aeW : ∀ v, st.nums.getD v 0 ≠ 0 → v ∉ R → ∀ z, z ∈ nx v → z ∉ R := by
  intro v hv hn z hz K6;by_cases hvs : v ∈ st.bB
  ·have PZ := (hTR v hvs).resolve_right hn;by_cases e : v = x
   ·rw [e] at hz;have := (aeV z hz).2 (hRs z K6);have := K5 z K6;omega
   ·have aeX : v ∈ T := by
     rcases List.mem_append.1 PZ with k | k
     ·exact k
     ·exact absurd (List.mem_singleton.1 k) e
    have hng : v ∉ st.calls.map Prod.fst := fun k => by
     have := h.top hc v k;have := VQ v aeX;omega
    have := h.l2 v hvs hng x hxg (Nat.le_of_lt (VQ v aeX)) (fun c' k _ => h.top hc c' k) z hz (hRs z K6);have := K5 z K6;omega
  ·exact h.Ir v hv hvs z hz (hRs z K6)
 have Dv : ∀ a, a ∈ T ++ [x] → Reach nx x a ∧ Reach nx a x := by
  intro a ha;refine ⟨h.up x hxg a (hTs a ha) (PY a ha), ?_⟩;obtain ⟨c, c1, c2, c3⟩ := h.down a (hTs a ha);exact c3.trans (h.aeP hc c c1)
 have VR : ∀ y, y ∈ T ++ [x] → st.nums.getD y 0 ≠ 0 := fun y k => h.sv y (hTs y k)
 -- what goes round with the component lies in it
 have hmax : ∀ a b, a ∈ T ++ [x] → Reach nx a b → Reach nx b a → b ∈ T ++ [x] := by
  intro a b ha hab K7;have hS : ∀ v, (st.nums.getD v 0 ≠ 0 ∧ v ∉ R) → ∀ z, z ∈ nx v → (st.nums.getD z 0 ≠ 0 ∧ z ∉ R) := fun v hv z hz =>
   ⟨fin' v hv.1 (fun k => hv.2 (csR v k)) z hz, aeW v hv.1 hv.2 z hz⟩
  obtain ⟨b1, b2⟩ := hab.closed hS ⟨VR a ha, aeU a ha⟩;by_cases hbs : b ∈ st.bB
  ·exact (hTR b hbs).resolve_right b2
  ·have hS0 : ∀ v, (st.nums.getD v 0 ≠ 0 ∧ v ∉ st.bB) → ∀ z, z ∈ nx v → (st.nums.getD z 0 ≠ 0 ∧ z ∉ st.bB) := fun v hv z hz =>
    ⟨h.fin v hv.1 (fun k => hv.2 (h.cs v k)) z hz, h.Ir v hv.1 hv.2 z hz⟩
   exact absurd (hTs a ha) (K7.closed hS0 ⟨b1, hbs⟩).2
 have KJ : ∀ v, v ∈ T ++ [x] → v < N := fun v k => h.lt (VR v k);have BM : ∀ v, (marks true (T ++ [x]) (List.replicate st.nums.length false)).getD v false = true ↔ v ∈ T ++ [x] := by
  intro v;by_cases hv : v < N
  ·rw [VM true _ _ v (by rw [List.length_replicate, h.ln]; exact hv)];by_cases k : v ∈ T ++ [x]
   ·rw [if_pos k];exact ⟨fun _ => k, fun _ => rfl⟩
   ·rw [if_neg k];simp only [k, iff_false];rw [List.getD_eq_getElem?_getD, List.getElem?_replicate];split <;> simp
  ·rw [aeQ (by rw [List.length_replicate, h.ln]; exact hv)];simp only [Bool.false_eq_true, false_iff];exact fun k => hv (KJ v k)
 rw [hp1, hp2]
 -- the head of what was taken off
 obtain ⟨hd, tl, hhd⟩ : ∃ hd tl, T ++ [x] = hd :: tl := by
  match T with
  | [] => exact ⟨x, [], rfl⟩
  | a :: r => exact ⟨a, r ++ [x], rfl⟩
 have VS : hd ∈ T ++ [x] := by rw [hhd]; exact List.mem_cons_self ..
 have Iw : gm nx P good (marks true (T ++ [x]) (List.replicate st.nums.length false)) (T ++ [x]) = true ↔ Av nx P good x := by
  have Fx := Dv hd VS;have apK : (T ++ [x]).headD 0 = hd := by rw [hhd]; rfl
  unfold gm;rw [apK, Bool.and_eq_true, Bool.not_eq_true', List.isEmpty_eq_false_iff, List.all_eq_true];constructor
  ·rintro ⟨e1, e2⟩;obtain ⟨y, hy⟩ := List.exists_mem_of_ne_nil _ e1;rw [List.mem_filter] at hy;have VT := (BM y).1 hy.2;refine Av.move (x := hd) ⟨⟨y, hy.1, (Dv y VT).2.trans Fx.1⟩, fun i hi => ?_⟩ Fx.2 Fx.1;have := e2 i (List.mem_range.2 hi);rw [List.any_eq_true] at this;obtain ⟨z, z1, z2⟩ := this;exact ⟨z, Fx.2.trans (Dv z z1).1, (Dv z z1).2.trans Fx.1, z2⟩
  ·intro hacc;have ha := hacc.move Fx.1 Fx.2;obtain ⟨⟨y, hy, hyr⟩, hgd⟩ := ha;constructor
   ·have VT := hmax hd y VS (.one hy) hyr;exact List.ne_nil_of_mem (List.mem_filter.2 ⟨hy, (BM y).2 VT⟩)
   ·intro i hi;obtain ⟨z, z1, z2, z3⟩ := hgd i (List.mem_range.1 hi);rw [List.any_eq_true];exact ⟨z, hmax hd z VS z1 z2, z3⟩
 constructor
 ·exact h.ln
 ·exact (aeR st x _).trans h.ll
 ·show (marks _ _ _).length = N; rw [KZ]; exact h.lo
 ·exact h.le
 ·exact h.inj
 ·intro v;show (marks false (T ++ [x]) st.on).getD v false = true ↔ v ∈ R;by_cases hv : v < N
  ·rw [VM false _ _ v (by rw [h.lo]; exact hv)];by_cases k : v ∈ T ++ [x]
   ·rw [if_pos k];simp only [Bool.false_eq_true, false_iff];exact aeU v k
   ·rw [if_neg k, h.Fu v];exact ⟨fun a => (hTR v a).resolve_left k, fun a => hRs v a⟩
  ·rw [aeQ (by rw [h.lo]; exact hv)];simp only [Bool.false_eq_true, false_iff];exact fun k => hv (h.lt (h.sv v (hRs v k)))
 ·exact fun v k => h.sv v (hRs v k)
 ·exact (List.pairwise_cons.1 VP.2.1).2
 ·exact csR
 ·exact hcp2
 ·intro c hm;obtain ⟨pre, e1, e2⟩ := h.rest c (by rw [hc]; exact List.mem_cons_of_mem _ hm);refine ⟨pre, e1, fun z hz => ?_⟩;rcases e2 z hz with e3 | ⟨e3, e4⟩
  ·exact .inl e3
  ·exact .inr ⟨e3, fun k => Nat.le_trans (hle c.1) (e4 (hRs z k))⟩
 ·exact fin'
 ·exact aeW
 ·exact fun c k y hy => h.up c (mem c k) y (hRs y hy)
 ·intro y hy;obtain ⟨c, c1, c2, c3⟩ := h.down y (hRs y hy);rw [hg] at c1;refine ⟨c, (List.mem_cons.1 c1).resolve_left (fun e => ?_), c2, c3⟩;rw [e] at c2;have := K5 y hy;omega
 ·intro c hm;show ∃ w, w ∈ R ∧ st.nums.getD w 0 = (jZ st x cs).getD c 0 ∧ _;obtain ⟨w', a1, a2, a3, a4⟩ := h.l1 c (mem c hm);rw [hsame c hm];refine ⟨w', (hTR w' a1).resolve_left (fun k => ?_), a2, a3, a4⟩;have := PY w' k;have := hcp1 c hm;omega
 ·intro v hv hn c hm h1 h2 z hz hzs;show (jZ st x cs).getD c 0 ≤ _;rw [hsame c hm];have hvx := K5 v hv;have hno : v ∉ st.calls.map Prod.fst := fun k => by
   rw [hg] at k;exact (List.mem_cons.1 k).elim (fun e => by rw [e] at hvx; omega) hn
  refine h.l2 v (hRs v hv) hno c (mem c hm) h1 (fun c' k k' => ?_) z hz (hRs z hzs);rw [hg] at k;rcases List.mem_cons.1 k with e' | e'
  ·rw [e'] at k'; omega
  ·exact h2 c' e' k'
 ·exact h.root
 ·have hf := h.l6;unfold KY at hf ⊢;simp only;cases hfo : st.found with
  | some c => rw [hfo] at hf; simpa using hf
  | none =>
   rw [hfo] at hf;simp only [Option.isNone_none, Bool.true_and];by_cases hs : gm nx P good (marks true (T ++ [x]) (List.replicate st.nums.length false)) (T ++ [x]) = true
   ·rw [if_pos hs];have hacc := Iw.1 hs;refine ⟨by rw [KZ, List.length_replicate]; exact h.ln, fun v k => KJ v ((BM v).1 k), fun a b ka kb => ?_, fun a b ka h1 h2 => (BM b).2 (hmax a b ((BM a).1 ka) h1 h2), ⟨x, (BM x).2 (by simp), hacc⟩, fun a ka => h.root a (VR a ((BM a).1 ka))⟩;exact (Dv a ((BM a).1 ka)).2.trans (Dv b ((BM b).1 kb)).1
   ·rw [if_neg hs];intro v hv hn hacc;by_cases hvs : v ∈ st.bB
    ·have PZ := (hTR v hvs).resolve_right hn;exact hs (Iw.2 (hacc.move (Dv v PZ).2 (Dv v PZ).1))
    ·exact hf v hv hvs hacc
end
end Go.Proofs.YtapejnikpmfddaaGreat.Sg
namespace Go.Proofs.YtapejnikpmfddaaGreat.Sg
section
variable {nx : Nat → List Nat} {N P : Nat} {good : Nat → Nat → Bool} {frm : List Nat} {st : FS}
theorem VU (hnx : ∀ x, x < N → ∀ y, y ∈ nx x → y < N) (h : Inv nx N P good frm (fun _ => False) st) : Inv nx N P good frm (fun _ => False) (pX nx (gm nx P good) st) := by
 match hc : st.calls with
 | [] => unfold pX; rw [hc]; exact h
 | (x, []) :: cs =>
  unfold pX;rw [hc];simp only;unfold xO;have hxg : x ∈ st.calls.map Prod.fst := by rw [hc]; exact List.mem_cons_self ..
  have hlow : (jZ st x cs).getD x 0 = st.bJ.getD x 0 := by
   match cs, hc with
   | [], _ => rfl
   | (u, r) :: cs', hc =>
    refine Dt _ (fun e => ?_);have hp := h.cp;rw [hc] at hp;have := (List.pairwise_cons.1 hp).1 u (List.mem_cons_self ..);simp only at this;rw [e] at this;exact absurd this (Nat.lt_irrefl _)
  rw [hlow];by_cases hl : st.bJ.getD x 0 < st.nums.getD x 0
  ·rw [if_pos hl]; exact apI h hc hl
  ·rw [if_neg hl]; exact apJ h hc hl
 | (x, y :: r) :: cs =>
  unfold pX;rw [hc];simp only;have hxg : x ∈ st.calls.map Prod.fst := by rw [hc]; exact List.mem_cons_self ..
  have hxs := h.cs x hxg;have ou := h.lt (h.sv x hxs);obtain ⟨pre, e1, _⟩ := h.rest (x, y :: r) (by rw [hc]; exact List.mem_cons_self ..);have hyx : y ∈ nx x := by rw [e1]; exact List.mem_append_right _ (List.mem_cons_self ..)
  have vz := hnx x ou y hyx;have hgr : ({ st with calls := (x, r) :: cs } : FS).calls.map Prod.fst = st.calls.map Prod.fst := by rw [hc]; rfl
  by_cases h0 : st.nums.getD y 0 = 0
  ·rw [if_pos h0];have h1 := VK h hc (fun z => z = y) (.inl rfl);refine aeN h1 (fun z hz => hz) vz h0 ?_ (fun c hcm => ?_)
   ·obtain ⟨q, q1, q2⟩ := h.root x (h.sv x hxs);exact ⟨q, q1, q2.snoc hyx⟩
   ·rw [hgr] at hcm;exact (h.aeP hc c hcm).snoc hyx
  ·rw [if_neg h0];by_cases ho : st.on.getD y false = true
   ·rw [if_pos ho];have hys := (h.Fu y).1 ho;have h1 := apH h hxg hys (.one hyx) rfl;have hxl : x < st.bJ.length := by rw [h.ll]; exact ou
    exact VK h1 hc (fun _ => False) (.inr ⟨h0, fun _ => by
     show (st.bJ.set x _).getD x 0 ≤ st.nums.getD y 0;rw [BJ _ hxl]; omega⟩)
   ·rw [if_neg ho];exact VK h hc (fun _ => False) (.inr ⟨h0, fun k => absurd ((h.Fu y).2 k) ho⟩)
theorem aeY {y m : Nat} (hm : m ≠ 0) : ∀ (k : Nat) (nums : List Nat), y < nums.length → Dq nx (nums.set y m) k + (if y < k then (if nums.getD y 0 = 0 then (nx y).length + 2 else 0) else 0) = Dq nx nums k
 | 0, nums, _ => rfl
 | k + 1, nums, hy => by
  have ih := aeY (y := y) hm k nums hy;simp only [Dq];by_cases e : y = k
  ·subst e;rw [BJ _ hy, if_neg hm, if_pos (Nat.lt_succ_self y)];rw [if_neg (Nat.lt_irrefl y)] at ih;omega
  ·rw [Dt _ (Ne.symm e)];by_cases hlt : y < k
   ·rw [if_pos hlt] at ih;rw [if_pos (show y < k + 1 by omega)];omega
   ·rw [if_neg hlt] at ih;rw [if_neg (show ¬ y < k + 1 by omega)];omega
theorem apL {y : Nat} (hl : st.nums.length = N) (hy : y < N) (h0 : st.nums.getD y 0 = 0) : mu nx N (ib nx st y) + 1 = mu nx N st := by
 have := aeY (nx := nx) (y := y) (m := st.met + 1) ag N st.nums ag;rw [if_pos hy, if_pos h0] at this;unfold mu ib left;simp only [List.map_cons, List.sum_cons];omega
theorem aeZ (hnx : ∀ x, x < N → ∀ y, y ∈ nx x → y < N) (h : Inv nx N P good frm (fun _ => False) st) (hne : st.calls ≠ []) : mu nx N (pX nx (gm nx P good) st) < mu nx N st := by
 match hc : st.calls with
 | [] => exact absurd hc hne
 | (x, []) :: cs =>
  unfold pX;rw [hc];simp only;have hm : mu nx N st = Dq nx st.nums N + (left cs + 1) := by
   unfold mu left;rw [hc];simp only [List.map_cons, List.sum_cons, List.length_nil];omega
  rw [hm];unfold xO mu;split
  ·show Dq nx st.nums N + left cs < _; omega
  ·show Dq nx st.nums N + left cs < _; omega
 | (x, y :: r) :: cs =>
  have hxg : x ∈ st.calls.map Prod.fst := by rw [hc]; exact List.mem_cons_self ..
  have ou := h.lt (h.sv x (h.cs x hxg));obtain ⟨pre, e1, _⟩ := h.rest (x, y :: r) (by rw [hc]; exact List.mem_cons_self ..);have vz := hnx x ou y (by rw [e1]; exact List.mem_append_right _ (List.mem_cons_self ..));have hm : mu nx N st = mu nx N { st with calls := (x, r) :: cs } + 1 := by
   unfold mu left;rw [hc];simp only [List.map_cons, List.sum_cons, List.length_cons];omega
  unfold pX;rw [hc];simp only;by_cases h0 : st.nums.getD y 0 = 0
  ·rw [if_pos h0];have := apL (nx := nx) (st := { st with calls := (x, r) :: cs }) (y := y) h.ln vz h0;omega
  ·rw [if_neg h0];split
   ·show mu nx N { st with calls := (x, r) :: cs } < _; omega
   ·omega
theorem VV (nx : Nat → List Nat) (gK : List Bool → List Nat → Bool) (st : FS) (h : st.calls ≠ []) (k : Nat) : sI nx gK (k + 1) st = sI nx gK k (pX nx gK st) := by
 show (if st.calls.isEmpty then st else _) = _;rw [if_neg (by simpa using h)]
theorem run_end (nx : Nat → List Nat) (gK : List Bool → List Nat → Bool) (st : FS) (h : st.calls = []) (k : Nat) : sI nx gK k st = st := by
 cases k with
 | zero => rfl
 | succ k => show (if st.calls.isEmpty then st else _) = _; rw [if_pos (by simp [h])]
theorem ae0 (hnx : ∀ x, x < N → ∀ y, y ∈ nx x → y < N) : ∀ (k : Nat) (st : FS), Inv nx N P good frm (fun _ => False) st → mu nx N st ≤ k → Inv nx N P good frm (fun _ => False) (sI nx (gm nx P good) k st) ∧ (sI nx (gm nx P good) k st).calls = []
 | 0, st, h, hk => by
  match hc : st.calls with
  | [] => exact ⟨h, rfl⟩
  | c :: cs =>
   unfold mu left at hk;rw [hc] at hk;simp only [List.map_cons, List.sum_cons] at hk;omega
 | k + 1, st, h, hk => by
  by_cases hne : st.calls = []
  ·rw [run_end _ _ _ hne]; exact ⟨h, hne⟩
  ·rw [VV _ _ _ hne];have := aeZ hnx h hne;exact ae0 hnx k _ (VU hnx h) ag
theorem Iy (N v : Nat) : (BH N).nums.getD v 0 = 0 := by
 show (List.replicate N 0).getD v 0 = 0;rw [List.getD_eq_getElem?_getD, List.getElem?_replicate];split <;> rfl
theorem ae1 : Inv nx N P good frm (fun _ => False) (BH N) := by
 constructor
 ·exact List.length_replicate ..
 ·exact List.length_replicate ..
 ·exact List.length_replicate ..
 ·intro v; rw [Iy]; exact Nat.zero_le _
 ·intro v w _ h; exact absurd (Iy N v) h
 ·intro v;show (List.replicate N false).getD v false = true ↔ v ∈ [];rw [List.getD_eq_getElem?_getD, List.getElem?_replicate];split <;> simp
 ·intro v h; cases h
 ·exact .nil
 ·intro v h; cases h
 ·exact .nil
 ·intro v h; cases h
 ·intro v h; exact absurd (Iy N v) h
 ·intro v h; exact absurd (Iy N v) h
 ·intro v h; cases h
 ·intro v h; cases h
 ·intro v h; cases h
 ·intro v h; cases h
 ·intro v h; exact absurd (Iy N v) h
 ·intro v h; exact absurd (Iy N v) h
theorem Inv.bare {ex : Nat → Prop} (h : Inv nx N P good frm ex st) (hc : st.calls = []) : st.bB = [] := by
 match hs : st.bB with
 | [] => rfl
 | y :: r =>
  obtain ⟨c, c1, _⟩ := h.down y (by rw [hs]; exact List.mem_cons_self ..);rw [hc] at c1;cases c1
theorem ae2 {x : Nat} (h : Inv nx N P good frm (fun _ => False) st) (hc : st.calls = []) (hx : x < N) (hf : x ∈ frm) (h0 : st.nums.getD x 0 = 0) : Inv nx N P good frm (fun _ => False) (ib nx st x) :=
 aeN h (fun _ k => k.elim) hx h0 ⟨x, hf, .refl _⟩ (fun c k => by rw [hc] at k; cases k)
theorem VW (hnx : ∀ x, x < N → ∀ y, y ∈ nx x → y < N) : ∀ (l : List Nat) (st : FS), (∀ x, x ∈ l → x < N ∧ x ∈ frm) → Inv nx N P good frm (fun _ => False) st → st.calls = [] → st.found = none →
  match sJ nx (gm nx P good) N l st with
  | some c => vk nx N P good frm c
  | none => ∃ st', Inv nx N P good frm (fun _ => False) st' ∧ st'.calls = [] ∧ st'.found = none ∧ (∀ v, st.nums.getD v 0 ≠ 0 → st'.nums.getD v 0 ≠ 0) ∧ ∀ x, x ∈ l → st'.nums.getD x 0 ≠ 0
 | [], st, _, h, hc, hf => ⟨st, h, hc, hf, fun _ k => k, fun x hx => by cases hx⟩
 | x :: r, st, hl, h, hc, hf => by
  have hx := hl x (List.mem_cons_self ..);have hr := fun y hy => hl y (List.mem_cons_of_mem _ hy);unfold sJ;by_cases h0 : 0 < st.nums.getD x 0
  ·rw [if_pos h0];have ih := VW hnx r st hr h hc hf;generalize sJ nx (gm nx P good) N r st = o at ih ⊢;cases o with
   | some c => exact ih
   | none =>
    obtain ⟨st', a1, a2, a3, a4, a5⟩ := ih;exact ⟨st', a1, a2, a3, a4, fun y hy => (List.mem_cons.1 hy).elim (fun e => a4 y (by rw [e]; omega)) (a5 y)⟩
  ·rw [if_neg h0];have h1 := ae2 h hc hx.1 hx.2 ag;obtain ⟨h2, h3⟩ := ae0 hnx (mu nx N (ib nx st x)) _ h1 (Nat.le_refl _);have hmono : ∀ (k : Nat) (s : FS), Inv nx N P good frm (fun _ => False) s → ∀ v, s.nums.getD v 0 ≠ 0 → (sI nx (gm nx P good) k s).nums.getD v 0 ≠ 0 := by
    intro k
    induction k with
    | zero => exact fun s _ v hv => hv
    | succ k ih =>
     intro s hs v hv;by_cases hne : s.calls = []
     ·rw [run_end _ _ _ hne]; exact hv
     ·rw [VV _ _ _ hne];refine ih _ (VU hnx hs) v ?_;match hcs : s.calls with
      | [] => exact absurd hcs hne
      | (a, []) :: cs =>
       unfold pX;rw [hcs];simp only;unfold xO;split <;> exact hv
      | (a, b :: q) :: cs =>
       unfold pX;rw [hcs];simp only;split
       ·show (s.nums.set b (s.met + 1)).getD v 0 ≠ 0;rw [BI];split
        ·rename_i e
         subst e;rw [if_pos (getD_lt hv)]; omega
        ·exact hv
       ·split <;> exact hv
   have hxv : (sI nx (gm nx P good) (mu nx N (ib nx st x)) (ib nx st x)).nums.getD x 0 ≠ 0 := by
    refine hmono _ _ h1 x ?_;show (st.nums.set x (st.met + 1)).getD x 0 ≠ 0;rw [BJ _ (by rw [h.ln]; exact hx.1)]; omega
   have hold : ∀ v, st.nums.getD v 0 ≠ 0 → (sI nx (gm nx P good) (mu nx N (ib nx st x)) (ib nx st x)).nums.getD v 0 ≠ 0 := by
    intro v hv;refine hmono _ _ h1 v ?_;show (st.nums.set x (st.met + 1)).getD v 0 ≠ 0;rw [BI];split
    ·rename_i e
     subst e;rw [if_pos (getD_lt hv)]; omega
    ·exact hv
   generalize sI nx (gm nx P good) (mu nx N (ib nx st x)) (ib nx st x) = s1 at *;cases hf1 : s1.found with
   | some c =>
    have := h2.l6;unfold KY at this;rw [hf1] at this;exact this
   | none =>
    have ih := VW hnx r s1 hr h2 h3 hf1;show match sJ nx (gm nx P good) N r s1 with
     | some c => _
     | none => _
    generalize sJ nx (gm nx P good) N r s1 = o at ih ⊢;cases o with
    | some c => exact ih
    | none =>
     obtain ⟨st', a1, a2, a3, a4, a5⟩ := ih;exact ⟨st', a1, a2, a3, fun v hv => a4 v (hold v hv), fun y hy => (List.mem_cons.1 hy).elim (fun e => a4 y (by rw [e]; exact hxv)) (a5 y)⟩
theorem ae3 (hnx : ∀ x, x < N → ∀ y, y ∈ nx x → y < N) (l : List Nat) (hl : ∀ x, x ∈ l → x < N) :
  match Dr nx (gm nx P good) N l with
  | some c => vk nx N P good l c
  | none => ∀ x v, x ∈ l → Reach nx x v → ¬ Av nx P good v := by
 have h := VW (P := P) (good := good) hnx l (BH N) (fun x hx => ⟨hl x hx, hx⟩) ae1 rfl rfl;unfold Dr;generalize sJ nx (gm nx P good) N l (BH N) = o at h ⊢;cases o with
 | some c => exact h
 | none =>
  obtain ⟨st', a1, a2, a3, _, a5⟩ := h;have hb := a1.bare a2;have hf := a1.l6;unfold KY at hf;rw [a3] at hf;intro x v hx hr hacc;have hv : st'.nums.getD v 0 ≠ 0 := hr.closed (S := fun v => st'.nums.getD v 0 ≠ 0) (fun u hu z hz => a1.fin u hu (by rw [a2]; intro k; cases k) z hz) (a5 x hx);exact hf v hv (by rw [hb]; intro k; cases k) hacc
end
end Go.Proofs.YtapejnikpmfddaaGreat.Sg
namespace Go.Proofs.YtapejnikpmfddaaGreat.Sg
def iw (nx : Nat → List Nat) (inn : Nat → Bool) : List Nat → Prop
 | [] => True
 | [_] => True
 | a :: b :: r => b ∈ nx a ∧ inn b = true ∧ iw nx inn (b :: r)
theorem iw.snoc {nx : Nat → List Nat} {inn : Nat → Bool} {x y : Nat} : ∀ (l : List Nat), iw nx inn (l ++ [x]) → y ∈ nx x → inn y = true → iw nx inn (l ++ [x, y])
 | [], _, h1, h2 => ⟨h1, h2, trivial⟩
 | [a], h, h1, h2 => ⟨h.1, h.2.1, h1, h2, trivial⟩
 | a :: b :: r, h, h1, h2 => ⟨h.1, h.2.1, iw.snoc (b :: r) h.2.2 h1 h2⟩
theorem iw.imp {nx : Nat → List Nat} {inn ae4 : Nat → Bool} (hi : ∀ x, inn x = true → ae4 x = true) : ∀ (l : List Nat), iw nx inn l → iw nx ae4 l
 | [], _ => trivial
 | [_], _ => trivial
 | _ :: b :: r, h => ⟨h.1, hi _ h.2.1, iw.imp hi (b :: r) h.2.2⟩
theorem iw.app {nx : Nat → List Nat} {inn : Nat → Bool} {x y : Nat} (m : List Nat) : ∀ (l : List Nat), iw nx inn (l ++ [x]) → iw nx inn (y :: m) → y ∈ nx x → inn y = true → iw nx inn (l ++ x :: y :: m)
 | [], _, h, h1, h2 => ⟨h1, h2, h⟩
 | [a], h0, h, h1, h2 => ⟨h0.1, h0.2.1, h1, h2, h⟩
 | a :: b :: r, h0, h, h1, h2 => ⟨h0.1, h0.2.1, iw.app m (b :: r) h0.2.2 h h1 h2⟩
theorem iw.join {nx : Nat → List Nat} {inn : Nat → Bool} {x : Nat} (m : List Nat) : ∀ (l : List Nat), iw nx inn (l ++ [x]) → iw nx inn (x :: m) → iw nx inn (l ++ x :: m)
 | [], _, h => h
 | [a], h0, h => ⟨h0.1, h0.2.1, h⟩
 | a :: b :: r, h0, h => ⟨h0.1, h0.2.1, iw.join m (b :: r) h0.2.2 h⟩
inductive y8 (nx : Nat → List Nat) (inn : Nat → Bool) : Nat → Nat → Prop
 | refl (x : Nat) : y8 nx inn x x
 | snoc {x y z : Nat} : y8 nx inn x y → z ∈ nx y → inn z = true → y8 nx inn x z
inductive rG (nx : Nat → List Nat) (inn : Nat → Bool) (frm : List Nat) (came : List Int) : Nat → List Nat → Prop
 | root {y : Nat} : came.getD y 0 = -1 → y ∈ frm → rG nx inn frm came y [y]
 | step {x y : Nat} {l : List Nat} : came.getD y 0 = (x : Int) + 1 → y ∈ nx x → inn y = true → rG nx inn frm came x l → rG nx inn frm came y (y :: l)
def Iz (came : List Int) : Nat → Nat → List Nat
 | 0, x => [x]
 | k + 1, x => if 0 < came.getD x 0 then x :: Iz came k (came.getD x 0 - 1).toNat else [x]
def xP (v : Int) (s : List Int × List Nat) (y : Nat) : List Int × List Nat := (s.1.set y v, s.2 ++ [y])
def ow (s : List Int × List Nat) (l : List Nat) : List Int × List Nat := l.foldl (fun s x => if s.1.getD x 0 = 0 then xP (-1) s x else s) s
def mJ (inn : Nat → Bool) (x : Nat) (s : List Int × List Nat) (l : List Nat) : List Int × List Nat := l.foldl (fun s y => if s.1.getD y 0 = 0 ∧ inn y = true then xP ((x : Int) + 1) s y else s) s
def wD (nx : Nat → List Nat) (inn goal : Nat → Bool) (N : Nat) : Nat → Nat → List Int × List Nat → List Nat
 | 0, _, _ => []
 | k + 1, i, s => if i < s.2.length then (if goal (s.2.getD i 0) = true then (Iz s.1 N (s.2.getD i 0)).reverse else wD nx inn goal N k (i + 1) (mJ inn (s.2.getD i 0) s (nx (s.2.getD i 0)))) else []
def kM (nx : Nat → List Nat) (inn goal : Nat → Bool) (N : Nat) (frm : List Nat) : List Nat := wD nx inn goal N (N + 1) 0 (ow (List.replicate N 0, []) frm)
section
variable {nx : Nat → List Nat} {inn goal : Nat → Bool} {N : Nat} {frm : List Nat} {came : List Int}
theorem K8 (l : List Int) (i j : Nat) (a : Int) : (l.set i a).getD j 0 = if i = j then (if j < l.length then a else 0) else l.getD j 0 := by
 rw [List.getD_eq_getElem?_getD, List.getElem?_set];by_cases h : i = j
 ·subst h;rw [if_pos rfl, if_pos rfl];split <;> rfl
 ·rw [if_neg h, if_neg h, List.getD_eq_getElem?_getD]
theorem VX {l : List Int} {v : Nat} (h : l.getD v 0 ≠ 0) : v < l.length := by
 by_cases hv : v < l.length
 ·exact hv
 ·rw [List.getD_eq_getElem?_getD, List.getElem?_eq_none ag] at h;exact absurd rfl h
theorem rG.ne0 {y : Nat} {l : List Nat} (h : rG nx inn frm came y l) : came.getD y 0 ≠ 0 := by
 cases h with
 | root e _ => omega
 | step e _ _ _ => omega
theorem rG.set {y : Nat} {l : List Nat} (h : rG nx inn frm came y l) {z : Nat} (hz : came.getD z 0 = 0) (v : Int) : rG nx inn frm (came.set z v) y l := by
 induction h with
 | @root y e hf =>
  refine .root ?_ hf;rw [K8, if_neg (fun a => ?_)]
  ·exact e
  ·subst a; omega
 | @step x y l e h1 h2 _ ih =>
  refine .step ?_ h1 h2 ih;rw [K8, if_neg (fun a => ?_)]
  ·exact e
  ·subst a; omega
theorem rG.back {y : Nat} {l : List Nat} (h : rG nx inn frm came y l) : ∀ k, l.length ≤ k + 1 → Iz came k y = l := by
 induction h with
 | @root y e hf =>
  intro k _;cases k with
  | zero => rfl
  | succ k => unfold Iz; rw [if_neg ag]
 | @step x y l e h1 h2 h3 ih =>
  intro k hk;cases k with
  | zero =>
   cases h3 <;> (simp at hk)
  | succ k =>
   unfold Iz;rw [if_pos ag, e];rw [show ((x : Int) + 1 - 1).toNat = x by omega, ih k (by simp at hk; omega)]
theorem rG.way {y : Nat} {l : List Nat} (h : rG nx inn frm came y l) : ∃ l', l.reverse = l' ++ [y] ∧ iw nx inn l.reverse ∧ ∃ a r, l.reverse = a :: r ∧ a ∈ frm := by
 induction h with
 | @root y e hf => exact ⟨[], rfl, trivial, y, [], rfl, hf⟩
 | @step x y l e h1 h2 h3 ih =>
  obtain ⟨l', e1, e2, a, r, e3, e4⟩ := ih;refine ⟨l' ++ [x], by rw [List.reverse_cons, e1], ?_, a, r ++ [y], by rw [List.reverse_cons, e3]; rfl, e4⟩;rw [List.reverse_cons, e1, List.append_assoc];rw [e1] at e2;exact iw.snoc l' e2 h1 h2
structure oZ (nx : Nat → List Nat) (inn : Nat → Bool) (N : Nat) (frm : List Nat) (s : List Int × List Nat) : Prop where
 len : s.1.length = N
 nd : s.2.Nodup
 K9 : ∀ v, s.1.getD v 0 ≠ 0 ↔ v ∈ s.2
 tr : ∀ (j y : Nat), s.2[j]? = some y → ∃ l, rG nx inn frm s.1 y l ∧ l.length ≤ j + 1
theorem oZ.lt {s : List Int × List Nat} (h : oZ nx inn N frm s) {v : Nat} (hv : v ∈ s.2) : v < N := h.len ▸ VX ((h.K9 v).2 hv)
theorem oZ.add {s : List Int × List Nat} (h : oZ nx inn N frm s) {y : Nat} {v : Int} (hy : y < N) (h0 : s.1.getD y 0 = 0) (hv : v ≠ 0) (ht : ∃ l, rG nx inn frm (s.1.set y v) y l ∧ l.length ≤ s.2.length + 1) : oZ nx inn N frm (xP v s y) := by
 have hny : y ∉ s.2 := fun k => (h.K9 y).2 k h0;constructor
 ·show (s.1.set y v).length = N; rw [List.length_set]; exact h.len
 ·show (s.2 ++ [y]).Nodup;exact List.nodup_append.2 ⟨h.nd, by simp, fun a ha b hb e => hny (by rw [List.mem_singleton.1 hb] at e; rw [← e]; exact ha)⟩
 ·intro u;show (s.1.set y v).getD u 0 ≠ 0 ↔ u ∈ s.2 ++ [y];rw [K8];by_cases e : y = u
  ·subst e;rw [if_pos rfl, if_pos (by rw [h.len]; exact hy)];simp [hv]
  ·rw [if_neg e, h.K9 u, List.mem_append, List.mem_singleton];exact ⟨.inl, fun k => k.resolve_right (fun a => e a.symm)⟩
 ·intro j u hj;have hj' : (s.2 ++ [y])[j]? = some u := hj;by_cases hlt : j < s.2.length
  ·rw [List.getElem?_append_left hlt] at hj';obtain ⟨l, l1, l2⟩ := h.tr j u hj';exact ⟨l, l1.set h0 v, l2⟩
  ·rw [List.getElem?_append_right ag] at hj';have : j - s.2.length = 0 := by
    by_cases a : j - s.2.length = 0
    ·exact a
    ·rw [List.getElem?_eq_none (by simp; omega)] at hj';cases hj'
   rw [this] at hj';obtain rfl : y = u := by simpa using hj'
   obtain ⟨l, l1, l2⟩ := ht;exact ⟨l, l1, by omega⟩
theorem IA (hf : ∀ x, x ∈ frm → x < N) : ∀ (l : List Nat) (s : List Int × List Nat), (∀ x, x ∈ l → x ∈ frm) → oZ nx inn N frm s →
  oZ nx inn N frm (ow s l) ∧ (∀ x, x ∈ s.2 → x ∈ (ow s l).2) ∧ ∀ x, x ∈ l → x ∈ (ow s l).2
 | [], s, _, h => ⟨h, fun _ k => k, fun _ k => by cases k⟩
 | x :: r, s, hl, h => by
  have hx := hl x (List.mem_cons_self ..);have hr := fun y hy => hl y (List.mem_cons_of_mem _ hy);show oZ nx inn N frm (ow (if s.1.getD x 0 = 0 then xP (-1) s x else s) r) ∧ _;have he : ow s (x :: r) = ow (if s.1.getD x 0 = 0 then xP (-1) s x else s) r := rfl;rw [he];by_cases h0 : s.1.getD x 0 = 0
  ·rw [if_pos h0];have h1 : oZ nx inn N frm (xP (-1) s x) := h.add (hf x hx) h0 ag ⟨[x], .root (by rw [K8, if_pos rfl, if_pos (by rw [h.len]; exact hf x hx)]) hx, by simp⟩;obtain ⟨a, b, c⟩ := IA hf r _ hr h1;refine ⟨a, fun y hy => b y (List.mem_append_left _ hy), fun y hy => ?_⟩;rcases List.mem_cons.1 hy with e | e
   ·exact b y (List.mem_append_right _ (by simp [e]))
   ·exact c y e
  ·rw [if_neg h0];obtain ⟨a, b, c⟩ := IA hf r s hr h;refine ⟨a, b, fun y hy => ?_⟩;rcases List.mem_cons.1 hy with e | e
   ·exact b y (by rw [e]; exact (h.K9 x).1 h0)
   ·exact c y e
theorem La (hnx : ∀ x, x < N → ∀ y, y ∈ nx x → y < N) {x : Nat} : ∀ (l : List Nat) (s : List Int × List Nat), (∀ y, y ∈ l → y ∈ nx x) → x ∈ s.2 → oZ nx inn N frm s →
  oZ nx inn N frm (mJ inn x s l) ∧ (∃ t, (mJ inn x s l).2 = s.2 ++ t) ∧ ∀ y, y ∈ l → inn y = true → y ∈ (mJ inn x s l).2
 | [], s, _, _, h => ⟨h, ⟨[], (List.append_nil _).symm⟩, fun _ k => by cases k⟩
 | y :: r, s, hl, hx, h => by
  have hy := hl y (List.mem_cons_self ..);have hr := fun y hy => hl y (List.mem_cons_of_mem _ hy);have vz := hnx x (h.lt hx) y hy;have he : mJ inn x s (y :: r) = mJ inn x (if s.1.getD y 0 = 0 ∧ inn y = true then xP ((x : Int) + 1) s y else s) r := rfl;rw [he];by_cases h0 : s.1.getD y 0 = 0 ∧ inn y = true
  ·rw [if_pos h0];have h1 : oZ nx inn N frm (xP ((x : Int) + 1) s y) := by
    refine h.add vz h0.1 ag ?_;obtain ⟨j, hj⟩ := List.getElem?_of_mem hx;obtain ⟨l, l1, l2⟩ := h.tr j x hj;have hjl : j < s.2.length := (List.getElem?_eq_some_iff.1 hj).1;exact ⟨y :: l, .step (by rw [K8, if_pos rfl, if_pos (by rw [h.len]; exact vz)]) hy h0.2 (l1.set h0.1 _), by simp; omega⟩
   obtain ⟨a, ⟨t, b⟩, c⟩ := La hnx r _ hr (List.mem_append_left _ hx) h1;refine ⟨a, ⟨y :: t, by rw [b]; show s.2 ++ [y] ++ t = _; simp⟩, fun z hz hi => ?_⟩;rcases List.mem_cons.1 hz with e | e
   ·rw [b];show z ∈ s.2 ++ [y] ++ t;simp [e]
   ·exact c z e hi
  ·rw [if_neg h0];obtain ⟨a, ⟨t, b⟩, c⟩ := La hnx r s hr hx h;refine ⟨a, ⟨t, b⟩, fun z hz hi => ?_⟩;rcases List.mem_cons.1 hz with e | e
   ·rw [b];refine List.mem_append_left _ ?_;rw [e] at hi ⊢;exact (h.K9 y).1 (fun k => h0 ⟨k, hi⟩)
   ·exact c z e hi
theorem ae5 : ∀ (N : Nat) (l : List Nat), l.Nodup → (∀ x, x ∈ l → x < N) → l.length ≤ N
 | 0, l, _, h => by
  cases l with
  | nil => exact Nat.le_refl _
  | cons a r => exact absurd (h a (List.mem_cons_self ..)) (Nat.not_lt_zero _)
 | N + 1, l, hn, h => by
  have h1 : (l.filter (fun x => decide (x ≠ N))).Nodup := hn.filter _;have h2 := ae5 N (l.filter (fun x => decide (x ≠ N))) h1 (fun x hx => by
   rw [List.mem_filter] at hx;have := h x hx.1;have := of_decide_eq_true hx.2;omega)
  have h3 : (l.filter (fun x => decide (x = N))).length ≤ 1 := by
   have h4 : (l.filter (fun x => decide (x = N))).Nodup := hn.filter _;match hq : l.filter (fun x => decide (x = N)), h4 with
   | [], _ => exact Nat.zero_le _
   | [a], _ => exact Nat.le_refl _
   | a :: b :: r, h4 =>
    have ha : a ∈ l.filter (fun x => decide (x = N)) := by rw [hq]; exact List.mem_cons_self ..
    have hb : b ∈ l.filter (fun x => decide (x = N)) := by rw [hq]; exact List.mem_cons_of_mem _ (List.mem_cons_self ..)
    have ha' := of_decide_eq_true (List.mem_filter.1 ha).2;have hb' := of_decide_eq_true (List.mem_filter.1 hb).2;simp [ha', hb'] at h4
  have h5 : ∀ l : List Nat, l.length = (l.filter (fun x => decide (x ≠ N))).length + (l.filter (fun x => decide (x = N))).length := by
   intro l
   induction l with
   | nil => rfl
   | cons a r ih =>
    by_cases e : a = N
    ·rw [List.filter_cons_of_neg (by simp [e]), List.filter_cons_of_pos (by simp [e])];simp only [List.length_cons];omega
    ·rw [List.filter_cons_of_pos (by simp [e]), List.filter_cons_of_neg (by simp [e])];simp only [List.length_cons];omega
  rw [h5 l];omega
theorem oZ.le {s : List Int × List Nat} (h : oZ nx inn N frm s) : s.2.length ≤ N := ae5 N s.2 h.nd (fun _ hx => h.lt hx)
def Done (nx : Nat → List Nat) (inn goal : Nat → Bool) (i : Nat) (s : List Int × List Nat) : Prop := ∀ (j x : Nat), j < i → s.2[j]? = some x → goal x = false ∧ ∀ y, y ∈ nx x → inn y = true → y ∈ s.2
def Lb (nx : Nat → List Nat) (inn goal : Nat → Bool) (frm l : List Nat) : Prop := iw nx inn l ∧ (∃ a r, l = a :: r ∧ a ∈ frm) ∧ ∃ r b, l = r ++ [b] ∧ goal b = true
theorem getD_some {l : List Nat} {i : Nat} (h : i < l.length) : l[i]? = some (l.getD i 0) := by
 rw [List.getD_eq_getElem?_getD, List.getElem?_eq_getElem h]; rfl
theorem apM (hnx : ∀ x, x < N → ∀ y, y ∈ nx x → y < N) {i : Nat} {s : List Int × List Nat} (h : oZ nx inn N frm s) (hi : i < s.2.length) (hd : Done nx inn goal i s) (hg : goal (s.2.getD i 0) = false) :
  oZ nx inn N frm (mJ inn (s.2.getD i 0) s (nx (s.2.getD i 0))) ∧ Done nx inn goal (i + 1) (mJ inn (s.2.getD i 0) s (nx (s.2.getD i 0))) ∧ ∃ t, (mJ inn (s.2.getD i 0) s (nx (s.2.getD i 0))).2 = s.2 ++ t := by
 have hx := getD_some hi;have hxm : s.2.getD i 0 ∈ s.2 := List.mem_of_getElem? hx;obtain ⟨a, ⟨t, b⟩, c⟩ := La hnx (x := s.2.getD i 0) (nx (s.2.getD i 0)) s (fun _ k => k) hxm h;refine ⟨a, fun j x hj P5 => ?_, t, b⟩;rw [b, List.getElem?_append_left ag] at P5;by_cases e : j = i
 ·subst e;rw [hx] at P5;cases P5;exact ⟨hg, c⟩
 ·obtain ⟨d1, d2⟩ := hd j x ag P5;exact ⟨d1, fun y hy hin => by rw [b]; exact List.mem_append_left _ (d2 y hy hin)⟩
theorem ae6 (hnx : ∀ x, x < N → ∀ y, y ∈ nx x → y < N) : ∀ (k i : Nat) (s : List Int × List Nat), oZ nx inn N frm s → Done nx inn goal i s → N + 1 ≤ k + i → (∀ x, x ∈ frm → x ∈ s.2) →
  (wD nx inn goal N k i s = [] ∧ ∀ x, x ∈ frm → ∀ y, y8 nx inn x y → goal y = false) ∨ Lb nx inn goal frm (wD nx inn goal N k i s)
 | 0, i, s, h, hd, hk, hf => by
  refine .inl ⟨rfl, fun x hx y hr => ?_⟩;have hle := h.le;have hy : y ∈ s.2 := by
   induction hr with
   | refl => exact hf _ hx
   | snoc _ e1 e2 ih =>
    obtain ⟨j, hj⟩ := List.getElem?_of_mem (ih);have := (List.getElem?_eq_some_iff.1 hj).1;exact (hd j _ ag hj).2 _ e1 e2
  obtain ⟨j, hj⟩ := List.getElem?_of_mem hy;have := (List.getElem?_eq_some_iff.1 hj).1;exact (hd j _ ag hj).1
 | k + 1, i, s, h, hd, hk, hf => by
  unfold wD;by_cases hi : i < s.2.length
  ·rw [if_pos hi];cases hg : goal (s.2.getD i 0) with
   | true =>
    rw [if_pos rfl];obtain ⟨l, l1, l2⟩ := h.tr i _ (getD_some hi);have hle := h.le;rw [l1.back N ag];obtain ⟨l', e1, e2, a, r, e3, e4⟩ := l1.way;exact .inr ⟨e2, ⟨a, r, e3, e4⟩, l', _, e1, hg⟩
   | false =>
    rw [if_neg (by simp)];obtain ⟨a, b, t, c⟩ := apM hnx h hi hd hg;exact ae6 hnx k (i + 1) _ a b ag (fun x hx => by rw [c]; exact List.mem_append_left _ (hf x hx))
  ·rw [if_neg hi];refine .inl ⟨rfl, fun x hx y hr => ?_⟩;have hy : y ∈ s.2 := by
    induction hr with
    | refl => exact hf _ hx
    | snoc _ e1 e2 ih =>
     obtain ⟨j, hj⟩ := List.getElem?_of_mem (ih);have := (List.getElem?_eq_some_iff.1 hj).1;exact (hd j _ ag hj).2 _ e1 e2
   obtain ⟨j, hj⟩ := List.getElem?_of_mem hy;have := (List.getElem?_eq_some_iff.1 hj).1;exact (hd j _ ag hj).1
theorem P6 : oZ nx inn N frm (List.replicate N 0, []) := by
 constructor
 ·exact List.length_replicate ..
 ·exact List.nodup_nil
 ·intro v;show (List.replicate N (0 : Int)).getD v 0 ≠ 0 ↔ v ∈ [];rw [List.getD_eq_getElem?_getD, List.getElem?_replicate];split <;> simp
 ·intro j y hj;cases hj
theorem IB (hnx : ∀ x, x < N → ∀ y, y ∈ nx x → y < N) (hf : ∀ x, x ∈ frm → x < N) :
  (kM nx inn goal N frm = [] ∧ ∀ x, x ∈ frm → ∀ y, y8 nx inn x y → goal y = false) ∨ Lb nx inn goal frm (kM nx inn goal N frm) := by
 obtain ⟨a, _, c⟩ := IA (nx := nx) (inn := inn) hf frm _ (fun _ k => k) P6;exact ae6 hnx (N + 1) 0 _ a (fun j x hj => by omega) ag c
end
end Go.Proofs.YtapejnikpmfddaaGreat.Sg
namespace Go.Proofs.YtapejnikpmfddaaGreat.Sg
def ug (nx : Nat → List Nat) (inn : Nat → Bool) (good : Nat → Nat → Bool) (N : Nat) : List Nat → List Nat → List Nat
 | [], out => out
 | i :: r, out => ug nx inn good N r (if out.any (good i) = true then out else out ++ (kM nx inn (good i) N [out.getLastD 0]).tail)
def VY (nx : Nat → List Nat) (inn : Nat → Bool) (N x : Nat) (out : List Nat) : List Nat := out ++ (kM nx inn (fun y => y == x) N ((nx (out.getLastD 0)).filter inn)).dropLast
def vB (nx : Nat → List Nat) (inn : Nat → Bool) (good : Nat → Nat → Bool) (N P x : Nat) : List Nat := VY nx inn N x (ug nx inn good N (List.range P) [x])
def aH (c : List Bool) (x : Nat) : Bool := c.getD x false
def findF (nx : Nat → List Nat) (good : Nat → Nat → Bool) (N P : Nat) (frm : List Nat) : Option (List Nat × List Nat) :=
 match Dr nx (gm nx P good) N frm with
 | none => none
 | some c => some ((kM nx (fun _ => true) (aH c) N frm).dropLast, vB nx (aH c) good N P ((kM nx (fun _ => true) (aH c) N frm).getLastD 0))
section
variable {nx : Nat → List Nat} {inn : Nat → Bool} {good : Nat → Nat → Bool} {N P : Nat} {frm : List Nat} {c : List Bool}
theorem vk.within (h : vk nx N P good frm c) {a b : Nat} (ha : c.getD a false = true) (hb : c.getD b false = true) : y8 nx (aH c) a b := by
 have key : ∀ x y, Reach nx x y → ∀ a, c.getD a false = true → y8 nx (aH c) a x → c.getD x false = true → c.getD y false = true → y8 nx (aH c) a y := by
  intro x y hr
  induction hr with
  | refl _ => exact fun a _ h1 _ _ => h1
  | @step x z y e r ih =>
   intro a ha h1 hx hy;have hz : c.getD z false = true := h.full x z hx (.one e) (r.trans (h.conn y x hy hx));exact ih a ha (.snoc h1 e hz) hz hy
 exact key a b (h.conn a b ha hb) a ha (.refl a) ha hb
theorem ae7 {l : List Nat} {a d : Nat} : (l ++ [a]).getLastD d = a := by simp
theorem apN {nx : Nat → List Nat} {inn goal : Nat → Bool} {frm l : List Nat} (h : Lb nx inn goal frm l) : l ≠ [] ∧ goal (l.getLastD 0) = true := by
 obtain ⟨_, _, r, b, e, hb⟩ := h;rw [e];exact ⟨by simp, by rw [ae7]; exact hb⟩
theorem P7 {l : List Nat} (h : l ≠ []) : ∃ r, l = r ++ [l.getLastD 0] := by
 refine ⟨l.dropLast, ?_⟩;have := List.dropLast_concat_getLast h;rw [List.getLastD_eq_getLast?, List.getLast?_eq_some_getLast h];exact this.symm
structure Walk (nx : Nat → List Nat) (inn : Nat → Bool) (x : Nat) (out : List Nat) : Prop where
 way : iw nx inn out
 head : ∃ r, out = x :: r
 mem : ∀ y, y ∈ out → inn y = true
theorem VZ {nx : Nat → List Nat} {inn : Nat → Bool} : ∀ {l : List Nat} {a : Nat}, iw nx inn (a :: l) → ∀ y, y ∈ l → inn y = true
 | b :: r, a, h, y, hy => by
  rcases List.mem_cons.1 hy with e | e
  ·rw [e]; exact h.2.1
  ·exact VZ h.2.2 y e
theorem V6 (hc : vk nx N P good frm c) (hnx : ∀ x, x < N → ∀ y, y ∈ nx x → y < N) {x : Nat} : ∀ (l : List Nat) (out : List Nat), (∀ i, i ∈ l → i < P) → Walk nx (aH c) x out →
  Walk nx (aH c) x (ug nx (aH c) good N l out) ∧ (∃ t, ug nx (aH c) good N l out = out ++ t) ∧ ∀ i, i ∈ l → ∃ y, y ∈ ug nx (aH c) good N l out ∧ good i y = true
 | [], out, _, h => ⟨h, ⟨[], (List.append_nil _).symm⟩, fun _ k => by cases k⟩
 | i :: r, out, hl, h => by
  have hi := hl i (List.mem_cons_self ..);have hr := fun j hj => hl j (List.mem_cons_of_mem _ hj);unfold ug;by_cases ha : out.any (good i) = true
  ·rw [if_pos ha];obtain ⟨a, ⟨t, b⟩, d⟩ := V6 hc hnx r out hr h;refine ⟨a, ⟨t, b⟩, fun j hj => ?_⟩;rcases List.mem_cons.1 hj with e | e
   ·rw [List.any_eq_true] at ha;obtain ⟨y, y1, y2⟩ := ha;exact ⟨y, by rw [b]; exact List.mem_append_left _ y1, by rw [e]; exact y2⟩
   ·exact d j e
  ·rw [if_neg ha];obtain ⟨q, hq⟩ := h.head;have hne : out ≠ [] := by rw [hq]; simp
   obtain ⟨p, hp⟩ := P7 hne;generalize out.getLastD 0 = last at *;have hlin : aH c last = true := h.mem last (by rw [hp]; simp)
   -- one comes to where it is settled
   obtain ⟨a0, a1, a2⟩ := hc.acc;obtain ⟨g, g1, g2, g3⟩ := a2.2 i hi;have hgc := hc.full a0 g a1 g1 g2;rcases IB (inn := aH c) (goal := good i) hnx (frm := [last]) (fun y hy => by rw [List.mem_singleton.1 hy]; exact hc.lt last hlin) with ⟨_, hno⟩ | hok
   ·have := hno last (List.mem_singleton.2 rfl) g (hc.within hlin hgc);rw [g3] at this; cases this
   ·obtain ⟨w1, ⟨b, m, e1, e2⟩, v, z, e3, e4⟩ := hok;generalize kM nx (aH c) (good i) N [last] = more at *;rw [List.mem_singleton.1 e2] at e1;have hm : more.tail = m := by rw [e1]; rfl
    rw [hm];have hw : Walk nx (aH c) x (out ++ m) := by
     refine ⟨?_, ⟨q ++ m, by rw [hq]; rfl⟩, fun y hy => ?_⟩
     ·rw [hp, List.append_assoc];refine iw.join (x := last) m p ?_ ?_
      ·rw [← hp]; exact h.way
      ·rw [← e1]; exact w1
     ·rcases List.mem_append.1 hy with k | k
      ·exact h.mem y k
      ·rw [e1] at w1; exact VZ w1 y k
    have hz : z ∈ out ++ m := by
     have hz' : z ∈ last :: m := by rw [← e1, e3]; simp
     rcases List.mem_cons.1 hz' with k | k
     ·rw [hp, k]; simp
     ·exact List.mem_append_right _ k
    obtain ⟨a, ⟨t, b'⟩, d⟩ := V6 hc hnx r (out ++ m) hr hw;refine ⟨a, ⟨m ++ t, by rw [b', List.append_assoc]⟩, fun j hj => ?_⟩;rcases List.mem_cons.1 hj with e | e
    ·exact ⟨z, by rw [b']; exact List.mem_append_left _ hz, by rw [e]; exact e4⟩
    ·exact d j e
theorem ae8 (hc : vk nx N P good frm c) {x : Nat} (hx : c.getD x false = true) : ∃ y, y ∈ nx x ∧ c.getD y false = true := by
 obtain ⟨a, a1, a2⟩ := hc.acc;obtain ⟨⟨y, y1, y2⟩, _⟩ := a2.move (hc.conn a x a1 hx) (hc.conn x a hx a1);exact ⟨y, y1, hc.full x y hx (.one y1) y2⟩
theorem ae9 (hc : vk nx N P good frm c) (hnx : ∀ x, x < N → ∀ y, y ∈ nx x → y < N) {x : Nat} (hx : c.getD x false = true) :
  (∃ r, vB nx (aH c) good N P x = x :: r) ∧ iw nx (aH c) (vB nx (aH c) good N P x ++ [x]) ∧ ∀ i, i < P → ∃ y, y ∈ vB nx (aH c) good N P x ∧ good i y = true := by
 obtain ⟨a, _, d⟩ := V6 hc hnx (x := x) (List.range P) [x] (fun i hi => List.mem_range.1 hi) ⟨trivial, ⟨[], rfl⟩, fun y hy => by rw [List.mem_singleton.1 hy]; exact hx⟩;unfold vB VY;generalize ug nx (aH c) good N (List.range P) [x] = out at *;obtain ⟨q, hq⟩ := a.head;have hne : out ≠ [] := by rw [hq]; simp
 obtain ⟨p, hp⟩ := P7 hne;generalize out.getLastD 0 = last at *;have hlin : aH c last = true := a.mem last (by rw [hp]; simp);have hin : ∀ y, y ∈ (nx last).filter (aH c) → y ∈ nx last ∧ aH c y = true := fun y hy => List.mem_filter.1 hy;rcases IB (inn := aH c) (goal := fun y => y == x) hnx (frm := (nx last).filter (aH c)) (fun y hy => hc.lt y (hin y hy).2) with ⟨_, hno⟩ | hok
 ·obtain ⟨y, y1, y2⟩ := ae8 hc hlin;have := hno y (List.mem_filter.2 ⟨y1, y2⟩) x (hc.within y2 hx);simp at this
 ·obtain ⟨w1, ⟨b, m, e1, e2⟩, v, z, e3, e4⟩ := hok;have ez : z = x := by simpa using e4
  subst ez;generalize kM nx (aH c) (fun y => y == z) N ((nx last).filter (aH c)) = back at *;have hd : back.dropLast = v := by rw [e3]; simp
  rw [hd];refine ⟨⟨q ++ v, by rw [hq]; rfl⟩, ?_, fun i hi => ?_⟩
  ·rw [List.append_assoc, ← e3, e1, hp, List.append_assoc];refine iw.app m p ?_ ?_ (hin b e2).1 (hin b e2).2
   ·rw [← hp]; exact a.way
   ·rw [← e1]; exact w1
  ·obtain ⟨y, y1, y2⟩ := d i (List.mem_range.2 hi);exact ⟨y, List.mem_append_left _ y1, y2⟩
theorem ae_ {a b : Nat} (h : Reach nx a b) : y8 nx (fun _ => true) a b := by
 have key : ∀ x y, Reach nx x y → y8 nx (fun _ => true) a x → y8 nx (fun _ => true) a y := by
  intro x y hr
  induction hr with
  | refl _ => exact fun h => h
  | step e _ ih => exact fun h => ih (.snoc h e rfl)
 exact key a b h (.refl a)
theorem find_spec (hnx : ∀ x, x < N → ∀ y, y ∈ nx x → y < N) (hf : ∀ x, x ∈ frm → x < N) :
  match findF nx good N P frm with
  | none => ∀ x v, x ∈ frm → Reach nx x v → ¬ Av nx P good v
  | some (st, lp) => (∃ x r, lp = x :: r ∧ iw nx (fun _ => true) (st ++ lp ++ [x])) ∧ (∃ a r, st ++ lp = a :: r ∧ a ∈ frm) ∧ ∀ i, i < P → ∃ y, y ∈ lp ∧ good i y = true := by
 have h := ae3 (P := P) (good := good) hnx frm hf;unfold findF;generalize Dr nx (gm nx P good) N frm = o at h ⊢;cases o with
 | none => exact h
 | some c =>
  simp only;simp only at h;obtain ⟨a0, a1, _⟩ := h.acc;obtain ⟨r0, r1, r2⟩ := h.root a0 a1;rcases IB (inn := fun _ => true) (goal := aH c) hnx hf with ⟨_, hno⟩ | hok
  ·have := hno r0 r1 a0 (ae_ r2);unfold aH at this;rw [a1] at this; cases this
  ·obtain ⟨w1, ⟨b, m, e1, e2⟩, v, z, e3, e4⟩ := hok;generalize kM nx (fun _ => true) (aH c) N frm = pY at *;have hd : pY.dropLast = v := by rw [e3]; simp
   have hl : pY.getLastD 0 = z := by rw [e3, ae7]
   rw [hd, hl];obtain ⟨⟨r, f1⟩, f2, f3⟩ := ae9 h hnx (x := z) e4;generalize vB nx (aH c) good N P z = lp at *;refine ⟨⟨z, r, f1, ?_⟩, ?_, f3⟩
   ·have f2' : iw nx (fun _ => true) (lp ++ [z]) := iw.imp (fun _ _ => rfl) _ f2;rw [f1] at f2' ⊢;rw [List.append_assoc];refine iw.join (x := z) (r ++ [z]) v ?_ f2';rw [← e3]; exact w1
   ·rw [f1];cases v with
    | nil =>
     rw [e1] at e3;have e5 : b = z := by simpa using (List.cons.inj e3).1
     exact ⟨z, r, rfl, by rw [← e5]; exact e2⟩
    | cons a t =>
     rw [e1] at e3;have e5 : b = a := (List.cons.inj e3).1;exact ⟨a, t ++ z :: r, rfl, by rw [← e5]; exact e2⟩
end
end Go.Proofs.YtapejnikpmfddaaGreat.Sg
namespace Go.Proofs.YtapejnikpmfddaaGreat.Sg
section
variable {nx : Nat → List Nat} {inn goal : Nat → Bool} {good : Nat → Nat → Bool} {N P : Nat} {frm : List Nat} {c : List Bool}
theorem afa (hnx : ∀ x, x < N → ∀ y, y ∈ nx x → y < N) : ∀ (k i : Nat) (s : List Int × List Nat), oZ nx inn N frm s → (wD nx inn goal N k i s).length ≤ N
 | 0, i, s, _ => Nat.zero_le _
 | k + 1, i, s, h => by
  unfold wD;by_cases hi : i < s.2.length
  ·rw [if_pos hi];have hle := h.le;by_cases hg : goal (s.2.getD i 0) = true
   ·rw [if_pos hg];obtain ⟨l, l1, l2⟩ := h.tr i _ (getD_some hi);rw [l1.back N ag, List.length_reverse];omega
   ·rw [if_neg hg];exact afa hnx k (i + 1) _ (La hnx _ s (fun _ k => k) (List.mem_of_getElem? (getD_some hi)) h).1
  ·rw [if_neg hi]; exact Nat.zero_le _
theorem V7 (hnx : ∀ x, x < N → ∀ y, y ∈ nx x → y < N) (hf : ∀ x, x ∈ frm → x < N) : (kM nx inn goal N frm).length ≤ N :=
 afa hnx _ _ _ (IA (nx := nx) (inn := inn) hf frm _ (fun _ k => k) P6).1
theorem apO (hc : vk nx N P good frm c) (hnx : ∀ x, x < N → ∀ y, y ∈ nx x → y < N) {x i : Nat} (hi : i < P) {out : List Nat} (h : Walk nx (aH c) x out) :
  out.getLastD 0 < N ∧ ∃ m, kM nx (aH c) (good i) N [out.getLastD 0] = out.getLastD 0 :: m ∧ Walk nx (aH c) x (out ++ m) := by
 obtain ⟨q, hq⟩ := h.head;have hne : out ≠ [] := by rw [hq]; simp
 obtain ⟨p, hp⟩ := P7 hne;generalize out.getLastD 0 = last at *;have hlin : aH c last = true := h.mem last (by rw [hp]; simp);refine ⟨hc.lt last hlin, ?_⟩;obtain ⟨a0, a1, a2⟩ := hc.acc;obtain ⟨g, g1, g2, g3⟩ := a2.2 i hi;have hgc := hc.full a0 g a1 g1 g2;rcases IB (inn := aH c) (goal := good i) hnx (frm := [last]) (fun y hy => by rw [List.mem_singleton.1 hy]; exact hc.lt last hlin) with ⟨_, hno⟩ | hok
 ·have := hno last (List.mem_singleton.2 rfl) g (hc.within hlin hgc);rw [g3] at this; cases this
 ·obtain ⟨w1, ⟨b, m, e1, e2⟩, v, z, e3, e4⟩ := hok;generalize kM nx (aH c) (good i) N [last] = more at *;rw [List.mem_singleton.1 e2] at e1;refine ⟨m, e1, ?_, ⟨q ++ m, by rw [hq]; rfl⟩, fun y hy => ?_⟩
  ·rw [hp, List.append_assoc];refine iw.join (x := last) m p ?_ ?_
   ·rw [← hp]; exact h.way
   ·rw [← e1]; exact w1
  ·rcases List.mem_append.1 hy with k | k
   ·exact h.mem y k
   ·rw [e1] at w1; exact VZ w1 y k
theorem apP (hc : vk nx N P good frm c) (hnx : ∀ x, x < N → ∀ y, y ∈ nx x → y < N) {x : Nat} (hx : c.getD x false = true) {out : List Nat} (h : Walk nx (aH c) x out) :
  out.getLastD 0 < N ∧ kM nx (aH c) (fun y => y == x) N ((nx (out.getLastD 0)).filter (aH c)) ≠ [] := by
 obtain ⟨q, hq⟩ := h.head;have hne : out ≠ [] := by rw [hq]; simp
 obtain ⟨p, hp⟩ := P7 hne;generalize out.getLastD 0 = last at *;have hlin : aH c last = true := h.mem last (by rw [hp]; simp);refine ⟨hc.lt last hlin, ?_⟩;have hin : ∀ y, y ∈ (nx last).filter (aH c) → y ∈ nx last ∧ aH c y = true := fun y hy => List.mem_filter.1 hy;rcases IB (inn := aH c) (goal := fun y => y == x) hnx (frm := (nx last).filter (aH c)) (fun y hy => hc.lt y (hin y hy).2) with ⟨_, hno⟩ | hok
 ·obtain ⟨y, y1, y2⟩ := ae8 hc hlin;have := hno y (List.mem_filter.2 ⟨y1, y2⟩) x (hc.within y2 hx);simp at this
 ·obtain ⟨_, _, v, z, e3, _⟩ := hok;rw [e3]; simp
theorem apQ (nx : Nat → List Nat) (inn : Nat → Bool) (good : Nat → Nat → Bool) (N i : Nat) (r out : List Nat) : ug nx inn good N (i :: r) out = ug nx inn good N r (if out.any (good i) = true then out else out ++ (kM nx inn (good i) N [out.getLastD 0]).tail) := rfl
end
end Go.Proofs.YtapejnikpmfddaaGreat.Sg
namespace Go.Proofs.YtapejnikpmfddaaGreat.X
open Go.RowKit Go.Proofs.aI.bM Go.Proofs.aI.dG Go.Proofs.aI.dM
open Go.Proofs.YtapejnikpmfddaaGreat.P Go.Proofs.YtapejnikpmfddaaGreat.gY
def xQ (n : Nat) : Value := .int .i64 (n : Int)
def bD : Kd Nat := Kd.scalar xQ (fun _ => rfl)
theorem vC {w : World} {A : Option Addr} {n : Nat} {xs : List Nat} (h : Kd.C bD w A n xs) {j : Nat} (hj : j < n) : ∃ ad, A = some ad ∧ w.cell? (ad.add j) = some (.int .i64 ((xs.getD j 0 : Nat) : Int)) := by
 obtain ⟨ad, e, hc⟩ := (Kd.yw (d := 0) h).2.2 ag;exact ⟨ad, e, hc j hj⟩
theorem uh {k : IntKind} {w : World} {A : Option Addr} {n : Nat} {xs : List Int} (h : Kd.C (Kd.int k) w A n xs) {j : Nat} (hj : j < n) : ∃ ad, A = some ad ∧ w.cell? (ad.add j) = some (.int k (xs.getD j 0)) := by
 obtain ⟨ad, e, hc⟩ := (Kd.yw (d := 0) h).2.2 ag;exact ⟨ad, e, hc j hj⟩
theorem IC {w : World} {A : Option Addr} {n : Nat} {xs : List Bool} (h : Kd.C Kd.bool w A n xs) {j : Nat} (hj : j < n) : ∃ ad, A = some ad ∧ w.cell? (ad.add j) = some (.bool (xs.getD j false)) := by
 obtain ⟨ad, e, hc⟩ := (Kd.yw (d := false) h).2.2 ag;exact ⟨ad, e, hc j hj⟩
theorem Dw {α : Type} {e : Nat} {d : Kd α} {w : World} {A : Option Addr} {n : Nat} {xs : List (List α)} (h : Kd.C (Kd.slice e d) w A n xs) {j : Nat} (hj : j < n) : ∃ ad A' c', A = some ad ∧ w.cell? (ad.add j) = some (.slice A' (xs.getD j []).length c') ∧ (xs.getD j []).length ≤ c' ∧ Kd.C d w A' (xs.getD j []).length (xs.getD j []) := by
 obtain ⟨ad, c, e, _, hK, hc0⟩ := Kd.CE h ([] : List α) (j : Int) ag ag;rw [Int.toNat_natCast] at hK hc0;have hc : ∀ i u, c[i]? = some u → w.cell? (ad.add (j * 1 + i)) = some u := hc0;obtain ⟨A0, c0, rfl, l0, g0⟩ := hK;exact ⟨ad, A0, c0, e, by have hq := hc 0 _ rfl; rwa [Nat.mul_one, Nat.add_zero] at hq, l0, g0⟩
structure PD where
 ls : List Int
 ss : List Nat
 nxs : List (List Nat)
 s : ak
 size : Nat
 parts : List lM
 after : List (List Nat)
def afb (p : PD) (A0 A1 A2 A5 A7 A8 : Option Addr) (c0 c1 c2 c5 c7 c8 : Nat) : Array Value :=
 #[.slice A0 p.ls.length c0, .slice A1 p.ss.length c1, .slice A2 p.nxs.length c2, .int .i64 p.s.f0, .int .i64 p.s.f1, .slice A5 p.s.f2.length c5, .int .i64 (p.size : Int), .slice A7 p.parts.length c7, .slice A8 p.after.length c8]
structure qb (w : World) (g : Nat) (p : PD) (A0 A1 A2 A5 A7 A8 : Option Addr) (c0 c1 c2 c5 c7 c8 : Nat) : Prop where
 blk : w.heap[g]? = some (.cells (afb p A0 A1 A2 A5 A7 A8 c0 c1 c2 c5 c7 c8) 74 (0, 0))
 l0 : p.ls.length ≤ c0
 l1 : p.ss.length ≤ c1
 l2 : p.nxs.length ≤ c2
 l5 : p.s.f2.length ≤ c5
 l7 : p.parts.length ≤ c7
 l8 : p.after.length ≤ c8
 h0 : Kd.C (Kd.int .u32) w A0 p.ls.length p.ls
 h1 : Kd.C bD w A1 p.ss.length p.ss
 h2 : Kd.C (Kd.slice 3 bD) w A2 p.nxs.length p.nxs
 h5 : Kd.C bK w A5 p.s.f2.length p.s.f2
 h7 : Kd.C Bi w A7 p.parts.length p.parts
 h8 : Kd.C (Kd.slice 3 bD) w A8 p.after.length p.after
section
variable {w : World} {g : Nat} {p : PD} {A0 A1 A2 A5 A7 A8 : Option Addr} {c0 c1 c2 c5 c7 c8 : Nat}
theorem qb.q0 (h : qb w g p A0 A1 A2 A5 A7 A8 c0 c1 c2 c5 c7 c8) : w.cell? ⟨g, 0, none⟩ = some (.slice A0 p.ls.length c0) := (aj h.blk 0).trans rfl
theorem qb.q1 (h : qb w g p A0 A1 A2 A5 A7 A8 c0 c1 c2 c5 c7 c8) : w.cell? ⟨g, 1, none⟩ = some (.slice A1 p.ss.length c1) := (aj h.blk 1).trans rfl
theorem qb.q2 (h : qb w g p A0 A1 A2 A5 A7 A8 c0 c1 c2 c5 c7 c8) : w.cell? ⟨g, 2, none⟩ = some (.slice A2 p.nxs.length c2) := (aj h.blk 2).trans rfl
theorem qb.q3 (h : qb w g p A0 A1 A2 A5 A7 A8 c0 c1 c2 c5 c7 c8) : w.cell? ⟨g, 3, none⟩ = some (.int .i64 p.s.f0) := (aj h.blk 3).trans rfl
theorem qb.q4 (h : qb w g p A0 A1 A2 A5 A7 A8 c0 c1 c2 c5 c7 c8) : w.cell? ⟨g, 4, none⟩ = some (.int .i64 p.s.f1) := (aj h.blk 4).trans rfl
theorem qb.q5 (h : qb w g p A0 A1 A2 A5 A7 A8 c0 c1 c2 c5 c7 c8) : w.cell? ⟨g, 5, none⟩ = some (.slice A5 p.s.f2.length c5) := (aj h.blk 5).trans rfl
theorem qb.q6 (h : qb w g p A0 A1 A2 A5 A7 A8 c0 c1 c2 c5 c7 c8) : w.cell? ⟨g, 6, none⟩ = some (.int .i64 (p.size : Int)) := (aj h.blk 6).trans rfl
theorem qb.q7 (h : qb w g p A0 A1 A2 A5 A7 A8 c0 c1 c2 c5 c7 c8) : w.cell? ⟨g, 7, none⟩ = some (.slice A7 p.parts.length c7) := (aj h.blk 7).trans rfl
theorem qb.q8 (h : qb w g p A0 A1 A2 A5 A7 A8 c0 c1 c2 c5 c7 c8) : w.cell? ⟨g, 8, none⟩ = some (.slice A8 p.after.length c8) := (aj h.blk 8).trans rfl
end
def qc (w : World) (g : Nat) (p : PD) : Prop := ∃ A0 A1 A2 A5 A7 A8 c0 c1 c2 c5 c7 c8, qb w g p A0 A1 A2 A5 A7 A8 c0 c1 c2 c5 c7 c8
section
variable {w w1 : World} {g : Nat} {p : PD}
theorem qc.below (h : qc w g p) (hb : Below w.heap.size w w1) : qc w1 g p := by
 obtain ⟨A0, A1, A2, A5, A7, A8, c0, c1, c2, c5, c7, c8, h⟩ := h;exact ⟨A0, A1, A2, A5, A7, A8, c0, c1, c2, c5, c7, c8, (hb.block _ (aT h.blk)).trans h.blk, h.l0, h.l1, h.l2, h.l5, h.l7, h.l8, Kd.aQ h.h0 hb, Kd.aQ h.h1 hb, Kd.aQ h.h2 hb, Kd.aQ h.h5 hb, Kd.aQ h.h7 hb, Kd.aQ h.h8 hb⟩
end
structure PD.Ok (p : PD) : Prop where
 n : p.ls.length ≤ 200
 nn : p.nxs.length = p.ls.length
 s0 : 0 < p.size
 s1 : p.size ≤ 256
 al : p.after.length = p.size * p.ls.length
 nx : ∀ v, v < p.ls.length → ∀ y, y ∈ p.nxs.getD v [] → y < p.ls.length
 nl : ∀ v, v < p.ls.length → (p.nxs.getD v []).length ≤ 200
 ax : ∀ x, x < p.after.length → ∀ t, t ∈ p.after.getD x [] → t < p.size
 an : ∀ x, x < p.after.length → (p.after.getD x []).length ≤ 256
 st : ∀ v, v ∈ p.ss → v < p.ls.length
 sl : p.ss.length ≤ 200
 pl : p.parts.length ≤ 8
def PD.N (p : PD) : Nat := p.size * p.ls.length
theorem PD.Ok.div {p : PD} (h : p.Ok) {x : Nat} (hx : x < p.N) : x / p.size < p.ls.length := by
 rw [Nat.div_lt_iff_lt_mul h.s0, Nat.mul_comm]; exact hx
theorem PD.Ok.BN {p : PD} (h : p.Ok) : p.N ≤ 51200 := by
 have h1 := h.n;have h2 := h.s1;exact Nat.le_trans (Nat.mul_le_mul h2 h1) ai
def PD.good (p : PD) (i x : Nat) : Bool := BG p.s i ((x % p.size : Nat) : Int) (p.ls.getD (x / p.size) 0)
theorem vD {n : Nat} (h : n < 9223372036854775808) : wrap64 (n : Int) = (n : Int) := jA ag ag
theorem P8 {a b : Nat} : (a : Int) / (b : Int) = ((a / b : Nat) : Int) := rfl
theorem V8 {a b : Nat} : (a : Int) % (b : Int) = ((a % b : Nat) : Int) := rfl
theorem apR (a b : Nat) : Int.tdiv (a : Int) (b : Int) = ((a / b : Nat) : Int) := rfl
theorem V9 (a b : Nat) : Int.tmod (a : Int) (b : Int) = ((a % b : Nat) : Int) := rfl
theorem We (p : PD) (g i x : Nat) (w : World) (h : qc w g p) (hok : p.Ok) (hx : x < p.N) :
  Calls Tryz.prog 67 #[.pointer (some ⟨g, 0, none⟩), .int .i64 (i : Int), .int .i64 (x : Int)] w fun e w' => e = .returned (.bool (p.good i x)) ∧ Below w.heap.size w w' := by
 obtain ⟨A0, A1, A2, A5, A7, A8, c0, c1, c2, c5, c7, c8, h⟩ := h;have jm := Tryz.underlying29;have BO := Tryz.underlying74;have AB := Tryz.underlying26;have yK := Tryz.underlying22;have q0 := h.q0;have q3 := h.q3;have q4 := h.q4;have q5 := h.q5;have q6 := h.q6;have hd := hok.div hx;have BP := Zd.mk (show p.good i x = BG p.s i ((x % p.size : Nat) : Int) (p.ls.getD (x / p.size) 0) from rfl);have ed := P8 (a := x) (b := p.size);have em := V8 (a := x) (b := p.size);have BQ := V9 x p.size;generalize x / p.size = q at *;generalize x % p.size = r at *;obtain ⟨ad, rfl, ql⟩ := uh h.h0 hd;have HG := Zd.mk (fun W (hb : Below w.heap.size w W) => apE p.s (i : Int) (r : Int) (p.ls.getD q 0) A5 c5 W (Kd.aQ h.h5 hb) h.l5);have e1 : ¬ p.size = 0 := by have := hok.s0; omega
 have Wh : IntKind.i64.wrap ((x : Int) / (p.size : Int)) = (q : Int) := by
  rw [ed]; exact (bE _).trans (vD (by have := hok.n; omega))
 have hd1 : (q : Int) < (p.ls.length : Int) := Int.ofNat_lt.2 hd;generalize p.ls.getD q 0 = lt at *;clear h ed;go_enter Tryz.func67, Tryz.ntmps67;go_wp2
 go_still_tail 24, aa
 change wpList _ _ _ _ _ w.drew;have HB2 := Zd.mk (show Below w.heap.size w w.drew from bV (Below.refl _ _));generalize w.drew = w2 at *;go_wp2_with (go_at_call 94; refine (HG.out _ HB2.out).mono ?_; rintro e_ w3 ⟨rfl, hB⟩; have HB3 := Zd.mk (HB2.out.trans (hB.mono HB2.out.size)); clear hB);go_ret;exact ⟨by rw [BP.out]; rfl, HB3.out⟩
theorem P9 {n : Nat} (h : n < 200000) : wrap64 (n : Int) = (n : Int) := vD ag
theorem Lc {a b : Nat} (h : a + b < 200000) : wrap64 ((a : Int) + (b : Int)) = ((a + b : Nat) : Int) := by rw [← Int.natCast_add]; exact P9 h
theorem IE {a b : Nat} (h : a * b < 200000) : wrap64 ((a : Int) * (b : Int)) = ((a * b : Nat) : Int) := by rw [← Int.natCast_mul]; exact P9 h
theorem nR : (Tryz.prog.info? 3).map (fun i => (i.zero, i.size, i.bytes)) = some (some (.int .i64 0), 1, 8) := by kernel_rfl
def PD.vE (p : PD) (s v : Nat) : List Nat := (p.after.getD (v * p.size + s) []).map (fun t => v * p.size + t)
def PD.next (p : PD) (x : Nat) : List Nat := (p.nxs.getD (x / p.size) []).flatMap (p.vE (x % p.size))
theorem afc {α : Type} (f : Nat → List α) (l : List Nat) (j : Nat) (h : j < l.length) : (l.take (j + 1)).flatMap f = (l.take j).flatMap f ++ f (l.getD j 0) := by
 rw [List.take_succ_eq_append_getElem h, List.flatMap_append, List.getD_eq_getElem?_getD, List.getElem?_eq_getElem h];simp
theorem afd {α : Type} (f : Nat → α) (l : List Nat) (j : Nat) (h : j < l.length) : (l.take (j + 1)).map f = (l.take j).map f ++ [f (l.getD j 0)] := by
 rw [List.take_succ_eq_append_getElem h, List.map_append, List.getD_eq_getElem?_getD, List.getElem?_eq_getElem h];simp
theorem Wi {α : Type} {f : Nat → List α} {m : Nat} : ∀ (l : List Nat), (∀ x, x ∈ l → (f x).length ≤ m) → (l.flatMap f).length ≤ l.length * m
 | [], _ => by simp
 | a :: r, h => by
  rw [List.flatMap_cons, List.length_append, List.length_cons, Nat.add_mul, Nat.one_mul];have h1 := h a (List.mem_cons_self ..);have h2 := Wi r (fun x hx => h x (List.mem_cons_of_mem _ hx));omega
theorem xR {l : List Nat} {j : Nat} (h : j < l.length) : l.getD j 0 ∈ l := by
 rw [List.getD_eq_getElem?_getD, List.getElem?_eq_getElem h];exact List.getElem_mem h
section
variable {p : PD} (hok : p.Ok)
include hok
theorem PD.Ok.at_ {v s : Nat} (hv : v < p.ls.length) (hs : s < p.size) : v * p.size + s < p.after.length := by
 rw [hok.al];have h1 : (v + 1) * p.size ≤ p.ls.length * p.size := Nat.mul_le_mul_right _ hv;rw [Nat.add_mul, Nat.one_mul] at h1;rw [Nat.mul_comm p.size];omega
theorem PD.Ok.apS {v s : Nat} (hv : v < p.ls.length) (hs : s < p.size) : (p.vE s v).length ≤ 256 := by
 unfold PD.vE;rw [List.length_map];exact hok.an _ (hok.at_ hv hs)
theorem PD.Ok.Qa {x j : Nat} (hx : x < p.N) : (((p.nxs.getD (x / p.size) []).take j).flatMap (p.vE (x % p.size))).length ≤ 51200 := by
 have hd := hok.div hx;have h1 := Wi (f := p.vE (x % p.size)) (m := 256) ((p.nxs.getD (x / p.size) []).take j) (fun v hv => hok.apS (hok.nx _ hd v (List.mem_of_mem_take hv)) (Nat.mod_lt _ hok.s0));have h2 : ((p.nxs.getD (x / p.size) []).take j).length ≤ 200 := Nat.le_trans (by rw [List.length_take]; exact Nat.min_le_right _ _) (hok.nl _ hd);exact Nat.le_trans h1 (Nat.le_trans (Nat.mul_le_mul_right _ h2) ai)
theorem PD.Ok.xS {x y : Nat} (hx : x < p.N) (hy : y ∈ p.next x) : y < p.N := by
 obtain ⟨v, hv, hy⟩ := List.mem_flatMap.1 hy;obtain ⟨t, ht, e⟩ := List.mem_map.1 hy;have hvl := hok.nx _ (hok.div hx) v hv;have htl := hok.ax _ (hok.at_ hvl (Nat.mod_lt x hok.s0)) t ht;have := hok.at_ hvl htl;rw [hok.al] at this;unfold PD.N;omega
end
theorem Wj (p : PD) (g x : Nat) (w : World) (h : qc w g p) (hok : p.Ok) (hx : x < p.N) :
  Calls Tryz.prog 64 #[.pointer (some ⟨g, 0, none⟩), .int .i64 (x : Int)] w fun e w' => ∃ v, e = .returned v ∧ Kd.R bD 3 w' w.heap.size (fun _ => True) v (p.next x) ∧ Below w.heap.size w w' := by
 obtain ⟨A0, A1, A2, A5, A7, A8, c0, c1, c2, c5, c7, c8, h⟩ := h;have BO := Tryz.underlying74;have AB := Tryz.underlying26;have fM := Tryz.underlying23;have IG := Tryz.underlying24;have q2 := h.q2;have q6 := h.q6;have q8 := h.q8;have hd := hok.div hx;have Fy := Zd.mk (fun j => hok.Qa (j := j) hx);have afe := Zd.mk (Nat.mod_lt x hok.s0);have AJ := Zd.mk (show p.next x = (p.nxs.getD (x / p.size) []).flatMap (p.vE (x % p.size)) from rfl);have ed := P8 (a := x) (b := p.size);have em := V8 (a := x) (b := p.size);have BQ := V9 x p.size;generalize x / p.size = q at *;generalize x % p.size = s at *;obtain ⟨ad2, A, c, rfl, qr, hl, hr⟩ := Dw h.h2 (j := q) (by rw [hok.nn]; exact hd);have hN := hok.BN;have hnv := hok.nl _ hd;have eG := Zd.mk hok;have H8 := Zd.mk h.h8;have HR := Zd.mk hr;have j4 := Zd.mk (hok.nx _ hd);have hs1 := hok.s1;have hlen := hok.n;have e1 : ¬ p.size = 0 := by have := hok.s0; omega
 have Wh : IntKind.i64.wrap ((x : Int) / (p.size : Int)) = (q : Int) := by
  rw [ed]; exact (bE _).trans (vD ag)
 have hd1 : (q : Int) < (p.nxs.length : Int) := Int.ofNat_lt.2 (by rw [hok.nn]; exact hd);have hms : s < 256 := by have := afe.out; omega
 clear hok hr h ed;generalize p.nxs.getD q [] = row at *;go_enter Tryz.func64, Tryz.ntmps64;go_wp2
 go_quiet (fail)
 go_wp2;go_loopg [7, 33] row.length (fun kq v7 v33 w' => ∃ j : Nat, j + kq = row.length ∧ v33 = .int .i64 (j : Int) ∧ Zd (Kd.R bD 3 w' w.heap.size (fun _ => True) v7 ((row.take j).flatMap (p.vE s))) ∧ Zd (Below w.heap.size w w'))
 case atStart => exact ⟨0, by omega, rfl, ⟨Kd.lK _ _ _ _ _⟩, ⟨fB (Below.refl _ _) _⟩⟩
 case round =>
  obtain ⟨WW, rfl⟩ : ∃ W : World, W = wr := ⟨_, rfl⟩;obtain ⟨j, hj, rfl, HV, HB⟩ := hrel;obtain ⟨k1, hk1⟩ : ∃ k, k = gk := ⟨_, rfl⟩;rw [← hk1] at hj;have HJ := Zd.mk hj;have dR := Zd.mk hk1;clear hj hk1;by_cases hlt : j < row.length
  ·have hjl : ((j : Nat) : Int) < (row.length : Int) := by omega
   obtain ⟨Fz, rfl, qj⟩ := vC HR.out hlt;have BR := j4.out _ (xR hlt);have II := Zd.mk (afc (p.vE s) row j hlt);generalize row.getD j 0 = v at *;have hal := eG.out.at_ BR afe.out;obtain ⟨ad8, Aa, ca, rfl, qa, hla, hra⟩ := Dw H8.out hal;have hvs : v * p.size + s < 51200 := by have := eG.out.al; have h1 := eG.out.BN; unfold PD.N at h1; omega
   have HAX := Zd.mk (eG.out.ax _ hal);have ui := Zd.mk (eG.out.an _ hal);have HRA := Zd.mk hra;have uj := IE (a := v) (b := p.size) (Nat.lt_of_le_of_lt (Nat.le_add_right _ s) (Nat.lt_trans hvs ai));have BS : IntKind.i64.wrap (((v * p.size : Nat) : Int) + (s : Int)) = ((v * p.size + s : Nat) : Int) := (bE _).trans (Lc (Nat.lt_trans hvs ai));have hb1 : ((v * p.size + s : Nat) : Int) < (p.after.length : Int) := Int.ofNat_lt.2 hal;have HNR := Zd.mk (show p.vE s v = (p.after.getD (v * p.size + s) []).map (fun t => v * p.size + t) from rfl);have hmm : v * p.size < 51200 := Nat.lt_of_le_of_lt (Nat.le_add_right _ s) hvs;clear hra hal;generalize p.after.getD (v * p.size + s) [] = ar at *;generalize v * p.size + s = a at *;generalize v * p.size = m at *;have FB : IntKind.i64.wrap ((v : Int) * (p.size : Int)) = (m : Int) := (bE _).trans uj;have Ld := aG HB.out qj;have qa' := aG HB.out qa;have q6' := aG HB.out q6;have q8' := aG HB.out q8;have har : ar.length ≤ 256 := ui.out;have hlf := Fy.out j;obtain ⟨done, hdn⟩ : ∃ q, q = (row.take j).flatMap (p.vE s) := ⟨_, rfl⟩;rw [← hdn] at HV hlf;have HDN := Zd.mk hdn;clear hdn;go_wp2
   go_quiet (fail)
   go_wp2;go_loopg [7, 52] ar.length (fun kq v7 v52 w' => ∃ i : Nat, i + kq = ar.length ∧ v52 = .int .i64 (i : Int) ∧ Zd (Kd.R bD 3 w' w.heap.size (fun _ => True) v7 (done ++ (ar.take i).map (fun t => m + t))) ∧ Zd (Below w.heap.size w w'))
   case atStart => exact ⟨0, by omega, rfl, ⟨by rw [List.take_zero, List.map_nil, List.append_nil]; exact Kd.rD HV.out _⟩, ⟨fB HB.out _⟩⟩
   case round =>
    obtain ⟨WX, rfl⟩ : ∃ W : World, W = wr := ⟨_, rfl⟩;obtain ⟨i, hi, rfl, jI, HB2⟩ := hrel;have HI := Zd.mk hi;clear hi;by_cases vF : i < ar.length
    ·have hil : ((i : Nat) : Int) < (ar.length : Int) := by omega
     obtain ⟨Qb, rfl, qi⟩ := vC HRA.out vF;have htn := HAX.out _ (xR vF);have vG := Zd.mk (afd (fun t => m + t) ar i vF);generalize ar.getD i 0 = t at *;have qi' := aG HB2.out qi;have apT := aG HB2.out q6;have hvt : m + t < 102400 := by omega
     have hlm : (done ++ (ar.take i).map (fun t => m + t)).length ≤ 51456 := by rw [List.length_append, List.length_map, List.length_take]; omega
     obtain ⟨sofar, vH⟩ : ∃ q, q = done ++ (ar.take i).map (fun t => m + t) := ⟨_, rfl⟩;rw [← vH] at jI hlm;have BU := Zd.mk vH;clear vH;go_wp2_with ((with_reducible refine lL (b := .append) (xs := #[.tmp 56, .tmp 65]) rfl ?_); at_builtin; refine Kd.xw bD (w0 := w) w.heap.size rfl (.tmp 56) (.tmp 65) 23 3 (.int .i64 0) 8 rfl fM nR rfl ai ag u7 sofar (m + t) [.int .i64 ((m + t : Nat) : Int)] (fun _ => True) (fun _ => False) rfl rfl ?aP (fun _ hk => hk.elim) ?aF ?aO ?aB ?aS ?aL ?_; (case aP => exact rfl); (case aF => exact (fun _ _ => trivial)); (case aO => exact (by (with_reducible repeat (first | apply Kd.qH | apply Kd.rD | apply Kd.qI)); exact jI.out)); (case aB => exact (by repeat (first | (with_reducible first | exact HB2.out | apply aW) | exact HB2.out))); (case aS => exact (by have := HB2.out.size; simp; omega)); (case aL => omega); intro v9 w9 ho hb hg hat; have AL := Zd.mk ho; have HB3 := Zd.mk hb; clear ho hb hg hat);go_roundg (gk - 1)
     case measure => have := HI.out; omega
     case rel => exact ⟨i + 1, by have := HI.out; omega, by go_num, ⟨by rw [vG.out, ← List.append_assoc, ← BU.out]; exact AL.out⟩, HB3⟩
    ·have hil : ¬ ((i : Nat) : Int) < (ar.length : Int) := by omega
     have htk : ar.take i = ar := List.take_of_length_le ag;have y9 := Zd.mk (show Kd.R bD 3 WX w.heap.size (fun _ => True) u7 ((row.take (j + 1)).flatMap (p.vE s)) from by rw [II.out, ← HDN.out, HNR.out, ← htk]; exact jI.out);clear htk;go_wp2;go_roundg (k1 - 1)
     case measure => have := HJ.out; have := dR.out; omega
     case rel => exact ⟨j + 1, by have := HJ.out; omega, by go_num, y9, HB2⟩
  ·have hjl : ¬ ((j : Nat) : Int) < (row.length : Int) := by omega
   have htk : row.take j = row := List.take_of_length_le ag;have y9 := Zd.mk (show Kd.R bD 3 WW w.heap.size (fun _ => True) u7 (p.next x) from by rw [AJ.out, ← htk]; exact HV.out);clear htk;go_wp2;go_ret;exact ⟨_, rfl, y9.out, HB.out⟩
structure wE (k : FuncId) (first cap : Array Value) (f : Nat → Bool) (N : Nat) (w : World) : Prop where
 enters : ∀ args w, (callFunc k args).run Tryz.prog w = .ok (.enter k args) w
 tells : ∀ W, Below w.heap.size w W → ∀ (x : Nat), x < N → Calls Tryz.prog k (first.push (.int .i64 (x : Int)) ++ cap) W fun e W' => e = .returned (.bool (f x)) ∧ Below W.heap.size W W'
theorem wE.below {k : FuncId} {first cap : Array Value} {f : Nat → Bool} {N : Nat} {w w1 : World} (h : wE k first cap f N w) (hb : Below w.heap.size w w1) : wE k first cap f N w1 :=
 ⟨h.enters, fun W hW x hx => h.tells W (hb.trans (hW.mono hb.size)) x hx⟩
def vI (f : Nat → Bool) : List Nat → Nat → Int
 | [], _ => -1
 | a :: r, i => if f a = true then (i : Int) else vI f r (i + 1)
theorem Wl {f : Nat → Bool} : ∀ (p r : List Nat) (i : Nat), (∀ x, x ∈ p → f x = false) → vI f (p ++ r) i = vI f r (i + p.length)
 | [], r, i, _ => rfl
 | a :: p, r, i, h => by
  have h1 := h a (List.mem_cons_self ..);rw [List.cons_append, vI, h1, if_neg (by simp), Wl p r (i + 1) (fun x hx => h x (List.mem_cons_of_mem _ hx)), List.length_cons];congr 1;omega
theorem apU {f : Nat → Bool} {l : List Nat} {j : Nat} (hj : j < l.length) (h : ∀ x, x ∈ l.take j → f x = false) (ht : f (l.getD j 0) = true) : vI f l 0 = (j : Int) := by
 have e : l = l.take j ++ l.getD j 0 :: l.drop (j + 1) := by
  rw [List.getD_eq_getElem?_getD, List.getElem?_eq_getElem hj];show l = l.take j ++ l[j] :: l.drop (j + 1);rw [← List.drop_eq_getElem_cons hj, List.take_append_drop]
 rw [e, Wl _ _ 0 h, vI, ht, if_pos rfl, List.length_take];omega
theorem apV {f : Nat → Bool} {l : List Nat} (h : ∀ x, x ∈ l → f x = false) : vI f l 0 = -1 := by
 have := Wl l [] 0 h;rw [List.append_nil] at this;rw [this]; rfl
theorem aff {f : Nat → Bool} : ∀ (l : List Nat) (i : Nat), decide (vI f l i ≥ 0) = l.any f
 | [], i => rfl
 | a :: r, i => by
  rw [vI, List.any_cons];cases h : f a with
  | true => rw [if_pos rfl]; simp
  | false => rw [if_neg (by simp), aff r (i + 1)]; simp
theorem wF {l : List Nat} {j : Nat} (h : j < l.length) : l.take (j + 1) = l.take j ++ [l.getD j 0] := by
 rw [List.take_succ_eq_append_getElem h, List.getD_eq_getElem?_getD, List.getElem?_eq_getElem h]; rfl
theorem apW {P : Nat → Prop} {l : List Nat} {j : Nat} (h : j < l.length) (h1 : ∀ x, x ∈ l.take j → P x) (h2 : P (l.getD j 0)) : ∀ x, x ∈ l.take (j + 1) → P x := by
 intro x hx;rw [wF h] at hx;rcases List.mem_append.1 hx with e | e
 ·exact h1 x e
 ·rw [List.mem_singleton.1 e]; exact h2
theorem afg (k : FuncId) (first cap : Array Value) (f : Nat → Bool) (N : Nat) (A : Option Addr) (c : Nat) (l : List Nat) (w : World) (hp : wE k first cap f N w) (hr : Kd.C bD w A l.length l) (hl : ∀ x, x ∈ l → x < N) (hb : l.length < 1000000000) :
  Calls Tryz.prog 93 #[.slice A l.length c, .func (.func k) first cap] w fun e w' => e = .returned (.int .i64 (vI f l 0)) ∧ Below w.heap.size w w' := by
 have fM := Tryz.underlying23;have he := hp.enters;have HP := Zd.mk hp;have HR := Zd.mk hr;have HL := Zd.mk hl;clear hp hr hl;go_enter Tryz.func93, Tryz.ntmps93;go_wp2;go_loopg [8] l.length (fun kq v8 w' => ∃ j : Nat, j + kq = l.length ∧ v8 = .int .i64 (j : Int) ∧ Zd (∀ x, x ∈ l.take j → f x = false) ∧ Zd (Below w.heap.size w w'))
 case atStart => exact ⟨0, by omega, rfl, ⟨fun x hx => by simp at hx⟩, ⟨Below.refl _ _⟩⟩
 case round =>
  obtain ⟨WW, rfl⟩ : ∃ W : World, W = wr := ⟨_, rfl⟩;obtain ⟨j, hj, rfl, HF, HB⟩ := hrel;have HJ := Zd.mk hj;clear hj;by_cases hlt : j < l.length
  ·have hjl : ((j : Nat) : Int) < (l.length : Int) := by omega
   obtain ⟨ad, rfl, qj⟩ := vC HR.out hlt;have Ld := aG HB.out qj;have HC := Zd.mk (HP.out.tells WW HB.out _ (HL.out _ (xR hlt)));have HAT := Zd.mk (fun h => apU hlt HF.out h);have wG := Zd.mk (fun h => apW hlt HF.out h);generalize l.getD j 0 = x at *;cases hfx : f x with
   | true =>
    rw [hfx] at HC;have HA2 := Zd.mk (HAT.out hfx);clear hfx wG HAT;go_wp2_with ((with_reducible refine HC.out.mono ?_); rintro e w4 ⟨rfl, hB4⟩; have bQ := Zd.mk (HB.out.trans (hB4.mono HB.out.size)); clear hB4);go_ret;exact ⟨by rw [HA2.out]; rfl, bQ.out⟩
   | false =>
    rw [hfx] at HC;have HA2 := Zd.mk (wG.out hfx);clear hfx wG HAT;go_wp2_with ((with_reducible refine HC.out.mono ?_); rintro e w4 ⟨rfl, hB4⟩; have bQ := Zd.mk (HB.out.trans (hB4.mono HB.out.size)); clear hB4);go_roundg (gk - 1)
    case measure => have := HJ.out; omega
    case rel => exact ⟨j + 1, by have := HJ.out; omega, by go_num, HA2, bQ⟩
  ·have hjl : ¬ ((j : Nat) : Int) < (l.length : Int) := by omega
   have HN := Zd.mk (apV (f := f) (l := l) (by have := HF.out; rwa [List.take_of_length_le ag] at this));go_wp2;go_ret;exact ⟨by rw [HN.out]; rfl, HB.out⟩
theorem apX (k : FuncId) (first cap : Array Value) (f : Nat → Bool) (N : Nat) (A : Option Addr) (c : Nat) (l : List Nat) (w : World) (hp : wE k first cap f N w) (hr : Kd.C bD w A l.length l) (hl : ∀ x, x ∈ l → x < N) (hb : l.length < 1000000000) :
  Calls Tryz.prog 65 #[.slice A l.length c, .func (.func k) first cap] w fun e w' => e = .returned (.bool (l.any f)) ∧ Below w.heap.size w w' := by
 have HI := Zd.mk (afg k first cap f N A c l w hp hr hl hb);have HA := Zd.mk (aff (f := f) l 0);clear hp hr hl;go_enter Tryz.func65, Tryz.ntmps65;generalize vI f l 0 = i at *;go_wp2_with (go_at_call 93; refine HI.out.mono ?_; rintro e w4 ⟨rfl, hB4⟩; have bQ := Zd.mk hB4; clear hB4);go_ret;exact ⟨by rw [← HA.out]; rfl, bQ.out⟩
def ze (w : World) (g : Nat) (c : List Bool) : Prop := ∃ A k, w.heap[g]? = some (.cells #[.slice A c.length k] 110 (0, 0)) ∧ Kd.C Kd.bool w A c.length c
theorem ze.below {w w1 : World} {g : Nat} {c : List Bool} (h : ze w g c) (hb : Below w.heap.size w w1) : ze w1 g c := by
 obtain ⟨A, k, h1, h2⟩ := h;exact ⟨A, k, (hb.block _ (aT h1)).trans h1, Kd.aQ h2 hb⟩
theorem afh (g x : Nat) (c : List Bool) (w : World) (h : ze w g c) (hx : x < c.length) :
  Calls Tryz.prog 45 #[.pointer (some ⟨g, 0, none⟩), .int .i64 (x : Int)] w fun e w' => e = .returned (.bool (Sg.aH c x)) ∧ Below w.heap.size w w' := by
 obtain ⟨A, k, h1, h2⟩ := h;have hub := Tryz.underlying57;have huc := Tryz.underlying110;have q0 : w.cell? ⟨g, 0, none⟩ = some (.slice A c.length k) := (aj h1 0).trans rfl;obtain ⟨ad, rfl, qx⟩ := IC h2 hx;have hxl : (x : Int) < (c.length : Int) := by omega
 have HE := Zd.mk (show Sg.aH c x = c.getD x false from rfl);generalize c.getD x false = b at *;clear h1 h2;go_enter Tryz.func45, Tryz.ntmps45;go_wp2;go_ret;exact ⟨by rw [HE.out]; rfl, Below.refl _ _⟩
def rH.T8 : Bool × List (List Nat × List Nat) := (true, [([], []), ([0], [0]), ([1], [1]), ([2], [2]), ([], []), ([], []), ([5], [5]), ([6], [6]), ([7], [7]), ([8], [8]), ([], []), ([9, 10], [9, 10]), ([11], [11]), ([3, 4, 12], [3, 4, 12]), ([], []), ([13, 14], [13, 14])])
def rH.B8 : List Nat := [0, 1, 3, 7, 0, 0, 32, 96, 224, 480, 0, 2016, 4064, 8191, 0, 32767]
theorem rH.Qc : dh .any (opsOf Tryz.f41 8) = rH.T8 := by kernel_rfl
theorem rH.Qd : ik rH.T8.2 rH.B8 = true := by kernel_rfl
def PD.xU (p : PD) (x : Nat) : Nat := x / p.size
theorem afi (p : PD) (g : Nat) (A : Option Addr) (c : Nat) (l : List Nat) (w : World) (h : qc w g p) (hok : p.Ok) (hr : Kd.C bD w A l.length l) (hl : ∀ x, x ∈ l → x < 100000) (hb : l.length < 1000000000) :
  Calls Tryz.prog 46 #[.pointer (some ⟨g, 0, none⟩), .slice A l.length c] w fun e w' => ∃ v, e = .returned v ∧ Kd.R bD 3 w' w.heap.size (fun _ => True) v (l.map p.xU) ∧ Below w.heap.size w w' := by
 obtain ⟨A0, A1, A2, A5, A7, A8, c0, c1, c2, c5, c7, c8, h⟩ := h;have BO := Tryz.underlying74;have fM := Tryz.underlying23;have q6 := h.q6;have e1 : ¬ p.size = 0 := by have := hok.s0; omega
 have HR := Zd.mk hr;have HL := Zd.mk hl;clear h hok hr hl;go_enter Tryz.func46, Tryz.ntmps46;go_wp2;go_loopg [5, 10] l.length (fun kq v5 v10 w' => ∃ j : Nat, j + kq = l.length ∧ v10 = .int .i64 (j : Int) ∧ Zd (Kd.R bD 3 w' w.heap.size (fun _ => True) v5 ((l.take j).map p.xU)) ∧ Zd (Below w.heap.size w w'))
 case atStart => exact ⟨0, by omega, rfl, ⟨Kd.lK _ _ _ _ _⟩, ⟨Below.refl _ _⟩⟩
 case round =>
  obtain ⟨WW, rfl⟩ : ∃ W : World, W = wr := ⟨_, rfl⟩;obtain ⟨j, hj, rfl, HV, HB⟩ := hrel;have HJ := Zd.mk hj;clear hj;by_cases hlt : j < l.length
  ·have hjl : ((j : Nat) : Int) < (l.length : Int) := by omega
   obtain ⟨ad, rfl, qj⟩ := vC HR.out hlt;have Ld := aG HB.out qj;have q6' := aG HB.out q6;have vG := Zd.mk (afd p.xU l j hlt);have HX := Zd.mk (HL.out _ (xR hlt));generalize l.getD j 0 = x at *;have HQ : Zd (p.xU x = x / p.size) := ⟨rfl⟩;have hq : x / p.size < 200000 := Nat.lt_of_le_of_lt (Nat.div_le_self _ _) (Nat.lt_trans HX.out ai);have ed := P8 (a := x) (b := p.size);have ed3 := apR x p.size;generalize x / p.size = q at *;have Wh : wrap64 ((x : Int) / (p.size : Int)) = (q : Int) := by rw [ed]; exact P9 hq
   have ed2 : wrap64 (Int.tdiv (x : Int) (p.size : Int)) = (q : Int) := by rw [ed3]; exact P9 hq
   have hlm : ((l.take j).map p.xU).length < 1000000000 := by rw [List.length_map, List.length_take]; omega
   obtain ⟨sofar, vH⟩ : ∃ q, q = (l.take j).map p.xU := ⟨_, rfl⟩;rw [← vH] at HV hlm vG;clear vH ed ed3;go_wp2_with ((with_reducible refine lL (b := .append) (xs := #[.tmp 14, .tmp 21]) rfl ?_); at_builtin; refine Kd.xw bD (w0 := w) w.heap.size rfl (.tmp 14) (.tmp 21) 23 3 (.int .i64 0) 8 rfl fM nR rfl ai ag u5 sofar q [.int .i64 (q : Int)] (fun _ => True) (fun _ => False) rfl rfl ?aP (fun _ hk => hk.elim) ?aF ?aO ?aB ?aS ?aL ?_; (case aP => exact rfl); (case aF => exact (fun _ _ => trivial)); (case aO => exact (by (with_reducible repeat (first | apply Kd.qH | apply Kd.rD | apply Kd.qI)); exact HV.out)); (case aB => exact (by repeat (first | (with_reducible first | exact HB.out | apply aW) | exact HB.out))); (case aS => exact (by have := HB.out.size; simp; omega)); (case aL => omega); intro v9 w9 ho hb hg hat; have AL := Zd.mk ho; have HB3 := Zd.mk hb; clear ho hb hg hat);go_roundg (gk - 1)
   case measure => have := HJ.out; omega
   case rel => exact ⟨j + 1, by have := HJ.out; omega, by go_num, ⟨by rw [vG.out, HQ.out]; exact AL.out⟩, HB3⟩
  ·have hjl : ¬ ((j : Nat) : Int) < (l.length : Int) := by omega
   have y9 := Zd.mk (show Kd.R bD 3 WW w.heap.size (fun _ => True) u5 (l.map p.xU) from by have := HV.out; rwa [List.take_of_length_le ag] at this);go_wp2;go_ret;exact ⟨_, rfl, y9.out, HB.out⟩
def PD.value (p : PD) (v s : Nat) : Bool := kL p.s (s : Int) (p.ls.getD v 0)
def PD.zf (p : PD) (want : Bool) (v : Nat) : List Nat := ((List.range p.size).filter (fun s => p.value v s == want)).map (fun s => v * p.size + s)
def PD.starts (p : PD) (want : Bool) : List Nat := p.ss.flatMap (p.zf want)
theorem apY (f : Nat → Bool) (g : Nat → Nat) (i : Nat) : ((List.range (i + 1)).filter f).map g = ((List.range i).filter f).map g ++ (if f i = true then [g i] else []) := by
 rw [List.range_succ, List.filter_append, List.map_append];congr 1;cases h : f i <;> simp [h]
theorem afj (f : Nat → Bool) (g : Nat → Nat) (i : Nat) : (((List.range i).filter f).map g).length ≤ i := by
 rw [List.length_map];exact Nat.le_trans (List.length_filter_le _ _) (by rw [List.length_range]; exact Nat.le_refl _)
theorem afk {p : PD} (hok : p.Ok) (want : Bool) (j : Nat) : ((p.ss.take j).flatMap (p.zf want)).length ≤ 51200 := by
 have h1 := Wi (f := p.zf want) (m := 256) (p.ss.take j) (fun v hv => Nat.le_trans (afj _ _ _) hok.s1);have h2 : (p.ss.take j).length ≤ 200 := Nat.le_trans (by rw [List.length_take]; exact Nat.min_le_right _ _) hok.sl;exact Nat.le_trans h1 (Nat.le_trans (Nat.mul_le_mul_right _ h2) ai)
theorem apZ (p : PD) (want : Bool) (g : Nat) (w : World) (h : qc w g p) (hok : p.Ok) :
  Calls Tryz.prog 41 #[.pointer (some ⟨g, 0, none⟩), .bool want] w fun e w' => ∃ v, e = .returned v ∧ Kd.R bD 3 w' w.heap.size (fun _ => True) v (p.starts want) ∧ Below w.heap.size w w' := by
 obtain ⟨A0, A1, A2, A5, A7, A8, c0, c1, c2, c5, c7, c8, h⟩ := h;have BO := Tryz.underlying74;have AB := Tryz.underlying26;have jm := Tryz.underlying29;have fM := Tryz.underlying23;have yK := Tryz.underlying22;have q1 := h.q1;have q6 := h.q6;have Q0 := Zd.mk h.q0;have Q3 := Zd.mk h.q3;have Q4 := Zd.mk h.q4;have Q5 := Zd.mk h.q5;have H0 := Zd.mk h.h0;have H1 := Zd.mk h.h1;have H5 := Zd.mk h.h5;have L5 := Zd.mk h.l5;have eG := Zd.mk hok;have Fy := Zd.mk (fun j => afk hok want j);have AJ := Zd.mk (show p.starts want = p.ss.flatMap (p.zf want) from rfl);have hs1 := hok.s1;have hsl := hok.sl;clear h hok;go_enter Tryz.func41, Tryz.ntmps41;go_wp2;go_loopg [5, 15] p.ss.length (fun kq v5 v15 w' => ∃ j : Nat, j + kq = p.ss.length ∧ v15 = .int .i64 (j : Int) ∧ Zd (Kd.R bD 3 w' w.heap.size (fun _ => True) v5 ((p.ss.take j).flatMap (p.zf want))) ∧ Zd (Below w.heap.size w w'))
 case atStart => exact ⟨0, by omega, rfl, ⟨Kd.lK _ _ _ _ _⟩, ⟨Below.refl _ _⟩⟩
 case round =>
  obtain ⟨WW, rfl⟩ : ∃ W : World, W = wr := ⟨_, rfl⟩;obtain ⟨j, hj, rfl, HV, HB⟩ := hrel;obtain ⟨k1, hk1⟩ : ∃ k, k = gk := ⟨_, rfl⟩;rw [← hk1] at hj;have HJ := Zd.mk hj;have dR := Zd.mk hk1;clear hj hk1;by_cases hlt : j < p.ss.length
  ·have hjl : ((j : Nat) : Int) < (p.ss.length : Int) := by omega
   obtain ⟨ad1, rfl, qj⟩ := vC H1.out hlt;have BR := eG.out.st _ (xR hlt);have II := Zd.mk (afc (p.zf want) p.ss j hlt);generalize p.ss.getD j 0 = v at *;obtain ⟨qV, rfl, ql⟩ := uh H0.out BR;have QL := Zd.mk ql;have y5 := Zd.mk (show ∀ s, p.value v s = kL p.s (s : Int) (p.ls.getD v 0) from fun _ => rfl);have Ld := aG HB.out qj;have q6' := aG HB.out q6;have hmv : v * p.size ≤ 51200 := Nat.le_trans (Nat.mul_le_mul (Nat.le_trans (Nat.le_of_lt BR) eG.out.n) hs1) ai;have uj := IE (a := v) (b := p.size) (Nat.lt_of_le_of_lt hmv ai);have Qe := Zd.mk (show p.zf want v = ((List.range p.size).filter (fun s => p.value v s == want)).map (fun s => v * p.size + s) from rfl);have hlf := Fy.out j;have hvl : (v : Int) < (p.ls.length : Int) := Int.ofNat_lt.2 BR;generalize p.ls.getD v 0 = lt at *;generalize v * p.size = m at *;obtain ⟨done, hdn⟩ : ∃ q, q = (p.ss.take j).flatMap (p.zf want) := ⟨_, rfl⟩;rw [← hdn] at HV hlf II;clear hdn ql;go_wp2;go_loopg [5, 23] p.size (fun kq v5 v23 w' => ∃ i : Nat, i + kq = p.size ∧ v23 = .int .i64 (i : Int) ∧ Zd (Kd.R bD 3 w' w.heap.size (fun _ => True) v5 (done ++ ((List.range i).filter (fun s => p.value v s == want)).map (fun s => m + s))) ∧ Zd (Below w.heap.size w w'))
   case atStart => exact ⟨0, by omega, rfl, ⟨by rw [List.range_zero, List.filter_nil, List.map_nil, List.append_nil]; exact HV.out⟩, HB⟩
   case round =>
    obtain ⟨WX, rfl⟩ : ∃ W : World, W = wr := ⟨_, rfl⟩;obtain ⟨s, hi, rfl, jI, HB2⟩ := hrel;have HI := Zd.mk hi;clear hi;by_cases vF : s < p.size
    ·have hil : ((s : Nat) : Int) < (p.size : Int) := by omega
     have wm := Zd.mk (apY (fun s => p.value v s == want) (fun s => m + s) s);have z0 := aG HB2.out Q0.out;have z3 := aG HB2.out Q3.out;have z4 := aG HB2.out Q4.out;have z5 := aG HB2.out Q5.out;have zl := aG HB2.out QL.out;have Le := Zd.mk (fun W (hb : Below WX.heap.size WX W) => aeM p.s (s : Int) lt A5 c5 W (Kd.aQ H5.out (HB2.out.trans (hb.mono HB2.out.size))) L5.out);have HVQ := Zd.mk (y5.out s);have hlm : (done ++ ((List.range s).filter (fun s => p.value v s == want)).map (fun s => m + s)).length ≤ 60000 := by
      have := afj (fun s => p.value v s == want) (fun s => m + s) s;rw [List.length_append]; omega
     obtain ⟨sofar, vH⟩ : ∃ q, q = done ++ ((List.range s).filter (fun s => p.value v s == want)).map (fun s => m + s) := ⟨_, rfl⟩;rw [← vH] at jI hlm;have BU := Zd.mk vH;clear vH;generalize kL p.s (s : Int) lt = b at *;go_upto_region 8 with fail
     refine iP (n := 16) (S := fun w' => w'.cell? ⟨g, 0, none⟩ = some (.slice (some qV) p.ls.length c0) ∧ w'.cell? ⟨g, 3, none⟩ = some (.int .i64 p.s.f0) ∧ w'.cell? ⟨g, 4, none⟩ = some (.int .i64 p.s.f1) ∧ w'.cell? ⟨g, 5, none⟩ = some (.slice A5 p.s.f2.length c5) ∧ w'.cell? (qV.add v) = some (.int .u32 lt)) (ds := []) abJ aa rfl rfl ⟨z0, z3, z4, z5, zl⟩ (fun hHeld => ?_);refine iR rH.Qc rH.Qd (fun ae bA => ?_);refine pz ae.out 0 (some 26) abK rfl rfl ?_;refine pz ae.out 1 (some 27) abL rfl rfl ?_;refine pz ae.out 2 (some 28) abM rfl rfl ?_;refine pz ae.out 4 (some 30) akL rfl rfl ?_;refine pz ae.out 5 (some 31) akM rfl rfl ?_;refine pz ae.out 6 (some 32) akN rfl rfl ?_;refine pz ae.out 7 (some 33) akO rfl rfl ?_;refine pz ae.out 8 (some 34) akP rfl rfl ?_;refine pz ae.out 10 (some 36) akQ rfl rfl ?_;refine pz ae.out 14 (some 40) akR rfl rfl ?_;refine tz ae.out bA.out 3 (some 29) akS rfl rfl hHeld ?_;refine tz ae.out bA.out 9 (some 35) akT rfl rfl hHeld ?_;refine pz ae.out 11 (some 37) akU rfl rfl ?_;refine tz ae.out bA.out 12 (some 38) akV rfl rfl hHeld ?_;refine gV (i := 13) (N := some 39) abN rfl rfl (di ae.out aa) ai (fun K hK => ?_);refine jT Tryz.func60 aa rfl #[.agg #[.int .i64 p.s.f0, .int .i64 p.s.f1, .slice A5 p.s.f2.length c5], .int .i64 (s : Int), .int .u32 lt] bu rfl rfl (by simp only [List.map_toArray, List.map_cons, List.map_nil]; rfl) ?_
     with_reducible refine (Le.out _ (show Below WX.heap.size WX WX.drew from bV (Below.refl _ _))).mono ?_
     rintro e_ Wm ⟨rfl, hB⟩;have rJ := Zd.mk (show Below WX.heap.size WX Wm from (bV (Below.refl _ _)).trans hB);clear hB hHeld;refine ⟨_, rfl, ?_⟩;refine hK.out _ _ ⟨(aG rJ.out z0), (aG rJ.out z3), (aG rJ.out z4), (aG rJ.out z5), (aG rJ.out zl)⟩ (fun hHeld => ?_);clear hK K;refine gW (a' := ?_) ?_ ?_;rotate_left
     ·show Act.put _ (some 39) _ = _;simp only [Act.put, List.setIfInBounds_toArray, List.set_cons_zero, List.set_cons_succ, bE, dS];rfl
     refine pz ae.out 15 (some 41) abO rfl rfl ?_;refine kD (kE ae.out aa) ?_;clear hHeld ae bA;have HB3 := Zd.mk (HB2.out.trans (rJ.out.mono HB2.out.size));have AL := Zd.mk (Kd.gU jI.out rJ.out);have apT := aG HB3.out q6;have FB : IntKind.i64.wrap ((v : Int) * (p.size : Int)) = (m : Int) := (bE _).trans uj;clear z0 z3 z4 z5 zl;by_cases hbw : b = want
     ·subst hbw;cases b
      all_goals
       go_wp2_with ((with_reducible refine lL (b := .append) (xs := #[.tmp 42, .tmp 51]) rfl ?_); at_builtin; refine Kd.xw bD (w0 := w) w.heap.size rfl (.tmp 42) (.tmp 51) 23 3 (.int .i64 0) 8 rfl fM nR rfl ai ag u5 sofar (m + s) [.int .i64 ((m + s : Nat) : Int)] (fun _ => True) (fun _ => False) rfl rfl ?aP (fun _ hk => hk.elim) ?aF ?aO ?aB ?aS ?aL ?_; (case aP => exact rfl); (case aF => exact (fun _ _ => trivial)); (case aO => exact (by (with_reducible repeat (first | apply Kd.qH | apply Kd.rD | apply Kd.qI)); exact AL.out)); (case aB => exact (by repeat (first | (with_reducible first | exact HB3.out | apply aW) | exact HB3.out))); (case aS => exact (by have := HB3.out.size; simp; omega)); (case aL => omega); intro v9 w9 ho hb hg hat; have y9 := Zd.mk ho; have bQ := Zd.mk hb; clear ho hb hg hat)
       go_roundg (gk - 1)
       case measure => have := HI.out; omega
       case rel => exact ⟨s + 1, by have := HI.out; omega, by go_num, ⟨by rw [wm.out, HVQ.out, if_pos ai, ← List.append_assoc, ← BU.out]; exact y9.out⟩, bQ⟩
     ·have sF := Zd.mk hbw;clear hbw;cases b <;> cases want <;> first | exact absurd rfl sF.out | skip
      all_goals
       go_wp2;go_roundg (gk - 1)
       case measure => have := HI.out; omega
       case rel => exact ⟨s + 1, by have := HI.out; omega, by go_num, ⟨by rw [wm.out, HVQ.out, if_neg ai, List.append_nil, ← BU.out]; exact AL.out⟩, HB3⟩
    ·have hil : ¬ ((s : Nat) : Int) < (p.size : Int) := by omega
     have hse : s = p.size := by have := HI.out; omega
     have y9 := Zd.mk (show Kd.R bD 3 WX w.heap.size (fun _ => True) u5 ((p.ss.take (j + 1)).flatMap (p.zf want)) from by rw [II.out, Qe.out, ← hse]; exact jI.out);clear hse;go_wp2;go_roundg (k1 - 1)
     case measure => have := HJ.out; have := dR.out; omega
     case rel => exact ⟨j + 1, by have := HJ.out; omega, by go_num, y9, HB2⟩
  ·have hjl : ¬ ((j : Nat) : Int) < (p.ss.length : Int) := by omega
   have y9 := Zd.mk (show Kd.R bD 3 WW w.heap.size (fun _ => True) u5 (p.starts want) from by have := HV.out; rw [List.take_of_length_le ag] at this; rw [AJ.out]; exact this);go_wp2;go_ret;exact ⟨_, rfl, y9.out, HB.out⟩
theorem afl {w : World} {base : Nat} {ok : Nat → Prop} {v : Value} {xs : List Nat} (h : Kd.R bD 3 w base ok v xs) (hn : 0 < xs.length) : ∃ g cap, v = .slice (some ⟨g, 0, none⟩) xs.length cap ∧ base ≤ g ∧ g < w.heap.size ∧ xs.length ≤ cap := by
 obtain ⟨inner, ho⟩ := Kd.xu h;obtain ⟨g, cap, e, h1, h2⟩ := ho.form hn;obtain ⟨A, c, e2, hc, _⟩ := Kd.iO h;rw [e] at e2;cases e2;exact ⟨g, cap, e, h1, h2, hc⟩
theorem sK {w : World} {base g n cap : Nat} {ok : Nat → Prop} {xs : List Nat} (h : Kd.R bD 3 w base ok (.slice (some ⟨g, 0, none⟩) n cap) xs) {j : Nat} (hj : j < n) : w.cell? ⟨g, j, none⟩ = some (.int .i64 ((xs.getD j 0 : Nat) : Int)) ∧ w.frozen? ⟨g, j, none⟩ = false := by
 have := Kd.JN (d := 0) h (j : Int) ag ag;rw [Int.toNat_natCast] at this;have h2 : qE 0 xs (j : Int) = xs.getD j 0 := by unfold qE; rw [Int.toNat_natCast]
 rw [h2] at this;exact this
theorem Qf {w : World} {base g n cap : Nat} {ok : Nat → Prop} {xs : List Nat} (h : Kd.R bD 3 w base ok (.slice (some ⟨g, 0, none⟩) n cap) xs) (j x : Nat) : Kd.R bD 3 (w.setCell ⟨g, j, none⟩ (.int .i64 (x : Int))) base ok (.slice (some ⟨g, 0, none⟩) n cap) (xs.set j x) := by
 have := Kd.JO h (j : Int) x;rw [Int.toNat_natCast] at this;exact this
theorem set_tail (F : List Nat) (m : Nat) (r : List Nat) : ∀ k, r.length = k + 1 → (F ++ List.replicate m 0 ++ r).set (F.length + m) 0 = F ++ List.replicate (m + 1) 0 ++ r.tail := by
 intro k hk;match r, hk with
 | a :: r', _ =>
  rw [List.set_append_right _ _ (by simp), List.length_append, List.length_replicate, Nat.sub_self, List.set_cons_zero, List.tail_cons, List.replicate_succ', ← List.append_assoc, List.append_assoc (F ++ List.replicate m 0)];rfl
theorem afm {base g n cap : Nat} {ok : Nat → Prop} {w0 : World} : ∀ (r : List Nat) (w : World) (F : List Nat) (m : Nat), Kd.R bD 3 w base ok (.slice (some ⟨g, 0, none⟩) n cap) (F ++ List.replicate m 0 ++ r) → Below base w0 w → base ≤ g →
  Kd.R bD 3 (w.setCells g (F.length + m) (List.replicate r.length (.int .i64 0))) base ok (.slice (some ⟨g, 0, none⟩) n cap) (F ++ List.replicate (m + r.length) 0) ∧ Below base w0 (w.setCells g (F.length + m) (List.replicate r.length (.int .i64 0)))
 | [], w, F, m, h, hB, hb => by
  rw [List.append_nil] at h;exact ⟨h, hB⟩
 | a :: r, w, F, m, h, hB, hb => by
  rw [List.length_cons, List.replicate_succ];show Kd.R bD 3 ((w.setCell ⟨g, F.length + m, none⟩ (.int .i64 0)).setCells g (F.length + m + 1) _) _ _ _ _ ∧ _;have h1 := Qf h (F.length + m) 0;rw [set_tail F m (a :: r) r.length rfl] at h1;have := afm r (w.setCell ⟨g, F.length + m, none⟩ (.int .i64 0)) F (m + 1) h1 (hB.setCell hb _) hb;rw [show m + (r.length + 1) = m + 1 + r.length by omega];exact this
def uk (f : Nat → Bool) (l : List Nat) : List Nat := l.filter (fun y => !f y)
theorem IJ (f : Nat → Bool) (l : List Nat) (x : Nat) : uk f (l ++ [x]) = uk f l ++ (if f x = true then [] else [x]) := by
 unfold uk;rw [List.filter_append];congr 1;cases h : f x <;> simp [h]
theorem Wn {f : Nat → Bool} {l : List Nat} (h : ∀ x, x ∈ l → f x = false) : uk f l = l := by
 unfold uk;rw [List.filter_eq_self];intro x hx;rw [h x hx]; rfl
theorem afn {f : Nat → Bool} : ∀ (l : List Nat) (i : Nat), (vI f l i = -1 ∧ ∀ x, x ∈ l → f x = false) ∨ ∃ j, j < l.length ∧ vI f l i = ((i + j : Nat) : Int) ∧ (∀ x, x ∈ l.take j → f x = false) ∧ f (l.getD j 0) = true
 | [], i => .inl ⟨rfl, fun x hx => by cases hx⟩
 | a :: r, i => by
  rw [vI];cases h : f a with
  | true => rw [if_pos rfl]; exact .inr ⟨0, by simp, by simp, by simp, by simpa using h⟩
  | false =>
   rw [if_neg (by simp)];rcases afn r (i + 1) with ⟨e, h1⟩ | ⟨j, h1, h2, h3, h4⟩
   ·exact .inl ⟨e, fun x hx => (List.mem_cons.1 hx).elim (fun e => by rw [e]; exact h) (h1 x)⟩
   ·refine .inr ⟨j + 1, by simp; omega, by rw [h2]; congr 1; omega, fun x hx => ?_, by simpa using h4⟩;rw [List.take_succ_cons] at hx;rcases List.mem_cons.1 hx with e | e
    ·rw [e]; exact h
    ·exact h3 x e
structure MidRow (f : Nat → Bool) (l cur : List Nat) (i j : Nat) : Prop where
 form : ∃ o5, cur = uk f (l.take j) ++ o5 ++ l.drop j ∧ (uk f (l.take j)).length = i ∧ i + o5.length = j
 lt : i < j
theorem MidRow.at_ {f : Nat → Bool} {l cur : List Nat} {i j : Nat} (h : MidRow f l cur i j) (hj : j < l.length) : cur.getD j 0 = l.getD j 0 := by
 obtain ⟨o5, e, e1, e2⟩ := h.form;rw [e, List.getD_eq_getElem?_getD, List.getElem?_append_right (by rw [List.length_append]; omega), List.length_append, e1, e2, Nat.sub_self, List.getElem?_drop, Nat.add_zero, ← List.getD_eq_getElem?_getD]
theorem MidRow.skip {f : Nat → Bool} {l cur : List Nat} {i j : Nat} (h : MidRow f l cur i j) (hj : j < l.length) (hf : f (l.getD j 0) = true) : MidRow f l cur i (j + 1) := by
 obtain ⟨o5, e, e1, e2⟩ := h.form;have hd : l.drop j = l.getD j 0 :: l.drop (j + 1) := by
  rw [List.drop_eq_getElem_cons hj, List.getD_eq_getElem?_getD, List.getElem?_eq_getElem hj]; rfl
 refine ⟨⟨o5 ++ [l.getD j 0], ?_, ?_, by simp; omega⟩, Nat.lt_succ_of_lt h.lt⟩
 ·rw [wF hj, IJ, hf, if_pos rfl, List.append_nil, e, hd]; simp
 ·rw [wF hj, IJ, hf, if_pos rfl, List.append_nil]; exact e1
theorem MidRow.keep {f : Nat → Bool} {l cur : List Nat} {i j : Nat} (h : MidRow f l cur i j) (hj : j < l.length) (hf : f (l.getD j 0) = false) : MidRow f l (cur.set i (l.getD j 0)) (i + 1) (j + 1) := by
 obtain ⟨o5, e, e1, e2⟩ := h.form;have hd : l.drop j = l.getD j 0 :: l.drop (j + 1) := by
  rw [List.drop_eq_getElem_cons hj, List.getD_eq_getElem?_getD, List.getElem?_eq_getElem hj]; rfl
 have hlt := h.lt;match o5, e, e2 with
 | [], _, e2 => simp at e2; omega
 | a :: jk, e, e2 =>
  refine ⟨⟨jk ++ [l.getD j 0], ?_, ?_, by simp at e2 ⊢; omega⟩, Nat.succ_lt_succ hlt⟩
  ·rw [wF hj, IJ, hf, if_neg (by simp), e, hd, List.append_assoc, List.set_append_right _ _ ag, e1, Nat.sub_self];simp
  ·rw [wF hj, IJ, hf, if_neg (by simp), List.length_append, e1]; rfl
theorem MidRow.done {f : Nat → Bool} {l cur : List Nat} {i : Nat} (h : MidRow f l cur i l.length) : ∃ o5, cur = uk f l ++ o5 ∧ (uk f l).length = i ∧ i + o5.length = l.length := by
 obtain ⟨o5, e, e1, e2⟩ := h.form;rw [List.take_of_length_le (Nat.le_refl _)] at e e1;rw [List.drop_eq_nil_of_le (Nat.le_refl _), List.append_nil] at e;exact ⟨o5, e, e1, e2⟩
theorem ap0 (k : FuncId) (first cap : Array Value) (f : Nat → Bool) (N : Nat) (v : Value) (l : List Nat) (w0 w : World) (hp : wE k first cap f N w0) (hB : Below w0.heap.size w0 w) (hr : Kd.R bD 3 w w0.heap.size (fun _ => True) v l) (hl : ∀ x, x ∈ l → x < N) (hb : l.length < 1000000000) :
  Calls Tryz.prog 95 #[v, .func (.func k) first cap] w fun e w' => ∃ v', e = .returned v' ∧ Kd.R bD 3 w' w0.heap.size (fun _ => True) v' (uk f l) ∧ Below w0.heap.size w0 w' := by
 have fM := Tryz.underlying23;have hp' := hp;obtain ⟨A, c, e, hc, hC⟩ := Kd.iO hr;subst e;have HI := Zd.mk (afg k first cap f N A c l w ⟨hp.enters, fun W hW x hx => hp.tells W (hB.trans (hW.mono hB.size)) x hx⟩ hC hl hb);have HR := Zd.mk hr;have HB := Zd.mk hB;rcases afn (f := f) l 0 with ⟨e, hn⟩ | ⟨i0, hi0, e, hpre, hat⟩
 ·rw [e] at HI;have HK := Zd.mk (Wn hn);have Wo := Zd.mk (fun W (h : Below w.heap.size w W) => Kd.gU HR.out h);clear hr hp hp' hC hl hn e;go_enter Tryz.func95, Tryz.ntmps95;go_wp2_with (go_at_call 93; refine HI.out.mono ?_; rintro e w4 ⟨rfl, hB4⟩; have bQ := Zd.mk hB4; clear hB4);go_ret;exact ⟨_, rfl, by rw [HK.out]; exact Wo.out _ bQ.out, HB.out.trans (bQ.out.mono HB.out.size)⟩
 ·rw [e, Nat.zero_add] at HI;obtain ⟨g, cp, e2, hg0, hg1, hcp⟩ := afl hr ag;cases e2;have he := hp.enters;have HP := Zd.mk hp;have HL := Zd.mk hl;have lT := Zd.mk (show MidRow f l l i0 (i0 + 1) from by
   refine ⟨⟨[l.getD i0 0], ?_, ?_, by simp⟩, Nat.lt_succ_self _⟩
   ·rw [wF hi0, IJ, hat, if_pos rfl, List.append_nil, Wn hpre, ← wF hi0, List.take_append_drop]
   ·rw [wF hi0, IJ, hat, if_pos rfl, List.append_nil, Wn hpre, List.length_take]; omega)
  have Qg := Zd.mk hg0;have hi1 : i0 < 1000000000 := by omega
  have HI1 := Zd.mk hi0;clear hr hp hp' hC hl hpre hat e hi0 hg0 hg1;go_enter Tryz.func95, Tryz.ntmps95;go_wp2_with (go_at_call 93; refine HI.out.mono ?_; rintro e w4 ⟨rfl, hB4⟩; have bQ := Zd.mk (HB.out.trans (hB4.mono HB.out.size)); have HR4 := Zd.mk (Kd.gU HR.out hB4); clear hB4);go_loopg [5, 6] l.length (fun kq v5 v6 w' => ∃ (i j : Nat) (cur : List Nat), j + kq = l.length + (i0 + 1) ∧ i < j ∧ j ≤ l.length ∧ v5 = .int .i64 (i : Int) ∧ v6 = .int .i64 (j : Int) ∧ Zd (MidRow f l cur i j) ∧ Zd (Kd.R bD 3 w' w0.heap.size (fun _ => True) (.slice (some ⟨g, 0, none⟩) l.length c) cur) ∧ Zd (Below w0.heap.size w0 w'))
  case atStart =>
   have := HI1.out;exact ⟨i0, i0 + 1, l, by omega, by omega, by omega, rfl, by first | rfl | go_num, lT, HR4, bQ⟩
  case round =>
   obtain ⟨WW, rfl⟩ : ∃ W : World, W = wr := ⟨_, rfl⟩;obtain ⟨i, j, cur, hj, hij, hjm, rfl, rfl, HM, HV, lq⟩ := hrel;have HJ := Zd.mk hj;clear hj;by_cases hlt : j < l.length
   ·have hjl : ((j : Nat) : Int) < (l.length : Int) := by omega
    obtain ⟨qj, _⟩ := sK HV.out hlt;rw [HM.out.at_ hlt] at qj;have HC := Zd.mk (HP.out.tells WW lq.out _ (HL.out _ (xR hlt)));have wH := Zd.mk (fun h => HM.out.skip hlt h);have wI := Zd.mk (fun h => HM.out.keep hlt h);have HPT := Zd.mk (fun W (h : Below WW.heap.size WW W) => Qf (Kd.gU HV.out h) i (l.getD j 0));have hci : ∀ W, Below WW.heap.size WW W → W.cell? ⟨g, i, none⟩ = some (.int .i64 ((cur.getD i 0 : Nat) : Int)) ∧ W.frozen? ⟨g, i, none⟩ = false := fun W h => sK (Kd.gU HV.out h) ag;have HCI := Zd.mk hci;clear hci;generalize l.getD j 0 = x at *;cases hfx : f x with
    | true =>
     rw [hfx] at HC;have HA2 := Zd.mk (wH.out hfx);clear hfx wH wI;go_wp2_with ((with_reducible refine HC.out.mono ?_); rintro e w5 ⟨rfl, dJ⟩; have cZ := Zd.mk dJ; clear dJ);go_roundg (gk - 1)
     case measure => have := HJ.out; omega
     case rel => exact ⟨i, j + 1, cur, by have := HJ.out; omega, by omega, by omega, rfl, by go_num, HA2, ⟨Kd.gU HV.out cZ.out⟩, ⟨lq.out.trans (cZ.out.mono lq.out.size)⟩⟩
    | false =>
     rw [hfx] at HC;have HA2 := Zd.mk (wI.out hfx);clear hfx wH wI;have hil : ((i : Nat) : Int) < (l.length : Int) := by omega
     go_wp2_with ((with_reducible refine HC.out.mono ?_); rintro e w5 ⟨rfl, dJ⟩; obtain ⟨ci, fi⟩ := HCI.out _ dJ; have cZ := Zd.mk dJ; clear dJ)
     go_roundg (gk - 1)
     case measure => have := HJ.out; omega
     case rel => exact ⟨i + 1, j + 1, cur.set i x, by have := HJ.out; omega, by omega, by omega, by go_num, by go_num, HA2, ⟨HPT.out _ cZ.out⟩, ⟨(lq.out.trans (cZ.out.mono lq.out.size)).setCell Qg.out _⟩⟩
   ·have hjl : ¬ ((j : Nat) : Int) < (l.length : Int) := by omega
    have hje : j = l.length := by omega
    subst hje;obtain ⟨o5, e1, e2, e3⟩ := HM.out.done;have hil : ((i : Nat) : Int) < (l.length : Int) := by omega
    have jI := Zd.mk (by have := HV.out; rw [e1] at this; exact afm (m := 0) (cap := c) (n := l.length) (g := g) (w0 := w0) o5 WW (uk f l) (by rw [List.replicate_zero, List.append_nil]; exact this) lq.out Qg.out);rw [e2, Nat.add_zero, Nat.zero_add] at jI;have hz : ∀ w, (zeroValue 3).run Tryz.prog w = .ok (.int .i64 0) w := fun w => by kernel_rfl
    have hcell : ∀ q, q < o5.length → (WW.cell? ⟨g, i + q, none⟩).isSome = true := fun q hq => by rw [(sK HV.out (j := i + q) ag).1]; rfl
    have afo : ∀ q, q < o5.length → WW.frozen? ⟨g, i + q, none⟩ = false := fun q hq => (sK HV.out (j := i + q) ag).2;have ap1 : ∀ ty cc, (Builtin.clear_ #[23] ty #[.slice (some ⟨g, i, none⟩) o5.length cc]).run Tryz.prog WW = .ok (.tuple #[]) (WW.setCells g i (List.replicate o5.length (.int .i64 0))) := fun ty cc => Lib.run_clear_slice WW 23 3 ty (.int .i64 0) fM hz rfl rfl g i o5.length cc ag hcell afo;have hji : o5.length = l.length - i := by omega
    rw [hji] at ap1 jI;have hti : List.take i (uk f l ++ List.replicate (l.length - i) 0) = uk f l := by rw [← e2]; simp
    have IK := Zd.mk (by have := Kd.NN jI.out.1 (m := i) (by rw [List.length_append, e2, List.length_replicate]; omega); rw [hti] at this; exact this);have Qh := Zd.mk jI.out.2;have hi9 : i ≤ l.length := by omega
    have awl : ¬ c = i := by omega
    clear hz hcell afo e1 e2 e3 hji hti jI;generalize WW.setCells g i (List.replicate (l.length - i) (.int .i64 0)) = WE at *;go_wp2;go_ret;exact ⟨_, rfl, IK.out, Qh.out⟩
theorem ap2 (b gc y : Nat) (cb : List Bool) (W : World) (hb : ji W b (.pointer (some ⟨gc, 0, none⟩)) 79) (hc : ze W gc cb) (hy : y < cb.length) :
  Calls Tryz.prog 96 #[.int .i64 (y : Int), .pointer (some ⟨b, 0, none⟩)] W fun e W' => e = .returned (.bool (!Sg.aH cb y)) ∧ Below W.heap.size W W' := by
 have q := cell1 hb;have HC := Zd.mk (afh gc y cb W hc hy);clear hb hc hy;generalize Sg.aH cb y = r at *;go_enter Tryz.func96, Tryz.ntmps96;go_wp2_with (go_at_call 45; refine HC.out.mono ?_; rintro e w4 ⟨rfl, hB4⟩; have bQ := Zd.mk hB4; clear hB4);go_ret;exact ⟨rfl, bQ.out⟩
theorem ap3 (f : Nat → Bool) (l : List Nat) : uk (fun y => !f y) l = l.filter f := by
 unfold uk;congr 1
 funext y
 simp
theorem afp (p : PD) (g gc x : Nat) (cb : List Bool) (w : World) (h : qc w g p) (hok : p.Ok) (hx : x < p.N) (hc : ze w gc cb) (hcl : cb.length = p.N) :
  Calls Tryz.prog 69 #[.pointer (some ⟨g, 0, none⟩), .pointer (some ⟨gc, 0, none⟩), .int .i64 (x : Int)] w fun e w' => ∃ v, e = .returned v ∧ Kd.R bD 3 w' w.heap.size (fun _ => True) v ((p.next x).filter (Sg.aH cb)) ∧ Below w.heap.size w w' := by
 have xE : ∀ fn first cap w, (Instr.makeFunc fn first cap).run Tryz.prog w = .ok (.func fn first cap) w := fun _ _ _ _ => rfl;obtain ⟨W1, hW1⟩ : ∃ W1, W1 = w.alloc (.cells #[.pointer (some ⟨gc, 0, none⟩)] 79) := ⟨_, rfl⟩;have hB1 : Below w.heap.size w W1 := by rw [hW1]; exact aW (Below.refl _ _) _
 have hc1 : ji W1 w.heap.size (.pointer (some ⟨gc, 0, none⟩)) 79 := by rw [hW1]; exact heap_alloc_new w _
 have hlen : (p.next x).length ≤ 51200 := by
  have := hok.Qa (x := x) (j := (p.nxs.getD (x / p.size) []).length) hx
  rwa [List.take_of_length_le (Nat.le_refl _)] at this
 have j4 := Zd.mk (Wj p g x W1 (h.below hB1) hok hx);have Lf : wE 96 #[] #[.pointer (some ⟨w.heap.size, 0, none⟩)] (fun y => !Sg.aH cb y) p.N W1 :=
  ⟨sw Tryz.func96 aa rfl, fun W hW y hy => ap2 w.heap.size gc y cb W ((hW.block _ (aT hc1)).trans hc1) ((hc.below hB1).below hW) (by rw [hcl]; exact hy)⟩
 have Qi := Zd.mk (fun v W hB hR => ap0 96 #[] #[.pointer (some ⟨w.heap.size, 0, none⟩)] (fun y => !Sg.aH cb y) p.N v (p.next x) W1 W Lf hB hR (fun y hy => hok.xS hx hy) ag);rw [ap3] at Qi;have HB1 := Zd.mk hB1;have HW1 := Zd.mk hW1;clear h hc hok hcl hlen Lf hB1 hc1;go_enter Tryz.func69, Tryz.ntmps69;go_wp2_with (first | (go_at_call 64; rw [← HW1.out]; refine j4.out.mono ?_; rintro e w4 ⟨v4, rfl, vJ, hB4⟩; have HD4 := Zd.mk (Qi.out v4 w4 hB4 vJ); have bQ := Zd.mk hB4; clear vJ hB4) | (go_at_call 95; refine HD4.out.mono ?_; rintro e w5 ⟨v5, rfl, Br, dJ⟩; have UY := Zd.mk Br; have cZ := Zd.mk dJ; clear Br dJ));go_ret;exact ⟨_, rfl, Kd.sj UY.out HB1.out.size, HB1.out.trans (cZ.out.mono HB1.out.size)⟩
end Go.Proofs.YtapejnikpmfddaaGreat.X
namespace Go.Proofs.YtapejnikpmfddaaGreat.P
open Go.RowKit Go.Proofs.aI.bM Go.Proofs.aI.dG Go.Proofs.aI.dM
attribute [local go_sem] nE nG nH nI nW nX nY nZ

def mK.l0 : Nat → List Int → Int → Int → Option (List Int)
 | 0, _, _, _ => none
 | k + 1, x0, x2, x3 => if x2 < x3 then (if 0 ≤ x3 then (if x3 < (x0.length : Int) then (if 0 ≤ x2 then (if x2 < (x0.length : Int) then (mK.l0 k ((x0.set (x2 : Int).toNat (rd x0 x3)).set (x3 : Int).toNat (rd x0 x2)) (wrap64 (x2 + 1)) (wrap64 (x3 - 1))) else (none)) else (none)) else (none)) else (none)) else (some x0)
def mK.f (k : Nat) (l0 : List Int) : Option (List Int) := mK.l0 k l0 0 (wrap64 ((l0.length : Int) - 1))
def mK.T3 : Bool × List (List Nat × List Nat) := (true, [([], []), ([], []), ([], []), ([], []), ([], []), ([], []), ([4, 5], [4, 5]), ([6], [6]), ([], []), ([], []), ([8, 9], [8, 9]), ([10], [10]), ([0, 1, 0, 1, 4, 5, 6, 7, 11], [0, 1]), ([12, 7, 0, 1, 4, 5, 6, 7, 11], [7, 12]), ([2, 3, 0, 1, 2, 3, 4, 5, 6, 7, 8, 9, 10, 11, 12, 13], [2, 3]), ([14, 11, 13, 0, 1, 2, 3, 4, 5, 6, 7, 8, 9, 10, 11, 12, 13], [11, 14])])
def mK.B3 : List Nat := [0, 0, 0, 0, 0, 0, 48, 112, 0, 0, 768, 1792, 4083, 8179, 16383, 32767]
theorem mK.Wp : dh .any (opsOf Tryz.f63 3) = mK.T3 := by kernel_rfl
theorem mK.Wq : ik mK.T3.2 mK.B3 = true := by kernel_rfl
theorem mK.calls (k : Nat) (Dx : Nat → Prop) (Qj : Value) (l0 : List Int) (r : List Int) (w0 w : World) (hB : Below w0.heap.size w0 w) (ho0 : Kd.R (Kd.int .i64) 3 w w0.heap.size Dx Qj l0) (h : mK.f k l0 = some r) :
  Calls Tryz.prog 63 #[Qj] w fun e w' => e = .returned (.tuple #[]) ∧ Kd.R (Kd.int .i64) 3 w' w0.heap.size (fun k_ => (Dx k_ ∨ w.heap.size ≤ k_)) Qj r ∧ Below w0.heap.size w0 w' ∧ Kept w w' (fun k_ => Dx k_) := by
 have HO0 := Zd.mk (show Kd.R (Kd.int .i64) 3 w w0.heap.size (fun k_ => (Dx k_ ∨ w.heap.size ≤ k_)) Qj l0 from Kd.jd ho0 (fun k_ hk => (.inl hk)));have HK := Zd.mk (Kept.refl w (fun k_ => Dx k_));have HW0 := Zd.mk hB.size;have HB := Zd.mk hB;clear hB;have H : (mK.l0 k l0 0 (wrap64 ((l0.length : Int) - 1))) = some r := h;clear h;have H' := Zd.mk H;clear H;obtain ⟨Ao2, co2, eo2⟩ := Kd.vX HO0.out;subst eo2;go_enter Tryz.func63, Tryz.ntmps63;go_wp2;go_loopg [2, 3] k (fun kq v2 v3 w' => ∃ (qd : List Int) (lC : Int) (je : Int), v2 = .int .i64 lC ∧ v3 = .int .i64 je ∧ Zd (mK.l0 kq qd lC je = some r) ∧ Zd (kq ≤ k) ∧ Zd (Kd.R (Kd.int .i64) 3 w' w0.heap.size (fun k_ => (Dx k_ ∨ w.heap.size ≤ k_)) (.slice Ao2 l0.length co2) qd) ∧ Zd (Kept w w' (fun k_ => Dx k_)) ∧ Zd (Below w0.heap.size w0 w'))
 case atStart => exact ⟨(l0), (0), (wrap64 ((l0.length : Int) - 1)), (by first | rfl | (simp; done) | (simp [*]; done)), (by first | rfl | (simp; done) | (simp [*]; done)), H', ⟨Nat.le_refl _⟩, ⟨by (with_reducible repeat (first | apply Kd.qH | apply Kd.rD | apply Kd.qI)); exact HO0.out⟩, ⟨by repeat (first | (with_reducible first | exact HK.out | apply Kept.alloc | apply Kept.drewN | apply Kept.drew) | exact HK.out)⟩, ⟨B_⟩⟩
 case round =>
  clear H'
  try clear p2
  obtain ⟨qd, lC, je, rfl, rfl, HA, dR, vK, HK, HB⟩ := hrel;have Lg := (Kd.pI vK.out).1;rw [Lg] at vK
  (try simp only [Lg])
  cases gk with
  | zero => exact absurd HA.out (by simp [mK.l0])
  | succ k1 =>
   have H := HA.out;clear HA;simp only [mK.l0] at H;by_cases c3 : lC < je
   ·rw [if_pos c3] at H;have gN : decide (lC < je) = true := decide_eq_true c3;clear c3;by_cases c4 : 0 ≤ je
    ·rw [if_pos c4] at H;have CP : decide (0 ≤ je) = true := decide_eq_true c4;clear c4;by_cases c5 : je < (qd.length : Int)
     ·rw [if_pos c5] at H;have yz : decide (je < (qd.length : Int)) = true := decide_eq_true c5;clear c5;by_cases c6 : 0 ≤ lC
      ·rw [if_pos c6] at H;have gI : decide (0 ≤ lC) = true := decide_eq_true c6;clear c6;by_cases c7 : lC < (qd.length : Int)
       ·rw [if_pos c7] at H;have uI : decide (lC < (qd.length : Int)) = true := decide_eq_true c7;clear c7;obtain ⟨afq, Lh⟩ : ∃ y_ : List Int, y_ = (qd.set (lC : Int).toNat (rd qd je)) := ⟨_, rfl⟩;replace H : (mK.l0 k1 (afq.set (je : Int).toNat (rd qd lC)) (wrap64 (lC + 1)) (wrap64 (je - 1))) = some r := by first | (rw [Lh]; with_reducible exact H) | (have pU := (Option.bind_some _ _).symm.trans H; rw [Lh]; with_reducible exact pU) | (have pU := (Option.bind_some _ _).symm.trans H; with_reducible exact pU) | with_reducible exact H | (rw [Lh]; exact H) | exact H
        have ap4 := Zd.mk Lh;clear Lh;obtain ⟨afr, Li⟩ : ∃ y_ : List Int, y_ = (afq.set (je : Int).toNat (rd qd lC)) := ⟨_, rfl⟩;replace H : (mK.l0 k1 afr (wrap64 (lC + 1)) (wrap64 (je - 1))) = some r := by first | (rw [Li]; with_reducible exact H) | (have pU := (Option.bind_some _ _).symm.trans H; rw [Li]; with_reducible exact pU) | (have pU := (Option.bind_some _ _).symm.trans H; with_reducible exact pU) | with_reducible exact H | (rw [Li]; exact H) | exact H
        have ap5 := Zd.mk Li;clear Li;have H' := Zd.mk H;clear H
        try go_wp2
        have aJ := Zd.mk (Kd.qI vK.out);have aK := Zd.mk (Kept.drew HK.out);have aU := Zd.mk (bV HB.out);clear vK;clear HK;clear HB;have vK := aJ;have HK := aK;have HB := aU;clear aJ aK aU;have Ws : 0 ≤ (je : Int) := of_decide_eq_true (by first | (with_reducible assumption) | assumption);have Wt : je < (qd.length : Int) := of_decide_eq_true (by first | (with_reducible assumption) | assumption);obtain ⟨ap6, ap7, Wu⟩ := Kd.xx (Kd.pI vK.out).2.2 je Ws Wt;cases ap7;replace Ws := eq_true Ws;replace Wt := eq_true Wt;have Wv : 0 ≤ (lC : Int) := of_decide_eq_true (by first | (with_reducible assumption) | assumption);have Ww : lC < (qd.length : Int) := of_decide_eq_true (by first | (with_reducible assumption) | assumption);obtain ⟨ap8, ap9, Wx⟩ := Kd.xx (Kd.pI vK.out).2.2 lC Wv Ww;obtain rfl : ap6 = ap8 := (by injection ap9);replace Wv := eq_true Wv;replace Ww := eq_true Ww;have p8 : 0 ≤ (lC : Int) := of_decide_eq_true (by first | (with_reducible assumption) | assumption);have q8 : (lC : Int) < ((qd.length : Int) : Int) := of_decide_eq_true (by first | (with_reducible assumption) | assumption);obtain ⟨Qk, co8, eo8, gb8, gl8, cl8, HG8⟩ := Kd.aji vK.out ag
        (first | cases eo8 | (injection eo8 with Ql en_ ec_; (first | subst Ql | (injection Ql with Ql; subst Ql)); subst ec_; clear en_))
        have GB8 := Zd.mk gb8;have GG8 := Zd.mk HG8;clear gb8 gl8 HG8;have afs := Zd.mk (show (Dx Qk ∨ w.heap.size ≤ Qk) from (vK.out.1 _ rfl))
        (first | simp only [add_plain] at Wu | skip)
        (first | simp only [add_plain] at Wx | skip)
        obtain ⟨ap_, aqa⟩ := Kd.JN 0 vK.out (lC : Int) p8 q8;replace p8 := eq_true p8;replace q8 := eq_true q8;have Wy := Kd.JO vK.out (lC : Int) (rd qd je);rw [← ap4.out] at Wy;have Wz := Zd.mk Wy;clear Wy;have p9 : 0 ≤ (je : Int) := of_decide_eq_true (by first | (with_reducible assumption) | assumption);have q9 : (je : Int) < ((qd.length : Int) : Int) := of_decide_eq_true (by first | (with_reducible assumption) | assumption);obtain ⟨aqb, aqc⟩ := Kd.JN 0 Wz.out (je : Int) p9 q9;replace p9 := eq_true p9;replace q9 := eq_true q9;have WH := Kd.JO Wz.out (je : Int) (rd qd lC);rw [← ap5.out] at WH;have aft := Zd.mk WH;clear WH;refine iP (n := 16) (S := fun w' => w'.cell? ⟨Qk, (je).toNat, none⟩ = some (.int .i64 (rd qd je)) ∧ w'.cell? ⟨Qk, (lC).toNat, none⟩ = some (.int .i64 (rd qd lC))) (ds := [13, 15]) abJ aa rfl rfl ⟨Wu, Wx⟩ (fun hHeld => ?_); refine iR mK.Wp mK.Wq (fun ae bA => ?_);generalize wr.drew = tY at vK HK HB GG8 Wz aft aqa aqc Wu Wx ap_ aqb hHeld ⊢;refine pz ae.out 0 (some 14) abK rfl rfl ?_;refine pz ae.out 1 (some 15) abL rfl rfl ?_;refine pz ae.out 2 (some 16) abM rfl rfl ?_;refine pz ae.out 3 (some 17) akW rfl rfl ?_;refine pz ae.out 4 (some 18) akX rfl rfl ?_;refine pz ae.out 5 (some 19) akY rfl rfl ?_;refine pz ae.out 6 (some 20) akZ rfl rfl ?_;refine pz ae.out 8 (some 22) ak0 rfl rfl ?_;refine pz ae.out 9 (some 23) ak1 rfl rfl ?_;refine pz ae.out 10 (some 24) ak2 rfl rfl ?_;refine tz ae.out bA.out 7 (some 21) ak3 rfl rfl hHeld ?_;refine tz ae.out bA.out 11 (some 25) ak4 rfl rfl hHeld ?_;refine pz ae.out 12 (some 26) ak5 rfl rfl ?_;refine kV (i := 13) (N := none) ak6 rfl rfl (di ae.out aa) ai (fun K hK => ?_);refine iQ (w1 := ?_) bu rfl ?_ ?_;rotate_left
        ·go_simp
         rfl
        refine hK.out _ _ ?_;clear hK K;refine pz ae.out 14 (some 27) abN rfl rfl ?_;refine kV (i := 15) (N := none) abO rfl rfl (di ae.out aa) ai (fun K hK => ?_);refine iQ (w1 := ?_) bu rfl ?_ ?_;rotate_left
        ·go_simp
         rfl
        refine hK.out _ _ ?_;clear hK K;refine kD (kE ae.out aa) ?_
        try go_wp2
        (try simp only [← Lg])
        go_roundg k1
        case measure => have := dR.out; omega
        case rel => exact ⟨(afr), (wrap64 (lC + 1)), (wrap64 (je - 1)), (by first | rfl | (simp; done) | (simp [*]; done)), (by first | rfl | (simp; done) | (simp [*]; done)), H', ⟨by have := dR.out; omega⟩, ⟨by (try simp only [Lg]); (with_reducible repeat (first | apply Kd.qH | apply Kd.rD | apply Kd.qI)); exact aft.out⟩, ⟨by repeat (first | (with_reducible first | exact HK.out | apply Kept.alloc | apply Kept.drewN | apply Kept.drew | refine Kept.setCell ?_ afs.out _ | refine Kept.setCell ?_ afs.out _) | exact HK.out)⟩, ⟨by repeat (first | (with_reducible first | exact HB.out | apply aW | apply fB | apply bV | refine NP ?_ GB8.out | refine NP ?_ GB8.out) | exact HB.out)⟩⟩
       ·rw [if_neg c7] at H;exact absurd H (by simp)
      ·rw [if_neg c6] at H;exact absurd H (by simp)
     ·rw [if_neg c5] at H;exact absurd H (by simp)
    ·rw [if_neg c4] at H;exact absurd H (by simp)
   ·rw [if_neg c3] at H;have gN : decide (lC < je) = false := decide_eq_false c3;clear c3;obtain rfl := Option.some.inj H;go_wp2
    first | go_end0 | ((try simp only [Exit.inBlock, Exit.then]); refine bodyPost_ret (results_none rfl _ _ _) rfl ?_)
    exact ⟨by first | rfl | (simp [bS, bT] <;> rfl) | (simp [*, bS, bT] <;> rfl), (by first | exact (by (with_reducible repeat (first | apply Kd.qH | apply Kd.rD | apply Kd.qI)); exact vK.out) | (simp only [Lg]; exact (by (with_reducible repeat (first | apply Kd.qH | apply Kd.rD | apply Kd.qI)); exact vK.out))), by repeat (first | (with_reducible first | exact HB.out | apply aW | apply fB | apply bV) | exact HB.out), by repeat (first | (with_reducible first | exact HK.out | apply Kept.alloc | apply Kept.drewN | apply Kept.drew) | exact HK.out)⟩

end Go.Proofs.YtapejnikpmfddaaGreat.P
namespace Go.Proofs.YtapejnikpmfddaaGreat.X
open Go.RowKit Go.Proofs.aI.bM Go.Proofs.aI.dG Go.Proofs.aI.dM
open Go.Proofs.YtapejnikpmfddaaGreat.P Go.Proofs.YtapejnikpmfddaaGreat.gY
def j5 (l : List Nat) : List Int := l.map (fun n : Nat => (n : Int))
theorem afu (l : List Nat) : encs xQ l = encs (Value.int .i64) (j5 l) := by
 unfold encs j5;rw [List.map_map]; rfl
theorem afv {e : Nat} {w : World} {base : Nat} {ok : Nat → Prop} {v : Value} {xs : List Nat} (h : Kd.R bD e w base ok v xs) : Kd.R (Kd.int .i64) e w base ok v (j5 xs) := by
 have h1 := Kd.JG h;rw [afu] at h1;exact Kd.vY (by unfold j5 at h1 ⊢; rw [List.length_map]; exact h1) h.1
theorem aqd {e : Nat} {w : World} {base : Nat} {ok : Nat → Prop} {v : Value} {xs : List Nat} (h : Kd.R (Kd.int .i64) e w base ok v (j5 xs)) : Kd.R bD e w base ok v xs := by
 have h1 := Kd.JG h;rw [← afu] at h1;exact Kd.vY (by unfold j5 at h1; rw [List.length_map] at h1; exact h1) h.1
theorem afw (A : List Int) (x : Int) (B : List Int) : rd (A ++ x :: B) (A.length : Int) = x := Ke A x B
theorem afx (A : List Int) (x y : Int) (B : List Int) : (A ++ x :: B).set A.length y = A ++ y :: B := by
 rw [List.set_append_right _ _ (Nat.le_refl _), Nat.sub_self, List.set_cons_zero]
theorem aqe : ∀ (l : List Int), l ≠ [] → ∃ r b, l = r ++ [b] := fun l h => ⟨l.dropLast, l.getLast h, (List.dropLast_concat_getLast h).symm⟩
theorem afy : ∀ (m : Nat) (A M B : List Int), M.length ≤ m → A.length = B.length → A.length + M.length + B.length < 1000000000 →
  Ev (fun k => mK.l0 k (A ++ M ++ B) (A.length : Int) ((A.length : Int) + (M.length : Int) - 1)) (A ++ M.reverse ++ B)
 | 0, A, M, B, hm, hl, hb => by
  have : M = [] := List.eq_nil_of_length_eq_zero ag;subst this;refine eO (fun k => rfl) ?_;exact lN (by simp; omega) (dx _)
 | m + 1, A, M, B, hm, hl, hb => by
  match M, hm, hb with
  | [], hm, hb =>
   refine eO (fun k => rfl) ?_;exact lN (by simp; omega) (dx _)
  | [a], hm, hb =>
   refine eO (fun k => rfl) ?_;exact lN (by simp) (dx _)
  | a :: c :: r, hm, hb =>
   obtain ⟨M', b, e⟩ := aqe (c :: r) (by simp);rw [e] at hm hb ⊢;have hj : (A.length : Int) + ((a :: (M' ++ [b])).length : Int) - 1 = (((A ++ a :: M').length : Nat) : Int) := by simp; omega
   have f1 : A ++ (a :: (M' ++ [b])) ++ B = (A ++ a :: M') ++ b :: B := by simp
   have f2 : A ++ (a :: (M' ++ [b])) ++ B = A ++ a :: (M' ++ b :: B) := by simp
   rw [hj];simp only [List.length_cons, List.length_append, List.length_nil] at hm hb;have r1 : rd (A ++ (a :: (M' ++ [b])) ++ B) (((A ++ a :: M').length : Nat) : Int) = b := by rw [f1, afw]
   have r2 : rd (A ++ (a :: (M' ++ [b])) ++ B) ((A.length : Nat) : Int) = a := by rw [f2, afw]
   have hset : ((A ++ (a :: (M' ++ [b])) ++ B).set ((A.length : Nat) : Int).toNat b).set (((A ++ a :: M').length : Nat) : Int).toNat a = (A ++ [b]) ++ M' ++ (a :: B) := by
    rw [Int.toNat_natCast, Int.toNat_natCast, f2, afx];rw [show A ++ b :: (M' ++ b :: B) = (A ++ b :: M') ++ b :: B by simp, show (A ++ a :: M').length = (A ++ b :: M').length by simp, afx];simp
   refine eO (fun k => rfl) ?_;have hlen : (A ++ (a :: (M' ++ [b])) ++ B).length = A.length + (M'.length + 2) + B.length := by simp; omega
   refine dC (by simp; omega) (dC (Int.natCast_nonneg _) (dC (by rw [hlen]; simp; omega) (dC (Int.natCast_nonneg _) (dC (by rw [hlen]; omega) ?_))));rw [r1, r2, hset];have ih := afy m (A ++ [b]) M' (a :: B) ag (by simp; omega) (by simp; omega);have hw1 : wrap64 (((A.length : Nat) : Int) + 1) = (((A ++ [b]).length : Nat) : Int) := by rw [jA ag ag]; simp
   have hw2 : wrap64 ((((A ++ a :: M').length : Nat) : Int) - 1) = (((A ++ [b]).length : Nat) : Int) + ((M'.length : Nat) : Int) - 1 := by
    rw [jA (by simp; omega) (by simp; omega)]; simp; omega
   rw [hw1, hw2];refine fJ ih ?_;simp
theorem aqf (l : List Nat) (h : l.length < 1000000000) : Ev (fun k => mK.f k (j5 l)) (j5 l.reverse) := by
 have hl : (j5 l).length = l.length := by unfold j5; rw [List.length_map]
 have := afy l.length [] (j5 l) [] ag rfl (by simp; omega);rw [List.nil_append, List.append_nil, List.nil_append, List.append_nil] at this;refine Ev.congr (fun k => ?_) (fJ this (by unfold j5; rw [List.map_reverse]));unfold mK.f;rw [jA (by rw [hl]; omega) (by rw [hl]; omega)];simp
theorem aqg (v : Value) (l : List Nat) (w0 w : World) (ok : Nat → Prop) (hB : Below w0.heap.size w0 w) (h : Kd.R bD 3 w w0.heap.size ok v l) (hb : l.length < 1000000000) :
  Calls Tryz.prog 63 #[v] w fun e w' => e = .returned (.tuple #[]) ∧ Kd.R bD 3 w' w0.heap.size (fun _ => True) v l.reverse ∧ Below w0.heap.size w0 w' := by
 obtain ⟨k, hk⟩ := (aqf l hb).rounds;refine (mK.calls k ok v (j5 l) (j5 l.reverse) w0 w hB (afv h) hk).mono ?_;rintro e w' ⟨rfl, hR, hB', _⟩;exact ⟨rfl, Kd.jd (aqd hR) (fun _ _ => trivial), hB'⟩
end Go.Proofs.YtapejnikpmfddaaGreat.X
