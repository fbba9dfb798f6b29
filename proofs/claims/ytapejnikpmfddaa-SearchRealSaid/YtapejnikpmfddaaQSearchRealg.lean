/- A part of the claim SearchReal. -/
import Derived.StillTailTactics
import Derived.Lib.SliceRun
import Derived.Test.YtapejnikpmfddaaQSearchRealf
set_option linter.unusedVariables false
set_option linter.unusedSimpArgs false
set_option maxHeartbeats 8000000
set_option maxRecDepth 100000
namespace Go.Proofs.Ytapejnikpmfddaa.X
open Go.RowKit Go.Proofs.YtapejnikpmfddaaW.PrintWords Go.Proofs.YtapejnikpmfddaaW.PrintLast Go.Proofs.YtapejnikpmfddaaW.PrintMore
open Go.Proofs.Ytapejnikpmfddaa.P Go.Proofs.Ytapejnikpmfddaa.Evx
mutual
theorem rd_all (w0 : World) : ∀ s : S29, RdAt w0 s
 | ⟨op, m, kids⟩ => value_calls w0 ⟨op, m, kids⟩ (rd_kids w0 kids)
theorem rd_kids (w0 : World) : ∀ (l : List S29) (k : S29), k ∈ l → RdAt w0 k
 | [], k, hk => by simp at hk
 | a :: r, k, hk => by
  rcases List.mem_cons.1 hk with h | h
  ·rw [h]
   exact rd_all w0 a
  ·exact rd_kids w0 r k h
end
theorem rdr_new (w W : World) (sv lt : Int) (hB : Below w.heap.size w W) : Rdr w (W.alloc (.cells #[.int .i64 sv, .int .u32 lt, .slice none 0 0, .slice none 0 0] 129)) W.heap.size sv lt [] [] (.slice none 0 0) (.slice none 0 0) :=
 { blk := heap_alloc_new W _, o1 := World.ownsRow_nil _ _ _ _, o2 := World.ownsRow_nil _ _ _ _, ne := .inl rfl, bl := below_alloc hB _, rb0 := hB.size }
theorem read_calls (s : S29) (sv lt : Int) (A : Option Addr) (cp : Nat) (w : World) (hr : Kd.C k29 w A s.f2.length s.f2) (hc : s.f2.length ≤ cp) (hs : soundS s = true) (ht : tnS s ≤ 60) :
  Calls Try.prog 87 #[.agg #[.int .i64 s.f0, .int .i64 s.f1, .slice A s.f2.length cp], .int .i64 sv, .int .u32 lt] w fun e w' => ∃ rb v1 v2, e = .returned (.tuple #[.pointer (some ⟨rb, 0, none⟩), .bool (valS sv lt s 0)]) ∧ Rdr w w' rb sv lt (saidS sv lt s 0) (goodS sv lt s 0) v1 v2 := by
 have huF := Try.underlying29
 have hur := Try.underlying129
 have hR := rdr_new w (w.alloc (.cells #[.int .i64 s.f0, .int .i64 s.f1, .slice A s.f2.length cp] 29)) sv lt (below_alloc (Below.refl _ _) _)
 have hz : (w.alloc (.cells #[.int .i64 s.f0, .int .i64 s.f1, .slice A s.f2.length cp] 29)).heap.size = w.heap.size + 1 := by simp
 rw [hz] at hR
 have HC := Zd.mk (rd_all w s (w.heap.size + 1) sv lt [] [] (.slice none 0 0) (.slice none 0 0) A cp _ hR rfl (by simpa using ht) hr hc hs)
 clear hR hz hr hc hs ht
 go_enter Try.func87, Try.ntmps87
 go_wp2_with (go_at_call 95; refine HC.out.mono ?_; rintro e w1 ⟨rfl, v1, v2, hR, hF⟩; have HR := Zd.mk hR; clear hR hF)
 go_ret2
 exact ⟨w.heap.size + 1, v1, v2, rfl, HR.out⟩
def valueF (s : S29) (sv lt : Int) : Bool := if stateS s sv = true then valS sv lt s 0 else false
theorem Value_calls (s : S29) (sv lt : Int) (A : Option Addr) (cp : Nat) (w : World) (hr : Kd.C k29 w A s.f2.length s.f2) (hc : s.f2.length ≤ cp) :
  Calls Try.prog 62 #[.agg #[.int .i64 s.f0, .int .i64 s.f1, .slice A s.f2.length cp], .int .i64 sv, .int .u32 lt] w fun e w' => e = .returned (.bool (valueF s sv lt)) ∧ Below w.heap.size w w' := by
 have huF := Try.underlying29
 obtain ⟨W1, hW1⟩ : ∃ W1, W1 = w.alloc (.cells #[.int .i64 s.f0, .int .i64 s.f1, .slice A s.f2.length cp] 29) := ⟨_, rfl⟩
 have hB1 : Below w.heap.size w W1 := by rw [hW1]; exact below_alloc (Below.refl _ _) _
 have hbx : W1.heap[w.heap.size]? = some (.cells #[.int .i64 s.f0, .int .i64 s.f1, .slice A s.f2.length cp] 29 (0, 0)) := by rw [hW1]; exact heap_alloc_new w _
 have HBX := Zd.mk hbx
 have HB1 := Zd.mk hB1
 have HR := Zd.mk hr
 have HW1 := Zd.mk hW1
 have x0 : W1.cell? ⟨w.heap.size, 0, none⟩ = some (.int .i64 s.f0) := (bq_ hbx 0).trans rfl
 have x1 : W1.cell? ⟨w.heap.size, 1, none⟩ = some (.int .i64 s.f1) := (bq_ hbx 1).trans rfl
 have x2 : W1.cell? ⟨w.heap.size, 2, none⟩ = some (.slice A s.f2.length cp) := (bq_ hbx 2).trans rfl
 obtain ⟨k1, hk1⟩ := (state_ev s sv).rounds
 have HVF := Zd.mk (show valueF s sv lt = if stateS s sv = true then valS sv lt s 0 else false from rfl)
 have HM := Zd.mk (@state_may s sv)
 have HK1 := Zd.mk hk1
 clear hbx hB1 hr hk1
 cases hst : stateS s sv with
 | false =>
  rw [hst] at HK1 HVF
  have HX := Zd.mk (show valueF s sv lt = false from by rw [HVF.out]; rfl)
  clear hst
  go_enter Try.func62, Try.ntmps62
  go_upto_region 1 with fail
  rw [← hW1]
  clear hW1
  go_wp2_with (go_at_call 86; refine (tableau_state.calls k1 s.f0 s.f1 A cp s.f2 sv false _ (Kd.C_below HR.out HB1.out) hc HK1.out).mono ?_; rintro e w1 ⟨rfl, hB⟩; have HB := Zd.mk hB; clear hB)
  go_ret
  exact ⟨show Ending.returned (.bool false) = _ from by rw [HX.out], HB1.out.trans (HB.out.mono HB1.out.size)⟩
 | true =>
  have hz := may_zero (HM.out hst)
  have HZ := Zd.mk hz
  rw [hst] at HK1 HVF
  have HX := Zd.mk (show valueF s sv lt = valS sv lt s 0 from by rw [HVF.out]; rfl)
  clear hst hz
  go_enter Try.func62, Try.ntmps62
  go_upto_region 1 with fail
  rw [← hW1]
  clear hW1
  go_wp2_with (first | (go_at_call 86; refine (tableau_state.calls k1 s.f0 s.f1 A cp s.f2 sv true _ (Kd.C_below HR.out HB1.out) hc HK1.out).mono ?_; rintro e w1 ⟨rfl, hB⟩; have HB := Zd.mk (HB1.out.trans (hB.mono HB1.out.size)); have HBX1 := Zd.mk ((hB.block _ (blk_lt HBX.out)).trans HBX.out); have y0 := (bq_ HBX1.out 0).trans rfl; have y1 := (bq_ HBX1.out 1).trans rfl; have y2 := (bq_ HBX1.out 2).trans rfl; clear hB) | (go_at_call 87; refine (read_calls s sv lt A cp _ (Kd.C_below HR.out HB.out) hc HZ.out.2.2.2 (by have := HZ.out; omega)).mono ?_; rintro e w2 ⟨rb, v1, v2, rfl, hRd⟩; have HB2 := Zd.mk (HB.out.trans (hRd.bl.mono HB.out.size)); clear hRd))
  go_ret
  exact ⟨show Ending.returned (.bool (valS sv lt s 0)) = _ from by rw [HX.out], HB2.out⟩
def movesL (sv : Int) : List Bool → Nat → Bool
 | [], _ => true
 | b :: r, k => b == bitK sv k && movesL sv r (k + 1)
def goodF (s : S29) (k sv lt : Int) : Bool := stateS s sv && (decide (0 ≤ k) && (decide (k < tnS s) && (goodS sv lt s 0).getD k.toNat false))
theorem Good_calls (s : S29) (k sv lt : Int) (A : Option Addr) (cp : Nat) (w : World) (hr : Kd.C k29 w A s.f2.length s.f2) (hc : s.f2.length ≤ cp) :
  Calls Try.prog 90 #[.agg #[.int .i64 s.f0, .int .i64 s.f1, .slice A s.f2.length cp], .int .i64 k, .int .i64 sv, .int .u32 lt] w fun e w' => e = .returned (.bool (goodF s k sv lt)) ∧ Below w.heap.size w w' := by
 have huF := Try.underlying29
 have hur := Try.underlying129
 have hus := Try.underlying67
 obtain ⟨W1, hW1⟩ : ∃ W1, W1 = w.alloc (.cells #[.int .i64 s.f0, .int .i64 s.f1, .slice A s.f2.length cp] 29) := ⟨_, rfl⟩
 have hB1 : Below w.heap.size w W1 := by rw [hW1]; exact below_alloc (Below.refl _ _) _
 have hbx : W1.heap[w.heap.size]? = some (.cells #[.int .i64 s.f0, .int .i64 s.f1, .slice A s.f2.length cp] 29 (0, 0)) := by rw [hW1]; exact heap_alloc_new w _
 have HBX := Zd.mk hbx
 have HB1 := Zd.mk hB1
 have HR := Zd.mk hr
 have HW1 := Zd.mk hW1
 have x0 : W1.cell? ⟨w.heap.size, 0, none⟩ = some (.int .i64 s.f0) := (bq_ hbx 0).trans rfl
 have x1 : W1.cell? ⟨w.heap.size, 1, none⟩ = some (.int .i64 s.f1) := (bq_ hbx 1).trans rfl
 have x2 : W1.cell? ⟨w.heap.size, 2, none⟩ = some (.slice A s.f2.length cp) := (bq_ hbx 2).trans rfl
 obtain ⟨k1, hk1⟩ := (state_ev s sv).rounds
 have HVF := Zd.mk (show goodF s k sv lt = (stateS s sv && (decide (0 ≤ k) && (decide (k < tnS s) && (goodS sv lt s 0).getD k.toNat false))) from rfl)
 have HM := Zd.mk (@state_may s sv)
 have HK1 := Zd.mk hk1
 clear hbx hB1 hr hk1
 generalize goodF s k sv lt = R at *
 cases hst : stateS s sv with
 | false =>
  rw [hst] at HK1 HVF
  have HX := Zd.mk (show R = false from by rw [HVF.out]; rfl)
  clear hst
  go_enter Try.func90, Try.ntmps90
  go_upto_region 1 with fail
  rw [← hW1]
  clear hW1
  go_wp2_with (go_at_call 86; refine (tableau_state.calls k1 s.f0 s.f1 A cp s.f2 sv false _ (Kd.C_below HR.out HB1.out) hc HK1.out).mono ?_; rintro e w1 ⟨rfl, hB⟩; have HB := Zd.mk hB; clear hB)
  go_ret
  exact ⟨show Ending.returned (.bool false) = _ from by rw [HX.out], HB1.out.trans (HB.out.mono HB1.out.size)⟩
 | true =>
  have HZ := Zd.mk (may_zero (HM.out hst))
  rw [hst] at HK1 HVF
  have HLN := Zd.mk (len_good sv lt s 0)
  have hlz : (goodS sv lt s 0).length ≤ 8 := by rw [len_good]; exact HZ.out.2.2.1
  generalize hl : goodS sv lt s 0 = l at *
  have HLL := Zd.mk hl
  have HX := Zd.mk (show R = (decide (0 ≤ k) && (decide (k < tnS s) && l.getD k.toNat false)) from by rw [HVF.out]; rfl)
  clear hst hl
  go_enter Try.func90, Try.ntmps90
  go_upto_region 1 with fail
  rw [← hW1]
  clear hW1
  go_upto_region 4 with (first | (go_at_call 86; refine (tableau_state.calls k1 s.f0 s.f1 A cp s.f2 sv true _ (Kd.C_below HR.out HB1.out) hc HK1.out).mono ?_; rintro e w1 ⟨rfl, hB⟩; have HB := Zd.mk (HB1.out.trans (hB.mono HB1.out.size)); have HBX1 := Zd.mk ((hB.block _ (blk_lt HBX.out)).trans HBX.out); have y0 := (bq_ HBX1.out 0).trans rfl; have y1 := (bq_ HBX1.out 1).trans rfl; have y2 := (bq_ HBX1.out 2).trans rfl; clear hB) | (go_at_call 87; refine (read_calls s sv lt A cp _ (Kd.C_below HR.out HB.out) hc HZ.out.2.2.2 (by have := HZ.out; omega)).mono ?_; rintro e w2 ⟨rb, v1, v2, rfl, hRd⟩; rw [HLL.out] at hRd; obtain ⟨A2, c2, hvg, hc2⟩ := own_form hRd.o2; subst hvg; have r3 := rdrB_3 hRd.blk; have HB2 := Zd.mk (HB.out.trans (hRd.bl.mono HB.out.size)); have HRd := Zd.mk hRd; clear hRd))
  by_cases h0 : 0 ≤ k
  ·by_cases h1 : k < (l.length : Int)
   ·obtain ⟨j, rfl⟩ := Int.eq_ofNat_of_zero_le h0
    obtain ⟨g1, q1, e1, _, _, p1, f1, _⟩ := own_put HRd.out.o2 (k := j) (by omega)
    injection e1 with e1 _ e3
    subst e1 e3
    have HX2 := Zd.mk (show R = l.getD j false from by rw [HX.out, decide_eq_true h0, decide_eq_true (show (j : Int) < tnS s from by have := HLN.out; omega)]; rfl)
    generalize l.getD j false = b at *
    go_wp2
    go_ret
    exact ⟨by rw [HX2.out]; rfl, HB2.out⟩
   ·have HX2 := Zd.mk (show R = false from by rw [HX.out, decide_eq_false (show ¬ k < tnS s from by have := HLN.out; omega)]; simp)
    go_wp2
    go_ret
    exact ⟨by rw [HX2.out]; rfl, HB2.out⟩
  ·have HX2 := Zd.mk (show R = false from by rw [HX.out, decide_eq_false h0]; simp)
   go_wp2
   go_ret
   exact ⟨by rw [HX2.out]; rfl, HB2.out⟩
end Go.Proofs.Ytapejnikpmfddaa.X
namespace Go.Proofs.Ytapejnikpmfddaa.Sg
inductive Reach (nx : Nat → List Nat) : Nat → Nat → Prop
 | refl (x : Nat) : Reach nx x x
 | step {x y z : Nat} : y ∈ nx x → Reach nx y z → Reach nx x z
section
variable {nx : Nat → List Nat}
theorem Reach.trans {x y z : Nat} (h : Reach nx x y) (k : Reach nx y z) : Reach nx x z := by
 induction h with
 | refl _ => exact k
 | step e _ ih => exact .step e (ih k)
theorem Reach.one {x y : Nat} (h : y ∈ nx x) : Reach nx x y := .step h (.refl _)
theorem Reach.snoc {x y z : Nat} (h : Reach nx x y) (e : z ∈ nx y) : Reach nx x z := h.trans (.one e)
theorem Reach.closed {S : Nat → Prop} (hS : ∀ x, S x → ∀ y ∈ nx x, S y) {x y : Nat} (h : Reach nx x y) (hx : S x) : S y := by
 induction h with
 | refl _ => exact hx
 | step e _ ih => exact ih (hS _ hx _ e)
end
def AccAt (nx : Nat → List Nat) (P : Nat) (good : Nat → Nat → Bool) (x : Nat) : Prop :=
 (∃ y ∈ nx x, Reach nx y x) ∧ ∀ i, i < P → ∃ y, Reach nx x y ∧ Reach nx y x ∧ good i y = true
theorem AccAt.move {nx : Nat → List Nat} {P : Nat} {good : Nat → Nat → Bool} {x z : Nat} (h : AccAt nx P good x) (h1 : Reach nx x z) (h2 : Reach nx z x) : AccAt nx P good z := by
 obtain ⟨⟨y, hy, hyx⟩, hg⟩ := h
 constructor
 ·have hp : Reach nx z x := h2
  cases hp with
  | refl _ => exact ⟨y, hy, hyx⟩
  | step e r => exact ⟨_, e, r.trans h1⟩
 ·intro i hi
  obtain ⟨y, a, b, c⟩ := hg i hi
  exact ⟨y, h2.trans a, b.trans h1, c⟩
structure FS where
 nums : List Nat
 lows : List Nat
 on : List Bool
 met : Nat
 stk : List Nat
 calls : List (Nat × List Nat)
 found : Option (List Bool)
def enterF (nx : Nat → List Nat) (st : FS) (x : Nat) : FS :=
 { st with nums := st.nums.set x (st.met + 1), lows := st.lows.set x (st.met + 1), on := st.on.set x true, met := st.met + 1, stk := x :: st.stk, calls := (x, nx x) :: st.calls }
def popF (x : Nat) : List Nat → List Nat × List Nat
 | [] => ([], [])
 | y :: r => if y = x then ([y], r) else (y :: (popF x r).1, (popF x r).2)
def marks (b : Bool) (l : List Nat) (c : List Bool) : List Bool := l.foldl (fun c y => c.set y b) c
def lowered (st : FS) (x : Nat) : List (Nat × List Nat) → List Nat
 | [] => st.lows
 | (u, _) :: _ => st.lows.set u (min (st.lows.getD u 0) (st.lows.getD x 0))
def leaveF (sett : List Bool → List Nat → Bool) (st : FS) (x : Nat) (cs : List (Nat × List Nat)) : FS :=
 if (lowered st x cs).getD x 0 < st.nums.getD x 0 then { st with lows := lowered st x cs, calls := cs }
 else
  { st with lows := lowered st x cs, calls := cs, stk := (popF x st.stk).2, on := marks false (popF x st.stk).1 st.on, found := if st.found.isNone && sett (marks true (popF x st.stk).1 (List.replicate st.nums.length false)) (popF x st.stk).1 then some (marks true (popF x st.stk).1 (List.replicate st.nums.length false)) else st.found }
def stepF (nx : Nat → List Nat) (sett : List Bool → List Nat → Bool) (st : FS) : FS :=
 match st.calls with
 | [] => st
 | (x, []) :: cs => leaveF sett st x cs
 | (x, y :: r) :: cs =>
  if st.nums.getD y 0 = 0 then enterF nx { st with calls := (x, r) :: cs } y
  else if st.on.getD y false = true then { st with calls := (x, r) :: cs, lows := st.lows.set x (min (st.lows.getD x 0) (st.nums.getD y 0)) }
  else { st with calls := (x, r) :: cs }
def runF (nx : Nat → List Nat) (sett : List Bool → List Nat → Bool) : Nat → FS → FS
 | 0, st => st
 | k + 1, st => if st.calls.isEmpty then st else runF nx sett k (stepF nx sett st)
def degs (nx : Nat → List Nat) (nums : List Nat) : Nat → Nat
 | 0 => 0
 | n + 1 => degs nx nums n + (if nums.getD n 0 = 0 then (nx n).length + 2 else 0)
def left (l : List (Nat × List Nat)) : Nat := (l.map fun c => c.2.length + 1).sum
def mu (nx : Nat → List Nat) (N : Nat) (st : FS) : Nat := degs nx st.nums N + left st.calls
def rootsF (nx : Nat → List Nat) (sett : List Bool → List Nat → Bool) (N : Nat) : List Nat → FS → Option (List Bool)
 | [], _ => none
 | x :: r, st => if 0 < st.nums.getD x 0 then rootsF nx sett N r st else
  match (runF nx sett (mu nx N (enterF nx st x)) (enterF nx st x)).found with
  | some c => some c
  | none => rootsF nx sett N r (runF nx sett (mu nx N (enterF nx st x)) (enterF nx st x))
def fs0 (N : Nat) : FS := ⟨List.replicate N 0, List.replicate N 0, List.replicate N false, 0, [], [], none⟩
def settledF (nx : Nat → List Nat) (sett : List Bool → List Nat → Bool) (N : Nat) (l : List Nat) : Option (List Bool) := rootsF nx sett N l (fs0 N)
end Go.Proofs.Ytapejnikpmfddaa.Sg
namespace Go.Proofs.Ytapejnikpmfddaa.Sg
theorem getD_set {α : Type} (l : List α) (i j : Nat) (a d : α) : (l.set i a).getD j d = if i = j then (if j < l.length then a else d) else l.getD j d := by
 rw [List.getD_eq_getElem?_getD, List.getElem?_set]
 by_cases h : i = j
 ·subst h
  rw [if_pos rfl, if_pos rfl]
  split <;> rfl
 ·rw [if_neg h, if_neg h, List.getD_eq_getElem?_getD]
theorem getD_lt {l : List Nat} {v : Nat} (h : l.getD v 0 ≠ 0) : v < l.length := by
 by_cases hv : v < l.length
 ·exact hv
 ·rw [List.getD_eq_getElem?_getD, List.getElem?_eq_none (by omega)] at h
  exact absurd rfl h
theorem set_other {l : List Nat} {i j : Nat} (a : Nat) (h : j ≠ i) : (l.set i a).getD j 0 = l.getD j 0 := by rw [getD_set, if_neg (Ne.symm h)]
theorem set_same {l : List Nat} {i : Nat} (a : Nat) (h : i < l.length) : (l.set i a).getD i 0 = a := by rw [getD_set, if_pos rfl, if_pos h]
section
variable (nx : Nat → List Nat) (N P : Nat) (good : Nat → Nat → Bool) (frm : List Nat)
structure GoodC (c : List Bool) : Prop where
 len : c.length = N
 lt : ∀ v, c.getD v false = true → v < N
 conn : ∀ a b, c.getD a false = true → c.getD b false = true → Reach nx a b
 full : ∀ a b, c.getD a false = true → Reach nx a b → Reach nx b a → c.getD b false = true
 acc : ∃ a, c.getD a false = true ∧ AccAt nx P good a
 root : ∀ a, c.getD a false = true → ∃ r ∈ frm, Reach nx r a
def Fnd (st : FS) : Prop := match st.found with
 | none => ∀ v, st.nums.getD v 0 ≠ 0 → v ∉ st.stk → ¬ AccAt nx P good v
 | some c => GoodC nx N P good frm c
structure Inv (ex : Nat → Prop) (st : FS) : Prop where
 ln : st.nums.length = N
 ll : st.lows.length = N
 lo : st.on.length = N
 le : ∀ v, st.nums.getD v 0 ≤ st.met
 inj : ∀ v w, st.nums.getD v 0 = st.nums.getD w 0 → st.nums.getD v 0 ≠ 0 → v = w
 on_ : ∀ v, st.on.getD v false = true ↔ v ∈ st.stk
 sv : ∀ v, v ∈ st.stk → st.nums.getD v 0 ≠ 0
 ss : st.stk.Pairwise (fun a b => st.nums.getD b 0 < st.nums.getD a 0)
 cs : ∀ c, c ∈ st.calls.map Prod.fst → c ∈ st.stk
 cp : (st.calls.map Prod.fst).Pairwise (fun a b => st.nums.getD b 0 < st.nums.getD a 0)
 rest : ∀ c, c ∈ st.calls → ∃ pre, nx c.1 = pre ++ c.2 ∧ ∀ z, z ∈ pre → ex z ∨ (st.nums.getD z 0 ≠ 0 ∧ (z ∈ st.stk → st.lows.getD c.1 0 ≤ st.nums.getD z 0))
 fin : ∀ v, st.nums.getD v 0 ≠ 0 → v ∉ st.calls.map Prod.fst → ∀ z, z ∈ nx v → st.nums.getD z 0 ≠ 0
 clo : ∀ v, st.nums.getD v 0 ≠ 0 → v ∉ st.stk → ∀ z, z ∈ nx v → z ∉ st.stk
 up : ∀ c, c ∈ st.calls.map Prod.fst → ∀ y, y ∈ st.stk → st.nums.getD c 0 ≤ st.nums.getD y 0 → Reach nx c y
 down : ∀ y, y ∈ st.stk → ∃ c, c ∈ st.calls.map Prod.fst ∧ st.nums.getD c 0 ≤ st.nums.getD y 0 ∧ Reach nx y c
 l1 : ∀ c, c ∈ st.calls.map Prod.fst → ∃ w, w ∈ st.stk ∧ st.nums.getD w 0 = st.lows.getD c 0 ∧ st.nums.getD w 0 ≤ st.nums.getD c 0 ∧ Reach nx c w
 l2 : ∀ v, v ∈ st.stk → v ∉ st.calls.map Prod.fst → ∀ c, c ∈ st.calls.map Prod.fst → st.nums.getD c 0 ≤ st.nums.getD v 0 → (∀ c', c' ∈ st.calls.map Prod.fst → st.nums.getD c' 0 ≤ st.nums.getD v 0 → st.nums.getD c' 0 ≤ st.nums.getD c 0) → ∀ z, z ∈ nx v → z ∈ st.stk → st.lows.getD c 0 ≤ st.nums.getD z 0
 root : ∀ v, st.nums.getD v 0 ≠ 0 → ∃ r, r ∈ frm ∧ Reach nx r v
 fnd : Fnd nx N P good frm st
end
section
variable {nx : Nat → List Nat} {N P : Nat} {good : Nat → Nat → Bool} {frm : List Nat} {ex : Nat → Prop} {st : FS}
theorem Inv.lt (h : Inv nx N P good frm ex st) {v : Nat} (hv : st.nums.getD v 0 ≠ 0) : v < N := h.ln ▸ getD_lt hv
theorem enter_inv {y : Nat} (h : Inv nx N P good frm ex st) (hex : ∀ z, ex z → z = y) (hy : y < N) (h0 : st.nums.getD y 0 = 0) (hr : ∃ r, r ∈ frm ∧ Reach nx r y) (hc : ∀ c, c ∈ st.calls.map Prod.fst → Reach nx c y) :
  Inv nx N P good frm (fun _ => False) (enterF nx st y) := by
 have hny : y ∉ st.stk := fun hm => h.sv y hm h0
 have nume : ∀ v, (enterF nx st y).nums.getD v 0 = if y = v then st.met + 1 else st.nums.getD v 0 := by
  intro v
  show (st.nums.set y (st.met + 1)).getD v 0 = _
  rw [getD_set]
  by_cases e : y = v
  ·rw [if_pos e, if_pos e, if_pos (by rw [h.ln]; omega)]
  ·rw [if_neg e, if_neg e]
 have lowe : ∀ v, v ≠ y → (enterF nx st y).lows.getD v 0 = st.lows.getD v 0 := fun v hv => set_other _ hv
 have lowy : (enterF nx st y).lows.getD y 0 = st.met + 1 := set_same _ (by rw [h.ll]; exact hy)
 have numo : ∀ v, v ≠ y → (enterF nx st y).nums.getD v 0 = st.nums.getD v 0 := fun v hv => by rw [nume, if_neg (Ne.symm hv)]
 have numy : (enterF nx st y).nums.getD y 0 = st.met + 1 := by rw [nume, if_pos rfl]
 have nums0 : ∀ v, st.nums.getD v 0 ≠ 0 → (enterF nx st y).nums.getD v 0 ≠ 0 := fun v hv => by
  rw [nume]; split <;> omega
 have stne : ∀ v, v ∈ st.stk → v ≠ y := fun v hv e => hny (e ▸ hv)
 have grne : ∀ v, v ∈ st.calls.map Prod.fst → v ≠ y := fun v hv => stne v (h.cs v hv)
 have old : ∀ v, (enterF nx st y).nums.getD v 0 ≠ 0 → v ≠ y → st.nums.getD v 0 ≠ 0 := fun v hv hn => by rwa [numo v hn] at hv
 have hstk : (enterF nx st y).stk = y :: st.stk := rfl
 have hcal : (enterF nx st y).calls.map Prod.fst = y :: st.calls.map Prod.fst := rfl
 constructor
 ·show (st.nums.set _ _).length = N; rw [List.length_set]; exact h.ln
 ·show (st.lows.set _ _).length = N; rw [List.length_set]; exact h.ll
 ·show (st.on.set _ _).length = N; rw [List.length_set]; exact h.lo
 ·intro v
  rw [nume]
  have := h.le v
  show _ ≤ st.met + 1
  split <;> omega
 ·intro v w e hv
  have h1 := h.le v
  have h2 := h.le w
  rw [nume] at e hv
  rw [nume] at e
  by_cases a : y = v <;> by_cases b : y = w
  ·omega
  ·rw [if_pos a, if_neg b] at e; omega
  ·rw [if_neg a, if_pos b] at e; omega
  ·rw [if_neg a, if_neg b] at e
   rw [if_neg a] at hv
   exact h.inj v w e hv
 ·intro v
  show (st.on.set y true).getD v false = true ↔ v ∈ y :: st.stk
  rw [getD_set]
  by_cases e : y = v
  ·rw [if_pos e, if_pos (by rw [h.lo]; omega)]
   simp [e]
  ·rw [if_neg e, h.on_ v, List.mem_cons]
   exact ⟨.inr, fun k => k.resolve_left (fun a => e a.symm)⟩
 ·intro v hv
  rw [hstk] at hv
  rcases List.mem_cons.1 hv with e | e
  ·rw [e, numy]; omega
  ·exact nums0 v (h.sv v e)
 ·rw [hstk]
  refine List.pairwise_cons.2 ⟨fun b hb => ?_, ?_⟩
  ·rw [numy, numo b (stne b hb)]
   have := h.le b
   omega
  ·refine h.ss.imp_of_mem (fun {a b} ha hb hab => ?_)
   rw [numo a (stne a ha), numo b (stne b hb)]
   exact hab
 ·intro c hcm
  rw [hcal] at hcm
  rcases List.mem_cons.1 hcm with e | e
  ·rw [e]; exact List.mem_cons_self ..
  ·exact List.mem_cons_of_mem _ (h.cs c e)
 ·rw [hcal]
  refine List.pairwise_cons.2 ⟨fun b hb => ?_, ?_⟩
  ·rw [numy, numo b (grne b hb)]
   have := h.le b
   omega
  ·refine h.cp.imp_of_mem (fun {a b} ha hb hab => ?_)
   rw [numo a (grne a ha), numo b (grne b hb)]
   exact hab
 ·intro c hcm
  rcases List.mem_cons.1 (show c ∈ (y, nx y) :: st.calls from hcm) with e | e
  ·refine ⟨[], by rw [e]; rfl, fun z hz => by cases hz⟩
  ·obtain ⟨pre, e1, e2⟩ := h.rest c e
   have hcg : c.1 ∈ st.calls.map Prod.fst := List.mem_map_of_mem e
   refine ⟨pre, e1, fun z hz => .inr ?_⟩
   rw [lowe c.1 (grne _ hcg)]
   by_cases hzy : z = y
   ·subst hzy
    rw [numy]
    refine ⟨by omega, fun _ => ?_⟩
    obtain ⟨w, _, w2, w3, _⟩ := h.l1 c.1 hcg
    have := h.le w
    omega
   ·rcases e2 z hz with e3 | ⟨e3, e4⟩
    ·exact absurd (hex z e3) hzy
    ·rw [numo z hzy]
     exact ⟨e3, fun hzs => e4 ((List.mem_cons.1 hzs).resolve_left hzy)⟩
 ·intro v hv hn z hz
  rw [hcal] at hn
  have hvy : v ≠ y := fun e => hn (by rw [e]; exact List.mem_cons_self ..)
  exact nums0 z (h.fin v (old v hv hvy) (fun k => hn (List.mem_cons_of_mem _ k)) z hz)
 ·intro v hv hn z hz
  rw [hstk] at hn ⊢
  have hvy : v ≠ y := fun e => hn (by rw [e]; exact List.mem_cons_self ..)
  have hns : v ∉ st.stk := fun k => hn (List.mem_cons_of_mem _ k)
  have h1 := h.clo v (old v hv hvy) hns z hz
  have h2 := h.fin v (old v hv hvy) (fun k => hns (h.cs v k)) z hz
  intro hm
  rcases List.mem_cons.1 hm with e | e
  ·rw [e] at h2; exact h2 h0
  ·exact h1 e
 ·intro c hcm z hz hle
  rw [hcal] at hcm
  rw [hstk] at hz
  rcases List.mem_cons.1 hcm with e | e
  ·rcases List.mem_cons.1 hz with e' | e'
   ·rw [e, e']; exact .refl _
   ·rw [e, numy, numo z (stne z e')] at hle
    have := h.le z
    omega
  ·rcases List.mem_cons.1 hz with e' | e'
   ·rw [e']; exact hc c e
   ·rw [numo c (grne c e), numo z (stne z e')] at hle
    exact h.up c e z e' hle
 ·intro z hz
  rw [hstk] at hz
  rw [hcal]
  rcases List.mem_cons.1 hz with e | e
  ·exact ⟨y, List.mem_cons_self .., by rw [e]; exact Nat.le_refl _, by rw [e]; exact .refl _⟩
  ·obtain ⟨c, c1, c2, c3⟩ := h.down z e
   exact ⟨c, List.mem_cons_of_mem _ c1, by rw [numo c (grne c c1), numo z (stne z e)]; exact c2, c3⟩
 ·intro c hcm
  rw [hcal] at hcm
  rw [hstk]
  rcases List.mem_cons.1 hcm with e | e
  ·exact ⟨y, List.mem_cons_self .., by rw [e, numy, lowy], by rw [e]; exact Nat.le_refl _, by rw [e]; exact .refl _⟩
  ·obtain ⟨w, w1, w2, w3, w4⟩ := h.l1 c e
   exact ⟨w, List.mem_cons_of_mem _ w1, by rw [numo w (stne w w1), lowe c (grne c e)]; exact w2, by rw [numo w (stne w w1), numo c (grne c e)]; exact w3, w4⟩
 ·intro v hv hn c hcm hle hmax z hz hzs
  rw [hstk] at hv hzs
  rw [hcal] at hn hcm hmax
  have hvy : v ≠ y := fun e => hn (by rw [e]; exact List.mem_cons_self ..)
  have hvs := (List.mem_cons.1 hv).resolve_left hvy
  have hvg : v ∉ st.calls.map Prod.fst := fun k => hn (List.mem_cons_of_mem _ k)
  have hcy : c ≠ y := fun e => by
   rw [e, numy, numo v hvy] at hle
   have := h.le v
   omega
  have hcg := (List.mem_cons.1 hcm).resolve_left hcy
  have hzv := h.fin v (h.sv v hvs) hvg z hz
  have hzy : z ≠ y := fun e => hzv (by rw [e]; exact h0)
  rw [lowe c hcy, numo z hzy]
  rw [numo c hcy, numo v hvy] at hle
  refine h.l2 v hvs hvg c hcg hle (fun c' hc' hle' => ?_) z hz ((List.mem_cons.1 hzs).resolve_left hzy)
  have := hmax c' (List.mem_cons_of_mem _ hc') (by rw [numo c' (grne c' hc'), numo v hvy]; exact hle')
  rwa [numo c' (grne c' hc'), numo c hcy] at this
 ·intro v hv
  by_cases hvy : v = y
  ·rw [hvy]; exact hr
  ·exact h.root v (old v hv hvy)
 ·have hf := h.fnd
  unfold Fnd at hf ⊢
  show match st.found with
   | none => _
   | some c => _
  cases hfo : st.found with
  | some c => rw [hfo] at hf; exact hf
  | none =>
   rw [hfo] at hf
   intro v hv hn
   rw [hstk] at hn
   have hvy : v ≠ y := fun e => hn (by rw [e]; exact List.mem_cons_self ..)
   exact hf v (old v hv hvy) (fun k => hn (List.mem_cons_of_mem _ k))
end
end Go.Proofs.Ytapejnikpmfddaa.Sg
namespace Go.Proofs.Ytapejnikpmfddaa.Sg
section
variable {nx : Nat → List Nat} {N P : Nat} {good : Nat → Nat → Bool} {frm : List Nat} {st : FS}
theorem Inv.top {x : Nat} {r : List Nat} {cs : List (Nat × List Nat)} {ex : Nat → Prop} (h : Inv nx N P good frm ex st) (hc : st.calls = (x, r) :: cs) : ∀ c, c ∈ st.calls.map Prod.fst → st.nums.getD c 0 ≤ st.nums.getD x 0 := by
 have hp := h.cp
 rw [hc] at hp ⊢
 intro c hm
 rcases List.mem_cons.1 (show c ∈ x :: cs.map Prod.fst from hm) with e | e
 ·rw [e]; exact Nat.le_refl _
 ·exact Nat.le_of_lt ((List.pairwise_cons.1 hp).1 c e)
theorem Inv.reachTop {x : Nat} {r : List Nat} {cs : List (Nat × List Nat)} {ex : Nat → Prop} (h : Inv nx N P good frm ex st) (hc : st.calls = (x, r) :: cs) : ∀ c, c ∈ st.calls.map Prod.fst → Reach nx c x := fun c hm =>
 h.up c hm x (h.cs x (by rw [hc]; exact List.mem_cons_self ..)) (h.top hc c hm)
theorem shift_inv {x y : Nat} {r : List Nat} {cs : List (Nat × List Nat)} (h : Inv nx N P good frm (fun _ => False) st) (hc : st.calls = (x, y :: r) :: cs) (ex : Nat → Prop) (hy : ex y ∨ (st.nums.getD y 0 ≠ 0 ∧ (y ∈ st.stk → st.lows.getD x 0 ≤ st.nums.getD y 0))) :
  Inv nx N P good frm ex { st with calls := (x, r) :: cs } := by
 have hg : ({ st with calls := (x, r) :: cs } : FS).calls.map Prod.fst = st.calls.map Prod.fst := by rw [hc]; rfl
 constructor
 ·exact h.ln
 ·exact h.ll
 ·exact h.lo
 ·exact h.le
 ·exact h.inj
 ·exact h.on_
 ·exact h.sv
 ·exact h.ss
 ·rw [hg]; exact h.cs
 ·rw [hg]; exact h.cp
 ·intro c hm
  rcases List.mem_cons.1 (show c ∈ (x, r) :: cs from hm) with e | e
  ·obtain ⟨pre, e1, e2⟩ := h.rest (x, y :: r) (by rw [hc]; exact List.mem_cons_self ..)
   rw [e]
   refine ⟨pre ++ [y], by rw [e1]; simp, fun z hz => ?_⟩
   rcases List.mem_append.1 hz with hz | hz
   ·exact .inr ((e2 z hz).resolve_left (fun k => k))
   ·rw [List.mem_singleton.1 hz]; exact hy
  ·obtain ⟨pre, e1, e2⟩ := h.rest c (by rw [hc]; exact List.mem_cons_of_mem _ e)
   exact ⟨pre, e1, fun z hz => .inr ((e2 z hz).resolve_left (fun k => k))⟩
 ·rw [hg]; exact h.fin
 ·exact h.clo
 ·rw [hg]; exact h.up
 ·rw [hg]; exact h.down
 ·rw [hg]; exact h.l1
 ·rw [hg]; exact h.l2
 ·exact h.root
 ·exact h.fnd
theorem lower_inv {x y m : Nat} {ex : Nat → Prop} (h : Inv nx N P good frm ex st) (hx : x ∈ st.calls.map Prod.fst) (hy : y ∈ st.stk) (hr : Reach nx x y) (hm : m = min (st.lows.getD x 0) (st.nums.getD y 0)) :
  Inv nx N P good frm ex { st with lows := st.lows.set x m } := by
 have hxl : x < st.lows.length := by rw [h.ll]; exact h.lt (h.sv x (h.cs x hx))
 have hle : ∀ c, (st.lows.set x m).getD c 0 ≤ st.lows.getD c 0 := by
  intro c
  by_cases e : c = x
  ·rw [e, set_same _ hxl]; omega
  ·rw [set_other _ e]; exact Nat.le_refl _
 constructor
 ·exact h.ln
 ·show (st.lows.set _ _).length = N; rw [List.length_set]; exact h.ll
 ·exact h.lo
 ·exact h.le
 ·exact h.inj
 ·exact h.on_
 ·exact h.sv
 ·exact h.ss
 ·exact h.cs
 ·exact h.cp
 ·intro c hc
  obtain ⟨pre, e1, e2⟩ := h.rest c hc
  refine ⟨pre, e1, fun z hz => ?_⟩
  rcases e2 z hz with e3 | ⟨e3, e4⟩
  ·exact .inl e3
  ·exact .inr ⟨e3, fun k => Nat.le_trans (hle c.1) (e4 k)⟩
 ·exact h.fin
 ·exact h.clo
 ·exact h.up
 ·exact h.down
 ·intro c hc
  show ∃ w, w ∈ st.stk ∧ st.nums.getD w 0 = (st.lows.set x m).getD c 0 ∧ _
  obtain ⟨w, w1, w2, w3, w4⟩ := h.l1 c hc
  by_cases e : c = x
  ·rw [e, set_same _ hxl]
   rw [e] at w2 w3 w4
   by_cases hlt : st.nums.getD y 0 < st.lows.getD x 0
   ·exact ⟨y, hy, by omega, by show st.nums.getD y 0 ≤ st.nums.getD x 0; omega, hr⟩
   ·exact ⟨w, w1, by omega, w3, w4⟩
  ·rw [set_other _ e]
   exact ⟨w, w1, w2, w3, w4⟩
 ·intro v hv hn c hc h1 h2 z hz hzs
  exact Nat.le_trans (hle c) (h.l2 v hv hn c hc h1 h2 z hz hzs)
 ·exact h.root
 ·exact h.fnd
theorem pop_parts (x : Nat) : ∀ (l : List Nat), x ∈ l → ∃ T R, popF x l = (T ++ [x], R) ∧ l = T ++ x :: R ∧ x ∉ T
 | y :: r, h => by
  unfold popF
  by_cases e : y = x
  ·rw [if_pos e]
   exact ⟨[], r, by simp [e], by rw [e]; rfl, by simp⟩
  ·rw [if_neg e]
   obtain ⟨T, R, e1, e2, e3⟩ := pop_parts x r ((List.mem_cons.1 h).resolve_left (Ne.symm e))
   refine ⟨y :: T, R, by rw [e1]; rfl, by rw [e2]; rfl, ?_⟩
   intro k
   rcases List.mem_cons.1 k with k | k
   ·exact e k.symm
   ·exact e3 k
theorem marks_get (b : Bool) : ∀ (l : List Nat) (c : List Bool) (v : Nat), v < c.length → (marks b l c).getD v false = if v ∈ l then b else c.getD v false
 | [], c, v, h => by simp [marks]
 | y :: r, c, v, h => by
  show (marks b r (c.set y b)).getD v false = _
  rw [marks_get b r (c.set y b) v (by rw [List.length_set]; exact h), getD_set]
  by_cases e : y = v
  ·subst e
   rw [if_pos rfl, if_pos h, if_pos (List.mem_cons_self ..)]
   split <;> rfl
  ·rw [if_neg e]
   by_cases k : v ∈ r
   ·rw [if_pos k, if_pos (List.mem_cons_of_mem _ k)]
   ·rw [if_neg k, if_neg (fun a => (List.mem_cons.1 a).elim (fun q => e q.symm) k)]
theorem marks_len (b : Bool) : ∀ (l : List Nat) (c : List Bool), (marks b l c).length = c.length
 | [], c => rfl
 | y :: r, c => by
  show (marks b r (c.set y b)).length = _
  rw [marks_len b r, List.length_set]
theorem marks_none {b : Bool} {l : List Nat} {c : List Bool} {v : Nat} (h : ¬ v < c.length) : (marks b l c).getD v false = false := by
 rw [List.getD_eq_getElem?_getD, List.getElem?_eq_none (by rw [marks_len]; omega)]; rfl
def settF (nx : Nat → List Nat) (P : Nat) (good : Nat → Nat → Bool) (c : List Bool) (all : List Nat) : Bool :=
 !((nx (all.headD 0)).filter fun y => c.getD y false).isEmpty && (List.range P).all fun i => all.any fun x => good i x
end
end Go.Proofs.Ytapejnikpmfddaa.Sg
namespace Go.Proofs.Ytapejnikpmfddaa.Sg
section
variable {nx : Nat → List Nat} {N P : Nat} {good : Nat → Nat → Bool} {frm : List Nat} {st : FS}
theorem lowered_len (st : FS) (x : Nat) (cs : List (Nat × List Nat)) : (lowered st x cs).length = st.lows.length := by
 match cs with
 | [] => rfl
 | (u, _) :: _ => exact List.length_set ..
theorem lowered_le (st : FS) (x : Nat) (cs : List (Nat × List Nat)) (v : Nat) (hu : ∀ u r cs', cs = (u, r) :: cs' → u < st.lows.length) : (lowered st x cs).getD v 0 ≤ st.lows.getD v 0 := by
 match cs with
 | [] => exact Nat.le_refl _
 | (u, r) :: cs' =>
  show (st.lows.set u _).getD v 0 ≤ _
  by_cases e : v = u
  ·rw [e, set_same _ (hu u r cs' rfl)]; omega
  ·rw [set_other _ e]; exact Nat.le_refl _
theorem leaveA_inv {x : Nat} {cs : List (Nat × List Nat)} (h : Inv nx N P good frm (fun _ => False) st) (hc : st.calls = (x, []) :: cs) (hl : st.lows.getD x 0 < st.nums.getD x 0) :
  Inv nx N P good frm (fun _ => False) { st with lows := lowered st x cs, calls := cs } := by
 have hg : st.calls.map Prod.fst = x :: cs.map Prod.fst := by rw [hc]; rfl
 have hcp := h.cp
 rw [hg] at hcp
 have hcp1 := (List.pairwise_cons.1 hcp).1
 have hcp2 := (List.pairwise_cons.1 hcp).2
 have hxg : x ∈ st.calls.map Prod.fst := by rw [hg]; exact List.mem_cons_self ..
 have hxs := h.cs x hxg
 have mem : ∀ c, c ∈ cs.map Prod.fst → c ∈ st.calls.map Prod.fst := fun c k => by rw [hg]; exact List.mem_cons_of_mem _ k
 have hur : ∀ u r cs', cs = (u, r) :: cs' → u < st.lows.length := fun u r cs' e => by
  rw [h.ll]
  exact h.lt (h.sv u (h.cs u (mem u (by rw [e]; exact List.mem_cons_self ..))))
 have hle := fun v => lowered_le st x cs v hur
 obtain ⟨w, w1, w2, w3, w4⟩ := h.l1 x hxg
 obtain ⟨c', d1, d2, d3⟩ := h.down w w1
 have hcx : c' ≠ x := fun e => by rw [e] at d2; omega
 have hc' : c' ∈ cs.map Prod.fst := by
  rw [hg] at d1
  exact (List.mem_cons.1 d1).resolve_left hcx
 obtain ⟨⟨u, ru⟩, cs', rfl⟩ : ∃ q q', cs = q :: q' := by
  match cs, hc' with
  | q :: q', _ => exact ⟨q, q', rfl⟩
 have hug : u ∈ ((u, ru) :: cs').map Prod.fst := List.mem_cons_self ..
 have hul := hur u ru cs' rfl
 have hux : st.nums.getD u 0 < st.nums.getD x 0 := hcp1 u hug
 have lu : (lowered st x ((u, ru) :: cs')).getD u 0 = min (st.lows.getD u 0) (st.lows.getD x 0) := set_same _ hul
 have lo : ∀ v, v ≠ u → (lowered st x ((u, ru) :: cs')).getD v 0 = st.lows.getD v 0 := fun v hv => set_other _ hv
 have umax : ∀ c, c ∈ ((u, ru) :: cs').map Prod.fst → st.nums.getD c 0 ≤ st.nums.getD u 0 := fun c hm => by
  rcases List.mem_cons.1 hm with e | e
  ·rw [e]; exact Nat.le_refl _
  ·exact Nat.le_of_lt ((List.pairwise_cons.1 hcp2).1 c e)
 constructor
 ·exact h.ln
 ·exact (lowered_len st x ((u, ru) :: cs')).trans h.ll
 ·exact h.lo
 ·exact h.le
 ·exact h.inj
 ·exact h.on_
 ·exact h.sv
 ·exact h.ss
 ·exact fun c k => h.cs c (mem c k)
 ·exact hcp2
 ·intro c hm
  obtain ⟨pre, e1, e2⟩ := h.rest c (by rw [hc]; exact List.mem_cons_of_mem _ hm)
  refine ⟨pre, e1, fun z hz => ?_⟩
  rcases e2 z hz with e3 | ⟨e3, e4⟩
  ·exact .inl e3
  ·exact .inr ⟨e3, fun k => Nat.le_trans (hle c.1) (e4 k)⟩
 ·intro v hv hn z hz
  by_cases e : v = x
  ·obtain ⟨pre, e1, e2⟩ := h.rest (x, []) (by rw [hc]; exact List.mem_cons_self ..)
   rw [e] at hz
   rw [show nx x = pre from by rw [← List.append_nil pre]; exact e1] at hz
   exact ((e2 z hz).resolve_left (fun k => k)).1
  ·exact h.fin v hv (fun k => by rw [hg] at k; exact (List.mem_cons.1 k).elim e hn) z hz
 ·exact h.clo
 ·exact fun c k => h.up c (mem c k)
 ·intro y hy
  obtain ⟨c, c1, c2, c3⟩ := h.down y hy
  by_cases e : c = x
  ·rw [e] at c2 c3
   exact ⟨c', hc', by show st.nums.getD c' 0 ≤ st.nums.getD y 0; omega, c3.trans (w4.trans d3)⟩
  ·rw [hg] at c1
   exact ⟨c, (List.mem_cons.1 c1).resolve_left e, c2, c3⟩
 ·intro c hm
  show ∃ w, w ∈ st.stk ∧ st.nums.getD w 0 = (lowered st x ((u, ru) :: cs')).getD c 0 ∧ _
  obtain ⟨w', a1, a2, a3, a4⟩ := h.l1 c (mem c hm)
  by_cases e : c = u
  ·rw [e, lu]
   rw [e] at a2 a3 a4
   by_cases hlt : st.lows.getD x 0 < st.lows.getD u 0
   ·exact ⟨w, w1, by omega, by show st.nums.getD w 0 ≤ st.nums.getD u 0; omega, (h.up u (mem u hug) x hxs (Nat.le_of_lt hux)).trans w4⟩
   ·exact ⟨w', a1, by omega, a3, a4⟩
  ·rw [lo c e]
   exact ⟨w', a1, a2, a3, a4⟩
 ·intro v hv hn c hm h1 h2 z hz hzs
  by_cases e : v = x
  ·have hcu : c = u := by
    have a := h2 u hug (by rw [e]; exact Nat.le_of_lt hux)
    have b := umax c hm
    exact h.inj c u (Nat.le_antisymm b a) (h.sv c (h.cs c (mem c hm)))
   obtain ⟨pre, e1, e2⟩ := h.rest (x, []) (by rw [hc]; exact List.mem_cons_self ..)
   rw [e] at hz
   rw [show nx x = pre from by rw [← List.append_nil pre]; exact e1] at hz
   have := ((e2 z hz).resolve_left (fun k => k)).2 hzs
   show (lowered st x ((u, ru) :: cs')).getD c 0 ≤ st.nums.getD z 0
   rw [hcu, lu]
   simp only at this
   omega
  ·have hno : v ∉ st.calls.map Prod.fst := fun k => by rw [hg] at k; exact (List.mem_cons.1 k).elim e hn
   by_cases hxv : st.nums.getD x 0 ≤ st.nums.getD v 0
   ·have := h.l2 v hv hno x hxg hxv (fun c' k _ => h.top hc c' k) z hz hzs
    have hcu : c = u := by
     have a := h2 u hug (Nat.le_trans (Nat.le_of_lt hux) hxv)
     have b := umax c hm
     exact h.inj c u (Nat.le_antisymm b a) (h.sv c (h.cs c (mem c hm)))
    show (lowered st x ((u, ru) :: cs')).getD c 0 ≤ st.nums.getD z 0
    rw [hcu, lu]
    omega
   ·have := h.l2 v hv hno c (mem c hm) h1 (fun c' k k' => by
     rw [hg] at k
     rcases List.mem_cons.1 k with e' | e'
     ·rw [e'] at k'; exact absurd k' hxv
     ·exact h2 c' e' k') z hz hzs
    exact Nat.le_trans (hle c) this
 ·exact h.root
 ·exact h.fnd
theorem leaveB_inv {x : Nat} {cs : List (Nat × List Nat)} (h : Inv nx N P good frm (fun _ => False) st) (hc : st.calls = (x, []) :: cs) (hl : ¬ st.lows.getD x 0 < st.nums.getD x 0) :
  Inv nx N P good frm (fun _ => False) { st with lows := lowered st x cs, calls := cs, stk := (popF x st.stk).2, on := marks false (popF x st.stk).1 st.on, found := if st.found.isNone && settF nx P good (marks true (popF x st.stk).1 (List.replicate st.nums.length false)) (popF x st.stk).1 then some (marks true (popF x st.stk).1 (List.replicate st.nums.length false)) else st.found } := by
 have hg : st.calls.map Prod.fst = x :: cs.map Prod.fst := by rw [hc]; rfl
 have hcp := h.cp
 rw [hg] at hcp
 have hcp1 := (List.pairwise_cons.1 hcp).1
 have hcp2 := (List.pairwise_cons.1 hcp).2
 have hxg : x ∈ st.calls.map Prod.fst := by rw [hg]; exact List.mem_cons_self ..
 have hxs := h.cs x hxg
 have mem : ∀ c, c ∈ cs.map Prod.fst → c ∈ st.calls.map Prod.fst := fun c k => by rw [hg]; exact List.mem_cons_of_mem _ k
 have hur : ∀ u r cs', cs = (u, r) :: cs' → u < st.lows.length := fun u r cs' e => by
  rw [h.ll]
  exact h.lt (h.sv u (h.cs u (mem u (by rw [e]; exact List.mem_cons_self ..))))
 have hle := fun v => lowered_le st x cs v hur
 obtain ⟨w, w1, w2, w3, w4⟩ := h.l1 x hxg
 have hlx : st.lows.getD x 0 = st.nums.getD x 0 := by omega
 -- the low numbers of what is left are as they were
 have hsame : ∀ c, c ∈ cs.map Prod.fst → (lowered st x cs).getD c 0 = st.lows.getD c 0 := by
  intro c hm
  match cs, hm, hur, hcp1, mem with
  | (u, ru) :: cs', hm, hur, hcp1, mem =>
   show (st.lows.set u _).getD c 0 = _
   by_cases e : c = u
   ·rw [e, set_same _ (hur u ru cs' rfl)]
    obtain ⟨w', _, a2, a3, _⟩ := h.l1 u (mem u (List.mem_cons_self ..))
    have := hcp1 u (List.mem_cons_self ..)
    omega
   ·rw [set_other _ e]
 obtain ⟨T, R, hp, hsplit, hxT⟩ := pop_parts x st.stk hxs
 have hss := h.ss
 rw [hsplit] at hss
 have hss1 := List.pairwise_append.1 hss
 have hRlt : ∀ y, y ∈ R → st.nums.getD y 0 < st.nums.getD x 0 := fun y hy => (List.pairwise_cons.1 hss1.2.1).1 y hy
 have hTgt : ∀ y, y ∈ T → st.nums.getD x 0 < st.nums.getD y 0 := fun y hy => hss1.2.2 y hy x (List.mem_cons_self ..)
 have hTle : ∀ y, y ∈ T ++ [x] → st.nums.getD x 0 ≤ st.nums.getD y 0 := fun y hy => by
  rcases List.mem_append.1 hy with k | k
  ·exact Nat.le_of_lt (hTgt y k)
  ·rw [List.mem_singleton.1 k]; exact Nat.le_refl _
 have hTs : ∀ y, y ∈ T ++ [x] → y ∈ st.stk := fun y hy => by
  rw [hsplit]
  rcases List.mem_append.1 hy with k | k
  ·exact List.mem_append_left _ k
  ·rw [List.mem_singleton.1 k]; exact List.mem_append_right _ (List.mem_cons_self ..)
 have hRs : ∀ y, y ∈ R → y ∈ st.stk := fun y hy => by rw [hsplit]; exact List.mem_append_right _ (List.mem_cons_of_mem _ hy)
 have hTR : ∀ y, y ∈ st.stk → y ∈ T ++ [x] ∨ y ∈ R := fun y hy => by
  rw [hsplit] at hy
  rcases List.mem_append.1 hy with k | k
  ·exact .inl (List.mem_append_left _ k)
  ·rcases List.mem_cons.1 k with e | e
   ·exact .inl (List.mem_append_right _ (by rw [e]; exact List.mem_singleton.2 rfl))
   ·exact .inr e
 have hdis : ∀ y, y ∈ T ++ [x] → y ∉ R := fun y a b => by have := hTle y a; have := hRlt y b; omega
 have hp1 : (popF x st.stk).1 = T ++ [x] := by rw [hp]
 have hp2 : (popF x st.stk).2 = R := by rw [hp]
 have csR : ∀ c, c ∈ cs.map Prod.fst → c ∈ R := fun c k => by
  rcases hTR c (h.cs c (mem c k)) with a | a
  ·have := hTle c a
   have := hcp1 c k
   omega
  ·exact a
 have restx : ∀ z, z ∈ nx x → st.nums.getD z 0 ≠ 0 ∧ (z ∈ st.stk → st.lows.getD x 0 ≤ st.nums.getD z 0) := fun z hz => by
  obtain ⟨pre, e1, e2⟩ := h.rest (x, []) (by rw [hc]; exact List.mem_cons_self ..)
  rw [show nx x = pre from by rw [← List.append_nil pre]; exact e1] at hz
  exact (e2 z hz).resolve_left (fun k => k)
 have fin' : ∀ v, st.nums.getD v 0 ≠ 0 → v ∉ cs.map Prod.fst → ∀ z, z ∈ nx v → st.nums.getD z 0 ≠ 0 := by
  intro v hv hn z hz
  by_cases e : v = x
  ·rw [e] at hz; exact (restx z hz).1
  ·exact h.fin v hv (fun k => by rw [hg] at k; exact (List.mem_cons.1 k).elim e hn) z hz
 have clo' : ∀ v, st.nums.getD v 0 ≠ 0 → v ∉ R → ∀ z, z ∈ nx v → z ∉ R := by
  intro v hv hn z hz hzR
  by_cases hvs : v ∈ st.stk
  ·have hvT := (hTR v hvs).resolve_right hn
   by_cases e : v = x
   ·rw [e] at hz
    have := (restx z hz).2 (hRs z hzR)
    have := hRlt z hzR
    omega
   ·have hvT' : v ∈ T := by
     rcases List.mem_append.1 hvT with k | k
     ·exact k
     ·exact absurd (List.mem_singleton.1 k) e
    have hng : v ∉ st.calls.map Prod.fst := fun k => by
     have := h.top hc v k
     have := hTgt v hvT'
     omega
    have := h.l2 v hvs hng x hxg (Nat.le_of_lt (hTgt v hvT')) (fun c' k _ => h.top hc c' k) z hz (hRs z hzR)
    have := hRlt z hzR
    omega
  ·exact h.clo v hv hvs z hz (hRs z hzR)
 have hreach : ∀ a, a ∈ T ++ [x] → Reach nx x a ∧ Reach nx a x := by
  intro a ha
  refine ⟨h.up x hxg a (hTs a ha) (hTle a ha), ?_⟩
  obtain ⟨c, c1, c2, c3⟩ := h.down a (hTs a ha)
  exact c3.trans (h.reachTop hc c c1)
 have hnT : ∀ y, y ∈ T ++ [x] → st.nums.getD y 0 ≠ 0 := fun y k => h.sv y (hTs y k)
 -- what goes round with the component lies in it
 have hmax : ∀ a b, a ∈ T ++ [x] → Reach nx a b → Reach nx b a → b ∈ T ++ [x] := by
  intro a b ha hab hba
  have hS : ∀ v, (st.nums.getD v 0 ≠ 0 ∧ v ∉ R) → ∀ z, z ∈ nx v → (st.nums.getD z 0 ≠ 0 ∧ z ∉ R) := fun v hv z hz =>
   ⟨fin' v hv.1 (fun k => hv.2 (csR v k)) z hz, clo' v hv.1 hv.2 z hz⟩
  obtain ⟨b1, b2⟩ := hab.closed hS ⟨hnT a ha, hdis a ha⟩
  by_cases hbs : b ∈ st.stk
  ·exact (hTR b hbs).resolve_right b2
  ·have hS0 : ∀ v, (st.nums.getD v 0 ≠ 0 ∧ v ∉ st.stk) → ∀ z, z ∈ nx v → (st.nums.getD z 0 ≠ 0 ∧ z ∉ st.stk) := fun v hv z hz =>
    ⟨h.fin v hv.1 (fun k => hv.2 (h.cs v k)) z hz, h.clo v hv.1 hv.2 z hz⟩
   exact absurd (hTs a ha) (hba.closed hS0 ⟨b1, hbs⟩).2
 have hTN : ∀ v, v ∈ T ++ [x] → v < N := fun v k => h.lt (hnT v k)
 have hcget : ∀ v, (marks true (T ++ [x]) (List.replicate st.nums.length false)).getD v false = true ↔ v ∈ T ++ [x] := by
  intro v
  by_cases hv : v < N
  ·rw [marks_get true _ _ v (by rw [List.length_replicate, h.ln]; exact hv)]
   by_cases k : v ∈ T ++ [x]
   ·rw [if_pos k]
    exact ⟨fun _ => k, fun _ => rfl⟩
   ·rw [if_neg k]
    simp only [k, iff_false]
    rw [List.getD_eq_getElem?_getD, List.getElem?_replicate]
    split <;> simp
  ·rw [marks_none (by rw [List.length_replicate, h.ln]; exact hv)]
   simp only [Bool.false_eq_true, false_iff]
   exact fun k => hv (hTN v k)
 rw [hp1, hp2]
 -- the head of what was taken off
 obtain ⟨hd, tl, hhd⟩ : ∃ hd tl, T ++ [x] = hd :: tl := by
  match T with
  | [] => exact ⟨x, [], rfl⟩
  | a :: r => exact ⟨a, r ++ [x], rfl⟩
 have hdT : hd ∈ T ++ [x] := by rw [hhd]; exact List.mem_cons_self ..
 have hsett : settF nx P good (marks true (T ++ [x]) (List.replicate st.nums.length false)) (T ++ [x]) = true ↔ AccAt nx P good x := by
  have hdx := hreach hd hdT
  have hhdD : (T ++ [x]).headD 0 = hd := by rw [hhd]; rfl
  unfold settF
  rw [hhdD, Bool.and_eq_true, Bool.not_eq_true', List.isEmpty_eq_false_iff, List.all_eq_true]
  constructor
  ·rintro ⟨e1, e2⟩
   obtain ⟨y, hy⟩ := List.exists_mem_of_ne_nil _ e1
   rw [List.mem_filter] at hy
   have hyT := (hcget y).1 hy.2
   refine AccAt.move (x := hd) ⟨⟨y, hy.1, (hreach y hyT).2.trans hdx.1⟩, fun i hi => ?_⟩ hdx.2 hdx.1
   have := e2 i (List.mem_range.2 hi)
   rw [List.any_eq_true] at this
   obtain ⟨z, z1, z2⟩ := this
   exact ⟨z, hdx.2.trans (hreach z z1).1, (hreach z z1).2.trans hdx.1, z2⟩
  ·intro hacc
   have ha := hacc.move hdx.1 hdx.2
   obtain ⟨⟨y, hy, hyr⟩, hgd⟩ := ha
   constructor
   ·have hyT := hmax hd y hdT (.one hy) hyr
    exact List.ne_nil_of_mem (List.mem_filter.2 ⟨hy, (hcget y).2 hyT⟩)
   ·intro i hi
    obtain ⟨z, z1, z2, z3⟩ := hgd i (List.mem_range.1 hi)
    rw [List.any_eq_true]
    exact ⟨z, hmax hd z hdT z1 z2, z3⟩
 constructor
 ·exact h.ln
 ·exact (lowered_len st x _).trans h.ll
 ·show (marks _ _ _).length = N; rw [marks_len]; exact h.lo
 ·exact h.le
 ·exact h.inj
 ·intro v
  show (marks false (T ++ [x]) st.on).getD v false = true ↔ v ∈ R
  by_cases hv : v < N
  ·rw [marks_get false _ _ v (by rw [h.lo]; exact hv)]
   by_cases k : v ∈ T ++ [x]
   ·rw [if_pos k]
    simp only [Bool.false_eq_true, false_iff]
    exact hdis v k
   ·rw [if_neg k, h.on_ v]
    exact ⟨fun a => (hTR v a).resolve_left k, fun a => hRs v a⟩
  ·rw [marks_none (by rw [h.lo]; exact hv)]
   simp only [Bool.false_eq_true, false_iff]
   exact fun k => hv (h.lt (h.sv v (hRs v k)))
 ·exact fun v k => h.sv v (hRs v k)
 ·exact (List.pairwise_cons.1 hss1.2.1).2
 ·exact csR
 ·exact hcp2
 ·intro c hm
  obtain ⟨pre, e1, e2⟩ := h.rest c (by rw [hc]; exact List.mem_cons_of_mem _ hm)
  refine ⟨pre, e1, fun z hz => ?_⟩
  rcases e2 z hz with e3 | ⟨e3, e4⟩
  ·exact .inl e3
  ·exact .inr ⟨e3, fun k => Nat.le_trans (hle c.1) (e4 (hRs z k))⟩
 ·exact fin'
 ·exact clo'
 ·exact fun c k y hy => h.up c (mem c k) y (hRs y hy)
 ·intro y hy
  obtain ⟨c, c1, c2, c3⟩ := h.down y (hRs y hy)
  rw [hg] at c1
  refine ⟨c, (List.mem_cons.1 c1).resolve_left (fun e => ?_), c2, c3⟩
  rw [e] at c2
  have := hRlt y hy
  omega
 ·intro c hm
  show ∃ w, w ∈ R ∧ st.nums.getD w 0 = (lowered st x cs).getD c 0 ∧ _
  obtain ⟨w', a1, a2, a3, a4⟩ := h.l1 c (mem c hm)
  rw [hsame c hm]
  refine ⟨w', (hTR w' a1).resolve_left (fun k => ?_), a2, a3, a4⟩
  have := hTle w' k
  have := hcp1 c hm
  omega
 ·intro v hv hn c hm h1 h2 z hz hzs
  show (lowered st x cs).getD c 0 ≤ _
  rw [hsame c hm]
  have hvx := hRlt v hv
  have hno : v ∉ st.calls.map Prod.fst := fun k => by
   rw [hg] at k
   exact (List.mem_cons.1 k).elim (fun e => by rw [e] at hvx; omega) hn
  refine h.l2 v (hRs v hv) hno c (mem c hm) h1 (fun c' k k' => ?_) z hz (hRs z hzs)
  rw [hg] at k
  rcases List.mem_cons.1 k with e' | e'
  ·rw [e'] at k'; omega
  ·exact h2 c' e' k'
 ·exact h.root
 ·have hf := h.fnd
  unfold Fnd at hf ⊢
  simp only
  cases hfo : st.found with
  | some c => rw [hfo] at hf; simpa using hf
  | none =>
   rw [hfo] at hf
   simp only [Option.isNone_none, Bool.true_and]
   by_cases hs : settF nx P good (marks true (T ++ [x]) (List.replicate st.nums.length false)) (T ++ [x]) = true
   ·rw [if_pos hs]
    have hacc := hsett.1 hs
    refine ⟨by rw [marks_len, List.length_replicate]; exact h.ln, fun v k => hTN v ((hcget v).1 k), fun a b ka kb => ?_, fun a b ka h1 h2 => (hcget b).2 (hmax a b ((hcget a).1 ka) h1 h2), ⟨x, (hcget x).2 (by simp), hacc⟩, fun a ka => h.root a (hnT a ((hcget a).1 ka))⟩
    exact (hreach a ((hcget a).1 ka)).2.trans (hreach b ((hcget b).1 kb)).1
   ·rw [if_neg hs]
    intro v hv hn hacc
    by_cases hvs : v ∈ st.stk
    ·have hvT := (hTR v hvs).resolve_right hn
     exact hs (hsett.2 (hacc.move (hreach v hvT).2 (hreach v hvT).1))
    ·exact hf v hv hvs hacc
end
end Go.Proofs.Ytapejnikpmfddaa.Sg
namespace Go.Proofs.Ytapejnikpmfddaa.Sg
section
variable {nx : Nat → List Nat} {N P : Nat} {good : Nat → Nat → Bool} {frm : List Nat} {st : FS}
theorem step_inv (hnx : ∀ x, x < N → ∀ y, y ∈ nx x → y < N) (h : Inv nx N P good frm (fun _ => False) st) : Inv nx N P good frm (fun _ => False) (stepF nx (settF nx P good) st) := by
 match hc : st.calls with
 | [] => unfold stepF; rw [hc]; exact h
 | (x, []) :: cs =>
  unfold stepF
  rw [hc]
  simp only
  unfold leaveF
  have hxg : x ∈ st.calls.map Prod.fst := by rw [hc]; exact List.mem_cons_self ..
  have hlow : (lowered st x cs).getD x 0 = st.lows.getD x 0 := by
   match cs, hc with
   | [], _ => rfl
   | (u, r) :: cs', hc =>
    refine set_other _ (fun e => ?_)
    have hp := h.cp
    rw [hc] at hp
    have := (List.pairwise_cons.1 hp).1 u (List.mem_cons_self ..)
    simp only at this
    rw [e] at this
    exact absurd this (Nat.lt_irrefl _)
  rw [hlow]
  by_cases hl : st.lows.getD x 0 < st.nums.getD x 0
  ·rw [if_pos hl]; exact leaveA_inv h hc hl
  ·rw [if_neg hl]; exact leaveB_inv h hc hl
 | (x, y :: r) :: cs =>
  unfold stepF
  rw [hc]
  simp only
  have hxg : x ∈ st.calls.map Prod.fst := by rw [hc]; exact List.mem_cons_self ..
  have hxs := h.cs x hxg
  have hxN := h.lt (h.sv x hxs)
  obtain ⟨pre, e1, _⟩ := h.rest (x, y :: r) (by rw [hc]; exact List.mem_cons_self ..)
  have hyx : y ∈ nx x := by rw [e1]; exact List.mem_append_right _ (List.mem_cons_self ..)
  have hyN := hnx x hxN y hyx
  have hgr : ({ st with calls := (x, r) :: cs } : FS).calls.map Prod.fst = st.calls.map Prod.fst := by rw [hc]; rfl
  by_cases h0 : st.nums.getD y 0 = 0
  ·rw [if_pos h0]
   have h1 := shift_inv h hc (fun z => z = y) (.inl rfl)
   refine enter_inv h1 (fun z hz => hz) hyN h0 ?_ (fun c hcm => ?_)
   ·obtain ⟨q, q1, q2⟩ := h.root x (h.sv x hxs)
    exact ⟨q, q1, q2.snoc hyx⟩
   ·rw [hgr] at hcm
    exact (h.reachTop hc c hcm).snoc hyx
  ·rw [if_neg h0]
   by_cases ho : st.on.getD y false = true
   ·rw [if_pos ho]
    have hys := (h.on_ y).1 ho
    have h1 := lower_inv h hxg hys (.one hyx) rfl
    have hxl : x < st.lows.length := by rw [h.ll]; exact hxN
    exact shift_inv h1 hc (fun _ => False) (.inr ⟨h0, fun _ => by
     show (st.lows.set x _).getD x 0 ≤ st.nums.getD y 0
     rw [set_same _ hxl]; omega⟩)
   ·rw [if_neg ho]
    exact shift_inv h hc (fun _ => False) (.inr ⟨h0, fun k => absurd ((h.on_ y).2 k) ho⟩)
theorem degs_set {y m : Nat} (hm : m ≠ 0) : ∀ (k : Nat) (nums : List Nat), y < nums.length → degs nx (nums.set y m) k + (if y < k then (if nums.getD y 0 = 0 then (nx y).length + 2 else 0) else 0) = degs nx nums k
 | 0, nums, _ => rfl
 | k + 1, nums, hy => by
  have ih := degs_set (y := y) hm k nums hy
  simp only [degs]
  by_cases e : y = k
  ·subst e
   rw [set_same _ hy, if_neg hm, if_pos (Nat.lt_succ_self y)]
   rw [if_neg (Nat.lt_irrefl y)] at ih
   omega
  ·rw [set_other _ (Ne.symm e)]
   by_cases hlt : y < k
   ·rw [if_pos hlt] at ih
    rw [if_pos (show y < k + 1 by omega)]
    omega
   ·rw [if_neg hlt] at ih
    rw [if_neg (show ¬ y < k + 1 by omega)]
    omega
theorem mu_enter {y : Nat} (hl : st.nums.length = N) (hy : y < N) (h0 : st.nums.getD y 0 = 0) : mu nx N (enterF nx st y) + 1 = mu nx N st := by
 have := degs_set (nx := nx) (y := y) (m := st.met + 1) (by omega) N st.nums (by omega)
 rw [if_pos hy, if_pos h0] at this
 unfold mu enterF left
 simp only [List.map_cons, List.sum_cons]
 omega
theorem step_mu (hnx : ∀ x, x < N → ∀ y, y ∈ nx x → y < N) (h : Inv nx N P good frm (fun _ => False) st) (hne : st.calls ≠ []) : mu nx N (stepF nx (settF nx P good) st) < mu nx N st := by
 match hc : st.calls with
 | [] => exact absurd hc hne
 | (x, []) :: cs =>
  unfold stepF
  rw [hc]
  simp only
  have hm : mu nx N st = degs nx st.nums N + (left cs + 1) := by
   unfold mu left
   rw [hc]
   simp only [List.map_cons, List.sum_cons, List.length_nil]
   omega
  rw [hm]
  unfold leaveF mu
  split
  ·show degs nx st.nums N + left cs < _; omega
  ·show degs nx st.nums N + left cs < _; omega
 | (x, y :: r) :: cs =>
  have hxg : x ∈ st.calls.map Prod.fst := by rw [hc]; exact List.mem_cons_self ..
  have hxN := h.lt (h.sv x (h.cs x hxg))
  obtain ⟨pre, e1, _⟩ := h.rest (x, y :: r) (by rw [hc]; exact List.mem_cons_self ..)
  have hyN := hnx x hxN y (by rw [e1]; exact List.mem_append_right _ (List.mem_cons_self ..))
  have hm : mu nx N st = mu nx N { st with calls := (x, r) :: cs } + 1 := by
   unfold mu left
   rw [hc]
   simp only [List.map_cons, List.sum_cons, List.length_cons]
   omega
  unfold stepF
  rw [hc]
  simp only
  by_cases h0 : st.nums.getD y 0 = 0
  ·rw [if_pos h0]
   have := mu_enter (nx := nx) (st := { st with calls := (x, r) :: cs }) (y := y) h.ln hyN h0
   omega
  ·rw [if_neg h0]
   split
   ·show mu nx N { st with calls := (x, r) :: cs } < _; omega
   ·omega
theorem run_more (nx : Nat → List Nat) (sett : List Bool → List Nat → Bool) (st : FS) (h : st.calls ≠ []) (k : Nat) : runF nx sett (k + 1) st = runF nx sett k (stepF nx sett st) := by
 show (if st.calls.isEmpty then st else _) = _
 rw [if_neg (by simpa using h)]
theorem run_end (nx : Nat → List Nat) (sett : List Bool → List Nat → Bool) (st : FS) (h : st.calls = []) (k : Nat) : runF nx sett k st = st := by
 cases k with
 | zero => rfl
 | succ k => show (if st.calls.isEmpty then st else _) = _; rw [if_pos (by simp [h])]
theorem run_inv (hnx : ∀ x, x < N → ∀ y, y ∈ nx x → y < N) : ∀ (k : Nat) (st : FS), Inv nx N P good frm (fun _ => False) st → mu nx N st ≤ k → Inv nx N P good frm (fun _ => False) (runF nx (settF nx P good) k st) ∧ (runF nx (settF nx P good) k st).calls = []
 | 0, st, h, hk => by
  match hc : st.calls with
  | [] => exact ⟨h, rfl⟩
  | c :: cs =>
   unfold mu left at hk
   rw [hc] at hk
   simp only [List.map_cons, List.sum_cons] at hk
   omega
 | k + 1, st, h, hk => by
  by_cases hne : st.calls = []
  ·rw [run_end _ _ _ hne]; exact ⟨h, hne⟩
  ·rw [run_more _ _ _ hne]
   have := step_mu hnx h hne
   exact run_inv hnx k _ (step_inv hnx h) (by omega)
theorem fs0_get (N v : Nat) : (fs0 N).nums.getD v 0 = 0 := by
 show (List.replicate N 0).getD v 0 = 0
 rw [List.getD_eq_getElem?_getD, List.getElem?_replicate]
 split <;> rfl
theorem fs0_inv : Inv nx N P good frm (fun _ => False) (fs0 N) := by
 constructor
 ·exact List.length_replicate ..
 ·exact List.length_replicate ..
 ·exact List.length_replicate ..
 ·intro v; rw [fs0_get]; exact Nat.zero_le _
 ·intro v w _ h; exact absurd (fs0_get N v) h
 ·intro v
  show (List.replicate N false).getD v false = true ↔ v ∈ []
  rw [List.getD_eq_getElem?_getD, List.getElem?_replicate]
  split <;> simp
 ·intro v h; cases h
 ·exact .nil
 ·intro v h; cases h
 ·exact .nil
 ·intro v h; cases h
 ·intro v h; exact absurd (fs0_get N v) h
 ·intro v h; exact absurd (fs0_get N v) h
 ·intro v h; cases h
 ·intro v h; cases h
 ·intro v h; cases h
 ·intro v h; cases h
 ·intro v h; exact absurd (fs0_get N v) h
 ·intro v h; exact absurd (fs0_get N v) h
theorem Inv.bare {ex : Nat → Prop} (h : Inv nx N P good frm ex st) (hc : st.calls = []) : st.stk = [] := by
 match hs : st.stk with
 | [] => rfl
 | y :: r =>
  obtain ⟨c, c1, _⟩ := h.down y (by rw [hs]; exact List.mem_cons_self ..)
  rw [hc] at c1
  cases c1
theorem root_inv {x : Nat} (h : Inv nx N P good frm (fun _ => False) st) (hc : st.calls = []) (hx : x < N) (hf : x ∈ frm) (h0 : st.nums.getD x 0 = 0) : Inv nx N P good frm (fun _ => False) (enterF nx st x) :=
 enter_inv h (fun _ k => k.elim) hx h0 ⟨x, hf, .refl _⟩ (fun c k => by rw [hc] at k; cases k)
theorem roots_spec (hnx : ∀ x, x < N → ∀ y, y ∈ nx x → y < N) : ∀ (l : List Nat) (st : FS), (∀ x, x ∈ l → x < N ∧ x ∈ frm) → Inv nx N P good frm (fun _ => False) st → st.calls = [] → st.found = none →
  match rootsF nx (settF nx P good) N l st with
  | some c => GoodC nx N P good frm c
  | none => ∃ st', Inv nx N P good frm (fun _ => False) st' ∧ st'.calls = [] ∧ st'.found = none ∧ (∀ v, st.nums.getD v 0 ≠ 0 → st'.nums.getD v 0 ≠ 0) ∧ ∀ x, x ∈ l → st'.nums.getD x 0 ≠ 0
 | [], st, _, h, hc, hf => ⟨st, h, hc, hf, fun _ k => k, fun x hx => by cases hx⟩
 | x :: r, st, hl, h, hc, hf => by
  have hx := hl x (List.mem_cons_self ..)
  have hr := fun y hy => hl y (List.mem_cons_of_mem _ hy)
  unfold rootsF
  by_cases h0 : 0 < st.nums.getD x 0
  ·rw [if_pos h0]
   have ih := roots_spec hnx r st hr h hc hf
   generalize rootsF nx (settF nx P good) N r st = o at ih ⊢
   cases o with
   | some c => exact ih
   | none =>
    obtain ⟨st', a1, a2, a3, a4, a5⟩ := ih
    exact ⟨st', a1, a2, a3, a4, fun y hy => (List.mem_cons.1 hy).elim (fun e => a4 y (by rw [e]; omega)) (a5 y)⟩
  ·rw [if_neg h0]
   have h1 := root_inv h hc hx.1 hx.2 (by omega)
   obtain ⟨h2, h3⟩ := run_inv hnx (mu nx N (enterF nx st x)) _ h1 (Nat.le_refl _)
   have hmono : ∀ (k : Nat) (s : FS), Inv nx N P good frm (fun _ => False) s → ∀ v, s.nums.getD v 0 ≠ 0 → (runF nx (settF nx P good) k s).nums.getD v 0 ≠ 0 := by
    intro k
    induction k with
    | zero => exact fun s _ v hv => hv
    | succ k ih =>
     intro s hs v hv
     by_cases hne : s.calls = []
     ·rw [run_end _ _ _ hne]; exact hv
     ·rw [run_more _ _ _ hne]
      refine ih _ (step_inv hnx hs) v ?_
      match hcs : s.calls with
      | [] => exact absurd hcs hne
      | (a, []) :: cs =>
       unfold stepF
       rw [hcs]
       simp only
       unfold leaveF
       split <;> exact hv
      | (a, b :: q) :: cs =>
       unfold stepF
       rw [hcs]
       simp only
       split
       ·show (s.nums.set b (s.met + 1)).getD v 0 ≠ 0
        rw [getD_set]
        split
        ·rename_i e
         subst e
         rw [if_pos (getD_lt hv)]; omega
        ·exact hv
       ·split <;> exact hv
   have hxv : (runF nx (settF nx P good) (mu nx N (enterF nx st x)) (enterF nx st x)).nums.getD x 0 ≠ 0 := by
    refine hmono _ _ h1 x ?_
    show (st.nums.set x (st.met + 1)).getD x 0 ≠ 0
    rw [set_same _ (by rw [h.ln]; exact hx.1)]; omega
   have hold : ∀ v, st.nums.getD v 0 ≠ 0 → (runF nx (settF nx P good) (mu nx N (enterF nx st x)) (enterF nx st x)).nums.getD v 0 ≠ 0 := by
    intro v hv
    refine hmono _ _ h1 v ?_
    show (st.nums.set x (st.met + 1)).getD v 0 ≠ 0
    rw [getD_set]
    split
    ·rename_i e
     subst e
     rw [if_pos (getD_lt hv)]; omega
    ·exact hv
   generalize runF nx (settF nx P good) (mu nx N (enterF nx st x)) (enterF nx st x) = s1 at *
   cases hf1 : s1.found with
   | some c =>
    have := h2.fnd
    unfold Fnd at this
    rw [hf1] at this
    exact this
   | none =>
    have ih := roots_spec hnx r s1 hr h2 h3 hf1
    show match rootsF nx (settF nx P good) N r s1 with
     | some c => _
     | none => _
    generalize rootsF nx (settF nx P good) N r s1 = o at ih ⊢
    cases o with
    | some c => exact ih
    | none =>
     obtain ⟨st', a1, a2, a3, a4, a5⟩ := ih
     exact ⟨st', a1, a2, a3, fun v hv => a4 v (hold v hv), fun y hy => (List.mem_cons.1 hy).elim (fun e => a4 y (by rw [e]; exact hxv)) (a5 y)⟩
theorem settled_spec (hnx : ∀ x, x < N → ∀ y, y ∈ nx x → y < N) (l : List Nat) (hl : ∀ x, x ∈ l → x < N) :
  match settledF nx (settF nx P good) N l with
  | some c => GoodC nx N P good l c
  | none => ∀ x v, x ∈ l → Reach nx x v → ¬ AccAt nx P good v := by
 have h := roots_spec (P := P) (good := good) hnx l (fs0 N) (fun x hx => ⟨hl x hx, hx⟩) fs0_inv rfl rfl
 unfold settledF
 generalize rootsF nx (settF nx P good) N l (fs0 N) = o at h ⊢
 cases o with
 | some c => exact h
 | none =>
  obtain ⟨st', a1, a2, a3, _, a5⟩ := h
  have hb := a1.bare a2
  have hf := a1.fnd
  unfold Fnd at hf
  rw [a3] at hf
  intro x v hx hr hacc
  have hv : st'.nums.getD v 0 ≠ 0 := hr.closed (S := fun v => st'.nums.getD v 0 ≠ 0) (fun u hu z hz => a1.fin u hu (by rw [a2]; intro k; cases k) z hz) (a5 x hx)
  exact hf v hv (by rw [hb]; intro k; cases k) hacc
end
end Go.Proofs.Ytapejnikpmfddaa.Sg
namespace Go.Proofs.Ytapejnikpmfddaa.Sg
def IsWay (nx : Nat → List Nat) (inn : Nat → Bool) : List Nat → Prop
 | [] => True
 | [_] => True
 | a :: b :: r => b ∈ nx a ∧ inn b = true ∧ IsWay nx inn (b :: r)
theorem IsWay.snoc {nx : Nat → List Nat} {inn : Nat → Bool} {x y : Nat} : ∀ (l : List Nat), IsWay nx inn (l ++ [x]) → y ∈ nx x → inn y = true → IsWay nx inn (l ++ [x, y])
 | [], _, h1, h2 => ⟨h1, h2, trivial⟩
 | [a], h, h1, h2 => ⟨h.1, h.2.1, h1, h2, trivial⟩
 | a :: b :: r, h, h1, h2 => ⟨h.1, h.2.1, IsWay.snoc (b :: r) h.2.2 h1 h2⟩
theorem IsWay.imp {nx : Nat → List Nat} {inn inn' : Nat → Bool} (hi : ∀ x, inn x = true → inn' x = true) : ∀ (l : List Nat), IsWay nx inn l → IsWay nx inn' l
 | [], _ => trivial
 | [_], _ => trivial
 | _ :: b :: r, h => ⟨h.1, hi _ h.2.1, IsWay.imp hi (b :: r) h.2.2⟩
theorem IsWay.app {nx : Nat → List Nat} {inn : Nat → Bool} {x y : Nat} (m : List Nat) : ∀ (l : List Nat), IsWay nx inn (l ++ [x]) → IsWay nx inn (y :: m) → y ∈ nx x → inn y = true → IsWay nx inn (l ++ x :: y :: m)
 | [], _, h, h1, h2 => ⟨h1, h2, h⟩
 | [a], h0, h, h1, h2 => ⟨h0.1, h0.2.1, h1, h2, h⟩
 | a :: b :: r, h0, h, h1, h2 => ⟨h0.1, h0.2.1, IsWay.app m (b :: r) h0.2.2 h h1 h2⟩
theorem IsWay.join {nx : Nat → List Nat} {inn : Nat → Bool} {x : Nat} (m : List Nat) : ∀ (l : List Nat), IsWay nx inn (l ++ [x]) → IsWay nx inn (x :: m) → IsWay nx inn (l ++ x :: m)
 | [], _, h => h
 | [a], h0, h => ⟨h0.1, h0.2.1, h⟩
 | a :: b :: r, h0, h => ⟨h0.1, h0.2.1, IsWay.join m (b :: r) h0.2.2 h⟩
inductive ReachIn (nx : Nat → List Nat) (inn : Nat → Bool) : Nat → Nat → Prop
 | refl (x : Nat) : ReachIn nx inn x x
 | snoc {x y z : Nat} : ReachIn nx inn x y → z ∈ nx y → inn z = true → ReachIn nx inn x z
inductive Traced (nx : Nat → List Nat) (inn : Nat → Bool) (frm : List Nat) (came : List Int) : Nat → List Nat → Prop
 | root {y : Nat} : came.getD y 0 = -1 → y ∈ frm → Traced nx inn frm came y [y]
 | step {x y : Nat} {l : List Nat} : came.getD y 0 = (x : Int) + 1 → y ∈ nx x → inn y = true → Traced nx inn frm came x l → Traced nx inn frm came y (y :: l)
def backL (came : List Int) : Nat → Nat → List Nat
 | 0, x => [x]
 | k + 1, x => if 0 < came.getD x 0 then x :: backL came k (came.getD x 0 - 1).toNat else [x]
def addF (v : Int) (s : List Int × List Nat) (y : Nat) : List Int × List Nat := (s.1.set y v, s.2 ++ [y])
def seedF (s : List Int × List Nat) (l : List Nat) : List Int × List Nat := l.foldl (fun s x => if s.1.getD x 0 = 0 then addF (-1) s x else s) s
def spreadF (inn : Nat → Bool) (x : Nat) (s : List Int × List Nat) (l : List Nat) : List Int × List Nat := l.foldl (fun s y => if s.1.getD y 0 = 0 ∧ inn y = true then addF ((x : Int) + 1) s y else s) s
def huntF (nx : Nat → List Nat) (inn goal : Nat → Bool) (N : Nat) : Nat → Nat → List Int × List Nat → List Nat
 | 0, _, _ => []
 | k + 1, i, s => if i < s.2.length then (if goal (s.2.getD i 0) = true then (backL s.1 N (s.2.getD i 0)).reverse else huntF nx inn goal N k (i + 1) (spreadF inn (s.2.getD i 0) s (nx (s.2.getD i 0)))) else []
def wayF (nx : Nat → List Nat) (inn goal : Nat → Bool) (N : Nat) (frm : List Nat) : List Nat := huntF nx inn goal N (N + 1) 0 (seedF (List.replicate N 0, []) frm)
section
variable {nx : Nat → List Nat} {inn goal : Nat → Bool} {N : Nat} {frm : List Nat} {came : List Int}
theorem getDI_set (l : List Int) (i j : Nat) (a : Int) : (l.set i a).getD j 0 = if i = j then (if j < l.length then a else 0) else l.getD j 0 := by
 rw [List.getD_eq_getElem?_getD, List.getElem?_set]
 by_cases h : i = j
 ·subst h
  rw [if_pos rfl, if_pos rfl]
  split <;> rfl
 ·rw [if_neg h, if_neg h, List.getD_eq_getElem?_getD]
theorem getDI_lt {l : List Int} {v : Nat} (h : l.getD v 0 ≠ 0) : v < l.length := by
 by_cases hv : v < l.length
 ·exact hv
 ·rw [List.getD_eq_getElem?_getD, List.getElem?_eq_none (by omega)] at h
  exact absurd rfl h
theorem Traced.ne0 {y : Nat} {l : List Nat} (h : Traced nx inn frm came y l) : came.getD y 0 ≠ 0 := by
 cases h with
 | root e _ => omega
 | step e _ _ _ => omega
theorem Traced.set {y : Nat} {l : List Nat} (h : Traced nx inn frm came y l) {z : Nat} (hz : came.getD z 0 = 0) (v : Int) : Traced nx inn frm (came.set z v) y l := by
 induction h with
 | @root y e hf =>
  refine .root ?_ hf
  rw [getDI_set, if_neg (fun a => ?_)]
  ·exact e
  ·subst a; omega
 | @step x y l e h1 h2 _ ih =>
  refine .step ?_ h1 h2 ih
  rw [getDI_set, if_neg (fun a => ?_)]
  ·exact e
  ·subst a; omega
theorem Traced.back {y : Nat} {l : List Nat} (h : Traced nx inn frm came y l) : ∀ k, l.length ≤ k + 1 → backL came k y = l := by
 induction h with
 | @root y e hf =>
  intro k _
  cases k with
  | zero => rfl
  | succ k => unfold backL; rw [if_neg (by omega)]
 | @step x y l e h1 h2 h3 ih =>
  intro k hk
  cases k with
  | zero =>
   cases h3 <;> (simp at hk)
  | succ k =>
   unfold backL
   rw [if_pos (by omega), e]
   rw [show ((x : Int) + 1 - 1).toNat = x by omega, ih k (by simp at hk; omega)]
theorem Traced.way {y : Nat} {l : List Nat} (h : Traced nx inn frm came y l) : ∃ l', l.reverse = l' ++ [y] ∧ IsWay nx inn l.reverse ∧ ∃ a r, l.reverse = a :: r ∧ a ∈ frm := by
 induction h with
 | @root y e hf => exact ⟨[], rfl, trivial, y, [], rfl, hf⟩
 | @step x y l e h1 h2 h3 ih =>
  obtain ⟨l', e1, e2, a, r, e3, e4⟩ := ih
  refine ⟨l' ++ [x], by rw [List.reverse_cons, e1], ?_, a, r ++ [y], by rw [List.reverse_cons, e3]; rfl, e4⟩
  rw [List.reverse_cons, e1, List.append_assoc]
  rw [e1] at e2
  exact IsWay.snoc l' e2 h1 h2
structure Hunt (nx : Nat → List Nat) (inn : Nat → Bool) (N : Nat) (frm : List Nat) (s : List Int × List Nat) : Prop where
 len : s.1.length = N
 nd : s.2.Nodup
 vis : ∀ v, s.1.getD v 0 ≠ 0 ↔ v ∈ s.2
 tr : ∀ (j y : Nat), s.2[j]? = some y → ∃ l, Traced nx inn frm s.1 y l ∧ l.length ≤ j + 1
theorem Hunt.lt {s : List Int × List Nat} (h : Hunt nx inn N frm s) {v : Nat} (hv : v ∈ s.2) : v < N := h.len ▸ getDI_lt ((h.vis v).2 hv)
theorem Hunt.add {s : List Int × List Nat} (h : Hunt nx inn N frm s) {y : Nat} {v : Int} (hy : y < N) (h0 : s.1.getD y 0 = 0) (hv : v ≠ 0) (ht : ∃ l, Traced nx inn frm (s.1.set y v) y l ∧ l.length ≤ s.2.length + 1) : Hunt nx inn N frm (addF v s y) := by
 have hny : y ∉ s.2 := fun k => (h.vis y).2 k h0
 constructor
 ·show (s.1.set y v).length = N; rw [List.length_set]; exact h.len
 ·show (s.2 ++ [y]).Nodup
  exact List.nodup_append.2 ⟨h.nd, by simp, fun a ha b hb e => hny (by rw [List.mem_singleton.1 hb] at e; rw [← e]; exact ha)⟩
 ·intro u
  show (s.1.set y v).getD u 0 ≠ 0 ↔ u ∈ s.2 ++ [y]
  rw [getDI_set]
  by_cases e : y = u
  ·subst e
   rw [if_pos rfl, if_pos (by rw [h.len]; exact hy)]
   simp [hv]
  ·rw [if_neg e, h.vis u, List.mem_append, List.mem_singleton]
   exact ⟨.inl, fun k => k.resolve_right (fun a => e a.symm)⟩
 ·intro j u hj
  have hj' : (s.2 ++ [y])[j]? = some u := hj
  by_cases hlt : j < s.2.length
  ·rw [List.getElem?_append_left hlt] at hj'
   obtain ⟨l, l1, l2⟩ := h.tr j u hj'
   exact ⟨l, l1.set h0 v, l2⟩
  ·rw [List.getElem?_append_right (by omega)] at hj'
   have : j - s.2.length = 0 := by
    by_cases a : j - s.2.length = 0
    ·exact a
    ·rw [List.getElem?_eq_none (by simp; omega)] at hj'
     cases hj'
   rw [this] at hj'
   obtain rfl : y = u := by simpa using hj'
   obtain ⟨l, l1, l2⟩ := ht
   exact ⟨l, l1, by omega⟩
theorem seed_hunt (hf : ∀ x, x ∈ frm → x < N) : ∀ (l : List Nat) (s : List Int × List Nat), (∀ x, x ∈ l → x ∈ frm) → Hunt nx inn N frm s →
  Hunt nx inn N frm (seedF s l) ∧ (∀ x, x ∈ s.2 → x ∈ (seedF s l).2) ∧ ∀ x, x ∈ l → x ∈ (seedF s l).2
 | [], s, _, h => ⟨h, fun _ k => k, fun _ k => by cases k⟩
 | x :: r, s, hl, h => by
  have hx := hl x (List.mem_cons_self ..)
  have hr := fun y hy => hl y (List.mem_cons_of_mem _ hy)
  show Hunt nx inn N frm (seedF (if s.1.getD x 0 = 0 then addF (-1) s x else s) r) ∧ _
  have he : seedF s (x :: r) = seedF (if s.1.getD x 0 = 0 then addF (-1) s x else s) r := rfl
  rw [he]
  by_cases h0 : s.1.getD x 0 = 0
  ·rw [if_pos h0]
   have h1 : Hunt nx inn N frm (addF (-1) s x) := h.add (hf x hx) h0 (by omega) ⟨[x], .root (by rw [getDI_set, if_pos rfl, if_pos (by rw [h.len]; exact hf x hx)]) hx, by simp⟩
   obtain ⟨a, b, c⟩ := seed_hunt hf r _ hr h1
   refine ⟨a, fun y hy => b y (List.mem_append_left _ hy), fun y hy => ?_⟩
   rcases List.mem_cons.1 hy with e | e
   ·exact b y (List.mem_append_right _ (by simp [e]))
   ·exact c y e
  ·rw [if_neg h0]
   obtain ⟨a, b, c⟩ := seed_hunt hf r s hr h
   refine ⟨a, b, fun y hy => ?_⟩
   rcases List.mem_cons.1 hy with e | e
   ·exact b y (by rw [e]; exact (h.vis x).1 h0)
   ·exact c y e
theorem spread_hunt (hnx : ∀ x, x < N → ∀ y, y ∈ nx x → y < N) {x : Nat} : ∀ (l : List Nat) (s : List Int × List Nat), (∀ y, y ∈ l → y ∈ nx x) → x ∈ s.2 → Hunt nx inn N frm s →
  Hunt nx inn N frm (spreadF inn x s l) ∧ (∃ t, (spreadF inn x s l).2 = s.2 ++ t) ∧ ∀ y, y ∈ l → inn y = true → y ∈ (spreadF inn x s l).2
 | [], s, _, _, h => ⟨h, ⟨[], (List.append_nil _).symm⟩, fun _ k => by cases k⟩
 | y :: r, s, hl, hx, h => by
  have hy := hl y (List.mem_cons_self ..)
  have hr := fun y hy => hl y (List.mem_cons_of_mem _ hy)
  have hyN := hnx x (h.lt hx) y hy
  have he : spreadF inn x s (y :: r) = spreadF inn x (if s.1.getD y 0 = 0 ∧ inn y = true then addF ((x : Int) + 1) s y else s) r := rfl
  rw [he]
  by_cases h0 : s.1.getD y 0 = 0 ∧ inn y = true
  ·rw [if_pos h0]
   have h1 : Hunt nx inn N frm (addF ((x : Int) + 1) s y) := by
    refine h.add hyN h0.1 (by omega) ?_
    obtain ⟨j, hj⟩ := List.getElem?_of_mem hx
    obtain ⟨l, l1, l2⟩ := h.tr j x hj
    have hjl : j < s.2.length := (List.getElem?_eq_some_iff.1 hj).1
    exact ⟨y :: l, .step (by rw [getDI_set, if_pos rfl, if_pos (by rw [h.len]; exact hyN)]) hy h0.2 (l1.set h0.1 _), by simp; omega⟩
   obtain ⟨a, ⟨t, b⟩, c⟩ := spread_hunt hnx r _ hr (List.mem_append_left _ hx) h1
   refine ⟨a, ⟨y :: t, by rw [b]; show s.2 ++ [y] ++ t = _; simp⟩, fun z hz hi => ?_⟩
   rcases List.mem_cons.1 hz with e | e
   ·rw [b]
    show z ∈ s.2 ++ [y] ++ t
    simp [e]
   ·exact c z e hi
  ·rw [if_neg h0]
   obtain ⟨a, ⟨t, b⟩, c⟩ := spread_hunt hnx r s hr hx h
   refine ⟨a, ⟨t, b⟩, fun z hz hi => ?_⟩
   rcases List.mem_cons.1 hz with e | e
   ·rw [b]
    refine List.mem_append_left _ ?_
    rw [e] at hi ⊢
    exact (h.vis y).1 (fun k => h0 ⟨k, hi⟩)
   ·exact c z e hi
theorem nodup_le : ∀ (N : Nat) (l : List Nat), l.Nodup → (∀ x, x ∈ l → x < N) → l.length ≤ N
 | 0, l, _, h => by
  cases l with
  | nil => exact Nat.le_refl _
  | cons a r => exact absurd (h a (List.mem_cons_self ..)) (Nat.not_lt_zero _)
 | N + 1, l, hn, h => by
  have h1 : (l.filter (fun x => decide (x ≠ N))).Nodup := hn.filter _
  have h2 := nodup_le N (l.filter (fun x => decide (x ≠ N))) h1 (fun x hx => by
   rw [List.mem_filter] at hx
   have := h x hx.1
   have := of_decide_eq_true hx.2
   omega)
  have h3 : (l.filter (fun x => decide (x = N))).length ≤ 1 := by
   have h4 : (l.filter (fun x => decide (x = N))).Nodup := hn.filter _
   match hq : l.filter (fun x => decide (x = N)), h4 with
   | [], _ => exact Nat.zero_le _
   | [a], _ => exact Nat.le_refl _
   | a :: b :: r, h4 =>
    have ha : a ∈ l.filter (fun x => decide (x = N)) := by rw [hq]; exact List.mem_cons_self ..
    have hb : b ∈ l.filter (fun x => decide (x = N)) := by rw [hq]; exact List.mem_cons_of_mem _ (List.mem_cons_self ..)
    have ha' := of_decide_eq_true (List.mem_filter.1 ha).2
    have hb' := of_decide_eq_true (List.mem_filter.1 hb).2
    simp [ha', hb'] at h4
  have h5 : ∀ l : List Nat, l.length = (l.filter (fun x => decide (x ≠ N))).length + (l.filter (fun x => decide (x = N))).length := by
   intro l
   induction l with
   | nil => rfl
   | cons a r ih =>
    by_cases e : a = N
    ·rw [List.filter_cons_of_neg (by simp [e]), List.filter_cons_of_pos (by simp [e])]
     simp only [List.length_cons]
     omega
    ·rw [List.filter_cons_of_pos (by simp [e]), List.filter_cons_of_neg (by simp [e])]
     simp only [List.length_cons]
     omega
  rw [h5 l]
  omega
theorem Hunt.le {s : List Int × List Nat} (h : Hunt nx inn N frm s) : s.2.length ≤ N := nodup_le N s.2 h.nd (fun _ hx => h.lt hx)
def Done (nx : Nat → List Nat) (inn goal : Nat → Bool) (i : Nat) (s : List Int × List Nat) : Prop := ∀ (j x : Nat), j < i → s.2[j]? = some x → goal x = false ∧ ∀ y, y ∈ nx x → inn y = true → y ∈ s.2
def WayOk (nx : Nat → List Nat) (inn goal : Nat → Bool) (frm l : List Nat) : Prop := IsWay nx inn l ∧ (∃ a r, l = a :: r ∧ a ∈ frm) ∧ ∃ r b, l = r ++ [b] ∧ goal b = true
theorem getD_some {l : List Nat} {i : Nat} (h : i < l.length) : l[i]? = some (l.getD i 0) := by
 rw [List.getD_eq_getElem?_getD, List.getElem?_eq_getElem h]; rfl
theorem done_step (hnx : ∀ x, x < N → ∀ y, y ∈ nx x → y < N) {i : Nat} {s : List Int × List Nat} (h : Hunt nx inn N frm s) (hi : i < s.2.length) (hd : Done nx inn goal i s) (hg : goal (s.2.getD i 0) = false) :
  Hunt nx inn N frm (spreadF inn (s.2.getD i 0) s (nx (s.2.getD i 0))) ∧ Done nx inn goal (i + 1) (spreadF inn (s.2.getD i 0) s (nx (s.2.getD i 0))) ∧ ∃ t, (spreadF inn (s.2.getD i 0) s (nx (s.2.getD i 0))).2 = s.2 ++ t := by
 have hx := getD_some hi
 have hxm : s.2.getD i 0 ∈ s.2 := List.mem_of_getElem? hx
 obtain ⟨a, ⟨t, b⟩, c⟩ := spread_hunt hnx (x := s.2.getD i 0) (nx (s.2.getD i 0)) s (fun _ k => k) hxm h
 refine ⟨a, fun j x hj hjx => ?_, t, b⟩
 rw [b, List.getElem?_append_left (by omega)] at hjx
 by_cases e : j = i
 ·subst e
  rw [hx] at hjx
  cases hjx
  exact ⟨hg, c⟩
 ·obtain ⟨d1, d2⟩ := hd j x (by omega) hjx
  exact ⟨d1, fun y hy hin => by rw [b]; exact List.mem_append_left _ (d2 y hy hin)⟩
theorem hunt_spec (hnx : ∀ x, x < N → ∀ y, y ∈ nx x → y < N) : ∀ (k i : Nat) (s : List Int × List Nat), Hunt nx inn N frm s → Done nx inn goal i s → N + 1 ≤ k + i → (∀ x, x ∈ frm → x ∈ s.2) →
  (huntF nx inn goal N k i s = [] ∧ ∀ x, x ∈ frm → ∀ y, ReachIn nx inn x y → goal y = false) ∨ WayOk nx inn goal frm (huntF nx inn goal N k i s)
 | 0, i, s, h, hd, hk, hf => by
  refine .inl ⟨rfl, fun x hx y hr => ?_⟩
  have hle := h.le
  have hy : y ∈ s.2 := by
   induction hr with
   | refl => exact hf _ hx
   | snoc _ e1 e2 ih =>
    obtain ⟨j, hj⟩ := List.getElem?_of_mem (ih)
    have := (List.getElem?_eq_some_iff.1 hj).1
    exact (hd j _ (by omega) hj).2 _ e1 e2
  obtain ⟨j, hj⟩ := List.getElem?_of_mem hy
  have := (List.getElem?_eq_some_iff.1 hj).1
  exact (hd j _ (by omega) hj).1
 | k + 1, i, s, h, hd, hk, hf => by
  unfold huntF
  by_cases hi : i < s.2.length
  ·rw [if_pos hi]
   cases hg : goal (s.2.getD i 0) with
   | true =>
    rw [if_pos rfl]
    obtain ⟨l, l1, l2⟩ := h.tr i _ (getD_some hi)
    have hle := h.le
    rw [l1.back N (by omega)]
    obtain ⟨l', e1, e2, a, r, e3, e4⟩ := l1.way
    exact .inr ⟨e2, ⟨a, r, e3, e4⟩, l', _, e1, hg⟩
   | false =>
    rw [if_neg (by simp)]
    obtain ⟨a, b, t, c⟩ := done_step hnx h hi hd hg
    exact hunt_spec hnx k (i + 1) _ a b (by omega) (fun x hx => by rw [c]; exact List.mem_append_left _ (hf x hx))
  ·rw [if_neg hi]
   refine .inl ⟨rfl, fun x hx y hr => ?_⟩
   have hy : y ∈ s.2 := by
    induction hr with
    | refl => exact hf _ hx
    | snoc _ e1 e2 ih =>
     obtain ⟨j, hj⟩ := List.getElem?_of_mem (ih)
     have := (List.getElem?_eq_some_iff.1 hj).1
     exact (hd j _ (by omega) hj).2 _ e1 e2
   obtain ⟨j, hj⟩ := List.getElem?_of_mem hy
   have := (List.getElem?_eq_some_iff.1 hj).1
   exact (hd j _ (by omega) hj).1
theorem hunt0 : Hunt nx inn N frm (List.replicate N 0, []) := by
 constructor
 ·exact List.length_replicate ..
 ·exact List.nodup_nil
 ·intro v
  show (List.replicate N (0 : Int)).getD v 0 ≠ 0 ↔ v ∈ []
  rw [List.getD_eq_getElem?_getD, List.getElem?_replicate]
  split <;> simp
 ·intro j y hj
  cases hj
theorem way_spec (hnx : ∀ x, x < N → ∀ y, y ∈ nx x → y < N) (hf : ∀ x, x ∈ frm → x < N) :
  (wayF nx inn goal N frm = [] ∧ ∀ x, x ∈ frm → ∀ y, ReachIn nx inn x y → goal y = false) ∨ WayOk nx inn goal frm (wayF nx inn goal N frm) := by
 obtain ⟨a, _, c⟩ := seed_hunt (nx := nx) (inn := inn) hf frm _ (fun _ k => k) hunt0
 exact hunt_spec hnx (N + 1) 0 _ a (fun j x hj => by omega) (by omega) c
end
end Go.Proofs.Ytapejnikpmfddaa.Sg
namespace Go.Proofs.Ytapejnikpmfddaa.Sg
def partsF (nx : Nat → List Nat) (inn : Nat → Bool) (good : Nat → Nat → Bool) (N : Nat) : List Nat → List Nat → List Nat
 | [], out => out
 | i :: r, out => partsF nx inn good N r (if out.any (good i) = true then out else out ++ (wayF nx inn (good i) N [out.getLastD 0]).tail)
def backF (nx : Nat → List Nat) (inn : Nat → Bool) (N x : Nat) (out : List Nat) : List Nat := out ++ (wayF nx inn (fun y => y == x) N ((nx (out.getLastD 0)).filter inn)).dropLast
def roundF (nx : Nat → List Nat) (inn : Nat → Bool) (good : Nat → Nat → Bool) (N P x : Nat) : List Nat := backF nx inn N x (partsF nx inn good N (List.range P) [x])
def hasF (c : List Bool) (x : Nat) : Bool := c.getD x false
def findF (nx : Nat → List Nat) (good : Nat → Nat → Bool) (N P : Nat) (frm : List Nat) : Option (List Nat × List Nat) :=
 match settledF nx (settF nx P good) N frm with
 | none => none
 | some c => some ((wayF nx (fun _ => true) (hasF c) N frm).dropLast, roundF nx (hasF c) good N P ((wayF nx (fun _ => true) (hasF c) N frm).getLastD 0))
section
variable {nx : Nat → List Nat} {inn : Nat → Bool} {good : Nat → Nat → Bool} {N P : Nat} {frm : List Nat} {c : List Bool}
theorem GoodC.within (h : GoodC nx N P good frm c) {a b : Nat} (ha : c.getD a false = true) (hb : c.getD b false = true) : ReachIn nx (hasF c) a b := by
 have key : ∀ x y, Reach nx x y → ∀ a, c.getD a false = true → ReachIn nx (hasF c) a x → c.getD x false = true → c.getD y false = true → ReachIn nx (hasF c) a y := by
  intro x y hr
  induction hr with
  | refl _ => exact fun a _ h1 _ _ => h1
  | @step x z y e r ih =>
   intro a ha h1 hx hy
   have hz : c.getD z false = true := h.full x z hx (.one e) (r.trans (h.conn y x hy hx))
   exact ih a ha (.snoc h1 e hz) hz hy
 exact key a b (h.conn a b ha hb) a ha (.refl a) ha hb
theorem last_app {l : List Nat} {a d : Nat} : (l ++ [a]).getLastD d = a := by simp
theorem way_last {nx : Nat → List Nat} {inn goal : Nat → Bool} {frm l : List Nat} (h : WayOk nx inn goal frm l) : l ≠ [] ∧ goal (l.getLastD 0) = true := by
 obtain ⟨_, _, r, b, e, hb⟩ := h
 rw [e]
 exact ⟨by simp, by rw [last_app]; exact hb⟩
theorem snoc_of_ne {l : List Nat} (h : l ≠ []) : ∃ r, l = r ++ [l.getLastD 0] := by
 refine ⟨l.dropLast, ?_⟩
 have := List.dropLast_concat_getLast h
 rw [List.getLastD_eq_getLast?, List.getLast?_eq_some_getLast h]
 exact this.symm
structure Walk (nx : Nat → List Nat) (inn : Nat → Bool) (x : Nat) (out : List Nat) : Prop where
 way : IsWay nx inn out
 head : ∃ r, out = x :: r
 mem : ∀ y, y ∈ out → inn y = true
theorem way_mem {nx : Nat → List Nat} {inn : Nat → Bool} : ∀ {l : List Nat} {a : Nat}, IsWay nx inn (a :: l) → ∀ y, y ∈ l → inn y = true
 | b :: r, a, h, y, hy => by
  rcases List.mem_cons.1 hy with e | e
  ·rw [e]; exact h.2.1
  ·exact way_mem h.2.2 y e
theorem parts_spec (hc : GoodC nx N P good frm c) (hnx : ∀ x, x < N → ∀ y, y ∈ nx x → y < N) {x : Nat} : ∀ (l : List Nat) (out : List Nat), (∀ i, i ∈ l → i < P) → Walk nx (hasF c) x out →
  Walk nx (hasF c) x (partsF nx (hasF c) good N l out) ∧ (∃ t, partsF nx (hasF c) good N l out = out ++ t) ∧ ∀ i, i ∈ l → ∃ y, y ∈ partsF nx (hasF c) good N l out ∧ good i y = true
 | [], out, _, h => ⟨h, ⟨[], (List.append_nil _).symm⟩, fun _ k => by cases k⟩
 | i :: r, out, hl, h => by
  have hi := hl i (List.mem_cons_self ..)
  have hr := fun j hj => hl j (List.mem_cons_of_mem _ hj)
  unfold partsF
  by_cases ha : out.any (good i) = true
  ·rw [if_pos ha]
   obtain ⟨a, ⟨t, b⟩, d⟩ := parts_spec hc hnx r out hr h
   refine ⟨a, ⟨t, b⟩, fun j hj => ?_⟩
   rcases List.mem_cons.1 hj with e | e
   ·rw [List.any_eq_true] at ha
    obtain ⟨y, y1, y2⟩ := ha
    exact ⟨y, by rw [b]; exact List.mem_append_left _ y1, by rw [e]; exact y2⟩
   ·exact d j e
  ·rw [if_neg ha]
   obtain ⟨q, hq⟩ := h.head
   have hne : out ≠ [] := by rw [hq]; simp
   obtain ⟨p, hp⟩ := snoc_of_ne hne
   generalize out.getLastD 0 = last at *
   have hlin : hasF c last = true := h.mem last (by rw [hp]; simp)
   -- one comes to where it is settled
   obtain ⟨a0, a1, a2⟩ := hc.acc
   obtain ⟨g, g1, g2, g3⟩ := a2.2 i hi
   have hgc := hc.full a0 g a1 g1 g2
   rcases way_spec (inn := hasF c) (goal := good i) hnx (frm := [last]) (fun y hy => by rw [List.mem_singleton.1 hy]; exact hc.lt last hlin) with ⟨_, hno⟩ | hok
   ·have := hno last (List.mem_singleton.2 rfl) g (hc.within hlin hgc)
    rw [g3] at this; cases this
   ·obtain ⟨w1, ⟨b, m, e1, e2⟩, v, z, e3, e4⟩ := hok
    generalize wayF nx (hasF c) (good i) N [last] = more at *
    rw [List.mem_singleton.1 e2] at e1
    have hm : more.tail = m := by rw [e1]; rfl
    rw [hm]
    have hw : Walk nx (hasF c) x (out ++ m) := by
     refine ⟨?_, ⟨q ++ m, by rw [hq]; rfl⟩, fun y hy => ?_⟩
     ·rw [hp, List.append_assoc]
      refine IsWay.join (x := last) m p ?_ ?_
      ·rw [← hp]; exact h.way
      ·rw [← e1]; exact w1
     ·rcases List.mem_append.1 hy with k | k
      ·exact h.mem y k
      ·rw [e1] at w1; exact way_mem w1 y k
    have hz : z ∈ out ++ m := by
     have hz' : z ∈ last :: m := by rw [← e1, e3]; simp
     rcases List.mem_cons.1 hz' with k | k
     ·rw [hp, k]; simp
     ·exact List.mem_append_right _ k
    obtain ⟨a, ⟨t, b'⟩, d⟩ := parts_spec hc hnx r (out ++ m) hr hw
    refine ⟨a, ⟨m ++ t, by rw [b', List.append_assoc]⟩, fun j hj => ?_⟩
    rcases List.mem_cons.1 hj with e | e
    ·exact ⟨z, by rw [b']; exact List.mem_append_left _ hz, by rw [e]; exact e4⟩
    ·exact d j e
theorem acc_next (hc : GoodC nx N P good frm c) {x : Nat} (hx : c.getD x false = true) : ∃ y, y ∈ nx x ∧ c.getD y false = true := by
 obtain ⟨a, a1, a2⟩ := hc.acc
 obtain ⟨⟨y, y1, y2⟩, _⟩ := a2.move (hc.conn a x a1 hx) (hc.conn x a hx a1)
 exact ⟨y, y1, hc.full x y hx (.one y1) y2⟩
theorem round_spec (hc : GoodC nx N P good frm c) (hnx : ∀ x, x < N → ∀ y, y ∈ nx x → y < N) {x : Nat} (hx : c.getD x false = true) :
  (∃ r, roundF nx (hasF c) good N P x = x :: r) ∧ IsWay nx (hasF c) (roundF nx (hasF c) good N P x ++ [x]) ∧ ∀ i, i < P → ∃ y, y ∈ roundF nx (hasF c) good N P x ∧ good i y = true := by
 obtain ⟨a, _, d⟩ := parts_spec hc hnx (x := x) (List.range P) [x] (fun i hi => List.mem_range.1 hi) ⟨trivial, ⟨[], rfl⟩, fun y hy => by rw [List.mem_singleton.1 hy]; exact hx⟩
 unfold roundF backF
 generalize partsF nx (hasF c) good N (List.range P) [x] = out at *
 obtain ⟨q, hq⟩ := a.head
 have hne : out ≠ [] := by rw [hq]; simp
 obtain ⟨p, hp⟩ := snoc_of_ne hne
 generalize out.getLastD 0 = last at *
 have hlin : hasF c last = true := a.mem last (by rw [hp]; simp)
 have hin : ∀ y, y ∈ (nx last).filter (hasF c) → y ∈ nx last ∧ hasF c y = true := fun y hy => List.mem_filter.1 hy
 rcases way_spec (inn := hasF c) (goal := fun y => y == x) hnx (frm := (nx last).filter (hasF c)) (fun y hy => hc.lt y (hin y hy).2) with ⟨_, hno⟩ | hok
 ·obtain ⟨y, y1, y2⟩ := acc_next hc hlin
  have := hno y (List.mem_filter.2 ⟨y1, y2⟩) x (hc.within y2 hx)
  simp at this
 ·obtain ⟨w1, ⟨b, m, e1, e2⟩, v, z, e3, e4⟩ := hok
  have ez : z = x := by simpa using e4
  subst ez
  generalize wayF nx (hasF c) (fun y => y == z) N ((nx last).filter (hasF c)) = back at *
  have hd : back.dropLast = v := by rw [e3]; simp
  rw [hd]
  refine ⟨⟨q ++ v, by rw [hq]; rfl⟩, ?_, fun i hi => ?_⟩
  ·rw [List.append_assoc, ← e3, e1, hp, List.append_assoc]
   refine IsWay.app m p ?_ ?_ (hin b e2).1 (hin b e2).2
   ·rw [← hp]; exact a.way
   ·rw [← e1]; exact w1
  ·obtain ⟨y, y1, y2⟩ := d i (List.mem_range.2 hi)
   exact ⟨y, List.mem_append_left _ y1, y2⟩
theorem reach_in {a b : Nat} (h : Reach nx a b) : ReachIn nx (fun _ => true) a b := by
 have key : ∀ x y, Reach nx x y → ReachIn nx (fun _ => true) a x → ReachIn nx (fun _ => true) a y := by
  intro x y hr
  induction hr with
  | refl _ => exact fun h => h
  | step e _ ih => exact fun h => ih (.snoc h e rfl)
 exact key a b h (.refl a)
theorem find_spec (hnx : ∀ x, x < N → ∀ y, y ∈ nx x → y < N) (hf : ∀ x, x ∈ frm → x < N) :
  match findF nx good N P frm with
  | none => ∀ x v, x ∈ frm → Reach nx x v → ¬ AccAt nx P good v
  | some (st, lp) => (∃ x r, lp = x :: r ∧ IsWay nx (fun _ => true) (st ++ lp ++ [x])) ∧ (∃ a r, st ++ lp = a :: r ∧ a ∈ frm) ∧ ∀ i, i < P → ∃ y, y ∈ lp ∧ good i y = true := by
 have h := settled_spec (P := P) (good := good) hnx frm hf
 unfold findF
 generalize settledF nx (settF nx P good) N frm = o at h ⊢
 cases o with
 | none => exact h
 | some c =>
  simp only
  simp only at h
  obtain ⟨a0, a1, _⟩ := h.acc
  obtain ⟨r0, r1, r2⟩ := h.root a0 a1
  rcases way_spec (inn := fun _ => true) (goal := hasF c) hnx hf with ⟨_, hno⟩ | hok
  ·have := hno r0 r1 a0 (reach_in r2)
   unfold hasF at this
   rw [a1] at this; cases this
  ·obtain ⟨w1, ⟨b, m, e1, e2⟩, v, z, e3, e4⟩ := hok
   generalize wayF nx (fun _ => true) (hasF c) N frm = stem at *
   have hd : stem.dropLast = v := by rw [e3]; simp
   have hl : stem.getLastD 0 = z := by rw [e3, last_app]
   rw [hd, hl]
   obtain ⟨⟨r, f1⟩, f2, f3⟩ := round_spec h hnx (x := z) e4
   generalize roundF nx (hasF c) good N P z = lp at *
   refine ⟨⟨z, r, f1, ?_⟩, ?_, f3⟩
   ·have f2' : IsWay nx (fun _ => true) (lp ++ [z]) := IsWay.imp (fun _ _ => rfl) _ f2
    rw [f1] at f2' ⊢
    rw [List.append_assoc]
    refine IsWay.join (x := z) (r ++ [z]) v ?_ f2'
    rw [← e3]; exact w1
   ·rw [f1]
    cases v with
    | nil =>
     rw [e1] at e3
     have e5 : b = z := by simpa using (List.cons.inj e3).1
     exact ⟨z, r, rfl, by rw [← e5]; exact e2⟩
    | cons a t =>
     rw [e1] at e3
     have e5 : b = a := (List.cons.inj e3).1
     exact ⟨a, t ++ z :: r, rfl, by rw [← e5]; exact e2⟩
end
end Go.Proofs.Ytapejnikpmfddaa.Sg
namespace Go.Proofs.Ytapejnikpmfddaa.Sg
section
variable {nx : Nat → List Nat} {inn goal : Nat → Bool} {good : Nat → Nat → Bool} {N P : Nat} {frm : List Nat} {c : List Bool}
theorem hunt_len (hnx : ∀ x, x < N → ∀ y, y ∈ nx x → y < N) : ∀ (k i : Nat) (s : List Int × List Nat), Hunt nx inn N frm s → (huntF nx inn goal N k i s).length ≤ N
 | 0, i, s, _ => Nat.zero_le _
 | k + 1, i, s, h => by
  unfold huntF
  by_cases hi : i < s.2.length
  ·rw [if_pos hi]
   have hle := h.le
   by_cases hg : goal (s.2.getD i 0) = true
   ·rw [if_pos hg]
    obtain ⟨l, l1, l2⟩ := h.tr i _ (getD_some hi)
    rw [l1.back N (by omega), List.length_reverse]
    omega
   ·rw [if_neg hg]
    exact hunt_len hnx k (i + 1) _ (spread_hunt hnx _ s (fun _ k => k) (List.mem_of_getElem? (getD_some hi)) h).1
  ·rw [if_neg hi]; exact Nat.zero_le _
theorem way_len (hnx : ∀ x, x < N → ∀ y, y ∈ nx x → y < N) (hf : ∀ x, x ∈ frm → x < N) : (wayF nx inn goal N frm).length ≤ N :=
 hunt_len hnx _ _ _ (seed_hunt (nx := nx) (inn := inn) hf frm _ (fun _ k => k) hunt0).1
theorem part_way (hc : GoodC nx N P good frm c) (hnx : ∀ x, x < N → ∀ y, y ∈ nx x → y < N) {x i : Nat} (hi : i < P) {out : List Nat} (h : Walk nx (hasF c) x out) :
  out.getLastD 0 < N ∧ ∃ m, wayF nx (hasF c) (good i) N [out.getLastD 0] = out.getLastD 0 :: m ∧ Walk nx (hasF c) x (out ++ m) := by
 obtain ⟨q, hq⟩ := h.head
 have hne : out ≠ [] := by rw [hq]; simp
 obtain ⟨p, hp⟩ := snoc_of_ne hne
 generalize out.getLastD 0 = last at *
 have hlin : hasF c last = true := h.mem last (by rw [hp]; simp)
 refine ⟨hc.lt last hlin, ?_⟩
 obtain ⟨a0, a1, a2⟩ := hc.acc
 obtain ⟨g, g1, g2, g3⟩ := a2.2 i hi
 have hgc := hc.full a0 g a1 g1 g2
 rcases way_spec (inn := hasF c) (goal := good i) hnx (frm := [last]) (fun y hy => by rw [List.mem_singleton.1 hy]; exact hc.lt last hlin) with ⟨_, hno⟩ | hok
 ·have := hno last (List.mem_singleton.2 rfl) g (hc.within hlin hgc)
  rw [g3] at this; cases this
 ·obtain ⟨w1, ⟨b, m, e1, e2⟩, v, z, e3, e4⟩ := hok
  generalize wayF nx (hasF c) (good i) N [last] = more at *
  rw [List.mem_singleton.1 e2] at e1
  refine ⟨m, e1, ?_, ⟨q ++ m, by rw [hq]; rfl⟩, fun y hy => ?_⟩
  ·rw [hp, List.append_assoc]
   refine IsWay.join (x := last) m p ?_ ?_
   ·rw [← hp]; exact h.way
   ·rw [← e1]; exact w1
  ·rcases List.mem_append.1 hy with k | k
   ·exact h.mem y k
   ·rw [e1] at w1; exact way_mem w1 y k
theorem back_way (hc : GoodC nx N P good frm c) (hnx : ∀ x, x < N → ∀ y, y ∈ nx x → y < N) {x : Nat} (hx : c.getD x false = true) {out : List Nat} (h : Walk nx (hasF c) x out) :
  out.getLastD 0 < N ∧ wayF nx (hasF c) (fun y => y == x) N ((nx (out.getLastD 0)).filter (hasF c)) ≠ [] := by
 obtain ⟨q, hq⟩ := h.head
 have hne : out ≠ [] := by rw [hq]; simp
 obtain ⟨p, hp⟩ := snoc_of_ne hne
 generalize out.getLastD 0 = last at *
 have hlin : hasF c last = true := h.mem last (by rw [hp]; simp)
 refine ⟨hc.lt last hlin, ?_⟩
 have hin : ∀ y, y ∈ (nx last).filter (hasF c) → y ∈ nx last ∧ hasF c y = true := fun y hy => List.mem_filter.1 hy
 rcases way_spec (inn := hasF c) (goal := fun y => y == x) hnx (frm := (nx last).filter (hasF c)) (fun y hy => hc.lt y (hin y hy).2) with ⟨_, hno⟩ | hok
 ·obtain ⟨y, y1, y2⟩ := acc_next hc hlin
  have := hno y (List.mem_filter.2 ⟨y1, y2⟩) x (hc.within y2 hx)
  simp at this
 ·obtain ⟨_, _, v, z, e3, _⟩ := hok
  rw [e3]; simp
theorem partsF_cons (nx : Nat → List Nat) (inn : Nat → Bool) (good : Nat → Nat → Bool) (N i : Nat) (r out : List Nat) : partsF nx inn good N (i :: r) out = partsF nx inn good N r (if out.any (good i) = true then out else out ++ (wayF nx inn (good i) N [out.getLastD 0]).tail) := rfl
end
end Go.Proofs.Ytapejnikpmfddaa.Sg
namespace Go.Proofs.Ytapejnikpmfddaa.X
open Go.RowKit Go.Proofs.YtapejnikpmfddaaW.PrintWords Go.Proofs.YtapejnikpmfddaaW.PrintLast Go.Proofs.YtapejnikpmfddaaW.PrintMore
open Go.Proofs.Ytapejnikpmfddaa.P Go.Proofs.Ytapejnikpmfddaa.Evx
def natV (n : Nat) : Value := .int .i64 (n : Int)
def natK : Kd Nat := Kd.scalar natV (fun _ => rfl)
theorem nat_at {w : World} {A : Option Addr} {n : Nat} {xs : List Nat} (h : Kd.C natK w A n xs) {j : Nat} (hj : j < n) : ∃ ad, A = some ad ∧ w.cell? (ad.add j) = some (.int .i64 ((xs.getD j 0 : Nat) : Int)) := by
 obtain ⟨ad, e, hc⟩ := (Kd.reads_of_C (d := 0) h).2.2 (by omega)
 exact ⟨ad, e, hc j hj⟩
theorem int_at {k : IntKind} {w : World} {A : Option Addr} {n : Nat} {xs : List Int} (h : Kd.C (Kd.int k) w A n xs) {j : Nat} (hj : j < n) : ∃ ad, A = some ad ∧ w.cell? (ad.add j) = some (.int k (xs.getD j 0)) := by
 obtain ⟨ad, e, hc⟩ := (Kd.reads_of_C (d := 0) h).2.2 (by omega)
 exact ⟨ad, e, hc j hj⟩
theorem bool_at {w : World} {A : Option Addr} {n : Nat} {xs : List Bool} (h : Kd.C Kd.bool w A n xs) {j : Nat} (hj : j < n) : ∃ ad, A = some ad ∧ w.cell? (ad.add j) = some (.bool (xs.getD j false)) := by
 obtain ⟨ad, e, hc⟩ := (Kd.reads_of_C (d := false) h).2.2 (by omega)
 exact ⟨ad, e, hc j hj⟩
theorem row_at {α : Type} {e : Nat} {d : Kd α} {w : World} {A : Option Addr} {n : Nat} {xs : List (List α)} (h : Kd.C (Kd.slice e d) w A n xs) {j : Nat} (hj : j < n) : ∃ ad A' c', A = some ad ∧ w.cell? (ad.add j) = some (.slice A' (xs.getD j []).length c') ∧ (xs.getD j []).length ≤ c' ∧ Kd.C d w A' (xs.getD j []).length (xs.getD j []) := by
 obtain ⟨ad, c, e, _, hK, hc0⟩ := Kd.C_get h ([] : List α) (j : Int) (by omega) (by omega)
 rw [Int.toNat_natCast] at hK hc0
 have hc : ∀ i u, c[i]? = some u → w.cell? (ad.add (j * 1 + i)) = some u := hc0
 obtain ⟨A0, c0, rfl, l0, g0⟩ := hK
 exact ⟨ad, A0, c0, e, by have hq := hc 0 _ rfl; rwa [Nat.mul_one, Nat.add_zero] at hq, l0, g0⟩
structure PD where
 ls : List Int
 ss : List Nat
 nxs : List (List Nat)
 s : S29
 size : Nat
 parts : List S81
 after : List (List Nat)
def prodCells (p : PD) (A0 A1 A2 A5 A7 A8 : Option Addr) (c0 c1 c2 c5 c7 c8 : Nat) : Array Value :=
 #[.slice A0 p.ls.length c0, .slice A1 p.ss.length c1, .slice A2 p.nxs.length c2, .int .i64 p.s.f0, .int .i64 p.s.f1, .slice A5 p.s.f2.length c5, .int .i64 (p.size : Int), .slice A7 p.parts.length c7, .slice A8 p.after.length c8]
structure ProdAt (w : World) (g : Nat) (p : PD) (A0 A1 A2 A5 A7 A8 : Option Addr) (c0 c1 c2 c5 c7 c8 : Nat) : Prop where
 blk : w.heap[g]? = some (.cells (prodCells p A0 A1 A2 A5 A7 A8 c0 c1 c2 c5 c7 c8) 79 (0, 0))
 l0 : p.ls.length ≤ c0
 l1 : p.ss.length ≤ c1
 l2 : p.nxs.length ≤ c2
 l5 : p.s.f2.length ≤ c5
 l7 : p.parts.length ≤ c7
 l8 : p.after.length ≤ c8
 h0 : Kd.C (Kd.int .u32) w A0 p.ls.length p.ls
 h1 : Kd.C natK w A1 p.ss.length p.ss
 h2 : Kd.C (Kd.slice 3 natK) w A2 p.nxs.length p.nxs
 h5 : Kd.C k29 w A5 p.s.f2.length p.s.f2
 h7 : Kd.C k81 w A7 p.parts.length p.parts
 h8 : Kd.C (Kd.slice 3 natK) w A8 p.after.length p.after
section
variable {w : World} {g : Nat} {p : PD} {A0 A1 A2 A5 A7 A8 : Option Addr} {c0 c1 c2 c5 c7 c8 : Nat}
theorem ProdAt.q0 (h : ProdAt w g p A0 A1 A2 A5 A7 A8 c0 c1 c2 c5 c7 c8) : w.cell? ⟨g, 0, none⟩ = some (.slice A0 p.ls.length c0) := (bq_ h.blk 0).trans rfl
theorem ProdAt.q1 (h : ProdAt w g p A0 A1 A2 A5 A7 A8 c0 c1 c2 c5 c7 c8) : w.cell? ⟨g, 1, none⟩ = some (.slice A1 p.ss.length c1) := (bq_ h.blk 1).trans rfl
theorem ProdAt.q2 (h : ProdAt w g p A0 A1 A2 A5 A7 A8 c0 c1 c2 c5 c7 c8) : w.cell? ⟨g, 2, none⟩ = some (.slice A2 p.nxs.length c2) := (bq_ h.blk 2).trans rfl
theorem ProdAt.q3 (h : ProdAt w g p A0 A1 A2 A5 A7 A8 c0 c1 c2 c5 c7 c8) : w.cell? ⟨g, 3, none⟩ = some (.int .i64 p.s.f0) := (bq_ h.blk 3).trans rfl
theorem ProdAt.q4 (h : ProdAt w g p A0 A1 A2 A5 A7 A8 c0 c1 c2 c5 c7 c8) : w.cell? ⟨g, 4, none⟩ = some (.int .i64 p.s.f1) := (bq_ h.blk 4).trans rfl
theorem ProdAt.q5 (h : ProdAt w g p A0 A1 A2 A5 A7 A8 c0 c1 c2 c5 c7 c8) : w.cell? ⟨g, 5, none⟩ = some (.slice A5 p.s.f2.length c5) := (bq_ h.blk 5).trans rfl
theorem ProdAt.q6 (h : ProdAt w g p A0 A1 A2 A5 A7 A8 c0 c1 c2 c5 c7 c8) : w.cell? ⟨g, 6, none⟩ = some (.int .i64 (p.size : Int)) := (bq_ h.blk 6).trans rfl
theorem ProdAt.q7 (h : ProdAt w g p A0 A1 A2 A5 A7 A8 c0 c1 c2 c5 c7 c8) : w.cell? ⟨g, 7, none⟩ = some (.slice A7 p.parts.length c7) := (bq_ h.blk 7).trans rfl
theorem ProdAt.q8 (h : ProdAt w g p A0 A1 A2 A5 A7 A8 c0 c1 c2 c5 c7 c8) : w.cell? ⟨g, 8, none⟩ = some (.slice A8 p.after.length c8) := (bq_ h.blk 8).trans rfl
end
def IsProd (w : World) (g : Nat) (p : PD) : Prop := ∃ A0 A1 A2 A5 A7 A8 c0 c1 c2 c5 c7 c8, ProdAt w g p A0 A1 A2 A5 A7 A8 c0 c1 c2 c5 c7 c8
section
variable {w w1 : World} {g : Nat} {p : PD}
theorem IsProd.below (h : IsProd w g p) (hb : Below w.heap.size w w1) : IsProd w1 g p := by
 obtain ⟨A0, A1, A2, A5, A7, A8, c0, c1, c2, c5, c7, c8, h⟩ := h
 exact ⟨A0, A1, A2, A5, A7, A8, c0, c1, c2, c5, c7, c8, (hb.block _ (blk_lt h.blk)).trans h.blk, h.l0, h.l1, h.l2, h.l5, h.l7, h.l8, Kd.C_below h.h0 hb, Kd.C_below h.h1 hb, Kd.C_below h.h2 hb, Kd.C_below h.h5 hb, Kd.C_below h.h7 hb, Kd.C_below h.h8 hb⟩
end
structure PD.Ok (p : PD) : Prop where
 n : p.ls.length ≤ 200
 nn : p.nxs.length = p.ls.length
 s0 : 0 < p.size
 s1 : p.size ≤ 256
 al : p.after.length = p.size * p.ls.length
 nx : ∀ v, v < p.ls.length → ∀ y, y ∈ p.nxs.getD v [] → y < p.ls.length
 nl : ∀ v, v < p.ls.length → (p.nxs.getD v []).length ≤ 200
 ax : ∀ x, x < p.after.length → ∀ t, t ∈ p.after.getD x [] → t < p.size
 an : ∀ x, x < p.after.length → (p.after.getD x []).length ≤ 256
 st : ∀ v, v ∈ p.ss → v < p.ls.length
 sl : p.ss.length ≤ 200
 pl : p.parts.length ≤ 8
def PD.N (p : PD) : Nat := p.size * p.ls.length
theorem PD.Ok.div {p : PD} (h : p.Ok) {x : Nat} (hx : x < p.N) : x / p.size < p.ls.length := by
 rw [Nat.div_lt_iff_lt_mul h.s0, Nat.mul_comm]; exact hx
theorem PD.Ok.N_le {p : PD} (h : p.Ok) : p.N ≤ 51200 := by
 have h1 := h.n
 have h2 := h.s1
 exact Nat.le_trans (Nat.mul_le_mul h2 h1) (by decide)
def PD.good (p : PD) (i x : Nat) : Bool := goodF p.s i ((x % p.size : Nat) : Int) (p.ls.getD (x / p.size) 0)
theorem w64n {n : Nat} (h : n < 9223372036854775808) : wrap64 (n : Int) = (n : Int) := w64 (by omega) (by omega)
theorem div_nat {a b : Nat} : (a : Int) / (b : Int) = ((a / b : Nat) : Int) := rfl
theorem mod_nat {a b : Nat} : (a : Int) % (b : Int) = ((a % b : Nat) : Int) := rfl
theorem tdiv_nat (a b : Nat) : Int.tdiv (a : Int) (b : Int) = ((a / b : Nat) : Int) := rfl
theorem tmod_nat (a b : Nat) : Int.tmod (a : Int) (b : Int) = ((a % b : Nat) : Int) := rfl
theorem good_calls (p : PD) (g i x : Nat) (w : World) (h : IsProd w g p) (hok : p.Ok) (hx : x < p.N) :
  Calls Try.prog 69 #[.pointer (some ⟨g, 0, none⟩), .int .i64 (i : Int), .int .i64 (x : Int)] w fun e w' => e = .returned (.bool (p.good i x)) ∧ Below w.heap.size w w' := by
 obtain ⟨A0, A1, A2, A5, A7, A8, c0, c1, c2, c5, c7, c8, h⟩ := h
 have huF := Try.underlying29
 have huP := Try.underlying79
 have huK := Try.underlying26
 have huu := Try.underlying22
 have q0 := h.q0
 have q3 := h.q3
 have q4 := h.q4
 have q5 := h.q5
 have q6 := h.q6
 have hd := hok.div hx
 have HGF := Zd.mk (show p.good i x = goodF p.s i ((x % p.size : Nat) : Int) (p.ls.getD (x / p.size) 0) from rfl)
 have ed := div_nat (a := x) (b := p.size)
 have em := mod_nat (a := x) (b := p.size)
 have em2 := tmod_nat x p.size
 generalize x / p.size = q at *
 generalize x % p.size = r at *
 obtain ⟨ad, rfl, ql⟩ := int_at h.h0 hd
 have HG := Zd.mk (fun W (hb : Below w.heap.size w W) => Good_calls p.s (i : Int) (r : Int) (p.ls.getD q 0) A5 c5 W (Kd.C_below h.h5 hb) h.l5)
 have e1 : ¬ p.size = 0 := by have := hok.s0; omega
 have ed1 : IntKind.i64.wrap ((x : Int) / (p.size : Int)) = (q : Int) := by
  rw [ed]; exact (i64_w _).trans (w64n (by have := hok.n; omega))
 have hd1 : (q : Int) < (p.ls.length : Int) := Int.ofNat_lt.2 hd
 generalize p.ls.getD q 0 = lt at *
 clear h ed
 go_enter Try.func69, Try.ntmps69
 go_wp2
 go_still_tail 24, (by kernel_rfl)
 change wpList _ _ _ _ _ w.drew
 have HB2 := Zd.mk (show Below w.heap.size w w.drew from below_drew1 (Below.refl _ _))
 generalize w.drew = w2 at *
 go_wp2_with (go_at_call 90; refine (HG.out _ HB2.out).mono ?_; rintro e_ w3 ⟨rfl, hB⟩; have HB3 := Zd.mk (HB2.out.trans (hB.mono HB2.out.size)); clear hB)
 go_ret
 exact ⟨by rw [HGF.out]; rfl, HB3.out⟩
theorem wsmall {n : Nat} (h : n < 200000) : wrap64 (n : Int) = (n : Int) := w64n (by omega)
theorem wsmall2 {a b : Nat} (h : a + b < 200000) : wrap64 ((a : Int) + (b : Int)) = ((a + b : Nat) : Int) := by rw [← Int.natCast_add]; exact wsmall h
theorem wmul {a b : Nat} (h : a * b < 200000) : wrap64 ((a : Int) * (b : Int)) = ((a * b : Nat) : Int) := by rw [← Int.natCast_mul]; exact wsmall h
theorem infoI : (Try.prog.info? 3).map (fun i => (i.zero, i.size, i.bytes)) = some (some (.int .i64 0), 1, 8) := by kernel_rfl
def PD.nextRow (p : PD) (s v : Nat) : List Nat := (p.after.getD (v * p.size + s) []).map (fun t => v * p.size + t)
def PD.next (p : PD) (x : Nat) : List Nat := (p.nxs.getD (x / p.size) []).flatMap (p.nextRow (x % p.size))
theorem take_flat {α : Type} (f : Nat → List α) (l : List Nat) (j : Nat) (h : j < l.length) : (l.take (j + 1)).flatMap f = (l.take j).flatMap f ++ f (l.getD j 0) := by
 rw [List.take_succ_eq_append_getElem h, List.flatMap_append, List.getD_eq_getElem?_getD, List.getElem?_eq_getElem h]
 simp
theorem take_mapN {α : Type} (f : Nat → α) (l : List Nat) (j : Nat) (h : j < l.length) : (l.take (j + 1)).map f = (l.take j).map f ++ [f (l.getD j 0)] := by
 rw [List.take_succ_eq_append_getElem h, List.map_append, List.getD_eq_getElem?_getD, List.getElem?_eq_getElem h]
 simp
theorem flat_len {α : Type} {f : Nat → List α} {m : Nat} : ∀ (l : List Nat), (∀ x, x ∈ l → (f x).length ≤ m) → (l.flatMap f).length ≤ l.length * m
 | [], _ => by simp
 | a :: r, h => by
  rw [List.flatMap_cons, List.length_append, List.length_cons, Nat.add_mul, Nat.one_mul]
  have h1 := h a (List.mem_cons_self ..)
  have h2 := flat_len r (fun x hx => h x (List.mem_cons_of_mem _ hx))
  omega
theorem getD_mem {l : List Nat} {j : Nat} (h : j < l.length) : l.getD j 0 ∈ l := by
 rw [List.getD_eq_getElem?_getD, List.getElem?_eq_getElem h]
 exact List.getElem_mem h
section
variable {p : PD} (hok : p.Ok)
include hok
theorem PD.Ok.at_ {v s : Nat} (hv : v < p.ls.length) (hs : s < p.size) : v * p.size + s < p.after.length := by
 rw [hok.al]
 have h1 : (v + 1) * p.size ≤ p.ls.length * p.size := Nat.mul_le_mul_right _ hv
 rw [Nat.add_mul, Nat.one_mul] at h1
 rw [Nat.mul_comm p.size]
 omega
theorem PD.Ok.row_len {v s : Nat} (hv : v < p.ls.length) (hs : s < p.size) : (p.nextRow s v).length ≤ 256 := by
 unfold PD.nextRow
 rw [List.length_map]
 exact hok.an _ (hok.at_ hv hs)
theorem PD.Ok.flat_le {x j : Nat} (hx : x < p.N) : (((p.nxs.getD (x / p.size) []).take j).flatMap (p.nextRow (x % p.size))).length ≤ 51200 := by
 have hd := hok.div hx
 have h1 := flat_len (f := p.nextRow (x % p.size)) (m := 256) ((p.nxs.getD (x / p.size) []).take j) (fun v hv => hok.row_len (hok.nx _ hd v (List.mem_of_mem_take hv)) (Nat.mod_lt _ hok.s0))
 have h2 : ((p.nxs.getD (x / p.size) []).take j).length ≤ 200 := Nat.le_trans (by rw [List.length_take]; exact Nat.min_le_right _ _) (hok.nl _ hd)
 exact Nat.le_trans h1 (Nat.le_trans (Nat.mul_le_mul_right _ h2) (by decide))
theorem PD.Ok.next_lt {x y : Nat} (hx : x < p.N) (hy : y ∈ p.next x) : y < p.N := by
 obtain ⟨v, hv, hy⟩ := List.mem_flatMap.1 hy
 obtain ⟨t, ht, e⟩ := List.mem_map.1 hy
 have hvl := hok.nx _ (hok.div hx) v hv
 have htl := hok.ax _ (hok.at_ hvl (Nat.mod_lt x hok.s0)) t ht
 have := hok.at_ hvl htl
 rw [hok.al] at this
 unfold PD.N
 omega
end
theorem next_walk (p : PD) (g x : Nat) (w : World) (h : IsProd w g p) (hok : p.Ok) (hx : x < p.N) :
  Calls Try.prog 66 #[.pointer (some ⟨g, 0, none⟩), .int .i64 (x : Int)] w fun e w' => ∃ v, e = .returned v ∧ Kd.R natK 3 w' w.heap.size (fun _ => True) v (p.next x) ∧ Below w.heap.size w w' := by
 obtain ⟨A0, A1, A2, A5, A7, A8, c0, c1, c2, c5, c7, c8, h⟩ := h
 have huP := Try.underlying79
 have huK := Try.underlying26
 have hui := Try.underlying23
 have huii := Try.underlying24
 have q2 := h.q2
 have q6 := h.q6
 have q8 := h.q8
 have hd := hok.div hx
 have HFL := Zd.mk (fun j => hok.flat_le (j := j) hx)
 have HMOD := Zd.mk (Nat.mod_lt x hok.s0)
 have HNE := Zd.mk (show p.next x = (p.nxs.getD (x / p.size) []).flatMap (p.nextRow (x % p.size)) from rfl)
 have ed := div_nat (a := x) (b := p.size)
 have em := mod_nat (a := x) (b := p.size)
 have em2 := tmod_nat x p.size
 generalize x / p.size = q at *
 generalize x % p.size = s at *
 obtain ⟨ad2, A, c, rfl, qr, hl, hr⟩ := row_at h.h2 (j := q) (by rw [hok.nn]; exact hd)
 have hN := hok.N_le
 have hnv := hok.nl _ hd
 have HOK := Zd.mk hok
 have H8 := Zd.mk h.h8
 have HR := Zd.mk hr
 have HNX := Zd.mk (hok.nx _ hd)
 have hs1 := hok.s1
 have hlen := hok.n
 have e1 : ¬ p.size = 0 := by have := hok.s0; omega
 have ed1 : IntKind.i64.wrap ((x : Int) / (p.size : Int)) = (q : Int) := by
  rw [ed]; exact (i64_w _).trans (w64n (by omega))
 have hd1 : (q : Int) < (p.nxs.length : Int) := Int.ofNat_lt.2 (by rw [hok.nn]; exact hd)
 have hms : s < 256 := by have := HMOD.out; omega
 clear hok hr h ed
 generalize p.nxs.getD q [] = row at *
 go_enter Try.func66, Try.ntmps66
 go_wp2
 go_quiet (fail)
 go_wp2
 go_loopg [7, 33] row.length (fun kq v7 v33 w' => ∃ j : Nat, j + kq = row.length ∧ v33 = .int .i64 (j : Int) ∧ Zd (Kd.R natK 3 w' w.heap.size (fun _ => True) v7 ((row.take j).flatMap (p.nextRow s))) ∧ Zd (Below w.heap.size w w'))
 case atStart => exact ⟨0, by omega, rfl, ⟨Kd.R_nil _ _ _ _ _⟩, ⟨pd_ (Below.refl _ _) _⟩⟩
 case round =>
  obtain ⟨WW, rfl⟩ : ∃ W : World, W = wr := ⟨_, rfl⟩
  obtain ⟨j, hj, rfl, HV, HB⟩ := hrel
  obtain ⟨k1, hk1⟩ : ∃ k, k = gk := ⟨_, rfl⟩
  rw [← hk1] at hj
  have HJ := Zd.mk hj
  have HK1 := Zd.mk hk1
  clear hj hk1
  by_cases hlt : j < row.length
  ·have hjl : ((j : Nat) : Int) < (row.length : Int) := by omega
   obtain ⟨adr, rfl, qj⟩ := nat_at HR.out hlt
   have hvn := HNX.out _ (getD_mem hlt)
   have HTF := Zd.mk (take_flat (p.nextRow s) row j hlt)
   generalize row.getD j 0 = v at *
   have hal := HOK.out.at_ hvn HMOD.out
   obtain ⟨ad8, Aa, ca, rfl, qa, hla, hra⟩ := row_at H8.out hal
   have hvs : v * p.size + s < 51200 := by have := HOK.out.al; have h1 := HOK.out.N_le; unfold PD.N at h1; omega
   have HAX := Zd.mk (HOK.out.ax _ hal)
   have HAN := Zd.mk (HOK.out.an _ hal)
   have HRA := Zd.mk hra
   have ew1 := wmul (a := v) (b := p.size) (Nat.lt_of_le_of_lt (Nat.le_add_right _ s) (Nat.lt_trans hvs (by decide)))
   have ew3 : IntKind.i64.wrap (((v * p.size : Nat) : Int) + (s : Int)) = ((v * p.size + s : Nat) : Int) := (i64_w _).trans (wsmall2 (Nat.lt_trans hvs (by decide)))
   have hb1 : ((v * p.size + s : Nat) : Int) < (p.after.length : Int) := Int.ofNat_lt.2 hal
   have HNR := Zd.mk (show p.nextRow s v = (p.after.getD (v * p.size + s) []).map (fun t => v * p.size + t) from rfl)
   have hmm : v * p.size < 51200 := Nat.lt_of_le_of_lt (Nat.le_add_right _ s) hvs
   clear hra hal
   generalize p.after.getD (v * p.size + s) [] = ar at *
   generalize v * p.size + s = a at *
   generalize v * p.size = m at *
   have ew2 : IntKind.i64.wrap ((v : Int) * (p.size : Int)) = (m : Int) := (i64_w _).trans ew1
   have qj' := pb_ HB.out qj
   have qa' := pb_ HB.out qa
   have q6' := pb_ HB.out q6
   have q8' := pb_ HB.out q8
   have har : ar.length ≤ 256 := HAN.out
   have hlf := HFL.out j
   obtain ⟨done, hdn⟩ : ∃ q, q = (row.take j).flatMap (p.nextRow s) := ⟨_, rfl⟩
   rw [← hdn] at HV hlf
   have HDN := Zd.mk hdn
   clear hdn
   go_wp2
   go_quiet (fail)
   go_wp2
   go_loopg [7, 52] ar.length (fun kq v7 v52 w' => ∃ i : Nat, i + kq = ar.length ∧ v52 = .int .i64 (i : Int) ∧ Zd (Kd.R natK 3 w' w.heap.size (fun _ => True) v7 (done ++ (ar.take i).map (fun t => m + t))) ∧ Zd (Below w.heap.size w w'))
   case atStart => exact ⟨0, by omega, rfl, ⟨by rw [List.take_zero, List.map_nil, List.append_nil]; exact Kd.R_drewN HV.out _⟩, ⟨pd_ HB.out _⟩⟩
   case round =>
    obtain ⟨WX, rfl⟩ : ∃ W : World, W = wr := ⟨_, rfl⟩
    obtain ⟨i, hi, rfl, HV2, HB2⟩ := hrel
    have HI := Zd.mk hi
    clear hi
    by_cases hli : i < ar.length
    ·have hil : ((i : Nat) : Int) < (ar.length : Int) := by omega
     obtain ⟨ada, rfl, qi⟩ := nat_at HRA.out hli
     have htn := HAX.out _ (getD_mem hli)
     have HTM := Zd.mk (take_mapN (fun t => m + t) ar i hli)
     generalize ar.getD i 0 = t at *
     have qi' := pb_ HB2.out qi
     have q6'' := pb_ HB2.out q6
     have hvt : m + t < 102400 := by omega
     have hlm : (done ++ (ar.take i).map (fun t => m + t)).length ≤ 51456 := by rw [List.length_append, List.length_map, List.length_take]; omega
     obtain ⟨sofar, hsf⟩ : ∃ q, q = done ++ (ar.take i).map (fun t => m + t) := ⟨_, rfl⟩
     rw [← hsf] at HV2 hlm
     have HSF := Zd.mk hsf
     clear hsf
     go_wp2_with ((with_reducible refine gate_builtin (b := .append) (xs := #[.tmp 56, .tmp 65]) rfl ?_); at_builtin; refine Kd.R_append natK (w0 := w) w.heap.size rfl (.tmp 56) (.tmp 65) 23 3 (.int .i64 0) 8 rfl hui infoI rfl (by decide) (by omega) u7 sofar (m + t) [.int .i64 ((m + t : Nat) : Int)] (fun _ => True) (fun _ => False) rfl rfl ?aP (fun _ hk => hk.elim) ?aF ?aO ?aB ?aS ?aL ?_; (case aP => exact rfl); (case aF => exact (fun _ _ => trivial)); (case aO => exact (by (with_reducible repeat (first | apply Kd.R_alloc | apply Kd.R_drewN | apply Kd.R_drew)); exact HV2.out)); (case aB => exact (by repeat (first | (with_reducible first | exact HB2.out | apply below_alloc) | exact HB2.out))); (case aS => exact (by have := HB2.out.size; simp; omega)); (case aL => omega); intro v9 w9 ho hb hg hat; have HV3 := Zd.mk ho; have HB3 := Zd.mk hb; clear ho hb hg hat)
     go_roundg (gk - 1)
     case measure => have := HI.out; omega
     case rel => exact ⟨i + 1, by have := HI.out; omega, by go_num, ⟨by rw [HTM.out, ← List.append_assoc, ← HSF.out]; exact HV3.out⟩, HB3⟩
    ·have hil : ¬ ((i : Nat) : Int) < (ar.length : Int) := by omega
     have htk : ar.take i = ar := List.take_of_length_le (by omega)
     have HV4 := Zd.mk (show Kd.R natK 3 WX w.heap.size (fun _ => True) u7 ((row.take (j + 1)).flatMap (p.nextRow s)) from by rw [HTF.out, ← HDN.out, HNR.out, ← htk]; exact HV2.out)
     clear htk
     go_wp2
     go_roundg (k1 - 1)
     case measure => have := HJ.out; have := HK1.out; omega
     case rel => exact ⟨j + 1, by have := HJ.out; omega, by go_num, HV4, HB2⟩
  ·have hjl : ¬ ((j : Nat) : Int) < (row.length : Int) := by omega
   have htk : row.take j = row := List.take_of_length_le (by omega)
   have HV4 := Zd.mk (show Kd.R natK 3 WW w.heap.size (fun _ => True) u7 (p.next x) from by rw [HNE.out, ← htk]; exact HV.out)
   clear htk
   go_wp2
   go_ret
   exact ⟨_, rfl, HV4.out, HB.out⟩
structure PredFn (k : FuncId) (first cap : Array Value) (f : Nat → Bool) (N : Nat) (w : World) : Prop where
 enters : ∀ args w, (callFunc k args).run Try.prog w = .ok (.enter k args) w
 tells : ∀ W, Below w.heap.size w W → ∀ (x : Nat), x < N → Calls Try.prog k (first.push (.int .i64 (x : Int)) ++ cap) W fun e W' => e = .returned (.bool (f x)) ∧ Below W.heap.size W W'
theorem PredFn.below {k : FuncId} {first cap : Array Value} {f : Nat → Bool} {N : Nat} {w w1 : World} (h : PredFn k first cap f N w) (hb : Below w.heap.size w w1) : PredFn k first cap f N w1 :=
 ⟨h.enters, fun W hW x hx => h.tells W (hb.trans (hW.mono hb.size)) x hx⟩
def idxF (f : Nat → Bool) : List Nat → Nat → Int
 | [], _ => -1
 | a :: r, i => if f a = true then (i : Int) else idxF f r (i + 1)
theorem idxF_skip {f : Nat → Bool} : ∀ (p r : List Nat) (i : Nat), (∀ x, x ∈ p → f x = false) → idxF f (p ++ r) i = idxF f r (i + p.length)
 | [], r, i, _ => rfl
 | a :: p, r, i, h => by
  have h1 := h a (List.mem_cons_self ..)
  rw [List.cons_append, idxF, h1, if_neg (by simp), idxF_skip p r (i + 1) (fun x hx => h x (List.mem_cons_of_mem _ hx)), List.length_cons]
  congr 1
  omega
theorem idxF_at {f : Nat → Bool} {l : List Nat} {j : Nat} (hj : j < l.length) (h : ∀ x, x ∈ l.take j → f x = false) (ht : f (l.getD j 0) = true) : idxF f l 0 = (j : Int) := by
 have e : l = l.take j ++ l.getD j 0 :: l.drop (j + 1) := by
  rw [List.getD_eq_getElem?_getD, List.getElem?_eq_getElem hj]
  show l = l.take j ++ l[j] :: l.drop (j + 1)
  rw [← List.drop_eq_getElem_cons hj, List.take_append_drop]
 rw [e, idxF_skip _ _ 0 h, idxF, ht, if_pos rfl, List.length_take]
 omega
theorem idxF_none {f : Nat → Bool} {l : List Nat} (h : ∀ x, x ∈ l → f x = false) : idxF f l 0 = -1 := by
 have := idxF_skip l [] 0 h
 rw [List.append_nil] at this
 rw [this]; rfl
theorem idxF_any {f : Nat → Bool} : ∀ (l : List Nat) (i : Nat), decide (idxF f l i ≥ 0) = l.any f
 | [], i => rfl
 | a :: r, i => by
  rw [idxF, List.any_cons]
  cases h : f a with
  | true => rw [if_pos rfl]; simp
  | false => rw [if_neg (by simp), idxF_any r (i + 1)]; simp
theorem take_snocN {l : List Nat} {j : Nat} (h : j < l.length) : l.take (j + 1) = l.take j ++ [l.getD j 0] := by
 rw [List.take_succ_eq_append_getElem h, List.getD_eq_getElem?_getD, List.getElem?_eq_getElem h]; rfl
theorem take_all {P : Nat → Prop} {l : List Nat} {j : Nat} (h : j < l.length) (h1 : ∀ x, x ∈ l.take j → P x) (h2 : P (l.getD j 0)) : ∀ x, x ∈ l.take (j + 1) → P x := by
 intro x hx
 rw [take_snocN h] at hx
 rcases List.mem_append.1 hx with e | e
 ·exact h1 x e
 ·rw [List.mem_singleton.1 e]; exact h2
theorem IndexFunc_calls (k : FuncId) (first cap : Array Value) (f : Nat → Bool) (N : Nat) (A : Option Addr) (c : Nat) (l : List Nat) (w : World) (hp : PredFn k first cap f N w) (hr : Kd.C natK w A l.length l) (hl : ∀ x, x ∈ l → x < N) (hb : l.length < 1000000000) :
  Calls Try.prog 89 #[.slice A l.length c, .func (.func k) first cap] w fun e w' => e = .returned (.int .i64 (idxF f l 0)) ∧ Below w.heap.size w w' := by
 have hui := Try.underlying23
 have he := hp.enters
 have HP := Zd.mk hp
 have HR := Zd.mk hr
 have HL := Zd.mk hl
 clear hp hr hl
 go_enter Try.func89, Try.ntmps89
 go_wp2
 go_loopg [8] l.length (fun kq v8 w' => ∃ j : Nat, j + kq = l.length ∧ v8 = .int .i64 (j : Int) ∧ Zd (∀ x, x ∈ l.take j → f x = false) ∧ Zd (Below w.heap.size w w'))
 case atStart => exact ⟨0, by omega, rfl, ⟨fun x hx => by simp at hx⟩, ⟨Below.refl _ _⟩⟩
 case round =>
  obtain ⟨WW, rfl⟩ : ∃ W : World, W = wr := ⟨_, rfl⟩
  obtain ⟨j, hj, rfl, HF, HB⟩ := hrel
  have HJ := Zd.mk hj
  clear hj
  by_cases hlt : j < l.length
  ·have hjl : ((j : Nat) : Int) < (l.length : Int) := by omega
   obtain ⟨ad, rfl, qj⟩ := nat_at HR.out hlt
   have qj' := pb_ HB.out qj
   have HC := Zd.mk (HP.out.tells WW HB.out _ (HL.out _ (getD_mem hlt)))
   have HAT := Zd.mk (fun h => idxF_at hlt HF.out h)
   have HTK := Zd.mk (fun h => take_all hlt HF.out h)
   generalize l.getD j 0 = x at *
   cases hfx : f x with
   | true =>
    rw [hfx] at HC
    have HA2 := Zd.mk (HAT.out hfx)
    clear hfx HTK HAT
    go_wp2_with ((with_reducible refine HC.out.mono ?_); rintro e w4 ⟨rfl, hB4⟩; have HB4 := Zd.mk (HB.out.trans (hB4.mono HB.out.size)); clear hB4)
    go_ret
    exact ⟨by rw [HA2.out]; rfl, HB4.out⟩
   | false =>
    rw [hfx] at HC
    have HA2 := Zd.mk (HTK.out hfx)
    clear hfx HTK HAT
    go_wp2_with ((with_reducible refine HC.out.mono ?_); rintro e w4 ⟨rfl, hB4⟩; have HB4 := Zd.mk (HB.out.trans (hB4.mono HB.out.size)); clear hB4)
    go_roundg (gk - 1)
    case measure => have := HJ.out; omega
    case rel => exact ⟨j + 1, by have := HJ.out; omega, by go_num, HA2, HB4⟩
  ·have hjl : ¬ ((j : Nat) : Int) < (l.length : Int) := by omega
   have HN := Zd.mk (idxF_none (f := f) (l := l) (by have := HF.out; rwa [List.take_of_length_le (by omega)] at this))
   go_wp2
   go_ret
   exact ⟨by rw [HN.out]; rfl, HB.out⟩
theorem ContainsFunc_calls (k : FuncId) (first cap : Array Value) (f : Nat → Bool) (N : Nat) (A : Option Addr) (c : Nat) (l : List Nat) (w : World) (hp : PredFn k first cap f N w) (hr : Kd.C natK w A l.length l) (hl : ∀ x, x ∈ l → x < N) (hb : l.length < 1000000000) :
  Calls Try.prog 67 #[.slice A l.length c, .func (.func k) first cap] w fun e w' => e = .returned (.bool (l.any f)) ∧ Below w.heap.size w w' := by
 have HI := Zd.mk (IndexFunc_calls k first cap f N A c l w hp hr hl hb)
 have HA := Zd.mk (idxF_any (f := f) l 0)
 clear hp hr hl
 go_enter Try.func67, Try.ntmps67
 generalize idxF f l 0 = i at *
 go_wp2_with (go_at_call 89; refine HI.out.mono ?_; rintro e w4 ⟨rfl, hB4⟩; have HB4 := Zd.mk hB4; clear hB4)
 go_ret
 exact ⟨by rw [← HA.out]; rfl, HB4.out⟩
def IsComp (w : World) (g : Nat) (c : List Bool) : Prop := ∃ A k, w.heap[g]? = some (.cells #[.slice A c.length k] 108 (0, 0)) ∧ Kd.C Kd.bool w A c.length c
theorem IsComp.below {w w1 : World} {g : Nat} {c : List Bool} (h : IsComp w g c) (hb : Below w.heap.size w w1) : IsComp w1 g c := by
 obtain ⟨A, k, h1, h2⟩ := h
 exact ⟨A, k, (hb.block _ (blk_lt h1)).trans h1, Kd.C_below h2 hb⟩
theorem has_walk (g x : Nat) (c : List Bool) (w : World) (h : IsComp w g c) (hx : x < c.length) :
  Calls Try.prog 49 #[.pointer (some ⟨g, 0, none⟩), .int .i64 (x : Int)] w fun e w' => e = .returned (.bool (Sg.hasF c x)) ∧ Below w.heap.size w w' := by
 obtain ⟨A, k, h1, h2⟩ := h
 have hub := Try.underlying67
 have huc := Try.underlying108
 have q0 : w.cell? ⟨g, 0, none⟩ = some (.slice A c.length k) := (bq_ h1 0).trans rfl
 obtain ⟨ad, rfl, qx⟩ := bool_at h2 hx
 have hxl : (x : Int) < (c.length : Int) := by omega
 have HE := Zd.mk (show Sg.hasF c x = c.getD x false from rfl)
 generalize c.getD x false = b at *
 clear h1 h2
 go_enter Try.func49, Try.ntmps49
 go_wp2
 go_ret
 exact ⟨by rw [HE.out]; rfl, Below.refl _ _⟩
def sst.T8 : Bool × List (List Nat × List Nat) := (true, [([], []), ([0], [0]), ([1], [1]), ([2], [2]), ([], []), ([], []), ([5], [5]), ([6], [6]), ([7], [7]), ([8], [8]), ([], []), ([9, 10], [9, 10]), ([11], [11]), ([3, 4, 12], [3, 4, 12]), ([], []), ([13, 14], [13, 14])])
def sst.B8 : List Nat := [0, 1, 3, 7, 0, 0, 32, 96, 224, 480, 0, 2016, 4064, 8191, 0, 32767]
theorem sst.tab8 : rtab .any (opsOf Try.f45 8) = sst.T8 := by kernel_rfl
theorem sst.bits8 : waitsOk sst.T8.2 sst.B8 = true := by kernel_rfl
def PD.vert (p : PD) (x : Nat) : Nat := x / p.size
theorem vertices_walk (p : PD) (g : Nat) (A : Option Addr) (c : Nat) (l : List Nat) (w : World) (h : IsProd w g p) (hok : p.Ok) (hr : Kd.C natK w A l.length l) (hl : ∀ x, x ∈ l → x < 100000) (hb : l.length < 1000000000) :
  Calls Try.prog 50 #[.pointer (some ⟨g, 0, none⟩), .slice A l.length c] w fun e w' => ∃ v, e = .returned v ∧ Kd.R natK 3 w' w.heap.size (fun _ => True) v (l.map p.vert) ∧ Below w.heap.size w w' := by
 obtain ⟨A0, A1, A2, A5, A7, A8, c0, c1, c2, c5, c7, c8, h⟩ := h
 have huP := Try.underlying79
 have hui := Try.underlying23
 have q6 := h.q6
 have e1 : ¬ p.size = 0 := by have := hok.s0; omega
 have HR := Zd.mk hr
 have HL := Zd.mk hl
 clear h hok hr hl
 go_enter Try.func50, Try.ntmps50
 go_wp2
 go_loopg [5, 10] l.length (fun kq v5 v10 w' => ∃ j : Nat, j + kq = l.length ∧ v10 = .int .i64 (j : Int) ∧ Zd (Kd.R natK 3 w' w.heap.size (fun _ => True) v5 ((l.take j).map p.vert)) ∧ Zd (Below w.heap.size w w'))
 case atStart => exact ⟨0, by omega, rfl, ⟨Kd.R_nil _ _ _ _ _⟩, ⟨Below.refl _ _⟩⟩
 case round =>
  obtain ⟨WW, rfl⟩ : ∃ W : World, W = wr := ⟨_, rfl⟩
  obtain ⟨j, hj, rfl, HV, HB⟩ := hrel
  have HJ := Zd.mk hj
  clear hj
  by_cases hlt : j < l.length
  ·have hjl : ((j : Nat) : Int) < (l.length : Int) := by omega
   obtain ⟨ad, rfl, qj⟩ := nat_at HR.out hlt
   have qj' := pb_ HB.out qj
   have q6' := pb_ HB.out q6
   have HTM := Zd.mk (take_mapN p.vert l j hlt)
   have HX := Zd.mk (HL.out _ (getD_mem hlt))
   generalize l.getD j 0 = x at *
   have HQ : Zd (p.vert x = x / p.size) := ⟨rfl⟩
   have hq : x / p.size < 200000 := Nat.lt_of_le_of_lt (Nat.div_le_self _ _) (Nat.lt_trans HX.out (by decide))
   have ed := div_nat (a := x) (b := p.size)
   have ed3 := tdiv_nat x p.size
   generalize x / p.size = q at *
   have ed1 : wrap64 ((x : Int) / (p.size : Int)) = (q : Int) := by rw [ed]; exact wsmall hq
   have ed2 : wrap64 (Int.tdiv (x : Int) (p.size : Int)) = (q : Int) := by rw [ed3]; exact wsmall hq
   have hlm : ((l.take j).map p.vert).length < 1000000000 := by rw [List.length_map, List.length_take]; omega
   obtain ⟨sofar, hsf⟩ : ∃ q, q = (l.take j).map p.vert := ⟨_, rfl⟩
   rw [← hsf] at HV hlm HTM
   clear hsf ed ed3
   go_wp2_with ((with_reducible refine gate_builtin (b := .append) (xs := #[.tmp 14, .tmp 21]) rfl ?_); at_builtin; refine Kd.R_append natK (w0 := w) w.heap.size rfl (.tmp 14) (.tmp 21) 23 3 (.int .i64 0) 8 rfl hui infoI rfl (by decide) (by omega) u5 sofar q [.int .i64 (q : Int)] (fun _ => True) (fun _ => False) rfl rfl ?aP (fun _ hk => hk.elim) ?aF ?aO ?aB ?aS ?aL ?_; (case aP => exact rfl); (case aF => exact (fun _ _ => trivial)); (case aO => exact (by (with_reducible repeat (first | apply Kd.R_alloc | apply Kd.R_drewN | apply Kd.R_drew)); exact HV.out)); (case aB => exact (by repeat (first | (with_reducible first | exact HB.out | apply below_alloc) | exact HB.out))); (case aS => exact (by have := HB.out.size; simp; omega)); (case aL => omega); intro v9 w9 ho hb hg hat; have HV3 := Zd.mk ho; have HB3 := Zd.mk hb; clear ho hb hg hat)
   go_roundg (gk - 1)
   case measure => have := HJ.out; omega
   case rel => exact ⟨j + 1, by have := HJ.out; omega, by go_num, ⟨by rw [HTM.out, HQ.out]; exact HV3.out⟩, HB3⟩
  ·have hjl : ¬ ((j : Nat) : Int) < (l.length : Int) := by omega
   have HV4 := Zd.mk (show Kd.R natK 3 WW w.heap.size (fun _ => True) u5 (l.map p.vert) from by have := HV.out; rwa [List.take_of_length_le (by omega)] at this)
   go_wp2
   go_ret
   exact ⟨_, rfl, HV4.out, HB.out⟩
def PD.value (p : PD) (v s : Nat) : Bool := valueF p.s (s : Int) (p.ls.getD v 0)
def PD.startRow (p : PD) (want : Bool) (v : Nat) : List Nat := ((List.range p.size).filter (fun s => p.value v s == want)).map (fun s => v * p.size + s)
def PD.starts (p : PD) (want : Bool) : List Nat := p.ss.flatMap (p.startRow want)
theorem startRow_step (f : Nat → Bool) (g : Nat → Nat) (i : Nat) : ((List.range (i + 1)).filter f).map g = ((List.range i).filter f).map g ++ (if f i = true then [g i] else []) := by
 rw [List.range_succ, List.filter_append, List.map_append]
 congr 1
 cases h : f i <;> simp [h]
theorem filt_len (f : Nat → Bool) (g : Nat → Nat) (i : Nat) : (((List.range i).filter f).map g).length ≤ i := by
 rw [List.length_map]
 exact Nat.le_trans (List.length_filter_le _ _) (by rw [List.length_range]; exact Nat.le_refl _)
theorem flat_take_len {p : PD} (hok : p.Ok) (want : Bool) (j : Nat) : ((p.ss.take j).flatMap (p.startRow want)).length ≤ 51200 := by
 have h1 := flat_len (f := p.startRow want) (m := 256) (p.ss.take j) (fun v hv => Nat.le_trans (filt_len _ _ _) hok.s1)
 have h2 : (p.ss.take j).length ≤ 200 := Nat.le_trans (by rw [List.length_take]; exact Nat.min_le_right _ _) hok.sl
 exact Nat.le_trans h1 (Nat.le_trans (Nat.mul_le_mul_right _ h2) (by decide))
theorem starts_walk (p : PD) (want : Bool) (g : Nat) (w : World) (h : IsProd w g p) (hok : p.Ok) :
  Calls Try.prog 45 #[.pointer (some ⟨g, 0, none⟩), .bool want] w fun e w' => ∃ v, e = .returned v ∧ Kd.R natK 3 w' w.heap.size (fun _ => True) v (p.starts want) ∧ Below w.heap.size w w' := by
 obtain ⟨A0, A1, A2, A5, A7, A8, c0, c1, c2, c5, c7, c8, h⟩ := h
 have huP := Try.underlying79
 have huK := Try.underlying26
 have huF := Try.underlying29
 have hui := Try.underlying23
 have huu := Try.underlying22
 have q1 := h.q1
 have q6 := h.q6
 have Q0 := Zd.mk h.q0
 have Q3 := Zd.mk h.q3
 have Q4 := Zd.mk h.q4
 have Q5 := Zd.mk h.q5
 have H0 := Zd.mk h.h0
 have H1 := Zd.mk h.h1
 have H5 := Zd.mk h.h5
 have L5 := Zd.mk h.l5
 have HOK := Zd.mk hok
 have HFL := Zd.mk (fun j => flat_take_len hok want j)
 have HNE := Zd.mk (show p.starts want = p.ss.flatMap (p.startRow want) from rfl)
 have hs1 := hok.s1
 have hsl := hok.sl
 clear h hok
 go_enter Try.func45, Try.ntmps45
 go_wp2
 go_loopg [5, 15] p.ss.length (fun kq v5 v15 w' => ∃ j : Nat, j + kq = p.ss.length ∧ v15 = .int .i64 (j : Int) ∧ Zd (Kd.R natK 3 w' w.heap.size (fun _ => True) v5 ((p.ss.take j).flatMap (p.startRow want))) ∧ Zd (Below w.heap.size w w'))
 case atStart => exact ⟨0, by omega, rfl, ⟨Kd.R_nil _ _ _ _ _⟩, ⟨Below.refl _ _⟩⟩
 case round =>
  obtain ⟨WW, rfl⟩ : ∃ W : World, W = wr := ⟨_, rfl⟩
  obtain ⟨j, hj, rfl, HV, HB⟩ := hrel
  obtain ⟨k1, hk1⟩ : ∃ k, k = gk := ⟨_, rfl⟩
  rw [← hk1] at hj
  have HJ := Zd.mk hj
  have HK1 := Zd.mk hk1
  clear hj hk1
  by_cases hlt : j < p.ss.length
  ·have hjl : ((j : Nat) : Int) < (p.ss.length : Int) := by omega
   obtain ⟨ad1, rfl, qj⟩ := nat_at H1.out hlt
   have hvn := HOK.out.st _ (getD_mem hlt)
   have HTF := Zd.mk (take_flat (p.startRow want) p.ss j hlt)
   generalize p.ss.getD j 0 = v at *
   obtain ⟨adl, rfl, ql⟩ := int_at H0.out hvn
   have QL := Zd.mk ql
   have HVF := Zd.mk (show ∀ s, p.value v s = valueF p.s (s : Int) (p.ls.getD v 0) from fun _ => rfl)
   have qj' := pb_ HB.out qj
   have q6' := pb_ HB.out q6
   have hmv : v * p.size ≤ 51200 := Nat.le_trans (Nat.mul_le_mul (Nat.le_trans (Nat.le_of_lt hvn) HOK.out.n) hs1) (by decide)
   have ew1 := wmul (a := v) (b := p.size) (Nat.lt_of_le_of_lt hmv (by decide))
   have HSR := Zd.mk (show p.startRow want v = ((List.range p.size).filter (fun s => p.value v s == want)).map (fun s => v * p.size + s) from rfl)
   have hlf := HFL.out j
   have hvl : (v : Int) < (p.ls.length : Int) := Int.ofNat_lt.2 hvn
   generalize p.ls.getD v 0 = lt at *
   generalize v * p.size = m at *
   obtain ⟨done, hdn⟩ : ∃ q, q = (p.ss.take j).flatMap (p.startRow want) := ⟨_, rfl⟩
   rw [← hdn] at HV hlf HTF
   clear hdn ql
   go_wp2
   go_loopg [5, 23] p.size (fun kq v5 v23 w' => ∃ i : Nat, i + kq = p.size ∧ v23 = .int .i64 (i : Int) ∧ Zd (Kd.R natK 3 w' w.heap.size (fun _ => True) v5 (done ++ ((List.range i).filter (fun s => p.value v s == want)).map (fun s => m + s))) ∧ Zd (Below w.heap.size w w'))
   case atStart => exact ⟨0, by omega, rfl, ⟨by rw [List.range_zero, List.filter_nil, List.map_nil, List.append_nil]; exact HV.out⟩, HB⟩
   case round =>
    obtain ⟨WX, rfl⟩ : ∃ W : World, W = wr := ⟨_, rfl⟩
    obtain ⟨s, hi, rfl, HV2, HB2⟩ := hrel
    have HI := Zd.mk hi
    clear hi
    by_cases hli : s < p.size
    ·have hil : ((s : Nat) : Int) < (p.size : Int) := by omega
     have HSS := Zd.mk (startRow_step (fun s => p.value v s == want) (fun s => m + s) s)
     have z0 := pb_ HB2.out Q0.out
     have z3 := pb_ HB2.out Q3.out
     have z4 := pb_ HB2.out Q4.out
     have z5 := pb_ HB2.out Q5.out
     have zl := pb_ HB2.out QL.out
     have HVAL := Zd.mk (fun W (hb : Below WX.heap.size WX W) => Value_calls p.s (s : Int) lt A5 c5 W (Kd.C_below H5.out (HB2.out.trans (hb.mono HB2.out.size))) L5.out)
     have HVQ := Zd.mk (HVF.out s)
     have hlm : (done ++ ((List.range s).filter (fun s => p.value v s == want)).map (fun s => m + s)).length ≤ 60000 := by
      have := filt_len (fun s => p.value v s == want) (fun s => m + s) s
      rw [List.length_append]; omega
     obtain ⟨sofar, hsf⟩ : ∃ q, q = done ++ ((List.range s).filter (fun s => p.value v s == want)).map (fun s => m + s) := ⟨_, rfl⟩
     rw [← hsf] at HV2 hlm
     have HSF := Zd.mk hsf
     clear hsf
     generalize valueF p.s (s : Int) lt = b at *
     go_upto_region 8 with fail
     refine start_ (n := 16) (S := fun w' => w'.cell? ⟨g, 0, none⟩ = some (.slice (some adl) p.ls.length c0) ∧ w'.cell? ⟨g, 3, none⟩ = some (.int .i64 p.s.f0) ∧ w'.cell? ⟨g, 4, none⟩ = some (.int .i64 p.s.f1) ∧ w'.cell? ⟨g, 5, none⟩ = some (.slice A5 p.s.f2.length c5) ∧ w'.cell? (adl.add v) = some (.int .u32 lt)) (ds := []) Mk65_ (by kernel_rfl) rfl rfl ⟨z0, z3, z4, z5, zl⟩ (fun hHeld => ?_)
     refine with_tabW sst.tab8 sst.bits8 (fun HT_ HW_ => ?_)
     refine pz HT_.out 0 (some 26) Mk66_ rfl rfl ?_
     refine pz HT_.out 1 (some 27) Mk67_ rfl rfl ?_
     refine pz HT_.out 2 (some 28) Mk68_ rfl rfl ?_
     refine pz HT_.out 4 (some 30) Mk69_ rfl rfl ?_
     refine pz HT_.out 5 (some 31) Mk70_ rfl rfl ?_
     refine pz HT_.out 6 (some 32) Mk71_ rfl rfl ?_
     refine pz HT_.out 7 (some 33) Mk72_ rfl rfl ?_
     refine pz HT_.out 8 (some 34) Mk73_ rfl rfl ?_
     refine pz HT_.out 10 (some 36) Mk74_ rfl rfl ?_
     refine pz HT_.out 14 (some 40) Mk75_ rfl rfl ?_
     refine tz HT_.out HW_.out 3 (some 29) Mk76_ rfl rfl hHeld ?_
     refine tz HT_.out HW_.out 9 (some 35) Mk77_ rfl rfl hHeld ?_
     refine pz HT_.out 11 (some 37) Mk78_ rfl rfl ?_
     refine tz HT_.out HW_.out 12 (some 38) Mk79_ rfl rfl hHeld ?_
     refine one_ (i := 13) (N := some 39) Mk80_ rfl rfl (one_of HT_.out (by kernel_rfl)) (by decide) (fun K hK => ?_)
     refine goes_ Try.func62 (by kernel_rfl) rfl #[.agg #[.int .i64 p.s.f0, .int .i64 p.s.f1, .slice A5 p.s.f2.length c5], .int .i64 (s : Int), .int .u32 lt] (by rfl) rfl rfl (by simp only [List.map_toArray, List.map_cons, List.map_nil]; rfl) ?_
     with_reducible refine (HVAL.out _ (show Below WX.heap.size WX WX.drew from below_drew1 (Below.refl _ _))).mono ?_
     rintro e_ wc13 ⟨rfl, hB⟩
     have HBc13 := Zd.mk (show Below WX.heap.size WX wc13 from (below_drew1 (Below.refl _ _)).trans hB)
     clear hB hHeld
     refine ⟨_, rfl, ?_⟩
     refine hK.out _ _ ⟨(pb_ HBc13.out z0), (pb_ HBc13.out z3), (pb_ HBc13.out z4), (pb_ HBc13.out z5), (pb_ HBc13.out zl)⟩ (fun hHeld => ?_)
     clear hK K
     refine norm_ (a' := ?_) ?_ ?_
     rotate_left
     ·show Act.put _ (some 39) _ = _
      simp only [Act.put, List.setIfInBounds_toArray, List.set_cons_zero, List.set_cons_succ, i64_w, i32_w]
      rfl
     refine pz HT_.out 15 (some 41) Mk81_ rfl rfl ?_
     refine done_ (done_of HT_.out (by kernel_rfl)) ?_
     clear hHeld HT_ HW_
     have HB3 := Zd.mk (HB2.out.trans (HBc13.out.mono HB2.out.size))
     have HV3 := Zd.mk (Kd.R_below HV2.out HBc13.out)
     have q6'' := pb_ HB3.out q6
     have ew2 : IntKind.i64.wrap ((v : Int) * (p.size : Int)) = (m : Int) := (i64_w _).trans ew1
     clear z0 z3 z4 z5 zl
     by_cases hbw : b = want
     ·subst hbw
      cases b
      all_goals
       go_wp2_with ((with_reducible refine gate_builtin (b := .append) (xs := #[.tmp 42, .tmp 51]) rfl ?_); at_builtin; refine Kd.R_append natK (w0 := w) w.heap.size rfl (.tmp 42) (.tmp 51) 23 3 (.int .i64 0) 8 rfl hui infoI rfl (by decide) (by omega) u5 sofar (m + s) [.int .i64 ((m + s : Nat) : Int)] (fun _ => True) (fun _ => False) rfl rfl ?aP (fun _ hk => hk.elim) ?aF ?aO ?aB ?aS ?aL ?_; (case aP => exact rfl); (case aF => exact (fun _ _ => trivial)); (case aO => exact (by (with_reducible repeat (first | apply Kd.R_alloc | apply Kd.R_drewN | apply Kd.R_drew)); exact HV3.out)); (case aB => exact (by repeat (first | (with_reducible first | exact HB3.out | apply below_alloc) | exact HB3.out))); (case aS => exact (by have := HB3.out.size; simp; omega)); (case aL => omega); intro v9 w9 ho hb hg hat; have HV4 := Zd.mk ho; have HB4 := Zd.mk hb; clear ho hb hg hat)
       go_roundg (gk - 1)
       case measure => have := HI.out; omega
       case rel => exact ⟨s + 1, by have := HI.out; omega, by go_num, ⟨by rw [HSS.out, HVQ.out, if_pos (by decide), ← List.append_assoc, ← HSF.out]; exact HV4.out⟩, HB4⟩
     ·have HBW := Zd.mk hbw
      clear hbw
      cases b <;> cases want <;> first | exact absurd rfl HBW.out | skip
      all_goals
       go_wp2
       go_roundg (gk - 1)
       case measure => have := HI.out; omega
       case rel => exact ⟨s + 1, by have := HI.out; omega, by go_num, ⟨by rw [HSS.out, HVQ.out, if_neg (by decide), List.append_nil, ← HSF.out]; exact HV3.out⟩, HB3⟩
    ·have hil : ¬ ((s : Nat) : Int) < (p.size : Int) := by omega
     have hse : s = p.size := by have := HI.out; omega
     have HV4 := Zd.mk (show Kd.R natK 3 WX w.heap.size (fun _ => True) u5 ((p.ss.take (j + 1)).flatMap (p.startRow want)) from by rw [HTF.out, HSR.out, ← hse]; exact HV2.out)
     clear hse
     go_wp2
     go_roundg (k1 - 1)
     case measure => have := HJ.out; have := HK1.out; omega
     case rel => exact ⟨j + 1, by have := HJ.out; omega, by go_num, HV4, HB2⟩
  ·have hjl : ¬ ((j : Nat) : Int) < (p.ss.length : Int) := by omega
   have HV4 := Zd.mk (show Kd.R natK 3 WW w.heap.size (fun _ => True) u5 (p.starts want) from by have := HV.out; rw [List.take_of_length_le (by omega)] at this; rw [HNE.out]; exact this)
   go_wp2
   go_ret
   exact ⟨_, rfl, HV4.out, HB.out⟩
theorem natK_form {w : World} {base : Nat} {ok : Nat → Prop} {v : Value} {xs : List Nat} (h : Kd.R natK 3 w base ok v xs) (hn : 0 < xs.length) : ∃ g cap, v = .slice (some ⟨g, 0, none⟩) xs.length cap ∧ base ≤ g ∧ g < w.heap.size ∧ xs.length ≤ cap := by
 obtain ⟨inner, ho⟩ := Kd.R_own h
 obtain ⟨g, cap, e, h1, h2⟩ := ho.form hn
 obtain ⟨A, c, e2, hc, _⟩ := Kd.R_reads h
 rw [e] at e2
 cases e2
 exact ⟨g, cap, e, h1, h2, hc⟩
theorem natK_cell {w : World} {base g n cap : Nat} {ok : Nat → Prop} {xs : List Nat} (h : Kd.R natK 3 w base ok (.slice (some ⟨g, 0, none⟩) n cap) xs) {j : Nat} (hj : j < n) : w.cell? ⟨g, j, none⟩ = some (.int .i64 ((xs.getD j 0 : Nat) : Int)) ∧ w.frozen? ⟨g, j, none⟩ = false := by
 have := Kd.R_celln (d := 0) h (j : Int) (by omega) (by omega)
 rw [Int.toNat_natCast] at this
 have h2 : rdOf 0 xs (j : Int) = xs.getD j 0 := by unfold rdOf; rw [Int.toNat_natCast]
 rw [h2] at this
 exact this
theorem natK_put {w : World} {base g n cap : Nat} {ok : Nat → Prop} {xs : List Nat} (h : Kd.R natK 3 w base ok (.slice (some ⟨g, 0, none⟩) n cap) xs) (j x : Nat) : Kd.R natK 3 (w.setCell ⟨g, j, none⟩ (.int .i64 (x : Int))) base ok (.slice (some ⟨g, 0, none⟩) n cap) (xs.set j x) := by
 have := Kd.R_putn h (j : Int) x
 rw [Int.toNat_natCast] at this
 exact this
theorem set_tail (F : List Nat) (m : Nat) (r : List Nat) : ∀ k, r.length = k + 1 → (F ++ List.replicate m 0 ++ r).set (F.length + m) 0 = F ++ List.replicate (m + 1) 0 ++ r.tail := by
 intro k hk
 match r, hk with
 | a :: r', _ =>
  rw [List.set_append_right _ _ (by simp), List.length_append, List.length_replicate, Nat.sub_self, List.set_cons_zero, List.tail_cons, List.replicate_succ', ← List.append_assoc, List.append_assoc (F ++ List.replicate m 0)]
  rfl
theorem natK_clear {base g n cap : Nat} {ok : Nat → Prop} {w0 : World} : ∀ (r : List Nat) (w : World) (F : List Nat) (m : Nat), Kd.R natK 3 w base ok (.slice (some ⟨g, 0, none⟩) n cap) (F ++ List.replicate m 0 ++ r) → Below base w0 w → base ≤ g →
  Kd.R natK 3 (w.setCells g (F.length + m) (List.replicate r.length (.int .i64 0))) base ok (.slice (some ⟨g, 0, none⟩) n cap) (F ++ List.replicate (m + r.length) 0) ∧ Below base w0 (w.setCells g (F.length + m) (List.replicate r.length (.int .i64 0)))
 | [], w, F, m, h, hB, hb => by
  rw [List.append_nil] at h
  exact ⟨h, hB⟩
 | a :: r, w, F, m, h, hB, hb => by
  rw [List.length_cons, List.replicate_succ]
  show Kd.R natK 3 ((w.setCell ⟨g, F.length + m, none⟩ (.int .i64 0)).setCells g (F.length + m + 1) _) _ _ _ _ ∧ _
  have h1 := natK_put h (F.length + m) 0
  rw [set_tail F m (a :: r) r.length rfl] at h1
  have := natK_clear r (w.setCell ⟨g, F.length + m, none⟩ (.int .i64 0)) F (m + 1) h1 (hB.setCell hb _) hb
  rw [show m + (r.length + 1) = m + 1 + r.length by omega]
  exact this
def keepF (f : Nat → Bool) (l : List Nat) : List Nat := l.filter (fun y => !f y)
theorem keepF_snoc (f : Nat → Bool) (l : List Nat) (x : Nat) : keepF f (l ++ [x]) = keepF f l ++ (if f x = true then [] else [x]) := by
 unfold keepF
 rw [List.filter_append]
 congr 1
 cases h : f x <;> simp [h]
theorem keepF_none {f : Nat → Bool} {l : List Nat} (h : ∀ x, x ∈ l → f x = false) : keepF f l = l := by
 unfold keepF
 rw [List.filter_eq_self]
 intro x hx
 rw [h x hx]; rfl
theorem idxF_found {f : Nat → Bool} : ∀ (l : List Nat) (i : Nat), (idxF f l i = -1 ∧ ∀ x, x ∈ l → f x = false) ∨ ∃ j, j < l.length ∧ idxF f l i = ((i + j : Nat) : Int) ∧ (∀ x, x ∈ l.take j → f x = false) ∧ f (l.getD j 0) = true
 | [], i => .inl ⟨rfl, fun x hx => by cases hx⟩
 | a :: r, i => by
  rw [idxF]
  cases h : f a with
  | true => rw [if_pos rfl]; exact .inr ⟨0, by simp, by simp, by simp, by simpa using h⟩
  | false =>
   rw [if_neg (by simp)]
   rcases idxF_found r (i + 1) with ⟨e, h1⟩ | ⟨j, h1, h2, h3, h4⟩
   ·exact .inl ⟨e, fun x hx => (List.mem_cons.1 hx).elim (fun e => by rw [e]; exact h) (h1 x)⟩
   ·refine .inr ⟨j + 1, by simp; omega, by rw [h2]; congr 1; omega, fun x hx => ?_, by simpa using h4⟩
    rw [List.take_succ_cons] at hx
    rcases List.mem_cons.1 hx with e | e
    ·rw [e]; exact h
    ·exact h3 x e
structure MidRow (f : Nat → Bool) (l cur : List Nat) (i j : Nat) : Prop where
 form : ∃ junk, cur = keepF f (l.take j) ++ junk ++ l.drop j ∧ (keepF f (l.take j)).length = i ∧ i + junk.length = j
 lt : i < j
theorem MidRow.at_ {f : Nat → Bool} {l cur : List Nat} {i j : Nat} (h : MidRow f l cur i j) (hj : j < l.length) : cur.getD j 0 = l.getD j 0 := by
 obtain ⟨junk, e, e1, e2⟩ := h.form
 rw [e, List.getD_eq_getElem?_getD, List.getElem?_append_right (by rw [List.length_append]; omega), List.length_append, e1, e2, Nat.sub_self, List.getElem?_drop, Nat.add_zero, ← List.getD_eq_getElem?_getD]
theorem MidRow.skip {f : Nat → Bool} {l cur : List Nat} {i j : Nat} (h : MidRow f l cur i j) (hj : j < l.length) (hf : f (l.getD j 0) = true) : MidRow f l cur i (j + 1) := by
 obtain ⟨junk, e, e1, e2⟩ := h.form
 have hd : l.drop j = l.getD j 0 :: l.drop (j + 1) := by
  rw [List.drop_eq_getElem_cons hj, List.getD_eq_getElem?_getD, List.getElem?_eq_getElem hj]; rfl
 refine ⟨⟨junk ++ [l.getD j 0], ?_, ?_, by simp; omega⟩, Nat.lt_succ_of_lt h.lt⟩
 ·rw [take_snocN hj, keepF_snoc, hf, if_pos rfl, List.append_nil, e, hd]; simp
 ·rw [take_snocN hj, keepF_snoc, hf, if_pos rfl, List.append_nil]; exact e1
theorem MidRow.keep {f : Nat → Bool} {l cur : List Nat} {i j : Nat} (h : MidRow f l cur i j) (hj : j < l.length) (hf : f (l.getD j 0) = false) : MidRow f l (cur.set i (l.getD j 0)) (i + 1) (j + 1) := by
 obtain ⟨junk, e, e1, e2⟩ := h.form
 have hd : l.drop j = l.getD j 0 :: l.drop (j + 1) := by
  rw [List.drop_eq_getElem_cons hj, List.getD_eq_getElem?_getD, List.getElem?_eq_getElem hj]; rfl
 have hlt := h.lt
 match junk, e, e2 with
 | [], _, e2 => simp at e2; omega
 | a :: jk, e, e2 =>
  refine ⟨⟨jk ++ [l.getD j 0], ?_, ?_, by simp at e2 ⊢; omega⟩, Nat.succ_lt_succ hlt⟩
  ·rw [take_snocN hj, keepF_snoc, hf, if_neg (by simp), e, hd, List.append_assoc, List.set_append_right _ _ (by omega), e1, Nat.sub_self]
   simp
  ·rw [take_snocN hj, keepF_snoc, hf, if_neg (by simp), List.length_append, e1]; rfl
theorem MidRow.done {f : Nat → Bool} {l cur : List Nat} {i : Nat} (h : MidRow f l cur i l.length) : ∃ junk, cur = keepF f l ++ junk ∧ (keepF f l).length = i ∧ i + junk.length = l.length := by
 obtain ⟨junk, e, e1, e2⟩ := h.form
 rw [List.take_of_length_le (Nat.le_refl _)] at e e1
 rw [List.drop_eq_nil_of_le (Nat.le_refl _), List.append_nil] at e
 exact ⟨junk, e, e1, e2⟩
theorem DeleteFunc_calls (k : FuncId) (first cap : Array Value) (f : Nat → Bool) (N : Nat) (v : Value) (l : List Nat) (w0 w : World) (hp : PredFn k first cap f N w0) (hB : Below w0.heap.size w0 w) (hr : Kd.R natK 3 w w0.heap.size (fun _ => True) v l) (hl : ∀ x, x ∈ l → x < N) (hb : l.length < 1000000000) :
  Calls Try.prog 91 #[v, .func (.func k) first cap] w fun e w' => ∃ v', e = .returned v' ∧ Kd.R natK 3 w' w0.heap.size (fun _ => True) v' (keepF f l) ∧ Below w0.heap.size w0 w' := by
 have hui := Try.underlying23
 have hp' := hp
 obtain ⟨A, c, e, hc, hC⟩ := Kd.R_reads hr
 subst e
 have HI := Zd.mk (IndexFunc_calls k first cap f N A c l w ⟨hp.enters, fun W hW x hx => hp.tells W (hB.trans (hW.mono hB.size)) x hx⟩ hC hl hb)
 have HR := Zd.mk hr
 have HB := Zd.mk hB
 rcases idxF_found (f := f) l 0 with ⟨e, hn⟩ | ⟨i0, hi0, e, hpre, hat⟩
 ·rw [e] at HI
  have HK := Zd.mk (keepF_none hn)
  have HRK := Zd.mk (fun W (h : Below w.heap.size w W) => Kd.R_below HR.out h)
  clear hr hp hp' hC hl hn e
  go_enter Try.func91, Try.ntmps91
  go_wp2_with (go_at_call 89; refine HI.out.mono ?_; rintro e w4 ⟨rfl, hB4⟩; have HB4 := Zd.mk hB4; clear hB4)
  go_ret
  exact ⟨_, rfl, by rw [HK.out]; exact HRK.out _ HB4.out, HB.out.trans (HB4.out.mono HB.out.size)⟩
 ·rw [e, Nat.zero_add] at HI
  obtain ⟨g, cp, e2, hg0, hg1, hcp⟩ := natK_form hr (by omega)
  cases e2
  have he := hp.enters
  have HP := Zd.mk hp
  have HL := Zd.mk hl
  have HM0 := Zd.mk (show MidRow f l l i0 (i0 + 1) from by
   refine ⟨⟨[l.getD i0 0], ?_, ?_, by simp⟩, Nat.lt_succ_self _⟩
   ·rw [take_snocN hi0, keepF_snoc, hat, if_pos rfl, List.append_nil, keepF_none hpre, ← take_snocN hi0, List.take_append_drop]
   ·rw [take_snocN hi0, keepF_snoc, hat, if_pos rfl, List.append_nil, keepF_none hpre, List.length_take]; omega)
  have HG0 := Zd.mk hg0
  have hi1 : i0 < 1000000000 := by omega
  have HI1 := Zd.mk hi0
  clear hr hp hp' hC hl hpre hat e hi0 hg0 hg1
  go_enter Try.func91, Try.ntmps91
  go_wp2_with (go_at_call 89; refine HI.out.mono ?_; rintro e w4 ⟨rfl, hB4⟩; have HB4 := Zd.mk (HB.out.trans (hB4.mono HB.out.size)); have HR4 := Zd.mk (Kd.R_below HR.out hB4); clear hB4)
  go_loopg [5, 6] l.length (fun kq v5 v6 w' => ∃ (i j : Nat) (cur : List Nat), j + kq = l.length + (i0 + 1) ∧ i < j ∧ j ≤ l.length ∧ v5 = .int .i64 (i : Int) ∧ v6 = .int .i64 (j : Int) ∧ Zd (MidRow f l cur i j) ∧ Zd (Kd.R natK 3 w' w0.heap.size (fun _ => True) (.slice (some ⟨g, 0, none⟩) l.length c) cur) ∧ Zd (Below w0.heap.size w0 w'))
  case atStart =>
   have := HI1.out
   exact ⟨i0, i0 + 1, l, by omega, by omega, by omega, rfl, by first | rfl | go_num, HM0, HR4, HB4⟩
  case round =>
   obtain ⟨WW, rfl⟩ : ∃ W : World, W = wr := ⟨_, rfl⟩
   obtain ⟨i, j, cur, hj, hij, hjm, rfl, rfl, HM, HV, HBj⟩ := hrel
   have HJ := Zd.mk hj
   clear hj
   by_cases hlt : j < l.length
   ·have hjl : ((j : Nat) : Int) < (l.length : Int) := by omega
    obtain ⟨qj, _⟩ := natK_cell HV.out hlt
    rw [HM.out.at_ hlt] at qj
    have HC := Zd.mk (HP.out.tells WW HBj.out _ (HL.out _ (getD_mem hlt)))
    have HSK := Zd.mk (fun h => HM.out.skip hlt h)
    have HKP := Zd.mk (fun h => HM.out.keep hlt h)
    have HPT := Zd.mk (fun W (h : Below WW.heap.size WW W) => natK_put (Kd.R_below HV.out h) i (l.getD j 0))
    have hci : ∀ W, Below WW.heap.size WW W → W.cell? ⟨g, i, none⟩ = some (.int .i64 ((cur.getD i 0 : Nat) : Int)) ∧ W.frozen? ⟨g, i, none⟩ = false := fun W h => natK_cell (Kd.R_below HV.out h) (by omega)
    have HCI := Zd.mk hci
    clear hci
    generalize l.getD j 0 = x at *
    cases hfx : f x with
    | true =>
     rw [hfx] at HC
     have HA2 := Zd.mk (HSK.out hfx)
     clear hfx HSK HKP
     go_wp2_with ((with_reducible refine HC.out.mono ?_); rintro e w5 ⟨rfl, hB5⟩; have HB5 := Zd.mk hB5; clear hB5)
     go_roundg (gk - 1)
     case measure => have := HJ.out; omega
     case rel => exact ⟨i, j + 1, cur, by have := HJ.out; omega, by omega, by omega, rfl, by go_num, HA2, ⟨Kd.R_below HV.out HB5.out⟩, ⟨HBj.out.trans (HB5.out.mono HBj.out.size)⟩⟩
    | false =>
     rw [hfx] at HC
     have HA2 := Zd.mk (HKP.out hfx)
     clear hfx HSK HKP
     have hil : ((i : Nat) : Int) < (l.length : Int) := by omega
     go_wp2_with ((with_reducible refine HC.out.mono ?_); rintro e w5 ⟨rfl, hB5⟩; obtain ⟨ci, fi⟩ := HCI.out _ hB5; have HB5 := Zd.mk hB5; clear hB5)
     go_roundg (gk - 1)
     case measure => have := HJ.out; omega
     case rel => exact ⟨i + 1, j + 1, cur.set i x, by have := HJ.out; omega, by omega, by omega, by go_num, by go_num, HA2, ⟨HPT.out _ HB5.out⟩, ⟨(HBj.out.trans (HB5.out.mono HBj.out.size)).setCell HG0.out _⟩⟩
   ·have hjl : ¬ ((j : Nat) : Int) < (l.length : Int) := by omega
    have hje : j = l.length := by omega
    subst hje
    obtain ⟨junk, e1, e2, e3⟩ := HM.out.done
    have hil : ((i : Nat) : Int) < (l.length : Int) := by omega
    have HV2 := Zd.mk (by have := HV.out; rw [e1] at this; exact natK_clear (m := 0) (cap := c) (n := l.length) (g := g) (w0 := w0) junk WW (keepF f l) (by rw [List.replicate_zero, List.append_nil]; exact this) HBj.out HG0.out)
    rw [e2, Nat.add_zero, Nat.zero_add] at HV2
    have hz : ∀ w, (zeroValue 3).run Try.prog w = .ok (.int .i64 0) w := fun w => by kernel_rfl
    have hcell : ∀ q, q < junk.length → (WW.cell? ⟨g, i + q, none⟩).isSome = true := fun q hq => by rw [(natK_cell HV.out (j := i + q) (by omega)).1]; rfl
    have hfroz : ∀ q, q < junk.length → WW.frozen? ⟨g, i + q, none⟩ = false := fun q hq => (natK_cell HV.out (j := i + q) (by omega)).2
    have hclr : ∀ ty cc, (Builtin.clear_ #[23] ty #[.slice (some ⟨g, i, none⟩) junk.length cc]).run Try.prog WW = .ok (.tuple #[]) (WW.setCells g i (List.replicate junk.length (.int .i64 0))) := fun ty cc => Lib.run_clear_slice WW 23 3 ty (.int .i64 0) hui hz rfl rfl g i junk.length cc (by omega) hcell hfroz
    have hji : junk.length = l.length - i := by omega
    rw [hji] at hclr HV2
    have hti : List.take i (keepF f l ++ List.replicate (l.length - i) 0) = keepF f l := by rw [← e2]; simp
    have HRT := Zd.mk (by have := Kd.R_take HV2.out.1 (m := i) (by rw [List.length_append, e2, List.length_replicate]; omega); rw [hti] at this; exact this)
    have HBE := Zd.mk HV2.out.2
    have hi9 : i ≤ l.length := by omega
    have hcpi : ¬ c = i := by omega
    clear hz hcell hfroz e1 e2 e3 hji hti HV2
    generalize WW.setCells g i (List.replicate (l.length - i) (.int .i64 0)) = WE at *
    go_wp2
    go_ret
    exact ⟨_, rfl, HRT.out, HBE.out⟩
theorem inner1_calls (b gc y : Nat) (cb : List Bool) (W : World) (hb : Cell1 W b (.pointer (some ⟨gc, 0, none⟩)) 84) (hc : IsComp W gc cb) (hy : y < cb.length) :
  Calls Try.prog 92 #[.int .i64 (y : Int), .pointer (some ⟨b, 0, none⟩)] W fun e W' => e = .returned (.bool (!Sg.hasF cb y)) ∧ Below W.heap.size W W' := by
 have q := cell1 hb
 have HC := Zd.mk (has_walk gc y cb W hc hy)
 clear hb hc hy
 generalize Sg.hasF cb y = r at *
 go_enter Try.func92, Try.ntmps92
 go_wp2_with (go_at_call 49; refine HC.out.mono ?_; rintro e w4 ⟨rfl, hB4⟩; have HB4 := Zd.mk hB4; clear hB4)
 go_ret
 exact ⟨rfl, HB4.out⟩
theorem keep_not (f : Nat → Bool) (l : List Nat) : keepF (fun y => !f y) l = l.filter f := by
 unfold keepF
 congr 1
 funext y
 simp
theorem inner_walk (p : PD) (g gc x : Nat) (cb : List Bool) (w : World) (h : IsProd w g p) (hok : p.Ok) (hx : x < p.N) (hc : IsComp w gc cb) (hcl : cb.length = p.N) :
  Calls Try.prog 71 #[.pointer (some ⟨g, 0, none⟩), .pointer (some ⟨gc, 0, none⟩), .int .i64 (x : Int)] w fun e w' => ∃ v, e = .returned v ∧ Kd.R natK 3 w' w.heap.size (fun _ => True) v ((p.next x).filter (Sg.hasF cb)) ∧ Below w.heap.size w w' := by
 have hmf : ∀ fn first cap w, (Instr.makeFunc fn first cap).run Try.prog w = .ok (.func fn first cap) w := fun _ _ _ _ => rfl
 obtain ⟨W1, hW1⟩ : ∃ W1, W1 = w.alloc (.cells #[.pointer (some ⟨gc, 0, none⟩)] 84) := ⟨_, rfl⟩
 have hB1 : Below w.heap.size w W1 := by rw [hW1]; exact below_alloc (Below.refl _ _) _
 have hc1 : Cell1 W1 w.heap.size (.pointer (some ⟨gc, 0, none⟩)) 84 := by rw [hW1]; exact heap_alloc_new w _
 have hlen : (p.next x).length ≤ 51200 := by
  have := hok.flat_le (x := x) (j := (p.nxs.getD (x / p.size) []).length) hx
  rwa [List.take_of_length_le (Nat.le_refl _)] at this
 have HNX := Zd.mk (next_walk p g x W1 (h.below hB1) hok hx)
 have hpf : PredFn 92 #[] #[.pointer (some ⟨w.heap.size, 0, none⟩)] (fun y => !Sg.hasF cb y) p.N W1 :=
  ⟨enters_f Try.func92 (by kernel_rfl) rfl, fun W hW y hy => inner1_calls w.heap.size gc y cb W ((hW.block _ (blk_lt hc1)).trans hc1) ((hc.below hB1).below hW) (by rw [hcl]; exact hy)⟩
 have HDL := Zd.mk (fun v W hB hR => DeleteFunc_calls 92 #[] #[.pointer (some ⟨w.heap.size, 0, none⟩)] (fun y => !Sg.hasF cb y) p.N v (p.next x) W1 W hpf hB hR (fun y hy => hok.next_lt hx hy) (by omega))
 rw [keep_not] at HDL
 have HB1 := Zd.mk hB1
 have HW1 := Zd.mk hW1
 clear h hc hok hcl hlen hpf hB1 hc1
 go_enter Try.func71, Try.ntmps71
 go_wp2_with (first | (go_at_call 66; rw [← HW1.out]; refine HNX.out.mono ?_; rintro e w4 ⟨v4, rfl, hR4, hB4⟩; have HD4 := Zd.mk (HDL.out v4 w4 hB4 hR4); have HB4 := Zd.mk hB4; clear hR4 hB4) | (go_at_call 91; refine HD4.out.mono ?_; rintro e w5 ⟨v5, rfl, hR5, hB5⟩; have HR5 := Zd.mk hR5; have HB5 := Zd.mk hB5; clear hR5 hB5))
 go_ret
 exact ⟨_, rfl, Kd.R_lower HR5.out HB1.out.size, HB1.out.trans (HB5.out.mono HB1.out.size)⟩
end Go.Proofs.Ytapejnikpmfddaa.X
namespace Go.Proofs.Ytapejnikpmfddaa.P
open Go.RowKit Go.Proofs.YtapejnikpmfddaaW.PrintWords Go.Proofs.YtapejnikpmfddaaW.PrintLast Go.Proofs.YtapejnikpmfddaaW.PrintMore
attribute [local go_sem] max2_int min2_int max_two min_two max_three min_three max_four min_four

def slices_Reverse_int_int.l0 : Nat → List Int → Int → Int → Option (List Int)
 | 0, _, _, _ => none
 | k + 1, x0, x2, x3 => if x2 < x3 then (if 0 ≤ x3 then (if x3 < (x0.length : Int) then (if 0 ≤ x2 then (if x2 < (x0.length : Int) then (slices_Reverse_int_int.l0 k ((x0.set (x2 : Int).toNat (rd x0 x3)).set (x3 : Int).toNat (rd x0 x2)) (wrap64 (x2 + 1)) (wrap64 (x3 - 1))) else (none)) else (none)) else (none)) else (none)) else (some x0)
def slices_Reverse_int_int.f (k : Nat) (l0 : List Int) : Option (List Int) := slices_Reverse_int_int.l0 k l0 0 (wrap64 ((l0.length : Int) - 1))
def slices_Reverse_int_int.T3 : Bool × List (List Nat × List Nat) := (true, [([], []), ([], []), ([], []), ([], []), ([], []), ([], []), ([4, 5], [4, 5]), ([6], [6]), ([], []), ([], []), ([8, 9], [8, 9]), ([10], [10]), ([0, 1, 0, 1, 4, 5, 6, 7, 11], [0, 1]), ([12, 7, 0, 1, 4, 5, 6, 7, 11], [7, 12]), ([2, 3, 0, 1, 2, 3, 4, 5, 6, 7, 8, 9, 10, 11, 12, 13], [2, 3]), ([14, 11, 13, 0, 1, 2, 3, 4, 5, 6, 7, 8, 9, 10, 11, 12, 13], [11, 14])])
def slices_Reverse_int_int.B3 : List Nat := [0, 0, 0, 0, 0, 0, 48, 112, 0, 0, 768, 1792, 4083, 8179, 16383, 32767]
theorem slices_Reverse_int_int.tab3 : rtab .any (opsOf Try.f65 3) = slices_Reverse_int_int.T3 := by kernel_rfl
theorem slices_Reverse_int_int.bits3 : waitsOk slices_Reverse_int_int.T3.2 slices_Reverse_int_int.B3 = true := by kernel_rfl
theorem slices_Reverse_int_int.calls (k : Nat) (P0_ : Nat → Prop) (u9000_ : Value) (l0 : List Int) (r : List Int) (w0 w : World) (hB : Below w0.heap.size w0 w) (ho0 : Kd.R (Kd.int .i64) 3 w w0.heap.size P0_ u9000_ l0) (h : slices_Reverse_int_int.f k l0 = some r) :
  Calls Try.prog 65 #[u9000_] w fun e w' => e = .returned (.tuple #[]) ∧ Kd.R (Kd.int .i64) 3 w' w0.heap.size (fun k_ => (P0_ k_ ∨ w.heap.size ≤ k_)) u9000_ r ∧ Below w0.heap.size w0 w' ∧ Kept w w' (fun k_ => P0_ k_) := by
 have HO0 := Zd.mk (show Kd.R (Kd.int .i64) 3 w w0.heap.size (fun k_ => (P0_ k_ ∨ w.heap.size ≤ k_)) u9000_ l0 from Kd.R_mono ho0 (fun k_ hk => (.inl hk)))
 have HK := Zd.mk (Kept.refl w (fun k_ => P0_ k_))
 have HW0 := Zd.mk hB.size
 have HB := Zd.mk hB
 clear hB
 have H : (slices_Reverse_int_int.l0 k l0 0 (wrap64 ((l0.length : Int) - 1))) = some r := h
 clear h
 have H' := Zd.mk H
 clear H
 obtain ⟨Ao2, co2, eo2⟩ := Kd.R_slice HO0.out
 subst eo2
 go_enter Try.func65, Try.ntmps65
 go_wp2
 go_loopg [2, 3] k (fun kq v2 v3 w' => ∃ (x0_1 : List Int) (x2_1 : Int) (x3_1 : Int), v2 = .int .i64 x2_1 ∧ v3 = .int .i64 x3_1 ∧ Zd (slices_Reverse_int_int.l0 kq x0_1 x2_1 x3_1 = some r) ∧ Zd (kq ≤ k) ∧ Zd (Kd.R (Kd.int .i64) 3 w' w0.heap.size (fun k_ => (P0_ k_ ∨ w.heap.size ≤ k_)) (.slice Ao2 l0.length co2) x0_1) ∧ Zd (Kept w w' (fun k_ => P0_ k_)) ∧ Zd (Below w0.heap.size w0 w'))
 case atStart => exact ⟨(l0), (0), (wrap64 ((l0.length : Int) - 1)), (by first | rfl | (simp; done) | (simp [*]; done)), (by first | rfl | (simp; done) | (simp [*]; done)), H', ⟨Nat.le_refl _⟩, ⟨by (with_reducible repeat (first | apply Kd.R_alloc | apply Kd.R_drewN | apply Kd.R_drew)); exact HO0.out⟩, ⟨by repeat (first | (with_reducible first | exact HK.out | apply Kept.alloc | apply Kept.drewN | apply Kept.drew) | exact HK.out)⟩, ⟨B_⟩⟩
 case round =>
  clear H'
  try clear p2
  obtain ⟨x0_1, x2_1, x3_1, rfl, rfl, HA, HK1, HO_0, HK, HB⟩ := hrel
  have hl0_1 := (Kd.R_reads' HO_0.out).1
  rw [hl0_1] at HO_0
  (try simp only [hl0_1])
  cases gk with
  | zero => exact absurd HA.out (by simp [slices_Reverse_int_int.l0])
  | succ k1 =>
   have H := HA.out
   clear HA
   simp only [slices_Reverse_int_int.l0] at H
   by_cases c3 : x2_1 < x3_1
   ·rw [if_pos c3] at H
    have c3b0 : decide (x2_1 < x3_1) = true := decide_eq_true c3
    clear c3
    by_cases c4 : 0 ≤ x3_1
    ·rw [if_pos c4] at H
     have c4b0 : decide (0 ≤ x3_1) = true := decide_eq_true c4
     clear c4
     by_cases c5 : x3_1 < (x0_1.length : Int)
     ·rw [if_pos c5] at H
      have c5b0 : decide (x3_1 < (x0_1.length : Int)) = true := decide_eq_true c5
      clear c5
      by_cases c6 : 0 ≤ x2_1
      ·rw [if_pos c6] at H
       have c6b0 : decide (0 ≤ x2_1) = true := decide_eq_true c6
       clear c6
       by_cases c7 : x2_1 < (x0_1.length : Int)
       ·rw [if_pos c7] at H
        have c7b0 : decide (x2_1 < (x0_1.length : Int)) = true := decide_eq_true c7
        clear c7
        obtain ⟨y202, hy202⟩ : ∃ y_ : List Int, y_ = (x0_1.set (x2_1 : Int).toNat (rd x0_1 x3_1)) := ⟨_, rfl⟩
        replace H : (slices_Reverse_int_int.l0 k1 (y202.set (x3_1 : Int).toNat (rd x0_1 x2_1)) (wrap64 (x2_1 + 1)) (wrap64 (x3_1 - 1))) = some r := by first | (rw [hy202]; with_reducible exact H) | (have H2_ := (Option.bind_some _ _).symm.trans H; rw [hy202]; with_reducible exact H2_) | (have H2_ := (Option.bind_some _ _).symm.trans H; with_reducible exact H2_) | with_reducible exact H | (rw [hy202]; exact H) | exact H
        have Ny202 := Zd.mk hy202
        clear hy202
        obtain ⟨y203, hy203⟩ : ∃ y_ : List Int, y_ = (y202.set (x3_1 : Int).toNat (rd x0_1 x2_1)) := ⟨_, rfl⟩
        replace H : (slices_Reverse_int_int.l0 k1 y203 (wrap64 (x2_1 + 1)) (wrap64 (x3_1 - 1))) = some r := by first | (rw [hy203]; with_reducible exact H) | (have H2_ := (Option.bind_some _ _).symm.trans H; rw [hy203]; with_reducible exact H2_) | (have H2_ := (Option.bind_some _ _).symm.trans H; with_reducible exact H2_) | with_reducible exact H | (rw [hy203]; exact H) | exact H
        have Ny203 := Zd.mk hy203
        clear hy203
        have H' := Zd.mk H
        clear H
        try go_wp2
        have n0_ := Zd.mk (Kd.R_drew HO_0.out)
        have n1_ := Zd.mk (Kept.drew HK.out)
        have n2_ := Zd.mk (below_drew1 HB.out)
        clear HO_0
        clear HK
        clear HB
        have HO_0 := n0_
        have HK := n1_
        have HB := n2_
        clear n0_ n1_ n2_
        have p200 : 0 ≤ (x3_1 : Int) := of_decide_eq_true (by first | (with_reducible assumption) | assumption)
        have q200 : x3_1 < (x0_1.length : Int) := of_decide_eq_true (by first | (with_reducible assumption) | assumption)
        obtain ⟨ad200, e200, hx200_0⟩ := Kd.at_int (Kd.R_reads' HO_0.out).2.2 x3_1 p200 q200
        cases e200
        replace p200 := eq_true p200
        replace q200 := eq_true q200
        have p201 : 0 ≤ (x2_1 : Int) := of_decide_eq_true (by first | (with_reducible assumption) | assumption)
        have q201 : x2_1 < (x0_1.length : Int) := of_decide_eq_true (by first | (with_reducible assumption) | assumption)
        obtain ⟨ad201, e201, hx201_0⟩ := Kd.at_int (Kd.R_reads' HO_0.out).2.2 x2_1 p201 q201
        obtain rfl : ad200 = ad201 := (by injection e201)
        replace p201 := eq_true p201
        replace q201 := eq_true q201
        have p8 : 0 ≤ (x2_1 : Int) := of_decide_eq_true (by first | (with_reducible assumption) | assumption)
        have q8 : (x2_1 : Int) < ((x0_1.length : Int) : Int) := of_decide_eq_true (by first | (with_reducible assumption) | assumption)
        obtain ⟨go8, co8, eo8, gb8, gl8, cl8, HG8⟩ := Kd.R_form HO_0.out (by omega)
        (first | cases eo8 | (injection eo8 with ea_ en_ ec_; (first | subst ea_ | (injection ea_ with ea_; subst ea_)); subst ec_; clear en_))
        have GB8 := Zd.mk gb8
        have GG8 := Zd.mk HG8
        clear gb8 gl8 HG8
        have HMgo8 := Zd.mk (show (P0_ go8 ∨ w.heap.size ≤ go8) from (HO_0.out.1 _ rfl))
        (first | simp only [add_plain] at hx200_0 | skip)
        (first | simp only [add_plain] at hx201_0 | skip)
        obtain ⟨hx8_0, hf8_0⟩ := Kd.R_celln 0 HO_0.out (x2_1 : Int) p8 q8
        replace p8 := eq_true p8
        replace q8 := eq_true q8
        have HP11 := Kd.R_putn HO_0.out (x2_1 : Int) (rd x0_1 x3_1)
        rw [← Ny202.out] at HP11
        have HQ11 := Zd.mk HP11
        clear HP11
        have p9 : 0 ≤ (x3_1 : Int) := of_decide_eq_true (by first | (with_reducible assumption) | assumption)
        have q9 : (x3_1 : Int) < ((x0_1.length : Int) : Int) := of_decide_eq_true (by first | (with_reducible assumption) | assumption)
        obtain ⟨hx9_0, hf9_0⟩ := Kd.R_celln 0 HQ11.out (x3_1 : Int) p9 q9
        replace p9 := eq_true p9
        replace q9 := eq_true q9
        have HP12 := Kd.R_putn HQ11.out (x3_1 : Int) (rd x0_1 x2_1)
        rw [← Ny203.out] at HP12
        have HQ12 := Zd.mk HP12
        clear HP12
        refine start_ (n := 16) (S := fun w' => w'.cell? ⟨go8, (x3_1).toNat, none⟩ = some (.int .i64 (rd x0_1 x3_1)) ∧ w'.cell? ⟨go8, (x2_1).toNat, none⟩ = some (.int .i64 (rd x0_1 x2_1))) (ds := [13, 15]) Mk65_ (by kernel_rfl) rfl rfl ⟨hx200_0, hx201_0⟩ (fun hHeld => ?_); refine with_tabW slices_Reverse_int_int.tab3 slices_Reverse_int_int.bits3 (fun HT_ HW_ => ?_)
        generalize wr.drew = w10 at HO_0 HK HB GG8 HQ11 HQ12 hf8_0 hf9_0 hx200_0 hx201_0 hx8_0 hx9_0 hHeld ⊢
        refine pz HT_.out 0 (some 14) Mk66_ rfl rfl ?_
        refine pz HT_.out 1 (some 15) Mk67_ rfl rfl ?_
        refine pz HT_.out 2 (some 16) Mk68_ rfl rfl ?_
        refine pz HT_.out 3 (some 17) Mk82_ rfl rfl ?_
        refine pz HT_.out 4 (some 18) Mk83_ rfl rfl ?_
        refine pz HT_.out 5 (some 19) Mk84_ rfl rfl ?_
        refine pz HT_.out 6 (some 20) Mk85_ rfl rfl ?_
        refine pz HT_.out 8 (some 22) Mk86_ rfl rfl ?_
        refine pz HT_.out 9 (some 23) Mk87_ rfl rfl ?_
        refine pz HT_.out 10 (some 24) Mk88_ rfl rfl ?_
        refine tz HT_.out HW_.out 7 (some 21) Mk89_ rfl rfl hHeld ?_
        refine tz HT_.out HW_.out 11 (some 25) Mk90_ rfl rfl hHeld ?_
        refine pz HT_.out 12 (some 26) Mk91_ rfl rfl ?_
        refine last_ (i := 13) (N := none) Mk92_ rfl rfl (one_of HT_.out (by kernel_rfl)) (by decide) (fun K hK => ?_)
        refine skip_ (w1 := ?_) (by rfl) rfl ?_ ?_
        rotate_left
        ·go_simp
         rfl
        refine hK.out _ _ ?_
        clear hK K
        refine pz HT_.out 14 (some 27) Mk80_ rfl rfl ?_
        refine last_ (i := 15) (N := none) Mk81_ rfl rfl (one_of HT_.out (by kernel_rfl)) (by decide) (fun K hK => ?_)
        refine skip_ (w1 := ?_) (by rfl) rfl ?_ ?_
        rotate_left
        ·go_simp
         rfl
        refine hK.out _ _ ?_
        clear hK K
        refine done_ (done_of HT_.out (by kernel_rfl)) ?_
        try go_wp2
        (try simp only [← hl0_1])
        go_roundg k1
        case measure => have := HK1.out; omega
        case rel => exact ⟨(y203), (wrap64 (x2_1 + 1)), (wrap64 (x3_1 - 1)), (by first | rfl | (simp; done) | (simp [*]; done)), (by first | rfl | (simp; done) | (simp [*]; done)), H', ⟨by have := HK1.out; omega⟩, ⟨by (try simp only [hl0_1]); (with_reducible repeat (first | apply Kd.R_alloc | apply Kd.R_drewN | apply Kd.R_drew)); exact HQ12.out⟩, ⟨by repeat (first | (with_reducible first | exact HK.out | apply Kept.alloc | apply Kept.drewN | apply Kept.drew | refine Kept.setCell ?_ HMgo8.out _ | refine Kept.setCell ?_ HMgo8.out _) | exact HK.out)⟩, ⟨by repeat (first | (with_reducible first | exact HB.out | apply below_alloc | apply pd_ | apply below_drew1 | refine below_set ?_ GB8.out | refine below_set ?_ GB8.out) | exact HB.out)⟩⟩
       ·rw [if_neg c7] at H
        exact absurd H (by simp)
      ·rw [if_neg c6] at H
       exact absurd H (by simp)
     ·rw [if_neg c5] at H
      exact absurd H (by simp)
    ·rw [if_neg c4] at H
     exact absurd H (by simp)
   ·rw [if_neg c3] at H
    have c3b0 : decide (x2_1 < x3_1) = false := decide_eq_false c3
    clear c3
    obtain rfl := Option.some.inj H
    go_wp2
    first | go_end0 | ((try simp only [Exit.inBlock, Exit.then]); refine bodyPost_ret (results_none rfl _ _ _) rfl ?_)
    exact ⟨by first | rfl | (simp [errW_none, errW_some] <;> rfl) | (simp [*, errW_none, errW_some] <;> rfl), (by first | exact (by (with_reducible repeat (first | apply Kd.R_alloc | apply Kd.R_drewN | apply Kd.R_drew)); exact HO_0.out) | (simp only [hl0_1]; exact (by (with_reducible repeat (first | apply Kd.R_alloc | apply Kd.R_drewN | apply Kd.R_drew)); exact HO_0.out))), by repeat (first | (with_reducible first | exact HB.out | apply below_alloc | apply pd_ | apply below_drew1) | exact HB.out), by repeat (first | (with_reducible first | exact HK.out | apply Kept.alloc | apply Kept.drewN | apply Kept.drew) | exact HK.out)⟩

end Go.Proofs.Ytapejnikpmfddaa.P
namespace Go.Proofs.Ytapejnikpmfddaa.X
open Go.RowKit Go.Proofs.YtapejnikpmfddaaW.PrintWords Go.Proofs.YtapejnikpmfddaaW.PrintLast Go.Proofs.YtapejnikpmfddaaW.PrintMore
open Go.Proofs.Ytapejnikpmfddaa.P Go.Proofs.Ytapejnikpmfddaa.Evx
def castL (l : List Nat) : List Int := l.map (fun n : Nat => (n : Int))
theorem encs_cast (l : List Nat) : encs natV l = encs (Value.int .i64) (castL l) := by
 unfold encs castL
 rw [List.map_map]; rfl
theorem natK_to_int {e : Nat} {w : World} {base : Nat} {ok : Nat → Prop} {v : Value} {xs : List Nat} (h : Kd.R natK e w base ok v xs) : Kd.R (Kd.int .i64) e w base ok v (castL xs) := by
 have h1 := Kd.own_of_R h
 rw [encs_cast] at h1
 exact Kd.R_of_own (by unfold castL at h1 ⊢; rw [List.length_map]; exact h1) h.1
theorem natK_of_int {e : Nat} {w : World} {base : Nat} {ok : Nat → Prop} {v : Value} {xs : List Nat} (h : Kd.R (Kd.int .i64) e w base ok v (castL xs)) : Kd.R natK e w base ok v xs := by
 have h1 := Kd.own_of_R h
 rw [← encs_cast] at h1
 exact Kd.R_of_own (by unfold castL at h1; rw [List.length_map] at h1; exact h1) h.1
theorem rd_mid (A : List Int) (x : Int) (B : List Int) : rd (A ++ x :: B) (A.length : Int) = x := rd_app A x B
theorem set_midI (A : List Int) (x y : Int) (B : List Int) : (A ++ x :: B).set A.length y = A ++ y :: B := by
 rw [List.set_append_right _ _ (Nat.le_refl _), Nat.sub_self, List.set_cons_zero]
theorem snoc_form : ∀ (l : List Int), l ≠ [] → ∃ r b, l = r ++ [b] := fun l h => ⟨l.dropLast, l.getLast h, (List.dropLast_concat_getLast h).symm⟩
theorem rev_ev : ∀ (m : Nat) (A M B : List Int), M.length ≤ m → A.length = B.length → A.length + M.length + B.length < 1000000000 →
  Ev (fun k => slices_Reverse_int_int.l0 k (A ++ M ++ B) (A.length : Int) ((A.length : Int) + (M.length : Int) - 1)) (A ++ M.reverse ++ B)
 | 0, A, M, B, hm, hl, hb => by
  have : M = [] := List.eq_nil_of_length_eq_zero (by omega)
  subst this
  refine ev_step (fun k => rfl) ?_
  exact ev_neg (by simp; omega) (ev_some _)
 | m + 1, A, M, B, hm, hl, hb => by
  match M, hm, hb with
  | [], hm, hb =>
   refine ev_step (fun k => rfl) ?_
   exact ev_neg (by simp; omega) (ev_some _)
  | [a], hm, hb =>
   refine ev_step (fun k => rfl) ?_
   exact ev_neg (by simp) (ev_some _)
  | a :: c :: r, hm, hb =>
   obtain ⟨M', b, e⟩ := snoc_form (c :: r) (by simp)
   rw [e] at hm hb ⊢
   have hj : (A.length : Int) + ((a :: (M' ++ [b])).length : Int) - 1 = (((A ++ a :: M').length : Nat) : Int) := by simp; omega
   have f1 : A ++ (a :: (M' ++ [b])) ++ B = (A ++ a :: M') ++ b :: B := by simp
   have f2 : A ++ (a :: (M' ++ [b])) ++ B = A ++ a :: (M' ++ b :: B) := by simp
   rw [hj]
   simp only [List.length_cons, List.length_append, List.length_nil] at hm hb
   have r1 : rd (A ++ (a :: (M' ++ [b])) ++ B) (((A ++ a :: M').length : Nat) : Int) = b := by rw [f1, rd_mid]
   have r2 : rd (A ++ (a :: (M' ++ [b])) ++ B) ((A.length : Nat) : Int) = a := by rw [f2, rd_mid]
   have hset : ((A ++ (a :: (M' ++ [b])) ++ B).set ((A.length : Nat) : Int).toNat b).set (((A ++ a :: M').length : Nat) : Int).toNat a = (A ++ [b]) ++ M' ++ (a :: B) := by
    rw [Int.toNat_natCast, Int.toNat_natCast, f2, set_midI]
    rw [show A ++ b :: (M' ++ b :: B) = (A ++ b :: M') ++ b :: B by simp, show (A ++ a :: M').length = (A ++ b :: M').length by simp, set_midI]
    simp
   refine ev_step (fun k => rfl) ?_
   have hlen : (A ++ (a :: (M' ++ [b])) ++ B).length = A.length + (M'.length + 2) + B.length := by simp; omega
   refine ev_pos (by simp; omega) (ev_pos (Int.natCast_nonneg _) (ev_pos (by rw [hlen]; simp; omega) (ev_pos (Int.natCast_nonneg _) (ev_pos (by rw [hlen]; omega) ?_))))
   rw [r1, r2, hset]
   have ih := rev_ev m (A ++ [b]) M' (a :: B) (by omega) (by simp; omega) (by simp; omega)
   have hw1 : wrap64 (((A.length : Nat) : Int) + 1) = (((A ++ [b]).length : Nat) : Int) := by rw [w64 (by omega) (by omega)]; simp
   have hw2 : wrap64 ((((A ++ a :: M').length : Nat) : Int) - 1) = (((A ++ [b]).length : Nat) : Int) + ((M'.length : Nat) : Int) - 1 := by
    rw [w64 (by simp; omega) (by simp; omega)]; simp; omega
   rw [hw1, hw2]
   refine ev_eq ih ?_
   simp
theorem reverse_ev (l : List Nat) (h : l.length < 1000000000) : Ev (fun k => slices_Reverse_int_int.f k (castL l)) (castL l.reverse) := by
 have hl : (castL l).length = l.length := by unfold castL; rw [List.length_map]
 have := rev_ev l.length [] (castL l) [] (by omega) rfl (by simp; omega)
 rw [List.nil_append, List.append_nil, List.nil_append, List.append_nil] at this
 refine Ev.congr (fun k => ?_) (ev_eq this (by unfold castL; rw [List.map_reverse]))
 unfold slices_Reverse_int_int.f
 rw [w64 (by rw [hl]; omega) (by rw [hl]; omega)]
 simp
theorem Reverse_calls (v : Value) (l : List Nat) (w0 w : World) (ok : Nat → Prop) (hB : Below w0.heap.size w0 w) (h : Kd.R natK 3 w w0.heap.size ok v l) (hb : l.length < 1000000000) :
  Calls Try.prog 65 #[v] w fun e w' => e = .returned (.tuple #[]) ∧ Kd.R natK 3 w' w0.heap.size (fun _ => True) v l.reverse ∧ Below w0.heap.size w0 w' := by
 obtain ⟨k, hk⟩ := (reverse_ev l hb).rounds
 refine (slices_Reverse_int_int.calls k ok v (castL l) (castL l.reverse) w0 w hB (natK_to_int h) hk).mono ?_
 rintro e w' ⟨rfl, hR, hB', _⟩
 exact ⟨rfl, Kd.R_mono (natK_of_int hR) (fun _ _ => trivial), hB'⟩
end Go.Proofs.Ytapejnikpmfddaa.X
