/- A part of the claim SearchForms. -/
import Derived.Test.YtapejnikpmfddaaGreatQSearchFormsk
set_option linter.unusedVariables false
set_option linter.unusedSimpArgs false
set_option maxHeartbeats 8000000
set_option maxRecDepth 100000
namespace Go.Proofs.YtapejnikpmfddaaGreat.X
open Go.RowKit Go.Proofs.aI.bM Go.Proofs.aI.dG Go.Proofs.aI.dM
open Go.Proofs.YtapejnikpmfddaaGreat.P Go.Proofs.YtapejnikpmfddaaGreat.gY
theorem aq_ (E0 : List gQ) (e e' : gQ) (hx : e'.x = e.x) : ((E0 ++ [e]).flatMap zh).set (E0.length * 2 + 1) (.slice e'.A e'.rest.length e'.cap) = (E0 ++ [e']).flatMap zh := by
 rw [List.flatMap_append, List.flatMap_append, List.set_append_right _ _ (by rw [FR]; omega), FR, show E0.length * 2 + 1 - E0.length * 2 = 1 by omega];congr 1;show [Value.int .i64 (e.x : Int), .slice e'.A e'.rest.length e'.cap] = [Value.int .i64 (e'.x : Int), .slice e'.A e'.rest.length e'.cap];rw [hx]
section
variable {ρ : Nat → Nat} {w0 W W1 : World} {a : At} {vs vc v1 : Value} {fo : Option Addr} {E : List gQ} {st : Sg.FS}
theorem bL.ara {g c : Nat} {E0 : List gQ} {e e' : gQ} (h : bL ρ w0 W a vs (.slice (some ⟨g, 0, none⟩) (E0.length + 1) c) fo (E0 ++ [e]) st) (hx : e'.x = e.x) (he : xW ρ W e') {q : Nat × List Nat} {cs : List (Nat × List Nat)} (hcs : st.calls = q :: cs) (hE0 : E0.map (fun e => (e.x, e.rest)) = cs.reverse) :
  bL ρ w0 (W.setCell ⟨g, E0.length * 2 + 1, none⟩ (.slice e'.A e'.rest.length e'.cap)) a vs (.slice (some ⟨g, 0, none⟩) (E0.length + 1) c) fo (E0 ++ [e']) { st with calls := (e'.x, e'.rest) :: cs } := by
 have h6 : ρ g = 6 := h.calls.role g rfl;have hbg : w0.heap.size ≤ g := xm h.calls.own g rfl;have hk : lD ρ 6 W (W.setCell ⟨g, E0.length * 2 + 1, none⟩ (.slice e'.A e'.rest.length e'.cap)) := .set h6 _ _;have hl : (E0 ++ [e]).length = E0.length + 1 := by simp
 have hl' : (E0 ++ [e']).length = E0.length + 1 := by simp
 have ho := h.calls.own;rw [hl] at ho;have hs := (ho.stored (E0.length * 2 + 1) (.slice e'.A e'.rest.length e'.cap)).1;rw [aq_ E0 e e' hx] at hs;refine ⟨h.j6.setCell hbg _, (hk.block _ h.lt (by rw [h.rg]; decide)).trans h.blk, h.rg, h.bg, ek h.nums hk ai, ek h.bJ hk ai, ek h.on hk ai, ek h.bB hk ai, ⟨by rw [hl']; exact hs, h.calls.role, fun q hq => ?_⟩, ?_, h.l6.keep hk ai⟩
 ·rcases List.mem_append.1 hq with k | k
  ·exact (h.calls.AP q (List.mem_append_left _ k)).keep hk ai
  ·rw [List.mem_singleton.1 k]; exact he.keep hk ai
 ·rw [List.map_append, hE0]; simp
end
theorem arb {ρ : Nat → Nat} {W : World} {e : gQ} {y : Nat} {r : List Nat} (h : xW ρ W e) (hr : e.rest = y :: r) (hu : Tryz.prog.underlying 23 = some (.slice 3)) : ∃ ad : Addr, e.A = some ad ∧ W.cell? ad = some (.int .i64 (y : Int)) ∧ ∃ A' c', xW ρ W ⟨e.x, A', c', r⟩ ∧ ∀ w : World, (Instr.slice 23 (.slice (some ad) (r.length + 1) e.cap) (some (.int .i64 1)) none none).run Tryz.prog w = .ok (.slice A' r.length c') w := by
 obtain ⟨x, A, cap, rest⟩ := e;simp only at hr;subst hr;obtain ⟨hc, hrd, hro⟩ := h;simp only [List.length_cons] at hc hrd hro;obtain ⟨ad, rfl, hcell⟩ := vC hrd (j := 0) ag;rw [show ad.add 0 = ad by simp [Addr.add]] at hcell;obtain ⟨i, hi, hz, hs, hb⟩ := info_parts nR;have hcut := TD (P := Tryz.prog) 23 3 .i64 hu hi 1 hs (some ad) (r.length + 1) cap 1 ag ag;have hd := Kd.aaA (k := bD) (m := 1) (xs := y :: r) (A := some ad) (c := cap) hrd (by simp) (by simpa using hc);refine ⟨ad, rfl, hcell, if cap = 1 then some ad else (some ad).map (·.add 1), cap - 1, ⟨by simp only; omega, hd, fun G6 ha hp => ?_⟩, fun w => ?_⟩
 ·obtain ⟨h1, h2⟩ := hro ad rfl ag;simp only at ha hp;split at ha
  ·cases ha; exact ⟨h1, h2⟩
  ·simp only [Option.map_some, Option.some.injEq] at ha;have hb' : (ad.add 1).block = ad.block := by unfold Addr.add; split <;> rfl
   rw [← ha, hb'];exact ⟨h1, h2⟩
 ·rw [hcut w];simp
theorem arc (p : PD) (ρ : Nat → Nat) (w0 W : World) (a : At) (vs vc : Value) (fo : Option Addr) (E : List gQ) (st : Sg.FS) (x : Nat) (r : List Nat) (cs : List (Nat × List Nat)) (frm : List Nat) (h : bL ρ w0 W a vs vc fo E st) (hP : qc w0 a.pg p) (hok : p.Ok) (Cb : a.N = p.N) (hI : Sg.Inv p.next p.N p.P p.good frm (fun _ => False) st) (hc : st.calls = (x, r) :: cs) (hE : E.length < 900000) (hm : st.met < 1000000) (hsl : st.bB.length < 1000000) :
  Calls Tryz.prog 61 #[.pointer (some ⟨a.g, 0, none⟩)] W fun e W' => e = .returned (.tuple #[]) ∧ ∃ ρ' vs' wK AQ E', bL ρ' w0 W' a vs' wK AQ E' (Sg.pX p.next (Sg.gm p.next p.P p.good) st) := by
 have fM := Tryz.underlying23;have hub := Tryz.underlying57;have jm := Tryz.underlying105;have QA := Tryz.underlying103;have huv := Tryz.underlying129;obtain ⟨E0, e0, eE, hex, her, hE0⟩ := Xw (by rw [← hc]; exact h.cs);subst eE;obtain ⟨bc, cc, e, hcc, hrc, hbc⟩ := h.calls.form (by simp);subst e;have hn1 : (E0 ++ [e0]).length = E0.length + 1 := by simp
 have hcl := h.calls;obtain ⟨c0, c1, fz⟩ := hcl.cells;have ou : x < a.N := by rw [Cb]; exact hI.lt (hI.sv x (hI.cs x (by rw [hc]; exact List.mem_cons_self ..)))
 have hxl : (x : Int) < (a.N : Int) := by omega
 have k6 := h.c6;rw [hn1] at k6 hcc hE;rw [hex] at c0;simp only at hex her;have hent := h.calls.AP e0 (List.mem_append_right _ (List.mem_singleton_self _));have H := Zd.mk h;have HI := Zd.mk hI;have HC := Zd.mk hc;have HP := Zd.mk hP;have eG := Zd.mk hok;have ui := Zd.mk Cb;have IX := Zd.mk hE0;have HM := Zd.mk hm;have HEL := Zd.mk hE;clear h hI hc hP hok Cb hE0 hcl hn1 hm;cases r with
 | nil =>
  rw [her] at c1;have HST := Zd.mk (show Sg.pX p.next (Sg.gm p.next p.P p.good) st = Sg.xO (Sg.gm p.next p.P p.good) st x cs from by unfold Sg.pX; rw [HC.out]);have XC := Zd.mk (fun W1 (hb : Below W.heap.size W W1) => aq5 p ρ w0 W1 a vs _ fo (E0 ++ [e0]) st x cs frm (H.out.below hb) HP.out eG.out ui.out HI.out HC.out (by have := HEL.out; simp; omega) hsl);clear hent;generalize hk : E0.length = k at *;clear hk IX H;go_enter Tryz.func61, Tryz.ntmps61;go_wp2
  go_quiet (fail)
  have hB := fB (Below.refl W.heap.size W) nq;have c0a := aG hB c0;have c1a := aG hB c1;have HL2 := Zd.mk (XC.out _ hB);generalize W.drewN nq = W2 at *;clear hB c0 c1 k6;go_wp2_with (go_at_call 92; refine HL2.out.mono ?_; rintro e w9 ⟨rfl, hIF⟩; have DR := Zd.mk hIF; clear hIF);refine bodyPost_ret (results_none rfl _ _ _) rfl ?_;obtain ⟨ρ', vs', wK, AQ, E', h⟩ := DR.out;exact ⟨rfl, _, _, _, _, _, h.to HST.out⟩
 | cons y r =>
  obtain ⟨ad, hA, hy, A', c', XD, hcut⟩ := arb hent her fM;rw [her, hA] at c1;rw [hex] at XD;have vz : y < a.N := by
   rw [ui.out];obtain ⟨pre, e1, _⟩ := HI.out.rest (x, y :: r) (by rw [HC.out]; exact List.mem_cons_self ..);exact eG.out.xS (x := x) (by rw [← ui.out]; exact ou) (by rw [e1]; simp)
  have hyl : (y : Int) < (a.N : Int) := by omega
  obtain ⟨st1, LP⟩ : ∃ s : Sg.FS, s = { st with calls := (x, r) :: cs } := ⟨_, rfl⟩;have DT := Zd.mk (fun W1 (hb : Below W.heap.size W W1) => show bL ρ w0 (W1.setCell ⟨bc, E0.length * 2 + 1, none⟩ (.slice A' r.length c')) a vs (.slice (some ⟨bc, 0, none⟩) (E0.length + 1) cc) fo (E0 ++ [⟨x, A', c', r⟩]) st1 from by
   have h1 := H.out.below hb;rw [show (E0 ++ [e0]).length = E0.length + 1 by simp] at h1;have := h1.ara (e' := ⟨x, A', c', r⟩) hex.symm (XD.keep (r := 0) (.below hb) ai) HC.out IX.out;rw [LP];exact this)
  have HST := Zd.mk (show Sg.pX p.next (Sg.gm p.next p.P p.good) st = if st1.nums.getD y 0 = 0 then Sg.ib p.next st1 y else if st1.on.getD y false = true then { st1 with bJ := st1.bJ.set x (min (st1.bJ.getD x 0) (st1.nums.getD y 0)) } else st1 from by unfold Sg.pX; rw [HC.out, LP]);have wM := Zd.mk (show st1.met < 1000000 by rw [LP]; exact HM.out);have o7 := Zd.mk (show st1.bB.length < 1000000 by rw [LP]; exact hsl);have vM := Zd.mk (show (E0 ++ [(⟨x, A', c', r⟩ : gQ)]).length < 1000000 by have := HEL.out; simp; omega);have HFZ := Zd.mk (fun W1 (hb : Below W.heap.size W W1) => ((H.out.below hb).calls.cells).2.2 (E0.length * 2 + 1));clear hent XD hex her hA H LP;generalize hk : E0.length = k at *;have tN := Zd.mk (fun W1 (hb : Below W.heap.size W W1) => aG hb c1);clear hk IX;have hrl : ¬ ((r.length : Int) + 1 = 0) := by omega
  go_enter Tryz.func61, Tryz.ntmps61;go_wp2
  go_quiet (fail)
  have hB := fB (Below.refl W.heap.size W) nq;have c0a := aG hB c0;have c1a := aG hB c1;have ya := aG hB hy;have HG2 := Zd.mk (DT.out _ hB);have fza := HFZ.out _ hB;generalize W.drewN nq = W2 at *;clear hB c0 c1 k6 DT hy tN HFZ
  go_upto_block 0 with fail
  obtain ⟨W3, hW3⟩ : ∃ W : World, W = W2.setCell ⟨bc, k * 2 + 1, none⟩ (.slice A' r.length c') := ⟨_, rfl⟩;rw [← hW3] at HG2 ⊢;have c0b : W3.cell? ⟨bc, k * 2, none⟩ = some (.int .i64 (x : Int)) := by rw [hW3]; exact (World.cell?_setCell_other _ _ _ _ (by simp)).trans c0a
  have k1 := HG2.out.c1;have k2 := HG2.out.c2;have k3 := HG2.out.c3;obtain ⟨z1, _⟩ := sK HG2.out.nums vz;obtain ⟨z3, _⟩ := zi HG2.out.on vz;obtain ⟨z2, _⟩ := sK HG2.out.bJ ou;clear c0a c1a ya fza hW3 hcut;have IW := Zd.mk (fun W1 (hb : Below W3.heap.size W3 W1) => afI p ρ w0 W1 a vs _ fo (E0 ++ [⟨x, A', c', r⟩]) st1 y (HG2.out.below hb) HP.out eG.out ui.out (by rw [← ui.out]; exact vz) wM.out o7.out vM.out);have wB := Zd.mk (fun W1 (hb : Below W3.heap.size W3 W1) (m : Nat) => (HG2.out.below hb).Xn x m);have Fy := Zd.mk (fun W1 (hb : Below W3.heap.size W3 W1) => (sK (HG2.out.below hb).bJ ou).2);by_cases h0 : st1.nums.getD y 0 = 0
  ·have FV := Zd.mk (HST.out.trans (if_pos h0));rw [h0] at z1;clear h0;generalize st1.on.getD y false = o1 at *;generalize st1.bJ.getD x 0 = n2 at z2;go_wp2_with (go_at_call 62; refine (IW.out _ (Below.refl _ _)).mono ?_; rintro e w9 ⟨rfl, hIF⟩; have DR := Zd.mk hIF; clear hIF)
   go_end0
   obtain ⟨ρ', vs', wK, E', h⟩ := DR.out;exact ⟨rfl, _, _, _, _, _, h.to FV.out⟩
  ·have FV := Zd.mk (HST.out.trans (if_neg h0));have h0i : ¬ ((st1.nums.getD y 0 : Nat) : Int) = 0 := by omega
   have h0' : 0 < st1.nums.getD y 0 := by omega
   obtain ⟨n1, hn1⟩ : ∃ n, n = st1.nums.getD y 0 := ⟨_, rfl⟩;obtain ⟨n2, hn2⟩ : ∃ n, n = st1.bJ.getD x 0 := ⟨_, rfl⟩;obtain ⟨o1, ho1⟩ : ∃ n, n = st1.on.getD y false := ⟨_, rfl⟩;rw [← hn1] at z1 h0i FV;rw [← hn2] at z2 FV;rw [← ho1] at z3 FV;have h0n : ¬ n1 = 0 := by omega
   clear h0 h0' hn1 hn2 ho1 h0i;cases o1
   ·go_wp2
    all_goals (
     go_end0
     exact ⟨rfl, _, _, _, _, _, HG2.out.to (FV.out.trans (if_neg ai))⟩)
   ·have QN := Zd.mk (FV.out.trans (if_pos rfl));have hB1 : Below W3.heap.size W3 W3.drew := bV (Below.refl _ _);have f2 := Fy.out _ hB1;have z2b := aG hB1 z2;go_upto_region 8 with fail
    by_cases FT : n1 < n2
    ·have rE : ((n1 : Nat) : Int) < (n2 : Int) := by omega
     have hmj : ¬ ((n2 : Nat) : Int) < (n1 : Int) := by omega
     have hme : min n2 n1 = n1 := by omega
     rw [hme] at QN;have HS2 := Zd.mk (wB.out _ hB1 n1);clear hme hB1 FT
     go_still_tail 26, aa
     change wpList _ _ _ _ _ W3.drew;generalize W3.drew = W4 at *;go_wp2
     go_end0
     exact ⟨rfl, _, _, _, _, _, HS2.out.to QN.out⟩
    ·have rE : ¬ ((n1 : Nat) : Int) < (n2 : Int) := by omega
     have hme : min n2 n1 = n2 := by omega
     rw [hme] at QN;have HS2 := Zd.mk (wB.out _ hB1 n2);clear hme hB1 FT
     go_still_tail 26, aa
     change wpList _ _ _ _ _ W3.drew;generalize W3.drew = W4 at *;go_wp2
     go_end0
     exact ⟨rfl, _, _, _, _, _, HS2.out.to QN.out⟩
def rH.T2 : Bool × List (List Nat × List Nat) := (true, [([], []), ([], []), ([1, 1], [1]), ([], []), ([3, 3], [3]), ([], []), ([5, 5], [5]), ([0, 2, 4, 6], [0, 2, 4, 6]), ([7], [7]), ([8, 0, 1, 2, 3, 4, 5, 6, 7, 8], [8])])
def rH.B2 : List Nat := [0, 0, 2, 0, 8, 0, 32, 127, 255, 511]
theorem rH.ard : dh .any (opsOf Tryz.f42 2) = rH.T2 := by kernel_rfl
theorem rH.arf : ik rH.T2.2 rH.B2 = true := by kernel_rfl
def Lay (W w : World) (g : Nat) (cs : Array Value) (t : TypeId) : Prop := W.heap.size ≤ g ∧ w.heap[g]? = some (.cells cs t (0, 0))
section
variable {W w w1 : World} {g p : Nat} {cs : Array Value} {t : TypeId}
theorem Lay.alloc (h : Lay W w g cs t) (o : Obj) : Lay W (w.alloc o) g cs t := ⟨h.1, bf h.2 o⟩
theorem Lay.below (h : Lay W w g cs t) (hB : Below w.heap.size w w1) : Lay W w1 g cs t := ⟨h.1, (hB.block _ (aT h.2)).trans h.2⟩
theorem Lay.new (hB : Below W.heap.size W w) (cs : Array Value) (t : TypeId) : Lay W (w.alloc (.cells cs t)) w.heap.size cs t := ⟨hB.size, heap_alloc_new w _⟩
theorem Lay.AU (h : Lay W w g cs t) : w.heap.size ≠ g := by have := aT h.2; omega
end
theorem afN {W w : World} {g n : Nat} {ok : Nat → Prop} (h : Lay W w g ⟨List.replicate n (Value.int .i64 0)⟩ 3) (hn : n < 1000000000) (hok : ok g) : Kd.R bD 3 w W.heap.size ok (.slice (some ⟨g, 0, none⟩) n n) (List.replicate n 0) := by
 refine Kd.vY (enc := xQ) (h1 := fun _ => rfl) ⟨by simp [encs], .inr ⟨g, n, _, by rw [List.length_replicate], h.1, h.2, by simp, by simp only [maxLen]; omega, by simp, ?_⟩⟩ (fun k hk => by simp [Value.ownBlock] at hk; rw [← hk]; exact hok);simp [encs, xQ]
theorem XE {W w : World} {g n : Nat} {ok : Nat → Prop} (h : Lay W w g ⟨List.replicate n (Value.bool false)⟩ 4) (hn : n < 1000000000) (hok : ok g) : Kd.R Kd.bool 4 w W.heap.size ok (.slice (some ⟨g, 0, none⟩) n n) (List.replicate n false) := by
 refine Kd.vY (enc := Value.bool) (h1 := fun _ => rfl) ⟨by simp [encs], .inr ⟨g, n, _, by rw [List.length_replicate], h.1, h.2, by simp, by simp only [maxLen]; omega, by simp, ?_⟩⟩ (fun k hk => by simp [Value.ownBlock] at hk; rw [← hk]; exact hok);simp [encs]
def FW (g8 g2 g4 g6 : Nat) : Nat → Nat := fun k => if k = g8 then 4 else if k = g2 then 1 else if k = g4 then 2 else if k = g6 then 3 else 0
theorem arh {w0 W : World} {pg nn g2 g4 g6 g8 : Nat} (hb : Below w0.heap.size w0 W) (hn : nn < 1000000000) (h2 : Lay w0 W g2 ⟨List.replicate nn (Value.int .i64 0)⟩ 3) (h4 : Lay w0 W g4 ⟨List.replicate nn (Value.int .i64 0)⟩ 3) (h6 : Lay w0 W g6 ⟨List.replicate nn (Value.bool false)⟩ 4)
  (h8 : Lay w0 W g8 #[.pointer (some ⟨pg, 0, none⟩), .slice (some ⟨g2, 0, none⟩) nn nn, .slice (some ⟨g4, 0, none⟩) nn nn, .slice (some ⟨g6, 0, none⟩) nn nn, .int .i64 0, .slice none 0 0, .slice none 0 0, .pointer none] 105)
  (n24 : g2 ≠ g4) (n26 : g2 ≠ g6) (n28 : g2 ≠ g8) (n46 : g4 ≠ g6) (n48 : g4 ≠ g8) (n68 : g6 ≠ g8) : bL (FW g8 g2 g4 g6) w0 W ⟨nn, pg, g8, g2, g4, g6⟩ (.slice none 0 0) (.slice none 0 0) none [] (Sg.BH nn) := by
 refine ⟨hb, h8.2, if_pos rfl, h8.1, afN h2 hn ?_, afN h4 hn ?_, XE h6 hn ?_, Kd.lK _ _ _ _ _, ⟨World.ownsRow_nil _ _ _ _, fun k hk => by simp [Value.ownBlock] at hk, fun e he => by cases he⟩, rfl, trivial⟩
 ·show FW g8 g2 g4 g6 g2 = 1;unfold FW; rw [if_neg n28, if_pos rfl]
 ·show FW g8 g2 g4 g6 g4 = 2;unfold FW; rw [if_neg n48, if_neg (Ne.symm n24), if_pos rfl]
 ·show FW g8 g2 g4 g6 g6 = 3;unfold FW; rw [if_neg n68, if_neg (Ne.symm n26), if_neg (Ne.symm n46), if_pos rfl]
end Go.Proofs.YtapejnikpmfddaaGreat.X
namespace Go.Proofs.YtapejnikpmfddaaGreat.Sg
theorem QO : ∀ (N : Nat) (l : List Nat), l.Nodup → (∀ x, x ∈ l → x < N) → l.length ≤ N
 | 0, l, _, h => by
  cases l with
  | nil => exact Nat.le_refl _
  | cons x r => exact absurd (h x (List.mem_cons_self ..)) (Nat.not_lt_zero _)
 | N + 1, l, hd, h => by
  by_cases hN : N ∈ l
  ·have h1 := QO N (l.erase N) (hd.erase N) (fun x hx => by
    have h2 := h x (List.mem_of_mem_erase hx);have h3 : x ≠ N := fun e => by
     rw [e] at hx;exact hd.not_mem_erase hx
    omega)
   rw [List.length_erase_of_mem hN] at h1;omega
  ·have h1 := QO N l hd (fun x hx => by
    have h2 := h x hx;have h3 : x ≠ N := fun e => hN (e ▸ hx);omega)
   omega
theorem afO {α : Type} {f : α → Nat} {l : List α} (h : l.Pairwise (fun a b => f b < f a)) : l.Nodup :=
 h.imp (fun hab e => by rw [e] at hab; exact absurd hab (Nat.lt_irrefl _))
section
variable {nx : Nat → List Nat} {N P : Nat} {good : Nat → Nat → Bool} {frm : List Nat} {ex : Nat → Prop} {st : FS}
theorem Inv.ari (h : Inv nx N P good frm ex st) : st.bB.length ≤ N := QO N _ (afO (f := fun v => st.nums.getD v 0) h.ss) (fun x hx => h.lt (h.sv x hx))
theorem Inv.arj (h : Inv nx N P good frm ex st) : st.calls.length ≤ N := by
 have := QO N _ (afO (f := fun v => st.nums.getD v 0) h.cp) (fun x hx => h.lt (h.sv x (h.cs x hx)))
 rwa [List.length_map] at this
end
def rQ (st : FS) : Prop := st.met ≤ st.nums.countP (fun x => decide (x ≠ 0))
theorem rQ.le {st : FS} (h : rQ st) : st.met ≤ st.nums.length := Nat.le_trans h (List.countP_le_length ..)
theorem ark (N : Nat) : rQ (BH N) := Nat.zero_le _
theorem rQ.enter {st : FS} (h : rQ st) (nx : Nat → List Nat) {y : Nat} (hy : y < st.nums.length) (h0 : st.nums.getD y 0 = 0) : rQ (ib nx st y) := by
 unfold rQ ib;simp only;rw [List.countP_set hy];have e : st.nums[y] = 0 := by rw [← h0, List.getD_eq_getElem?_getD, List.getElem?_eq_getElem hy]; rfl
 rw [e];unfold rQ at h;simp;simpa using h
theorem rQ.of {st s2 : FS} (h : rQ st) (hm : s2.met = st.met) (hn : s2.nums = st.nums) : rQ s2 := by unfold rQ; rw [hm, hn]; exact h
theorem rQ.step {st : FS} (h : rQ st) {nx : Nat → List Nat} {gK : List Bool → List Nat → Bool} (hy : ∀ x y r cs, st.calls = (x, y :: r) :: cs → y < st.nums.length) : rQ (pX nx gK st) := by
 unfold pX;split
 ·exact h
 ·unfold xO;split
  ·exact h.of rfl rfl
  ·exact h.of rfl rfl
 ·rename_i x y r cs hc
  split
  ·rename_i h0
   exact rQ.enter (st := { st with calls := (x, r) :: cs }) (h.of rfl rfl) nx (hy x y r cs hc) h0
  ·split
   ·exact h.of rfl rfl
   ·exact h.of rfl rfl
theorem Inv.arl {nx : Nat → List Nat} {N P : Nat} {good : Nat → Nat → Bool} {frm : List Nat} {ex : Nat → Prop} {st : FS} (h : Inv nx N P good frm ex st) (hnx : ∀ x, x < N → ∀ y, y ∈ nx x → y < N) : ∀ x y r cs, st.calls = (x, y :: r) :: cs → y < st.nums.length := by
 intro x y r cs hc;obtain ⟨pre, e1, _⟩ := h.rest (x, y :: r) (by rw [hc]; exact List.mem_cons_self ..);have hx : x < N := h.lt (h.sv x (h.cs x (by rw [hc]; exact List.mem_cons_self ..)));rw [h.ln];exact hnx x hx y (by rw [e1]; simp)
end Go.Proofs.YtapejnikpmfddaaGreat.Sg
namespace Go.Proofs.YtapejnikpmfddaaGreat.X
open Go.RowKit Go.Proofs.aI.bM Go.Proofs.aI.dG Go.Proofs.aI.dM
open Go.Proofs.YtapejnikpmfddaaGreat.P Go.Proofs.YtapejnikpmfddaaGreat.gY
def I5 (w : World) (fo : Option Addr) (o : Option (List Bool)) : Prop :=
 match o, fo with
 | none, none => True
 | some cb, some a => ∃ gc, a = ⟨gc, 0, none⟩ ∧ ze w gc cb
 | _, _ => False
theorem uu.comp {ρ : Nat → Nat} {W : World} {fo : Option Addr} {f : Option (List Bool)} (h : uu ρ W fo f) : I5 W fo f := by
 match f, fo, h with
 | none, none, _ => trivial
 | some c, some a, ⟨gc, e, A, k, h1, h2, _⟩ => exact ⟨gc, e, A, k, h1, h2⟩
structure I6 (p : PD) (w0 W : World) (a : At) (l : List Nat) (st : Sg.FS) : Prop where
 mem : ∃ ρ vs vc fo E, bL ρ w0 W a vs vc fo E st
 inv : Sg.Inv p.next p.N p.P p.good l (fun _ => False) st
 met : Sg.rQ st
theorem I6.QP {p : PD} {w0 W : World} {a : At} {l : List Nat} {st : Sg.FS} (h : I6 p w0 W a l st) (hok : p.Ok) : st.met ≤ 51200 ∧ st.bB.length ≤ 51200 ∧ st.calls.length ≤ 51200 := by
 have h1 := hok.BN;have h2 := h.met.le;rw [h.inv.ln] at h2;exact ⟨by omega, Nat.le_trans h.inv.ari h1, Nat.le_trans h.inv.arj h1⟩
theorem bL.afP {ρ : Nat → Nat} {w0 W : World} {a : At} {vs vc : Value} {fo : Option Addr} {E : List gQ} {st : Sg.FS} (h : bL ρ w0 W a vs vc fo E st) : E.length = st.calls.length := by
 have := congrArg List.length h.cs;simpa using this
theorem arn {l : List Nat} {i : Nat} (h : i < l.length) : l.drop i = l.getD i 0 :: l.drop (i + 1) := drop_cons h
theorem aro (nx : Nat → List Nat) (gK : List Bool → List Nat → Bool) (N x : Nat) (r : List Nat) (st : Sg.FS) (h : 0 < st.nums.getD x 0) : Sg.sJ nx gK N (x :: r) st = Sg.sJ nx gK N r st := by
 rw [Sg.sJ, if_pos h]
theorem arp (nx : Nat → List Nat) (gK : List Bool → List Nat → Bool) (N x : Nat) (r : List Nat) (st : Sg.FS) (h : st.nums.getD x 0 = 0) {s1 : Sg.FS} (h1 : s1 = Sg.sI nx gK (Sg.mu nx N (Sg.ib nx st x)) (Sg.ib nx st x)) : Sg.sJ nx gK N (x :: r) st = match s1.found with | some c => some c | none => Sg.sJ nx gK N r s1 := by
 subst h1;rw [Sg.sJ, if_neg ag];cases (Sg.sI nx gK (Sg.mu nx N (Sg.ib nx st x)) (Sg.ib nx st x)).found <;> rfl
theorem arq (p : PD) (pg : Nat) (A : Option Addr) (c : Nat) (l : List Nat) (W2 : World) (hP : qc W2 pg p) (hok : p.Ok) (hr : Kd.C bD W2 A l.length l) (hl : ∀ x, x ∈ l → x < p.N) (hll : l.length < 1000000) :
  Calls Tryz.prog 42 #[.pointer (some ⟨pg, 0, none⟩), .slice A l.length c] W2 fun e w' => Below W2.heap.size W2 w' ∧ ∃ fo, e = .returned (.pointer fo) ∧ I5 w' fo (Sg.Dr p.next (Sg.gm p.next p.P p.good) p.N l) := by
 have fM := Tryz.underlying23;have hub := Tryz.underlying57;have jm := Tryz.underlying105;have BO := Tryz.underlying74;obtain ⟨A0, A1, A2, A5, A7, A8, c0, c1, c2, c5, c7, c8, h'⟩ := id hP;have q8 := h'.q8;have han : p.after.length = p.N := hok.al;obtain ⟨nn, hnn⟩ : ∃ n, n = p.N := ⟨_, rfl⟩;rw [han, ← hnn] at q8;have hn9 : nn < 1000000 := by rw [hnn]; have := hok.BN; omega
 have afQ := fun W : World => Tx (P := Tryz.prog) 23 3 (.int .i64 0) 8 Tryz.underlying23 nR rfl ai nn ag W;have rE : madeCells #[Value.int .i64 0] nn = ⟨List.replicate nn (Value.int .i64 0)⟩ := by
  apply Array.ext
  ·simp [madeCells]
  ·intro i h1 h2;simp [madeCells, Nat.mod_one]
 simp only [rE] at afQ;have ars : ∀ W : World, (Instr.makeSlice 57 (.int .i64 (nn : Int)) (.int .i64 (nn : Int))).run Tryz.prog W = .ok (.slice (some ⟨W.heap.size, 0, none⟩) nn nn) (W.alloc (.cells ⟨List.replicate nn (Value.bool false)⟩ 4)) := Pg nn ag;have HP := Zd.mk hP;have eG := Zd.mk hok;have HR := Zd.mk hr;have HL := Zd.mk hl;have ma := Zd.mk hnn;clear hP hok hr hl h' han hnn rE;have BW := Zd.mk (bV (Below.refl W2.heap.size W2));obtain ⟨gK, Iw⟩ : ∃ f, f = Sg.gm p.next p.P p.good := ⟨_, rfl⟩;have HST := Zd.mk Iw;rw [← Iw];clear Iw;go_enter Tryz.func42, Tryz.ntmps42;go_upto_region 2 with fail
 refine iP (n := 10) (S := fun w' => True) (ds := []) amg aa rfl rfl trivial (fun hHeld => ?_);refine iR rH.ard rH.arf (fun ae bA => ?_);refine JX [0, 1, 2, 3, 4, 5, 6, 7, 8, 9] (fun Bv b a w' => ∃ (g2 : Nat) (g4 : Nat) (g6 : Nat) (g8 : Nat) (mM : Value) (dP : Value) (dV : Value) (dD : Value) (dW : Value) (bR : Value), a = ig Bv b [(0, 15, .pointer (some ⟨pg, 0, none⟩)), (1, 16, .int .i64 (nn : Int)), (2, 17, mM), (3, 18, .int .i64 (nn : Int)), (4, 19, dP), (5, 20, .int .i64 (nn : Int)), (6, 21, dV), (7, 22, dD), (8, 23, dW), (9, 6, bR)] ∧ (Below W2.heap.size W2 w') ∧ (b 2 = true → Lay W2 w' g2 ⟨List.replicate nn (Value.int .i64 0)⟩ 3) ∧ (b 4 = true → Lay W2 w' g4 ⟨List.replicate nn (Value.int .i64 0)⟩ 3) ∧ (b 6 = true → Lay W2 w' g6 ⟨List.replicate nn (Value.bool false)⟩ 4) ∧ (b 8 = true → Lay W2 w' g8 #[.pointer (some ⟨pg, 0, none⟩), .slice (some ⟨g2, 0, none⟩) nn nn, .slice (some ⟨g4, 0, none⟩) nn nn, .slice (some ⟨g6, 0, none⟩) nn nn, .int .i64 0, .slice none 0 0, .slice none 0 0, .pointer none] 105) ∧ (b 2 = true → b 4 = true → g2 ≠ g4) ∧ (b 2 = true → b 6 = true → g2 ≠ g6) ∧ (b 2 = true → b 8 = true → g2 ≠ g8) ∧ (b 4 = true → b 6 = true → g4 ≠ g6) ∧ (b 4 = true → b 8 = true → g4 ≠ g8) ∧ (b 6 = true → b 8 = true → g6 ≠ g8) ∧ (b 2 = true → (mM : Value) = .slice (some ⟨g2, 0, none⟩) nn nn) ∧ (b 4 = true → (dP : Value) = .slice (some ⟨g4, 0, none⟩) nn nn) ∧ (b 6 = true → (dV : Value) = .slice (some ⟨g6, 0, none⟩) nn nn) ∧ (b 7 = true → (dD : Value) = .agg #[.pointer (some ⟨pg, 0, none⟩), .slice (some ⟨g2, 0, none⟩) nn nn, .slice (some ⟨g4, 0, none⟩) nn nn, .slice (some ⟨g6, 0, none⟩) nn nn, .int .i64 0, .slice none 0 0, .slice none 0 0, .pointer none]) ∧ (b 8 = true → (dW : Value) = .pointer (some ⟨g8, 0, none⟩)) ∧ (b 9 = true → (bR : Value) = .pointer (some ⟨g8, 0, none⟩))) ae.out bA.out aa aa ?_ ?_ ?_
 ·exact ⟨0, 0, 0, 0, .bool false, .bool false, .bool false, .bool false, .bool false, .bool false, by simp only [ig, Bool.false_eq_true, if_false], BW.out, fun h_ => absurd h_ ai, fun h_ => absurd h_ ai, fun h_ => absurd h_ ai, fun h_ => absurd h_ ai, fun h_ => absurd h_ ai, fun h_ => absurd h_ ai, fun h_ => absurd h_ ai, fun h_ => absurd h_ ai, fun h_ => absurd h_ ai, fun h_ => absurd h_ ai, fun h_ => absurd h_ ai, fun h_ => absurd h_ ai, fun h_ => absurd h_ ai, fun h_ => absurd h_ ai, fun h_ => absurd h_ ai, fun h_ => absurd h_ ai⟩
 ·skip
  clear BW;refine dm ?_ ?_
  ·rintro b a w' ⟨g2, g4, g6, g8, mM, dP, dV, dD, dW, bR, ha, bI, mh, eH, mi, gL, oC, oD, vN, oF, vO, vP, o8, fG, fq, fA, iA, eX⟩ bq hon hoff;refine ⟨_, rfl, fun K hK => ?_⟩;have e0 : a.tmps[0]? = some (.pointer (some ⟨pg, 0, none⟩)) := by rw [ha]; exact (kF rfl).trans rfl
   replace ha := Zd.mk ha;have BW := Zd.mk bI;refine dQ (w1 := w') (v := .pointer (some ⟨pg, 0, none⟩)) bu rfl ?_ ?_
   ·go_simp
    (try simp only [bE])
    try rfl
   refine hK.out _ _ ⟨g2, g4, g6, g8, mM, dP, dV, dD, dW, bR, (by rw [ha.out]; exact dH 0 bq rfl rfl rfl), bI, mh, eH, mi, fun ah => aA (hoff 8 aa) ah, oC, oD, fun _ aD => aA (hoff 8 aa) aD, oF, fun _ aD => aA (hoff 8 aa) aD, fun _ aD => aA (hoff 8 aa) aD, o8, fG, fq, fun ah => aA (hoff 7 aa) ah, fun ah => aA (hoff 8 aa) ah, fun ah => aA (hoff 9 aa) ah⟩
  refine dm ?_ ?_
  ·rintro b a w' ⟨g2, g4, g6, g8, mM, dP, dV, dD, dW, bR, ha, bI, mh, eH, mi, gL, oC, oD, vN, oF, vO, vP, o8, fG, fq, fA, iA, eX⟩ bq hon hoff;refine ⟨_, rfl, fun K hK => ?_⟩;have e5 : a.tmps[5]? = some (.int .i64 (nn : Int)) := by rw [ha]; exact (kF rfl).trans rfl
   replace ha := Zd.mk ha;have BW := Zd.mk bI;refine dQ (w1 := w') (v := .int .i64 (nn : Int)) bu rfl ?_ ?_
   ·go_simp
    (try simp only [bE])
    try rfl
   refine hK.out _ _ ⟨g2, g4, g6, g8, mM, dP, dV, dD, dW, bR, (by rw [ha.out]; exact dH 1 bq rfl rfl rfl), bI, fun ah => aA (hoff 2 aa) ah, eH, mi, fun ah => aA (hoff 8 aa) ah, fun ah _ => aA (hoff 2 aa) ah, fun ah _ => aA (hoff 2 aa) ah, fun ah _ => aA (hoff 2 aa) ah, oF, fun _ aD => aA (hoff 8 aa) aD, fun _ aD => aA (hoff 8 aa) aD, fun ah => aA (hoff 2 aa) ah, fG, fq, fun ah => aA (hoff 7 aa) ah, fun ah => aA (hoff 8 aa) ah, fun ah => aA (hoff 9 aa) ah⟩
  refine dm ?_ ?_
  ·rintro b a w' ⟨g2, g4, g6, g8, mM, dP, dV, dD, dW, bR, ha, bI, mh, eH, mi, gL, oC, oD, vN, oF, vO, vP, o8, fG, fq, fA, iA, eX⟩ bq hon hoff;refine ⟨_, rfl, fun K hK => ?_⟩;have e16 : a.tmps[16]? = some (.int .i64 (nn : Int)) := by rw [ha]; exact dL (e := (1, 16, .int .i64 (nn : Int))) 1 rfl rfl (hon 1 aa) rfl
   replace ha := Zd.mk ha;have BW := Zd.mk bI;refine dQ (w1 := w'.alloc (.cells ⟨List.replicate nn (Value.int .i64 0)⟩ 3)) (v := .slice (some ⟨w'.heap.size, 0, none⟩) nn nn) bu rfl ?_ ?_
   ·(go_simp; try rfl)
   refine hK.out _ _ ⟨w'.heap.size, g4, g6, g8, (.slice (some ⟨w'.heap.size, 0, none⟩) nn nn), dP, dV, dD, dW, bR, (by rw [ha.out]; exact dH 2 bq rfl rfl rfl), aW BW.out _, fun _ => Lay.new BW.out _ _, fun ah => (eH ah).alloc _, fun ah => (mi ah).alloc _, fun ah => aA (hoff 8 aa) ah, fun _ h_ => (eH h_).AU, fun _ h_ => (mi h_).AU, fun _ aD => aA (hoff 8 aa) aD, oF, fun _ aD => aA (hoff 8 aa) aD, fun _ aD => aA (hoff 8 aa) aD, fun _ => rfl, fG, fq, fun ah => aA (hoff 7 aa) ah, fun ah => aA (hoff 8 aa) ah, fun ah => aA (hoff 9 aa) ah⟩
  refine dm ?_ ?_
  ·rintro b a w' ⟨g2, g4, g6, g8, mM, dP, dV, dD, dW, bR, ha, bI, mh, eH, mi, gL, oC, oD, vN, oF, vO, vP, o8, fG, fq, fA, iA, eX⟩ bq hon hoff;refine ⟨_, rfl, fun K hK => ?_⟩;have e5 : a.tmps[5]? = some (.int .i64 (nn : Int)) := by rw [ha]; exact (kF rfl).trans rfl
   replace ha := Zd.mk ha;have BW := Zd.mk bI;refine dQ (w1 := w') (v := .int .i64 (nn : Int)) bu rfl ?_ ?_
   ·go_simp
    (try simp only [bE])
    try rfl
   refine hK.out _ _ ⟨g2, g4, g6, g8, mM, dP, dV, dD, dW, bR, (by rw [ha.out]; exact dH 3 bq rfl rfl rfl), bI, mh, fun ah => aA (hoff 4 aa) ah, mi, fun ah => aA (hoff 8 aa) ah, fun _ aD => aA (hoff 4 aa) aD, oD, fun _ aD => aA (hoff 8 aa) aD, fun ah _ => aA (hoff 4 aa) ah, fun ah _ => aA (hoff 4 aa) ah, fun _ aD => aA (hoff 8 aa) aD, o8, fun ah => aA (hoff 4 aa) ah, fq, fun ah => aA (hoff 7 aa) ah, fun ah => aA (hoff 8 aa) ah, fun ah => aA (hoff 9 aa) ah⟩
  refine dm ?_ ?_
  ·rintro b a w' ⟨g2, g4, g6, g8, mM, dP, dV, dD, dW, bR, ha, bI, mh, eH, mi, gL, oC, oD, vN, oF, vO, vP, o8, fG, fq, fA, iA, eX⟩ bq hon hoff;refine ⟨_, rfl, fun K hK => ?_⟩;have e18 : a.tmps[18]? = some (.int .i64 (nn : Int)) := by rw [ha]; exact dL (e := (3, 18, .int .i64 (nn : Int))) 3 rfl rfl (hon 3 aa) rfl
   replace ha := Zd.mk ha;have BW := Zd.mk bI;refine dQ (w1 := w'.alloc (.cells ⟨List.replicate nn (Value.int .i64 0)⟩ 3)) (v := .slice (some ⟨w'.heap.size, 0, none⟩) nn nn) bu rfl ?_ ?_
   ·(go_simp; try rfl)
   refine hK.out _ _ ⟨g2, w'.heap.size, g6, g8, mM, (.slice (some ⟨w'.heap.size, 0, none⟩) nn nn), dV, dD, dW, bR, (by rw [ha.out]; exact dH 4 bq rfl rfl rfl), aW BW.out _, fun ah => (mh ah).alloc _, fun _ => Lay.new BW.out _ _, fun ah => (mi ah).alloc _, fun ah => aA (hoff 8 aa) ah, fun h_ _ => (mh h_).AU.symm, oD, fun _ aD => aA (hoff 8 aa) aD, fun _ h_ => (mi h_).AU, fun _ aD => aA (hoff 8 aa) aD, fun _ aD => aA (hoff 8 aa) aD, o8, fun _ => rfl, fq, fun ah => aA (hoff 7 aa) ah, fun ah => aA (hoff 8 aa) ah, fun ah => aA (hoff 9 aa) ah⟩
  refine dm ?_ ?_
  ·rintro b a w' ⟨g2, g4, g6, g8, mM, dP, dV, dD, dW, bR, ha, bI, mh, eH, mi, gL, oC, oD, vN, oF, vO, vP, o8, fG, fq, fA, iA, eX⟩ bq hon hoff;refine ⟨_, rfl, fun K hK => ?_⟩;have e5 : a.tmps[5]? = some (.int .i64 (nn : Int)) := by rw [ha]; exact (kF rfl).trans rfl
   replace ha := Zd.mk ha;have BW := Zd.mk bI;refine dQ (w1 := w') (v := .int .i64 (nn : Int)) bu rfl ?_ ?_
   ·go_simp
    (try simp only [bE])
    try rfl
   refine hK.out _ _ ⟨g2, g4, g6, g8, mM, dP, dV, dD, dW, bR, (by rw [ha.out]; exact dH 5 bq rfl rfl rfl), bI, mh, eH, fun ah => aA (hoff 6 aa) ah, fun ah => aA (hoff 8 aa) ah, oC, fun _ aD => aA (hoff 6 aa) aD, fun _ aD => aA (hoff 8 aa) aD, fun _ aD => aA (hoff 6 aa) aD, fun _ aD => aA (hoff 8 aa) aD, fun ah _ => aA (hoff 6 aa) ah, o8, fG, fun ah => aA (hoff 6 aa) ah, fun ah => aA (hoff 7 aa) ah, fun ah => aA (hoff 8 aa) ah, fun ah => aA (hoff 9 aa) ah⟩
  refine dm ?_ ?_
  ·rintro b a w' ⟨g2, g4, g6, g8, mM, dP, dV, dD, dW, bR, ha, bI, mh, eH, mi, gL, oC, oD, vN, oF, vO, vP, o8, fG, fq, fA, iA, eX⟩ bq hon hoff;refine ⟨_, rfl, fun K hK => ?_⟩;have e20 : a.tmps[20]? = some (.int .i64 (nn : Int)) := by rw [ha]; exact dL (e := (5, 20, .int .i64 (nn : Int))) 5 rfl rfl (hon 5 aa) rfl
   replace ha := Zd.mk ha;have BW := Zd.mk bI;refine dQ (w1 := w'.alloc (.cells ⟨List.replicate nn (Value.bool false)⟩ 4)) (v := .slice (some ⟨w'.heap.size, 0, none⟩) nn nn) bu rfl ?_ ?_
   ·(go_simp; try rfl)
   refine hK.out _ _ ⟨g2, g4, w'.heap.size, g8, mM, dP, (.slice (some ⟨w'.heap.size, 0, none⟩) nn nn), dD, dW, bR, (by rw [ha.out]; exact dH 6 bq rfl rfl rfl), aW BW.out _, fun ah => (mh ah).alloc _, fun ah => (eH ah).alloc _, fun _ => Lay.new BW.out _ _, fun ah => aA (hoff 8 aa) ah, oC, fun h_ _ => (mh h_).AU.symm, fun _ aD => aA (hoff 8 aa) aD, fun h_ _ => (eH h_).AU.symm, fun _ aD => aA (hoff 8 aa) aD, fun _ aD => aA (hoff 8 aa) aD, o8, fG, fun _ => rfl, fun ah => aA (hoff 7 aa) ah, fun ah => aA (hoff 8 aa) ah, fun ah => aA (hoff 9 aa) ah⟩
  refine dm ?_ ?_
  ·rintro b a w' ⟨g2, g4, g6, g8, mM, dP, dV, dD, dW, bR, ha, bI, mh, eH, mi, gL, oC, oD, vN, oF, vO, vP, o8, fG, fq, fA, iA, eX⟩ bq hon hoff;refine ⟨_, rfl, fun K hK => ?_⟩;have e15 : a.tmps[15]? = some (.pointer (some ⟨pg, 0, none⟩)) := by rw [ha]; exact dL (e := (0, 15, .pointer (some ⟨pg, 0, none⟩))) 0 rfl rfl (hon 0 aa) rfl
   have e17 : a.tmps[17]? = some (mM) := by rw [ha]; exact dL (e := (2, 17, mM)) 2 rfl rfl (hon 2 aa) rfl
   rw [o8 (hon 2 aa)] at e17;have e19 : a.tmps[19]? = some (dP) := by rw [ha]; exact dL (e := (4, 19, dP)) 4 rfl rfl (hon 4 aa) rfl
   rw [fG (hon 4 aa)] at e19;have e21 : a.tmps[21]? = some (dV) := by rw [ha]; exact dL (e := (6, 21, dV)) 6 rfl rfl (hon 6 aa) rfl
   rw [fq (hon 6 aa)] at e21;replace ha := Zd.mk ha;have BW := Zd.mk bI;have R2 := Zd.mk (mh (hon 2 aa));have R4 := Zd.mk (eH (hon 4 aa));have R6 := Zd.mk (mi (hon 6 aa));have LQ := Zd.mk (oC (hon 2 aa) (hon 4 aa));have LU := Zd.mk (oD (hon 2 aa) (hon 6 aa));have LV := Zd.mk (oF (hon 4 aa) (hon 6 aa));refine dQ (w1 := w') (v := .agg #[.pointer (some ⟨pg, 0, none⟩), .slice (some ⟨g2, 0, none⟩) nn nn, .slice (some ⟨g4, 0, none⟩) nn nn, .slice (some ⟨g6, 0, none⟩) nn nn, .int .i64 0, .slice none 0 0, .slice none 0 0, .pointer none]) bu rfl ?_ ?_
   ·go_simp
    (try simp only [bE])
    try rfl
   refine hK.out _ _ ⟨g2, g4, g6, g8, mM, dP, dV, (.agg #[.pointer (some ⟨pg, 0, none⟩), .slice (some ⟨g2, 0, none⟩) nn nn, .slice (some ⟨g4, 0, none⟩) nn nn, .slice (some ⟨g6, 0, none⟩) nn nn, .int .i64 0, .slice none 0 0, .slice none 0 0, .pointer none]), dW, bR, (by rw [ha.out]; exact dH 7 bq rfl rfl rfl), bI, mh, eH, mi, fun ah => aA (hoff 8 aa) ah, oC, oD, fun _ aD => aA (hoff 8 aa) aD, oF, fun _ aD => aA (hoff 8 aa) aD, fun _ aD => aA (hoff 8 aa) aD, o8, fG, fq, fun _ => rfl, fun ah => aA (hoff 8 aa) ah, fun ah => aA (hoff 9 aa) ah⟩
  refine dm ?_ ?_
  ·rintro b a w' ⟨g2, g4, g6, g8, mM, dP, dV, dD, dW, bR, ha, bI, mh, eH, mi, gL, oC, oD, vN, oF, vO, vP, o8, fG, fq, fA, iA, eX⟩ bq hon hoff;refine ⟨_, rfl, fun K hK => ?_⟩;have e22 : a.tmps[22]? = some (dD) := by rw [ha]; exact dL (e := (7, 22, dD)) 7 rfl rfl (hon 7 aa) rfl
   rw [fA (hon 7 aa)] at e22;replace ha := Zd.mk ha;have BW := Zd.mk bI;have R2 := Zd.mk (mh (hon 2 aa));have R4 := Zd.mk (eH (hon 4 aa));have R6 := Zd.mk (mi (hon 6 aa));have LQ := Zd.mk (oC (hon 2 aa) (hon 4 aa));have LU := Zd.mk (oD (hon 2 aa) (hon 6 aa));have LV := Zd.mk (oF (hon 4 aa) (hon 6 aa));refine dQ (w1 := w'.alloc (.cells #[.pointer (some ⟨pg, 0, none⟩), .slice (some ⟨g2, 0, none⟩) nn nn, .slice (some ⟨g4, 0, none⟩) nn nn, .slice (some ⟨g6, 0, none⟩) nn nn, .int .i64 0, .slice none 0 0, .slice none 0 0, .pointer none] 105)) (v := .pointer (some ⟨w'.heap.size, 0, none⟩)) bu rfl ?_ ?_
   ·(go_simp; try rfl)
   refine hK.out _ _ ⟨g2, g4, g6, w'.heap.size, mM, dP, dV, dD, (.pointer (some ⟨w'.heap.size, 0, none⟩)), bR, (by rw [ha.out]; exact dH 8 bq rfl rfl rfl), aW BW.out _, fun _ => R2.out.alloc _, fun _ => R4.out.alloc _, fun _ => R6.out.alloc _, fun _ => Lay.new BW.out _ _, oC, oD, fun h_ _ => (mh h_).AU.symm, oF, fun h_ _ => (eH h_).AU.symm, fun h_ _ => (mi h_).AU.symm, o8, fG, fq, fA, fun _ => rfl, fun ah => aA (hoff 9 aa) ah⟩
  refine dm ?_ ?_
  ·rintro b a w' ⟨g2, g4, g6, g8, mM, dP, dV, dD, dW, bR, ha, bI, mh, eH, mi, gL, oC, oD, vN, oF, vO, vP, o8, fG, fq, fA, iA, eX⟩ bq hon hoff;refine ⟨_, rfl, fun K hK => ?_⟩;have e23 : a.tmps[23]? = some (dW) := by rw [ha]; exact dL (e := (8, 23, dW)) 8 rfl rfl (hon 8 aa) rfl
   rw [iA (hon 8 aa)] at e23;replace ha := Zd.mk ha;have BW := Zd.mk bI;have R2 := Zd.mk (mh (hon 2 aa));have R4 := Zd.mk (eH (hon 4 aa));have R6 := Zd.mk (mi (hon 6 aa));have R8 := Zd.mk (gL (hon 8 aa));have LQ := Zd.mk (oC (hon 2 aa) (hon 4 aa));have LU := Zd.mk (oD (hon 2 aa) (hon 6 aa));have XF := Zd.mk (vN (hon 2 aa) (hon 8 aa));have LV := Zd.mk (oF (hon 4 aa) (hon 6 aa));have XG := Zd.mk (vO (hon 4 aa) (hon 8 aa));have XH := Zd.mk (vP (hon 6 aa) (hon 8 aa));refine dQ (w1 := w') (v := .pointer (some ⟨g8, 0, none⟩)) bu rfl ?_ ?_
   ·go_simp
    (try simp only [bE])
    try rfl
   refine hK.out _ _ ⟨g2, g4, g6, g8, mM, dP, dV, dD, dW, (.pointer (some ⟨g8, 0, none⟩)), (by rw [ha.out]; exact dH 9 bq rfl rfl rfl), bI, mh, eH, mi, gL, oC, oD, vN, oF, vO, vP, o8, fG, fq, fA, iA, fun _ => rfl⟩
  exact JW
 ·rintro b a w' hall ⟨g2, g4, g6, g8, mM, dP, dV, dD, dW, bR, ha, bI, mh, eH, mi, gL, oC, oD, vN, oF, vO, vP, o8, fG, fq, fA, iA, eX⟩;clear BW;have DU := hall 0 aa;have zm := hall 1 aa;have wN := hall 2 aa;have xX := hall 3 aa;have qY := hall 4 aa;have yS := hall 5 aa;have oW := hall 6 aa;have sH := hall 7 aa;have qm := hall 8 aa;have xY := hall 9 aa;subst ha;obtain rfl := o8 wN;obtain rfl := fG qY;obtain rfl := fq oW;obtain rfl := fA sH;obtain rfl := iA qm;obtain rfl := eX xY;simp only [ig, DU, zm, wN, xX, qY, yS, oW, sH, qm, xY, if_true, Act.put, List.setIfInBounds_toArray, List.set_cons_zero, List.set_cons_succ];have BW := Zd.mk bI;clear bI;have R2 := Zd.mk (mh wN);clear mh;have R4 := Zd.mk (eH qY);clear eH;have R6 := Zd.mk (mi oW);clear mi;have R8 := Zd.mk (gL qm);clear gL;have LQ := Zd.mk (oC wN qY);clear oC;have LU := Zd.mk (oD wN oW);clear oD;have XF := Zd.mk (vN wN qm);clear vN;have LV := Zd.mk (oF qY oW);clear oF;have XG := Zd.mk (vO qY qm);clear vO;have XH := Zd.mk (vP oW qm);clear vP;clear hall DU zm wN xX qY yS oW sH qm xY;obtain ⟨W3, rfl⟩ : ∃ W : World, W = w' := ⟨_, rfl⟩;have HF0 := Zd.mk (arh (pg := pg) BW.out ag R2.out R4.out R6.out R8.out LQ.out LU.out XF.out LV.out XG.out XH.out);clear R2 R4 R6 R8 LQ LU XF LV XG XH afQ ars q8 BW;go_wp2;have I7 := Zd.mk (show I6 p W2 W3 ⟨nn, pg, g8, g2, g4, g6⟩ l (Sg.BH p.N) from ⟨⟨_, _, _, _, _, HF0.out.to (by rw [ma.out])⟩, Sg.ae1, Sg.ark _⟩);clear HF0;go_loopg [28] l.length (fun kq v28 w' => ∃ (i : Nat) (st : Sg.FS), i + kq = l.length ∧ v28 = .int .i64 (i : Int) ∧ Zd (I6 p W2 w' ⟨nn, pg, g8, g2, g4, g6⟩ l st) ∧ Zd (st.calls = [] ∧ st.found = none ∧ Sg.sJ p.next gK p.N (l.drop i) st = Sg.Dr p.next gK p.N l))
  case atStart => exact ⟨0, Sg.BH p.N, by omega, rfl, I7, ⟨rfl, rfl, rfl⟩⟩
  case round =>
   obtain ⟨i, st, hi, rfl, HS, HQ⟩ := hrel;obtain ⟨WW, rfl⟩ : ∃ W : World, W = wr := ⟨_, rfl⟩;have HI := Zd.mk hi;clear hi I7;by_cases hil : i < l.length
   ·obtain ⟨ad, eA, hx⟩ := vC HR.out hil;obtain ⟨ρ, vs, vc, fo, E, hF⟩ := HS.out.mem;have hxb := aG hF.j6 hx;have ou := HL.out _ (by rw [List.getD_eq_getElem?_getD, List.getElem?_eq_getElem hil]; exact List.getElem_mem hil : l.getD i 0 ∈ l);have HXL := Zd.mk (show l.getD i 0 ∈ l by rw [List.getD_eq_getElem?_getD, List.getElem?_eq_getElem hil]; exact List.getElem_mem hil);have HDR := Zd.mk (arn hil);obtain ⟨x, hxe⟩ : ∃ x, x = l.getD i 0 := ⟨_, rfl⟩;rw [← hxe] at hxb ou HXL HDR;subst eA;have hxl : (x : Int) < (nn : Int) := by have := ma.out; omega
    have XI : (i : Int) < (l.length : Int) := by omega
    have k1 := hF.c1;obtain ⟨z1, _⟩ := sK hF.nums (show x < nn by omega);have HF := Zd.mk hF;clear hF hx hxe;simp only at k1 z1;by_cases h0 : 0 < st.nums.getD x 0
    ·have wH := Zd.mk (aro p.next gK p.N x (l.drop (i + 1)) st h0);generalize st.nums.getD x 0 = n1 at *;go_wp2;go_roundg (gk - 1)
     case measure => have := HI.out; omega
     case rel => exact ⟨i + 1, st, by have := HI.out; omega, by first | rfl | (congr 1; go_num; done), HS, ⟨HQ.out.1, HQ.out.2.1, by rw [← wH.out, ← HDR.out]; exact HQ.out.2.2⟩⟩
    ·have h0' : st.nums.getD x 0 = 0 := by omega
     have HH0 := Zd.mk h0';rw [h0'] at z1;clear h0 h0';have IW := Zd.mk (afI p ρ W2 WW _ vs vc fo E st x HF.out HP.out eG.out ma.out ou (by have := (HS.out.QP eG.out).1; omega) (by have := (HS.out.QP eG.out).2.1; omega) (by have := (HS.out.QP eG.out).2.2; have := HF.out.afP; omega));go_wp2_with (go_at_call 62; refine IW.out.mono ?_; rintro e w9 ⟨rfl, hIF⟩; have DR := Zd.mk hIF; clear hIF);obtain ⟨W9, rfl⟩ : ∃ W : World, W = w9 := ⟨_, rfl⟩;obtain ⟨s9, LW⟩ : ∃ s, s = Sg.ib p.next st x := ⟨_, rfl⟩;obtain ⟨kk, hkk⟩ : ∃ k, k = Sg.mu p.next p.N s9 := ⟨_, rfl⟩;have FX := Zd.mk (show I6 p W2 W9 ⟨nn, pg, g8, g2, g4, g6⟩ l s9 from by
      obtain ⟨ρ', vs', wK, E', h⟩ := DR.out;exact ⟨⟨_, _, _, _, _, LW ▸ h⟩, LW ▸ Sg.ae2 HS.out.inv HQ.out.1 ou HXL.out HH0.out, LW ▸ HS.out.met.enter p.next (by rw [HS.out.inv.ln]; exact ou) HH0.out⟩)
     obtain ⟨s1, hs1⟩ : ∃ s, s = Sg.sI p.next gK kk s9 := ⟨_, rfl⟩;have HRR := Zd.mk (arp p.next gK p.N x (l.drop (i + 1)) st HH0.out (s1 := s1) (by rw [hs1, hkk, LW]));have o7 := Zd.mk hs1;have HKK := Zd.mk hkk;clear hs1 hkk LW DR IW HF HS z1 k1 hxb;obtain ⟨k1, hk1⟩ : ∃ k, k = gk := ⟨_, rfl⟩;rw [← hk1] at HI;have dR := Zd.mk hk1;clear hk1;go_loopg [] kk (fun kq w' => ∃ st' : Sg.FS, Zd (I6 p W2 w' ⟨nn, pg, g8, g2, g4, g6⟩ l st') ∧ Zd (Sg.sI p.next gK kq st' = s1 ∧ Sg.mu p.next p.N st' ≤ kq))
     case atStart => exact ⟨s9, FX, ⟨o7.out.symm, by rw [HKK.out]; exact Nat.le_refl _⟩⟩
     case round =>
      obtain ⟨st', DV, XJ⟩ := hrel;obtain ⟨WX, rfl⟩ : ∃ W : World, W = wr := ⟨_, rfl⟩;obtain ⟨ρ', vs', wK, AQ, E', hF'⟩ := DV.out.mem;have hle := hF'.afP;obtain ⟨Ac, cc', e⟩ := Tt hF'.calls.own;subst e;have k6 := hF'.c6;have k7 := hF'.c7;have LX := Zd.mk hF';clear hF' FX;simp only at k6 k7;match hc : st'.calls with
      | [] =>
       have hl0 : E'.length = 0 := by rw [hle, hc]; rfl
       have e1 : s1 = st' := by rw [← XJ.out.1]; exact Sg.run_end _ _ _ hc _
       subst e1;rw [hl0] at k6;have xZ := Zd.mk LX.out.l6;have jQ := Zd.mk LX.out.j6;have HC := Zd.mk hc;clear hl0 hle LX hc;match hfo : s1.found with
       | none =>
        have e := xZ.out.no hfo;subst e;have Cf := Zd.mk hfo;clear hfo;go_wp2;go_roundg (k1 - 1)
        case measure => have := HI.out; have := dR.out; omega
        case rel =>
         refine ⟨i + 1, s1, by have := HI.out; omega, by first | rfl | (congr 1; go_num; done), DV, ⟨HC.out, Cf.out, ?_⟩⟩;have h1 := HRR.out;rw [← HDR.out, Cf.out] at h1;rw [← HQ.out.2.2, h1]
       | some cf =>
        obtain ⟨gc, e⟩ := xZ.out.yes hfo;subst e;have Cf := Zd.mk hfo;clear hfo;go_wp2;go_ret;have h1 := HRR.out;rw [← HDR.out, Cf.out] at h1;refine ⟨jQ.out, _, rfl, ?_⟩;rw [← HQ.out.2.2, h1];have := xZ.out.comp;rw [Cf.out] at this;exact this
      | (y, r) :: cs =>
       have hlm : E'.length = cs.length + 1 := by rw [hle, hc]; rfl
       obtain ⟨h51, h52, h53⟩ := DV.out.QP eG.out;have FH := Zd.mk (arc p ρ' W2 WX _ vs' _ AQ E' st' y r cs l LX.out HP.out eG.out ma.out DV.out.inv hc ag ag ag);rw [hlm] at k6;have HLM := Zd.mk hlm;have HC := Zd.mk hc;clear hc hle hlm h51 h52 h53 LX;generalize cs.length = m at *;go_wp2_with (go_at_call 61; refine FH.out.mono ?_; rintro e tY ⟨rfl, hIF⟩; have DR := Zd.mk hIF; clear hIF);obtain ⟨W10, rfl⟩ : ∃ W : World, W = tY := ⟨_, rfl⟩;have hnx : ∀ x, x < p.N → ∀ y, y ∈ p.next x → y < p.N := fun x hx y hy => eG.out.xS hx hy;have hmu := Sg.aeZ hnx DV.out.inv (by rw [HC.out]; simp);rw [← HST.out] at hmu;have hge := XJ.out.2;go_roundg (gk - 1)
       case measure => omega
       case rel =>
        refine ⟨Sg.pX p.next gK st', ⟨?_, ?_, ?_⟩, ⟨?_, by omega⟩⟩
        ·obtain ⟨ρ2, vs2, vc2, fo2, E2, h⟩ := DR.out;exact ⟨_, _, _, _, _, h.to (by rw [HST.out])⟩
        ·rw [HST.out];exact Sg.VU hnx DV.out.inv
        ·exact DV.out.met.step (DV.out.inv.arl hnx)
        ·rw [← Sg.VV p.next gK st' (by rw [HC.out]; simp), show gk - 1 + 1 = gk by omega];exact XJ.out.1
   ·have e : i = l.length := by have := HI.out; omega
    subst e;obtain ⟨ρ, vs, vc, fo, E, hF⟩ := HS.out.mem;have jQ := Zd.mk hF.j6;clear hF;go_wp2;go_ret;have h1 := HQ.out.2.2;rw [List.drop_length] at h1;refine ⟨jQ.out, _, rfl, ?_⟩;rw [← h1];trivial
end Go.Proofs.YtapejnikpmfddaaGreat.X
namespace Go.Proofs.YtapejnikpmfddaaGreat.Sg
section
variable {nx : Nat → List Nat} {inn : Nat → Bool} {good : Nat → Nat → Bool} {N P : Nat} {frm : List Nat} {c : List Bool}
theorem XK (hnx : ∀ x, x < N → ∀ y, y ∈ nx x → y < N) : ∀ (l : List Nat) (a : Nat), a < N → iw nx inn (a :: l) → ∀ x, x ∈ a :: l → x < N
 | [], a, ha, _, x, hx => by rw [List.mem_singleton.1 hx]; exact ha
 | b :: r, a, ha, h, x, hx => by
  rcases List.mem_cons.1 hx with e | k
  ·rw [e]; exact ha
  ·exact XK hnx r b (hnx a ha b h.1) h.2.2 x k
theorem art (hnx : ∀ x, x < N → ∀ y, y ∈ nx x → y < N) (hf : ∀ x, x ∈ frm → x < N) (h : vk nx N P good frm c) : Lb nx (fun _ => true) (aH c) frm (kM nx (fun _ => true) (aH c) N frm) := by
 obtain ⟨a0, a1, _⟩ := h.acc;obtain ⟨r0, r1, r2⟩ := h.root a0 a1;rcases IB (inn := fun _ => true) (goal := aH c) hnx hf with ⟨_, hno⟩ | hok
 ·have := hno r0 r1 a0 (ae_ r2);unfold aH at this;rw [a1] at this; cases this
 ·exact hok
theorem aru {goal : Nat → Bool} {l : List Nat} (hnx : ∀ x, x < N → ∀ y, y ∈ nx x → y < N) (hf : ∀ x, x ∈ frm → x < N) (h : Lb nx inn goal frm l) : ∀ x, x ∈ l → x < N := by
 obtain ⟨h1, ⟨a, r, e, ha⟩, _⟩ := h;rw [e] at h1 ⊢;exact XK hnx r a (hf a ha) h1
theorem arv (hc : vk nx N P good frm c) (hnx : ∀ x, x < N → ∀ y, y ∈ nx x → y < N) {x : Nat} (hx : c.getD x false = true) : ∀ y, y ∈ vB nx (aH c) good N P x → y < N := by
 obtain ⟨⟨r, e⟩, h2, _⟩ := ae9 hc hnx hx;have ou : x < N := by
  by_cases k : x < c.length
  ·rw [← hc.len]; exact k
  ·rw [List.getD_eq_getElem?_getD, List.getElem?_eq_none ag] at hx; cases hx
 intro y hy;rw [e, List.cons_append] at h2;exact XK hnx _ x ou h2 y (by rw [e] at hy; rcases List.mem_cons.1 hy with k | k <;> first | (rw [k]; exact List.mem_cons_self ..; done) | exact List.mem_cons_of_mem _ (List.mem_append_left _ k))
end
end Go.Proofs.YtapejnikpmfddaaGreat.Sg
namespace Go.Proofs.YtapejnikpmfddaaGreat.X
open Go.RowKit Go.Proofs.aI.bM Go.Proofs.aI.dG Go.Proofs.aI.dM
open Go.Proofs.YtapejnikpmfddaaGreat.P Go.Proofs.YtapejnikpmfddaaGreat.gY
theorem PD.Ok.LY {p : PD} (h : p.Ok) (want : Bool) {x : Nat} (hx : x ∈ p.starts want) : x < p.N := by
 unfold PD.starts PD.zf at hx;rw [List.mem_flatMap] at hx;obtain ⟨v, hv, hx⟩ := hx;rw [List.mem_map] at hx;obtain ⟨s, hs, rfl⟩ := hx;have hs' := List.mem_range.1 (List.mem_filter.1 hs).1;have hv' := h.st v hv;have h1 : (v + 1) * p.size ≤ p.ls.length * p.size := Nat.mul_le_mul_right _ hv';have h2 : (v + 1) * p.size = v * p.size + p.size := Nat.succ_mul ..;unfold PD.N;rw [Nat.mul_comm p.size];omega
theorem PD.Ok.arw {p : PD} (h : p.Ok) (want : Bool) : (p.starts want).length ≤ 51200 := by
 have := afk h want p.ss.length;rw [List.take_length] at this;exact this
theorem I5.no {w : World} {fo : Option Addr} (h : I5 w fo none) : fo = none := by
 match fo, h with
 | none, _ => rfl
theorem I5.yes {w : World} {fo : Option Addr} {cb : List Bool} (h : I5 w fo (some cb)) : ∃ gc, fo = some ⟨gc, 0, none⟩ ∧ ze w gc cb := by
 match fo, h with
 | some a, ⟨gc, e, hc⟩ => exact ⟨gc, by rw [e], hc⟩
def arx (p : PD) (w w' : World) (e : Ending) (o : Option (List Nat × List Nat)) : Prop :=
 match o with
 | none => e = .returned (.tuple #[.slice none 0 0, .slice none 0 0, .bool false])
 | some (st, lp) => ∃ v1 v2, e = .returned (.tuple #[v1, v2, .bool true]) ∧ Kd.R bD 3 w' w.heap.size (fun _ => True) v1 (st.map p.xU) ∧ Kd.R bD 3 w' w.heap.size (fun _ => True) v2 (lp.map p.xU)
theorem ary (y : Nat) (W : World) : Calls Tryz.prog 44 #[.int .i64 (y : Int)] W fun e W' => e = .returned (.bool true) ∧ Below W.heap.size W W' := by
 go_enter Tryz.func44, Tryz.ntmps44;go_wp2;go_ret;exact ⟨rfl, Below.refl _ _⟩
theorem arz (N : Nat) (w : World) : wE 44 #[] #[] (fun _ => true) N w :=
 ⟨sw Tryz.func44 aa rfl, fun W hW x hx => ary x W⟩
theorem afR (p : PD) (want : Bool) (g : Nat) (w : World) (h : qc w g p) (hok : p.Ok) :
  Calls Tryz.prog 20 #[.pointer (some ⟨g, 0, none⟩), .bool want] w fun e w' => arx p w w' e (Sg.findF p.next p.good p.N p.P (p.starts want)) ∧ Below w.heap.size w w' := by
 have fM := Tryz.underlying23;have xE : ∀ fn first cap w, (Instr.makeFunc fn first cap).run Tryz.prog w = .ok (.func fn first cap) w := fun _ _ _ _ => rfl;have HP := Zd.mk h;have eG := Zd.mk hok;have HL := Zd.mk (hok.arw want);have oo := Zd.mk (fun x (hx : x ∈ p.starts want) => hok.LY want hx);have j4 := Zd.mk (fun x (hx : x < p.N) y (hy : y ∈ p.next x) => hok.xS hx hy);have I1 := Zd.mk (apZ p want g w h hok);have FH := Zd.mk (Sg.ae3 (P := p.P) (good := p.good) j4.out (p.starts want) oo.out);obtain ⟨F, hF⟩ : ∃ F, F = Sg.findF p.next p.good p.N p.P (p.starts want) := ⟨_, rfl⟩;have XL := Zd.mk (hF.trans (show Sg.findF p.next p.good p.N p.P (p.starts want) = match Sg.Dr p.next (Sg.gm p.next p.P p.good) p.N (p.starts want) with
  | none => none
  | some c => some ((Sg.kM p.next (fun _ => true) (Sg.aH c) p.N (p.starts want)).dropLast, Sg.vB p.next (Sg.aH c) p.good p.N p.P ((Sg.kM p.next (fun _ => true) (Sg.aH c) p.N (p.starts want)).getLastD 0)) from rfl))
 rw [← hF];clear h hok hF;generalize p.starts want = frm at *;have HTW := Zd.mk (fun A c W (hb : Below w.heap.size w W) (hC : Kd.C bD W A frm.length frm) => arq p g A c frm W (HP.out.below hb) eG.out hC oo.out (by have := HL.out; omega));go_enter Tryz.func20, Tryz.ntmps20;go_upto_region 3 with (first
  | (go_at_call 41; refine I1.out.mono ?_; rintro e w1 ⟨v1, rfl, nO, hB1⟩; obtain ⟨A1, c1, e1, hc1, yc⟩ := Kd.iO nO; subst e1; have HB1 := Zd.mk hB1; have tN := Zd.mk yc; clear nO hB1 yc)
  | (go_at_call 42; refine (HTW.out A1 c1 _ HB1.out tN.out).mono ?_; rintro e w2 ⟨hB2, fo, rfl, hCO⟩; have HB2 := Zd.mk (HB1.out.trans (hB2.mono HB1.out.size)); have tF := Zd.mk (Kd.aQ tN.out hB2); have DJ := Zd.mk hCO; clear hB2 hCO))
 obtain ⟨o, ho⟩ : ∃ o, o = Sg.Dr p.next (Sg.gm p.next p.P p.good) p.N frm := ⟨_, rfl⟩;rw [← ho] at DJ XL FH;clear ho HTW I1;cases o with
 | none =>
  have e := DJ.out.no;subst e;go_wp2
  go_ret3
  refine ⟨?_, HB2.out⟩;rw [show F = none from XL.out];rfl
 | some cb =>
  obtain ⟨gc, e, hcomp⟩ := DJ.out.yes;subst e;have HG : Zd (Sg.vk p.next p.N p.P p.good frm cb) := ⟨FH.out⟩;have hwo := Sg.art j4.out oo.out HG.out;obtain ⟨hne, hlast⟩ := Sg.apN hwo;have hwl := Sg.aru j4.out oo.out hwo;have hwn := Sg.V7 (inn := fun _ => true) (goal := Sg.aH cb) j4.out oo.out;have XM := Zd.mk (show F = some ((Sg.kM p.next (fun _ => true) (Sg.aH cb) p.N frm).dropLast, Sg.vB p.next (Sg.aH cb) p.good p.N p.P ((Sg.kM p.next (fun _ => true) (Sg.aH cb) p.N frm).getLastD 0)) from XL.out);have FM := Zd.mk (WL p g 44 45 #[] #[] #[.pointer (some ⟨gc, 0, none⟩)] #[] (fun _ => true) (Sg.aH cb) A1 c1 frm w2 (HP.out.below HB2.out) eG.out (arz p.N w2) (Xd gc p.N cb w2 hcomp HG.out.len) tF.out oo.out (by have := HL.out; omega));generalize Sg.kM p.next (fun _ => true) (Sg.aH cb) p.N frm = pY at *;have hN := eG.out.BN;have HRD := Zd.mk (fun W (hb : Below w2.heap.size w2 W) => aqC p g gc (pY.getLastD 0) cb frm W ((HP.out.below HB2.out).below hb) eG.out (hcomp.below hb) HG.out hlast);have Dz := Zd.mk (Sg.arv HG.out j4.out hlast);have hsl : 0 < pY.length := List.length_pos_iff.2 hne;obtain ⟨n1, hn1⟩ : ∃ n, pY.length = n + 1 := ⟨pY.length - 1, by omega⟩;have hdl : pY.dropLast.length = n1 := by rw [List.length_dropLast]; omega
  have hll : pY.getD n1 0 = pY.getLastD 0 := by rw [← Xe pY hne, hn1]; rfl
  have HV1 := Zd.mk (fun A c W (hb : Below w2.heap.size w2 W) (hC : Kd.C bD W A n1 pY.dropLast) => show Calls Tryz.prog 46 #[.pointer (some ⟨g, 0, none⟩), .slice A n1 c] W _ from
   hdl ▸ afi p g A c pY.dropLast W ((HP.out.below HB2.out).below hb) eG.out (hdl.symm ▸ hC) (fun x hx => by have := hwl x (List.dropLast_subset _ hx); omega) ag)
  generalize Sg.vB p.next (Sg.aH cb) p.good p.N p.P (pY.getLastD 0) = lp at *;obtain ⟨iI, BZ, _⟩ := Option.map_eq_some_iff.1 nR;have wO := Zd.mk (fun (ad : Option Addr) (c : Nat) (hc : n1 + 1 ≤ c) => JJ (P := Tryz.prog) 23 3 .i64 fM BZ ad (n1 + 1) c (n1 : Int) (Int.natCast_nonneg _) ag hc);have AJ := Zd.mk hll;obtain ⟨last, hlx⟩ : ∃ y, y = pY.getLastD 0 := ⟨_, rfl⟩;rw [← hlx] at AJ HRD;have kY := Zd.mk hn1;have Qi := Zd.mk (show pY.dropLast = pY.take n1 by rw [List.dropLast_eq_take, hn1]; rfl);have awD : n1 < 51200 := by omega
  have hkn : IntKind.i64.wrap (n1 : Int) = (n1 : Int) := (bE _).trans (vD ag);clear BZ hll hne hlast hwl hwn hlx hwo hsl hcomp DJ;go_upto_region 6 with (go_at_call 43; refine FM.out.mono ?_; rintro e w5 ⟨v5, rfl, Br, dJ⟩; obtain ⟨A5, c5, e5, LZ, XN⟩ := Kd.iO Br; rw [kY.out] at e5 LZ XN; subst e5; have cZ := Zd.mk dJ; have uK := Zd.mk XN; clear Br dJ XN)
  obtain ⟨ad, e, hz⟩ := vC uK.out (j := n1) ag;subst e;rw [AJ.out] at hz;have hcut := wO.out (some ad) c5 LZ;rw [Int.toNat_natCast] at hcut;clear hn1 hdl;have arA := Zd.mk (show Kd.C bD w5 (some ad) n1 pY.dropLast from by
   have h1 := uK.out;rw [← kY.out] at h1;have h2 := Kd.aaz (m := n1) h1 (by rw [kY.out]; omega);rw [Qi.out];rw [show (pY.take n1).length = n1 by rw [List.length_take, kY.out]; omega] at h2;exact h2)
  have jI := Zd.mk (fun A c W (hb : Below w2.heap.size w2 W) (hC : Kd.C bD W A lp.length lp) (hl : lp.length ≤ 2000000) => afi p g A c lp W ((HP.out.below HB2.out).below hb) eG.out hC (fun x hx => by have := Dz.out x hx; omega) ag);go_wp2_with (first
   | (go_at_call 46; (with_reducible refine (HV1.out (some ad) c5 _ cZ.out arA.out).mono ?_); rintro e w6 ⟨v6, rfl, oz, fP⟩; have gP := Zd.mk (cZ.out.trans (fP.mono cZ.out.size)); have IL := Zd.mk oz; clear oz fP)
   | (go_at_call 47; refine (HRD.out _ gP.out).mono ?_; rintro e w7 ⟨v7, rfl, l9, xV, Lm⟩; obtain ⟨A7, c7, e7, hc7, Lp⟩ := Kd.iO l9; subst e7; have iy := Zd.mk xV; have afS := Zd.mk (gP.out.trans (xV.mono gP.out.size)); have XO := Zd.mk Lp; have Qp := Zd.mk Lm; clear l9 xV Lp Lm)
   | (go_at_call 46; refine (jI.out A7 c7 _ afS.out XO.out Qp.out).mono ?_; rintro e w8 ⟨v8, rfl, qX, sM⟩; have jP := Zd.mk sM; have BV := Zd.mk qX; clear qX sM))
  go_ret3
  have arB := HB2.out.trans (cZ.out.mono HB2.out.size);have awE := HB2.out.trans (gP.out.mono HB2.out.size);have XP := HB2.out.trans (afS.out.mono HB2.out.size);refine ⟨?_, XP.trans (jP.out.mono XP.size)⟩;rw [XM.out];exact ⟨v6, v8, rfl, Kd.sj (Kd.gU (Kd.gU IL.out iy.out) jP.out) arB.size, Kd.sj BV.out XP.size⟩
end Go.Proofs.YtapejnikpmfddaaGreat.X
namespace Go.Proofs.YtapejnikpmfddaaGreat.X
open Go.RowKit Go.Proofs.aI.bM Go.Proofs.aI.dG Go.Proofs.aI.dM
open Go.Proofs.YtapejnikpmfddaaGreat.P Go.Proofs.YtapejnikpmfddaaGreat.gY
def sP (s : Nat) (lt : Int) (q : lM) : Bool := kL q.f0 (((s / 2 ^ q.f1.toNat) % q.f2.toNat : Nat) : Int) lt
def ng (s : Nat) (lt : Int) : List lM → Nat
 | [] => 0
 | q :: r => (if sP s lt q = true then 1 else 0) + 2 * ng s lt r
theorem XQ (s : Nat) (lt : Int) : ∀ l : List lM, ng s lt l < 2 ^ l.length
 | [] => by show 0 < 2 ^ 0; omega
 | q :: r => by
  have := XQ s lt r;unfold ng;rw [List.length_cons, Nat.pow_succ];split <;> omega
theorem afT (s : Nat) (lt : Int) (q : lM) : ∀ l : List lM, ng s lt (l ++ [q]) = ng s lt l + (if sP s lt q = true then 2 ^ l.length else 0)
 | [] => by
  show (if sP s lt q = true then 1 else 0) + 2 * 0 = 0 + _;split <;> simp
 | a :: r => by
  have := afT s lt q r;rw [List.cons_append];unfold ng;rw [this, List.length_cons, Nat.pow_succ];split <;> split <;> omega
theorem arC (n : Int) (h0 : 0 ≤ n) (h1 : n < 2 ^ 62) : IntKind.i64.wrap n = n := by rw [IntKind.wrap_i64]; omega
theorem arD (n : Nat) (h : n ≤ 8) : wrap64 (2 ^ n) = 2 ^ n := by
 have : n = 0 ∨ n = 1 ∨ n = 2 ∨ n = 3 ∨ n = 4 ∨ n = 5 ∨ n = 6 ∨ n = 7 ∨ n = 8 := by omega
 rcases this with h | h | h | h | h | h | h | h | h <;> subst h <;> decide +kernel
theorem or_bit (o k : Nat) (h : o < 2 ^ k) (hk : k < 8) : Go.bits .or .i64 (o : Int) (wrap64 (2 ^ k)) = ((o + 2 ^ k : Nat) : Int) := by
 rw [arD k ag];have hp : (2 : Nat) ^ k ≤ 2 ^ 8 := Nat.pow_le_pow_right ai ag;have e1 : ((2 : Int) ^ k) = ((2 ^ k : Nat) : Int) := by rw [Int.natCast_pow]; rfl
 rw [e1, (Go.bits_nat .i64 62 ai arC o (2 ^ k) ag ag).2];have := Nat.two_pow_add_eq_or_of_lt h 1;rw [Nat.mul_one] at this;rw [Nat.or_comm, ← this, Nat.add_comm]
theorem I8 (ad : Addr) (n m : Nat) (h : 0 < m) : ad.add (n + m) = ⟨(ad.add n).block, (ad.add n).off + m, none⟩ := by
 unfold Addr.add;rw [if_neg ag];by_cases e : n = 0
 ·subst e;rw [if_pos rfl, Nat.zero_add]
 ·rw [if_neg e, Nat.add_assoc]
theorem arE {w : World} {A : Option Addr} {n : Nat} {xs : List lM} (h : Kd.C Bi w A n xs) {j : Nat} (hj : j < n) :
  ∃ ad Aq cq, A = some ad ∧ (xs.getD j z76).f0.f2.length ≤ cq ∧ Kd.C bK w Aq (xs.getD j z76).f0.f2.length (xs.getD j z76).f0.f2 ∧
   w.cell? (ad.add (j * 5)) = some (.int .i64 (xs.getD j z76).f0.f0) ∧ w.cell? ⟨(ad.add (j * 5)).block, (ad.add (j * 5)).off + 1, none⟩ = some (.int .i64 (xs.getD j z76).f0.f1) ∧
   w.cell? ⟨(ad.add (j * 5)).block, (ad.add (j * 5)).off + 2, none⟩ = some (.slice Aq (xs.getD j z76).f0.f2.length cq) ∧ w.cell? ⟨(ad.add (j * 5)).block, (ad.add (j * 5)).off + 3, none⟩ = some (.int .i64 (xs.getD j z76).f1) ∧
   w.cell? ⟨(ad.add (j * 5)).block, (ad.add (j * 5)).off + 4, none⟩ = some (.int .i64 (xs.getD j z76).f2) := by
 obtain ⟨ad, c, e, _, hK, hc0⟩ := Kd.CE h z76 (j : Int) ag ag;rw [Int.toNat_natCast] at hK hc0;obtain ⟨Aq, cq, rfl, hl, hC⟩ := anJ hK;refine ⟨ad, Aq, cq, e, hl, hC, ?_, ?_, ?_, ?_, ?_⟩
 ·have := hc0 0 _ rfl
  rwa [Nat.add_zero] at this
 ·have := hc0 1 _ rfl
  rwa [I8 _ _ _ ag] at this
 ·have := hc0 2 _ rfl
  rwa [I8 _ _ _ ag] at this
 ·have := hc0 3 _ rfl
  rwa [I8 _ _ _ ag] at this
 ·have := hc0 4 _ rfl
  rwa [I8 _ _ _ ag] at this
theorem arF (l : List lM) (g s : Nat) (lt : Int) (A : Option Addr) (c : Nat) (w : World) (q7 : w.cell? ⟨g, 7, none⟩ = some (.slice A l.length c)) (h7 : Kd.C Bi w A l.length l) (hl8 : l.length ≤ 8) (hs : s ≤ 4096) (hq : ∀ q, q ∈ l → 0 ≤ q.f1 ∧ q.f1 ≤ 60 ∧ 0 < q.f2 ∧ q.f2 ≤ 4096) :
  Calls Tryz.prog 40 #[.pointer (some ⟨g, 0, none⟩), .int .i64 (s : Int), .int .u32 lt] w fun e w' => e = .returned (.int .i64 (ng s lt l : Int)) ∧ Below w.heap.size w w' := by
 have jm := Tryz.underlying29;have BO := Tryz.underlying74;have hup := Tryz.underlying76;have VN := Tryz.underlying72;have H7 := Zd.mk h7;have HQ := Zd.mk hq;clear h7 hq;go_enter Tryz.func40, Tryz.ntmps40;go_wp2;go_loopg [7, 15] l.length (fun kq v7 v15 w' => ∃ j : Nat, j + kq = l.length ∧ v15 = .int .i64 (j : Int) ∧ v7 = .int .i64 (ng s lt (l.take j) : Int) ∧ Zd (Below w.heap.size w w'))
 case atStart => exact ⟨0, by omega, rfl, rfl, ⟨Below.refl _ _⟩⟩
 case round =>
  obtain ⟨j, hj, rfl, rfl, HB⟩ := hrel;obtain ⟨WW, rfl⟩ : ∃ W : World, W = wr := ⟨_, rfl⟩;have HJ := Zd.mk hj;clear hj;by_cases hjl : j < l.length
  ·obtain ⟨ad, Aq, cq, e, hcq, hCq, b0, b1, b2, b3, b4⟩ := arE (Kd.aQ H7.out HB.out) hjl;subst e;obtain ⟨p0, p1, p2, p3⟩ := HQ.out (l.getD j z76) (by rw [List.getD_eq_getElem?_getD, List.getElem?_eq_getElem hjl]; exact List.getElem_mem hjl);have wG := Zd.mk (show ng s lt (l.take (j + 1)) = ng s lt (l.take j) + (if sP s lt (l.getD j z76) = true then 2 ^ j else 0) from by
    rw [List.take_add_one, List.getElem?_eq_getElem hjl, Option.toList_some, afT, List.length_take, Nat.min_eq_left ag, List.getD_eq_getElem?_getD, List.getElem?_eq_getElem hjl]; rfl)
   have oo := Zd.mk (show ng s lt (l.take j) < 2 ^ j from by have := XQ s lt (l.take j); rwa [List.length_take, Nat.min_eq_left ag] at this);generalize l.getD j z76 = q at *;have hf2 : ¬ q.f2 = 0 := by omega
   have hw1 : IntKind.u64.wrap q.f1 = q.f1 := Hz p0 ag;have hsh : shr .i64 (s : Int) q.f1 = ((s / 2 ^ q.f1.toNat : Nat) : Int) := by
    rw [← Oe (k := .i64) (x := (s : Int)) (y := q.f1) rfl (by show q.f1 ≤ 64; omega)];simp
   have hdv : ((s : Int) / 2 ^ q.f1.toNat) = ((s / 2 ^ q.f1.toNat : Nat) : Int) := by rw [Int.natCast_ediv]; congr 1
   have hr0 : s / 2 ^ q.f1.toNat ≤ 4096 := Nat.le_trans (Nat.div_le_self _ _) hs;have DD := Zd.mk (show sP s lt q = kL q.f0 (((s / 2 ^ q.f1.toNat) % q.f2.toNat : Nat) : Int) lt from rfl);generalize s / 2 ^ q.f1.toNat = r0 at *;obtain ⟨m2, hm2⟩ : ∃ m : Nat, q.f2 = (m : Int) := ⟨q.f2.toNat, by omega⟩;have hrm : Int.tmod (r0 : Int) q.f2 = ((r0 % q.f2.toNat : Nat) : Int) := by rw [hm2, Int.toNat_natCast]; rfl
   have hr1 : r0 % q.f2.toNat ≤ 4096 := Nat.le_trans (Nat.mod_le _ _) hr0;generalize r0 % q.f2.toNat = r1 at *;have hw2 : IntKind.i64.wrap (r1 : Int) = (r1 : Int) := (bE _).trans (vD ag);have hw3 : IntKind.i64.wrap (r0 : Int) = (r0 : Int) := (bE _).trans (vD ag);clear hm2;have FY : (j : Int) < (l.length : Int) := by omega
   go_upto_region 5 with fail
   obtain ⟨WB, qh⟩ : ∃ W : World, W = WW.alloc (.cells #[.int .i64 q.f0.f0, .int .i64 q.f0.f1, .slice Aq q.f0.f2.length cq, .int .i64 q.f1, .int .i64 q.f2] 76) := ⟨_, rfl⟩;have hbk : WB.heap[WW.heap.size]? = some (.cells #[.int .i64 q.f0.f0, .int .i64 q.f0.f1, .slice Aq q.f0.f2.length cq, .int .i64 q.f1, .int .i64 q.f2] 76 (0, 0)) := by rw [qh]; exact heap_alloc_new WW _
   have jH : Below WW.heap.size WW WB := by rw [qh]; exact aW (Below.refl _ _) _
   rw [← qh];obtain ⟨gb, hgb⟩ : ∃ k, k = WW.heap.size := ⟨_, rfl⟩;rw [← hgb] at hbk ⊢;have e0 : WB.cell? ⟨gb, 0, none⟩ = some (.int .i64 q.f0.f0) := (aj hbk 0).trans rfl;have e1 : WB.cell? ⟨gb, 1, none⟩ = some (.int .i64 q.f0.f1) := (aj hbk 1).trans rfl;have e2 : WB.cell? ⟨gb, 2, none⟩ = some (.slice Aq q.f0.f2.length cq) := (aj hbk 2).trans rfl;have e3 : WB.cell? ⟨gb, 3, none⟩ = some (.int .i64 q.f1) := (aj hbk 3).trans rfl;have e4 : WB.cell? ⟨gb, 4, none⟩ = some (.int .i64 q.f2) := (aj hbk 4).trans rfl;have oQ := Zd.mk (HB.out.trans (jH.mono HB.out.size));have HCq := Zd.mk (Kd.aQ hCq jH);clear b0 b1 b2 b3 b4 qh hgb hbk jH hCq
   go_still_tail 11, aa
   try rw [hdv, hrm]
   change wpList _ _ _ _ _ WB.drew;have HB2 := Zd.mk (oQ.out.trans (bV (Below.refl WB.heap.size WB) |>.mono oQ.out.size));have Le := Zd.mk (DD.out ▸ aeM q.f0 (r1 : Int) lt Aq cq WB.drew (Kd.aQ HCq.out (bV (Below.refl _ _))) hcq);generalize WB.drew = W2 at *;obtain ⟨b, hb⟩ : ∃ b, b = sP s lt q := ⟨_, rfl⟩;rw [← hb] at Le;have HBQ := Zd.mk hb;clear hb hsh hdv hrm e0 e1 e2 e3 e4 hw1 hw2 hw3 hf2 p0 p1 p2 p3 hr0 hr1;cases b
   ·go_wp2_with (go_at_call 60; refine Le.out.mono ?_; rintro e w3 ⟨rfl, hB⟩; have HB3 := Zd.mk (HB2.out.trans (hB.mono HB2.out.size)); clear hB)
    go_roundg (gk - 1)
    case measure => have := HJ.out; omega
    case rel =>
     refine ⟨j + 1, by have := HJ.out; omega, by first | rfl | (congr 1; go_num; done), ?_, HB3⟩;rw [wG.out, ← HBQ.out]; rfl
   ·go_wp2_with (go_at_call 60; refine Le.out.mono ?_; rintro e w3 ⟨rfl, hB⟩; have HB3 := Zd.mk (HB2.out.trans (hB.mono HB2.out.size)); clear hB)
    go_roundg (gk - 1)
    case measure => have := HJ.out; omega
    case rel =>
     refine ⟨j + 1, by have := HJ.out; omega, by first | rfl | (congr 1; go_num; done), ?_, HB3⟩;rw [wG.out, ← HBQ.out, if_pos rfl];exact congrArg (Value.int .i64) (or_bit _ j oo.out ag)
  ·have e : j = l.length := by have := HJ.out; omega
   subst e;go_wp2;go_ret;exact ⟨by rw [List.take_length]; rfl, HB.out⟩
end Go.Proofs.YtapejnikpmfddaaGreat.X
namespace Go.Proofs.YtapejnikpmfddaaGreat.P
open Go.RowKit Go.Proofs.aI.bM Go.Proofs.aI.dG Go.Proofs.aI.dM
attribute [local go_sem] nE nG nH nI nW nX nY nZ

def rR.l0 : Nat → Int → Int → List Int → Int → Int → Option (Bool)
 | 0, _, _, _, _, _ => none
 | k + 1, x1, x5, x8, x9, pM => if pM < x9 then (if 0 ≤ pM then (if pM < (x8.length : Int) then (if (rd x8 pM) ≤ x5 then (some false) else (if (rd x8 pM) ≥ x1 then (some false) else (rR.l0 k x1 (rd x8 pM) x8 x9 (wrap64 (pM + 1))))) else (none)) else (none)) else (some true)
def rR.f (k : Nat) (l0 : List Int) (a1 : Int) : Option (Bool) := rR.l0 k a1 (-1) l0 (l0.length : Int) 0
theorem rR.calls (k : Nat) (A0 : Option Addr) (c0 : Nat) (l0 : List Int) (a1 : Int) (r : Bool) (w : World) (hr0 : Kd.C (Kd.int .i64) w A0 l0.length l0) (hc0 : l0.length ≤ c0) (h : rR.f k l0 a1 = some r) :
  Calls Tryz.prog 27 #[.slice A0 l0.length c0, .int .i64 a1] w fun e w' => e = .returned (.bool r) ∧ bC w w' := by
 have pQ := Zd.mk hr0;have EH := Zd.mk hc0;clear hr0 hc0;have H : (rR.l0 k a1 (-1) l0 (l0.length : Int) 0) = some r := h;clear h;have H' := Zd.mk H;clear H;go_enter Tryz.func27, Tryz.ntmps27;go_wp2;go_loopg [5, 10] k (fun kq v5 v10 w' => ∃ (wh : Int) (dN : Int), v5 = .int .i64 wh ∧ v10 = .int .i64 dN ∧ Zd (rR.l0 kq a1 wh l0 (l0.length : Int) dN = some r) ∧ Zd (kq ≤ k) ∧ bC w w')
 case atStart => exact ⟨((-1)), (0), (by first | rfl | (simp; done) | (simp [*]; done)), (by first | rfl | (simp; done) | (simp [*]; done)), H', ⟨Nat.le_refl _⟩, by repeat (first | exact bC.refl _ | apply bC.step)⟩
 case round =>
  clear H'
  try clear c2
  try clear p2
  obtain ⟨wh, dN, rfl, rfl, HA, dR, ⟨m1, rfl⟩⟩ := hrel;cases gk with
  | zero => exact absurd HA.out (by simp [rR.l0])
  | succ k1 =>
   have H := HA.out;clear HA;simp only [rR.l0] at H;by_cases c3 : dN < (l0.length : Int)
   ·rw [if_pos c3] at H;have gN : decide (dN < (l0.length : Int)) = true := decide_eq_true c3;clear c3;by_cases c4 : 0 ≤ dN
    ·rw [if_pos c4] at H;have CP : decide (0 ≤ dN) = true := decide_eq_true c4;clear c4;by_cases c5 : dN < (l0.length : Int)
     ·rw [if_pos c5] at H;have yz : decide (dN < (l0.length : Int)) = true := decide_eq_true c5;clear c5;by_cases c6 : (rd l0 dN) ≤ wh
      ·rw [if_pos c6] at H;have gI : decide ((rd l0 dN) ≤ wh) = true := decide_eq_true c6;clear c6;obtain rfl := Option.some.inj H;have zn : 0 ≤ (dN : Int) := of_decide_eq_true (by first | (with_reducible assumption) | assumption);have zo : dN < (l0.length : Int) := of_decide_eq_true (by first | (with_reducible assumption) | assumption);obtain ⟨afU, e228, afV⟩ := Kd.xx pQ.out dN zn zo;cases e228;replace zn := eq_true zn;replace zo := eq_true zo;go_wp2;go_ret;exact ⟨by first | rfl | (simp; done) | (simp [*]; done), by repeat (first | exact bC.refl _ | apply bC.step)⟩
      ·rw [if_neg c6] at H;have gI : decide ((rd l0 dN) ≤ wh) = false := decide_eq_false c6;clear c6;by_cases c7 : (rd l0 dN) ≥ a1
       ·rw [if_pos c7] at H;have uI : decide (a1 ≤ (rd l0 dN)) = true := decide_eq_true c7;clear c7;obtain rfl := Option.some.inj H;have zn : 0 ≤ (dN : Int) := of_decide_eq_true (by first | (with_reducible assumption) | assumption);have zo : dN < (l0.length : Int) := of_decide_eq_true (by first | (with_reducible assumption) | assumption);obtain ⟨afU, e228, afV⟩ := Kd.xx pQ.out dN zn zo;cases e228;replace zn := eq_true zn;replace zo := eq_true zo;go_wp2;go_ret;exact ⟨by first | rfl | (simp; done) | (simp [*]; done), by repeat (first | exact bC.refl _ | apply bC.step)⟩
       ·rw [if_neg c7] at H;have uI : decide (a1 ≤ (rd l0 dN)) = false := decide_eq_false c7;clear c7;have H' := Zd.mk H;clear H;have zn : 0 ≤ (dN : Int) := of_decide_eq_true (by first | (with_reducible assumption) | assumption);have zo : dN < (l0.length : Int) := of_decide_eq_true (by first | (with_reducible assumption) | assumption);obtain ⟨afU, e228, afV⟩ := Kd.xx pQ.out dN zn zo;cases e228;replace zn := eq_true zn;replace zo := eq_true zo;go_wp2;go_roundg k1
        case measure => have := dR.out; omega
        case rel => exact ⟨(rd l0 dN), (wrap64 (dN + 1)), (by first | rfl | (simp; done) | (simp [*]; done)), (by first | rfl | (simp; done) | (simp [*]; done)), H', ⟨by have := dR.out; omega⟩, by repeat (first | exact bC.refl _ | apply bC.step)⟩
     ·rw [if_neg c5] at H;exact absurd H (by simp)
    ·rw [if_neg c4] at H;exact absurd H (by simp)
   ·rw [if_neg c3] at H;have gN : decide (dN < (l0.length : Int)) = false := decide_eq_false c3;clear c3;obtain rfl := Option.some.inj H;go_wp2;go_ret;exact ⟨by first | rfl | (simp; done) | (simp [*]; done), by repeat (first | exact bC.refl _ | apply bC.step)⟩

attribute [local go_sem] nE nG nH nI nW nX nY nZ

def sQ.l0 : Nat → Int → List (List Int) → Int → Int → List Int → List Int → List (List Int) → Option (Int)
 | 0, _, _, _, _, _, _, _ => none
 | k + 1, x3, qU, L6, sS, arG, afW, arH => if sS < L6 then (if 0 ≤ sS then (if sS < (qU.length : Int) then (if ((jU qU sS).length : Int) = 0 then (some 1) else ((rR.f k (jU qU sS) x3).bind fun t231 => (if t231 = true then (sQ.l0 k x3 qU L6 (wrap64 (sS + 1)) arG afW arH) else (some 1)))) else (none)) else (none)) else ((rR.f k afW x3).bind fun t232 => (if t232 = true then (some 0) else (some 1)))
def sQ.f (k : Nat) (aV : List Int) (bF : List Int) (af : List (List Int)) : Option (Int) := if (aV.length : Int) > 200 then (some 7) else (if (af.length : Int) = (aV.length : Int) then (sQ.l0 k (aV.length : Int) af (af.length : Int) 0 aV bF af) else (some 1))
theorem sQ.calls (k : Nat) (eD : Option Addr) (eF : Nat) (aV : List Int) (dX : Option Addr) (dY : Nat) (bF : List Int) (aM : Option Addr) (aC : Nat) (af : List (List Int)) (r : Int) (w : World) (qK : Kd.C (Kd.int .u32) w eD aV.length aV) (qL : aV.length ≤ eF) (qM : Kd.C (Kd.int .i64) w dX bF.length bF) (qN : bF.length ≤ dY) (dn : Kd.C (Kd.slice 3 (Kd.int .i64)) w aM af.length af) (dw : af.length ≤ aC) (h : sQ.f k aV bF af = some r) :
  Calls Tryz.prog 11 #[.agg #[.slice eD aV.length eF, .slice dX bF.length dY, .slice aM af.length aC]] w fun e w' => e = .returned (.int .i64 r) ∧ Below w.heap.size w w' := by
 have anM := Tryz.underlying26;have acY := Zd.mk qK;have acZ := Zd.mk qL;clear qK qL;have Hr := Zd.mk qM;have Ht := Zd.mk qN;clear qM qN;have fI := Zd.mk dn;have jw := Zd.mk dw;clear dn dw;have HB := Zd.mk (Below.refl w.heap.size w);have H : (if (aV.length : Int) > 200 then (some 7) else (if (af.length : Int) = (aV.length : Int) then (sQ.l0 k (aV.length : Int) af (af.length : Int) 0 aV bF af) else (some 1))) = some r := h;clear h;by_cases c2 : (aV.length : Int) > 200
 ·rw [if_pos c2] at H;have yC : decide (200 < (aV.length : Int)) = true := decide_eq_true c2;have Bj : decide (200 < aV.length) = true := decide_eq_true ag;clear c2;obtain rfl := Option.some.inj H;go_enter Tryz.func11, Tryz.ntmps11;go_wp2_with (first | ((with_reducible refine gH (N := 1) rfl ?_); refine gG ?hg (N := 1) ?hd (cs := #[.slice eD aV.length eF, .slice dX bF.length dY, .slice aM af.length aC]) (t := 26) ?hr ?_; (case hd => rfl); (case hg => rfl); (case hr => first | (go_simp; done) | (go_simp; rfl)); intro mO hg w3 bG hb; have aJ := Zd.mk (df B_ hb); have aK := Zd.mk (bG); have aU := Zd.mk ((by rw [hg]; exact (bP B_) : w.heap.size ≤ mO)); have aZ := Zd.mk ((by rw [hg]; exact (bP B_) : w.heap.size ≤ mO)); clear HB; have HB := aJ; have iH := aK; have afX := aU; have afY := aZ; clear aJ aK aU aZ; clear hb bG hg; have Uo : w3.cell? ⟨mO, 0, none⟩ = some (.slice eD aV.length eF) := (aj iH.out 0).trans rfl; have Uq : w3.cell? ⟨mO, 1, none⟩ = some (.slice dX bF.length dY) := (aj iH.out 1).trans rfl; have Ur : w3.cell? ⟨mO, 2, none⟩ = some (.slice aM af.length aC) := (aj iH.out 2).trans rfl; have Us := aN iH.out 0; have Ut := aN iH.out 1; have Uu := aN iH.out 2));go_ret;exact ⟨by first | rfl | (simp [bS, bT] <;> rfl) | (simp [*, bS, bT] <;> rfl), B_⟩
 ·rw [if_neg c2] at H;have yC : decide (200 < (aV.length : Int)) = false := decide_eq_false c2;have Bj : decide (200 < aV.length) = false := decide_eq_false ag;clear c2;by_cases c5 : (af.length : Int) = (aV.length : Int)
  ·rw [if_pos c5] at H;have yz : ((af.length : Int) == (aV.length : Int)) = true := beq_iff_eq.mpr c5;have Hu : ((af.length : Int) != (aV.length : Int)) = false := bne_eq_false_iff_eq.mpr c5;have J9 : (af.length == aV.length) = true := by first | simpa using c5 | (simp at c5 ⊢; omega)
   clear c5;have H' := Zd.mk H;clear H;go_enter Tryz.func11, Tryz.ntmps11;go_wp2_with (first | ((with_reducible refine gH (N := 1) rfl ?_); refine gG ?hg (N := 1) ?hd (cs := #[.slice eD aV.length eF, .slice dX bF.length dY, .slice aM af.length aC]) (t := 26) ?hr ?_; (case hd => rfl); (case hg => rfl); (case hr => first | (go_simp; done) | (go_simp; rfl)); intro mO hg w6 bG hb; have aJ := Zd.mk (df B_ hb); have aK := Zd.mk (bG); have aU := Zd.mk ((by rw [hg]; exact (bP B_) : w.heap.size ≤ mO)); have aZ := Zd.mk ((by rw [hg]; exact (bP B_) : w.heap.size ≤ mO)); clear HB; have HB := aJ; have iH := aK; have afX := aU; have afY := aZ; clear aJ aK aU aZ; clear hb bG hg; have UN : w6.cell? ⟨mO, 0, none⟩ = some (.slice eD aV.length eF) := (aj iH.out 0).trans rfl; have UO : w6.cell? ⟨mO, 1, none⟩ = some (.slice dX bF.length dY) := (aj iH.out 1).trans rfl; have aex : w6.cell? ⟨mO, 2, none⟩ = some (.slice aM af.length aC) := (aj iH.out 2).trans rfl; have UQ := aN iH.out 0; have UR := aN iH.out 1; have aey := aN iH.out 2));go_loopg [19] k (fun kq v19 w' => ∃ (jD : Int), v19 = .int .i64 jD ∧ Zd (sQ.l0 kq (aV.length : Int) af (af.length : Int) jD aV bF af = some r) ∧ Zd (kq ≤ k) ∧ Zd (w'.heap[mO]? = some (.cells #[(.slice eD aV.length eF), (.slice dX bF.length dY), (.slice aM af.length aC)] 26 (0, 0))) ∧ Zd (Below w.heap.size w w'))
   case atStart => exact ⟨(0), (by first | rfl | (simp; done) | (simp [*]; done)), H', ⟨Nat.le_refl _⟩, ⟨K_⟩, ⟨B_⟩⟩
   case round =>
    clear H'
    try clear c1
    try clear c2
    try clear yC
    try clear Bj
    try clear p2
    try clear c5
    try clear yz
    try clear Hu
    try clear J9
    try clear Uo
    try clear Uq
    try clear Ur
    try clear UN
    try clear UO
    try clear aex
    try clear Us
    try clear Ut
    try clear Uu
    try clear UQ
    try clear UR
    try clear aey
    obtain ⟨jD, rfl, HA, dR, iH, HB⟩ := hrel;cases gk with
    | zero => exact absurd HA.out (by simp [sQ.l0])
    | succ k1 =>
     have H := HA.out;clear HA;simp only [sQ.l0] at H;by_cases c8 : jD < (af.length : Int)
     ·rw [if_pos c8] at H;have Kg : decide (jD < (af.length : Int)) = true := decide_eq_true c8;clear c8;by_cases c9 : 0 ≤ jD
      ·rw [if_pos c9] at H;have Ia : decide (0 ≤ jD) = true := decide_eq_true c9;clear c9;by_cases c10 : jD < (af.length : Int)
       ·rw [if_pos c10] at H;have EI : decide (jD < (af.length : Int)) = true := decide_eq_true c10;clear c10;by_cases c11 : ((jU af jD).length : Int) = 0
        ·rw [if_pos c11] at H;have Bo : (((jU af jD).length : Int) == 0) = true := beq_iff_eq.mpr c11;have Kh : (((jU af jD).length : Int) != 0) = false := bne_eq_false_iff_eq.mpr c11;clear c11;obtain rfl := Option.some.inj H;have zq : 0 ≤ (jD : Int) := of_decide_eq_true (by first | (with_reducible assumption) | assumption);have zt : jD < (af.length : Int) := of_decide_eq_true (by first | (with_reducible assumption) | assumption);obtain ⟨afZ, af0, af1, e230, zu, DW, DX⟩ := Hq fI.out jD zq zt;cases e230;replace zu := (HB.out.cell (World.block_lt_of_cell? w _ zu)).trans zu;have QQ := Zd.mk DX;have QR := Zd.mk DW;clear DX DW;replace zq := eq_true zq;replace zt := eq_true zt;go_wp2;go_ret;exact ⟨by first | rfl | (simp [bS, bT] <;> rfl) | (simp [*, bS, bT] <;> rfl), B_⟩
        ·rw [if_neg c11] at H;have Bo : (((jU af jD).length : Int) == 0) = false := beq_eq_false_iff_ne.mpr c11;have Kh : (((jU af jD).length : Int) != 0) = true := bne_iff_ne.mpr c11;have awF : ¬ ((jU af jD) = []) := fun h_ => c11 (by rw [h_]; rfl);replace H := Option.bind_eq_some_iff.mp H;obtain ⟨t231, L8, H⟩ := H;replace H : (if t231 = true then (sQ.l0 k1 (aV.length : Int) af (af.length : Int) (wrap64 (jD + 1)) aV bF af) else (some 1)) = some r := H;have L9 := Zd.mk L8;clear L8;by_cases c13 : t231 = true
         ·subst c13;have H1 : (sQ.l0 k1 (aV.length : Int) af (af.length : Int) (wrap64 (jD + 1)) aV bF af) = some r := by rw [if_pos rfl] at H; exact H
          clear H;have H := H1;clear H1;have H' := Zd.mk H;clear H;have zq : 0 ≤ (jD : Int) := of_decide_eq_true (by first | (with_reducible assumption) | assumption);have zt : jD < (af.length : Int) := of_decide_eq_true (by first | (with_reducible assumption) | assumption);obtain ⟨afZ, af0, af1, e230, zu, DW, DX⟩ := Hq fI.out jD zq zt;cases e230;replace zu := (HB.out.cell (World.block_lt_of_cell? w _ zu)).trans zu;have QQ := Zd.mk DX;have QR := Zd.mk DW;clear DX DW;replace zq := eq_true zq;replace zt := eq_true zt;go_wp2_with (first | (go_at_call 27; (with_reducible refine (rR.calls k1 _ _ (jU af jD) (aV.length : Int) true _ ?side1 ?side2 L9.out).mono ?_); (case side1 => exact Kd.aQ QQ.out B_); (case side2 => exact QR.out); rintro e w' ⟨rfl, ⟨nd, rfl⟩⟩));go_roundg k1
          case measure => have := dR.out; omega
          case rel => exact ⟨(wrap64 (jD + 1)), (by first | rfl | (simp; done) | (simp [*]; done)), H', ⟨by have := dR.out; omega⟩, ⟨K_⟩, ⟨B_⟩⟩
         ·replace c13 := Bool.eq_false_iff.mpr c13;subst c13;have H1 : (some 1) = some r := by rw [if_neg (show ¬ (false = true) by decide)] at H; exact H
          clear H;have H := H1;clear H1;obtain rfl := Option.some.inj H;have zq : 0 ≤ (jD : Int) := of_decide_eq_true (by first | (with_reducible assumption) | assumption);have zt : jD < (af.length : Int) := of_decide_eq_true (by first | (with_reducible assumption) | assumption);obtain ⟨afZ, af0, af1, e230, zu, DW, DX⟩ := Hq fI.out jD zq zt;cases e230;replace zu := (HB.out.cell (World.block_lt_of_cell? w _ zu)).trans zu;have QQ := Zd.mk DX;have QR := Zd.mk DW;clear DX DW;replace zq := eq_true zq;replace zt := eq_true zt;go_wp2_with (first | (go_at_call 27; (with_reducible refine (rR.calls k1 _ _ (jU af jD) (aV.length : Int) false _ ?side1 ?side2 L9.out).mono ?_); (case side1 => exact Kd.aQ QQ.out B_); (case side2 => exact QR.out); rintro e w' ⟨rfl, ⟨nd, rfl⟩⟩));go_ret;exact ⟨by first | rfl | (simp [bS, bT] <;> rfl) | (simp [*, bS, bT] <;> rfl), B_⟩
       ·rw [if_neg c10] at H;exact absurd H (by simp)
      ·rw [if_neg c9] at H;exact absurd H (by simp)
     ·rw [if_neg c8] at H;have Kg : decide (jD < (af.length : Int)) = false := decide_eq_false c8;clear c8;replace H := Option.bind_eq_some_iff.mp H;obtain ⟨t232, CS, H⟩ := H;replace H : (if t232 = true then (some 0) else (some 1)) = some r := H;have EJ := Zd.mk CS;clear CS;by_cases c15 : t232 = true
      ·subst c15;have H1 : (some 0) = some r := by rw [if_pos rfl] at H; exact H
       clear H;have H := H1;clear H1;obtain rfl := Option.some.inj H;have af2 : wr.cell? ⟨mO, 0, none⟩ = some (.slice eD aV.length eF) := (aj iH.out 0).trans rfl;have af3 : wr.cell? ⟨mO, 1, none⟩ = some (.slice dX bF.length dY) := (aj iH.out 1).trans rfl;have af4 : wr.cell? ⟨mO, 2, none⟩ = some (.slice aM af.length aC) := (aj iH.out 2).trans rfl;have af5 := aN iH.out 0;have af6 := aN iH.out 1;have af7 := aN iH.out 2;go_wp2_with (first | ((with_reducible refine kX (f := 27) rfl ?_); refine kW (some 36) rfl rfl Tryz.func27 aa rfl #[.slice dX bF.length dY, .int .i64 (aV.length : Int)] rfl (by (try simp only [List.map_toArray, List.map_cons, List.map_nil]); first | done | rfl | (simp only [List.length_drop, List.length_take]; rfl)) ?_; (with_reducible refine (rR.calls k1 _ _ bF (aV.length : Int) true _ ?side1 ?side2 EJ.out).mono ?_); (case side1 => exact Kd.aQ Hr.out B_); (case side2 => exact Ht.out); rintro e w' ⟨rfl, ⟨nd, rfl⟩⟩; refine ⟨_, rfl, ?_⟩));go_ret;exact ⟨by first | rfl | (simp [bS, bT] <;> rfl) | (simp [*, bS, bT] <;> rfl), B_⟩
      ·replace c15 := Bool.eq_false_iff.mpr c15;subst c15;have H1 : (some 1) = some r := by rw [if_neg (show ¬ (false = true) by decide)] at H; exact H
       clear H;have H := H1;clear H1;obtain rfl := Option.some.inj H;have ac3 : wr.cell? ⟨mO, 0, none⟩ = some (.slice eD aV.length eF) := (aj iH.out 0).trans rfl;have ac4 : wr.cell? ⟨mO, 1, none⟩ = some (.slice dX bF.length dY) := (aj iH.out 1).trans rfl;have anP : wr.cell? ⟨mO, 2, none⟩ = some (.slice aM af.length aC) := (aj iH.out 2).trans rfl;have ac5 := aN iH.out 0;have ac6 := aN iH.out 1;have anQ := aN iH.out 2;go_wp2_with (first | ((with_reducible refine kX (f := 27) rfl ?_); refine kW (some 36) rfl rfl Tryz.func27 aa rfl #[.slice dX bF.length dY, .int .i64 (aV.length : Int)] rfl (by (try simp only [List.map_toArray, List.map_cons, List.map_nil]); first | done | rfl | (simp only [List.length_drop, List.length_take]; rfl)) ?_; (with_reducible refine (rR.calls k1 _ _ bF (aV.length : Int) false _ ?side1 ?side2 EJ.out).mono ?_); (case side1 => exact Kd.aQ Hr.out B_); (case side2 => exact Ht.out); rintro e w' ⟨rfl, ⟨nd, rfl⟩⟩; refine ⟨_, rfl, ?_⟩));go_ret;exact ⟨by first | rfl | (simp [bS, bT] <;> rfl) | (simp [*, bS, bT] <;> rfl), B_⟩
  ·rw [if_neg c5] at H;have yz : ((af.length : Int) == (aV.length : Int)) = false := beq_eq_false_iff_ne.mpr c5;have Hu : ((af.length : Int) != (aV.length : Int)) = true := bne_iff_ne.mpr c5;have J9 : (af.length == aV.length) = false := by first | simpa using c5 | (simp at c5 ⊢; omega)
   obtain rfl := Option.some.inj H;go_enter Tryz.func11, Tryz.ntmps11;go_wp2_with (first | ((with_reducible refine gH (N := 1) rfl ?_); refine gG ?hg (N := 1) ?hd (cs := #[.slice eD aV.length eF, .slice dX bF.length dY, .slice aM af.length aC]) (t := 26) ?hr ?_; (case hd => rfl); (case hg => rfl); (case hr => first | (go_simp; done) | (go_simp; rfl)); intro mO hg su bG hb; have aJ := Zd.mk (df B_ hb); have aK := Zd.mk (bG); have aU := Zd.mk ((by rw [hg]; exact (bP B_) : w.heap.size ≤ mO)); have aZ := Zd.mk ((by rw [hg]; exact (bP B_) : w.heap.size ≤ mO)); clear HB; have HB := aJ; have iH := aK; have afX := aU; have afY := aZ; clear aJ aK aU aZ; clear hb bG hg; have anR : su.cell? ⟨mO, 0, none⟩ = some (.slice eD aV.length eF) := (aj iH.out 0).trans rfl; have anS : su.cell? ⟨mO, 1, none⟩ = some (.slice dX bF.length dY) := (aj iH.out 1).trans rfl; have anT : su.cell? ⟨mO, 2, none⟩ = some (.slice aM af.length aC) := (aj iH.out 2).trans rfl; have anU := aN iH.out 0; have anV := aN iH.out 1; have anW := aN iH.out 2));go_ret;exact ⟨by first | rfl | (simp [bS, bT] <;> rfl) | (simp [*, bS, bT] <;> rfl), B_⟩

end Go.Proofs.YtapejnikpmfddaaGreat.P
namespace Go.Proofs.YtapejnikpmfddaaGreat.X
open Go.RowKit Go.Proofs.aI.bM Go.Proofs.aI.dM
open Go.Proofs.YtapejnikpmfddaaGreat.P Go.Proofs.YtapejnikpmfddaaGreat.gY
def sU (n : Int) : Int → List Int → Bool
 | _, [] => true
 | was, v :: r => if v ≤ was then false else if v ≥ n then false else sU n v r
def FZ (n : Int) (l : List Int) : Bool := decide (l ≠ []) && sU n (-1) l
def ko (ls ss : List Int) (nxs : List (List Int)) : Int := if (ls.length : Int) > 200 then 7 else if (nxs.length : Int) = (ls.length : Int) then (if sU (ls.length : Int) (-1) ss = true ∧ nxs.all (FZ (ls.length : Int)) = true then 0 else 1) else 1
theorem QS {n : Int} : ∀ {l : List Int} {was : Int}, sU n was l = true → ∀ x, x ∈ l → was < x ∧ x < n
 | [], _, _, x, hx => by cases hx
 | v :: r, was, h, x, hx => by
  unfold sU at h;by_cases h1 : v ≤ was
  ·rw [if_pos h1] at h; cases h
  ·rw [if_neg h1] at h;by_cases h2 : v ≥ n
   ·rw [if_pos h2] at h; cases h
   ·rw [if_neg h2] at h;rcases List.mem_cons.1 hx with e | hx
    ·subst e; omega
    ·have := QS h x hx;omega
theorem af8 {n : Int} : ∀ {l : List Int} {was : Int}, sU n was l = true → l = [] ∨ (l.length : Int) + was < n
 | [], _, _ => .inl rfl
 | v :: r, was, h => by
  right
  have hv := QS h v (List.mem_cons_self ..);unfold sU at h;rw [if_neg ag, if_neg ag] at h;rcases af8 h with e | e
  ·subst e; simp; omega
  ·rw [List.length_cons]; omega
theorem af9 {n : Int} {l : List Int} (h : sU n (-1) l = true) : (l.length : Int) ≤ max n 0 := by
 rcases af8 h with e | e
 ·subst e; simp; omega
 ·omega
theorem af_ (n : Int) (l : List Int) (hb : l.length ≤ 9223372036854775807) : ∀ (r p : List Int) (was : Int), p ++ r = l → Ev (fun k => qJ.l0 k n was l (l.length : Int) (p.length : Int)) (sU n was r)
 | [], p, was, h => by
  subst h;exact eO (fun k => rfl) (lN (by simp) (dx _))
 | v :: r, p, was, h => by
  have hlen : l.length = p.length + (r.length + 1) := by rw [← h]; simp
  have hrd : rd l (p.length : Int) = v := by rw [← h]; exact Ke p v r
  refine eO (fun k => rfl) (dC ag (dC ag (dC ag ?_)));rw [hrd];unfold sU;refine kG (fun c => fJ (dx _) (if_pos c).symm) (fun c => ?_);rw [if_neg c];refine kG (fun c => fJ (dx _) (if_pos c).symm) (fun c => ?_);rw [if_neg c, jA ag ag, show ((p.length : Int) + 1) = ((p ++ [v]).length : Int) by simp];exact af_ n l hb r (p ++ [v]) v (by rw [← h]; simp)
theorem aga (n : Int) (l : List Int) (hb : l.length ≤ 9223372036854775807) : Ev (fun k => qJ.f k l n) (sU n (-1) l) := af_ n l hb l [] (-1) rfl
theorem agb (n : Int) (l : List Int) (hb : l.length ≤ 9223372036854775807) : ∀ (r p : List Int) (was : Int), p ++ r = l → Ev (fun k => rR.l0 k n was l (l.length : Int) (p.length : Int)) (sU n was r)
 | [], p, was, h => by
  subst h;exact eO (fun k => rfl) (lN (by simp) (dx _))
 | v :: r, p, was, h => by
  have hlen : l.length = p.length + (r.length + 1) := by rw [← h]; simp
  have hrd : rd l (p.length : Int) = v := by rw [← h]; exact Ke p v r
  refine eO (fun k => rfl) (dC ag (dC ag (dC ag ?_)));rw [hrd];unfold sU;refine kG (fun c => fJ (dx _) (if_pos c).symm) (fun c => ?_);rw [if_neg c];refine kG (fun c => fJ (dx _) (if_pos c).symm) (fun c => ?_);rw [if_neg c, jA ag ag, show ((p.length : Int) + 1) = ((p ++ [v]).length : Int) by simp];exact agb n l hb r (p ++ [v]) v (by rw [← h]; simp)
theorem agc (n : Int) (l : List Int) (hb : l.length ≤ 9223372036854775807) : Ev (fun k => rR.f k l n) (sU n (-1) l) := agb n l hb l [] (-1) rfl
theorem agd (p : List (List Int)) (x : List Int) (r : List (List Int)) : jU (p ++ x :: r) (p.length : Int) = x := by
 unfold jU;simp
theorem age (n : Int) (l : List (List Int)) (hb : l.length ≤ 9223372036854775807) : ∀ (r p : List (List Int)), (∀ x, x ∈ r → x.length ≤ 9223372036854775807) → p ++ r = l → Ev (fun k => pR.l0 k n l (l.length : Int) (p.length : Int)) (if r.all (FZ n) = true then 0 else 1)
 | [], p, hx, h => by
  subst h;exact eO (fun k => rfl) (lN (by simp) (dx _))
 | v :: r, p, hx, h => by
  have hlen : l.length = p.length + (r.length + 1) := by rw [← h]; simp
  have hrd : jU l (p.length : Int) = v := by rw [← h]; exact agd p v r
  refine eO (fun k => rfl) (dC ag (dC ag (dC ag ?_)));rw [hrd];rw [List.all_cons];unfold FZ;refine kG (fun c => fJ (dx _) ?_) (fun c => ?_)
  ·have e : v = [] := List.length_eq_zero_iff.1 ag;subst e;simp
  ·have e : v ≠ [] := fun e => c (by rw [e]; rfl);refine qO (aga n v (hx v (List.mem_cons_self ..))) (xD (fun hq => ?_) (fun hq => fJ (dx _) ?_))
   ·rw [hq, decide_eq_true e, Bool.true_and, Bool.true_and, jA ag ag, show ((p.length : Int) + 1) = ((p ++ [v]).length : Int) by simp];exact age n l hb r (p ++ [v]) (fun x k => hx x (List.mem_cons_of_mem _ k)) (by rw [← h]; simp)
   ·rw [hq]; simp
theorem XR (ls ss : List Int) (nxs : List (List Int)) (h1 : ss.length ≤ 9223372036854775807) (h2 : nxs.length ≤ 9223372036854775807) (h3 : ∀ x, x ∈ nxs → x.length ≤ 9223372036854775807) : Ev (fun k => pR.f k ls ss nxs) (ko ls ss nxs) := by
 unfold pR.f ko;refine kG (fun c => fJ (dx _) (if_pos c).symm) (fun c => ?_);rw [if_neg c];refine kG (fun c => ?_) (fun c => fJ (dx _) (if_neg c).symm);rw [if_pos c];refine qO (aga _ ss h1) (xD (fun hq => ?_) (fun hq => fJ (dx _) ?_))
 ·refine fJ (age _ nxs h2 nxs [] h3 rfl) ?_;rw [hq];simp
 ·rw [hq]; simp
theorem agf (n : Int) (ls ss : List Int) (nxs : List (List Int)) (l : List (List Int)) (hs : ss.length ≤ 9223372036854775807) (hb : l.length ≤ 9223372036854775807) : ∀ (r p : List (List Int)), (∀ x, x ∈ r → x.length ≤ 9223372036854775807) → p ++ r = l → Ev (fun k => sQ.l0 k n l (l.length : Int) (p.length : Int) ls ss nxs) (if sU n (-1) ss = true ∧ r.all (FZ n) = true then 0 else 1)
 | [], p, hx, h => by
  subst h;refine eO (fun k => rfl) (lN (by simp) (qO (agc n ss hs) (xD (fun hq => fJ (dx _) ?_) (fun hq => fJ (dx _) ?_))))
  ·rw [hq]; simp
  ·rw [hq]; simp
 | v :: r, p, hx, h => by
  have hlen : l.length = p.length + (r.length + 1) := by rw [← h]; simp
  have hrd : jU l (p.length : Int) = v := by rw [← h]; exact agd p v r
  refine eO (fun k => rfl) (dC ag (dC ag (dC ag ?_)));rw [hrd];rw [List.all_cons];unfold FZ;refine kG (fun c => fJ (dx _) ?_) (fun c => ?_)
  ·have e : v = [] := List.length_eq_zero_iff.1 ag;subst e;simp
  ·have e : v ≠ [] := fun e => c (by rw [e]; rfl);refine qO (agc n v (hx v (List.mem_cons_self ..))) (xD (fun hq => ?_) (fun hq => fJ (dx _) ?_))
   ·rw [hq, decide_eq_true e, Bool.true_and, Bool.true_and, jA ag ag, show ((p.length : Int) + 1) = ((p ++ [v]).length : Int) by simp];exact agf n ls ss nxs l hs hb r (p ++ [v]) (fun x k => hx x (List.mem_cons_of_mem _ k)) (by rw [← h]; simp)
   ·rw [hq]; simp
theorem agh (ls ss : List Int) (nxs : List (List Int)) (h1 : ss.length ≤ 9223372036854775807) (h2 : nxs.length ≤ 9223372036854775807) (h3 : ∀ x, x ∈ nxs → x.length ≤ 9223372036854775807) : Ev (fun k => sQ.f k ls ss nxs) (ko ls ss nxs) := by
 unfold sQ.f ko;refine kG (fun c => fJ (dx _) (if_pos c).symm) (fun c => ?_);rw [if_neg c];refine kG (fun c => ?_) (fun c => fJ (dx _) (if_neg c).symm);rw [if_pos c];exact agf _ ls ss nxs nxs h1 h2 nxs [] h3 rfl
structure F3 (ls ss : List Int) (nxs : List (List Int)) : Prop where
 n : ls.length ≤ 200
 nn : nxs.length = ls.length
 st : ∀ x, x ∈ ss → 0 ≤ x ∧ x < (ls.length : Int)
 sl : ss.length ≤ 200
 nx : ∀ l, l ∈ nxs → l ≠ [] ∧ l.length ≤ 200 ∧ ∀ x, x ∈ l → 0 ≤ x ∧ x < (ls.length : Int)
theorem I9 {ls ss : List Int} {nxs : List (List Int)} (h : ko ls ss nxs = 0) : F3 ls ss nxs := by
 unfold ko at h;by_cases h1 : (ls.length : Int) > 200
 ·rw [if_pos h1] at h; cases h
 ·rw [if_neg h1] at h;by_cases h2 : (nxs.length : Int) = (ls.length : Int)
  ·rw [if_pos h2] at h;by_cases h3 : sU (ls.length : Int) (-1) ss = true ∧ nxs.all (FZ (ls.length : Int)) = true
   ·refine ⟨by omega, by omega, fun x hx => by have := QS h3.1 x hx; omega, by have := af9 h3.1; omega, fun l hl => ?_⟩;have := List.all_eq_true.1 h3.2 l hl;unfold FZ at this;rw [Bool.and_eq_true, decide_eq_true_eq] at this;exact ⟨this.1, by have := af9 this.2; omega, fun x hx => by have := QS this.2 x hx; omega⟩
   ·rw [if_neg h3] at h; cases h
  ·rw [if_neg h2] at h; cases h
open Go.Proofs.aI.dG
def wP (t : ak) (i : Nat) : lM := ⟨jX t, ((i + (if t.f0 = 6 then 1 else 0) : Nat) : Int), ((2 ^ az (jX t) : Nat) : Int)⟩
def partsOf : List ak → Nat → List lM
 | [], _ => []
 | t :: r, i => wP t i :: partsOf r (i + 1)
theorem DY : ∀ (l : List ak) (i : Nat), (partsOf l i).length = l.length
 | [], _ => rfl
 | t :: r, i => by rw [partsOf, List.length_cons, List.length_cons, DY r]
theorem QT (B : List ak) : ∀ (l : List ak) (i : Nat), partsOf (l ++ B) i = partsOf l i ++ partsOf B (i + l.length)
 | [], i => by simp [partsOf]
 | t :: r, i => by
  rw [List.cons_append, partsOf, partsOf, QT B r (i + 1), List.cons_append, List.length_cons, show i + 1 + r.length = i + (r.length + 1) by omega]
theorem arI {l : List ak} {i : Nat} (h : i < l.length) : partsOf (l.take (i + 1)) 0 = partsOf (l.take i) 0 ++ [wP (l[i]'h) i] := by
 rw [List.take_succ_eq_append_getElem h, QT, List.length_take, Nat.min_eq_left ag, Nat.zero_add]; rfl
theorem agi {q : lM} : ∀ (l : List ak) (i : Nat), q ∈ partsOf l i → ∃ t j, t ∈ l ∧ i ≤ j ∧ j < i + l.length ∧ q = wP t j
 | [], i, h => by cases h
 | t :: r, i, h => by
  rw [partsOf] at h;rcases List.mem_cons.1 h with e | h
  ·exact ⟨t, i, List.mem_cons_self .., Nat.le_refl _, by simp, e⟩
  ·obtain ⟨t', j, h1, h2, h3, h4⟩ := agi r (i + 1) h;exact ⟨t', j, List.mem_cons_of_mem _ h1, by omega, by rw [List.length_cons]; omega, h4⟩
theorem arJ {s : ak} (hm : bW s = 0) : ∀ q, q ∈ partsOf (bU s) 0 → 0 ≤ q.f1 ∧ q.f1 ≤ 60 ∧ 0 < q.f2 ∧ q.f2 ≤ 4096 := by
 intro q hq;obtain ⟨t, j, h1, h2, h3, rfl⟩ := agi _ _ hq;have h8 : (bU s).length ≤ 8 := by rw [iW]; exact (kZ hm).2.2.1
 have hh := U1 ((Kt s t h1).may hm);have ht := (kZ hh).2.2.1;have hp : (2 : Nat) ^ az (jX t) ≤ 2 ^ 8 := Nat.pow_le_pow_right ai ht;have hp1 : 1 ≤ (2 : Nat) ^ az (jX t) := Nat.one_le_two_pow;refine ⟨Int.natCast_nonneg _, ?_, ?_, ?_⟩
 ·show ((j + (if t.f0 = 6 then 1 else 0) : Nat) : Int) ≤ 60;split <;> omega
 ·show (0 : Int) < ((2 ^ az (jX t) : Nat) : Int);omega
 ·show ((2 ^ az (jX t) : Nat) : Int) ≤ 4096;omega
def vQ (ps : List lM) (ls : List Int) (sz v t x : Nat) : List Nat :=
 if x / sz < v then (List.range sz).filter (fun u => ng u (ls.getD (x / sz) 0) ps == x % sz) else if x / sz = v then (List.range t).filter (fun u => ng u (ls.getD (x / sz) 0) ps == x % sz) else []
def mo (ps : List lM) (ls : List Int) (sz N v t : Nat) : List (List Nat) := (List.range N).map (vQ ps ls sz v t)
section
variable {ps : List lM} {ls : List Int} {sz N v t x : Nat}
theorem arK : mo ps ls sz N 0 0 = List.replicate N [] := by
 unfold mo;rw [List.eq_replicate_iff];refine ⟨by simp, fun b hb => ?_⟩;obtain ⟨x, _, rfl⟩ := List.mem_map.1 hb;unfold vQ;rw [if_neg (Nat.not_lt_zero _)];split <;> simp
theorem arL : mo ps ls sz N v sz = mo ps ls sz N (v + 1) 0 := by
 unfold mo;refine List.map_congr_left (fun x _ => ?_);unfold vQ;by_cases h1 : x / sz < v
 ·rw [if_pos h1, if_pos ag]
 ·rw [if_neg h1];by_cases h2 : x / sz = v
  ·rw [if_pos h2, if_pos ag]
  ·rw [if_neg h2, if_neg ag];split <;> simp
theorem DZ : (mo ps ls sz N v t).length = N := by simp [mo]
theorem XT (h : x < N) : (mo ps ls sz N v t).getD x [] = vQ ps ls sz v t x := by
 unfold mo;rw [List.getD_eq_getElem?_getD, List.getElem?_map, List.getElem?_range h]; rfl
theorem arM (ht : t ≤ sz) : (vQ ps ls sz v t x).length ≤ sz := by
 unfold vQ;split
 ·exact Nat.le_trans (List.length_filter_le _ _) (by simp)
 ·split
  ·exact Nat.le_trans (List.length_filter_le _ _) (by simp; exact ht)
  ·simp
theorem arN {s : Nat} (hsz : 0 < sz) (hs : ng t (ls.getD v 0) ps = s) (hlt : s < sz) (hx : v * sz + s < N) : (mo ps ls sz N v t).set (v * sz + s) (vQ ps ls sz v t (v * sz + s) ++ [t]) = mo ps ls sz N v (t + 1) := by
 have hd : (v * sz + s) / sz = v := by rw [Nat.mul_comm, Nat.mul_add_div hsz, Nat.div_eq_of_lt hlt, Nat.add_zero]
 have hm : (v * sz + s) % sz = s := by rw [Nat.mul_comm, Nat.mul_add_mod, Nat.mod_eq_of_lt hlt]
 apply List.ext_getElem?
 intro y;by_cases hy : y < N
 ·rw [List.getElem?_set];have hr : (mo ps ls sz N v (t + 1))[y]? = some (vQ ps ls sz v (t + 1) y) := by unfold mo; rw [List.getElem?_map, List.getElem?_range hy]; rfl
  have hl : (mo ps ls sz N v t)[y]? = some (vQ ps ls sz v t y) := by unfold mo; rw [List.getElem?_map, List.getElem?_range hy]; rfl
  rw [hr, hl, DZ];by_cases e : v * sz + s = y
  ·rw [if_pos e, if_pos (e ▸ hy)];congr 1;subst e;unfold vQ;rw [hd, hm, if_neg (Nat.lt_irrefl _), if_pos rfl, if_neg (Nat.lt_irrefl _), if_pos rfl, List.range_succ, List.filter_append];congr 1;rw [List.filter_cons, hs];simp
  ·rw [if_neg e];congr 1;unfold vQ;by_cases h1 : y / sz < v
   ·rw [if_pos h1, if_pos h1]
   ·rw [if_neg h1, if_neg h1];by_cases h2 : y / sz = v
    ·rw [if_pos h2, if_pos h2, List.range_succ, List.filter_append];have h3 : y % sz ≠ s := fun k => e (by have := Nat.div_add_mod y sz; rw [h2, k, Nat.mul_comm] at this; exact this);rw [List.filter_cons, h2, hs];have : (s == y % sz) = false := by simp; exact fun k => h3 k.symm
     rw [this];simp
    ·rw [if_neg h2, if_neg h2]
 ·rw [List.getElem?_eq_none (by rw [List.length_set, DZ]; omega), List.getElem?_eq_none (by rw [DZ]; omega)]
end
def bH (ls ss : List Int) (nxs : List (List Int)) (s : ak) : PD :=
 ⟨ls, ss.map Int.toNat, nxs.map (fun l => l.map Int.toNat), s, 2 ^ az s, partsOf (bU s) 0, mo (partsOf (bU s) 0) ls (2 ^ az s) (2 ^ az s * ls.length) ls.length 0⟩
def gF (ls ss : List Int) (nxs : List (List Int)) (s : ak) : Int :=
 if ko ls ss nxs = 0 then (if bW s = 0 then (if 3000 < 2 ^ az s * ls.length then 7 else 0) else bW s) else ko ls ss nxs
theorem agj {α β : Type} (f : α → β) (l : List α) (d : α) (d' : β) (h : f d = d') (i : Nat) : (l.map f).getD i d' = f (l.getD i d) := by
 rw [List.getD_eq_getElem?_getD, List.getElem?_map, List.getD_eq_getElem?_getD];cases l[i]? with
 | none => exact h.symm
 | some x => rfl
theorem Cg {ls ss : List Int} {nxs : List (List Int)} {s : ak} (hg : F3 ls ss nxs) (hm : bW s = 0) : (bH ls ss nxs s).Ok := by
 have h8 := (kZ hm).2.2.1;have hp : (2 : Nat) ^ az s ≤ 2 ^ 8 := Nat.pow_le_pow_right ai h8;have hp1 : 1 ≤ (2 : Nat) ^ az s := Nat.one_le_two_pow;have hrow : ∀ v, v < ls.length → ∃ l, l ∈ nxs ∧ (nxs.map (fun l => l.map Int.toNat)).getD v [] = l.map Int.toNat := fun v hv => by
  have hv' : v < nxs.length := by rw [hg.nn]; exact hv
  refine ⟨nxs[v]'hv', List.getElem_mem hv', ?_⟩;rw [agj (fun l => l.map Int.toNat) nxs [] [] rfl, List.getD_eq_getElem?_getD, List.getElem?_eq_getElem hv']; rfl
 have hsl : ∀ x, x < 2 ^ az s * ls.length → (mo (partsOf (bU s) 0) ls (2 ^ az s) (2 ^ az s * ls.length) ls.length 0).getD x [] = (List.range (2 ^ az s)).filter (fun u => ng u (ls.getD (x / 2 ^ az s) 0) (partsOf (bU s) 0) == x % 2 ^ az s) := fun x hx => by
  rw [XT hx];unfold vQ;rw [if_pos (by rw [Nat.div_lt_iff_lt_mul ag, Nat.mul_comm]; exact hx)]
 constructor
 ·exact hg.n
 ·show (nxs.map _).length = ls.length;rw [List.length_map]; exact hg.nn
 ·exact hp1
 ·exact hp
 ·exact DZ
 ·intro v hv y hy;obtain ⟨l, hl, e⟩ := hrow v hv;rw [show (bH ls ss nxs s).nxs = nxs.map (fun l => l.map Int.toNat) from rfl, e] at hy;obtain ⟨a, ha, rfl⟩ := List.mem_map.1 hy;have := (hg.nx l hl).2.2 a ha;show a.toNat < ls.length;omega
 ·intro v hv;obtain ⟨l, hl, e⟩ := hrow v hv;rw [show (bH ls ss nxs s).nxs = nxs.map (fun l => l.map Int.toNat) from rfl, e, List.length_map];exact (hg.nx l hl).2.1
 ·intro x hx t ht;have hx' : x < 2 ^ az s * ls.length := by rw [← DZ (ps := partsOf (bU s) 0) (ls := ls) (sz := 2 ^ az s) (N := 2 ^ az s * ls.length) (v := ls.length) (t := 0)]; exact hx
  rw [show (bH ls ss nxs s).after = mo (partsOf (bU s) 0) ls (2 ^ az s) (2 ^ az s * ls.length) ls.length 0 from rfl, hsl x hx'] at ht;exact List.mem_range.1 (List.mem_filter.1 ht).1
 ·intro x hx;have hx' : x < 2 ^ az s * ls.length := by rw [← DZ (ps := partsOf (bU s) 0) (ls := ls) (sz := 2 ^ az s) (N := 2 ^ az s * ls.length) (v := ls.length) (t := 0)]; exact hx
  rw [show (bH ls ss nxs s).after = mo (partsOf (bU s) 0) ls (2 ^ az s) (2 ^ az s * ls.length) ls.length 0 from rfl, hsl x hx'];refine Nat.le_trans (List.length_filter_le _ _) ?_;rw [List.length_range]; exact hp
 ·intro v hv;obtain ⟨a, ha, rfl⟩ := List.mem_map.1 hv;have := hg.st a ha;show a.toNat < ls.length;omega
 ·show (ss.map _).length ≤ 200;rw [List.length_map]; exact hg.sl
 ·show (partsOf (bU s) 0).length ≤ 8;rw [DY, iW]; exact h8
theorem XU {α β : Type} {d : Kd α} {d' : Kd β} (f : α → β) (hs : d'.sz = d.sz) {w : World} {A : Option Addr} {n : Nat} {xs : List α} (h : Kd.C d w A n xs) (hk : ∀ x, x ∈ xs → ∀ c, d.K w x c → d'.K w (f x) c) : Kd.C d' w A n (xs.map f) := by
 obtain ⟨h1, h2, h3⟩ := h;refine ⟨by rw [List.length_map]; exact h1, h2, fun hn => ?_⟩;obtain ⟨ad, e, hc⟩ := h3 hn;refine ⟨ad, e, fun j p hj => ?_⟩;rw [List.getElem?_map] at hj;obtain ⟨x, hx, rfl⟩ := Option.map_eq_some_iff.1 hj;obtain ⟨c, c1, c2, c3⟩ := hc j x hx;exact ⟨c, by rw [hs]; exact c1, hk x (List.mem_of_getElem? hx) c c2, fun k u hu => by rw [hs]; exact c3 k u hu⟩
theorem agk {w : World} {A : Option Addr} {n : Nat} {xs : List Int} (h : Kd.C (Kd.int .i64) w A n xs) (h0 : ∀ x, x ∈ xs → 0 ≤ x) : Kd.C bD w A n (xs.map Int.toNat) := by
 refine XU Int.toNat rfl h (fun x hx c hc => ?_);have hc' : c = [Value.int .i64 x] := hc;show c = [xQ x.toNat];rw [hc'];unfold xQ;rw [Int.toNat_of_nonneg (h0 x hx)]
theorem arO {w : World} {A : Option Addr} {n : Nat} {xs : List (List Int)} (h : Kd.C (Kd.slice 3 (Kd.int .i64)) w A n xs) (h0 : ∀ l, l ∈ xs → ∀ x, x ∈ l → 0 ≤ x) : Kd.C (Kd.slice 3 bD) w A n (xs.map (fun l => l.map Int.toNat)) := by
 refine XU (d' := Kd.slice 3 bD) (fun l : List Int => l.map Int.toNat) rfl h (fun l hl c hc => ?_);obtain ⟨A', c', e, h1, h2⟩ := hc;refine ⟨A', c', by rw [List.length_map]; exact e, by rw [List.length_map]; exact h1, ?_⟩;have h3 := agk h2 (fun x hx => h0 l hl x hx);show Kd.C bD w A' (l.map Int.toNat).length (l.map Int.toNat);rw [List.length_map];exact h3
end Go.Proofs.YtapejnikpmfddaaGreat.X
