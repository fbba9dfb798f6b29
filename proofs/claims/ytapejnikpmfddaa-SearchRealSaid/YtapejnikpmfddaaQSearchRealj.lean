/- A part of the claim SearchReal. -/
import Derived.Outline
import Derived.Test.YtapejnikpmfddaaQSearchReali
set_option linter.unusedVariables false
set_option linter.unusedSimpArgs false
set_option maxHeartbeats 8000000
set_option maxRecDepth 100000
namespace Go.Proofs.Ytapejnikpmfddaa.X
open Go.RowKit Go.Proofs.YtapejnikpmfddaaW.PrintWords Go.Proofs.YtapejnikpmfddaaW.PrintLast Go.Proofs.YtapejnikpmfddaaW.PrintMore
open Go.Proofs.Ytapejnikpmfddaa.P Go.Proofs.Ytapejnikpmfddaa.Evx
theorem ents_put (E0 : List Ent) (e e' : Ent) (hx : e'.x = e.x) : ((E0 ++ [e]).flatMap entCells).set (E0.length * 2 + 1) (.slice e'.A e'.rest.length e'.cap) = (E0 ++ [e']).flatMap entCells := by
 rw [List.flatMap_append, List.flatMap_append, List.set_append_right _ _ (by rw [ents_len]; omega), ents_len, show E0.length * 2 + 1 - E0.length * 2 = 1 by omega]
 congr 1
 show [Value.int .i64 (e.x : Int), .slice e'.A e'.rest.length e'.cap] = [Value.int .i64 (e'.x : Int), .slice e'.A e'.rest.length e'.cap]
 rw [hx]
section
variable {ρ : Nat → Nat} {w0 W W1 : World} {a : At} {vs vc v1 : Value} {fo : Option Addr} {E : List Ent} {st : Sg.FS}
theorem IsF.goOn {g c : Nat} {E0 : List Ent} {e e' : Ent} (h : IsF ρ w0 W a vs (.slice (some ⟨g, 0, none⟩) (E0.length + 1) c) fo (E0 ++ [e]) st) (hx : e'.x = e.x) (he : EntOk ρ W e') {q : Nat × List Nat} {cs : List (Nat × List Nat)} (hcs : st.calls = q :: cs) (hE0 : E0.map (fun e => (e.x, e.rest)) = cs.reverse) :
  IsF ρ w0 (W.setCell ⟨g, E0.length * 2 + 1, none⟩ (.slice e'.A e'.rest.length e'.cap)) a vs (.slice (some ⟨g, 0, none⟩) (E0.length + 1) c) fo (E0 ++ [e']) { st with calls := (e'.x, e'.rest) :: cs } := by
 have h6 : ρ g = 6 := h.calls.role g rfl
 have hbg : w0.heap.size ≤ g := own_base h.calls.own g rfl
 have hk : Keep ρ 6 W (W.setCell ⟨g, E0.length * 2 + 1, none⟩ (.slice e'.A e'.rest.length e'.cap)) := .set h6 _ _
 have hl : (E0 ++ [e]).length = E0.length + 1 := by simp
 have hl' : (E0 ++ [e']).length = E0.length + 1 := by simp
 have ho := h.calls.own
 rw [hl] at ho
 have hs := (ho.stored (E0.length * 2 + 1) (.slice e'.A e'.rest.length e'.cap)).1
 rw [ents_put E0 e e' hx] at hs
 refine ⟨h.bel.setCell hbg _, (hk.block _ h.lt (by rw [h.rg]; decide)).trans h.blk, h.rg, h.bg, R_keepR h.nums hk (by decide), R_keepR h.lows hk (by decide), R_keepR h.on hk (by decide), R_keepR h.stk hk (by decide), ⟨by rw [hl']; exact hs, h.calls.role, fun q hq => ?_⟩, ?_, h.fnd.keep hk (by decide)⟩
 ·rcases List.mem_append.1 hq with k | k
  ·exact (h.calls.ents q (List.mem_append_left _ k)).keep hk (by decide)
  ·rw [List.mem_singleton.1 k]; exact he.keep hk (by decide)
 ·rw [List.map_append, hE0]; simp
end
theorem ent_tail {ρ : Nat → Nat} {W : World} {e : Ent} {y : Nat} {r : List Nat} (h : EntOk ρ W e) (hr : e.rest = y :: r) (hu : Try.prog.underlying 23 = some (.slice 3)) : ∃ ad : Addr, e.A = some ad ∧ W.cell? ad = some (.int .i64 (y : Int)) ∧ ∃ A' c', EntOk ρ W ⟨e.x, A', c', r⟩ ∧ ∀ w : World, (Instr.slice 23 (.slice (some ad) (r.length + 1) e.cap) (some (.int .i64 1)) none none).run Try.prog w = .ok (.slice A' r.length c') w := by
 obtain ⟨x, A, cap, rest⟩ := e
 simp only at hr
 subst hr
 obtain ⟨hc, hrd, hro⟩ := h
 simp only [List.length_cons] at hc hrd hro
 obtain ⟨ad, rfl, hcell⟩ := nat_at hrd (j := 0) (by omega)
 rw [show ad.add 0 = ad by simp [Addr.add]] at hcell
 obtain ⟨i, hi, hz, hs, hb⟩ := info_parts infoI
 have hcut := cut_from (P := Try.prog) 23 3 .i64 hu hi 1 hs (some ad) (r.length + 1) cap 1 (by omega) (by omega)
 have hd := Kd.C_drop (k := natK) (m := 1) (xs := y :: r) (A := some ad) (c := cap) hrd (by simp) (by simpa using hc)
 refine ⟨ad, rfl, hcell, if cap = 1 then some ad else (some ad).map (·.add 1), cap - 1, ⟨by simp only; omega, hd, fun ad' ha hp => ?_⟩, fun w => ?_⟩
 ·obtain ⟨h1, h2⟩ := hro ad rfl (by omega)
  simp only at ha hp
  split at ha
  ·cases ha; exact ⟨h1, h2⟩
  ·simp only [Option.map_some, Option.some.injEq] at ha
   have hb' : (ad.add 1).block = ad.block := by unfold Addr.add; split <;> rfl
   rw [← ha, hb']
   exact ⟨h1, h2⟩
 ·rw [hcut w]
  simp
theorem step_walk (p : PD) (ρ : Nat → Nat) (w0 W : World) (a : At) (vs vc : Value) (fo : Option Addr) (E : List Ent) (st : Sg.FS) (x : Nat) (r : List Nat) (cs : List (Nat × List Nat)) (frm : List Nat) (h : IsF ρ w0 W a vs vc fo E st) (hP : IsProd w0 a.pg p) (hok : p.Ok) (haN : a.N = p.N) (hI : Sg.Inv p.next p.N p.P p.good frm (fun _ => False) st) (hc : st.calls = (x, r) :: cs) (hE : E.length < 900000) (hm : st.met < 1000000) (hsl : st.stk.length < 1000000) :
  Calls Try.prog 63 #[.pointer (some ⟨a.g, 0, none⟩)] W fun e W' => e = .returned (.tuple #[]) ∧ ∃ ρ' vs' vc' fo' E', IsF ρ' w0 W' a vs' vc' fo' E' (Sg.stepF p.next (Sg.settF p.next p.P p.good) st) := by
 have hui := Try.underlying23
 have hub := Try.underlying67
 have huF := Try.underlying103
 have huV := Try.underlying101
 have huv := Try.underlying123
 obtain ⟨E0, e0, eE, hex, her, hE0⟩ := ents_snoc (by rw [← hc]; exact h.cs)
 subst eE
 obtain ⟨bc, cc, e, hcc, hrc, hbc⟩ := h.calls.form (by simp)
 subst e
 have hn1 : (E0 ++ [e0]).length = E0.length + 1 := by simp
 have hcl := h.calls
 obtain ⟨c0, c1, fz⟩ := hcl.cells
 have hxN : x < a.N := by rw [haN]; exact hI.lt (hI.sv x (hI.cs x (by rw [hc]; exact List.mem_cons_self ..)))
 have hxl : (x : Int) < (a.N : Int) := by omega
 have k6 := h.c6
 rw [hn1] at k6 hcc hE
 rw [hex] at c0
 simp only at hex her
 have hent := h.calls.ents e0 (List.mem_append_right _ (List.mem_singleton_self _))
 have H := Zd.mk h
 have HI := Zd.mk hI
 have HC := Zd.mk hc
 have HP := Zd.mk hP
 have HOK := Zd.mk hok
 have HAN := Zd.mk haN
 have HE0 := Zd.mk hE0
 have HM := Zd.mk hm
 have HEL := Zd.mk hE
 clear h hI hc hP hok haN hE0 hcl hn1 hm
 cases r with
 | nil =>
  rw [her] at c1
  have HST := Zd.mk (show Sg.stepF p.next (Sg.settF p.next p.P p.good) st = Sg.leaveF (Sg.settF p.next p.P p.good) st x cs from by unfold Sg.stepF; rw [HC.out])
  have HLV := Zd.mk (fun W1 (hb : Below W.heap.size W W1) => leave_walk p ρ w0 W1 a vs _ fo (E0 ++ [e0]) st x cs frm (H.out.below hb) HP.out HOK.out HAN.out HI.out HC.out (by have := HEL.out; simp; omega) hsl)
  clear hent
  generalize hk : E0.length = k at *
  clear hk HE0 H
  go_enter Try.func63, Try.ntmps63
  go_wp2
  go_quiet (fail)
  have hB := pd_ (Below.refl W.heap.size W) nq
  have c0a := pb_ hB c0
  have c1a := pb_ hB c1
  have HL2 := Zd.mk (HLV.out _ hB)
  generalize W.drewN nq = W2 at *
  clear hB c0 c1 k6
  go_wp2_with (go_at_call 88; refine HL2.out.mono ?_; rintro e w9 ⟨rfl, hIF⟩; have HIF := Zd.mk hIF; clear hIF)
  refine bodyPost_ret (results_none rfl _ _ _) rfl ?_
  obtain ⟨ρ', vs', vc', fo', E', h⟩ := HIF.out
  exact ⟨rfl, _, _, _, _, _, h.to HST.out⟩
 | cons y r =>
  obtain ⟨ad, hA, hy, A', c', hent', hcut⟩ := ent_tail hent her hui
  rw [her, hA] at c1
  rw [hex] at hent'
  have hyN : y < a.N := by
   rw [HAN.out]
   obtain ⟨pre, e1, _⟩ := HI.out.rest (x, y :: r) (by rw [HC.out]; exact List.mem_cons_self ..)
   exact HOK.out.next_lt (x := x) (by rw [← HAN.out]; exact hxN) (by rw [e1]; simp)
  have hyl : (y : Int) < (a.N : Int) := by omega
  obtain ⟨st1, hst1⟩ : ∃ s : Sg.FS, s = { st with calls := (x, r) :: cs } := ⟨_, rfl⟩
  have HGO := Zd.mk (fun W1 (hb : Below W.heap.size W W1) => show IsF ρ w0 (W1.setCell ⟨bc, E0.length * 2 + 1, none⟩ (.slice A' r.length c')) a vs (.slice (some ⟨bc, 0, none⟩) (E0.length + 1) cc) fo (E0 ++ [⟨x, A', c', r⟩]) st1 from by
   have h1 := H.out.below hb
   rw [show (E0 ++ [e0]).length = E0.length + 1 by simp] at h1
   have := h1.goOn (e' := ⟨x, A', c', r⟩) hex.symm (hent'.keep (r := 0) (.below hb) (by decide)) HC.out HE0.out
   rw [hst1]
   exact this)
  have HST := Zd.mk (show Sg.stepF p.next (Sg.settF p.next p.P p.good) st = if st1.nums.getD y 0 = 0 then Sg.enterF p.next st1 y else if st1.on.getD y false = true then { st1 with lows := st1.lows.set x (min (st1.lows.getD x 0) (st1.nums.getD y 0)) } else st1 from by unfold Sg.stepF; rw [HC.out, hst1])
  have HM1 := Zd.mk (show st1.met < 1000000 by rw [hst1]; exact HM.out)
  have HS1 := Zd.mk (show st1.stk.length < 1000000 by rw [hst1]; exact hsl)
  have HL1 := Zd.mk (show (E0 ++ [(⟨x, A', c', r⟩ : Ent)]).length < 1000000 by have := HEL.out; simp; omega)
  have HFZ := Zd.mk (fun W1 (hb : Below W.heap.size W W1) => ((H.out.below hb).calls.cells).2.2 (E0.length * 2 + 1))
  clear hent hent' hex her hA H hst1
  generalize hk : E0.length = k at *
  have HC1 := Zd.mk (fun W1 (hb : Below W.heap.size W W1) => pb_ hb c1)
  clear hk HE0
  have hrl : ¬ ((r.length : Int) + 1 = 0) := by omega
  go_enter Try.func63, Try.ntmps63
  go_wp2
  go_quiet (fail)
  have hB := pd_ (Below.refl W.heap.size W) nq
  have c0a := pb_ hB c0
  have c1a := pb_ hB c1
  have ya := pb_ hB hy
  have HG2 := Zd.mk (HGO.out _ hB)
  have fza := HFZ.out _ hB
  generalize W.drewN nq = W2 at *
  clear hB c0 c1 k6 HGO hy HC1 HFZ
  go_upto_block 0 with fail
  obtain ⟨W3, hW3⟩ : ∃ W : World, W = W2.setCell ⟨bc, k * 2 + 1, none⟩ (.slice A' r.length c') := ⟨_, rfl⟩
  rw [← hW3] at HG2 ⊢
  have c0b : W3.cell? ⟨bc, k * 2, none⟩ = some (.int .i64 (x : Int)) := by rw [hW3]; exact (World.cell?_setCell_other _ _ _ _ (by simp)).trans c0a
  have k1 := HG2.out.c1
  have k2 := HG2.out.c2
  have k3 := HG2.out.c3
  obtain ⟨z1, _⟩ := natK_cell HG2.out.nums hyN
  obtain ⟨z3, _⟩ := boolK_cell HG2.out.on hyN
  obtain ⟨z2, _⟩ := natK_cell HG2.out.lows hxN
  clear c0a c1a ya fza hW3 hcut
  have HEN := Zd.mk (fun W1 (hb : Below W3.heap.size W3 W1) => enter_walk p ρ w0 W1 a vs _ fo (E0 ++ [⟨x, A', c', r⟩]) st1 y (HG2.out.below hb) HP.out HOK.out HAN.out (by rw [← HAN.out]; exact hyN) HM1.out HS1.out HL1.out)
  have HSL := Zd.mk (fun W1 (hb : Below W3.heap.size W3 W1) (m : Nat) => (HG2.out.below hb).setLow x m)
  have HFL := Zd.mk (fun W1 (hb : Below W3.heap.size W3 W1) => (natK_cell (HG2.out.below hb).lows hxN).2)
  by_cases h0 : st1.nums.getD y 0 = 0
  ·have HST0 := Zd.mk (HST.out.trans (if_pos h0))
   rw [h0] at z1
   clear h0
   generalize st1.on.getD y false = o1 at *
   generalize st1.lows.getD x 0 = n2 at z2
   go_wp2_with (go_at_call 64; refine (HEN.out _ (Below.refl _ _)).mono ?_; rintro e w9 ⟨rfl, hIF⟩; have HIF := Zd.mk hIF; clear hIF)
   go_end0
   obtain ⟨ρ', vs', vc', E', h⟩ := HIF.out
   exact ⟨rfl, _, _, _, _, _, h.to HST0.out⟩
  ·have HST0 := Zd.mk (HST.out.trans (if_neg h0))
   have h0i : ¬ ((st1.nums.getD y 0 : Nat) : Int) = 0 := by omega
   have h0' : 0 < st1.nums.getD y 0 := by omega
   obtain ⟨n1, hn1⟩ : ∃ n, n = st1.nums.getD y 0 := ⟨_, rfl⟩
   obtain ⟨n2, hn2⟩ : ∃ n, n = st1.lows.getD x 0 := ⟨_, rfl⟩
   obtain ⟨o1, ho1⟩ : ∃ n, n = st1.on.getD y false := ⟨_, rfl⟩
   rw [← hn1] at z1 h0i HST0
   rw [← hn2] at z2 HST0
   rw [← ho1] at z3 HST0
   have h0n : ¬ n1 = 0 := by omega
   clear h0 h0' hn1 hn2 ho1 h0i
   cases o1
   ·go_wp2
    all_goals (
     go_end0
     exact ⟨rfl, _, _, _, _, _, HG2.out.to (HST0.out.trans (if_neg (by decide)))⟩)
   ·have HSTm := Zd.mk (HST0.out.trans (if_pos rfl))
    have hB1 : Below W3.heap.size W3 W3.drew := below_drew1 (Below.refl _ _)
    have f2 := HFL.out _ hB1
    have z2b := pb_ hB1 z2
    go_upto_region 8 with fail
    by_cases hmn : n1 < n2
    ·have hmi : ((n1 : Nat) : Int) < (n2 : Int) := by omega
     have hmj : ¬ ((n2 : Nat) : Int) < (n1 : Int) := by omega
     have hme : min n2 n1 = n1 := by omega
     rw [hme] at HSTm
     have HS2 := Zd.mk (HSL.out _ hB1 n1)
     clear hme hB1 hmn
     go_still_tail 26, (by kernel_rfl)
     change wpList _ _ _ _ _ W3.drew
     generalize W3.drew = W4 at *
     go_wp2
     go_end0
     exact ⟨rfl, _, _, _, _, _, HS2.out.to HSTm.out⟩
    ·have hmi : ¬ ((n1 : Nat) : Int) < (n2 : Int) := by omega
     have hme : min n2 n1 = n2 := by omega
     rw [hme] at HSTm
     have HS2 := Zd.mk (HSL.out _ hB1 n2)
     clear hme hB1 hmn
     go_still_tail 26, (by kernel_rfl)
     change wpList _ _ _ _ _ W3.drew
     generalize W3.drew = W4 at *
     go_wp2
     go_end0
     exact ⟨rfl, _, _, _, _, _, HS2.out.to HSTm.out⟩
def sst.T2 : Bool × List (List Nat × List Nat) := (true, [([], []), ([], []), ([1, 1], [1]), ([], []), ([3, 3], [3]), ([], []), ([5, 5], [5]), ([0, 2, 4, 6], [0, 2, 4, 6]), ([7], [7]), ([8, 0, 1, 2, 3, 4, 5, 6, 7, 8], [8])])
def sst.B2 : List Nat := [0, 0, 2, 0, 8, 0, 32, 127, 255, 511]
theorem sst.tab2 : rtab .any (opsOf Try.f46 2) = sst.T2 := by kernel_rfl
theorem sst.bits2 : waitsOk sst.T2.2 sst.B2 = true := by kernel_rfl
def Lay (W w : World) (g : Nat) (cs : Array Value) (t : TypeId) : Prop := W.heap.size ≤ g ∧ w.heap[g]? = some (.cells cs t (0, 0))
section
variable {W w w1 : World} {g p : Nat} {cs : Array Value} {t : TypeId}
theorem Lay.alloc (h : Lay W w g cs t) (o : Obj) : Lay W (w.alloc o) g cs t := ⟨h.1, ba_ h.2 o⟩
theorem Lay.below (h : Lay W w g cs t) (hB : Below w.heap.size w w1) : Lay W w1 g cs t := ⟨h.1, (hB.block _ (blk_lt h.2)).trans h.2⟩
theorem Lay.new (hB : Below W.heap.size W w) (cs : Array Value) (t : TypeId) : Lay W (w.alloc (.cells cs t)) w.heap.size cs t := ⟨hB.size, heap_alloc_new w _⟩
theorem Lay.ne_new (h : Lay W w g cs t) : w.heap.size ≠ g := by have := blk_lt h.2; omega
end
theorem natK_laid {W w : World} {g n : Nat} {ok : Nat → Prop} (h : Lay W w g ⟨List.replicate n (Value.int .i64 0)⟩ 3) (hn : n < 1000000000) (hok : ok g) : Kd.R natK 3 w W.heap.size ok (.slice (some ⟨g, 0, none⟩) n n) (List.replicate n 0) := by
 refine Kd.R_of_own (enc := natV) (h1 := fun _ => rfl) ⟨by simp [encs], .inr ⟨g, n, _, by rw [List.length_replicate], h.1, h.2, by simp, by simp only [maxLen]; omega, by simp, ?_⟩⟩ (fun k hk => by simp [Value.ownBlock] at hk; rw [← hk]; exact hok)
 simp [encs, natV]
theorem boolK_laid {W w : World} {g n : Nat} {ok : Nat → Prop} (h : Lay W w g ⟨List.replicate n (Value.bool false)⟩ 4) (hn : n < 1000000000) (hok : ok g) : Kd.R Kd.bool 4 w W.heap.size ok (.slice (some ⟨g, 0, none⟩) n n) (List.replicate n false) := by
 refine Kd.R_of_own (enc := Value.bool) (h1 := fun _ => rfl) ⟨by simp [encs], .inr ⟨g, n, _, by rw [List.length_replicate], h.1, h.2, by simp, by simp only [maxLen]; omega, by simp, ?_⟩⟩ (fun k hk => by simp [Value.ownBlock] at hk; rw [← hk]; exact hok)
 simp [encs]
def role0 (g8 g2 g4 g6 : Nat) : Nat → Nat := fun k => if k = g8 then 4 else if k = g2 then 1 else if k = g4 then 2 else if k = g6 then 3 else 0
theorem fin_new {w0 W : World} {pg nn g2 g4 g6 g8 : Nat} (hb : Below w0.heap.size w0 W) (hn : nn < 1000000000) (h2 : Lay w0 W g2 ⟨List.replicate nn (Value.int .i64 0)⟩ 3) (h4 : Lay w0 W g4 ⟨List.replicate nn (Value.int .i64 0)⟩ 3) (h6 : Lay w0 W g6 ⟨List.replicate nn (Value.bool false)⟩ 4)
  (h8 : Lay w0 W g8 #[.pointer (some ⟨pg, 0, none⟩), .slice (some ⟨g2, 0, none⟩) nn nn, .slice (some ⟨g4, 0, none⟩) nn nn, .slice (some ⟨g6, 0, none⟩) nn nn, .int .i64 0, .slice none 0 0, .slice none 0 0, .pointer none] 103)
  (n24 : g2 ≠ g4) (n26 : g2 ≠ g6) (n28 : g2 ≠ g8) (n46 : g4 ≠ g6) (n48 : g4 ≠ g8) (n68 : g6 ≠ g8) : IsF (role0 g8 g2 g4 g6) w0 W ⟨nn, pg, g8, g2, g4, g6⟩ (.slice none 0 0) (.slice none 0 0) none [] (Sg.fs0 nn) := by
 refine ⟨hb, h8.2, if_pos rfl, h8.1, natK_laid h2 hn ?_, natK_laid h4 hn ?_, boolK_laid h6 hn ?_, Kd.R_nil _ _ _ _ _, ⟨World.ownsRow_nil _ _ _ _, fun k hk => by simp [Value.ownBlock] at hk, fun e he => by cases he⟩, rfl, trivial⟩
 ·show role0 g8 g2 g4 g6 g2 = 1
  unfold role0; rw [if_neg n28, if_pos rfl]
 ·show role0 g8 g2 g4 g6 g4 = 2
  unfold role0; rw [if_neg n48, if_neg (Ne.symm n24), if_pos rfl]
 ·show role0 g8 g2 g4 g6 g6 = 3
  unfold role0; rw [if_neg n68, if_neg (Ne.symm n26), if_neg (Ne.symm n46), if_pos rfl]
end Go.Proofs.Ytapejnikpmfddaa.X
namespace Go.Proofs.Ytapejnikpmfddaa.Sg
theorem nodupN_le : ∀ (N : Nat) (l : List Nat), l.Nodup → (∀ x, x ∈ l → x < N) → l.length ≤ N
 | 0, l, _, h => by
  cases l with
  | nil => exact Nat.le_refl _
  | cons x r => exact absurd (h x (List.mem_cons_self ..)) (Nat.not_lt_zero _)
 | N + 1, l, hd, h => by
  by_cases hN : N ∈ l
  ·have h1 := nodupN_le N (l.erase N) (hd.erase N) (fun x hx => by
    have h2 := h x (List.mem_of_mem_erase hx)
    have h3 : x ≠ N := fun e => by
     rw [e] at hx
     exact hd.not_mem_erase hx
    omega)
   rw [List.length_erase_of_mem hN] at h1
   omega
  ·have h1 := nodupN_le N l hd (fun x hx => by
    have h2 := h x hx
    have h3 : x ≠ N := fun e => hN (e ▸ hx)
    omega)
   omega
theorem pair_nodup {α : Type} {f : α → Nat} {l : List α} (h : l.Pairwise (fun a b => f b < f a)) : l.Nodup :=
 h.imp (fun hab e => by rw [e] at hab; exact absurd hab (Nat.lt_irrefl _))
section
variable {nx : Nat → List Nat} {N P : Nat} {good : Nat → Nat → Bool} {frm : List Nat} {ex : Nat → Prop} {st : FS}
theorem Inv.stk_len (h : Inv nx N P good frm ex st) : st.stk.length ≤ N := nodupN_le N _ (pair_nodup (f := fun v => st.nums.getD v 0) h.ss) (fun x hx => h.lt (h.sv x hx))
theorem Inv.calls_len (h : Inv nx N P good frm ex st) : st.calls.length ≤ N := by
 have := nodupN_le N _ (pair_nodup (f := fun v => st.nums.getD v 0) h.cp) (fun x hx => h.lt (h.sv x (h.cs x hx)))
 rwa [List.length_map] at this
end
def MetOk (st : FS) : Prop := st.met ≤ st.nums.countP (fun x => decide (x ≠ 0))
theorem MetOk.le {st : FS} (h : MetOk st) : st.met ≤ st.nums.length := Nat.le_trans h (List.countP_le_length ..)
theorem metOk0 (N : Nat) : MetOk (fs0 N) := Nat.zero_le _
theorem MetOk.enter {st : FS} (h : MetOk st) (nx : Nat → List Nat) {y : Nat} (hy : y < st.nums.length) (h0 : st.nums.getD y 0 = 0) : MetOk (enterF nx st y) := by
 unfold MetOk enterF
 simp only
 rw [List.countP_set hy]
 have e : st.nums[y] = 0 := by rw [← h0, List.getD_eq_getElem?_getD, List.getElem?_eq_getElem hy]; rfl
 rw [e]
 unfold MetOk at h
 simp
 simpa using h
theorem MetOk.of {st s2 : FS} (h : MetOk st) (hm : s2.met = st.met) (hn : s2.nums = st.nums) : MetOk s2 := by unfold MetOk; rw [hm, hn]; exact h
theorem MetOk.step {st : FS} (h : MetOk st) {nx : Nat → List Nat} {sett : List Bool → List Nat → Bool} (hy : ∀ x y r cs, st.calls = (x, y :: r) :: cs → y < st.nums.length) : MetOk (stepF nx sett st) := by
 unfold stepF
 split
 ·exact h
 ·unfold leaveF
  split
  ·exact h.of rfl rfl
  ·exact h.of rfl rfl
 ·rename_i x y r cs hc
  split
  ·rename_i h0
   exact MetOk.enter (st := { st with calls := (x, r) :: cs }) (h.of rfl rfl) nx (hy x y r cs hc) h0
  ·split
   ·exact h.of rfl rfl
   ·exact h.of rfl rfl
theorem Inv.rest_lt {nx : Nat → List Nat} {N P : Nat} {good : Nat → Nat → Bool} {frm : List Nat} {ex : Nat → Prop} {st : FS} (h : Inv nx N P good frm ex st) (hnx : ∀ x, x < N → ∀ y, y ∈ nx x → y < N) : ∀ x y r cs, st.calls = (x, y :: r) :: cs → y < st.nums.length := by
 intro x y r cs hc
 obtain ⟨pre, e1, _⟩ := h.rest (x, y :: r) (by rw [hc]; exact List.mem_cons_self ..)
 have hx : x < N := h.lt (h.sv x (h.cs x (by rw [hc]; exact List.mem_cons_self ..)))
 rw [h.ln]
 exact hnx x hx y (by rw [e1]; simp)
end Go.Proofs.Ytapejnikpmfddaa.Sg
namespace Go.Proofs.Ytapejnikpmfddaa.X
open Go.RowKit Go.Proofs.YtapejnikpmfddaaW.PrintWords Go.Proofs.YtapejnikpmfddaaW.PrintLast Go.Proofs.YtapejnikpmfddaaW.PrintMore
open Go.Proofs.Ytapejnikpmfddaa.P Go.Proofs.Ytapejnikpmfddaa.Evx
def CompOk (w : World) (fo : Option Addr) (o : Option (List Bool)) : Prop :=
 match o, fo with
 | none, none => True
 | some cb, some a => ∃ gc, a = ⟨gc, 0, none⟩ ∧ IsComp w gc cb
 | _, _ => False
theorem FndOk.comp {ρ : Nat → Nat} {W : World} {fo : Option Addr} {f : Option (List Bool)} (h : FndOk ρ W fo f) : CompOk W fo f := by
 match f, fo, h with
 | none, none, _ => trivial
 | some c, some a, ⟨gc, e, A, k, h1, h2, _⟩ => exact ⟨gc, e, A, k, h1, h2⟩
structure SetAt (p : PD) (w0 W : World) (a : At) (l : List Nat) (st : Sg.FS) : Prop where
 mem : ∃ ρ vs vc fo E, IsF ρ w0 W a vs vc fo E st
 inv : Sg.Inv p.next p.N p.P p.good l (fun _ => False) st
 met : Sg.MetOk st
theorem SetAt.met_lt {p : PD} {w0 W : World} {a : At} {l : List Nat} {st : Sg.FS} (h : SetAt p w0 W a l st) (hok : p.Ok) : st.met ≤ 51200 ∧ st.stk.length ≤ 51200 ∧ st.calls.length ≤ 51200 := by
 have h1 := hok.N_le
 have h2 := h.met.le
 rw [h.inv.ln] at h2
 exact ⟨by omega, Nat.le_trans h.inv.stk_len h1, Nat.le_trans h.inv.calls_len h1⟩
theorem IsF.lenE {ρ : Nat → Nat} {w0 W : World} {a : At} {vs vc : Value} {fo : Option Addr} {E : List Ent} {st : Sg.FS} (h : IsF ρ w0 W a vs vc fo E st) : E.length = st.calls.length := by
 have := congrArg List.length h.cs
 simpa using this
theorem drop_consN {l : List Nat} {i : Nat} (h : i < l.length) : l.drop i = l.getD i 0 :: l.drop (i + 1) := drop_cons h
theorem roots_skip (nx : Nat → List Nat) (sett : List Bool → List Nat → Bool) (N x : Nat) (r : List Nat) (st : Sg.FS) (h : 0 < st.nums.getD x 0) : Sg.rootsF nx sett N (x :: r) st = Sg.rootsF nx sett N r st := by
 rw [Sg.rootsF, if_pos h]
theorem roots_run (nx : Nat → List Nat) (sett : List Bool → List Nat → Bool) (N x : Nat) (r : List Nat) (st : Sg.FS) (h : st.nums.getD x 0 = 0) {s1 : Sg.FS} (h1 : s1 = Sg.runF nx sett (Sg.mu nx N (Sg.enterF nx st x)) (Sg.enterF nx st x)) : Sg.rootsF nx sett N (x :: r) st = match s1.found with | some c => some c | none => Sg.rootsF nx sett N r s1 := by
 subst h1
 rw [Sg.rootsF, if_neg (by omega)]
 cases (Sg.runF nx sett (Sg.mu nx N (Sg.enterF nx st x)) (Sg.enterF nx st x)).found <;> rfl
theorem settled_walk (p : PD) (pg : Nat) (A : Option Addr) (c : Nat) (l : List Nat) (W2 : World) (hP : IsProd W2 pg p) (hok : p.Ok) (hr : Kd.C natK W2 A l.length l) (hl : ∀ x, x ∈ l → x < p.N) (hll : l.length < 1000000) :
  Calls Try.prog 46 #[.pointer (some ⟨pg, 0, none⟩), .slice A l.length c] W2 fun e w' => Below W2.heap.size W2 w' ∧ ∃ fo, e = .returned (.pointer fo) ∧ CompOk w' fo (Sg.settledF p.next (Sg.settF p.next p.P p.good) p.N l) := by
 have hui := Try.underlying23
 have hub := Try.underlying67
 have huF := Try.underlying103
 have huP := Try.underlying79
 obtain ⟨A0, A1, A2, A5, A7, A8, c0, c1, c2, c5, c7, c8, h'⟩ := id hP
 have q8 := h'.q8
 have han : p.after.length = p.N := hok.al
 obtain ⟨nn, hnn⟩ : ∃ n, n = p.N := ⟨_, rfl⟩
 rw [han, ← hnn] at q8
 have hn9 : nn < 1000000 := by rw [hnn]; have := hok.N_le; omega
 have hmkI := fun W : World => print_make_of (P := Try.prog) 23 3 (.int .i64 0) 8 Try.underlying23 infoI rfl (by decide) nn (by omega) W
 have hmi : madeCells #[Value.int .i64 0] nn = ⟨List.replicate nn (Value.int .i64 0)⟩ := by
  apply Array.ext
  ·simp [madeCells]
  ·intro i h1 h2
   simp [madeCells, Nat.mod_one]
 simp only [hmi] at hmkI
 have hmkB : ∀ W : World, (Instr.makeSlice 67 (.int .i64 (nn : Int)) (.int .i64 (nn : Int))).run Try.prog W = .ok (.slice (some ⟨W.heap.size, 0, none⟩) nn nn) (W.alloc (.cells ⟨List.replicate nn (Value.bool false)⟩ 4)) := make_rep nn (by omega)
 have HP := Zd.mk hP
 have HOK := Zd.mk hok
 have HR := Zd.mk hr
 have HL := Zd.mk hl
 have HNN := Zd.mk hnn
 clear hP hok hr hl h' han hnn hmi
 have BW := Zd.mk (below_drew1 (Below.refl W2.heap.size W2))
 obtain ⟨sett, hsett⟩ : ∃ f, f = Sg.settF p.next p.P p.good := ⟨_, rfl⟩
 have HST := Zd.mk hsett
 rw [← hsett]
 clear hsett
 go_enter Try.func46, Try.ntmps46
 go_upto_region 2 with fail
 refine start_ (n := 10) (S := fun w' => True) (ds := []) Mk167_ (by kernel_rfl) rfl rfl trivial (fun hHeld => ?_)
 refine with_tabW sst.tab2 sst.bits2 (fun HT_ HW_ => ?_)
 refine inv_at [0, 1, 2, 3, 4, 5, 6, 7, 8, 9] (fun a0_ b a w' => ∃ (g2 : Nat) (g4 : Nat) (g6 : Nat) (g8 : Nat) (m2_ : Value) (m4_ : Value) (m6_ : Value) (m7_ : Value) (m8_ : Value) (m9_ : Value), a = putSel a0_ b [(0, 15, .pointer (some ⟨pg, 0, none⟩)), (1, 16, .int .i64 (nn : Int)), (2, 17, m2_), (3, 18, .int .i64 (nn : Int)), (4, 19, m4_), (5, 20, .int .i64 (nn : Int)), (6, 21, m6_), (7, 22, m7_), (8, 23, m8_), (9, 6, m9_)] ∧ (Below W2.heap.size W2 w') ∧ (b 2 = true → Lay W2 w' g2 ⟨List.replicate nn (Value.int .i64 0)⟩ 3) ∧ (b 4 = true → Lay W2 w' g4 ⟨List.replicate nn (Value.int .i64 0)⟩ 3) ∧ (b 6 = true → Lay W2 w' g6 ⟨List.replicate nn (Value.bool false)⟩ 4) ∧ (b 8 = true → Lay W2 w' g8 #[.pointer (some ⟨pg, 0, none⟩), .slice (some ⟨g2, 0, none⟩) nn nn, .slice (some ⟨g4, 0, none⟩) nn nn, .slice (some ⟨g6, 0, none⟩) nn nn, .int .i64 0, .slice none 0 0, .slice none 0 0, .pointer none] 103) ∧ (b 2 = true → b 4 = true → g2 ≠ g4) ∧ (b 2 = true → b 6 = true → g2 ≠ g6) ∧ (b 2 = true → b 8 = true → g2 ≠ g8) ∧ (b 4 = true → b 6 = true → g4 ≠ g6) ∧ (b 4 = true → b 8 = true → g4 ≠ g8) ∧ (b 6 = true → b 8 = true → g6 ≠ g8) ∧ (b 2 = true → (m2_ : Value) = .slice (some ⟨g2, 0, none⟩) nn nn) ∧ (b 4 = true → (m4_ : Value) = .slice (some ⟨g4, 0, none⟩) nn nn) ∧ (b 6 = true → (m6_ : Value) = .slice (some ⟨g6, 0, none⟩) nn nn) ∧ (b 7 = true → (m7_ : Value) = .agg #[.pointer (some ⟨pg, 0, none⟩), .slice (some ⟨g2, 0, none⟩) nn nn, .slice (some ⟨g4, 0, none⟩) nn nn, .slice (some ⟨g6, 0, none⟩) nn nn, .int .i64 0, .slice none 0 0, .slice none 0 0, .pointer none]) ∧ (b 8 = true → (m8_ : Value) = .pointer (some ⟨g8, 0, none⟩)) ∧ (b 9 = true → (m9_ : Value) = .pointer (some ⟨g8, 0, none⟩))) HT_.out HW_.out (by kernel_rfl) (by kernel_rfl) ?_ ?_ ?_
 ·exact ⟨0, 0, 0, 0, .bool false, .bool false, .bool false, .bool false, .bool false, .bool false, by simp only [putSel, Bool.false_eq_true, if_false], BW.out, fun h_ => absurd h_ (by decide), fun h_ => absurd h_ (by decide), fun h_ => absurd h_ (by decide), fun h_ => absurd h_ (by decide), fun h_ => absurd h_ (by decide), fun h_ => absurd h_ (by decide), fun h_ => absurd h_ (by decide), fun h_ => absurd h_ (by decide), fun h_ => absurd h_ (by decide), fun h_ => absurd h_ (by decide), fun h_ => absurd h_ (by decide), fun h_ => absurd h_ (by decide), fun h_ => absurd h_ (by decide), fun h_ => absurd h_ (by decide), fun h_ => absurd h_ (by decide), fun h_ => absurd h_ (by decide)⟩
 ·skip
  clear BW
  refine steps_cons ?_ ?_
  ·rintro b a w' ⟨g2, g4, g6, g8, m2_, m4_, m6_, m7_, m8_, m9_, ha, Q_BW, Q_R2, Q_R4, Q_R6, Q_R8, Q_N2_4, Q_N2_6, Q_N2_8, Q_N4_6, Q_N4_8, Q_N6_8, Q_X2_, Q_X4_, Q_X6_, Q_X7_, Q_X8_, Q_X9_⟩ hb_ hon hoff
   refine ⟨_, rfl, fun K hK => ?_⟩
   have e0 : a.tmps[0]? = some (.pointer (some ⟨pg, 0, none⟩)) := by rw [ha]; exact (putSel_off rfl).trans rfl
   replace ha := Zd.mk ha
   have BW := Zd.mk Q_BW
   refine value_ (w1 := w') (v := .pointer (some ⟨pg, 0, none⟩)) (by rfl) rfl ?_ ?_
   ·go_simp
    (try simp only [i64_w])
    try rfl
   refine hK.out _ _ ⟨g2, g4, g6, g8, m2_, m4_, m6_, m7_, m8_, m9_, (by rw [ha.out]; exact putSel_upk 0 hb_ rfl rfl rfl), Q_BW, Q_R2, Q_R4, Q_R6, fun h0_ => no_ (hoff 8 (by kernel_rfl)) h0_, Q_N2_4, Q_N2_6, fun _ h1_ => no_ (hoff 8 (by kernel_rfl)) h1_, Q_N4_6, fun _ h1_ => no_ (hoff 8 (by kernel_rfl)) h1_, fun _ h1_ => no_ (hoff 8 (by kernel_rfl)) h1_, Q_X2_, Q_X4_, Q_X6_, fun h0_ => no_ (hoff 7 (by kernel_rfl)) h0_, fun h0_ => no_ (hoff 8 (by kernel_rfl)) h0_, fun h0_ => no_ (hoff 9 (by kernel_rfl)) h0_⟩
  refine steps_cons ?_ ?_
  ·rintro b a w' ⟨g2, g4, g6, g8, m2_, m4_, m6_, m7_, m8_, m9_, ha, Q_BW, Q_R2, Q_R4, Q_R6, Q_R8, Q_N2_4, Q_N2_6, Q_N2_8, Q_N4_6, Q_N4_8, Q_N6_8, Q_X2_, Q_X4_, Q_X6_, Q_X7_, Q_X8_, Q_X9_⟩ hb_ hon hoff
   refine ⟨_, rfl, fun K hK => ?_⟩
   have e5 : a.tmps[5]? = some (.int .i64 (nn : Int)) := by rw [ha]; exact (putSel_off rfl).trans rfl
   replace ha := Zd.mk ha
   have BW := Zd.mk Q_BW
   refine value_ (w1 := w') (v := .int .i64 (nn : Int)) (by rfl) rfl ?_ ?_
   ·go_simp
    (try simp only [i64_w])
    try rfl
   refine hK.out _ _ ⟨g2, g4, g6, g8, m2_, m4_, m6_, m7_, m8_, m9_, (by rw [ha.out]; exact putSel_upk 1 hb_ rfl rfl rfl), Q_BW, fun h0_ => no_ (hoff 2 (by kernel_rfl)) h0_, Q_R4, Q_R6, fun h0_ => no_ (hoff 8 (by kernel_rfl)) h0_, fun h0_ _ => no_ (hoff 2 (by kernel_rfl)) h0_, fun h0_ _ => no_ (hoff 2 (by kernel_rfl)) h0_, fun h0_ _ => no_ (hoff 2 (by kernel_rfl)) h0_, Q_N4_6, fun _ h1_ => no_ (hoff 8 (by kernel_rfl)) h1_, fun _ h1_ => no_ (hoff 8 (by kernel_rfl)) h1_, fun h0_ => no_ (hoff 2 (by kernel_rfl)) h0_, Q_X4_, Q_X6_, fun h0_ => no_ (hoff 7 (by kernel_rfl)) h0_, fun h0_ => no_ (hoff 8 (by kernel_rfl)) h0_, fun h0_ => no_ (hoff 9 (by kernel_rfl)) h0_⟩
  refine steps_cons ?_ ?_
  ·rintro b a w' ⟨g2, g4, g6, g8, m2_, m4_, m6_, m7_, m8_, m9_, ha, Q_BW, Q_R2, Q_R4, Q_R6, Q_R8, Q_N2_4, Q_N2_6, Q_N2_8, Q_N4_6, Q_N4_8, Q_N6_8, Q_X2_, Q_X4_, Q_X6_, Q_X7_, Q_X8_, Q_X9_⟩ hb_ hon hoff
   refine ⟨_, rfl, fun K hK => ?_⟩
   have e16 : a.tmps[16]? = some (.int .i64 (nn : Int)) := by rw [ha]; exact putSel_on (e := (1, 16, .int .i64 (nn : Int))) 1 rfl rfl (hon 1 (by kernel_rfl)) rfl
   replace ha := Zd.mk ha
   have BW := Zd.mk Q_BW
   refine value_ (w1 := w'.alloc (.cells ⟨List.replicate nn (Value.int .i64 0)⟩ 3)) (v := .slice (some ⟨w'.heap.size, 0, none⟩) nn nn) (by rfl) rfl ?_ ?_
   ·(go_simp; try rfl)
   refine hK.out _ _ ⟨w'.heap.size, g4, g6, g8, (.slice (some ⟨w'.heap.size, 0, none⟩) nn nn), m4_, m6_, m7_, m8_, m9_, (by rw [ha.out]; exact putSel_upk 2 hb_ rfl rfl rfl), below_alloc BW.out _, fun _ => Lay.new BW.out _ _, fun h0_ => (Q_R4 h0_).alloc _, fun h0_ => (Q_R6 h0_).alloc _, fun h0_ => no_ (hoff 8 (by kernel_rfl)) h0_, fun _ h_ => (Q_R4 h_).ne_new, fun _ h_ => (Q_R6 h_).ne_new, fun _ h1_ => no_ (hoff 8 (by kernel_rfl)) h1_, Q_N4_6, fun _ h1_ => no_ (hoff 8 (by kernel_rfl)) h1_, fun _ h1_ => no_ (hoff 8 (by kernel_rfl)) h1_, fun _ => rfl, Q_X4_, Q_X6_, fun h0_ => no_ (hoff 7 (by kernel_rfl)) h0_, fun h0_ => no_ (hoff 8 (by kernel_rfl)) h0_, fun h0_ => no_ (hoff 9 (by kernel_rfl)) h0_⟩
  refine steps_cons ?_ ?_
  ·rintro b a w' ⟨g2, g4, g6, g8, m2_, m4_, m6_, m7_, m8_, m9_, ha, Q_BW, Q_R2, Q_R4, Q_R6, Q_R8, Q_N2_4, Q_N2_6, Q_N2_8, Q_N4_6, Q_N4_8, Q_N6_8, Q_X2_, Q_X4_, Q_X6_, Q_X7_, Q_X8_, Q_X9_⟩ hb_ hon hoff
   refine ⟨_, rfl, fun K hK => ?_⟩
   have e5 : a.tmps[5]? = some (.int .i64 (nn : Int)) := by rw [ha]; exact (putSel_off rfl).trans rfl
   replace ha := Zd.mk ha
   have BW := Zd.mk Q_BW
   refine value_ (w1 := w') (v := .int .i64 (nn : Int)) (by rfl) rfl ?_ ?_
   ·go_simp
    (try simp only [i64_w])
    try rfl
   refine hK.out _ _ ⟨g2, g4, g6, g8, m2_, m4_, m6_, m7_, m8_, m9_, (by rw [ha.out]; exact putSel_upk 3 hb_ rfl rfl rfl), Q_BW, Q_R2, fun h0_ => no_ (hoff 4 (by kernel_rfl)) h0_, Q_R6, fun h0_ => no_ (hoff 8 (by kernel_rfl)) h0_, fun _ h1_ => no_ (hoff 4 (by kernel_rfl)) h1_, Q_N2_6, fun _ h1_ => no_ (hoff 8 (by kernel_rfl)) h1_, fun h0_ _ => no_ (hoff 4 (by kernel_rfl)) h0_, fun h0_ _ => no_ (hoff 4 (by kernel_rfl)) h0_, fun _ h1_ => no_ (hoff 8 (by kernel_rfl)) h1_, Q_X2_, fun h0_ => no_ (hoff 4 (by kernel_rfl)) h0_, Q_X6_, fun h0_ => no_ (hoff 7 (by kernel_rfl)) h0_, fun h0_ => no_ (hoff 8 (by kernel_rfl)) h0_, fun h0_ => no_ (hoff 9 (by kernel_rfl)) h0_⟩
  refine steps_cons ?_ ?_
  ·rintro b a w' ⟨g2, g4, g6, g8, m2_, m4_, m6_, m7_, m8_, m9_, ha, Q_BW, Q_R2, Q_R4, Q_R6, Q_R8, Q_N2_4, Q_N2_6, Q_N2_8, Q_N4_6, Q_N4_8, Q_N6_8, Q_X2_, Q_X4_, Q_X6_, Q_X7_, Q_X8_, Q_X9_⟩ hb_ hon hoff
   refine ⟨_, rfl, fun K hK => ?_⟩
   have e18 : a.tmps[18]? = some (.int .i64 (nn : Int)) := by rw [ha]; exact putSel_on (e := (3, 18, .int .i64 (nn : Int))) 3 rfl rfl (hon 3 (by kernel_rfl)) rfl
   replace ha := Zd.mk ha
   have BW := Zd.mk Q_BW
   refine value_ (w1 := w'.alloc (.cells ⟨List.replicate nn (Value.int .i64 0)⟩ 3)) (v := .slice (some ⟨w'.heap.size, 0, none⟩) nn nn) (by rfl) rfl ?_ ?_
   ·(go_simp; try rfl)
   refine hK.out _ _ ⟨g2, w'.heap.size, g6, g8, m2_, (.slice (some ⟨w'.heap.size, 0, none⟩) nn nn), m6_, m7_, m8_, m9_, (by rw [ha.out]; exact putSel_upk 4 hb_ rfl rfl rfl), below_alloc BW.out _, fun h0_ => (Q_R2 h0_).alloc _, fun _ => Lay.new BW.out _ _, fun h0_ => (Q_R6 h0_).alloc _, fun h0_ => no_ (hoff 8 (by kernel_rfl)) h0_, fun h_ _ => (Q_R2 h_).ne_new.symm, Q_N2_6, fun _ h1_ => no_ (hoff 8 (by kernel_rfl)) h1_, fun _ h_ => (Q_R6 h_).ne_new, fun _ h1_ => no_ (hoff 8 (by kernel_rfl)) h1_, fun _ h1_ => no_ (hoff 8 (by kernel_rfl)) h1_, Q_X2_, fun _ => rfl, Q_X6_, fun h0_ => no_ (hoff 7 (by kernel_rfl)) h0_, fun h0_ => no_ (hoff 8 (by kernel_rfl)) h0_, fun h0_ => no_ (hoff 9 (by kernel_rfl)) h0_⟩
  refine steps_cons ?_ ?_
  ·rintro b a w' ⟨g2, g4, g6, g8, m2_, m4_, m6_, m7_, m8_, m9_, ha, Q_BW, Q_R2, Q_R4, Q_R6, Q_R8, Q_N2_4, Q_N2_6, Q_N2_8, Q_N4_6, Q_N4_8, Q_N6_8, Q_X2_, Q_X4_, Q_X6_, Q_X7_, Q_X8_, Q_X9_⟩ hb_ hon hoff
   refine ⟨_, rfl, fun K hK => ?_⟩
   have e5 : a.tmps[5]? = some (.int .i64 (nn : Int)) := by rw [ha]; exact (putSel_off rfl).trans rfl
   replace ha := Zd.mk ha
   have BW := Zd.mk Q_BW
   refine value_ (w1 := w') (v := .int .i64 (nn : Int)) (by rfl) rfl ?_ ?_
   ·go_simp
    (try simp only [i64_w])
    try rfl
   refine hK.out _ _ ⟨g2, g4, g6, g8, m2_, m4_, m6_, m7_, m8_, m9_, (by rw [ha.out]; exact putSel_upk 5 hb_ rfl rfl rfl), Q_BW, Q_R2, Q_R4, fun h0_ => no_ (hoff 6 (by kernel_rfl)) h0_, fun h0_ => no_ (hoff 8 (by kernel_rfl)) h0_, Q_N2_4, fun _ h1_ => no_ (hoff 6 (by kernel_rfl)) h1_, fun _ h1_ => no_ (hoff 8 (by kernel_rfl)) h1_, fun _ h1_ => no_ (hoff 6 (by kernel_rfl)) h1_, fun _ h1_ => no_ (hoff 8 (by kernel_rfl)) h1_, fun h0_ _ => no_ (hoff 6 (by kernel_rfl)) h0_, Q_X2_, Q_X4_, fun h0_ => no_ (hoff 6 (by kernel_rfl)) h0_, fun h0_ => no_ (hoff 7 (by kernel_rfl)) h0_, fun h0_ => no_ (hoff 8 (by kernel_rfl)) h0_, fun h0_ => no_ (hoff 9 (by kernel_rfl)) h0_⟩
  refine steps_cons ?_ ?_
  ·rintro b a w' ⟨g2, g4, g6, g8, m2_, m4_, m6_, m7_, m8_, m9_, ha, Q_BW, Q_R2, Q_R4, Q_R6, Q_R8, Q_N2_4, Q_N2_6, Q_N2_8, Q_N4_6, Q_N4_8, Q_N6_8, Q_X2_, Q_X4_, Q_X6_, Q_X7_, Q_X8_, Q_X9_⟩ hb_ hon hoff
   refine ⟨_, rfl, fun K hK => ?_⟩
   have e20 : a.tmps[20]? = some (.int .i64 (nn : Int)) := by rw [ha]; exact putSel_on (e := (5, 20, .int .i64 (nn : Int))) 5 rfl rfl (hon 5 (by kernel_rfl)) rfl
   replace ha := Zd.mk ha
   have BW := Zd.mk Q_BW
   refine value_ (w1 := w'.alloc (.cells ⟨List.replicate nn (Value.bool false)⟩ 4)) (v := .slice (some ⟨w'.heap.size, 0, none⟩) nn nn) (by rfl) rfl ?_ ?_
   ·(go_simp; try rfl)
   refine hK.out _ _ ⟨g2, g4, w'.heap.size, g8, m2_, m4_, (.slice (some ⟨w'.heap.size, 0, none⟩) nn nn), m7_, m8_, m9_, (by rw [ha.out]; exact putSel_upk 6 hb_ rfl rfl rfl), below_alloc BW.out _, fun h0_ => (Q_R2 h0_).alloc _, fun h0_ => (Q_R4 h0_).alloc _, fun _ => Lay.new BW.out _ _, fun h0_ => no_ (hoff 8 (by kernel_rfl)) h0_, Q_N2_4, fun h_ _ => (Q_R2 h_).ne_new.symm, fun _ h1_ => no_ (hoff 8 (by kernel_rfl)) h1_, fun h_ _ => (Q_R4 h_).ne_new.symm, fun _ h1_ => no_ (hoff 8 (by kernel_rfl)) h1_, fun _ h1_ => no_ (hoff 8 (by kernel_rfl)) h1_, Q_X2_, Q_X4_, fun _ => rfl, fun h0_ => no_ (hoff 7 (by kernel_rfl)) h0_, fun h0_ => no_ (hoff 8 (by kernel_rfl)) h0_, fun h0_ => no_ (hoff 9 (by kernel_rfl)) h0_⟩
  refine steps_cons ?_ ?_
  ·rintro b a w' ⟨g2, g4, g6, g8, m2_, m4_, m6_, m7_, m8_, m9_, ha, Q_BW, Q_R2, Q_R4, Q_R6, Q_R8, Q_N2_4, Q_N2_6, Q_N2_8, Q_N4_6, Q_N4_8, Q_N6_8, Q_X2_, Q_X4_, Q_X6_, Q_X7_, Q_X8_, Q_X9_⟩ hb_ hon hoff
   refine ⟨_, rfl, fun K hK => ?_⟩
   have e15 : a.tmps[15]? = some (.pointer (some ⟨pg, 0, none⟩)) := by rw [ha]; exact putSel_on (e := (0, 15, .pointer (some ⟨pg, 0, none⟩))) 0 rfl rfl (hon 0 (by kernel_rfl)) rfl
   have e17 : a.tmps[17]? = some (m2_) := by rw [ha]; exact putSel_on (e := (2, 17, m2_)) 2 rfl rfl (hon 2 (by kernel_rfl)) rfl
   rw [Q_X2_ (hon 2 (by kernel_rfl))] at e17
   have e19 : a.tmps[19]? = some (m4_) := by rw [ha]; exact putSel_on (e := (4, 19, m4_)) 4 rfl rfl (hon 4 (by kernel_rfl)) rfl
   rw [Q_X4_ (hon 4 (by kernel_rfl))] at e19
   have e21 : a.tmps[21]? = some (m6_) := by rw [ha]; exact putSel_on (e := (6, 21, m6_)) 6 rfl rfl (hon 6 (by kernel_rfl)) rfl
   rw [Q_X6_ (hon 6 (by kernel_rfl))] at e21
   replace ha := Zd.mk ha
   have BW := Zd.mk Q_BW
   have R2 := Zd.mk (Q_R2 (hon 2 (by kernel_rfl)))
   have R4 := Zd.mk (Q_R4 (hon 4 (by kernel_rfl)))
   have R6 := Zd.mk (Q_R6 (hon 6 (by kernel_rfl)))
   have N2_4 := Zd.mk (Q_N2_4 (hon 2 (by kernel_rfl)) (hon 4 (by kernel_rfl)))
   have N2_6 := Zd.mk (Q_N2_6 (hon 2 (by kernel_rfl)) (hon 6 (by kernel_rfl)))
   have N4_6 := Zd.mk (Q_N4_6 (hon 4 (by kernel_rfl)) (hon 6 (by kernel_rfl)))
   refine value_ (w1 := w') (v := .agg #[.pointer (some ⟨pg, 0, none⟩), .slice (some ⟨g2, 0, none⟩) nn nn, .slice (some ⟨g4, 0, none⟩) nn nn, .slice (some ⟨g6, 0, none⟩) nn nn, .int .i64 0, .slice none 0 0, .slice none 0 0, .pointer none]) (by rfl) rfl ?_ ?_
   ·go_simp
    (try simp only [i64_w])
    try rfl
   refine hK.out _ _ ⟨g2, g4, g6, g8, m2_, m4_, m6_, (.agg #[.pointer (some ⟨pg, 0, none⟩), .slice (some ⟨g2, 0, none⟩) nn nn, .slice (some ⟨g4, 0, none⟩) nn nn, .slice (some ⟨g6, 0, none⟩) nn nn, .int .i64 0, .slice none 0 0, .slice none 0 0, .pointer none]), m8_, m9_, (by rw [ha.out]; exact putSel_upk 7 hb_ rfl rfl rfl), Q_BW, Q_R2, Q_R4, Q_R6, fun h0_ => no_ (hoff 8 (by kernel_rfl)) h0_, Q_N2_4, Q_N2_6, fun _ h1_ => no_ (hoff 8 (by kernel_rfl)) h1_, Q_N4_6, fun _ h1_ => no_ (hoff 8 (by kernel_rfl)) h1_, fun _ h1_ => no_ (hoff 8 (by kernel_rfl)) h1_, Q_X2_, Q_X4_, Q_X6_, fun _ => rfl, fun h0_ => no_ (hoff 8 (by kernel_rfl)) h0_, fun h0_ => no_ (hoff 9 (by kernel_rfl)) h0_⟩
  refine steps_cons ?_ ?_
  ·rintro b a w' ⟨g2, g4, g6, g8, m2_, m4_, m6_, m7_, m8_, m9_, ha, Q_BW, Q_R2, Q_R4, Q_R6, Q_R8, Q_N2_4, Q_N2_6, Q_N2_8, Q_N4_6, Q_N4_8, Q_N6_8, Q_X2_, Q_X4_, Q_X6_, Q_X7_, Q_X8_, Q_X9_⟩ hb_ hon hoff
   refine ⟨_, rfl, fun K hK => ?_⟩
   have e22 : a.tmps[22]? = some (m7_) := by rw [ha]; exact putSel_on (e := (7, 22, m7_)) 7 rfl rfl (hon 7 (by kernel_rfl)) rfl
   rw [Q_X7_ (hon 7 (by kernel_rfl))] at e22
   replace ha := Zd.mk ha
   have BW := Zd.mk Q_BW
   have R2 := Zd.mk (Q_R2 (hon 2 (by kernel_rfl)))
   have R4 := Zd.mk (Q_R4 (hon 4 (by kernel_rfl)))
   have R6 := Zd.mk (Q_R6 (hon 6 (by kernel_rfl)))
   have N2_4 := Zd.mk (Q_N2_4 (hon 2 (by kernel_rfl)) (hon 4 (by kernel_rfl)))
   have N2_6 := Zd.mk (Q_N2_6 (hon 2 (by kernel_rfl)) (hon 6 (by kernel_rfl)))
   have N4_6 := Zd.mk (Q_N4_6 (hon 4 (by kernel_rfl)) (hon 6 (by kernel_rfl)))
   refine value_ (w1 := w'.alloc (.cells #[.pointer (some ⟨pg, 0, none⟩), .slice (some ⟨g2, 0, none⟩) nn nn, .slice (some ⟨g4, 0, none⟩) nn nn, .slice (some ⟨g6, 0, none⟩) nn nn, .int .i64 0, .slice none 0 0, .slice none 0 0, .pointer none] 103)) (v := .pointer (some ⟨w'.heap.size, 0, none⟩)) (by rfl) rfl ?_ ?_
   ·(go_simp; try rfl)
   refine hK.out _ _ ⟨g2, g4, g6, w'.heap.size, m2_, m4_, m6_, m7_, (.pointer (some ⟨w'.heap.size, 0, none⟩)), m9_, (by rw [ha.out]; exact putSel_upk 8 hb_ rfl rfl rfl), below_alloc BW.out _, fun _ => R2.out.alloc _, fun _ => R4.out.alloc _, fun _ => R6.out.alloc _, fun _ => Lay.new BW.out _ _, Q_N2_4, Q_N2_6, fun h_ _ => (Q_R2 h_).ne_new.symm, Q_N4_6, fun h_ _ => (Q_R4 h_).ne_new.symm, fun h_ _ => (Q_R6 h_).ne_new.symm, Q_X2_, Q_X4_, Q_X6_, Q_X7_, fun _ => rfl, fun h0_ => no_ (hoff 9 (by kernel_rfl)) h0_⟩
  refine steps_cons ?_ ?_
  ·rintro b a w' ⟨g2, g4, g6, g8, m2_, m4_, m6_, m7_, m8_, m9_, ha, Q_BW, Q_R2, Q_R4, Q_R6, Q_R8, Q_N2_4, Q_N2_6, Q_N2_8, Q_N4_6, Q_N4_8, Q_N6_8, Q_X2_, Q_X4_, Q_X6_, Q_X7_, Q_X8_, Q_X9_⟩ hb_ hon hoff
   refine ⟨_, rfl, fun K hK => ?_⟩
   have e23 : a.tmps[23]? = some (m8_) := by rw [ha]; exact putSel_on (e := (8, 23, m8_)) 8 rfl rfl (hon 8 (by kernel_rfl)) rfl
   rw [Q_X8_ (hon 8 (by kernel_rfl))] at e23
   replace ha := Zd.mk ha
   have BW := Zd.mk Q_BW
   have R2 := Zd.mk (Q_R2 (hon 2 (by kernel_rfl)))
   have R4 := Zd.mk (Q_R4 (hon 4 (by kernel_rfl)))
   have R6 := Zd.mk (Q_R6 (hon 6 (by kernel_rfl)))
   have R8 := Zd.mk (Q_R8 (hon 8 (by kernel_rfl)))
   have N2_4 := Zd.mk (Q_N2_4 (hon 2 (by kernel_rfl)) (hon 4 (by kernel_rfl)))
   have N2_6 := Zd.mk (Q_N2_6 (hon 2 (by kernel_rfl)) (hon 6 (by kernel_rfl)))
   have N2_8 := Zd.mk (Q_N2_8 (hon 2 (by kernel_rfl)) (hon 8 (by kernel_rfl)))
   have N4_6 := Zd.mk (Q_N4_6 (hon 4 (by kernel_rfl)) (hon 6 (by kernel_rfl)))
   have N4_8 := Zd.mk (Q_N4_8 (hon 4 (by kernel_rfl)) (hon 8 (by kernel_rfl)))
   have N6_8 := Zd.mk (Q_N6_8 (hon 6 (by kernel_rfl)) (hon 8 (by kernel_rfl)))
   refine value_ (w1 := w') (v := .pointer (some ⟨g8, 0, none⟩)) (by rfl) rfl ?_ ?_
   ·go_simp
    (try simp only [i64_w])
    try rfl
   refine hK.out _ _ ⟨g2, g4, g6, g8, m2_, m4_, m6_, m7_, m8_, (.pointer (some ⟨g8, 0, none⟩)), (by rw [ha.out]; exact putSel_upk 9 hb_ rfl rfl rfl), Q_BW, Q_R2, Q_R4, Q_R6, Q_R8, Q_N2_4, Q_N2_6, Q_N2_8, Q_N4_6, Q_N4_8, Q_N6_8, Q_X2_, Q_X4_, Q_X6_, Q_X7_, Q_X8_, fun _ => rfl⟩
  exact steps_nil
 ·rintro b a w' hall ⟨g2, g4, g6, g8, m2_, m4_, m6_, m7_, m8_, m9_, ha, Q_BW, Q_R2, Q_R4, Q_R6, Q_R8, Q_N2_4, Q_N2_6, Q_N2_8, Q_N4_6, Q_N4_8, Q_N6_8, Q_X2_, Q_X4_, Q_X6_, Q_X7_, Q_X8_, Q_X9_⟩
  clear BW
  have hb0_ := hall 0 (by kernel_rfl)
  have hb1_ := hall 1 (by kernel_rfl)
  have hb2_ := hall 2 (by kernel_rfl)
  have hb3_ := hall 3 (by kernel_rfl)
  have hb4_ := hall 4 (by kernel_rfl)
  have hb5_ := hall 5 (by kernel_rfl)
  have hb6_ := hall 6 (by kernel_rfl)
  have hb7_ := hall 7 (by kernel_rfl)
  have hb8_ := hall 8 (by kernel_rfl)
  have hb9_ := hall 9 (by kernel_rfl)
  subst ha
  obtain rfl := Q_X2_ hb2_
  obtain rfl := Q_X4_ hb4_
  obtain rfl := Q_X6_ hb6_
  obtain rfl := Q_X7_ hb7_
  obtain rfl := Q_X8_ hb8_
  obtain rfl := Q_X9_ hb9_
  simp only [putSel, hb0_, hb1_, hb2_, hb3_, hb4_, hb5_, hb6_, hb7_, hb8_, hb9_, if_true, Act.put, List.setIfInBounds_toArray, List.set_cons_zero, List.set_cons_succ]
  have BW := Zd.mk Q_BW
  clear Q_BW
  have R2 := Zd.mk (Q_R2 hb2_)
  clear Q_R2
  have R4 := Zd.mk (Q_R4 hb4_)
  clear Q_R4
  have R6 := Zd.mk (Q_R6 hb6_)
  clear Q_R6
  have R8 := Zd.mk (Q_R8 hb8_)
  clear Q_R8
  have N2_4 := Zd.mk (Q_N2_4 hb2_ hb4_)
  clear Q_N2_4
  have N2_6 := Zd.mk (Q_N2_6 hb2_ hb6_)
  clear Q_N2_6
  have N2_8 := Zd.mk (Q_N2_8 hb2_ hb8_)
  clear Q_N2_8
  have N4_6 := Zd.mk (Q_N4_6 hb4_ hb6_)
  clear Q_N4_6
  have N4_8 := Zd.mk (Q_N4_8 hb4_ hb8_)
  clear Q_N4_8
  have N6_8 := Zd.mk (Q_N6_8 hb6_ hb8_)
  clear Q_N6_8
  clear hall hb0_ hb1_ hb2_ hb3_ hb4_ hb5_ hb6_ hb7_ hb8_ hb9_
  obtain ⟨W3, rfl⟩ : ∃ W : World, W = w' := ⟨_, rfl⟩
  have HF0 := Zd.mk (fin_new (pg := pg) BW.out (by omega) R2.out R4.out R6.out R8.out N2_4.out N2_6.out N2_8.out N4_6.out N4_8.out N6_8.out)
  clear R2 R4 R6 R8 N2_4 N2_6 N2_8 N4_6 N4_8 N6_8 hmkI hmkB q8 BW
  go_wp2
  have HS0 := Zd.mk (show SetAt p W2 W3 ⟨nn, pg, g8, g2, g4, g6⟩ l (Sg.fs0 p.N) from ⟨⟨_, _, _, _, _, HF0.out.to (by rw [HNN.out])⟩, Sg.fs0_inv, Sg.metOk0 _⟩)
  clear HF0
  go_loopg [28] l.length (fun kq v28 w' => ∃ (i : Nat) (st : Sg.FS), i + kq = l.length ∧ v28 = .int .i64 (i : Int) ∧ Zd (SetAt p W2 w' ⟨nn, pg, g8, g2, g4, g6⟩ l st) ∧ Zd (st.calls = [] ∧ st.found = none ∧ Sg.rootsF p.next sett p.N (l.drop i) st = Sg.settledF p.next sett p.N l))
  case atStart => exact ⟨0, Sg.fs0 p.N, by omega, rfl, HS0, ⟨rfl, rfl, rfl⟩⟩
  case round =>
   obtain ⟨i, st, hi, rfl, HS, HQ⟩ := hrel
   obtain ⟨WW, rfl⟩ : ∃ W : World, W = wr := ⟨_, rfl⟩
   have HI := Zd.mk hi
   clear hi HS0
   by_cases hil : i < l.length
   ·obtain ⟨ad, eA, hx⟩ := nat_at HR.out hil
    obtain ⟨ρ, vs, vc, fo, E, hF⟩ := HS.out.mem
    have hxb := pb_ hF.bel hx
    have hxN := HL.out _ (by rw [List.getD_eq_getElem?_getD, List.getElem?_eq_getElem hil]; exact List.getElem_mem hil : l.getD i 0 ∈ l)
    have HXL := Zd.mk (show l.getD i 0 ∈ l by rw [List.getD_eq_getElem?_getD, List.getElem?_eq_getElem hil]; exact List.getElem_mem hil)
    have HDR := Zd.mk (drop_consN hil)
    obtain ⟨x, hxe⟩ : ∃ x, x = l.getD i 0 := ⟨_, rfl⟩
    rw [← hxe] at hxb hxN HXL HDR
    subst eA
    have hxl : (x : Int) < (nn : Int) := by have := HNN.out; omega
    have hil2 : (i : Int) < (l.length : Int) := by omega
    have k1 := hF.c1
    obtain ⟨z1, _⟩ := natK_cell hF.nums (show x < nn by omega)
    have HF := Zd.mk hF
    clear hF hx hxe
    simp only at k1 z1
    by_cases h0 : 0 < st.nums.getD x 0
    ·have HSK := Zd.mk (roots_skip p.next sett p.N x (l.drop (i + 1)) st h0)
     generalize st.nums.getD x 0 = n1 at *
     go_wp2
     go_roundg (gk - 1)
     case measure => have := HI.out; omega
     case rel => exact ⟨i + 1, st, by have := HI.out; omega, by first | rfl | (congr 1; go_num; done), HS, ⟨HQ.out.1, HQ.out.2.1, by rw [← HSK.out, ← HDR.out]; exact HQ.out.2.2⟩⟩
    ·have h0' : st.nums.getD x 0 = 0 := by omega
     have HH0 := Zd.mk h0'
     rw [h0'] at z1
     clear h0 h0'
     have HEN := Zd.mk (enter_walk p ρ W2 WW _ vs vc fo E st x HF.out HP.out HOK.out HNN.out hxN (by have := (HS.out.met_lt HOK.out).1; omega) (by have := (HS.out.met_lt HOK.out).2.1; omega) (by have := (HS.out.met_lt HOK.out).2.2; have := HF.out.lenE; omega))
     go_wp2_with (go_at_call 64; refine HEN.out.mono ?_; rintro e w9 ⟨rfl, hIF⟩; have HIF := Zd.mk hIF; clear hIF)
     obtain ⟨W9, rfl⟩ : ∃ W : World, W = w9 := ⟨_, rfl⟩
     obtain ⟨s9, hs9⟩ : ∃ s, s = Sg.enterF p.next st x := ⟨_, rfl⟩
     obtain ⟨kk, hkk⟩ : ∃ k, k = Sg.mu p.next p.N s9 := ⟨_, rfl⟩
     have HS9 := Zd.mk (show SetAt p W2 W9 ⟨nn, pg, g8, g2, g4, g6⟩ l s9 from by
      obtain ⟨ρ', vs', vc', E', h⟩ := HIF.out
      exact ⟨⟨_, _, _, _, _, hs9 ▸ h⟩, hs9 ▸ Sg.root_inv HS.out.inv HQ.out.1 hxN HXL.out HH0.out, hs9 ▸ HS.out.met.enter p.next (by rw [HS.out.inv.ln]; exact hxN) HH0.out⟩)
     obtain ⟨s1, hs1⟩ : ∃ s, s = Sg.runF p.next sett kk s9 := ⟨_, rfl⟩
     have HRR := Zd.mk (roots_run p.next sett p.N x (l.drop (i + 1)) st HH0.out (s1 := s1) (by rw [hs1, hkk, hs9]))
     have HS1 := Zd.mk hs1
     have HKK := Zd.mk hkk
     clear hs1 hkk hs9 HIF HEN HF HS z1 k1 hxb
     obtain ⟨k1, hk1⟩ : ∃ k, k = gk := ⟨_, rfl⟩
     rw [← hk1] at HI
     have HK1 := Zd.mk hk1
     clear hk1
     go_loopg [] kk (fun kq w' => ∃ st' : Sg.FS, Zd (SetAt p W2 w' ⟨nn, pg, g8, g2, g4, g6⟩ l st') ∧ Zd (Sg.runF p.next sett kq st' = s1 ∧ Sg.mu p.next p.N st' ≤ kq))
     case atStart => exact ⟨s9, HS9, ⟨HS1.out.symm, by rw [HKK.out]; exact Nat.le_refl _⟩⟩
     case round =>
      obtain ⟨st', HS', HQ'⟩ := hrel
      obtain ⟨WX, rfl⟩ : ∃ W : World, W = wr := ⟨_, rfl⟩
      obtain ⟨ρ', vs', vc', fo', E', hF'⟩ := HS'.out.mem
      have hle := hF'.lenE
      obtain ⟨Ac, cc', e⟩ := own_slice hF'.calls.own
      subst e
      have k6 := hF'.c6
      have k7 := hF'.c7
      have HF' := Zd.mk hF'
      clear hF' HS9
      simp only at k6 k7
      match hc : st'.calls with
      | [] =>
       have hl0 : E'.length = 0 := by rw [hle, hc]; rfl
       have e1 : s1 = st' := by rw [← HQ'.out.1]; exact Sg.run_end _ _ _ hc _
       subst e1
       rw [hl0] at k6
       have HFB := Zd.mk HF'.out.fnd
       have HBL := Zd.mk HF'.out.bel
       have HC := Zd.mk hc
       clear hl0 hle HF' hc
       match hfo : s1.found with
       | none =>
        have e := HFB.out.no hfo
        subst e
        have HFO := Zd.mk hfo
        clear hfo
        go_wp2
        go_roundg (k1 - 1)
        case measure => have := HI.out; have := HK1.out; omega
        case rel =>
         refine ⟨i + 1, s1, by have := HI.out; omega, by first | rfl | (congr 1; go_num; done), HS', ⟨HC.out, HFO.out, ?_⟩⟩
         have h1 := HRR.out
         rw [← HDR.out, HFO.out] at h1
         rw [← HQ.out.2.2, h1]
       | some cf =>
        obtain ⟨gc, e⟩ := HFB.out.yes hfo
        subst e
        have HFO := Zd.mk hfo
        clear hfo
        go_wp2
        go_ret
        have h1 := HRR.out
        rw [← HDR.out, HFO.out] at h1
        refine ⟨HBL.out, _, rfl, ?_⟩
        rw [← HQ.out.2.2, h1]
        have := HFB.out.comp
        rw [HFO.out] at this
        exact this
      | (y, r) :: cs =>
       have hlm : E'.length = cs.length + 1 := by rw [hle, hc]; rfl
       obtain ⟨h51, h52, h53⟩ := HS'.out.met_lt HOK.out
       have HSP := Zd.mk (step_walk p ρ' W2 WX _ vs' _ fo' E' st' y r cs l HF'.out HP.out HOK.out HNN.out HS'.out.inv hc (by omega) (by omega) (by omega))
       rw [hlm] at k6
       have HLM := Zd.mk hlm
       have HC := Zd.mk hc
       clear hc hle hlm h51 h52 h53 HF'
       generalize cs.length = m at *
       go_wp2_with (go_at_call 63; refine HSP.out.mono ?_; rintro e w10 ⟨rfl, hIF⟩; have HIF := Zd.mk hIF; clear hIF)
       obtain ⟨W10, rfl⟩ : ∃ W : World, W = w10 := ⟨_, rfl⟩
       have hnx : ∀ x, x < p.N → ∀ y, y ∈ p.next x → y < p.N := fun x hx y hy => HOK.out.next_lt hx hy
       have hmu := Sg.step_mu hnx HS'.out.inv (by rw [HC.out]; simp)
       rw [← HST.out] at hmu
       have hge := HQ'.out.2
       go_roundg (gk - 1)
       case measure => omega
       case rel =>
        refine ⟨Sg.stepF p.next sett st', ⟨?_, ?_, ?_⟩, ⟨?_, by omega⟩⟩
        ·obtain ⟨ρ2, vs2, vc2, fo2, E2, h⟩ := HIF.out
         exact ⟨_, _, _, _, _, h.to (by rw [HST.out])⟩
        ·rw [HST.out]
         exact Sg.step_inv hnx HS'.out.inv
        ·exact HS'.out.met.step (HS'.out.inv.rest_lt hnx)
        ·rw [← Sg.run_more p.next sett st' (by rw [HC.out]; simp), show gk - 1 + 1 = gk by omega]
         exact HQ'.out.1
   ·have e : i = l.length := by have := HI.out; omega
    subst e
    obtain ⟨ρ, vs, vc, fo, E, hF⟩ := HS.out.mem
    have HBL := Zd.mk hF.bel
    clear hF
    go_wp2
    go_ret
    have h1 := HQ.out.2.2
    rw [List.drop_length] at h1
    refine ⟨HBL.out, _, rfl, ?_⟩
    rw [← h1]
    trivial
end Go.Proofs.Ytapejnikpmfddaa.X
namespace Go.Proofs.Ytapejnikpmfddaa.Sg
section
variable {nx : Nat → List Nat} {inn : Nat → Bool} {good : Nat → Nat → Bool} {N P : Nat} {frm : List Nat} {c : List Bool}
theorem isWay_lt (hnx : ∀ x, x < N → ∀ y, y ∈ nx x → y < N) : ∀ (l : List Nat) (a : Nat), a < N → IsWay nx inn (a :: l) → ∀ x, x ∈ a :: l → x < N
 | [], a, ha, _, x, hx => by rw [List.mem_singleton.1 hx]; exact ha
 | b :: r, a, ha, h, x, hx => by
  rcases List.mem_cons.1 hx with e | k
  ·rw [e]; exact ha
  ·exact isWay_lt hnx r b (hnx a ha b h.1) h.2.2 x k
theorem way_good (hnx : ∀ x, x < N → ∀ y, y ∈ nx x → y < N) (hf : ∀ x, x ∈ frm → x < N) (h : GoodC nx N P good frm c) : WayOk nx (fun _ => true) (hasF c) frm (wayF nx (fun _ => true) (hasF c) N frm) := by
 obtain ⟨a0, a1, _⟩ := h.acc
 obtain ⟨r0, r1, r2⟩ := h.root a0 a1
 rcases way_spec (inn := fun _ => true) (goal := hasF c) hnx hf with ⟨_, hno⟩ | hok
 ·have := hno r0 r1 a0 (reach_in r2)
  unfold hasF at this
  rw [a1] at this; cases this
 ·exact hok
theorem wayOk_lt {goal : Nat → Bool} {l : List Nat} (hnx : ∀ x, x < N → ∀ y, y ∈ nx x → y < N) (hf : ∀ x, x ∈ frm → x < N) (h : WayOk nx inn goal frm l) : ∀ x, x ∈ l → x < N := by
 obtain ⟨h1, ⟨a, r, e, ha⟩, _⟩ := h
 rw [e] at h1 ⊢
 exact isWay_lt hnx r a (hf a ha) h1
theorem round_lt (hc : GoodC nx N P good frm c) (hnx : ∀ x, x < N → ∀ y, y ∈ nx x → y < N) {x : Nat} (hx : c.getD x false = true) : ∀ y, y ∈ roundF nx (hasF c) good N P x → y < N := by
 obtain ⟨⟨r, e⟩, h2, _⟩ := round_spec hc hnx hx
 have hxN : x < N := by
  by_cases k : x < c.length
  ·rw [← hc.len]; exact k
  ·rw [List.getD_eq_getElem?_getD, List.getElem?_eq_none (by omega)] at hx; cases hx
 intro y hy
 rw [e, List.cons_append] at h2
 exact isWay_lt hnx _ x hxN h2 y (by rw [e] at hy; rcases List.mem_cons.1 hy with k | k <;> first | (rw [k]; exact List.mem_cons_self ..; done) | exact List.mem_cons_of_mem _ (List.mem_append_left _ k))
end
end Go.Proofs.Ytapejnikpmfddaa.Sg
namespace Go.Proofs.Ytapejnikpmfddaa.X
open Go.RowKit Go.Proofs.YtapejnikpmfddaaW.PrintWords Go.Proofs.YtapejnikpmfddaaW.PrintLast Go.Proofs.YtapejnikpmfddaaW.PrintMore
open Go.Proofs.Ytapejnikpmfddaa.P Go.Proofs.Ytapejnikpmfddaa.Evx
theorem PD.Ok.starts_lt {p : PD} (h : p.Ok) (want : Bool) {x : Nat} (hx : x ∈ p.starts want) : x < p.N := by
 unfold PD.starts PD.startRow at hx
 rw [List.mem_flatMap] at hx
 obtain ⟨v, hv, hx⟩ := hx
 rw [List.mem_map] at hx
 obtain ⟨s, hs, rfl⟩ := hx
 have hs' := List.mem_range.1 (List.mem_filter.1 hs).1
 have hv' := h.st v hv
 have h1 : (v + 1) * p.size ≤ p.ls.length * p.size := Nat.mul_le_mul_right _ hv'
 have h2 : (v + 1) * p.size = v * p.size + p.size := Nat.succ_mul ..
 unfold PD.N
 rw [Nat.mul_comm p.size]
 omega
theorem PD.Ok.starts_len {p : PD} (h : p.Ok) (want : Bool) : (p.starts want).length ≤ 51200 := by
 have := flat_take_len h want p.ss.length
 rw [List.take_length] at this
 exact this
theorem CompOk.no {w : World} {fo : Option Addr} (h : CompOk w fo none) : fo = none := by
 match fo, h with
 | none, _ => rfl
theorem CompOk.yes {w : World} {fo : Option Addr} {cb : List Bool} (h : CompOk w fo (some cb)) : ∃ gc, fo = some ⟨gc, 0, none⟩ ∧ IsComp w gc cb := by
 match fo, h with
 | some a, ⟨gc, e, hc⟩ => exact ⟨gc, by rw [e], hc⟩
def FindOk (p : PD) (w w' : World) (e : Ending) (o : Option (List Nat × List Nat)) : Prop :=
 match o with
 | none => e = .returned (.tuple #[.slice none 0 0, .slice none 0 0, .bool false])
 | some (st, lp) => ∃ v1 v2, e = .returned (.tuple #[v1, v2, .bool true]) ∧ Kd.R natK 3 w' w.heap.size (fun _ => True) v1 (st.map p.vert) ∧ Kd.R natK 3 w' w.heap.size (fun _ => True) v2 (lp.map p.vert)
theorem always_calls (y : Nat) (W : World) : Calls Try.prog 48 #[.int .i64 (y : Int)] W fun e W' => e = .returned (.bool true) ∧ Below W.heap.size W W' := by
 go_enter Try.func48, Try.ntmps48
 go_wp2
 go_ret
 exact ⟨rfl, Below.refl _ _⟩
theorem always_fn (N : Nat) (w : World) : PredFn 48 #[] #[] (fun _ => true) N w :=
 ⟨enters_f Try.func48 (by kernel_rfl) rfl, fun W hW x hx => always_calls x W⟩
theorem find_walk (p : PD) (want : Bool) (g : Nat) (w : World) (h : IsProd w g p) (hok : p.Ok) :
  Calls Try.prog 26 #[.pointer (some ⟨g, 0, none⟩), .bool want] w fun e w' => FindOk p w w' e (Sg.findF p.next p.good p.N p.P (p.starts want)) ∧ Below w.heap.size w w' := by
 have hui := Try.underlying23
 have hmf : ∀ fn first cap w, (Instr.makeFunc fn first cap).run Try.prog w = .ok (.func fn first cap) w := fun _ _ _ _ => rfl
 have HP := Zd.mk h
 have HOK := Zd.mk hok
 have HL := Zd.mk (hok.starts_len want)
 have HLT := Zd.mk (fun x (hx : x ∈ p.starts want) => hok.starts_lt want hx)
 have HNX := Zd.mk (fun x (hx : x < p.N) y (hy : y ∈ p.next x) => hok.next_lt hx hy)
 have HSW := Zd.mk (starts_walk p want g w h hok)
 have HSP := Zd.mk (Sg.settled_spec (P := p.P) (good := p.good) HNX.out (p.starts want) HLT.out)
 obtain ⟨F, hF⟩ : ∃ F, F = Sg.findF p.next p.good p.N p.P (p.starts want) := ⟨_, rfl⟩
 have HFF := Zd.mk (hF.trans (show Sg.findF p.next p.good p.N p.P (p.starts want) = match Sg.settledF p.next (Sg.settF p.next p.P p.good) p.N (p.starts want) with
  | none => none
  | some c => some ((Sg.wayF p.next (fun _ => true) (Sg.hasF c) p.N (p.starts want)).dropLast, Sg.roundF p.next (Sg.hasF c) p.good p.N p.P ((Sg.wayF p.next (fun _ => true) (Sg.hasF c) p.N (p.starts want)).getLastD 0)) from rfl))
 rw [← hF]
 clear h hok hF
 generalize p.starts want = frm at *
 have HTW := Zd.mk (fun A c W (hb : Below w.heap.size w W) (hC : Kd.C natK W A frm.length frm) => settled_walk p g A c frm W (HP.out.below hb) HOK.out hC HLT.out (by have := HL.out; omega))
 go_enter Try.func26, Try.ntmps26
 go_upto_region 3 with (first
  | (go_at_call 45; refine HSW.out.mono ?_; rintro e w1 ⟨v1, rfl, hR1, hB1⟩; obtain ⟨A1, c1, e1, hc1, hC1⟩ := Kd.R_reads hR1; subst e1; have HB1 := Zd.mk hB1; have HC1 := Zd.mk hC1; clear hR1 hB1 hC1)
  | (go_at_call 46; refine (HTW.out A1 c1 _ HB1.out HC1.out).mono ?_; rintro e w2 ⟨hB2, fo, rfl, hCO⟩; have HB2 := Zd.mk (HB1.out.trans (hB2.mono HB1.out.size)); have HC2 := Zd.mk (Kd.C_below HC1.out hB2); have HCO := Zd.mk hCO; clear hB2 hCO))
 obtain ⟨o, ho⟩ : ∃ o, o = Sg.settledF p.next (Sg.settF p.next p.P p.good) p.N frm := ⟨_, rfl⟩
 rw [← ho] at HCO HFF HSP
 clear ho HTW HSW
 cases o with
 | none =>
  have e := HCO.out.no
  subst e
  go_wp2
  go_ret3
  refine ⟨?_, HB2.out⟩
  rw [show F = none from HFF.out]
  rfl
 | some cb =>
  obtain ⟨gc, e, hcomp⟩ := HCO.out.yes
  subst e
  have HG : Zd (Sg.GoodC p.next p.N p.P p.good frm cb) := ⟨HSP.out⟩
  have hwo := Sg.way_good HNX.out HLT.out HG.out
  obtain ⟨hne, hlast⟩ := Sg.way_last hwo
  have hwl := Sg.wayOk_lt HNX.out HLT.out hwo
  have hwn := Sg.way_len (inn := fun _ => true) (goal := Sg.hasF cb) HNX.out HLT.out
  have HFE := Zd.mk (show F = some ((Sg.wayF p.next (fun _ => true) (Sg.hasF cb) p.N frm).dropLast, Sg.roundF p.next (Sg.hasF cb) p.good p.N p.P ((Sg.wayF p.next (fun _ => true) (Sg.hasF cb) p.N frm).getLastD 0)) from HFF.out)
  have HWY := Zd.mk (way_walk p g 48 49 #[] #[] #[.pointer (some ⟨gc, 0, none⟩)] #[] (fun _ => true) (Sg.hasF cb) A1 c1 frm w2 (HP.out.below HB2.out) HOK.out (always_fn p.N w2) (has_fn gc p.N cb w2 hcomp HG.out.len) HC2.out HLT.out (by have := HL.out; omega))
  generalize Sg.wayF p.next (fun _ => true) (Sg.hasF cb) p.N frm = stem at *
  have hN := HOK.out.N_le
  have HRD := Zd.mk (fun W (hb : Below w2.heap.size w2 W) => round_walk p g gc (stem.getLastD 0) cb frm W ((HP.out.below HB2.out).below hb) HOK.out (hcomp.below hb) HG.out hlast)
  have HRL := Zd.mk (Sg.round_lt HG.out HNX.out hlast)
  have hsl : 0 < stem.length := List.length_pos_iff.2 hne
  obtain ⟨n1, hn1⟩ : ∃ n, stem.length = n + 1 := ⟨stem.length - 1, by omega⟩
  have hdl : stem.dropLast.length = n1 := by rw [List.length_dropLast]; omega
  have hll : stem.getD n1 0 = stem.getLastD 0 := by rw [← last_getD stem hne, hn1]; rfl
  have HV1 := Zd.mk (fun A c W (hb : Below w2.heap.size w2 W) (hC : Kd.C natK W A n1 stem.dropLast) => show Calls Try.prog 50 #[.pointer (some ⟨g, 0, none⟩), .slice A n1 c] W _ from
   hdl ▸ vertices_walk p g A c stem.dropLast W ((HP.out.below HB2.out).below hb) HOK.out (hdl.symm ▸ hC) (fun x hx => by have := hwl x (List.dropLast_subset _ hx); omega) (by omega))
  generalize Sg.roundF p.next (Sg.hasF cb) p.good p.N p.P (stem.getLastD 0) = lp at *
  obtain ⟨iI, hiI, _⟩ := Option.map_eq_some_iff.1 infoI
  have HCT := Zd.mk (fun (ad : Option Addr) (c : Nat) (hc : n1 + 1 ≤ c) => cut_to (P := Try.prog) 23 3 .i64 hui hiI ad (n1 + 1) c (n1 : Int) (Int.natCast_nonneg _) (by omega) hc)
  have HNE := Zd.mk hll
  obtain ⟨last, hlx⟩ : ∃ y, y = stem.getLastD 0 := ⟨_, rfl⟩
  rw [← hlx] at HNE HRD
  have HSN := Zd.mk hn1
  have HDL := Zd.mk (show stem.dropLast = stem.take n1 by rw [List.dropLast_eq_take, hn1]; rfl)
  have hn1b : n1 < 51200 := by omega
  have hkn : IntKind.i64.wrap (n1 : Int) = (n1 : Int) := (i64_w _).trans (w64n (by omega))
  clear hiI hll hne hlast hwl hwn hlx hwo hsl hcomp HCO
  go_upto_region 6 with (go_at_call 47; refine HWY.out.mono ?_; rintro e w5 ⟨v5, rfl, hR5, hB5⟩; obtain ⟨A5, c5, e5, hc5, hC5⟩ := Kd.R_reads hR5; rw [HSN.out] at e5 hc5 hC5; subst e5; have HB5 := Zd.mk hB5; have HC5 := Zd.mk hC5; clear hR5 hB5 hC5)
  obtain ⟨ad, e, hz⟩ := nat_at HC5.out (j := n1) (by omega)
  subst e
  rw [HNE.out] at hz
  have hcut := HCT.out (some ad) c5 hc5
  rw [Int.toNat_natCast] at hcut
  clear hn1 hdl
  have HC5D := Zd.mk (show Kd.C natK w5 (some ad) n1 stem.dropLast from by
   have h1 := HC5.out
   rw [← HSN.out] at h1
   have h2 := Kd.C_take (m := n1) h1 (by rw [HSN.out]; omega)
   rw [HDL.out]
   rw [show (stem.take n1).length = n1 by rw [List.length_take, HSN.out]; omega] at h2
   exact h2)
  have HV2 := Zd.mk (fun A c W (hb : Below w2.heap.size w2 W) (hC : Kd.C natK W A lp.length lp) (hl : lp.length ≤ 2000000) => vertices_walk p g A c lp W ((HP.out.below HB2.out).below hb) HOK.out hC (fun x hx => by have := HRL.out x hx; omega) (by omega))
  go_wp2_with (first
   | (go_at_call 50; (with_reducible refine (HV1.out (some ad) c5 _ HB5.out HC5D.out).mono ?_); rintro e w6 ⟨v6, rfl, hR6, hB6⟩; have HB6 := Zd.mk (HB5.out.trans (hB6.mono HB5.out.size)); have HR6 := Zd.mk hR6; clear hR6 hB6)
   | (go_at_call 51; refine (HRD.out _ HB6.out).mono ?_; rintro e w7 ⟨v7, rfl, hR7, hB7, hl7⟩; obtain ⟨A7, c7, e7, hc7, hC7⟩ := Kd.R_reads hR7; subst e7; have HB7 := Zd.mk hB7; have HB27 := Zd.mk (HB6.out.trans (hB7.mono HB6.out.size)); have HC7 := Zd.mk hC7; have HL7 := Zd.mk hl7; clear hR7 hB7 hC7 hl7)
   | (go_at_call 50; refine (HV2.out A7 c7 _ HB27.out HC7.out HL7.out).mono ?_; rintro e w8 ⟨v8, rfl, hR8, hB8⟩; have HB8 := Zd.mk hB8; have HR8 := Zd.mk hR8; clear hR8 hB8))
  go_ret3
  have hbw5 := HB2.out.trans (HB5.out.mono HB2.out.size)
  have hbw6 := HB2.out.trans (HB6.out.mono HB2.out.size)
  have hbw7 := HB2.out.trans (HB27.out.mono HB2.out.size)
  refine ⟨?_, hbw7.trans (HB8.out.mono hbw7.size)⟩
  rw [HFE.out]
  exact ⟨v6, v8, rfl, Kd.R_lower (Kd.R_below (Kd.R_below HR6.out HB7.out) HB8.out) hbw5.size, Kd.R_lower HR8.out hbw7.size⟩
end Go.Proofs.Ytapejnikpmfddaa.X
namespace Go.Proofs.Ytapejnikpmfddaa.X
open Go.RowKit Go.Proofs.YtapejnikpmfddaaW.PrintWords Go.Proofs.YtapejnikpmfddaaW.PrintLast Go.Proofs.YtapejnikpmfddaaW.PrintMore
open Go.Proofs.Ytapejnikpmfddaa.P Go.Proofs.Ytapejnikpmfddaa.Evx
def aheadB (s : Nat) (lt : Int) (q : S81) : Bool := valueF q.f0 (((s / 2 ^ q.f1.toNat) % q.f2.toNat : Nat) : Int) lt
def aheadN (s : Nat) (lt : Int) : List S81 → Nat
 | [] => 0
 | q :: r => (if aheadB s lt q = true then 1 else 0) + 2 * aheadN s lt r
theorem aheadN_lt (s : Nat) (lt : Int) : ∀ l : List S81, aheadN s lt l < 2 ^ l.length
 | [] => by show 0 < 2 ^ 0; omega
 | q :: r => by
  have := aheadN_lt s lt r
  unfold aheadN
  rw [List.length_cons, Nat.pow_succ]
  split <;> omega
theorem aheadN_snoc (s : Nat) (lt : Int) (q : S81) : ∀ l : List S81, aheadN s lt (l ++ [q]) = aheadN s lt l + (if aheadB s lt q = true then 2 ^ l.length else 0)
 | [] => by
  show (if aheadB s lt q = true then 1 else 0) + 2 * 0 = 0 + _
  split <;> simp
 | a :: r => by
  have := aheadN_snoc s lt q r
  rw [List.cons_append]
  unfold aheadN
  rw [this, List.length_cons, Nat.pow_succ]
  split <;> split <;> omega
theorem wrapsI (n : Int) (h0 : 0 ≤ n) (h1 : n < 2 ^ 62) : IntKind.i64.wrap n = n := by rw [IntKind.wrap_i64]; omega
theorem powW (n : Nat) (h : n ≤ 8) : wrap64 (2 ^ n) = 2 ^ n := by
 have : n = 0 ∨ n = 1 ∨ n = 2 ∨ n = 3 ∨ n = 4 ∨ n = 5 ∨ n = 6 ∨ n = 7 ∨ n = 8 := by omega
 rcases this with h | h | h | h | h | h | h | h | h <;> subst h <;> decide +kernel
theorem or_bit (o k : Nat) (h : o < 2 ^ k) (hk : k < 8) : Go.bits .or .i64 (o : Int) (wrap64 (2 ^ k)) = ((o + 2 ^ k : Nat) : Int) := by
 rw [powW k (by omega)]
 have hp : (2 : Nat) ^ k ≤ 2 ^ 8 := Nat.pow_le_pow_right (by decide) (by omega)
 have e1 : ((2 : Int) ^ k) = ((2 ^ k : Nat) : Int) := by rw [Int.natCast_pow]; rfl
 rw [e1, (Go.bits_nat .i64 62 (by decide) wrapsI o (2 ^ k) (by omega) (by omega)).2]
 have := Nat.two_pow_add_eq_or_of_lt h 1
 rw [Nat.mul_one] at this
 rw [Nat.or_comm, ← this, Nat.add_comm]
theorem add_more (ad : Addr) (n m : Nat) (h : 0 < m) : ad.add (n + m) = ⟨(ad.add n).block, (ad.add n).off + m, none⟩ := by
 unfold Addr.add
 rw [if_neg (by omega)]
 by_cases e : n = 0
 ·subst e
  rw [if_pos rfl, Nat.zero_add]
 ·rw [if_neg e, Nat.add_assoc]
theorem part_at {w : World} {A : Option Addr} {n : Nat} {xs : List S81} (h : Kd.C k81 w A n xs) {j : Nat} (hj : j < n) :
  ∃ ad Aq cq, A = some ad ∧ (xs.getD j z81).f0.f2.length ≤ cq ∧ Kd.C k29 w Aq (xs.getD j z81).f0.f2.length (xs.getD j z81).f0.f2 ∧
   w.cell? (ad.add (j * 5)) = some (.int .i64 (xs.getD j z81).f0.f0) ∧ w.cell? ⟨(ad.add (j * 5)).block, (ad.add (j * 5)).off + 1, none⟩ = some (.int .i64 (xs.getD j z81).f0.f1) ∧
   w.cell? ⟨(ad.add (j * 5)).block, (ad.add (j * 5)).off + 2, none⟩ = some (.slice Aq (xs.getD j z81).f0.f2.length cq) ∧ w.cell? ⟨(ad.add (j * 5)).block, (ad.add (j * 5)).off + 3, none⟩ = some (.int .i64 (xs.getD j z81).f1) ∧
   w.cell? ⟨(ad.add (j * 5)).block, (ad.add (j * 5)).off + 4, none⟩ = some (.int .i64 (xs.getD j z81).f2) := by
 obtain ⟨ad, c, e, _, hK, hc0⟩ := Kd.C_get h z81 (j : Int) (by omega) (by omega)
 rw [Int.toNat_natCast] at hK hc0
 obtain ⟨Aq, cq, rfl, hl, hC⟩ := k81_open hK
 refine ⟨ad, Aq, cq, e, hl, hC, ?_, ?_, ?_, ?_, ?_⟩
 ·have := hc0 0 _ rfl
  rwa [Nat.add_zero] at this
 ·have := hc0 1 _ rfl
  rwa [add_more _ _ _ (by omega)] at this
 ·have := hc0 2 _ rfl
  rwa [add_more _ _ _ (by omega)] at this
 ·have := hc0 3 _ rfl
  rwa [add_more _ _ _ (by omega)] at this
 ·have := hc0 4 _ rfl
  rwa [add_more _ _ _ (by omega)] at this
theorem ahead_walk (l : List S81) (g s : Nat) (lt : Int) (A : Option Addr) (c : Nat) (w : World) (q7 : w.cell? ⟨g, 7, none⟩ = some (.slice A l.length c)) (h7 : Kd.C k81 w A l.length l) (hl8 : l.length ≤ 8) (hs : s ≤ 4096) (hq : ∀ q, q ∈ l → 0 ≤ q.f1 ∧ q.f1 ≤ 60 ∧ 0 < q.f2 ∧ q.f2 ≤ 4096) :
  Calls Try.prog 44 #[.pointer (some ⟨g, 0, none⟩), .int .i64 (s : Int), .int .u32 lt] w fun e w' => e = .returned (.int .i64 (aheadN s lt l : Int)) ∧ Below w.heap.size w w' := by
 have huF := Try.underlying29
 have huP := Try.underlying79
 have hup := Try.underlying81
 have hul := Try.underlying77
 have H7 := Zd.mk h7
 have HQ := Zd.mk hq
 clear h7 hq
 go_enter Try.func44, Try.ntmps44
 go_wp2
 go_loopg [7, 15] l.length (fun kq v7 v15 w' => ∃ j : Nat, j + kq = l.length ∧ v15 = .int .i64 (j : Int) ∧ v7 = .int .i64 (aheadN s lt (l.take j) : Int) ∧ Zd (Below w.heap.size w w'))
 case atStart => exact ⟨0, by omega, rfl, rfl, ⟨Below.refl _ _⟩⟩
 case round =>
  obtain ⟨j, hj, rfl, rfl, HB⟩ := hrel
  obtain ⟨WW, rfl⟩ : ∃ W : World, W = wr := ⟨_, rfl⟩
  have HJ := Zd.mk hj
  clear hj
  by_cases hjl : j < l.length
  ·obtain ⟨ad, Aq, cq, e, hcq, hCq, b0, b1, b2, b3, b4⟩ := part_at (Kd.C_below H7.out HB.out) hjl
   subst e
   obtain ⟨p0, p1, p2, p3⟩ := HQ.out (l.getD j z81) (by rw [List.getD_eq_getElem?_getD, List.getElem?_eq_getElem hjl]; exact List.getElem_mem hjl)
   have HTK := Zd.mk (show aheadN s lt (l.take (j + 1)) = aheadN s lt (l.take j) + (if aheadB s lt (l.getD j z81) = true then 2 ^ j else 0) from by
    rw [List.take_add_one, List.getElem?_eq_getElem hjl, Option.toList_some, aheadN_snoc, List.length_take, Nat.min_eq_left (by omega), List.getD_eq_getElem?_getD, List.getElem?_eq_getElem hjl]; rfl)
   have HLT := Zd.mk (show aheadN s lt (l.take j) < 2 ^ j from by have := aheadN_lt s lt (l.take j); rwa [List.length_take, Nat.min_eq_left (by omega)] at this)
   generalize l.getD j z81 = q at *
   have hf2 : ¬ q.f2 = 0 := by omega
   have hw1 : IntKind.u64.wrap q.f1 = q.f1 := u64_id p0 (by omega)
   have hsh : shr .i64 (s : Int) q.f1 = ((s / 2 ^ q.f1.toNat : Nat) : Int) := by
    rw [← shr_small (k := .i64) (x := (s : Int)) (y := q.f1) rfl (by show q.f1 ≤ 64; omega)]
    simp
   have hdv : ((s : Int) / 2 ^ q.f1.toNat) = ((s / 2 ^ q.f1.toNat : Nat) : Int) := by rw [Int.natCast_ediv]; congr 1
   have hr0 : s / 2 ^ q.f1.toNat ≤ 4096 := Nat.le_trans (Nat.div_le_self _ _) hs
   have HAB := Zd.mk (show aheadB s lt q = valueF q.f0 (((s / 2 ^ q.f1.toNat) % q.f2.toNat : Nat) : Int) lt from rfl)
   generalize s / 2 ^ q.f1.toNat = r0 at *
   obtain ⟨m2, hm2⟩ : ∃ m : Nat, q.f2 = (m : Int) := ⟨q.f2.toNat, by omega⟩
   have hrm : Int.tmod (r0 : Int) q.f2 = ((r0 % q.f2.toNat : Nat) : Int) := by rw [hm2, Int.toNat_natCast]; rfl
   have hr1 : r0 % q.f2.toNat ≤ 4096 := Nat.le_trans (Nat.mod_le _ _) hr0
   generalize r0 % q.f2.toNat = r1 at *
   have hw2 : IntKind.i64.wrap (r1 : Int) = (r1 : Int) := (i64_w _).trans (w64n (by omega))
   have hw3 : IntKind.i64.wrap (r0 : Int) = (r0 : Int) := (i64_w _).trans (w64n (by omega))
   clear hm2
   have hjl2 : (j : Int) < (l.length : Int) := by omega
   go_upto_region 5 with fail
   obtain ⟨WB, hWB⟩ : ∃ W : World, W = WW.alloc (.cells #[.int .i64 q.f0.f0, .int .i64 q.f0.f1, .slice Aq q.f0.f2.length cq, .int .i64 q.f1, .int .i64 q.f2] 81) := ⟨_, rfl⟩
   have hbk : WB.heap[WW.heap.size]? = some (.cells #[.int .i64 q.f0.f0, .int .i64 q.f0.f1, .slice Aq q.f0.f2.length cq, .int .i64 q.f1, .int .i64 q.f2] 81 (0, 0)) := by rw [hWB]; exact heap_alloc_new WW _
   have hBB : Below WW.heap.size WW WB := by rw [hWB]; exact below_alloc (Below.refl _ _) _
   rw [← hWB]
   obtain ⟨gb, hgb⟩ : ∃ k, k = WW.heap.size := ⟨_, rfl⟩
   rw [← hgb] at hbk ⊢
   have e0 : WB.cell? ⟨gb, 0, none⟩ = some (.int .i64 q.f0.f0) := (bq_ hbk 0).trans rfl
   have e1 : WB.cell? ⟨gb, 1, none⟩ = some (.int .i64 q.f0.f1) := (bq_ hbk 1).trans rfl
   have e2 : WB.cell? ⟨gb, 2, none⟩ = some (.slice Aq q.f0.f2.length cq) := (bq_ hbk 2).trans rfl
   have e3 : WB.cell? ⟨gb, 3, none⟩ = some (.int .i64 q.f1) := (bq_ hbk 3).trans rfl
   have e4 : WB.cell? ⟨gb, 4, none⟩ = some (.int .i64 q.f2) := (bq_ hbk 4).trans rfl
   have HBB := Zd.mk (HB.out.trans (hBB.mono HB.out.size))
   have HCq := Zd.mk (Kd.C_below hCq hBB)
   clear b0 b1 b2 b3 b4 hWB hgb hbk hBB hCq
   go_still_tail 11, (by kernel_rfl)
   try rw [hdv, hrm]
   change wpList _ _ _ _ _ WB.drew
   have HB2 := Zd.mk (HBB.out.trans (below_drew1 (Below.refl WB.heap.size WB) |>.mono HBB.out.size))
   have HVAL := Zd.mk (HAB.out ▸ Value_calls q.f0 (r1 : Int) lt Aq cq WB.drew (Kd.C_below HCq.out (below_drew1 (Below.refl _ _))) hcq)
   generalize WB.drew = W2 at *
   obtain ⟨b, hb⟩ : ∃ b, b = aheadB s lt q := ⟨_, rfl⟩
   rw [← hb] at HVAL
   have HBQ := Zd.mk hb
   clear hb hsh hdv hrm e0 e1 e2 e3 e4 hw1 hw2 hw3 hf2 p0 p1 p2 p3 hr0 hr1
   cases b
   ·go_wp2_with (go_at_call 62; refine HVAL.out.mono ?_; rintro e w3 ⟨rfl, hB⟩; have HB3 := Zd.mk (HB2.out.trans (hB.mono HB2.out.size)); clear hB)
    go_roundg (gk - 1)
    case measure => have := HJ.out; omega
    case rel =>
     refine ⟨j + 1, by have := HJ.out; omega, by first | rfl | (congr 1; go_num; done), ?_, HB3⟩
     rw [HTK.out, ← HBQ.out]; rfl
   ·go_wp2_with (go_at_call 62; refine HVAL.out.mono ?_; rintro e w3 ⟨rfl, hB⟩; have HB3 := Zd.mk (HB2.out.trans (hB.mono HB2.out.size)); clear hB)
    go_roundg (gk - 1)
    case measure => have := HJ.out; omega
    case rel =>
     refine ⟨j + 1, by have := HJ.out; omega, by first | rfl | (congr 1; go_num; done), ?_, HB3⟩
     rw [HTK.out, ← HBQ.out, if_pos rfl]
     exact congrArg (Value.int .i64) (or_bit _ j HLT.out (by omega))
  ·have e : j = l.length := by have := HJ.out; omega
   subst e
   go_wp2
   go_ret
   exact ⟨by rw [List.take_length]; rfl, HB.out⟩
end Go.Proofs.Ytapejnikpmfddaa.X
namespace Go.Proofs.Ytapejnikpmfddaa.X
open Go.RowKit Go.Proofs.YtapejnikpmfddaaW.PrintWords Go.Proofs.YtapejnikpmfddaaW.PrintLast Go.Proofs.YtapejnikpmfddaaW.PrintMore
open Go.Proofs.Ytapejnikpmfddaa.P
theorem infoU32 : (Try.prog.info? 48).map (fun i => (i.zero, i.size, i.bytes)) = some (some (.int .u32 0), 1, 4) := by kernel_rfl
theorem Grow_nil (m : Int) (w : World) (h0 : 0 < m) (h1 : m < 1000000000) :
  Calls Try.prog 73 #[.slice none 0 0, .int .i64 m] w fun e w' => ∃ v, e = .returned v ∧ Kd.R (Kd.int .u32) 48 w' w.heap.size (fun _ => True) v [] ∧ Below w.heap.size w w' := by
 have hus := Try.underlying22
 have hui := Try.underlying3
 have hnn : ¬ m < 0 := by omega
 go_enter Try.func73, Try.ntmps73
 go_wp2_with ((with_reducible refine gate_builtin (b := .append) (xs := #[.tmp 20, .tmp 21]) rfl ?_); at_builtin; refine Kd.R_append_zeros (Kd.int .u32) (w0 := w) w.heap.size rfl (.tmp 20) (.tmp 21) 22 3 48 (.int .u32 0) 4 rfl hus hui infoU32 rfl (by decide) (by decide) (.slice none 0 0) [] 0 (kx := .i64) m (fun _ => True) rfl rfl rfl (fun _ _ => trivial) (Kd.R_nil _ _ _ _ _) (by omega) (Below.refl _ _) (Nat.le_refl _) (by simp; omega) ?_; intro v1 w1 hR hB hg hat; obtain ⟨A1, c1, hv1⟩ := Kd.R_slice hR; subst hv1; have HR := Zd.mk hR; have HB := Zd.mk hB; clear hR hB hg hat)
 go_ret
 exact ⟨_, rfl, by have := Kd.R_take (m := 0) HR.out (by simp); simpa using this, HB.out⟩
theorem Concat_calls (gb : Nat) (A1 A2 : Option Addr) (c1 c2 : Nat) (l1 l2 : List Int) (w : World) (hb : w.heap[gb]? = some (.cells #[.slice A1 l1.length c1, .slice A2 l2.length c2] 22 (0, 0))) (hr1 : Kd.C (Kd.int .u32) w A1 l1.length l1) (hr2 : Kd.C (Kd.int .u32) w A2 l2.length l2) (h0 : 0 < l1.length + l2.length) (h1 : l1.length + l2.length < 1000000000) :
  Calls Try.prog 54 #[.slice (some ⟨gb, 0, none⟩) 2 2] w fun e w' => ∃ v, e = .returned v ∧ Kd.R (Kd.int .u32) 48 w' w.heap.size (fun _ => True) v (l1 ++ l2) ∧ Below w.heap.size w w' := by
 have hus := Try.underlying22
 have huss := Try.underlying111
 have hui := Try.underlying3
 have hgb : gb < w.heap.size := blk_lt hb
 have x0 : w.cell? ⟨gb, 0, none⟩ = some (.slice A1 l1.length c1) := (bq_ hb 0).trans rfl
 have x1 : w.cell? ⟨gb, 1, none⟩ = some (.slice A2 l2.length c2) := (bq_ hb 1).trans rfl
 have R1 := Zd.mk hr1
 have R2 := Zd.mk hr2
 have X0 := Zd.mk x0
 have X1 := Zd.mk x1
 clear hb hr1 hr2 x0 x1
 go_enter Try.func54, Try.ntmps54
 go_wp2
 go_loopg [3, 11] 2 (fun kq v3 v11 w' => (kq = 2 ∧ v3 = .int .i64 0 ∧ v11 = .int .i64 0 ∧ w' = w) ∨ (kq = 1 ∧ v3 = .int .i64 (l1.length : Int) ∧ v11 = .int .i64 1 ∧ w' = w) ∨ (kq = 0 ∧ v3 = .int .i64 ((l1.length : Int) + (l2.length : Int)) ∧ v11 = .int .i64 2 ∧ w' = w))
 case atStart => exact .inl ⟨rfl, rfl, rfl, rfl⟩
 case round =>
  rcases hrel with ⟨rfl, rfl, rfl, rfl⟩ | ⟨rfl, rfl, rfl, rfl⟩ | ⟨rfl, rfl, rfl, rfl⟩
  ·have y0 := X0.out
   have hn : ¬ ((l1.length : Int) < 0) := by omega
   go_wp2
   go_roundg 1
   case measure => omega
   case rel => exact .inr (.inl ⟨rfl, by first | rfl | (simp; done), rfl, rfl⟩)
  ·have y1 := X1.out
   have hn : ¬ ((l1.length : Int) + (l2.length : Int) < 0) := by omega
   go_wp2
   go_roundg 0
   case measure => omega
   case rel => exact .inr (.inr ⟨rfl, by first | rfl | (simp; done), rfl, rfl⟩)
  ·obtain ⟨WW, rfl⟩ : ∃ W : World, W = wr := ⟨_, rfl⟩
   go_wp2_with (go_at_call 73; refine (Grow_nil _ _ (by omega) (by omega)).mono ?_; rintro e w1 ⟨v, rfl, hR, hB⟩; have HR := Zd.mk hR; have HB := Zd.mk hB; clear hR hB)
   go_loopg [6, 27] 2 (fun kq v6 v27 w' => Zd (Below WW.heap.size WW w') ∧ ((kq = 2 ∧ v27 = .int .i64 0 ∧ Zd (Kd.R (Kd.int .u32) 48 w' WW.heap.size (fun _ => True) v6 [])) ∨ (kq = 1 ∧ v27 = .int .i64 1 ∧ Zd (Kd.R (Kd.int .u32) 48 w' WW.heap.size (fun _ => True) v6 l1)) ∨ (kq = 0 ∧ v27 = .int .i64 2 ∧ Zd (Kd.R (Kd.int .u32) 48 w' WW.heap.size (fun _ => True) v6 (l1 ++ l2)))))
   case atStart => exact ⟨HB, .inl ⟨rfl, rfl, HR⟩⟩
   case round =>
    obtain ⟨HBV, hrel⟩ := hrel
    rcases hrel with ⟨rfl, rfl, HV⟩ | ⟨rfl, rfl, HV⟩ | ⟨rfl, rfl, HV⟩
    ·have y0 := (HBV.out.cell (World.block_lt_of_cell? _ _ X0.out)).trans X0.out
     go_wp2_with (first | ((with_reducible refine gate_builtin (b := .append) (xs := #[.tmp 31, .tmp 32]) rfl ?_); at_builtin; refine Kd.R_append_row (Value.int .u32) (0 : Int) (h1 := fun _ => rfl) (w0 := WW) WW.heap.size rfl (.tmp 31) (.tmp 32) 22 48 (.int .u32 0) 4 rfl hus infoU32 rfl (by decide) u6 [] l1 A1 l1.length c1 (fun _ => True) rfl rfl (fun _ _ => trivial) HV.out (Kd.C_below R1.out HBV.out) HBV.out HBV.out.size (by first | omega | (simp; omega)) ?_; intro v1 w2 hR hB hg hat; have HV2 := Zd.mk hR; have HBV2 := Zd.mk hB; clear hR hB hg hat))
     go_roundg 1
     case measure => omega
     case rel => exact ⟨HBV2, .inr (.inl ⟨rfl, rfl, HV2⟩)⟩
    ·have y1 := (HBV.out.cell (World.block_lt_of_cell? _ _ X1.out)).trans X1.out
     go_wp2_with (first | ((with_reducible refine gate_builtin (b := .append) (xs := #[.tmp 31, .tmp 32]) rfl ?_); at_builtin; refine Kd.R_append_row (Value.int .u32) (0 : Int) (h1 := fun _ => rfl) (w0 := WW) WW.heap.size rfl (.tmp 31) (.tmp 32) 22 48 (.int .u32 0) 4 rfl hus infoU32 rfl (by decide) u6 l1 l2 A2 l2.length c2 (fun _ => True) rfl rfl (fun _ _ => trivial) HV.out (Kd.C_below R2.out HBV.out) HBV.out HBV.out.size (by first | omega | (simp; omega)) ?_; intro v1 w2 hR hB hg hat; have HV2 := Zd.mk hR; have HBV2 := Zd.mk hB; clear hR hB hg hat))
     go_roundg 0
     case measure => omega
     case rel => exact ⟨HBV2, .inr (.inr ⟨rfl, rfl, HV2⟩)⟩
    ·go_wp2
     go_ret
     exact ⟨_, rfl, HV.out, HBV.out⟩
end Go.Proofs.Ytapejnikpmfddaa.X
namespace Go.Proofs.Ytapejnikpmfddaa.P
open Go.RowKit Go.Proofs.YtapejnikpmfddaaW.PrintWords Go.Proofs.YtapejnikpmfddaaW.PrintLast Go.Proofs.YtapejnikpmfddaaW.PrintMore
attribute [local go_sem] max2_int min2_int max_two min_two max_three min_three max_four min_four

def slices_Index_int_int.l0 : Nat → List Int → Int → Int → Int → Option (Int)
 | 0, _, _, _, _ => none
 | k + 1, x0, x1, x7, x8 => if x8 < x7 then (if 0 ≤ x8 then (if x8 < (x0.length : Int) then (if x1 = (rd x0 x8) then (some x8) else (slices_Index_int_int.l0 k x0 x1 x7 (wrap64 (x8 + 1)))) else (none)) else (none)) else (some (-1))
def slices_Index_int_int.f (k : Nat) (l0 : List Int) (a1 : Int) : Option (Int) := slices_Index_int_int.l0 k l0 a1 (l0.length : Int) 0
theorem slices_Index_int_int.calls (k : Nat) (A0 : Option Addr) (c0 : Nat) (l0 : List Int) (a1 : Int) (r : Int) (w : World) (hr0 : Kd.C (Kd.int .i64) w A0 l0.length l0) (hc0 : l0.length ≤ c0) (h : slices_Index_int_int.f k l0 a1 = some r) :
  Calls Try.prog 53 #[.slice A0 l0.length c0, .int .i64 a1] w fun e w' => e = .returned (.int .i64 r) ∧ Drawn0 w w' := by
 have HR0 := Zd.mk hr0
 have HC0 := Zd.mk hc0
 clear hr0 hc0
 have H : (slices_Index_int_int.l0 k l0 a1 (l0.length : Int) 0) = some r := h
 clear h
 have H' := Zd.mk H
 clear H
 go_enter Try.func53, Try.ntmps53
 go_wp2
 go_loopg [8] k (fun kq v8 w' => ∃ (x8_1 : Int), v8 = .int .i64 x8_1 ∧ Zd (slices_Index_int_int.l0 kq l0 a1 (l0.length : Int) x8_1 = some r) ∧ Zd (kq ≤ k) ∧ Drawn0 w w')
 case atStart => exact ⟨(0), (by first | rfl | (simp; done) | (simp [*]; done)), H', ⟨Nat.le_refl _⟩, by repeat (first | exact Drawn0.refl _ | apply Drawn0.step)⟩
 case round =>
  clear H'
  try clear p2
  obtain ⟨x8_1, rfl, HA, HK1, ⟨m1, rfl⟩⟩ := hrel
  cases gk with
  | zero => exact absurd HA.out (by simp [slices_Index_int_int.l0])
  | succ k1 =>
   have H := HA.out
   clear HA
   simp only [slices_Index_int_int.l0] at H
   by_cases c3 : x8_1 < (l0.length : Int)
   ·rw [if_pos c3] at H
    have c3b0 : decide (x8_1 < (l0.length : Int)) = true := decide_eq_true c3
    clear c3
    by_cases c4 : 0 ≤ x8_1
    ·rw [if_pos c4] at H
     have c4b0 : decide (0 ≤ x8_1) = true := decide_eq_true c4
     clear c4
     by_cases c5 : x8_1 < (l0.length : Int)
     ·rw [if_pos c5] at H
      have c5b0 : decide (x8_1 < (l0.length : Int)) = true := decide_eq_true c5
      clear c5
      by_cases c6 : a1 = (rd l0 x8_1)
      ·rw [if_pos c6] at H
       have c6b0 : (a1 == (rd l0 x8_1)) = true := beq_iff_eq.mpr c6
       have c6b1 : (a1 != (rd l0 x8_1)) = false := bne_eq_false_iff_eq.mpr c6
       clear c6
       obtain rfl := Option.some.inj H
       have p210 : 0 ≤ (x8_1 : Int) := of_decide_eq_true (by first | (with_reducible assumption) | assumption)
       have q210 : x8_1 < (l0.length : Int) := of_decide_eq_true (by first | (with_reducible assumption) | assumption)
       obtain ⟨ad210, e210, hx210_0⟩ := Kd.at_int HR0.out x8_1 p210 q210
       cases e210
       replace p210 := eq_true p210
       replace q210 := eq_true q210
       go_wp2
       go_ret
       exact ⟨by first | rfl | (simp; done) | (simp [*]; done), by repeat (first | exact Drawn0.refl _ | apply Drawn0.step)⟩
      ·rw [if_neg c6] at H
       have c6b0 : (a1 == (rd l0 x8_1)) = false := beq_eq_false_iff_ne.mpr c6
       have c6b1 : (a1 != (rd l0 x8_1)) = true := bne_iff_ne.mpr c6
       have H' := Zd.mk H
       clear H
       have p210 : 0 ≤ (x8_1 : Int) := of_decide_eq_true (by first | (with_reducible assumption) | assumption)
       have q210 : x8_1 < (l0.length : Int) := of_decide_eq_true (by first | (with_reducible assumption) | assumption)
       obtain ⟨ad210, e210, hx210_0⟩ := Kd.at_int HR0.out x8_1 p210 q210
       cases e210
       replace p210 := eq_true p210
       replace q210 := eq_true q210
       go_wp2
       go_roundg k1
       case measure => have := HK1.out; omega
       case rel => exact ⟨(wrap64 (x8_1 + 1)), (by first | rfl | (simp; done) | (simp [*]; done)), H', ⟨by have := HK1.out; omega⟩, by repeat (first | exact Drawn0.refl _ | apply Drawn0.step)⟩
     ·rw [if_neg c5] at H
      exact absurd H (by simp)
    ·rw [if_neg c4] at H
     exact absurd H (by simp)
   ·rw [if_neg c3] at H
    have c3b0 : decide (x8_1 < (l0.length : Int)) = false := decide_eq_false c3
    clear c3
    obtain rfl := Option.some.inj H
    go_wp2
    go_ret
    exact ⟨by first | rfl | (simp; done) | (simp [*]; done), by repeat (first | exact Drawn0.refl _ | apply Drawn0.step)⟩

def slices_Contains_int_int.f (k : Nat) (l0 : List Int) (a1 : Int) : Option (Bool) := (slices_Index_int_int.f k l0 a1).bind fun t211 => (some (decide (t211 ≥ 0)))
theorem slices_Contains_int_int.calls (k : Nat) (A0 : Option Addr) (c0 : Nat) (l0 : List Int) (a1 : Int) (r : Bool) (w : World) (hr0 : Kd.C (Kd.int .i64) w A0 l0.length l0) (hc0 : l0.length ≤ c0) (h : slices_Contains_int_int.f k l0 a1 = some r) :
  Calls Try.prog 28 #[.slice A0 l0.length c0, .int .i64 a1] w fun e w' => e = .returned (.bool r) ∧ Drawn0 w w' := by
 have HR0 := Zd.mk hr0
 have HC0 := Zd.mk hc0
 clear hr0 hc0
 have H : ((slices_Index_int_int.f k l0 a1).bind fun t211 => (some (decide (t211 ≥ 0)))) = some r := h
 clear h
 replace H := Option.bind_eq_some_iff.mp H
 obtain ⟨t211, A30, H⟩ := H
 replace H : (some (decide (t211 ≥ 0))) = some r := H
 have A3 := Zd.mk A30
 clear A30
 obtain rfl := Option.some.inj H
 go_enter Try.func28, Try.ntmps28
 go_wp2_with (first | ((with_reducible refine gate_callee (f := 53) rfl ?_); refine goesL_ (some 7) rfl rfl Try.func53 (by kernel_rfl) rfl #[.slice A0 l0.length c0, .int .i64 a1] rfl (by (try simp only [List.map_toArray, List.map_cons, List.map_nil]); first | done | rfl | (simp only [List.length_drop, List.length_take]; rfl)) ?_; (with_reducible refine (slices_Index_int_int.calls k _ _ l0 a1 t211 _ ?side1 ?side2 A3.out).mono ?_); (case side1 => repeat (first | exact HR0.out | (with_reducible refine Kd.C_alloc ?_ _) | (with_reducible refine Kd.C_drewN ?_ _) | (with_reducible refine Kd.C_drew ?_))); (case side2 => exact HC0.out); rintro e w' ⟨rfl, ⟨nd, rfl⟩⟩; refine ⟨_, rfl, ?_⟩))
 go_ret
 exact ⟨by first | rfl | (simp; done) | (simp [*]; done), by repeat (first | exact Drawn0.refl _ | apply Drawn0.step)⟩

def formula_MayWord.f (l0_0 : List Int) (l0_1 : List Int) : Option (Bool) := if (l0_0.length : Int) ≤ 3000 then (if (l0_1.length : Int) ≥ 1 then (some (decide ((l0_1.length : Int) ≤ 27000))) else (some false)) else (some false)
theorem formula_MayWord.calls (A0_0 : Option Addr) (c0_0 : Nat) (l0_0 : List Int) (A0_1 : Option Addr) (c0_1 : Nat) (l0_1 : List Int) (r : Bool) (w : World) (hr0_0 : Kd.C (Kd.int .u32) w A0_0 l0_0.length l0_0) (hc0_0 : l0_0.length ≤ c0_0) (hr0_1 : Kd.C (Kd.int .u32) w A0_1 l0_1.length l0_1) (hc0_1 : l0_1.length ≤ c0_1) (h : formula_MayWord.f l0_0 l0_1 = some r) :
  Calls Try.prog 30 #[.agg #[.slice A0_0 l0_0.length c0_0, .slice A0_1 l0_1.length c0_1]] w fun e w' => e = .returned (.bool r) ∧ Below w.heap.size w w' := by
 have hu40 := Try.underlying40
 have HR0_0 := Zd.mk hr0_0
 have HC0_0 := Zd.mk hc0_0
 clear hr0_0 hc0_0
 have HR0_1 := Zd.mk hr0_1
 have HC0_1 := Zd.mk hc0_1
 clear hr0_1 hc0_1
 have HB := Zd.mk (Below.refl w.heap.size w)
 have H : (if (l0_0.length : Int) ≤ 3000 then (if (l0_1.length : Int) ≥ 1 then (some (decide ((l0_1.length : Int) ≤ 27000))) else (some false)) else (some false)) = some r := h
 clear h
 by_cases c2 : (l0_0.length : Int) ≤ 3000
 ·rw [if_pos c2] at H
  have c2b0 : decide ((l0_0.length : Int) ≤ 3000) = true := decide_eq_true c2
  have c2b1 : decide (l0_0.length ≤ 3000) = true := decide_eq_true (by omega)
  clear c2
  by_cases c3 : (l0_1.length : Int) ≥ 1
  ·rw [if_pos c3] at H
   have c3b0 : decide (1 ≤ (l0_1.length : Int)) = true := decide_eq_true c3
   have c3b1 : decide (1 ≤ l0_1.length) = true := decide_eq_true (by omega)
   clear c3
   obtain rfl := Option.some.inj H
   go_enter Try.func30, Try.ntmps30
   go_wp2_with (first | ((with_reducible refine gate_dst (N := 1) rfl ?_); (try (refine gate_guard (by rfl) ?_; dsimp only)); refine box_event ?hg (N := 1) ?hd (cs := #[.slice A0_0 l0_0.length c0_0, .slice A0_1 l0_1.length c0_1]) (t := 40) ?hr ?_; (case hd => rfl); (case hg => rfl); (case hr => first | (go_simp; done) | (go_simp; rfl)); intro gb212 hg w4 hbox hb; have n0_ := Zd.mk (bt_ B_ hb); have n1_ := Zd.mk (hbox); have n2_ := Zd.mk ((by rw [hg]; exact (bs_ B_) : w.heap.size ≤ gb212)); have n3_ := Zd.mk ((by rw [hg]; exact (bs_ B_) : w.heap.size ≤ gb212)); clear HB; have HB := n0_; have BK212 := n1_; have GW212 := n2_; have GE212 := n3_; clear n0_ n1_ n2_ n3_; clear hb hbox hg; have hcz5_0 : w4.cell? ⟨gb212, 0, none⟩ = some (.slice A0_0 l0_0.length c0_0) := (bq_ BK212.out 0).trans rfl; have hcz5_1 : w4.cell? ⟨gb212, 1, none⟩ = some (.slice A0_1 l0_1.length c0_1) := (bq_ BK212.out 1).trans rfl; have hfz5_0 := bz_ BK212.out 0; have hfz5_1 := bz_ BK212.out 1))
   go_ret
   exact ⟨by first | rfl | (simp [errW_none, errW_some] <;> rfl) | (simp [*, errW_none, errW_some] <;> rfl), B_⟩
  ·rw [if_neg c3] at H
   have c3b0 : decide (1 ≤ (l0_1.length : Int)) = false := decide_eq_false c3
   have c3b1 : decide (1 ≤ l0_1.length) = false := decide_eq_false (by omega)
   clear c3
   obtain rfl := Option.some.inj H
   go_enter Try.func30, Try.ntmps30
   go_wp2_with (first | ((with_reducible refine gate_dst (N := 1) rfl ?_); (try (refine gate_guard (by rfl) ?_; dsimp only)); refine box_event ?hg (N := 1) ?hd (cs := #[.slice A0_0 l0_0.length c0_0, .slice A0_1 l0_1.length c0_1]) (t := 40) ?hr ?_; (case hd => rfl); (case hg => rfl); (case hr => first | (go_simp; done) | (go_simp; rfl)); intro gb212 hg w6 hbox hb; have n0_ := Zd.mk (bt_ B_ hb); have n1_ := Zd.mk (hbox); have n2_ := Zd.mk ((by rw [hg]; exact (bs_ B_) : w.heap.size ≤ gb212)); have n3_ := Zd.mk ((by rw [hg]; exact (bs_ B_) : w.heap.size ≤ gb212)); clear HB; have HB := n0_; have BK212 := n1_; have GW212 := n2_; have GE212 := n3_; clear n0_ n1_ n2_ n3_; clear hb hbox hg; have hcz7_0 : w6.cell? ⟨gb212, 0, none⟩ = some (.slice A0_0 l0_0.length c0_0) := (bq_ BK212.out 0).trans rfl; have hcz7_1 : w6.cell? ⟨gb212, 1, none⟩ = some (.slice A0_1 l0_1.length c0_1) := (bq_ BK212.out 1).trans rfl; have hfz7_0 := bz_ BK212.out 0; have hfz7_1 := bz_ BK212.out 1))
   go_ret
   exact ⟨by first | rfl | (simp [errW_none, errW_some] <;> rfl) | (simp [*, errW_none, errW_some] <;> rfl), B_⟩
 ·rw [if_neg c2] at H
  have c2b0 : decide ((l0_0.length : Int) ≤ 3000) = false := decide_eq_false c2
  have c2b1 : decide (l0_0.length ≤ 3000) = false := decide_eq_false (by omega)
  clear c2
  obtain rfl := Option.some.inj H
  go_enter Try.func30, Try.ntmps30
  go_wp2_with (first | ((with_reducible refine gate_dst (N := 1) rfl ?_); (try (refine gate_guard (by rfl) ?_; dsimp only)); refine box_event ?hg (N := 1) ?hd (cs := #[.slice A0_0 l0_0.length c0_0, .slice A0_1 l0_1.length c0_1]) (t := 40) ?hr ?_; (case hd => rfl); (case hg => rfl); (case hr => first | (go_simp; done) | (go_simp; rfl)); intro gb212 hg w8 hbox hb; have n0_ := Zd.mk (bt_ B_ hb); have n1_ := Zd.mk (hbox); have n2_ := Zd.mk ((by rw [hg]; exact (bs_ B_) : w.heap.size ≤ gb212)); have n3_ := Zd.mk ((by rw [hg]; exact (bs_ B_) : w.heap.size ≤ gb212)); clear HB; have HB := n0_; have BK212 := n1_; have GW212 := n2_; have GE212 := n3_; clear n0_ n1_ n2_ n3_; clear hb hbox hg; have hcz9_0 : w8.cell? ⟨gb212, 0, none⟩ = some (.slice A0_0 l0_0.length c0_0) := (bq_ BK212.out 0).trans rfl; have hcz9_1 : w8.cell? ⟨gb212, 1, none⟩ = some (.slice A0_1 l0_1.length c0_1) := (bq_ BK212.out 1).trans rfl; have hfz9_0 := bz_ BK212.out 0; have hfz9_1 := bz_ BK212.out 1))
  go_ret
  exact ⟨by first | rfl | (simp [errW_none, errW_some] <;> rfl) | (simp [*, errW_none, errW_some] <;> rfl), B_⟩

end Go.Proofs.Ytapejnikpmfddaa.P
