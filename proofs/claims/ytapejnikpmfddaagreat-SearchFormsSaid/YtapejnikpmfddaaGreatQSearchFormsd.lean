/- A part of the claim SearchForms. -/
import Derived.Test.YtapejnikpmfddaaGreatQSearchFormsc
set_option linter.unusedVariables false
set_option linter.unusedSimpArgs false
set_option maxHeartbeats 8000000
set_option maxRecDepth 100000
namespace Go.Proofs.YtapejnikpmfddaaGreat.X
open Go.RowKit Go.Proofs.aI.bM Go.Proofs.aI.dG Go.Proofs.aI.dM
open Go.Proofs.YtapejnikpmfddaaGreat.P Go.Proofs.YtapejnikpmfddaaGreat.gY
mutual
theorem adJ (ls : List Int) (b : Nat) : ∀ s : ak, Po ls b s
 | ⟨op, m, kids⟩ => aou ls b ⟨op, m, kids⟩ (adK ls b kids)
theorem adK (ls : List Int) (b : Nat) : ∀ (l : List ak) (k : ak), k ∈ l → Po ls b k
 | [], k, hk => by simp at hk
 | a :: r, k, hk => by
  rcases List.mem_cons.1 hk with h | h
  ·rw [h];exact adJ ls b a
  ·exact adK ls b r k h
end
def xH (st lp : List Int) : Bool := decide (st.length ≤ 3000 ∧ 1 ≤ lp.length ∧ lp.length ≤ 27000)
theorem UT (st lp : List Int) : EY.f st lp = some (xH st lp) := by
 unfold EY.f xH;split
 ·split
  ·congr 1
   rw [decide_eq_decide];omega
  ·rw [decide_eq_false];omega
 ·rw [decide_eq_false];omega
theorem aoB {w w' : World} {g n : Nat} {l : List Bool} (h : tK w' g l) (hl : l.length = n) (hg : w.heap.size ≤ g) (hn : n < 1000000000) : Kd.R Kd.bool 4 w' w.heap.size (fun _ => True) (.slice (some ⟨g, 0, none⟩) n n) l := by
 refine Kd.vY ?_ (fun _ _ => trivial);rw [hl];refine ⟨by simp [encs, hl], .inr ⟨g, n, (wo l).toArray, rfl, hg, h, Nat.le_refl _, by simp [maxLen]; omega, by simp [wo, hl], ?_⟩⟩;simp [wo, encs, hl];rw [List.take_of_length_le (by simp [hl])]
theorem aoC (w : World) (A : Option Addr) (n c b : Nat) : Ad (w.alloc (.cells #[.slice A n c, .int .i64 (b : Int)] 96)) w.heap.size A n c b := heap_alloc_new _ _
def Ii (s : ak) (st lp : List Int) : List Bool := if bW s = 0 ∧ xH st lp = true then mH (st ++ lp) st.length s else []
theorem aoD {s : ak} (h : bW s = 0) : cO s = true := by
 unfold bW at h;split at h
 ·split at h
  ·assumption
  ·simp at h
 ·simp at h
theorem aoE (s : ak) (st lp : List Int) (A : Option Addr) (cp : Nat) (A1 A2 : Option Addr) (c1 c2 : Nat) (w : World) (hr : Kd.C bK w A s.f2.length s.f2) (hc : s.f2.length ≤ cp) (hr1 : Kd.C (Kd.int .u32) w A1 st.length st) (hc1 : st.length ≤ c1) (hr2 : Kd.C (Kd.int .u32) w A2 lp.length lp) (hc2 : lp.length ≤ c2) :
  Calls Tryz.prog 36 #[.agg #[.int .i64 s.f0, .int .i64 s.f1, .slice A s.f2.length cp], .agg #[.slice A1 st.length c1, .slice A2 lp.length c2]] w fun e w' => ∃ yR : Value, e = .returned yR ∧ Kd.R Kd.bool 4 w' w.heap.size (fun _ => True) yR (Ii s st lp) ∧ Below w.heap.size w w' := by
 have jm := Tryz.underlying29;have uO := Tryz.underlying27;have huW := Tryz.underlying47;have huR := Tryz.underlying96;have jf := Tryz.underlying57;have yK := Tryz.underlying22;have avd := Tryz.underlying116;obtain ⟨W2, hW2⟩ : ∃ W2, W2 = (w.alloc (.cells #[.int .i64 s.f0, .int .i64 s.f1, .slice A s.f2.length cp] 29)).alloc (.cells #[.slice A1 st.length c1, .slice A2 lp.length c2] 47) := ⟨_, rfl⟩;have hB2 : Below w.heap.size w W2 := by rw [hW2]; exact aW (aW (Below.refl _ _) _) _
 have hb1 : W2.heap[w.heap.size]? = some (.cells #[.int .i64 s.f0, .int .i64 s.f1, .slice A s.f2.length cp] 29 (0, 0)) := by rw [hW2]; exact bf (heap_alloc_new w _) _
 have hb2 : W2.heap[w.heap.size + 1]? = some (.cells #[.slice A1 st.length c1, .slice A2 lp.length c2] 47 (0, 0)) := by
  rw [hW2];have := heap_alloc_new (w.alloc (.cells #[.int .i64 s.f0, .int .i64 s.f1, .slice A s.f2.length cp] 29)) (.cells #[.slice A1 st.length c1, .slice A2 lp.length c2] 47);simpa using this
 have UU := Zd.mk (Uz s A cp W2 (Kd.aQ hr hB2) hc);have HW2 := Zd.mk hW2;have x0 : W2.cell? ⟨w.heap.size, 0, none⟩ = some (.int .i64 s.f0) := (aj hb1 0).trans rfl;have x1 : W2.cell? ⟨w.heap.size, 1, none⟩ = some (.int .i64 s.f1) := (aj hb1 1).trans rfl;have x2 : W2.cell? ⟨w.heap.size, 2, none⟩ = some (.slice A s.f2.length cp) := (aj hb1 2).trans rfl;have HB2 := Zd.mk hB2;have qP := Zd.mk hb1;have kI := Zd.mk hb2;have HRR := Zd.mk hr;have xI := Zd.mk (show Ii s st lp = if bW s = 0 ∧ xH st lp = true then mH (st ++ lp) st.length s else [] from rfl);have tN := Zd.mk (Kd.aQ hr1 hB2);have tF := Zd.mk (Kd.aQ hr2 hB2);have HMS := Zd.mk (@aoD s);clear hb1 hb2 hr hr1 hr2;generalize bW s = mv at *;by_cases hm : mv = 0
 ·have em : (mv != 0) = false := by rw [hm]; rfl
  cases hw : xH st lp with
  | false =>
   have HX := Zd.mk (show Ii s st lp = [] from by rw [xI.out, hw, if_neg (by simp)]);have UW := Zd.mk ((UT st lp).trans (by rw [hw]));clear hw;go_enter Tryz.func36, Tryz.ntmps36;go_upto_region 1 with fail
   rw [← hW2];clear hW2 hB2;go_wp2_with (first | (go_at_call 37; refine UU.out.mono ?_; rintro e w3 ⟨rfl, hB3⟩; have HB3 := Zd.mk hB3; have sD := Zd.mk ((hB3.block _ (aT kI.out)).trans kI.out); have y0 := (aj sD.out 0).trans rfl; have y1 := (aj sD.out 1).trans rfl; clear hB3) | (go_at_call 35; refine (EY.calls A1 c1 st A2 c2 lp false _ (Kd.aQ tN.out HB3.out) hc1 (Kd.aQ tF.out HB3.out) hc2 UW.out).mono ?_; rintro e w4 ⟨rfl, hB4⟩; have bQ := Zd.mk hB4; clear hB4));go_ret;exact ⟨_, rfl, by rw [HX.out]; exact Kd.lK _ _ _ _ _, (HB2.out.trans (HB3.out.mono HB2.out.size)).trans (bQ.out.mono (Nat.le_trans HB2.out.size HB3.out.size))⟩
  | true =>
   have hwp : st.length ≤ 3000 ∧ 1 ≤ lp.length ∧ lp.length ≤ 27000 := of_decide_eq_true hw;have HX := Zd.mk (show Ii s st lp = mH (st ++ lp) st.length s from by rw [xI.out, hw, if_pos ⟨hm, rfl⟩]);have UW := Zd.mk ((UT st lp).trans (by rw [hw]));have Ps := Zd.mk (HMS.out hm);clear hw;go_enter Tryz.func36, Tryz.ntmps36;go_upto_region 1 with fail
   rw [← hW2];clear hW2 hB2;go_upto_region 3 with (first | (go_at_call 37; refine UU.out.mono ?_; rintro e w3 ⟨rfl, hB3⟩; have HB3 := Zd.mk hB3; have sD := Zd.mk ((hB3.block _ (aT kI.out)).trans kI.out); have adL := Zd.mk ((hB3.block _ (aT qP.out)).trans qP.out); have y0 := (aj sD.out 0).trans rfl; have y1 := (aj sD.out 1).trans rfl; clear hB3) | (go_at_call 35; refine (EY.calls A1 c1 st A2 c2 lp true _ (Kd.aQ tN.out HB3.out) hc1 (Kd.aQ tF.out HB3.out) hc2 UW.out).mono ?_; rintro e w4 ⟨rfl, hB4⟩; have bQ := Zd.mk hB4; have Aj := Zd.mk ((hB4.block _ (aT sD.out)).trans sD.out); have De := Zd.mk ((hB4.block _ (aT adL.out)).trans adL.out); have z0 := (aj Aj.out 0).trans rfl; have z1 := (aj Aj.out 1).trans rfl; clear hB4))
   have Ij := Zd.mk (Kd.aQ tN.out (HB3.out.trans (bQ.out.mono HB3.out.size)));have Pt := Zd.mk (Kd.aQ tF.out (HB3.out.trans (bQ.out.mono HB3.out.size)));have aoF := Zd.mk (aow w4.heap.size A1 A2 c1 c2 st lp (w4.drew.alloc (.cells #[.slice A1 st.length c1, .slice A2 lp.length c2] 22)) (heap_alloc_new w4.drew _) (Kd.Bf (Kd.JI Ij.out) _) (Kd.Bf (Kd.JI Pt.out) _) ag ag);have hb4 : Below w4.heap.size w4 (w4.drew.alloc (.cells #[.slice A1 st.length c1, .slice A2 lp.length c2] 22)) := aW (bV (Below.refl _ _)) _;have UX := Zd.mk hb4;have Pv : w4.cell? ⟨w.heap.size + 1, 0, none⟩ = some (.slice A1 st.length c1) := (aj Aj.out 0).trans rfl;have z1a : w4.cell? ⟨w.heap.size + 1, 1, none⟩ = some (.slice A2 lp.length c2) := (aj Aj.out 1).trans rfl;have z0b : (w4.drew.alloc (.cells #[.slice A1 st.length c1, .slice A2 lp.length c2] 22)).cell? ⟨w.heap.size + 1, 0, none⟩ = some (.slice A1 st.length c1) := (UX.out.cell (World.block_lt_of_cell? _ _ Pv)).trans Pv;have z0c : (w4.alloc (.cells #[.slice A1 st.length c1, .slice A2 lp.length c2] 22)).cell? ⟨w.heap.size + 1, 0, none⟩ = some (.slice A1 st.length c1) := ((aW (Below.refl _ _) _ : Below w4.heap.size w4 _).cell (World.block_lt_of_cell? _ _ Pv)).trans Pv;clear hb4;go_cut [5] from 14 to 24 (fun v5 wx => ∃ rb A5 c5, v5 = .pointer (some ⟨rb, 0, none⟩) ∧ Zd (Ad wx rb A5 (st.length + lp.length) c5 st.length) ∧ Zd (Kd.C (Kd.int .u32) wx A5 (st.length + lp.length) (st ++ lp)) ∧ Zd (Below w4.heap.size w4 wx))
   case first =>
    go_region_with (go_at_call 54; refine aoF.out.mono ?_; rintro e w5 ⟨v5, rfl, Br, dJ⟩; obtain ⟨A5, c5, e5⟩ := Kd.vX Br; subst e5; have UY := Zd.mk Br; have cZ := Zd.mk (UX.out.trans (dJ.mono UX.out.size)); have aoG := Zd.mk ((cZ.out.block _ (aT Aj.out)).trans Aj.out); have q0 : w5.cell? ⟨w.heap.size + 1, 0, none⟩ = some (.slice A1 st.length c1) := (aj aoG.out 0).trans rfl; clear Br dJ)
    all_goals (
     go_wp2_with fail
     go_meet;exact ⟨_, A5, c5, rfl, ⟨aoC w5 A5 (st.length + lp.length) c5 st.length⟩, ⟨Kd.Bf (by have := (Kd.pI UY.out).2.2; rwa [List.length_append] at this) _⟩, ⟨cZ.out.trans (aW (Below.refl _ _) _ |>.mono cZ.out.size)⟩⟩)
   case rest =>
    obtain ⟨rb, A5, c5, rfl, HIR, HCC, cZ⟩ := hcut;have UZ : Below w.heap.size w wc := HB2.out.trans ((HB3.out.trans ((bQ.out.trans (cZ.out.mono bQ.out.size)).mono HB3.out.size)).mono HB2.out.size);have EZ := Zd.mk ((cZ.out.block _ (aT De.out)).trans De.out);have t0 : wc.cell? ⟨w.heap.size, 0, none⟩ = some (.int .i64 s.f0) := (aj EZ.out 0).trans rfl;have t1 : wc.cell? ⟨w.heap.size, 1, none⟩ = some (.int .i64 s.f1) := (aj EZ.out 1).trans rfl;have t2 : wc.cell? ⟨w.heap.size, 2, none⟩ = some (.slice A s.f2.length cp) := (aj EZ.out 2).trans rfl;have U0 := Zd.mk (adJ (st ++ lp) st.length s rb A5 c5 (st.length + lp.length) A cp wc (by simp) HIR.out HCC.out ag ag ag (Kd.aQ HRR.out UZ) hc Ps.out);have sF := Zd.mk UZ;clear UZ;go_wp2_with (go_at_call 55; refine U0.out.mono ?_; rintro e w6 ⟨g, rfl, hg, hG, fP⟩; have Ak := Zd.mk hG; have nK := Zd.mk hg; have gP := Zd.mk fP; clear hG hg fP);go_ret;exact ⟨_, rfl, by rw [HX.out]; exact aoB Ak.out ((UL _ _ _).trans (by first | rfl | simp)) (Nat.le_trans sF.out.size nK.out) (by first | omega | (simp; omega)), sF.out.trans (gP.out.mono sF.out.size)⟩
 ·have em : (mv != 0) = true := by simpa using hm
  have HX := Zd.mk (show Ii s st lp = [] from by rw [xI.out, if_neg (fun h => hm h.1)]);go_enter Tryz.func36, Tryz.ntmps36;go_upto_region 1 with fail
  rw [← hW2];clear hW2 hB2;go_wp2_with (go_at_call 37; refine UU.out.mono ?_; rintro e w3 ⟨rfl, hB3⟩; have HB3 := Zd.mk hB3; clear hB3);go_ret;exact ⟨_, rfl, by rw [HX.out]; exact Kd.lK _ _ _ _ _, HB2.out.trans (HB3.out.mono HB2.out.size)⟩
def Ik.f (av : Int) (ay : Int) (af : List ak) (kJ : List Int) (kK : List Int) : Option (List Bool) := some (Ii ⟨av, ay, af⟩ kJ kK)
theorem Ik.calls (av : Int) (ay : Int) (aM : Option Addr) (aC : Nat) (af : List ak) (uS : Option Addr) (uT : Nat) (kJ : List Int) (uU : Option Addr) (uV : Nat) (kK : List Int) (r : List Bool) (w : World) (dn : Kd.C bK w aM af.length af) (dw : af.length ≤ aC) (Pw : Kd.C (Kd.int .u32) w uS kJ.length kJ) (Px : kJ.length ≤ uT) (Py : Kd.C (Kd.int .u32) w uU kK.length kK) (Pz : kK.length ≤ uV) (h : Ik.f av ay af kJ kK = some r) :
  Calls Tryz.prog 36 #[.agg #[.int .i64 av, .int .i64 ay, .slice aM af.length aC], .agg #[.slice uS kJ.length uT, .slice uU kK.length uV]] w fun e w' => ∃ yR : Value, e = .returned yR ∧ Kd.R Kd.bool 4 w' w.heap.size (fun _ => True) yR r ∧ Below w.heap.size w w' := by
 obtain rfl := Option.some.inj h;exact aoE ⟨av, ay, af⟩ kJ kK aM aC uS uU uT uV w dn dw Pw Px Py Pz
end Go.Proofs.YtapejnikpmfddaaGreat.X
