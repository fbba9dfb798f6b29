/- A part of the claim SearchForms. -/
import Derived.Test.YtapejnikpmfddaaGreatQSearchFormsq
set_option linter.unusedVariables false
set_option linter.unusedSimpArgs false
set_option maxHeartbeats 12800000
set_option maxRecDepth 100000
namespace Go.Proofs.YtapejnikpmfddaaGreat.X
open Go.RowKit Go.Proofs.aI.bM Go.Proofs.aI.dG Go.Proofs.aI.dM
open Go.Proofs.YtapejnikpmfddaaGreat.P Go.Proofs.YtapejnikpmfddaaGreat.gY
def GD (t : ak) (o f : Bool) : Bool := if t.f0 = 6 then f else o
def xe (sv : Int) : List ak → List Bool → List Bool → Nat → Bool
 | [], _, _, _ => true
 | t :: r, O, F, i => jG sv i == GD t (O.getD i false) (F.getD i false) && xe sv r O F (i + 1)
def zH (s : ak) (sv lt tv nx : Int) : Bool := il s sv && (il s tv && xe sv (bU s) (nV tv nx s 0) (rX tv nx s 0) 0)
def Jt (op : Int) (o l : Bool) : Bool := if op = 7 then !o || l else if op = 8 then o || !l else true
def GG (s : ak) (k sv lt : Int) : Bool := decide (0 ≤ k) && (decide (k < (lh s).length) && (il s sv && Jt ((lh s).getD k.toNat z29).f0 ((nV sv lt s 0).getD k.toNat false) ((rW sv lt s 0).getD k.toNat false)))
theorem R7 {w0 w : World} {v : Fin 3 → Value} {l : Fin 3 → List Bool} (h : R3 w0 w v l) (i : Fin 3) {j : Nat} (hj : j < (l i).length) : ∃ g c, v i = .slice (some ⟨g, 0, none⟩) (l i).length c ∧ w.cell? ⟨g, j, none⟩ = some (.bool ((l i).getD j false)) := by
 obtain ⟨g, c, e, _, _, p, _⟩ := Ey (h.o i) hj;exact ⟨g, c, e, p⟩
theorem att (s : ak) (sv lt tv nx : Int) (A : Option Addr) (cp : Nat) (w : World) (hr : Kd.C bK w A s.f2.length s.f2) (hc : s.f2.length ≤ cp) :
  Calls Tryz.prog 21 #[.agg #[.int .i64 s.f0, .int .i64 s.f1, .slice A s.f2.length cp], .int .i64 sv, .int .u32 lt, .int .i64 tv, .int .u32 nx] w fun e w' => e = .returned (.bool (zH s sv lt tv nx)) ∧ Below w.heap.size w w' := by
 have jm := Tryz.underlying29;have uO := Tryz.underlying27;have hut := Tryz.underlying86;have jf := Tryz.underlying57;obtain ⟨W1, hW1⟩ : ∃ W1, W1 = w.alloc (.cells #[.int .i64 s.f0, .int .i64 s.f1, .slice A s.f2.length cp] 29) := ⟨_, rfl⟩;have hB1 : Below w.heap.size w W1 := by rw [hW1]; exact aW (Below.refl _ _) _
 have hbx : W1.heap[w.heap.size]? = some (.cells #[.int .i64 s.f0, .int .i64 s.f1, .slice A s.f2.length cp] 29 (0, 0)) := by rw [hW1]; exact heap_alloc_new w _
 have jo := Zd.mk hbx;have HB1 := Zd.mk hB1;have HR := Zd.mk hr;have Sa := Zd.mk (Jk s A cp W1 (Kd.aQ hr hB1) hc);have axb := Zd.mk (fun W (h : Below w.heap.size w W) => h);have x0 : W1.cell? ⟨w.heap.size, 0, none⟩ = some (.int .i64 s.f0) := (aj hbx 0).trans rfl;have x1 : W1.cell? ⟨w.heap.size, 1, none⟩ = some (.int .i64 s.f1) := (aj hbx 1).trans rfl;have x2 : W1.cell? ⟨w.heap.size, 2, none⟩ = some (.slice A s.f2.length cp) := (aj hbx 2).trans rfl;have xI := Zd.mk (show zH s sv lt tv nx = (il s sv && (il s tv && xe sv (bU s) (nV tv nx s 0) (rX tv nx s 0) 0)) from rfl);have o7 := Zd.mk (show il s sv = decide (0 ≤ sv ∧ sv < jB s) from rfl);have HS2 := Zd.mk (show il s tv = decide (0 ≤ tv ∧ tv < jB s) from rfl);have HM := Zd.mk (@ES s tv);have zx := Zd.mk (show bW s = 0 → lh s = bU s from fun h => by unfold lh; rw [if_pos h]);generalize zH s sv lt tv nx = R at *;generalize jB s = N at *;generalize il s sv = B1 at *;generalize il s tv = B2 at *;clear hbx hB1 hr;go_enter Tryz.func21, Tryz.ntmps21;go_upto_region 1 with fail
 rw [← hW1];clear hW1;go_upto_region 2 with (go_at_call 5; refine Sa.out.mono ?_; rintro e w2 ⟨rfl, hB⟩; have HB2 := Zd.mk (HB1.out.trans (hB.mono HB1.out.size)); have kI := Zd.mk ((hB.block _ (aT jo.out)).trans jo.out); clear hB)
 have y0 : w2.cell? ⟨w.heap.size, 0, none⟩ = some (.int .i64 s.f0) := (aj kI.out 0).trans rfl;have y1 : w2.cell? ⟨w.heap.size, 1, none⟩ = some (.int .i64 s.f1) := (aj kI.out 1).trans rfl;have y2 : w2.cell? ⟨w.heap.size, 2, none⟩ = some (.slice A s.f2.length cp) := (aj kI.out 2).trans rfl;clear x0 x1 x2;go_cut [33] (fun v33 wx => ∃ t : Bool, v33 = .bool t ∧ Zd ((!(B1 && B2)) = t) ∧ wx = w2)
 case first =>
  by_cases a1 : sv < 0
  ·have HX := Zd.mk (show B1 = false from by rw [o7.out]; exact decide_eq_false ag);go_wp2;go_meet;exact ⟨_, rfl, ⟨by rw [HX.out]; rfl⟩, rfl⟩
  ·by_cases a2 : tv < 0
   ·have HX := Zd.mk (show B2 = false from by rw [HS2.out]; exact decide_eq_false ag);go_wp2;go_meet;exact ⟨_, rfl, ⟨by rw [HX.out, Bool.and_false]; rfl⟩, rfl⟩
   ·by_cases a3 : N ≤ sv
    ·have HX := Zd.mk (show B1 = false from by rw [o7.out]; exact decide_eq_false ag);go_wp2;go_meet;exact ⟨_, rfl, ⟨by rw [HX.out]; rfl⟩, rfl⟩
    ·by_cases a4 : N ≤ tv
     ·have HX := Zd.mk (show B2 = false from by rw [HS2.out]; exact decide_eq_false ag);go_wp2;go_meet;exact ⟨_, rfl, ⟨by rw [HX.out, Bool.and_false]; rfl⟩, rfl⟩
     ·have HX := Zd.mk (show B1 = true ∧ B2 = true from ⟨by rw [o7.out]; exact decide_eq_true ag, by rw [HS2.out]; exact decide_eq_true ag⟩);go_wp2;go_meet;exact ⟨_, rfl, ⟨by rw [HX.out.1, HX.out.2]; rfl⟩, rfl⟩
 case rest =>
  obtain ⟨t, rfl, HT, hwc⟩ := hcut;rw [hwc];clear hwc wc;cases t with
  | true =>
   have HX := Zd.mk (show R = false from by rw [xI.out, ← Bool.and_assoc, ML HT.out]; rfl);go_wp2;go_ret;exact ⟨by rw [HX.out]; rfl, HB2.out⟩
  | false =>
   have hT : (B1 && B2) = true := by simpa using HT.out
   have hB2 : B2 = true := by cases B1 <;> simp_all
   have HZ := Zd.mk (kZ (HM.out hB2));have xL := Zd.mk (zx.out (HM.out hB2));have HX := Zd.mk (show R = xe sv (bU s) (nV tv nx s 0) (rX tv nx s 0) 0 from by rw [xI.out, ← Bool.and_assoc, hT]; rfl);have CY := Zd.mk (Eb tv nx s 0);have QH := Zd.mk (MV tv nx s 0);have oo := Zd.mk (iW s);have hT8 : (bU s).length ≤ 8 := by rw [iW]; exact HZ.out.2.2.1
   have HAT := Zd.mk (fun W (h : Below w.heap.size w W) => ahW s tv nx A cp W (Kd.aQ HR.out h) hc HZ.out.2.2.2 (by have := HZ.out; omega));have Jl := Zd.mk (fun W (h : Below w.heap.size w W) => Rv s A cp W (Kd.aQ HR.out h) hc);rw [xL.out] at Jl;generalize bU s = T at *;generalize nV tv nx s 0 = O at *;generalize rX tv nx s 0 = F at *;generalize rW tv nx s 0 = L at *;clear hT hB2;go_wp2_with (first | (go_at_call 48; refine (HAT.out _ HB2.out).mono ?_; rintro e w3 ⟨v1, v2, v3, rfl, uG⟩; obtain ⟨A7, n7, c7, e7⟩ := wY (uG.o 0); obtain ⟨A8, n8, c8, e8⟩ := wY (uG.o 1); obtain ⟨A9, n9, c9, e9⟩ := wY (uG.o 2); change v1 = _ at e7; change v2 = _ at e8; change v3 = _ at e9; subst e7 e8 e9; have HR3 := Zd.mk uG; have HB3 := Zd.mk (HB2.out.trans (uG.bl.mono HB2.out.size)); have sD := Zd.mk ((uG.bl.block _ (aT kI.out)).trans kI.out); have hrl := aT sD.out; have hrn : ¬ w3.heap.size = w.heap.size := ag; have z0 := (aj sD.out 0).trans rfl; have z1 := (aj sD.out 1).trans rfl; have z2 := (aj sD.out 2).trans rfl; clear uG) | (go_at_call 15; refine (Jl.out _ (aW HB3.out _)).mono ?_; rintro e w4 ⟨v4, rfl, hT4, hB4⟩; obtain ⟨A4, c4, e4, hl4, M4⟩ := Rt hT4 hB4; subst e4; have vS := Zd.mk M4; have bQ := Zd.mk ((aW (Below.refl _ _) _ : Below w3.heap.size w3 _).trans (hB4.mono (by simp))); have HXB := Zd.mk ((hB4.block _ (by simp)).trans (heap_alloc_new w3 _)); clear hT4 hB4 M4));go_loopg [41] T.length (fun kq v41 w' => ∃ j : Nat, j + kq = T.length ∧ v41 = .int .i64 j ∧ Zd (xe sv (T.drop j) O F j = xe sv T O F 0) ∧ Zd (Below w4.heap.size w4 w'))
   case atStart => exact ⟨0, by omega, rfl, ⟨rfl⟩, ⟨Below.refl _ _⟩⟩
   case round =>
    obtain ⟨j, hj, rfl, M5, lq⟩ := hrel;have HJ := Zd.mk hj;clear hj;by_cases hlt : j < T.length
    ·obtain ⟨ad, A5, c5, e0, hx0, hx1, hx2, hl5, hk5⟩ := yG vS.out lq.out j hlt hlt;cases e0;have Sb : j < O.length := by rw [CY.out, ← oo.out]; exact hlt
     have M0 : j < F.length := by rw [QH.out, ← oo.out]; exact hlt
     have sF := Zd.mk (bQ.out.trans (lq.out.mono bQ.out.size));have hRj := HR3.out.below sF.out;obtain ⟨g1, d1, q1, p1⟩ := R7 hRj 0 Sb;obtain ⟨g2, d2, q2, p2⟩ := R7 hRj 2 M0;change Value.slice A7 n7 c7 = .slice _ O.length d1 at q1;change Value.slice A9 n9 c9 = .slice _ F.length d2 at q2;injection q1 with q1a q1b q1c
     injection q2 with q2a q2b q2c
     subst q1a q1b q1c q2a q2b q2c;change wr.cell? _ = some (.bool (O.getD j false)) at p1;change wr.cell? _ = some (.bool (F.getD j false)) at p2;have hxb := (lq.out.block _ (aT HXB.out)).trans HXB.out;have c0 := (aj hxb 0).trans rfl;have c2' := (aj hxb 2).trans rfl;have hlx := aT hxb;have hg1 := World.block_lt_of_cell? _ _ p1;have hg2 := World.block_lt_of_cell? _ _ p2;have HST := Zd.mk (show xe sv T O F 0 = (jG sv j == GD (T[j]'hlt) (O.getD j false) (F.getD j false) && xe sv (T.drop (j + 1)) O F (j + 1)) from by rw [← M5.out, List.drop_eq_getElem_cons hlt, xe]);generalize O.getD j false = o at *;generalize F.getD j false = f at *;have Ed := Zd.mk (show GD (T[j]'hlt) o f = if (T[j]'hlt).f0 = 6 then f else o from rfl);have hj8 : j ≤ 8 := by omega
     generalize GD (T[j]'hlt) o f = want at *;generalize T[j]'hlt = kid at *;clear hk5 hl5 hRj hxb
     go_upto_if 53 with fail
     obtain ⟨WK, wZ⟩ : ∃ WK, WK = wr.alloc (.cells #[.int .i64 kid.f0, .int .i64 kid.f1, .slice A5 kid.f2.length c5] 29) := ⟨_, rfl⟩;rw [← wZ];have xc : Below wr.heap.size wr WK := by rw [wZ]; exact aW (Below.refl _ _) _
     have fK := Zd.mk xc;have p2k := (xc.cell hg2).trans p2;have c2k := (xc.cell (p := ⟨w3.heap.size, 2, none⟩) hlx).trans c2';clear wZ xc;go_cut [15] (fun v15 wx => v15 = .bool want ∧ wx = WK)
     case first =>
      by_cases h6 : kid.f0 = 6
      ·have X8 : (kid.f0 == 6) = true := beq_iff_eq.2 h6;have Y9 := Zd.mk (show want = f from by rw [Ed.out, if_pos h6]);clear h6;go_wp2;go_meet;exact ⟨by rw [Y9.out], rfl⟩
      ·have X8 : (kid.f0 == 6) = false := beq_eq_false_iff_ne.2 h6;have Y9 := Zd.mk (show want = o from by rw [Ed.out, if_neg h6]);clear h6;go_wp2;go_meet;exact ⟨by rw [Y9.out], rfl⟩
     case rest =>
      obtain ⟨rfl, hwc⟩ := hcut;rw [hwc];clear hwc wc;go_upto_region 11 with fail
      go_cut [66] (fun v66 wx => ∃ t : Bool, v66 = .bool t ∧ Zd ((jG sv j != want) = t) ∧ wx = WK)
      case first =>
       cases want
       all_goals
        go_wp2;go_meet;exact ⟨_, rfl, ⟨by unfold jG; simp⟩, rfl⟩
      case rest =>
       obtain ⟨tt, rfl, zI, hwc⟩ := hcut;rw [hwc];clear hwc wc;generalize jG sv j = c at *;cases tt with
       | false =>
        have M6 := Zd.mk (show xe sv (T.drop (j + 1)) O F (j + 1) = xe sv T O F 0 from by have := zI.out; rw [HST.out]; cases want <;> cases c <;> simp_all);go_wp2;go_roundg (gk - 1)
        case measure => have := HJ.out; omega
        case rel => exact ⟨j + 1, by have := HJ.out; omega, by go_num, M6, ⟨lq.out.trans (fK.out.mono lq.out.size)⟩⟩
       | true =>
        have M6 := Zd.mk (show R = false from by have := zI.out; rw [HX.out, HST.out]; cases want <;> cases c <;> simp_all);go_wp2;go_ret;exact ⟨by rw [M6.out]; rfl, HB3.out.trans ((bQ.out.trans ((lq.out.trans (fK.out.mono lq.out.size)).mono bQ.out.size)).mono HB3.out.size)⟩
    ·have M6 := Zd.mk (show R = true from by rw [HX.out, ← M5.out, List.drop_eq_nil_of_le ag]; rfl);go_wp2;go_ret;exact ⟨by rw [M6.out]; rfl, HB3.out.trans ((bQ.out.trans (lq.out.mono bQ.out.size)).mono HB3.out.size)⟩
theorem atu (s : ak) (k sv lt : Int) (A : Option Addr) (cp : Nat) (w : World) (hr : Kd.C bK w A s.f2.length s.f2) (hc : s.f2.length ≤ cp) :
  Calls Tryz.prog 22 #[.agg #[.int .i64 s.f0, .int .i64 s.f1, .slice A s.f2.length cp], .int .i64 k, .int .i64 sv, .int .u32 lt] w fun e w' => e = .returned (.bool (GG s k sv lt)) ∧ Below w.heap.size w w' := by
 have jm := Tryz.underlying29;have uO := Tryz.underlying27;have hut := Tryz.underlying86;have jf := Tryz.underlying57;obtain ⟨W1, hW1⟩ : ∃ W1, W1 = w.alloc (.cells #[.int .i64 s.f0, .int .i64 s.f1, .slice A s.f2.length cp] 29) := ⟨_, rfl⟩;have hB1 : Below w.heap.size w W1 := by rw [hW1]; exact aW (Below.refl _ _) _
 have hbx : W1.heap[w.heap.size]? = some (.cells #[.int .i64 s.f0, .int .i64 s.f1, .slice A s.f2.length cp] 29 (0, 0)) := by rw [hW1]; exact heap_alloc_new w _
 have jo := Zd.mk hbx;have HB1 := Zd.mk hB1;have HR := Zd.mk hr;have x0 : W1.cell? ⟨w.heap.size, 0, none⟩ = some (.int .i64 s.f0) := (aj hbx 0).trans rfl;have x1 : W1.cell? ⟨w.heap.size, 1, none⟩ = some (.int .i64 s.f1) := (aj hbx 1).trans rfl;have x2 : W1.cell? ⟨w.heap.size, 2, none⟩ = some (.slice A s.f2.length cp) := (aj hbx 2).trans rfl;have xI := Zd.mk (show GG s k sv lt = (decide (0 ≤ k) && (decide (k < (lh s).length) && (il s sv && Jt ((lh s).getD k.toNat z29).f0 ((nV sv lt s 0).getD k.toNat false) ((rW sv lt s 0).getD k.toNat false)))) from rfl);have o7 := Zd.mk (show il s sv = decide (0 ≤ sv ∧ sv < jB s) from rfl);have HM := Zd.mk (@ES s sv);have zx := Zd.mk (show bW s = 0 → (lh s).length = az s ∧ (lh s).length ≤ 8 from fun h => by unfold lh; rw [if_pos h, iW]; exact ⟨rfl, (kZ h).2.2.1⟩);have QU := Zd.mk (fun h : il s sv = true => kZ (ES h));have Jl := Zd.mk (fun W (h : Below w.heap.size w W) => Rv s A cp W (Kd.aQ hr h) hc);have Sa := Zd.mk (fun W (h : Below w.heap.size w W) => Jk s A cp W (Kd.aQ hr h) hc);generalize GG s k sv lt = R at *;generalize jB s = N at *;generalize il s sv = B1 at *;generalize lh s = T at *;clear hbx hB1 hr;go_enter Tryz.func22, Tryz.ntmps22;go_upto_region 1 with fail
 rw [← hW1];clear hW1;go_upto_region 2 with (go_at_call 15; refine (Jl.out _ HB1.out).mono ?_; rintro e w2 ⟨v2, rfl, Sc, hB⟩; obtain ⟨A4, c4, e4, hl4, M4⟩ := Rt Sc hB; subst e4; have vS := Zd.mk M4; have HB2 := Zd.mk (HB1.out.trans (hB.mono HB1.out.size)); have kI := Zd.mk ((hB.block _ (aT jo.out)).trans jo.out); clear hB Sc M4)
 have y0 : w2.cell? ⟨w.heap.size, 0, none⟩ = some (.int .i64 s.f0) := (aj kI.out 0).trans rfl;have y1 : w2.cell? ⟨w.heap.size, 1, none⟩ = some (.int .i64 s.f1) := (aj kI.out 1).trans rfl;have y2 : w2.cell? ⟨w.heap.size, 2, none⟩ = some (.slice A s.f2.length cp) := (aj kI.out 2).trans rfl;have hTm := Kd.pG vS.out;clear x0 x1 x2;go_cut [30] (fun v30 wx => ∃ t : Bool, v30 = .bool t ∧ Zd ((!(decide (0 ≤ k) && (decide (k < T.length) && B1))) = t) ∧ Zd (Below w2.heap.size w2 wx))
 case first =>
  by_cases a1 : k < 0
  ·have HX := Zd.mk (show decide (0 ≤ k) = false from decide_eq_false ag);go_wp2;go_meet;exact ⟨_, rfl, ⟨by rw [HX.out]; rfl⟩, ⟨Below.refl _ _⟩⟩
  ·by_cases a2 : (T.length : Int) ≤ k
   ·have HX := Zd.mk (show decide (k < (T.length : Int)) = false from decide_eq_false ag);go_wp2;go_meet;exact ⟨_, rfl, ⟨by rw [HX.out, Bool.false_and, Bool.and_false]; rfl⟩, ⟨Below.refl _ _⟩⟩
   ·by_cases a3 : sv < 0
    ·have HX := Zd.mk (show B1 = false from by rw [o7.out]; exact decide_eq_false ag);go_wp2;go_meet;exact ⟨_, rfl, ⟨by rw [HX.out, Bool.and_false, Bool.and_false]; rfl⟩, ⟨Below.refl _ _⟩⟩
    ·by_cases a4 : N ≤ sv
     ·have HX := Zd.mk (show B1 = false from by rw [o7.out]; exact decide_eq_false ag);go_wp2_with (go_at_call 5; refine (Sa.out _ HB2.out).mono ?_; rintro e w3 ⟨rfl, hB⟩; have HB3 := Zd.mk hB; clear hB);go_meet;exact ⟨_, rfl, ⟨by rw [HX.out, Bool.and_false, Bool.and_false]; rfl⟩, HB3⟩
     ·have FU := Zd.mk a4;have HX := Zd.mk (show B1 = true from by rw [o7.out]; exact decide_eq_true ag);have Au := Zd.mk (show decide (0 ≤ k) = true ∧ decide (k < (T.length : Int)) = true from ⟨decide_eq_true ag, decide_eq_true ag⟩);go_wp2_with (go_at_call 5; refine (Sa.out _ HB2.out).mono ?_; rintro e w3 ⟨rfl, hB⟩; have HB3 := Zd.mk hB; clear hB);go_meet;exact ⟨_, rfl, ⟨by rw [HX.out, Au.out.1, Au.out.2]; first | rfl | (simp; exact FU.out)⟩, HB3⟩
 case rest =>
  obtain ⟨t, rfl, HT, Za⟩ := hcut;have Sd := Zd.mk (HB2.out.trans (Za.out.mono HB2.out.size));cases t with
  | true =>
   have HX := Zd.mk (show R = false from by
    have h := ML HT.out;rw [xI.out];cases h1 : decide (0 ≤ k) <;> cases h2 : decide (k < (T.length : Int)) <;> cases hb : B1 <;> simp_all)
   go_wp2;go_ret;exact ⟨by rw [HX.out]; rfl, Sd.out⟩
  | false =>
   have hT : (decide (0 ≤ k) && (decide (k < (T.length : Int)) && B1)) = true := by simpa using HT.out
   simp only [Bool.and_eq_true, decide_eq_true_eq] at hT;obtain ⟨h0, h1, hb1⟩ := hT;obtain ⟨j, rfl⟩ := Int.eq_ofNat_of_zero_le h0;have HZ := Zd.mk (QU.out hb1);have qg := Zd.mk (zx.out (HM.out hb1));have hlt : j < T.length := by omega
   have hx : R = Jt (T[j]'hlt).f0 ((nV sv lt s 0).getD j false) ((rW sv lt s 0).getD j false) := by
    rw [xI.out, decide_eq_true h0, decide_eq_true h1, hb1, Int.toNat_natCast, List.getD_eq_getElem?_getD, List.getElem?_eq_getElem hlt]; rfl
   have Sb : j < (nV sv lt s 0).length := by rw [Eb, ← qg.out.1]; exact hlt
   have hlB : j < (rW sv lt s 0).length := by rw [MU, ← qg.out.1]; exact hlt
   have HAT := Zd.mk (ahW s sv lt A cp wc (Kd.aQ HR.out Sd.out) hc HZ.out.2.2.2 (by have := HZ.out; omega));have Zb := Zd.mk hx;obtain ⟨ad, A5, c5, e0, hx0, hx1, hx2, hl5, hk5⟩ := yG vS.out Za.out j hlt hlt;cases e0;have HX0 := Zd.mk hx0;have hT8 : T.length ≤ 8 := qg.out.2;generalize T[j]'hlt = kid at *;generalize nV sv lt s 0 = O at *;generalize rX sv lt s 0 = F at *;generalize rW sv lt s 0 = L at *;have CY := Zd.mk Sb;have HLB := Zd.mk hlB;have yU := (Za.out.block _ (aT kI.out)).trans kI.out;have z0 : wc.cell? ⟨w.heap.size, 0, none⟩ = some (.int .i64 s.f0) := (aj yU 0).trans rfl;have z1 : wc.cell? ⟨w.heap.size, 1, none⟩ = some (.int .i64 s.f1) := (aj yU 1).trans rfl;have z2 : wc.cell? ⟨w.heap.size, 2, none⟩ = some (.slice A s.f2.length cp) := (aj yU 2).trans rfl;have Zc := World.block_lt_of_cell? _ _ hx0;have hab : (ad.add (j * 3)).block = ad.block := by cases ad; simp [Addr.add]; split <;> rfl
   have HLA := Zd.mk Zc;have hla : ad.block < wc.heap.size := by rw [← hab]; exact Zc
   have DD := Zd.mk hab;clear Zc hab;clear h0 hb1 hx Sb hlB hk5 hl5 hx0 hx1 hx2 yU;go_upto_region 6 with (go_at_call 48; refine HAT.out.mono ?_; rintro e w3 ⟨v1, v2, v3, rfl, uG⟩; obtain ⟨g1, d1, q1, p1⟩ := R7 uG 0 CY.out; obtain ⟨g2, d2, q2, p2⟩ := R7 uG 1 HLB.out; obtain ⟨A9, n9, c9, e9⟩ := wY (uG.o 2); change v1 = .slice _ O.length d1 at q1; change v2 = .slice _ L.length d2 at q2; change v3 = _ at e9; subst q1 q2 e9; change w3.cell? _ = some (.bool (O.getD j false)) at p1; change w3.cell? _ = some (.bool (L.getD j false)) at p2; have HB3 := Zd.mk (Sd.out.trans (uG.bl.mono Sd.out.size)); have hk0 := (uG.bl.cell HLA.out).trans HX0.out; have atv : ad.block < w3.heap.size := Nat.lt_of_lt_of_le hla uG.bl.size; have hna : ¬ w3.heap.size = ad.block := ag; have hnb := World.new_ne w3 _ hk0; have atw := World.block_lt_of_cell? w3 _ hk0; have jO : j < O.length := CY.out; have jL : j < L.length := HLB.out; clear uG)
   obtain ⟨WK, wZ⟩ : ∃ WK, WK = w3.alloc (.cells #[.slice (some ⟨g1, 0, none⟩) O.length d1, .slice (some ⟨g2, 0, none⟩) L.length d2, .slice A9 n9 c9] 86) := ⟨_, rfl⟩;have xc : Below w3.heap.size w3 WK := by rw [wZ]; exact aW (Below.refl _ _) _
   have hxk : WK.heap[w3.heap.size]? = some (.cells #[.slice (some ⟨g1, 0, none⟩) O.length d1, .slice (some ⟨g2, 0, none⟩) L.length d2, .slice A9 n9 c9] 86 (0, 0)) := by rw [wZ]; exact heap_alloc_new w3 _
   rw [← wZ];have k0 : WK.cell? ⟨w3.heap.size, 0, none⟩ = some (.slice (some ⟨g1, 0, none⟩) O.length d1) := (aj hxk 0).trans rfl;have k1 : WK.cell? ⟨w3.heap.size, 1, none⟩ = some (.slice (some ⟨g2, 0, none⟩) L.length d2) := (aj hxk 1).trans rfl;have p1k := (xc.cell (World.block_lt_of_cell? _ _ p1)).trans p1;have p2k := (xc.cell (World.block_lt_of_cell? _ _ p2)).trans p2;have jq := Zd.mk (HB3.out.trans (xc.mono HB3.out.size));have E5 := Zd.mk (show ∀ o l, Jt kid.f0 o l = if kid.f0 = 7 then !o || l else if kid.f0 = 8 then o || !l else true from fun _ _ => rfl);generalize O.getD j false = o at *;generalize L.getD j false = l at *;clear wZ xc hxk p1 p2 hk0 hnb atw atv hna hla h1;by_cases h7 : kid.f0 = 7
   ·have b7 : (kid.f0 == 7) = true := beq_iff_eq.2 h7;have HX := Zd.mk (show R = (!o || l) from by rw [Zb.out, E5.out, if_pos h7]);clear h7;cases o
    all_goals
     go_wp2;go_ret;exact ⟨by rw [HX.out]; rfl, jq.out⟩
   ·have b7 : (kid.f0 == 7) = false := beq_eq_false_iff_ne.2 h7;by_cases h8 : kid.f0 = 8
    ·have b8 : (kid.f0 == 8) = true := beq_iff_eq.2 h8;have HX := Zd.mk (show R = (o || !l) from by rw [Zb.out, E5.out, if_neg h7, if_pos h8]);clear h7 h8;cases o
     all_goals
      go_wp2;go_ret;exact ⟨by rw [HX.out]; rfl, jq.out⟩
    ·have b8 : (kid.f0 == 8) = false := beq_eq_false_iff_ne.2 h8;have HX := Zd.mk (show R = true from by rw [Zb.out, E5.out, if_neg h7, if_neg h8]);clear h7 h8;go_wp2;go_ret;exact ⟨by rw [HX.out]; rfl, jq.out⟩
end Go.Proofs.YtapejnikpmfddaaGreat.X
namespace Go.Proofs.YtapejnikpmfddaaGreat.X
open Go.RowKit Go.Proofs.aI.bM Go.Proofs.aI.dM
open Go.Proofs.YtapejnikpmfddaaGreat.P Go.Proofs.YtapejnikpmfddaaGreat.gY
def tC (f : ak → Bool → Bool → Bool) : List ak → List Bool → List Bool → List Bool
 | t :: T, o :: os, b :: bs => f t o b :: tC f T os bs
 | _, _, _ => []
theorem M7 (f : ak → Bool → Bool → Bool) : ∀ (T1 : List ak) (o1 b1 : List Bool) (T2 : List ak) (o2 b2 : List Bool), T1.length = o1.length → T1.length = b1.length → tC f (T1 ++ T2) (o1 ++ o2) (b1 ++ b2) = tC f T1 o1 b1 ++ tC f T2 o2 b2
 | [], [], [], T2, o2, b2, _, _ => rfl
 | t :: T, o :: os, b :: bs, T2, o2, b2, h1, h2 => by
  simp only [List.cons_append, tC];rw [M7 f T os bs T2 o2 b2 (by simpa using h1) (by simpa using h2)]
theorem ahX (f : ak → Bool → Bool → Bool) : ∀ (T : List ak) (o b : List Bool) (k : Nat), T.length = o.length → T.length = b.length → k < T.length → (tC f T o b).getD k false = f (T.getD k z29) (o.getD k false) (b.getD k false)
 | t :: T, o :: os, b :: bs, 0, _, _, _ => rfl
 | t :: T, o :: os, b :: bs, k + 1, h1, h2, h3 => by
  have := ahX f T os bs k (by simpa using h1) (by simpa using h2) (by simpa using h3);simpa [tC] using this
theorem ahY (sv : Int) (O F : List Bool) : ∀ (T : List ak) (j : Nat), T.length + j = O.length → T.length + j = F.length → jN sv (tC GD T (O.drop j) (F.drop j)) j = xe sv T O F j
 | [], j, h1, h2 => by
  rw [List.drop_eq_nil_of_le (by simp at h1; omega)];rfl
 | t :: T, j, h1, h2 => by
  simp only [List.length_cons] at h1 h2;have hO := List.drop_eq_getElem_cons (show j < O.length by omega);have hF := List.drop_eq_getElem_cons (show j < F.length by omega);rw [hO, hF];simp only [tC, jN, xe];rw [ahY sv O F T (j + 1) ag ag, List.getD_eq_getElem?_getD, List.getD_eq_getElem?_getD, List.getElem?_eq_getElem (show j < O.length by omega), List.getElem?_eq_getElem (show j < F.length by omega)];congr 1;exact Bool.beq_comm
mutual
theorem ahZ (sv lt : Int) : ∀ (s : ak) (k : Nat), kH sv lt s k = tC GD (bU s) (nV sv lt s k) (rX sv lt s k)
 | ⟨op, m, kids⟩, k => by
  rw [AX, YT, ahH, kH];unfold bX mQ;by_cases h : dB op = true
  ·simp only [if_pos h];rw [M7 _ _ _ _ _ _ _ rfl rfl, Ze sv lt kids];congr 1
  ·simp only [if_neg h];rw [List.nil_append, List.nil_append, List.nil_append, List.nil_append, Ze sv lt kids]
theorem Ze (sv lt : Int) : ∀ (l : List ak) (k : Nat), mW sv lt l k = tC GD (fO l) (rq sv lt l k) (uF sv lt l k)
 | [], _ => by simp only [mW, fO, rq, uF, tC]
 | c :: r, k => by
  simp only [mW, fO, rq, uF];rw [M7 _ _ _ _ _ _ _ (by rw [iW, Eb]) (by rw [iW, MV]), ahZ sv lt c, Ze sv lt r]
end
theorem atx (s : ak) (sv lt tv nx : Int) : VI s sv lt tv nx = zH s sv lt tv nx := by
 unfold VI zH;rw [ahZ];have := ahY sv (nV tv nx s 0) (rX tv nx s 0) (bU s) 0 (by rw [iW, Eb]; rfl) (by rw [iW, MV]; rfl);rw [List.drop_zero, List.drop_zero] at this;rw [this]
def M8 (t : ak) (o l : Bool) : Bool := Jt t.f0 o l
mutual
theorem ah0 (sv lt : Int) : ∀ (s : ak) (k : Nat), cO s = true → jW sv lt s k = tC M8 (bU s) (nV sv lt s k) (rW sv lt s k)
 | ⟨op, m, kids⟩, k, hs => by
  have hp := C8 hs;have hk := Af hs;rw [AX, YT, ahG, jW];unfold bX mQ;by_cases h : dB op = true
  ·simp only [if_pos h];rw [M7 _ _ _ _ _ _ _ rfl rfl, Zf sv lt kids _ hk];congr 1;simp only [tC, M8, Jt, wu];have hl : op = 7 ∨ op = 8 → (dO sv lt kids (k + tS op)).getLastD false = (dO sv lt kids (k + tS op)).getD 1 false := by
    intro h78;have h2 : kids.length = 2 := by
     have h9 : fC 7 = 2 := by decide
     have h10 : fC 8 = 2 := by decide
     have := hp.2.1;simp only at this;rcases h78 with e | e <;> (rw [e] at this; omega)
    have h3 := adx sv lt kids (k + tS op);rw [h2] at h3;generalize dO sv lt kids (k + tS op) = l at h3;match l, h3 with
    | [a, b], _ => rfl
   by_cases h6 : op = 6
   ·subst h6; rfl
   by_cases h7 : op = 7
   ·rw [hl (.inl h7)]; subst h7; rfl
   by_cases h8 : op = 8
   ·rw [hl (.inr h8)]; subst h8; rfl
   ·exfalso
    simp only [dB, Bool.and_eq_true, decide_eq_true_eq] at h;omega
  ·simp only [if_neg h];rw [List.nil_append, List.nil_append, List.nil_append, List.nil_append, Zf sv lt kids _ hk]
theorem Zf (sv lt : Int) : ∀ (l : List ak) (k : Nat), gp l = true → nM sv lt l k = tC M8 (fO l) (rq sv lt l k) (uE sv lt l k)
 | [], _, _ => by simp only [nM, fO, rq, uE, tC]
 | c :: r, k, hs => by
  simp only [gp, Bool.and_eq_true] at hs;simp only [nM, fO, rq, uE];rw [M7 _ _ _ _ _ _ _ (by rw [iW, Eb]) (by rw [iW, MU]), ah0 sv lt c _ hs.1, Zf sv lt r _ hs.2]
end
theorem aty (s : ak) (k sv lt : Int) : BG s k sv lt = GG s k sv lt := by
 unfold BG GG;cases hst : il s sv with
 | false => simp
 | true =>
  have hm := ES hst;have hs := (kZ hm).2.2.2;have hT : lh s = bU s := by unfold lh; rw [if_pos hm]
  rw [hT, iW, ah0 sv lt s 0 hs];by_cases h0 : 0 ≤ k
  ·by_cases h1 : k < az s
   ·rw [ahX M8 _ _ _ _ (by rw [iW, Eb]) (by rw [iW, MU]) (by rw [iW]; omega)];simp [M8]
   ·simp [h1]
  ·simp [h0]
theorem atz (s : ak) (sv lt : Int) : MN.f s.f0 s.f1 s.f2 sv lt = some (kL s sv lt) := by
 unfold MN.f kL;have hsz : Gu.f s.f0 s.f1 s.f2 = some (jB s) := by cases s; rfl
 by_cases h0 : sv < 0
 ·rw [if_pos h0, if_neg];intro h;have := of_decide_eq_true h;omega
 ·rw [if_neg h0, hsz];simp only [Option.bind_some];by_cases h1 : sv ≥ jB s
  ·rw [if_pos h1, if_neg];intro h;have := of_decide_eq_true h;omega
  ·have hst : il s sv = true := decide_eq_true ⟨by omega, by omega⟩;have hz := kZ (ES hst);rw [if_neg h1, if_pos hst];have hv : Cq.f s.f0 s.f1 s.f2 sv lt 0 = some (dZ sv lt s 0, ((0 + az s : Nat) : Int)) := by
    unfold Cq.f;rw [aez, if_pos ⟨hz.2.2.2, by omega, by have := hz.2.2.1; simp; omega⟩];rfl
   rw [hv];rfl
end Go.Proofs.YtapejnikpmfddaaGreat.X
namespace Go.Proofs.YtapejnikpmfddaaGreat.L
open Go.RowKit Go.Proofs.aI.bM Go.Proofs.aI.dM
open Go.Proofs.YtapejnikpmfddaaGreat.P Go.Proofs.YtapejnikpmfddaaGreat.gY Go.Proofs.YtapejnikpmfddaaGreat.X
inductive RG (nx : Nat → List Nat) (inn goal : Nat → Bool) : Nat → Prop
 | base {p : Nat} : goal p = true → RG nx inn goal p
 | step {p y : Nat} : inn p = true → y ∈ nx p → RG nx inn goal y → RG nx inn goal p
section
variable {nx : Nat → List Nat} {inn goal z : Nat → Bool} {N P : Nat} {good : Nat → Nat → Bool}
theorem RG.sub {p : Nat} (h : RG nx inn goal p) (hg : ∀ q, goal q = true → inn q = true) : inn p = true := by
 cases h with
 | base h => exact hg _ h
 | step h _ _ => exact h
def Ju (nx : Nat → List Nat) (z : Nat → Bool) (x : Nat) : List Nat := (nx x).filter z
theorem RG.way {p : Nat} (h : RG nx z goal p) (hg : ∀ q, goal q = true → z q = true) : ∃ g, Sg.Reach (Ju nx z) p g ∧ goal g = true := by
 induction h with
 | base h => exact ⟨_, .refl _, h⟩
 | step h1 h2 h3 ih =>
  obtain ⟨g, a, b⟩ := ih;exact ⟨g, .step (List.mem_filter.2 ⟨h2, h3.sub hg⟩) a, b⟩
theorem atA {nx' : Nat → List Nat} (hnx : ∀ x, x < N → ∀ y, y ∈ nx x → y < N) (h : ∀ x, x < N → ∀ y, y ∈ nx x → y ∈ nx' x) {a b : Nat} (hr : Sg.Reach nx a b) (ha : a < N) : Sg.Reach nx' a b := by
 induction hr with
 | refl _ => exact .refl _
 | step e _ ih => exact .step (h _ ha _ e) (ih (hnx _ ha _ e))
theorem M9 {a b : Nat} (hr : Sg.Reach (Ju nx z) a b) : Sg.Reach nx a b := by
 induction hr with
 | refl _ => exact .refl _
 | step e _ ih => exact .step (List.mem_filter.1 e).1 ih
theorem atB {a b : Nat} (hr : Sg.Reach (Ju nx z) a b) (ha : z a = true) : z b = true := by
 induction hr with
 | refl _ => exact ha
 | step e _ ih => exact ih (List.mem_filter.1 e).2
theorem filter_lt {f g : Nat → Bool} : ∀ (l : List Nat), (∀ x, x ∈ l → f x = true → g x = true) → (∃ a, a ∈ l ∧ g a = true ∧ f a = false) → (l.filter f).length < (l.filter g).length
 | [], _, ⟨a, h, _⟩ => by cases h
 | b :: r, hs, ⟨a, h, h1, h2⟩ => by
  have hle : (r.filter f).length ≤ (r.filter g).length := by
   have key : ∀ l : List Nat, (∀ x, x ∈ l → f x = true → g x = true) → (l.filter f).length ≤ (l.filter g).length := by
    intro l
    induction l with
    | nil => intro _; exact Nat.le_refl _
    | cons c t ih =>
     intro hc;have := ih (fun x hx => hc x (List.mem_cons_of_mem _ hx));rw [List.filter_cons, List.filter_cons];cases hf : f c with
     | true => rw [hc c (List.mem_cons_self ..) hf]; simpa using this
     | false =>
      cases g c with
      | true => simp; omega
      | false => simpa using this
   exact key r (fun x hx => hs x (List.mem_cons_of_mem _ hx))
  rw [List.filter_cons, List.filter_cons];rcases List.mem_cons.1 h with e | e
  ·subst e;rw [h1, h2];simp;omega
  ·have ih := filter_lt r (fun x hx => hs x (List.mem_cons_of_mem _ hx)) ⟨a, e, h1, h2⟩;cases hf : f b with
   | true => rw [hs b (List.mem_cons_self ..) hf]; simpa using ih
   | false =>
    cases g b with
    | true => simp; omega
    | false => simpa using ih
open Classical in
theorem bottom {nz : Nat → List Nat} (hN : ∀ a b, Sg.Reach nz a b → a < N → b < N) : ∀ (k p : Nat), p < N → ((List.range N).filter (fun u => decide (Sg.Reach nz p u))).length ≤ k → ∃ v, Sg.Reach nz p v ∧ ∀ u, Sg.Reach nz v u → Sg.Reach nz u v
 | k, p, hp, hk => by
  by_cases h : ∀ u, Sg.Reach nz p u → Sg.Reach nz u p
  ·exact ⟨p, .refl _, h⟩
  ·have hx : ∃ u, Sg.Reach nz p u ∧ ¬ Sg.Reach nz u p := by
    refine Classical.byContradiction (fun hn => h (fun u hu => Classical.byContradiction (fun hc => hn ⟨u, hu, hc⟩)))
   obtain ⟨u, hu, hn⟩ := hx;have hlt := filter_lt (f := fun x => decide (Sg.Reach nz u x)) (g := fun x => decide (Sg.Reach nz p x)) (List.range N) (fun x _ hx => decide_eq_true (hu.trans (of_decide_eq_true hx))) ⟨p, List.mem_range.2 hp, decide_eq_true (.refl _), decide_eq_false hn⟩;match k, hk with
   | 0, hk => omega
   | k + 1, hk =>
    obtain ⟨v, h1, h2⟩ := bottom hN k u (hN _ _ hu hp) ag;exact ⟨v, hu.trans h1, h2⟩
def mR (nx : Nat → List Nat) (good : Nat → Nat → Bool) (P k : Nat) (z : Nat → Bool) (p : Nat) : Bool := z p && ((P == 0 || good k p) && (nx p).any z)
theorem Si {k q : Nat} (h : mR nx good P k z q = true) : z q = true := by
 unfold mR at h;rw [Bool.and_eq_true] at h;exact h.1
def Jv (nx : Nat → List Nat) (good : Nat → Nat → Bool) (P : Nat) (z : Nat → Bool) (k : Nat) : Prop := ∀ p, z p = true → RG nx z (mR nx good P k z) p
theorem atC (hnx : ∀ x, x < N → ∀ y, y ∈ nx x → y < N) (hst : ∀ k, k < max 1 P → Jv nx good P z k) {p : Nat} (hp : p < N) (hz : z p = true) : ∃ v, Sg.Reach nx p v ∧ Sg.Av nx P good v := by
 have hlt : ∀ a b, Sg.Reach (Ju nx z) a b → a < N → b < N := fun a b h ha => by
  induction h with
  | refl _ => exact ha
  | step e _ ih => exact ih (hnx _ ha _ (List.mem_filter.1 e).1)
 obtain ⟨v, hv, hb⟩ := bottom hlt N p hp (by
  refine Nat.le_trans (List.length_filter_le _ _) ?_;rw [List.length_range]; exact Nat.le_refl _)
 have hvz := atB hv hz;have hgo : ∀ k, k < max 1 P → ∃ g, Sg.Reach (Ju nx z) v g ∧ (P = 0 ∨ good k g = true) ∧ ∃ y, y ∈ nx g ∧ z y = true := fun k hk => by
  obtain ⟨g, a, b⟩ := (hst k hk v hvz).way (fun q => Si);refine ⟨g, a, ?_⟩;unfold mR at b;rw [Bool.and_eq_true, Bool.and_eq_true, Bool.or_eq_true, beq_iff_eq, List.any_eq_true] at b;exact ⟨b.2.1, b.2.2⟩
 refine ⟨v, M9 hv, ?_, fun i hi => ?_⟩
 ·obtain ⟨g, h1, _, y, h2, h3⟩ := hgo 0 ag;have hy : y ∈ Ju nx z g := List.mem_filter.2 ⟨h2, h3⟩;have hback := hb y (h1.snoc hy);cases h1 with
  | refl _ => exact ⟨y, h2, M9 hback⟩
  | step e r => exact ⟨_, (List.mem_filter.1 e).1, M9 (hb _ (Sg.Reach.one e))⟩
 ·obtain ⟨g, h1, h2, _⟩ := hgo i ag;rcases h2 with h2 | h2
  ·omega
  ·exact ⟨g, M9 h1, M9 (hb g h1), h2⟩
structure Ee (nx : Nat → List Nat) (good : Nat → Nat → Bool) (N P : Nat) (x : Nat → Nat) : Prop where
 lt : ∀ i, x i < N
 step : ∀ i, x (i + 1) ∈ nx (x i)
 good : ∀ q, q < P → ∀ i, ∃ j, i ≤ j ∧ good q (x j) = true
theorem atD {x : Nat → Nat} (hx : Ee nx good N P x) (hz : ∀ i, z (x i) = true) {k : Nat} (hk : k < max 1 P) : ∀ i, RG nx z (mR nx good P k z) (x i) := by
 have atE : ∀ i, (P = 0 ∨ good k (x i) = true) → mR nx good P k z (x i) = true := fun i h => by
  unfold mR;rw [hz i, Bool.true_and, Bool.and_eq_true, Bool.or_eq_true, beq_iff_eq, List.any_eq_true];exact ⟨h, _, hx.step i, hz (i + 1)⟩
 have key : ∀ d i, (P = 0 ∨ good k (x (i + d)) = true) → RG nx z (mR nx good P k z) (x i) := by
  intro d
  induction d with
  | zero => exact fun i h => .base (atE i h)
  | succ d ih => exact fun i h => .step (hz i) (hx.step i) (ih (i + 1) (by rwa [show i + 1 + d = i + (d + 1) by omega]))
 intro i;by_cases hP : P = 0
 ·exact key 0 i (.inl hP)
 ·obtain ⟨j, h1, h2⟩ := hx.good k ag i;exact key (j - i) i (.inr (by rwa [show i + (j - i) = j by omega]))
end
open Classical in
noncomputable def AY (nx : Nat → List Nat) (N : Nat) (goal inn : List Bool) : List Bool := (List.range N).map (fun p => decide (RG nx (Sg.aH inn) (Sg.aH goal) p))
section
variable {nx : Nat → List Nat} {good : Nat → Nat → Bool} {N P : Nat} {goal inn : List Bool}
theorem Na : (AY nx N goal inn).length = N := by simp [AY]
theorem GH {l : List Bool} {p : Nat} (h : Sg.aH l p = true) : p < l.length := by
 refine Classical.byContradiction (fun hn => ?_);unfold Sg.aH at h;rw [List.getD_eq_getElem?_getD, List.getElem?_eq_none ag] at h;cases h
theorem ah1 {f : Nat → Bool} {p : Nat} (h : p < N) : Sg.aH ((List.range N).map f) p = f p := by
 unfold Sg.aH;rw [List.getD_eq_getElem?_getD, List.getElem?_map, List.getElem?_range h]; rfl
open Classical in
theorem Sj {p : Nat} (hp : p < N) : Sg.aH (AY nx N goal inn) p = true ↔ RG nx (Sg.aH inn) (Sg.aH goal) p := by
 unfold AY;rw [ah1 hp, decide_eq_true_iff]
theorem ah2 {a b : List Bool} (hl : a.length = b.length) (h : ∀ p, p < a.length → Sg.aH a p = Sg.aH b p) : a = b := by
 apply List.ext_getElem hl
 intro i h1 h2;have := h i h1;unfold Sg.aH at this
 rwa [List.getD_eq_getElem?_getD, List.getD_eq_getElem?_getD, List.getElem?_eq_getElem h1, List.getElem?_eq_getElem h2] at this
theorem atF {out : List Bool} (hl : out.length = N) (hg : goal.length ≤ N) (hi : inn.length ≤ N) (hS : ∀ p, Sg.aH out p = true → RG nx (Sg.aH inn) (Sg.aH goal) p) (hG : ∀ p, Sg.aH goal p = true → Sg.aH out p = true)
  (hC : ∀ p, p < N → Sg.aH inn p = true → (nx p).any (Sg.aH out) = true → Sg.aH out p = true) : out = AY nx N goal inn := by
 refine ah2 (by rw [hl, Na]) (fun p hp => ?_);rw [hl] at hp;have h2 : ∀ q, RG nx (Sg.aH inn) (Sg.aH goal) q → Sg.aH out q = true := fun q h => by
  induction h with
  | base h => exact hG _ h
  | @step q y a b c ih =>
   exact hC q (by have := GH a; omega) a (List.any_eq_true.2 ⟨y, b, ih⟩)
 have h1 := Sj (nx := nx) (N := N) (goal := goal) (inn := inn) hp;cases hx : Sg.aH out p with
 | true => exact (h1.2 (hS p hx)).symm
 | false =>
  cases hy : Sg.aH (AY nx N goal inn) p with
  | false => rfl
  | true => exact absurd (hx.symm.trans (h2 p (h1.1 hy))) ai
structure GI (nx : Nat → List Nat) (good : Nat → Nat → Bool) (N P : Nat) (z y : List Bool) (i : Nat) : Prop where
 len : y.length = N
 keep : ∀ x, Ee nx good N P x → ∀ j, Sg.aH y (x j) = true
 sub : ∀ p, Sg.aH y p = true → Sg.aH z p = true
 st : (∀ p, Sg.aH z p = true → Sg.aH y p = true) → ∀ k, k < i → Jv nx good P (Sg.aH z) k
theorem GI.start {z : List Bool} (hl : z.length = N) (hk : ∀ x, Ee nx good N P x → ∀ j, Sg.aH z (x j) = true) : GI nx good N P z z 0 := ⟨hl, hk, fun _ h => h, fun _ k hk => by omega⟩
def AZ (nx : Nat → List Nat) (good : Nat → Nat → Bool) (N P k : Nat) (y : List Bool) : List Bool := (List.range N).map (mR nx good P k (Sg.aH y))
theorem ah3 {k : Nat} {y : List Bool} : (AZ nx good N P k y).length = N := by simp [AZ]
theorem atG {k : Nat} {y : List Bool} (hl : y.length = N) (p : Nat) : Sg.aH (AZ nx good N P k y) p = mR nx good P k (Sg.aH y) p := by
 by_cases hp : p < N
 ·unfold AZ; exact ah1 hp
 ·have h1 : Sg.aH (AZ nx good N P k y) p = false := by
   cases h : Sg.aH (AZ nx good N P k y) p with
   | false => rfl
   | true => have := GH h; rw [ah3] at this; omega
  have h2 : mR nx good P k (Sg.aH y) p = false := by
   cases h : mR nx good P k (Sg.aH y) p with
   | false => rfl
   | true => have := GH (Si h); omega
  rw [h1, h2]
theorem GI.next {z y : List Bool} {i : Nat} (h : GI nx good N P z y i) (hi : i < max 1 P) : GI nx good N P z (AY nx N (AZ nx good N P i y) y) (i + 1) := by
 have hg : Sg.aH (AZ nx good N P i y) = mR nx good P i (Sg.aH y) := funext (atG h.len);have hsub : ∀ p, Sg.aH (AY nx N (AZ nx good N P i y) y) p = true → Sg.aH y p = true := fun p hp => by
  have hlt := GH hp;rw [Na] at hlt;have := (Sj hlt).1 hp;rw [hg] at this;exact this.sub (fun q => Si)
 refine ⟨Na, fun x hx j => ?_, fun p hp => h.sub p (hsub p hp), fun hz k hk => ?_⟩
 ·refine (Sj (hx.lt j)).2 ?_;rw [hg];exact atD hx (h.keep x hx) hi j
 ·have uf : ∀ p, Sg.aH z p = true → Sg.aH y p = true := fun p hp => hsub p (hz p hp);by_cases e : k < i
  ·exact h.st uf k e
  ·have e : k = i := by omega
   subst e;have hyz : Sg.aH y = Sg.aH z := by
    funext p
    cases a : Sg.aH y p with
    | true => exact (h.sub p a).symm
    | false =>
     cases b : Sg.aH z p with
     | false => rfl
     | true => exact absurd (a.symm.trans (uf p b)) ai
   intro p hp;have h1 := hz p hp;have hlt := GH h1;rw [Na] at hlt;have h2 := (Sj hlt).1 h1;rw [hg, hyz] at h2;exact h2
end
section
variable {ls ss : List Int} {nxs : List (List Int)} {f : ak}
def qy (ls : List Int) (nxs : List (List Int)) (f : ak) (x : Nat) : List Nat :=
 (nxs.getD (x / 2 ^ az f) []).flatMap (fun w => ((List.range (2 ^ az f)).filter (fun t => zH f ((x % 2 ^ az f : Nat) : Int) (ls.getD (x / 2 ^ az f) 0) ((t : Nat) : Int) (ls.getD w.toNat 0))).map (fun t => w.toNat * 2 ^ az f + t))
theorem ah4 (hm : bW f = 0) {a t : Nat} (ha : a < 2 ^ az f) (ht : t < 2 ^ az f) (lv lw : Int) : zH f (a : Int) lv (t : Int) lw = decide (ng t lw (partsOf (bU f) 0) = a) := by
 have ahr := size_le hm;have e1 : il f (a : Int) = true := decide_eq_true (by rw [MR hm]; omega);have e2 : il f (t : Int) = true := decide_eq_true (by rw [MR hm]; omega);rw [← atx];have e3 : VI f (a : Int) lv (t : Int) lw = (il f (a : Int) && (il f (t : Int) && jN (a : Int) (kH (t : Int) lw f 0) 0)) := rfl;rw [e3, e1, e2, Bool.true_and, Bool.true_and, Ry _ 0 a ag (by rw [Kn, Nat.pow_zero, Nat.div_one]; exact ha), Nat.pow_zero, Nat.div_one, YP hm t lw ag];exact decide_eq_decide.2 ⟨fun h => h.symm, fun h => h.symm⟩
theorem Nb (hg : F3 ls ss nxs) (hm : bW f = 0) {x y : Nat} (hx : x < 2 ^ az f * ls.length) : y ∈ qy ls nxs f x ↔ y ∈ (bH ls ss nxs f).next x := by
 rw [RF (Cg hg hm) hx];have hmod : x % 2 ^ az f < 2 ^ az f := Nat.mod_lt _ (size_pos f);have hd : x / 2 ^ az f < nxs.length := by rw [hg.nn]; exact (Cg hg hm).div hx
 have hpd : (bH ls ss nxs f).nxs.getD (x / 2 ^ az f) [] = (nxs.getD (x / 2 ^ az f) []).map Int.toNat := agj (fun l : List Int => l.map Int.toNat) nxs [] [] rfl _;rw [hpd];unfold qy;rw [List.mem_flatMap];constructor
 ·rintro ⟨w, hw, hy⟩;obtain ⟨t, ht, rfl⟩ := List.mem_map.1 hy;rw [List.mem_filter, List.mem_range] at ht;refine ⟨w.toNat, t, List.mem_map.2 ⟨w, hw, rfl⟩, ht.1, ?_, rfl⟩;have := ht.2;rw [ah4 hm hmod ht.1, decide_eq_true_iff] at this;exact this
 ·rintro ⟨w, t, hw, ht, ha, rfl⟩;obtain ⟨u, hu, rfl⟩ := List.mem_map.1 hw;refine ⟨u, hu, List.mem_map.2 ⟨t, ?_, rfl⟩⟩;rw [List.mem_filter, List.mem_range];exact ⟨ht, by rw [ah4 hm hmod ht]; exact decide_eq_true ha⟩
def Sk (ls ss : List Int) (f : ak) (z : List Bool) : Bool := ss.any (fun v => (List.range (2 ^ az f)).any (fun s => Sg.aH z (v.toNat * 2 ^ az f + s) && kL f (s : Int) (ls.getD v.toNat 0)))
theorem atH (hg : F3 ls ss nxs) (hm : bW f = 0) {z : List Bool} (hz : z.length = 2 ^ az f * ls.length) (hk : ∀ x, Ee (qy ls nxs f) (bH ls ss nxs f).good (2 ^ az f * ls.length) (az f) x → ∀ j, Sg.aH z (x j) = true)
  (hst : ∀ k, k < max 1 (az f) → Jv (qy ls nxs f) (bH ls ss nxs f).good (az f) (Sg.aH z) k) : Sk ls ss f z = (iK ls ss nxs f true).isSome := by
 have hok := Cg hg hm;have hN : (bH ls ss nxs f).N = 2 ^ az f * ls.length := rfl;have CZ : (bH ls ss nxs f).P = az f := by
  show (partsOf (bU f) 0).length = az f;rw [DY, iW]
 have hnl : ∀ x, x < 2 ^ az f * ls.length → ∀ y, y ∈ qy ls nxs f x → y < 2 ^ az f * ls.length := fun x hx y hy => hok.xS hx ((Nb hg hm hx).1 hy);cases hf : iK ls ss nxs f true with
 | some q =>
  obtain ⟨a, c⟩ := q;obtain ⟨hb, hlt, h0, hs, hgd⟩ := RH hok hm hf;have hx := hk (fun i => (a ++ c).getD (eT (a ++ c).length a.length i) 0) ⟨hlt, fun i => (Nb hg hm (hlt i)).2 (hs i), hgd⟩ 0;obtain ⟨v, s, hv, hsl, hval, e⟩ := MS.1 h0;obtain ⟨u, hu, rfl⟩ := List.mem_map.1 hv;refine List.any_eq_true.2 ⟨u, hu, List.any_eq_true.2 ⟨s, List.mem_range.2 hsl, ?_⟩⟩;rw [Bool.and_eq_true];rw [show eT (a ++ c).length a.length 0 = 0 from rfl, e] at hx;exact ⟨hx, hval⟩
 | none =>
  have hspec := Sg.find_spec (nx := (bH ls ss nxs f).next) (good := (bH ls ss nxs f).good) (N := (bH ls ss nxs f).N) (P := (bH ls ss nxs f).P) (frm := (bH ls ss nxs f).starts true) (fun x hx y hy => hok.xS hx hy) (fun x hx => hok.LY true hx);have h' : Sg.findF (bH ls ss nxs f).next (bH ls ss nxs f).good (bH ls ss nxs f).N (bH ls ss nxs f).P ((bH ls ss nxs f).starts true) = none := hf;rw [h', CZ] at hspec;cases hs : Sk ls ss f z with
  | false => rfl
  | true =>
   obtain ⟨u, hu, h1⟩ := List.any_eq_true.1 hs;obtain ⟨s, hsl, h2⟩ := List.any_eq_true.1 h1;rw [List.mem_range] at hsl;rw [Bool.and_eq_true] at h2;have hlt := GH h2.1;rw [hz] at hlt;obtain ⟨v, hr, ha⟩ := atC hnl hst hlt h2.1;have atI : u.toNat * 2 ^ az f + s ∈ (bH ls ss nxs f).starts true := MS.2 ⟨u.toNat, s, List.mem_map.2 ⟨u, hu, rfl⟩, hsl, h2.2, rfl⟩;have hvN : ∀ a b, Sg.Reach (qy ls nxs f) a b → a < 2 ^ az f * ls.length → b < 2 ^ az f * ls.length := fun a b h ha => by
    induction h with
    | refl _ => exact ha
    | step e _ ih => exact ih (hnl _ ha _ e)
   have hsw : ∀ a b, Sg.Reach (qy ls nxs f) a b → a < 2 ^ az f * ls.length → Sg.Reach (bH ls ss nxs f).next a b := fun a b h ha => atA hnl (fun x hx y hy => (Nb hg hm hx).1 hy) h ha;have hvl := hvN _ _ hr hlt;refine absurd ?_ (hspec _ v atI (hsw _ _ hr hlt));obtain ⟨⟨y, y1, y2⟩, hgd⟩ := ha;refine ⟨⟨y, (Nb hg hm hvl).1 y1, hsw _ _ y2 (hnl _ hvl _ y1)⟩, fun i hi => ?_⟩;obtain ⟨g, g1, g2, g3⟩ := hgd i hi;exact ⟨g, hsw _ _ g1 hvl, hsw _ _ g2 (hvN _ _ g1 hvl), g3⟩
end
end Go.Proofs.YtapejnikpmfddaaGreat.L
namespace Go.Proofs.YtapejnikpmfddaaGreat.X
open Go.RowKit Go.Proofs.aI.bM Go.Proofs.aI.dG Go.Proofs.aI.dM
open Go.Proofs.YtapejnikpmfddaaGreat.P Go.Proofs.YtapejnikpmfddaaGreat.gY
theorem atJ (l : List Bool) (n : Nat) : qE false l (n : Int) = l.getD n false := by unfold qE; rw [Int.toNat_natCast]
theorem Sl (l : List Nat) : (j5 l).length = l.length := List.length_map ..
theorem ah5 (b : List Bool) (l : List Nat) (hl : ∀ y, y ∈ l → y < b.length) (hb : l.length < 1000000000) : ∀ (r p : List Nat), p ++ r = l → Ev (fun k => wW.l0 k b (j5 l) ((j5 l).length : Int) (p.length : Int)) (r.any (Sg.aH b))
 | [], p, e => by
  have e' : p = l := by simpa using e
  subst e';refine eO (fun k => rfl) (lN (by rw [Sl]; omega) (dx _))
 | y :: r, p, e => by
  have hlen : (j5 l).length = p.length + r.length + 1 := by rw [Sl, ← e]; simp; omega
  have hlt : p.length < l.length := by rw [← e]; simp
  have hy := hl y (by rw [← e]; simp);have hrd : rd (j5 l) (p.length : Int) = (y : Int) := by
   rw [← e];unfold j5;rw [List.map_append, List.map_cons, show (p.length : Int) = ((p.map (fun n : Nat => (n : Int))).length : Int) by rw [List.length_map]];exact Ke _ _ _
  refine eO (fun k => rfl) (dC ag (dC ag (dC ag ?_)));rw [hrd, atJ];refine dC ag (dC ag ?_);rw [List.any_cons];refine xD (fun h => ?_) (fun h => ?_)
  ·rw [show Sg.aH b y = true from h]; exact dx _
  ·rw [show Sg.aH b y = false from h, Bool.false_or, jA ag ag];have := ah5 b l hl hb r (p ++ [y]) (by rw [List.append_assoc]; exact e);rw [List.length_append] at this;exact this
theorem ah6 (b : List Bool) (l : List Nat) (hl : ∀ y, y ∈ l → y < b.length) (hb : l.length < 1000000000) (A B : Option Addr) (c d : Nat) (w : World) (h0 : Kd.C bD w A l.length l) (l0 : l.length ≤ c) (h1 : Kd.C Kd.bool w B b.length b) (l1 : b.length ≤ d) :
  Calls Tryz.prog 23 #[.slice A l.length c, .slice B b.length d] w fun e w' => e = .returned (.bool (l.any (Sg.aH b))) ∧ bC w w' := by
 obtain ⟨k, hk⟩ := (ah5 b l hl hb l [] rfl).rounds;have h0' : Kd.C (Kd.int .i64) w A (j5 l).length (j5 l) := by
  rw [Sl];refine XU (d' := Kd.int .i64) (fun n : Nat => (n : Int)) rfl h0 (fun x _ c hc => hc)
 have hcl : (j5 l).length = l.length := Sl l;have := wW.calls k A c (j5 l) B d b (l.any (Sg.aH b)) w h0' ag h1 l1 hk;rw [hcl] at this;exact this
theorem atK {w : World} {base n : Nat} {ok : Nat → Prop} {v : Value} {xs : List Bool} (h : Kd.R Kd.bool 4 w base ok v xs) (hn : xs.length = n) (h0 : 0 < n) : ∃ g c, v = .slice (some ⟨g, 0, none⟩) n c ∧ base ≤ g := by
 obtain ⟨inner, ho⟩ := Kd.xu h;rcases ho.2 with ⟨_, e⟩ | ⟨g, cap, cur, e, h2, h3⟩
 ·omega
 ·exact ⟨g, cap, by rw [e, hn], h2⟩
def oJ (l : List Bool) : Nat := (l.filter (fun b => !b)).length
theorem ah7 : ∀ {l : List Bool} {p : Nat}, p < l.length → l.getD p false = false → oJ (l.set p true) + 1 = oJ l
 | b :: r, 0, _, h => by
  have : b = false := h;subst this;simp [oJ]
 | b :: r, p + 1, h1, h2 => by
  have := ah7 (l := r) (p := p) (by simpa using h1) (by simpa using h2);unfold oJ at this ⊢;rw [List.set_cons_succ];cases b <;> simp at this ⊢ <;> omega
theorem ah8 {l : List Bool} {p q : Nat} (hp : p < l.length) : Sg.aH (l.set p true) q = (decide (q = p) || Sg.aH l q) := by
 unfold Sg.aH;rw [List.getD_eq_getElem?_getD, List.getD_eq_getElem?_getD, List.getElem?_set];by_cases e : p = q
 ·subst e;rw [if_pos rfl, if_pos hp, decide_eq_true rfl]; rfl
 ·rw [if_neg e, decide_eq_false (fun h => e h.symm), Bool.false_or]
structure yt (nx : Nat → List Nat) (N : Nat) (goal inn o0 out : List Bool) (p : Nat) (more : Bool) : Prop where
 len : out.length = N
 snd : ∀ q, Sg.aH out q = true → L.RG nx (Sg.aH inn) (Sg.aH goal) q
 sup : ∀ q, Sg.aH goal q = true → Sg.aH out q = true
 less : more = true → oJ out < oJ o0
 same : more = false → out = o0 ∧ ∀ q, q < p → Sg.aH inn q = true → (nx q).any (Sg.aH out) = true → Sg.aH out q = true
theorem yt.start {nx : Nat → List Nat} {N : Nat} {goal inn o0 : List Bool} (hl : o0.length = N) (h1 : ∀ q, Sg.aH o0 q = true → L.RG nx (Sg.aH inn) (Sg.aH goal) q) (h2 : ∀ q, Sg.aH goal q = true → Sg.aH o0 q = true) : yt nx N goal inn o0 o0 0 false :=
 ⟨hl, h1, h2, fun h => (by cases h), fun _ => ⟨rfl, fun q hq => ag⟩⟩
theorem yt.skip {nx : Nat → List Nat} {N : Nat} {goal inn o0 out : List Bool} {p : Nat} {more : Bool} (h : yt nx N goal inn o0 out p more) (hs : Sg.aH inn p = true → (nx p).any (Sg.aH out) = true → Sg.aH out p = true) : yt nx N goal inn o0 out (p + 1) more :=
 ⟨h.len, h.snd, h.sup, h.less, fun hm => ⟨(h.same hm).1, fun q hq a b => (Nat.lt_or_ge q p).elim (fun hl => (h.same hm).2 q hl a b) (fun hge => by
  obtain rfl : q = p := by omega
  exact hs a b)⟩⟩
theorem yt.put {nx : Nat → List Nat} {N : Nat} {goal inn o0 out : List Bool} {p : Nat} {more : Bool} (h : yt nx N goal inn o0 out p more) (hp : p < N) (h1 : Sg.aH inn p = true) (h2 : (nx p).any (Sg.aH out) = true) (h3 : Sg.aH out p = false) : yt nx N goal inn o0 (out.set p true) (p + 1) true := by
 have hpl : p < out.length := by rw [h.len]; exact hp
 refine ⟨by rw [List.length_set]; exact h.len, fun q hq => ?_, fun q hq => ?_, fun _ => ?_, fun e => (by cases e)⟩
 ·rw [ah8 hpl, Bool.or_eq_true, decide_eq_true_iff] at hq;rcases hq with e | e
  ·subst e;obtain ⟨y, a, b⟩ := List.any_eq_true.1 h2;exact .step h1 a (h.snd y b)
  ·exact h.snd q e
 ·rw [ah8 hpl, h.sup q hq, Bool.or_true]
 ·have e := ah7 hpl h3;cases more with
  | true => have := h.less rfl; omega
  | false => rw [(h.same rfl).1] at e ⊢; omega
theorem atL (rows : List (List Nat)) (goal inn : List Bool) (N : Nat) (hr : rows.length = N) (hg : goal.length = N) (hi : inn.length = N) (hN : N < 100000) (hrow : ∀ x, x < N → ((rows.getD x []).length < 1000000 ∧ ∀ y, y ∈ rows.getD x [] → y < N)) (A0 A1 A2 : Option Addr) (c0 c1 c2 : Nat) (w : World)
  (h0 : Kd.C (Kd.slice 3 bD) w A0 N rows) (l0 : N ≤ c0) (h1 : Kd.C Kd.bool w A1 N goal) (l1 : N ≤ c1) (h2 : Kd.C Kd.bool w A2 N inn) (l2 : N ≤ c2) :
  Calls Tryz.prog 24 #[.slice A0 N c0, .slice A1 N c1, .slice A2 N c2] w fun e w' => ∃ v, e = .returned v ∧ Kd.R Kd.bool 4 w' w.heap.size (fun _ => True) v (L.AY (fun x => rows.getD x []) N goal inn) ∧ Below w.heap.size w w' := by
 have hub := Tryz.underlying57;have fM := Tryz.underlying23;have IG := Tryz.underlying24;have U0 := Zd.mk hrow;have H0 := Zd.mk h0;have H1 := Zd.mk h1;have H2 := Zd.mk h2;clear h0 h1 h2 hrow;go_enter Tryz.func24, Tryz.ntmps24
 go_upto_block 0 with ((with_reducible refine lL (b := .append) (xs := #[.const (.slice none 0 0), .tmp 10]) rfl ?_); at_builtin; refine Kd.aay Kd.bool (w0 := w) w.heap.size rfl (.const (.slice none 0 0)) (.tmp 10) 57 4 (.bool false) 1 rfl hub adS rfl ai ai (.slice none 0 0) ([] : List Bool) goal A1 N c1 (fun _ => True) (fun _ => False) rfl rfl (Kd.lK _ _ _ _ _) H1.out (fun _ _ h => h) (fun _ h => h.elim) (fun _ _ => trivial) (Below.refl _ _) (Nat.le_refl _) (by simp; omega) ?_; intro v7 w7 ho hb hg hat; rw [List.nil_append] at ho; have Sm := Zd.mk ho; have iy := Zd.mk hb; clear ho hb hg hat)
 by_cases hN0 : N = 0
 ·subst hN0;have hg0 := List.length_eq_zero_iff.1 hg;have hrz : L.AY (fun x => rows.getD x []) 0 goal inn = [] := rfl;have HRZ := Zd.mk hrz;clear hrz;rw [hg0] at Sm;clear hg0;go_wp2;go_loopg [] 1 (fun kq w' => kq = 1 ∧ Zd (w' = w7))
  case atStart => exact ⟨rfl, ⟨rfl⟩⟩
  case round =>
   obtain ⟨hk, HW⟩ := hrel;obtain ⟨W0, rfl⟩ : ∃ W : World, W = wr := ⟨_, rfl⟩;clear hk;go_wp2;go_loopg [8, 14] 0 (fun kq v8 v14 w' => v14 = .int .i64 0 ∧ v8 = .bool false ∧ Zd (w' = w7))
   case atStart => exact ⟨rfl, rfl, HW⟩
   case round =>
    obtain ⟨rfl, rfl, HW2⟩ := hrel;go_wp2;go_ret;exact ⟨_, rfl, by rw [HRZ.out, HW2.out]; exact Sm.out, by rw [HW2.out]; exact iy.out⟩
 ·obtain ⟨g, cg, e7, hgb⟩ := atK Sm.out hg ag;subst e7;have Ab := Zd.mk hgb;clear hgb;go_wp2;go_loopg [] (oJ goal + 1) (fun kq w' => ∃ out, kq = oJ out + 1 ∧ Zd (yt (fun x => rows.getD x []) N goal inn out out 0 false) ∧ Zd (Kd.R Kd.bool 4 w' w.heap.size (fun _ => True) (.slice (some ⟨g, 0, none⟩) N cg) out) ∧ Zd (Below w.heap.size w w'))
  case atStart => exact ⟨goal, rfl, ⟨yt.start hg (fun q h => .base h) (fun q h => h)⟩, Sm, iy⟩
  case round =>
   obtain ⟨o0, hk, EH, pQ, atM⟩ := hrel;obtain ⟨W0, rfl⟩ : ∃ W : World, W = wr := ⟨_, rfl⟩;obtain ⟨k1, hk1⟩ : ∃ k, k = gk := ⟨_, rfl⟩;rw [← hk1] at hk;have HK := Zd.mk hk;have dR := Zd.mk hk1;clear hk hk1;go_wp2;go_loopg [8, 14] N (fun kq v8 v14 w' => ∃ (p : Nat) (out : List Bool) (more : Bool), p + kq = N ∧ v14 = .int .i64 (p : Int) ∧ v8 = .bool more ∧ Zd (yt (fun x => rows.getD x []) N goal inn o0 out p more) ∧ Zd (Kd.R Kd.bool 4 w' w.heap.size (fun _ => True) (.slice (some ⟨g, 0, none⟩) N cg) out) ∧ Zd (Below w.heap.size w w'))
   case atStart => exact ⟨0, o0, false, by omega, rfl, rfl, EH, pQ, atM⟩
   case round =>
    obtain ⟨p, out, more, hp, rfl, rfl, HC, HR, jQ⟩ := hrel;obtain ⟨W2, rfl⟩ : ∃ W : World, W = wr := ⟨_, rfl⟩;have HP := Zd.mk hp;clear hp;by_cases hlt : p < N
    ·have hlt2 : (p : Int) < (N : Int) := by omega
     obtain ⟨ad2, e2, z2⟩ := IC H2.out hlt;subst e2;have z2' := aG jQ.out z2;obtain ⟨ad0, Ar, cr, e0, z0, lr, nT⟩ := Dw H0.out hlt;subst e0;have z0' := aG jQ.out z0;obtain ⟨z7, f7⟩ := zi HR.out hlt;obtain ⟨bi, hbi⟩ : ∃ b, b = inn.getD p false := ⟨_, rfl⟩;obtain ⟨bo, GJ⟩ : ∃ b, b = out.getD p false := ⟨_, rfl⟩;rw [← hbi] at z2';rw [← GJ] at z7;obtain ⟨row, hrow⟩ : ∃ r, r = rows.getD p [] := ⟨_, rfl⟩;have hrl := U0.out p hlt;rw [← hrow] at z0' lr nT hrl;have HHI := Zd.mk (show Sg.aH inn p = bi from hbi.symm);have Sn := Zd.mk (show Sg.aH out p = bo from GJ.symm);have HRW := Zd.mk hrow;have HCR := Zd.mk nT;have hol := HC.out.len;have hrd := Kd.pI HR.out;have Ef := Zd.mk (ah6 out row (by rw [hol]; exact hrl.2) ag Ar (some ⟨g, 0, none⟩) cr cg W2 (Kd.aQ nT jQ.out) lr hrd.2.2 (by have := hrd.2.1; omega));rw [hol] at Ef;clear z2 z0 hbi GJ hrow nT hrd hrl;by_cases hadd : bi = true ∧ bo = false
     ·obtain ⟨rfl, rfl⟩ := hadd;obtain ⟨bn, hbn⟩ : ∃ b, b = row.any (Sg.aH out) := ⟨_, rfl⟩;rw [← hbn] at Ef;have Sq := Zd.mk hbn;clear hbn;cases bn with
      | true =>
       have uY := Zd.mk (HC.out.put hlt HHI.out (by show (rows.getD p []).any (Sg.aH out) = true; rw [← HRW.out]; exact Sq.out.symm) Sn.out);go_wp2_with (go_at_call 23; refine Ef.out.mono ?_; rintro e w9 ⟨rfl, hD⟩; have hB := hD.below; have fE := Zd.mk (jQ.out.trans (hB.mono jQ.out.size)); have AO := Zd.mk (Kd.gU HR.out hB); obtain ⟨z9, f9⟩ := zi AO.out hlt; clear hB hD);go_roundg (gk - 1)
       case measure => have := HP.out; omega
       case rel => exact ⟨p + 1, out.set p true, true, by have := HP.out; omega, by first | rfl | (congr 1; go_num; done), rfl, uY, ⟨DN AO.out p true⟩, ⟨fE.out.setCell Ab.out _⟩⟩
      | false =>
       have wH := Zd.mk (HC.out.skip (fun _ h => absurd ((show (rows.getD p []).any (Sg.aH out) = false by rw [← HRW.out]; exact Sq.out.symm).symm.trans h) ai));go_wp2_with (go_at_call 23; refine Ef.out.mono ?_; rintro e w9 ⟨rfl, hD⟩; have hB := hD.below; have fE := Zd.mk (jQ.out.trans (hB.mono jQ.out.size)); have AO := Zd.mk (Kd.gU HR.out hB); clear hB hD);go_roundg (gk - 1)
       case measure => have := HP.out; omega
       case rel => exact ⟨p + 1, out, more, by have := HP.out; omega, by first | rfl | (congr 1; go_num; done), rfl, wH, AO, fE⟩
     ·have wH := Zd.mk (HC.out.skip (fun h _ => by
       rw [HHI.out] at h;rw [Sn.out];cases bo with
       | true => rfl
       | false => exact absurd ⟨h, rfl⟩ hadd))
      by_cases hb : bi = true
      ·have hb2 : bo = true := by
        cases bo with
        | true => rfl
        | false => exact absurd ⟨hb, rfl⟩ hadd
       subst hb;subst hb2;clear hadd;go_wp2;go_roundg (gk - 1)
       case measure => have := HP.out; omega
       case rel => exact ⟨p + 1, out, more, by have := HP.out; omega, by first | rfl | (congr 1; go_num; done), rfl, wH, HR, jQ⟩
      ·have hb2 : bi = false := by simpa using hb
       subst hb2;clear hadd hb;go_wp2;go_roundg (gk - 1)
       case measure => have := HP.out; omega
       case rel => exact ⟨p + 1, out, more, by have := HP.out; omega, by first | rfl | (congr 1; go_num; done), rfl, wH, HR, jQ⟩
    ·have e : p = N := by have := HP.out; omega
     subst e;cases more with
     | true =>
      have hls := HC.out.less rfl;go_wp2;go_roundg (oJ out + 1)
      case measure => have := HK.out; have := dR.out; omega
      case rel => exact ⟨out, rfl, ⟨yt.start HC.out.len HC.out.snd HC.out.sup⟩, HR, jQ⟩
     | false =>
      have hsm := HC.out.same rfl;go_wp2;go_ret;refine ⟨_, rfl, ?_, jQ.out⟩;rw [← L.atF HC.out.len (Nat.le_of_eq hg) (Nat.le_of_eq hi) HC.out.snd HC.out.sup (fun q hq a b => hsm.2 q hq a b)];exact HR.out
end Go.Proofs.YtapejnikpmfddaaGreat.X
