/- A part of the claim TableauForms. -/
import Derived.Test.YtegaicoddnmemaaQTableauFormsa
import Derived.Test.YtegaicoddnmemaaQTableauFormsb
import Derived.Test.YtegaicoddnmemaaQTableauFormsc
import Derived.Test.YtegaicoddnmemaaQTableauFormsd
namespace Go.Proofs.Ytegaicoddnmemaa.X
open Go.RowKit Go.Proofs.YtegaicoddnmemaaW.PrintWords Go.Proofs.YtegaicoddnmemaaW.PrintLast Go.Proofs.YtegaicoddnmemaaW.PrintMore
open Go.Proofs.Ytegaicoddnmemaa.P Go.Proofs.Ytegaicoddnmemaa.Evx
set_option linter.unusedSimpArgs false
set_option linter.unusedVariables false
/-- What the reference wants of bit i. -/
def wantB (t : S24) (o f : Bool) : Bool := if t.f0 = 6 then f else o
def rmL (sv : Int) : List S24 → List Bool → List Bool → Nat → Bool
  | [], _, _, _ => true
  | t :: r, O, F, i => bitK sv i == wantB t (O.getD i false) (F.getD i false) && rmL sv r O F (i + 1)
def rmovesF (s : S24) (sv lt tv nx : Int) : Bool := stateS s sv && (stateS s tv && rmL sv (timesS s) (tmO tv nx s 0) (tmF tv nx s 0) 0)
def rgoodOp (op : Int) (o l : Bool) : Bool := if op = 7 then !o || l else if op = 8 then o || !l else true
def rgoodF (s : S24) (k sv lt : Int) : Bool := decide (0 ≤ k) && (decide (k < (TimesS s).length) && (stateS s sv && rgoodOp ((TimesS s).getD k.toNat z24).f0 ((tmO sv lt s 0).getD k.toNat false) ((tmB sv lt s 0).getD k.toNat false)))
theorem r3_cell {w0 w : World} {v : Fin 3 → Value} {l : Fin 3 → List Bool} (h : R3 w0 w v l) (i : Fin 3) {j : Nat} (hj : j < (l i).length) : ∃ g c, v i = .slice (some ⟨g, 0, none⟩) (l i).length c ∧ w.cell? ⟨g, j, none⟩ = some (.bool ((l i).getD j false)) := by
  obtain ⟨g, c, e, _, _, p, _⟩ := own_put (h.o i) hj
  exact ⟨g, c, e, p⟩
set_option maxHeartbeats 4000000 in
set_option maxRecDepth 100000 in
theorem rMoves_calls (s : S24) (sv lt tv nx : Int) (A : Option Addr) (cp : Nat) (w : World) (hr : Kd.C k24 w A s.f2.length s.f2) (hc : s.f2.length ≤ cp) :
    Calls Try.prog 21 #[.agg #[.int .i64 s.f0, .int .i64 s.f1, .slice A s.f2.length cp], .int .i64 sv, .int .u32 lt, .int .i64 tv, .int .u32 nx] w fun e w' => e = .returned (.bool (rmovesF s sv lt tv nx)) ∧ Below w.heap.size w w' := by
  have huF := Try.underlying24
  have huL := Try.underlying22
  have hut := Try.underlying68
  have hus := Try.underlying45
  obtain ⟨W1, hW1⟩ : ∃ W1, W1 = w.alloc (.cells #[.int .i64 s.f0, .int .i64 s.f1, .slice A s.f2.length cp] 24) := ⟨_, rfl⟩
  have hB1 : Below w.heap.size w W1 := by rw [hW1]; exact below_alloc (Below.refl _ _) _
  have hbx : W1.heap[w.heap.size]? = some (.cells #[.int .i64 s.f0, .int .i64 s.f1, .slice A s.f2.length cp] 24 (0, 0)) := by rw [hW1]; exact heap_alloc_new w _
  have HBX := Aside0.mk hbx
  have HB1 := Aside0.mk hB1
  have HR := Aside0.mk hr
  have HSZC := Aside0.mk (rSize_calls s A cp W1 (Kd.C_below hr hB1) hc)
  have HBXB := Aside0.mk (fun W (h : Below w.heap.size w W) => h)
  have x0 : W1.cell? ⟨w.heap.size, 0, none⟩ = some (.int .i64 s.f0) := (blk_cell hbx 0).trans rfl
  have x1 : W1.cell? ⟨w.heap.size, 1, none⟩ = some (.int .i64 s.f1) := (blk_cell hbx 1).trans rfl
  have x2 : W1.cell? ⟨w.heap.size, 2, none⟩ = some (.slice A s.f2.length cp) := (blk_cell hbx 2).trans rfl
  have HRF := Aside0.mk (show rmovesF s sv lt tv nx = (stateS s sv && (stateS s tv && rmL sv (timesS s) (tmO tv nx s 0) (tmF tv nx s 0) 0)) from rfl)
  have HS1 := Aside0.mk (show stateS s sv = decide (0 ≤ sv ∧ sv < sizeS s) from rfl)
  have HS2 := Aside0.mk (show stateS s tv = decide (0 ≤ tv ∧ tv < sizeS s) from rfl)
  have HM := Aside0.mk (@state_may s tv)
  have HTS := Aside0.mk (show mayF s = 0 → TimesS s = timesS s from fun h => by unfold TimesS; rw [if_pos h])
  generalize rmovesF s sv lt tv nx = R at *
  generalize sizeS s = N at *
  generalize stateS s sv = B1 at *
  generalize stateS s tv = B2 at *
  clear hbx hB1 hr
  go_enter Try.func21, Try.ntmps21
  go_upto_region 1 with fail
  rw [← hW1]
  clear hW1
  go_upto_region 2 with (go_at_call 19; refine HSZC.out.mono ?_; rintro e w2 ⟨rfl, hB⟩; have HB2 := Aside0.mk (HB1.out.trans (hB.mono HB1.out.size)); have HBX2 := Aside0.mk ((hB.block _ (blk_lt HBX.out)).trans HBX.out); clear hB)
  have y0 : w2.cell? ⟨w.heap.size, 0, none⟩ = some (.int .i64 s.f0) := (blk_cell HBX2.out 0).trans rfl
  have y1 : w2.cell? ⟨w.heap.size, 1, none⟩ = some (.int .i64 s.f1) := (blk_cell HBX2.out 1).trans rfl
  have y2 : w2.cell? ⟨w.heap.size, 2, none⟩ = some (.slice A s.f2.length cp) := (blk_cell HBX2.out 2).trans rfl
  clear x0 x1 x2
  go_cut [33] (fun v33 wx => ∃ t : Bool, v33 = .bool t ∧ Aside0 ((!(B1 && B2)) = t) ∧ wx = w2)
  case first =>
    by_cases a1 : sv < 0
    · have HX := Aside0.mk (show B1 = false from by rw [HS1.out]; exact decide_eq_false (by omega))
      go_wp2
      go_meet
      exact ⟨_, rfl, ⟨by rw [HX.out]; rfl⟩, rfl⟩
    · by_cases a2 : tv < 0
      · have HX := Aside0.mk (show B2 = false from by rw [HS2.out]; exact decide_eq_false (by omega))
        go_wp2
        go_meet
        exact ⟨_, rfl, ⟨by rw [HX.out, Bool.and_false]; rfl⟩, rfl⟩
      · by_cases a3 : N ≤ sv
        · have HX := Aside0.mk (show B1 = false from by rw [HS1.out]; exact decide_eq_false (by omega))
          go_wp2
          go_meet
          exact ⟨_, rfl, ⟨by rw [HX.out]; rfl⟩, rfl⟩
        · by_cases a4 : N ≤ tv
          · have HX := Aside0.mk (show B2 = false from by rw [HS2.out]; exact decide_eq_false (by omega))
            go_wp2
            go_meet
            exact ⟨_, rfl, ⟨by rw [HX.out, Bool.and_false]; rfl⟩, rfl⟩
          · have HX := Aside0.mk (show B1 = true ∧ B2 = true from ⟨by rw [HS1.out]; exact decide_eq_true (by omega), by rw [HS2.out]; exact decide_eq_true (by omega)⟩)
            go_wp2
            go_meet
            exact ⟨_, rfl, ⟨by rw [HX.out.1, HX.out.2]; rfl⟩, rfl⟩
  case rest =>
    obtain ⟨t, rfl, HT, hwc⟩ := hcut
    rw [hwc]
    clear hwc wc
    cases t with
    | true =>
      have HX := Aside0.mk (show R = false from by rw [HRF.out, ← Bool.and_assoc, bnot HT.out]; rfl)
      go_wp2
      go_ret
      exact ⟨by rw [HX.out]; rfl, HB2.out⟩
    | false =>
      have hT : (B1 && B2) = true := by simpa using HT.out
      have hB2 : B2 = true := by cases B1 <;> simp_all
      have HZ := Aside0.mk (may_zero (HM.out hB2))
      have HTQ := Aside0.mk (HTS.out (HM.out hB2))
      have HX := Aside0.mk (show R = rmL sv (timesS s) (tmO tv nx s 0) (tmF tv nx s 0) 0 from by rw [HRF.out, ← Bool.and_assoc, hT]; rfl)
      have HLO := Aside0.mk (len_tmO tv nx s 0)
      have HLF := Aside0.mk (len_tmF tv nx s 0)
      have HLT := Aside0.mk (len_times s)
      have hT8 : (timesS s).length ≤ 8 := by rw [len_times]; exact HZ.out.2.2.1
      have HAT := Aside0.mk (fun W (h : Below w.heap.size w W) => At_calls s tv nx A cp W (Kd.C_below HR.out h) hc HZ.out.2.2.2 (by have := HZ.out; omega))
      have HTC := Aside0.mk (fun W (h : Below w.heap.size w W) => rTimes_calls s A cp W (Kd.C_below HR.out h) hc)
      rw [HTQ.out] at HTC
      generalize timesS s = T at *
      generalize tmO tv nx s 0 = O at *
      generalize tmF tv nx s 0 = F at *
      generalize tmB tv nx s 0 = L at *
      clear hT hB2
      go_wp2_with (first | (go_at_call 40; refine (HAT.out _ HB2.out).mono ?_; rintro e w3 ⟨v1, v2, v3, rfl, hR3⟩; obtain ⟨A7, n7, c7, e7⟩ := own_form' (hR3.o 0); obtain ⟨A8, n8, c8, e8⟩ := own_form' (hR3.o 1); obtain ⟨A9, n9, c9, e9⟩ := own_form' (hR3.o 2); change v1 = _ at e7; change v2 = _ at e8; change v3 = _ at e9; subst e7 e8 e9; have HR3 := Aside0.mk hR3; have HB3 := Aside0.mk (HB2.out.trans (hR3.bl.mono HB2.out.size)); have HBX3 := Aside0.mk ((hR3.bl.block _ (blk_lt HBX2.out)).trans HBX2.out); have hrl := blk_lt HBX3.out; have hrn : ¬ w3.heap.size = w.heap.size := (by omega); have z0 := (blk_cell HBX3.out 0).trans rfl; have z1 := (blk_cell HBX3.out 1).trans rfl; have z2 := (blk_cell HBX3.out 2).trans rfl; clear hR3) | (go_at_call 30; refine (HTC.out _ (below_alloc HB3.out _)).mono ?_; rintro e w4 ⟨v4, rfl, hT4, hB4⟩; obtain ⟨A4, c4, e4, hl4, hC4⟩ := trow_read hT4 hB4; subst e4; have HC4 := Aside0.mk hC4; have HB4 := Aside0.mk ((below_alloc (Below.refl _ _) _ : Below w3.heap.size w3 _).trans (hB4.mono (by simp))); have HXB := Aside0.mk ((hB4.block _ (by simp)).trans (heap_alloc_new w3 _)); clear hT4 hB4 hC4))
      go_loopg [41] T.length (fun kq v41 w' => ∃ j : Nat, j + kq = T.length ∧ v41 = .int .i64 j ∧ Aside0 (rmL sv (T.drop j) O F j = rmL sv T O F 0) ∧ Aside0 (Below w4.heap.size w4 w'))
      case atStart => exact ⟨0, by omega, rfl, ⟨rfl⟩, ⟨Below.refl _ _⟩⟩
      case round =>
        obtain ⟨j, hj, rfl, HMV, HBj⟩ := hrel
        have HJ := Aside0.mk hj
        clear hj
        by_cases hlt : j < T.length
        · obtain ⟨ad, A5, c5, e0, hx0, hx1, hx2, hl5, hk5⟩ := kid_at HC4.out HBj.out j hlt hlt
          cases e0
          have hlO : j < O.length := by rw [HLO.out, ← HLT.out]; exact hlt
          have hlF : j < F.length := by rw [HLF.out, ← HLT.out]; exact hlt
          have HBW := Aside0.mk (HB4.out.trans (HBj.out.mono HB4.out.size))
          have hRj := HR3.out.below HBW.out
          obtain ⟨g1, d1, q1, p1⟩ := r3_cell hRj 0 hlO
          obtain ⟨g2, d2, q2, p2⟩ := r3_cell hRj 2 hlF
          change Value.slice A7 n7 c7 = .slice _ O.length d1 at q1
          change Value.slice A9 n9 c9 = .slice _ F.length d2 at q2
          injection q1 with q1a q1b q1c
          injection q2 with q2a q2b q2c
          subst q1a q1b q1c q2a q2b q2c
          change wr.cell? _ = some (.bool (O.getD j false)) at p1
          change wr.cell? _ = some (.bool (F.getD j false)) at p2
          have hxb := (HBj.out.block _ (blk_lt HXB.out)).trans HXB.out
          have c0 := (blk_cell hxb 0).trans rfl
          have c2' := (blk_cell hxb 2).trans rfl
          have hlx := blk_lt hxb
          have hg1 := World.block_lt_of_cell? _ _ p1
          have hg2 := World.block_lt_of_cell? _ _ p2
          have HST := Aside0.mk (show rmL sv T O F 0 = (bitK sv j == wantB (T[j]'hlt) (O.getD j false) (F.getD j false) && rmL sv (T.drop (j + 1)) O F (j + 1)) from by rw [← HMV.out, List.drop_eq_getElem_cons hlt, rmL])
          generalize O.getD j false = o at *
          generalize F.getD j false = f at *
          have HWB := Aside0.mk (show wantB (T[j]'hlt) o f = if (T[j]'hlt).f0 = 6 then f else o from rfl)
          have hj8 : j ≤ 8 := by omega
          generalize wantB (T[j]'hlt) o f = want at *
          generalize T[j]'hlt = kid at *
          clear hk5 hl5 hRj hxb
          go_upto_if 53 with fail
          obtain ⟨WK, hWK⟩ : ∃ WK, WK = wr.alloc (.cells #[.int .i64 kid.f0, .int .i64 kid.f1, .slice A5 kid.f2.length c5] 24) := ⟨_, rfl⟩
          rw [← hWK]
          have hBK : Below wr.heap.size wr WK := by rw [hWK]; exact below_alloc (Below.refl _ _) _
          have HBK := Aside0.mk hBK
          have p2k := (hBK.cell hg2).trans p2
          have c2k := (hBK.cell (p := ⟨w3.heap.size, 2, none⟩) hlx).trans c2'
          clear hWK hBK
          go_cut [15] (fun v15 wx => v15 = .bool want ∧ wx = WK)
          case first =>
            by_cases h6 : kid.f0 = 6
            · have h6b : (kid.f0 == 6) = true := beq_iff_eq.2 h6
              have HX6 := Aside0.mk (show want = f from by rw [HWB.out, if_pos h6])
              clear h6
              go_wp2
              go_meet
              exact ⟨by rw [HX6.out], rfl⟩
            · have h6b : (kid.f0 == 6) = false := beq_eq_false_iff_ne.2 h6
              have HX6 := Aside0.mk (show want = o from by rw [HWB.out, if_neg h6])
              clear h6
              go_wp2
              go_meet
              exact ⟨by rw [HX6.out], rfl⟩
          case rest =>
            obtain ⟨rfl, hwc⟩ := hcut
            rw [hwc]
            clear hwc wc
            go_upto_region 11 with fail
            go_cut [66] (fun v66 wx => ∃ t : Bool, v66 = .bool t ∧ Aside0 ((bitK sv j != want) = t) ∧ wx = WK)
            case first =>
              cases want
              all_goals
                go_wp2
                go_meet
                exact ⟨_, rfl, ⟨by unfold bitK; simp⟩, rfl⟩
            case rest =>
              obtain ⟨tt, rfl, HTT, hwc⟩ := hcut
              rw [hwc]
              clear hwc wc
              generalize bitK sv j = c at *
              cases tt with
              | false =>
                have HS2' := Aside0.mk (show rmL sv (T.drop (j + 1)) O F (j + 1) = rmL sv T O F 0 from by have := HTT.out; rw [HST.out]; cases want <;> cases c <;> simp_all)
                go_wp2
                go_roundg (gk - 1)
                case measure => have := HJ.out; omega
                case rel => exact ⟨j + 1, by have := HJ.out; omega, by go_num, HS2', ⟨HBj.out.trans (HBK.out.mono HBj.out.size)⟩⟩
              | true =>
                have HS2' := Aside0.mk (show R = false from by have := HTT.out; rw [HX.out, HST.out]; cases want <;> cases c <;> simp_all)
                go_wp2
                go_ret
                exact ⟨by rw [HS2'.out]; rfl, HB3.out.trans ((HB4.out.trans ((HBj.out.trans (HBK.out.mono HBj.out.size)).mono HB4.out.size)).mono HB3.out.size)⟩
        · have HS2' := Aside0.mk (show R = true from by rw [HX.out, ← HMV.out, List.drop_eq_nil_of_le (by omega)]; rfl)
          go_wp2
          go_ret
          exact ⟨by rw [HS2'.out]; rfl, HB3.out.trans ((HB4.out.trans (HBj.out.mono HB4.out.size)).mono HB3.out.size)⟩
def parryref22_Moves.f (a0_0 : Int) (a0_1 : Int) (l0_2 : List S24) (a1 : Int) (a2 : Int) (a3 : Int) (a4 : Int) : Option Bool := some (rmovesF ⟨a0_0, a0_1, l0_2⟩ a1 a2 a3 a4)
theorem parryref22_Moves.calls (a0_0 : Int) (a0_1 : Int) (A0_2 : Option Addr) (c0_2 : Nat) (l0_2 : List S24) (a1 : Int) (a2 : Int) (a3 : Int) (a4 : Int) (r : Bool) (w : World) (hr0_2 : Kd.C k24 w A0_2 l0_2.length l0_2) (hc0_2 : l0_2.length ≤ c0_2) (h : parryref22_Moves.f a0_0 a0_1 l0_2 a1 a2 a3 a4 = some r) :
    Calls Try.prog 21 #[.agg #[.int .i64 a0_0, .int .i64 a0_1, .slice A0_2 l0_2.length c0_2], .int .i64 a1, .int .u32 a2, .int .i64 a3, .int .u32 a4] w fun e w' => e = .returned (.bool r) ∧ Below w.heap.size w w' := by
  obtain rfl := Option.some.inj h
  exact rMoves_calls ⟨a0_0, a0_1, l0_2⟩ a1 a2 a3 a4 A0_2 c0_2 w hr0_2 hc0_2
end Go.Proofs.Ytegaicoddnmemaa.X

namespace Go.Proofs.Ytegaicoddnmemaa.X
open Go.RowKit Go.Proofs.YtegaicoddnmemaaW.PrintWords Go.Proofs.YtegaicoddnmemaaW.PrintLast Go.Proofs.YtegaicoddnmemaaW.PrintMore
open Go.Proofs.Ytegaicoddnmemaa.P Go.Proofs.Ytegaicoddnmemaa.Evx
set_option linter.unusedSimpArgs false
set_option linter.unusedVariables false
set_option maxHeartbeats 4000000 in
set_option maxRecDepth 100000 in
theorem rGood_calls (s : S24) (k sv lt : Int) (A : Option Addr) (cp : Nat) (w : World) (hr : Kd.C k24 w A s.f2.length s.f2) (hc : s.f2.length ≤ cp) :
    Calls Try.prog 23 #[.agg #[.int .i64 s.f0, .int .i64 s.f1, .slice A s.f2.length cp], .int .i64 k, .int .i64 sv, .int .u32 lt] w fun e w' => e = .returned (.bool (rgoodF s k sv lt)) ∧ Below w.heap.size w w' := by
  have huF := Try.underlying24
  have huL := Try.underlying22
  have hut := Try.underlying68
  have hus := Try.underlying45
  obtain ⟨W1, hW1⟩ : ∃ W1, W1 = w.alloc (.cells #[.int .i64 s.f0, .int .i64 s.f1, .slice A s.f2.length cp] 24) := ⟨_, rfl⟩
  have hB1 : Below w.heap.size w W1 := by rw [hW1]; exact below_alloc (Below.refl _ _) _
  have hbx : W1.heap[w.heap.size]? = some (.cells #[.int .i64 s.f0, .int .i64 s.f1, .slice A s.f2.length cp] 24 (0, 0)) := by rw [hW1]; exact heap_alloc_new w _
  have HBX := Aside0.mk hbx
  have HB1 := Aside0.mk hB1
  have HR := Aside0.mk hr
  have x0 : W1.cell? ⟨w.heap.size, 0, none⟩ = some (.int .i64 s.f0) := (blk_cell hbx 0).trans rfl
  have x1 : W1.cell? ⟨w.heap.size, 1, none⟩ = some (.int .i64 s.f1) := (blk_cell hbx 1).trans rfl
  have x2 : W1.cell? ⟨w.heap.size, 2, none⟩ = some (.slice A s.f2.length cp) := (blk_cell hbx 2).trans rfl
  have HRF := Aside0.mk (show rgoodF s k sv lt = (decide (0 ≤ k) && (decide (k < (TimesS s).length) && (stateS s sv && rgoodOp ((TimesS s).getD k.toNat z24).f0 ((tmO sv lt s 0).getD k.toNat false) ((tmB sv lt s 0).getD k.toNat false)))) from rfl)
  have HS1 := Aside0.mk (show stateS s sv = decide (0 ≤ sv ∧ sv < sizeS s) from rfl)
  have HM := Aside0.mk (@state_may s sv)
  have HTS := Aside0.mk (show mayF s = 0 → (TimesS s).length = tnS s ∧ (TimesS s).length ≤ 8 from fun h => by unfold TimesS; rw [if_pos h, len_times]; exact ⟨rfl, (may_zero h).2.2.1⟩)
  have HMZ := Aside0.mk (fun h : stateS s sv = true => may_zero (state_may h))
  have HTC := Aside0.mk (fun W (h : Below w.heap.size w W) => rTimes_calls s A cp W (Kd.C_below hr h) hc)
  have HSZC := Aside0.mk (fun W (h : Below w.heap.size w W) => rSize_calls s A cp W (Kd.C_below hr h) hc)
  generalize rgoodF s k sv lt = R at *
  generalize sizeS s = N at *
  generalize stateS s sv = B1 at *
  generalize TimesS s = T at *
  clear hbx hB1 hr
  go_enter Try.func23, Try.ntmps23
  go_upto_region 1 with fail
  rw [← hW1]
  clear hW1
  go_upto_region 2 with (go_at_call 30; refine (HTC.out _ HB1.out).mono ?_; rintro e w2 ⟨v2, rfl, hT2, hB⟩; obtain ⟨A4, c4, e4, hl4, hC4⟩ := trow_read hT2 hB; subst e4; have HC4 := Aside0.mk hC4; have HB2 := Aside0.mk (HB1.out.trans (hB.mono HB1.out.size)); have HBX2 := Aside0.mk ((hB.block _ (blk_lt HBX.out)).trans HBX.out); clear hB hT2 hC4)
  have y0 : w2.cell? ⟨w.heap.size, 0, none⟩ = some (.int .i64 s.f0) := (blk_cell HBX2.out 0).trans rfl
  have y1 : w2.cell? ⟨w.heap.size, 1, none⟩ = some (.int .i64 s.f1) := (blk_cell HBX2.out 1).trans rfl
  have y2 : w2.cell? ⟨w.heap.size, 2, none⟩ = some (.slice A s.f2.length cp) := (blk_cell HBX2.out 2).trans rfl
  have hTm := Kd.C_max HC4.out
  clear x0 x1 x2
  go_cut [30] (fun v30 wx => ∃ t : Bool, v30 = .bool t ∧ Aside0 ((!(decide (0 ≤ k) && (decide (k < T.length) && B1))) = t) ∧ Aside0 (Below w2.heap.size w2 wx))
  case first =>
    by_cases a1 : k < 0
    · have HX := Aside0.mk (show decide (0 ≤ k) = false from decide_eq_false (by omega))
      go_wp2
      go_meet
      exact ⟨_, rfl, ⟨by rw [HX.out]; rfl⟩, ⟨Below.refl _ _⟩⟩
    · by_cases a2 : (T.length : Int) ≤ k
      · have HX := Aside0.mk (show decide (k < (T.length : Int)) = false from decide_eq_false (by omega))
        go_wp2
        go_meet
        exact ⟨_, rfl, ⟨by rw [HX.out, Bool.false_and, Bool.and_false]; rfl⟩, ⟨Below.refl _ _⟩⟩
      · by_cases a3 : sv < 0
        · have HX := Aside0.mk (show B1 = false from by rw [HS1.out]; exact decide_eq_false (by omega))
          go_wp2
          go_meet
          exact ⟨_, rfl, ⟨by rw [HX.out, Bool.and_false, Bool.and_false]; rfl⟩, ⟨Below.refl _ _⟩⟩
        · by_cases a4 : N ≤ sv
          · have HX := Aside0.mk (show B1 = false from by rw [HS1.out]; exact decide_eq_false (by omega))
            go_wp2_with (go_at_call 19; refine (HSZC.out _ HB2.out).mono ?_; rintro e w3 ⟨rfl, hB⟩; have HB3 := Aside0.mk hB; clear hB)
            go_meet
            exact ⟨_, rfl, ⟨by rw [HX.out, Bool.and_false, Bool.and_false]; rfl⟩, HB3⟩
          · have HA4 := Aside0.mk a4
            have HX := Aside0.mk (show B1 = true from by rw [HS1.out]; exact decide_eq_true (by omega))
            have HX2 := Aside0.mk (show decide (0 ≤ k) = true ∧ decide (k < (T.length : Int)) = true from ⟨decide_eq_true (by omega), decide_eq_true (by omega)⟩)
            go_wp2_with (go_at_call 19; refine (HSZC.out _ HB2.out).mono ?_; rintro e w3 ⟨rfl, hB⟩; have HB3 := Aside0.mk hB; clear hB)
            go_meet
            exact ⟨_, rfl, ⟨by rw [HX.out, HX2.out.1, HX2.out.2]; first | rfl | (simp; exact HA4.out)⟩, HB3⟩
  case rest =>
    obtain ⟨t, rfl, HT, HBc⟩ := hcut
    have HBw := Aside0.mk (HB2.out.trans (HBc.out.mono HB2.out.size))
    cases t with
    | true =>
      have HX := Aside0.mk (show R = false from by
        have h := bnot HT.out
        rw [HRF.out]
        cases h1 : decide (0 ≤ k) <;> cases h2 : decide (k < (T.length : Int)) <;> cases hb : B1 <;> simp_all)
      go_wp2
      go_ret
      exact ⟨by rw [HX.out]; rfl, HBw.out⟩
    | false =>
      have hT : (decide (0 ≤ k) && (decide (k < (T.length : Int)) && B1)) = true := by simpa using HT.out
      simp only [Bool.and_eq_true, decide_eq_true_eq] at hT
      obtain ⟨h0, h1, hb1⟩ := hT
      obtain ⟨j, rfl⟩ := Int.eq_ofNat_of_zero_le h0
      have HZ := Aside0.mk (HMZ.out hb1)
      have HTL := Aside0.mk (HTS.out (HM.out hb1))
      have hlt : j < T.length := by omega
      have hx : R = rgoodOp (T[j]'hlt).f0 ((tmO sv lt s 0).getD j false) ((tmB sv lt s 0).getD j false) := by
        rw [HRF.out, decide_eq_true h0, decide_eq_true h1, hb1, Int.toNat_natCast, List.getD_eq_getElem?_getD, List.getElem?_eq_getElem hlt]; rfl
      have hlO : j < (tmO sv lt s 0).length := by rw [len_tmO, ← HTL.out.1]; exact hlt
      have hlB : j < (tmB sv lt s 0).length := by rw [len_tmB, ← HTL.out.1]; exact hlt
      have HAT := Aside0.mk (At_calls s sv lt A cp wc (Kd.C_below HR.out HBw.out) hc HZ.out.2.2.2 (by have := HZ.out; omega))
      have HXR := Aside0.mk hx
      obtain ⟨ad, A5, c5, e0, hx0, hx1, hx2, hl5, hk5⟩ := kid_at HC4.out HBc.out j hlt hlt
      cases e0
      have HX0 := Aside0.mk hx0
      have hT8 : T.length ≤ 8 := HTL.out.2
      generalize T[j]'hlt = kid at *
      generalize tmO sv lt s 0 = O at *
      generalize tmF sv lt s 0 = F at *
      generalize tmB sv lt s 0 = L at *
      have HLO := Aside0.mk hlO
      have HLB := Aside0.mk hlB
      have hbxc := (HBc.out.block _ (blk_lt HBX2.out)).trans HBX2.out
      have z0 : wc.cell? ⟨w.heap.size, 0, none⟩ = some (.int .i64 s.f0) := (blk_cell hbxc 0).trans rfl
      have z1 : wc.cell? ⟨w.heap.size, 1, none⟩ = some (.int .i64 s.f1) := (blk_cell hbxc 1).trans rfl
      have z2 : wc.cell? ⟨w.heap.size, 2, none⟩ = some (.slice A s.f2.length cp) := (blk_cell hbxc 2).trans rfl
      have hla' := World.block_lt_of_cell? _ _ hx0
      have hab : (ad.add (j * 3)).block = ad.block := by cases ad; simp [Addr.add]; split <;> rfl
      have HLA := Aside0.mk hla'
      have hla : ad.block < wc.heap.size := by rw [← hab]; exact hla'
      have HAB := Aside0.mk hab
      clear hla' hab
      clear h0 hb1 hx hlO hlB hk5 hl5 hx0 hx1 hx2 hbxc
      go_upto_region 6 with (go_at_call 40; refine HAT.out.mono ?_; rintro e w3 ⟨v1, v2, v3, rfl, hR3⟩; obtain ⟨g1, d1, q1, p1⟩ := r3_cell hR3 0 HLO.out; obtain ⟨g2, d2, q2, p2⟩ := r3_cell hR3 1 HLB.out; obtain ⟨A9, n9, c9, e9⟩ := own_form' (hR3.o 2); change v1 = .slice _ O.length d1 at q1; change v2 = .slice _ L.length d2 at q2; change v3 = _ at e9; subst q1 q2 e9; change w3.cell? _ = some (.bool (O.getD j false)) at p1; change w3.cell? _ = some (.bool (L.getD j false)) at p2; have HB3 := Aside0.mk (HBw.out.trans (hR3.bl.mono HBw.out.size)); have hk0 := (hR3.bl.cell HLA.out).trans HX0.out; have hla3 : ad.block < w3.heap.size := Nat.lt_of_lt_of_le hla hR3.bl.size; have hna : ¬ w3.heap.size = ad.block := (by omega); have hnb := World.new_ne w3 _ hk0; have hla4 := World.block_lt_of_cell? w3 _ hk0; have jO : j < O.length := HLO.out; have jL : j < L.length := HLB.out; clear hR3)
      obtain ⟨WK, hWK⟩ : ∃ WK, WK = w3.alloc (.cells #[.slice (some ⟨g1, 0, none⟩) O.length d1, .slice (some ⟨g2, 0, none⟩) L.length d2, .slice A9 n9 c9] 68) := ⟨_, rfl⟩
      have hBK : Below w3.heap.size w3 WK := by rw [hWK]; exact below_alloc (Below.refl _ _) _
      have hxk : WK.heap[w3.heap.size]? = some (.cells #[.slice (some ⟨g1, 0, none⟩) O.length d1, .slice (some ⟨g2, 0, none⟩) L.length d2, .slice A9 n9 c9] 68 (0, 0)) := by rw [hWK]; exact heap_alloc_new w3 _
      rw [← hWK]
      have k0 : WK.cell? ⟨w3.heap.size, 0, none⟩ = some (.slice (some ⟨g1, 0, none⟩) O.length d1) := (blk_cell hxk 0).trans rfl
      have k1 : WK.cell? ⟨w3.heap.size, 1, none⟩ = some (.slice (some ⟨g2, 0, none⟩) L.length d2) := (blk_cell hxk 1).trans rfl
      have p1k := (hBK.cell (World.block_lt_of_cell? _ _ p1)).trans p1
      have p2k := (hBK.cell (World.block_lt_of_cell? _ _ p2)).trans p2
      have HBF := Aside0.mk (HB3.out.trans (hBK.mono HB3.out.size))
      have HOP := Aside0.mk (show ∀ o l, rgoodOp kid.f0 o l = if kid.f0 = 7 then !o || l else if kid.f0 = 8 then o || !l else true from fun _ _ => rfl)
      generalize O.getD j false = o at *
      generalize L.getD j false = l at *
      clear hWK hBK hxk p1 p2 hk0 hnb hla4 hla3 hna hla h1
      by_cases h7 : kid.f0 = 7
      · have b7 : (kid.f0 == 7) = true := beq_iff_eq.2 h7
        have HX := Aside0.mk (show R = (!o || l) from by rw [HXR.out, HOP.out, if_pos h7])
        clear h7
        cases o
        all_goals
          go_wp2
          go_ret
          exact ⟨by rw [HX.out]; rfl, HBF.out⟩
      · have b7 : (kid.f0 == 7) = false := beq_eq_false_iff_ne.2 h7
        by_cases h8 : kid.f0 = 8
        · have b8 : (kid.f0 == 8) = true := beq_iff_eq.2 h8
          have HX := Aside0.mk (show R = (o || !l) from by rw [HXR.out, HOP.out, if_neg h7, if_pos h8])
          clear h7 h8
          cases o
          all_goals
            go_wp2
            go_ret
            exact ⟨by rw [HX.out]; rfl, HBF.out⟩
        · have b8 : (kid.f0 == 8) = false := beq_eq_false_iff_ne.2 h8
          have HX := Aside0.mk (show R = true from by rw [HXR.out, HOP.out, if_neg h7, if_neg h8])
          clear h7 h8
          go_wp2
          go_ret
          exact ⟨by rw [HX.out]; rfl, HBF.out⟩
def parryref22_Good.f (a0_0 : Int) (a0_1 : Int) (l0_2 : List S24) (a1 : Int) (a2 : Int) (a3 : Int) : Option Bool := some (rgoodF ⟨a0_0, a0_1, l0_2⟩ a1 a2 a3)
theorem parryref22_Good.calls (a0_0 : Int) (a0_1 : Int) (A0_2 : Option Addr) (c0_2 : Nat) (l0_2 : List S24) (a1 : Int) (a2 : Int) (a3 : Int) (r : Bool) (w : World) (hr0_2 : Kd.C k24 w A0_2 l0_2.length l0_2) (hc0_2 : l0_2.length ≤ c0_2) (h : parryref22_Good.f a0_0 a0_1 l0_2 a1 a2 a3 = some r) :
    Calls Try.prog 23 #[.agg #[.int .i64 a0_0, .int .i64 a0_1, .slice A0_2 l0_2.length c0_2], .int .i64 a1, .int .i64 a2, .int .u32 a3] w fun e w' => e = .returned (.bool r) ∧ Below w.heap.size w w' := by
  obtain rfl := Option.some.inj h
  exact rGood_calls ⟨a0_0, a0_1, l0_2⟩ a1 a2 a3 A0_2 c0_2 w hr0_2 hc0_2
end Go.Proofs.Ytegaicoddnmemaa.X

namespace Go.Proofs.Ytegaicoddnmemaa.P
open Go.RowKit Go.Proofs.YtegaicoddnmemaaW.PrintWords Go.Proofs.YtegaicoddnmemaaW.PrintLast Go.Proofs.YtegaicoddnmemaaW.PrintMore
attribute [local go_sem] max2_int min2_int max_two min_two max_three min_three max_four min_four   -- for this text's walks alone
set_option linter.unusedVariables false
set_option linter.unusedSimpArgs false

open Go.Proofs.Ytegaicoddnmemaa.X
def parrylaw23_TableauForms.f (k : Nat) (a0_0 : Int) (a0_1 : Int) (l0_2 : List (S24)) (a1 : Int) (a2 : Int) (a3 : Int) (a4 : Int) (a5 : Int) : Option (Bool) := (parrylaw22_Heavy.f k a0_0 a0_1 l0_2).bind fun t303 => (if t303 > 0 then ((parrylaw23_awake.f).bind fun t304 => (some t304)) else ((tableau_Size.f k a0_0 a0_1 l0_2).bind fun t305 => ((parryref22_Size.f a0_0 a0_1 l0_2).bind fun t306 => (if t305 = t306 then ((tableau_Value.f a0_0 a0_1 l0_2 a2 a3).bind fun t307 => ((parryref22_Value.f a0_0 a0_1 l0_2 a2 a3).bind fun t308 => (if (t307 == t308) = true then ((tableau_Moves.f a0_0 a0_1 l0_2 a2 a3 a4 a5).bind fun t309 => ((parryref22_Moves.f a0_0 a0_1 l0_2 a2 a3 a4 a5).bind fun t310 => (if (t309 == t310) = true then ((tableau_Good.f a0_0 a0_1 l0_2 a1 a2 a3).bind fun t311 => ((parryref22_Good.f a0_0 a0_1 l0_2 a1 a2 a3).bind fun t312 => (if (t311 == t312) = true then ((parrylaw23_awake.f).bind fun t313 => (some t313)) else (some false)))) else (some false)))) else (some false)))) else (some false)))))
theorem parrylaw23_TableauForms.mono : ∀ a0 a1 a2 a3 a4 a5 a6 a7 k, LeO (parrylaw23_TableauForms.f k a0 a1 a2 a3 a4 a5 a6 a7) (parrylaw23_TableauForms.f (k + 1) a0 a1 a2 a3 a4 a5 a6 a7) := by
  intro a0 a1 a2 a3 a4 a5 a6 a7 k
  unfold parrylaw23_TableauForms.f
  repeat' first
      | (with_reducible exact parrylaw22_Heavy.mono _ _ _ _)
      | (with_reducible exact tableau_Size.mono _ _ _ _)
      | (with_reducible exact LeO.refl _)
      | (with_reducible exact LeO.none _)
      | (with_reducible refine LeO.ite ?_ ?_)
      | (with_reducible refine LeO.bind ?_ (fun _ => ?_))
      | exact parrylaw22_Heavy.mono _ _ _ _
      | exact tableau_Size.mono _ _ _ _
      | exact LeO.none _
      | refine LeO.ite ?_ ?_
      | refine LeO.bind ?_ (fun _ => ?_)
def parrylaw23_TableauForms.T3 : Bool × List (List Nat × List Nat) := (true, [([], []), ([0], [0]), ([], []), ([2, 1], [2]), ([1, 3], [1, 3]), ([4, 3], [4]), ([5], [5]), ([5], [5]), ([5], [5]), ([6, 7, 8, 5, 5], [5, 6, 7, 8]), ([5], [5]), ([5], [5]), ([5], [5]), ([10, 11, 12, 9, 5], [5, 10, 11, 12]), ([9, 13, 5], [5, 9, 13]), ([5, 14], [5, 14]), ([15, 13], [15]), ([16], [16]), ([16], [16]), ([16], [16]), ([16], [16]), ([16], [16]), ([17, 18, 19, 20, 21, 16, 16], [16, 17, 18, 19, 20, 21]), ([16], [16]), ([16], [16]), ([16], [16]), ([16], [16]), ([16], [16]), ([23, 24, 25, 26, 27, 22, 16], [16, 23, 24, 25, 26, 27]), ([22, 28, 16], [16, 22, 28]), ([16, 29], [16, 29]), ([30, 28], [30]), ([31], [31]), ([31], [31]), ([31], [31]), ([31], [31]), ([32, 33, 34, 35, 31, 31], [31, 32, 33, 34, 35]), ([31], [31]), ([31], [31]), ([31], [31]), ([31], [31]), ([37, 38, 39, 40, 36, 31], [31, 37, 38, 39, 40]), ([36, 41, 31], [31, 36, 41]), ([31, 42], [31, 42]), ([43, 41], [43]), ([44, 44], [44]), ([44, 45], [44, 45]), ([46, 45, 0, 1, 2, 3, 4, 5, 6, 7, 8, 9, 10, 11, 12, 13, 14, 15, 16, 17, 18, 19, 20, 21, 22, 23, 24, 25, 26, 27, 28, 29, 30, 31, 32, 33, 34, 35, 36, 37, 38, 39, 40, 41, 42, 43, 44, 45, 46], [46])])
def parrylaw23_TableauForms.B3 : List Nat := [0, 1, 0, 7, 15, 31, 63, 63, 63, 511, 63, 63, 63, 8191, 16383, 32767, 65535, 131071, 131071, 131071, 131071, 131071, 4194303, 131071, 131071, 131071, 131071, 131071, 268435455, 536870911, 1073741823, 2147483647, 4294967295, 4294967295, 4294967295, 4294967295, 68719476735, 4294967295, 4294967295, 4294967295, 4294967295, 2199023255551, 4398046511103, 8796093022207, 17592186044415, 35184372088831, 70368744177663, 140737488355327]
theorem parrylaw23_TableauForms.tab3 : rtab .any (opsOf Try.f6 3) = parrylaw23_TableauForms.T3 := by kernel_rfl
theorem parrylaw23_TableauForms.bits3 : waitsOk parrylaw23_TableauForms.T3.2 parrylaw23_TableauForms.B3 = true := by kernel_rfl
set_option maxHeartbeats 8000000 in
set_option maxRecDepth 100000 in
theorem parrylaw23_TableauForms.calls (k : Nat) (a0_0 : Int) (a0_1 : Int) (A0_2 : Option Addr) (c0_2 : Nat) (l0_2 : List (S24)) (a1 : Int) (a2 : Int) (a3 : Int) (a4 : Int) (a5 : Int) (r : Bool) (w : World) (hr0_2 : Kd.C k24 w A0_2 l0_2.length l0_2) (hc0_2 : l0_2.length ≤ c0_2) (h : parrylaw23_TableauForms.f k a0_0 a0_1 l0_2 a1 a2 a3 a4 a5 = some r) (hrt : r = true) :
    Calls Try.prog 6 #[.agg #[.int .i64 a0_0, .int .i64 a0_1, .slice A0_2 l0_2.length c0_2], .int .i64 a1, .int .i64 a2, .int .u32 a3, .int .i64 a4, .int .u32 a5] w fun e w' => e = .returned (.bool r) ∧ Below w.heap.size w w' := by
  have hu24 := Try.underlying24
  have HR0_2 := Aside0.mk hr0_2
  have HC0_2 := Aside0.mk hc0_2
  clear hr0_2 hc0_2
  have HB := Aside0.mk (Below.refl w.heap.size w)
  have HRT := Aside0.mk hrt
  clear hrt
  have H : ((parrylaw22_Heavy.f k a0_0 a0_1 l0_2).bind fun t303 => (if t303 > 0 then ((parrylaw23_awake.f).bind fun t304 => (some t304)) else ((tableau_Size.f k a0_0 a0_1 l0_2).bind fun t305 => ((parryref22_Size.f a0_0 a0_1 l0_2).bind fun t306 => (if t305 = t306 then ((tableau_Value.f a0_0 a0_1 l0_2 a2 a3).bind fun t307 => ((parryref22_Value.f a0_0 a0_1 l0_2 a2 a3).bind fun t308 => (if (t307 == t308) = true then ((tableau_Moves.f a0_0 a0_1 l0_2 a2 a3 a4 a5).bind fun t309 => ((parryref22_Moves.f a0_0 a0_1 l0_2 a2 a3 a4 a5).bind fun t310 => (if (t309 == t310) = true then ((tableau_Good.f a0_0 a0_1 l0_2 a1 a2 a3).bind fun t311 => ((parryref22_Good.f a0_0 a0_1 l0_2 a1 a2 a3).bind fun t312 => (if (t311 == t312) = true then ((parrylaw23_awake.f).bind fun t313 => (some t313)) else (some false)))) else (some false)))) else (some false)))) else (some false)))))) = some r := h
  clear h
  replace H := Option.bind_eq_some_iff.mp H
  obtain ⟨t303, A70, H⟩ := H
  replace H : (if t303 > 0 then ((parrylaw23_awake.f).bind fun t304 => (some t304)) else ((tableau_Size.f k a0_0 a0_1 l0_2).bind fun t305 => ((parryref22_Size.f a0_0 a0_1 l0_2).bind fun t306 => (if t305 = t306 then ((tableau_Value.f a0_0 a0_1 l0_2 a2 a3).bind fun t307 => ((parryref22_Value.f a0_0 a0_1 l0_2 a2 a3).bind fun t308 => (if (t307 == t308) = true then ((tableau_Moves.f a0_0 a0_1 l0_2 a2 a3 a4 a5).bind fun t309 => ((parryref22_Moves.f a0_0 a0_1 l0_2 a2 a3 a4 a5).bind fun t310 => (if (t309 == t310) = true then ((tableau_Good.f a0_0 a0_1 l0_2 a1 a2 a3).bind fun t311 => ((parryref22_Good.f a0_0 a0_1 l0_2 a1 a2 a3).bind fun t312 => (if (t311 == t312) = true then ((parrylaw23_awake.f).bind fun t313 => (some t313)) else (some false)))) else (some false)))) else (some false)))) else (some false))))) = some r := H
  have A7 := Aside0.mk A70
  clear A70
  by_cases c8 : t303 > 0
  · rw [if_pos c8] at H
    have c8b0 : decide (0 < t303) = true := decide_eq_true c8
    clear c8
    replace H := Option.bind_eq_some_iff.mp H
    obtain ⟨t304, A90, H⟩ := H
    replace H : (some t304) = some r := H
    have A9 := Aside0.mk A90
    clear A90
    obtain rfl := Option.some.inj H
    go_enter Try.func6, Try.ntmps6
    go_wp2_with (first | ((with_reducible refine gate_dst (N := 6) rfl ?_); refine box_event ?hg (N := 6) ?hd (cs := #[.int .i64 a0_0, .int .i64 a0_1, .slice A0_2 l0_2.length c0_2]) (t := 24) ?hr ?_; (case hd => rfl); (case hg => rfl); (case hr => first | (go_simp; done) | (go_simp; rfl)); intro gb302 hg w10 hbox hb; have n0_ := Aside0.mk (below_step (by repeat (first | (with_reducible first | exact HB.out | apply below_alloc | apply pw_below_drewN | apply below_drew1) | exact HB.out)) hb); have n1_ := Aside0.mk (hbox); have n2_ := Aside0.mk ((by rw [hg]; exact (below_size (by repeat (first | (with_reducible first | exact HB.out | apply below_alloc | apply pw_below_drewN | apply below_drew1) | exact HB.out))) : w.heap.size ≤ gb302)); have n3_ := Aside0.mk ((by rw [hg]; exact (below_size (by repeat (first | (with_reducible first | exact HB.out | apply below_alloc | apply pw_below_drewN | apply below_drew1) | exact HB.out))) : w.heap.size ≤ gb302)); clear HB; have HB := n0_; have BK302 := n1_; have GW302 := n2_; have GE302 := n3_; clear n0_ n1_ n2_ n3_; clear hb hbox hg; have hcz11_0 : w10.cell? ⟨gb302, 0, none⟩ = some (.int .i64 a0_0) := (blk_cell BK302.out 0).trans rfl; have hcz11_1 : w10.cell? ⟨gb302, 1, none⟩ = some (.int .i64 a0_1) := (blk_cell BK302.out 1).trans rfl; have hcz11_2 : w10.cell? ⟨gb302, 2, none⟩ = some (.slice A0_2 l0_2.length c0_2) := (blk_cell BK302.out 2).trans rfl; have hfz11_0 := blk_frozen BK302.out 0; have hfz11_1 := blk_frozen BK302.out 1; have hfz11_2 := blk_frozen BK302.out 2) | ((with_reducible refine gate_callee (f := 8) rfl ?_); refine goesL_ (some 14) rfl rfl Try.func8 (by kernel_rfl) rfl #[.agg #[.int .i64 a0_0, .int .i64 a0_1, .slice A0_2 l0_2.length c0_2]] rfl (by (try simp only [List.map_toArray, List.map_cons, List.map_nil]); first | done | rfl | (simp only [List.length_drop, List.length_take]; rfl)) ?_; (with_reducible refine (parrylaw22_Heavy.calls k a0_0 a0_1 _ _ l0_2 t303 _ ?side1 ?side2 A7.out).mono ?_); (case side1 => repeat (first | exact (Kd.C_below HR0_2.out HB.out) | (with_reducible refine Kd.C_alloc ?_ _) | (with_reducible refine Kd.C_drewN ?_ _) | (with_reducible refine Kd.C_drew ?_))); (case side2 => exact HC0_2.out); rintro e w12 ⟨rfl, hb⟩; refine ⟨_, rfl, ?_⟩; have n0_ := Aside0.mk (blk_below (g := gb302) (o := .cells #[.int .i64 a0_0, .int .i64 a0_1, .slice A0_2 l0_2.length c0_2] 24 (0, 0)) (by (with_reducible repeat (first | refine blk_drewN ?_ _ | refine blk_drew ?_ | refine blk_alloc ?_ _)); exact BK302.out) hb); have n1_ := Aside0.mk (below_step (by repeat (first | (with_reducible first | exact HB.out | apply below_alloc | apply pw_below_drewN | apply below_drew1 | refine below_set ?_ GE302.out) | exact HB.out)) hb); clear BK302; clear HB; have BK302 := n0_; have HB := n1_; clear n0_ n1_; (try clear hb); (try clear hb2); (try clear hk); (try clear hi)) | ((with_reducible refine gate_callee (f := 10) rfl ?_); refine goesL_ (some 16) rfl rfl Try.func10 (by kernel_rfl) rfl #[] rfl (by (try simp only [List.map_toArray, List.map_cons, List.map_nil]); first | done | rfl | (simp only [List.length_drop, List.length_take]; rfl)) ?_; (with_reducible refine (parrylaw23_awake.calls  t304 _ A9.out).mono ?_); rintro e w13 ⟨rfl, hb⟩; refine ⟨_, rfl, ?_⟩; have n0_ := Aside0.mk (blk_below (g := gb302) (o := .cells #[.int .i64 a0_0, .int .i64 a0_1, .slice A0_2 l0_2.length c0_2] 24 (0, 0)) (by (with_reducible repeat (first | refine blk_drewN ?_ _ | refine blk_drew ?_ | refine blk_alloc ?_ _)); exact BK302.out) hb); have n1_ := Aside0.mk (below_step (by repeat (first | (with_reducible first | exact HB.out | apply below_alloc | apply pw_below_drewN | apply below_drew1 | refine below_set ?_ GE302.out) | exact HB.out)) hb); clear BK302; clear HB; have BK302 := n0_; have HB := n1_; clear n0_ n1_; (try clear hb); (try clear hb2); (try clear hk); (try clear hi)))
    go_ret
    exact ⟨by first | rfl | (simp [errW_none, errW_some] <;> rfl) | (simp [*, errW_none, errW_some] <;> rfl), by repeat (first | (with_reducible first | exact HB.out | apply below_alloc | apply pw_below_drewN | apply below_drew1 | refine below_set ?_ GE302.out) | exact HB.out)⟩
  · rw [if_neg c8] at H
    have c8b0 : decide (0 < t303) = false := decide_eq_false c8
    clear c8
    replace H := Option.bind_eq_some_iff.mp H
    obtain ⟨t305, A140, H⟩ := H
    replace H : ((parryref22_Size.f a0_0 a0_1 l0_2).bind fun t306 => (if t305 = t306 then ((tableau_Value.f a0_0 a0_1 l0_2 a2 a3).bind fun t307 => ((parryref22_Value.f a0_0 a0_1 l0_2 a2 a3).bind fun t308 => (if (t307 == t308) = true then ((tableau_Moves.f a0_0 a0_1 l0_2 a2 a3 a4 a5).bind fun t309 => ((parryref22_Moves.f a0_0 a0_1 l0_2 a2 a3 a4 a5).bind fun t310 => (if (t309 == t310) = true then ((tableau_Good.f a0_0 a0_1 l0_2 a1 a2 a3).bind fun t311 => ((parryref22_Good.f a0_0 a0_1 l0_2 a1 a2 a3).bind fun t312 => (if (t311 == t312) = true then ((parrylaw23_awake.f).bind fun t313 => (some t313)) else (some false)))) else (some false)))) else (some false)))) else (some false))) = some r := H
    have A14 := Aside0.mk A140
    clear A140
    replace H := Option.bind_eq_some_iff.mp H
    obtain ⟨t306, A150, H⟩ := H
    replace H : (if t305 = t306 then ((tableau_Value.f a0_0 a0_1 l0_2 a2 a3).bind fun t307 => ((parryref22_Value.f a0_0 a0_1 l0_2 a2 a3).bind fun t308 => (if (t307 == t308) = true then ((tableau_Moves.f a0_0 a0_1 l0_2 a2 a3 a4 a5).bind fun t309 => ((parryref22_Moves.f a0_0 a0_1 l0_2 a2 a3 a4 a5).bind fun t310 => (if (t309 == t310) = true then ((tableau_Good.f a0_0 a0_1 l0_2 a1 a2 a3).bind fun t311 => ((parryref22_Good.f a0_0 a0_1 l0_2 a1 a2 a3).bind fun t312 => (if (t311 == t312) = true then ((parrylaw23_awake.f).bind fun t313 => (some t313)) else (some false)))) else (some false)))) else (some false)))) else (some false)) = some r := H
    have A15 := Aside0.mk A150
    clear A150
    by_cases c16 : t305 = t306
    · rw [if_pos c16] at H
      have c16b0 : (t305 == t306) = true := beq_iff_eq.mpr c16
      have c16b1 : (t305 != t306) = false := bne_eq_false_iff_eq.mpr c16
      clear c16
      replace H := Option.bind_eq_some_iff.mp H
      obtain ⟨t307, A170, H⟩ := H
      replace H : ((parryref22_Value.f a0_0 a0_1 l0_2 a2 a3).bind fun t308 => (if (t307 == t308) = true then ((tableau_Moves.f a0_0 a0_1 l0_2 a2 a3 a4 a5).bind fun t309 => ((parryref22_Moves.f a0_0 a0_1 l0_2 a2 a3 a4 a5).bind fun t310 => (if (t309 == t310) = true then ((tableau_Good.f a0_0 a0_1 l0_2 a1 a2 a3).bind fun t311 => ((parryref22_Good.f a0_0 a0_1 l0_2 a1 a2 a3).bind fun t312 => (if (t311 == t312) = true then ((parrylaw23_awake.f).bind fun t313 => (some t313)) else (some false)))) else (some false)))) else (some false))) = some r := H
      have A17 := Aside0.mk A170
      clear A170
      replace H := Option.bind_eq_some_iff.mp H
      obtain ⟨t308, A180, H⟩ := H
      replace H : (if (t307 == t308) = true then ((tableau_Moves.f a0_0 a0_1 l0_2 a2 a3 a4 a5).bind fun t309 => ((parryref22_Moves.f a0_0 a0_1 l0_2 a2 a3 a4 a5).bind fun t310 => (if (t309 == t310) = true then ((tableau_Good.f a0_0 a0_1 l0_2 a1 a2 a3).bind fun t311 => ((parryref22_Good.f a0_0 a0_1 l0_2 a1 a2 a3).bind fun t312 => (if (t311 == t312) = true then ((parrylaw23_awake.f).bind fun t313 => (some t313)) else (some false)))) else (some false)))) else (some false)) = some r := H
      have A18 := Aside0.mk A180
      clear A180
      by_cases c19 : (t307 == t308) = true
      · rw [if_pos c19] at H
        have c19b0 : (t307 == t308) = true := c19
        (try (have c19b1 : decide (t307 = t308) = true := by simpa using c19))
        (try (have c19b2 : (t307 == t308) = true := by simpa using c19))
        clear c19
        replace H := Option.bind_eq_some_iff.mp H
        obtain ⟨t309, A200, H⟩ := H
        replace H : ((parryref22_Moves.f a0_0 a0_1 l0_2 a2 a3 a4 a5).bind fun t310 => (if (t309 == t310) = true then ((tableau_Good.f a0_0 a0_1 l0_2 a1 a2 a3).bind fun t311 => ((parryref22_Good.f a0_0 a0_1 l0_2 a1 a2 a3).bind fun t312 => (if (t311 == t312) = true then ((parrylaw23_awake.f).bind fun t313 => (some t313)) else (some false)))) else (some false))) = some r := H
        have A20 := Aside0.mk A200
        clear A200
        replace H := Option.bind_eq_some_iff.mp H
        obtain ⟨t310, A210, H⟩ := H
        replace H : (if (t309 == t310) = true then ((tableau_Good.f a0_0 a0_1 l0_2 a1 a2 a3).bind fun t311 => ((parryref22_Good.f a0_0 a0_1 l0_2 a1 a2 a3).bind fun t312 => (if (t311 == t312) = true then ((parrylaw23_awake.f).bind fun t313 => (some t313)) else (some false)))) else (some false)) = some r := H
        have A21 := Aside0.mk A210
        clear A210
        by_cases c22 : (t309 == t310) = true
        · rw [if_pos c22] at H
          have c22b0 : (t309 == t310) = true := c22
          (try (have c22b1 : decide (t309 = t310) = true := by simpa using c22))
          (try (have c22b2 : (t309 == t310) = true := by simpa using c22))
          clear c22
          replace H := Option.bind_eq_some_iff.mp H
          obtain ⟨t311, A230, H⟩ := H
          replace H : ((parryref22_Good.f a0_0 a0_1 l0_2 a1 a2 a3).bind fun t312 => (if (t311 == t312) = true then ((parrylaw23_awake.f).bind fun t313 => (some t313)) else (some false))) = some r := H
          have A23 := Aside0.mk A230
          clear A230
          replace H := Option.bind_eq_some_iff.mp H
          obtain ⟨t312, A240, H⟩ := H
          replace H : (if (t311 == t312) = true then ((parrylaw23_awake.f).bind fun t313 => (some t313)) else (some false)) = some r := H
          have A24 := Aside0.mk A240
          clear A240
          by_cases c25 : (t311 == t312) = true
          · rw [if_pos c25] at H
            have c25b0 : (t311 == t312) = true := c25
            (try (have c25b1 : decide (t311 = t312) = true := by simpa using c25))
            (try (have c25b2 : (t311 == t312) = true := by simpa using c25))
            clear c25
            replace H := Option.bind_eq_some_iff.mp H
            obtain ⟨t313, A260, H⟩ := H
            replace H : (some t313) = some r := H
            have A26 := Aside0.mk A260
            clear A260
            obtain rfl := Option.some.inj H
            go_enter Try.func6, Try.ntmps6
            try go_wp2_with (first | ((with_reducible refine gate_dst (N := 6) rfl ?_); refine box_event ?hg (N := 6) ?hd (cs := #[.int .i64 a0_0, .int .i64 a0_1, .slice A0_2 l0_2.length c0_2]) (t := 24) ?hr ?_; (case hd => rfl); (case hg => rfl); (case hr => first | (go_simp; done) | (go_simp; rfl)); intro gb302 hg w27 hbox hb; have n0_ := Aside0.mk (below_step (by repeat (first | (with_reducible first | exact HB.out | apply below_alloc | apply pw_below_drewN | apply below_drew1) | exact HB.out)) hb); have n1_ := Aside0.mk (hbox); have n2_ := Aside0.mk ((by rw [hg]; exact (below_size (by repeat (first | (with_reducible first | exact HB.out | apply below_alloc | apply pw_below_drewN | apply below_drew1) | exact HB.out))) : w.heap.size ≤ gb302)); have n3_ := Aside0.mk ((by rw [hg]; exact (below_size (by repeat (first | (with_reducible first | exact HB.out | apply below_alloc | apply pw_below_drewN | apply below_drew1) | exact HB.out))) : w.heap.size ≤ gb302)); clear HB; have HB := n0_; have BK302 := n1_; have GW302 := n2_; have GE302 := n3_; clear n0_ n1_ n2_ n3_; clear hb hbox hg; have hcz28_0 : w27.cell? ⟨gb302, 0, none⟩ = some (.int .i64 a0_0) := (blk_cell BK302.out 0).trans rfl; have hcz28_1 : w27.cell? ⟨gb302, 1, none⟩ = some (.int .i64 a0_1) := (blk_cell BK302.out 1).trans rfl; have hcz28_2 : w27.cell? ⟨gb302, 2, none⟩ = some (.slice A0_2 l0_2.length c0_2) := (blk_cell BK302.out 2).trans rfl; have hfz28_0 := blk_frozen BK302.out 0; have hfz28_1 := blk_frozen BK302.out 1; have hfz28_2 := blk_frozen BK302.out 2) | ((with_reducible refine gate_callee (f := 8) rfl ?_); refine goesL_ (some 14) rfl rfl Try.func8 (by kernel_rfl) rfl #[.agg #[.int .i64 a0_0, .int .i64 a0_1, .slice A0_2 l0_2.length c0_2]] rfl (by (try simp only [List.map_toArray, List.map_cons, List.map_nil]); first | done | rfl | (simp only [List.length_drop, List.length_take]; rfl)) ?_; (with_reducible refine (parrylaw22_Heavy.calls k a0_0 a0_1 _ _ l0_2 t303 _ ?side1 ?side2 A7.out).mono ?_); (case side1 => repeat (first | exact (Kd.C_below HR0_2.out HB.out) | (with_reducible refine Kd.C_alloc ?_ _) | (with_reducible refine Kd.C_drewN ?_ _) | (with_reducible refine Kd.C_drew ?_))); (case side2 => exact HC0_2.out); rintro e w29 ⟨rfl, hb⟩; refine ⟨_, rfl, ?_⟩; have n0_ := Aside0.mk (blk_below (g := gb302) (o := .cells #[.int .i64 a0_0, .int .i64 a0_1, .slice A0_2 l0_2.length c0_2] 24 (0, 0)) (by (with_reducible repeat (first | refine blk_drewN ?_ _ | refine blk_drew ?_ | refine blk_alloc ?_ _)); exact BK302.out) hb); have n1_ := Aside0.mk (below_step (by repeat (first | (with_reducible first | exact HB.out | apply below_alloc | apply pw_below_drewN | apply below_drew1 | refine below_set ?_ GE302.out) | exact HB.out)) hb); clear BK302; clear HB; have BK302 := n0_; have HB := n1_; clear n0_ n1_; (try clear hb); (try clear hb2); (try clear hk); (try clear hi)))
            have n0_ := Aside0.mk (blk_drew BK302.out)
            have n1_ := Aside0.mk (below_drew1 HB.out)
            clear BK302
            clear HB
            have BK302 := n0_
            have HB := n1_
            clear n0_ n1_
            refine start_ (n := 48) (S := fun w' => w'.cell? ⟨gb302, 0, none⟩ = some (.int .i64 a0_0) ∧ w'.cell? ⟨gb302, 1, none⟩ = some (.int .i64 a0_1) ∧ w'.cell? ⟨gb302, 2, none⟩ = some (.slice A0_2 l0_2.length c0_2)) (ds := []) #[false, false, false, false, false, false, false, false, false, false, false, false, false, false, false, false, false, false, false, false, false, false, false, false, false, false, false, false, false, false, false, false, false, false, false, false, false, false, false, false, false, false, false, false, false, false, false, false] (by kernel_rfl) rfl rfl ⟨(blk_cell BK302.out 0).trans rfl, (blk_cell BK302.out 1).trans rfl, (blk_cell BK302.out 2).trans rfl⟩ (fun hHeld => ?_); refine with_tabW parrylaw23_TableauForms.tab3 parrylaw23_TableauForms.bits3 (fun HT_ HW_ => ?_)
            generalize w29.drew = w30 at BK302 HB hHeld ⊢
            refine take_ (i := 0) (N := some 17) (v := ?_) (a' := ?_) #[true, false, false, false, false, false, false, false, false, false, false, false, false, false, false, false, false, false, false, false, false, false, false, false, false, false, false, false, false, false, false, false, false, false, false, false, false, false, false, false, false, false, false, false, false, false, false, false] rfl rfl (take_ofW HT_.out HW_.out (by kernel_rfl)) (fun _ _ _ h => h) (Or.inl ⟨by rfl, ?_⟩) hHeld ?_ ?_
            rotate_left
            · rintro w' ⟨s0, s1, s2⟩
              go_simp
              with_reducible rfl
            rotate_left
            · simp only [Act.put, List.setIfInBounds_toArray, List.set_cons_zero, List.set_cons_succ, i64_w, i32_w]
              rfl
            refine take_ (i := 2) (N := some 19) (v := ?_) (a' := ?_) #[true, false, true, false, false, false, false, false, false, false, false, false, false, false, false, false, false, false, false, false, false, false, false, false, false, false, false, false, false, false, false, false, false, false, false, false, false, false, false, false, false, false, false, false, false, false, false, false] rfl rfl (take_ofW HT_.out HW_.out (by kernel_rfl)) (fun _ _ _ h => h) (Or.inl ⟨by rfl, ?_⟩) hHeld ?_ ?_
            rotate_left
            · rintro w' ⟨s0, s1, s2⟩
              go_simp
              with_reducible rfl
            rotate_left
            · simp only [Act.put, List.setIfInBounds_toArray, List.set_cons_zero, List.set_cons_succ, i64_w, i32_w]
              rfl
            refine one_ (i := 1) (N := some 18) #[true, true, true, false, false, false, false, false, false, false, false, false, false, false, false, false, false, false, false, false, false, false, false, false, false, false, false, false, false, false, false, false, false, false, false, false, false, false, false, false, false, false, false, false, false, false, false, false] rfl rfl (one_of HT_.out (by kernel_rfl)) (by decide) (fun K hK => ?_)
            refine goes_ Try.func16 (by kernel_rfl) rfl #[.agg #[.int .i64 a0_0, .int .i64 a0_1, .slice A0_2 l0_2.length c0_2]] (by rfl) rfl rfl (by (try simp only [List.map_toArray, List.map_cons, List.map_nil]); first | done | rfl | (simp only [List.length_drop, List.length_take]; rfl)) ?_
            with_reducible refine (tableau_Size.calls k a0_0 a0_1 _ _ l0_2 t305 _ ?side1 ?side2 A14.out).mono ?_
            (case side1 => repeat (first | exact (Kd.C_below HR0_2.out HB.out) | (with_reducible refine Kd.C_alloc ?_ _) | (with_reducible refine Kd.C_drewN ?_ _) | (with_reducible refine Kd.C_drew ?_)))
            (case side2 => exact HC0_2.out)
            rintro e w31 ⟨rfl, hb⟩
            refine ⟨_, rfl, ?_⟩
            have n0_ := Aside0.mk (blk_below (g := gb302) (o := .cells #[.int .i64 a0_0, .int .i64 a0_1, .slice A0_2 l0_2.length c0_2] 24 (0, 0)) (by (with_reducible repeat (first | refine blk_drewN ?_ _ | refine blk_drew ?_ | refine blk_alloc ?_ _)); exact BK302.out) hb)
            have n1_ := Aside0.mk (below_step (by repeat (first | (with_reducible first | exact HB.out | apply below_alloc | apply pw_below_drewN | apply below_drew1 | refine below_set ?_ GE302.out) | exact HB.out)) hb)
            clear BK302
            clear HB
            have BK302 := n0_
            have HB := n1_
            clear n0_ n1_
            (try clear hb)
            (try clear hb2)
            (try clear hk)
            (try clear hi)
            refine hK.out _ _ ⟨(blk_cell BK302.out 0).trans rfl, (blk_cell BK302.out 1).trans rfl, (blk_cell BK302.out 2).trans rfl⟩ (fun hHeld => ?_)
            clear hK K
            refine norm_ (a' := ?_) ?_ ?_
            rotate_left
            · show Act.put _ (some 18) _ = _
              simp only [Act.put, List.setIfInBounds_toArray, List.set_cons_zero, List.set_cons_succ, i64_w, i32_w]
              rfl
            refine one_ (i := 3) (N := some 20) #[true, true, true, true, false, false, false, false, false, false, false, false, false, false, false, false, false, false, false, false, false, false, false, false, false, false, false, false, false, false, false, false, false, false, false, false, false, false, false, false, false, false, false, false, false, false, false, false] rfl rfl (one_of HT_.out (by kernel_rfl)) (by decide) (fun K hK => ?_)
            refine goes_ Try.func19 (by kernel_rfl) rfl #[.agg #[.int .i64 a0_0, .int .i64 a0_1, .slice A0_2 l0_2.length c0_2]] (by rfl) rfl rfl (by (try simp only [List.map_toArray, List.map_cons, List.map_nil]); first | done | rfl | (simp only [List.length_drop, List.length_take]; rfl)) ?_
            with_reducible refine (parryref22_Size.calls a0_0 a0_1 _ _ l0_2 t306 _ ?side1 ?side2 A15.out).mono ?_
            (case side1 => repeat (first | exact (Kd.C_below HR0_2.out HB.out) | (with_reducible refine Kd.C_alloc ?_ _) | (with_reducible refine Kd.C_drewN ?_ _) | (with_reducible refine Kd.C_drew ?_)))
            (case side2 => exact HC0_2.out)
            rintro e w32 ⟨rfl, hb⟩
            refine ⟨_, rfl, ?_⟩
            have n0_ := Aside0.mk (blk_below (g := gb302) (o := .cells #[.int .i64 a0_0, .int .i64 a0_1, .slice A0_2 l0_2.length c0_2] 24 (0, 0)) (by (with_reducible repeat (first | refine blk_drewN ?_ _ | refine blk_drew ?_ | refine blk_alloc ?_ _)); exact BK302.out) hb)
            have n1_ := Aside0.mk (below_step (by repeat (first | (with_reducible first | exact HB.out | apply below_alloc | apply pw_below_drewN | apply below_drew1 | refine below_set ?_ GE302.out) | exact HB.out)) hb)
            clear BK302
            clear HB
            have BK302 := n0_
            have HB := n1_
            clear n0_ n1_
            (try clear hb)
            (try clear hb2)
            (try clear hk)
            (try clear hi)
            refine hK.out _ _ ⟨(blk_cell BK302.out 0).trans rfl, (blk_cell BK302.out 1).trans rfl, (blk_cell BK302.out 2).trans rfl⟩ (fun hHeld => ?_)
            clear hK K
            refine norm_ (a' := ?_) ?_ ?_
            rotate_left
            · show Act.put _ (some 20) _ = _
              simp only [Act.put, List.setIfInBounds_toArray, List.set_cons_zero, List.set_cons_succ, i64_w, i32_w]
              rfl
            refine pure_ (i := 4) (N := some 21) (v := ?_) (a' := ?_) #[true, true, true, true, true, false, false, false, false, false, false, false, false, false, false, false, false, false, false, false, false, false, false, false, false, false, false, false, false, false, false, false, false, false, false, false, false, false, false, false, false, false, false, false, false, false, false, false] rfl rfl (any_of HT_.out (by kernel_rfl)) (fun _ _ _ h => h) (Or.inl ⟨by rfl, ?_⟩) ?_ ?_
            rotate_left
            · intro w'
              go_simp
              with_reducible rfl
            rotate_left
            · simp only [Act.put, List.setIfInBounds_toArray, List.set_cons_zero, List.set_cons_succ, i64_w, i32_w]
              rfl
            refine pure_ (i := 5) (N := some 22) (v := ?_) (a' := ?_) #[true, true, true, true, true, true, false, false, false, false, false, false, false, false, false, false, false, false, false, false, false, false, false, false, false, false, false, false, false, false, false, false, false, false, false, false, false, false, false, false, false, false, false, false, false, false, false, false] rfl rfl (any_of HT_.out (by kernel_rfl)) (fun _ _ _ h => h) (Or.inl ⟨by rfl, ?_⟩) ?_ ?_
            rotate_left
            · intro w'
              go_simp
              with_reducible rfl
            rotate_left
            · simp only [Act.put, List.setIfInBounds_toArray, List.set_cons_zero, List.set_cons_succ, i64_w, i32_w]
              rfl
            refine pure_ (i := 7) (N := some 24) (v := ?_) (a' := ?_) #[true, true, true, true, true, true, false, true, false, false, false, false, false, false, false, false, false, false, false, false, false, false, false, false, false, false, false, false, false, false, false, false, false, false, false, false, false, false, false, false, false, false, false, false, false, false, false, false] rfl rfl (any_of HT_.out (by kernel_rfl)) (fun _ _ _ h => h) (Or.inl ⟨by rfl, ?_⟩) ?_ ?_
            rotate_left
            · intro w'
              go_simp
              with_reducible rfl
            rotate_left
            · simp only [Act.put, List.setIfInBounds_toArray, List.set_cons_zero, List.set_cons_succ, i64_w, i32_w]
              rfl
            refine pure_ (i := 8) (N := some 25) (v := ?_) (a' := ?_) #[true, true, true, true, true, true, false, true, true, false, false, false, false, false, false, false, false, false, false, false, false, false, false, false, false, false, false, false, false, false, false, false, false, false, false, false, false, false, false, false, false, false, false, false, false, false, false, false] rfl rfl (any_of HT_.out (by kernel_rfl)) (fun _ _ _ h => h) (Or.inl ⟨by rfl, ?_⟩) ?_ ?_
            rotate_left
            · intro w'
              go_simp
              with_reducible rfl
            rotate_left
            · simp only [Act.put, List.setIfInBounds_toArray, List.set_cons_zero, List.set_cons_succ, i64_w, i32_w]
              rfl
            refine pure_ (i := 11) (N := some 28) (v := ?_) (a' := ?_) #[true, true, true, true, true, true, false, true, true, false, false, true, false, false, false, false, false, false, false, false, false, false, false, false, false, false, false, false, false, false, false, false, false, false, false, false, false, false, false, false, false, false, false, false, false, false, false, false] rfl rfl (any_of HT_.out (by kernel_rfl)) (fun _ _ _ h => h) (Or.inl ⟨by rfl, ?_⟩) ?_ ?_
            rotate_left
            · intro w'
              go_simp
              with_reducible rfl
            rotate_left
            · simp only [Act.put, List.setIfInBounds_toArray, List.set_cons_zero, List.set_cons_succ, i64_w, i32_w]
              rfl
            refine pure_ (i := 12) (N := some 29) (v := ?_) (a' := ?_) #[true, true, true, true, true, true, false, true, true, false, false, true, true, false, false, false, false, false, false, false, false, false, false, false, false, false, false, false, false, false, false, false, false, false, false, false, false, false, false, false, false, false, false, false, false, false, false, false] rfl rfl (any_of HT_.out (by kernel_rfl)) (fun _ _ _ h => h) (Or.inl ⟨by rfl, ?_⟩) ?_ ?_
            rotate_left
            · intro w'
              go_simp
              with_reducible rfl
            rotate_left
            · simp only [Act.put, List.setIfInBounds_toArray, List.set_cons_zero, List.set_cons_succ, i64_w, i32_w]
              rfl
            refine take_ (i := 6) (N := some 23) (v := ?_) (a' := ?_) #[true, true, true, true, true, true, true, true, true, false, false, true, true, false, false, false, false, false, false, false, false, false, false, false, false, false, false, false, false, false, false, false, false, false, false, false, false, false, false, false, false, false, false, false, false, false, false, false] rfl rfl (take_ofW HT_.out HW_.out (by kernel_rfl)) (fun _ _ _ h => h) (Or.inl ⟨by rfl, ?_⟩) hHeld ?_ ?_
            rotate_left
            · rintro w' ⟨s0, s1, s2⟩
              go_simp
              with_reducible rfl
            rotate_left
            · simp only [Act.put, List.setIfInBounds_toArray, List.set_cons_zero, List.set_cons_succ, i64_w, i32_w]
              rfl
            refine take_ (i := 10) (N := some 27) (v := ?_) (a' := ?_) #[true, true, true, true, true, true, true, true, true, false, true, true, true, false, false, false, false, false, false, false, false, false, false, false, false, false, false, false, false, false, false, false, false, false, false, false, false, false, false, false, false, false, false, false, false, false, false, false] rfl rfl (take_ofW HT_.out HW_.out (by kernel_rfl)) (fun _ _ _ h => h) (Or.inl ⟨by rfl, ?_⟩) hHeld ?_ ?_
            rotate_left
            · rintro w' ⟨s0, s1, s2⟩
              go_simp
              with_reducible rfl
            rotate_left
            · simp only [Act.put, List.setIfInBounds_toArray, List.set_cons_zero, List.set_cons_succ, i64_w, i32_w]
              rfl
            refine one_ (i := 9) (N := some 26) #[true, true, true, true, true, true, true, true, true, true, true, true, true, false, false, false, false, false, false, false, false, false, false, false, false, false, false, false, false, false, false, false, false, false, false, false, false, false, false, false, false, false, false, false, false, false, false, false] rfl rfl (one_of HT_.out (by kernel_rfl)) (by decide) (fun K hK => ?_)
            refine goes_ Try.func17 (by kernel_rfl) rfl #[.agg #[.int .i64 a0_0, .int .i64 a0_1, .slice A0_2 l0_2.length c0_2], .int .i64 a2, .int .u32 a3] (by rfl) rfl rfl (by (try simp only [List.map_toArray, List.map_cons, List.map_nil]); first | done | rfl | (simp only [List.length_drop, List.length_take]; rfl)) ?_
            with_reducible refine (tableau_Value.calls a0_0 a0_1 _ _ l0_2 a2 a3 t307 _ ?side1 ?side2 A17.out).mono ?_
            (case side1 => repeat (first | exact (Kd.C_below HR0_2.out HB.out) | (with_reducible refine Kd.C_alloc ?_ _) | (with_reducible refine Kd.C_drewN ?_ _) | (with_reducible refine Kd.C_drew ?_)))
            (case side2 => exact HC0_2.out)
            rintro e w33 ⟨rfl, hb⟩
            refine ⟨_, rfl, ?_⟩
            have n0_ := Aside0.mk (blk_below (g := gb302) (o := .cells #[.int .i64 a0_0, .int .i64 a0_1, .slice A0_2 l0_2.length c0_2] 24 (0, 0)) (by (with_reducible repeat (first | refine blk_drewN ?_ _ | refine blk_drew ?_ | refine blk_alloc ?_ _)); exact BK302.out) hb)
            have n1_ := Aside0.mk (below_step (by repeat (first | (with_reducible first | exact HB.out | apply below_alloc | apply pw_below_drewN | apply below_drew1 | refine below_set ?_ GE302.out) | exact HB.out)) hb)
            clear BK302
            clear HB
            have BK302 := n0_
            have HB := n1_
            clear n0_ n1_
            (try clear hb)
            (try clear hb2)
            (try clear hk)
            (try clear hi)
            refine hK.out _ _ ⟨(blk_cell BK302.out 0).trans rfl, (blk_cell BK302.out 1).trans rfl, (blk_cell BK302.out 2).trans rfl⟩ (fun hHeld => ?_)
            clear hK K
            refine norm_ (a' := ?_) ?_ ?_
            rotate_left
            · show Act.put _ (some 26) _ = _
              simp only [Act.put, List.setIfInBounds_toArray, List.set_cons_zero, List.set_cons_succ, i64_w, i32_w]
              rfl
            refine one_ (i := 13) (N := some 30) #[true, true, true, true, true, true, true, true, true, true, true, true, true, true, false, false, false, false, false, false, false, false, false, false, false, false, false, false, false, false, false, false, false, false, false, false, false, false, false, false, false, false, false, false, false, false, false, false] rfl rfl (one_of HT_.out (by kernel_rfl)) (by decide) (fun K hK => ?_)
            refine goes_ Try.func20 (by kernel_rfl) rfl #[.agg #[.int .i64 a0_0, .int .i64 a0_1, .slice A0_2 l0_2.length c0_2], .int .i64 a2, .int .u32 a3] (by rfl) rfl rfl (by (try simp only [List.map_toArray, List.map_cons, List.map_nil]); first | done | rfl | (simp only [List.length_drop, List.length_take]; rfl)) ?_
            with_reducible refine (parryref22_Value.calls a0_0 a0_1 _ _ l0_2 a2 a3 t308 _ ?side1 ?side2 A18.out).mono ?_
            (case side1 => repeat (first | exact (Kd.C_below HR0_2.out HB.out) | (with_reducible refine Kd.C_alloc ?_ _) | (with_reducible refine Kd.C_drewN ?_ _) | (with_reducible refine Kd.C_drew ?_)))
            (case side2 => exact HC0_2.out)
            rintro e w34 ⟨rfl, hb⟩
            refine ⟨_, rfl, ?_⟩
            have n0_ := Aside0.mk (blk_below (g := gb302) (o := .cells #[.int .i64 a0_0, .int .i64 a0_1, .slice A0_2 l0_2.length c0_2] 24 (0, 0)) (by (with_reducible repeat (first | refine blk_drewN ?_ _ | refine blk_drew ?_ | refine blk_alloc ?_ _)); exact BK302.out) hb)
            have n1_ := Aside0.mk (below_step (by repeat (first | (with_reducible first | exact HB.out | apply below_alloc | apply pw_below_drewN | apply below_drew1 | refine below_set ?_ GE302.out) | exact HB.out)) hb)
            clear BK302
            clear HB
            have BK302 := n0_
            have HB := n1_
            clear n0_ n1_
            (try clear hb)
            (try clear hb2)
            (try clear hk)
            (try clear hi)
            refine hK.out _ _ ⟨(blk_cell BK302.out 0).trans rfl, (blk_cell BK302.out 1).trans rfl, (blk_cell BK302.out 2).trans rfl⟩ (fun hHeld => ?_)
            clear hK K
            refine norm_ (a' := ?_) ?_ ?_
            rotate_left
            · show Act.put _ (some 30) _ = _
              simp only [Act.put, List.setIfInBounds_toArray, List.set_cons_zero, List.set_cons_succ, i64_w, i32_w]
              rfl
            refine pure_ (i := 14) (N := some 31) (v := ?_) (a' := ?_) #[true, true, true, true, true, true, true, true, true, true, true, true, true, true, true, false, false, false, false, false, false, false, false, false, false, false, false, false, false, false, false, false, false, false, false, false, false, false, false, false, false, false, false, false, false, false, false, false] rfl rfl (any_of HT_.out (by kernel_rfl)) (fun _ _ _ h => h) (Or.inl ⟨by rfl, ?_⟩) ?_ ?_
            rotate_left
            · intro w'
              go_simp
              with_reducible rfl
            rotate_left
            · simp only [Act.put, List.setIfInBounds_toArray, List.set_cons_zero, List.set_cons_succ, i64_w, i32_w]
              rfl
            refine pure_ (i := 15) (N := some 32) (v := ?_) (a' := ?_) #[true, true, true, true, true, true, true, true, true, true, true, true, true, true, true, true, false, false, false, false, false, false, false, false, false, false, false, false, false, false, false, false, false, false, false, false, false, false, false, false, false, false, false, false, false, false, false, false] rfl rfl (any_of HT_.out (by kernel_rfl)) (fun _ _ _ h => h) (Or.inl ⟨by rfl, ?_⟩) ?_ ?_
            rotate_left
            · intro w'
              go_simp
              with_reducible rfl
            rotate_left
            · simp only [Act.put, List.setIfInBounds_toArray, List.set_cons_zero, List.set_cons_succ, i64_w, i32_w]
              rfl
            refine pure_ (i := 16) (N := some 33) (v := ?_) (a' := ?_) #[true, true, true, true, true, true, true, true, true, true, true, true, true, true, true, true, true, false, false, false, false, false, false, false, false, false, false, false, false, false, false, false, false, false, false, false, false, false, false, false, false, false, false, false, false, false, false, false] rfl rfl (any_of HT_.out (by kernel_rfl)) (fun _ _ _ h => h) (Or.inl ⟨by rfl, ?_⟩) ?_ ?_
            rotate_left
            · intro w'
              go_simp
              with_reducible rfl
            rotate_left
            · simp only [Act.put, List.setIfInBounds_toArray, List.set_cons_zero, List.set_cons_succ, i64_w, i32_w]
              rfl
            refine pure_ (i := 18) (N := some 35) (v := ?_) (a' := ?_) #[true, true, true, true, true, true, true, true, true, true, true, true, true, true, true, true, true, false, true, false, false, false, false, false, false, false, false, false, false, false, false, false, false, false, false, false, false, false, false, false, false, false, false, false, false, false, false, false] rfl rfl (any_of HT_.out (by kernel_rfl)) (fun _ _ _ h => h) (Or.inl ⟨by rfl, ?_⟩) ?_ ?_
            rotate_left
            · intro w'
              go_simp
              with_reducible rfl
            rotate_left
            · simp only [Act.put, List.setIfInBounds_toArray, List.set_cons_zero, List.set_cons_succ, i64_w, i32_w]
              rfl
            refine pure_ (i := 19) (N := some 36) (v := ?_) (a' := ?_) #[true, true, true, true, true, true, true, true, true, true, true, true, true, true, true, true, true, false, true, true, false, false, false, false, false, false, false, false, false, false, false, false, false, false, false, false, false, false, false, false, false, false, false, false, false, false, false, false] rfl rfl (any_of HT_.out (by kernel_rfl)) (fun _ _ _ h => h) (Or.inl ⟨by rfl, ?_⟩) ?_ ?_
            rotate_left
            · intro w'
              go_simp
              with_reducible rfl
            rotate_left
            · simp only [Act.put, List.setIfInBounds_toArray, List.set_cons_zero, List.set_cons_succ, i64_w, i32_w]
              rfl
            refine pure_ (i := 20) (N := some 37) (v := ?_) (a' := ?_) #[true, true, true, true, true, true, true, true, true, true, true, true, true, true, true, true, true, false, true, true, true, false, false, false, false, false, false, false, false, false, false, false, false, false, false, false, false, false, false, false, false, false, false, false, false, false, false, false] rfl rfl (any_of HT_.out (by kernel_rfl)) (fun _ _ _ h => h) (Or.inl ⟨by rfl, ?_⟩) ?_ ?_
            rotate_left
            · intro w'
              go_simp
              with_reducible rfl
            rotate_left
            · simp only [Act.put, List.setIfInBounds_toArray, List.set_cons_zero, List.set_cons_succ, i64_w, i32_w]
              rfl
            refine pure_ (i := 21) (N := some 38) (v := ?_) (a' := ?_) #[true, true, true, true, true, true, true, true, true, true, true, true, true, true, true, true, true, false, true, true, true, true, false, false, false, false, false, false, false, false, false, false, false, false, false, false, false, false, false, false, false, false, false, false, false, false, false, false] rfl rfl (any_of HT_.out (by kernel_rfl)) (fun _ _ _ h => h) (Or.inl ⟨by rfl, ?_⟩) ?_ ?_
            rotate_left
            · intro w'
              go_simp
              with_reducible rfl
            rotate_left
            · simp only [Act.put, List.setIfInBounds_toArray, List.set_cons_zero, List.set_cons_succ, i64_w, i32_w]
              rfl
            refine pure_ (i := 24) (N := some 41) (v := ?_) (a' := ?_) #[true, true, true, true, true, true, true, true, true, true, true, true, true, true, true, true, true, false, true, true, true, true, false, false, true, false, false, false, false, false, false, false, false, false, false, false, false, false, false, false, false, false, false, false, false, false, false, false] rfl rfl (any_of HT_.out (by kernel_rfl)) (fun _ _ _ h => h) (Or.inl ⟨by rfl, ?_⟩) ?_ ?_
            rotate_left
            · intro w'
              go_simp
              with_reducible rfl
            rotate_left
            · simp only [Act.put, List.setIfInBounds_toArray, List.set_cons_zero, List.set_cons_succ, i64_w, i32_w]
              rfl
            refine pure_ (i := 25) (N := some 42) (v := ?_) (a' := ?_) #[true, true, true, true, true, true, true, true, true, true, true, true, true, true, true, true, true, false, true, true, true, true, false, false, true, true, false, false, false, false, false, false, false, false, false, false, false, false, false, false, false, false, false, false, false, false, false, false] rfl rfl (any_of HT_.out (by kernel_rfl)) (fun _ _ _ h => h) (Or.inl ⟨by rfl, ?_⟩) ?_ ?_
            rotate_left
            · intro w'
              go_simp
              with_reducible rfl
            rotate_left
            · simp only [Act.put, List.setIfInBounds_toArray, List.set_cons_zero, List.set_cons_succ, i64_w, i32_w]
              rfl
            refine pure_ (i := 26) (N := some 43) (v := ?_) (a' := ?_) #[true, true, true, true, true, true, true, true, true, true, true, true, true, true, true, true, true, false, true, true, true, true, false, false, true, true, true, false, false, false, false, false, false, false, false, false, false, false, false, false, false, false, false, false, false, false, false, false] rfl rfl (any_of HT_.out (by kernel_rfl)) (fun _ _ _ h => h) (Or.inl ⟨by rfl, ?_⟩) ?_ ?_
            rotate_left
            · intro w'
              go_simp
              with_reducible rfl
            rotate_left
            · simp only [Act.put, List.setIfInBounds_toArray, List.set_cons_zero, List.set_cons_succ, i64_w, i32_w]
              rfl
            refine pure_ (i := 27) (N := some 44) (v := ?_) (a' := ?_) #[true, true, true, true, true, true, true, true, true, true, true, true, true, true, true, true, true, false, true, true, true, true, false, false, true, true, true, true, false, false, false, false, false, false, false, false, false, false, false, false, false, false, false, false, false, false, false, false] rfl rfl (any_of HT_.out (by kernel_rfl)) (fun _ _ _ h => h) (Or.inl ⟨by rfl, ?_⟩) ?_ ?_
            rotate_left
            · intro w'
              go_simp
              with_reducible rfl
            rotate_left
            · simp only [Act.put, List.setIfInBounds_toArray, List.set_cons_zero, List.set_cons_succ, i64_w, i32_w]
              rfl
            refine take_ (i := 17) (N := some 34) (v := ?_) (a' := ?_) #[true, true, true, true, true, true, true, true, true, true, true, true, true, true, true, true, true, true, true, true, true, true, false, false, true, true, true, true, false, false, false, false, false, false, false, false, false, false, false, false, false, false, false, false, false, false, false, false] rfl rfl (take_ofW HT_.out HW_.out (by kernel_rfl)) (fun _ _ _ h => h) (Or.inl ⟨by rfl, ?_⟩) hHeld ?_ ?_
            rotate_left
            · rintro w' ⟨s0, s1, s2⟩
              go_simp
              with_reducible rfl
            rotate_left
            · simp only [Act.put, List.setIfInBounds_toArray, List.set_cons_zero, List.set_cons_succ, i64_w, i32_w]
              rfl
            refine take_ (i := 23) (N := some 40) (v := ?_) (a' := ?_) #[true, true, true, true, true, true, true, true, true, true, true, true, true, true, true, true, true, true, true, true, true, true, false, true, true, true, true, true, false, false, false, false, false, false, false, false, false, false, false, false, false, false, false, false, false, false, false, false] rfl rfl (take_ofW HT_.out HW_.out (by kernel_rfl)) (fun _ _ _ h => h) (Or.inl ⟨by rfl, ?_⟩) hHeld ?_ ?_
            rotate_left
            · rintro w' ⟨s0, s1, s2⟩
              go_simp
              with_reducible rfl
            rotate_left
            · simp only [Act.put, List.setIfInBounds_toArray, List.set_cons_zero, List.set_cons_succ, i64_w, i32_w]
              rfl
            refine one_ (i := 22) (N := some 39) #[true, true, true, true, true, true, true, true, true, true, true, true, true, true, true, true, true, true, true, true, true, true, true, true, true, true, true, true, false, false, false, false, false, false, false, false, false, false, false, false, false, false, false, false, false, false, false, false] rfl rfl (one_of HT_.out (by kernel_rfl)) (by decide) (fun K hK => ?_)
            refine goes_ Try.func18 (by kernel_rfl) rfl #[.agg #[.int .i64 a0_0, .int .i64 a0_1, .slice A0_2 l0_2.length c0_2], .int .i64 a2, .int .u32 a3, .int .i64 a4, .int .u32 a5] (by rfl) rfl rfl (by (try simp only [List.map_toArray, List.map_cons, List.map_nil]); first | done | rfl | (simp only [List.length_drop, List.length_take]; rfl)) ?_
            with_reducible refine (tableau_Moves.calls a0_0 a0_1 _ _ l0_2 a2 a3 a4 a5 t309 _ ?side1 ?side2 A20.out).mono ?_
            (case side1 => repeat (first | exact (Kd.C_below HR0_2.out HB.out) | (with_reducible refine Kd.C_alloc ?_ _) | (with_reducible refine Kd.C_drewN ?_ _) | (with_reducible refine Kd.C_drew ?_)))
            (case side2 => exact HC0_2.out)
            rintro e w35 ⟨rfl, hb⟩
            refine ⟨_, rfl, ?_⟩
            have n0_ := Aside0.mk (blk_below (g := gb302) (o := .cells #[.int .i64 a0_0, .int .i64 a0_1, .slice A0_2 l0_2.length c0_2] 24 (0, 0)) (by (with_reducible repeat (first | refine blk_drewN ?_ _ | refine blk_drew ?_ | refine blk_alloc ?_ _)); exact BK302.out) hb)
            have n1_ := Aside0.mk (below_step (by repeat (first | (with_reducible first | exact HB.out | apply below_alloc | apply pw_below_drewN | apply below_drew1 | refine below_set ?_ GE302.out) | exact HB.out)) hb)
            clear BK302
            clear HB
            have BK302 := n0_
            have HB := n1_
            clear n0_ n1_
            (try clear hb)
            (try clear hb2)
            (try clear hk)
            (try clear hi)
            refine hK.out _ _ ⟨(blk_cell BK302.out 0).trans rfl, (blk_cell BK302.out 1).trans rfl, (blk_cell BK302.out 2).trans rfl⟩ (fun hHeld => ?_)
            clear hK K
            refine norm_ (a' := ?_) ?_ ?_
            rotate_left
            · show Act.put _ (some 39) _ = _
              simp only [Act.put, List.setIfInBounds_toArray, List.set_cons_zero, List.set_cons_succ, i64_w, i32_w]
              rfl
            refine one_ (i := 28) (N := some 45) #[true, true, true, true, true, true, true, true, true, true, true, true, true, true, true, true, true, true, true, true, true, true, true, true, true, true, true, true, true, false, false, false, false, false, false, false, false, false, false, false, false, false, false, false, false, false, false, false] rfl rfl (one_of HT_.out (by kernel_rfl)) (by decide) (fun K hK => ?_)
            refine goes_ Try.func21 (by kernel_rfl) rfl #[.agg #[.int .i64 a0_0, .int .i64 a0_1, .slice A0_2 l0_2.length c0_2], .int .i64 a2, .int .u32 a3, .int .i64 a4, .int .u32 a5] (by rfl) rfl rfl (by (try simp only [List.map_toArray, List.map_cons, List.map_nil]); first | done | rfl | (simp only [List.length_drop, List.length_take]; rfl)) ?_
            with_reducible refine (parryref22_Moves.calls a0_0 a0_1 _ _ l0_2 a2 a3 a4 a5 t310 _ ?side1 ?side2 A21.out).mono ?_
            (case side1 => repeat (first | exact (Kd.C_below HR0_2.out HB.out) | (with_reducible refine Kd.C_alloc ?_ _) | (with_reducible refine Kd.C_drewN ?_ _) | (with_reducible refine Kd.C_drew ?_)))
            (case side2 => exact HC0_2.out)
            rintro e w36 ⟨rfl, hb⟩
            refine ⟨_, rfl, ?_⟩
            have n0_ := Aside0.mk (blk_below (g := gb302) (o := .cells #[.int .i64 a0_0, .int .i64 a0_1, .slice A0_2 l0_2.length c0_2] 24 (0, 0)) (by (with_reducible repeat (first | refine blk_drewN ?_ _ | refine blk_drew ?_ | refine blk_alloc ?_ _)); exact BK302.out) hb)
            have n1_ := Aside0.mk (below_step (by repeat (first | (with_reducible first | exact HB.out | apply below_alloc | apply pw_below_drewN | apply below_drew1 | refine below_set ?_ GE302.out) | exact HB.out)) hb)
            clear BK302
            clear HB
            have BK302 := n0_
            have HB := n1_
            clear n0_ n1_
            (try clear hb)
            (try clear hb2)
            (try clear hk)
            (try clear hi)
            refine hK.out _ _ ⟨(blk_cell BK302.out 0).trans rfl, (blk_cell BK302.out 1).trans rfl, (blk_cell BK302.out 2).trans rfl⟩ (fun hHeld => ?_)
            clear hK K
            refine norm_ (a' := ?_) ?_ ?_
            rotate_left
            · show Act.put _ (some 45) _ = _
              simp only [Act.put, List.setIfInBounds_toArray, List.set_cons_zero, List.set_cons_succ, i64_w, i32_w]
              rfl
            refine pure_ (i := 29) (N := some 46) (v := ?_) (a' := ?_) #[true, true, true, true, true, true, true, true, true, true, true, true, true, true, true, true, true, true, true, true, true, true, true, true, true, true, true, true, true, true, false, false, false, false, false, false, false, false, false, false, false, false, false, false, false, false, false, false] rfl rfl (any_of HT_.out (by kernel_rfl)) (fun _ _ _ h => h) (Or.inl ⟨by rfl, ?_⟩) ?_ ?_
            rotate_left
            · intro w'
              go_simp
              with_reducible rfl
            rotate_left
            · simp only [Act.put, List.setIfInBounds_toArray, List.set_cons_zero, List.set_cons_succ, i64_w, i32_w]
              rfl
            refine pure_ (i := 30) (N := some 47) (v := ?_) (a' := ?_) #[true, true, true, true, true, true, true, true, true, true, true, true, true, true, true, true, true, true, true, true, true, true, true, true, true, true, true, true, true, true, true, false, false, false, false, false, false, false, false, false, false, false, false, false, false, false, false, false] rfl rfl (any_of HT_.out (by kernel_rfl)) (fun _ _ _ h => h) (Or.inl ⟨by rfl, ?_⟩) ?_ ?_
            rotate_left
            · intro w'
              go_simp
              with_reducible rfl
            rotate_left
            · simp only [Act.put, List.setIfInBounds_toArray, List.set_cons_zero, List.set_cons_succ, i64_w, i32_w]
              rfl
            refine pure_ (i := 31) (N := some 48) (v := ?_) (a' := ?_) #[true, true, true, true, true, true, true, true, true, true, true, true, true, true, true, true, true, true, true, true, true, true, true, true, true, true, true, true, true, true, true, true, false, false, false, false, false, false, false, false, false, false, false, false, false, false, false, false] rfl rfl (any_of HT_.out (by kernel_rfl)) (fun _ _ _ h => h) (Or.inl ⟨by rfl, ?_⟩) ?_ ?_
            rotate_left
            · intro w'
              go_simp
              with_reducible rfl
            rotate_left
            · simp only [Act.put, List.setIfInBounds_toArray, List.set_cons_zero, List.set_cons_succ, i64_w, i32_w]
              rfl
            refine pure_ (i := 33) (N := some 50) (v := ?_) (a' := ?_) #[true, true, true, true, true, true, true, true, true, true, true, true, true, true, true, true, true, true, true, true, true, true, true, true, true, true, true, true, true, true, true, true, false, true, false, false, false, false, false, false, false, false, false, false, false, false, false, false] rfl rfl (any_of HT_.out (by kernel_rfl)) (fun _ _ _ h => h) (Or.inl ⟨by rfl, ?_⟩) ?_ ?_
            rotate_left
            · intro w'
              go_simp
              with_reducible rfl
            rotate_left
            · simp only [Act.put, List.setIfInBounds_toArray, List.set_cons_zero, List.set_cons_succ, i64_w, i32_w]
              rfl
            refine pure_ (i := 34) (N := some 51) (v := ?_) (a' := ?_) #[true, true, true, true, true, true, true, true, true, true, true, true, true, true, true, true, true, true, true, true, true, true, true, true, true, true, true, true, true, true, true, true, false, true, true, false, false, false, false, false, false, false, false, false, false, false, false, false] rfl rfl (any_of HT_.out (by kernel_rfl)) (fun _ _ _ h => h) (Or.inl ⟨by rfl, ?_⟩) ?_ ?_
            rotate_left
            · intro w'
              go_simp
              with_reducible rfl
            rotate_left
            · simp only [Act.put, List.setIfInBounds_toArray, List.set_cons_zero, List.set_cons_succ, i64_w, i32_w]
              rfl
            refine pure_ (i := 35) (N := some 52) (v := ?_) (a' := ?_) #[true, true, true, true, true, true, true, true, true, true, true, true, true, true, true, true, true, true, true, true, true, true, true, true, true, true, true, true, true, true, true, true, false, true, true, true, false, false, false, false, false, false, false, false, false, false, false, false] rfl rfl (any_of HT_.out (by kernel_rfl)) (fun _ _ _ h => h) (Or.inl ⟨by rfl, ?_⟩) ?_ ?_
            rotate_left
            · intro w'
              go_simp
              with_reducible rfl
            rotate_left
            · simp only [Act.put, List.setIfInBounds_toArray, List.set_cons_zero, List.set_cons_succ, i64_w, i32_w]
              rfl
            refine pure_ (i := 38) (N := some 55) (v := ?_) (a' := ?_) #[true, true, true, true, true, true, true, true, true, true, true, true, true, true, true, true, true, true, true, true, true, true, true, true, true, true, true, true, true, true, true, true, false, true, true, true, false, false, true, false, false, false, false, false, false, false, false, false] rfl rfl (any_of HT_.out (by kernel_rfl)) (fun _ _ _ h => h) (Or.inl ⟨by rfl, ?_⟩) ?_ ?_
            rotate_left
            · intro w'
              go_simp
              with_reducible rfl
            rotate_left
            · simp only [Act.put, List.setIfInBounds_toArray, List.set_cons_zero, List.set_cons_succ, i64_w, i32_w]
              rfl
            refine pure_ (i := 39) (N := some 56) (v := ?_) (a' := ?_) #[true, true, true, true, true, true, true, true, true, true, true, true, true, true, true, true, true, true, true, true, true, true, true, true, true, true, true, true, true, true, true, true, false, true, true, true, false, false, true, true, false, false, false, false, false, false, false, false] rfl rfl (any_of HT_.out (by kernel_rfl)) (fun _ _ _ h => h) (Or.inl ⟨by rfl, ?_⟩) ?_ ?_
            rotate_left
            · intro w'
              go_simp
              with_reducible rfl
            rotate_left
            · simp only [Act.put, List.setIfInBounds_toArray, List.set_cons_zero, List.set_cons_succ, i64_w, i32_w]
              rfl
            refine pure_ (i := 40) (N := some 57) (v := ?_) (a' := ?_) #[true, true, true, true, true, true, true, true, true, true, true, true, true, true, true, true, true, true, true, true, true, true, true, true, true, true, true, true, true, true, true, true, false, true, true, true, false, false, true, true, true, false, false, false, false, false, false, false] rfl rfl (any_of HT_.out (by kernel_rfl)) (fun _ _ _ h => h) (Or.inl ⟨by rfl, ?_⟩) ?_ ?_
            rotate_left
            · intro w'
              go_simp
              with_reducible rfl
            rotate_left
            · simp only [Act.put, List.setIfInBounds_toArray, List.set_cons_zero, List.set_cons_succ, i64_w, i32_w]
              rfl
            refine take_ (i := 32) (N := some 49) (v := ?_) (a' := ?_) #[true, true, true, true, true, true, true, true, true, true, true, true, true, true, true, true, true, true, true, true, true, true, true, true, true, true, true, true, true, true, true, true, true, true, true, true, false, false, true, true, true, false, false, false, false, false, false, false] rfl rfl (take_ofW HT_.out HW_.out (by kernel_rfl)) (fun _ _ _ h => h) (Or.inl ⟨by rfl, ?_⟩) hHeld ?_ ?_
            rotate_left
            · rintro w' ⟨s0, s1, s2⟩
              go_simp
              with_reducible rfl
            rotate_left
            · simp only [Act.put, List.setIfInBounds_toArray, List.set_cons_zero, List.set_cons_succ, i64_w, i32_w]
              rfl
            refine take_ (i := 37) (N := some 54) (v := ?_) (a' := ?_) #[true, true, true, true, true, true, true, true, true, true, true, true, true, true, true, true, true, true, true, true, true, true, true, true, true, true, true, true, true, true, true, true, true, true, true, true, false, true, true, true, true, false, false, false, false, false, false, false] rfl rfl (take_ofW HT_.out HW_.out (by kernel_rfl)) (fun _ _ _ h => h) (Or.inl ⟨by rfl, ?_⟩) hHeld ?_ ?_
            rotate_left
            · rintro w' ⟨s0, s1, s2⟩
              go_simp
              with_reducible rfl
            rotate_left
            · simp only [Act.put, List.setIfInBounds_toArray, List.set_cons_zero, List.set_cons_succ, i64_w, i32_w]
              rfl
            refine one_ (i := 36) (N := some 53) #[true, true, true, true, true, true, true, true, true, true, true, true, true, true, true, true, true, true, true, true, true, true, true, true, true, true, true, true, true, true, true, true, true, true, true, true, true, true, true, true, true, false, false, false, false, false, false, false] rfl rfl (one_of HT_.out (by kernel_rfl)) (by decide) (fun K hK => ?_)
            refine goes_ Try.func22 (by kernel_rfl) rfl #[.agg #[.int .i64 a0_0, .int .i64 a0_1, .slice A0_2 l0_2.length c0_2], .int .i64 a1, .int .i64 a2, .int .u32 a3] (by rfl) rfl rfl (by (try simp only [List.map_toArray, List.map_cons, List.map_nil]); first | done | rfl | (simp only [List.length_drop, List.length_take]; rfl)) ?_
            with_reducible refine (tableau_Good.calls a0_0 a0_1 _ _ l0_2 a1 a2 a3 t311 _ ?side1 ?side2 A23.out).mono ?_
            (case side1 => repeat (first | exact (Kd.C_below HR0_2.out HB.out) | (with_reducible refine Kd.C_alloc ?_ _) | (with_reducible refine Kd.C_drewN ?_ _) | (with_reducible refine Kd.C_drew ?_)))
            (case side2 => exact HC0_2.out)
            rintro e w37 ⟨rfl, hb⟩
            refine ⟨_, rfl, ?_⟩
            have n0_ := Aside0.mk (blk_below (g := gb302) (o := .cells #[.int .i64 a0_0, .int .i64 a0_1, .slice A0_2 l0_2.length c0_2] 24 (0, 0)) (by (with_reducible repeat (first | refine blk_drewN ?_ _ | refine blk_drew ?_ | refine blk_alloc ?_ _)); exact BK302.out) hb)
            have n1_ := Aside0.mk (below_step (by repeat (first | (with_reducible first | exact HB.out | apply below_alloc | apply pw_below_drewN | apply below_drew1 | refine below_set ?_ GE302.out) | exact HB.out)) hb)
            clear BK302
            clear HB
            have BK302 := n0_
            have HB := n1_
            clear n0_ n1_
            (try clear hb)
            (try clear hb2)
            (try clear hk)
            (try clear hi)
            refine hK.out _ _ ⟨(blk_cell BK302.out 0).trans rfl, (blk_cell BK302.out 1).trans rfl, (blk_cell BK302.out 2).trans rfl⟩ (fun hHeld => ?_)
            clear hK K
            refine norm_ (a' := ?_) ?_ ?_
            rotate_left
            · show Act.put _ (some 53) _ = _
              simp only [Act.put, List.setIfInBounds_toArray, List.set_cons_zero, List.set_cons_succ, i64_w, i32_w]
              rfl
            refine one_ (i := 41) (N := some 58) #[true, true, true, true, true, true, true, true, true, true, true, true, true, true, true, true, true, true, true, true, true, true, true, true, true, true, true, true, true, true, true, true, true, true, true, true, true, true, true, true, true, true, false, false, false, false, false, false] rfl rfl (one_of HT_.out (by kernel_rfl)) (by decide) (fun K hK => ?_)
            refine goes_ Try.func23 (by kernel_rfl) rfl #[.agg #[.int .i64 a0_0, .int .i64 a0_1, .slice A0_2 l0_2.length c0_2], .int .i64 a1, .int .i64 a2, .int .u32 a3] (by rfl) rfl rfl (by (try simp only [List.map_toArray, List.map_cons, List.map_nil]); first | done | rfl | (simp only [List.length_drop, List.length_take]; rfl)) ?_
            with_reducible refine (parryref22_Good.calls a0_0 a0_1 _ _ l0_2 a1 a2 a3 t312 _ ?side1 ?side2 A24.out).mono ?_
            (case side1 => repeat (first | exact (Kd.C_below HR0_2.out HB.out) | (with_reducible refine Kd.C_alloc ?_ _) | (with_reducible refine Kd.C_drewN ?_ _) | (with_reducible refine Kd.C_drew ?_)))
            (case side2 => exact HC0_2.out)
            rintro e w38 ⟨rfl, hb⟩
            refine ⟨_, rfl, ?_⟩
            have n0_ := Aside0.mk (blk_below (g := gb302) (o := .cells #[.int .i64 a0_0, .int .i64 a0_1, .slice A0_2 l0_2.length c0_2] 24 (0, 0)) (by (with_reducible repeat (first | refine blk_drewN ?_ _ | refine blk_drew ?_ | refine blk_alloc ?_ _)); exact BK302.out) hb)
            have n1_ := Aside0.mk (below_step (by repeat (first | (with_reducible first | exact HB.out | apply below_alloc | apply pw_below_drewN | apply below_drew1 | refine below_set ?_ GE302.out) | exact HB.out)) hb)
            clear BK302
            clear HB
            have BK302 := n0_
            have HB := n1_
            clear n0_ n1_
            (try clear hb)
            (try clear hb2)
            (try clear hk)
            (try clear hi)
            refine hK.out _ _ ⟨(blk_cell BK302.out 0).trans rfl, (blk_cell BK302.out 1).trans rfl, (blk_cell BK302.out 2).trans rfl⟩ (fun hHeld => ?_)
            clear hK K
            refine norm_ (a' := ?_) ?_ ?_
            rotate_left
            · show Act.put _ (some 58) _ = _
              simp only [Act.put, List.setIfInBounds_toArray, List.set_cons_zero, List.set_cons_succ, i64_w, i32_w]
              rfl
            refine pure_ (i := 42) (N := some 59) (v := ?_) (a' := ?_) #[true, true, true, true, true, true, true, true, true, true, true, true, true, true, true, true, true, true, true, true, true, true, true, true, true, true, true, true, true, true, true, true, true, true, true, true, true, true, true, true, true, true, true, false, false, false, false, false] rfl rfl (any_of HT_.out (by kernel_rfl)) (fun _ _ _ h => h) (Or.inl ⟨by rfl, ?_⟩) ?_ ?_
            rotate_left
            · intro w'
              go_simp
              with_reducible rfl
            rotate_left
            · simp only [Act.put, List.setIfInBounds_toArray, List.set_cons_zero, List.set_cons_succ, i64_w, i32_w]
              rfl
            refine pure_ (i := 43) (N := some 60) (v := ?_) (a' := ?_) #[true, true, true, true, true, true, true, true, true, true, true, true, true, true, true, true, true, true, true, true, true, true, true, true, true, true, true, true, true, true, true, true, true, true, true, true, true, true, true, true, true, true, true, true, false, false, false, false] rfl rfl (any_of HT_.out (by kernel_rfl)) (fun _ _ _ h => h) (Or.inl ⟨by rfl, ?_⟩) ?_ ?_
            rotate_left
            · intro w'
              go_simp
              with_reducible rfl
            rotate_left
            · simp only [Act.put, List.setIfInBounds_toArray, List.set_cons_zero, List.set_cons_succ, i64_w, i32_w]
              rfl
            refine pure_ (i := 44) (N := some 61) (v := ?_) (a' := ?_) #[true, true, true, true, true, true, true, true, true, true, true, true, true, true, true, true, true, true, true, true, true, true, true, true, true, true, true, true, true, true, true, true, true, true, true, true, true, true, true, true, true, true, true, true, true, false, false, false] rfl rfl (any_of HT_.out (by kernel_rfl)) (fun _ _ _ h => h) (Or.inl ⟨by rfl, ?_⟩) ?_ ?_
            rotate_left
            · intro w'
              go_simp
              with_reducible rfl
            rotate_left
            · simp only [Act.put, List.setIfInBounds_toArray, List.set_cons_zero, List.set_cons_succ, i64_w, i32_w]
              rfl
            refine one_ (i := 45) (N := some 62) #[true, true, true, true, true, true, true, true, true, true, true, true, true, true, true, true, true, true, true, true, true, true, true, true, true, true, true, true, true, true, true, true, true, true, true, true, true, true, true, true, true, true, true, true, true, true, false, false] rfl rfl (one_of HT_.out (by kernel_rfl)) (by decide) (fun K hK => ?_)
            refine goes_ Try.func10 (by kernel_rfl) rfl #[] (by rfl) rfl rfl (by (try simp only [List.map_toArray, List.map_cons, List.map_nil]); first | done | rfl | (simp only [List.length_drop, List.length_take]; rfl)) ?_
            with_reducible refine (parrylaw23_awake.calls  t313 _ A26.out).mono ?_
            rintro e w39 ⟨rfl, hb⟩
            refine ⟨_, rfl, ?_⟩
            have n0_ := Aside0.mk (blk_below (g := gb302) (o := .cells #[.int .i64 a0_0, .int .i64 a0_1, .slice A0_2 l0_2.length c0_2] 24 (0, 0)) (by (with_reducible repeat (first | refine blk_drewN ?_ _ | refine blk_drew ?_ | refine blk_alloc ?_ _)); exact BK302.out) hb)
            have n1_ := Aside0.mk (below_step (by repeat (first | (with_reducible first | exact HB.out | apply below_alloc | apply pw_below_drewN | apply below_drew1 | refine below_set ?_ GE302.out) | exact HB.out)) hb)
            clear BK302
            clear HB
            have BK302 := n0_
            have HB := n1_
            clear n0_ n1_
            (try clear hb)
            (try clear hb2)
            (try clear hk)
            (try clear hi)
            refine hK.out _ _ ⟨(blk_cell BK302.out 0).trans rfl, (blk_cell BK302.out 1).trans rfl, (blk_cell BK302.out 2).trans rfl⟩ (fun hHeld => ?_)
            clear hK K
            refine norm_ (a' := ?_) ?_ ?_
            rotate_left
            · show Act.put _ (some 62) _ = _
              simp only [Act.put, List.setIfInBounds_toArray, List.set_cons_zero, List.set_cons_succ, i64_w, i32_w]
              rfl
            refine pure_ (i := 46) (N := some 63) (v := ?_) (a' := ?_) #[true, true, true, true, true, true, true, true, true, true, true, true, true, true, true, true, true, true, true, true, true, true, true, true, true, true, true, true, true, true, true, true, true, true, true, true, true, true, true, true, true, true, true, true, true, true, true, false] rfl rfl (any_of HT_.out (by kernel_rfl)) (fun _ _ _ h => h) (Or.inl ⟨by rfl, ?_⟩) ?_ ?_
            rotate_left
            · intro w'
              go_simp
              with_reducible rfl
            rotate_left
            · simp only [Act.put, List.setIfInBounds_toArray, List.set_cons_zero, List.set_cons_succ, i64_w, i32_w]
              rfl
            refine pure_ (i := 47) (N := some 12) (v := ?_) (a' := ?_) #[true, true, true, true, true, true, true, true, true, true, true, true, true, true, true, true, true, true, true, true, true, true, true, true, true, true, true, true, true, true, true, true, true, true, true, true, true, true, true, true, true, true, true, true, true, true, true, true] rfl rfl (any_of HT_.out (by kernel_rfl)) (fun _ _ _ h => h) (Or.inl ⟨by rfl, ?_⟩) ?_ ?_
            rotate_left
            · intro w'
              go_simp
              with_reducible rfl
            rotate_left
            · simp only [Act.put, List.setIfInBounds_toArray, List.set_cons_zero, List.set_cons_succ, i64_w, i32_w]
              rfl
            refine done_ (done_of HT_.out (by kernel_rfl)) ?_
            try go_wp2
            go_ret
            exact ⟨by first | rfl | (simp [errW_none, errW_some] <;> rfl) | (simp [*, errW_none, errW_some] <;> rfl), by repeat (first | (with_reducible first | exact HB.out | apply below_alloc | apply pw_below_drewN | apply below_drew1 | refine below_set ?_ GE302.out) | exact HB.out)⟩
          · rw [if_neg c25] at H
            have c25b0 : (t311 == t312) = false := by simpa using c25
            (try (have c25b1 : decide (t311 = t312) = false := by simpa using c25))
            (try (have c25b2 : (t311 == t312) = false := by simpa using c25))
            (try (have c25b3 : ¬ (t311 = t312) := by simpa using c25))
            clear c25
            exact absurd ((Option.some.inj H).trans HRT.out) (by decide)
        · rw [if_neg c22] at H
          have c22b0 : (t309 == t310) = false := by simpa using c22
          (try (have c22b1 : decide (t309 = t310) = false := by simpa using c22))
          (try (have c22b2 : (t309 == t310) = false := by simpa using c22))
          (try (have c22b3 : ¬ (t309 = t310) := by simpa using c22))
          clear c22
          exact absurd ((Option.some.inj H).trans HRT.out) (by decide)
      · rw [if_neg c19] at H
        have c19b0 : (t307 == t308) = false := by simpa using c19
        (try (have c19b1 : decide (t307 = t308) = false := by simpa using c19))
        (try (have c19b2 : (t307 == t308) = false := by simpa using c19))
        (try (have c19b3 : ¬ (t307 = t308) := by simpa using c19))
        clear c19
        exact absurd ((Option.some.inj H).trans HRT.out) (by decide)
    · rw [if_neg c16] at H
      have c16b0 : (t305 == t306) = false := beq_eq_false_iff_ne.mpr c16
      have c16b1 : (t305 != t306) = true := bne_iff_ne.mpr c16
      exact absurd ((Option.some.inj H).trans HRT.out) (by decide)

end Go.Proofs.Ytegaicoddnmemaa.P

namespace Go.Proofs.Ytegaicoddnmemaa.P
end Go.Proofs.Ytegaicoddnmemaa.P

