/- A part of the claim FormulaForms. -/
import Derived.Test.YtjjnokodkeekhaaDoorQFormulaFormsa
import Derived.Test.YtjjnokodkeekhaaDoorQFormulaFormsb
import Derived.Test.YtjjnokodkeekhaaDoorQFormulaFormsc
import Derived.Test.YtjjnokodkeekhaaDoorQFormulaFormsd
import Derived.Test.YtjjnokodkeekhaaDoorQFormulaFormse
namespace Go.Proofs.YtjjnokodkeekhaaDoor.X
open Go.RowKit Go.Proofs.YtjjnokodkeekhaaDoorW.PrintWords Go.Proofs.YtjjnokodkeekhaaDoorW.PrintLast Go.Proofs.YtjjnokodkeekhaaDoorW.PrintMore
open Go.Proofs.YtjjnokodkeekhaaDoor.P Go.Proofs.YtjjnokodkeekhaaDoor.Evx
set_option linter.unusedVariables false
set_option linter.unusedSimpArgs false
set_option maxHeartbeats 16000000 in
set_option maxRecDepth 100000 in
theorem rrow_timed (st lp : List Int) (s : S24) (htm : timedS s.f0 = true) (ih : ∀ k ∈ s.f2, RefAt st lp k) : RefAt st lp s := by
  intro n A cp A1 A2 c1 c2 w hn hb hn1 hr1 hc1 hr2 hc2 hr hc hs
  have huF := Tryd.underlying24
  have huL := Tryd.underlying22
  have huW := Tryd.underlying27
  have hus := Tryd.underlying35
  have huu := Tryd.underlying25
  obtain ⟨W2, hW2⟩ : ∃ W2, W2 = (w.alloc (.cells #[.int .i64 s.f0, .int .i64 s.f1, .slice A s.f2.length cp] 24)).alloc (.cells #[.slice A1 st.length c1, .slice A2 lp.length c2] 27) := ⟨_, rfl⟩
  have hB2 : Below w.heap.size w W2 := by rw [hW2]; exact below_alloc (below_alloc (Below.refl _ _) _) _
  have hb1 : W2.heap[w.heap.size]? = some (.cells #[.int .i64 s.f0, .int .i64 s.f1, .slice A s.f2.length cp] 24 (0, 0)) := by rw [hW2]; exact blk_alloc (heap_alloc_new w _) _
  have hb2 : W2.heap[w.heap.size + 1]? = some (.cells #[.slice A1 st.length c1, .slice A2 lp.length c2] 27 (0, 0)) := by
    rw [hW2]
    have := heap_alloc_new (w.alloc (.cells #[.int .i64 s.f0, .int .i64 s.f1, .slice A s.f2.length cp] 24)) (.cells #[.slice A1 st.length c1, .slice A2 lp.length c2] 27)
    simpa using this
  have hsz2 : W2.heap.size = w.heap.size + 2 := by rw [hW2]; simp
  obtain ⟨g, hg⟩ : ∃ g, g = W2.heap.size := ⟨_, rfl⟩
  obtain ⟨W3, hW3⟩ : ∃ W3, W3 = W2.alloc (.cells (boolsOf (List.replicate n false)).toArray 4) := ⟨_, rfl⟩
  have hst : RSt w W3 #[.int .i64 s.f0, .int .i64 s.f1, .slice A s.f2.length cp] #[.slice A1 st.length c1, .slice A2 lp.length c2] g (List.replicate n false) := by
    rw [hW3]
    exact ⟨blk_alloc hb1 _, blk_alloc hb2 _, by rw [hg]; exact heap_alloc_new W2 _, below_alloc hB2 _, by rw [hg, hsz2]; exact Nat.le_refl _⟩
  have hgs : g < W3.heap.size := blk_lt hst.og
  have x0 : W2.cell? ⟨w.heap.size + 1, 0, none⟩ = some (.slice A1 st.length c1) := (blk_cell hb2 0).trans rfl
  have x1 : W2.cell? ⟨w.heap.size + 1, 1, none⟩ = some (.slice A2 lp.length c2) := (blk_cell hb2 1).trans rfl
  have HIH := Aside0.mk (fun (i : Nat) (hi : i < s.f2.length) W (hB : Below w.heap.size w W) => fun A3 c3 hk3 hc3 => ih (s.f2[i]'hi) (List.getElem_mem hi) n A3 c3 A1 A2 c1 c2 W hn hb hn1 (Kd.C_below hr1 hB) hc1 (Kd.C_below hr2 hB) hc2 hk3 hc3 (sound_kid hs i hi))
  have HS := Aside0.mk hs
  have HK := Aside0.mk hr
  have HC1 := Aside0.mk hr1
  have HC2 := Aside0.mk hr2
  have HN := Aside0.mk hn
  have HST := Aside0.mk hst
  have HGS := Aside0.mk hgs
  have hmk := make_bools n (by omega)
  have hl1 : st.length ≤ 1000000 := by omega
  have hl2 : lp.length ≤ 1000000 := by omega
  have hn0 : 0 < n := by omega
  have hlen := Kd.C_max hr
  clear hb1 hb2 hB2 hsz2 hr hr1 hr2 hst hs ih hgs hn
  go_enter Tryd.func44, Tryd.ntmps44
  go_upto_region 1 with fail
  rw [← hW2]
  clear hW2
  go_cut [5] (fun v5 wx => v5 = .int .i64 (n : Int) ∧ wx = W2)
  case first =>
    go_wp2
    go_meet
    exact ⟨by rw [HN.out]; rfl, rfl⟩
  case rest =>
    obtain ⟨rfl, hwc⟩ := hcut
    rw [hwc]
    clear hwc wc x0 x1
    go_upto_region 4 with fail
    rw [← hW3, ← hg]
    clear hW3 hg hmk W2
    have x2 : W3.cell? ⟨w.heap.size, 2, none⟩ = some (.slice A s.f2.length cp) := (blk_cell HST.out.c1 2).trans rfl
    have y0 : W3.cell? ⟨w.heap.size + 1, 0, none⟩ = some (.slice A1 st.length c1) := (blk_cell HST.out.c2 0).trans rfl
    have y1 : W3.cell? ⟨w.heap.size + 1, 1, none⟩ = some (.slice A2 lp.length c2) := (blk_cell HST.out.c2 1).trans rfl
    go_upto_if 24 with fail
    go_cut [7] (fun v7 wx => ∃ va x, va = v7 ∧ Aside0 (RSt w wx #[.int .i64 s.f0, .int .i64 s.f1, .slice A s.f2.length cp] #[.slice A1 st.length c1, .slice A2 lp.length c2] g (List.replicate n false)) ∧ Aside0 (0 < s.f2.length → KRow wx g n va x ∧ x = (rowL (st ++ lp) st.length s.f2).getD 0 []))
    case first =>
      by_cases hl : 0 < s.f2.length
      · obtain ⟨ad, A3, c3, hA, hx0, hx1, hx2, hl2, hk2⟩ := kid_at HK.out HST.out.bl 0 hl hl
        subst hA
        have e0 : ad.add (0 * 3) = ad := by cases ad; simp [Addr.add]
        rw [e0] at hx0 hx1 hx2
        have HK2 := Aside0.mk (Kd.C_below hk2 HST.out.bl)
        have HL2 := Aside0.mk hl2
        clear hk2 hl2
        go_upto_region 5 with fail
        have HCALL := Aside0.mk (HIH.out 0 hl W3.drew (below_drew1 HST.out.bl) A3 c3 (Kd.C_drew HK2.out) HL2.out)
        go_region_with (go_at_call 44; refine HCALL.out.mono ?_; rintro e w5 ⟨g5, rfl, hg5, hG, hB⟩; have HS5 := Aside0.mk (HST.out.next ((below_drew1 (Below.refl _ _)).trans hB)); have HG := Aside0.mk hG; have HGG := Aside0.mk (show W3.heap.size ≤ g5 from hg5); clear hG hB hg5)
        all_goals (
          go_wp2_with fail
          go_meet
          exact ⟨_, rowS (st ++ lp) st.length (s.f2[0]'hl), rfl, HS5, ⟨fun _ => ⟨⟨g5, rfl, Nat.lt_of_lt_of_le HGS.out HGG.out, HG.out, by rw [len_row, List.length_append, HN.out]⟩, (rowL_get _ _ s.f2 0 hl).symm⟩⟩⟩)
      · have hd : decide (0 < s.f2.length) = false := decide_eq_false hl
        go_wp2
        go_meet
        exact ⟨_, [], rfl, HST, ⟨fun h => absurd h hl⟩⟩
    case rest =>
      obtain ⟨va, x, hv, HST2, HX⟩ := hcut
      subst hv
      have x2l : wc.cell? ⟨w.heap.size, 2, none⟩ = some (.slice A s.f2.length cp) := (blk_cell HST2.out.c1 2).trans rfl
      have y0l : wc.cell? ⟨w.heap.size + 1, 0, none⟩ = some (.slice A1 st.length c1) := (blk_cell HST2.out.c2 0).trans rfl
      have y1l : wc.cell? ⟨w.heap.size + 1, 1, none⟩ = some (.slice A2 lp.length c2) := (blk_cell HST2.out.c2 1).trans rfl
      clear x2 y0 y1 HST HGS W3
      go_upto_if 34 with fail
      go_cut [8] (fun v8 wx => ∃ vb y, vb = v8 ∧ Aside0 (RSt w wx #[.int .i64 s.f0, .int .i64 s.f1, .slice A s.f2.length cp] #[.slice A1 st.length c1, .slice A2 lp.length c2] g (List.replicate n false)) ∧ Aside0 (0 < s.f2.length → KRow wx g n va x ∧ x = (rowL (st ++ lp) st.length s.f2).getD 0 []) ∧ Aside0 (1 < s.f2.length → KRow wx g n vb y ∧ y = (rowL (st ++ lp) st.length s.f2).getD 1 []))
      case first =>
        by_cases hl : 1 < s.f2.length
        · obtain ⟨ad, A3, c3, hA, hx0, hx1, hx2, hl2, hk2⟩ := kid_at HK.out HST2.out.bl 1 hl hl
          subst hA
          simp only [Nat.one_mul] at hx0 hx1 hx2
          have hx1a : wc.cell? ⟨ad.block, ad.off + 3 + 1, none⟩ = some (.int .i64 (s.f2[1]'hl).f1) := hx1
          have hx2a : wc.cell? ⟨ad.block, ad.off + 3 + 2, none⟩ = some (.slice A3 (s.f2[1]'hl).f2.length c3) := hx2
          have hx0a : wc.cell? ⟨ad.block, ad.off + 3, none⟩ = some (.int .i64 (s.f2[1]'hl).f0) := hx0
          have HK2 := Aside0.mk (Kd.C_below hk2 HST2.out.bl)
          have HL2 := Aside0.mk hl2
          clear hk2 hl2
          go_upto_region 7 with fail
          have HCALL := Aside0.mk (HIH.out 1 hl wc.drew (below_drew1 HST2.out.bl) A3 c3 (Kd.C_drew HK2.out) HL2.out)
          have HGS := Aside0.mk (blk_lt HST2.out.og)
          go_region_with (go_at_call 44; refine HCALL.out.mono ?_; rintro e w5 ⟨g5, rfl, hg5, hG, hB⟩; have HS5 := Aside0.mk (HST2.out.next ((below_drew1 (Below.refl _ _)).trans hB)); have HX5 := Aside0.mk (fun h => And.intro ((HX.out h).1.next ((below_drew1 (Below.refl _ _)).trans hB)) (HX.out h).2); have HG := Aside0.mk hG; have HGG := Aside0.mk (show wc.heap.size ≤ g5 from hg5); clear hG hB hg5)
          all_goals (
            go_wp2_with fail
            go_meet
            exact ⟨_, rowS (st ++ lp) st.length (s.f2[1]'hl), rfl, HS5, HX5, ⟨fun _ => ⟨⟨g5, rfl, Nat.lt_of_lt_of_le HGS.out HGG.out, HG.out, by rw [len_row, List.length_append, HN.out]⟩, (rowL_get _ _ s.f2 1 hl).symm⟩⟩⟩)
        · have hd : decide (1 < s.f2.length) = false := decide_eq_false hl
          go_wp2
          go_meet
          exact ⟨_, [], rfl, HST2, HX, ⟨fun h => absurd h hl⟩⟩
      case rest =>
        obtain ⟨vb, y, hv, HST3, HXX, HYY⟩ := hcut
        subst hv
        clear HST2 HX x2l y0l y1l HIH HK
        have hpart := sound_parts HS.out
        have hop := op_cases hpart.1
        have HNL := Aside0.mk (show (st ++ lp).length = n from by rw [List.length_append, HN.out])
        have hres : (timedS s.f0 = false → (List.range n).map (layB (st ++ lp) s.f0 s.f1 x y) = rowS (st ++ lp) st.length s) ∧ (timedS s.f0 = true → passes (stepB n st.length s.f0 x y) n st.length 3 ((List.range n).map (layB (st ++ lp) s.f0 s.f1 x y)) = rowS (st ++ lp) st.length s) := by
          have hk2 := hpart.2.1
          have hxy : rowS (st ++ lp) st.length s = rowOp (st ++ lp) st.length s.f0 s.f1 x y := by
            rw [row_eq]
            rcases hop with h | h | h | h | h | h | h | h
            · rw [h]; simp [rowOp]
            · rw [h]; simp [rowOp]
            · rw [h] at hk2 ⊢
              rw [(HXX.out (by have h9 : kidsS 3 = 1 := (by decide); omega)).2]; simp [rowOp]
            · rw [h] at hk2 ⊢
              rw [(HXX.out (by have h9 : kidsS 4 = 2 := (by decide); omega)).2, (HYY.out (by have h9 : kidsS 4 = 2 := (by decide); omega)).2]
            · rw [h] at hk2 ⊢
              rw [(HXX.out (by have h9 : kidsS 5 = 2 := (by decide); omega)).2, (HYY.out (by have h9 : kidsS 5 = 2 := (by decide); omega)).2]
            · rw [h] at hk2 ⊢
              rw [(HXX.out (by have h9 : kidsS 6 = 1 := (by decide); omega)).2]; simp [rowOp]
            · rw [h] at hk2 ⊢
              rw [(HXX.out (by have h9 : kidsS 7 = 2 := (by decide); omega)).2, (HYY.out (by have h9 : kidsS 7 = 2 := (by decide); omega)).2]
            · rw [h] at hk2 ⊢
              rw [(HXX.out (by have h9 : kidsS 8 = 2 := (by decide); omega)).2, (HYY.out (by have h9 : kidsS 8 = 2 := (by decide); omega)).2]
          rw [hxy, ← HNL.out]
          have hbn : st.length < (st ++ lp).length := by rw [HNL.out]; exact hb
          refine ⟨fun ht => ?_, fun ht => ?_⟩
          · refine lay_plain _ _ _ _ _ _ hbn ?_
            rcases hop with h | h | h | h | h | h | h | h
            all_goals first | (rw [h] at ht; cases ht; done) | simp [h]
          · refine lay_timed _ _ _ _ _ _ hbn ?_
            rcases hop with h | h | h | h | h | h | h | h
            all_goals first | (rw [h] at ht; cases ht; done) | simp [h]
        have HRES := Aside0.mk hres
        have hop2 : s.f0 = 6 ∨ s.f0 = 7 ∨ s.f0 = 8 := by
          rcases hop with h | h | h | h | h | h | h | h
          all_goals first | (rw [h] at htm; cases htm; done) | simp [h]
        have HOP := Aside0.mk hop2
        have HTI := Aside0.mk htm
        have HKS := Aside0.mk hpart.2.1
        have HM := Aside0.mk hpart.2.2
        have hl0 : 0 < s.f2.length → KRow wc g n va x := fun h => (HXX.out h).1
        have hl1 : 1 < s.f2.length → KRow wc g n vb y := fun h => (HYY.out h).1
        have HX0 := Aside0.mk hl0
        have HY0 := Aside0.mk hl1
        clear HXX HYY hres hop hop2 hpart hl0 hl1 htm
        go_wp2
        go_loopg [43] n (fun kq v43 w' => ∃ (i : Nat), i + kq = n ∧ v43 = .int .i64 i ∧ Aside0 (RSt w w' #[.int .i64 s.f0, .int .i64 s.f1, .slice A s.f2.length cp] #[.slice A1 st.length c1, .slice A2 lp.length c2] g (layL (layB (st ++ lp) s.f0 s.f1 x y) n i)) ∧ Aside0 (0 < s.f2.length → KRow w' g n va x) ∧ Aside0 (1 < s.f2.length → KRow w' g n vb y))
        case atStart => exact ⟨0, by omega, rfl, HST3, HX0, HY0⟩
        case round =>
          obtain ⟨i, hi, rfl, HSTi, HXi, HYi⟩ := hrel
          have HI := Aside0.mk hi
          clear hi
          have x00 : wr.cell? ⟨w.heap.size, 0, none⟩ = some (.int .i64 s.f0) := (blk_cell HSTi.out.c1 0).trans rfl
          by_cases hin : i < n
          · have HLI := Aside0.mk (layL_len (layB (st ++ lp) s.f0 s.f1 x y) (n := n) (i := i) (by omega))
            obtain ⟨ob, hob⟩ : ∃ ob, wr.cell? ⟨g, i, none⟩ = some (.bool ob) := ⟨_, brow_cell HSTi.out.og (by rw [HLI.out]; exact hin)⟩
            have hfx := blk_frozen HSTi.out.og i
            have HSET := Aside0.mk (layL_set (layB (st ++ lp) s.f0 s.f1 x y) hin)
            have HSAME := Aside0.mk (layL_same (layB (st ++ lp) s.f0 s.f1 x y) hin)
            have HLAY := Aside0.mk (show layB (st ++ lp) s.f0 s.f1 x y i = _ from rfl)
            have HBi := Aside0.mk HSTi.out.bl
            rcases HOP.out with hop | hop | hop
            · rw [hop] at x00
              have HV := Aside0.mk (HSAME.out (show layB (st ++ lp) s.f0 s.f1 x y i = false from by rw [hop]; rfl))
              clear hop
              go_wp2
              go_roundg (n - (i + 1))
              case measure => have := HI.out; omega
              case rel => exact ⟨i + 1, by omega, by go_num, ⟨by rw [← HV.out]; exact HSTi.out⟩, HXi, HYi⟩
            · rw [hop] at x00
              have HV := Aside0.mk (HSAME.out (show layB (st ++ lp) s.f0 s.f1 x y i = false from by rw [hop]; rfl))
              clear hop
              go_wp2
              go_roundg (n - (i + 1))
              case measure => have := HI.out; omega
              case rel => exact ⟨i + 1, by omega, by go_num, ⟨by rw [← HV.out]; exact HSTi.out⟩, HXi, HYi⟩
            · rw [hop] at x00
              have HV := Aside0.mk (show layB (st ++ lp) s.f0 s.f1 x y i = true from by rw [hop]; rfl)
              clear hop
              go_wp2
              go_roundg (n - (i + 1))
              case measure => have := HI.out; omega
              case rel => exact ⟨i + 1, by omega, by go_num, ⟨by rw [← HSET.out, HV.out]; exact HSTi.out.set i _⟩, ⟨fun h => (HXi.out h).set_ i _⟩, ⟨fun h => (HYi.out h).set_ i _⟩⟩
          · have hin2 : i = n := by have := HI.out; omega
            subst hin2
            have HE := Aside0.mk (layL_all (layB (st ++ lp) s.f0 s.f1 x y) i)
            have HTM := Aside0.mk (rtimed_some s.f0)
            rw [HTI.out] at HTM
            have HR := Aside0.mk (HRES.out.2 HTI.out)
            have HO3 := HOP
            go_wp2_with (go_at_call 65; refine (parryref22_Timed.calls s.f0 true _ HTM.out).mono ?_; rintro e w5 ⟨rfl, hd⟩; obtain ⟨m, rfl⟩ := hd.out; have HST5 := Aside0.mk (HSTi.out.next (pw_below_drewN (Below.refl _ _) m)); have HX5 := Aside0.mk (fun h => (HXi.out h).next (pw_below_drewN (Below.refl _ _) m)); have HY5 := Aside0.mk (fun h => (HYi.out h).next (pw_below_drewN (Below.refl _ _) m)))
            go_loopg [118] 3 (fun kq v118 w' => ∃ (t : Nat) (out : List Bool), t + kq = 3 ∧ v118 = .int .i64 t ∧ out.length = i ∧ Aside0 (passes (stepB i st.length s.f0 x y) i st.length kq out = rowS (st ++ lp) st.length s) ∧ Aside0 (RSt w w' #[.int .i64 s.f0, .int .i64 s.f1, .slice A s.f2.length cp] #[.slice A1 st.length c1, .slice A2 lp.length c2] g out) ∧ Aside0 (0 < s.f2.length → KRow w' g i va x) ∧ Aside0 (1 < s.f2.length → KRow w' g i vb y))
            case atStart => exact ⟨0, _, by omega, rfl, by simp, HR, ⟨by rw [← HE.out]; exact HST5.out⟩, HX5, HY5⟩
            case round =>
              obtain ⟨t, out, ht, rfl, hlo, HP, HSTo, HXo, HYo⟩ := hrel
              have HT := Aside0.mk ht
              have HLO := Aside0.mk hlo
              clear ht hlo
              obtain ⟨WW, rfl⟩ : ∃ W : World, W = wr := ⟨_, rfl⟩
              by_cases hlt : (t : Int) < 3
              · obtain ⟨kp, hkp⟩ : ∃ kp, gk = kp + 1 := ⟨gk - 1, by have := HT.out; omega⟩
                have HPP := Aside0.mk (show passes (stepB i st.length s.f0 x y) i st.length kp (passD (stepB i st.length s.f0 x y) i st.length i out) = rowS (st ++ lp) st.length s from by rw [← HP.out, hkp]; rfl)
                have HKP := Aside0.mk hkp
                clear hkp
                go_wp2
                go_loopg [10] i (fun kq v10 w' => ∃ (o2 : List Bool), kq ≤ i ∧ v10 = .int .i64 ((kq : Int) - 1) ∧ o2.length = i ∧ Aside0 (passD (stepB i st.length s.f0 x y) i st.length kq o2 = passD (stepB i st.length s.f0 x y) i st.length i out) ∧ Aside0 (RSt w w' #[.int .i64 s.f0, .int .i64 s.f1, .slice A s.f2.length cp] #[.slice A1 st.length c1, .slice A2 lp.length c2] g o2) ∧ Aside0 (0 < s.f2.length → KRow w' g i va x) ∧ Aside0 (1 < s.f2.length → KRow w' g i vb y))
                case atStart => exact ⟨out, Nat.le_refl _, rfl, HLO.out, ⟨rfl⟩, HSTo, HXo, HYo⟩
                case round =>
                  obtain ⟨o2, hkn, rfl, hl2, HQ, HS2, HX2, HY2⟩ := hrel
                  have HLL := Aside0.mk hl2
                  clear hl2
                  obtain _ | j := gk
                  · have e0 : ((0 : Nat) : Int) - 1 = -1 := rfl
                    rw [e0]
                    have HPD := Aside0.mk (show passes (stepB i st.length s.f0 x y) i st.length kp o2 = rowS (st ++ lp) st.length s from by rw [← HPP.out, ← HQ.out]; rfl)
                    go_wp2
                    go_roundg kp
                    case measure => have := HKP.out; omega
                    case rel => exact ⟨t + 1, o2, by have := HT.out; have := HKP.out; omega, by first | rfl | (congr 1; go_num; done) | go_num, HLL.out, HPD, HS2, HX2, HY2⟩
                  · have e1 : ((j + 1 : Nat) : Int) - 1 = (j : Int) := by omega
                    rw [e1]
                    have hjn : j < i := by omega
                    have hj0 : (j : Int) ≥ 0 := by omega
                    have hq : nextS i st.length j < i := nextS_lt hb
                    have HNX := Aside0.mk (show nextS i st.length j = if j + 1 < i then j + 1 else st.length from rfl)
                    have HS6 := Aside0.mk (fun (h : s.f0 = 6) => show stepB i st.length s.f0 x y j (o2.getD (nextS i st.length j) false) = x.getD (nextS i st.length j) false from by unfold stepB; rw [if_pos h])
                    have HS7 := Aside0.mk (fun (h : s.f0 = 7) => show stepB i st.length s.f0 x y j (o2.getD (nextS i st.length j) false) = (y.getD j false || x.getD j false && o2.getD (nextS i st.length j) false) from by rw [h]; rfl)
                    have HS8 := Aside0.mk (fun (h : s.f0 = 8) => show stepB i st.length s.f0 x y j (o2.getD (nextS i st.length j) false) = (y.getD j false && (x.getD j false || o2.getD (nextS i st.length j) false)) from by rw [h]; rfl)
                    have HSTP := Aside0.mk (show passD (stepB i st.length s.f0 x y) i st.length j (o2.set j (stepB i st.length s.f0 x y j (o2.getD (nextS i st.length j) false))) = passD (stepB i st.length s.f0 x y) i st.length i out from HQ.out)
                    have x10 : wr.cell? ⟨w.heap.size, 0, none⟩ = some (.int .i64 s.f0) := (blk_cell HS2.out.c1 0).trans rfl
                    have l10 : wr.cell? ⟨w.heap.size + 1, 0, none⟩ = some (.slice A1 st.length c1) := (blk_cell HS2.out.c2 0).trans rfl
                    obtain ⟨ob2, hob2⟩ : ∃ ob2, wr.cell? ⟨g, j, none⟩ = some (.bool ob2) := ⟨_, brow_cell HS2.out.og (by rw [HLL.out]; exact hjn)⟩
                    have hfx2 := blk_frozen HS2.out.og j
                    generalize nextS i st.length j = q at *
                    have hqc := brow_cell HS2.out.og (i := q) (by rw [HLL.out]; exact hq)
                    generalize o2.getD q false = qv at *
                    generalize stepB i st.length s.f0 x y j qv = sv at *
                    go_upto_if 130 with fail
                    go_cut [11] (fun v11 wx => v11 = .int .i64 ((q : Nat) : Int) ∧ wx = wr)
                    case first =>
                      by_cases hie : j + 1 = i
                      · have HQQ := Aside0.mk (show q = st.length from by rw [HNX.out, if_neg (by omega)])
                        have hib : (((j : Int) + 1) == (i : Int)) = true := beq_iff_eq.2 (by omega)
                        clear hie
                        go_wp2
                        go_meet
                        exact ⟨by first | (rw [HQQ.out]; done) | (rw [HQQ.out]; rfl), rfl⟩
                      · have HQQ := Aside0.mk (show q = j + 1 from by rw [HNX.out, if_pos (by omega)])
                        have hib : (((j : Int) + 1) == (i : Int)) = false := beq_eq_false_iff_ne.2 (by omega)
                        clear hie
                        go_wp2
                        go_meet
                        exact ⟨by first | (rw [HQQ.out]; done) | (rw [HQQ.out]; rfl), rfl⟩
                    case rest =>
                      obtain ⟨rfl, hwc⟩ := hcut
                      rw [hwc]
                      clear hwc wc
                      rcases HO3.out with hop | hop | hop
                      · have hk := HKS.out
                        rw [hop] at x10 hk
                        obtain ⟨ga, rfl, hga, hA, hAl⟩ := HX2.out (by have h9 : kidsS 6 = 1 := (by decide); omega)
                        have hxc := brow_cell hA (i := q) (by rw [hAl]; exact hq)
                        have HV := Aside0.mk (HS6.out hop)
                        generalize x.getD q false = xv at hxc HV
                        clear hop hk hA
                        go_wp2
                        go_roundg j
                        case measure => omega
                        case rel => exact ⟨o2.set j xv, by omega, by first | rfl | (congr 1; go_num; done) | go_num, by rw [List.length_set, HLL.out], ⟨by have h9 := HSTP.out; rw [HV.out] at h9; exact h9⟩, ⟨HS2.out.set j _⟩, ⟨fun h => (HX2.out h).set_ j _⟩, ⟨fun h => (HY2.out h).set_ j _⟩⟩
                      · have hk := HKS.out
                        have HV0 := Aside0.mk (HS7.out hop)
                        rw [hop] at x10 hk
                        have hk2 : s.f2.length = 2 := by have h9 : kidsS 7 = 2 := (by decide); omega
                        obtain ⟨ga, rfl, hga, hA, hAl⟩ := HX2.out (by omega)
                        obtain ⟨gb, rfl, hgb, hBr, hBl⟩ := HY2.out (by omega)
                        have hxc := brow_cell hA (i := j) (by rw [hAl]; exact hjn)
                        have hyc := brow_cell hBr (i := j) (by rw [hBl]; exact hjn)
                        generalize x.getD j false = xv at hxc HV0
                        generalize y.getD j false = yv at hyc HV0
                        clear hop hk hk2 hA hBr
                        cases yv <;> cases xv
                        all_goals (
                          have HV := HV0
                          go_wp2
                          go_roundg j
                          case measure => omega
                          case rel => exact ⟨o2.set j _, by omega, by first | rfl | (congr 1; go_num; done) | go_num, by rw [List.length_set, HLL.out], ⟨by have h9 := HSTP.out; rw [HV.out] at h9; exact h9⟩, ⟨HS2.out.set j _⟩, ⟨fun h => (HX2.out h).set_ j _⟩, ⟨fun h => (HY2.out h).set_ j _⟩⟩)
                      · have hk := HKS.out
                        have HV0 := Aside0.mk (HS8.out hop)
                        rw [hop] at x10 hk
                        have hk2 : s.f2.length = 2 := by have h9 : kidsS 8 = 2 := (by decide); omega
                        obtain ⟨ga, rfl, hga, hA, hAl⟩ := HX2.out (by omega)
                        obtain ⟨gb, rfl, hgb, hBr, hBl⟩ := HY2.out (by omega)
                        have hxc := brow_cell hA (i := j) (by rw [hAl]; exact hjn)
                        have hyc := brow_cell hBr (i := j) (by rw [hBl]; exact hjn)
                        generalize x.getD j false = xv at hxc HV0
                        generalize y.getD j false = yv at hyc HV0
                        clear hop hk hk2 hA hBr
                        cases yv <;> cases xv
                        all_goals (
                          have HV := HV0
                          go_wp2
                          go_roundg j
                          case measure => omega
                          case rel => exact ⟨o2.set j _, by omega, by first | rfl | (congr 1; go_num; done) | go_num, by rw [List.length_set, HLL.out], ⟨by have h9 := HSTP.out; rw [HV.out] at h9; exact h9⟩, ⟨HS2.out.set j _⟩, ⟨fun h => (HX2.out h).set_ j _⟩, ⟨fun h => (HY2.out h).set_ j _⟩⟩)
              · have e3 : t = 3 ∧ gk = 0 := by have := HT.out; omega
                have HE3 := Aside0.mk e3
                have HF := Aside0.mk (show out = rowS (st ++ lp) st.length s from by rw [← HP.out, e3.2]; rfl)
                clear e3
                go_wp2
                go_ret
                exact ⟨g, rfl, by have := HSTo.out.hg; omega, by rw [← HF.out]; exact HSTo.out.og, HSTo.out.bl⟩
end Go.Proofs.YtjjnokodkeekhaaDoor.X

