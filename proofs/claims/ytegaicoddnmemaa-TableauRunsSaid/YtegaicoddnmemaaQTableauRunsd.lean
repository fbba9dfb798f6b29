/- A part of the claim TableauRuns. -/
import Derived.Test.YtegaicoddnmemaaQTableauRunsa
import Derived.Test.YtegaicoddnmemaaQTableauRunsb
import Derived.Test.YtegaicoddnmemaaQTableauRunsc
namespace Go.Proofs.Ytegaicoddnmemaa.X
open Go.RowKit Go.Proofs.YtegaicoddnmemaaW.PrintWords Go.Proofs.YtegaicoddnmemaaW.PrintLast Go.Proofs.YtegaicoddnmemaaW.PrintMore
open Go.Proofs.Ytegaicoddnmemaa.P Go.Proofs.Ytegaicoddnmemaa.Evx
set_option linter.unusedSimpArgs false
set_option linter.unusedVariables false
def intsOf (l : List Int) : List Value := l.map (Value.int .i64)
theorem ints_get {l : List Int} {i : Nat} (h : i < l.length) : (intsOf l).toArray[i]? = some (.int .i64 (l.getD i 0)) := by simp [intsOf, h]
theorem ints_set (l : List Int) (i : Nat) (x : Int) : (intsOf l).toArray.setIfInBounds i (.int .i64 x) = (intsOf (l.set i x)).toArray := by simp [intsOf, List.map_set]
def IRow (w : World) (g : Nat) (l : List Int) : Prop := w.heap[g]? = some (.cells (intsOf l).toArray 3 (0, 0))
theorem irow_cell {w : World} {g : Nat} {l : List Int} (h : IRow w g l) {i : Nat} (hi : i < l.length) : w.cell? ⟨g, i, none⟩ = some (.int .i64 (l.getD i 0)) := by rw [blk_cell h, ints_get hi]
theorem irow_set {w : World} {g : Nat} {l : List Int} (h : IRow w g l) (i : Nat) (x : Int) : IRow (w.setCell ⟨g, i, none⟩ (.int .i64 x)) g (l.set i x) := (blk_set h i _).trans (by rw [ints_set])
theorem irow_R {w w' : World} {g n : Nat} {l : List Int} (h : IRow w' g l) (hl : l.length = n) (hg : w.heap.size ≤ g) (hn : n < 1000000000) : Kd.R (Kd.int .i64) 3 w' w.heap.size (fun _ => True) (.slice (some ⟨g, 0, none⟩) n n) l := by
  refine Kd.R_of_own ?_ (fun _ _ => trivial)
  rw [hl]
  refine ⟨by simp [encs, hl], .inr ⟨g, n, (intsOf l).toArray, rfl, hg, h, Nat.le_refl _, by simp [maxLen]; omega, by simp [intsOf, hl], ?_⟩⟩
  simp [intsOf, encs]
  rw [List.take_of_length_le (by simp [hl])]
theorem infoInt : (Try.prog.info? 3).map (fun i => (i.zero, i.size, i.bytes)) = some (some (.int .i64 0), 1, 8) := by kernel_rfl
theorem make_ints (n : Nat) (h : n < 1000000000) (W : World) : (Instr.makeSlice 31 (.int .i64 (n : Int)) (.int .i64 (n : Int))).run Try.prog W = .ok (.slice (some ⟨W.heap.size, 0, none⟩) n n) (W.alloc (.cells (intsOf (List.replicate n 0)).toArray 3)) := by
  have := print_make_of (P := Try.prog) 31 3 (.int .i64 0) 8 Try.underlying31 infoInt rfl (by decide) n (by omega) W
  rw [this]
  congr 3
  apply Array.ext
  · simp [madeCells, intsOf]
  · intro i h1 h2
    simp [madeCells, intsOf, Nat.mod_one]
/-- A row half done. -/
def half (row : List Bool) (n b k : Nat) (out : List Int) (i : Nat) : List Int := (runRow row n b k out).take i ++ out.drop i
theorem half_get {row : List Bool} {n b k : Nat} {out : List Int} {i : Nat} (hl : out.length = n) (hi : i < n) : (half row n b k out i).getD i 0 = out.getD i 0 := by
  unfold half
  rw [List.getD_eq_getElem?_getD, List.getElem?_append_right (by simp [len_runRow]; omega), List.length_take, len_runRow, Nat.min_eq_left (by omega), Nat.sub_self, List.getElem?_drop, Nat.add_zero, ← List.getD_eq_getElem?_getD]
theorem half_step {row : List Bool} {n b k : Nat} {out : List Int} {i : Nat} (hl : out.length = n) (hi : i < n) : (half row n b k out i).set i (runAt row n b k out i) = half row n b k out (i + 1) := by
  unfold half
  have h1 : ((runRow row n b k out).take i).length = i := by rw [List.length_take, len_runRow]; omega
  rw [List.set_append_right _ _ (by omega), h1, Nat.sub_self, List.drop_eq_getElem_cons (show i < out.length by omega), List.set_cons_zero, List.take_succ_eq_append_getElem (by rw [len_runRow]; exact hi), List.append_assoc]
  simp [runRow]
theorem half_same {row : List Bool} {n b k : Nat} {out : List Int} {i : Nat} (hl : out.length = n) (hi : i < n) (h : row.getD (nextS n b i) false = false) : half row n b k out i = half row n b k out (i + 1) := by
  rw [← half_step hl hi]
  have h2 := half_get (row := row) (b := b) (k := k) hl hi
  have h3 : runAt row n b k out i = (half row n b k out i).getD i 0 := by unfold runAt; rw [h, h2]; rfl
  rw [h3]
  have h4 : i < (half row n b k out i).length := by unfold half; simp [len_runRow]; omega
  rw [List.getD_eq_getElem?_getD, List.getElem?_eq_getElem h4]
  simp
theorem half_len {row : List Bool} {n b k : Nat} {out : List Int} {i : Nat} (hl : out.length = n) (hi : i ≤ n) : (half row n b k out i).length = n := by unfold half; simp [len_runRow]; omega
set_option maxHeartbeats 8000000 in
set_option maxRecDepth 100000 in
theorem Run_calls (s : S24) (st lp : List Int) (A : Option Addr) (cp : Nat) (A1 A2 : Option Addr) (c1 c2 : Nat) (w : World) (hr : Kd.C k24 w A s.f2.length s.f2) (hc : s.f2.length ≤ cp) (hr1 : Kd.C (Kd.int .u32) w A1 st.length st) (hc1 : st.length ≤ c1) (hr2 : Kd.C (Kd.int .u32) w A2 lp.length lp) (hc2 : lp.length ≤ c2) :
    Calls Try.prog 11 #[.agg #[.int .i64 s.f0, .int .i64 s.f1, .slice A s.f2.length cp], .agg #[.slice A1 st.length c1, .slice A2 lp.length c2]] w fun e w' => ∃ v0_ : Value, e = .returned (.tuple #[v0_, .bool (runOk s st lp)]) ∧ Kd.R (Kd.int .i64) 3 w' w.heap.size (fun _ => True) v0_ (runS s st lp) ∧ Below w.heap.size w w' := by
  have huF := Try.underlying24
  have huL := Try.underlying22
  have huW := Try.underlying27
  have hus := Try.underlying45
  have hui := Try.underlying31
  have huu := Try.underlying25
  obtain ⟨W2, hW2⟩ : ∃ W2, W2 = (w.alloc (.cells #[.int .i64 s.f0, .int .i64 s.f1, .slice A s.f2.length cp] 24)).alloc (.cells #[.slice A1 st.length c1, .slice A2 lp.length c2] 27) := ⟨_, rfl⟩
  have hB2 : Below w.heap.size w W2 := by rw [hW2]; exact below_alloc (below_alloc (Below.refl _ _) _) _
  have hb1 : W2.heap[w.heap.size]? = some (.cells #[.int .i64 s.f0, .int .i64 s.f1, .slice A s.f2.length cp] 24 (0, 0)) := by rw [hW2]; exact blk_alloc (heap_alloc_new w _) _
  have hb2 : W2.heap[w.heap.size + 1]? = some (.cells #[.slice A1 st.length c1, .slice A2 lp.length c2] 27 (0, 0)) := by
    rw [hW2]
    have := heap_alloc_new (w.alloc (.cells #[.int .i64 s.f0, .int .i64 s.f1, .slice A s.f2.length cp] 24)) (.cells #[.slice A1 st.length c1, .slice A2 lp.length c2] 27)
    simpa using this
  have hsz2 : w.heap.size + 2 ≤ W2.heap.size := by rw [hW2]; simp
  have HMAY := Aside0.mk (May_calls s A cp W2 (Kd.C_below hr hB2) hc)
  have x0 : W2.cell? ⟨w.heap.size, 0, none⟩ = some (.int .i64 s.f0) := (blk_cell hb1 0).trans rfl
  have x1 : W2.cell? ⟨w.heap.size, 1, none⟩ = some (.int .i64 s.f1) := (blk_cell hb1 1).trans rfl
  have x2 : W2.cell? ⟨w.heap.size, 2, none⟩ = some (.slice A s.f2.length cp) := (blk_cell hb1 2).trans rfl
  have HB2 := Aside0.mk hB2
  have HBX1 := Aside0.mk hb1
  have HBX2 := Aside0.mk hb2
  have HCF := Aside0.mk (Kd.C_below hr hB2)
  have HC1 := Aside0.mk (Kd.C_below hr1 hB2)
  have HC2 := Aside0.mk (Kd.C_below hr2 hB2)
  have HRF := Aside0.mk (show runS s st lp = if mayF s = 0 ∧ wordS st lp = true then runL st lp (timesS s) 0 (List.replicate (st.length + lp.length) 0) else [] from rfl)
  have HRO := Aside0.mk (show runOk s st lp = (decide (mayF s = 0) && wordS st lp) from rfl)
  have HM := Aside0.mk (@may_zero s)
  have HSUB := Aside0.mk (fun (hm : mayF s = 0) (t : S24) (ht : t ∈ timesS s) => (times_sub s t ht).may hm)
  have HTS := Aside0.mk (show TimesS s = if mayF s = 0 then timesS s else [] from rfl)
  obtain ⟨kt, hkt⟩ := (Times_ev s).rounds
  have HKT := Aside0.mk hkt
  clear hb1 hb2 hr hr1 hr2 hB2 hkt
  generalize mayF s = mv at *
  generalize hR : runS s st lp = R at *
  generalize runOk s st lp = Ok at *
  clear hR
  by_cases hm : mv = 0
  · have em : (mv != 0) = false := by rw [hm]; rfl
    cases hw : wordS st lp with
    | false =>
      have HX := Aside0.mk (show R = [] from by rw [HRF.out, hw, if_neg (by simp)])
      have HXO := Aside0.mk (show Ok = false from by rw [HRO.out, hw, Bool.and_false])
      have HWD := Aside0.mk ((mayWord_some st lp).trans (by rw [hw]))
      clear hw
      go_enter Try.func11, Try.ntmps11
      go_upto_region 1 with fail
      rw [← hW2]
      clear hW2
      go_wp2_with (first | (go_at_call 14; refine HMAY.out.mono ?_; rintro e w3 ⟨rfl, hB3⟩; have HB3 := Aside0.mk hB3; have HBX3 := Aside0.mk ((hB3.block _ (blk_lt HBX2.out)).trans HBX2.out); have y0 := (blk_cell HBX3.out 0).trans rfl; have y1 := (blk_cell HBX3.out 1).trans rfl; clear hB3) | (go_at_call 28; refine (formula_MayWord.calls A1 c1 st A2 c2 lp false _ (Kd.C_below HC1.out HB3.out) hc1 (Kd.C_below HC2.out HB3.out) hc2 HWD.out).mono ?_; rintro e w4 ⟨rfl, hB4⟩; have HB4 := Aside0.mk hB4; clear hB4))
      go_ret2
      exact ⟨_, by rw [HXO.out]; rfl, by rw [HX.out]; exact Kd.R_nil _ _ _ _ _, (HB2.out.trans (HB3.out.mono HB2.out.size)).trans (HB4.out.mono (Nat.le_trans HB2.out.size HB3.out.size))⟩
    | true =>
      have hwp : st.length ≤ 3000 ∧ 1 ≤ lp.length ∧ lp.length ≤ 27000 := of_decide_eq_true hw
      have HWT := Aside0.mk hw
      have HX := Aside0.mk (show R = runL st lp (timesS s) 0 (List.replicate (st.length + lp.length) 0) from by rw [HRF.out, hw, if_pos ⟨hm, rfl⟩])
      have HXO := Aside0.mk (show Ok = true from by rw [HRO.out, hw, decide_eq_true hm]; rfl)
      have HWD := Aside0.mk ((mayWord_some st lp).trans (by rw [hw]))
      have HSO := Aside0.mk (HM.out hm)
      have HSB := Aside0.mk (HSUB.out hm)
      have hT : TimesS s = timesS s := by rw [HTS.out, if_pos hm]
      rw [hT] at HKT
      have hTl : (timesS s).length ≤ 8 := by rw [len_times]; exact HSO.out.2.2.1
      have HTL := Aside0.mk hTl
      generalize timesS s = T at *
      obtain ⟨n, hn⟩ : ∃ n, n = st.length + lp.length := ⟨_, rfl⟩
      have HN := Aside0.mk hn
      have hmk := make_ints n (by omega)
      have hnb : n ≤ 30000 := by omega
      have hn0 : 0 < n := by omega
      have hns : st.length < n := by omega
      clear hw hT hTl hn
      go_enter Try.func11, Try.ntmps11
      go_upto_region 1 with fail
      rw [← hW2]
      clear hW2
      go_upto_region 3 with (first | (go_at_call 14; refine HMAY.out.mono ?_; rintro e w3 ⟨rfl, hB3⟩; have HB3 := Aside0.mk hB3; have HBX3 := Aside0.mk ((hB3.block _ (blk_lt HBX2.out)).trans HBX2.out); have HBY3 := Aside0.mk ((hB3.block _ (blk_lt HBX1.out)).trans HBX1.out); have y0 := (blk_cell HBX3.out 0).trans rfl; have y1 := (blk_cell HBX3.out 1).trans rfl; clear hB3) | (go_at_call 28; refine (formula_MayWord.calls A1 c1 st A2 c2 lp true _ (Kd.C_below HC1.out HB3.out) hc1 (Kd.C_below HC2.out HB3.out) hc2 HWD.out).mono ?_; rintro e w4 ⟨rfl, hB4⟩; have HB4 := Aside0.mk (HB3.out.trans (hB4.mono HB3.out.size)); have HBX4 := Aside0.mk ((hB4.block _ (blk_lt HBX3.out)).trans HBX3.out); have HBY4 := Aside0.mk ((hB4.block _ (blk_lt HBY3.out)).trans HBY3.out); clear hB4))
      have z0 : w4.cell? ⟨w.heap.size + 1, 0, none⟩ = some (.slice A1 st.length c1) := (blk_cell HBX4.out 0).trans rfl
      have z1 : w4.cell? ⟨w.heap.size + 1, 1, none⟩ = some (.slice A2 lp.length c2) := (blk_cell HBX4.out 1).trans rfl
      go_cut [6] (fun v6 wx => v6 = .int .i64 (n : Int) ∧ wx = w4)
      case first =>
        go_wp2
        go_meet
        exact ⟨by rw [HN.out]; rfl, rfl⟩
      case rest =>
        obtain ⟨rfl, hwc⟩ := hcut
        rw [hwc]
        clear hwc wc z0 z1
        go_upto_region 6 with fail
        obtain ⟨g, hg⟩ : ∃ g, g = w4.heap.size := ⟨_, rfl⟩
        obtain ⟨W5, hW5⟩ : ∃ W5, W5 = w4.alloc (.cells (intsOf (List.replicate n 0)).toArray 3) := ⟨_, rfl⟩
        have hB5 : Below w4.heap.size w4 W5 := by rw [hW5]; exact below_alloc (Below.refl _ _) _
        have hG5 : IRow W5 g (List.replicate n 0) := by rw [hW5, hg]; exact heap_alloc_new w4 _
        have hg2 : W2.heap.size ≤ g := by rw [hg]; exact HB4.out.size
        have hz5 : W5.heap.size = g + 1 := by rw [hW5, hg]; simp
        rw [← hW5, ← hg]
        have HB5 := Aside0.mk (HB4.out.trans (hB5.mono HB4.out.size))
        have HBX5 := Aside0.mk ((hB5.block _ (blk_lt HBX4.out)).trans HBX4.out)
        have HBY5 := Aside0.mk ((hB5.block _ (blk_lt HBY4.out)).trans HBY4.out)
        have HG5 := Aside0.mk hG5
        have HG2 := Aside0.mk hg2
        have HZ5 := Aside0.mk hz5
        have z0 : W5.cell? ⟨w.heap.size, 0, none⟩ = some (.int .i64 s.f0) := (blk_cell HBY5.out 0).trans rfl
        have z1 : W5.cell? ⟨w.heap.size, 1, none⟩ = some (.int .i64 s.f1) := (blk_cell HBY5.out 1).trans rfl
        have z2 : W5.cell? ⟨w.heap.size, 2, none⟩ = some (.slice A s.f2.length cp) := (blk_cell HBY5.out 2).trans rfl
        clear hW5 hg hB5 hG5 hg2 hz5 hmk
        go_wp2_with (go_at_call 25; refine (formula_Times.calls kt s.f0 s.f1 A cp s.f2 T _ (Kd.C_below HCF.out HB5.out) hc HKT.out).mono ?_; rintro e w6 ⟨v6, rfl, hN6, hB6⟩; obtain ⟨A6, c6, e6⟩ := Kd.N_slice hN6; subst e6; have HN6 := Aside0.mk (Kd.C_kept_ownV (base := 0) (S := fun k => k = g) (Kd.N_V hN6) (fun k hk e => by have := HZ5.out; omega)); have HB6 := Aside0.mk (HB5.out.trans (hB6.mono HB5.out.size)); have HG6 := Aside0.mk (show IRow w6 g (List.replicate n 0) from (hB6.block _ (blk_lt HG5.out)).trans HG5.out); have HBX6 := Aside0.mk ((hB6.block _ (blk_lt HBX5.out)).trans HBX5.out); clear hN6 hB6)
        go_loopg [34] T.length (fun kq v34 w' => ∃ (k : Nat) (out : List Int), k + kq = T.length ∧ v34 = .int .i64 k ∧ out.length = n ∧ Aside0 (runL st lp (T.drop k) k out = R) ∧ Aside0 (IRow w' g out) ∧ Aside0 (Below W2.heap.size W2 w') ∧ Aside0 (Kept w6 w' (fun k => k = g)))
        case atStart => exact ⟨0, List.replicate n 0, by omega, rfl, by simp, ⟨by rw [HX.out, HN.out]; rfl⟩, HG6, HB6, ⟨Kept.refl _ _⟩⟩
        case round =>
          obtain ⟨k, out, hk, rfl, hol, HRL, HGo, HBo, HKo⟩ := hrel
          have HK := Aside0.mk hk
          clear hk
          by_cases hlt : k < T.length
          · obtain ⟨ad, A3, c3, e0, hx0, hx1, hx2, hl3, hk3⟩ := kid_at (HN6.out wr HKo.out) (Below.refl _ _) k hlt hlt
            cases e0
            have HK3 := Aside0.mk hk3
            have HL3 := Aside0.mk hl3
            have HTM := Aside0.mk (HSB.out _ (List.getElem_mem hlt))
            have HRS := Aside0.mk (show runL st lp (T.drop (k + 1)) (k + 1) (runRow (rowF (headT (T[k]'hlt)) st lp) n st.length k out) = R from by rw [← HRL.out, List.drop_eq_getElem_cons hlt, runL, HN.out])
            generalize T[k]'hlt = t at *
            clear hk3 hl3
            have hk8 : k < 8 := by have := HTL.out; omega
            go_upto_if 41 with fail
            go_cut [] (fun wx => ∃ A4 c4, Aside0 (wx.heap[wr.heap.size]? = some (.cells #[.int .i64 (headT t).f0, .int .i64 (headT t).f1, .slice A4 (headT t).f2.length c4] 24 (0, 0))) ∧ Aside0 (Kd.C k24 wx A4 (headT t).f2.length (headT t).f2) ∧ Aside0 ((headT t).f2.length ≤ c4) ∧ Aside0 (Below wr.heap.size wr wx))
            case first =>
              by_cases h6 : t.f0 = 6
              · have h6b : (t.f0 == 6) = true := beq_iff_eq.2 h6
                have hl0 := next6 HTM.out h6
                obtain ⟨ad2, A5, c5, e0, hy0, hy1, hy2, hl5, hk5⟩ := kid_at HK3.out (Below.refl _ _) 0 hl0 hl0
                subst e0
                have e0 : ad2.add (0 * 3) = ad2 := by cases ad2; simp [Addr.add]
                rw [e0] at hy0 hy1 hy2
                have hn0 := World.new_ne wr _ hy0
                have hlt2 := World.block_lt_of_cell? _ _ hy0
                have hh : headT t = t.f2[0]'hl0 := by unfold headT; rw [if_pos h6, List.getD_eq_getElem?_getD, List.getElem?_eq_getElem hl0]; rfl
                have HH := Aside0.mk hh
                have HK5 := Aside0.mk hk5
                have HL5 := Aside0.mk hl5
                clear hk5 hl5 hh h6
                go_wp2
                go_meet
                exact ⟨A5, c5, ⟨by rw [HH.out]; exact heap_alloc_new wr _⟩, ⟨by rw [HH.out]; exact Kd.C_alloc HK5.out _⟩, ⟨by rw [HH.out]; exact HL5.out⟩, ⟨below_alloc (Below.refl _ _) _⟩⟩
              · have h6b : (t.f0 == 6) = false := beq_eq_false_iff_ne.2 h6
                have hh : headT t = t := by unfold headT; rw [if_neg h6]
                have HH := Aside0.mk hh
                clear hh
                go_wp2
                go_meet
                exact ⟨A3, c3, ⟨by rw [HH.out]; exact heap_alloc_new wr _⟩, ⟨by rw [HH.out]; exact Kd.C_alloc HK3.out _⟩, ⟨by rw [HH.out]; exact HL3.out⟩, ⟨below_alloc (Below.refl _ _) _⟩⟩
            case rest =>
              obtain ⟨A4, c4, HBX, HC4, HL4, HBW⟩ := hcut
              have hHM := head_may HTM.out
              generalize headT t = h at *
              have y0 : wc.cell? ⟨wr.heap.size, 0, none⟩ = some (.int .i64 h.f0) := (blk_cell HBX.out 0).trans rfl
              have y1 : wc.cell? ⟨wr.heap.size, 1, none⟩ = some (.int .i64 h.f1) := (blk_cell HBX.out 1).trans rfl
              have y2 : wc.cell? ⟨wr.heap.size, 2, none⟩ = some (.slice A4 h.f2.length c4) := (blk_cell HBX.out 2).trans rfl
              have HBc := Aside0.mk (HBo.out.trans (HBW.out.mono HBo.out.size))
              have HBXl := Aside0.mk ((HBc.out.block _ (blk_lt HBX2.out)).trans HBX2.out)
              have z0 : wc.cell? ⟨w.heap.size + 1, 0, none⟩ = some (.slice A1 st.length c1) := (blk_cell HBXl.out 0).trans rfl
              have z1 : wc.cell? ⟨w.heap.size + 1, 1, none⟩ = some (.slice A2 lp.length c2) := (blk_cell HBXl.out 1).trans rfl
              have HROW := Aside0.mk (Row_calls h st lp A4 c4 A1 A2 c1 c2 wc HC4.out HL4.out (Kd.C_below HC1.out HBc.out) hc1 (Kd.C_below HC2.out HBc.out) hc2)
              have hrl := len_rowF hHM HWT.out
              rw [← HN.out] at hrl
              have HRLN := Aside0.mk hrl
              generalize rowF h st lp = row at *
              have HGc := Aside0.mk (show IRow wc g out from (HBW.out.block _ (blk_lt HGo.out)).trans HGo.out)
              have HKc := Aside0.mk (HKo.out.below HBW.out)
              clear hHM hrl
              go_wp2_with (go_at_call 24; refine HROW.out.mono ?_; rintro e w8 ⟨v8, rfl, hR8, hB8⟩; obtain ⟨A8, c8, e8⟩ := Kd.R_slice hR8; subst e8; have HR8 := Aside0.mk (Kd.C_kept_own (S := fun k => k = g) (Kd.R_mono (Kd.R_bound hR8) (ok' := fun k => wc.heap.size ≤ k) (fun k hk => hk.2.1)) (fun k hk e => by have := blk_lt HGc.out; omega)); have HB8 := Aside0.mk (HBc.out.trans (hB8.mono HBc.out.size)); have HG8 := Aside0.mk (show IRow w8 g out from (hB8.block _ (blk_lt HGc.out)).trans HGc.out); have HK8 := Aside0.mk (HKc.out.below hB8); clear hR8 hB8; rw [HRLN.out])
              have hst2 : st.length ≤ 9223372036854775807 := by omega
              go_loopg [52] n (fun kq v52 w' => ∃ (i : Nat), i + kq = n ∧ v52 = .int .i64 i ∧ Aside0 (IRow w' g (half row n st.length k out i)) ∧ Aside0 (Below W2.heap.size W2 w') ∧ Aside0 (Kept w8 w' (fun k => k = g)))
              case atStart => exact ⟨0, by omega, rfl, ⟨by simpa [half] using HG8.out⟩, HB8, ⟨Kept.refl _ _⟩⟩
              case round =>
                obtain ⟨i, hi, rfl, HGi, HBi, HKi⟩ := hrel
                have HI := Aside0.mk hi
                clear hi
                by_cases hin : i < n
                · have hq : nextS n st.length i < n := nextS_lt hns
                  have hre := Kd.reads_of_C (d := false) (HR8.out wr HKi.out)
                  obtain ⟨ad8, e8, hcell⟩ := hre.2.2 (by rw [HRLN.out]; omega)
                  subst e8
                  have hx := hcell (nextS n st.length i) (by rw [HRLN.out]; exact hq)
                  have hbl := Aside0.mk ((HBi.out.block _ (blk_lt HBX2.out)).trans HBX2.out)
                  have l0 : wr.cell? ⟨w.heap.size + 1, 0, none⟩ = some (.slice A1 st.length c1) := (blk_cell hbl.out 0).trans rfl
                  have hlen : (half row n st.length k out i).length = n := half_len hol (by omega)
                  have hcx := irow_cell HGi.out (i := i) (by omega)
                  have hfx := blk_frozen HGi.out i
                  have HGET := Aside0.mk (half_get (row := row) (b := st.length) (k := k) hol hin)
                  rw [HGET.out] at hcx
                  have HSTEP := Aside0.mk (half_step (row := row) (b := st.length) (k := k) hol hin)
                  have HSAME := Aside0.mk (half_same (row := row) (b := st.length) (k := k) hol hin)
                  have HAT := Aside0.mk (show runAt row n st.length k out i = if row.getD (nextS n st.length i) false = true then orBit (out.getD i 0) k else out.getD i 0 from rfl)
                  have hnx : nextS n st.length i = if i + 1 < n then i + 1 else st.length := rfl
                  generalize row.getD (nextS n st.length i) false = x at *
                  generalize out.getD i 0 = o at *
                  clear hcell hre hlen
                  obtain ⟨q, hqq⟩ : ∃ q, q = nextS n st.length i := ⟨_, rfl⟩
                  rw [← hqq] at hx hq hnx
                  have HNX := Aside0.mk hnx
                  clear hnx hqq
                  go_upto_if 59 with fail
                  go_cut [13] (fun v13 wx => v13 = .int .i64 ((q : Nat) : Int) ∧ wx = wr)
                  case first =>
                    by_cases hie : i + 1 = n
                    · have HQ := Aside0.mk (show q = st.length from by rw [HNX.out, if_neg (by omega)])
                      have hib : (((i : Int) + 1) == (n : Int)) = true := beq_iff_eq.2 (by omega)
                      clear hie
                      go_wp2
                      go_meet
                      exact ⟨by first | (rw [HQ.out]; done) | (rw [HQ.out]; rfl), rfl⟩
                    · have HQ := Aside0.mk (show q = i + 1 from by rw [HNX.out, if_pos (by omega)])
                      have hib : (((i : Int) + 1) == (n : Int)) = false := beq_eq_false_iff_ne.2 (by omega)
                      clear hie
                      go_wp2
                      go_meet
                      exact ⟨by first | (rw [HQ.out]; done) | (rw [HQ.out]; rfl), rfl⟩
                  case rest =>
                    obtain ⟨rfl, hwc⟩ := hcut
                    rw [hwc]
                    clear hwc wc
                    cases x with
                    | false =>
                      have HSM := Aside0.mk (HSAME.out rfl)
                      go_wp2
                      go_roundg (n - (i + 1))
                      case measure => have := HI.out; omega
                      case rel => exact ⟨i + 1, by omega, by go_num, ⟨by rw [← HSM.out]; exact HGi.out⟩, HBi, HKi⟩
                    | true =>
                      go_wp2
                      go_region_law (fail)
                      all_goals (
                        go_wp2
                        go_roundg (n - (i + 1))
                        case measure => have := HI.out; omega
                        case rel => exact ⟨i + 1, by omega, by go_num, ⟨by rw [← HSTEP.out, HAT.out]; exact irow_set HGi.out i (orBit o k)⟩, ⟨below_drew1 (HBi.out.setCell HG2.out _)⟩, ⟨(HKi.out.setCell (.inl rfl) _).drew⟩⟩)
                · have hin2 : i = n := by have := HI.out; omega
                  have hhalf : half row n st.length k out i = runRow row n st.length k out := by unfold half; rw [hin2, List.take_of_length_le (by rw [len_runRow]; omega), List.drop_eq_nil_of_le (by omega), List.append_nil]
                  have HHALF := Aside0.mk hhalf
                  have HIN2 := Aside0.mk hin2
                  clear hhalf hin2
                  go_wp2
                  go_roundg (T.length - (k + 1))
                  case measure => have := HK.out; omega
                  case rel => exact ⟨k + 1, runRow row n st.length k out, by omega, by go_num, len_runRow _ _ _ _ _, HRS, ⟨by rw [← HHALF.out]; exact HGi.out⟩, HBi, ⟨HK8.out.then_ HKi.out (fun _ h => .inl h)⟩⟩
          · go_wp2
            go_ret2
            have hfin : out = R := by rw [← HRL.out, List.drop_eq_nil_of_le (by omega)]; rfl
            exact ⟨_, by rw [HXO.out]; rfl, by rw [← hfin]; exact irow_R HGo.out hol (Nat.le_trans HB2.out.size HG2.out) (by omega), HB2.out.trans (HBo.out.mono HB2.out.size)⟩
  · have em : (mv != 0) = true := by simpa using hm
    have HX := Aside0.mk (show R = [] from by rw [HRF.out, if_neg (fun h => hm h.1)])
    have HXO := Aside0.mk (show Ok = false from by rw [HRO.out, decide_eq_false hm]; rfl)
    go_enter Try.func11, Try.ntmps11
    go_upto_region 1 with fail
    rw [← hW2]
    clear hW2
    go_wp2_with (go_at_call 14; refine HMAY.out.mono ?_; rintro e w3 ⟨rfl, hB3⟩; have HB3 := Aside0.mk hB3; clear hB3)
    go_ret2
    exact ⟨_, by rw [HXO.out]; rfl, by rw [HX.out]; exact Kd.R_nil _ _ _ _ _, HB2.out.trans (HB3.out.mono HB2.out.size)⟩
def tableau_Run.f (a0_0 : Int) (a0_1 : Int) (l0_2 : List S24) (l1_0 : List Int) (l1_1 : List Int) : Option (List Int × Bool) := some (runS ⟨a0_0, a0_1, l0_2⟩ l1_0 l1_1, runOk ⟨a0_0, a0_1, l0_2⟩ l1_0 l1_1)
theorem tableau_Run.calls (a0_0 : Int) (a0_1 : Int) (A0_2 : Option Addr) (c0_2 : Nat) (l0_2 : List S24) (A1_0 : Option Addr) (c1_0 : Nat) (l1_0 : List Int) (A1_1 : Option Addr) (c1_1 : Nat) (l1_1 : List Int) (r1 : List Int) (r2 : Bool) (w : World) (hr0_2 : Kd.C k24 w A0_2 l0_2.length l0_2) (hc0_2 : l0_2.length ≤ c0_2) (hr1_0 : Kd.C (Kd.int .u32) w A1_0 l1_0.length l1_0) (hc1_0 : l1_0.length ≤ c1_0) (hr1_1 : Kd.C (Kd.int .u32) w A1_1 l1_1.length l1_1) (hc1_1 : l1_1.length ≤ c1_1) (h : tableau_Run.f a0_0 a0_1 l0_2 l1_0 l1_1 = some (r1, r2)) :
    Calls Try.prog 11 #[.agg #[.int .i64 a0_0, .int .i64 a0_1, .slice A0_2 l0_2.length c0_2], .agg #[.slice A1_0 l1_0.length c1_0, .slice A1_1 l1_1.length c1_1]] w fun e w' => ∃ v1_ : Value, e = .returned (.tuple #[v1_, .bool r2]) ∧ Kd.R (Kd.int .i64) 3 w' w.heap.size (fun _ => True) v1_ r1 ∧ Below w.heap.size w w' := by
  obtain ⟨rfl, rfl⟩ := Prod.mk.inj (Option.some.inj h)
  exact Run_calls ⟨a0_0, a0_1, l0_2⟩ l1_0 l1_1 A0_2 c0_2 A1_0 A1_1 c1_0 c1_1 w hr0_2 hc0_2 hr1_0 hc1_0 hr1_1 hc1_1
end Go.Proofs.Ytegaicoddnmemaa.X

namespace Go.Proofs.Ytegaicoddnmemaa.X
open Go.RowKit Go.Proofs.YtegaicoddnmemaaW.PrintWords Go.Proofs.YtegaicoddnmemaaW.PrintLast Go.Proofs.YtegaicoddnmemaaW.PrintMore
open Go.Proofs.Ytegaicoddnmemaa.P Go.Proofs.Ytegaicoddnmemaa.Evx
set_option linter.unusedSimpArgs false
set_option linter.unusedVariables false
def atomS (n : Int) : S24 := ⟨2, n, []⟩
def F0 : S24 := ⟨7, 0, [atomS 0, atomS 1]⟩
set_option maxHeartbeats 800000 in
theorem atom_calls (n : Int) (w : World) : Calls Try.prog 27 #[.int .i64 n] w fun e w' => e = .returned (.agg #[.int .i64 2, .int .i64 n, .slice none 0 0]) ∧ Below w.heap.size w w' := by
  have huF := Try.underlying24
  go_enter Try.func27, Try.ntmps27
  go_wp2
  exact bodyPost_ret (v := .agg #[.int .i64 2, .int .i64 n, .slice none 0 0]) (by simp [results, Try.results27, go_sem]) rfl ⟨rfl, below_alloc (Below.refl _ _) _⟩
theorem run_F0 : runS F0 [1] [2, 0] = [1, 0, 1] := by decide +kernel
theorem ok_F0 : runOk F0 [1] [2, 0] = true := by decide +kernel
theorem size_F0 : sizeS F0 = 2 := by decide +kernel
theorem val_F0 : valueF F0 0 2 = true := by decide +kernel
theorem val_F1 : valueF F0 0 1 = false := by decide +kernel
/-- Two formulas in a block. -/
theorem C_two {w : World} {g : Nat} {a b : S24} (ha : a.f2 = []) (hb : b.f2 = []) (h : w.heap[g]? = some (.cells #[.int .i64 a.f0, .int .i64 a.f1, .slice none 0 0, .int .i64 b.f0, .int .i64 b.f1, .slice none 0 0] 24 (0, 0))) : Kd.C k24 w (some ⟨g, 0, none⟩) 2 [a, b] := by
  have hK : ∀ x : S24, x.f2 = [] → k24.K w x [.int .i64 x.f0, .int .i64 x.f1, .slice none 0 0] := by
    intro x hx
    have := k24_mk w x (A2 := none) (c2 := 0) (by rw [hx]; simp) (by rw [hx]; exact Kd.C_nil _ _)
    rwa [hx] at this
  refine ⟨rfl, by omega, fun _ => ⟨_, rfl, fun j p hj => ?_⟩⟩
  have hs : k24.sz = 3 := rfl
  match j, hj with
  | 0, hj =>
    obtain rfl : a = p := by simpa using hj
    refine ⟨_, rfl, hK a ha, fun i u hu => ?_⟩
    rw [hs, add_at, blk_cell h]
    match i, hu with
    | 0, hu => exact hu
    | 1, hu => exact hu
    | 2, hu => exact hu
  | 1, hj =>
    obtain rfl : b = p := by simpa using hj
    refine ⟨_, rfl, hK b hb, fun i u hu => ?_⟩
    rw [hs, add_at, blk_cell h]
    match i, hu with
    | 0, hu => exact hu
    | 1, hu => exact hu
    | 2, hu => exact hu
theorem C_u32 {w : World} {g : Nat} {l : List Int} {t : TypeId} (h : w.heap[g]? = some (.cells (l.map (Value.int .u32)).toArray t (0, 0))) (hl : 0 < l.length) (hm : l.length < 1000) : Kd.C (Kd.int .u32) w (some ⟨g, 0, none⟩) l.length l := by
  refine Kd.C_of_reads (d := 0) ⟨rfl, by omega, fun _ => ⟨_, rfl, fun j hj => ?_⟩⟩
  rw [add_at, blk_cell h]
  simp [hj]
set_option maxHeartbeats 3200000 in
set_option maxRecDepth 100000 in
theorem awake_calls (w : World) : Calls Try.prog 10 #[] w fun e w' => e = .returned (.bool true) ∧ Below w.heap.size w w' := by
  have huF := Try.underlying24
  have huW := Try.underlying27
  have huL := Try.underlying22
  have huu := Try.underlying25
  have hui := Try.underlying31
  have HBA := Aside0.mk (Below.refl w.heap.size w)
  obtain ⟨k1, hk1⟩ := (Size_ev F0).rounds
  rw [size_F0] at hk1
  have HK1 := Aside0.mk hk1
  clear hk1
  go_enter Try.func10, Try.ntmps10
  go_upto_region 2 with (go_at_call 27; refine (atom_calls _ _).mono ?_; rintro e w1 ⟨rfl, hB⟩; have HBn := Aside0.mk (HBA.out.trans (hB.mono HBA.out.size)); clear HBA hB; have HBA := HBn; clear HBn)
  obtain ⟨W3, hW3⟩ : ∃ W3, W3 = (w1.alloc (.cells #[.int .i64 2, .int .i64 0, .slice none 0 0, .int .i64 2, .int .i64 1, .slice none 0 0] 24)).alloc (.cells #[.int .i64 7, .int .i64 0, .slice (some ⟨w1.heap.size, 0, none⟩) 2 2] 24) := ⟨_, rfl⟩
  have hB3 : Below w1.heap.size w1 W3 := by rw [hW3]; exact below_alloc (below_alloc (Below.refl _ _) _) _
  have hbk : W3.heap[w1.heap.size]? = some (.cells #[.int .i64 2, .int .i64 0, .slice none 0 0, .int .i64 2, .int .i64 1, .slice none 0 0] 24 (0, 0)) := by rw [hW3]; exact blk_alloc (heap_alloc_new w1 _) _
  have hbx : W3.heap[w1.heap.size + 1]? = some (.cells #[.int .i64 7, .int .i64 0, .slice (some ⟨w1.heap.size, 0, none⟩) 2 2] 24 (0, 0)) := by
    rw [hW3]
    have := heap_alloc_new (w1.alloc (.cells #[.int .i64 2, .int .i64 0, .slice none 0 0, .int .i64 2, .int .i64 1, .slice none 0 0] 24)) (.cells #[.int .i64 7, .int .i64 0, .slice (some ⟨w1.heap.size, 0, none⟩) 2 2] 24)
    simpa using this
  have hz3 : W3.heap.size = w1.heap.size + 2 := by rw [hW3]; simp
  have HKF := Aside0.mk (fun W (h : Below W3.heap.size W3 W) => Kd.C_below (C_two (w := W3) (a := atomS 0) (b := atomS 1) rfl rfl hbk) h)
  have HBX := Aside0.mk hbx
  have HB3 := Aside0.mk (HBA.out.trans (hB3.mono HBA.out.size))
  rw [← hW3]
  obtain ⟨W5, hW5⟩ : ∃ W5, W5 = (W3.alloc (.cells #[.int .u32 1] 36)).alloc (.cells #[.int .u32 2, .int .u32 0] 36) := ⟨_, rfl⟩
  have hB5 : Below W3.heap.size W3 W5 := by rw [hW5]; exact below_alloc (below_alloc (Below.refl _ _) _) _
  have h1 : W5.heap[W3.heap.size]? = some (.cells #[.int .u32 1] 36 (0, 0)) := by rw [hW5]; exact blk_alloc (heap_alloc_new W3 _) _
  have h2 : W5.heap[W3.heap.size + 1]? = some (.cells #[.int .u32 2, .int .u32 0] 36 (0, 0)) := by
    rw [hW5]
    have := heap_alloc_new (W3.alloc (.cells #[.int .u32 1] 36)) (.cells #[.int .u32 2, .int .u32 0] 36)
    simpa using this
  have HRUN := Aside0.mk (Run_calls F0 [1] [2, 0] (some ⟨w1.heap.size, 0, none⟩) 2 (some ⟨W3.heap.size, 0, none⟩) (some ⟨W3.heap.size + 1, 0, none⟩) 1 2 W5 (HKF.out W5 hB5) (Nat.le_refl _) (C_u32 (l := [1]) h1 (by decide) (by decide)) (Nat.le_refl _) (C_u32 (l := [2, 0]) h2 (by decide) (by decide)) (Nat.le_refl _))
  rw [ok_F0, run_F0] at HRUN
  have HW5 := Aside0.mk hW5
  have HB5 := Aside0.mk hB5
  have b0 : W3.cell? ⟨w1.heap.size + 1, 0, none⟩ = some (.int .i64 7) := (blk_cell HBX.out 0).trans rfl
  have b1 : W3.cell? ⟨w1.heap.size + 1, 1, none⟩ = some (.int .i64 0) := (blk_cell HBX.out 1).trans rfl
  have b2 : W3.cell? ⟨w1.heap.size + 1, 2, none⟩ = some (.slice (some ⟨w1.heap.size, 0, none⟩) 2 2) := (blk_cell HBX.out 2).trans rfl
  have HZ3 := Aside0.mk hz3
  have HV : ∀ (lt : Int) (b : Bool), valueF F0 0 lt = b → ∀ W, Below W3.heap.size W3 W → Calls Try.prog 17 #[.agg #[.int .i64 7, .int .i64 0, .slice (some ⟨w1.heap.size, 0, none⟩) 2 2], .int .i64 0, .int .u32 lt] W fun e w' => e = .returned (.bool b) ∧ Below W.heap.size W w' := fun lt b hb W hW => hb ▸ Value_calls F0 0 lt (some ⟨w1.heap.size, 0, none⟩) 2 W (HKF.out W hW) (Nat.le_refl _)
  have HV1 := Aside0.mk (HV 2 true val_F0)
  have HV2 := Aside0.mk (HV 1 false val_F1)
  clear HV
  clear hW3 hB3 hbk hbx hW5 hB5 h1 h2 hz3
  go_wp2_with (first | (go_at_call 11; rw [← HW5.out]; refine HRUN.out.mono ?_; rintro e w6 ⟨v6, rfl, hR6, hB6⟩; obtain ⟨g6, c6, e6, _⟩ := Kd.R_form hR6 (by decide); subst e6; have HC6 := Aside0.mk (Kd.R_reads' hR6).2.2; have HB6 := Aside0.mk (HB5.out.trans (hB6.mono HB5.out.size)); clear hR6 hB6; have HBX6 := Aside0.mk ((HB6.out.block _ (blk_lt HBX.out)).trans HBX.out); have q0 := (blk_cell HBX6.out 0).trans rfl; have q1 := (blk_cell HBX6.out 1).trans rfl; have q2 := (blk_cell HBX6.out 2).trans rfl) | (go_at_call 16; refine (tableau_Size.calls k1 7 0 (some ⟨w1.heap.size, 0, none⟩) 2 [atomS 0, atomS 1] 2 _ (HKF.out _ HB6.out) (Nat.le_refl _) HK1.out).mono ?_; rintro e w7 ⟨rfl, hB7⟩; have HB7 := Aside0.mk (HB6.out.trans (hB7.mono HB6.out.size)); have HC7 := Aside0.mk (Kd.C_below HC6.out hB7); clear hB7; have HBX7 := Aside0.mk ((HB7.out.block _ (blk_lt HBX.out)).trans HBX.out); have p0 := (blk_cell HBX7.out 0).trans rfl; have p1 := (blk_cell HBX7.out 1).trans rfl; have p2 := (blk_cell HBX7.out 2).trans rfl; have hre := (Kd.reads_of_C (d := 0) HC7.out).2.2 (by decide); obtain ⟨ad, ead, hcell⟩ := hre; cases ead; have f0 := hcell 0 (by decide); have f1 := hcell 1 (by decide); have f2 := hcell 2 (by decide); rw [add_at] at f0 f1 f2; simp only [Nat.zero_add] at f0 f1 f2; clear hcell) | (go_at_call 17; first | ((with_reducible refine (HV1.out _ HB7.out).mono ?_); rintro e w8 ⟨rfl, hB8⟩; have HB8 := Aside0.mk (HB7.out.trans (hB8.mono HB7.out.size)); clear hB8; have HBX8 := Aside0.mk ((HB8.out.block _ (blk_lt HBX.out)).trans HBX.out); have o0 := (blk_cell HBX8.out 0).trans rfl; have o1 := (blk_cell HBX8.out 1).trans rfl; have o2 := (blk_cell HBX8.out 2).trans rfl) | ((with_reducible refine (HV2.out _ HB8.out).mono ?_); rintro e w9 ⟨rfl, hB9⟩; have HB9 := Aside0.mk (HB3.out.trans ((HB8.out.trans (hB9.mono HB8.out.size)).mono HB3.out.size)); clear hB9)))
  go_ret
  exact ⟨rfl, HB9.out⟩
def parrylaw23_awake.f : Option Bool := some true
theorem parrylaw23_awake.calls (r : Bool) (w : World) (h : parrylaw23_awake.f = some r) : Calls Try.prog 10 #[] w fun e w' => e = .returned (.bool r) ∧ Below w.heap.size w w' := by
  obtain rfl := Option.some.inj h
  exact awake_calls w
end Go.Proofs.Ytegaicoddnmemaa.X

namespace Go.Proofs.Ytegaicoddnmemaa.X
open Go.RowKit Go.Proofs.YtegaicoddnmemaaW.PrintWords Go.Proofs.YtegaicoddnmemaaW.PrintMore
set_option linter.unusedVariables false
set_option linter.unusedSimpArgs false
/-- The value at place i, d places ahead of the end, where v stands behind the end. -/
def pvd (f : Nat → Bool → Bool) (v : Bool) : Nat → Nat → Bool
  | _, 0 => v
  | i, d + 1 => f i (pvd f v (i + 1) d)
theorem getD_set (l : List Bool) (i j : Nat) (x : Bool) (hi : i < l.length) : (l.set i x).getD j false = if j = i then x else l.getD j false := by
  rw [List.getD_eq_getElem?_getD, List.getElem?_set, List.getD_eq_getElem?_getD]
  by_cases h : i = j
  · subst h
    rw [if_pos rfl, if_pos rfl, if_pos hi]; rfl
  · rw [if_neg h, if_neg (fun e => h e.symm)]
theorem pass_spec (f : Nat → Bool → Bool) (n b : Nat) (v : Bool) : ∀ (j : Nat) (out : List Bool), j ≤ n → b < n → out.length = n → (∀ i, j ≤ i → i < n → out.getD i false = pvd f v i (n - i)) → (j = n → out.getD b false = v) → ∀ i, i < n → (passD f n b j out).getD i false = pvd f v i (n - i)
  | 0, out, _, _, _, h, _, i, hi => by rw [passD]; exact h i (Nat.zero_le _) hi
  | j + 1, out, hj, hb, hl, h, hv, i, hi => by
    rw [passD]
    have hx : f j (out.getD (nextS n b j) false) = pvd f v j (n - j) := by
      unfold nextS
      by_cases hlt : j + 1 < n
      · rw [if_pos hlt, h (j + 1) (Nat.le_refl _) hlt, show n - j = (n - (j + 1)) + 1 by omega]; rfl
      · rw [if_neg hlt, hv (by omega), show n - j = 1 by omega]; rfl
    refine pass_spec f n b v j _ (by omega) hb (by simp [hl]) (fun i' h1 h2 => ?_) (fun e => by omega) i hi
    rw [getD_set _ _ _ _ (by omega)]
    by_cases e : i' = j
    · subst e; rw [if_pos rfl]; exact hx
    · rw [if_neg e]; exact h i' (by omega) h2
theorem pass_get (f : Nat → Bool → Bool) (n b : Nat) (out : List Bool) (hb : b < n) (hl : out.length = n) (i : Nat) (hi : i < n) : (passD f n b n out).getD i false = pvd f (out.getD b false) i (n - i) :=
  pass_spec f n b _ n out (Nat.le_refl _) hb hl (fun i h1 h2 => by omega) (fun _ => rfl) i hi
theorem rep_getD (n : Nat) (x : Bool) (b : Nat) (hb : b < n) : (List.replicate n x).getD b false = x := by
  rw [List.getD_eq_getElem?_getD, List.getElem?_replicate, if_pos hb]; rfl
theorem settle_get (f : Nat → Bool → Bool) (n b : Nat) (first : Bool) (hb : b < n) (i : Nat) (hi : i < n) : (settleS f n b first).getD i false = pvd f (pvd f first b (n - b)) i (n - i) := by
  unfold settleS
  rw [pass_get f n b _ hb (by simp [len_pass]) i hi, pass_get f n b _ hb (by simp) b hb, rep_getD n first b hb]
def MonoB (f : Nat → Bool → Bool) : Prop := ∀ i, f i false = true → f i true = true
theorem pvd_mono {f : Nat → Bool → Bool} (h : MonoB f) : ∀ (d i : Nat), pvd f false i d = true → pvd f true i d = true
  | 0, i, h0 => by cases h0
  | d + 1, i, h0 => by
    simp only [pvd] at h0 ⊢
    cases h1 : pvd f false (i + 1) d with
    | true => rw [h1] at h0; rw [pvd_mono h d (i + 1) h1]; exact h0
    | false =>
      rw [h1] at h0
      cases pvd f true (i + 1) d with
      | true => exact h i h0
      | false => exact h0
theorem pvd_idem {f : Nat → Bool → Bool} (h : MonoB f) (d i : Nat) (v : Bool) : pvd f (pvd f v i d) i d = pvd f v i d := by
  have hm := pvd_mono h d i
  cases v <;> cases h1 : pvd f false i d <;> cases h2 : pvd f true i d <;> simp_all
theorem ext_getD {l m : List Bool} {n : Nat} (hl : l.length = n) (hm : m.length = n) (h : ∀ i, i < n → l.getD i false = m.getD i false) : l = m := by
  apply List.ext_getElem (by omega)
  intro i h1 h2
  have := h i (by omega)
  rwa [List.getD_eq_getElem?_getD, List.getD_eq_getElem?_getD, List.getElem?_eq_getElem h1, List.getElem?_eq_getElem h2] at this
/-- A third pass changes nothing. -/
theorem pass_settle {f : Nat → Bool → Bool} (h : MonoB f) (n b : Nat) (first : Bool) (hb : b < n) : passD f n b n (settleS f n b first) = settleS f n b first := by
  have hl : (settleS f n b first).length = n := len_settle _ _ _ _
  refine ext_getD (by rw [len_pass, hl]) hl (fun i hi => ?_)
  rw [pass_get f n b _ hb hl i hi, settle_get f n b first hb b hb, settle_get f n b first hb i hi, pvd_idem h]
/-- What does not look at the next place. -/
theorem settle_const (f : Nat → Bool) (n b : Nat) (first : Bool) (hb : b < n) : settleS (fun i _ => f i) n b first = (List.range n).map f := by
  refine ext_getD (len_settle _ _ _ _) (by simp) (fun i hi => ?_)
  rw [settle_get _ n b first hb i hi, show n - i = (n - (i + 1)) + 1 by omega]
  simp [pvd, hi]
theorem mono_const (f : Nat → Bool) : MonoB (fun i _ => f i) := fun _ h => h
theorem mono_until (p q : Nat → Bool) : MonoB (fun i nx => q i || p i && nx) := fun i h => by cases h1 : q i <;> cases h2 : p i <;> simp_all
theorem mono_release (p q : Nat → Bool) : MonoB (fun i nx => q i && (p i || nx)) := fun i h => by cases h1 : q i <;> cases h2 : p i <;> simp_all
end Go.Proofs.Ytegaicoddnmemaa.X

namespace Go.Proofs.Ytegaicoddnmemaa.X
open Go.RowKit Go.Proofs.YtegaicoddnmemaaW.PrintWords Go.Proofs.YtegaicoddnmemaaW.PrintLast Go.Proofs.YtegaicoddnmemaaW.PrintMore
open Go.Proofs.Ytegaicoddnmemaa.P Go.Proofs.Ytegaicoddnmemaa.Evx
set_option linter.unusedSimpArgs false
set_option linter.unusedVariables false
/-- What the first loop lays down. -/
def layB (ls : List Int) (op m : Int) (x y : List Bool) (i : Nat) : Bool :=
  if op = 1 then true else if op = 2 then bitS (ls.getD i 0) m else if op = 3 then !(x.getD i false) else if op = 4 then x.getD i false && y.getD i false else if op = 5 then x.getD i false || y.getD i false else if op = 8 then true else false
/-- What a pass lays down. -/
def stepB (n b : Nat) (op : Int) (x y : List Bool) (i : Nat) (nx : Bool) : Bool :=
  if op = 6 then x.getD (nextS n b i) false else if op = 7 then y.getD i false || x.getD i false && nx else y.getD i false && (x.getD i false || nx)
def layL (f : Nat → Bool) (n i : Nat) : List Bool := (List.range i).map f ++ List.replicate (n - i) false
theorem layL_len (f : Nat → Bool) {n i : Nat} (h : i ≤ n) : (layL f n i).length = n := by simp [layL]; omega
theorem layL_set (f : Nat → Bool) {n i : Nat} (h : i < n) : (layL f n i).set i (f i) = layL f n (i + 1) := by
  unfold layL
  rw [List.set_append_right _ _ (by simp), List.length_map, List.length_range, Nat.sub_self, show n - i = (n - (i + 1)) + 1 by omega, List.replicate_succ, List.set_cons_zero, List.range_succ, List.map_append, List.append_assoc]
  rfl
theorem layL_same (f : Nat → Bool) {n i : Nat} (h : i < n) (hf : f i = false) : layL f n i = layL f n (i + 1) := by
  unfold layL
  rw [show n - i = (n - (i + 1)) + 1 by omega, List.replicate_succ, List.range_succ, List.map_append, List.append_assoc]
  simp [hf]
theorem layL_all (f : Nat → Bool) (n : Nat) : layL f n n = (List.range n).map f := by simp [layL]
theorem lay_plain (ls : List Int) (b : Nat) (op m : Int) (x y : List Bool) (hb : b < ls.length) (h : op = 1 ∨ op = 2 ∨ op = 3 ∨ op = 4 ∨ op = 5) : (List.range ls.length).map (layB ls op m x y) = rowOp ls b op m x y := by
  rcases h with h | h | h | h | h <;> subst h
  · exact (settle_const (fun _ => true) ls.length b false hb).symm
  · exact (settle_const (fun i => bitS (ls.getD i 0) m) ls.length b false hb).symm
  · exact (settle_const (fun i => !(x.getD i false)) ls.length b false hb).symm
  · exact (settle_const (fun i => x.getD i false && y.getD i false) ls.length b false hb).symm
  · exact (settle_const (fun i => x.getD i false || y.getD i false) ls.length b false hb).symm
theorem passes3 {f : Nat → Bool → Bool} (h : MonoB f) (n b : Nat) (first : Bool) (hb : b < n) : passes f n b 3 (List.replicate n first) = settleS f n b first := pass_settle h n b first hb
theorem map_const {n : Nat} (v : Bool) : (List.range n).map (fun _ => v) = List.replicate n v := by
  apply List.ext_getElem (by simp)
  intro i h1 h2
  simp
theorem lay_timed (ls : List Int) (b : Nat) (op m : Int) (x y : List Bool) (hb : b < ls.length) (h : op = 6 ∨ op = 7 ∨ op = 8) : passes (stepB ls.length b op x y) ls.length b 3 ((List.range ls.length).map (layB ls op m x y)) = rowOp ls b op m x y := by
  rcases h with h | h | h <;> subst h
  · refine (congrArg (passes _ _ _ 3) (map_const false)).trans ?_
    exact passes3 (mono_const _) _ b false hb
  · refine (congrArg (passes _ _ _ 3) (map_const false)).trans ?_
    exact passes3 (mono_until _ _) _ b false hb
  · refine (congrArg (passes _ _ _ 3) (map_const true)).trans ?_
    exact passes3 (mono_release _ _) _ b true hb
theorem letter_some (st lp : List Int) (i : Nat) (h : i < st.length + lp.length) (hm : st.length + lp.length < 1000000000) : parryref22_letter.f st lp i = some ((st ++ lp).getD i 0) := by
  unfold parryref22_letter.f
  by_cases h1 : i < st.length
  · rw [if_pos (by omega), if_pos (by omega)]
    simp [rd, rdOf, List.getElem?_append_left h1]
  · have hw : wrap64 ((i : Int) - st.length) = ((i - st.length : Nat) : Int) := by rw [w64 (by omega) (by omega)]; omega
    rw [if_neg (by omega), hw, if_pos (by omega), if_pos (by omega)]
    simp [rd, rdOf, List.getElem?_append_right (Nat.le_of_not_lt h1)]
theorem rtimed_some (op : Int) : parryref22_Timed.f op = some (timedS op) := by
  unfold parryref22_Timed.f timedS
  by_cases h6 : op = 6
  · subst h6; rfl
  by_cases h7 : op = 7
  · subst h7; rfl
  rw [if_neg h6, if_neg h7]
  congr 1
  by_cases h8 : op = 8
  · subst h8; rfl
  · rw [beq_eq_false_iff_ne.2 h8]
    symm
    rw [Bool.and_eq_false_iff, decide_eq_false_iff_not, decide_eq_false_iff_not]
    omega
structure RSt (w wx : World) (fs lw : Array Value) (g : Nat) (out : List Bool) : Prop where
  c1 : wx.heap[w.heap.size]? = some (.cells fs 24 (0, 0))
  c2 : wx.heap[w.heap.size + 1]? = some (.cells lw 27 (0, 0))
  og : BRow wx g out
  bl : Below w.heap.size w wx
  hg : w.heap.size + 2 ≤ g
theorem RSt.next {w wx w' : World} {fs lw : Array Value} {g : Nat} {out : List Bool} (h : RSt w wx fs lw g out) (hB : Below wx.heap.size wx w') : RSt w w' fs lw g out :=
  ⟨(hB.block _ (blk_lt h.c1)).trans h.c1, (hB.block _ (blk_lt h.c2)).trans h.c2, (hB.block _ (blk_lt h.og)).trans h.og, h.bl.trans (hB.mono h.bl.size), h.hg⟩
def KRow (wx : World) (g n : Nat) (v : Value) (x : List Bool) : Prop := ∃ ga, v = .slice (some ⟨ga, 0, none⟩) n n ∧ g < ga ∧ BRow wx ga x ∧ x.length = n
theorem KRow.next {wx w' : World} {g n : Nat} {v : Value} {x : List Bool} (h : KRow wx g n v x) (hB : Below wx.heap.size wx w') : KRow w' g n v x := by
  obtain ⟨ga, h1, h2, h3, h4⟩ := h
  exact ⟨ga, h1, h2, (hB.block _ (blk_lt h3)).trans h3, h4⟩
theorem KRow.set_ {wx : World} {g n : Nat} {v : Value} {x : List Bool} (h : KRow wx g n v x) (i : Nat) (u : Value) : KRow (wx.setCell ⟨g, i, none⟩ u) g n v x := by
  obtain ⟨ga, h1, h2, h3, h4⟩ := h
  exact ⟨ga, h1, h2, blk_far h3 (show ga ≠ g by omega) u, h4⟩
theorem make_bools (n : Nat) (h : n < 1000000000) (W : World) : (Instr.makeSlice 45 (.int .i64 (n : Int)) (.int .i64 (n : Int))).run Try.prog W = .ok (.slice (some ⟨W.heap.size, 0, none⟩) n n) (W.alloc (.cells (boolsOf (List.replicate n false)).toArray 4)) := by
  have := print_make_of (P := Try.prog) 45 4 (.bool false) 1 Try.underlying45 infoBool rfl (by decide) n (by omega) W
  rw [this]
  congr 3
  apply Array.ext
  · simp [madeCells, boolsOf]
  · intro i h1 h2
    simp [madeCells, boolsOf, Nat.mod_one]
theorem RSt.set {w wx : World} {fs lw : Array Value} {g : Nat} {out : List Bool} (h : RSt w wx fs lw g out) (i : Nat) (v : Bool) : RSt w (wx.setCell ⟨g, i, none⟩ (.bool v)) fs lw g (out.set i v) :=
  ⟨blk_far h.c1 (show w.heap.size ≠ g by have := h.hg; omega) _, blk_far h.c2 (show w.heap.size + 1 ≠ g by have := h.hg; omega) _, (blk_set h.og i _).trans (by rw [bools_set]), h.bl.setCell (show w.heap.size ≤ g by have := h.hg; omega) _, h.hg⟩
def RefAt (st lp : List Int) (s : S24) : Prop := ∀ (n : Nat) (A : Option Addr) (cp : Nat) (A1 A2 : Option Addr) (c1 c2 : Nat) (w : World), n = st.length + lp.length → st.length < n → n < 1000000 → Kd.C (Kd.int .u32) w A1 st.length st → st.length ≤ c1 → Kd.C (Kd.int .u32) w A2 lp.length lp → lp.length ≤ c2 → Kd.C k24 w A s.f2.length s.f2 → s.f2.length ≤ cp → soundS s = true →
  Calls Try.prog 31 #[.agg #[.int .i64 s.f0, .int .i64 s.f1, .slice A s.f2.length cp], .agg #[.slice A1 st.length c1, .slice A2 lp.length c2]] w fun e w' => ∃ g, e = .returned (.slice (some ⟨g, 0, none⟩) n n) ∧ w.heap.size ≤ g ∧ BRow w' g (rowS (st ++ lp) st.length s) ∧ Below w.heap.size w w'
end Go.Proofs.Ytegaicoddnmemaa.X

