/- A part of the claim TableauOne. -/
import Derived.Test.YtegaicoddnmemaaQTableauOnea
import Derived.Test.YtegaicoddnmemaaQTableauOneb
import Derived.Test.YtegaicoddnmemaaQTableauOnec
namespace Go.Proofs.Ytegaicoddnmemaa.X
open Go.RowKit Go.Proofs.YtegaicoddnmemaaW.PrintWords Go.Proofs.YtegaicoddnmemaaW.PrintLast Go.Proofs.YtegaicoddnmemaaW.PrintMore
open Go.Proofs.Ytegaicoddnmemaa.P Go.Proofs.Ytegaicoddnmemaa.Evx
set_option linter.unusedSimpArgs false
set_option linter.unusedVariables false
def intsOf (l : List Int) : List Value := l.map (Value.int .i64)
theorem ints_get {l : List Int} {i : Nat} (h : i < l.length) : (intsOf l).toArray[i]? = some (.int .i64 (l.getD i 0)) := by simp [intsOf, h]
theorem ints_set (l : List Int) (i : Nat) (x : Int) : (intsOf l).toArray.setIfInBounds i (.int .i64 x) = (intsOf (l.set i x)).toArray := by simp [intsOf, List.map_set]
def IRow (w : World) (g : Nat) (l : List Int) : Prop := w.heap[g]? = some (.cells (intsOf l).toArray 3 (0, 0))
theorem irow_cell {w : World} {g : Nat} {l : List Int} (h : IRow w g l) {i : Nat} (hi : i < l.length) : w.cell? ⟨g, i, none⟩ = some (.int .i64 (l.getD i 0)) := by rw [blk_cell h, ints_get hi]
theorem irow_set {w : World} {g : Nat} {l : List Int} (h : IRow w g l) (i : Nat) (x : Int) : IRow (w.setCell ⟨g, i, none⟩ (.int .i64 x)) g (l.set i x) := (blk_set h i _).trans (by rw [ints_set])
theorem irow_R {w w' : World} {g n : Nat} {l : List Int} (h : IRow w' g l) (hl : l.length = n) (hg : w.heap.size ≤ g) (hn : n < 1000000000) : Kd.R (Kd.int .i64) 3 w' w.heap.size (fun _ => True) (.slice (some ⟨g, 0, none⟩) n n) l := by
  refine Kd.R_of_own ?_ (fun _ _ => trivial)
  rw [hl]
  refine ⟨by simp [encs, hl], .inr ⟨g, n, (intsOf l).toArray, rfl, hg, h, Nat.le_refl _, by simp [maxLen]; omega, by simp [intsOf, hl], ?_⟩⟩
  simp [intsOf, encs]
  rw [List.take_of_length_le (by simp [hl])]
theorem infoInt : (Try.prog.info? 3).map (fun i => (i.zero, i.size, i.bytes)) = some (some (.int .i64 0), 1, 8) := by kernel_rfl
theorem make_ints (n : Nat) (h : n < 1000000000) (W : World) : (Instr.makeSlice 31 (.int .i64 (n : Int)) (.int .i64 (n : Int))).run Try.prog W = .ok (.slice (some ⟨W.heap.size, 0, none⟩) n n) (W.alloc (.cells (intsOf (List.replicate n 0)).toArray 3)) := by
  have := print_make_of (P := Try.prog) 31 3 (.int .i64 0) 8 Try.underlying31 infoInt rfl (by decide) n (by omega) W
  rw [this]
  congr 3
  apply Array.ext
  · simp [madeCells, intsOf]
  · intro i h1 h2
    simp [madeCells, intsOf, Nat.mod_one]
/-- A row half done. -/
def half (row : List Bool) (n b k : Nat) (out : List Int) (i : Nat) : List Int := (runRow row n b k out).take i ++ out.drop i
theorem half_get {row : List Bool} {n b k : Nat} {out : List Int} {i : Nat} (hl : out.length = n) (hi : i < n) : (half row n b k out i).getD i 0 = out.getD i 0 := by
  unfold half
  rw [List.getD_eq_getElem?_getD, List.getElem?_append_right (by simp [len_runRow]; omega), List.length_take, len_runRow, Nat.min_eq_left (by omega), Nat.sub_self, List.getElem?_drop, Nat.add_zero, ← List.getD_eq_getElem?_getD]
theorem half_step {row : List Bool} {n b k : Nat} {out : List Int} {i : Nat} (hl : out.length = n) (hi : i < n) : (half row n b k out i).set i (runAt row n b k out i) = half row n b k out (i + 1) := by
  unfold half
  have h1 : ((runRow row n b k out).take i).length = i := by rw [List.length_take, len_runRow]; omega
  rw [List.set_append_right _ _ (by omega), h1, Nat.sub_self, List.drop_eq_getElem_cons (show i < out.length by omega), List.set_cons_zero, List.take_succ_eq_append_getElem (by rw [len_runRow]; exact hi), List.append_assoc]
  simp [runRow]
theorem half_same {row : List Bool} {n b k : Nat} {out : List Int} {i : Nat} (hl : out.length = n) (hi : i < n) (h : row.getD (nextS n b i) false = false) : half row n b k out i = half row n b k out (i + 1) := by
  rw [← half_step hl hi]
  have h2 := half_get (row := row) (b := b) (k := k) hl hi
  have h3 : runAt row n b k out i = (half row n b k out i).getD i 0 := by unfold runAt; rw [h, h2]; rfl
  rw [h3]
  have h4 : i < (half row n b k out i).length := by unfold half; simp [len_runRow]; omega
  rw [List.getD_eq_getElem?_getD, List.getElem?_eq_getElem h4]
  simp
theorem half_len {row : List Bool} {n b k : Nat} {out : List Int} {i : Nat} (hl : out.length = n) (hi : i ≤ n) : (half row n b k out i).length = n := by unfold half; simp [len_runRow]; omega
set_option maxHeartbeats 8000000 in
set_option maxRecDepth 100000 in
theorem Run_calls (s : S24) (st lp : List Int) (A : Option Addr) (cp : Nat) (A1 A2 : Option Addr) (c1 c2 : Nat) (w : World) (hr : Kd.C k24 w A s.f2.length s.f2) (hc : s.f2.length ≤ cp) (hr1 : Kd.C (Kd.int .u32) w A1 st.length st) (hc1 : st.length ≤ c1) (hr2 : Kd.C (Kd.int .u32) w A2 lp.length lp) (hc2 : lp.length ≤ c2) :
    Calls Try.prog 11 #[.agg #[.int .i64 s.f0, .int .i64 s.f1, .slice A s.f2.length cp], .agg #[.slice A1 st.length c1, .slice A2 lp.length c2]] w fun e w' => ∃ v0_ : Value, e = .returned (.tuple #[v0_, .bool (runOk s st lp)]) ∧ Kd.R (Kd.int .i64) 3 w' w.heap.size (fun _ => True) v0_ (runS s st lp) ∧ Below w.heap.size w w' := by
  have huF := Try.underlying24
  have huL := Try.underlying22
  have huW := Try.underlying27
  have hus := Try.underlying45
  have hui := Try.underlying31
  have huu := Try.underlying25
  obtain ⟨W2, hW2⟩ : ∃ W2, W2 = (w.alloc (.cells #[.int .i64 s.f0, .int .i64 s.f1, .slice A s.f2.length cp] 24)).alloc (.cells #[.slice A1 st.length c1, .slice A2 lp.length c2] 27) := ⟨_, rfl⟩
  have hB2 : Below w.heap.size w W2 := by rw [hW2]; exact below_alloc (below_alloc (Below.refl _ _) _) _
  have hb1 : W2.heap[w.heap.size]? = some (.cells #[.int .i64 s.f0, .int .i64 s.f1, .slice A s.f2.length cp] 24 (0, 0)) := by rw [hW2]; exact blk_alloc (heap_alloc_new w _) _
  have hb2 : W2.heap[w.heap.size + 1]? = some (.cells #[.slice A1 st.length c1, .slice A2 lp.length c2] 27 (0, 0)) := by
    rw [hW2]
    have := heap_alloc_new (w.alloc (.cells #[.int .i64 s.f0, .int .i64 s.f1, .slice A s.f2.length cp] 24)) (.cells #[.slice A1 st.length c1, .slice A2 lp.length c2] 27)
    simpa using this
  have hsz2 : w.heap.size + 2 ≤ W2.heap.size := by rw [hW2]; simp
  have HMAY := Aside0.mk (May_calls s A cp W2 (Kd.C_below hr hB2) hc)
  have x0 : W2.cell? ⟨w.heap.size, 0, none⟩ = some (.int .i64 s.f0) := (blk_cell hb1 0).trans rfl
  have x1 : W2.cell? ⟨w.heap.size, 1, none⟩ = some (.int .i64 s.f1) := (blk_cell hb1 1).trans rfl
  have x2 : W2.cell? ⟨w.heap.size, 2, none⟩ = some (.slice A s.f2.length cp) := (blk_cell hb1 2).trans rfl
  have HB2 := Aside0.mk hB2
  have HBX1 := Aside0.mk hb1
  have HBX2 := Aside0.mk hb2
  have HCF := Aside0.mk (Kd.C_below hr hB2)
  have HC1 := Aside0.mk (Kd.C_below hr1 hB2)
  have HC2 := Aside0.mk (Kd.C_below hr2 hB2)
  have HRF := Aside0.mk (show runS s st lp = if mayF s = 0 ∧ wordS st lp = true then runL st lp (timesS s) 0 (List.replicate (st.length + lp.length) 0) else [] from rfl)
  have HRO := Aside0.mk (show runOk s st lp = (decide (mayF s = 0) && wordS st lp) from rfl)
  have HM := Aside0.mk (@may_zero s)
  have HSUB := Aside0.mk (fun (hm : mayF s = 0) (t : S24) (ht : t ∈ timesS s) => (times_sub s t ht).may hm)
  have HTS := Aside0.mk (show TimesS s = if mayF s = 0 then timesS s else [] from rfl)
  obtain ⟨kt, hkt⟩ := (Times_ev s).rounds
  have HKT := Aside0.mk hkt
  clear hb1 hb2 hr hr1 hr2 hB2 hkt
  generalize mayF s = mv at *
  generalize hR : runS s st lp = R at *
  generalize runOk s st lp = Ok at *
  clear hR
  by_cases hm : mv = 0
  · have em : (mv != 0) = false := by rw [hm]; rfl
    cases hw : wordS st lp with
    | false =>
      have HX := Aside0.mk (show R = [] from by rw [HRF.out, hw, if_neg (by simp)])
      have HXO := Aside0.mk (show Ok = false from by rw [HRO.out, hw, Bool.and_false])
      have HWD := Aside0.mk ((mayWord_some st lp).trans (by rw [hw]))
      clear hw
      go_enter Try.func11, Try.ntmps11
      go_upto_region 1 with fail
      rw [← hW2]
      clear hW2
      go_wp2_with (first | (go_at_call 14; refine HMAY.out.mono ?_; rintro e w3 ⟨rfl, hB3⟩; have HB3 := Aside0.mk hB3; have HBX3 := Aside0.mk ((hB3.block _ (blk_lt HBX2.out)).trans HBX2.out); have y0 := (blk_cell HBX3.out 0).trans rfl; have y1 := (blk_cell HBX3.out 1).trans rfl; clear hB3) | (go_at_call 28; refine (formula_MayWord.calls A1 c1 st A2 c2 lp false _ (Kd.C_below HC1.out HB3.out) hc1 (Kd.C_below HC2.out HB3.out) hc2 HWD.out).mono ?_; rintro e w4 ⟨rfl, hB4⟩; have HB4 := Aside0.mk hB4; clear hB4))
      go_ret2
      exact ⟨_, by rw [HXO.out]; rfl, by rw [HX.out]; exact Kd.R_nil _ _ _ _ _, (HB2.out.trans (HB3.out.mono HB2.out.size)).trans (HB4.out.mono (Nat.le_trans HB2.out.size HB3.out.size))⟩
    | true =>
      have hwp : st.length ≤ 3000 ∧ 1 ≤ lp.length ∧ lp.length ≤ 27000 := of_decide_eq_true hw
      have HWT := Aside0.mk hw
      have HX := Aside0.mk (show R = runL st lp (timesS s) 0 (List.replicate (st.length + lp.length) 0) from by rw [HRF.out, hw, if_pos ⟨hm, rfl⟩])
      have HXO := Aside0.mk (show Ok = true from by rw [HRO.out, hw, decide_eq_true hm]; rfl)
      have HWD := Aside0.mk ((mayWord_some st lp).trans (by rw [hw]))
      have HSO := Aside0.mk (HM.out hm)
      have HSB := Aside0.mk (HSUB.out hm)
      have hT : TimesS s = timesS s := by rw [HTS.out, if_pos hm]
      rw [hT] at HKT
      have hTl : (timesS s).length ≤ 8 := by rw [len_times]; exact HSO.out.2.2.1
      have HTL := Aside0.mk hTl
      generalize timesS s = T at *
      obtain ⟨n, hn⟩ : ∃ n, n = st.length + lp.length := ⟨_, rfl⟩
      have HN := Aside0.mk hn
      have hmk := make_ints n (by omega)
      have hnb : n ≤ 30000 := by omega
      have hn0 : 0 < n := by omega
      have hns : st.length < n := by omega
      clear hw hT hTl hn
      go_enter Try.func11, Try.ntmps11
      go_upto_region 1 with fail
      rw [← hW2]
      clear hW2
      go_upto_region 3 with (first | (go_at_call 14; refine HMAY.out.mono ?_; rintro e w3 ⟨rfl, hB3⟩; have HB3 := Aside0.mk hB3; have HBX3 := Aside0.mk ((hB3.block _ (blk_lt HBX2.out)).trans HBX2.out); have HBY3 := Aside0.mk ((hB3.block _ (blk_lt HBX1.out)).trans HBX1.out); have y0 := (blk_cell HBX3.out 0).trans rfl; have y1 := (blk_cell HBX3.out 1).trans rfl; clear hB3) | (go_at_call 28; refine (formula_MayWord.calls A1 c1 st A2 c2 lp true _ (Kd.C_below HC1.out HB3.out) hc1 (Kd.C_below HC2.out HB3.out) hc2 HWD.out).mono ?_; rintro e w4 ⟨rfl, hB4⟩; have HB4 := Aside0.mk (HB3.out.trans (hB4.mono HB3.out.size)); have HBX4 := Aside0.mk ((hB4.block _ (blk_lt HBX3.out)).trans HBX3.out); have HBY4 := Aside0.mk ((hB4.block _ (blk_lt HBY3.out)).trans HBY3.out); clear hB4))
      have z0 : w4.cell? ⟨w.heap.size + 1, 0, none⟩ = some (.slice A1 st.length c1) := (blk_cell HBX4.out 0).trans rfl
      have z1 : w4.cell? ⟨w.heap.size + 1, 1, none⟩ = some (.slice A2 lp.length c2) := (blk_cell HBX4.out 1).trans rfl
      go_cut [6] (fun v6 wx => v6 = .int .i64 (n : Int) ∧ wx = w4)
      case first =>
        go_wp2
        go_meet
        exact ⟨by rw [HN.out]; rfl, rfl⟩
      case rest =>
        obtain ⟨rfl, hwc⟩ := hcut
        rw [hwc]
        clear hwc wc z0 z1
        go_upto_region 6 with fail
        obtain ⟨g, hg⟩ : ∃ g, g = w4.heap.size := ⟨_, rfl⟩
        obtain ⟨W5, hW5⟩ : ∃ W5, W5 = w4.alloc (.cells (intsOf (List.replicate n 0)).toArray 3) := ⟨_, rfl⟩
        have hB5 : Below w4.heap.size w4 W5 := by rw [hW5]; exact below_alloc (Below.refl _ _) _
        have hG5 : IRow W5 g (List.replicate n 0) := by rw [hW5, hg]; exact heap_alloc_new w4 _
        have hg2 : W2.heap.size ≤ g := by rw [hg]; exact HB4.out.size
        have hz5 : W5.heap.size = g + 1 := by rw [hW5, hg]; simp
        rw [← hW5, ← hg]
        have HB5 := Aside0.mk (HB4.out.trans (hB5.mono HB4.out.size))
        have HBX5 := Aside0.mk ((hB5.block _ (blk_lt HBX4.out)).trans HBX4.out)
        have HBY5 := Aside0.mk ((hB5.block _ (blk_lt HBY4.out)).trans HBY4.out)
        have HG5 := Aside0.mk hG5
        have HG2 := Aside0.mk hg2
        have HZ5 := Aside0.mk hz5
        have z0 : W5.cell? ⟨w.heap.size, 0, none⟩ = some (.int .i64 s.f0) := (blk_cell HBY5.out 0).trans rfl
        have z1 : W5.cell? ⟨w.heap.size, 1, none⟩ = some (.int .i64 s.f1) := (blk_cell HBY5.out 1).trans rfl
        have z2 : W5.cell? ⟨w.heap.size, 2, none⟩ = some (.slice A s.f2.length cp) := (blk_cell HBY5.out 2).trans rfl
        clear hW5 hg hB5 hG5 hg2 hz5 hmk
        go_wp2_with (go_at_call 25; refine (formula_Times.calls kt s.f0 s.f1 A cp s.f2 T _ (Kd.C_below HCF.out HB5.out) hc HKT.out).mono ?_; rintro e w6 ⟨v6, rfl, hN6, hB6⟩; obtain ⟨A6, c6, e6⟩ := Kd.N_slice hN6; subst e6; have HN6 := Aside0.mk (Kd.C_kept_ownV (base := 0) (S := fun k => k = g) (Kd.N_V hN6) (fun k hk e => by have := HZ5.out; omega)); have HB6 := Aside0.mk (HB5.out.trans (hB6.mono HB5.out.size)); have HG6 := Aside0.mk (show IRow w6 g (List.replicate n 0) from (hB6.block _ (blk_lt HG5.out)).trans HG5.out); have HBX6 := Aside0.mk ((hB6.block _ (blk_lt HBX5.out)).trans HBX5.out); clear hN6 hB6)
        go_loopg [34] T.length (fun kq v34 w' => ∃ (k : Nat) (out : List Int), k + kq = T.length ∧ v34 = .int .i64 k ∧ out.length = n ∧ Aside0 (runL st lp (T.drop k) k out = R) ∧ Aside0 (IRow w' g out) ∧ Aside0 (Below W2.heap.size W2 w') ∧ Aside0 (Kept w6 w' (fun k => k = g)))
        case atStart => exact ⟨0, List.replicate n 0, by omega, rfl, by simp, ⟨by rw [HX.out, HN.out]; rfl⟩, HG6, HB6, ⟨Kept.refl _ _⟩⟩
        case round =>
          obtain ⟨k, out, hk, rfl, hol, HRL, HGo, HBo, HKo⟩ := hrel
          have HK := Aside0.mk hk
          clear hk
          by_cases hlt : k < T.length
          · obtain ⟨ad, A3, c3, e0, hx0, hx1, hx2, hl3, hk3⟩ := kid_at (HN6.out wr HKo.out) (Below.refl _ _) k hlt hlt
            cases e0
            have HK3 := Aside0.mk hk3
            have HL3 := Aside0.mk hl3
            have HTM := Aside0.mk (HSB.out _ (List.getElem_mem hlt))
            have HRS := Aside0.mk (show runL st lp (T.drop (k + 1)) (k + 1) (runRow (rowF (headT (T[k]'hlt)) st lp) n st.length k out) = R from by rw [← HRL.out, List.drop_eq_getElem_cons hlt, runL, HN.out])
            generalize T[k]'hlt = t at *
            clear hk3 hl3
            have hk8 : k < 8 := by have := HTL.out; omega
            go_upto_if 41 with fail
            go_cut [] (fun wx => ∃ A4 c4, Aside0 (wx.heap[wr.heap.size]? = some (.cells #[.int .i64 (headT t).f0, .int .i64 (headT t).f1, .slice A4 (headT t).f2.length c4] 24 (0, 0))) ∧ Aside0 (Kd.C k24 wx A4 (headT t).f2.length (headT t).f2) ∧ Aside0 ((headT t).f2.length ≤ c4) ∧ Aside0 (Below wr.heap.size wr wx))
            case first =>
              by_cases h6 : t.f0 = 6
              · have h6b : (t.f0 == 6) = true := beq_iff_eq.2 h6
                have hl0 := next6 HTM.out h6
                obtain ⟨ad2, A5, c5, e0, hy0, hy1, hy2, hl5, hk5⟩ := kid_at HK3.out (Below.refl _ _) 0 hl0 hl0
                subst e0
                have e0 : ad2.add (0 * 3) = ad2 := by cases ad2; simp [Addr.add]
                rw [e0] at hy0 hy1 hy2
                have hn0 := World.new_ne wr _ hy0
                have hlt2 := World.block_lt_of_cell? _ _ hy0
                have hh : headT t = t.f2[0]'hl0 := by unfold headT; rw [if_pos h6, List.getD_eq_getElem?_getD, List.getElem?_eq_getElem hl0]; rfl
                have HH := Aside0.mk hh
                have HK5 := Aside0.mk hk5
                have HL5 := Aside0.mk hl5
                clear hk5 hl5 hh h6
                go_wp2
                go_meet
                exact ⟨A5, c5, ⟨by rw [HH.out]; exact heap_alloc_new wr _⟩, ⟨by rw [HH.out]; exact Kd.C_alloc HK5.out _⟩, ⟨by rw [HH.out]; exact HL5.out⟩, ⟨below_alloc (Below.refl _ _) _⟩⟩
              · have h6b : (t.f0 == 6) = false := beq_eq_false_iff_ne.2 h6
                have hh : headT t = t := by unfold headT; rw [if_neg h6]
                have HH := Aside0.mk hh
                clear hh
                go_wp2
                go_meet
                exact ⟨A3, c3, ⟨by rw [HH.out]; exact heap_alloc_new wr _⟩, ⟨by rw [HH.out]; exact Kd.C_alloc HK3.out _⟩, ⟨by rw [HH.out]; exact HL3.out⟩, ⟨below_alloc (Below.refl _ _) _⟩⟩
            case rest =>
              obtain ⟨A4, c4, HBX, HC4, HL4, HBW⟩ := hcut
              have hHM := head_may HTM.out
              generalize headT t = h at *
              have y0 : wc.cell? ⟨wr.heap.size, 0, none⟩ = some (.int .i64 h.f0) := (blk_cell HBX.out 0).trans rfl
              have y1 : wc.cell? ⟨wr.heap.size, 1, none⟩ = some (.int .i64 h.f1) := (blk_cell HBX.out 1).trans rfl
              have y2 : wc.cell? ⟨wr.heap.size, 2, none⟩ = some (.slice A4 h.f2.length c4) := (blk_cell HBX.out 2).trans rfl
              have HBc := Aside0.mk (HBo.out.trans (HBW.out.mono HBo.out.size))
              have HBXl := Aside0.mk ((HBc.out.block _ (blk_lt HBX2.out)).trans HBX2.out)
              have z0 : wc.cell? ⟨w.heap.size + 1, 0, none⟩ = some (.slice A1 st.length c1) := (blk_cell HBXl.out 0).trans rfl
              have z1 : wc.cell? ⟨w.heap.size + 1, 1, none⟩ = some (.slice A2 lp.length c2) := (blk_cell HBXl.out 1).trans rfl
              have HROW := Aside0.mk (Row_calls h st lp A4 c4 A1 A2 c1 c2 wc HC4.out HL4.out (Kd.C_below HC1.out HBc.out) hc1 (Kd.C_below HC2.out HBc.out) hc2)
              have hrl := len_rowF hHM HWT.out
              rw [← HN.out] at hrl
              have HRLN := Aside0.mk hrl
              generalize rowF h st lp = row at *
              have HGc := Aside0.mk (show IRow wc g out from (HBW.out.block _ (blk_lt HGo.out)).trans HGo.out)
              have HKc := Aside0.mk (HKo.out.below HBW.out)
              clear hHM hrl
              go_wp2_with (go_at_call 24; refine HROW.out.mono ?_; rintro e w8 ⟨v8, rfl, hR8, hB8⟩; obtain ⟨A8, c8, e8⟩ := Kd.R_slice hR8; subst e8; have HR8 := Aside0.mk (Kd.C_kept_own (S := fun k => k = g) (Kd.R_mono (Kd.R_bound hR8) (ok' := fun k => wc.heap.size ≤ k) (fun k hk => hk.2.1)) (fun k hk e => by have := blk_lt HGc.out; omega)); have HB8 := Aside0.mk (HBc.out.trans (hB8.mono HBc.out.size)); have HG8 := Aside0.mk (show IRow w8 g out from (hB8.block _ (blk_lt HGc.out)).trans HGc.out); have HK8 := Aside0.mk (HKc.out.below hB8); clear hR8 hB8; rw [HRLN.out])
              have hst2 : st.length ≤ 9223372036854775807 := by omega
              go_loopg [52] n (fun kq v52 w' => ∃ (i : Nat), i + kq = n ∧ v52 = .int .i64 i ∧ Aside0 (IRow w' g (half row n st.length k out i)) ∧ Aside0 (Below W2.heap.size W2 w') ∧ Aside0 (Kept w8 w' (fun k => k = g)))
              case atStart => exact ⟨0, by omega, rfl, ⟨by simpa [half] using HG8.out⟩, HB8, ⟨Kept.refl _ _⟩⟩
              case round =>
                obtain ⟨i, hi, rfl, HGi, HBi, HKi⟩ := hrel
                have HI := Aside0.mk hi
                clear hi
                by_cases hin : i < n
                · have hq : nextS n st.length i < n := nextS_lt hns
                  have hre := Kd.reads_of_C (d := false) (HR8.out wr HKi.out)
                  obtain ⟨ad8, e8, hcell⟩ := hre.2.2 (by rw [HRLN.out]; omega)
                  subst e8
                  have hx := hcell (nextS n st.length i) (by rw [HRLN.out]; exact hq)
                  have hbl := Aside0.mk ((HBi.out.block _ (blk_lt HBX2.out)).trans HBX2.out)
                  have l0 : wr.cell? ⟨w.heap.size + 1, 0, none⟩ = some (.slice A1 st.length c1) := (blk_cell hbl.out 0).trans rfl
                  have hlen : (half row n st.length k out i).length = n := half_len hol (by omega)
                  have hcx := irow_cell HGi.out (i := i) (by omega)
                  have hfx := blk_frozen HGi.out i
                  have HGET := Aside0.mk (half_get (row := row) (b := st.length) (k := k) hol hin)
                  rw [HGET.out] at hcx
                  have HSTEP := Aside0.mk (half_step (row := row) (b := st.length) (k := k) hol hin)
                  have HSAME := Aside0.mk (half_same (row := row) (b := st.length) (k := k) hol hin)
                  have HAT := Aside0.mk (show runAt row n st.length k out i = if row.getD (nextS n st.length i) false = true then orBit (out.getD i 0) k else out.getD i 0 from rfl)
                  have hnx : nextS n st.length i = if i + 1 < n then i + 1 else st.length := rfl
                  generalize row.getD (nextS n st.length i) false = x at *
                  generalize out.getD i 0 = o at *
                  clear hcell hre hlen
                  obtain ⟨q, hqq⟩ : ∃ q, q = nextS n st.length i := ⟨_, rfl⟩
                  rw [← hqq] at hx hq hnx
                  have HNX := Aside0.mk hnx
                  clear hnx hqq
                  go_upto_if 59 with fail
                  go_cut [13] (fun v13 wx => v13 = .int .i64 ((q : Nat) : Int) ∧ wx = wr)
                  case first =>
                    by_cases hie : i + 1 = n
                    · have HQ := Aside0.mk (show q = st.length from by rw [HNX.out, if_neg (by omega)])
                      have hib : (((i : Int) + 1) == (n : Int)) = true := beq_iff_eq.2 (by omega)
                      clear hie
                      go_wp2
                      go_meet
                      exact ⟨by first | (rw [HQ.out]; done) | (rw [HQ.out]; rfl), rfl⟩
                    · have HQ := Aside0.mk (show q = i + 1 from by rw [HNX.out, if_pos (by omega)])
                      have hib : (((i : Int) + 1) == (n : Int)) = false := beq_eq_false_iff_ne.2 (by omega)
                      clear hie
                      go_wp2
                      go_meet
                      exact ⟨by first | (rw [HQ.out]; done) | (rw [HQ.out]; rfl), rfl⟩
                  case rest =>
                    obtain ⟨rfl, hwc⟩ := hcut
                    rw [hwc]
                    clear hwc wc
                    cases x with
                    | false =>
                      have HSM := Aside0.mk (HSAME.out rfl)
                      go_wp2
                      go_roundg (n - (i + 1))
                      case measure => have := HI.out; omega
                      case rel => exact ⟨i + 1, by omega, by go_num, ⟨by rw [← HSM.out]; exact HGi.out⟩, HBi, HKi⟩
                    | true =>
                      go_wp2
                      go_region_law (fail)
                      all_goals (
                        go_wp2
                        go_roundg (n - (i + 1))
                        case measure => have := HI.out; omega
                        case rel => exact ⟨i + 1, by omega, by go_num, ⟨by rw [← HSTEP.out, HAT.out]; exact irow_set HGi.out i (orBit o k)⟩, ⟨below_drew1 (HBi.out.setCell HG2.out _)⟩, ⟨(HKi.out.setCell (.inl rfl) _).drew⟩⟩)
                · have hin2 : i = n := by have := HI.out; omega
                  have hhalf : half row n st.length k out i = runRow row n st.length k out := by unfold half; rw [hin2, List.take_of_length_le (by rw [len_runRow]; omega), List.drop_eq_nil_of_le (by omega), List.append_nil]
                  have HHALF := Aside0.mk hhalf
                  have HIN2 := Aside0.mk hin2
                  clear hhalf hin2
                  go_wp2
                  go_roundg (T.length - (k + 1))
                  case measure => have := HK.out; omega
                  case rel => exact ⟨k + 1, runRow row n st.length k out, by omega, by go_num, len_runRow _ _ _ _ _, HRS, ⟨by rw [← HHALF.out]; exact HGi.out⟩, HBi, ⟨HK8.out.then_ HKi.out (fun _ h => .inl h)⟩⟩
          · go_wp2
            go_ret2
            have hfin : out = R := by rw [← HRL.out, List.drop_eq_nil_of_le (by omega)]; rfl
            exact ⟨_, by rw [HXO.out]; rfl, by rw [← hfin]; exact irow_R HGo.out hol (Nat.le_trans HB2.out.size HG2.out) (by omega), HB2.out.trans (HBo.out.mono HB2.out.size)⟩
  · have em : (mv != 0) = true := by simpa using hm
    have HX := Aside0.mk (show R = [] from by rw [HRF.out, if_neg (fun h => hm h.1)])
    have HXO := Aside0.mk (show Ok = false from by rw [HRO.out, decide_eq_false hm]; rfl)
    go_enter Try.func11, Try.ntmps11
    go_upto_region 1 with fail
    rw [← hW2]
    clear hW2
    go_wp2_with (go_at_call 14; refine HMAY.out.mono ?_; rintro e w3 ⟨rfl, hB3⟩; have HB3 := Aside0.mk hB3; clear hB3)
    go_ret2
    exact ⟨_, by rw [HXO.out]; rfl, by rw [HX.out]; exact Kd.R_nil _ _ _ _ _, HB2.out.trans (HB3.out.mono HB2.out.size)⟩
end Go.Proofs.Ytegaicoddnmemaa.X

namespace Go.Proofs.Ytegaicoddnmemaa.X
open Go.RowKit Go.Proofs.YtegaicoddnmemaaW.PrintWords Go.Proofs.YtegaicoddnmemaaW.PrintLast Go.Proofs.YtegaicoddnmemaaW.PrintMore
open Go.Proofs.Ytegaicoddnmemaa.P Go.Proofs.Ytegaicoddnmemaa.Evx
set_option linter.unusedSimpArgs false
set_option linter.unusedVariables false
def atomS (n : Int) : S24 := ⟨2, n, []⟩
def F0 : S24 := ⟨7, 0, [atomS 0, atomS 1]⟩
set_option maxHeartbeats 800000 in
theorem atom_calls (n : Int) (w : World) : Calls Try.prog 27 #[.int .i64 n] w fun e w' => e = .returned (.agg #[.int .i64 2, .int .i64 n, .slice none 0 0]) ∧ Below w.heap.size w w' := by
  have huF := Try.underlying24
  go_enter Try.func27, Try.ntmps27
  go_wp2
  exact bodyPost_ret (v := .agg #[.int .i64 2, .int .i64 n, .slice none 0 0]) (by simp [results, Try.results27, go_sem]) rfl ⟨rfl, below_alloc (Below.refl _ _) _⟩
theorem run_F0 : runS F0 [1] [2, 0] = [1, 0, 1] := by decide +kernel
theorem ok_F0 : runOk F0 [1] [2, 0] = true := by decide +kernel
theorem size_F0 : sizeS F0 = 2 := by decide +kernel
theorem val_F0 : valueF F0 0 2 = true := by decide +kernel
theorem val_F1 : valueF F0 0 1 = false := by decide +kernel
/-- Two formulas in a block. -/
theorem C_two {w : World} {g : Nat} {a b : S24} (ha : a.f2 = []) (hb : b.f2 = []) (h : w.heap[g]? = some (.cells #[.int .i64 a.f0, .int .i64 a.f1, .slice none 0 0, .int .i64 b.f0, .int .i64 b.f1, .slice none 0 0] 24 (0, 0))) : Kd.C k24 w (some ⟨g, 0, none⟩) 2 [a, b] := by
  have hK : ∀ x : S24, x.f2 = [] → k24.K w x [.int .i64 x.f0, .int .i64 x.f1, .slice none 0 0] := by
    intro x hx
    have := k24_mk w x (A2 := none) (c2 := 0) (by rw [hx]; simp) (by rw [hx]; exact Kd.C_nil _ _)
    rwa [hx] at this
  refine ⟨rfl, by omega, fun _ => ⟨_, rfl, fun j p hj => ?_⟩⟩
  have hs : k24.sz = 3 := rfl
  match j, hj with
  | 0, hj =>
    obtain rfl : a = p := by simpa using hj
    refine ⟨_, rfl, hK a ha, fun i u hu => ?_⟩
    rw [hs, add_at, blk_cell h]
    match i, hu with
    | 0, hu => exact hu
    | 1, hu => exact hu
    | 2, hu => exact hu
  | 1, hj =>
    obtain rfl : b = p := by simpa using hj
    refine ⟨_, rfl, hK b hb, fun i u hu => ?_⟩
    rw [hs, add_at, blk_cell h]
    match i, hu with
    | 0, hu => exact hu
    | 1, hu => exact hu
    | 2, hu => exact hu
theorem C_u32 {w : World} {g : Nat} {l : List Int} {t : TypeId} (h : w.heap[g]? = some (.cells (l.map (Value.int .u32)).toArray t (0, 0))) (hl : 0 < l.length) (hm : l.length < 1000) : Kd.C (Kd.int .u32) w (some ⟨g, 0, none⟩) l.length l := by
  refine Kd.C_of_reads (d := 0) ⟨rfl, by omega, fun _ => ⟨_, rfl, fun j hj => ?_⟩⟩
  rw [add_at, blk_cell h]
  simp [hj]
set_option maxHeartbeats 3200000 in
set_option maxRecDepth 100000 in
theorem awake_calls (w : World) : Calls Try.prog 10 #[] w fun e w' => e = .returned (.bool true) ∧ Below w.heap.size w w' := by
  have huF := Try.underlying24
  have huW := Try.underlying27
  have huL := Try.underlying22
  have huu := Try.underlying25
  have hui := Try.underlying31
  have HBA := Aside0.mk (Below.refl w.heap.size w)
  obtain ⟨k1, hk1⟩ := (Size_ev F0).rounds
  rw [size_F0] at hk1
  have HK1 := Aside0.mk hk1
  clear hk1
  go_enter Try.func10, Try.ntmps10
  go_upto_region 2 with (go_at_call 27; refine (atom_calls _ _).mono ?_; rintro e w1 ⟨rfl, hB⟩; have HBn := Aside0.mk (HBA.out.trans (hB.mono HBA.out.size)); clear HBA hB; have HBA := HBn; clear HBn)
  obtain ⟨W3, hW3⟩ : ∃ W3, W3 = (w1.alloc (.cells #[.int .i64 2, .int .i64 0, .slice none 0 0, .int .i64 2, .int .i64 1, .slice none 0 0] 24)).alloc (.cells #[.int .i64 7, .int .i64 0, .slice (some ⟨w1.heap.size, 0, none⟩) 2 2] 24) := ⟨_, rfl⟩
  have hB3 : Below w1.heap.size w1 W3 := by rw [hW3]; exact below_alloc (below_alloc (Below.refl _ _) _) _
  have hbk : W3.heap[w1.heap.size]? = some (.cells #[.int .i64 2, .int .i64 0, .slice none 0 0, .int .i64 2, .int .i64 1, .slice none 0 0] 24 (0, 0)) := by rw [hW3]; exact blk_alloc (heap_alloc_new w1 _) _
  have hbx : W3.heap[w1.heap.size + 1]? = some (.cells #[.int .i64 7, .int .i64 0, .slice (some ⟨w1.heap.size, 0, none⟩) 2 2] 24 (0, 0)) := by
    rw [hW3]
    have := heap_alloc_new (w1.alloc (.cells #[.int .i64 2, .int .i64 0, .slice none 0 0, .int .i64 2, .int .i64 1, .slice none 0 0] 24)) (.cells #[.int .i64 7, .int .i64 0, .slice (some ⟨w1.heap.size, 0, none⟩) 2 2] 24)
    simpa using this
  have hz3 : W3.heap.size = w1.heap.size + 2 := by rw [hW3]; simp
  have HKF := Aside0.mk (fun W (h : Below W3.heap.size W3 W) => Kd.C_below (C_two (w := W3) (a := atomS 0) (b := atomS 1) rfl rfl hbk) h)
  have HBX := Aside0.mk hbx
  have HB3 := Aside0.mk (HBA.out.trans (hB3.mono HBA.out.size))
  rw [← hW3]
  obtain ⟨W5, hW5⟩ : ∃ W5, W5 = (W3.alloc (.cells #[.int .u32 1] 36)).alloc (.cells #[.int .u32 2, .int .u32 0] 36) := ⟨_, rfl⟩
  have hB5 : Below W3.heap.size W3 W5 := by rw [hW5]; exact below_alloc (below_alloc (Below.refl _ _) _) _
  have h1 : W5.heap[W3.heap.size]? = some (.cells #[.int .u32 1] 36 (0, 0)) := by rw [hW5]; exact blk_alloc (heap_alloc_new W3 _) _
  have h2 : W5.heap[W3.heap.size + 1]? = some (.cells #[.int .u32 2, .int .u32 0] 36 (0, 0)) := by
    rw [hW5]
    have := heap_alloc_new (W3.alloc (.cells #[.int .u32 1] 36)) (.cells #[.int .u32 2, .int .u32 0] 36)
    simpa using this
  have HRUN := Aside0.mk (Run_calls F0 [1] [2, 0] (some ⟨w1.heap.size, 0, none⟩) 2 (some ⟨W3.heap.size, 0, none⟩) (some ⟨W3.heap.size + 1, 0, none⟩) 1 2 W5 (HKF.out W5 hB5) (Nat.le_refl _) (C_u32 (l := [1]) h1 (by decide) (by decide)) (Nat.le_refl _) (C_u32 (l := [2, 0]) h2 (by decide) (by decide)) (Nat.le_refl _))
  rw [ok_F0, run_F0] at HRUN
  have HW5 := Aside0.mk hW5
  have HB5 := Aside0.mk hB5
  have b0 : W3.cell? ⟨w1.heap.size + 1, 0, none⟩ = some (.int .i64 7) := (blk_cell HBX.out 0).trans rfl
  have b1 : W3.cell? ⟨w1.heap.size + 1, 1, none⟩ = some (.int .i64 0) := (blk_cell HBX.out 1).trans rfl
  have b2 : W3.cell? ⟨w1.heap.size + 1, 2, none⟩ = some (.slice (some ⟨w1.heap.size, 0, none⟩) 2 2) := (blk_cell HBX.out 2).trans rfl
  have HZ3 := Aside0.mk hz3
  have HV : ∀ (lt : Int) (b : Bool), valueF F0 0 lt = b → ∀ W, Below W3.heap.size W3 W → Calls Try.prog 17 #[.agg #[.int .i64 7, .int .i64 0, .slice (some ⟨w1.heap.size, 0, none⟩) 2 2], .int .i64 0, .int .u32 lt] W fun e w' => e = .returned (.bool b) ∧ Below W.heap.size W w' := fun lt b hb W hW => hb ▸ Value_calls F0 0 lt (some ⟨w1.heap.size, 0, none⟩) 2 W (HKF.out W hW) (Nat.le_refl _)
  have HV1 := Aside0.mk (HV 2 true val_F0)
  have HV2 := Aside0.mk (HV 1 false val_F1)
  clear HV
  clear hW3 hB3 hbk hbx hW5 hB5 h1 h2 hz3
  go_wp2_with (first | (go_at_call 11; rw [← HW5.out]; refine HRUN.out.mono ?_; rintro e w6 ⟨v6, rfl, hR6, hB6⟩; obtain ⟨g6, c6, e6, _⟩ := Kd.R_form hR6 (by decide); subst e6; have HC6 := Aside0.mk (Kd.R_reads' hR6).2.2; have HB6 := Aside0.mk (HB5.out.trans (hB6.mono HB5.out.size)); clear hR6 hB6; have HBX6 := Aside0.mk ((HB6.out.block _ (blk_lt HBX.out)).trans HBX.out); have q0 := (blk_cell HBX6.out 0).trans rfl; have q1 := (blk_cell HBX6.out 1).trans rfl; have q2 := (blk_cell HBX6.out 2).trans rfl) | (go_at_call 16; refine (tableau_Size.calls k1 7 0 (some ⟨w1.heap.size, 0, none⟩) 2 [atomS 0, atomS 1] 2 _ (HKF.out _ HB6.out) (Nat.le_refl _) HK1.out).mono ?_; rintro e w7 ⟨rfl, hB7⟩; have HB7 := Aside0.mk (HB6.out.trans (hB7.mono HB6.out.size)); have HC7 := Aside0.mk (Kd.C_below HC6.out hB7); clear hB7; have HBX7 := Aside0.mk ((HB7.out.block _ (blk_lt HBX.out)).trans HBX.out); have p0 := (blk_cell HBX7.out 0).trans rfl; have p1 := (blk_cell HBX7.out 1).trans rfl; have p2 := (blk_cell HBX7.out 2).trans rfl; have hre := (Kd.reads_of_C (d := 0) HC7.out).2.2 (by decide); obtain ⟨ad, ead, hcell⟩ := hre; cases ead; have f0 := hcell 0 (by decide); have f1 := hcell 1 (by decide); have f2 := hcell 2 (by decide); rw [add_at] at f0 f1 f2; simp only [Nat.zero_add] at f0 f1 f2; clear hcell) | (go_at_call 17; first | ((with_reducible refine (HV1.out _ HB7.out).mono ?_); rintro e w8 ⟨rfl, hB8⟩; have HB8 := Aside0.mk (HB7.out.trans (hB8.mono HB7.out.size)); clear hB8; have HBX8 := Aside0.mk ((HB8.out.block _ (blk_lt HBX.out)).trans HBX.out); have o0 := (blk_cell HBX8.out 0).trans rfl; have o1 := (blk_cell HBX8.out 1).trans rfl; have o2 := (blk_cell HBX8.out 2).trans rfl) | ((with_reducible refine (HV2.out _ HB8.out).mono ?_); rintro e w9 ⟨rfl, hB9⟩; have HB9 := Aside0.mk (HB3.out.trans ((HB8.out.trans (hB9.mono HB8.out.size)).mono HB3.out.size)); clear hB9)))
  go_ret
  exact ⟨rfl, HB9.out⟩
def parrylaw23_awake.f : Option Bool := some true
theorem parrylaw23_awake.calls (r : Bool) (w : World) (h : parrylaw23_awake.f = some r) : Calls Try.prog 10 #[] w fun e w' => e = .returned (.bool r) ∧ Below w.heap.size w w' := by
  obtain rfl := Option.some.inj h
  exact awake_calls w
end Go.Proofs.Ytegaicoddnmemaa.X

namespace Go.Proofs.Ytegaicoddnmemaa.P
open Go.RowKit Go.Proofs.YtegaicoddnmemaaW.PrintWords Go.Proofs.YtegaicoddnmemaaW.PrintLast Go.Proofs.YtegaicoddnmemaaW.PrintMore
attribute [local go_sem] max2_int min2_int max_two min_two max_three min_three max_four min_four   -- for this text's walks alone
set_option linter.unusedVariables false
set_option linter.unusedSimpArgs false

open Go.Proofs.Ytegaicoddnmemaa.X
def parrylaw23_TableauOne.l0 : Nat → Int → Int → Int → Int → Int → Int → Int → Int → Int → List (S24) → Option (Bool)
  | 0, _, _, _, _, _, _, _, _, _, _ => none
  | k + 1, x1, x2, x3, x9, x10, x40, x41, x223000, x223001, x223002 => if x41 < x40 then ((tableau_Moves.f x223000 x223001 x223002 x41 x1 x2 x3).bind fun t230 => (if t230 = true then (parrylaw23_TableauOne.l0 k x1 x2 x3 x9 (wrap64 (x10 + 1)) x40 (wrap64 (x41 + 1)) x223000 x223001 x223002) else (parrylaw23_TableauOne.l0 k x1 x2 x3 x9 x10 x40 (wrap64 (x41 + 1)) x223000 x223001 x223002))) else (if x10 = 1 then ((tableau_Moves.f x223000 x223001 x223002 (-1) x1 x2 x3).bind fun t231 => (if t231 = true then (some false) else ((tableau_Moves.f x223000 x223001 x223002 0 x1 x9 x3).bind fun t232 => (if t232 = true then (some false) else ((parrylaw23_awake.f).bind fun t233 => (some t233)))))) else (some false))
def parrylaw23_TableauOne.f (k : Nat) (a0_0 : Int) (a0_1 : Int) (l0_2 : List (S24)) (a1 : Int) (a2 : Int) (a3 : Int) : Option (Bool) := (parrylaw22_Heavy.f k a0_0 a0_1 l0_2).bind fun t223 => (if t223 > 0 then ((parrylaw23_awake.f).bind fun t224 => (some t224)) else ((tableau_Size.f k a0_0 a0_1 l0_2).bind fun t225 => (if t225 < 1 then (if t225 = 0 then ((parryref22_May.f k a0_0 a0_1 l0_2).bind fun t226 => (if t226 = 0 then (some false) else ((parrylaw23_awake.f).bind fun t227 => (some t227)))) else (some false)) else (if t225 > 256 then (if t225 = 0 then ((parryref22_May.f k a0_0 a0_1 l0_2).bind fun t228 => (if t228 = 0 then (some false) else ((parrylaw23_awake.f).bind fun t229 => (some t229)))) else (some false)) else (if (IntKind.u64.wrap (t225)) = 0 then (none) else (parrylaw23_TableauOne.l0 k a1 (wrap64 (Int.tmod (IntKind.u64.wrap (a2)) (IntKind.u64.wrap (t225)))) a3 t225 0 t225 0 a0_0 a0_1 l0_2))))))
theorem parrylaw23_TableauOne.mono_l : ∀ k, (∀ y0 y1 y2 y3 y4 y5 y6 y7 y8 y9, LeO (parrylaw23_TableauOne.l0 k y0 y1 y2 y3 y4 y5 y6 y7 y8 y9) (parrylaw23_TableauOne.l0 (k + 1) y0 y1 y2 y3 y4 y5 y6 y7 y8 y9))
  | 0 => fun _ _ _ _ _ _ _ _ _ _ r h => by simp [parrylaw23_TableauOne.l0] at h
  | k + 1 => by
    have ih0 := parrylaw23_TableauOne.mono_l k
    · intro y0 y1 y2 y3 y4 y5 y6 y7 y8 y9
      unfold parrylaw23_TableauOne.l0
      repeat' first
      | (with_reducible exact ih0 _ _ _ _ _ _ _ _ _ _)
      | (with_reducible exact parrylaw22_Heavy.mono _ _ _ _)
      | (with_reducible exact parryref22_May.mono _ _ _ _)
      | (with_reducible exact tableau_Size.mono _ _ _ _)
      | (with_reducible exact LeO.refl _)
      | (with_reducible exact LeO.none _)
      | (with_reducible refine LeO.ite ?_ ?_)
      | (with_reducible refine LeO.bind ?_ (fun _ => ?_))
      | exact ih0 _ _ _ _ _ _ _ _ _ _
      | exact parrylaw22_Heavy.mono _ _ _ _
      | exact parryref22_May.mono _ _ _ _
      | exact tableau_Size.mono _ _ _ _
      | exact LeO.none _
      | refine LeO.ite ?_ ?_
      | refine LeO.bind ?_ (fun _ => ?_)
theorem parrylaw23_TableauOne.mono : ∀ a0 a1 a2 a3 a4 a5 k, LeO (parrylaw23_TableauOne.f k a0 a1 a2 a3 a4 a5) (parrylaw23_TableauOne.f (k + 1) a0 a1 a2 a3 a4 a5) := by
  intro a0 a1 a2 a3 a4 a5 k
  have ih0 := parrylaw23_TableauOne.mono_l k
  unfold parrylaw23_TableauOne.f
  repeat' first
      | (with_reducible exact ih0 _ _ _ _ _ _ _ _ _ _)
      | (with_reducible exact parrylaw22_Heavy.mono _ _ _ _)
      | (with_reducible exact parryref22_May.mono _ _ _ _)
      | (with_reducible exact tableau_Size.mono _ _ _ _)
      | (with_reducible exact LeO.refl _)
      | (with_reducible exact LeO.none _)
      | (with_reducible refine LeO.ite ?_ ?_)
      | (with_reducible refine LeO.bind ?_ (fun _ => ?_))
      | exact ih0 _ _ _ _ _ _ _ _ _ _
      | exact parrylaw22_Heavy.mono _ _ _ _
      | exact parryref22_May.mono _ _ _ _
      | exact tableau_Size.mono _ _ _ _
      | exact LeO.none _
      | refine LeO.ite ?_ ?_
      | refine LeO.bind ?_ (fun _ => ?_)
set_option maxHeartbeats 8000000 in
set_option maxRecDepth 100000 in
theorem parrylaw23_TableauOne.calls (k : Nat) (a0_0 : Int) (a0_1 : Int) (A0_2 : Option Addr) (c0_2 : Nat) (l0_2 : List (S24)) (a1 : Int) (a2 : Int) (a3 : Int) (r : Bool) (w : World) (hr0_2 : Kd.C k24 w A0_2 l0_2.length l0_2) (hc0_2 : l0_2.length ≤ c0_2) (h : parrylaw23_TableauOne.f k a0_0 a0_1 l0_2 a1 a2 a3 = some r) (hrt : r = true) :
    Calls Try.prog 5 #[.agg #[.int .i64 a0_0, .int .i64 a0_1, .slice A0_2 l0_2.length c0_2], .int .u32 a1, .int .i64 a2, .int .u32 a3] w fun e w' => e = .returned (.bool r) ∧ Below w.heap.size w w' := by
  have hu24 := Try.underlying24
  have HR0_2 := Aside0.mk hr0_2
  have HC0_2 := Aside0.mk hc0_2
  clear hr0_2 hc0_2
  have HB := Aside0.mk (Below.refl w.heap.size w)
  have HRT := Aside0.mk hrt
  clear hrt
  have H : ((parrylaw22_Heavy.f k a0_0 a0_1 l0_2).bind fun t223 => (if t223 > 0 then ((parrylaw23_awake.f).bind fun t224 => (some t224)) else ((tableau_Size.f k a0_0 a0_1 l0_2).bind fun t225 => (if t225 < 1 then (if t225 = 0 then ((parryref22_May.f k a0_0 a0_1 l0_2).bind fun t226 => (if t226 = 0 then (some false) else ((parrylaw23_awake.f).bind fun t227 => (some t227)))) else (some false)) else (if t225 > 256 then (if t225 = 0 then ((parryref22_May.f k a0_0 a0_1 l0_2).bind fun t228 => (if t228 = 0 then (some false) else ((parrylaw23_awake.f).bind fun t229 => (some t229)))) else (some false)) else (if (IntKind.u64.wrap (t225)) = 0 then (none) else (parrylaw23_TableauOne.l0 k a1 (wrap64 (Int.tmod (IntKind.u64.wrap (a2)) (IntKind.u64.wrap (t225)))) a3 t225 0 t225 0 a0_0 a0_1 l0_2))))))) = some r := h
  clear h
  replace H := Option.bind_eq_some_iff.mp H
  obtain ⟨t223, A50, H⟩ := H
  replace H : (if t223 > 0 then ((parrylaw23_awake.f).bind fun t224 => (some t224)) else ((tableau_Size.f k a0_0 a0_1 l0_2).bind fun t225 => (if t225 < 1 then (if t225 = 0 then ((parryref22_May.f k a0_0 a0_1 l0_2).bind fun t226 => (if t226 = 0 then (some false) else ((parrylaw23_awake.f).bind fun t227 => (some t227)))) else (some false)) else (if t225 > 256 then (if t225 = 0 then ((parryref22_May.f k a0_0 a0_1 l0_2).bind fun t228 => (if t228 = 0 then (some false) else ((parrylaw23_awake.f).bind fun t229 => (some t229)))) else (some false)) else (if (IntKind.u64.wrap (t225)) = 0 then (none) else (parrylaw23_TableauOne.l0 k a1 (wrap64 (Int.tmod (IntKind.u64.wrap (a2)) (IntKind.u64.wrap (t225)))) a3 t225 0 t225 0 a0_0 a0_1 l0_2)))))) = some r := H
  have A5 := Aside0.mk A50
  clear A50
  by_cases c6 : t223 > 0
  · rw [if_pos c6] at H
    have c6b0 : decide (0 < t223) = true := decide_eq_true c6
    clear c6
    replace H := Option.bind_eq_some_iff.mp H
    obtain ⟨t224, A70, H⟩ := H
    replace H : (some t224) = some r := H
    have A7 := Aside0.mk A70
    clear A70
    obtain rfl := Option.some.inj H
    go_enter Try.func5, Try.ntmps5
    go_wp2_with (first | ((with_reducible refine gate_dst (N := 4) rfl ?_); refine box_event ?hg (N := 4) ?hd (cs := #[.int .i64 a0_0, .int .i64 a0_1, .slice A0_2 l0_2.length c0_2]) (t := 24) ?hr ?_; (case hd => rfl); (case hg => rfl); (case hr => first | (go_simp; done) | (go_simp; rfl)); intro gb222 hg w8 hbox hb; have n0_ := Aside0.mk (below_step (by repeat (first | (with_reducible first | exact HB.out | apply below_alloc | apply pw_below_drewN | apply below_drew1) | exact HB.out)) hb); have n1_ := Aside0.mk (hbox); have n2_ := Aside0.mk ((by rw [hg]; exact (below_size (by repeat (first | (with_reducible first | exact HB.out | apply below_alloc | apply pw_below_drewN | apply below_drew1) | exact HB.out))) : w.heap.size ≤ gb222)); have n3_ := Aside0.mk ((by rw [hg]; exact (below_size (by repeat (first | (with_reducible first | exact HB.out | apply below_alloc | apply pw_below_drewN | apply below_drew1) | exact HB.out))) : w.heap.size ≤ gb222)); clear HB; have HB := n0_; have BK222 := n1_; have GW222 := n2_; have GE222 := n3_; clear n0_ n1_ n2_ n3_; clear hb hbox hg; have hcz9_0 : w8.cell? ⟨gb222, 0, none⟩ = some (.int .i64 a0_0) := (blk_cell BK222.out 0).trans rfl; have hcz9_1 : w8.cell? ⟨gb222, 1, none⟩ = some (.int .i64 a0_1) := (blk_cell BK222.out 1).trans rfl; have hcz9_2 : w8.cell? ⟨gb222, 2, none⟩ = some (.slice A0_2 l0_2.length c0_2) := (blk_cell BK222.out 2).trans rfl; have hfz9_0 := blk_frozen BK222.out 0; have hfz9_1 := blk_frozen BK222.out 1; have hfz9_2 := blk_frozen BK222.out 2) | ((with_reducible refine gate_callee (f := 8) rfl ?_); refine goesL_ (some 13) rfl rfl Try.func8 (by kernel_rfl) rfl #[.agg #[.int .i64 a0_0, .int .i64 a0_1, .slice A0_2 l0_2.length c0_2]] rfl (by (try simp only [List.map_toArray, List.map_cons, List.map_nil]); first | done | rfl | (simp only [List.length_drop, List.length_take]; rfl)) ?_; (with_reducible refine (parrylaw22_Heavy.calls k a0_0 a0_1 _ _ l0_2 t223 _ ?side1 ?side2 A5.out).mono ?_); (case side1 => repeat (first | exact (Kd.C_below HR0_2.out HB.out) | (with_reducible refine Kd.C_alloc ?_ _) | (with_reducible refine Kd.C_drewN ?_ _) | (with_reducible refine Kd.C_drew ?_))); (case side2 => exact HC0_2.out); rintro e w10 ⟨rfl, hb⟩; refine ⟨_, rfl, ?_⟩; have n0_ := Aside0.mk (blk_below (g := gb222) (o := .cells #[.int .i64 a0_0, .int .i64 a0_1, .slice A0_2 l0_2.length c0_2] 24 (0, 0)) (by (with_reducible repeat (first | refine blk_drewN ?_ _ | refine blk_drew ?_ | refine blk_alloc ?_ _)); exact BK222.out) hb); have n1_ := Aside0.mk (below_step (by repeat (first | (with_reducible first | exact HB.out | apply below_alloc | apply pw_below_drewN | apply below_drew1 | refine below_set ?_ GE222.out) | exact HB.out)) hb); clear BK222; clear HB; have BK222 := n0_; have HB := n1_; clear n0_ n1_; (try clear hb); (try clear hb2); (try clear hk); (try clear hi)) | ((with_reducible refine gate_callee (f := 10) rfl ?_); refine goesL_ (some 15) rfl rfl Try.func10 (by kernel_rfl) rfl #[] rfl (by (try simp only [List.map_toArray, List.map_cons, List.map_nil]); first | done | rfl | (simp only [List.length_drop, List.length_take]; rfl)) ?_; (with_reducible refine (parrylaw23_awake.calls  t224 _ A7.out).mono ?_); rintro e w11 ⟨rfl, hb⟩; refine ⟨_, rfl, ?_⟩; have n0_ := Aside0.mk (blk_below (g := gb222) (o := .cells #[.int .i64 a0_0, .int .i64 a0_1, .slice A0_2 l0_2.length c0_2] 24 (0, 0)) (by (with_reducible repeat (first | refine blk_drewN ?_ _ | refine blk_drew ?_ | refine blk_alloc ?_ _)); exact BK222.out) hb); have n1_ := Aside0.mk (below_step (by repeat (first | (with_reducible first | exact HB.out | apply below_alloc | apply pw_below_drewN | apply below_drew1 | refine below_set ?_ GE222.out) | exact HB.out)) hb); clear BK222; clear HB; have BK222 := n0_; have HB := n1_; clear n0_ n1_; (try clear hb); (try clear hb2); (try clear hk); (try clear hi)))
    go_ret
    exact ⟨by first | rfl | (simp [errW_none, errW_some] <;> rfl) | (simp [*, errW_none, errW_some] <;> rfl), by repeat (first | (with_reducible first | exact HB.out | apply below_alloc | apply pw_below_drewN | apply below_drew1 | refine below_set ?_ GE222.out) | exact HB.out)⟩
  · rw [if_neg c6] at H
    have c6b0 : decide (0 < t223) = false := decide_eq_false c6
    clear c6
    replace H := Option.bind_eq_some_iff.mp H
    obtain ⟨t225, A120, H⟩ := H
    replace H : (if t225 < 1 then (if t225 = 0 then ((parryref22_May.f k a0_0 a0_1 l0_2).bind fun t226 => (if t226 = 0 then (some false) else ((parrylaw23_awake.f).bind fun t227 => (some t227)))) else (some false)) else (if t225 > 256 then (if t225 = 0 then ((parryref22_May.f k a0_0 a0_1 l0_2).bind fun t228 => (if t228 = 0 then (some false) else ((parrylaw23_awake.f).bind fun t229 => (some t229)))) else (some false)) else (if (IntKind.u64.wrap (t225)) = 0 then (none) else (parrylaw23_TableauOne.l0 k a1 (wrap64 (Int.tmod (IntKind.u64.wrap (a2)) (IntKind.u64.wrap (t225)))) a3 t225 0 t225 0 a0_0 a0_1 l0_2)))) = some r := H
    have A12 := Aside0.mk A120
    clear A120
    by_cases c13 : t225 < 1
    · rw [if_pos c13] at H
      have c13b0 : decide (t225 < 1) = true := decide_eq_true c13
      clear c13
      by_cases c14 : t225 = 0
      · rw [if_pos c14] at H
        have c14b0 : (t225 == 0) = true := beq_iff_eq.mpr c14
        have c14b1 : (t225 != 0) = false := bne_eq_false_iff_eq.mpr c14
        clear c14
        replace H := Option.bind_eq_some_iff.mp H
        obtain ⟨t226, A150, H⟩ := H
        replace H : (if t226 = 0 then (some false) else ((parrylaw23_awake.f).bind fun t227 => (some t227))) = some r := H
        have A15 := Aside0.mk A150
        clear A150
        by_cases c16 : t226 = 0
        · rw [if_pos c16] at H
          exact absurd ((Option.some.inj H).trans HRT.out) (by decide)
        · rw [if_neg c16] at H
          have c16b0 : (t226 == 0) = false := beq_eq_false_iff_ne.mpr c16
          have c16b1 : (t226 != 0) = true := bne_iff_ne.mpr c16
          replace H := Option.bind_eq_some_iff.mp H
          obtain ⟨t227, A170, H⟩ := H
          replace H : (some t227) = some r := H
          have A17 := Aside0.mk A170
          clear A170
          obtain rfl := Option.some.inj H
          go_enter Try.func5, Try.ntmps5
          go_wp2_with (first | ((with_reducible refine gate_dst (N := 4) rfl ?_); refine box_event ?hg (N := 4) ?hd (cs := #[.int .i64 a0_0, .int .i64 a0_1, .slice A0_2 l0_2.length c0_2]) (t := 24) ?hr ?_; (case hd => rfl); (case hg => rfl); (case hr => first | (go_simp; done) | (go_simp; rfl)); intro gb222 hg w18 hbox hb; have n0_ := Aside0.mk (below_step (by repeat (first | (with_reducible first | exact HB.out | apply below_alloc | apply pw_below_drewN | apply below_drew1) | exact HB.out)) hb); have n1_ := Aside0.mk (hbox); have n2_ := Aside0.mk ((by rw [hg]; exact (below_size (by repeat (first | (with_reducible first | exact HB.out | apply below_alloc | apply pw_below_drewN | apply below_drew1) | exact HB.out))) : w.heap.size ≤ gb222)); have n3_ := Aside0.mk ((by rw [hg]; exact (below_size (by repeat (first | (with_reducible first | exact HB.out | apply below_alloc | apply pw_below_drewN | apply below_drew1) | exact HB.out))) : w.heap.size ≤ gb222)); clear HB; have HB := n0_; have BK222 := n1_; have GW222 := n2_; have GE222 := n3_; clear n0_ n1_ n2_ n3_; clear hb hbox hg; have hcz19_0 : w18.cell? ⟨gb222, 0, none⟩ = some (.int .i64 a0_0) := (blk_cell BK222.out 0).trans rfl; have hcz19_1 : w18.cell? ⟨gb222, 1, none⟩ = some (.int .i64 a0_1) := (blk_cell BK222.out 1).trans rfl; have hcz19_2 : w18.cell? ⟨gb222, 2, none⟩ = some (.slice A0_2 l0_2.length c0_2) := (blk_cell BK222.out 2).trans rfl; have hfz19_0 := blk_frozen BK222.out 0; have hfz19_1 := blk_frozen BK222.out 1; have hfz19_2 := blk_frozen BK222.out 2) | ((with_reducible refine gate_callee (f := 8) rfl ?_); refine goesL_ (some 13) rfl rfl Try.func8 (by kernel_rfl) rfl #[.agg #[.int .i64 a0_0, .int .i64 a0_1, .slice A0_2 l0_2.length c0_2]] rfl (by (try simp only [List.map_toArray, List.map_cons, List.map_nil]); first | done | rfl | (simp only [List.length_drop, List.length_take]; rfl)) ?_; (with_reducible refine (parrylaw22_Heavy.calls k a0_0 a0_1 _ _ l0_2 t223 _ ?side1 ?side2 A5.out).mono ?_); (case side1 => repeat (first | exact (Kd.C_below HR0_2.out HB.out) | (with_reducible refine Kd.C_alloc ?_ _) | (with_reducible refine Kd.C_drewN ?_ _) | (with_reducible refine Kd.C_drew ?_))); (case side2 => exact HC0_2.out); rintro e w20 ⟨rfl, hb⟩; refine ⟨_, rfl, ?_⟩; have n0_ := Aside0.mk (blk_below (g := gb222) (o := .cells #[.int .i64 a0_0, .int .i64 a0_1, .slice A0_2 l0_2.length c0_2] 24 (0, 0)) (by (with_reducible repeat (first | refine blk_drewN ?_ _ | refine blk_drew ?_ | refine blk_alloc ?_ _)); exact BK222.out) hb); have n1_ := Aside0.mk (below_step (by repeat (first | (with_reducible first | exact HB.out | apply below_alloc | apply pw_below_drewN | apply below_drew1 | refine below_set ?_ GE222.out) | exact HB.out)) hb); clear BK222; clear HB; have BK222 := n0_; have HB := n1_; clear n0_ n1_; (try clear hb); (try clear hb2); (try clear hk); (try clear hi); have hcz21_0 : w20.cell? ⟨gb222, 0, none⟩ = some (.int .i64 a0_0) := (blk_cell BK222.out 0).trans rfl; have hcz21_1 : w20.cell? ⟨gb222, 1, none⟩ = some (.int .i64 a0_1) := (blk_cell BK222.out 1).trans rfl; have hcz21_2 : w20.cell? ⟨gb222, 2, none⟩ = some (.slice A0_2 l0_2.length c0_2) := (blk_cell BK222.out 2).trans rfl; have hfz21_0 := blk_frozen BK222.out 0; have hfz21_1 := blk_frozen BK222.out 1; have hfz21_2 := blk_frozen BK222.out 2) | ((with_reducible refine gate_callee (f := 16) rfl ?_); refine goesL_ (some 17) rfl rfl Try.func16 (by kernel_rfl) rfl #[.agg #[.int .i64 a0_0, .int .i64 a0_1, .slice A0_2 l0_2.length c0_2]] rfl (by (try simp only [List.map_toArray, List.map_cons, List.map_nil]); first | done | rfl | (simp only [List.length_drop, List.length_take]; rfl)) ?_; (with_reducible refine (tableau_Size.calls k a0_0 a0_1 _ _ l0_2 t225 _ ?side1 ?side2 A12.out).mono ?_); (case side1 => repeat (first | exact (Kd.C_below HR0_2.out HB.out) | (with_reducible refine Kd.C_alloc ?_ _) | (with_reducible refine Kd.C_drewN ?_ _) | (with_reducible refine Kd.C_drew ?_))); (case side2 => exact HC0_2.out); rintro e w22 ⟨rfl, hb⟩; refine ⟨_, rfl, ?_⟩; have n0_ := Aside0.mk (blk_below (g := gb222) (o := .cells #[.int .i64 a0_0, .int .i64 a0_1, .slice A0_2 l0_2.length c0_2] 24 (0, 0)) (by (with_reducible repeat (first | refine blk_drewN ?_ _ | refine blk_drew ?_ | refine blk_alloc ?_ _)); exact BK222.out) hb); have n1_ := Aside0.mk (below_step (by repeat (first | (with_reducible first | exact HB.out | apply below_alloc | apply pw_below_drewN | apply below_drew1 | refine below_set ?_ GE222.out) | exact HB.out)) hb); clear BK222; clear HB; have BK222 := n0_; have HB := n1_; clear n0_ n1_; (try clear hb); (try clear hb2); (try clear hk); (try clear hi); have hcz23_0 : w22.cell? ⟨gb222, 0, none⟩ = some (.int .i64 a0_0) := (blk_cell BK222.out 0).trans rfl; have hcz23_1 : w22.cell? ⟨gb222, 1, none⟩ = some (.int .i64 a0_1) := (blk_cell BK222.out 1).trans rfl; have hcz23_2 : w22.cell? ⟨gb222, 2, none⟩ = some (.slice A0_2 l0_2.length c0_2) := (blk_cell BK222.out 2).trans rfl; have hfz23_0 := blk_frozen BK222.out 0; have hfz23_1 := blk_frozen BK222.out 1; have hfz23_2 := blk_frozen BK222.out 2) | (go_at_call 15; (with_reducible refine (parryref22_May.calls k a0_0 a0_1 _ _ l0_2 t226 _ ?side1 ?side2 A15.out).mono ?_); (case side1 => repeat (first | exact (Kd.C_below HR0_2.out HB.out) | (with_reducible refine Kd.C_alloc ?_ _) | (with_reducible refine Kd.C_drewN ?_ _) | (with_reducible refine Kd.C_drew ?_))); (case side2 => exact HC0_2.out); rintro e w24 ⟨rfl, hb⟩; have n0_ := Aside0.mk (blk_below (g := gb222) (o := .cells #[.int .i64 a0_0, .int .i64 a0_1, .slice A0_2 l0_2.length c0_2] 24 (0, 0)) (by (with_reducible repeat (first | refine blk_drewN ?_ _ | refine blk_drew ?_ | refine blk_alloc ?_ _)); exact BK222.out) hb); have n1_ := Aside0.mk (below_step (by repeat (first | (with_reducible first | exact HB.out | apply below_alloc | apply pw_below_drewN | apply below_drew1 | refine below_set ?_ GE222.out) | exact HB.out)) hb); clear BK222; clear HB; have BK222 := n0_; have HB := n1_; clear n0_ n1_; (try clear hb); (try clear hb2); (try clear hk); (try clear hi)) | (go_at_call 10; (with_reducible refine (parrylaw23_awake.calls  t227 _ A17.out).mono ?_); rintro e w25 ⟨rfl, hb⟩; have n0_ := Aside0.mk (blk_below (g := gb222) (o := .cells #[.int .i64 a0_0, .int .i64 a0_1, .slice A0_2 l0_2.length c0_2] 24 (0, 0)) (by (with_reducible repeat (first | refine blk_drewN ?_ _ | refine blk_drew ?_ | refine blk_alloc ?_ _)); exact BK222.out) hb); have n1_ := Aside0.mk (below_step (by repeat (first | (with_reducible first | exact HB.out | apply below_alloc | apply pw_below_drewN | apply below_drew1 | refine below_set ?_ GE222.out) | exact HB.out)) hb); clear BK222; clear HB; have BK222 := n0_; have HB := n1_; clear n0_ n1_; (try clear hb); (try clear hb2); (try clear hk); (try clear hi)))
          go_ret
          exact ⟨by first | rfl | (simp [errW_none, errW_some] <;> rfl) | (simp [*, errW_none, errW_some] <;> rfl), by repeat (first | (with_reducible first | exact HB.out | apply below_alloc | apply pw_below_drewN | apply below_drew1 | refine below_set ?_ GE222.out) | exact HB.out)⟩
      · rw [if_neg c14] at H
        exact absurd ((Option.some.inj H).trans HRT.out) (by decide)
    · rw [if_neg c13] at H
      have c13b0 : decide (t225 < 1) = false := decide_eq_false c13
      clear c13
      by_cases c26 : t225 > 256
      · rw [if_pos c26] at H
        have c26b0 : decide (256 < t225) = true := decide_eq_true c26
        clear c26
        by_cases c27 : t225 = 0
        · rw [if_pos c27] at H
          have c27b0 : (t225 == 0) = true := beq_iff_eq.mpr c27
          have c27b1 : (t225 != 0) = false := bne_eq_false_iff_eq.mpr c27
          clear c27
          replace H := Option.bind_eq_some_iff.mp H
          obtain ⟨t228, A280, H⟩ := H
          replace H : (if t228 = 0 then (some false) else ((parrylaw23_awake.f).bind fun t229 => (some t229))) = some r := H
          have A28 := Aside0.mk A280
          clear A280
          by_cases c29 : t228 = 0
          · rw [if_pos c29] at H
            exact absurd ((Option.some.inj H).trans HRT.out) (by decide)
          · rw [if_neg c29] at H
            have c29b0 : (t228 == 0) = false := beq_eq_false_iff_ne.mpr c29
            have c29b1 : (t228 != 0) = true := bne_iff_ne.mpr c29
            replace H := Option.bind_eq_some_iff.mp H
            obtain ⟨t229, A300, H⟩ := H
            replace H : (some t229) = some r := H
            have A30 := Aside0.mk A300
            clear A300
            obtain rfl := Option.some.inj H
            go_enter Try.func5, Try.ntmps5
            go_wp2_with (first | ((with_reducible refine gate_dst (N := 4) rfl ?_); refine box_event ?hg (N := 4) ?hd (cs := #[.int .i64 a0_0, .int .i64 a0_1, .slice A0_2 l0_2.length c0_2]) (t := 24) ?hr ?_; (case hd => rfl); (case hg => rfl); (case hr => first | (go_simp; done) | (go_simp; rfl)); intro gb222 hg w31 hbox hb; have n0_ := Aside0.mk (below_step (by repeat (first | (with_reducible first | exact HB.out | apply below_alloc | apply pw_below_drewN | apply below_drew1) | exact HB.out)) hb); have n1_ := Aside0.mk (hbox); have n2_ := Aside0.mk ((by rw [hg]; exact (below_size (by repeat (first | (with_reducible first | exact HB.out | apply below_alloc | apply pw_below_drewN | apply below_drew1) | exact HB.out))) : w.heap.size ≤ gb222)); have n3_ := Aside0.mk ((by rw [hg]; exact (below_size (by repeat (first | (with_reducible first | exact HB.out | apply below_alloc | apply pw_below_drewN | apply below_drew1) | exact HB.out))) : w.heap.size ≤ gb222)); clear HB; have HB := n0_; have BK222 := n1_; have GW222 := n2_; have GE222 := n3_; clear n0_ n1_ n2_ n3_; clear hb hbox hg; have hcz32_0 : w31.cell? ⟨gb222, 0, none⟩ = some (.int .i64 a0_0) := (blk_cell BK222.out 0).trans rfl; have hcz32_1 : w31.cell? ⟨gb222, 1, none⟩ = some (.int .i64 a0_1) := (blk_cell BK222.out 1).trans rfl; have hcz32_2 : w31.cell? ⟨gb222, 2, none⟩ = some (.slice A0_2 l0_2.length c0_2) := (blk_cell BK222.out 2).trans rfl; have hfz32_0 := blk_frozen BK222.out 0; have hfz32_1 := blk_frozen BK222.out 1; have hfz32_2 := blk_frozen BK222.out 2) | ((with_reducible refine gate_callee (f := 8) rfl ?_); refine goesL_ (some 13) rfl rfl Try.func8 (by kernel_rfl) rfl #[.agg #[.int .i64 a0_0, .int .i64 a0_1, .slice A0_2 l0_2.length c0_2]] rfl (by (try simp only [List.map_toArray, List.map_cons, List.map_nil]); first | done | rfl | (simp only [List.length_drop, List.length_take]; rfl)) ?_; (with_reducible refine (parrylaw22_Heavy.calls k a0_0 a0_1 _ _ l0_2 t223 _ ?side1 ?side2 A5.out).mono ?_); (case side1 => repeat (first | exact (Kd.C_below HR0_2.out HB.out) | (with_reducible refine Kd.C_alloc ?_ _) | (with_reducible refine Kd.C_drewN ?_ _) | (with_reducible refine Kd.C_drew ?_))); (case side2 => exact HC0_2.out); rintro e w33 ⟨rfl, hb⟩; refine ⟨_, rfl, ?_⟩; have n0_ := Aside0.mk (blk_below (g := gb222) (o := .cells #[.int .i64 a0_0, .int .i64 a0_1, .slice A0_2 l0_2.length c0_2] 24 (0, 0)) (by (with_reducible repeat (first | refine blk_drewN ?_ _ | refine blk_drew ?_ | refine blk_alloc ?_ _)); exact BK222.out) hb); have n1_ := Aside0.mk (below_step (by repeat (first | (with_reducible first | exact HB.out | apply below_alloc | apply pw_below_drewN | apply below_drew1 | refine below_set ?_ GE222.out) | exact HB.out)) hb); clear BK222; clear HB; have BK222 := n0_; have HB := n1_; clear n0_ n1_; (try clear hb); (try clear hb2); (try clear hk); (try clear hi); have hcz34_0 : w33.cell? ⟨gb222, 0, none⟩ = some (.int .i64 a0_0) := (blk_cell BK222.out 0).trans rfl; have hcz34_1 : w33.cell? ⟨gb222, 1, none⟩ = some (.int .i64 a0_1) := (blk_cell BK222.out 1).trans rfl; have hcz34_2 : w33.cell? ⟨gb222, 2, none⟩ = some (.slice A0_2 l0_2.length c0_2) := (blk_cell BK222.out 2).trans rfl; have hfz34_0 := blk_frozen BK222.out 0; have hfz34_1 := blk_frozen BK222.out 1; have hfz34_2 := blk_frozen BK222.out 2) | ((with_reducible refine gate_callee (f := 16) rfl ?_); refine goesL_ (some 17) rfl rfl Try.func16 (by kernel_rfl) rfl #[.agg #[.int .i64 a0_0, .int .i64 a0_1, .slice A0_2 l0_2.length c0_2]] rfl (by (try simp only [List.map_toArray, List.map_cons, List.map_nil]); first | done | rfl | (simp only [List.length_drop, List.length_take]; rfl)) ?_; (with_reducible refine (tableau_Size.calls k a0_0 a0_1 _ _ l0_2 t225 _ ?side1 ?side2 A12.out).mono ?_); (case side1 => repeat (first | exact (Kd.C_below HR0_2.out HB.out) | (with_reducible refine Kd.C_alloc ?_ _) | (with_reducible refine Kd.C_drewN ?_ _) | (with_reducible refine Kd.C_drew ?_))); (case side2 => exact HC0_2.out); rintro e w35 ⟨rfl, hb⟩; refine ⟨_, rfl, ?_⟩; have n0_ := Aside0.mk (blk_below (g := gb222) (o := .cells #[.int .i64 a0_0, .int .i64 a0_1, .slice A0_2 l0_2.length c0_2] 24 (0, 0)) (by (with_reducible repeat (first | refine blk_drewN ?_ _ | refine blk_drew ?_ | refine blk_alloc ?_ _)); exact BK222.out) hb); have n1_ := Aside0.mk (below_step (by repeat (first | (with_reducible first | exact HB.out | apply below_alloc | apply pw_below_drewN | apply below_drew1 | refine below_set ?_ GE222.out) | exact HB.out)) hb); clear BK222; clear HB; have BK222 := n0_; have HB := n1_; clear n0_ n1_; (try clear hb); (try clear hb2); (try clear hk); (try clear hi); have hcz36_0 : w35.cell? ⟨gb222, 0, none⟩ = some (.int .i64 a0_0) := (blk_cell BK222.out 0).trans rfl; have hcz36_1 : w35.cell? ⟨gb222, 1, none⟩ = some (.int .i64 a0_1) := (blk_cell BK222.out 1).trans rfl; have hcz36_2 : w35.cell? ⟨gb222, 2, none⟩ = some (.slice A0_2 l0_2.length c0_2) := (blk_cell BK222.out 2).trans rfl; have hfz36_0 := blk_frozen BK222.out 0; have hfz36_1 := blk_frozen BK222.out 1; have hfz36_2 := blk_frozen BK222.out 2) | (go_at_call 15; (with_reducible refine (parryref22_May.calls k a0_0 a0_1 _ _ l0_2 t228 _ ?side1 ?side2 A28.out).mono ?_); (case side1 => repeat (first | exact (Kd.C_below HR0_2.out HB.out) | (with_reducible refine Kd.C_alloc ?_ _) | (with_reducible refine Kd.C_drewN ?_ _) | (with_reducible refine Kd.C_drew ?_))); (case side2 => exact HC0_2.out); rintro e w37 ⟨rfl, hb⟩; have n0_ := Aside0.mk (blk_below (g := gb222) (o := .cells #[.int .i64 a0_0, .int .i64 a0_1, .slice A0_2 l0_2.length c0_2] 24 (0, 0)) (by (with_reducible repeat (first | refine blk_drewN ?_ _ | refine blk_drew ?_ | refine blk_alloc ?_ _)); exact BK222.out) hb); have n1_ := Aside0.mk (below_step (by repeat (first | (with_reducible first | exact HB.out | apply below_alloc | apply pw_below_drewN | apply below_drew1 | refine below_set ?_ GE222.out) | exact HB.out)) hb); clear BK222; clear HB; have BK222 := n0_; have HB := n1_; clear n0_ n1_; (try clear hb); (try clear hb2); (try clear hk); (try clear hi)) | (go_at_call 10; (with_reducible refine (parrylaw23_awake.calls  t229 _ A30.out).mono ?_); rintro e w38 ⟨rfl, hb⟩; have n0_ := Aside0.mk (blk_below (g := gb222) (o := .cells #[.int .i64 a0_0, .int .i64 a0_1, .slice A0_2 l0_2.length c0_2] 24 (0, 0)) (by (with_reducible repeat (first | refine blk_drewN ?_ _ | refine blk_drew ?_ | refine blk_alloc ?_ _)); exact BK222.out) hb); have n1_ := Aside0.mk (below_step (by repeat (first | (with_reducible first | exact HB.out | apply below_alloc | apply pw_below_drewN | apply below_drew1 | refine below_set ?_ GE222.out) | exact HB.out)) hb); clear BK222; clear HB; have BK222 := n0_; have HB := n1_; clear n0_ n1_; (try clear hb); (try clear hb2); (try clear hk); (try clear hi)))
            go_ret
            exact ⟨by first | rfl | (simp [errW_none, errW_some] <;> rfl) | (simp [*, errW_none, errW_some] <;> rfl), by repeat (first | (with_reducible first | exact HB.out | apply below_alloc | apply pw_below_drewN | apply below_drew1 | refine below_set ?_ GE222.out) | exact HB.out)⟩
        · rw [if_neg c27] at H
          exact absurd ((Option.some.inj H).trans HRT.out) (by decide)
      · rw [if_neg c26] at H
        have c26b0 : decide (256 < t225) = false := decide_eq_false c26
        clear c26
        by_cases c39 : (IntKind.u64.wrap (t225)) = 0
        · rw [if_pos c39] at H
          exact absurd H (by simp)
        · rw [if_neg c39] at H
          have c39b0 : ((IntKind.u64.wrap (t225)) == 0) = false := beq_eq_false_iff_ne.mpr c39
          have c39b1 : ((IntKind.u64.wrap (t225)) != 0) = true := bne_iff_ne.mpr c39
          have H' := Aside0.mk H
          clear H
          go_enter Try.func5, Try.ntmps5
          go_wp2_with (first | ((with_reducible refine gate_dst (N := 4) rfl ?_); refine box_event ?hg (N := 4) ?hd (cs := #[.int .i64 a0_0, .int .i64 a0_1, .slice A0_2 l0_2.length c0_2]) (t := 24) ?hr ?_; (case hd => rfl); (case hg => rfl); (case hr => first | (go_simp; done) | (go_simp; rfl)); intro gb222 hg w40 hbox hb; have n0_ := Aside0.mk (below_step (by repeat (first | (with_reducible first | exact HB.out | apply below_alloc | apply pw_below_drewN | apply below_drew1) | exact HB.out)) hb); have n1_ := Aside0.mk (hbox); have n2_ := Aside0.mk ((by rw [hg]; exact (below_size (by repeat (first | (with_reducible first | exact HB.out | apply below_alloc | apply pw_below_drewN | apply below_drew1) | exact HB.out))) : w.heap.size ≤ gb222)); have n3_ := Aside0.mk ((by rw [hg]; exact (below_size (by repeat (first | (with_reducible first | exact HB.out | apply below_alloc | apply pw_below_drewN | apply below_drew1) | exact HB.out))) : w.heap.size ≤ gb222)); clear HB; have HB := n0_; have BK222 := n1_; have GW222 := n2_; have GE222 := n3_; clear n0_ n1_ n2_ n3_; clear hb hbox hg; have hcz41_0 : w40.cell? ⟨gb222, 0, none⟩ = some (.int .i64 a0_0) := (blk_cell BK222.out 0).trans rfl; have hcz41_1 : w40.cell? ⟨gb222, 1, none⟩ = some (.int .i64 a0_1) := (blk_cell BK222.out 1).trans rfl; have hcz41_2 : w40.cell? ⟨gb222, 2, none⟩ = some (.slice A0_2 l0_2.length c0_2) := (blk_cell BK222.out 2).trans rfl; have hfz41_0 := blk_frozen BK222.out 0; have hfz41_1 := blk_frozen BK222.out 1; have hfz41_2 := blk_frozen BK222.out 2) | ((with_reducible refine gate_callee (f := 8) rfl ?_); refine goesL_ (some 13) rfl rfl Try.func8 (by kernel_rfl) rfl #[.agg #[.int .i64 a0_0, .int .i64 a0_1, .slice A0_2 l0_2.length c0_2]] rfl (by (try simp only [List.map_toArray, List.map_cons, List.map_nil]); first | done | rfl | (simp only [List.length_drop, List.length_take]; rfl)) ?_; (with_reducible refine (parrylaw22_Heavy.calls k a0_0 a0_1 _ _ l0_2 t223 _ ?side1 ?side2 A5.out).mono ?_); (case side1 => repeat (first | exact (Kd.C_below HR0_2.out HB.out) | (with_reducible refine Kd.C_alloc ?_ _) | (with_reducible refine Kd.C_drewN ?_ _) | (with_reducible refine Kd.C_drew ?_))); (case side2 => exact HC0_2.out); rintro e w42 ⟨rfl, hb⟩; refine ⟨_, rfl, ?_⟩; have n0_ := Aside0.mk (blk_below (g := gb222) (o := .cells #[.int .i64 a0_0, .int .i64 a0_1, .slice A0_2 l0_2.length c0_2] 24 (0, 0)) (by (with_reducible repeat (first | refine blk_drewN ?_ _ | refine blk_drew ?_ | refine blk_alloc ?_ _)); exact BK222.out) hb); have n1_ := Aside0.mk (below_step (by repeat (first | (with_reducible first | exact HB.out | apply below_alloc | apply pw_below_drewN | apply below_drew1 | refine below_set ?_ GE222.out) | exact HB.out)) hb); clear BK222; clear HB; have BK222 := n0_; have HB := n1_; clear n0_ n1_; (try clear hb); (try clear hb2); (try clear hk); (try clear hi); have hcz43_0 : w42.cell? ⟨gb222, 0, none⟩ = some (.int .i64 a0_0) := (blk_cell BK222.out 0).trans rfl; have hcz43_1 : w42.cell? ⟨gb222, 1, none⟩ = some (.int .i64 a0_1) := (blk_cell BK222.out 1).trans rfl; have hcz43_2 : w42.cell? ⟨gb222, 2, none⟩ = some (.slice A0_2 l0_2.length c0_2) := (blk_cell BK222.out 2).trans rfl; have hfz43_0 := blk_frozen BK222.out 0; have hfz43_1 := blk_frozen BK222.out 1; have hfz43_2 := blk_frozen BK222.out 2) | ((with_reducible refine gate_callee (f := 16) rfl ?_); refine goesL_ (some 17) rfl rfl Try.func16 (by kernel_rfl) rfl #[.agg #[.int .i64 a0_0, .int .i64 a0_1, .slice A0_2 l0_2.length c0_2]] rfl (by (try simp only [List.map_toArray, List.map_cons, List.map_nil]); first | done | rfl | (simp only [List.length_drop, List.length_take]; rfl)) ?_; (with_reducible refine (tableau_Size.calls k a0_0 a0_1 _ _ l0_2 t225 _ ?side1 ?side2 A12.out).mono ?_); (case side1 => repeat (first | exact (Kd.C_below HR0_2.out HB.out) | (with_reducible refine Kd.C_alloc ?_ _) | (with_reducible refine Kd.C_drewN ?_ _) | (with_reducible refine Kd.C_drew ?_))); (case side2 => exact HC0_2.out); rintro e w44 ⟨rfl, hb⟩; refine ⟨_, rfl, ?_⟩; have n0_ := Aside0.mk (blk_below (g := gb222) (o := .cells #[.int .i64 a0_0, .int .i64 a0_1, .slice A0_2 l0_2.length c0_2] 24 (0, 0)) (by (with_reducible repeat (first | refine blk_drewN ?_ _ | refine blk_drew ?_ | refine blk_alloc ?_ _)); exact BK222.out) hb); have n1_ := Aside0.mk (below_step (by repeat (first | (with_reducible first | exact HB.out | apply below_alloc | apply pw_below_drewN | apply below_drew1 | refine below_set ?_ GE222.out) | exact HB.out)) hb); clear BK222; clear HB; have BK222 := n0_; have HB := n1_; clear n0_ n1_; (try clear hb); (try clear hb2); (try clear hk); (try clear hi)))
          go_loopg [10, 41] k (fun kq v10 v41 w' => ∃ (x10_1 : Int) (x41_1 : Int), v10 = .int .i64 x10_1 ∧ v41 = .int .i64 x41_1 ∧ Aside0 (parrylaw23_TableauOne.l0 kq a1 (wrap64 (Int.tmod (IntKind.u64.wrap (a2)) (IntKind.u64.wrap (t225)))) a3 t225 x10_1 t225 x41_1 a0_0 a0_1 l0_2 = some r) ∧ Aside0 (kq ≤ k) ∧ Aside0 (w'.heap[gb222]? = some (.cells #[.int .i64 a0_0, .int .i64 a0_1, (.slice A0_2 l0_2.length c0_2)] 24 (0, 0))) ∧ Aside0 (Below w.heap.size w w'))
          case atStart => exact ⟨(0), (0), (by first | rfl | (simp; done) | (simp [*]; done)), (by first | rfl | (simp; done) | (simp [*]; done)), H', ⟨Nat.le_refl _⟩, ⟨by (with_reducible repeat (first | refine blk_drewN ?_ _ | refine blk_drew ?_ | refine blk_alloc ?_ _)); exact BK222.out⟩, ⟨by repeat (first | (with_reducible first | exact HB.out | apply below_alloc | apply pw_below_drewN | apply below_drew1 | refine below_set ?_ GE222.out) | exact HB.out)⟩⟩
          case round =>
            clear H'
            try clear c1
            try clear c2
            try clear p2
            try clear c3
            try clear c5
            try clear c6
            try clear c6b0
            try clear p6
            try clear c8
            try clear c10
            try clear c13
            try clear c13b0
            try clear c14
            try clear c14b0
            try clear c14b1
            try clear c16
            try clear c16b0
            try clear c16b1
            try clear c26
            try clear c26b0
            try clear c27
            try clear c27b0
            try clear c27b1
            try clear c29
            try clear c29b0
            try clear c29b1
            try clear c39
            try clear c39b0
            try clear c39b1
            try clear hcz19_0
            try clear hcz19_1
            try clear hcz19_2
            try clear hcz21_0
            try clear hcz21_1
            try clear hcz21_2
            try clear hcz23_0
            try clear hcz23_1
            try clear hcz23_2
            try clear hcz32_0
            try clear hcz32_1
            try clear hcz32_2
            try clear hcz34_0
            try clear hcz34_1
            try clear hcz34_2
            try clear hcz36_0
            try clear hcz36_1
            try clear hcz36_2
            try clear hcz41_0
            try clear hcz41_1
            try clear hcz41_2
            try clear hcz43_0
            try clear hcz43_1
            try clear hcz43_2
            try clear hcz9_0
            try clear hcz9_1
            try clear hcz9_2
            try clear hfz19_0
            try clear hfz19_1
            try clear hfz19_2
            try clear hfz21_0
            try clear hfz21_1
            try clear hfz21_2
            try clear hfz23_0
            try clear hfz23_1
            try clear hfz23_2
            try clear hfz32_0
            try clear hfz32_1
            try clear hfz32_2
            try clear hfz34_0
            try clear hfz34_1
            try clear hfz34_2
            try clear hfz36_0
            try clear hfz36_1
            try clear hfz36_2
            try clear hfz41_0
            try clear hfz41_1
            try clear hfz41_2
            try clear hfz43_0
            try clear hfz43_1
            try clear hfz43_2
            try clear hfz9_0
            try clear hfz9_1
            try clear hfz9_2
            obtain ⟨x10_1, x41_1, rfl, rfl, HA, HK1, BK222, HB⟩ := hrel
            cases gk with
            | zero => exact absurd HA.out (by simp [parrylaw23_TableauOne.l0])
            | succ k1 =>
              have H := HA.out
              clear HA
              simp only [parrylaw23_TableauOne.l0] at H
              by_cases c45 : x41_1 < t225
              · rw [if_pos c45] at H
                have c45b0 : decide (x41_1 < t225) = true := decide_eq_true c45
                clear c45
                replace H := Option.bind_eq_some_iff.mp H
                obtain ⟨t230, A460, H⟩ := H
                replace H : (if t230 = true then (parrylaw23_TableauOne.l0 k1 a1 (wrap64 (Int.tmod (IntKind.u64.wrap (a2)) (IntKind.u64.wrap (t225)))) a3 t225 (wrap64 (x10_1 + 1)) t225 (wrap64 (x41_1 + 1)) a0_0 a0_1 l0_2) else (parrylaw23_TableauOne.l0 k1 a1 (wrap64 (Int.tmod (IntKind.u64.wrap (a2)) (IntKind.u64.wrap (t225)))) a3 t225 x10_1 t225 (wrap64 (x41_1 + 1)) a0_0 a0_1 l0_2)) = some r := H
                have A46 := Aside0.mk A460
                clear A460
                by_cases c47 : t230 = true
                · subst c47
                  have H1 : (parrylaw23_TableauOne.l0 k1 a1 (wrap64 (Int.tmod (IntKind.u64.wrap (a2)) (IntKind.u64.wrap (t225)))) a3 t225 (wrap64 (x10_1 + 1)) t225 (wrap64 (x41_1 + 1)) a0_0 a0_1 l0_2) = some r := by rw [if_pos rfl] at H; exact H
                  clear H
                  have H := H1
                  clear H1
                  have H' := Aside0.mk H
                  clear H
                  have hcz48_0 : wr.cell? ⟨gb222, 0, none⟩ = some (.int .i64 a0_0) := (blk_cell BK222.out 0).trans rfl
                  have hcz48_1 : wr.cell? ⟨gb222, 1, none⟩ = some (.int .i64 a0_1) := (blk_cell BK222.out 1).trans rfl
                  have hcz48_2 : wr.cell? ⟨gb222, 2, none⟩ = some (.slice A0_2 l0_2.length c0_2) := (blk_cell BK222.out 2).trans rfl
                  have hfz48_0 := blk_frozen BK222.out 0
                  have hfz48_1 := blk_frozen BK222.out 1
                  have hfz48_2 := blk_frozen BK222.out 2
                  go_wp2_with (first | ((with_reducible refine gate_callee (f := 18) rfl ?_); refine goesL_ (some 49) rfl rfl Try.func18 (by kernel_rfl) rfl #[.agg #[.int .i64 a0_0, .int .i64 a0_1, .slice A0_2 l0_2.length c0_2], .int .i64 x41_1, .int .u32 a1, .int .i64 (wrap64 (Int.tmod (IntKind.u64.wrap (a2)) (IntKind.u64.wrap (t225)))), .int .u32 a3] rfl (by (try simp only [List.map_toArray, List.map_cons, List.map_nil]); first | done | rfl | (simp only [List.length_drop, List.length_take]; rfl)) ?_; (with_reducible refine (tableau_Moves.calls a0_0 a0_1 _ _ l0_2 x41_1 a1 (wrap64 (Int.tmod (IntKind.u64.wrap (a2)) (IntKind.u64.wrap (t225)))) a3 true _ ?side1 ?side2 A46.out).mono ?_); (case side1 => repeat (first | exact (Kd.C_below HR0_2.out HB.out) | (with_reducible refine Kd.C_alloc ?_ _) | (with_reducible refine Kd.C_drewN ?_ _) | (with_reducible refine Kd.C_drew ?_))); (case side2 => exact HC0_2.out); rintro e w49 ⟨rfl, hb⟩; refine ⟨_, rfl, ?_⟩; have n0_ := Aside0.mk (blk_below (g := gb222) (o := .cells #[.int .i64 a0_0, .int .i64 a0_1, .slice A0_2 l0_2.length c0_2] 24 (0, 0)) (by (with_reducible repeat (first | refine blk_drewN ?_ _ | refine blk_drew ?_ | refine blk_alloc ?_ _)); exact BK222.out) hb); have n1_ := Aside0.mk (below_step (by repeat (first | (with_reducible first | exact HB.out | apply below_alloc | apply pw_below_drewN | apply below_drew1 | refine below_set ?_ GE222.out) | exact HB.out)) hb); clear BK222; clear HB; have BK222 := n0_; have HB := n1_; clear n0_ n1_; (try clear hb); (try clear hb2); (try clear hk); (try clear hi)))
                  go_roundg k1
                  case measure => have := HK1.out; omega
                  case rel => exact ⟨(wrap64 (x10_1 + 1)), (wrap64 (x41_1 + 1)), (by first | rfl | (simp; done) | (simp [*]; done)), (by first | rfl | (simp; done) | (simp [*]; done)), H', ⟨by have := HK1.out; omega⟩, ⟨by (with_reducible repeat (first | refine blk_drewN ?_ _ | refine blk_drew ?_ | refine blk_alloc ?_ _)); exact BK222.out⟩, ⟨by repeat (first | (with_reducible first | exact HB.out | apply below_alloc | apply pw_below_drewN | apply below_drew1 | refine below_set ?_ GE222.out) | exact HB.out)⟩⟩
                · replace c47 := Bool.eq_false_iff.mpr c47
                  subst c47
                  have H1 : (parrylaw23_TableauOne.l0 k1 a1 (wrap64 (Int.tmod (IntKind.u64.wrap (a2)) (IntKind.u64.wrap (t225)))) a3 t225 x10_1 t225 (wrap64 (x41_1 + 1)) a0_0 a0_1 l0_2) = some r := by rw [if_neg (show ¬ (false = true) by decide)] at H; exact H
                  clear H
                  have H := H1
                  clear H1
                  have H' := Aside0.mk H
                  clear H
                  have hcz50_0 : wr.cell? ⟨gb222, 0, none⟩ = some (.int .i64 a0_0) := (blk_cell BK222.out 0).trans rfl
                  have hcz50_1 : wr.cell? ⟨gb222, 1, none⟩ = some (.int .i64 a0_1) := (blk_cell BK222.out 1).trans rfl
                  have hcz50_2 : wr.cell? ⟨gb222, 2, none⟩ = some (.slice A0_2 l0_2.length c0_2) := (blk_cell BK222.out 2).trans rfl
                  have hfz50_0 := blk_frozen BK222.out 0
                  have hfz50_1 := blk_frozen BK222.out 1
                  have hfz50_2 := blk_frozen BK222.out 2
                  go_wp2_with (first | ((with_reducible refine gate_callee (f := 18) rfl ?_); refine goesL_ (some 49) rfl rfl Try.func18 (by kernel_rfl) rfl #[.agg #[.int .i64 a0_0, .int .i64 a0_1, .slice A0_2 l0_2.length c0_2], .int .i64 x41_1, .int .u32 a1, .int .i64 (wrap64 (Int.tmod (IntKind.u64.wrap (a2)) (IntKind.u64.wrap (t225)))), .int .u32 a3] rfl (by (try simp only [List.map_toArray, List.map_cons, List.map_nil]); first | done | rfl | (simp only [List.length_drop, List.length_take]; rfl)) ?_; (with_reducible refine (tableau_Moves.calls a0_0 a0_1 _ _ l0_2 x41_1 a1 (wrap64 (Int.tmod (IntKind.u64.wrap (a2)) (IntKind.u64.wrap (t225)))) a3 false _ ?side1 ?side2 A46.out).mono ?_); (case side1 => repeat (first | exact (Kd.C_below HR0_2.out HB.out) | (with_reducible refine Kd.C_alloc ?_ _) | (with_reducible refine Kd.C_drewN ?_ _) | (with_reducible refine Kd.C_drew ?_))); (case side2 => exact HC0_2.out); rintro e w51 ⟨rfl, hb⟩; refine ⟨_, rfl, ?_⟩; have n0_ := Aside0.mk (blk_below (g := gb222) (o := .cells #[.int .i64 a0_0, .int .i64 a0_1, .slice A0_2 l0_2.length c0_2] 24 (0, 0)) (by (with_reducible repeat (first | refine blk_drewN ?_ _ | refine blk_drew ?_ | refine blk_alloc ?_ _)); exact BK222.out) hb); have n1_ := Aside0.mk (below_step (by repeat (first | (with_reducible first | exact HB.out | apply below_alloc | apply pw_below_drewN | apply below_drew1 | refine below_set ?_ GE222.out) | exact HB.out)) hb); clear BK222; clear HB; have BK222 := n0_; have HB := n1_; clear n0_ n1_; (try clear hb); (try clear hb2); (try clear hk); (try clear hi)))
                  go_roundg k1
                  case measure => have := HK1.out; omega
                  case rel => exact ⟨(x10_1), (wrap64 (x41_1 + 1)), (by first | rfl | (simp; done) | (simp [*]; done)), (by first | rfl | (simp; done) | (simp [*]; done)), H', ⟨by have := HK1.out; omega⟩, ⟨by (with_reducible repeat (first | refine blk_drewN ?_ _ | refine blk_drew ?_ | refine blk_alloc ?_ _)); exact BK222.out⟩, ⟨by repeat (first | (with_reducible first | exact HB.out | apply below_alloc | apply pw_below_drewN | apply below_drew1 | refine below_set ?_ GE222.out) | exact HB.out)⟩⟩
              · rw [if_neg c45] at H
                have c45b0 : decide (x41_1 < t225) = false := decide_eq_false c45
                clear c45
                by_cases c52 : x10_1 = 1
                · rw [if_pos c52] at H
                  have c52b0 : (x10_1 == 1) = true := beq_iff_eq.mpr c52
                  have c52b1 : (x10_1 != 1) = false := bne_eq_false_iff_eq.mpr c52
                  clear c52
                  replace H := Option.bind_eq_some_iff.mp H
                  obtain ⟨t231, A530, H⟩ := H
                  replace H : (if t231 = true then (some false) else ((tableau_Moves.f a0_0 a0_1 l0_2 0 a1 t225 a3).bind fun t232 => (if t232 = true then (some false) else ((parrylaw23_awake.f).bind fun t233 => (some t233))))) = some r := H
                  have A53 := Aside0.mk A530
                  clear A530
                  by_cases c54 : t231 = true
                  · subst c54
                    have H1 : (some false) = some r := by rw [if_pos rfl] at H; exact H
                    clear H
                    have H := H1
                    clear H1
                    exact absurd ((Option.some.inj H).trans HRT.out) (by decide)
                  · replace c54 := Bool.eq_false_iff.mpr c54
                    subst c54
                    have H1 : ((tableau_Moves.f a0_0 a0_1 l0_2 0 a1 t225 a3).bind fun t232 => (if t232 = true then (some false) else ((parrylaw23_awake.f).bind fun t233 => (some t233)))) = some r := by rw [if_neg (show ¬ (false = true) by decide)] at H; exact H
                    clear H
                    have H := H1
                    clear H1
                    replace H := Option.bind_eq_some_iff.mp H
                    obtain ⟨t232, A550, H⟩ := H
                    replace H : (if t232 = true then (some false) else ((parrylaw23_awake.f).bind fun t233 => (some t233))) = some r := H
                    have A55 := Aside0.mk A550
                    clear A550
                    by_cases c56 : t232 = true
                    · subst c56
                      have H1 : (some false) = some r := by rw [if_pos rfl] at H; exact H
                      clear H
                      have H := H1
                      clear H1
                      exact absurd ((Option.some.inj H).trans HRT.out) (by decide)
                    · replace c56 := Bool.eq_false_iff.mpr c56
                      subst c56
                      have H1 : ((parrylaw23_awake.f).bind fun t233 => (some t233)) = some r := by rw [if_neg (show ¬ (false = true) by decide)] at H; exact H
                      clear H
                      have H := H1
                      clear H1
                      replace H := Option.bind_eq_some_iff.mp H
                      obtain ⟨t233, A570, H⟩ := H
                      replace H : (some t233) = some r := H
                      have A57 := Aside0.mk A570
                      clear A570
                      obtain rfl := Option.some.inj H
                      have hcz58_0 : wr.cell? ⟨gb222, 0, none⟩ = some (.int .i64 a0_0) := (blk_cell BK222.out 0).trans rfl
                      have hcz58_1 : wr.cell? ⟨gb222, 1, none⟩ = some (.int .i64 a0_1) := (blk_cell BK222.out 1).trans rfl
                      have hcz58_2 : wr.cell? ⟨gb222, 2, none⟩ = some (.slice A0_2 l0_2.length c0_2) := (blk_cell BK222.out 2).trans rfl
                      have hfz58_0 := blk_frozen BK222.out 0
                      have hfz58_1 := blk_frozen BK222.out 1
                      have hfz58_2 := blk_frozen BK222.out 2
                      go_wp2_with (first | (go_at_call 18; (with_reducible refine (tableau_Moves.calls a0_0 a0_1 _ _ l0_2 (-1) a1 (wrap64 (Int.tmod (IntKind.u64.wrap (a2)) (IntKind.u64.wrap (t225)))) a3 false _ ?side1 ?side2 A53.out).mono ?_); (case side1 => repeat (first | exact (Kd.C_below HR0_2.out HB.out) | (with_reducible refine Kd.C_alloc ?_ _) | (with_reducible refine Kd.C_drewN ?_ _) | (with_reducible refine Kd.C_drew ?_))); (case side2 => exact HC0_2.out); rintro e w59 ⟨rfl, hb⟩; have n0_ := Aside0.mk (blk_below (g := gb222) (o := .cells #[.int .i64 a0_0, .int .i64 a0_1, .slice A0_2 l0_2.length c0_2] 24 (0, 0)) (by (with_reducible repeat (first | refine blk_drewN ?_ _ | refine blk_drew ?_ | refine blk_alloc ?_ _)); exact BK222.out) hb); have n1_ := Aside0.mk (below_step (by repeat (first | (with_reducible first | exact HB.out | apply below_alloc | apply pw_below_drewN | apply below_drew1 | refine below_set ?_ GE222.out) | exact HB.out)) hb); clear BK222; clear HB; have BK222 := n0_; have HB := n1_; clear n0_ n1_; (try clear hb); (try clear hb2); (try clear hk); (try clear hi); have hcz60_0 : w59.cell? ⟨gb222, 0, none⟩ = some (.int .i64 a0_0) := (blk_cell BK222.out 0).trans rfl; have hcz60_1 : w59.cell? ⟨gb222, 1, none⟩ = some (.int .i64 a0_1) := (blk_cell BK222.out 1).trans rfl; have hcz60_2 : w59.cell? ⟨gb222, 2, none⟩ = some (.slice A0_2 l0_2.length c0_2) := (blk_cell BK222.out 2).trans rfl; have hfz60_0 := blk_frozen BK222.out 0; have hfz60_1 := blk_frozen BK222.out 1; have hfz60_2 := blk_frozen BK222.out 2) | (go_at_call 18; (with_reducible refine (tableau_Moves.calls a0_0 a0_1 _ _ l0_2 0 a1 t225 a3 false _ ?side1 ?side2 A55.out).mono ?_); (case side1 => repeat (first | exact (Kd.C_below HR0_2.out HB.out) | (with_reducible refine Kd.C_alloc ?_ _) | (with_reducible refine Kd.C_drewN ?_ _) | (with_reducible refine Kd.C_drew ?_))); (case side2 => exact HC0_2.out); rintro e w61 ⟨rfl, hb⟩; have n0_ := Aside0.mk (blk_below (g := gb222) (o := .cells #[.int .i64 a0_0, .int .i64 a0_1, .slice A0_2 l0_2.length c0_2] 24 (0, 0)) (by (with_reducible repeat (first | refine blk_drewN ?_ _ | refine blk_drew ?_ | refine blk_alloc ?_ _)); exact BK222.out) hb); have n1_ := Aside0.mk (below_step (by repeat (first | (with_reducible first | exact HB.out | apply below_alloc | apply pw_below_drewN | apply below_drew1 | refine below_set ?_ GE222.out) | exact HB.out)) hb); clear BK222; clear HB; have BK222 := n0_; have HB := n1_; clear n0_ n1_; (try clear hb); (try clear hb2); (try clear hk); (try clear hi)) | (go_at_call 10; (with_reducible refine (parrylaw23_awake.calls  t233 _ A57.out).mono ?_); rintro e w62 ⟨rfl, hb⟩; have n0_ := Aside0.mk (blk_below (g := gb222) (o := .cells #[.int .i64 a0_0, .int .i64 a0_1, .slice A0_2 l0_2.length c0_2] 24 (0, 0)) (by (with_reducible repeat (first | refine blk_drewN ?_ _ | refine blk_drew ?_ | refine blk_alloc ?_ _)); exact BK222.out) hb); have n1_ := Aside0.mk (below_step (by repeat (first | (with_reducible first | exact HB.out | apply below_alloc | apply pw_below_drewN | apply below_drew1 | refine below_set ?_ GE222.out) | exact HB.out)) hb); clear BK222; clear HB; have BK222 := n0_; have HB := n1_; clear n0_ n1_; (try clear hb); (try clear hb2); (try clear hk); (try clear hi)))
                      go_ret
                      exact ⟨by first | rfl | (simp [errW_none, errW_some] <;> rfl) | (simp [*, errW_none, errW_some] <;> rfl), by repeat (first | (with_reducible first | exact HB.out | apply below_alloc | apply pw_below_drewN | apply below_drew1 | refine below_set ?_ GE222.out) | exact HB.out)⟩
                · rw [if_neg c52] at H
                  exact absurd ((Option.some.inj H).trans HRT.out) (by decide)

end Go.Proofs.Ytegaicoddnmemaa.P

namespace Go.Proofs.Ytegaicoddnmemaa.P
end Go.Proofs.Ytegaicoddnmemaa.P

namespace Go.Proofs.Ytegaicoddnmemaa.X
open Go.RowKit Go.Proofs.YtegaicoddnmemaaW.PrintWords Go.Proofs.YtegaicoddnmemaaW.PrintLast Go.Proofs.YtegaicoddnmemaaW.PrintMore
open Go.Proofs.Ytegaicoddnmemaa.P Go.Proofs.Ytegaicoddnmemaa.Evx
set_option linter.unusedSimpArgs false
set_option linter.unusedVariables false
theorem Timed_some (op : Int) : parryref22_Timed.f op = some (timedS op) := by
  unfold parryref22_Timed.f timedS
  repeat' split
  all_goals (congr 1; rw [Bool.eq_iff_iff]; simp; omega)
end Go.Proofs.Ytegaicoddnmemaa.X

namespace Go.Proofs.Ytegaicoddnmemaa.X
open Go.RowKit Go.Proofs.YtegaicoddnmemaaW.PrintWords Go.Proofs.YtegaicoddnmemaaW.PrintMore
open Go.Proofs.Ytegaicoddnmemaa.P Go.Proofs.Ytegaicoddnmemaa.Evx
set_option linter.unusedVariables false
set_option linter.unusedSimpArgs false
/-- What count tells: exact where the formula fits, more than the room where it does not. -/
def CntAt (s : S24) : Prop := ∀ (d r : Int), 1 ≤ d → d ≤ 13 → r ≤ 60 → 60 ≤ r + 60 * d → ∃ n t : Int, Ev (fun k => parryref22_count.f k s.f0 s.f1 s.f2 d r) (n, t) ∧ 1 ≤ n ∧ n ≤ 61 + 60 * (13 - d) ∧ 0 ≤ t ∧ t ≤ n ∧
  ((nS s : Int) ≤ r ∧ d + hS s ≤ 13 → n = nS s ∧ t = tnS s) ∧ (¬ ((nS s : Int) ≤ r ∧ d + hS s ≤ 13) → r < n)
theorem nS_pos (s : S24) : 1 ≤ nS s := by cases s; simp only [nS]; omega
theorem count_l (kids : List S24) (d r : Int) (hd1 : 1 ≤ d) (hd : d ≤ 12) (hr : r ≤ 60) (hr2 : 60 ≤ r + 60 * d) (ih : ∀ k ∈ kids, CntAt k) :
    ∀ (e j : Nat) (n t : Int), j + e = kids.length → (j : Int) < n → n ≤ 60 → 0 ≤ t → t ≤ n → ∃ n' t' : Int, Ev (fun k => parryref22_count.l0 k d r n t kids (kids.length : Int) j) (n', t') ∧ 1 ≤ n' ∧ n' ≤ 61 + 60 * (13 - d) ∧ 0 ≤ t' ∧ t' ≤ n' ∧
      (n + nL (kids.drop j) ≤ r ∧ d + 1 + hL (kids.drop j) ≤ 13 → n' = n + nL (kids.drop j) ∧ t' = t + tnL (kids.drop j)) ∧ (¬ (n + nL (kids.drop j) ≤ r ∧ d + 1 + hL (kids.drop j) ≤ 13) → r < n')
  | 0, j, n, t, hj, h1, h2, h3, h4 => by
    refine ⟨n, t, ev_step (fun k => rfl) (ev_neg (by omega) (ev_some _)), by omega, by omega, h3, h4, ?_, ?_⟩
    · rw [List.drop_eq_nil_of_le (by omega)]; simp [nL, tnL]
    · rw [List.drop_eq_nil_of_le (by omega)]; simp only [nL, hL]; omega
  | e + 1, j, n, t, hj, h1, h2, h3, h4 => by
    have hlt : j < kids.length := by omega
    obtain ⟨x, y, hx, x1, x2, y1, y2, q1, q2⟩ := ih _ (List.getElem_mem hlt) (d + 1) (r - n) (by omega) (by omega) (by omega) (by omega)
    have hdr := List.drop_eq_getElem_cons hlt
    rw [hdr]
    simp only [nL, tnL, hL]
    have hk1 : 1 ≤ nS (kids[j]'hlt) := by cases (kids[j]'hlt); simp only [nS]; omega
    by_cases hc : n + x > 60
    · refine ⟨n + x, t + y, ev_step (fun k => rfl) (ev_pos (by omega) (ev_pos (by omega) (ev_pos (by omega) ?_))), by omega, by omega, by omega, by omega, ?_, ?_⟩
      · rw [rdT_nat kids j hlt, w64 (by omega) (by omega), w64 (by omega) (by omega)]
        refine ev_bind hx ?_
        simp only
        rw [w64 (by omega) (by omega), w64 (by omega) (by omega)]
        exact ev_pos hc (ev_some _)
      · intro hq
        have := q1 (by omega)
        omega
      · intro _
        omega
    · obtain ⟨n', t', hn', a1, a2, a3, a4, b1, b2⟩ := count_l kids d r hd1 hd hr hr2 ih e (j + 1) (n + x) (t + y) (by omega) (by omega) (by omega) (by omega) (by omega)
      refine ⟨n', t', ev_step (fun k => rfl) (ev_pos (by omega) (ev_pos (by omega) (ev_pos (by omega) ?_))), a1, a2, a3, a4, ?_, ?_⟩
      · rw [rdT_nat kids j hlt, w64 (by omega) (by omega), w64 (by omega) (by omega)]
        refine ev_bind hx ?_
        simp only
        rw [w64 (by omega) (by omega), w64 (by omega) (by omega), w64 (by omega) (by omega)]
        refine ev_neg hc ?_
        exact_mod_cast hn'
      · intro hq
        have := q1 (by omega)
        have := b1 (by omega)
        omega
      · intro hq
        by_cases hq2 : (nS (kids[j]'hlt) : Int) ≤ r - n ∧ d + 1 + hS (kids[j]'hlt) ≤ 13
        · have := q1 hq2
          exact b2 (by omega)
        · have := q2 hq2
          exact b2 (by omega)
mutual
theorem count_ev : ∀ s : S24, CntAt s
  | ⟨op, m, kids⟩ => by
    intro d r h1 h2 h3 h4
    have ih := count_evL kids
    by_cases hd : d > 12
    · refine ⟨61, 0, ev_step (fun k => rfl) (ev_pos hd (ev_step (f := fun _ => some (61, 0)) (fun k => rfl) (ev_some _))), by omega, by omega, by omega, by omega, ?_, fun _ => by omega⟩
      intro hq
      simp only [hS] at hq
      omega
    · by_cases hr : r < 1
      · refine ⟨61, 0, ev_step (fun k => rfl) (ev_neg hd (ev_step (fun k => rfl) (ev_pos (decide_eq_true hr) (ev_some _)))), by omega, by omega, by omega, by omega, ?_, fun _ => by omega⟩
        intro hq
        have := nS_pos ⟨op, m, kids⟩
        omega
      · have hts : 0 ≤ (tS op : Int) ∧ (tS op : Int) ≤ 1 := by unfold tS; split <;> simp
        obtain ⟨n', t', hn', a1, a2, a3, a4, b1, b2⟩ := count_l kids d r h1 (by omega) h3 h4 ih kids.length 0 1 (tS op) (by omega) (by omega) (by omega) hts.1 hts.2
        refine ⟨n', t', ev_step (fun k => rfl) (ev_neg hd (ev_step (fun k => rfl) (ev_neg (by rw [decide_eq_false hr]; simp) ?_))), a1, a2, a3, a4, ?_, ?_⟩
        · refine ev_bindv (Timed_some op) (ev_bool (fun c => ?_) (fun c => ?_))
          · have e1 : (tS op : Int) = 1 := by unfold tS; rw [if_pos c]; rfl
            rw [e1] at hn'
            exact ev_step (fun k => rfl) hn'
          · have e1 : (tS op : Int) = 0 := by unfold tS; rw [if_neg (by rw [c]; simp)]; rfl
            rw [e1] at hn'
            exact ev_step (fun k => rfl) hn'
        · intro hq
          simp only [nS, hS, tnS] at hq ⊢
          have := b1 (by rw [List.drop_zero]; omega)
          rw [List.drop_zero] at this
          omega
        · intro hq
          simp only [nS, hS] at hq
          exact b2 (by rw [List.drop_zero]; omega)
theorem count_evL : ∀ l : List S24, ∀ k ∈ l, CntAt k
  | [], k, hk => by cases hk
  | a :: r, k, hk => by
    rcases List.mem_cons.1 hk with e | e
    · rw [e]; exact count_ev a
    · exact count_evL r k e
end
theorem rMay_ev (s : S24) : Ev (fun n => parryref22_May.f n s.f0 s.f1 s.f2) (mayF s) := by
  obtain ⟨n, t, hx, a1, a2, a3, a4, q1, q2⟩ := count_ev s 1 60 (by omega) (by omega) (by omega) (by omega)
  rw [may_eq]
  unfold parryref22_May.f
  refine ev_bind hx ?_
  have h0 : ∀ b : Bool, b = !decide (nS s ≤ 60 ∧ hS s ≤ 12 ∧ tnS s ≤ 8) → Ev (fun n => parryref22_May.j0 n b s.f0 s.f1 s.f2) (if nS s ≤ 60 ∧ hS s ≤ 12 ∧ tnS s ≤ 8 then (if soundS s = true then 0 else 1) else 7) := by
    intro b hb
    refine ev_step (fun k => rfl) (ev_bool (fun h => ?_) (fun h => ?_))
    · rw [h] at hb
      have hq : ¬ (nS s ≤ 60 ∧ hS s ≤ 12 ∧ tnS s ≤ 8) := of_decide_eq_false (bnot hb.symm)
      exact ev_eq (ev_some _) (by rw [if_neg hq])
    · rw [h] at hb
      have hq : nS s ≤ 60 ∧ hS s ≤ 12 ∧ tnS s ≤ 8 := by simpa using hb.symm
      rw [if_pos hq]
      have hso : parryref22_sound.f s.f0 s.f1 s.f2 = some (soundS s) := by cases s; rfl
      exact ev_bindv hso (ev_ite (fun c => by rw [if_pos c]; exact ev_some _) (fun c => by rw [if_neg c]; exact ev_some _))
  refine ev_ite (fun c => h0 _ ?_) (fun c => h0 _ ?_)
  · have hq : ¬ (nS s ≤ 60 ∧ hS s ≤ 12 ∧ tnS s ≤ 8) := fun h => by have := q1 (by omega); simp only at c; omega
    rw [decide_eq_false hq]; rfl
  · have hq : (nS s : Int) ≤ 60 ∧ 1 + (hS s : Int) ≤ 13 := by
      apply Classical.byContradiction
      intro h
      have := q2 h
      simp only at c
      omega
    have := q1 hq
    simp only
    by_cases ht : t > 8
    · rw [decide_eq_true ht, decide_eq_false (by omega)]; rfl
    · rw [decide_eq_false ht, decide_eq_true (by omega)]; rfl
end Go.Proofs.Ytegaicoddnmemaa.X

namespace Go.Proofs.Ytegaicoddnmemaa.X
end Go.Proofs.Ytegaicoddnmemaa.X

namespace Go.Proofs.Ytegaicoddnmemaa.P
end Go.Proofs.Ytegaicoddnmemaa.P

