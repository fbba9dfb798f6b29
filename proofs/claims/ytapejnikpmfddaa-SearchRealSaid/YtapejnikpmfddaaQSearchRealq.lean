/- A part of the claim SearchReal. -/
import Derived.Test.YtapejnikpmfddaaQSearchRealp
set_option linter.unusedVariables false
set_option linter.unusedSimpArgs false
set_option maxHeartbeats 12800000
set_option maxRecDepth 100000
namespace Go.Proofs.Ytapejnikpmfddaa.X
open Go.RowKit Go.Proofs.YtapejnikpmfddaaW.PrintWords Go.Proofs.YtapejnikpmfddaaW.PrintLast Go.Proofs.YtapejnikpmfddaaW.PrintMore
open Go.Proofs.Ytapejnikpmfddaa.P Go.Proofs.Ytapejnikpmfddaa.Evx
def swo.T8 : Bool × List (List Nat × List Nat) := (true, [([], []), ([0], [0]), ([1], [1]), ([2], [2]), ([2], [2]), ([4, 2], [2, 4]), ([5, 2], [2, 5]), ([3, 6, 2], [2, 3, 6]), ([2, 7], [2, 7]), ([8, 2], [8]), ([9], [9]), ([10, 9], [9, 10]), ([11, 9, 9], [9, 11]), ([12], [12]), ([13, 12], [12, 13]), ([12], [12]), ([14, 15, 12, 12], [12, 14, 15]), ([16, 12], [12, 16]), ([12, 17, 9], [9, 12, 17]), ([9, 18], [9, 18]), ([19, 16], [19]), ([20], [20]), ([21, 20], [20, 21]), ([22, 20, 20], [20, 22]), ([23], [23]), ([24, 23], [23, 24]), ([23], [23]), ([23], [23]), ([27, 23], [23, 27]), ([26, 28, 23], [23, 26, 28]), ([29, 23], [23, 29]), ([25, 30, 23], [23, 25, 30]), ([31, 23], [23, 31]), ([23], [23]), ([32, 33, 23, 23], [23, 32, 33]), ([34, 23], [23, 34]), ([23, 35, 20], [20, 23, 35]), ([20, 36], [20, 36])])
def swo.B8 : List Nat := [0, 1, 3, 7, 7, 23, 55, 127, 255, 511, 1023, 2047, 4095, 8191, 16383, 8191, 65535, 131071, 262143, 524287, 1048575, 2097151, 4194303, 8388607, 16777215, 33554431, 16777215, 16777215, 150994943, 486539263, 1023410175, 2147483647, 4294967295, 16777215, 17179869183, 34359738367, 68719476735, 137438953471]
theorem swo.tab8 : rtab .any (opsOf Try.f13 8) = swo.T8 := by kernel_rfl
theorem swo.bits8 : waitsOk swo.T8.2 swo.B8 = true := by kernel_rfl
def swo.T12 : Bool × List (List Nat × List Nat) := (true, [([], []), ([], []), ([1], [1]), ([0, 2], [0, 2]), ([3], [3]), ([], []), ([], []), ([6], [6]), ([5, 7], [5, 7]), ([8, 4], [8]), ([4, 9], [4, 9]), ([], []), ([11, 10, 9, 0, 1, 2, 3, 4, 5, 6, 7, 8, 9, 10, 11], [10, 11])])
def swo.B12 : List Nat := [0, 0, 2, 7, 15, 0, 0, 64, 224, 511, 1023, 0, 4095]
theorem swo.tab12 : rtab .any (opsOf Try.f13 12) = swo.T12 := by kernel_rfl
theorem swo.bits12 : waitsOk swo.T12.2 swo.B12 = true := by kernel_rfl
def swo.T13 : Bool × List (List Nat × List Nat) := (true, [([], []), ([0], [0]), ([], []), ([], []), ([3], [3]), ([4], [4]), ([2, 5], [2, 5]), ([6], [6]), ([1, 7], [1, 7]), ([8], [8]), ([], []), ([10], [10]), ([11], [11]), ([9, 12], [9, 12]), ([13], [13]), ([14, 13], [14]), ([15], [15]), ([16, 15, 15], [15, 16]), ([17, 15], [15, 17]), ([15, 18], [15, 18])])
def swo.B13 : List Nat := [0, 1, 0, 0, 8, 24, 60, 124, 255, 511, 0, 1024, 3072, 8191, 16383, 32767, 65535, 131071, 262143, 524287]
theorem swo.tab13 : rtab .any (opsOf Try.f13 13) = swo.T13 := by kernel_rfl
theorem swo.bits13 : waitsOk swo.T13.2 swo.B13 = true := by kernel_rfl
theorem Word_true (ls ss : List Int) (nxs : List (List Int)) (st lp : List Int) (A0 A1 A2 B1 B2 : Option Addr) (c0 c1 c2 d1 d2 : Nat) (w : World)
  (h0 : Kd.C (Kd.int .u32) w A0 ls.length ls) (l0 : ls.length ≤ c0) (h1 : Kd.C (Kd.int .i64) w A1 ss.length ss) (l1 : ss.length ≤ c1) (h2 : Kd.C (Kd.slice 3 (Kd.int .i64)) w A2 nxs.length nxs) (l2 : nxs.length ≤ c2)
  (h3 : Kd.C (Kd.int .i64) w B1 st.length st) (l3 : st.length ≤ d1) (h4 : Kd.C (Kd.int .i64) w B2 lp.length lp) (l4 : lp.length ≤ d2) (hlen : st.length + lp.length < 1000000000) (hT : wordB ls ss nxs st lp = true) :
  Calls Try.prog 13 #[.agg #[.slice A0 ls.length c0, .slice A1 ss.length c1, .slice A2 nxs.length c2], .slice B1 st.length d1, .slice B2 lp.length d2] w fun e w' => ∃ v1 v2, e = .returned (.tuple #[.agg #[v1, v2], .bool true]) ∧
   Kd.R (Kd.int .u32) 48 w' w.heap.size (fun _ => True) v1 (lettersG ls st) ∧ Kd.R (Kd.int .u32) 48 w' w.heap.size (fun _ => True) v2 (lettersG ls lp) ∧ Below w.heap.size w w' := by
 have huK := Try.underlying26
 have huW := Try.underlying40
 have huu := Try.underlying22
 have hui := Try.underlying23
 have huii := Try.underlying24
 obtain ⟨W2, hW2⟩ : ∃ W2, W2 = (w.alloc (.cells #[.slice A0 ls.length c0, .slice A1 ss.length c1, .slice A2 nxs.length c2] 26)).alloc (.cells #[.slice none 0 0, .slice none 0 0] 40) := ⟨_, rfl⟩
 have hB2 : Below w.heap.size w W2 := by rw [hW2]; exact below_alloc (below_alloc (Below.refl _ _) _) _
 have hbk : W2.heap[w.heap.size]? = some (.cells #[.slice A0 ls.length c0, .slice A1 ss.length c1, .slice A2 nxs.length c2] 26 (0, 0)) := by rw [hW2]; exact ba_ (heap_alloc_new w _) _
 have hbw : W2.heap[w.heap.size + 1]? = some (.cells #[.slice none 0 0, .slice none 0 0] 40 (0, 0)) := by
  rw [hW2]
  have := heap_alloc_new (w.alloc (.cells #[.slice A0 ls.length c0, .slice A1 ss.length c1, .slice A2 nxs.length c2] 26)) (.cells #[.slice none 0 0, .slice none 0 0] 40)
  simpa using this
 obtain ⟨g6, hg6⟩ : ∃ k, k = w.heap.size + 1 := ⟨_, rfl⟩
 obtain ⟨gk1, hgk⟩ : ∃ k, k = w.heap.size := ⟨_, rfl⟩
 rw [← hgk] at hbk
 rw [← hg6] at hbw
 have HG6 := Zd.mk (show w.heap.size ≤ g6 by omega)
 obtain ⟨km, hkm⟩ := (smay_ev ls ss nxs (Kd.C_max h1) (Kd.C_max h2) (rows_max h2)).rounds
 have HM1 := Zd.mk (search_May.calls km A0 c0 ls A1 c1 ss A2 c2 nxs (mayG ls ss nxs) W2 (Kd.C_below h0 hB2) l0 (Kd.C_below h1 hB2) l1 (Kd.C_below h2 hB2) l2 hkm)
 have k0 : W2.cell? ⟨gk1, 0, none⟩ = some (.slice A0 ls.length c0) := (bq_ hbk 0).trans rfl
 have k1 : W2.cell? ⟨gk1, 1, none⟩ = some (.slice A1 ss.length c1) := (bq_ hbk 1).trans rfl
 have k2 : W2.cell? ⟨gk1, 2, none⟩ = some (.slice A2 nxs.length c2) := (bq_ hbk 2).trans rfl
 have HBK := Zd.mk hbk
 have HBW := Zd.mk hbw
 have HB2 := Zd.mk hB2
 have H0 := Zd.mk h0
 have H1 := Zd.mk h1
 have H2 := Zd.mk h2
 have H3 := Zd.mk h3
 have H4 := Zd.mk h4
 have HWB := Zd.mk (show wordB ls ss nxs st lp = (decide (mayG ls ss nxs = 0) && (decide (lp ≠ []) && (walkB ls ss nxs (st ++ lp) && ((nxs.getD ((st ++ lp).getD ((st ++ lp).length - 1) 0).toNat []).contains (lp.getD 0 0) && wordS (lettersG ls st) (lettersG ls lp))))) from rfl)
 have HGOK := Zd.mk (fun (h : mayG ls ss nxs = 0) => mayG_ok h)
 clear h0 h1 h2 h3 h4 hbk hbw hB2 hkm
 generalize mayG ls ss nxs = mg at *
 generalize wordB ls ss nxs st lp = wb at *
 have HTT := Zd.mk hT
 clear hT
 by_cases e1 : mg = 0
 ·by_cases e2 : lp = []
  ·have HE := Zd.mk (show wb = false from by rw [HWB.out, show decide (lp ≠ []) = false from decide_eq_false (fun h => h e2), Bool.false_and, Bool.and_false])
   exact absurd (HE.out.symm.trans HTT.out) (by decide)
  ·have HL1 := Zd.mk (List.length_pos_iff.2 e2)
   have em1 : (mg != 0) = false := by rw [e1]; rfl
   have e3 : ¬ lp.length = 0 := by have := HL1.out; omega
   have HGO := Zd.mk (HGOK.out e1)
   go_enter Try.func13, Try.ntmps13
   go_upto_region 1 with fail
   rw [← hW2, ← hg6, ← hgk]
   clear hW2 hg6 hgk e2
   go_upto_region 5 with (first
    | (go_at_call 18; refine HM1.out.mono ?_; rintro e w3 ⟨rfl, hB3⟩; have HB3 := Zd.mk (HB2.out.trans (hB3.mono HB2.out.size)); have HBW3 := Zd.mk ((hB3.block _ (blk_lt HBW.out)).trans HBW.out); have HBK3 := Zd.mk ((hB3.block _ (blk_lt HBK.out)).trans HBK.out); clear hB3)
    | (go_at_call 27; refine (ConcatI_calls _ B1 B2 d1 d2 st lp _ (heap_alloc_new _ _) (Kd.C_alloc (Kd.C_below H3.out HB3.out) _) (Kd.C_alloc (Kd.C_below H4.out HB3.out) _) (by omega) hlen).mono ?_; rintro e w4 ⟨v4, rfl, hR4, hB4⟩; obtain ⟨Aa, ca, e4, hca, hCa⟩ := Kd.R_reads hR4; subst e4; have hB4' := (below_alloc (Below.refl w3.heap.size w3) _).trans (hB4.mono (below_alloc (Below.refl w3.heap.size w3) _).size); have HB4 := Zd.mk (HB3.out.trans (hB4'.mono HB3.out.size)); have HBW4 := Zd.mk ((hB4'.block _ (blk_lt HBW3.out)).trans HBW3.out); have HBK4 := Zd.mk ((hB4'.block _ (blk_lt HBK3.out)).trans HBK3.out); have HCA := Zd.mk hCa; clear hR4 hCa hB4 hB4'))
   obtain ⟨W3, rfl⟩ : ∃ W : World, W = w4 := ⟨_, rfl⟩
   obtain ⟨all, hall⟩ : ∃ l, l = st ++ lp := ⟨_, rfl⟩
   have HALL := Zd.mk hall
   have hnl : all.length = st.length + lp.length := by rw [hall, List.length_append]
   rw [← hall] at HCA hca HWB
   (try rw [← hall])
   (try rw [← hnl])
   have hn9 : all.length < 1000000000 := by omega
   have HNL := Zd.mk hnl
   clear hall k0 k1 k2 hnl
   have HWF := Zd.mk (fun (i : Nat) (hi : i < all.length) (h : okAt ls ss nxs all i = false) => show wb = false from by rw [HWB.out, show walkB ls ss nxs all = false from all_fail hi h, Bool.false_and, Bool.and_false, Bool.and_false])
   go_wp2
   go_loopg [9, 28] all.length (fun kq v9 v28 w' => ∃ i : Nat, i + kq = all.length ∧ v28 = .int .i64 (i : Int) ∧ Zd (Kd.R (Kd.int .u32) 48 w' W3.heap.size (fun _ => True) v9 (lettersG ls (all.take i))) ∧ Zd (Below W3.heap.size W3 w') ∧ Zd (∀ j, j < i → okAt ls ss nxs all j = true))
   case atStart => exact ⟨0, by omega, rfl, ⟨Kd.R_nil _ _ _ _ _⟩, ⟨Below.refl _ _⟩, ⟨fun j hj => absurd hj (Nat.not_lt_zero _)⟩⟩
   case round =>
    obtain ⟨i, hi, rfl, HV, HBL, HOKS⟩ := hrel
    obtain ⟨WW, rfl⟩ : ∃ W : World, W = wr := ⟨_, rfl⟩
    have HI := Zd.mk hi
    clear hi
    have HBK5 := Zd.mk ((HBL.out.block _ (blk_lt HBK4.out)).trans HBK4.out)
    have HBW5 := Zd.mk ((HBL.out.block _ (blk_lt HBW4.out)).trans HBW4.out)
    have k0 : WW.cell? ⟨gk1, 0, none⟩ = some (.slice A0 ls.length c0) := (bq_ HBK5.out 0).trans rfl
    have k1 : WW.cell? ⟨gk1, 1, none⟩ = some (.slice A1 ss.length c1) := (bq_ HBK5.out 1).trans rfl
    have k2 : WW.cell? ⟨gk1, 2, none⟩ = some (.slice A2 nxs.length c2) := (bq_ HBK5.out 2).trans rfl
    have HBA := Zd.mk (HB4.out.trans (HBL.out.mono HB4.out.size))
    by_cases hil : i < all.length
    ·obtain ⟨ada, e, za0⟩ := int_at HCA.out hil
     subst e
     have za := pb_ HBL.out za0
     have HSN := Zd.mk (letters_snoc (ls := ls) hil)
     have HOE := Zd.mk (show okAt ls ss nxs all i = if all.getD i 0 < 0 then false else if (ls.length : Int) ≤ all.getD i 0 then false else if i = 0 then ss.contains (all.getD i 0) else (nxs.getD (all.getD (i - 1) 0).toNat []).contains (all.getD i 0) from rfl)
     have HWI := Zd.mk (HWF.out i hil)
     have hil2 : (i : Int) < (all.length : Int) := by omega
     obtain ⟨sofar, hsf⟩ : ∃ l, l = lettersG ls (all.take i) := ⟨_, rfl⟩
     have hsl : sofar.length < 1000000000 := by rw [hsf, len_letters, List.length_take]; omega
     rw [← hsf] at HV HSN
     clear za0 hsf
     generalize hv : all.getD i 0 = v at *
     by_cases g1 : v < 0
     ·have HE := Zd.mk (HWI.out (by rw [HOE.out, if_pos g1]))
      exact absurd (HE.out.symm.trans HTT.out) (by decide)
     ·obtain ⟨vn, rfl⟩ : ∃ n : Nat, v = (n : Int) := ⟨v.toNat, by omega⟩
      have d1' : decide ((vn : Int) < 0) = false := decide_eq_false g1
      rw [if_neg g1] at HOE
      by_cases g2 : ls.length ≤ vn
      ·have g2i : (ls.length : Int) ≤ (vn : Int) := by omega
       have HE := Zd.mk (HWI.out (by rw [HOE.out, if_pos g2i]))
       exact absurd (HE.out.symm.trans HTT.out) (by decide)
      ·have g2i : ¬ (ls.length : Int) ≤ (vn : Int) := by omega
       have hvl : vn < ls.length := by omega
       have d2' : decide ((ls.length : Int) ≤ (vn : Int)) = false := decide_eq_false g2i
       rw [if_neg g2i] at HOE
       by_cases g3 : i = 0
       ·rw [if_pos g3] at HOE
        have d3' : ((i : Int) == 0) = true := by rw [g3]; rfl
        have d4' : decide (0 < i) = false := decide_eq_false (by omega)
        have HCT := Zd.mk (fun W (hb : Below WW.heap.size WW W) => Contains_calls ss (vn : Int) A1 c1 W (Kd.C_below H1.out (HBA.out.trans (hb.mono HBA.out.size))) l1)
        cases hct : ss.contains (vn : Int) with
        | false =>
         rw [hct] at HCT HOE
         have HE := Zd.mk (HWI.out HOE.out)
         exact absurd (HE.out.symm.trans HTT.out) (by decide)
        | true =>
         rw [hct] at HCT HOE
         have HOKT := HOE
         clear hv g3 hct
         go_upto_region 8 with fail
         refine start_ (n := 38) (S := fun w' => w'.cell? ⟨gk1, 0, none⟩ = some (.slice A0 ls.length c0) ∧ w'.cell? ⟨gk1, 1, none⟩ = some (.slice A1 ss.length c1)) (ds := []) Mk202_ (by kernel_rfl) rfl rfl ⟨k0, k1⟩ (fun hHeld => ?_)
         refine with_tabW swo.tab8 swo.bits8 (fun HT_ HW_ => ?_)
         refine pz HT_.out 0 (some 33) Mk203_ rfl rfl ?_
         refine pz HT_.out 1 (some 34) Mk204_ rfl rfl ?_
         refine pz HT_.out 2 (some 35) Mk205_ rfl rfl ?_
         refine pz HT_.out 3 (some 36) Mk206_ rfl rfl ?_
         refine pz HT_.out 4 (some 37) Mk207_ rfl rfl ?_
         refine tz HT_.out HW_.out 5 (some 38) Mk208_ rfl rfl hHeld ?_
         refine pz HT_.out 6 (some 39) Mk209_ rfl rfl ?_
         refine pz HT_.out 7 (some 40) Mk210_ rfl rfl ?_
         refine pz HT_.out 8 (some 41) Mk211_ rfl rfl ?_
         refine pz HT_.out 9 (some 42) Mk212_ rfl rfl ?_
         refine pz HT_.out 10 (some 43) Mk213_ rfl rfl ?_
         refine pz HT_.out 11 (some 44) Mk214_ rfl rfl ?_
         refine pz HT_.out 12 (some 45) Mk215_ rfl rfl ?_
         refine pz HT_.out 13 (some 46) Mk216_ rfl rfl ?_
         refine pz HT_.out 15 (some 48) Mk217_ rfl rfl ?_
         refine tz HT_.out HW_.out 14 (some 47) Mk218_ rfl rfl hHeld ?_
         refine one_ (i := 16) (N := some 49) Mk219_ rfl rfl (one_of HT_.out (by kernel_rfl)) (by decide) (fun K hK => ?_)
         refine goes_ Try.func28 (by kernel_rfl) rfl #[.slice A1 ss.length c1, .int .i64 (vn : Int)] (by rfl) rfl rfl (by simp only [List.map_toArray, List.map_cons, List.map_nil]; rfl) ?_
         with_reducible refine (HCT.out _ (show Below WW.heap.size WW WW.drew from below_drew1 (Below.refl _ _))).mono ?_
         rintro e_ wc16 ⟨rfl, hB⟩
         have HBc16 := Zd.mk (show Below WW.heap.size WW wc16 from (below_drew1 (Below.refl _ _)).trans hB)
         clear hB hHeld
         refine ⟨_, rfl, ?_⟩
         refine hK.out _ _ ⟨(pb_ HBc16.out k0), (pb_ HBc16.out k1)⟩ (fun hHeld => ?_)
         clear hK K
         refine norm_ (a' := ?_) ?_ ?_
         rotate_left
         ·show Act.put _ (some 49) _ = _
          simp only [Act.put, List.setIfInBounds_toArray, List.set_cons_zero, List.set_cons_succ, i64_w, i32_w]
          rfl
         refine pz HT_.out 17 (some 50) Mk220_ rfl rfl ?_
         refine pz HT_.out 18 (some 51) Mk221_ rfl rfl ?_
         refine pz HT_.out 19 (some 52) Mk222_ rfl rfl ?_
         refine pz HT_.out 20 (some 53) Mk223_ rfl rfl ?_
         refine pz HT_.out 21 (some 54) Mk224_ rfl rfl ?_
         refine pz HT_.out 22 (some 55) Mk225_ rfl rfl ?_
         refine pz HT_.out 23 (some 56) Mk226_ rfl rfl ?_
         refine pu HT_.out 24 (some 57) Mk227_ rfl rfl ?_
         refine pu HT_.out 25 (some 58) Mk228_ rfl rfl ?_
         refine pu HT_.out 26 (some 59) Mk229_ rfl rfl ?_
         refine pu HT_.out 27 (some 60) Mk230_ rfl rfl ?_
         refine pu HT_.out 28 (some 61) Mk231_ rfl rfl ?_
         refine pu HT_.out 29 (some 62) Mk232_ rfl rfl ?_
         refine pu HT_.out 30 (some 63) Mk233_ rfl rfl ?_
         refine pu HT_.out 31 (some 64) Mk234_ rfl rfl ?_
         refine pu HT_.out 32 (some 65) Mk235_ rfl rfl ?_
         refine pu HT_.out 33 (some 66) Mk236_ rfl rfl ?_
         refine pu HT_.out 34 (some 67) Mk237_ rfl rfl ?_
         refine pu HT_.out 35 (some 68) Mk238_ rfl rfl ?_
         refine pz HT_.out 36 (some 69) Mk239_ rfl rfl ?_
         refine pz HT_.out 37 (some 70) Mk240_ rfl rfl ?_
         refine done_ (done_of HT_.out (by kernel_rfl)) ?_
         clear hHeld HT_ HW_
         obtain ⟨WZ, hWZ⟩ : ∃ W : World, W = wc16 := ⟨_, rfl⟩
         have HZ := Zd.mk (show Below WW.heap.size WW WZ from hWZ ▸ HBc16.out)
         have HZ3 := Zd.mk (HBL.out.trans (HZ.out.mono HBL.out.size))
         rw [← hWZ]
         clear hWZ
         have j0 := pb_ HZ.out k0
         obtain ⟨adl, el, zl⟩ := int_at (Kd.C_below H0.out HB4.out) hvl
         subst el
         have jl := pb_ HZ3.out zl
         obtain ⟨lt, hlt⟩ : ∃ y, y = ls.getD vn 0 := ⟨_, rfl⟩
         rw [← hlt] at jl zl
         have HLT := Zd.mk hlt
         clear hlt
         have hvl2 : (vn : Int) < (ls.length : Int) := by omega
         have HVZ := Zd.mk (Kd.R_below HV.out HZ.out)
         clear zl za k0
         go_wp2_with ((with_reducible refine gate_builtin (b := .append) (xs := #[.tmp 72, .tmp 78]) rfl ?_); at_builtin; refine Kd.R_append (Kd.int .u32) (w0 := W3) W3.heap.size rfl (.tmp 72) (.tmp 78) 22 48 (.int .u32 0) 4 rfl huu infoU32 rfl (by decide) (by omega) u9 sofar lt [.int .u32 lt] (fun _ => True) (fun _ => False) rfl rfl ?aP (fun _ hk => hk.elim) ?aF ?aO ?aB ?aS ?aL ?_; (case aP => exact rfl); (case aF => exact (fun _ _ => trivial)); (case aO => exact (by (with_reducible repeat (first | apply Kd.R_alloc | apply Kd.R_drewN | apply Kd.R_drew)); exact HVZ.out)); (case aB => exact (by repeat (first | (with_reducible first | exact HZ3.out | apply below_alloc) | exact HZ3.out))); (case aS => exact (by have := HZ3.out.size; simp; omega)); (case aL => omega); intro v9 w9 ho hb hg hat; have HV3 := Zd.mk ho; have HB9 := Zd.mk hb; clear ho hb hg hat)
         go_roundg (gk - 1)
         case measure => have := HI.out; omega
         case rel =>
          refine ⟨i + 1, by have := HI.out; omega, by first | rfl | (congr 1; go_num; done), ⟨by rw [HSN.out, Int.toNat_natCast, ← HLT.out]; exact HV3.out⟩, HB9, ⟨fun q hq => ?_⟩⟩
          rcases Nat.lt_succ_iff_lt_or_eq.1 hq with h | h
          ·exact HOKS.out q h
          ·rw [h]; exact HOKT.out
       ·rw [if_neg g3] at HOE
        obtain ⟨j, hj⟩ : ∃ j, i = j + 1 := ⟨i - 1, by omega⟩
        have hpr := walk_range (HOKS.out j (by omega))
        rw [show i - 1 = j by omega] at HOE
        obtain ⟨ad', e', zp0⟩ := int_at HCA.out (show j < all.length by omega)
        cases e'
        obtain ⟨pn, hpn⟩ : ∃ n : Nat, all.getD j 0 = (n : Int) := ⟨(all.getD j 0).toNat, by omega⟩
        rw [hpn] at hpr zp0 HOE
        rw [Int.toNat_natCast] at HOE
        have ka := pb_ HBL.out zp0
        have hpl : pn < nxs.length := by have := HGO.out.nn; omega
        obtain ⟨adn, Ar, cr, e, kr0, lr, hCr⟩ := row_at (Kd.C_below H2.out HBA.out) hpl
        subst e
        have hsub : IntKind.i64.wrap ((i : Int) - 1) = (j : Int) := by rw [hj]; exact (i64_w _).trans (by rw [show (((j + 1 : Nat) : Int) - 1) = (j : Int) by omega]; exact w64n (by omega))
        have d3' : ((i : Int) == 0) = false := beq_eq_false_iff_ne.2 (by omega)
        have d4' : decide (0 < i) = true := decide_eq_true (by omega)
        have hjl2 : (j : Int) < (all.length : Int) := by omega
        have hpl2 : (pn : Int) < (nxs.length : Int) := by omega
        obtain ⟨row, hrow⟩ : ∃ r, r = nxs.getD pn [] := ⟨_, rfl⟩
        rw [← hrow] at kr0 lr hCr HOE
        have kr := kr0
        have HCT := Zd.mk (fun W (hb : Below WW.heap.size WW W) => Contains_calls row (vn : Int) Ar cr W (Kd.C_below hCr hb) lr)
        cases hct : row.contains (vn : Int) with
        | false =>
         rw [hct] at HCT HOE
         have HE := Zd.mk (HWI.out HOE.out)
         exact absurd (HE.out.symm.trans HTT.out) (by decide)
        | true =>
         rw [hct] at HCT HOE
         have HOKT := HOE
         clear hv g3 hct hrow hj hpn zp0 kr0 hCr hpr
         go_upto_region 8 with fail
         refine start_ (n := 38) (S := fun w' => w'.cell? ⟨gk1, 0, none⟩ = some (.slice A0 ls.length c0) ∧ w'.cell? ⟨gk1, 2, none⟩ = some (.slice (some adn) nxs.length c2) ∧ w'.cell? (ada.add j) = some (.int .i64 (pn : Int)) ∧ w'.cell? (adn.add pn) = some (.slice Ar row.length cr)) (ds := []) Mk202_ (by kernel_rfl) rfl rfl ⟨k0, k2, ka, kr⟩ (fun hHeld => ?_)
         refine with_tabW swo.tab8 swo.bits8 (fun HT_ HW_ => ?_)
         refine pz HT_.out 0 (some 33) Mk203_ rfl rfl ?_
         refine pz HT_.out 1 (some 34) Mk204_ rfl rfl ?_
         refine pz HT_.out 2 (some 35) Mk205_ rfl rfl ?_
         refine pz HT_.out 3 (some 36) Mk206_ rfl rfl ?_
         refine pz HT_.out 4 (some 37) Mk207_ rfl rfl ?_
         refine tz HT_.out HW_.out 5 (some 38) Mk208_ rfl rfl hHeld ?_
         refine pz HT_.out 6 (some 39) Mk209_ rfl rfl ?_
         refine pz HT_.out 7 (some 40) Mk210_ rfl rfl ?_
         refine pz HT_.out 8 (some 41) Mk211_ rfl rfl ?_
         refine pz HT_.out 9 (some 42) Mk212_ rfl rfl ?_
         refine pz HT_.out 10 (some 43) Mk213_ rfl rfl ?_
         refine pz HT_.out 11 (some 44) Mk214_ rfl rfl ?_
         refine pz HT_.out 12 (some 45) Mk215_ rfl rfl ?_
         refine pu HT_.out 13 (some 46) Mk216_ rfl rfl ?_
         refine pu HT_.out 14 (some 47) Mk241_ rfl rfl ?_
         refine pu HT_.out 15 (some 48) Mk218_ rfl rfl ?_
         refine pu HT_.out 16 (some 49) Mk219_ rfl rfl ?_
         refine pu HT_.out 17 (some 50) Mk220_ rfl rfl ?_
         refine pz HT_.out 18 (some 51) Mk221_ rfl rfl ?_
         refine pz HT_.out 19 (some 52) Mk222_ rfl rfl ?_
         refine pz HT_.out 20 (some 53) Mk223_ rfl rfl ?_
         refine pz HT_.out 21 (some 54) Mk224_ rfl rfl ?_
         refine pz HT_.out 22 (some 55) Mk225_ rfl rfl ?_
         refine pz HT_.out 23 (some 56) Mk226_ rfl rfl ?_
         refine pz HT_.out 24 (some 57) Mk227_ rfl rfl ?_
         refine pz HT_.out 26 (some 59) Mk242_ rfl rfl ?_
         refine pz HT_.out 27 (some 60) Mk243_ rfl rfl ?_
         refine pz HT_.out 28 (some 61) Mk244_ rfl rfl ?_
         refine pz HT_.out 29 (some 62) Mk245_ rfl rfl ?_
         refine pz HT_.out 33 (some 66) Mk246_ rfl rfl ?_
         refine tz HT_.out HW_.out 25 (some 58) Mk247_ rfl rfl hHeld ?_
         refine tz HT_.out HW_.out 30 (some 63) Mk248_ rfl rfl hHeld ?_
         refine pz HT_.out 31 (some 64) Mk249_ rfl rfl ?_
         refine tz HT_.out HW_.out 32 (some 65) Mk236_ rfl rfl hHeld ?_
         refine one_ (i := 34) (N := some 67) Mk237_ rfl rfl (one_of HT_.out (by kernel_rfl)) (by decide) (fun K hK => ?_)
         refine goes_ Try.func28 (by kernel_rfl) rfl #[.slice Ar row.length cr, .int .i64 (vn : Int)] (by rfl) rfl rfl (by simp only [List.map_toArray, List.map_cons, List.map_nil]; rfl) ?_
         with_reducible refine (HCT.out _ (show Below WW.heap.size WW WW.drew from below_drew1 (Below.refl _ _))).mono ?_
         rintro e_ wc34 ⟨rfl, hB⟩
         have HBc34 := Zd.mk (show Below WW.heap.size WW wc34 from (below_drew1 (Below.refl _ _)).trans hB)
         clear hB hHeld
         refine ⟨_, rfl, ?_⟩
         refine hK.out _ _ ⟨(pb_ HBc34.out k0), (pb_ HBc34.out k2), (pb_ HBc34.out ka), (pb_ HBc34.out kr)⟩ (fun hHeld => ?_)
         clear hK K
         refine norm_ (a' := ?_) ?_ ?_
         rotate_left
         ·show Act.put _ (some 67) _ = _
          simp only [Act.put, List.setIfInBounds_toArray, List.set_cons_zero, List.set_cons_succ, i64_w, i32_w]
          rfl
         refine pz HT_.out 35 (some 68) Mk238_ rfl rfl ?_
         refine pz HT_.out 36 (some 69) Mk239_ rfl rfl ?_
         refine pz HT_.out 37 (some 70) Mk240_ rfl rfl ?_
         refine done_ (done_of HT_.out (by kernel_rfl)) ?_
         clear hHeld HT_ HW_
         obtain ⟨WZ, hWZ⟩ : ∃ W : World, W = wc34 := ⟨_, rfl⟩
         have HZ := Zd.mk (show Below WW.heap.size WW WZ from hWZ ▸ HBc34.out)
         have HZ3 := Zd.mk (HBL.out.trans (HZ.out.mono HBL.out.size))
         rw [← hWZ]
         clear hWZ
         have j0 := pb_ HZ.out k0
         obtain ⟨adl, el, zl⟩ := int_at (Kd.C_below H0.out HB4.out) hvl
         subst el
         have jl := pb_ HZ3.out zl
         obtain ⟨lt, hlt⟩ : ∃ y, y = ls.getD vn 0 := ⟨_, rfl⟩
         rw [← hlt] at jl zl
         have HLT := Zd.mk hlt
         clear hlt
         have hvl2 : (vn : Int) < (ls.length : Int) := by omega
         have HVZ := Zd.mk (Kd.R_below HV.out HZ.out)
         clear zl za k0
         go_wp2_with ((with_reducible refine gate_builtin (b := .append) (xs := #[.tmp 72, .tmp 78]) rfl ?_); at_builtin; refine Kd.R_append (Kd.int .u32) (w0 := W3) W3.heap.size rfl (.tmp 72) (.tmp 78) 22 48 (.int .u32 0) 4 rfl huu infoU32 rfl (by decide) (by omega) u9 sofar lt [.int .u32 lt] (fun _ => True) (fun _ => False) rfl rfl ?aP (fun _ hk => hk.elim) ?aF ?aO ?aB ?aS ?aL ?_; (case aP => exact rfl); (case aF => exact (fun _ _ => trivial)); (case aO => exact (by (with_reducible repeat (first | apply Kd.R_alloc | apply Kd.R_drewN | apply Kd.R_drew)); exact HVZ.out)); (case aB => exact (by repeat (first | (with_reducible first | exact HZ3.out | apply below_alloc) | exact HZ3.out))); (case aS => exact (by have := HZ3.out.size; simp; omega)); (case aL => omega); intro v9 w9 ho hb hg hat; have HV3 := Zd.mk ho; have HB9 := Zd.mk hb; clear ho hb hg hat)
         go_roundg (gk - 1)
         case measure => have := HI.out; omega
         case rel =>
          refine ⟨i + 1, by have := HI.out; omega, by first | rfl | (congr 1; go_num; done), ⟨by rw [HSN.out, Int.toNat_natCast, ← HLT.out]; exact HV3.out⟩, HB9, ⟨fun q hq => ?_⟩⟩
          rcases Nat.lt_succ_iff_lt_or_eq.1 hq with h | h
          ·exact HOKS.out q h
          ·rw [h]; exact HOKT.out
    ·have e : i = all.length := by have := HI.out; omega
     subst e
     have hnl := HNL.out
     obtain ⟨WX, rfl⟩ : ∃ W : World, W = WW := ⟨_, rfl⟩
     rw [List.take_length] at HV
     obtain ⟨Al, cl, eAl, hcl, hCl⟩ := Kd.R_reads HV.out
     have hLs : lettersG ls all = lettersG ls st ++ lettersG ls lp := by rw [HALL.out]; unfold lettersG; rw [List.map_append]
     obtain ⟨stl, hstl⟩ : ∃ l, l = lettersG ls st := ⟨_, rfl⟩
     obtain ⟨lpl, hlpl⟩ : ∃ l, l = lettersG ls lp := ⟨_, rfl⟩
     rw [← hstl, ← hlpl] at hLs
     have hsl : stl.length = st.length := by rw [hstl, len_letters]
     have hll : lpl.length = lp.length := by rw [hlpl, len_letters]
     have hnlL : (lettersG ls all).length = st.length + lp.length := by rw [hLs, List.length_append, hsl, hll]
     have hC1 := Kd.C_take (m := st.length) hCl (by omega)
     have hC2 := Kd.C_drop (m := st.length) (c := cl) hCl (by omega) hcl
     rw [hLs, ← hsl, List.take_left] at hC1
     rw [hLs, ← hsl, List.drop_left] at hC2
     obtain ⟨sn, hsn⟩ : ∃ n, n = st.length := ⟨_, rfl⟩
     obtain ⟨ln, hln⟩ : ∃ n, n = lp.length := ⟨_, rfl⟩
     obtain ⟨nl, hnl3⟩ : ∃ n, n = (lettersG ls all).length := ⟨_, rfl⟩
     rw [← hnl3] at eAl hcl
     rw [hsl, ← hsn] at hC2
     obtain ⟨Al2, hAl2⟩ : ∃ A, A = (if cl = sn then Al else Al.map (·.add (sn * (Kd.int .u32).sz))) := ⟨_, rfl⟩
     rw [← hAl2] at hC2
     obtain ⟨iU, hiU, hiU2⟩ := Option.map_eq_some_iff.1 infoU32
     simp only [Prod.mk.injEq] at hiU2
     have hcut1 := cut_to (P := Try.prog) 22 48 .i64 huu hiU Al nl cl (sn : Int) (Int.natCast_nonneg _) (by omega) hcl
     have hcut2 := cut_from (P := Try.prog) 22 48 .i64 huu hiU 1 hiU2.2.1 Al nl cl (sn : Int) (Int.natCast_nonneg _) (by omega)
     rw [Int.toNat_natCast] at hcut1 hcut2
     rw [show (if cl = sn then Al else Al.map (·.add (sn * 1))) = Al2 from hAl2.symm, show nl - sn = ln by omega] at hcut2
     obtain ⟨cl2, hcl2⟩ : ∃ c, c = cl - sn := ⟨_, rfl⟩
     rw [← hcl2] at hcut2
     have HCL1 := Zd.mk (fun W (hb : Below WX.heap.size WX W) => show Calls Try.prog 29 #[.slice Al sn cl] W (fun e w' => ∃ A c, e = .returned (.slice A sn c) ∧ Kd.R (Kd.int .u32) 48 w' W.heap.size (fun _ => True) (.slice A sn c) stl ∧ Below W.heap.size W w') from by
      have h := Clone_calls Al cl stl W (Kd.C_below hC1 hb) (by omega)
      rw [hsl, ← hsn] at h
      refine h.mono ?_
      rintro e w' ⟨v, rfl, hR, hB⟩
      obtain ⟨A, c, e2, _, _⟩ := Kd.R_reads hR
      subst e2
      rw [hsl, ← hsn] at hR ⊢
      exact ⟨A, c, rfl, hR, hB⟩)
     have HCL2 := Zd.mk (fun W (hb : Below WX.heap.size WX W) => show Calls Try.prog 29 #[.slice Al2 ln cl2] W (fun e w' => ∃ A c, e = .returned (.slice A ln c) ∧ Kd.R (Kd.int .u32) 48 w' W.heap.size (fun _ => True) (.slice A ln c) lpl ∧ Below W.heap.size W w') from by
      have h := Clone_calls Al2 cl2 lpl W (Kd.C_below hC2 hb) (by omega)
      rw [hll, ← hln] at h
      refine h.mono ?_
      rintro e w' ⟨v, rfl, hR, hB⟩
      obtain ⟨A, c, e2, _, _⟩ := Kd.R_reads hR
      subst e2
      rw [hll, ← hln] at hR ⊢
      exact ⟨A, c, rfl, hR, hB⟩)
     have HLEN := Zd.mk (And.intro (hsl.trans hsn.symm) (hll.trans hln.symm))
     have HSTL := Zd.mk hstl
     have HLPL := Zd.mk hlpl
     have HWB2 := Zd.mk (show wb = ((nxs.getD (all.getD (all.length - 1) 0).toNat []).contains (lp.getD 0 0) && wordS stl lpl) from by
      rw [HWB.out, decide_eq_true e1, show decide (lp ≠ []) = true from decide_eq_true (List.length_pos_iff.1 HL1.out), show walkB ls ss nxs all = true from all_take HOKS.out, Bool.true_and, Bool.true_and, Bool.true_and, hstl, hlpl])
     subst eAl
     have hslB : (sn : Int) ≤ (nl : Int) := by omega
     have HNN := Zd.mk (show 0 < all.length by have := HL1.out; omega)
     rw [← hsn]
     have HSN0 := Zd.mk hsn
     have HLN0 := Zd.mk hln
     clear hsn hln hCl hLs hstl hlpl hsl hll hnlL hC1 hC2 hnl3 hAl2 hiU hiU2 hcl2 hnl
     have BW := Zd.mk (below_drew1 (Below.refl WX.heap.size WX))
     go_upto_region 12 with fail
     refine start_ (n := 13) (S := fun w' => True) (ds := []) Mk9_ (by kernel_rfl) rfl rfl trivial (fun hHeld => ?_)
     refine with_tabW swo.tab12 swo.bits12 (fun HT_ HW_ => ?_)
     refine inv_at [0, 1, 2, 3, 4, 5, 6, 7, 8, 9, 10, 11, 12] (fun a0_ b a w' => ∃ (A4 : Option Addr) (c4 : Nat) (A9 : Option Addr) (c9 : Nat) (g11 : Nat) (m4_ : Value) (m9_ : Value) (m10_ : Value) (m11_ : Value), a = putSel a0_ b [(0, 81, .slice Al nl cl), (1, 82, .slice B1 sn d1), (2, 83, .int .i64 (sn : Int)), (3, 84, .slice Al sn cl), (4, 85, m4_), (5, 86, .slice Al nl cl), (6, 87, .slice B1 sn d1), (7, 88, .int .i64 (sn : Int)), (8, 89, .slice Al2 ln cl2), (9, 90, m9_), (10, 91, m10_), (11, 12, m11_)] ∧ (Below WX.heap.size WX w') ∧ (b 4 = true → Kd.R (Kd.int .u32) 48 w' WX.heap.size (fun _ => True) (.slice A4 sn c4) stl) ∧ (b 9 = true → Kd.R (Kd.int .u32) 48 w' WX.heap.size (fun _ => True) (.slice A9 ln c9) lpl) ∧ (b 11 = true → b 12 = false → Lay WX w' g11 #[.slice none 0 0, .slice none 0 0] 40) ∧ (b 12 = true → Lay WX w' g11 #[.slice A4 sn c4, .slice A9 ln c9] 40) ∧ (b 4 = true → (m4_ : Value) = .slice A4 sn c4) ∧ (b 9 = true → (m9_ : Value) = .slice A9 ln c9) ∧ (b 10 = true → (m10_ : Value) = .agg #[.slice A4 sn c4, .slice A9 ln c9]) ∧ (b 11 = true → (m11_ : Value) = .pointer (some ⟨g11, 0, none⟩))) HT_.out HW_.out (by kernel_rfl) (by kernel_rfl) ?_ ?_ ?_
     ·exact ⟨none, 0, none, 0, 0, .bool false, .bool false, .bool false, .bool false, by simp only [putSel, Bool.false_eq_true, if_false], BW.out, fun h_ => absurd h_ (by decide), fun h_ => absurd h_ (by decide), fun h_ => absurd h_ (by decide), fun h_ => absurd h_ (by decide), fun h_ => absurd h_ (by decide), fun h_ => absurd h_ (by decide), fun h_ => absurd h_ (by decide), fun h_ => absurd h_ (by decide)⟩
     ·skip
      clear BW
      refine steps_cons ?_ ?_
      ·rintro b a w' ⟨A4, c4, A9, c9, g11, m4_, m9_, m10_, m11_, ha, Q_BW, Q_R4, Q_R9, Q_P11, Q_S12, Q_X4_, Q_X9_, Q_X10_, Q_X11_⟩ hb_ hon hoff
       refine ⟨_, rfl, fun K hK => ?_⟩
       have e9 : a.tmps[9]? = some (.slice Al nl cl) := by rw [ha]; exact (putSel_off rfl).trans rfl
       replace ha := Zd.mk ha
       have BW := Zd.mk Q_BW
       refine value_ (w1 := w') (v := .slice Al nl cl) (by rfl) rfl ?_ ?_
       ·go_simp
        (try simp only [i64_w])
        try rfl
       refine hK.out _ _ ⟨A4, c4, A9, c9, g11, m4_, m9_, m10_, m11_, (by rw [ha.out]; exact putSel_upk 0 hb_ rfl rfl rfl), Q_BW, fun h0_ => no_ (hoff 4 (by kernel_rfl)) h0_, fun h0_ => no_ (hoff 9 (by kernel_rfl)) h0_, Q_P11, fun h0_ => no_ (hoff 12 (by kernel_rfl)) h0_, fun h0_ => no_ (hoff 4 (by kernel_rfl)) h0_, fun h0_ => no_ (hoff 9 (by kernel_rfl)) h0_, fun h0_ => no_ (hoff 10 (by kernel_rfl)) h0_, Q_X11_⟩
      refine steps_cons ?_ ?_
      ·rintro b a w' ⟨A4, c4, A9, c9, g11, m4_, m9_, m10_, m11_, ha, Q_BW, Q_R4, Q_R9, Q_P11, Q_S12, Q_X4_, Q_X9_, Q_X10_, Q_X11_⟩ hb_ hon hoff
       refine ⟨_, rfl, fun K hK => ?_⟩
       have e1 : a.tmps[1]? = some (.slice B1 sn d1) := by rw [ha]; exact (putSel_off rfl).trans rfl
       replace ha := Zd.mk ha
       have BW := Zd.mk Q_BW
       refine value_ (w1 := w') (v := .slice B1 sn d1) (by rfl) rfl ?_ ?_
       ·go_simp
        (try simp only [i64_w])
        try rfl
       refine hK.out _ _ ⟨A4, c4, A9, c9, g11, m4_, m9_, m10_, m11_, (by rw [ha.out]; exact putSel_upk 1 hb_ rfl rfl rfl), Q_BW, fun h0_ => no_ (hoff 4 (by kernel_rfl)) h0_, fun h0_ => no_ (hoff 9 (by kernel_rfl)) h0_, Q_P11, fun h0_ => no_ (hoff 12 (by kernel_rfl)) h0_, fun h0_ => no_ (hoff 4 (by kernel_rfl)) h0_, fun h0_ => no_ (hoff 9 (by kernel_rfl)) h0_, fun h0_ => no_ (hoff 10 (by kernel_rfl)) h0_, Q_X11_⟩
      refine steps_cons ?_ ?_
      ·rintro b a w' ⟨A4, c4, A9, c9, g11, m4_, m9_, m10_, m11_, ha, Q_BW, Q_R4, Q_R9, Q_P11, Q_S12, Q_X4_, Q_X9_, Q_X10_, Q_X11_⟩ hb_ hon hoff
       refine ⟨_, rfl, fun K hK => ?_⟩
       have e82 : a.tmps[82]? = some (.slice B1 sn d1) := by rw [ha]; exact putSel_on (e := (1, 82, .slice B1 sn d1)) 1 rfl rfl (hon 1 (by kernel_rfl)) rfl
       replace ha := Zd.mk ha
       have BW := Zd.mk Q_BW
       refine value_ (w1 := w') (v := .int .i64 (sn : Int)) (by rfl) rfl ?_ ?_
       ·go_simp
        (try simp only [i64_w])
        try rfl
       refine hK.out _ _ ⟨A4, c4, A9, c9, g11, m4_, m9_, m10_, m11_, (by rw [ha.out]; exact putSel_upk 2 hb_ rfl rfl rfl), Q_BW, fun h0_ => no_ (hoff 4 (by kernel_rfl)) h0_, fun h0_ => no_ (hoff 9 (by kernel_rfl)) h0_, Q_P11, fun h0_ => no_ (hoff 12 (by kernel_rfl)) h0_, fun h0_ => no_ (hoff 4 (by kernel_rfl)) h0_, fun h0_ => no_ (hoff 9 (by kernel_rfl)) h0_, fun h0_ => no_ (hoff 10 (by kernel_rfl)) h0_, Q_X11_⟩
      refine steps_cons ?_ ?_
      ·rintro b a w' ⟨A4, c4, A9, c9, g11, m4_, m9_, m10_, m11_, ha, Q_BW, Q_R4, Q_R9, Q_P11, Q_S12, Q_X4_, Q_X9_, Q_X10_, Q_X11_⟩ hb_ hon hoff
       refine ⟨_, rfl, fun K hK => ?_⟩
       have e81 : a.tmps[81]? = some (.slice Al nl cl) := by rw [ha]; exact putSel_on (e := (0, 81, .slice Al nl cl)) 0 rfl rfl (hon 0 (by kernel_rfl)) rfl
       have e83 : a.tmps[83]? = some (.int .i64 (sn : Int)) := by rw [ha]; exact putSel_on (e := (2, 83, .int .i64 (sn : Int))) 2 rfl rfl (hon 2 (by kernel_rfl)) rfl
       replace ha := Zd.mk ha
       have BW := Zd.mk Q_BW
       refine value_ (w1 := w') (v := .slice Al sn cl) (by rfl) rfl ?_ ?_
       ·go_simp
        (try simp only [i64_w])
        try rfl
       refine hK.out _ _ ⟨A4, c4, A9, c9, g11, m4_, m9_, m10_, m11_, (by rw [ha.out]; exact putSel_upk 3 hb_ rfl rfl rfl), Q_BW, fun h0_ => no_ (hoff 4 (by kernel_rfl)) h0_, fun h0_ => no_ (hoff 9 (by kernel_rfl)) h0_, Q_P11, fun h0_ => no_ (hoff 12 (by kernel_rfl)) h0_, fun h0_ => no_ (hoff 4 (by kernel_rfl)) h0_, fun h0_ => no_ (hoff 9 (by kernel_rfl)) h0_, fun h0_ => no_ (hoff 10 (by kernel_rfl)) h0_, Q_X11_⟩
      refine steps_cons ?_ ?_
      ·rintro b a w' ⟨A4, c4, A9, c9, g11, m4_, m9_, m10_, m11_, ha, Q_BW, Q_R4, Q_R9, Q_P11, Q_S12, Q_X4_, Q_X9_, Q_X10_, Q_X11_⟩ hb_ hon hoff
       refine ⟨_, rfl, fun K hK => ?_⟩
       have e84 : a.tmps[84]? = some (.slice Al sn cl) := by rw [ha]; exact putSel_on (e := (3, 84, .slice Al sn cl)) 3 rfl rfl (hon 3 (by kernel_rfl)) rfl
       replace ha := Zd.mk ha
       have BW := Zd.mk Q_BW
       refine goes_ Try.func29 (by kernel_rfl) rfl #[.slice Al sn cl] (by rfl) rfl rfl (by first | (simp only [List.map_toArray, List.map_cons, List.map_nil, Act.eval, Array.getD_eq_getD_getElem?, Option.getD_some, e84]; done) | (simp only [List.map_toArray, List.map_cons, List.map_nil, Act.eval, Array.getD_eq_getD_getElem?, Option.getD_some, e84]; rfl)) ?_
       with_reducible refine (HCL1.out _ BW.out).mono ?_
       rintro e_ w1 ⟨A4_, c4_, rfl, hR, hB⟩
       refine ⟨_, rfl, ?_⟩
       refine hK.out _ _ ⟨A4_, c4_, A9, c9, g11, (.slice A4_ sn c4_), m9_, m10_, m11_, (by rw [ha.out]; exact putSel_upk 4 hb_ rfl rfl rfl), BW.out.trans (hB.mono BW.out.size), fun _ => Kd.R_lower hR BW.out.size, fun h0_ => no_ (hoff 9 (by kernel_rfl)) h0_, fun h0_ h1_ => (Q_P11 h0_ h1_).below hB, fun h0_ => no_ (hoff 12 (by kernel_rfl)) h0_, fun _ => rfl, fun h0_ => no_ (hoff 9 (by kernel_rfl)) h0_, fun h0_ => no_ (hoff 10 (by kernel_rfl)) h0_, Q_X11_⟩
      refine steps_cons ?_ ?_
      ·rintro b a w' ⟨A4, c4, A9, c9, g11, m4_, m9_, m10_, m11_, ha, Q_BW, Q_R4, Q_R9, Q_P11, Q_S12, Q_X4_, Q_X9_, Q_X10_, Q_X11_⟩ hb_ hon hoff
       refine ⟨_, rfl, fun K hK => ?_⟩
       have e9 : a.tmps[9]? = some (.slice Al nl cl) := by rw [ha]; exact (putSel_off rfl).trans rfl
       replace ha := Zd.mk ha
       have BW := Zd.mk Q_BW
       refine value_ (w1 := w') (v := .slice Al nl cl) (by rfl) rfl ?_ ?_
       ·go_simp
        (try simp only [i64_w])
        try rfl
       refine hK.out _ _ ⟨A4, c4, A9, c9, g11, m4_, m9_, m10_, m11_, (by rw [ha.out]; exact putSel_upk 5 hb_ rfl rfl rfl), Q_BW, Q_R4, fun h0_ => no_ (hoff 9 (by kernel_rfl)) h0_, Q_P11, fun h0_ => no_ (hoff 12 (by kernel_rfl)) h0_, Q_X4_, fun h0_ => no_ (hoff 9 (by kernel_rfl)) h0_, fun h0_ => no_ (hoff 10 (by kernel_rfl)) h0_, Q_X11_⟩
      refine steps_cons ?_ ?_
      ·rintro b a w' ⟨A4, c4, A9, c9, g11, m4_, m9_, m10_, m11_, ha, Q_BW, Q_R4, Q_R9, Q_P11, Q_S12, Q_X4_, Q_X9_, Q_X10_, Q_X11_⟩ hb_ hon hoff
       refine ⟨_, rfl, fun K hK => ?_⟩
       have e1 : a.tmps[1]? = some (.slice B1 sn d1) := by rw [ha]; exact (putSel_off rfl).trans rfl
       replace ha := Zd.mk ha
       have BW := Zd.mk Q_BW
       refine value_ (w1 := w') (v := .slice B1 sn d1) (by rfl) rfl ?_ ?_
       ·go_simp
        (try simp only [i64_w])
        try rfl
       refine hK.out _ _ ⟨A4, c4, A9, c9, g11, m4_, m9_, m10_, m11_, (by rw [ha.out]; exact putSel_upk 6 hb_ rfl rfl rfl), Q_BW, Q_R4, fun h0_ => no_ (hoff 9 (by kernel_rfl)) h0_, Q_P11, fun h0_ => no_ (hoff 12 (by kernel_rfl)) h0_, Q_X4_, fun h0_ => no_ (hoff 9 (by kernel_rfl)) h0_, fun h0_ => no_ (hoff 10 (by kernel_rfl)) h0_, Q_X11_⟩
      refine steps_cons ?_ ?_
      ·rintro b a w' ⟨A4, c4, A9, c9, g11, m4_, m9_, m10_, m11_, ha, Q_BW, Q_R4, Q_R9, Q_P11, Q_S12, Q_X4_, Q_X9_, Q_X10_, Q_X11_⟩ hb_ hon hoff
       refine ⟨_, rfl, fun K hK => ?_⟩
       have e87 : a.tmps[87]? = some (.slice B1 sn d1) := by rw [ha]; exact putSel_on (e := (6, 87, .slice B1 sn d1)) 6 rfl rfl (hon 6 (by kernel_rfl)) rfl
       replace ha := Zd.mk ha
       have BW := Zd.mk Q_BW
       refine value_ (w1 := w') (v := .int .i64 (sn : Int)) (by rfl) rfl ?_ ?_
       ·go_simp
        (try simp only [i64_w])
        try rfl
       refine hK.out _ _ ⟨A4, c4, A9, c9, g11, m4_, m9_, m10_, m11_, (by rw [ha.out]; exact putSel_upk 7 hb_ rfl rfl rfl), Q_BW, Q_R4, fun h0_ => no_ (hoff 9 (by kernel_rfl)) h0_, Q_P11, fun h0_ => no_ (hoff 12 (by kernel_rfl)) h0_, Q_X4_, fun h0_ => no_ (hoff 9 (by kernel_rfl)) h0_, fun h0_ => no_ (hoff 10 (by kernel_rfl)) h0_, Q_X11_⟩
      refine steps_cons ?_ ?_
      ·rintro b a w' ⟨A4, c4, A9, c9, g11, m4_, m9_, m10_, m11_, ha, Q_BW, Q_R4, Q_R9, Q_P11, Q_S12, Q_X4_, Q_X9_, Q_X10_, Q_X11_⟩ hb_ hon hoff
       refine ⟨_, rfl, fun K hK => ?_⟩
       have e86 : a.tmps[86]? = some (.slice Al nl cl) := by rw [ha]; exact putSel_on (e := (5, 86, .slice Al nl cl)) 5 rfl rfl (hon 5 (by kernel_rfl)) rfl
       have e88 : a.tmps[88]? = some (.int .i64 (sn : Int)) := by rw [ha]; exact putSel_on (e := (7, 88, .int .i64 (sn : Int))) 7 rfl rfl (hon 7 (by kernel_rfl)) rfl
       replace ha := Zd.mk ha
       have BW := Zd.mk Q_BW
       refine value_ (w1 := w') (v := .slice Al2 ln cl2) (by rfl) rfl ?_ ?_
       ·go_simp
        (try simp only [i64_w])
        try rfl
       refine hK.out _ _ ⟨A4, c4, A9, c9, g11, m4_, m9_, m10_, m11_, (by rw [ha.out]; exact putSel_upk 8 hb_ rfl rfl rfl), Q_BW, Q_R4, fun h0_ => no_ (hoff 9 (by kernel_rfl)) h0_, Q_P11, fun h0_ => no_ (hoff 12 (by kernel_rfl)) h0_, Q_X4_, fun h0_ => no_ (hoff 9 (by kernel_rfl)) h0_, fun h0_ => no_ (hoff 10 (by kernel_rfl)) h0_, Q_X11_⟩
      refine steps_cons ?_ ?_
      ·rintro b a w' ⟨A4, c4, A9, c9, g11, m4_, m9_, m10_, m11_, ha, Q_BW, Q_R4, Q_R9, Q_P11, Q_S12, Q_X4_, Q_X9_, Q_X10_, Q_X11_⟩ hb_ hon hoff
       refine ⟨_, rfl, fun K hK => ?_⟩
       have e89 : a.tmps[89]? = some (.slice Al2 ln cl2) := by rw [ha]; exact putSel_on (e := (8, 89, .slice Al2 ln cl2)) 8 rfl rfl (hon 8 (by kernel_rfl)) rfl
       replace ha := Zd.mk ha
       have BW := Zd.mk Q_BW
       have R4 := Zd.mk (Q_R4 (hon 4 (by kernel_rfl)))
       refine goes_ Try.func29 (by kernel_rfl) rfl #[.slice Al2 ln cl2] (by rfl) rfl rfl (by first | (simp only [List.map_toArray, List.map_cons, List.map_nil, Act.eval, Array.getD_eq_getD_getElem?, Option.getD_some, e89]; done) | (simp only [List.map_toArray, List.map_cons, List.map_nil, Act.eval, Array.getD_eq_getD_getElem?, Option.getD_some, e89]; rfl)) ?_
       with_reducible refine (HCL2.out _ BW.out).mono ?_
       rintro e_ w1 ⟨A9_, c9_, rfl, hR, hB⟩
       refine ⟨_, rfl, ?_⟩
       refine hK.out _ _ ⟨A4, c4, A9_, c9_, g11, m4_, (.slice A9_ ln c9_), m10_, m11_, (by rw [ha.out]; exact putSel_upk 9 hb_ rfl rfl rfl), BW.out.trans (hB.mono BW.out.size), fun _ => Kd.R_below R4.out hB, fun _ => Kd.R_lower hR BW.out.size, fun h0_ h1_ => (Q_P11 h0_ h1_).below hB, fun h0_ => no_ (hoff 12 (by kernel_rfl)) h0_, Q_X4_, fun _ => rfl, fun h0_ => no_ (hoff 10 (by kernel_rfl)) h0_, Q_X11_⟩
      refine steps_cons ?_ ?_
      ·rintro b a w' ⟨A4, c4, A9, c9, g11, m4_, m9_, m10_, m11_, ha, Q_BW, Q_R4, Q_R9, Q_P11, Q_S12, Q_X4_, Q_X9_, Q_X10_, Q_X11_⟩ hb_ hon hoff
       refine ⟨_, rfl, fun K hK => ?_⟩
       have e85 : a.tmps[85]? = some (m4_) := by rw [ha]; exact putSel_on (e := (4, 85, m4_)) 4 rfl rfl (hon 4 (by kernel_rfl)) rfl
       rw [Q_X4_ (hon 4 (by kernel_rfl))] at e85
       have e90 : a.tmps[90]? = some (m9_) := by rw [ha]; exact putSel_on (e := (9, 90, m9_)) 9 rfl rfl (hon 9 (by kernel_rfl)) rfl
       rw [Q_X9_ (hon 9 (by kernel_rfl))] at e90
       replace ha := Zd.mk ha
       have BW := Zd.mk Q_BW
       have R4 := Zd.mk (Q_R4 (hon 4 (by kernel_rfl)))
       have R9 := Zd.mk (Q_R9 (hon 9 (by kernel_rfl)))
       refine value_ (w1 := w') (v := .agg #[.slice A4 sn c4, .slice A9 ln c9]) (by rfl) rfl ?_ ?_
       ·go_simp
        (try simp only [i64_w])
        try rfl
       refine hK.out _ _ ⟨A4, c4, A9, c9, g11, m4_, m9_, (.agg #[.slice A4 sn c4, .slice A9 ln c9]), m11_, (by rw [ha.out]; exact putSel_upk 10 hb_ rfl rfl rfl), Q_BW, Q_R4, Q_R9, Q_P11, fun h0_ => no_ (hoff 12 (by kernel_rfl)) h0_, Q_X4_, Q_X9_, fun _ => rfl, Q_X11_⟩
      refine steps_cons ?_ ?_
      ·rintro b a w' ⟨A4, c4, A9, c9, g11, m4_, m9_, m10_, m11_, ha, Q_BW, Q_R4, Q_R9, Q_P11, Q_S12, Q_X4_, Q_X9_, Q_X10_, Q_X11_⟩ hb_ hon hoff
       refine ⟨_, rfl, fun K hK => ?_⟩
       replace ha := Zd.mk ha
       have BW := Zd.mk Q_BW
       refine value_ (w1 := w'.alloc (.cells #[.slice none 0 0, .slice none 0 0] 40)) (v := .pointer (some ⟨w'.heap.size, 0, none⟩)) (by rfl) rfl ?_ ?_
       ·(go_simp; try rfl)
       refine hK.out _ _ ⟨A4, c4, A9, c9, w'.heap.size, m4_, m9_, m10_, (.pointer (some ⟨w'.heap.size, 0, none⟩)), (by rw [ha.out]; exact putSel_upk 11 hb_ rfl rfl rfl), below_alloc BW.out _, fun h0_ => Kd.R_alloc (Q_R4 h0_) _, fun h0_ => Kd.R_alloc (Q_R9 h0_) _, fun _ _ => Lay.new BW.out _ _, fun h0_ => no_ (hoff 12 (by kernel_rfl)) h0_, Q_X4_, Q_X9_, Q_X10_, fun _ => rfl⟩
      refine steps_cons ?_ ?_
      ·rintro b a w' ⟨A4, c4, A9, c9, g11, m4_, m9_, m10_, m11_, ha, Q_BW, Q_R4, Q_R9, Q_P11, Q_S12, Q_X4_, Q_X9_, Q_X10_, Q_X11_⟩ hb_ hon hoff
       refine ⟨_, rfl, fun K hK => ?_⟩
       have e12 : a.tmps[12]? = some (m11_) := by rw [ha]; exact putSel_on (e := (11, 12, m11_)) 11 rfl rfl (hon 11 (by kernel_rfl)) rfl
       rw [Q_X11_ (hon 11 (by kernel_rfl))] at e12
       have e91 : a.tmps[91]? = some (m10_) := by rw [ha]; exact putSel_on (e := (10, 91, m10_)) 10 rfl rfl (hon 10 (by kernel_rfl)) rfl
       rw [Q_X10_ (hon 10 (by kernel_rfl))] at e91
       replace ha := Zd.mk ha
       have BW := Zd.mk Q_BW
       have R4 := Zd.mk (Q_R4 (hon 4 (by kernel_rfl)))
       have R9 := Zd.mk (Q_R9 (hon 9 (by kernel_rfl)))
       have P11 := Zd.mk (Q_P11 (hon 11 (by kernel_rfl)) hb_)
       have z0_ := (bq_ P11.out.2 0).trans rfl
       have z1_ := (bq_ P11.out.2 1).trans rfl
       have f0_ := bz_ P11.out.2 0
       have f1_ := bz_ P11.out.2 1
       refine skip_ (w1 := put2 w' g11 (.slice A4 sn c4) (.slice A9 ln c9)) (by rfl) rfl ?_ ?_
       ·(unfold put2; go_simp; try rfl)
       refine hK.out _ _ ⟨A4, c4, A9, c9, g11, m4_, m9_, m10_, m11_, (by rw [ha.out]; exact putSel_none (v := undef) rfl), below_put2 BW.out P11.out.1 _ _, fun _ => R_put2 R4.out P11.out.2 (by decide) _ _, fun _ => R_put2 R9.out P11.out.2 (by decide) _ _, fun _ h1_ => absurd ((up_self b 12).symm.trans h1_) (by decide), fun _ => P11.out.put2 _ _, Q_X4_, Q_X9_, Q_X10_, Q_X11_⟩
      exact steps_nil
     ·rintro b a w' hall ⟨A4, c4, A9, c9, g11, m4_, m9_, m10_, m11_, ha, Q_BW, Q_R4, Q_R9, Q_P11, Q_S12, Q_X4_, Q_X9_, Q_X10_, Q_X11_⟩
      clear BW
      have hb0_ := hall 0 (by kernel_rfl)
      have hb1_ := hall 1 (by kernel_rfl)
      have hb2_ := hall 2 (by kernel_rfl)
      have hb3_ := hall 3 (by kernel_rfl)
      have hb4_ := hall 4 (by kernel_rfl)
      have hb5_ := hall 5 (by kernel_rfl)
      have hb6_ := hall 6 (by kernel_rfl)
      have hb7_ := hall 7 (by kernel_rfl)
      have hb8_ := hall 8 (by kernel_rfl)
      have hb9_ := hall 9 (by kernel_rfl)
      have hb10_ := hall 10 (by kernel_rfl)
      have hb11_ := hall 11 (by kernel_rfl)
      have hb12_ := hall 12 (by kernel_rfl)
      subst ha
      obtain rfl := Q_X4_ hb4_
      obtain rfl := Q_X9_ hb9_
      obtain rfl := Q_X10_ hb10_
      obtain rfl := Q_X11_ hb11_
      simp only [putSel, hb0_, hb1_, hb2_, hb3_, hb4_, hb5_, hb6_, hb7_, hb8_, hb9_, hb10_, hb11_, hb12_, if_true, Act.put, List.setIfInBounds_toArray, List.set_cons_zero, List.set_cons_succ]
      have BW := Zd.mk Q_BW
      clear Q_BW
      have R4 := Zd.mk (Q_R4 hb4_)
      clear Q_R4
      have R9 := Zd.mk (Q_R9 hb9_)
      clear Q_R9
      clear Q_P11
      have S12 := Zd.mk (Q_S12 hb12_)
      clear Q_S12
      clear hall hb0_ hb1_ hb2_ hb3_ hb4_ hb5_ hb6_ hb7_ hb8_ hb9_ hb10_ hb11_ hb12_
      obtain ⟨WY, rfl⟩ : ∃ W : World, W = w' := ⟨_, rfl⟩
      have HBY := Zd.mk (HBA.out.trans (BW.out.mono HBA.out.size))
      have HBKy := Zd.mk ((BW.out.block _ (blk_lt HBK5.out)).trans HBK5.out)
      have HBWy := Zd.mk ((BW.out.block _ (blk_lt HBW5.out)).trans HBW5.out)
      clear k0 k1 k2 hcut1 hcut2
      obtain ⟨j, hj⟩ : ∃ j, j = all.length - 1 := ⟨_, rfl⟩
      have hjl : j < all.length := by have := HNN.out; omega
      have hpr := walk_range (HOKS.out j hjl)
      obtain ⟨ada, eaa, zp0⟩ := int_at HCA.out hjl
      subst eaa
      obtain ⟨pn, hpn⟩ : ∃ n : Nat, all.getD j 0 = (n : Int) := ⟨(all.getD j 0).toNat, by omega⟩
      rw [hpn] at hpr zp0
      have ka := pb_ (HBL.out.trans (BW.out.mono HBL.out.size)) zp0
      have hpl : pn < nxs.length := by have := HGO.out.nn; omega
      obtain ⟨adn, Ar, cr, ea2, kr, lr, hCr⟩ := row_at (Kd.C_below H2.out HBY.out) hpl
      subst ea2
      have hsub : IntKind.i64.wrap ((all.length : Int) - 1) = (j : Int) := by have := HNN.out; exact (i64_w _).trans (by rw [show ((all.length : Int) - 1) = (j : Int) by omega]; exact w64n (by omega))
      have hjl2 : (j : Int) < (all.length : Int) := by omega
      have hpl2 : (pn : Int) < (nxs.length : Int) := by omega
      obtain ⟨adl, eb2, zl0⟩ := int_at H4.out (show 0 < lp.length from HL1.out)
      subst eb2
      have hall0 : okAt ls ss nxs all st.length = true := HOKS.out _ (by have := HNL.out; have := HL1.out; omega)
      have hlp0 : all.getD st.length 0 = lp.getD 0 0 := by rw [HALL.out, List.getD_eq_getElem?_getD, List.getElem?_append_right (Nat.le_refl _), Nat.sub_self, List.getD_eq_getElem?_getD]
      have hv0 := walk_range hall0
      rw [hlp0] at hv0
      obtain ⟨vn, hvn⟩ : ∃ n : Nat, lp.getD 0 0 = (n : Int) := ⟨(lp.getD 0 0).toNat, by omega⟩
      rw [hvn] at zl0
      have kl := pb_ HBY.out zl0
      rw [show adl.add 0 = adl by cases adl; simp [Addr.add]] at kl
      have k2 : WY.cell? ⟨gk1, 2, none⟩ = some (.slice (some adn) nxs.length c2) := (bq_ HBKy.out 2).trans rfl
      have kw0 : WY.cell? ⟨g11, 0, none⟩ = some (.slice A4 sn c4) := (bq_ S12.out.2 0).trans rfl
      have kw1 : WY.cell? ⟨g11, 1, none⟩ = some (.slice A9 ln c9) := (bq_ S12.out.2 1).trans rfl
      have hL0 : (0 : Int) < (lp.length : Int) := by have := HL1.out; omega
      have hL0n : 0 < lp.length := HL1.out
      have HWB3 := Zd.mk (show wb = ((nxs.getD pn []).contains (vn : Int) && wordS stl lpl) from by rw [HWB2.out, ← hj, hpn, Int.toNat_natCast, hvn])
      obtain ⟨row, hrow⟩ : ∃ r, r = nxs.getD pn [] := ⟨_, rfl⟩
      rw [← hrow] at kr lr hCr HWB3
      have HCT := Zd.mk (fun W (hb : Below WY.heap.size WY W) => Contains_calls row (vn : Int) Ar cr W (Kd.C_below hCr hb) lr)
      have HMW := Zd.mk (fun W (hb : Below WY.heap.size WY W) => show Calls Try.prog 30 #[.agg #[.slice A4 sn c4, .slice A9 ln c9]] W (fun e w' => e = .returned (.bool (wordS stl lpl)) ∧ Below W.heap.size W w') from by
       have r4 := Kd.R_reads' (Kd.R_below R4.out hb)
       have r9 := Kd.R_reads' (Kd.R_below R9.out hb)
       have h := formula_MayWord.calls A4 c4 stl A9 c9 lpl (wordS stl lpl) W r4.2.2 (by have := r4.2.1; have := r4.1; omega) r9.2.2 (by have := r9.2.1; have := r9.1; omega) (mayWord_some stl lpl)
       rw [HLEN.out.1, HLEN.out.2] at h
       exact h)
      clear hj hpr zp0 hpn hall0 hlp0 hv0 hvn zl0 hrow hCr
      cases hct : row.contains (vn : Int) with
      | false =>
       rw [hct] at HCT HWB3
       have HE := Zd.mk (HWB3.out.trans (Bool.false_and _))
       exact absurd (HE.out.symm.trans HTT.out) (by decide)
      | true =>
       rw [hct] at HCT HWB3
       cases hmw : wordS stl lpl with
       | false =>
        rw [hmw] at HMW HWB3
        have HE := Zd.mk (HWB3.out.trans (Bool.and_false _))
        exact absurd (HE.out.symm.trans HTT.out) (by decide)
       | true =>
        rw [hmw] at HMW HWB3
        have HE := Zd.mk (HWB3.out.trans (Bool.and_true _))
        clear hct hmw
        go_upto_region 13 with fail
        refine start_ (n := 20) (S := fun w' => w'.cell? ⟨gk1, 2, none⟩ = some (.slice (some adn) nxs.length c2) ∧ w'.cell? (ada.add j) = some (.int .i64 (pn : Int)) ∧ w'.cell? (adn.add pn) = some (.slice Ar row.length cr) ∧ w'.cell? adl = some (.int .i64 (vn : Int)) ∧ w'.cell? ⟨g11, 0, none⟩ = some (.slice A4 sn c4) ∧ w'.cell? ⟨g11, 1, none⟩ = some (.slice A9 ln c9)) (ds := []) Mk23_ (by kernel_rfl) rfl rfl ⟨k2, ka, kr, kl, kw0, kw1⟩ (fun hHeld => ?_)
        refine with_tabW swo.tab13 swo.bits13 (fun HT_ HW_ => ?_)
        refine pz HT_.out 0 (some 92) Mk24_ rfl rfl ?_
        refine pz HT_.out 2 (some 94) Mk250_ rfl rfl ?_
        refine pz HT_.out 3 (some 95) Mk251_ rfl rfl ?_
        refine pz HT_.out 4 (some 96) Mk252_ rfl rfl ?_
        refine pz HT_.out 5 (some 97) Mk253_ rfl rfl ?_
        refine pz HT_.out 6 (some 98) Mk254_ rfl rfl ?_
        refine pz HT_.out 10 (some 102) Mk255_ rfl rfl ?_
        refine pz HT_.out 11 (some 103) Mk256_ rfl rfl ?_
        refine tz HT_.out HW_.out 1 (some 93) Mk257_ rfl rfl hHeld ?_
        refine tz HT_.out HW_.out 7 (some 99) Mk258_ rfl rfl hHeld ?_
        refine pz HT_.out 8 (some 100) Mk259_ rfl rfl ?_
        refine tz HT_.out HW_.out 9 (some 101) Mk260_ rfl rfl hHeld ?_
        refine tz HT_.out HW_.out 12 (some 104) Mk261_ rfl rfl hHeld ?_
        refine one_ (i := 13) (N := some 105) Mk262_ rfl rfl (one_of HT_.out (by kernel_rfl)) (by decide) (fun K hK => ?_)
        refine goes_ Try.func28 (by kernel_rfl) rfl #[.slice Ar row.length cr, .int .i64 (vn : Int)] (by rfl) rfl rfl (by simp only [List.map_toArray, List.map_cons, List.map_nil]; rfl) ?_
        with_reducible refine (HCT.out _ (show Below WY.heap.size WY WY.drew from below_drew1 (Below.refl _ _))).mono ?_
        rintro e_ wc13 ⟨rfl, hB⟩
        have HBc13 := Zd.mk (show Below WY.heap.size WY wc13 from (below_drew1 (Below.refl _ _)).trans hB)
        clear hB hHeld
        refine ⟨_, rfl, ?_⟩
        refine hK.out _ _ ⟨(pb_ HBc13.out k2), (pb_ HBc13.out ka), (pb_ HBc13.out kr), (pb_ HBc13.out kl), (pb_ HBc13.out kw0), (pb_ HBc13.out kw1)⟩ (fun hHeld => ?_)
        clear hK K
        refine norm_ (a' := ?_) ?_ ?_
        rotate_left
        ·show Act.put _ (some 105) _ = _
         simp only [Act.put, List.setIfInBounds_toArray, List.set_cons_zero, List.set_cons_succ, i64_w, i32_w]
         rfl
        refine pz HT_.out 14 (some 106) Mk263_ rfl rfl ?_
        refine pz HT_.out 15 (some 107) Mk60_ rfl rfl ?_
        refine tz HT_.out HW_.out 16 (some 108) Mk61_ rfl rfl hHeld ?_
        refine one_ (i := 17) (N := some 109) Mk62_ rfl rfl (one_of HT_.out (by kernel_rfl)) (by decide) (fun K hK => ?_)
        refine goes_ Try.func30 (by kernel_rfl) rfl #[.agg #[.slice A4 sn c4, .slice A9 ln c9]] (by rfl) rfl rfl (by simp only [List.map_toArray, List.map_cons, List.map_nil]; rfl) ?_
        with_reducible refine (HMW.out _ HBc13.out).mono ?_
        rintro e_ wc17 ⟨rfl, hB⟩
        have HBc17 := Zd.mk (show Below WY.heap.size WY wc17 from HBc13.out.trans (hB.mono HBc13.out.size))
        clear hB hHeld
        refine ⟨_, rfl, ?_⟩
        refine hK.out _ _ ⟨(pb_ HBc17.out k2), (pb_ HBc17.out ka), (pb_ HBc17.out kr), (pb_ HBc17.out kl), (pb_ HBc17.out kw0), (pb_ HBc17.out kw1)⟩ (fun hHeld => ?_)
        clear hK K
        refine norm_ (a' := ?_) ?_ ?_
        rotate_left
        ·show Act.put _ (some 109) _ = _
         simp only [Act.put, List.setIfInBounds_toArray, List.set_cons_zero, List.set_cons_succ, i64_w, i32_w]
         rfl
        refine pz HT_.out 18 (some 110) Mk63_ rfl rfl ?_
        refine pz HT_.out 19 (some 111) Mk64_ rfl rfl ?_
        refine done_ (done_of HT_.out (by kernel_rfl)) ?_
        clear hHeld HT_ HW_
        have HBWz := Zd.mk ((HBc17.out.block _ (blk_lt HBWy.out)).trans HBWy.out)
        have HSz := Zd.mk ((HBc17.out.block _ (blk_lt S12.out.2)).trans S12.out.2)
        have R4z := Zd.mk (Kd.R_below R4.out HBc17.out)
        have R9z := Zd.mk (Kd.R_below R9.out HBc17.out)
        have q0 : wc17.cell? ⟨g6, 0, none⟩ = some (.slice none 0 0) := (bq_ HBWz.out 0).trans rfl
        have q1 : wc17.cell? ⟨g6, 1, none⟩ = some (.slice none 0 0) := (bq_ HBWz.out 1).trans rfl
        have f0 : wc17.frozen? ⟨g6, 0, none⟩ = false := bz_ HBWz.out 0
        have f1 : wc17.frozen? ⟨g6, 1, none⟩ = false := bz_ HBWz.out 1
        have q2 : wc17.cell? ⟨g11, 0, none⟩ = some (.slice A4 sn c4) := (bq_ HSz.out 0).trans rfl
        have q3 : wc17.cell? ⟨g11, 1, none⟩ = some (.slice A9 ln c9) := (bq_ HSz.out 1).trans rfl
        clear k2 ka kr kl kw0 kw1
        go_wp2
        have r0 : ((wc17.setCell ⟨g6, 0, none⟩ (.slice A4 sn c4)).setCell ⟨g6, 1, none⟩ (.slice A9 ln c9)).cell? ⟨g6, 0, none⟩ = some (.slice A4 sn c4) := (bq_ (blk_set (blk_set HBWz.out 0 _) 1 _) 0).trans rfl
        have r1 : ((wc17.setCell ⟨g6, 0, none⟩ (.slice A4 sn c4)).setCell ⟨g6, 1, none⟩ (.slice A9 ln c9)).cell? ⟨g6, 1, none⟩ = some (.slice A9 ln c9) := (bq_ (blk_set (blk_set HBWz.out 0 _) 1 _) 1).trans rfl
        refine bodyPost_ret (v := .tuple #[.agg #[.slice A4 sn c4, .slice A9 ln c9], .bool true]) (by simp [results, Try.results13, go_sem, r0, r1]) rfl ?_
        rw [← HSTL.out, ← HLPL.out]
        exact ⟨_, _, rfl, Kd.R_lower (R_put2 R4z.out HBWz.out (by decide) _ _) HBA.out.size, Kd.R_lower (R_put2 R9z.out HBWz.out (by decide) _ _) HBA.out.size, (Below.setCell (HBY.out.trans (HBc17.out.mono HBY.out.size)) HG6.out _).setCell HG6.out _⟩
 ·have HE := Zd.mk (show wb = false from by rw [HWB.out, decide_eq_false e1, Bool.false_and])
  exact absurd (HE.out.symm.trans HTT.out) (by decide)
end Go.Proofs.Ytapejnikpmfddaa.X
