/- A part of the claim SearchWords. -/
import Derived.Test.YtapejnikpmfddaaQSearchWordsr
namespace Go.Proofs.Ytapejnikpmfddaa.X
open Go.RowKit Go.Proofs.YtapejnikpmfddaaW.PrintWords Go.Proofs.YtapejnikpmfddaaW.PrintLast Go.Proofs.YtapejnikpmfddaaW.PrintMore
open Go.Proofs.Ytapejnikpmfddaa.P Go.Proofs.Ytapejnikpmfddaa.Evx
set_option linter.unusedSimpArgs false
set_option linter.unusedVariables false
def svw.T1 : Bool × List (List Nat × List Nat) := (true, [([], []), ([], []), ([0, 1, 1], [0, 1]), ([2], [2]), ([3, 2], [3]), ([4], [4]), ([5, 4], [4, 5]), ([6, 4], [4, 6]), ([4, 7], [4, 7]), ([8, 4], [8]), ([9], [9]), ([10, 9], [9, 10]), ([11, 9], [9, 11]), ([9, 12], [9, 12])])
def svw.B1 : List Nat := [0, 0, 3, 7, 15, 31, 63, 127, 255, 511, 1023, 2047, 4095, 8191]
theorem svw.tab1 : rtab .any (opsOf Try.f4 1) = svw.T1 := by kernel_rfl
theorem svw.bits1 : waitsOk svw.T1.2 svw.B1 = true := by kernel_rfl
theorem bool_eq {a b : Bool} (h1 : a = true → b = true) (h2 : b = true → a = true) : a = b := by
 cases a <;> cases b <;> first | rfl | exact absurd (h1 rfl) (by decide) | exact absurd (h2 rfl) (by decide)
theorem ok_iff (ls ss : List Int) (nxs : List (List Int)) (all : List Int) (i : Nat) : okAt ls ss nxs all i = true ↔ (0 ≤ all.getD i 0 ∧ all.getD i 0 < (ls.length : Int) ∧ (i = 0 → ss.contains (all.getD i 0) = true) ∧ (i ≠ 0 → (nxs.getD (all.getD (i - 1) 0).toNat []).contains (all.getD i 0) = true)) := by
 unfold okAt
 by_cases h1 : all.getD i 0 < 0
 ·rw [if_pos h1]; constructor
  ·intro h; cases h
  ·intro h; omega
 ·rw [if_neg h1]
  by_cases h2 : (ls.length : Int) ≤ all.getD i 0
  ·rw [if_pos h2]; constructor
   ·intro h; cases h
   ·intro h; omega
  ·rw [if_neg h2]
   by_cases h3 : i = 0
   ·rw [if_pos h3]
    exact ⟨fun h => ⟨by omega, by omega, fun _ => h, fun k => absurd h3 k⟩, fun h => h.2.2.1 h3⟩
   ·rw [if_neg h3]
    exact ⟨fun h => ⟨by omega, by omega, fun k => absurd k h3, fun _ => h⟩, fun h => h.2.2.2 h3⟩
theorem rok_iff (ls ss : List Int) (nxs : List (List Int)) (all lp : List Int) (i : Nat) : rokAt ls ss nxs all lp i = true ↔ (0 ≤ all.getD i 0 ∧ all.getD i 0 < (ls.length : Int) ∧ (i = 0 → ss.contains (all.getD i 0) = true) ∧ (nxs.getD (all.getD i 0).toNat []).contains (aftAt all lp i) = true) := by
 unfold rokAt
 by_cases h1 : all.getD i 0 < 0
 ·rw [if_pos h1]; constructor
  ·intro h; cases h
  ·intro h; omega
 ·rw [if_neg h1]
  by_cases h2 : (ls.length : Int) ≤ all.getD i 0
  ·rw [if_pos h2]; constructor
   ·intro h; cases h
   ·intro h; omega
  ·rw [if_neg h2]
   by_cases h3 : i = 0 ∧ ss.contains (all.getD i 0) = false
   ·rw [if_pos h3]; constructor
    ·intro h; cases h
    ·intro h
     have := h.2.2.1 h3.1
     rw [h3.2] at this; cases this
   ·rw [if_neg h3]
    refine ⟨fun h => ⟨by omega, by omega, fun k => ?_, h⟩, fun h => h.2.2.2⟩
    cases e : ss.contains (all.getD i 0) with
    | true => rfl
    | false => exact absurd ⟨k, e⟩ h3
theorem word_same (ls ss : List Int) (nxs : List (List Int)) (st lp : List Int) : wordB ls ss nxs st lp = rwordB ls ss nxs st lp := by
 have hall : (st ++ lp).length = st.length + lp.length := List.length_append
 have hls : (lettersG ls st).length = st.length := len_letters ls st
 have hll : (lettersG ls lp).length = lp.length := len_letters ls lp
 apply bool_eq
 ·intro h
  unfold wordB walkB wordS at h
  simp only [Bool.and_eq_true, decide_eq_true_eq, List.all_eq_true, List.mem_range] at h
  obtain ⟨h1, h2, h3, h4, h5⟩ := h
  rw [hls, hll] at h5
  have hp := List.length_pos_iff.2 h2
  unfold rwordB
  simp only [Bool.and_eq_true, decide_eq_true_eq, List.all_eq_true, List.mem_range]
  refine ⟨h1, h2, h5.1, h5.2.2, fun i hi => ?_⟩
  have hi1 := (ok_iff ls ss nxs (st ++ lp) i).1 (h3 i hi)
  refine (rok_iff ls ss nxs (st ++ lp) lp i).2 ⟨hi1.1, hi1.2.1, hi1.2.2.1, ?_⟩
  unfold aftAt
  by_cases hn : i + 1 < (st ++ lp).length
  ·rw [if_pos hn]
   exact ((ok_iff ls ss nxs (st ++ lp) (i + 1)).1 (h3 (i + 1) hn)).2.2.2 (by omega)
  ·rw [if_neg hn]
   rw [show (st ++ lp).length - 1 = i by omega] at h4
   exact h4
 ·intro h
  unfold rwordB at h
  simp only [Bool.and_eq_true, decide_eq_true_eq, List.all_eq_true, List.mem_range] at h
  obtain ⟨h1, h2, h3, h4, h5⟩ := h
  have hp := List.length_pos_iff.2 h2
  unfold wordB walkB wordS
  simp only [Bool.and_eq_true, decide_eq_true_eq, List.all_eq_true, List.mem_range]
  refine ⟨h1, h2, fun i hi => ?_, ?_, ?_⟩
  ·have hi1 := (rok_iff ls ss nxs (st ++ lp) lp i).1 (h5 i hi)
   refine (ok_iff ls ss nxs (st ++ lp) i).2 ⟨hi1.1, hi1.2.1, hi1.2.2.1, fun h0 => ?_⟩
   have hj := ((rok_iff ls ss nxs (st ++ lp) lp (i - 1)).1 (h5 (i - 1) (by omega))).2.2.2
   unfold aftAt at hj
   rw [if_pos (by omega), show i - 1 + 1 = i by omega] at hj
   exact hj
  ·have hj := ((rok_iff ls ss nxs (st ++ lp) lp ((st ++ lp).length - 1)).1 (h5 _ (by omega))).2.2.2
   unfold aftAt at hj
   rw [if_neg (by omega)] at hj
   exact hj
  ·rw [hls, hll]; omega
theorem len_wordR (ls l : List Int) (b : Bool) : (wordR ls b l).length ≤ l.length := by
 unfold wordR
 split
 ·rw [len_letters]; exact Nat.le_refl _
 ·exact Nat.zero_le _
theorem u32_get {w : World} {A : Option Addr} {n : Nat} {xs : List Int} (h : Kd.C (Kd.int .u32) w A n xs) {j : Nat} (hj : j < n) : ∃ ad, A = some ad ∧ w.cell? (ad.add j) = some (.int .u32 (xs.getD j 0)) := int_at h hj
set_option maxHeartbeats 6400000 in
set_option maxRecDepth 100000 in
theorem searchWords_walk (ls ss : List Int) (nxs : List (List Int)) (st lp : List Int) (A0 A1 A2 B1 B2 : Option Addr) (c0 c1 c2 d1 d2 : Nat) (w : World) (b0 : ls.length < 4611686018427387904) (b1 : ss.length < 4611686018427387904) (b2 : nxs.length < 1000000000000000)
  (h0 : Kd.C (Kd.int .u32) w A0 ls.length ls) (l0 : ls.length ≤ c0) (h1 : Kd.C (Kd.int .i64) w A1 ss.length ss) (l1 : ss.length ≤ c1) (h2 : Kd.C (Kd.slice 3 (Kd.int .i64)) w A2 nxs.length nxs) (l2 : nxs.length ≤ c2)
  (h3 : Kd.C (Kd.int .i64) w B1 st.length st) (l3 : st.length ≤ d1) (h4 : Kd.C (Kd.int .i64) w B2 lp.length lp) (l4 : lp.length ≤ d2) :
  Calls Try.prog 4 #[.agg #[.slice A0 ls.length c0, .slice A1 ss.length c1, .slice A2 nxs.length c2], .slice B1 st.length d1, .slice B2 lp.length d2] w fun e w' => e = .returned (.bool true) ∧ Below w.heap.size w w' := by
 have huK := Try.underlying26
 have huW := Try.underlying40
 have huF := Try.underlying29
 have huu := Try.underlying22
 have hui := Try.underlying23
 have huii := Try.underlying24
 obtain ⟨n, hn, _⟩ := heavy24_ev ls ss nxs ⟨2, 0, []⟩ b0 b1 b2
 obtain ⟨kh, hkh⟩ := hn.rounds
 obtain ⟨W2, hW2⟩ : ∃ W2, W2 = w.alloc (.cells #[.slice A0 ls.length c0, .slice A1 ss.length c1, .slice A2 nxs.length c2] 26) := ⟨_, rfl⟩
 have hB2 : Below w.heap.size w W2 := by rw [hW2]; exact below_alloc (Below.refl _ _) _
 have hbk : W2.heap[w.heap.size]? = some (.cells #[.slice A0 ls.length c0, .slice A1 ss.length c1, .slice A2 nxs.length c2] 26 (0, 0)) := by rw [hW2]; exact heap_alloc_new w _
 obtain ⟨gk1, hgk⟩ : ∃ k, k = w.heap.size := ⟨_, rfl⟩
 rw [← hgk] at hbk
 have k0 : W2.cell? ⟨gk1, 0, none⟩ = some (.slice A0 ls.length c0) := (bq_ hbk 0).trans rfl
 have k1 : W2.cell? ⟨gk1, 1, none⟩ = some (.slice A1 ss.length c1) := (bq_ hbk 1).trans rfl
 have k2 : W2.cell? ⟨gk1, 2, none⟩ = some (.slice A2 nxs.length c2) := (bq_ hbk 2).trans rfl
 have HAT := Zd.mk (fun W (hb : Below W2.heap.size W2 W) => atom_calls 0 W)
 have HHV := Zd.mk (fun W (hb : Below W2.heap.size W2 W) => show Calls Try.prog 7 #[.agg #[.slice A0 ls.length c0, .slice A1 ss.length c1, .slice A2 nxs.length c2], .agg #[.int .i64 2, .int .i64 0, .slice none 0 0]] W (fun e w' => e = .returned (.int .i64 n) ∧ Below W.heap.size W w') from
  parrylaw24_Heavy.calls kh A0 c0 ls A1 c1 ss A2 c2 nxs 2 0 none 0 [] n W (Kd.C_below h0 (hB2.trans (hb.mono hB2.size))) l0 (Kd.C_below h1 (hB2.trans (hb.mono hB2.size))) l1 (Kd.C_below h2 (hB2.trans (hb.mono hB2.size))) l2 (Kd.C_nil _ _) (Nat.le_refl _) hkh)
 have HBK := Zd.mk hbk
 have HB2 := Zd.mk hB2
 have H0 := Zd.mk h0
 have H1 := Zd.mk h1
 have H2 := Zd.mk h2
 have H3 := Zd.mk h3
 have H4 := Zd.mk h4
 clear h0 h1 h2 h3 h4 hbk hB2 hkh hn
 by_cases g1 : n > 0
 ·have t1 : decide ((0 : Int) < n) = true := decide_eq_true g1
  go_enter Try.func4, Try.ntmps4
  go_upto_region 1 with fail
  rw [← hW2, ← hgk]
  clear hW2 hgk
  refine start_ (n := 14) (S := fun w' => w'.cell? ⟨gk1, 0, none⟩ = some (.slice A0 ls.length c0) ∧ w'.cell? ⟨gk1, 1, none⟩ = some (.slice A1 ss.length c1) ∧ w'.cell? ⟨gk1, 2, none⟩ = some (.slice A2 nxs.length c2)) (ds := []) Mk152_ (by kernel_rfl) rfl rfl ⟨k0, k1, k2⟩ (fun hHeld => ?_)
  refine with_tabW svw.tab1 svw.bits1 (fun HT_ HW_ => ?_)
  refine tz HT_.out HW_.out 0 (some 13) Mk153_ rfl rfl hHeld ?_
  refine one_ (i := 1) (N := some 14) Mk154_ rfl rfl (one_of HT_.out (by kernel_rfl)) (by decide) (fun K hK => ?_)
  refine goes_ Try.func15 (by kernel_rfl) rfl #[.int .i64 0] (by rfl) rfl rfl (by simp only [List.map_toArray, List.map_cons, List.map_nil]; rfl) ?_
  with_reducible refine (HAT.out _ (show Below W2.heap.size W2 W2.drew from below_drew1 (Below.refl _ _))).mono ?_
  rintro e_ wc1 ⟨rfl, hB⟩
  have HBc1 := Zd.mk (show Below W2.heap.size W2 wc1 from (below_drew1 (Below.refl _ _)).trans hB)
  clear hB hHeld
  refine ⟨_, rfl, ?_⟩
  refine hK.out _ _ ⟨(pb_ HBc1.out k0), (pb_ HBc1.out k1), (pb_ HBc1.out k2)⟩ (fun hHeld => ?_)
  clear hK K
  refine norm_ (a' := ?_) ?_ ?_
  rotate_left
  ·show Act.put _ (some 14) _ = _
   simp only [Act.put, List.setIfInBounds_toArray, List.set_cons_zero, List.set_cons_succ, i64_w, i32_w]
   rfl
  refine one_ (i := 2) (N := some 15) Mk155_ rfl rfl (one_of HT_.out (by kernel_rfl)) (by decide) (fun K hK => ?_)
  refine goes_ Try.func7 (by kernel_rfl) rfl #[.agg #[.slice A0 ls.length c0, .slice A1 ss.length c1, .slice A2 nxs.length c2], .agg #[.int .i64 2, .int .i64 0, .slice none 0 0]] (by rfl) rfl rfl (by simp only [List.map_toArray, List.map_cons, List.map_nil]; rfl) ?_
  with_reducible refine (HHV.out _ HBc1.out).mono ?_
  rintro e_ wc2 ⟨rfl, hB⟩
  have HBc2 := Zd.mk (show Below W2.heap.size W2 wc2 from HBc1.out.trans (hB.mono HBc1.out.size))
  clear hB hHeld
  refine ⟨_, rfl, ?_⟩
  refine hK.out _ _ ⟨(pb_ HBc2.out k0), (pb_ HBc2.out k1), (pb_ HBc2.out k2)⟩ (fun hHeld => ?_)
  clear hK K
  refine norm_ (a' := ?_) ?_ ?_
  rotate_left
  ·show Act.put _ (some 15) _ = _
   simp only [Act.put, List.setIfInBounds_toArray, List.set_cons_zero, List.set_cons_succ, i64_w, i32_w]
   rfl
  refine pz HT_.out 3 (some 16) Mk276_ rfl rfl ?_
  refine pz HT_.out 4 (some 17) Mk277_ rfl rfl ?_
  refine pu HT_.out 5 (some 18) Mk278_ rfl rfl ?_
  refine pu HT_.out 6 (some 19) Mk279_ rfl rfl ?_
  refine pu HT_.out 7 (some 20) Mk280_ rfl rfl ?_
  refine pz HT_.out 8 (some 21) Mk281_ rfl rfl ?_
  refine pz HT_.out 9 (some 22) Mk162_ rfl rfl ?_
  refine pu HT_.out 10 (some 23) Mk163_ rfl rfl ?_
  refine pu HT_.out 11 (some 24) Mk164_ rfl rfl ?_
  refine pu HT_.out 12 (some 25) Mk165_ rfl rfl ?_
  refine pz HT_.out 13 (some 26) Mk166_ rfl rfl ?_
  refine done_ (done_of HT_.out (by kernel_rfl)) ?_
  clear hHeld HT_ HW_
  go_wp2_with (go_at_call 10; refine (awake_calls _).mono ?_; rintro e w9 ⟨rfl, hB⟩; have HB9 := Zd.mk hB; clear hB)
  go_ret
  exact ⟨rfl, HB2.out.trans ((HBc2.out.trans (HB9.out.mono HBc2.out.size)).mono HB2.out.size)⟩
 ·have t1 : decide ((0 : Int) < n) = false := decide_eq_false g1
  by_cases g2 : 100 < st.length
  ·have t2 : decide (100 < (st.length : Int)) = true := decide_eq_true (by omega)
   go_enter Try.func4, Try.ntmps4
   go_upto_region 1 with fail
   rw [← hW2, ← hgk]
   clear hW2 hgk
   refine start_ (n := 14) (S := fun w' => w'.cell? ⟨gk1, 0, none⟩ = some (.slice A0 ls.length c0) ∧ w'.cell? ⟨gk1, 1, none⟩ = some (.slice A1 ss.length c1) ∧ w'.cell? ⟨gk1, 2, none⟩ = some (.slice A2 nxs.length c2)) (ds := []) Mk152_ (by kernel_rfl) rfl rfl ⟨k0, k1, k2⟩ (fun hHeld => ?_)
   refine with_tabW svw.tab1 svw.bits1 (fun HT_ HW_ => ?_)
   refine tz HT_.out HW_.out 0 (some 13) Mk153_ rfl rfl hHeld ?_
   refine one_ (i := 1) (N := some 14) Mk154_ rfl rfl (one_of HT_.out (by kernel_rfl)) (by decide) (fun K hK => ?_)
   refine goes_ Try.func15 (by kernel_rfl) rfl #[.int .i64 0] (by rfl) rfl rfl (by simp only [List.map_toArray, List.map_cons, List.map_nil]; rfl) ?_
   with_reducible refine (HAT.out _ (show Below W2.heap.size W2 W2.drew from below_drew1 (Below.refl _ _))).mono ?_
   rintro e_ wc1 ⟨rfl, hB⟩
   have HBc1 := Zd.mk (show Below W2.heap.size W2 wc1 from (below_drew1 (Below.refl _ _)).trans hB)
   clear hB hHeld
   refine ⟨_, rfl, ?_⟩
   refine hK.out _ _ ⟨(pb_ HBc1.out k0), (pb_ HBc1.out k1), (pb_ HBc1.out k2)⟩ (fun hHeld => ?_)
   clear hK K
   refine norm_ (a' := ?_) ?_ ?_
   rotate_left
   ·show Act.put _ (some 14) _ = _
    simp only [Act.put, List.setIfInBounds_toArray, List.set_cons_zero, List.set_cons_succ, i64_w, i32_w]
    rfl
   refine one_ (i := 2) (N := some 15) Mk155_ rfl rfl (one_of HT_.out (by kernel_rfl)) (by decide) (fun K hK => ?_)
   refine goes_ Try.func7 (by kernel_rfl) rfl #[.agg #[.slice A0 ls.length c0, .slice A1 ss.length c1, .slice A2 nxs.length c2], .agg #[.int .i64 2, .int .i64 0, .slice none 0 0]] (by rfl) rfl rfl (by simp only [List.map_toArray, List.map_cons, List.map_nil]; rfl) ?_
   with_reducible refine (HHV.out _ HBc1.out).mono ?_
   rintro e_ wc2 ⟨rfl, hB⟩
   have HBc2 := Zd.mk (show Below W2.heap.size W2 wc2 from HBc1.out.trans (hB.mono HBc1.out.size))
   clear hB hHeld
   refine ⟨_, rfl, ?_⟩
   refine hK.out _ _ ⟨(pb_ HBc2.out k0), (pb_ HBc2.out k1), (pb_ HBc2.out k2)⟩ (fun hHeld => ?_)
   clear hK K
   refine norm_ (a' := ?_) ?_ ?_
   rotate_left
   ·show Act.put _ (some 15) _ = _
    simp only [Act.put, List.setIfInBounds_toArray, List.set_cons_zero, List.set_cons_succ, i64_w, i32_w]
    rfl
   refine pz HT_.out 3 (some 16) Mk276_ rfl rfl ?_
   refine pz HT_.out 4 (some 17) Mk277_ rfl rfl ?_
   refine pz HT_.out 5 (some 18) Mk278_ rfl rfl ?_
   refine pz HT_.out 6 (some 19) Mk279_ rfl rfl ?_
   refine pz HT_.out 7 (some 20) Mk280_ rfl rfl ?_
   refine pz HT_.out 8 (some 21) Mk281_ rfl rfl ?_
   refine pz HT_.out 9 (some 22) Mk162_ rfl rfl ?_
   refine pu HT_.out 10 (some 23) Mk163_ rfl rfl ?_
   refine pu HT_.out 11 (some 24) Mk164_ rfl rfl ?_
   refine pu HT_.out 12 (some 25) Mk165_ rfl rfl ?_
   refine pz HT_.out 13 (some 26) Mk166_ rfl rfl ?_
   refine done_ (done_of HT_.out (by kernel_rfl)) ?_
   clear hHeld HT_ HW_
   go_wp2_with (go_at_call 10; refine (awake_calls _).mono ?_; rintro e w9 ⟨rfl, hB⟩; have HB9 := Zd.mk hB; clear hB)
   go_ret
   exact ⟨rfl, HB2.out.trans ((HBc2.out.trans (HB9.out.mono HBc2.out.size)).mono HB2.out.size)⟩
  ·have t2 : decide (100 < (st.length : Int)) = false := decide_eq_false (by omega)
   by_cases g3 : 100 < lp.length
   ·have t3 : decide (100 < (lp.length : Int)) = true := decide_eq_true (by omega)
    go_enter Try.func4, Try.ntmps4
    go_upto_region 1 with fail
    rw [← hW2, ← hgk]
    clear hW2 hgk
    refine start_ (n := 14) (S := fun w' => w'.cell? ⟨gk1, 0, none⟩ = some (.slice A0 ls.length c0) ∧ w'.cell? ⟨gk1, 1, none⟩ = some (.slice A1 ss.length c1) ∧ w'.cell? ⟨gk1, 2, none⟩ = some (.slice A2 nxs.length c2)) (ds := []) Mk152_ (by kernel_rfl) rfl rfl ⟨k0, k1, k2⟩ (fun hHeld => ?_)
    refine with_tabW svw.tab1 svw.bits1 (fun HT_ HW_ => ?_)
    refine tz HT_.out HW_.out 0 (some 13) Mk153_ rfl rfl hHeld ?_
    refine one_ (i := 1) (N := some 14) Mk154_ rfl rfl (one_of HT_.out (by kernel_rfl)) (by decide) (fun K hK => ?_)
    refine goes_ Try.func15 (by kernel_rfl) rfl #[.int .i64 0] (by rfl) rfl rfl (by simp only [List.map_toArray, List.map_cons, List.map_nil]; rfl) ?_
    with_reducible refine (HAT.out _ (show Below W2.heap.size W2 W2.drew from below_drew1 (Below.refl _ _))).mono ?_
    rintro e_ wc1 ⟨rfl, hB⟩
    have HBc1 := Zd.mk (show Below W2.heap.size W2 wc1 from (below_drew1 (Below.refl _ _)).trans hB)
    clear hB hHeld
    refine ⟨_, rfl, ?_⟩
    refine hK.out _ _ ⟨(pb_ HBc1.out k0), (pb_ HBc1.out k1), (pb_ HBc1.out k2)⟩ (fun hHeld => ?_)
    clear hK K
    refine norm_ (a' := ?_) ?_ ?_
    rotate_left
    ·show Act.put _ (some 14) _ = _
     simp only [Act.put, List.setIfInBounds_toArray, List.set_cons_zero, List.set_cons_succ, i64_w, i32_w]
     rfl
    refine one_ (i := 2) (N := some 15) Mk155_ rfl rfl (one_of HT_.out (by kernel_rfl)) (by decide) (fun K hK => ?_)
    refine goes_ Try.func7 (by kernel_rfl) rfl #[.agg #[.slice A0 ls.length c0, .slice A1 ss.length c1, .slice A2 nxs.length c2], .agg #[.int .i64 2, .int .i64 0, .slice none 0 0]] (by rfl) rfl rfl (by simp only [List.map_toArray, List.map_cons, List.map_nil]; rfl) ?_
    with_reducible refine (HHV.out _ HBc1.out).mono ?_
    rintro e_ wc2 ⟨rfl, hB⟩
    have HBc2 := Zd.mk (show Below W2.heap.size W2 wc2 from HBc1.out.trans (hB.mono HBc1.out.size))
    clear hB hHeld
    refine ⟨_, rfl, ?_⟩
    refine hK.out _ _ ⟨(pb_ HBc2.out k0), (pb_ HBc2.out k1), (pb_ HBc2.out k2)⟩ (fun hHeld => ?_)
    clear hK K
    refine norm_ (a' := ?_) ?_ ?_
    rotate_left
    ·show Act.put _ (some 15) _ = _
     simp only [Act.put, List.setIfInBounds_toArray, List.set_cons_zero, List.set_cons_succ, i64_w, i32_w]
     rfl
    refine pz HT_.out 3 (some 16) Mk276_ rfl rfl ?_
    refine pz HT_.out 4 (some 17) Mk277_ rfl rfl ?_
    refine pz HT_.out 5 (some 18) Mk278_ rfl rfl ?_
    refine pz HT_.out 6 (some 19) Mk279_ rfl rfl ?_
    refine pz HT_.out 7 (some 20) Mk280_ rfl rfl ?_
    refine pz HT_.out 8 (some 21) Mk281_ rfl rfl ?_
    refine pz HT_.out 9 (some 22) Mk162_ rfl rfl ?_
    refine pz HT_.out 10 (some 23) Mk163_ rfl rfl ?_
    refine pz HT_.out 11 (some 24) Mk164_ rfl rfl ?_
    refine pz HT_.out 12 (some 25) Mk165_ rfl rfl ?_
    refine pz HT_.out 13 (some 26) Mk166_ rfl rfl ?_
    refine done_ (done_of HT_.out (by kernel_rfl)) ?_
    clear hHeld HT_ HW_
    go_wp2_with (go_at_call 10; refine (awake_calls _).mono ?_; rintro e w9 ⟨rfl, hB⟩; have HB9 := Zd.mk hB; clear hB)
    go_ret
    exact ⟨rfl, HB2.out.trans ((HBc2.out.trans (HB9.out.mono HBc2.out.size)).mono HB2.out.size)⟩
   ·have t3 : decide (100 < (lp.length : Int)) = false := decide_eq_false (by omega)
    go_enter Try.func4, Try.ntmps4
    go_upto_region 1 with fail
    rw [← hW2, ← hgk]
    clear hW2 hgk
    refine start_ (n := 14) (S := fun w' => w'.cell? ⟨gk1, 0, none⟩ = some (.slice A0 ls.length c0) ∧ w'.cell? ⟨gk1, 1, none⟩ = some (.slice A1 ss.length c1) ∧ w'.cell? ⟨gk1, 2, none⟩ = some (.slice A2 nxs.length c2)) (ds := []) Mk152_ (by kernel_rfl) rfl rfl ⟨k0, k1, k2⟩ (fun hHeld => ?_)
    refine with_tabW svw.tab1 svw.bits1 (fun HT_ HW_ => ?_)
    refine tz HT_.out HW_.out 0 (some 13) Mk153_ rfl rfl hHeld ?_
    refine one_ (i := 1) (N := some 14) Mk154_ rfl rfl (one_of HT_.out (by kernel_rfl)) (by decide) (fun K hK => ?_)
    refine goes_ Try.func15 (by kernel_rfl) rfl #[.int .i64 0] (by rfl) rfl rfl (by simp only [List.map_toArray, List.map_cons, List.map_nil]; rfl) ?_
    with_reducible refine (HAT.out _ (show Below W2.heap.size W2 W2.drew from below_drew1 (Below.refl _ _))).mono ?_
    rintro e_ wc1 ⟨rfl, hB⟩
    have HBc1 := Zd.mk (show Below W2.heap.size W2 wc1 from (below_drew1 (Below.refl _ _)).trans hB)
    clear hB hHeld
    refine ⟨_, rfl, ?_⟩
    refine hK.out _ _ ⟨(pb_ HBc1.out k0), (pb_ HBc1.out k1), (pb_ HBc1.out k2)⟩ (fun hHeld => ?_)
    clear hK K
    refine norm_ (a' := ?_) ?_ ?_
    rotate_left
    ·show Act.put _ (some 14) _ = _
     simp only [Act.put, List.setIfInBounds_toArray, List.set_cons_zero, List.set_cons_succ, i64_w, i32_w]
     rfl
    refine one_ (i := 2) (N := some 15) Mk155_ rfl rfl (one_of HT_.out (by kernel_rfl)) (by decide) (fun K hK => ?_)
    refine goes_ Try.func7 (by kernel_rfl) rfl #[.agg #[.slice A0 ls.length c0, .slice A1 ss.length c1, .slice A2 nxs.length c2], .agg #[.int .i64 2, .int .i64 0, .slice none 0 0]] (by rfl) rfl rfl (by simp only [List.map_toArray, List.map_cons, List.map_nil]; rfl) ?_
    with_reducible refine (HHV.out _ HBc1.out).mono ?_
    rintro e_ wc2 ⟨rfl, hB⟩
    have HBc2 := Zd.mk (show Below W2.heap.size W2 wc2 from HBc1.out.trans (hB.mono HBc1.out.size))
    clear hB hHeld
    refine ⟨_, rfl, ?_⟩
    refine hK.out _ _ ⟨(pb_ HBc2.out k0), (pb_ HBc2.out k1), (pb_ HBc2.out k2)⟩ (fun hHeld => ?_)
    clear hK K
    refine norm_ (a' := ?_) ?_ ?_
    rotate_left
    ·show Act.put _ (some 15) _ = _
     simp only [Act.put, List.setIfInBounds_toArray, List.set_cons_zero, List.set_cons_succ, i64_w, i32_w]
     rfl
    refine pz HT_.out 3 (some 16) Mk276_ rfl rfl ?_
    refine pz HT_.out 4 (some 17) Mk277_ rfl rfl ?_
    refine pz HT_.out 5 (some 18) Mk278_ rfl rfl ?_
    refine pz HT_.out 6 (some 19) Mk279_ rfl rfl ?_
    refine pz HT_.out 7 (some 20) Mk280_ rfl rfl ?_
    refine pz HT_.out 8 (some 21) Mk281_ rfl rfl ?_
    refine pz HT_.out 9 (some 22) Mk162_ rfl rfl ?_
    refine pz HT_.out 10 (some 23) Mk163_ rfl rfl ?_
    refine pz HT_.out 11 (some 24) Mk164_ rfl rfl ?_
    refine pz HT_.out 12 (some 25) Mk165_ rfl rfl ?_
    refine pz HT_.out 13 (some 26) Mk166_ rfl rfl ?_
    refine done_ (done_of HT_.out (by kernel_rfl)) ?_
    clear hHeld HT_ HW_
    obtain ⟨W3, rfl⟩ : ∃ W : World, W = wc2 := ⟨_, rfl⟩
    have HB3 := Zd.mk (HB2.out.trans (HBc2.out.mono HB2.out.size))
    have HBK3 := Zd.mk ((HBc2.out.block _ (blk_lt HBK.out)).trans HBK.out)
    clear k0 k1 k2 t2 t3
    have k0 : W3.cell? ⟨gk1, 0, none⟩ = some (.slice A0 ls.length c0) := (bq_ HBK3.out 0).trans rfl
    have k1 : W3.cell? ⟨gk1, 1, none⟩ = some (.slice A1 ss.length c1) := (bq_ HBK3.out 1).trans rfl
    have k2 : W3.cell? ⟨gk1, 2, none⟩ = some (.slice A2 nxs.length c2) := (bq_ HBK3.out 2).trans rfl
    have HWD := Zd.mk (fun W (hb : Below W3.heap.size W3 W) => Word_calls ls ss nxs st lp A0 A1 A2 B1 B2 c0 c1 c2 d1 d2 W (Kd.C_below H0.out (HB3.out.trans (hb.mono HB3.out.size))) l0 (Kd.C_below H1.out (HB3.out.trans (hb.mono HB3.out.size))) l1 (Kd.C_below H2.out (HB3.out.trans (hb.mono HB3.out.size))) l2 (Kd.C_below H3.out (HB3.out.trans (hb.mono HB3.out.size))) l3 (Kd.C_below H4.out (HB3.out.trans (hb.mono HB3.out.size))) l4 (by omega))
    have HRW := Zd.mk (fun W (hb : Below W3.heap.size W3 W) => rWord_calls ls ss nxs st lp A0 A1 A2 B1 B2 c0 c1 c2 d1 d2 W (Kd.C_below H0.out (HB3.out.trans (hb.mono HB3.out.size))) l0 (Kd.C_below H1.out (HB3.out.trans (hb.mono HB3.out.size))) l1 (Kd.C_below H2.out (HB3.out.trans (hb.mono HB3.out.size))) l2 (Kd.C_below H3.out (HB3.out.trans (hb.mono HB3.out.size))) l3 (Kd.C_below H4.out (HB3.out.trans (hb.mono HB3.out.size))) l4)
    rw [← word_same ls ss nxs st lp] at HRW
    have ha := len_wordR ls st (wordB ls ss nxs st lp)
    have hb := len_wordR ls lp (wordB ls ss nxs st lp)
    generalize wordR ls (wordB ls ss nxs st lp) st = la at *
    generalize wordR ls (wordB ls ss nxs st lp) lp = lb at *
    generalize wordB ls ss nxs st lp = wb at *
    obtain ⟨na, hna⟩ : ∃ k, k = la.length := ⟨_, rfl⟩
    obtain ⟨nb, hnb⟩ : ∃ k, k = lb.length := ⟨_, rfl⟩
    rw [← hna] at ha
    rw [← hnb] at hb
    have HNA := Zd.mk hna
    have HNB := Zd.mk hnb
    clear hna hnb
    have HBR := Zd.mk (Below.refl W3.heap.size W3)
    go_upto_region 4 with (go_at_call 13; refine (HWD.out _ HBR.out).mono ?_; rintro e w4 ⟨v1, v2, rfl, hR1, hR2, hB⟩; obtain ⟨P1, p1, e1, hp1, hC1⟩ := Kd.R_reads hR1; obtain ⟨P2, p2, e2, hp2, hC2⟩ := Kd.R_reads hR2; rw [← HNA.out] at e1; rw [← HNB.out] at e2; subst e1; subst e2; have HB4 := Zd.mk hB; have HC1 := Zd.mk hC1; have HC2 := Zd.mk hC2; clear hR1 hR2 hC1 hC2 hB)
    obtain ⟨W5, hW5⟩ : ∃ W : World, W = w4.alloc (.cells #[.slice P1 na p1, .slice P2 nb p2] 40) := ⟨_, rfl⟩
    have hB5 : Below w4.heap.size w4 W5 := by rw [hW5]; exact below_alloc (Below.refl _ _) _
    have hb5 : W5.heap[w4.heap.size]? = some (.cells #[.slice P1 na p1, .slice P2 nb p2] 40 (0, 0)) := by rw [hW5]; exact heap_alloc_new w4 _
    obtain ⟨g7, hg7⟩ : ∃ k, k = w4.heap.size := ⟨_, rfl⟩
    rw [← hW5, ← hg7]
    rw [← hg7] at hb5
    have HB35 := Zd.mk (HB4.out.trans (hB5.mono HB4.out.size))
    have HBK5 := Zd.mk ((HB35.out.block _ (blk_lt HBK3.out)).trans HBK3.out)
    have HG7 := Zd.mk hb5
    have HD1 := Zd.mk (Kd.C_below HC1.out hB5)
    have HD2 := Zd.mk (Kd.C_below HC2.out hB5)
    clear k0 k1 k2 hW5 hB5 hb5 hg7
    have k0 : W5.cell? ⟨gk1, 0, none⟩ = some (.slice A0 ls.length c0) := (bq_ HBK5.out 0).trans rfl
    have k1 : W5.cell? ⟨gk1, 1, none⟩ = some (.slice A1 ss.length c1) := (bq_ HBK5.out 1).trans rfl
    have k2 : W5.cell? ⟨gk1, 2, none⟩ = some (.slice A2 nxs.length c2) := (bq_ HBK5.out 2).trans rfl
    go_upto_region 5 with (go_at_call 16; refine (HRW.out _ HB35.out).mono ?_; rintro e w6 ⟨v1, v2, rfl, hR1, hR2, hB⟩; obtain ⟨P3, p3, e1, hp3, hC1⟩ := Kd.R_reads hR1; obtain ⟨P4, p4, e2, hp4, hC2⟩ := Kd.R_reads hR2; rw [← HNA.out] at e1; rw [← HNB.out] at e2; subst e1; subst e2; have HB6 := Zd.mk hB; have HC3 := Zd.mk hC1; have HC4 := Zd.mk hC2; clear hR1 hR2 hC1 hC2 hB)
    obtain ⟨W7, hW7⟩ : ∃ W : World, W = w6.alloc (.cells #[.slice P3 na p3, .slice P4 nb p4] 40) := ⟨_, rfl⟩
    have hB7 : Below w6.heap.size w6 W7 := by rw [hW7]; exact below_alloc (Below.refl _ _) _
    have hb7 : W7.heap[w6.heap.size]? = some (.cells #[.slice P3 na p3, .slice P4 nb p4] 40 (0, 0)) := by rw [hW7]; exact heap_alloc_new w6 _
    obtain ⟨g9, hg9⟩ : ∃ k, k = w6.heap.size := ⟨_, rfl⟩
    rw [← hW7, ← hg9]
    rw [← hg9] at hb7
    have HB57 := Zd.mk (HB6.out.trans (hB7.mono HB6.out.size))
    have HBX := Zd.mk (HB3.out.trans ((HB35.out.trans (HB57.out.mono HB35.out.size)).mono HB3.out.size))
    have HG77 := Zd.mk ((HB57.out.block _ (blk_lt HG7.out)).trans HG7.out)
    have HG97 := Zd.mk hb7
    have E1 := Zd.mk (Kd.C_below HD1.out HB57.out)
    have E2 := Zd.mk (Kd.C_below HD2.out HB57.out)
    have E3 := Zd.mk (Kd.C_below HC3.out hB7)
    have E4 := Zd.mk (Kd.C_below HC4.out hB7)
    rw [← HNA.out] at E1 E3
    rw [← HNB.out] at E2 E4
    clear k0 k1 k2 hW7 hB7 hb7 hg9
    have z0 : W7.cell? ⟨g7, 0, none⟩ = some (.slice P1 na p1) := (bq_ HG77.out 0).trans rfl
    have z1 : W7.cell? ⟨g7, 1, none⟩ = some (.slice P2 nb p2) := (bq_ HG77.out 1).trans rfl
    have z2 : W7.cell? ⟨g9, 0, none⟩ = some (.slice P3 na p3) := (bq_ HG97.out 0).trans rfl
    have z3 : W7.cell? ⟨g9, 1, none⟩ = some (.slice P4 nb p4) := (bq_ HG97.out 1).trans rfl
    have hwb : (wb != wb) = false := by cases wb <;> rfl
    have HZ := Zd.mk (And.intro z0 (And.intro z1 (And.intro z2 z3)))
    go_wp2
    clear z0 z1 z2 z3
    go_loopg [66] na (fun kq v66 w' => ∃ i : Nat, i + kq = na ∧ v66 = .int .i64 (i : Int) ∧ Zd (Below W7.heap.size W7 w'))
    case atStart => exact ⟨0, by omega, rfl, ⟨Below.refl _ _⟩⟩
    case round =>
     obtain ⟨i, hi, rfl, HB8⟩ := hrel
     obtain ⟨WW, rfl⟩ : ∃ W : World, W = wr := ⟨_, rfl⟩
     have HI := Zd.mk hi
     clear hi
     by_cases hil : i < na
     ·obtain ⟨a1, e1, x1⟩ := u32_get E1.out hil
      obtain ⟨a3, e3, x3⟩ := u32_get E3.out hil
      subst e1
      subst e3
      generalize la.getD i 0 = x at *
      have y1 := pb_ HB8.out x1
      have y3 := pb_ HB8.out x3
      have z0 := pb_ HB8.out HZ.out.1
      have z2 := pb_ HB8.out HZ.out.2.2.1
      have hil2 : (i : Int) < (na : Int) := by omega
      have hxx : (x != x) = false := by simp
      go_wp2
      go_quiet (fail)
      go_wp2
      go_roundg (gk - 1)
      case measure => have := HI.out; omega
      case rel => exact ⟨i + 1, by have := HI.out; omega, by first | rfl | (congr 1; go_num; done), ⟨pd_ HB8.out _⟩⟩
     ·have e : i = na := by have := HI.out; omega
      subst e
      obtain ⟨W8, rfl⟩ : ∃ W : World, W = WW := ⟨_, rfl⟩
      have z1 := pb_ HB8.out HZ.out.2.1
      go_wp2
      clear z1
      go_loopg [84] nb (fun kq v84 w' => ∃ j : Nat, j + kq = nb ∧ v84 = .int .i64 (j : Int) ∧ Zd (Below W7.heap.size W7 w'))
      case atStart => exact ⟨0, by omega, rfl, HB8⟩
      case round =>
       obtain ⟨j, hj, rfl, HB9⟩ := hrel
       obtain ⟨WV, rfl⟩ : ∃ W : World, W = wr := ⟨_, rfl⟩
       have HJ := Zd.mk hj
       clear hj
       by_cases hjl : j < nb
       ·obtain ⟨a2, e2, x2⟩ := u32_get E2.out hjl
        obtain ⟨a4, e4, x4⟩ := u32_get E4.out hjl
        subst e2
        subst e4
        generalize lb.getD j 0 = x at *
        have y1 := pb_ HB9.out x2
        have y3 := pb_ HB9.out x4
        have z1 := pb_ HB9.out HZ.out.2.1
        have z3 := pb_ HB9.out HZ.out.2.2.2
        have hjl2 : (j : Int) < (nb : Int) := by omega
        have hxx : (x != x) = false := by simp
        go_wp2
        go_quiet (fail)
        go_wp2
        go_roundg (gk - 1)
        case measure => have := HJ.out; omega
        case rel => exact ⟨j + 1, by have := HJ.out; omega, by first | rfl | (congr 1; go_num; done), ⟨pd_ HB9.out _⟩⟩
       ·have e : j = nb := by have := HJ.out; omega
        subst e
        go_wp2_with (go_at_call 10; refine (awake_calls _).mono ?_; rintro e w9 ⟨rfl, hB⟩; have HB10 := Zd.mk hB; clear hB)
        go_ret
        have hx := HBX.out.trans (HB9.out.mono HBX.out.size)
        exact ⟨rfl, hx.trans (HB10.out.mono hx.size)⟩
def parrylaw24_SearchWords.f (l0_0 : List Int) (l0_1 : List Int) (l0_2 : List (List Int)) (l1 : List Int) (l2 : List Int) : Option Bool := if l0_0.length < 4611686018427387904 ∧ l0_1.length < 4611686018427387904 ∧ l0_2.length < 1000000000000000 then some true else none
theorem parrylaw24_SearchWords.calls (A0_0 : Option Addr) (c0_0 : Nat) (l0_0 : List Int) (A0_1 : Option Addr) (c0_1 : Nat) (l0_1 : List Int) (A0_2 : Option Addr) (c0_2 : Nat) (l0_2 : List (List Int)) (A1 : Option Addr) (c1 : Nat) (l1 : List Int) (A2 : Option Addr) (c2 : Nat) (l2 : List Int) (r : Bool) (w : World) (hr0_0 : Kd.C (Kd.int .u32) w A0_0 l0_0.length l0_0) (hc0_0 : l0_0.length ≤ c0_0) (hr0_1 : Kd.C (Kd.int .i64) w A0_1 l0_1.length l0_1) (hc0_1 : l0_1.length ≤ c0_1) (hr0_2 : Kd.C (Kd.slice 3 (Kd.int .i64)) w A0_2 l0_2.length l0_2) (hc0_2 : l0_2.length ≤ c0_2) (hr1 : Kd.C (Kd.int .i64) w A1 l1.length l1) (hc1 : l1.length ≤ c1) (hr2 : Kd.C (Kd.int .i64) w A2 l2.length l2) (hc2 : l2.length ≤ c2) (h : parrylaw24_SearchWords.f l0_0 l0_1 l0_2 l1 l2 = some r) (hrt : r = true) :
  Calls Try.prog 4 #[.agg #[.slice A0_0 l0_0.length c0_0, .slice A0_1 l0_1.length c0_1, .slice A0_2 l0_2.length c0_2], .slice A1 l1.length c1, .slice A2 l2.length c2] w fun e w' => e = .returned (.bool r) ∧ Below w.heap.size w w' := by
 subst hrt
 unfold parrylaw24_SearchWords.f at h
 split at h
 ·rename_i hb
  exact searchWords_walk l0_0 l0_1 l0_2 l1 l2 A0_0 A0_1 A0_2 A1 A2 c0_0 c0_1 c0_2 c1 c2 w hb.1 hb.2.1 hb.2.2 hr0_0 hc0_0 hr0_1 hc0_1 hr0_2 hc0_2 hr1 hc1 hr2 hc2
 ·cases h
end Go.Proofs.Ytapejnikpmfddaa.X
