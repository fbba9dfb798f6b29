/- A part of the claim FormulaTexts. -/
import Derived.Test.YtjjnokodkeekhaaDoorQFormulaTextsa
import Derived.Test.YtjjnokodkeekhaaDoorQFormulaTextsb
import Derived.Test.YtjjnokodkeekhaaDoorQFormulaTextsc
namespace Go.Proofs.YtjjnokodkeekhaaDoor.P
open Go.RowKit Go.Proofs.YtjjnokodkeekhaaDoorW.PrintWords Go.Proofs.YtjjnokodkeekhaaDoorW.PrintLast Go.Proofs.YtjjnokodkeekhaaDoorW.PrintMore
attribute [local go_sem] max2_int min2_int max_two min_two max_three min_three max_four min_four   -- for this text's walks alone
set_option linter.unusedVariables false
set_option linter.unusedSimpArgs false

open Go.Proofs.YtjjnokodkeekhaaDoor.X
def parrylaw22_FormulaTexts.f (k : Nat) (a0_0 : Int) (a0_1 : Int) (l0_2 : List (S24)) (a1_0 : Int) (a1_1 : Int) (l1_2 : List (S24)) : Option (Bool) := (parrylaw22_Heavy.f k a0_0 a0_1 l0_2).bind fun t616 => ((parrylaw22_Heavy.f k a1_0 a1_1 l1_2).bind fun t617 => (if (wrap64 (t616 + t617)) > 0 then ((parrylaw22_awake.f).bind fun t618 => (some t618)) else ((parryref22_May.f k a0_0 a0_1 l0_2).bind fun t619 => (if t619 = 0 then ((parryref22_May.f k a1_0 a1_1 l1_2).bind fun t620 => (if t620 = 0 then ((formula_Not.f k a0_0 a0_1 l0_2).bind fun bt621 => ((formula_Not.f k bt621.1 bt621.2.1 bt621.2.2).bind fun bt626 => ((formula_Text.f a0_0 a0_1 l0_2).bind fun t632 => ((formula_Text.f a1_0 a1_1 l1_2).bind fun t633 => ((formula_Same.f a0_0 a0_1 l0_2 a1_0 a1_1 l1_2).bind fun t634 => (if ((t632.toList == t633.toList) == t634) = true then (if a0_0 = 3 then ((parrylaw22_awake.f).bind fun t635 => (some t635)) else ((formula_Same.f bt626.1 bt626.2.1 bt626.2.2 a0_0 a0_1 l0_2).bind fun t636 => (if t636 = true then ((parrylaw22_awake.f).bind fun t637 => (some t637)) else ((formula_Not.f k a0_0 a0_1 l0_2).bind fun bt638 => ((formula_May.f bt638.1 bt638.2.1 bt638.2.2).bind fun t643 => (if t643 = 0 then (some false) else ((parrylaw22_awake.f).bind fun t644 => (some t644)))))))) else (some false))))))) else ((parrylaw22_awake.f).bind fun t645 => (some t645)))) else ((parrylaw22_awake.f).bind fun t646 => (some t646))))))
theorem parrylaw22_FormulaTexts.mono : ∀ a0 a1 a2 a3 a4 a5 k, LeO (parrylaw22_FormulaTexts.f k a0 a1 a2 a3 a4 a5) (parrylaw22_FormulaTexts.f (k + 1) a0 a1 a2 a3 a4 a5) := by
 intro a0 a1 a2 a3 a4 a5 k
 unfold parrylaw22_FormulaTexts.f
 repeat' first
   | (with_reducible exact formula_Not.mono _ _ _ _)
   | (with_reducible exact parrylaw22_Heavy.mono _ _ _ _)
   | (with_reducible exact parryref22_May.mono _ _ _ _)
   | (with_reducible exact LeO.refl _)
   | (with_reducible exact LeO.none _)
   | (with_reducible refine LeO.ite ?_ ?_)
   | (with_reducible refine LeO.bind ?_ (fun _ => ?_))
   | exact formula_Not.mono _ _ _ _
   | exact parrylaw22_Heavy.mono _ _ _ _
   | exact parryref22_May.mono _ _ _ _
   | exact LeO.none _
   | refine LeO.ite ?_ ?_
   | refine LeO.bind ?_ (fun _ => ?_)
def parrylaw22_FormulaTexts.T1 : Bool × List (List Nat × List Nat) := (true, [([], []), ([0], [0]), ([], []), ([2, 1], [2]), ([1, 3], [1, 3]), ([4], [4]), ([5, 3], [5]), ([6], [6]), ([7, 6, 6], [6, 7]), ([8, 6], [6, 8]), ([6, 9], [6, 9]), ([10, 8], [10]), ([11], [11]), ([12, 11, 11], [11, 12]), ([13, 11], [11, 13]), ([11, 14], [11, 14])])
def parrylaw22_FormulaTexts.B1 : List Nat := [0, 1, 0, 7, 15, 31, 63, 127, 255, 511, 1023, 2047, 4095, 8191, 16383, 32767]
theorem parrylaw22_FormulaTexts.tab1 : rtab .any (opsOf Tryd.f8 1) = parrylaw22_FormulaTexts.T1 := by kernel_rfl
theorem parrylaw22_FormulaTexts.bits1 : waitsOk parrylaw22_FormulaTexts.T1.2 parrylaw22_FormulaTexts.B1 = true := by kernel_rfl
def parrylaw22_FormulaTexts.T4 : Bool × List (List Nat × List Nat) := (true, [([], []), ([0], [0]), ([], []), ([2, 1], [2]), ([1, 3], [1, 3]), ([], []), ([], []), ([5, 6, 3], [5, 6]), ([4, 7], [4, 7]), ([8, 7], [8]), ([9], [9]), ([10, 9], [9, 10]), ([11, 9], [9, 11]), ([12, 9, 9], [9, 12]), ([13], [13]), ([13], [13]), ([14, 15, 13, 13], [13, 14, 15]), ([13, 16, 9], [9, 13, 16]), ([17, 16, 9], [9, 17]), ([18], [18]), ([19, 18, 18], [18, 19]), ([20, 20, 18], [18, 20]), ([21, 18], [18, 21]), ([18, 22, 9], [9, 18, 22]), ([9, 23], [9, 23]), ([24, 21], [24]), ([25, 25], [25]), ([25, 26], [25, 26]), ([27, 26, 0, 1, 2, 3, 4, 5, 6, 7, 8, 9, 10, 11, 12, 13, 14, 15, 16, 17, 18, 19, 20, 21, 22, 23, 24, 25, 26, 27], [27])])
def parrylaw22_FormulaTexts.B4 : List Nat := [0, 1, 0, 7, 15, 0, 0, 111, 255, 511, 1023, 2047, 4095, 8191, 16383, 16383, 65535, 131071, 262143, 524287, 1048575, 2097151, 4194303, 8388607, 16777215, 33554431, 67108863, 134217727, 268435455]
theorem parrylaw22_FormulaTexts.tab4 : rtab .any (opsOf Tryd.f8 4) = parrylaw22_FormulaTexts.T4 := by kernel_rfl
theorem parrylaw22_FormulaTexts.bits4 : waitsOk parrylaw22_FormulaTexts.T4.2 parrylaw22_FormulaTexts.B4 = true := by kernel_rfl
set_option maxHeartbeats 8000000 in
set_option maxRecDepth 100000 in
theorem parrylaw22_FormulaTexts.calls (k : Nat) (a0_0 : Int) (a0_1 : Int) (A0_2 : Option Addr) (c0_2 : Nat) (l0_2 : List (S24)) (a1_0 : Int) (a1_1 : Int) (A1_2 : Option Addr) (c1_2 : Nat) (l1_2 : List (S24)) (r : Bool) (w : World) (hr0_2 : Kd.C k24 w A0_2 l0_2.length l0_2) (hc0_2 : l0_2.length ≤ c0_2) (hr1_2 : Kd.C k24 w A1_2 l1_2.length l1_2) (hc1_2 : l1_2.length ≤ c1_2) (h : parrylaw22_FormulaTexts.f k a0_0 a0_1 l0_2 a1_0 a1_1 l1_2 = some r) (hrt : r = true) :
  Calls Tryd.prog 8 #[.agg #[.int .i64 a0_0, .int .i64 a0_1, .slice A0_2 l0_2.length c0_2], .agg #[.int .i64 a1_0, .int .i64 a1_1, .slice A1_2 l1_2.length c1_2]] w fun e w' => e = .returned (.bool r) ∧ Below w.heap.size w w' := by
 have hu24 := Tryd.underlying24
 have HR0_2 := Aside0.mk hr0_2
 have HC0_2 := Aside0.mk hc0_2
 clear hr0_2 hc0_2
 have HR1_2 := Aside0.mk hr1_2
 have HC1_2 := Aside0.mk hc1_2
 clear hr1_2 hc1_2
 have HB := Aside0.mk (Below.refl w.heap.size w)
 have HRT := Aside0.mk hrt
 clear hrt
 have H : ((parrylaw22_Heavy.f k a0_0 a0_1 l0_2).bind fun t616 => ((parrylaw22_Heavy.f k a1_0 a1_1 l1_2).bind fun t617 => (if (wrap64 (t616 + t617)) > 0 then ((parrylaw22_awake.f).bind fun t618 => (some t618)) else ((parryref22_May.f k a0_0 a0_1 l0_2).bind fun t619 => (if t619 = 0 then ((parryref22_May.f k a1_0 a1_1 l1_2).bind fun t620 => (if t620 = 0 then ((formula_Not.f k a0_0 a0_1 l0_2).bind fun bt621 => ((formula_Not.f k bt621.1 bt621.2.1 bt621.2.2).bind fun bt626 => ((formula_Text.f a0_0 a0_1 l0_2).bind fun t632 => ((formula_Text.f a1_0 a1_1 l1_2).bind fun t633 => ((formula_Same.f a0_0 a0_1 l0_2 a1_0 a1_1 l1_2).bind fun t634 => (if ((t632.toList == t633.toList) == t634) = true then (if a0_0 = 3 then ((parrylaw22_awake.f).bind fun t635 => (some t635)) else ((formula_Same.f bt626.1 bt626.2.1 bt626.2.2 a0_0 a0_1 l0_2).bind fun t636 => (if t636 = true then ((parrylaw22_awake.f).bind fun t637 => (some t637)) else ((formula_Not.f k a0_0 a0_1 l0_2).bind fun bt638 => ((formula_May.f bt638.1 bt638.2.1 bt638.2.2).bind fun t643 => (if t643 = 0 then (some false) else ((parrylaw22_awake.f).bind fun t644 => (some t644)))))))) else (some false))))))) else ((parrylaw22_awake.f).bind fun t645 => (some t645)))) else ((parrylaw22_awake.f).bind fun t646 => (some t646))))))) = some r := h
 clear h
 replace H := Option.bind_eq_some_iff.mp H
 obtain ⟨t616, A30, H⟩ := H
 replace H : ((parrylaw22_Heavy.f k a1_0 a1_1 l1_2).bind fun t617 => (if (wrap64 (t616 + t617)) > 0 then ((parrylaw22_awake.f).bind fun t618 => (some t618)) else ((parryref22_May.f k a0_0 a0_1 l0_2).bind fun t619 => (if t619 = 0 then ((parryref22_May.f k a1_0 a1_1 l1_2).bind fun t620 => (if t620 = 0 then ((formula_Not.f k a0_0 a0_1 l0_2).bind fun bt621 => ((formula_Not.f k bt621.1 bt621.2.1 bt621.2.2).bind fun bt626 => ((formula_Text.f a0_0 a0_1 l0_2).bind fun t632 => ((formula_Text.f a1_0 a1_1 l1_2).bind fun t633 => ((formula_Same.f a0_0 a0_1 l0_2 a1_0 a1_1 l1_2).bind fun t634 => (if ((t632.toList == t633.toList) == t634) = true then (if a0_0 = 3 then ((parrylaw22_awake.f).bind fun t635 => (some t635)) else ((formula_Same.f bt626.1 bt626.2.1 bt626.2.2 a0_0 a0_1 l0_2).bind fun t636 => (if t636 = true then ((parrylaw22_awake.f).bind fun t637 => (some t637)) else ((formula_Not.f k a0_0 a0_1 l0_2).bind fun bt638 => ((formula_May.f bt638.1 bt638.2.1 bt638.2.2).bind fun t643 => (if t643 = 0 then (some false) else ((parrylaw22_awake.f).bind fun t644 => (some t644)))))))) else (some false))))))) else ((parrylaw22_awake.f).bind fun t645 => (some t645)))) else ((parrylaw22_awake.f).bind fun t646 => (some t646)))))) = some r := H
 have A3 := Aside0.mk A30
 clear A30
 replace H := Option.bind_eq_some_iff.mp H
 obtain ⟨t617, A40, H⟩ := H
 replace H : (if (wrap64 (t616 + t617)) > 0 then ((parrylaw22_awake.f).bind fun t618 => (some t618)) else ((parryref22_May.f k a0_0 a0_1 l0_2).bind fun t619 => (if t619 = 0 then ((parryref22_May.f k a1_0 a1_1 l1_2).bind fun t620 => (if t620 = 0 then ((formula_Not.f k a0_0 a0_1 l0_2).bind fun bt621 => ((formula_Not.f k bt621.1 bt621.2.1 bt621.2.2).bind fun bt626 => ((formula_Text.f a0_0 a0_1 l0_2).bind fun t632 => ((formula_Text.f a1_0 a1_1 l1_2).bind fun t633 => ((formula_Same.f a0_0 a0_1 l0_2 a1_0 a1_1 l1_2).bind fun t634 => (if ((t632.toList == t633.toList) == t634) = true then (if a0_0 = 3 then ((parrylaw22_awake.f).bind fun t635 => (some t635)) else ((formula_Same.f bt626.1 bt626.2.1 bt626.2.2 a0_0 a0_1 l0_2).bind fun t636 => (if t636 = true then ((parrylaw22_awake.f).bind fun t637 => (some t637)) else ((formula_Not.f k a0_0 a0_1 l0_2).bind fun bt638 => ((formula_May.f bt638.1 bt638.2.1 bt638.2.2).bind fun t643 => (if t643 = 0 then (some false) else ((parrylaw22_awake.f).bind fun t644 => (some t644)))))))) else (some false))))))) else ((parrylaw22_awake.f).bind fun t645 => (some t645)))) else ((parrylaw22_awake.f).bind fun t646 => (some t646))))) = some r := H
 have A4 := Aside0.mk A40
 clear A40
 by_cases c5 : (wrap64 (t616 + t617)) > 0
 ·rw [if_pos c5] at H
  have c5b0 : decide (0 < (wrap64 (t616 + t617))) = true := decide_eq_true c5
  clear c5
  replace H := Option.bind_eq_some_iff.mp H
  obtain ⟨t618, A60, H⟩ := H
  replace H : (some t618) = some r := H
  have A6 := Aside0.mk A60
  clear A60
  obtain rfl := Option.some.inj H
  go_enter Tryd.func8, Tryd.ntmps8
  try go_wp2_with (first | ((with_reducible refine gate_dst (N := 2) rfl ?_); refine box_event ?hg (N := 2) ?hd (cs := #[.int .i64 a0_0, .int .i64 a0_1, .slice A0_2 l0_2.length c0_2]) (t := 24) ?hr ?_; (case hd => rfl); (case hg => rfl); (case hr => first | (go_simp; done) | (go_simp; rfl)); intro gb614 hg w7 hbox hb; have n0_ := Aside0.mk (below_step (by repeat (first | (with_reducible first | exact HB.out | apply below_alloc | apply pw_below_drewN | apply below_drew1) | exact HB.out)) hb); have n1_ := Aside0.mk (hbox); have n2_ := Aside0.mk ((by rw [hg]; exact (below_size (by repeat (first | (with_reducible first | exact HB.out | apply below_alloc | apply pw_below_drewN | apply below_drew1) | exact HB.out))) : w.heap.size ≤ gb614)); have n3_ := Aside0.mk ((by rw [hg]; exact (below_size (by repeat (first | (with_reducible first | exact HB.out | apply below_alloc | apply pw_below_drewN | apply below_drew1) | exact HB.out))) : w.heap.size ≤ gb614)); clear HB; have HB := n0_; have BK614 := n1_; have GW614 := n2_; have GE614 := n3_; clear n0_ n1_ n2_ n3_; clear hb hbox hg) | ((with_reducible refine gate_dst (N := 3) rfl ?_); refine box_event ?hg (N := 3) ?hd (cs := #[.int .i64 a1_0, .int .i64 a1_1, .slice A1_2 l1_2.length c1_2]) (t := 24) ?hr ?_; (case hd => rfl); (case hg => rfl); (case hr => first | (go_simp; done) | (go_simp; rfl)); intro gb615 hg w8 hbox hb; have n0_ := Aside0.mk (blk_below (g := gb614) (o := .cells #[.int .i64 a0_0, .int .i64 a0_1, .slice A0_2 l0_2.length c0_2] 24 (0, 0)) (by (with_reducible repeat (first | refine blk_drewN ?_ _ | refine blk_drew ?_ | refine blk_alloc ?_ _)); exact BK614.out) hb); have n1_ := Aside0.mk (below_step (by repeat (first | (with_reducible first | exact HB.out | apply below_alloc | apply pw_below_drewN | apply below_drew1 | refine below_set ?_ GE614.out) | exact HB.out)) hb); have n2_ := Aside0.mk (hbox); have n3_ := Aside0.mk ((by rw [hg]; exact (below_size (by repeat (first | (with_reducible first | exact HB.out | apply below_alloc | apply pw_below_drewN | apply below_drew1 | refine below_set ?_ GE614.out) | exact HB.out))) : w.heap.size ≤ gb615)); have n4_ := Aside0.mk ((by rw [hg]; exact (below_size (by repeat (first | (with_reducible first | exact HB.out | apply below_alloc | apply pw_below_drewN | apply below_drew1 | refine below_set ?_ GE614.out) | exact HB.out))) : w.heap.size ≤ gb615)); have n5_ := Aside0.mk ((by rw [hg]; exact Nat.ne_of_lt (blk_lt (g := gb614) (o := .cells #[.int .i64 a0_0, .int .i64 a0_1, .slice A0_2 l0_2.length c0_2] 24 (0, 0)) (by (with_reducible repeat (first | refine blk_drewN ?_ _ | refine blk_drew ?_ | refine blk_alloc ?_ _)); exact BK614.out)) : gb614 ≠ gb615)); have n6_ := Aside0.mk ((by rw [hg]; exact Nat.ne_of_gt (blk_lt (g := gb614) (o := .cells #[.int .i64 a0_0, .int .i64 a0_1, .slice A0_2 l0_2.length c0_2] 24 (0, 0)) (by (with_reducible repeat (first | refine blk_drewN ?_ _ | refine blk_drew ?_ | refine blk_alloc ?_ _)); exact BK614.out)) : gb615 ≠ gb614)); clear BK614; clear HB; have BK614 := n0_; have HB := n1_; have BK615 := n2_; have GW615 := n3_; have GE615 := n4_; have NB614_615 := n5_; have NB615_614 := n6_; clear n0_ n1_ n2_ n3_ n4_ n5_ n6_; clear hb hbox hg))
  have n0_ := Aside0.mk (blk_drew BK614.out)
  have n1_ := Aside0.mk (blk_drew BK615.out)
  have n2_ := Aside0.mk (below_drew1 HB.out)
  clear BK614
  clear BK615
  clear HB
  have BK614 := n0_
  have BK615 := n1_
  have HB := n2_
  clear n0_ n1_ n2_
  refine start_ (n := 16) (S := fun w' => w'.cell? ⟨gb614, 0, none⟩ = some (.int .i64 a0_0) ∧ w'.cell? ⟨gb614, 1, none⟩ = some (.int .i64 a0_1) ∧ w'.cell? ⟨gb614, 2, none⟩ = some (.slice A0_2 l0_2.length c0_2) ∧ w'.cell? ⟨gb615, 0, none⟩ = some (.int .i64 a1_0) ∧ w'.cell? ⟨gb615, 1, none⟩ = some (.int .i64 a1_1) ∧ w'.cell? ⟨gb615, 2, none⟩ = some (.slice A1_2 l1_2.length c1_2)) (ds := []) Mk16_0_ (by kernel_rfl) rfl rfl ⟨(blk_cell BK614.out 0).trans rfl, (blk_cell BK614.out 1).trans rfl, (blk_cell BK614.out 2).trans rfl, (blk_cell BK615.out 0).trans rfl, (blk_cell BK615.out 1).trans rfl, (blk_cell BK615.out 2).trans rfl⟩ (fun hHeld => ?_); refine with_tabW parrylaw22_FormulaTexts.tab1 parrylaw22_FormulaTexts.bits1 (fun HT_ HW_ => ?_)
  generalize w8.drew = w9 at BK614 BK615 HB hHeld ⊢
  refine take_ (i := 0) (N := some 6) (v := ?_) (a' := ?_) Mk16_1_ rfl rfl (take_ofW HT_.out HW_.out (by kernel_rfl)) (fun _ _ _ h => h) (Or.inl ⟨by rfl, ?_⟩) hHeld ?_ ?_
  rotate_left
  ·rintro w' ⟨s0, s1, s2, s3, s4, s5⟩
   go_simp
   with_reducible rfl
  rotate_left
  ·simp only [Act.put, List.setIfInBounds_toArray, List.set_cons_zero, List.set_cons_succ, i64_w, i32_w]
   rfl
  refine take_ (i := 2) (N := some 8) (v := ?_) (a' := ?_) Mk16_2_ rfl rfl (take_ofW HT_.out HW_.out (by kernel_rfl)) (fun _ _ _ h => h) (Or.inl ⟨by rfl, ?_⟩) hHeld ?_ ?_
  rotate_left
  ·rintro w' ⟨s0, s1, s2, s3, s4, s5⟩
   go_simp
   with_reducible rfl
  rotate_left
  ·simp only [Act.put, List.setIfInBounds_toArray, List.set_cons_zero, List.set_cons_succ, i64_w, i32_w]
   rfl
  refine one_ (i := 1) (N := some 7) Mk16_3_ rfl rfl (one_of HT_.out (by kernel_rfl)) (by decide) (fun K hK => ?_)
  refine goes_ Tryd.func9 (by kernel_rfl) rfl #[.agg #[.int .i64 a0_0, .int .i64 a0_1, .slice A0_2 l0_2.length c0_2]] (by rfl) rfl rfl (by (try simp only [List.map_toArray, List.map_cons, List.map_nil]); first | done | rfl | (simp only [List.length_drop, List.length_take]; rfl)) ?_
  with_reducible refine (parrylaw22_Heavy.calls k a0_0 a0_1 _ _ l0_2 t616 _ ?side1 ?side2 A3.out).mono ?_
  (case side1 => repeat (first | exact (Kd.C_below HR0_2.out HB.out) | (with_reducible refine Kd.C_alloc ?_ _) | (with_reducible refine Kd.C_drewN ?_ _) | (with_reducible refine Kd.C_drew ?_)))
  (case side2 => exact HC0_2.out)
  rintro e w10 ⟨rfl, hb⟩
  refine ⟨_, rfl, ?_⟩
  have n0_ := Aside0.mk (blk_below (g := gb614) (o := .cells #[.int .i64 a0_0, .int .i64 a0_1, .slice A0_2 l0_2.length c0_2] 24 (0, 0)) (by (with_reducible repeat (first | refine blk_drewN ?_ _ | refine blk_drew ?_ | refine blk_alloc ?_ _)); exact BK614.out) hb)
  have n1_ := Aside0.mk (blk_below (g := gb615) (o := .cells #[.int .i64 a1_0, .int .i64 a1_1, .slice A1_2 l1_2.length c1_2] 24 (0, 0)) (by (with_reducible repeat (first | refine blk_drewN ?_ _ | refine blk_drew ?_ | refine blk_alloc ?_ _)); exact BK615.out) hb)
  have n2_ := Aside0.mk (below_step (by repeat (first | (with_reducible first | exact HB.out | apply below_alloc | apply pw_below_drewN | apply below_drew1 | refine below_set ?_ GE614.out | refine below_set ?_ GE615.out) | exact HB.out)) hb)
  clear BK614
  clear BK615
  clear HB
  have BK614 := n0_
  have BK615 := n1_
  have HB := n2_
  clear n0_ n1_ n2_
  (try clear hb)
  (try clear hb2)
  (try clear hk)
  (try clear hi)
  refine hK.out _ _ ⟨(blk_cell BK614.out 0).trans rfl, (blk_cell BK614.out 1).trans rfl, (blk_cell BK614.out 2).trans rfl, (blk_cell BK615.out 0).trans rfl, (blk_cell BK615.out 1).trans rfl, (blk_cell BK615.out 2).trans rfl⟩ (fun hHeld => ?_)
  clear hK K
  refine norm_ (a' := ?_) ?_ ?_
  rotate_left
  ·show Act.put _ (some 7) _ = _
   simp only [Act.put, List.setIfInBounds_toArray, List.set_cons_zero, List.set_cons_succ, i64_w, i32_w]
   rfl
  refine one_ (i := 3) (N := some 9) Mk16_4_ rfl rfl (one_of HT_.out (by kernel_rfl)) (by decide) (fun K hK => ?_)
  refine goes_ Tryd.func9 (by kernel_rfl) rfl #[.agg #[.int .i64 a1_0, .int .i64 a1_1, .slice A1_2 l1_2.length c1_2]] (by rfl) rfl rfl (by (try simp only [List.map_toArray, List.map_cons, List.map_nil]); first | done | rfl | (simp only [List.length_drop, List.length_take]; rfl)) ?_
  with_reducible refine (parrylaw22_Heavy.calls k a1_0 a1_1 _ _ l1_2 t617 _ ?side1 ?side2 A4.out).mono ?_
  (case side1 => repeat (first | exact (Kd.C_below HR1_2.out HB.out) | (with_reducible refine Kd.C_alloc ?_ _) | (with_reducible refine Kd.C_drewN ?_ _) | (with_reducible refine Kd.C_drew ?_)))
  (case side2 => exact HC1_2.out)
  rintro e w11 ⟨rfl, hb⟩
  refine ⟨_, rfl, ?_⟩
  have n0_ := Aside0.mk (blk_below (g := gb614) (o := .cells #[.int .i64 a0_0, .int .i64 a0_1, .slice A0_2 l0_2.length c0_2] 24 (0, 0)) (by (with_reducible repeat (first | refine blk_drewN ?_ _ | refine blk_drew ?_ | refine blk_alloc ?_ _)); exact BK614.out) hb)
  have n1_ := Aside0.mk (blk_below (g := gb615) (o := .cells #[.int .i64 a1_0, .int .i64 a1_1, .slice A1_2 l1_2.length c1_2] 24 (0, 0)) (by (with_reducible repeat (first | refine blk_drewN ?_ _ | refine blk_drew ?_ | refine blk_alloc ?_ _)); exact BK615.out) hb)
  have n2_ := Aside0.mk (below_step (by repeat (first | (with_reducible first | exact HB.out | apply below_alloc | apply pw_below_drewN | apply below_drew1 | refine below_set ?_ GE614.out | refine below_set ?_ GE615.out) | exact HB.out)) hb)
  clear BK614
  clear BK615
  clear HB
  have BK614 := n0_
  have BK615 := n1_
  have HB := n2_
  clear n0_ n1_ n2_
  (try clear hb)
  (try clear hb2)
  (try clear hk)
  (try clear hi)
  refine hK.out _ _ ⟨(blk_cell BK614.out 0).trans rfl, (blk_cell BK614.out 1).trans rfl, (blk_cell BK614.out 2).trans rfl, (blk_cell BK615.out 0).trans rfl, (blk_cell BK615.out 1).trans rfl, (blk_cell BK615.out 2).trans rfl⟩ (fun hHeld => ?_)
  clear hK K
  refine norm_ (a' := ?_) ?_ ?_
  rotate_left
  ·show Act.put _ (some 9) _ = _
   simp only [Act.put, List.setIfInBounds_toArray, List.set_cons_zero, List.set_cons_succ, i64_w, i32_w]
   rfl
  refine pure_ (i := 4) (N := some 10) (v := ?_) (a' := ?_) Mk16_5_ rfl rfl (any_of HT_.out (by kernel_rfl)) (fun _ _ _ h => h) (Or.inl ⟨by rfl, ?_⟩) ?_ ?_; rotate_left; intro w'; go_simp; with_reducible rfl; rotate_left; simp only [Act.put, List.setIfInBounds_toArray, List.set_cons_zero, List.set_cons_succ, i64_w, i32_w]; rfl
  refine pure_ (i := 5) (N := some 11) (v := ?_) (a' := ?_) Mk16_6_ rfl rfl (any_of HT_.out (by kernel_rfl)) (fun _ _ _ h => h) (Or.inl ⟨by rfl, ?_⟩) ?_ ?_; rotate_left; intro w'; go_simp; with_reducible rfl; rotate_left; simp only [Act.put, List.setIfInBounds_toArray, List.set_cons_zero, List.set_cons_succ, i64_w, i32_w]; rfl
  refine pure_ (i := 6) (N := some 12) (v := ?_) (a' := ?_) Mk16_7_ rfl rfl (any_of HT_.out (by kernel_rfl)) (fun _ _ _ h => h) (Or.inl ⟨by rfl, ?_⟩) ?_ ?_; rotate_left; intro w'; go_simp; with_reducible rfl; rotate_left; simp only [Act.put, List.setIfInBounds_toArray, List.set_cons_zero, List.set_cons_succ, i64_w, i32_w]; rfl
  refine pure_ (i := 7) (N := some 13) (v := undef) (a' := ?_) Mk16_8_ rfl rfl (any_of HT_.out (by kernel_rfl)) (fun _ _ _ h => h) (Or.inr ⟨by rfl, rfl⟩) ?_ ?_
  rotate_left
  ·simp only [Act.put, List.setIfInBounds_toArray, List.set_cons_zero, List.set_cons_succ, i64_w, i32_w]
   rfl
  refine pure_ (i := 8) (N := some 14) (v := undef) (a' := ?_) Mk16_9_ rfl rfl (any_of HT_.out (by kernel_rfl)) (fun _ _ _ h => h) (Or.inr ⟨by rfl, rfl⟩) ?_ ?_
  rotate_left
  ·simp only [Act.put, List.setIfInBounds_toArray, List.set_cons_zero, List.set_cons_succ, i64_w, i32_w]
   rfl
  refine pure_ (i := 9) (N := some 15) (v := undef) (a' := ?_) Mk16_10_ rfl rfl (any_of HT_.out (by kernel_rfl)) (fun _ _ _ h => h) (Or.inr ⟨by rfl, rfl⟩) ?_ ?_
  rotate_left
  ·simp only [Act.put, List.setIfInBounds_toArray, List.set_cons_zero, List.set_cons_succ, i64_w, i32_w]
   rfl
  refine pure_ (i := 10) (N := some 16) (v := ?_) (a' := ?_) Mk16_11_ rfl rfl (any_of HT_.out (by kernel_rfl)) (fun _ _ _ h => h) (Or.inl ⟨by rfl, ?_⟩) ?_ ?_; rotate_left; intro w'; go_simp; with_reducible rfl; rotate_left; simp only [Act.put, List.setIfInBounds_toArray, List.set_cons_zero, List.set_cons_succ, i64_w, i32_w]; rfl
  refine pure_ (i := 11) (N := some 17) (v := ?_) (a' := ?_) Mk16_12_ rfl rfl (any_of HT_.out (by kernel_rfl)) (fun _ _ _ h => h) (Or.inl ⟨by rfl, ?_⟩) ?_ ?_; rotate_left; intro w'; go_simp; with_reducible rfl; rotate_left; simp only [Act.put, List.setIfInBounds_toArray, List.set_cons_zero, List.set_cons_succ, i64_w, i32_w]; rfl
  refine pure_ (i := 12) (N := some 18) (v := undef) (a' := ?_) Mk16_13_ rfl rfl (any_of HT_.out (by kernel_rfl)) (fun _ _ _ h => h) (Or.inr ⟨by rfl, rfl⟩) ?_ ?_
  rotate_left
  ·simp only [Act.put, List.setIfInBounds_toArray, List.set_cons_zero, List.set_cons_succ, i64_w, i32_w]
   rfl
  refine pure_ (i := 13) (N := some 19) (v := undef) (a' := ?_) Mk16_14_ rfl rfl (any_of HT_.out (by kernel_rfl)) (fun _ _ _ h => h) (Or.inr ⟨by rfl, rfl⟩) ?_ ?_
  rotate_left
  ·simp only [Act.put, List.setIfInBounds_toArray, List.set_cons_zero, List.set_cons_succ, i64_w, i32_w]
   rfl
  refine pure_ (i := 14) (N := some 20) (v := undef) (a' := ?_) Mk16_15_ rfl rfl (any_of HT_.out (by kernel_rfl)) (fun _ _ _ h => h) (Or.inr ⟨by rfl, rfl⟩) ?_ ?_
  rotate_left
  ·simp only [Act.put, List.setIfInBounds_toArray, List.set_cons_zero, List.set_cons_succ, i64_w, i32_w]
   rfl
  refine pure_ (i := 15) (N := some 21) (v := ?_) (a' := ?_) Mk16_16_ rfl rfl (any_of HT_.out (by kernel_rfl)) (fun _ _ _ h => h) (Or.inl ⟨by rfl, ?_⟩) ?_ ?_; rotate_left; intro w'; go_simp; with_reducible rfl; rotate_left; simp only [Act.put, List.setIfInBounds_toArray, List.set_cons_zero, List.set_cons_succ, i64_w, i32_w]; rfl
  refine done_ (done_of HT_.out (by kernel_rfl)) ?_
  try go_wp2_with (first | ((with_reducible refine gate_callee (f := 11) rfl ?_); refine goesL_ (some 22) rfl rfl Tryd.func11 (by kernel_rfl) rfl #[] rfl (by (try simp only [List.map_toArray, List.map_cons, List.map_nil]); first | done | rfl | (simp only [List.length_drop, List.length_take]; rfl)) ?_; (with_reducible refine (parrylaw22_awake.calls  t618 _ A6.out).mono ?_); rintro e w12 ⟨rfl, hb⟩; refine ⟨_, rfl, ?_⟩; have n0_ := Aside0.mk (blk_below (g := gb614) (o := .cells #[.int .i64 a0_0, .int .i64 a0_1, .slice A0_2 l0_2.length c0_2] 24 (0, 0)) (by (with_reducible repeat (first | refine blk_drewN ?_ _ | refine blk_drew ?_ | refine blk_alloc ?_ _)); exact BK614.out) hb); have n1_ := Aside0.mk (blk_below (g := gb615) (o := .cells #[.int .i64 a1_0, .int .i64 a1_1, .slice A1_2 l1_2.length c1_2] 24 (0, 0)) (by (with_reducible repeat (first | refine blk_drewN ?_ _ | refine blk_drew ?_ | refine blk_alloc ?_ _)); exact BK615.out) hb); have n2_ := Aside0.mk (below_step (by repeat (first | (with_reducible first | exact HB.out | apply below_alloc | apply pw_below_drewN | apply below_drew1 | refine below_set ?_ GE614.out | refine below_set ?_ GE615.out) | exact HB.out)) hb); clear BK614; clear BK615; clear HB; have BK614 := n0_; have BK615 := n1_; have HB := n2_; clear n0_ n1_ n2_; (try clear hb); (try clear hb2); (try clear hk); (try clear hi)))
  go_ret
  exact ⟨by first | rfl | (simp [errW_none, errW_some] <;> rfl) | (simp [*, errW_none, errW_some] <;> rfl), by repeat (first | (with_reducible first | exact HB.out | apply below_alloc | apply pw_below_drewN | apply below_drew1 | refine below_set ?_ GE614.out | refine below_set ?_ GE615.out) | exact HB.out)⟩
 ·rw [if_neg c5] at H
  have c5b0 : decide (0 < (wrap64 (t616 + t617))) = false := decide_eq_false c5
  clear c5
  replace H := Option.bind_eq_some_iff.mp H
  obtain ⟨t619, A130, H⟩ := H
  replace H : (if t619 = 0 then ((parryref22_May.f k a1_0 a1_1 l1_2).bind fun t620 => (if t620 = 0 then ((formula_Not.f k a0_0 a0_1 l0_2).bind fun bt621 => ((formula_Not.f k bt621.1 bt621.2.1 bt621.2.2).bind fun bt626 => ((formula_Text.f a0_0 a0_1 l0_2).bind fun t632 => ((formula_Text.f a1_0 a1_1 l1_2).bind fun t633 => ((formula_Same.f a0_0 a0_1 l0_2 a1_0 a1_1 l1_2).bind fun t634 => (if ((t632.toList == t633.toList) == t634) = true then (if a0_0 = 3 then ((parrylaw22_awake.f).bind fun t635 => (some t635)) else ((formula_Same.f bt626.1 bt626.2.1 bt626.2.2 a0_0 a0_1 l0_2).bind fun t636 => (if t636 = true then ((parrylaw22_awake.f).bind fun t637 => (some t637)) else ((formula_Not.f k a0_0 a0_1 l0_2).bind fun bt638 => ((formula_May.f bt638.1 bt638.2.1 bt638.2.2).bind fun t643 => (if t643 = 0 then (some false) else ((parrylaw22_awake.f).bind fun t644 => (some t644)))))))) else (some false))))))) else ((parrylaw22_awake.f).bind fun t645 => (some t645)))) else ((parrylaw22_awake.f).bind fun t646 => (some t646))) = some r := H
  have A13 := Aside0.mk A130
  clear A130
  by_cases c14 : t619 = 0
  ·rw [if_pos c14] at H
   have c14b0 : (t619 == 0) = true := beq_iff_eq.mpr c14
   have c14b1 : (t619 != 0) = false := bne_eq_false_iff_eq.mpr c14
   clear c14
   replace H := Option.bind_eq_some_iff.mp H
   obtain ⟨t620, A150, H⟩ := H
   replace H : (if t620 = 0 then ((formula_Not.f k a0_0 a0_1 l0_2).bind fun bt621 => ((formula_Not.f k bt621.1 bt621.2.1 bt621.2.2).bind fun bt626 => ((formula_Text.f a0_0 a0_1 l0_2).bind fun t632 => ((formula_Text.f a1_0 a1_1 l1_2).bind fun t633 => ((formula_Same.f a0_0 a0_1 l0_2 a1_0 a1_1 l1_2).bind fun t634 => (if ((t632.toList == t633.toList) == t634) = true then (if a0_0 = 3 then ((parrylaw22_awake.f).bind fun t635 => (some t635)) else ((formula_Same.f bt626.1 bt626.2.1 bt626.2.2 a0_0 a0_1 l0_2).bind fun t636 => (if t636 = true then ((parrylaw22_awake.f).bind fun t637 => (some t637)) else ((formula_Not.f k a0_0 a0_1 l0_2).bind fun bt638 => ((formula_May.f bt638.1 bt638.2.1 bt638.2.2).bind fun t643 => (if t643 = 0 then (some false) else ((parrylaw22_awake.f).bind fun t644 => (some t644)))))))) else (some false))))))) else ((parrylaw22_awake.f).bind fun t645 => (some t645))) = some r := H
   have A15 := Aside0.mk A150
   clear A150
   by_cases c16 : t620 = 0
   ·rw [if_pos c16] at H
    have c16b0 : (t620 == 0) = true := beq_iff_eq.mpr c16
    have c16b1 : (t620 != 0) = false := bne_eq_false_iff_eq.mpr c16
    clear c16
    replace H := Option.bind_eq_some_iff.mp H
    obtain ⟨⟨t621, t622, t623⟩, A170, H⟩ := H
    replace H : ((formula_Not.f k t621 t622 t623).bind fun bt626 => ((formula_Text.f a0_0 a0_1 l0_2).bind fun t632 => ((formula_Text.f a1_0 a1_1 l1_2).bind fun t633 => ((formula_Same.f a0_0 a0_1 l0_2 a1_0 a1_1 l1_2).bind fun t634 => (if ((t632.toList == t633.toList) == t634) = true then (if a0_0 = 3 then ((parrylaw22_awake.f).bind fun t635 => (some t635)) else ((formula_Same.f bt626.1 bt626.2.1 bt626.2.2 a0_0 a0_1 l0_2).bind fun t636 => (if t636 = true then ((parrylaw22_awake.f).bind fun t637 => (some t637)) else ((formula_Not.f k a0_0 a0_1 l0_2).bind fun bt638 => ((formula_May.f bt638.1 bt638.2.1 bt638.2.2).bind fun t643 => (if t643 = 0 then (some false) else ((parrylaw22_awake.f).bind fun t644 => (some t644)))))))) else (some false)))))) = some r := H
    have A17 := Aside0.mk A170
    clear A170
    replace H := Option.bind_eq_some_iff.mp H
    obtain ⟨⟨t626, t627, t628⟩, A180, H⟩ := H
    replace H : ((formula_Text.f a0_0 a0_1 l0_2).bind fun t632 => ((formula_Text.f a1_0 a1_1 l1_2).bind fun t633 => ((formula_Same.f a0_0 a0_1 l0_2 a1_0 a1_1 l1_2).bind fun t634 => (if ((t632.toList == t633.toList) == t634) = true then (if a0_0 = 3 then ((parrylaw22_awake.f).bind fun t635 => (some t635)) else ((formula_Same.f t626 t627 t628 a0_0 a0_1 l0_2).bind fun t636 => (if t636 = true then ((parrylaw22_awake.f).bind fun t637 => (some t637)) else ((formula_Not.f k a0_0 a0_1 l0_2).bind fun bt638 => ((formula_May.f bt638.1 bt638.2.1 bt638.2.2).bind fun t643 => (if t643 = 0 then (some false) else ((parrylaw22_awake.f).bind fun t644 => (some t644)))))))) else (some false))))) = some r := H
    have A18 := Aside0.mk A180
    clear A180
    replace H := Option.bind_eq_some_iff.mp H
    obtain ⟨t632, A190, H⟩ := H
    replace H : ((formula_Text.f a1_0 a1_1 l1_2).bind fun t633 => ((formula_Same.f a0_0 a0_1 l0_2 a1_0 a1_1 l1_2).bind fun t634 => (if ((t632.toList == t633.toList) == t634) = true then (if a0_0 = 3 then ((parrylaw22_awake.f).bind fun t635 => (some t635)) else ((formula_Same.f t626 t627 t628 a0_0 a0_1 l0_2).bind fun t636 => (if t636 = true then ((parrylaw22_awake.f).bind fun t637 => (some t637)) else ((formula_Not.f k a0_0 a0_1 l0_2).bind fun bt638 => ((formula_May.f bt638.1 bt638.2.1 bt638.2.2).bind fun t643 => (if t643 = 0 then (some false) else ((parrylaw22_awake.f).bind fun t644 => (some t644)))))))) else (some false)))) = some r := H
    have A19 := Aside0.mk A190
    clear A190
    replace H := Option.bind_eq_some_iff.mp H
    obtain ⟨t633, A200, H⟩ := H
    replace H : ((formula_Same.f a0_0 a0_1 l0_2 a1_0 a1_1 l1_2).bind fun t634 => (if ((t632.toList == t633.toList) == t634) = true then (if a0_0 = 3 then ((parrylaw22_awake.f).bind fun t635 => (some t635)) else ((formula_Same.f t626 t627 t628 a0_0 a0_1 l0_2).bind fun t636 => (if t636 = true then ((parrylaw22_awake.f).bind fun t637 => (some t637)) else ((formula_Not.f k a0_0 a0_1 l0_2).bind fun bt638 => ((formula_May.f bt638.1 bt638.2.1 bt638.2.2).bind fun t643 => (if t643 = 0 then (some false) else ((parrylaw22_awake.f).bind fun t644 => (some t644)))))))) else (some false))) = some r := H
    have A20 := Aside0.mk A200
    clear A200
    replace H := Option.bind_eq_some_iff.mp H
    obtain ⟨t634, A210, H⟩ := H
    replace H : (if ((t632.toList == t633.toList) == t634) = true then (if a0_0 = 3 then ((parrylaw22_awake.f).bind fun t635 => (some t635)) else ((formula_Same.f t626 t627 t628 a0_0 a0_1 l0_2).bind fun t636 => (if t636 = true then ((parrylaw22_awake.f).bind fun t637 => (some t637)) else ((formula_Not.f k a0_0 a0_1 l0_2).bind fun bt638 => ((formula_May.f bt638.1 bt638.2.1 bt638.2.2).bind fun t643 => (if t643 = 0 then (some false) else ((parrylaw22_awake.f).bind fun t644 => (some t644)))))))) else (some false)) = some r := H
    have A21 := Aside0.mk A210
    clear A210
    by_cases c22 : ((t632.toList == t633.toList) == t634) = true
    ·rw [if_pos c22] at H
     have c22b0 : ((t632.toList == t633.toList) == t634) = true := c22
     (try (have c22b1 : decide ((t632.toList == t633.toList) = t634) = true := by simpa using c22))
     (try (have c22b2 : ((t632.toList == t633.toList) == t634) = true := by simpa using c22))
     clear c22
     by_cases c23 : a0_0 = 3
     ·rw [if_pos c23] at H
      have c23b0 : (a0_0 == 3) = true := beq_iff_eq.mpr c23
      have c23b1 : (a0_0 != 3) = false := bne_eq_false_iff_eq.mpr c23
      clear c23
      replace H := Option.bind_eq_some_iff.mp H
      obtain ⟨t635, A240, H⟩ := H
      replace H : (some t635) = some r := H
      have A24 := Aside0.mk A240
      clear A240
      obtain rfl := Option.some.inj H
      go_enter Tryd.func8, Tryd.ntmps8
      try go_wp2_with (first | ((with_reducible refine gate_dst (N := 2) rfl ?_); refine box_event ?hg (N := 2) ?hd (cs := #[.int .i64 a0_0, .int .i64 a0_1, .slice A0_2 l0_2.length c0_2]) (t := 24) ?hr ?_; (case hd => rfl); (case hg => rfl); (case hr => first | (go_simp; done) | (go_simp; rfl)); intro gb614 hg w25 hbox hb; have n0_ := Aside0.mk (below_step (by repeat (first | (with_reducible first | exact HB.out | apply below_alloc | apply pw_below_drewN | apply below_drew1) | exact HB.out)) hb); have n1_ := Aside0.mk (hbox); have n2_ := Aside0.mk ((by rw [hg]; exact (below_size (by repeat (first | (with_reducible first | exact HB.out | apply below_alloc | apply pw_below_drewN | apply below_drew1) | exact HB.out))) : w.heap.size ≤ gb614)); have n3_ := Aside0.mk ((by rw [hg]; exact (below_size (by repeat (first | (with_reducible first | exact HB.out | apply below_alloc | apply pw_below_drewN | apply below_drew1) | exact HB.out))) : w.heap.size ≤ gb614)); clear HB; have HB := n0_; have BK614 := n1_; have GW614 := n2_; have GE614 := n3_; clear n0_ n1_ n2_ n3_; clear hb hbox hg) | ((with_reducible refine gate_dst (N := 3) rfl ?_); refine box_event ?hg (N := 3) ?hd (cs := #[.int .i64 a1_0, .int .i64 a1_1, .slice A1_2 l1_2.length c1_2]) (t := 24) ?hr ?_; (case hd => rfl); (case hg => rfl); (case hr => first | (go_simp; done) | (go_simp; rfl)); intro gb615 hg w26 hbox hb; have n0_ := Aside0.mk (blk_below (g := gb614) (o := .cells #[.int .i64 a0_0, .int .i64 a0_1, .slice A0_2 l0_2.length c0_2] 24 (0, 0)) (by (with_reducible repeat (first | refine blk_drewN ?_ _ | refine blk_drew ?_ | refine blk_alloc ?_ _)); exact BK614.out) hb); have n1_ := Aside0.mk (below_step (by repeat (first | (with_reducible first | exact HB.out | apply below_alloc | apply pw_below_drewN | apply below_drew1 | refine below_set ?_ GE614.out) | exact HB.out)) hb); have n2_ := Aside0.mk (hbox); have n3_ := Aside0.mk ((by rw [hg]; exact (below_size (by repeat (first | (with_reducible first | exact HB.out | apply below_alloc | apply pw_below_drewN | apply below_drew1 | refine below_set ?_ GE614.out) | exact HB.out))) : w.heap.size ≤ gb615)); have n4_ := Aside0.mk ((by rw [hg]; exact (below_size (by repeat (first | (with_reducible first | exact HB.out | apply below_alloc | apply pw_below_drewN | apply below_drew1 | refine below_set ?_ GE614.out) | exact HB.out))) : w.heap.size ≤ gb615)); have n5_ := Aside0.mk ((by rw [hg]; exact Nat.ne_of_lt (blk_lt (g := gb614) (o := .cells #[.int .i64 a0_0, .int .i64 a0_1, .slice A0_2 l0_2.length c0_2] 24 (0, 0)) (by (with_reducible repeat (first | refine blk_drewN ?_ _ | refine blk_drew ?_ | refine blk_alloc ?_ _)); exact BK614.out)) : gb614 ≠ gb615)); have n6_ := Aside0.mk ((by rw [hg]; exact Nat.ne_of_gt (blk_lt (g := gb614) (o := .cells #[.int .i64 a0_0, .int .i64 a0_1, .slice A0_2 l0_2.length c0_2] 24 (0, 0)) (by (with_reducible repeat (first | refine blk_drewN ?_ _ | refine blk_drew ?_ | refine blk_alloc ?_ _)); exact BK614.out)) : gb615 ≠ gb614)); clear BK614; clear HB; have BK614 := n0_; have HB := n1_; have BK615 := n2_; have GW615 := n3_; have GE615 := n4_; have NB614_615 := n5_; have NB615_614 := n6_; clear n0_ n1_ n2_ n3_ n4_ n5_ n6_; clear hb hbox hg))
      have n0_ := Aside0.mk (blk_drew BK614.out)
      have n1_ := Aside0.mk (blk_drew BK615.out)
      have n2_ := Aside0.mk (below_drew1 HB.out)
      clear BK614
      clear BK615
      clear HB
      have BK614 := n0_
      have BK615 := n1_
      have HB := n2_
      clear n0_ n1_ n2_
      refine start_ (n := 16) (S := fun w' => w'.cell? ⟨gb614, 0, none⟩ = some (.int .i64 a0_0) ∧ w'.cell? ⟨gb614, 1, none⟩ = some (.int .i64 a0_1) ∧ w'.cell? ⟨gb614, 2, none⟩ = some (.slice A0_2 l0_2.length c0_2) ∧ w'.cell? ⟨gb615, 0, none⟩ = some (.int .i64 a1_0) ∧ w'.cell? ⟨gb615, 1, none⟩ = some (.int .i64 a1_1) ∧ w'.cell? ⟨gb615, 2, none⟩ = some (.slice A1_2 l1_2.length c1_2)) (ds := []) Mk16_0_ (by kernel_rfl) rfl rfl ⟨(blk_cell BK614.out 0).trans rfl, (blk_cell BK614.out 1).trans rfl, (blk_cell BK614.out 2).trans rfl, (blk_cell BK615.out 0).trans rfl, (blk_cell BK615.out 1).trans rfl, (blk_cell BK615.out 2).trans rfl⟩ (fun hHeld => ?_); refine with_tabW parrylaw22_FormulaTexts.tab1 parrylaw22_FormulaTexts.bits1 (fun HT_ HW_ => ?_)
      generalize w26.drew = w27 at BK614 BK615 HB hHeld ⊢
      refine take_ (i := 0) (N := some 6) (v := ?_) (a' := ?_) Mk16_1_ rfl rfl (take_ofW HT_.out HW_.out (by kernel_rfl)) (fun _ _ _ h => h) (Or.inl ⟨by rfl, ?_⟩) hHeld ?_ ?_
      rotate_left
      ·rintro w' ⟨s0, s1, s2, s3, s4, s5⟩
       go_simp
       with_reducible rfl
      rotate_left
      ·simp only [Act.put, List.setIfInBounds_toArray, List.set_cons_zero, List.set_cons_succ, i64_w, i32_w]
       rfl
      refine take_ (i := 2) (N := some 8) (v := ?_) (a' := ?_) Mk16_2_ rfl rfl (take_ofW HT_.out HW_.out (by kernel_rfl)) (fun _ _ _ h => h) (Or.inl ⟨by rfl, ?_⟩) hHeld ?_ ?_
      rotate_left
      ·rintro w' ⟨s0, s1, s2, s3, s4, s5⟩
       go_simp
       with_reducible rfl
      rotate_left
      ·simp only [Act.put, List.setIfInBounds_toArray, List.set_cons_zero, List.set_cons_succ, i64_w, i32_w]
       rfl
      refine one_ (i := 1) (N := some 7) Mk16_3_ rfl rfl (one_of HT_.out (by kernel_rfl)) (by decide) (fun K hK => ?_)
      refine goes_ Tryd.func9 (by kernel_rfl) rfl #[.agg #[.int .i64 a0_0, .int .i64 a0_1, .slice A0_2 l0_2.length c0_2]] (by rfl) rfl rfl (by (try simp only [List.map_toArray, List.map_cons, List.map_nil]); first | done | rfl | (simp only [List.length_drop, List.length_take]; rfl)) ?_
      with_reducible refine (parrylaw22_Heavy.calls k a0_0 a0_1 _ _ l0_2 t616 _ ?side1 ?side2 A3.out).mono ?_
      (case side1 => repeat (first | exact (Kd.C_below HR0_2.out HB.out) | (with_reducible refine Kd.C_alloc ?_ _) | (with_reducible refine Kd.C_drewN ?_ _) | (with_reducible refine Kd.C_drew ?_)))
      (case side2 => exact HC0_2.out)
      rintro e w28 ⟨rfl, hb⟩
      refine ⟨_, rfl, ?_⟩
      have n0_ := Aside0.mk (blk_below (g := gb614) (o := .cells #[.int .i64 a0_0, .int .i64 a0_1, .slice A0_2 l0_2.length c0_2] 24 (0, 0)) (by (with_reducible repeat (first | refine blk_drewN ?_ _ | refine blk_drew ?_ | refine blk_alloc ?_ _)); exact BK614.out) hb)
      have n1_ := Aside0.mk (blk_below (g := gb615) (o := .cells #[.int .i64 a1_0, .int .i64 a1_1, .slice A1_2 l1_2.length c1_2] 24 (0, 0)) (by (with_reducible repeat (first | refine blk_drewN ?_ _ | refine blk_drew ?_ | refine blk_alloc ?_ _)); exact BK615.out) hb)
      have n2_ := Aside0.mk (below_step (by repeat (first | (with_reducible first | exact HB.out | apply below_alloc | apply pw_below_drewN | apply below_drew1 | refine below_set ?_ GE614.out | refine below_set ?_ GE615.out) | exact HB.out)) hb)
      clear BK614
      clear BK615
      clear HB
      have BK614 := n0_
      have BK615 := n1_
      have HB := n2_
      clear n0_ n1_ n2_
      (try clear hb)
      (try clear hb2)
      (try clear hk)
      (try clear hi)
      refine hK.out _ _ ⟨(blk_cell BK614.out 0).trans rfl, (blk_cell BK614.out 1).trans rfl, (blk_cell BK614.out 2).trans rfl, (blk_cell BK615.out 0).trans rfl, (blk_cell BK615.out 1).trans rfl, (blk_cell BK615.out 2).trans rfl⟩ (fun hHeld => ?_)
      clear hK K
      refine norm_ (a' := ?_) ?_ ?_
      rotate_left
      ·show Act.put _ (some 7) _ = _
       simp only [Act.put, List.setIfInBounds_toArray, List.set_cons_zero, List.set_cons_succ, i64_w, i32_w]
       rfl
      refine one_ (i := 3) (N := some 9) Mk16_4_ rfl rfl (one_of HT_.out (by kernel_rfl)) (by decide) (fun K hK => ?_)
      refine goes_ Tryd.func9 (by kernel_rfl) rfl #[.agg #[.int .i64 a1_0, .int .i64 a1_1, .slice A1_2 l1_2.length c1_2]] (by rfl) rfl rfl (by (try simp only [List.map_toArray, List.map_cons, List.map_nil]); first | done | rfl | (simp only [List.length_drop, List.length_take]; rfl)) ?_
      with_reducible refine (parrylaw22_Heavy.calls k a1_0 a1_1 _ _ l1_2 t617 _ ?side1 ?side2 A4.out).mono ?_
      (case side1 => repeat (first | exact (Kd.C_below HR1_2.out HB.out) | (with_reducible refine Kd.C_alloc ?_ _) | (with_reducible refine Kd.C_drewN ?_ _) | (with_reducible refine Kd.C_drew ?_)))
      (case side2 => exact HC1_2.out)
      rintro e w29 ⟨rfl, hb⟩
      refine ⟨_, rfl, ?_⟩
      have n0_ := Aside0.mk (blk_below (g := gb614) (o := .cells #[.int .i64 a0_0, .int .i64 a0_1, .slice A0_2 l0_2.length c0_2] 24 (0, 0)) (by (with_reducible repeat (first | refine blk_drewN ?_ _ | refine blk_drew ?_ | refine blk_alloc ?_ _)); exact BK614.out) hb)
      have n1_ := Aside0.mk (blk_below (g := gb615) (o := .cells #[.int .i64 a1_0, .int .i64 a1_1, .slice A1_2 l1_2.length c1_2] 24 (0, 0)) (by (with_reducible repeat (first | refine blk_drewN ?_ _ | refine blk_drew ?_ | refine blk_alloc ?_ _)); exact BK615.out) hb)
      have n2_ := Aside0.mk (below_step (by repeat (first | (with_reducible first | exact HB.out | apply below_alloc | apply pw_below_drewN | apply below_drew1 | refine below_set ?_ GE614.out | refine below_set ?_ GE615.out) | exact HB.out)) hb)
      clear BK614
      clear BK615
      clear HB
      have BK614 := n0_
      have BK615 := n1_
      have HB := n2_
      clear n0_ n1_ n2_
      (try clear hb)
      (try clear hb2)
      (try clear hk)
      (try clear hi)
      refine hK.out _ _ ⟨(blk_cell BK614.out 0).trans rfl, (blk_cell BK614.out 1).trans rfl, (blk_cell BK614.out 2).trans rfl, (blk_cell BK615.out 0).trans rfl, (blk_cell BK615.out 1).trans rfl, (blk_cell BK615.out 2).trans rfl⟩ (fun hHeld => ?_)
      clear hK K
      refine norm_ (a' := ?_) ?_ ?_
      rotate_left
      ·show Act.put _ (some 9) _ = _
       simp only [Act.put, List.setIfInBounds_toArray, List.set_cons_zero, List.set_cons_succ, i64_w, i32_w]
       rfl
      refine pure_ (i := 4) (N := some 10) (v := ?_) (a' := ?_) Mk16_5_ rfl rfl (any_of HT_.out (by kernel_rfl)) (fun _ _ _ h => h) (Or.inl ⟨by rfl, ?_⟩) ?_ ?_; rotate_left; intro w'; go_simp; with_reducible rfl; rotate_left; simp only [Act.put, List.setIfInBounds_toArray, List.set_cons_zero, List.set_cons_succ, i64_w, i32_w]; rfl
      refine pure_ (i := 5) (N := some 11) (v := ?_) (a' := ?_) Mk16_6_ rfl rfl (any_of HT_.out (by kernel_rfl)) (fun _ _ _ h => h) (Or.inl ⟨by rfl, ?_⟩) ?_ ?_; rotate_left; intro w'; go_simp; with_reducible rfl; rotate_left; simp only [Act.put, List.setIfInBounds_toArray, List.set_cons_zero, List.set_cons_succ, i64_w, i32_w]; rfl
      refine pure_ (i := 6) (N := some 12) (v := ?_) (a' := ?_) Mk16_7_ rfl rfl (any_of HT_.out (by kernel_rfl)) (fun _ _ _ h => h) (Or.inl ⟨by rfl, ?_⟩) ?_ ?_; rotate_left; intro w'; go_simp; with_reducible rfl; rotate_left; simp only [Act.put, List.setIfInBounds_toArray, List.set_cons_zero, List.set_cons_succ, i64_w, i32_w]; rfl
      refine take_ (i := 7) (N := some 13) (v := ?_) (a' := ?_) Mk16_8_ rfl rfl (take_ofW HT_.out HW_.out (by kernel_rfl)) (fun _ _ _ h => h) (Or.inl ⟨by rfl, ?_⟩) hHeld ?_ ?_
      rotate_left
      ·rintro w' ⟨s0, s1, s2, s3, s4, s5⟩
       go_simp
       with_reducible rfl
      rotate_left
      ·simp only [Act.put, List.setIfInBounds_toArray, List.set_cons_zero, List.set_cons_succ, i64_w, i32_w]
       rfl
      refine one_ (i := 8) (N := some 14) Mk16_9_ rfl rfl (one_of HT_.out (by kernel_rfl)) (by decide) (fun K hK => ?_)
      refine goes_ Tryd.func20 (by kernel_rfl) rfl #[.agg #[.int .i64 a0_0, .int .i64 a0_1, .slice A0_2 l0_2.length c0_2]] (by rfl) rfl rfl (by (try simp only [List.map_toArray, List.map_cons, List.map_nil]); first | done | rfl | (simp only [List.length_drop, List.length_take]; rfl)) ?_
      with_reducible refine (parryref22_May.calls k a0_0 a0_1 _ _ l0_2 t619 _ ?side1 ?side2 A13.out).mono ?_
      (case side1 => repeat (first | exact (Kd.C_below HR0_2.out HB.out) | (with_reducible refine Kd.C_alloc ?_ _) | (with_reducible refine Kd.C_drewN ?_ _) | (with_reducible refine Kd.C_drew ?_)))
      (case side2 => exact HC0_2.out)
      rintro e w30 ⟨rfl, hb⟩
      refine ⟨_, rfl, ?_⟩
      have n0_ := Aside0.mk (blk_below (g := gb614) (o := .cells #[.int .i64 a0_0, .int .i64 a0_1, .slice A0_2 l0_2.length c0_2] 24 (0, 0)) (by (with_reducible repeat (first | refine blk_drewN ?_ _ | refine blk_drew ?_ | refine blk_alloc ?_ _)); exact BK614.out) hb)
      have n1_ := Aside0.mk (blk_below (g := gb615) (o := .cells #[.int .i64 a1_0, .int .i64 a1_1, .slice A1_2 l1_2.length c1_2] 24 (0, 0)) (by (with_reducible repeat (first | refine blk_drewN ?_ _ | refine blk_drew ?_ | refine blk_alloc ?_ _)); exact BK615.out) hb)
      have n2_ := Aside0.mk (below_step (by repeat (first | (with_reducible first | exact HB.out | apply below_alloc | apply pw_below_drewN | apply below_drew1 | refine below_set ?_ GE614.out | refine below_set ?_ GE615.out) | exact HB.out)) hb)
      clear BK614
      clear BK615
      clear HB
      have BK614 := n0_
      have BK615 := n1_
      have HB := n2_
      clear n0_ n1_ n2_
      (try clear hb)
      (try clear hb2)
      (try clear hk)
      (try clear hi)
      refine hK.out _ _ ⟨(blk_cell BK614.out 0).trans rfl, (blk_cell BK614.out 1).trans rfl, (blk_cell BK614.out 2).trans rfl, (blk_cell BK615.out 0).trans rfl, (blk_cell BK615.out 1).trans rfl, (blk_cell BK615.out 2).trans rfl⟩ (fun hHeld => ?_)
      clear hK K
      refine norm_ (a' := ?_) ?_ ?_
      rotate_left
      ·show Act.put _ (some 14) _ = _
       simp only [Act.put, List.setIfInBounds_toArray, List.set_cons_zero, List.set_cons_succ, i64_w, i32_w]
       rfl
      refine pure_ (i := 9) (N := some 15) (v := ?_) (a' := ?_) Mk16_10_ rfl rfl (any_of HT_.out (by kernel_rfl)) (fun _ _ _ h => h) (Or.inl ⟨by rfl, ?_⟩) ?_ ?_; rotate_left; intro w'; go_simp; with_reducible rfl; rotate_left; simp only [Act.put, List.setIfInBounds_toArray, List.set_cons_zero, List.set_cons_succ, i64_w, i32_w]; rfl
      refine pure_ (i := 10) (N := some 16) (v := ?_) (a' := ?_) Mk16_11_ rfl rfl (any_of HT_.out (by kernel_rfl)) (fun _ _ _ h => h) (Or.inl ⟨by rfl, ?_⟩) ?_ ?_; rotate_left; intro w'; go_simp; with_reducible rfl; rotate_left; simp only [Act.put, List.setIfInBounds_toArray, List.set_cons_zero, List.set_cons_succ, i64_w, i32_w]; rfl
      refine pure_ (i := 11) (N := some 17) (v := ?_) (a' := ?_) Mk16_12_ rfl rfl (any_of HT_.out (by kernel_rfl)) (fun _ _ _ h => h) (Or.inl ⟨by rfl, ?_⟩) ?_ ?_; rotate_left; intro w'; go_simp; with_reducible rfl; rotate_left; simp only [Act.put, List.setIfInBounds_toArray, List.set_cons_zero, List.set_cons_succ, i64_w, i32_w]; rfl
      refine take_ (i := 12) (N := some 18) (v := ?_) (a' := ?_) Mk16_13_ rfl rfl (take_ofW HT_.out HW_.out (by kernel_rfl)) (fun _ _ _ h => h) (Or.inl ⟨by rfl, ?_⟩) hHeld ?_ ?_
      rotate_left
      ·rintro w' ⟨s0, s1, s2, s3, s4, s5⟩
       go_simp
       with_reducible rfl
      rotate_left
      ·simp only [Act.put, List.setIfInBounds_toArray, List.set_cons_zero, List.set_cons_succ, i64_w, i32_w]
       rfl
      refine one_ (i := 13) (N := some 19) Mk16_14_ rfl rfl (one_of HT_.out (by kernel_rfl)) (by decide) (fun K hK => ?_)
      refine goes_ Tryd.func20 (by kernel_rfl) rfl #[.agg #[.int .i64 a1_0, .int .i64 a1_1, .slice A1_2 l1_2.length c1_2]] (by rfl) rfl rfl (by (try simp only [List.map_toArray, List.map_cons, List.map_nil]); first | done | rfl | (simp only [List.length_drop, List.length_take]; rfl)) ?_
      with_reducible refine (parryref22_May.calls k a1_0 a1_1 _ _ l1_2 t620 _ ?side1 ?side2 A15.out).mono ?_
      (case side1 => repeat (first | exact (Kd.C_below HR1_2.out HB.out) | (with_reducible refine Kd.C_alloc ?_ _) | (with_reducible refine Kd.C_drewN ?_ _) | (with_reducible refine Kd.C_drew ?_)))
      (case side2 => exact HC1_2.out)
      rintro e w31 ⟨rfl, hb⟩
      refine ⟨_, rfl, ?_⟩
      have n0_ := Aside0.mk (blk_below (g := gb614) (o := .cells #[.int .i64 a0_0, .int .i64 a0_1, .slice A0_2 l0_2.length c0_2] 24 (0, 0)) (by (with_reducible repeat (first | refine blk_drewN ?_ _ | refine blk_drew ?_ | refine blk_alloc ?_ _)); exact BK614.out) hb)
      have n1_ := Aside0.mk (blk_below (g := gb615) (o := .cells #[.int .i64 a1_0, .int .i64 a1_1, .slice A1_2 l1_2.length c1_2] 24 (0, 0)) (by (with_reducible repeat (first | refine blk_drewN ?_ _ | refine blk_drew ?_ | refine blk_alloc ?_ _)); exact BK615.out) hb)
      have n2_ := Aside0.mk (below_step (by repeat (first | (with_reducible first | exact HB.out | apply below_alloc | apply pw_below_drewN | apply below_drew1 | refine below_set ?_ GE614.out | refine below_set ?_ GE615.out) | exact HB.out)) hb)
      clear BK614
      clear BK615
      clear HB
      have BK614 := n0_
      have BK615 := n1_
      have HB := n2_
      clear n0_ n1_ n2_
      (try clear hb)
      (try clear hb2)
      (try clear hk)
      (try clear hi)
      refine hK.out _ _ ⟨(blk_cell BK614.out 0).trans rfl, (blk_cell BK614.out 1).trans rfl, (blk_cell BK614.out 2).trans rfl, (blk_cell BK615.out 0).trans rfl, (blk_cell BK615.out 1).trans rfl, (blk_cell BK615.out 2).trans rfl⟩ (fun hHeld => ?_)
      clear hK K
      refine norm_ (a' := ?_) ?_ ?_
      rotate_left
      ·show Act.put _ (some 19) _ = _
       simp only [Act.put, List.setIfInBounds_toArray, List.set_cons_zero, List.set_cons_succ, i64_w, i32_w]
       rfl
      refine pure_ (i := 14) (N := some 20) (v := ?_) (a' := ?_) Mk16_15_ rfl rfl (any_of HT_.out (by kernel_rfl)) (fun _ _ _ h => h) (Or.inl ⟨by rfl, ?_⟩) ?_ ?_; rotate_left; intro w'; go_simp; with_reducible rfl; rotate_left; simp only [Act.put, List.setIfInBounds_toArray, List.set_cons_zero, List.set_cons_succ, i64_w, i32_w]; rfl
      refine pure_ (i := 15) (N := some 21) (v := ?_) (a' := ?_) Mk16_16_ rfl rfl (any_of HT_.out (by kernel_rfl)) (fun _ _ _ h => h) (Or.inl ⟨by rfl, ?_⟩) ?_ ?_; rotate_left; intro w'; go_simp; with_reducible rfl; rotate_left; simp only [Act.put, List.setIfInBounds_toArray, List.set_cons_zero, List.set_cons_succ, i64_w, i32_w]; rfl
      refine done_ (done_of HT_.out (by kernel_rfl)) ?_
      have hnb32 := NB614_615.out
      have hnc32 := NB615_614.out
      have hcz33_0 : w31.cell? ⟨gb614, 0, none⟩ = some (.int .i64 a0_0) := (blk_cell BK614.out 0).trans rfl
      have hcz33_1 : w31.cell? ⟨gb614, 1, none⟩ = some (.int .i64 a0_1) := (blk_cell BK614.out 1).trans rfl
      have hcz33_2 : w31.cell? ⟨gb614, 2, none⟩ = some (.slice A0_2 l0_2.length c0_2) := (blk_cell BK614.out 2).trans rfl
      have hfz33_0 := blk_frozen BK614.out 0
      have hfz33_1 := blk_frozen BK614.out 1
      have hfz33_2 := blk_frozen BK614.out 2
      try go_wp2_with (first | ((with_reducible refine gate_callee (f := 28) rfl ?_); refine goesL_ (some 24) rfl rfl Tryd.func28 (by kernel_rfl) rfl #[.agg #[.int .i64 a0_0, .int .i64 a0_1, .slice A0_2 l0_2.length c0_2]] rfl (by (try simp only [List.map_toArray, List.map_cons, List.map_nil]); first | done | rfl | (simp only [List.length_drop, List.length_take]; rfl)) ?_; (with_reducible refine (formula_Not.calls k a0_0 a0_1 _ _ l0_2 t621 t622 t623 _ ?side1 ?side2 A17.out).mono ?_); (case side1 => repeat (first | exact (Kd.C_below HR0_2.out HB.out) | (with_reducible refine Kd.C_alloc ?_ _) | (with_reducible refine Kd.C_drewN ?_ _) | (with_reducible refine Kd.C_drew ?_))); (case side2 => exact HC0_2.out); rintro e w34 ⟨v624, rfl, ho0, hb⟩; refine ⟨_, rfl, ?_⟩; have n0_ := Aside0.mk (Kd.N_lower (Kd.N_mono (ok' := fun k_ => k_ ≠ gb614 ∧ k_ ≠ gb615) ho0 (fun k_ hk_ => ⟨(Kd.freshB (g := gb614) (o := .cells #[.int .i64 a0_0, .int .i64 a0_1, .slice A0_2 l0_2.length c0_2] 24 (0, 0)) (by (with_reducible repeat (first | refine blk_drewN ?_ _ | refine blk_drew ?_ | refine blk_alloc ?_ _)); exact BK614.out) k_ hk_), (Kd.freshB (g := gb615) (o := .cells #[.int .i64 a1_0, .int .i64 a1_1, .slice A1_2 l1_2.length c1_2] 24 (0, 0)) (by (with_reducible repeat (first | refine blk_drewN ?_ _ | refine blk_drew ?_ | refine blk_alloc ?_ _)); exact BK615.out) k_ hk_)⟩)) (below_size (by repeat (first | (with_reducible first | exact HB.out | apply below_alloc | apply pw_below_drewN | apply below_drew1 | refine below_set ?_ GE614.out | refine below_set ?_ GE615.out) | exact HB.out)))); have n1_ := Aside0.mk (blk_below (g := gb614) (o := .cells #[.int .i64 a0_0, .int .i64 a0_1, .slice A0_2 l0_2.length c0_2] 24 (0, 0)) (by (with_reducible repeat (first | refine blk_drewN ?_ _ | refine blk_drew ?_ | refine blk_alloc ?_ _)); exact BK614.out) hb); have n2_ := Aside0.mk (blk_below (g := gb615) (o := .cells #[.int .i64 a1_0, .int .i64 a1_1, .slice A1_2 l1_2.length c1_2] 24 (0, 0)) (by (with_reducible repeat (first | refine blk_drewN ?_ _ | refine blk_drew ?_ | refine blk_alloc ?_ _)); exact BK615.out) hb); have n3_ := Aside0.mk (below_step (by repeat (first | (with_reducible first | exact HB.out | apply below_alloc | apply pw_below_drewN | apply below_drew1 | refine below_set ?_ GE614.out | refine below_set ?_ GE615.out) | exact HB.out)) hb); clear BK614; clear BK615; clear HB; have HO625 := n0_; have BK614 := n1_; have BK615 := n2_; have HB := n3_; clear n0_ n1_ n2_ n3_; (try clear hb); (try clear hb2); (try clear hk); (try clear hi); (try clear ho0); obtain ⟨Ao35, co35, eo35⟩ := Kd.N_slice HO625.out; subst eo35) | ((with_reducible refine gate_callee (f := 28) rfl ?_); refine goesL_ (some 25) rfl rfl Tryd.func28 (by kernel_rfl) rfl #[.agg #[.int .i64 t621, .int .i64 t622, .slice Ao35 t623.length co35]] rfl (by (try simp only [List.map_toArray, List.map_cons, List.map_nil]); first | done | rfl | (simp only [List.length_drop, List.length_take]; rfl)) ?_; (with_reducible refine (formula_Not.calls k t621 t622 _ _ t623 t626 t627 t628 _ ?side1 ?side2 A18.out).mono ?_); (case side1 => repeat (first | exact (Kd.N_reads' HO625.out).2.2 | (with_reducible refine Kd.C_alloc ?_ _) | (with_reducible refine Kd.C_drewN ?_ _) | (with_reducible refine Kd.C_drew ?_))); (case side2 => exact (Kd.N_reads' HO625.out).2.1); rintro e w36 ⟨v629, rfl, ho0, hb⟩; refine ⟨_, rfl, ?_⟩; have n0_ := Aside0.mk (Kd.N_elder' (by (with_reducible repeat (first | apply Kd.N_alloc | apply Kd.N_drewN | apply Kd.N_drew)); exact HO625.out) (Kd.N_base ho0) hb); have n1_ := Aside0.mk (Kd.N_lower (Kd.N_mono (ok' := fun k_ => some k_ ≠ (.slice Ao35 t623.length co35 : Value).ownBlock ∧ k_ ≠ gb614 ∧ k_ ≠ gb615) ho0 (fun k_ hk_ => ⟨(Kd.fresh' (Kd.N_lt (by (with_reducible repeat (first | apply Kd.N_alloc | apply Kd.N_drewN | apply Kd.N_drew)); exact HO625.out)) k_ hk_), (Kd.freshB (g := gb614) (o := .cells #[.int .i64 a0_0, .int .i64 a0_1, .slice A0_2 l0_2.length c0_2] 24 (0, 0)) (by (with_reducible repeat (first | refine blk_drewN ?_ _ | refine blk_drew ?_ | refine blk_alloc ?_ _)); exact BK614.out) k_ hk_), (Kd.freshB (g := gb615) (o := .cells #[.int .i64 a1_0, .int .i64 a1_1, .slice A1_2 l1_2.length c1_2] 24 (0, 0)) (by (with_reducible repeat (first | refine blk_drewN ?_ _ | refine blk_drew ?_ | refine blk_alloc ?_ _)); exact BK615.out) k_ hk_)⟩)) (below_size (by repeat (first | (with_reducible first | exact HB.out | apply below_alloc | apply pw_below_drewN | apply below_drew1 | refine below_set ?_ GE614.out | refine below_set ?_ GE615.out) | exact HB.out)))); have n2_ := Aside0.mk (blk_below (g := gb614) (o := .cells #[.int .i64 a0_0, .int .i64 a0_1, .slice A0_2 l0_2.length c0_2] 24 (0, 0)) (by (with_reducible repeat (first | refine blk_drewN ?_ _ | refine blk_drew ?_ | refine blk_alloc ?_ _)); exact BK614.out) hb); have n3_ := Aside0.mk (blk_below (g := gb615) (o := .cells #[.int .i64 a1_0, .int .i64 a1_1, .slice A1_2 l1_2.length c1_2] 24 (0, 0)) (by (with_reducible repeat (first | refine blk_drewN ?_ _ | refine blk_drew ?_ | refine blk_alloc ?_ _)); exact BK615.out) hb); have n4_ := Aside0.mk (below_step (by repeat (first | (with_reducible first | exact HB.out | apply below_alloc | apply pw_below_drewN | apply below_drew1 | refine below_set ?_ GE614.out | refine below_set ?_ GE615.out) | exact HB.out)) hb); clear HO625; clear BK614; clear BK615; clear HB; have HO625 := n0_; have HO630 := n1_; have BK614 := n2_; have BK615 := n3_; have HB := n4_; clear n0_ n1_ n2_ n3_ n4_; (try clear hb); (try clear hb2); (try clear hk); (try clear hi); (try clear ho0)) | ((with_reducible refine gate_dst (N := 5) rfl ?_); refine box_event ?hg (N := 5) ?hd (cs := #[.int .i64 0, .int .i64 0, .slice none 0 0]) (t := 24) ?hr ?_; (case hd => rfl); (case hg => rfl); (case hr => first | (go_simp; done) | (go_simp; rfl)); intro gb631 hg w37 hbox hb; have n0_ := Aside0.mk (Kd.N_below (Kd.N_elderB (by (with_reducible repeat (first | apply Kd.N_alloc | apply Kd.N_drewN | apply Kd.N_drew)); exact HO625.out) gb631 (Nat.le_of_eq hg.symm)) hb); have n1_ := Aside0.mk (Kd.N_below (Kd.N_elderB (by (with_reducible repeat (first | apply Kd.N_alloc | apply Kd.N_drewN | apply Kd.N_drew)); exact HO630.out) gb631 (Nat.le_of_eq hg.symm)) hb); have n2_ := Aside0.mk (blk_below (g := gb614) (o := .cells #[.int .i64 a0_0, .int .i64 a0_1, .slice A0_2 l0_2.length c0_2] 24 (0, 0)) (by (with_reducible repeat (first | refine blk_drewN ?_ _ | refine blk_drew ?_ | refine blk_alloc ?_ _)); exact BK614.out) hb); have n3_ := Aside0.mk (blk_below (g := gb615) (o := .cells #[.int .i64 a1_0, .int .i64 a1_1, .slice A1_2 l1_2.length c1_2] 24 (0, 0)) (by (with_reducible repeat (first | refine blk_drewN ?_ _ | refine blk_drew ?_ | refine blk_alloc ?_ _)); exact BK615.out) hb); have n4_ := Aside0.mk (below_step (by repeat (first | (with_reducible first | exact HB.out | apply below_alloc | apply pw_below_drewN | apply below_drew1 | refine below_set ?_ GE614.out | refine below_set ?_ GE615.out) | exact HB.out)) hb); have n5_ := Aside0.mk (hbox); have n6_ := Aside0.mk ((by rw [hg]; exact (below_size (by repeat (first | (with_reducible first | exact HB.out | apply below_alloc | apply pw_below_drewN | apply below_drew1 | refine below_set ?_ GE614.out | refine below_set ?_ GE615.out) | exact HB.out))) : w.heap.size ≤ gb631)); have n7_ := Aside0.mk ((by rw [hg]; exact (below_size (by repeat (first | (with_reducible first | exact HB.out | apply below_alloc | apply pw_below_drewN | apply below_drew1 | refine below_set ?_ GE614.out | refine below_set ?_ GE615.out) | exact HB.out))) : w.heap.size ≤ gb631)); have n8_ := Aside0.mk ((by rw [hg]; exact Nat.ne_of_lt (blk_lt (g := gb614) (o := .cells #[.int .i64 a0_0, .int .i64 a0_1, .slice A0_2 l0_2.length c0_2] 24 (0, 0)) (by (with_reducible repeat (first | refine blk_drewN ?_ _ | refine blk_drew ?_ | refine blk_alloc ?_ _)); exact BK614.out)) : gb614 ≠ gb631)); have n9_ := Aside0.mk ((by rw [hg]; exact Nat.ne_of_gt (blk_lt (g := gb614) (o := .cells #[.int .i64 a0_0, .int .i64 a0_1, .slice A0_2 l0_2.length c0_2] 24 (0, 0)) (by (with_reducible repeat (first | refine blk_drewN ?_ _ | refine blk_drew ?_ | refine blk_alloc ?_ _)); exact BK614.out)) : gb631 ≠ gb614)); have n10_ := Aside0.mk ((by rw [hg]; exact Nat.ne_of_lt (blk_lt (g := gb615) (o := .cells #[.int .i64 a1_0, .int .i64 a1_1, .slice A1_2 l1_2.length c1_2] 24 (0, 0)) (by (with_reducible repeat (first | refine blk_drewN ?_ _ | refine blk_drew ?_ | refine blk_alloc ?_ _)); exact BK615.out)) : gb615 ≠ gb631)); have n11_ := Aside0.mk ((by rw [hg]; exact Nat.ne_of_gt (blk_lt (g := gb615) (o := .cells #[.int .i64 a1_0, .int .i64 a1_1, .slice A1_2 l1_2.length c1_2] 24 (0, 0)) (by (with_reducible repeat (first | refine blk_drewN ?_ _ | refine blk_drew ?_ | refine blk_alloc ?_ _)); exact BK615.out)) : gb631 ≠ gb615)); clear HO625; clear HO630; clear BK614; clear BK615; clear HB; have HO625 := n0_; have HO630 := n1_; have BK614 := n2_; have BK615 := n3_; have HB := n4_; have BK631 := n5_; have GW631 := n6_; have GE631 := n7_; have NB614_631 := n8_; have NB631_614 := n9_; have NB615_631 := n10_; have NB631_615 := n11_; clear n0_ n1_ n2_ n3_ n4_ n5_ n6_ n7_ n8_ n9_ n10_ n11_; clear hb hbox hg; have hnb38 := NB631_614.out; have hnc38 := NB614_631.out; have hnb39 := NB631_615.out; have hnc39 := NB615_631.out; have hcz40_0 : w37.cell? ⟨gb631, 0, none⟩ = some (.int .i64 0) := (blk_cell BK631.out 0).trans rfl; have hcz40_1 : w37.cell? ⟨gb631, 1, none⟩ = some (.int .i64 0) := (blk_cell BK631.out 1).trans rfl; have hcz40_2 : w37.cell? ⟨gb631, 2, none⟩ = some (.slice none 0 0) := (blk_cell BK631.out 2).trans rfl; have hfz40_0 := blk_frozen BK631.out 0; have hfz40_1 := blk_frozen BK631.out 1; have hfz40_2 := blk_frozen BK631.out 2; obtain ⟨Ao41, co41, eo41⟩ := Kd.N_slice HO630.out; subst eo41))
      have n0_ : Aside0 (Kd.N k24 24 (((w37.setCell ⟨gb631, 0, none⟩ (.int .i64 t626)).setCell ⟨gb631, 1, none⟩ (.int .i64 t627)).setCell ⟨gb631, 2, none⟩ (.slice Ao41 t628.length co41)) w.heap.size (fun k_ => some k_ ≠ (.slice Ao41 t628.length co41 : Value).ownBlock ∧ k_ ≠ gb614 ∧ k_ ≠ gb615 ∧ k_ ≠ gb631) (.slice Ao35 t623.length co35) t623) := ⟨by (with_reducible repeat (first | apply Kd.N_alloc | apply Kd.N_drewN | apply Kd.N_drew)); exact Kd.N_mono (Kd.N_far (p := ⟨gb631, 2, none⟩) (Kd.N_far (p := ⟨gb631, 1, none⟩) (Kd.N_far (p := ⟨gb631, 0, none⟩) (Kd.N_mono HO625.out (fun k_ hk => (⟨hk, hk.2⟩ : _ ∧ k_ ≠ gb631))) (fun _ hk => hk.2) (.int .i64 t626)) (fun _ hk => hk.2) (.int .i64 t627)) (fun _ hk => hk.2) (.slice Ao41 t628.length co41)) (fun _ hk => ⟨hk.1.1.2, ⟨hk.1.1.1.1, ⟨hk.1.1.1.2, hk.1.2⟩⟩⟩)⟩
      have n1_ : Aside0 (Kd.N k24 24 (((w37.setCell ⟨gb631, 0, none⟩ (.int .i64 t626)).setCell ⟨gb631, 1, none⟩ (.int .i64 t627)).setCell ⟨gb631, 2, none⟩ (.slice Ao41 t628.length co41)) w.heap.size (fun k_ => some k_ ≠ (.slice Ao35 t623.length co35 : Value).ownBlock ∧ k_ ≠ gb614 ∧ k_ ≠ gb615 ∧ k_ ≠ gb631) (.slice Ao41 t628.length co41) t628) := ⟨by (with_reducible repeat (first | apply Kd.N_alloc | apply Kd.N_drewN | apply Kd.N_drew)); exact Kd.N_mono (Kd.N_far (p := ⟨gb631, 2, none⟩) (Kd.N_far (p := ⟨gb631, 1, none⟩) (Kd.N_far (p := ⟨gb631, 0, none⟩) (Kd.N_mono HO630.out (fun k_ hk => (⟨hk, hk.2⟩ : _ ∧ k_ ≠ gb631))) (fun _ hk => hk.2) (.int .i64 t626)) (fun _ hk => hk.2) (.int .i64 t627)) (fun _ hk => hk.2) (.slice Ao41 t628.length co41)) (fun _ hk => ⟨hk.1.1.1, ⟨hk.1.1.2.1, ⟨hk.1.1.2.2, hk.1.2⟩⟩⟩)⟩
      have n2_ : Aside0 ((((w37.setCell ⟨gb631, 0, none⟩ (.int .i64 t626)).setCell ⟨gb631, 1, none⟩ (.int .i64 t627)).setCell ⟨gb631, 2, none⟩ (.slice Ao41 t628.length co41)).heap[gb614]? = some (.cells #[.int .i64 a0_0, .int .i64 a0_1, .slice A0_2 l0_2.length c0_2] 24 (0, 0))) := ⟨by (with_reducible repeat (first | refine blk_drewN ?_ _ | refine blk_drew ?_ | refine blk_alloc ?_ _)); refine blk_far ?_ NB614_631.out _; (with_reducible repeat (first | refine blk_drewN ?_ _ | refine blk_drew ?_ | refine blk_alloc ?_ _)); refine blk_far ?_ NB614_631.out _; (with_reducible repeat (first | refine blk_drewN ?_ _ | refine blk_drew ?_ | refine blk_alloc ?_ _)); refine blk_far ?_ NB614_631.out _; (with_reducible repeat (first | refine blk_drewN ?_ _ | refine blk_drew ?_ | refine blk_alloc ?_ _)); exact BK614.out⟩
      have n3_ : Aside0 ((((w37.setCell ⟨gb631, 0, none⟩ (.int .i64 t626)).setCell ⟨gb631, 1, none⟩ (.int .i64 t627)).setCell ⟨gb631, 2, none⟩ (.slice Ao41 t628.length co41)).heap[gb615]? = some (.cells #[.int .i64 a1_0, .int .i64 a1_1, .slice A1_2 l1_2.length c1_2] 24 (0, 0))) := ⟨by (with_reducible repeat (first | refine blk_drewN ?_ _ | refine blk_drew ?_ | refine blk_alloc ?_ _)); refine blk_far ?_ NB615_631.out _; (with_reducible repeat (first | refine blk_drewN ?_ _ | refine blk_drew ?_ | refine blk_alloc ?_ _)); refine blk_far ?_ NB615_631.out _; (with_reducible repeat (first | refine blk_drewN ?_ _ | refine blk_drew ?_ | refine blk_alloc ?_ _)); refine blk_far ?_ NB615_631.out _; (with_reducible repeat (first | refine blk_drewN ?_ _ | refine blk_drew ?_ | refine blk_alloc ?_ _)); exact BK615.out⟩
      have n4_ : Aside0 ((((w37.setCell ⟨gb631, 0, none⟩ (.int .i64 t626)).setCell ⟨gb631, 1, none⟩ (.int .i64 t627)).setCell ⟨gb631, 2, none⟩ (.slice Ao41 t628.length co41)).heap[gb631]? = some (.cells #[.int .i64 t626, .int .i64 t627, .slice Ao41 t628.length co41] 24 (0, 0))) := ⟨by (with_reducible repeat (first | refine blk_drewN ?_ _ | refine blk_drew ?_ | refine blk_alloc ?_ _)); refine blk_put (cs := #[.int .i64 t626, .int .i64 t627, .slice none 0 0]) ?_ 2 _ rfl; (with_reducible repeat (first | refine blk_drewN ?_ _ | refine blk_drew ?_ | refine blk_alloc ?_ _)); refine blk_put (cs := #[.int .i64 t626, .int .i64 0, .slice none 0 0]) ?_ 1 _ rfl; (with_reducible repeat (first | refine blk_drewN ?_ _ | refine blk_drew ?_ | refine blk_alloc ?_ _)); refine blk_put (cs := #[.int .i64 0, .int .i64 0, .slice none 0 0]) ?_ 0 _ rfl; (with_reducible repeat (first | refine blk_drewN ?_ _ | refine blk_drew ?_ | refine blk_alloc ?_ _)); exact BK631.out⟩
      have n5_ : Aside0 (Below w.heap.size w (((w37.setCell ⟨gb631, 0, none⟩ (.int .i64 t626)).setCell ⟨gb631, 1, none⟩ (.int .i64 t627)).setCell ⟨gb631, 2, none⟩ (.slice Ao41 t628.length co41))) := ⟨by repeat (first | (with_reducible first | exact HB.out | apply below_alloc | apply pw_below_drewN | apply below_drew1 | refine below_set ?_ GE614.out | refine below_set ?_ GE615.out | refine below_set ?_ GE631.out) | exact HB.out)⟩
      (try clear HO625)
      (try clear HO630)
      (try clear BK614)
      (try clear BK615)
      (try clear BK631)
      (try clear HB)
      generalize (((w37.setCell ⟨gb631, 0, none⟩ (.int .i64 t626)).setCell ⟨gb631, 1, none⟩ (.int .i64 t627)).setCell ⟨gb631, 2, none⟩ (.slice Ao41 t628.length co41)) = w42 at n0_ n1_ n2_ n3_ n4_ n5_ ⊢
      have HO625 := n0_
      have HO630 := n1_
      have BK614 := n2_
      have BK615 := n3_
      have BK631 := n4_
      have HB := n5_
      clear n0_ n1_ n2_ n3_ n4_ n5_
      have n0_ := Aside0.mk (Kd.N_drew HO625.out)
      have n1_ := Aside0.mk (Kd.N_drew HO630.out)
      have n2_ := Aside0.mk (blk_drew BK614.out)
      have n3_ := Aside0.mk (blk_drew BK615.out)
      have n4_ := Aside0.mk (blk_drew BK631.out)
      have n5_ := Aside0.mk (below_drew1 HB.out)
      clear HO625
      clear HO630
      clear BK614
      clear BK615
      clear BK631
      clear HB
      have HO625 := n0_
      have HO630 := n1_
      have BK614 := n2_
      have BK615 := n3_
      have BK631 := n4_
      have HB := n5_
      clear n0_ n1_ n2_ n3_ n4_ n5_
      refine start_ (n := 29) (S := fun w' => w'.cell? ⟨gb614, 0, none⟩ = some (.int .i64 a0_0) ∧ w'.cell? ⟨gb614, 1, none⟩ = some (.int .i64 a0_1) ∧ w'.cell? ⟨gb614, 2, none⟩ = some (.slice A0_2 l0_2.length c0_2) ∧ w'.cell? ⟨gb615, 0, none⟩ = some (.int .i64 a1_0) ∧ w'.cell? ⟨gb615, 1, none⟩ = some (.int .i64 a1_1) ∧ w'.cell? ⟨gb615, 2, none⟩ = some (.slice A1_2 l1_2.length c1_2)) (ds := []) Mk29_17_ (by kernel_rfl) rfl rfl ⟨(blk_cell BK614.out 0).trans rfl, (blk_cell BK614.out 1).trans rfl, (blk_cell BK614.out 2).trans rfl, (blk_cell BK615.out 0).trans rfl, (blk_cell BK615.out 1).trans rfl, (blk_cell BK615.out 2).trans rfl⟩ (fun hHeld => ?_); refine with_tabW parrylaw22_FormulaTexts.tab4 parrylaw22_FormulaTexts.bits4 (fun HT_ HW_ => ?_)
      generalize w42.drew = w43 at HO625 HO630 BK614 BK615 BK631 HB hHeld ⊢
      refine take_ (i := 0) (N := some 26) (v := ?_) (a' := ?_) Mk29_18_ rfl rfl (take_ofW HT_.out HW_.out (by kernel_rfl)) (fun _ _ _ h => h) (Or.inl ⟨by rfl, ?_⟩) hHeld ?_ ?_
      rotate_left
      ·rintro w' ⟨s0, s1, s2, s3, s4, s5⟩
       go_simp
       with_reducible rfl
      rotate_left
      ·simp only [Act.put, List.setIfInBounds_toArray, List.set_cons_zero, List.set_cons_succ, i64_w, i32_w]
       rfl
      refine take_ (i := 2) (N := some 28) (v := ?_) (a' := ?_) Mk29_19_ rfl rfl (take_ofW HT_.out HW_.out (by kernel_rfl)) (fun _ _ _ h => h) (Or.inl ⟨by rfl, ?_⟩) hHeld ?_ ?_
      rotate_left
      ·rintro w' ⟨s0, s1, s2, s3, s4, s5⟩
       go_simp
       with_reducible rfl
      rotate_left
      ·simp only [Act.put, List.setIfInBounds_toArray, List.set_cons_zero, List.set_cons_succ, i64_w, i32_w]
       rfl
      refine take_ (i := 5) (N := some 31) (v := ?_) (a' := ?_) Mk29_20_ rfl rfl (take_ofW HT_.out HW_.out (by kernel_rfl)) (fun _ _ _ h => h) (Or.inl ⟨by rfl, ?_⟩) hHeld ?_ ?_
      rotate_left
      ·rintro w' ⟨s0, s1, s2, s3, s4, s5⟩
       go_simp
       with_reducible rfl
      rotate_left
      ·simp only [Act.put, List.setIfInBounds_toArray, List.set_cons_zero, List.set_cons_succ, i64_w, i32_w]
       rfl
      refine take_ (i := 6) (N := some 32) (v := ?_) (a' := ?_) Mk29_21_ rfl rfl (take_ofW HT_.out HW_.out (by kernel_rfl)) (fun _ _ _ h => h) (Or.inl ⟨by rfl, ?_⟩) hHeld ?_ ?_
      rotate_left
      ·rintro w' ⟨s0, s1, s2, s3, s4, s5⟩
       go_simp
       with_reducible rfl
      rotate_left
      ·simp only [Act.put, List.setIfInBounds_toArray, List.set_cons_zero, List.set_cons_succ, i64_w, i32_w]
       rfl
      refine one_ (i := 1) (N := some 27) Mk29_22_ rfl rfl (one_of HT_.out (by kernel_rfl)) (by decide) (fun K hK => ?_)
      refine goes_ Tryd.func26 (by kernel_rfl) rfl #[.agg #[.int .i64 a0_0, .int .i64 a0_1, .slice A0_2 l0_2.length c0_2]] (by rfl) rfl rfl (by (try simp only [List.map_toArray, List.map_cons, List.map_nil]); first | done | rfl | (simp only [List.length_drop, List.length_take]; rfl)) ?_
      with_reducible refine (formula_Text.calls a0_0 a0_1 _ _ l0_2 t632 _ ?side1 ?side2 A19.out).mono ?_
      (case side1 => repeat (first | exact (Kd.C_below HR0_2.out HB.out) | (with_reducible refine Kd.C_alloc ?_ _) | (with_reducible refine Kd.C_drewN ?_ _) | (with_reducible refine Kd.C_drew ?_)))
      (case side2 => exact HC0_2.out)
      rintro e w44 ⟨rfl, hb⟩
      refine ⟨_, rfl, ?_⟩
      have n0_ := Aside0.mk (Kd.N_below (by (with_reducible repeat (first | apply Kd.N_alloc | apply Kd.N_drewN | apply Kd.N_drew)); exact HO625.out) hb)
      have n1_ := Aside0.mk (Kd.N_below (by (with_reducible repeat (first | apply Kd.N_alloc | apply Kd.N_drewN | apply Kd.N_drew)); exact HO630.out) hb)
      have n2_ := Aside0.mk (blk_below (g := gb614) (o := .cells #[.int .i64 a0_0, .int .i64 a0_1, .slice A0_2 l0_2.length c0_2] 24 (0, 0)) (by (with_reducible repeat (first | refine blk_drewN ?_ _ | refine blk_drew ?_ | refine blk_alloc ?_ _)); exact BK614.out) hb)
      have n3_ := Aside0.mk (blk_below (g := gb615) (o := .cells #[.int .i64 a1_0, .int .i64 a1_1, .slice A1_2 l1_2.length c1_2] 24 (0, 0)) (by (with_reducible repeat (first | refine blk_drewN ?_ _ | refine blk_drew ?_ | refine blk_alloc ?_ _)); exact BK615.out) hb)
      have n4_ := Aside0.mk (blk_below (g := gb631) (o := .cells #[.int .i64 t626, .int .i64 t627, .slice Ao41 t628.length co41] 24 (0, 0)) (by (with_reducible repeat (first | refine blk_drewN ?_ _ | refine blk_drew ?_ | refine blk_alloc ?_ _)); exact BK631.out) hb)
      have n5_ := Aside0.mk (below_step (by repeat (first | (with_reducible first | exact HB.out | apply below_alloc | apply pw_below_drewN | apply below_drew1 | refine below_set ?_ GE614.out | refine below_set ?_ GE615.out | refine below_set ?_ GE631.out) | exact HB.out)) hb)
      clear HO625
      clear HO630
      clear BK614
      clear BK615
      clear BK631
      clear HB
      have HO625 := n0_
      have HO630 := n1_
      have BK614 := n2_
      have BK615 := n3_
      have BK631 := n4_
      have HB := n5_
      clear n0_ n1_ n2_ n3_ n4_ n5_
      (try clear hb)
      (try clear hb2)
      (try clear hk)
      (try clear hi)
      refine hK.out _ _ ⟨(blk_cell BK614.out 0).trans rfl, (blk_cell BK614.out 1).trans rfl, (blk_cell BK614.out 2).trans rfl, (blk_cell BK615.out 0).trans rfl, (blk_cell BK615.out 1).trans rfl, (blk_cell BK615.out 2).trans rfl⟩ (fun hHeld => ?_)
      clear hK K
      refine norm_ (a' := ?_) ?_ ?_
      rotate_left
      ·show Act.put _ (some 27) _ = _
       simp only [Act.put, List.setIfInBounds_toArray, List.set_cons_zero, List.set_cons_succ, i64_w, i32_w]
       rfl
      refine one_ (i := 3) (N := some 29) Mk29_23_ rfl rfl (one_of HT_.out (by kernel_rfl)) (by decide) (fun K hK => ?_)
      refine goes_ Tryd.func26 (by kernel_rfl) rfl #[.agg #[.int .i64 a1_0, .int .i64 a1_1, .slice A1_2 l1_2.length c1_2]] (by rfl) rfl rfl (by (try simp only [List.map_toArray, List.map_cons, List.map_nil]); first | done | rfl | (simp only [List.length_drop, List.length_take]; rfl)) ?_
      with_reducible refine (formula_Text.calls a1_0 a1_1 _ _ l1_2 t633 _ ?side1 ?side2 A20.out).mono ?_
      (case side1 => repeat (first | exact (Kd.C_below HR1_2.out HB.out) | (with_reducible refine Kd.C_alloc ?_ _) | (with_reducible refine Kd.C_drewN ?_ _) | (with_reducible refine Kd.C_drew ?_)))
      (case side2 => exact HC1_2.out)
      rintro e w45 ⟨rfl, hb⟩
      refine ⟨_, rfl, ?_⟩
      have n0_ := Aside0.mk (Kd.N_below (by (with_reducible repeat (first | apply Kd.N_alloc | apply Kd.N_drewN | apply Kd.N_drew)); exact HO625.out) hb)
      have n1_ := Aside0.mk (Kd.N_below (by (with_reducible repeat (first | apply Kd.N_alloc | apply Kd.N_drewN | apply Kd.N_drew)); exact HO630.out) hb)
      have n2_ := Aside0.mk (blk_below (g := gb614) (o := .cells #[.int .i64 a0_0, .int .i64 a0_1, .slice A0_2 l0_2.length c0_2] 24 (0, 0)) (by (with_reducible repeat (first | refine blk_drewN ?_ _ | refine blk_drew ?_ | refine blk_alloc ?_ _)); exact BK614.out) hb)
      have n3_ := Aside0.mk (blk_below (g := gb615) (o := .cells #[.int .i64 a1_0, .int .i64 a1_1, .slice A1_2 l1_2.length c1_2] 24 (0, 0)) (by (with_reducible repeat (first | refine blk_drewN ?_ _ | refine blk_drew ?_ | refine blk_alloc ?_ _)); exact BK615.out) hb)
      have n4_ := Aside0.mk (blk_below (g := gb631) (o := .cells #[.int .i64 t626, .int .i64 t627, .slice Ao41 t628.length co41] 24 (0, 0)) (by (with_reducible repeat (first | refine blk_drewN ?_ _ | refine blk_drew ?_ | refine blk_alloc ?_ _)); exact BK631.out) hb)
      have n5_ := Aside0.mk (below_step (by repeat (first | (with_reducible first | exact HB.out | apply below_alloc | apply pw_below_drewN | apply below_drew1 | refine below_set ?_ GE614.out | refine below_set ?_ GE615.out | refine below_set ?_ GE631.out) | exact HB.out)) hb)
      clear HO625
      clear HO630
      clear BK614
      clear BK615
      clear BK631
      clear HB
      have HO625 := n0_
      have HO630 := n1_
      have BK614 := n2_
      have BK615 := n3_
      have BK631 := n4_
      have HB := n5_
      clear n0_ n1_ n2_ n3_ n4_ n5_
      (try clear hb)
      (try clear hb2)
      (try clear hk)
      (try clear hi)
      refine hK.out _ _ ⟨(blk_cell BK614.out 0).trans rfl, (blk_cell BK614.out 1).trans rfl, (blk_cell BK614.out 2).trans rfl, (blk_cell BK615.out 0).trans rfl, (blk_cell BK615.out 1).trans rfl, (blk_cell BK615.out 2).trans rfl⟩ (fun hHeld => ?_)
      clear hK K
      refine norm_ (a' := ?_) ?_ ?_
      rotate_left
      ·show Act.put _ (some 29) _ = _
       simp only [Act.put, List.setIfInBounds_toArray, List.set_cons_zero, List.set_cons_succ, i64_w, i32_w]
       rfl
      refine pure_ (i := 4) (N := some 30) (v := ?_) (a' := ?_) Mk29_24_ rfl rfl (any_of HT_.out (by kernel_rfl)) (fun _ _ _ h => h) (Or.inl ⟨by rfl, ?_⟩) ?_ ?_; rotate_left; intro w'; go_simp; with_reducible rfl; rotate_left; simp only [Act.put, List.setIfInBounds_toArray, List.set_cons_zero, List.set_cons_succ, i64_w, i32_w]; rfl
      refine one_ (i := 7) (N := some 33) Mk29_25_ rfl rfl (one_of HT_.out (by kernel_rfl)) (by decide) (fun K hK => ?_)
      refine goes_ Tryd.func21 (by kernel_rfl) rfl #[.agg #[.int .i64 a0_0, .int .i64 a0_1, .slice A0_2 l0_2.length c0_2], .agg #[.int .i64 a1_0, .int .i64 a1_1, .slice A1_2 l1_2.length c1_2]] (by rfl) rfl rfl (by (try simp only [List.map_toArray, List.map_cons, List.map_nil]); first | done | rfl | (simp only [List.length_drop, List.length_take]; rfl)) ?_
      with_reducible refine (formula_Same.calls a0_0 a0_1 _ _ l0_2 a1_0 a1_1 _ _ l1_2 t634 _ ?side1 ?side2 ?side3 ?side4 A21.out).mono ?_
      (case side1 => repeat (first | exact (Kd.C_below HR0_2.out HB.out) | (with_reducible refine Kd.C_alloc ?_ _) | (with_reducible refine Kd.C_drewN ?_ _) | (with_reducible refine Kd.C_drew ?_)))
      (case side2 => exact HC0_2.out)
      (case side3 => repeat (first | exact (Kd.C_below HR1_2.out HB.out) | (with_reducible refine Kd.C_alloc ?_ _) | (with_reducible refine Kd.C_drewN ?_ _) | (with_reducible refine Kd.C_drew ?_)))
      (case side4 => exact HC1_2.out)
      rintro e w46 ⟨rfl, hb⟩
      refine ⟨_, rfl, ?_⟩
      have n0_ := Aside0.mk (Kd.N_below (by (with_reducible repeat (first | apply Kd.N_alloc | apply Kd.N_drewN | apply Kd.N_drew)); exact HO625.out) hb)
      have n1_ := Aside0.mk (Kd.N_below (by (with_reducible repeat (first | apply Kd.N_alloc | apply Kd.N_drewN | apply Kd.N_drew)); exact HO630.out) hb)
      have n2_ := Aside0.mk (blk_below (g := gb614) (o := .cells #[.int .i64 a0_0, .int .i64 a0_1, .slice A0_2 l0_2.length c0_2] 24 (0, 0)) (by (with_reducible repeat (first | refine blk_drewN ?_ _ | refine blk_drew ?_ | refine blk_alloc ?_ _)); exact BK614.out) hb)
      have n3_ := Aside0.mk (blk_below (g := gb615) (o := .cells #[.int .i64 a1_0, .int .i64 a1_1, .slice A1_2 l1_2.length c1_2] 24 (0, 0)) (by (with_reducible repeat (first | refine blk_drewN ?_ _ | refine blk_drew ?_ | refine blk_alloc ?_ _)); exact BK615.out) hb)
      have n4_ := Aside0.mk (blk_below (g := gb631) (o := .cells #[.int .i64 t626, .int .i64 t627, .slice Ao41 t628.length co41] 24 (0, 0)) (by (with_reducible repeat (first | refine blk_drewN ?_ _ | refine blk_drew ?_ | refine blk_alloc ?_ _)); exact BK631.out) hb)
      have n5_ := Aside0.mk (below_step (by repeat (first | (with_reducible first | exact HB.out | apply below_alloc | apply pw_below_drewN | apply below_drew1 | refine below_set ?_ GE614.out | refine below_set ?_ GE615.out | refine below_set ?_ GE631.out) | exact HB.out)) hb)
      clear HO625
      clear HO630
      clear BK614
      clear BK615
      clear BK631
      clear HB
      have HO625 := n0_
      have HO630 := n1_
      have BK614 := n2_
      have BK615 := n3_
      have BK631 := n4_
      have HB := n5_
      clear n0_ n1_ n2_ n3_ n4_ n5_
      (try clear hb)
      (try clear hb2)
      (try clear hk)
      (try clear hi)
      refine hK.out _ _ ⟨(blk_cell BK614.out 0).trans rfl, (blk_cell BK614.out 1).trans rfl, (blk_cell BK614.out 2).trans rfl, (blk_cell BK615.out 0).trans rfl, (blk_cell BK615.out 1).trans rfl, (blk_cell BK615.out 2).trans rfl⟩ (fun hHeld => ?_)
      clear hK K
      refine norm_ (a' := ?_) ?_ ?_
      rotate_left
      ·show Act.put _ (some 33) _ = _
       simp only [Act.put, List.setIfInBounds_toArray, List.set_cons_zero, List.set_cons_succ, i64_w, i32_w]
       rfl
      refine pure_ (i := 8) (N := some 34) (v := ?_) (a' := ?_) Mk29_26_ rfl rfl (any_of HT_.out (by kernel_rfl)) (fun _ _ _ h => h) (Or.inl ⟨by rfl, ?_⟩) ?_ ?_; rotate_left; intro w'; go_simp; with_reducible rfl; rotate_left; simp only [Act.put, List.setIfInBounds_toArray, List.set_cons_zero, List.set_cons_succ, i64_w, i32_w]; rfl
      refine pure_ (i := 9) (N := some 35) (v := ?_) (a' := ?_) Mk29_27_ rfl rfl (any_of HT_.out (by kernel_rfl)) (fun _ _ _ h => h) (Or.inl ⟨by rfl, ?_⟩) ?_ ?_; rotate_left; intro w'; go_simp; with_reducible rfl; rotate_left; simp only [Act.put, List.setIfInBounds_toArray, List.set_cons_zero, List.set_cons_succ, i64_w, i32_w]; rfl
      refine pure_ (i := 10) (N := some 36) (v := ?_) (a' := ?_) Mk29_28_ rfl rfl (any_of HT_.out (by kernel_rfl)) (fun _ _ _ h => h) (Or.inl ⟨by rfl, ?_⟩) ?_ ?_; rotate_left; intro w'; go_simp; with_reducible rfl; rotate_left; simp only [Act.put, List.setIfInBounds_toArray, List.set_cons_zero, List.set_cons_succ, i64_w, i32_w]; rfl
      refine take_ (i := 11) (N := some 37) (v := ?_) (a' := ?_) Mk29_29_ rfl rfl (take_ofW HT_.out HW_.out (by kernel_rfl)) (fun _ _ _ h => h) (Or.inl ⟨by rfl, ?_⟩) hHeld ?_ ?_
      rotate_left
      ·rintro w' ⟨s0, s1, s2, s3, s4, s5⟩
       go_simp
       with_reducible rfl
      rotate_left
      ·simp only [Act.put, List.setIfInBounds_toArray, List.set_cons_zero, List.set_cons_succ, i64_w, i32_w]
       rfl
      refine pure_ (i := 12) (N := some 38) (v := ?_) (a' := ?_) Mk29_30_ rfl rfl (any_of HT_.out (by kernel_rfl)) (fun _ _ _ h => h) (Or.inl ⟨by rfl, ?_⟩) ?_ ?_; rotate_left; intro w'; go_simp; with_reducible rfl; rotate_left; simp only [Act.put, List.setIfInBounds_toArray, List.set_cons_zero, List.set_cons_succ, i64_w, i32_w]; rfl
      refine pure_ (i := 13) (N := some 39) (v := ?_) (a' := ?_) Mk29_31_ rfl rfl (any_of HT_.out (by kernel_rfl)) (fun _ _ _ h => h) (Or.inl ⟨by rfl, ?_⟩) ?_ ?_; rotate_left; intro w'; go_simp; with_reducible rfl; rotate_left; simp only [Act.put, List.setIfInBounds_toArray, List.set_cons_zero, List.set_cons_succ, i64_w, i32_w]; rfl
      refine pure_ (i := 14) (N := some 40) (v := undef) (a' := ?_) Mk29_32_ rfl rfl (any_of HT_.out (by kernel_rfl)) (fun _ _ _ h => h) (Or.inr ⟨by rfl, rfl⟩) ?_ ?_
      rotate_left
      ·simp only [Act.put, List.setIfInBounds_toArray, List.set_cons_zero, List.set_cons_succ, i64_w, i32_w]
       rfl
      refine pure_ (i := 15) (N := some 41) (v := undef) (a' := ?_) Mk29_33_ rfl rfl (any_of HT_.out (by kernel_rfl)) (fun _ _ _ h => h) (Or.inr ⟨by rfl, rfl⟩) ?_ ?_
      rotate_left
      ·simp only [Act.put, List.setIfInBounds_toArray, List.set_cons_zero, List.set_cons_succ, i64_w, i32_w]
       rfl
      refine pure_ (i := 16) (N := some 42) (v := undef) (a' := ?_) Mk29_34_ rfl rfl (any_of HT_.out (by kernel_rfl)) (fun _ _ _ h => h) (Or.inr ⟨by rfl, rfl⟩) ?_ ?_
      rotate_left
      ·simp only [Act.put, List.setIfInBounds_toArray, List.set_cons_zero, List.set_cons_succ, i64_w, i32_w]
       rfl
      refine pure_ (i := 17) (N := some 43) (v := ?_) (a' := ?_) Mk29_35_ rfl rfl (any_of HT_.out (by kernel_rfl)) (fun _ _ _ h => h) (Or.inl ⟨by rfl, ?_⟩) ?_ ?_; rotate_left; intro w'; go_simp; with_reducible rfl; rotate_left; simp only [Act.put, List.setIfInBounds_toArray, List.set_cons_zero, List.set_cons_succ, i64_w, i32_w]; rfl
      refine pure_ (i := 18) (N := some 44) (v := ?_) (a' := ?_) Mk29_36_ rfl rfl (any_of HT_.out (by kernel_rfl)) (fun _ _ _ h => h) (Or.inl ⟨by rfl, ?_⟩) ?_ ?_; rotate_left; intro w'; go_simp; with_reducible rfl; rotate_left; simp only [Act.put, List.setIfInBounds_toArray, List.set_cons_zero, List.set_cons_succ, i64_w, i32_w]; rfl
      refine pure_ (i := 19) (N := some 45) (v := undef) (a' := ?_) Mk29_37_ rfl rfl (any_of HT_.out (by kernel_rfl)) (fun _ _ _ h => h) (Or.inr ⟨by rfl, rfl⟩) ?_ ?_
      rotate_left
      ·simp only [Act.put, List.setIfInBounds_toArray, List.set_cons_zero, List.set_cons_succ, i64_w, i32_w]
       rfl
      refine pure_ (i := 20) (N := some 46) (v := undef) (a' := ?_) Mk29_38_ rfl rfl (any_of HT_.out (by kernel_rfl)) (fun _ _ _ h => h) (Or.inr ⟨by rfl, rfl⟩) ?_ ?_
      rotate_left
      ·simp only [Act.put, List.setIfInBounds_toArray, List.set_cons_zero, List.set_cons_succ, i64_w, i32_w]
       rfl
      refine pure_ (i := 21) (N := some 47) (v := undef) (a' := ?_) Mk29_39_ rfl rfl (any_of HT_.out (by kernel_rfl)) (fun _ _ _ h => h) (Or.inr ⟨by rfl, rfl⟩) ?_ ?_
      rotate_left
      ·simp only [Act.put, List.setIfInBounds_toArray, List.set_cons_zero, List.set_cons_succ, i64_w, i32_w]
       rfl
      refine pure_ (i := 22) (N := some 48) (v := undef) (a' := ?_) Mk29_40_ rfl rfl (any_of HT_.out (by kernel_rfl)) (fun _ _ _ h => h) (Or.inr ⟨by rfl, rfl⟩) ?_ ?_
      rotate_left
      ·simp only [Act.put, List.setIfInBounds_toArray, List.set_cons_zero, List.set_cons_succ, i64_w, i32_w]
       rfl
      refine pure_ (i := 23) (N := some 49) (v := ?_) (a' := ?_) Mk29_41_ rfl rfl (any_of HT_.out (by kernel_rfl)) (fun _ _ _ h => h) (Or.inl ⟨by rfl, ?_⟩) ?_ ?_; rotate_left; intro w'; go_simp; with_reducible rfl; rotate_left; simp only [Act.put, List.setIfInBounds_toArray, List.set_cons_zero, List.set_cons_succ, i64_w, i32_w]; rfl
      refine pure_ (i := 24) (N := some 50) (v := ?_) (a' := ?_) Mk29_42_ rfl rfl (any_of HT_.out (by kernel_rfl)) (fun _ _ _ h => h) (Or.inl ⟨by rfl, ?_⟩) ?_ ?_; rotate_left; intro w'; go_simp; with_reducible rfl; rotate_left; simp only [Act.put, List.setIfInBounds_toArray, List.set_cons_zero, List.set_cons_succ, i64_w, i32_w]; rfl
      refine pure_ (i := 25) (N := some 51) (v := ?_) (a' := ?_) Mk29_43_ rfl rfl (any_of HT_.out (by kernel_rfl)) (fun _ _ _ h => h) (Or.inl ⟨by rfl, ?_⟩) ?_ ?_; rotate_left; intro w'; go_simp; with_reducible rfl; rotate_left; simp only [Act.put, List.setIfInBounds_toArray, List.set_cons_zero, List.set_cons_succ, i64_w, i32_w]; rfl
      refine one_ (i := 26) (N := some 52) Mk29_44_ rfl rfl (one_of HT_.out (by kernel_rfl)) (by decide) (fun K hK => ?_)
      refine goes_ Tryd.func11 (by kernel_rfl) rfl #[] (by rfl) rfl rfl (by (try simp only [List.map_toArray, List.map_cons, List.map_nil]); first | done | rfl | (simp only [List.length_drop, List.length_take]; rfl)) ?_
      with_reducible refine (parrylaw22_awake.calls  t635 _ A24.out).mono ?_
      rintro e w47 ⟨rfl, hb⟩
      refine ⟨_, rfl, ?_⟩
      have n0_ := Aside0.mk (Kd.N_below (by (with_reducible repeat (first | apply Kd.N_alloc | apply Kd.N_drewN | apply Kd.N_drew)); exact HO625.out) hb)
      have n1_ := Aside0.mk (Kd.N_below (by (with_reducible repeat (first | apply Kd.N_alloc | apply Kd.N_drewN | apply Kd.N_drew)); exact HO630.out) hb)
      have n2_ := Aside0.mk (blk_below (g := gb614) (o := .cells #[.int .i64 a0_0, .int .i64 a0_1, .slice A0_2 l0_2.length c0_2] 24 (0, 0)) (by (with_reducible repeat (first | refine blk_drewN ?_ _ | refine blk_drew ?_ | refine blk_alloc ?_ _)); exact BK614.out) hb)
      have n3_ := Aside0.mk (blk_below (g := gb615) (o := .cells #[.int .i64 a1_0, .int .i64 a1_1, .slice A1_2 l1_2.length c1_2] 24 (0, 0)) (by (with_reducible repeat (first | refine blk_drewN ?_ _ | refine blk_drew ?_ | refine blk_alloc ?_ _)); exact BK615.out) hb)
      have n4_ := Aside0.mk (blk_below (g := gb631) (o := .cells #[.int .i64 t626, .int .i64 t627, .slice Ao41 t628.length co41] 24 (0, 0)) (by (with_reducible repeat (first | refine blk_drewN ?_ _ | refine blk_drew ?_ | refine blk_alloc ?_ _)); exact BK631.out) hb)
      have n5_ := Aside0.mk (below_step (by repeat (first | (with_reducible first | exact HB.out | apply below_alloc | apply pw_below_drewN | apply below_drew1 | refine below_set ?_ GE614.out | refine below_set ?_ GE615.out | refine below_set ?_ GE631.out) | exact HB.out)) hb)
      clear HO625
      clear HO630
      clear BK614
      clear BK615
      clear BK631
      clear HB
      have HO625 := n0_
      have HO630 := n1_
      have BK614 := n2_
      have BK615 := n3_
      have BK631 := n4_
      have HB := n5_
      clear n0_ n1_ n2_ n3_ n4_ n5_
      (try clear hb)
      (try clear hb2)
      (try clear hk)
      (try clear hi)
      refine hK.out _ _ ⟨(blk_cell BK614.out 0).trans rfl, (blk_cell BK614.out 1).trans rfl, (blk_cell BK614.out 2).trans rfl, (blk_cell BK615.out 0).trans rfl, (blk_cell BK615.out 1).trans rfl, (blk_cell BK615.out 2).trans rfl⟩ (fun hHeld => ?_)
      clear hK K
      refine norm_ (a' := ?_) ?_ ?_
      rotate_left
      ·show Act.put _ (some 52) _ = _
       simp only [Act.put, List.setIfInBounds_toArray, List.set_cons_zero, List.set_cons_succ, i64_w, i32_w]
       rfl
      refine pure_ (i := 27) (N := some 53) (v := ?_) (a' := ?_) Mk29_45_ rfl rfl (any_of HT_.out (by kernel_rfl)) (fun _ _ _ h => h) (Or.inl ⟨by rfl, ?_⟩) ?_ ?_; rotate_left; intro w'; go_simp; with_reducible rfl; rotate_left; simp only [Act.put, List.setIfInBounds_toArray, List.set_cons_zero, List.set_cons_succ, i64_w, i32_w]; rfl
      refine pure_ (i := 28) (N := some 4) (v := ?_) (a' := ?_) Mk29_46_ rfl rfl (any_of HT_.out (by kernel_rfl)) (fun _ _ _ h => h) (Or.inl ⟨by rfl, ?_⟩) ?_ ?_; rotate_left; intro w'; go_simp; with_reducible rfl; rotate_left; simp only [Act.put, List.setIfInBounds_toArray, List.set_cons_zero, List.set_cons_succ, i64_w, i32_w]; rfl
      refine done_ (done_of HT_.out (by kernel_rfl)) ?_
      try go_wp2
      go_ret
      exact ⟨by first | rfl | (simp [errW_none, errW_some] <;> rfl) | (simp [*, errW_none, errW_some] <;> rfl), by repeat (first | (with_reducible first | exact HB.out | apply below_alloc | apply pw_below_drewN | apply below_drew1 | refine below_set ?_ GE614.out | refine below_set ?_ GE615.out | refine below_set ?_ GE631.out) | exact HB.out)⟩
     ·rw [if_neg c23] at H
      have c23b0 : (a0_0 == 3) = false := beq_eq_false_iff_ne.mpr c23
      have c23b1 : (a0_0 != 3) = true := bne_iff_ne.mpr c23
      replace H := Option.bind_eq_some_iff.mp H
      obtain ⟨t636, A480, H⟩ := H
      replace H : (if t636 = true then ((parrylaw22_awake.f).bind fun t637 => (some t637)) else ((formula_Not.f k a0_0 a0_1 l0_2).bind fun bt638 => ((formula_May.f bt638.1 bt638.2.1 bt638.2.2).bind fun t643 => (if t643 = 0 then (some false) else ((parrylaw22_awake.f).bind fun t644 => (some t644)))))) = some r := H
      have A48 := Aside0.mk A480
      clear A480
      by_cases c49 : t636 = true
      ·subst c49
       have H1 : ((parrylaw22_awake.f).bind fun t637 => (some t637)) = some r := by rw [if_pos rfl] at H; exact H
       clear H
       have H := H1
       clear H1
       replace H := Option.bind_eq_some_iff.mp H
       obtain ⟨t637, A500, H⟩ := H
       replace H : (some t637) = some r := H
       have A50 := Aside0.mk A500
       clear A500
       obtain rfl := Option.some.inj H
       go_enter Tryd.func8, Tryd.ntmps8
       try go_wp2_with (first | ((with_reducible refine gate_dst (N := 2) rfl ?_); refine box_event ?hg (N := 2) ?hd (cs := #[.int .i64 a0_0, .int .i64 a0_1, .slice A0_2 l0_2.length c0_2]) (t := 24) ?hr ?_; (case hd => rfl); (case hg => rfl); (case hr => first | (go_simp; done) | (go_simp; rfl)); intro gb614 hg w51 hbox hb; have n0_ := Aside0.mk (below_step (by repeat (first | (with_reducible first | exact HB.out | apply below_alloc | apply pw_below_drewN | apply below_drew1) | exact HB.out)) hb); have n1_ := Aside0.mk (hbox); have n2_ := Aside0.mk ((by rw [hg]; exact (below_size (by repeat (first | (with_reducible first | exact HB.out | apply below_alloc | apply pw_below_drewN | apply below_drew1) | exact HB.out))) : w.heap.size ≤ gb614)); have n3_ := Aside0.mk ((by rw [hg]; exact (below_size (by repeat (first | (with_reducible first | exact HB.out | apply below_alloc | apply pw_below_drewN | apply below_drew1) | exact HB.out))) : w.heap.size ≤ gb614)); clear HB; have HB := n0_; have BK614 := n1_; have GW614 := n2_; have GE614 := n3_; clear n0_ n1_ n2_ n3_; clear hb hbox hg) | ((with_reducible refine gate_dst (N := 3) rfl ?_); refine box_event ?hg (N := 3) ?hd (cs := #[.int .i64 a1_0, .int .i64 a1_1, .slice A1_2 l1_2.length c1_2]) (t := 24) ?hr ?_; (case hd => rfl); (case hg => rfl); (case hr => first | (go_simp; done) | (go_simp; rfl)); intro gb615 hg w52 hbox hb; have n0_ := Aside0.mk (blk_below (g := gb614) (o := .cells #[.int .i64 a0_0, .int .i64 a0_1, .slice A0_2 l0_2.length c0_2] 24 (0, 0)) (by (with_reducible repeat (first | refine blk_drewN ?_ _ | refine blk_drew ?_ | refine blk_alloc ?_ _)); exact BK614.out) hb); have n1_ := Aside0.mk (below_step (by repeat (first | (with_reducible first | exact HB.out | apply below_alloc | apply pw_below_drewN | apply below_drew1 | refine below_set ?_ GE614.out) | exact HB.out)) hb); have n2_ := Aside0.mk (hbox); have n3_ := Aside0.mk ((by rw [hg]; exact (below_size (by repeat (first | (with_reducible first | exact HB.out | apply below_alloc | apply pw_below_drewN | apply below_drew1 | refine below_set ?_ GE614.out) | exact HB.out))) : w.heap.size ≤ gb615)); have n4_ := Aside0.mk ((by rw [hg]; exact (below_size (by repeat (first | (with_reducible first | exact HB.out | apply below_alloc | apply pw_below_drewN | apply below_drew1 | refine below_set ?_ GE614.out) | exact HB.out))) : w.heap.size ≤ gb615)); have n5_ := Aside0.mk ((by rw [hg]; exact Nat.ne_of_lt (blk_lt (g := gb614) (o := .cells #[.int .i64 a0_0, .int .i64 a0_1, .slice A0_2 l0_2.length c0_2] 24 (0, 0)) (by (with_reducible repeat (first | refine blk_drewN ?_ _ | refine blk_drew ?_ | refine blk_alloc ?_ _)); exact BK614.out)) : gb614 ≠ gb615)); have n6_ := Aside0.mk ((by rw [hg]; exact Nat.ne_of_gt (blk_lt (g := gb614) (o := .cells #[.int .i64 a0_0, .int .i64 a0_1, .slice A0_2 l0_2.length c0_2] 24 (0, 0)) (by (with_reducible repeat (first | refine blk_drewN ?_ _ | refine blk_drew ?_ | refine blk_alloc ?_ _)); exact BK614.out)) : gb615 ≠ gb614)); clear BK614; clear HB; have BK614 := n0_; have HB := n1_; have BK615 := n2_; have GW615 := n3_; have GE615 := n4_; have NB614_615 := n5_; have NB615_614 := n6_; clear n0_ n1_ n2_ n3_ n4_ n5_ n6_; clear hb hbox hg))
       have n0_ := Aside0.mk (blk_drew BK614.out)
       have n1_ := Aside0.mk (blk_drew BK615.out)
       have n2_ := Aside0.mk (below_drew1 HB.out)
       clear BK614
       clear BK615
       clear HB
       have BK614 := n0_
       have BK615 := n1_
       have HB := n2_
       clear n0_ n1_ n2_
       refine start_ (n := 16) (S := fun w' => w'.cell? ⟨gb614, 0, none⟩ = some (.int .i64 a0_0) ∧ w'.cell? ⟨gb614, 1, none⟩ = some (.int .i64 a0_1) ∧ w'.cell? ⟨gb614, 2, none⟩ = some (.slice A0_2 l0_2.length c0_2) ∧ w'.cell? ⟨gb615, 0, none⟩ = some (.int .i64 a1_0) ∧ w'.cell? ⟨gb615, 1, none⟩ = some (.int .i64 a1_1) ∧ w'.cell? ⟨gb615, 2, none⟩ = some (.slice A1_2 l1_2.length c1_2)) (ds := []) Mk16_0_ (by kernel_rfl) rfl rfl ⟨(blk_cell BK614.out 0).trans rfl, (blk_cell BK614.out 1).trans rfl, (blk_cell BK614.out 2).trans rfl, (blk_cell BK615.out 0).trans rfl, (blk_cell BK615.out 1).trans rfl, (blk_cell BK615.out 2).trans rfl⟩ (fun hHeld => ?_); refine with_tabW parrylaw22_FormulaTexts.tab1 parrylaw22_FormulaTexts.bits1 (fun HT_ HW_ => ?_)
       generalize w52.drew = w53 at BK614 BK615 HB hHeld ⊢
       refine take_ (i := 0) (N := some 6) (v := ?_) (a' := ?_) Mk16_1_ rfl rfl (take_ofW HT_.out HW_.out (by kernel_rfl)) (fun _ _ _ h => h) (Or.inl ⟨by rfl, ?_⟩) hHeld ?_ ?_
       rotate_left
       ·rintro w' ⟨s0, s1, s2, s3, s4, s5⟩
        go_simp
        with_reducible rfl
       rotate_left
       ·simp only [Act.put, List.setIfInBounds_toArray, List.set_cons_zero, List.set_cons_succ, i64_w, i32_w]
        rfl
       refine take_ (i := 2) (N := some 8) (v := ?_) (a' := ?_) Mk16_2_ rfl rfl (take_ofW HT_.out HW_.out (by kernel_rfl)) (fun _ _ _ h => h) (Or.inl ⟨by rfl, ?_⟩) hHeld ?_ ?_
       rotate_left
       ·rintro w' ⟨s0, s1, s2, s3, s4, s5⟩
        go_simp
        with_reducible rfl
       rotate_left
       ·simp only [Act.put, List.setIfInBounds_toArray, List.set_cons_zero, List.set_cons_succ, i64_w, i32_w]
        rfl
       refine one_ (i := 1) (N := some 7) Mk16_3_ rfl rfl (one_of HT_.out (by kernel_rfl)) (by decide) (fun K hK => ?_)
       refine goes_ Tryd.func9 (by kernel_rfl) rfl #[.agg #[.int .i64 a0_0, .int .i64 a0_1, .slice A0_2 l0_2.length c0_2]] (by rfl) rfl rfl (by (try simp only [List.map_toArray, List.map_cons, List.map_nil]); first | done | rfl | (simp only [List.length_drop, List.length_take]; rfl)) ?_
       with_reducible refine (parrylaw22_Heavy.calls k a0_0 a0_1 _ _ l0_2 t616 _ ?side1 ?side2 A3.out).mono ?_
       (case side1 => repeat (first | exact (Kd.C_below HR0_2.out HB.out) | (with_reducible refine Kd.C_alloc ?_ _) | (with_reducible refine Kd.C_drewN ?_ _) | (with_reducible refine Kd.C_drew ?_)))
       (case side2 => exact HC0_2.out)
       rintro e w54 ⟨rfl, hb⟩
       refine ⟨_, rfl, ?_⟩
       have n0_ := Aside0.mk (blk_below (g := gb614) (o := .cells #[.int .i64 a0_0, .int .i64 a0_1, .slice A0_2 l0_2.length c0_2] 24 (0, 0)) (by (with_reducible repeat (first | refine blk_drewN ?_ _ | refine blk_drew ?_ | refine blk_alloc ?_ _)); exact BK614.out) hb)
       have n1_ := Aside0.mk (blk_below (g := gb615) (o := .cells #[.int .i64 a1_0, .int .i64 a1_1, .slice A1_2 l1_2.length c1_2] 24 (0, 0)) (by (with_reducible repeat (first | refine blk_drewN ?_ _ | refine blk_drew ?_ | refine blk_alloc ?_ _)); exact BK615.out) hb)
       have n2_ := Aside0.mk (below_step (by repeat (first | (with_reducible first | exact HB.out | apply below_alloc | apply pw_below_drewN | apply below_drew1 | refine below_set ?_ GE614.out | refine below_set ?_ GE615.out) | exact HB.out)) hb)
       clear BK614
       clear BK615
       clear HB
       have BK614 := n0_
       have BK615 := n1_
       have HB := n2_
       clear n0_ n1_ n2_
       (try clear hb)
       (try clear hb2)
       (try clear hk)
       (try clear hi)
       refine hK.out _ _ ⟨(blk_cell BK614.out 0).trans rfl, (blk_cell BK614.out 1).trans rfl, (blk_cell BK614.out 2).trans rfl, (blk_cell BK615.out 0).trans rfl, (blk_cell BK615.out 1).trans rfl, (blk_cell BK615.out 2).trans rfl⟩ (fun hHeld => ?_)
       clear hK K
       refine norm_ (a' := ?_) ?_ ?_
       rotate_left
       ·show Act.put _ (some 7) _ = _
        simp only [Act.put, List.setIfInBounds_toArray, List.set_cons_zero, List.set_cons_succ, i64_w, i32_w]
        rfl
       refine one_ (i := 3) (N := some 9) Mk16_4_ rfl rfl (one_of HT_.out (by kernel_rfl)) (by decide) (fun K hK => ?_)
       refine goes_ Tryd.func9 (by kernel_rfl) rfl #[.agg #[.int .i64 a1_0, .int .i64 a1_1, .slice A1_2 l1_2.length c1_2]] (by rfl) rfl rfl (by (try simp only [List.map_toArray, List.map_cons, List.map_nil]); first | done | rfl | (simp only [List.length_drop, List.length_take]; rfl)) ?_
       with_reducible refine (parrylaw22_Heavy.calls k a1_0 a1_1 _ _ l1_2 t617 _ ?side1 ?side2 A4.out).mono ?_
       (case side1 => repeat (first | exact (Kd.C_below HR1_2.out HB.out) | (with_reducible refine Kd.C_alloc ?_ _) | (with_reducible refine Kd.C_drewN ?_ _) | (with_reducible refine Kd.C_drew ?_)))
       (case side2 => exact HC1_2.out)
       rintro e w55 ⟨rfl, hb⟩
       refine ⟨_, rfl, ?_⟩
       have n0_ := Aside0.mk (blk_below (g := gb614) (o := .cells #[.int .i64 a0_0, .int .i64 a0_1, .slice A0_2 l0_2.length c0_2] 24 (0, 0)) (by (with_reducible repeat (first | refine blk_drewN ?_ _ | refine blk_drew ?_ | refine blk_alloc ?_ _)); exact BK614.out) hb)
       have n1_ := Aside0.mk (blk_below (g := gb615) (o := .cells #[.int .i64 a1_0, .int .i64 a1_1, .slice A1_2 l1_2.length c1_2] 24 (0, 0)) (by (with_reducible repeat (first | refine blk_drewN ?_ _ | refine blk_drew ?_ | refine blk_alloc ?_ _)); exact BK615.out) hb)
       have n2_ := Aside0.mk (below_step (by repeat (first | (with_reducible first | exact HB.out | apply below_alloc | apply pw_below_drewN | apply below_drew1 | refine below_set ?_ GE614.out | refine below_set ?_ GE615.out) | exact HB.out)) hb)
       clear BK614
       clear BK615
       clear HB
       have BK614 := n0_
       have BK615 := n1_
       have HB := n2_
       clear n0_ n1_ n2_
       (try clear hb)
       (try clear hb2)
       (try clear hk)
       (try clear hi)
       refine hK.out _ _ ⟨(blk_cell BK614.out 0).trans rfl, (blk_cell BK614.out 1).trans rfl, (blk_cell BK614.out 2).trans rfl, (blk_cell BK615.out 0).trans rfl, (blk_cell BK615.out 1).trans rfl, (blk_cell BK615.out 2).trans rfl⟩ (fun hHeld => ?_)
       clear hK K
       refine norm_ (a' := ?_) ?_ ?_
       rotate_left
       ·show Act.put _ (some 9) _ = _
        simp only [Act.put, List.setIfInBounds_toArray, List.set_cons_zero, List.set_cons_succ, i64_w, i32_w]
        rfl
       refine pure_ (i := 4) (N := some 10) (v := ?_) (a' := ?_) Mk16_5_ rfl rfl (any_of HT_.out (by kernel_rfl)) (fun _ _ _ h => h) (Or.inl ⟨by rfl, ?_⟩) ?_ ?_; rotate_left; intro w'; go_simp; with_reducible rfl; rotate_left; simp only [Act.put, List.setIfInBounds_toArray, List.set_cons_zero, List.set_cons_succ, i64_w, i32_w]; rfl
       refine pure_ (i := 5) (N := some 11) (v := ?_) (a' := ?_) Mk16_6_ rfl rfl (any_of HT_.out (by kernel_rfl)) (fun _ _ _ h => h) (Or.inl ⟨by rfl, ?_⟩) ?_ ?_; rotate_left; intro w'; go_simp; with_reducible rfl; rotate_left; simp only [Act.put, List.setIfInBounds_toArray, List.set_cons_zero, List.set_cons_succ, i64_w, i32_w]; rfl
       refine pure_ (i := 6) (N := some 12) (v := ?_) (a' := ?_) Mk16_7_ rfl rfl (any_of HT_.out (by kernel_rfl)) (fun _ _ _ h => h) (Or.inl ⟨by rfl, ?_⟩) ?_ ?_; rotate_left; intro w'; go_simp; with_reducible rfl; rotate_left; simp only [Act.put, List.setIfInBounds_toArray, List.set_cons_zero, List.set_cons_succ, i64_w, i32_w]; rfl
       refine take_ (i := 7) (N := some 13) (v := ?_) (a' := ?_) Mk16_8_ rfl rfl (take_ofW HT_.out HW_.out (by kernel_rfl)) (fun _ _ _ h => h) (Or.inl ⟨by rfl, ?_⟩) hHeld ?_ ?_
       rotate_left
       ·rintro w' ⟨s0, s1, s2, s3, s4, s5⟩
        go_simp
        with_reducible rfl
       rotate_left
       ·simp only [Act.put, List.setIfInBounds_toArray, List.set_cons_zero, List.set_cons_succ, i64_w, i32_w]
        rfl
       refine one_ (i := 8) (N := some 14) Mk16_9_ rfl rfl (one_of HT_.out (by kernel_rfl)) (by decide) (fun K hK => ?_)
       refine goes_ Tryd.func20 (by kernel_rfl) rfl #[.agg #[.int .i64 a0_0, .int .i64 a0_1, .slice A0_2 l0_2.length c0_2]] (by rfl) rfl rfl (by (try simp only [List.map_toArray, List.map_cons, List.map_nil]); first | done | rfl | (simp only [List.length_drop, List.length_take]; rfl)) ?_
       with_reducible refine (parryref22_May.calls k a0_0 a0_1 _ _ l0_2 t619 _ ?side1 ?side2 A13.out).mono ?_
       (case side1 => repeat (first | exact (Kd.C_below HR0_2.out HB.out) | (with_reducible refine Kd.C_alloc ?_ _) | (with_reducible refine Kd.C_drewN ?_ _) | (with_reducible refine Kd.C_drew ?_)))
       (case side2 => exact HC0_2.out)
       rintro e w56 ⟨rfl, hb⟩
       refine ⟨_, rfl, ?_⟩
       have n0_ := Aside0.mk (blk_below (g := gb614) (o := .cells #[.int .i64 a0_0, .int .i64 a0_1, .slice A0_2 l0_2.length c0_2] 24 (0, 0)) (by (with_reducible repeat (first | refine blk_drewN ?_ _ | refine blk_drew ?_ | refine blk_alloc ?_ _)); exact BK614.out) hb)
       have n1_ := Aside0.mk (blk_below (g := gb615) (o := .cells #[.int .i64 a1_0, .int .i64 a1_1, .slice A1_2 l1_2.length c1_2] 24 (0, 0)) (by (with_reducible repeat (first | refine blk_drewN ?_ _ | refine blk_drew ?_ | refine blk_alloc ?_ _)); exact BK615.out) hb)
       have n2_ := Aside0.mk (below_step (by repeat (first | (with_reducible first | exact HB.out | apply below_alloc | apply pw_below_drewN | apply below_drew1 | refine below_set ?_ GE614.out | refine below_set ?_ GE615.out) | exact HB.out)) hb)
       clear BK614
       clear BK615
       clear HB
       have BK614 := n0_
       have BK615 := n1_
       have HB := n2_
       clear n0_ n1_ n2_
       (try clear hb)
       (try clear hb2)
       (try clear hk)
       (try clear hi)
       refine hK.out _ _ ⟨(blk_cell BK614.out 0).trans rfl, (blk_cell BK614.out 1).trans rfl, (blk_cell BK614.out 2).trans rfl, (blk_cell BK615.out 0).trans rfl, (blk_cell BK615.out 1).trans rfl, (blk_cell BK615.out 2).trans rfl⟩ (fun hHeld => ?_)
       clear hK K
       refine norm_ (a' := ?_) ?_ ?_
       rotate_left
       ·show Act.put _ (some 14) _ = _
        simp only [Act.put, List.setIfInBounds_toArray, List.set_cons_zero, List.set_cons_succ, i64_w, i32_w]
        rfl
       refine pure_ (i := 9) (N := some 15) (v := ?_) (a' := ?_) Mk16_10_ rfl rfl (any_of HT_.out (by kernel_rfl)) (fun _ _ _ h => h) (Or.inl ⟨by rfl, ?_⟩) ?_ ?_; rotate_left; intro w'; go_simp; with_reducible rfl; rotate_left; simp only [Act.put, List.setIfInBounds_toArray, List.set_cons_zero, List.set_cons_succ, i64_w, i32_w]; rfl
       refine pure_ (i := 10) (N := some 16) (v := ?_) (a' := ?_) Mk16_11_ rfl rfl (any_of HT_.out (by kernel_rfl)) (fun _ _ _ h => h) (Or.inl ⟨by rfl, ?_⟩) ?_ ?_; rotate_left; intro w'; go_simp; with_reducible rfl; rotate_left; simp only [Act.put, List.setIfInBounds_toArray, List.set_cons_zero, List.set_cons_succ, i64_w, i32_w]; rfl
       refine pure_ (i := 11) (N := some 17) (v := ?_) (a' := ?_) Mk16_12_ rfl rfl (any_of HT_.out (by kernel_rfl)) (fun _ _ _ h => h) (Or.inl ⟨by rfl, ?_⟩) ?_ ?_; rotate_left; intro w'; go_simp; with_reducible rfl; rotate_left; simp only [Act.put, List.setIfInBounds_toArray, List.set_cons_zero, List.set_cons_succ, i64_w, i32_w]; rfl
       refine take_ (i := 12) (N := some 18) (v := ?_) (a' := ?_) Mk16_13_ rfl rfl (take_ofW HT_.out HW_.out (by kernel_rfl)) (fun _ _ _ h => h) (Or.inl ⟨by rfl, ?_⟩) hHeld ?_ ?_
       rotate_left
       ·rintro w' ⟨s0, s1, s2, s3, s4, s5⟩
        go_simp
        with_reducible rfl
       rotate_left
       ·simp only [Act.put, List.setIfInBounds_toArray, List.set_cons_zero, List.set_cons_succ, i64_w, i32_w]
        rfl
       refine one_ (i := 13) (N := some 19) Mk16_14_ rfl rfl (one_of HT_.out (by kernel_rfl)) (by decide) (fun K hK => ?_)
       refine goes_ Tryd.func20 (by kernel_rfl) rfl #[.agg #[.int .i64 a1_0, .int .i64 a1_1, .slice A1_2 l1_2.length c1_2]] (by rfl) rfl rfl (by (try simp only [List.map_toArray, List.map_cons, List.map_nil]); first | done | rfl | (simp only [List.length_drop, List.length_take]; rfl)) ?_
       with_reducible refine (parryref22_May.calls k a1_0 a1_1 _ _ l1_2 t620 _ ?side1 ?side2 A15.out).mono ?_
       (case side1 => repeat (first | exact (Kd.C_below HR1_2.out HB.out) | (with_reducible refine Kd.C_alloc ?_ _) | (with_reducible refine Kd.C_drewN ?_ _) | (with_reducible refine Kd.C_drew ?_)))
       (case side2 => exact HC1_2.out)
       rintro e w57 ⟨rfl, hb⟩
       refine ⟨_, rfl, ?_⟩
       have n0_ := Aside0.mk (blk_below (g := gb614) (o := .cells #[.int .i64 a0_0, .int .i64 a0_1, .slice A0_2 l0_2.length c0_2] 24 (0, 0)) (by (with_reducible repeat (first | refine blk_drewN ?_ _ | refine blk_drew ?_ | refine blk_alloc ?_ _)); exact BK614.out) hb)
       have n1_ := Aside0.mk (blk_below (g := gb615) (o := .cells #[.int .i64 a1_0, .int .i64 a1_1, .slice A1_2 l1_2.length c1_2] 24 (0, 0)) (by (with_reducible repeat (first | refine blk_drewN ?_ _ | refine blk_drew ?_ | refine blk_alloc ?_ _)); exact BK615.out) hb)
       have n2_ := Aside0.mk (below_step (by repeat (first | (with_reducible first | exact HB.out | apply below_alloc | apply pw_below_drewN | apply below_drew1 | refine below_set ?_ GE614.out | refine below_set ?_ GE615.out) | exact HB.out)) hb)
       clear BK614
       clear BK615
       clear HB
       have BK614 := n0_
       have BK615 := n1_
       have HB := n2_
       clear n0_ n1_ n2_
       (try clear hb)
       (try clear hb2)
       (try clear hk)
       (try clear hi)
       refine hK.out _ _ ⟨(blk_cell BK614.out 0).trans rfl, (blk_cell BK614.out 1).trans rfl, (blk_cell BK614.out 2).trans rfl, (blk_cell BK615.out 0).trans rfl, (blk_cell BK615.out 1).trans rfl, (blk_cell BK615.out 2).trans rfl⟩ (fun hHeld => ?_)
       clear hK K
       refine norm_ (a' := ?_) ?_ ?_
       rotate_left
       ·show Act.put _ (some 19) _ = _
        simp only [Act.put, List.setIfInBounds_toArray, List.set_cons_zero, List.set_cons_succ, i64_w, i32_w]
        rfl
       refine pure_ (i := 14) (N := some 20) (v := ?_) (a' := ?_) Mk16_15_ rfl rfl (any_of HT_.out (by kernel_rfl)) (fun _ _ _ h => h) (Or.inl ⟨by rfl, ?_⟩) ?_ ?_; rotate_left; intro w'; go_simp; with_reducible rfl; rotate_left; simp only [Act.put, List.setIfInBounds_toArray, List.set_cons_zero, List.set_cons_succ, i64_w, i32_w]; rfl
       refine pure_ (i := 15) (N := some 21) (v := ?_) (a' := ?_) Mk16_16_ rfl rfl (any_of HT_.out (by kernel_rfl)) (fun _ _ _ h => h) (Or.inl ⟨by rfl, ?_⟩) ?_ ?_; rotate_left; intro w'; go_simp; with_reducible rfl; rotate_left; simp only [Act.put, List.setIfInBounds_toArray, List.set_cons_zero, List.set_cons_succ, i64_w, i32_w]; rfl
       refine done_ (done_of HT_.out (by kernel_rfl)) ?_
       have hnb58 := NB614_615.out
       have hnc58 := NB615_614.out
       have hcz59_0 : w57.cell? ⟨gb614, 0, none⟩ = some (.int .i64 a0_0) := (blk_cell BK614.out 0).trans rfl
       have hcz59_1 : w57.cell? ⟨gb614, 1, none⟩ = some (.int .i64 a0_1) := (blk_cell BK614.out 1).trans rfl
       have hcz59_2 : w57.cell? ⟨gb614, 2, none⟩ = some (.slice A0_2 l0_2.length c0_2) := (blk_cell BK614.out 2).trans rfl
       have hfz59_0 := blk_frozen BK614.out 0
       have hfz59_1 := blk_frozen BK614.out 1
       have hfz59_2 := blk_frozen BK614.out 2
       try go_wp2_with (first | ((with_reducible refine gate_callee (f := 28) rfl ?_); refine goesL_ (some 24) rfl rfl Tryd.func28 (by kernel_rfl) rfl #[.agg #[.int .i64 a0_0, .int .i64 a0_1, .slice A0_2 l0_2.length c0_2]] rfl (by (try simp only [List.map_toArray, List.map_cons, List.map_nil]); first | done | rfl | (simp only [List.length_drop, List.length_take]; rfl)) ?_; (with_reducible refine (formula_Not.calls k a0_0 a0_1 _ _ l0_2 t621 t622 t623 _ ?side1 ?side2 A17.out).mono ?_); (case side1 => repeat (first | exact (Kd.C_below HR0_2.out HB.out) | (with_reducible refine Kd.C_alloc ?_ _) | (with_reducible refine Kd.C_drewN ?_ _) | (with_reducible refine Kd.C_drew ?_))); (case side2 => exact HC0_2.out); rintro e w60 ⟨v624, rfl, ho0, hb⟩; refine ⟨_, rfl, ?_⟩; have n0_ := Aside0.mk (Kd.N_lower (Kd.N_mono (ok' := fun k_ => k_ ≠ gb614 ∧ k_ ≠ gb615) ho0 (fun k_ hk_ => ⟨(Kd.freshB (g := gb614) (o := .cells #[.int .i64 a0_0, .int .i64 a0_1, .slice A0_2 l0_2.length c0_2] 24 (0, 0)) (by (with_reducible repeat (first | refine blk_drewN ?_ _ | refine blk_drew ?_ | refine blk_alloc ?_ _)); exact BK614.out) k_ hk_), (Kd.freshB (g := gb615) (o := .cells #[.int .i64 a1_0, .int .i64 a1_1, .slice A1_2 l1_2.length c1_2] 24 (0, 0)) (by (with_reducible repeat (first | refine blk_drewN ?_ _ | refine blk_drew ?_ | refine blk_alloc ?_ _)); exact BK615.out) k_ hk_)⟩)) (below_size (by repeat (first | (with_reducible first | exact HB.out | apply below_alloc | apply pw_below_drewN | apply below_drew1 | refine below_set ?_ GE614.out | refine below_set ?_ GE615.out) | exact HB.out)))); have n1_ := Aside0.mk (blk_below (g := gb614) (o := .cells #[.int .i64 a0_0, .int .i64 a0_1, .slice A0_2 l0_2.length c0_2] 24 (0, 0)) (by (with_reducible repeat (first | refine blk_drewN ?_ _ | refine blk_drew ?_ | refine blk_alloc ?_ _)); exact BK614.out) hb); have n2_ := Aside0.mk (blk_below (g := gb615) (o := .cells #[.int .i64 a1_0, .int .i64 a1_1, .slice A1_2 l1_2.length c1_2] 24 (0, 0)) (by (with_reducible repeat (first | refine blk_drewN ?_ _ | refine blk_drew ?_ | refine blk_alloc ?_ _)); exact BK615.out) hb); have n3_ := Aside0.mk (below_step (by repeat (first | (with_reducible first | exact HB.out | apply below_alloc | apply pw_below_drewN | apply below_drew1 | refine below_set ?_ GE614.out | refine below_set ?_ GE615.out) | exact HB.out)) hb); clear BK614; clear BK615; clear HB; have HO625 := n0_; have BK614 := n1_; have BK615 := n2_; have HB := n3_; clear n0_ n1_ n2_ n3_; (try clear hb); (try clear hb2); (try clear hk); (try clear hi); (try clear ho0); obtain ⟨Ao61, co61, eo61⟩ := Kd.N_slice HO625.out; subst eo61) | ((with_reducible refine gate_callee (f := 28) rfl ?_); refine goesL_ (some 25) rfl rfl Tryd.func28 (by kernel_rfl) rfl #[.agg #[.int .i64 t621, .int .i64 t622, .slice Ao61 t623.length co61]] rfl (by (try simp only [List.map_toArray, List.map_cons, List.map_nil]); first | done | rfl | (simp only [List.length_drop, List.length_take]; rfl)) ?_; (with_reducible refine (formula_Not.calls k t621 t622 _ _ t623 t626 t627 t628 _ ?side1 ?side2 A18.out).mono ?_); (case side1 => repeat (first | exact (Kd.N_reads' HO625.out).2.2 | (with_reducible refine Kd.C_alloc ?_ _) | (with_reducible refine Kd.C_drewN ?_ _) | (with_reducible refine Kd.C_drew ?_))); (case side2 => exact (Kd.N_reads' HO625.out).2.1); rintro e w62 ⟨v629, rfl, ho0, hb⟩; refine ⟨_, rfl, ?_⟩; have n0_ := Aside0.mk (Kd.N_elder' (by (with_reducible repeat (first | apply Kd.N_alloc | apply Kd.N_drewN | apply Kd.N_drew)); exact HO625.out) (Kd.N_base ho0) hb); have n1_ := Aside0.mk (Kd.N_lower (Kd.N_mono (ok' := fun k_ => some k_ ≠ (.slice Ao61 t623.length co61 : Value).ownBlock ∧ k_ ≠ gb614 ∧ k_ ≠ gb615) ho0 (fun k_ hk_ => ⟨(Kd.fresh' (Kd.N_lt (by (with_reducible repeat (first | apply Kd.N_alloc | apply Kd.N_drewN | apply Kd.N_drew)); exact HO625.out)) k_ hk_), (Kd.freshB (g := gb614) (o := .cells #[.int .i64 a0_0, .int .i64 a0_1, .slice A0_2 l0_2.length c0_2] 24 (0, 0)) (by (with_reducible repeat (first | refine blk_drewN ?_ _ | refine blk_drew ?_ | refine blk_alloc ?_ _)); exact BK614.out) k_ hk_), (Kd.freshB (g := gb615) (o := .cells #[.int .i64 a1_0, .int .i64 a1_1, .slice A1_2 l1_2.length c1_2] 24 (0, 0)) (by (with_reducible repeat (first | refine blk_drewN ?_ _ | refine blk_drew ?_ | refine blk_alloc ?_ _)); exact BK615.out) k_ hk_)⟩)) (below_size (by repeat (first | (with_reducible first | exact HB.out | apply below_alloc | apply pw_below_drewN | apply below_drew1 | refine below_set ?_ GE614.out | refine below_set ?_ GE615.out) | exact HB.out)))); have n2_ := Aside0.mk (blk_below (g := gb614) (o := .cells #[.int .i64 a0_0, .int .i64 a0_1, .slice A0_2 l0_2.length c0_2] 24 (0, 0)) (by (with_reducible repeat (first | refine blk_drewN ?_ _ | refine blk_drew ?_ | refine blk_alloc ?_ _)); exact BK614.out) hb); have n3_ := Aside0.mk (blk_below (g := gb615) (o := .cells #[.int .i64 a1_0, .int .i64 a1_1, .slice A1_2 l1_2.length c1_2] 24 (0, 0)) (by (with_reducible repeat (first | refine blk_drewN ?_ _ | refine blk_drew ?_ | refine blk_alloc ?_ _)); exact BK615.out) hb); have n4_ := Aside0.mk (below_step (by repeat (first | (with_reducible first | exact HB.out | apply below_alloc | apply pw_below_drewN | apply below_drew1 | refine below_set ?_ GE614.out | refine below_set ?_ GE615.out) | exact HB.out)) hb); clear HO625; clear BK614; clear BK615; clear HB; have HO625 := n0_; have HO630 := n1_; have BK614 := n2_; have BK615 := n3_; have HB := n4_; clear n0_ n1_ n2_ n3_ n4_; (try clear hb); (try clear hb2); (try clear hk); (try clear hi); (try clear ho0)) | ((with_reducible refine gate_dst (N := 5) rfl ?_); refine box_event ?hg (N := 5) ?hd (cs := #[.int .i64 0, .int .i64 0, .slice none 0 0]) (t := 24) ?hr ?_; (case hd => rfl); (case hg => rfl); (case hr => first | (go_simp; done) | (go_simp; rfl)); intro gb631 hg w63 hbox hb; have n0_ := Aside0.mk (Kd.N_below (Kd.N_elderB (by (with_reducible repeat (first | apply Kd.N_alloc | apply Kd.N_drewN | apply Kd.N_drew)); exact HO625.out) gb631 (Nat.le_of_eq hg.symm)) hb); have n1_ := Aside0.mk (Kd.N_below (Kd.N_elderB (by (with_reducible repeat (first | apply Kd.N_alloc | apply Kd.N_drewN | apply Kd.N_drew)); exact HO630.out) gb631 (Nat.le_of_eq hg.symm)) hb); have n2_ := Aside0.mk (blk_below (g := gb614) (o := .cells #[.int .i64 a0_0, .int .i64 a0_1, .slice A0_2 l0_2.length c0_2] 24 (0, 0)) (by (with_reducible repeat (first | refine blk_drewN ?_ _ | refine blk_drew ?_ | refine blk_alloc ?_ _)); exact BK614.out) hb); have n3_ := Aside0.mk (blk_below (g := gb615) (o := .cells #[.int .i64 a1_0, .int .i64 a1_1, .slice A1_2 l1_2.length c1_2] 24 (0, 0)) (by (with_reducible repeat (first | refine blk_drewN ?_ _ | refine blk_drew ?_ | refine blk_alloc ?_ _)); exact BK615.out) hb); have n4_ := Aside0.mk (below_step (by repeat (first | (with_reducible first | exact HB.out | apply below_alloc | apply pw_below_drewN | apply below_drew1 | refine below_set ?_ GE614.out | refine below_set ?_ GE615.out) | exact HB.out)) hb); have n5_ := Aside0.mk (hbox); have n6_ := Aside0.mk ((by rw [hg]; exact (below_size (by repeat (first | (with_reducible first | exact HB.out | apply below_alloc | apply pw_below_drewN | apply below_drew1 | refine below_set ?_ GE614.out | refine below_set ?_ GE615.out) | exact HB.out))) : w.heap.size ≤ gb631)); have n7_ := Aside0.mk ((by rw [hg]; exact (below_size (by repeat (first | (with_reducible first | exact HB.out | apply below_alloc | apply pw_below_drewN | apply below_drew1 | refine below_set ?_ GE614.out | refine below_set ?_ GE615.out) | exact HB.out))) : w.heap.size ≤ gb631)); have n8_ := Aside0.mk ((by rw [hg]; exact Nat.ne_of_lt (blk_lt (g := gb614) (o := .cells #[.int .i64 a0_0, .int .i64 a0_1, .slice A0_2 l0_2.length c0_2] 24 (0, 0)) (by (with_reducible repeat (first | refine blk_drewN ?_ _ | refine blk_drew ?_ | refine blk_alloc ?_ _)); exact BK614.out)) : gb614 ≠ gb631)); have n9_ := Aside0.mk ((by rw [hg]; exact Nat.ne_of_gt (blk_lt (g := gb614) (o := .cells #[.int .i64 a0_0, .int .i64 a0_1, .slice A0_2 l0_2.length c0_2] 24 (0, 0)) (by (with_reducible repeat (first | refine blk_drewN ?_ _ | refine blk_drew ?_ | refine blk_alloc ?_ _)); exact BK614.out)) : gb631 ≠ gb614)); have n10_ := Aside0.mk ((by rw [hg]; exact Nat.ne_of_lt (blk_lt (g := gb615) (o := .cells #[.int .i64 a1_0, .int .i64 a1_1, .slice A1_2 l1_2.length c1_2] 24 (0, 0)) (by (with_reducible repeat (first | refine blk_drewN ?_ _ | refine blk_drew ?_ | refine blk_alloc ?_ _)); exact BK615.out)) : gb615 ≠ gb631)); have n11_ := Aside0.mk ((by rw [hg]; exact Nat.ne_of_gt (blk_lt (g := gb615) (o := .cells #[.int .i64 a1_0, .int .i64 a1_1, .slice A1_2 l1_2.length c1_2] 24 (0, 0)) (by (with_reducible repeat (first | refine blk_drewN ?_ _ | refine blk_drew ?_ | refine blk_alloc ?_ _)); exact BK615.out)) : gb631 ≠ gb615)); clear HO625; clear HO630; clear BK614; clear BK615; clear HB; have HO625 := n0_; have HO630 := n1_; have BK614 := n2_; have BK615 := n3_; have HB := n4_; have BK631 := n5_; have GW631 := n6_; have GE631 := n7_; have NB614_631 := n8_; have NB631_614 := n9_; have NB615_631 := n10_; have NB631_615 := n11_; clear n0_ n1_ n2_ n3_ n4_ n5_ n6_ n7_ n8_ n9_ n10_ n11_; clear hb hbox hg; have hnb64 := NB631_614.out; have hnc64 := NB614_631.out; have hnb65 := NB631_615.out; have hnc65 := NB615_631.out; have hcz66_0 : w63.cell? ⟨gb631, 0, none⟩ = some (.int .i64 0) := (blk_cell BK631.out 0).trans rfl; have hcz66_1 : w63.cell? ⟨gb631, 1, none⟩ = some (.int .i64 0) := (blk_cell BK631.out 1).trans rfl; have hcz66_2 : w63.cell? ⟨gb631, 2, none⟩ = some (.slice none 0 0) := (blk_cell BK631.out 2).trans rfl; have hfz66_0 := blk_frozen BK631.out 0; have hfz66_1 := blk_frozen BK631.out 1; have hfz66_2 := blk_frozen BK631.out 2; obtain ⟨Ao67, co67, eo67⟩ := Kd.N_slice HO630.out; subst eo67))
       have n0_ : Aside0 (Kd.N k24 24 (((w63.setCell ⟨gb631, 0, none⟩ (.int .i64 t626)).setCell ⟨gb631, 1, none⟩ (.int .i64 t627)).setCell ⟨gb631, 2, none⟩ (.slice Ao67 t628.length co67)) w.heap.size (fun k_ => some k_ ≠ (.slice Ao67 t628.length co67 : Value).ownBlock ∧ k_ ≠ gb614 ∧ k_ ≠ gb615 ∧ k_ ≠ gb631) (.slice Ao61 t623.length co61) t623) := ⟨by (with_reducible repeat (first | apply Kd.N_alloc | apply Kd.N_drewN | apply Kd.N_drew)); exact Kd.N_mono (Kd.N_far (p := ⟨gb631, 2, none⟩) (Kd.N_far (p := ⟨gb631, 1, none⟩) (Kd.N_far (p := ⟨gb631, 0, none⟩) (Kd.N_mono HO625.out (fun k_ hk => (⟨hk, hk.2⟩ : _ ∧ k_ ≠ gb631))) (fun _ hk => hk.2) (.int .i64 t626)) (fun _ hk => hk.2) (.int .i64 t627)) (fun _ hk => hk.2) (.slice Ao67 t628.length co67)) (fun _ hk => ⟨hk.1.1.2, ⟨hk.1.1.1.1, ⟨hk.1.1.1.2, hk.1.2⟩⟩⟩)⟩
       have n1_ : Aside0 (Kd.N k24 24 (((w63.setCell ⟨gb631, 0, none⟩ (.int .i64 t626)).setCell ⟨gb631, 1, none⟩ (.int .i64 t627)).setCell ⟨gb631, 2, none⟩ (.slice Ao67 t628.length co67)) w.heap.size (fun k_ => some k_ ≠ (.slice Ao61 t623.length co61 : Value).ownBlock ∧ k_ ≠ gb614 ∧ k_ ≠ gb615 ∧ k_ ≠ gb631) (.slice Ao67 t628.length co67) t628) := ⟨by (with_reducible repeat (first | apply Kd.N_alloc | apply Kd.N_drewN | apply Kd.N_drew)); exact Kd.N_mono (Kd.N_far (p := ⟨gb631, 2, none⟩) (Kd.N_far (p := ⟨gb631, 1, none⟩) (Kd.N_far (p := ⟨gb631, 0, none⟩) (Kd.N_mono HO630.out (fun k_ hk => (⟨hk, hk.2⟩ : _ ∧ k_ ≠ gb631))) (fun _ hk => hk.2) (.int .i64 t626)) (fun _ hk => hk.2) (.int .i64 t627)) (fun _ hk => hk.2) (.slice Ao67 t628.length co67)) (fun _ hk => ⟨hk.1.1.1, ⟨hk.1.1.2.1, ⟨hk.1.1.2.2, hk.1.2⟩⟩⟩)⟩
       have n2_ : Aside0 ((((w63.setCell ⟨gb631, 0, none⟩ (.int .i64 t626)).setCell ⟨gb631, 1, none⟩ (.int .i64 t627)).setCell ⟨gb631, 2, none⟩ (.slice Ao67 t628.length co67)).heap[gb614]? = some (.cells #[.int .i64 a0_0, .int .i64 a0_1, .slice A0_2 l0_2.length c0_2] 24 (0, 0))) := ⟨by (with_reducible repeat (first | refine blk_drewN ?_ _ | refine blk_drew ?_ | refine blk_alloc ?_ _)); refine blk_far ?_ NB614_631.out _; (with_reducible repeat (first | refine blk_drewN ?_ _ | refine blk_drew ?_ | refine blk_alloc ?_ _)); refine blk_far ?_ NB614_631.out _; (with_reducible repeat (first | refine blk_drewN ?_ _ | refine blk_drew ?_ | refine blk_alloc ?_ _)); refine blk_far ?_ NB614_631.out _; (with_reducible repeat (first | refine blk_drewN ?_ _ | refine blk_drew ?_ | refine blk_alloc ?_ _)); exact BK614.out⟩
       have n3_ : Aside0 ((((w63.setCell ⟨gb631, 0, none⟩ (.int .i64 t626)).setCell ⟨gb631, 1, none⟩ (.int .i64 t627)).setCell ⟨gb631, 2, none⟩ (.slice Ao67 t628.length co67)).heap[gb615]? = some (.cells #[.int .i64 a1_0, .int .i64 a1_1, .slice A1_2 l1_2.length c1_2] 24 (0, 0))) := ⟨by (with_reducible repeat (first | refine blk_drewN ?_ _ | refine blk_drew ?_ | refine blk_alloc ?_ _)); refine blk_far ?_ NB615_631.out _; (with_reducible repeat (first | refine blk_drewN ?_ _ | refine blk_drew ?_ | refine blk_alloc ?_ _)); refine blk_far ?_ NB615_631.out _; (with_reducible repeat (first | refine blk_drewN ?_ _ | refine blk_drew ?_ | refine blk_alloc ?_ _)); refine blk_far ?_ NB615_631.out _; (with_reducible repeat (first | refine blk_drewN ?_ _ | refine blk_drew ?_ | refine blk_alloc ?_ _)); exact BK615.out⟩
       have n4_ : Aside0 ((((w63.setCell ⟨gb631, 0, none⟩ (.int .i64 t626)).setCell ⟨gb631, 1, none⟩ (.int .i64 t627)).setCell ⟨gb631, 2, none⟩ (.slice Ao67 t628.length co67)).heap[gb631]? = some (.cells #[.int .i64 t626, .int .i64 t627, .slice Ao67 t628.length co67] 24 (0, 0))) := ⟨by (with_reducible repeat (first | refine blk_drewN ?_ _ | refine blk_drew ?_ | refine blk_alloc ?_ _)); refine blk_put (cs := #[.int .i64 t626, .int .i64 t627, .slice none 0 0]) ?_ 2 _ rfl; (with_reducible repeat (first | refine blk_drewN ?_ _ | refine blk_drew ?_ | refine blk_alloc ?_ _)); refine blk_put (cs := #[.int .i64 t626, .int .i64 0, .slice none 0 0]) ?_ 1 _ rfl; (with_reducible repeat (first | refine blk_drewN ?_ _ | refine blk_drew ?_ | refine blk_alloc ?_ _)); refine blk_put (cs := #[.int .i64 0, .int .i64 0, .slice none 0 0]) ?_ 0 _ rfl; (with_reducible repeat (first | refine blk_drewN ?_ _ | refine blk_drew ?_ | refine blk_alloc ?_ _)); exact BK631.out⟩
       have n5_ : Aside0 (Below w.heap.size w (((w63.setCell ⟨gb631, 0, none⟩ (.int .i64 t626)).setCell ⟨gb631, 1, none⟩ (.int .i64 t627)).setCell ⟨gb631, 2, none⟩ (.slice Ao67 t628.length co67))) := ⟨by repeat (first | (with_reducible first | exact HB.out | apply below_alloc | apply pw_below_drewN | apply below_drew1 | refine below_set ?_ GE614.out | refine below_set ?_ GE615.out | refine below_set ?_ GE631.out) | exact HB.out)⟩
       (try clear HO625)
       (try clear HO630)
       (try clear BK614)
       (try clear BK615)
       (try clear BK631)
       (try clear HB)
       generalize (((w63.setCell ⟨gb631, 0, none⟩ (.int .i64 t626)).setCell ⟨gb631, 1, none⟩ (.int .i64 t627)).setCell ⟨gb631, 2, none⟩ (.slice Ao67 t628.length co67)) = w68 at n0_ n1_ n2_ n3_ n4_ n5_ ⊢
       have HO625 := n0_
       have HO630 := n1_
       have BK614 := n2_
       have BK615 := n3_
       have BK631 := n4_
       have HB := n5_
       clear n0_ n1_ n2_ n3_ n4_ n5_
       have n0_ := Aside0.mk (Kd.N_drew HO625.out)
       have n1_ := Aside0.mk (Kd.N_drew HO630.out)
       have n2_ := Aside0.mk (blk_drew BK614.out)
       have n3_ := Aside0.mk (blk_drew BK615.out)
       have n4_ := Aside0.mk (blk_drew BK631.out)
       have n5_ := Aside0.mk (below_drew1 HB.out)
       clear HO625
       clear HO630
       clear BK614
       clear BK615
       clear BK631
       clear HB
       have HO625 := n0_
       have HO630 := n1_
       have BK614 := n2_
       have BK615 := n3_
       have BK631 := n4_
       have HB := n5_
       clear n0_ n1_ n2_ n3_ n4_ n5_
       refine start_ (n := 29) (S := fun w' => w'.cell? ⟨gb614, 0, none⟩ = some (.int .i64 a0_0) ∧ w'.cell? ⟨gb614, 1, none⟩ = some (.int .i64 a0_1) ∧ w'.cell? ⟨gb614, 2, none⟩ = some (.slice A0_2 l0_2.length c0_2) ∧ w'.cell? ⟨gb615, 0, none⟩ = some (.int .i64 a1_0) ∧ w'.cell? ⟨gb615, 1, none⟩ = some (.int .i64 a1_1) ∧ w'.cell? ⟨gb615, 2, none⟩ = some (.slice A1_2 l1_2.length c1_2) ∧ w'.cell? ⟨gb631, 0, none⟩ = some (.int .i64 t626) ∧ w'.cell? ⟨gb631, 1, none⟩ = some (.int .i64 t627) ∧ w'.cell? ⟨gb631, 2, none⟩ = some (.slice Ao67 t628.length co67)) (ds := []) Mk29_17_ (by kernel_rfl) rfl rfl ⟨(blk_cell BK614.out 0).trans rfl, (blk_cell BK614.out 1).trans rfl, (blk_cell BK614.out 2).trans rfl, (blk_cell BK615.out 0).trans rfl, (blk_cell BK615.out 1).trans rfl, (blk_cell BK615.out 2).trans rfl, (blk_cell BK631.out 0).trans rfl, (blk_cell BK631.out 1).trans rfl, (blk_cell BK631.out 2).trans rfl⟩ (fun hHeld => ?_); refine with_tabW parrylaw22_FormulaTexts.tab4 parrylaw22_FormulaTexts.bits4 (fun HT_ HW_ => ?_)
       generalize w68.drew = w69 at HO625 HO630 BK614 BK615 BK631 HB hHeld ⊢
       refine take_ (i := 0) (N := some 26) (v := ?_) (a' := ?_) Mk29_18_ rfl rfl (take_ofW HT_.out HW_.out (by kernel_rfl)) (fun _ _ _ h => h) (Or.inl ⟨by rfl, ?_⟩) hHeld ?_ ?_
       rotate_left
       ·rintro w' ⟨s0, s1, s2, s3, s4, s5, s6, s7, s8⟩
        go_simp
        with_reducible rfl
       rotate_left
       ·simp only [Act.put, List.setIfInBounds_toArray, List.set_cons_zero, List.set_cons_succ, i64_w, i32_w]
        rfl
       refine take_ (i := 2) (N := some 28) (v := ?_) (a' := ?_) Mk29_19_ rfl rfl (take_ofW HT_.out HW_.out (by kernel_rfl)) (fun _ _ _ h => h) (Or.inl ⟨by rfl, ?_⟩) hHeld ?_ ?_
       rotate_left
       ·rintro w' ⟨s0, s1, s2, s3, s4, s5, s6, s7, s8⟩
        go_simp
        with_reducible rfl
       rotate_left
       ·simp only [Act.put, List.setIfInBounds_toArray, List.set_cons_zero, List.set_cons_succ, i64_w, i32_w]
        rfl
       refine take_ (i := 5) (N := some 31) (v := ?_) (a' := ?_) Mk29_20_ rfl rfl (take_ofW HT_.out HW_.out (by kernel_rfl)) (fun _ _ _ h => h) (Or.inl ⟨by rfl, ?_⟩) hHeld ?_ ?_
       rotate_left
       ·rintro w' ⟨s0, s1, s2, s3, s4, s5, s6, s7, s8⟩
        go_simp
        with_reducible rfl
       rotate_left
       ·simp only [Act.put, List.setIfInBounds_toArray, List.set_cons_zero, List.set_cons_succ, i64_w, i32_w]
        rfl
       refine take_ (i := 6) (N := some 32) (v := ?_) (a' := ?_) Mk29_21_ rfl rfl (take_ofW HT_.out HW_.out (by kernel_rfl)) (fun _ _ _ h => h) (Or.inl ⟨by rfl, ?_⟩) hHeld ?_ ?_
       rotate_left
       ·rintro w' ⟨s0, s1, s2, s3, s4, s5, s6, s7, s8⟩
        go_simp
        with_reducible rfl
       rotate_left
       ·simp only [Act.put, List.setIfInBounds_toArray, List.set_cons_zero, List.set_cons_succ, i64_w, i32_w]
        rfl
       refine one_ (i := 1) (N := some 27) Mk29_22_ rfl rfl (one_of HT_.out (by kernel_rfl)) (by decide) (fun K hK => ?_)
       refine goes_ Tryd.func26 (by kernel_rfl) rfl #[.agg #[.int .i64 a0_0, .int .i64 a0_1, .slice A0_2 l0_2.length c0_2]] (by rfl) rfl rfl (by (try simp only [List.map_toArray, List.map_cons, List.map_nil]); first | done | rfl | (simp only [List.length_drop, List.length_take]; rfl)) ?_
       with_reducible refine (formula_Text.calls a0_0 a0_1 _ _ l0_2 t632 _ ?side1 ?side2 A19.out).mono ?_
       (case side1 => repeat (first | exact (Kd.C_below HR0_2.out HB.out) | (with_reducible refine Kd.C_alloc ?_ _) | (with_reducible refine Kd.C_drewN ?_ _) | (with_reducible refine Kd.C_drew ?_)))
       (case side2 => exact HC0_2.out)
       rintro e w70 ⟨rfl, hb⟩
       refine ⟨_, rfl, ?_⟩
       have n0_ := Aside0.mk (Kd.N_below (by (with_reducible repeat (first | apply Kd.N_alloc | apply Kd.N_drewN | apply Kd.N_drew)); exact HO625.out) hb)
       have n1_ := Aside0.mk (Kd.N_below (by (with_reducible repeat (first | apply Kd.N_alloc | apply Kd.N_drewN | apply Kd.N_drew)); exact HO630.out) hb)
       have n2_ := Aside0.mk (blk_below (g := gb614) (o := .cells #[.int .i64 a0_0, .int .i64 a0_1, .slice A0_2 l0_2.length c0_2] 24 (0, 0)) (by (with_reducible repeat (first | refine blk_drewN ?_ _ | refine blk_drew ?_ | refine blk_alloc ?_ _)); exact BK614.out) hb)
       have n3_ := Aside0.mk (blk_below (g := gb615) (o := .cells #[.int .i64 a1_0, .int .i64 a1_1, .slice A1_2 l1_2.length c1_2] 24 (0, 0)) (by (with_reducible repeat (first | refine blk_drewN ?_ _ | refine blk_drew ?_ | refine blk_alloc ?_ _)); exact BK615.out) hb)
       have n4_ := Aside0.mk (blk_below (g := gb631) (o := .cells #[.int .i64 t626, .int .i64 t627, .slice Ao67 t628.length co67] 24 (0, 0)) (by (with_reducible repeat (first | refine blk_drewN ?_ _ | refine blk_drew ?_ | refine blk_alloc ?_ _)); exact BK631.out) hb)
       have n5_ := Aside0.mk (below_step (by repeat (first | (with_reducible first | exact HB.out | apply below_alloc | apply pw_below_drewN | apply below_drew1 | refine below_set ?_ GE614.out | refine below_set ?_ GE615.out | refine below_set ?_ GE631.out) | exact HB.out)) hb)
       clear HO625
       clear HO630
       clear BK614
       clear BK615
       clear BK631
       clear HB
       have HO625 := n0_
       have HO630 := n1_
       have BK614 := n2_
       have BK615 := n3_
       have BK631 := n4_
       have HB := n5_
       clear n0_ n1_ n2_ n3_ n4_ n5_
       (try clear hb)
       (try clear hb2)
       (try clear hk)
       (try clear hi)
       refine hK.out _ _ ⟨(blk_cell BK614.out 0).trans rfl, (blk_cell BK614.out 1).trans rfl, (blk_cell BK614.out 2).trans rfl, (blk_cell BK615.out 0).trans rfl, (blk_cell BK615.out 1).trans rfl, (blk_cell BK615.out 2).trans rfl, (blk_cell BK631.out 0).trans rfl, (blk_cell BK631.out 1).trans rfl, (blk_cell BK631.out 2).trans rfl⟩ (fun hHeld => ?_)
       clear hK K
       refine norm_ (a' := ?_) ?_ ?_
       rotate_left
       ·show Act.put _ (some 27) _ = _
        simp only [Act.put, List.setIfInBounds_toArray, List.set_cons_zero, List.set_cons_succ, i64_w, i32_w]
        rfl
       refine one_ (i := 3) (N := some 29) Mk29_23_ rfl rfl (one_of HT_.out (by kernel_rfl)) (by decide) (fun K hK => ?_)
       refine goes_ Tryd.func26 (by kernel_rfl) rfl #[.agg #[.int .i64 a1_0, .int .i64 a1_1, .slice A1_2 l1_2.length c1_2]] (by rfl) rfl rfl (by (try simp only [List.map_toArray, List.map_cons, List.map_nil]); first | done | rfl | (simp only [List.length_drop, List.length_take]; rfl)) ?_
       with_reducible refine (formula_Text.calls a1_0 a1_1 _ _ l1_2 t633 _ ?side1 ?side2 A20.out).mono ?_
       (case side1 => repeat (first | exact (Kd.C_below HR1_2.out HB.out) | (with_reducible refine Kd.C_alloc ?_ _) | (with_reducible refine Kd.C_drewN ?_ _) | (with_reducible refine Kd.C_drew ?_)))
       (case side2 => exact HC1_2.out)
       rintro e w71 ⟨rfl, hb⟩
       refine ⟨_, rfl, ?_⟩
       have n0_ := Aside0.mk (Kd.N_below (by (with_reducible repeat (first | apply Kd.N_alloc | apply Kd.N_drewN | apply Kd.N_drew)); exact HO625.out) hb)
       have n1_ := Aside0.mk (Kd.N_below (by (with_reducible repeat (first | apply Kd.N_alloc | apply Kd.N_drewN | apply Kd.N_drew)); exact HO630.out) hb)
       have n2_ := Aside0.mk (blk_below (g := gb614) (o := .cells #[.int .i64 a0_0, .int .i64 a0_1, .slice A0_2 l0_2.length c0_2] 24 (0, 0)) (by (with_reducible repeat (first | refine blk_drewN ?_ _ | refine blk_drew ?_ | refine blk_alloc ?_ _)); exact BK614.out) hb)
       have n3_ := Aside0.mk (blk_below (g := gb615) (o := .cells #[.int .i64 a1_0, .int .i64 a1_1, .slice A1_2 l1_2.length c1_2] 24 (0, 0)) (by (with_reducible repeat (first | refine blk_drewN ?_ _ | refine blk_drew ?_ | refine blk_alloc ?_ _)); exact BK615.out) hb)
       have n4_ := Aside0.mk (blk_below (g := gb631) (o := .cells #[.int .i64 t626, .int .i64 t627, .slice Ao67 t628.length co67] 24 (0, 0)) (by (with_reducible repeat (first | refine blk_drewN ?_ _ | refine blk_drew ?_ | refine blk_alloc ?_ _)); exact BK631.out) hb)
       have n5_ := Aside0.mk (below_step (by repeat (first | (with_reducible first | exact HB.out | apply below_alloc | apply pw_below_drewN | apply below_drew1 | refine below_set ?_ GE614.out | refine below_set ?_ GE615.out | refine below_set ?_ GE631.out) | exact HB.out)) hb)
       clear HO625
       clear HO630
       clear BK614
       clear BK615
       clear BK631
       clear HB
       have HO625 := n0_
       have HO630 := n1_
       have BK614 := n2_
       have BK615 := n3_
       have BK631 := n4_
       have HB := n5_
       clear n0_ n1_ n2_ n3_ n4_ n5_
       (try clear hb)
       (try clear hb2)
       (try clear hk)
       (try clear hi)
       refine hK.out _ _ ⟨(blk_cell BK614.out 0).trans rfl, (blk_cell BK614.out 1).trans rfl, (blk_cell BK614.out 2).trans rfl, (blk_cell BK615.out 0).trans rfl, (blk_cell BK615.out 1).trans rfl, (blk_cell BK615.out 2).trans rfl, (blk_cell BK631.out 0).trans rfl, (blk_cell BK631.out 1).trans rfl, (blk_cell BK631.out 2).trans rfl⟩ (fun hHeld => ?_)
       clear hK K
       refine norm_ (a' := ?_) ?_ ?_
       rotate_left
       ·show Act.put _ (some 29) _ = _
        simp only [Act.put, List.setIfInBounds_toArray, List.set_cons_zero, List.set_cons_succ, i64_w, i32_w]
        rfl
       refine pure_ (i := 4) (N := some 30) (v := ?_) (a' := ?_) Mk29_24_ rfl rfl (any_of HT_.out (by kernel_rfl)) (fun _ _ _ h => h) (Or.inl ⟨by rfl, ?_⟩) ?_ ?_; rotate_left; intro w'; go_simp; with_reducible rfl; rotate_left; simp only [Act.put, List.setIfInBounds_toArray, List.set_cons_zero, List.set_cons_succ, i64_w, i32_w]; rfl
       refine one_ (i := 7) (N := some 33) Mk29_25_ rfl rfl (one_of HT_.out (by kernel_rfl)) (by decide) (fun K hK => ?_)
       refine goes_ Tryd.func21 (by kernel_rfl) rfl #[.agg #[.int .i64 a0_0, .int .i64 a0_1, .slice A0_2 l0_2.length c0_2], .agg #[.int .i64 a1_0, .int .i64 a1_1, .slice A1_2 l1_2.length c1_2]] (by rfl) rfl rfl (by (try simp only [List.map_toArray, List.map_cons, List.map_nil]); first | done | rfl | (simp only [List.length_drop, List.length_take]; rfl)) ?_
       with_reducible refine (formula_Same.calls a0_0 a0_1 _ _ l0_2 a1_0 a1_1 _ _ l1_2 t634 _ ?side1 ?side2 ?side3 ?side4 A21.out).mono ?_
       (case side1 => repeat (first | exact (Kd.C_below HR0_2.out HB.out) | (with_reducible refine Kd.C_alloc ?_ _) | (with_reducible refine Kd.C_drewN ?_ _) | (with_reducible refine Kd.C_drew ?_)))
       (case side2 => exact HC0_2.out)
       (case side3 => repeat (first | exact (Kd.C_below HR1_2.out HB.out) | (with_reducible refine Kd.C_alloc ?_ _) | (with_reducible refine Kd.C_drewN ?_ _) | (with_reducible refine Kd.C_drew ?_)))
       (case side4 => exact HC1_2.out)
       rintro e w72 ⟨rfl, hb⟩
       refine ⟨_, rfl, ?_⟩
       have n0_ := Aside0.mk (Kd.N_below (by (with_reducible repeat (first | apply Kd.N_alloc | apply Kd.N_drewN | apply Kd.N_drew)); exact HO625.out) hb)
       have n1_ := Aside0.mk (Kd.N_below (by (with_reducible repeat (first | apply Kd.N_alloc | apply Kd.N_drewN | apply Kd.N_drew)); exact HO630.out) hb)
       have n2_ := Aside0.mk (blk_below (g := gb614) (o := .cells #[.int .i64 a0_0, .int .i64 a0_1, .slice A0_2 l0_2.length c0_2] 24 (0, 0)) (by (with_reducible repeat (first | refine blk_drewN ?_ _ | refine blk_drew ?_ | refine blk_alloc ?_ _)); exact BK614.out) hb)
       have n3_ := Aside0.mk (blk_below (g := gb615) (o := .cells #[.int .i64 a1_0, .int .i64 a1_1, .slice A1_2 l1_2.length c1_2] 24 (0, 0)) (by (with_reducible repeat (first | refine blk_drewN ?_ _ | refine blk_drew ?_ | refine blk_alloc ?_ _)); exact BK615.out) hb)
       have n4_ := Aside0.mk (blk_below (g := gb631) (o := .cells #[.int .i64 t626, .int .i64 t627, .slice Ao67 t628.length co67] 24 (0, 0)) (by (with_reducible repeat (first | refine blk_drewN ?_ _ | refine blk_drew ?_ | refine blk_alloc ?_ _)); exact BK631.out) hb)
       have n5_ := Aside0.mk (below_step (by repeat (first | (with_reducible first | exact HB.out | apply below_alloc | apply pw_below_drewN | apply below_drew1 | refine below_set ?_ GE614.out | refine below_set ?_ GE615.out | refine below_set ?_ GE631.out) | exact HB.out)) hb)
       clear HO625
       clear HO630
       clear BK614
       clear BK615
       clear BK631
       clear HB
       have HO625 := n0_
       have HO630 := n1_
       have BK614 := n2_
       have BK615 := n3_
       have BK631 := n4_
       have HB := n5_
       clear n0_ n1_ n2_ n3_ n4_ n5_
       (try clear hb)
       (try clear hb2)
       (try clear hk)
       (try clear hi)
       refine hK.out _ _ ⟨(blk_cell BK614.out 0).trans rfl, (blk_cell BK614.out 1).trans rfl, (blk_cell BK614.out 2).trans rfl, (blk_cell BK615.out 0).trans rfl, (blk_cell BK615.out 1).trans rfl, (blk_cell BK615.out 2).trans rfl, (blk_cell BK631.out 0).trans rfl, (blk_cell BK631.out 1).trans rfl, (blk_cell BK631.out 2).trans rfl⟩ (fun hHeld => ?_)
       clear hK K
       refine norm_ (a' := ?_) ?_ ?_
       rotate_left
       ·show Act.put _ (some 33) _ = _
        simp only [Act.put, List.setIfInBounds_toArray, List.set_cons_zero, List.set_cons_succ, i64_w, i32_w]
        rfl
       refine pure_ (i := 8) (N := some 34) (v := ?_) (a' := ?_) Mk29_26_ rfl rfl (any_of HT_.out (by kernel_rfl)) (fun _ _ _ h => h) (Or.inl ⟨by rfl, ?_⟩) ?_ ?_; rotate_left; intro w'; go_simp; with_reducible rfl; rotate_left; simp only [Act.put, List.setIfInBounds_toArray, List.set_cons_zero, List.set_cons_succ, i64_w, i32_w]; rfl
       refine pure_ (i := 9) (N := some 35) (v := ?_) (a' := ?_) Mk29_27_ rfl rfl (any_of HT_.out (by kernel_rfl)) (fun _ _ _ h => h) (Or.inl ⟨by rfl, ?_⟩) ?_ ?_; rotate_left; intro w'; go_simp; with_reducible rfl; rotate_left; simp only [Act.put, List.setIfInBounds_toArray, List.set_cons_zero, List.set_cons_succ, i64_w, i32_w]; rfl
       refine pure_ (i := 10) (N := some 36) (v := ?_) (a' := ?_) Mk29_28_ rfl rfl (any_of HT_.out (by kernel_rfl)) (fun _ _ _ h => h) (Or.inl ⟨by rfl, ?_⟩) ?_ ?_; rotate_left; intro w'; go_simp; with_reducible rfl; rotate_left; simp only [Act.put, List.setIfInBounds_toArray, List.set_cons_zero, List.set_cons_succ, i64_w, i32_w]; rfl
       refine take_ (i := 11) (N := some 37) (v := ?_) (a' := ?_) Mk29_29_ rfl rfl (take_ofW HT_.out HW_.out (by kernel_rfl)) (fun _ _ _ h => h) (Or.inl ⟨by rfl, ?_⟩) hHeld ?_ ?_
       rotate_left
       ·rintro w' ⟨s0, s1, s2, s3, s4, s5, s6, s7, s8⟩
        go_simp
        with_reducible rfl
       rotate_left
       ·simp only [Act.put, List.setIfInBounds_toArray, List.set_cons_zero, List.set_cons_succ, i64_w, i32_w]
        rfl
       refine pure_ (i := 12) (N := some 38) (v := ?_) (a' := ?_) Mk29_30_ rfl rfl (any_of HT_.out (by kernel_rfl)) (fun _ _ _ h => h) (Or.inl ⟨by rfl, ?_⟩) ?_ ?_; rotate_left; intro w'; go_simp; with_reducible rfl; rotate_left; simp only [Act.put, List.setIfInBounds_toArray, List.set_cons_zero, List.set_cons_succ, i64_w, i32_w]; rfl
       refine pure_ (i := 13) (N := some 39) (v := ?_) (a' := ?_) Mk29_31_ rfl rfl (any_of HT_.out (by kernel_rfl)) (fun _ _ _ h => h) (Or.inl ⟨by rfl, ?_⟩) ?_ ?_; rotate_left; intro w'; go_simp; with_reducible rfl; rotate_left; simp only [Act.put, List.setIfInBounds_toArray, List.set_cons_zero, List.set_cons_succ, i64_w, i32_w]; rfl
       refine take_ (i := 14) (N := some 40) (v := ?_) (a' := ?_) Mk29_32_ rfl rfl (take_ofW HT_.out HW_.out (by kernel_rfl)) (fun _ _ _ h => h) (Or.inl ⟨by rfl, ?_⟩) hHeld ?_ ?_
       rotate_left
       ·rintro w' ⟨s0, s1, s2, s3, s4, s5, s6, s7, s8⟩
        go_simp
        with_reducible rfl
       rotate_left
       ·simp only [Act.put, List.setIfInBounds_toArray, List.set_cons_zero, List.set_cons_succ, i64_w, i32_w]
        rfl
       refine take_ (i := 15) (N := some 41) (v := ?_) (a' := ?_) Mk29_33_ rfl rfl (take_ofW HT_.out HW_.out (by kernel_rfl)) (fun _ _ _ h => h) (Or.inl ⟨by rfl, ?_⟩) hHeld ?_ ?_
       rotate_left
       ·rintro w' ⟨s0, s1, s2, s3, s4, s5, s6, s7, s8⟩
        go_simp
        with_reducible rfl
       rotate_left
       ·simp only [Act.put, List.setIfInBounds_toArray, List.set_cons_zero, List.set_cons_succ, i64_w, i32_w]
        rfl
       refine one_ (i := 16) (N := some 42) Mk29_34_ rfl rfl (one_of HT_.out (by kernel_rfl)) (by decide) (fun K hK => ?_)
       refine goes_ Tryd.func21 (by kernel_rfl) rfl #[.agg #[.int .i64 t626, .int .i64 t627, .slice Ao67 t628.length co67], .agg #[.int .i64 a0_0, .int .i64 a0_1, .slice A0_2 l0_2.length c0_2]] (by rfl) rfl rfl (by (try simp only [List.map_toArray, List.map_cons, List.map_nil]); first | done | rfl | (simp only [List.length_drop, List.length_take]; rfl)) ?_
       with_reducible refine (formula_Same.calls t626 t627 _ _ t628 a0_0 a0_1 _ _ l0_2 true _ ?side1 ?side2 ?side3 ?side4 A48.out).mono ?_
       (case side1 => repeat (first | exact (Kd.N_reads' HO630.out).2.2 | (with_reducible refine Kd.C_alloc ?_ _) | (with_reducible refine Kd.C_drewN ?_ _) | (with_reducible refine Kd.C_drew ?_)))
       (case side2 => exact (Kd.N_reads' HO630.out).2.1)
       (case side3 => repeat (first | exact (Kd.C_below HR0_2.out HB.out) | (with_reducible refine Kd.C_alloc ?_ _) | (with_reducible refine Kd.C_drewN ?_ _) | (with_reducible refine Kd.C_drew ?_)))
       (case side4 => exact HC0_2.out)
       rintro e w73 ⟨rfl, hb⟩
       refine ⟨_, rfl, ?_⟩
       have n0_ := Aside0.mk (Kd.N_below (by (with_reducible repeat (first | apply Kd.N_alloc | apply Kd.N_drewN | apply Kd.N_drew)); exact HO625.out) hb)
       have n1_ := Aside0.mk (Kd.N_below (by (with_reducible repeat (first | apply Kd.N_alloc | apply Kd.N_drewN | apply Kd.N_drew)); exact HO630.out) hb)
       have n2_ := Aside0.mk (blk_below (g := gb614) (o := .cells #[.int .i64 a0_0, .int .i64 a0_1, .slice A0_2 l0_2.length c0_2] 24 (0, 0)) (by (with_reducible repeat (first | refine blk_drewN ?_ _ | refine blk_drew ?_ | refine blk_alloc ?_ _)); exact BK614.out) hb)
       have n3_ := Aside0.mk (blk_below (g := gb615) (o := .cells #[.int .i64 a1_0, .int .i64 a1_1, .slice A1_2 l1_2.length c1_2] 24 (0, 0)) (by (with_reducible repeat (first | refine blk_drewN ?_ _ | refine blk_drew ?_ | refine blk_alloc ?_ _)); exact BK615.out) hb)
       have n4_ := Aside0.mk (blk_below (g := gb631) (o := .cells #[.int .i64 t626, .int .i64 t627, .slice Ao67 t628.length co67] 24 (0, 0)) (by (with_reducible repeat (first | refine blk_drewN ?_ _ | refine blk_drew ?_ | refine blk_alloc ?_ _)); exact BK631.out) hb)
       have n5_ := Aside0.mk (below_step (by repeat (first | (with_reducible first | exact HB.out | apply below_alloc | apply pw_below_drewN | apply below_drew1 | refine below_set ?_ GE614.out | refine below_set ?_ GE615.out | refine below_set ?_ GE631.out) | exact HB.out)) hb)
       clear HO625
       clear HO630
       clear BK614
       clear BK615
       clear BK631
       clear HB
       have HO625 := n0_
       have HO630 := n1_
       have BK614 := n2_
       have BK615 := n3_
       have BK631 := n4_
       have HB := n5_
       clear n0_ n1_ n2_ n3_ n4_ n5_
       (try clear hb)
       (try clear hb2)
       (try clear hk)
       (try clear hi)
       refine hK.out _ _ ⟨(blk_cell BK614.out 0).trans rfl, (blk_cell BK614.out 1).trans rfl, (blk_cell BK614.out 2).trans rfl, (blk_cell BK615.out 0).trans rfl, (blk_cell BK615.out 1).trans rfl, (blk_cell BK615.out 2).trans rfl, (blk_cell BK631.out 0).trans rfl, (blk_cell BK631.out 1).trans rfl, (blk_cell BK631.out 2).trans rfl⟩ (fun hHeld => ?_)
       clear hK K
       refine norm_ (a' := ?_) ?_ ?_
       rotate_left
       ·show Act.put _ (some 42) _ = _
        simp only [Act.put, List.setIfInBounds_toArray, List.set_cons_zero, List.set_cons_succ, i64_w, i32_w]
        rfl
       refine pure_ (i := 17) (N := some 43) (v := ?_) (a' := ?_) Mk29_35_ rfl rfl (any_of HT_.out (by kernel_rfl)) (fun _ _ _ h => h) (Or.inl ⟨by rfl, ?_⟩) ?_ ?_; rotate_left; intro w'; go_simp; with_reducible rfl; rotate_left; simp only [Act.put, List.setIfInBounds_toArray, List.set_cons_zero, List.set_cons_succ, i64_w, i32_w]; rfl
       refine pure_ (i := 18) (N := some 44) (v := ?_) (a' := ?_) Mk29_36_ rfl rfl (any_of HT_.out (by kernel_rfl)) (fun _ _ _ h => h) (Or.inl ⟨by rfl, ?_⟩) ?_ ?_; rotate_left; intro w'; go_simp; with_reducible rfl; rotate_left; simp only [Act.put, List.setIfInBounds_toArray, List.set_cons_zero, List.set_cons_succ, i64_w, i32_w]; rfl
       refine pure_ (i := 19) (N := some 45) (v := undef) (a' := ?_) Mk29_37_ rfl rfl (any_of HT_.out (by kernel_rfl)) (fun _ _ _ h => h) (Or.inr ⟨by rfl, rfl⟩) ?_ ?_
       rotate_left
       ·simp only [Act.put, List.setIfInBounds_toArray, List.set_cons_zero, List.set_cons_succ, i64_w, i32_w]
        rfl
       refine pure_ (i := 20) (N := some 46) (v := undef) (a' := ?_) Mk29_38_ rfl rfl (any_of HT_.out (by kernel_rfl)) (fun _ _ _ h => h) (Or.inr ⟨by rfl, rfl⟩) ?_ ?_
       rotate_left
       ·simp only [Act.put, List.setIfInBounds_toArray, List.set_cons_zero, List.set_cons_succ, i64_w, i32_w]
        rfl
       refine pure_ (i := 21) (N := some 47) (v := undef) (a' := ?_) Mk29_39_ rfl rfl (any_of HT_.out (by kernel_rfl)) (fun _ _ _ h => h) (Or.inr ⟨by rfl, rfl⟩) ?_ ?_
       rotate_left
       ·simp only [Act.put, List.setIfInBounds_toArray, List.set_cons_zero, List.set_cons_succ, i64_w, i32_w]
        rfl
       refine pure_ (i := 22) (N := some 48) (v := undef) (a' := ?_) Mk29_40_ rfl rfl (any_of HT_.out (by kernel_rfl)) (fun _ _ _ h => h) (Or.inr ⟨by rfl, rfl⟩) ?_ ?_
       rotate_left
       ·simp only [Act.put, List.setIfInBounds_toArray, List.set_cons_zero, List.set_cons_succ, i64_w, i32_w]
        rfl
       refine pure_ (i := 23) (N := some 49) (v := ?_) (a' := ?_) Mk29_41_ rfl rfl (any_of HT_.out (by kernel_rfl)) (fun _ _ _ h => h) (Or.inl ⟨by rfl, ?_⟩) ?_ ?_; rotate_left; intro w'; go_simp; with_reducible rfl; rotate_left; simp only [Act.put, List.setIfInBounds_toArray, List.set_cons_zero, List.set_cons_succ, i64_w, i32_w]; rfl
       refine pure_ (i := 24) (N := some 50) (v := ?_) (a' := ?_) Mk29_42_ rfl rfl (any_of HT_.out (by kernel_rfl)) (fun _ _ _ h => h) (Or.inl ⟨by rfl, ?_⟩) ?_ ?_; rotate_left; intro w'; go_simp; with_reducible rfl; rotate_left; simp only [Act.put, List.setIfInBounds_toArray, List.set_cons_zero, List.set_cons_succ, i64_w, i32_w]; rfl
       refine pure_ (i := 25) (N := some 51) (v := ?_) (a' := ?_) Mk29_43_ rfl rfl (any_of HT_.out (by kernel_rfl)) (fun _ _ _ h => h) (Or.inl ⟨by rfl, ?_⟩) ?_ ?_; rotate_left; intro w'; go_simp; with_reducible rfl; rotate_left; simp only [Act.put, List.setIfInBounds_toArray, List.set_cons_zero, List.set_cons_succ, i64_w, i32_w]; rfl
       refine one_ (i := 26) (N := some 52) Mk29_44_ rfl rfl (one_of HT_.out (by kernel_rfl)) (by decide) (fun K hK => ?_)
       refine goes_ Tryd.func11 (by kernel_rfl) rfl #[] (by rfl) rfl rfl (by (try simp only [List.map_toArray, List.map_cons, List.map_nil]); first | done | rfl | (simp only [List.length_drop, List.length_take]; rfl)) ?_
       with_reducible refine (parrylaw22_awake.calls  t637 _ A50.out).mono ?_
       rintro e w74 ⟨rfl, hb⟩
       refine ⟨_, rfl, ?_⟩
       have n0_ := Aside0.mk (Kd.N_below (by (with_reducible repeat (first | apply Kd.N_alloc | apply Kd.N_drewN | apply Kd.N_drew)); exact HO625.out) hb)
       have n1_ := Aside0.mk (Kd.N_below (by (with_reducible repeat (first | apply Kd.N_alloc | apply Kd.N_drewN | apply Kd.N_drew)); exact HO630.out) hb)
       have n2_ := Aside0.mk (blk_below (g := gb614) (o := .cells #[.int .i64 a0_0, .int .i64 a0_1, .slice A0_2 l0_2.length c0_2] 24 (0, 0)) (by (with_reducible repeat (first | refine blk_drewN ?_ _ | refine blk_drew ?_ | refine blk_alloc ?_ _)); exact BK614.out) hb)
       have n3_ := Aside0.mk (blk_below (g := gb615) (o := .cells #[.int .i64 a1_0, .int .i64 a1_1, .slice A1_2 l1_2.length c1_2] 24 (0, 0)) (by (with_reducible repeat (first | refine blk_drewN ?_ _ | refine blk_drew ?_ | refine blk_alloc ?_ _)); exact BK615.out) hb)
       have n4_ := Aside0.mk (blk_below (g := gb631) (o := .cells #[.int .i64 t626, .int .i64 t627, .slice Ao67 t628.length co67] 24 (0, 0)) (by (with_reducible repeat (first | refine blk_drewN ?_ _ | refine blk_drew ?_ | refine blk_alloc ?_ _)); exact BK631.out) hb)
       have n5_ := Aside0.mk (below_step (by repeat (first | (with_reducible first | exact HB.out | apply below_alloc | apply pw_below_drewN | apply below_drew1 | refine below_set ?_ GE614.out | refine below_set ?_ GE615.out | refine below_set ?_ GE631.out) | exact HB.out)) hb)
       clear HO625
       clear HO630
       clear BK614
       clear BK615
       clear BK631
       clear HB
       have HO625 := n0_
       have HO630 := n1_
       have BK614 := n2_
       have BK615 := n3_
       have BK631 := n4_
       have HB := n5_
       clear n0_ n1_ n2_ n3_ n4_ n5_
       (try clear hb)
       (try clear hb2)
       (try clear hk)
       (try clear hi)
       refine hK.out _ _ ⟨(blk_cell BK614.out 0).trans rfl, (blk_cell BK614.out 1).trans rfl, (blk_cell BK614.out 2).trans rfl, (blk_cell BK615.out 0).trans rfl, (blk_cell BK615.out 1).trans rfl, (blk_cell BK615.out 2).trans rfl, (blk_cell BK631.out 0).trans rfl, (blk_cell BK631.out 1).trans rfl, (blk_cell BK631.out 2).trans rfl⟩ (fun hHeld => ?_)
       clear hK K
       refine norm_ (a' := ?_) ?_ ?_
       rotate_left
       ·show Act.put _ (some 52) _ = _
        simp only [Act.put, List.setIfInBounds_toArray, List.set_cons_zero, List.set_cons_succ, i64_w, i32_w]
        rfl
       refine pure_ (i := 27) (N := some 53) (v := ?_) (a' := ?_) Mk29_45_ rfl rfl (any_of HT_.out (by kernel_rfl)) (fun _ _ _ h => h) (Or.inl ⟨by rfl, ?_⟩) ?_ ?_; rotate_left; intro w'; go_simp; with_reducible rfl; rotate_left; simp only [Act.put, List.setIfInBounds_toArray, List.set_cons_zero, List.set_cons_succ, i64_w, i32_w]; rfl
       refine pure_ (i := 28) (N := some 4) (v := ?_) (a' := ?_) Mk29_46_ rfl rfl (any_of HT_.out (by kernel_rfl)) (fun _ _ _ h => h) (Or.inl ⟨by rfl, ?_⟩) ?_ ?_; rotate_left; intro w'; go_simp; with_reducible rfl; rotate_left; simp only [Act.put, List.setIfInBounds_toArray, List.set_cons_zero, List.set_cons_succ, i64_w, i32_w]; rfl
       refine done_ (done_of HT_.out (by kernel_rfl)) ?_
       try go_wp2
       go_ret
       exact ⟨by first | rfl | (simp [errW_none, errW_some] <;> rfl) | (simp [*, errW_none, errW_some] <;> rfl), by repeat (first | (with_reducible first | exact HB.out | apply below_alloc | apply pw_below_drewN | apply below_drew1 | refine below_set ?_ GE614.out | refine below_set ?_ GE615.out | refine below_set ?_ GE631.out) | exact HB.out)⟩
      ·replace c49 := Bool.eq_false_iff.mpr c49
       subst c49
       have H1 : ((formula_Not.f k a0_0 a0_1 l0_2).bind fun bt638 => ((formula_May.f bt638.1 bt638.2.1 bt638.2.2).bind fun t643 => (if t643 = 0 then (some false) else ((parrylaw22_awake.f).bind fun t644 => (some t644))))) = some r := by rw [if_neg (show ¬ (false = true) by decide)] at H; exact H
       clear H
       have H := H1
       clear H1
       replace H := Option.bind_eq_some_iff.mp H
       obtain ⟨⟨t638, t639, t640⟩, A750, H⟩ := H
       replace H : ((formula_May.f t638 t639 t640).bind fun t643 => (if t643 = 0 then (some false) else ((parrylaw22_awake.f).bind fun t644 => (some t644)))) = some r := H
       have A75 := Aside0.mk A750
       clear A750
       replace H := Option.bind_eq_some_iff.mp H
       obtain ⟨t643, A760, H⟩ := H
       replace H : (if t643 = 0 then (some false) else ((parrylaw22_awake.f).bind fun t644 => (some t644))) = some r := H
       have A76 := Aside0.mk A760
       clear A760
       by_cases c77 : t643 = 0
       ·rw [if_pos c77] at H
        have c77b0 : (t643 == 0) = true := beq_iff_eq.mpr c77
        have c77b1 : (t643 != 0) = false := bne_eq_false_iff_eq.mpr c77
        clear c77
        exact absurd ((Option.some.inj H).trans HRT.out) (by decide)
       ·rw [if_neg c77] at H
        have c77b0 : (t643 == 0) = false := beq_eq_false_iff_ne.mpr c77
        have c77b1 : (t643 != 0) = true := bne_iff_ne.mpr c77
        replace H := Option.bind_eq_some_iff.mp H
        obtain ⟨t644, A780, H⟩ := H
        replace H : (some t644) = some r := H
        have A78 := Aside0.mk A780
        clear A780
        obtain rfl := Option.some.inj H
        go_enter Tryd.func8, Tryd.ntmps8
        try go_wp2_with (first | ((with_reducible refine gate_dst (N := 2) rfl ?_); refine box_event ?hg (N := 2) ?hd (cs := #[.int .i64 a0_0, .int .i64 a0_1, .slice A0_2 l0_2.length c0_2]) (t := 24) ?hr ?_; (case hd => rfl); (case hg => rfl); (case hr => first | (go_simp; done) | (go_simp; rfl)); intro gb614 hg w79 hbox hb; have n0_ := Aside0.mk (below_step (by repeat (first | (with_reducible first | exact HB.out | apply below_alloc | apply pw_below_drewN | apply below_drew1) | exact HB.out)) hb); have n1_ := Aside0.mk (hbox); have n2_ := Aside0.mk ((by rw [hg]; exact (below_size (by repeat (first | (with_reducible first | exact HB.out | apply below_alloc | apply pw_below_drewN | apply below_drew1) | exact HB.out))) : w.heap.size ≤ gb614)); have n3_ := Aside0.mk ((by rw [hg]; exact (below_size (by repeat (first | (with_reducible first | exact HB.out | apply below_alloc | apply pw_below_drewN | apply below_drew1) | exact HB.out))) : w.heap.size ≤ gb614)); clear HB; have HB := n0_; have BK614 := n1_; have GW614 := n2_; have GE614 := n3_; clear n0_ n1_ n2_ n3_; clear hb hbox hg) | ((with_reducible refine gate_dst (N := 3) rfl ?_); refine box_event ?hg (N := 3) ?hd (cs := #[.int .i64 a1_0, .int .i64 a1_1, .slice A1_2 l1_2.length c1_2]) (t := 24) ?hr ?_; (case hd => rfl); (case hg => rfl); (case hr => first | (go_simp; done) | (go_simp; rfl)); intro gb615 hg w80 hbox hb; have n0_ := Aside0.mk (blk_below (g := gb614) (o := .cells #[.int .i64 a0_0, .int .i64 a0_1, .slice A0_2 l0_2.length c0_2] 24 (0, 0)) (by (with_reducible repeat (first | refine blk_drewN ?_ _ | refine blk_drew ?_ | refine blk_alloc ?_ _)); exact BK614.out) hb); have n1_ := Aside0.mk (below_step (by repeat (first | (with_reducible first | exact HB.out | apply below_alloc | apply pw_below_drewN | apply below_drew1 | refine below_set ?_ GE614.out) | exact HB.out)) hb); have n2_ := Aside0.mk (hbox); have n3_ := Aside0.mk ((by rw [hg]; exact (below_size (by repeat (first | (with_reducible first | exact HB.out | apply below_alloc | apply pw_below_drewN | apply below_drew1 | refine below_set ?_ GE614.out) | exact HB.out))) : w.heap.size ≤ gb615)); have n4_ := Aside0.mk ((by rw [hg]; exact (below_size (by repeat (first | (with_reducible first | exact HB.out | apply below_alloc | apply pw_below_drewN | apply below_drew1 | refine below_set ?_ GE614.out) | exact HB.out))) : w.heap.size ≤ gb615)); have n5_ := Aside0.mk ((by rw [hg]; exact Nat.ne_of_lt (blk_lt (g := gb614) (o := .cells #[.int .i64 a0_0, .int .i64 a0_1, .slice A0_2 l0_2.length c0_2] 24 (0, 0)) (by (with_reducible repeat (first | refine blk_drewN ?_ _ | refine blk_drew ?_ | refine blk_alloc ?_ _)); exact BK614.out)) : gb614 ≠ gb615)); have n6_ := Aside0.mk ((by rw [hg]; exact Nat.ne_of_gt (blk_lt (g := gb614) (o := .cells #[.int .i64 a0_0, .int .i64 a0_1, .slice A0_2 l0_2.length c0_2] 24 (0, 0)) (by (with_reducible repeat (first | refine blk_drewN ?_ _ | refine blk_drew ?_ | refine blk_alloc ?_ _)); exact BK614.out)) : gb615 ≠ gb614)); clear BK614; clear HB; have BK614 := n0_; have HB := n1_; have BK615 := n2_; have GW615 := n3_; have GE615 := n4_; have NB614_615 := n5_; have NB615_614 := n6_; clear n0_ n1_ n2_ n3_ n4_ n5_ n6_; clear hb hbox hg))
        have n0_ := Aside0.mk (blk_drew BK614.out)
        have n1_ := Aside0.mk (blk_drew BK615.out)
        have n2_ := Aside0.mk (below_drew1 HB.out)
        clear BK614
        clear BK615
        clear HB
        have BK614 := n0_
        have BK615 := n1_
        have HB := n2_
        clear n0_ n1_ n2_
        refine start_ (n := 16) (S := fun w' => w'.cell? ⟨gb614, 0, none⟩ = some (.int .i64 a0_0) ∧ w'.cell? ⟨gb614, 1, none⟩ = some (.int .i64 a0_1) ∧ w'.cell? ⟨gb614, 2, none⟩ = some (.slice A0_2 l0_2.length c0_2) ∧ w'.cell? ⟨gb615, 0, none⟩ = some (.int .i64 a1_0) ∧ w'.cell? ⟨gb615, 1, none⟩ = some (.int .i64 a1_1) ∧ w'.cell? ⟨gb615, 2, none⟩ = some (.slice A1_2 l1_2.length c1_2)) (ds := []) Mk16_0_ (by kernel_rfl) rfl rfl ⟨(blk_cell BK614.out 0).trans rfl, (blk_cell BK614.out 1).trans rfl, (blk_cell BK614.out 2).trans rfl, (blk_cell BK615.out 0).trans rfl, (blk_cell BK615.out 1).trans rfl, (blk_cell BK615.out 2).trans rfl⟩ (fun hHeld => ?_); refine with_tabW parrylaw22_FormulaTexts.tab1 parrylaw22_FormulaTexts.bits1 (fun HT_ HW_ => ?_)
        generalize w80.drew = w81 at BK614 BK615 HB hHeld ⊢
        refine take_ (i := 0) (N := some 6) (v := ?_) (a' := ?_) Mk16_1_ rfl rfl (take_ofW HT_.out HW_.out (by kernel_rfl)) (fun _ _ _ h => h) (Or.inl ⟨by rfl, ?_⟩) hHeld ?_ ?_
        rotate_left
        ·rintro w' ⟨s0, s1, s2, s3, s4, s5⟩
         go_simp
         with_reducible rfl
        rotate_left
        ·simp only [Act.put, List.setIfInBounds_toArray, List.set_cons_zero, List.set_cons_succ, i64_w, i32_w]
         rfl
        refine take_ (i := 2) (N := some 8) (v := ?_) (a' := ?_) Mk16_2_ rfl rfl (take_ofW HT_.out HW_.out (by kernel_rfl)) (fun _ _ _ h => h) (Or.inl ⟨by rfl, ?_⟩) hHeld ?_ ?_
        rotate_left
        ·rintro w' ⟨s0, s1, s2, s3, s4, s5⟩
         go_simp
         with_reducible rfl
        rotate_left
        ·simp only [Act.put, List.setIfInBounds_toArray, List.set_cons_zero, List.set_cons_succ, i64_w, i32_w]
         rfl
        refine one_ (i := 1) (N := some 7) Mk16_3_ rfl rfl (one_of HT_.out (by kernel_rfl)) (by decide) (fun K hK => ?_)
        refine goes_ Tryd.func9 (by kernel_rfl) rfl #[.agg #[.int .i64 a0_0, .int .i64 a0_1, .slice A0_2 l0_2.length c0_2]] (by rfl) rfl rfl (by (try simp only [List.map_toArray, List.map_cons, List.map_nil]); first | done | rfl | (simp only [List.length_drop, List.length_take]; rfl)) ?_
        with_reducible refine (parrylaw22_Heavy.calls k a0_0 a0_1 _ _ l0_2 t616 _ ?side1 ?side2 A3.out).mono ?_
        (case side1 => repeat (first | exact (Kd.C_below HR0_2.out HB.out) | (with_reducible refine Kd.C_alloc ?_ _) | (with_reducible refine Kd.C_drewN ?_ _) | (with_reducible refine Kd.C_drew ?_)))
        (case side2 => exact HC0_2.out)
        rintro e w82 ⟨rfl, hb⟩
        refine ⟨_, rfl, ?_⟩
        have n0_ := Aside0.mk (blk_below (g := gb614) (o := .cells #[.int .i64 a0_0, .int .i64 a0_1, .slice A0_2 l0_2.length c0_2] 24 (0, 0)) (by (with_reducible repeat (first | refine blk_drewN ?_ _ | refine blk_drew ?_ | refine blk_alloc ?_ _)); exact BK614.out) hb)
        have n1_ := Aside0.mk (blk_below (g := gb615) (o := .cells #[.int .i64 a1_0, .int .i64 a1_1, .slice A1_2 l1_2.length c1_2] 24 (0, 0)) (by (with_reducible repeat (first | refine blk_drewN ?_ _ | refine blk_drew ?_ | refine blk_alloc ?_ _)); exact BK615.out) hb)
        have n2_ := Aside0.mk (below_step (by repeat (first | (with_reducible first | exact HB.out | apply below_alloc | apply pw_below_drewN | apply below_drew1 | refine below_set ?_ GE614.out | refine below_set ?_ GE615.out) | exact HB.out)) hb)
        clear BK614
        clear BK615
        clear HB
        have BK614 := n0_
        have BK615 := n1_
        have HB := n2_
        clear n0_ n1_ n2_
        (try clear hb)
        (try clear hb2)
        (try clear hk)
        (try clear hi)
        refine hK.out _ _ ⟨(blk_cell BK614.out 0).trans rfl, (blk_cell BK614.out 1).trans rfl, (blk_cell BK614.out 2).trans rfl, (blk_cell BK615.out 0).trans rfl, (blk_cell BK615.out 1).trans rfl, (blk_cell BK615.out 2).trans rfl⟩ (fun hHeld => ?_)
        clear hK K
        refine norm_ (a' := ?_) ?_ ?_
        rotate_left
        ·show Act.put _ (some 7) _ = _
         simp only [Act.put, List.setIfInBounds_toArray, List.set_cons_zero, List.set_cons_succ, i64_w, i32_w]
         rfl
        refine one_ (i := 3) (N := some 9) Mk16_4_ rfl rfl (one_of HT_.out (by kernel_rfl)) (by decide) (fun K hK => ?_)
        refine goes_ Tryd.func9 (by kernel_rfl) rfl #[.agg #[.int .i64 a1_0, .int .i64 a1_1, .slice A1_2 l1_2.length c1_2]] (by rfl) rfl rfl (by (try simp only [List.map_toArray, List.map_cons, List.map_nil]); first | done | rfl | (simp only [List.length_drop, List.length_take]; rfl)) ?_
        with_reducible refine (parrylaw22_Heavy.calls k a1_0 a1_1 _ _ l1_2 t617 _ ?side1 ?side2 A4.out).mono ?_
        (case side1 => repeat (first | exact (Kd.C_below HR1_2.out HB.out) | (with_reducible refine Kd.C_alloc ?_ _) | (with_reducible refine Kd.C_drewN ?_ _) | (with_reducible refine Kd.C_drew ?_)))
        (case side2 => exact HC1_2.out)
        rintro e w83 ⟨rfl, hb⟩
        refine ⟨_, rfl, ?_⟩
        have n0_ := Aside0.mk (blk_below (g := gb614) (o := .cells #[.int .i64 a0_0, .int .i64 a0_1, .slice A0_2 l0_2.length c0_2] 24 (0, 0)) (by (with_reducible repeat (first | refine blk_drewN ?_ _ | refine blk_drew ?_ | refine blk_alloc ?_ _)); exact BK614.out) hb)
        have n1_ := Aside0.mk (blk_below (g := gb615) (o := .cells #[.int .i64 a1_0, .int .i64 a1_1, .slice A1_2 l1_2.length c1_2] 24 (0, 0)) (by (with_reducible repeat (first | refine blk_drewN ?_ _ | refine blk_drew ?_ | refine blk_alloc ?_ _)); exact BK615.out) hb)
        have n2_ := Aside0.mk (below_step (by repeat (first | (with_reducible first | exact HB.out | apply below_alloc | apply pw_below_drewN | apply below_drew1 | refine below_set ?_ GE614.out | refine below_set ?_ GE615.out) | exact HB.out)) hb)
        clear BK614
        clear BK615
        clear HB
        have BK614 := n0_
        have BK615 := n1_
        have HB := n2_
        clear n0_ n1_ n2_
        (try clear hb)
        (try clear hb2)
        (try clear hk)
        (try clear hi)
        refine hK.out _ _ ⟨(blk_cell BK614.out 0).trans rfl, (blk_cell BK614.out 1).trans rfl, (blk_cell BK614.out 2).trans rfl, (blk_cell BK615.out 0).trans rfl, (blk_cell BK615.out 1).trans rfl, (blk_cell BK615.out 2).trans rfl⟩ (fun hHeld => ?_)
        clear hK K
        refine norm_ (a' := ?_) ?_ ?_
        rotate_left
        ·show Act.put _ (some 9) _ = _
         simp only [Act.put, List.setIfInBounds_toArray, List.set_cons_zero, List.set_cons_succ, i64_w, i32_w]
         rfl
        refine pure_ (i := 4) (N := some 10) (v := ?_) (a' := ?_) Mk16_5_ rfl rfl (any_of HT_.out (by kernel_rfl)) (fun _ _ _ h => h) (Or.inl ⟨by rfl, ?_⟩) ?_ ?_; rotate_left; intro w'; go_simp; with_reducible rfl; rotate_left; simp only [Act.put, List.setIfInBounds_toArray, List.set_cons_zero, List.set_cons_succ, i64_w, i32_w]; rfl
        refine pure_ (i := 5) (N := some 11) (v := ?_) (a' := ?_) Mk16_6_ rfl rfl (any_of HT_.out (by kernel_rfl)) (fun _ _ _ h => h) (Or.inl ⟨by rfl, ?_⟩) ?_ ?_; rotate_left; intro w'; go_simp; with_reducible rfl; rotate_left; simp only [Act.put, List.setIfInBounds_toArray, List.set_cons_zero, List.set_cons_succ, i64_w, i32_w]; rfl
        refine pure_ (i := 6) (N := some 12) (v := ?_) (a' := ?_) Mk16_7_ rfl rfl (any_of HT_.out (by kernel_rfl)) (fun _ _ _ h => h) (Or.inl ⟨by rfl, ?_⟩) ?_ ?_; rotate_left; intro w'; go_simp; with_reducible rfl; rotate_left; simp only [Act.put, List.setIfInBounds_toArray, List.set_cons_zero, List.set_cons_succ, i64_w, i32_w]; rfl
        refine take_ (i := 7) (N := some 13) (v := ?_) (a' := ?_) Mk16_8_ rfl rfl (take_ofW HT_.out HW_.out (by kernel_rfl)) (fun _ _ _ h => h) (Or.inl ⟨by rfl, ?_⟩) hHeld ?_ ?_
        rotate_left
        ·rintro w' ⟨s0, s1, s2, s3, s4, s5⟩
         go_simp
         with_reducible rfl
        rotate_left
        ·simp only [Act.put, List.setIfInBounds_toArray, List.set_cons_zero, List.set_cons_succ, i64_w, i32_w]
         rfl
        refine one_ (i := 8) (N := some 14) Mk16_9_ rfl rfl (one_of HT_.out (by kernel_rfl)) (by decide) (fun K hK => ?_)
        refine goes_ Tryd.func20 (by kernel_rfl) rfl #[.agg #[.int .i64 a0_0, .int .i64 a0_1, .slice A0_2 l0_2.length c0_2]] (by rfl) rfl rfl (by (try simp only [List.map_toArray, List.map_cons, List.map_nil]); first | done | rfl | (simp only [List.length_drop, List.length_take]; rfl)) ?_
        with_reducible refine (parryref22_May.calls k a0_0 a0_1 _ _ l0_2 t619 _ ?side1 ?side2 A13.out).mono ?_
        (case side1 => repeat (first | exact (Kd.C_below HR0_2.out HB.out) | (with_reducible refine Kd.C_alloc ?_ _) | (with_reducible refine Kd.C_drewN ?_ _) | (with_reducible refine Kd.C_drew ?_)))
        (case side2 => exact HC0_2.out)
        rintro e w84 ⟨rfl, hb⟩
        refine ⟨_, rfl, ?_⟩
        have n0_ := Aside0.mk (blk_below (g := gb614) (o := .cells #[.int .i64 a0_0, .int .i64 a0_1, .slice A0_2 l0_2.length c0_2] 24 (0, 0)) (by (with_reducible repeat (first | refine blk_drewN ?_ _ | refine blk_drew ?_ | refine blk_alloc ?_ _)); exact BK614.out) hb)
        have n1_ := Aside0.mk (blk_below (g := gb615) (o := .cells #[.int .i64 a1_0, .int .i64 a1_1, .slice A1_2 l1_2.length c1_2] 24 (0, 0)) (by (with_reducible repeat (first | refine blk_drewN ?_ _ | refine blk_drew ?_ | refine blk_alloc ?_ _)); exact BK615.out) hb)
        have n2_ := Aside0.mk (below_step (by repeat (first | (with_reducible first | exact HB.out | apply below_alloc | apply pw_below_drewN | apply below_drew1 | refine below_set ?_ GE614.out | refine below_set ?_ GE615.out) | exact HB.out)) hb)
        clear BK614
        clear BK615
        clear HB
        have BK614 := n0_
        have BK615 := n1_
        have HB := n2_
        clear n0_ n1_ n2_
        (try clear hb)
        (try clear hb2)
        (try clear hk)
        (try clear hi)
        refine hK.out _ _ ⟨(blk_cell BK614.out 0).trans rfl, (blk_cell BK614.out 1).trans rfl, (blk_cell BK614.out 2).trans rfl, (blk_cell BK615.out 0).trans rfl, (blk_cell BK615.out 1).trans rfl, (blk_cell BK615.out 2).trans rfl⟩ (fun hHeld => ?_)
        clear hK K
        refine norm_ (a' := ?_) ?_ ?_
        rotate_left
        ·show Act.put _ (some 14) _ = _
         simp only [Act.put, List.setIfInBounds_toArray, List.set_cons_zero, List.set_cons_succ, i64_w, i32_w]
         rfl
        refine pure_ (i := 9) (N := some 15) (v := ?_) (a' := ?_) Mk16_10_ rfl rfl (any_of HT_.out (by kernel_rfl)) (fun _ _ _ h => h) (Or.inl ⟨by rfl, ?_⟩) ?_ ?_; rotate_left; intro w'; go_simp; with_reducible rfl; rotate_left; simp only [Act.put, List.setIfInBounds_toArray, List.set_cons_zero, List.set_cons_succ, i64_w, i32_w]; rfl
        refine pure_ (i := 10) (N := some 16) (v := ?_) (a' := ?_) Mk16_11_ rfl rfl (any_of HT_.out (by kernel_rfl)) (fun _ _ _ h => h) (Or.inl ⟨by rfl, ?_⟩) ?_ ?_; rotate_left; intro w'; go_simp; with_reducible rfl; rotate_left; simp only [Act.put, List.setIfInBounds_toArray, List.set_cons_zero, List.set_cons_succ, i64_w, i32_w]; rfl
        refine pure_ (i := 11) (N := some 17) (v := ?_) (a' := ?_) Mk16_12_ rfl rfl (any_of HT_.out (by kernel_rfl)) (fun _ _ _ h => h) (Or.inl ⟨by rfl, ?_⟩) ?_ ?_; rotate_left; intro w'; go_simp; with_reducible rfl; rotate_left; simp only [Act.put, List.setIfInBounds_toArray, List.set_cons_zero, List.set_cons_succ, i64_w, i32_w]; rfl
        refine take_ (i := 12) (N := some 18) (v := ?_) (a' := ?_) Mk16_13_ rfl rfl (take_ofW HT_.out HW_.out (by kernel_rfl)) (fun _ _ _ h => h) (Or.inl ⟨by rfl, ?_⟩) hHeld ?_ ?_
        rotate_left
        ·rintro w' ⟨s0, s1, s2, s3, s4, s5⟩
         go_simp
         with_reducible rfl
        rotate_left
        ·simp only [Act.put, List.setIfInBounds_toArray, List.set_cons_zero, List.set_cons_succ, i64_w, i32_w]
         rfl
        refine one_ (i := 13) (N := some 19) Mk16_14_ rfl rfl (one_of HT_.out (by kernel_rfl)) (by decide) (fun K hK => ?_)
        refine goes_ Tryd.func20 (by kernel_rfl) rfl #[.agg #[.int .i64 a1_0, .int .i64 a1_1, .slice A1_2 l1_2.length c1_2]] (by rfl) rfl rfl (by (try simp only [List.map_toArray, List.map_cons, List.map_nil]); first | done | rfl | (simp only [List.length_drop, List.length_take]; rfl)) ?_
        with_reducible refine (parryref22_May.calls k a1_0 a1_1 _ _ l1_2 t620 _ ?side1 ?side2 A15.out).mono ?_
        (case side1 => repeat (first | exact (Kd.C_below HR1_2.out HB.out) | (with_reducible refine Kd.C_alloc ?_ _) | (with_reducible refine Kd.C_drewN ?_ _) | (with_reducible refine Kd.C_drew ?_)))
        (case side2 => exact HC1_2.out)
        rintro e w85 ⟨rfl, hb⟩
        refine ⟨_, rfl, ?_⟩
        have n0_ := Aside0.mk (blk_below (g := gb614) (o := .cells #[.int .i64 a0_0, .int .i64 a0_1, .slice A0_2 l0_2.length c0_2] 24 (0, 0)) (by (with_reducible repeat (first | refine blk_drewN ?_ _ | refine blk_drew ?_ | refine blk_alloc ?_ _)); exact BK614.out) hb)
        have n1_ := Aside0.mk (blk_below (g := gb615) (o := .cells #[.int .i64 a1_0, .int .i64 a1_1, .slice A1_2 l1_2.length c1_2] 24 (0, 0)) (by (with_reducible repeat (first | refine blk_drewN ?_ _ | refine blk_drew ?_ | refine blk_alloc ?_ _)); exact BK615.out) hb)
        have n2_ := Aside0.mk (below_step (by repeat (first | (with_reducible first | exact HB.out | apply below_alloc | apply pw_below_drewN | apply below_drew1 | refine below_set ?_ GE614.out | refine below_set ?_ GE615.out) | exact HB.out)) hb)
        clear BK614
        clear BK615
        clear HB
        have BK614 := n0_
        have BK615 := n1_
        have HB := n2_
        clear n0_ n1_ n2_
        (try clear hb)
        (try clear hb2)
        (try clear hk)
        (try clear hi)
        refine hK.out _ _ ⟨(blk_cell BK614.out 0).trans rfl, (blk_cell BK614.out 1).trans rfl, (blk_cell BK614.out 2).trans rfl, (blk_cell BK615.out 0).trans rfl, (blk_cell BK615.out 1).trans rfl, (blk_cell BK615.out 2).trans rfl⟩ (fun hHeld => ?_)
        clear hK K
        refine norm_ (a' := ?_) ?_ ?_
        rotate_left
        ·show Act.put _ (some 19) _ = _
         simp only [Act.put, List.setIfInBounds_toArray, List.set_cons_zero, List.set_cons_succ, i64_w, i32_w]
         rfl
        refine pure_ (i := 14) (N := some 20) (v := ?_) (a' := ?_) Mk16_15_ rfl rfl (any_of HT_.out (by kernel_rfl)) (fun _ _ _ h => h) (Or.inl ⟨by rfl, ?_⟩) ?_ ?_; rotate_left; intro w'; go_simp; with_reducible rfl; rotate_left; simp only [Act.put, List.setIfInBounds_toArray, List.set_cons_zero, List.set_cons_succ, i64_w, i32_w]; rfl
        refine pure_ (i := 15) (N := some 21) (v := ?_) (a' := ?_) Mk16_16_ rfl rfl (any_of HT_.out (by kernel_rfl)) (fun _ _ _ h => h) (Or.inl ⟨by rfl, ?_⟩) ?_ ?_; rotate_left; intro w'; go_simp; with_reducible rfl; rotate_left; simp only [Act.put, List.setIfInBounds_toArray, List.set_cons_zero, List.set_cons_succ, i64_w, i32_w]; rfl
        refine done_ (done_of HT_.out (by kernel_rfl)) ?_
        have hnb86 := NB614_615.out
        have hnc86 := NB615_614.out
        have hcz87_0 : w85.cell? ⟨gb614, 0, none⟩ = some (.int .i64 a0_0) := (blk_cell BK614.out 0).trans rfl
        have hcz87_1 : w85.cell? ⟨gb614, 1, none⟩ = some (.int .i64 a0_1) := (blk_cell BK614.out 1).trans rfl
        have hcz87_2 : w85.cell? ⟨gb614, 2, none⟩ = some (.slice A0_2 l0_2.length c0_2) := (blk_cell BK614.out 2).trans rfl
        have hfz87_0 := blk_frozen BK614.out 0
        have hfz87_1 := blk_frozen BK614.out 1
        have hfz87_2 := blk_frozen BK614.out 2
        try go_wp2_with (first | ((with_reducible refine gate_callee (f := 28) rfl ?_); refine goesL_ (some 24) rfl rfl Tryd.func28 (by kernel_rfl) rfl #[.agg #[.int .i64 a0_0, .int .i64 a0_1, .slice A0_2 l0_2.length c0_2]] rfl (by (try simp only [List.map_toArray, List.map_cons, List.map_nil]); first | done | rfl | (simp only [List.length_drop, List.length_take]; rfl)) ?_; (with_reducible refine (formula_Not.calls k a0_0 a0_1 _ _ l0_2 t621 t622 t623 _ ?side1 ?side2 A17.out).mono ?_); (case side1 => repeat (first | exact (Kd.C_below HR0_2.out HB.out) | (with_reducible refine Kd.C_alloc ?_ _) | (with_reducible refine Kd.C_drewN ?_ _) | (with_reducible refine Kd.C_drew ?_))); (case side2 => exact HC0_2.out); rintro e w88 ⟨v624, rfl, ho0, hb⟩; refine ⟨_, rfl, ?_⟩; have n0_ := Aside0.mk (Kd.N_lower (Kd.N_mono (ok' := fun k_ => k_ ≠ gb614 ∧ k_ ≠ gb615) ho0 (fun k_ hk_ => ⟨(Kd.freshB (g := gb614) (o := .cells #[.int .i64 a0_0, .int .i64 a0_1, .slice A0_2 l0_2.length c0_2] 24 (0, 0)) (by (with_reducible repeat (first | refine blk_drewN ?_ _ | refine blk_drew ?_ | refine blk_alloc ?_ _)); exact BK614.out) k_ hk_), (Kd.freshB (g := gb615) (o := .cells #[.int .i64 a1_0, .int .i64 a1_1, .slice A1_2 l1_2.length c1_2] 24 (0, 0)) (by (with_reducible repeat (first | refine blk_drewN ?_ _ | refine blk_drew ?_ | refine blk_alloc ?_ _)); exact BK615.out) k_ hk_)⟩)) (below_size (by repeat (first | (with_reducible first | exact HB.out | apply below_alloc | apply pw_below_drewN | apply below_drew1 | refine below_set ?_ GE614.out | refine below_set ?_ GE615.out) | exact HB.out)))); have n1_ := Aside0.mk (blk_below (g := gb614) (o := .cells #[.int .i64 a0_0, .int .i64 a0_1, .slice A0_2 l0_2.length c0_2] 24 (0, 0)) (by (with_reducible repeat (first | refine blk_drewN ?_ _ | refine blk_drew ?_ | refine blk_alloc ?_ _)); exact BK614.out) hb); have n2_ := Aside0.mk (blk_below (g := gb615) (o := .cells #[.int .i64 a1_0, .int .i64 a1_1, .slice A1_2 l1_2.length c1_2] 24 (0, 0)) (by (with_reducible repeat (first | refine blk_drewN ?_ _ | refine blk_drew ?_ | refine blk_alloc ?_ _)); exact BK615.out) hb); have n3_ := Aside0.mk (below_step (by repeat (first | (with_reducible first | exact HB.out | apply below_alloc | apply pw_below_drewN | apply below_drew1 | refine below_set ?_ GE614.out | refine below_set ?_ GE615.out) | exact HB.out)) hb); clear BK614; clear BK615; clear HB; have HO625 := n0_; have BK614 := n1_; have BK615 := n2_; have HB := n3_; clear n0_ n1_ n2_ n3_; (try clear hb); (try clear hb2); (try clear hk); (try clear hi); (try clear ho0); obtain ⟨Ao89, co89, eo89⟩ := Kd.N_slice HO625.out; subst eo89) | ((with_reducible refine gate_callee (f := 28) rfl ?_); refine goesL_ (some 25) rfl rfl Tryd.func28 (by kernel_rfl) rfl #[.agg #[.int .i64 t621, .int .i64 t622, .slice Ao89 t623.length co89]] rfl (by (try simp only [List.map_toArray, List.map_cons, List.map_nil]); first | done | rfl | (simp only [List.length_drop, List.length_take]; rfl)) ?_; (with_reducible refine (formula_Not.calls k t621 t622 _ _ t623 t626 t627 t628 _ ?side1 ?side2 A18.out).mono ?_); (case side1 => repeat (first | exact (Kd.N_reads' HO625.out).2.2 | (with_reducible refine Kd.C_alloc ?_ _) | (with_reducible refine Kd.C_drewN ?_ _) | (with_reducible refine Kd.C_drew ?_))); (case side2 => exact (Kd.N_reads' HO625.out).2.1); rintro e w90 ⟨v629, rfl, ho0, hb⟩; refine ⟨_, rfl, ?_⟩; have n0_ := Aside0.mk (Kd.N_elder' (by (with_reducible repeat (first | apply Kd.N_alloc | apply Kd.N_drewN | apply Kd.N_drew)); exact HO625.out) (Kd.N_base ho0) hb); have n1_ := Aside0.mk (Kd.N_lower (Kd.N_mono (ok' := fun k_ => some k_ ≠ (.slice Ao89 t623.length co89 : Value).ownBlock ∧ k_ ≠ gb614 ∧ k_ ≠ gb615) ho0 (fun k_ hk_ => ⟨(Kd.fresh' (Kd.N_lt (by (with_reducible repeat (first | apply Kd.N_alloc | apply Kd.N_drewN | apply Kd.N_drew)); exact HO625.out)) k_ hk_), (Kd.freshB (g := gb614) (o := .cells #[.int .i64 a0_0, .int .i64 a0_1, .slice A0_2 l0_2.length c0_2] 24 (0, 0)) (by (with_reducible repeat (first | refine blk_drewN ?_ _ | refine blk_drew ?_ | refine blk_alloc ?_ _)); exact BK614.out) k_ hk_), (Kd.freshB (g := gb615) (o := .cells #[.int .i64 a1_0, .int .i64 a1_1, .slice A1_2 l1_2.length c1_2] 24 (0, 0)) (by (with_reducible repeat (first | refine blk_drewN ?_ _ | refine blk_drew ?_ | refine blk_alloc ?_ _)); exact BK615.out) k_ hk_)⟩)) (below_size (by repeat (first | (with_reducible first | exact HB.out | apply below_alloc | apply pw_below_drewN | apply below_drew1 | refine below_set ?_ GE614.out | refine below_set ?_ GE615.out) | exact HB.out)))); have n2_ := Aside0.mk (blk_below (g := gb614) (o := .cells #[.int .i64 a0_0, .int .i64 a0_1, .slice A0_2 l0_2.length c0_2] 24 (0, 0)) (by (with_reducible repeat (first | refine blk_drewN ?_ _ | refine blk_drew ?_ | refine blk_alloc ?_ _)); exact BK614.out) hb); have n3_ := Aside0.mk (blk_below (g := gb615) (o := .cells #[.int .i64 a1_0, .int .i64 a1_1, .slice A1_2 l1_2.length c1_2] 24 (0, 0)) (by (with_reducible repeat (first | refine blk_drewN ?_ _ | refine blk_drew ?_ | refine blk_alloc ?_ _)); exact BK615.out) hb); have n4_ := Aside0.mk (below_step (by repeat (first | (with_reducible first | exact HB.out | apply below_alloc | apply pw_below_drewN | apply below_drew1 | refine below_set ?_ GE614.out | refine below_set ?_ GE615.out) | exact HB.out)) hb); clear HO625; clear BK614; clear BK615; clear HB; have HO625 := n0_; have HO630 := n1_; have BK614 := n2_; have BK615 := n3_; have HB := n4_; clear n0_ n1_ n2_ n3_ n4_; (try clear hb); (try clear hb2); (try clear hk); (try clear hi); (try clear ho0)) | ((with_reducible refine gate_dst (N := 5) rfl ?_); refine box_event ?hg (N := 5) ?hd (cs := #[.int .i64 0, .int .i64 0, .slice none 0 0]) (t := 24) ?hr ?_; (case hd => rfl); (case hg => rfl); (case hr => first | (go_simp; done) | (go_simp; rfl)); intro gb631 hg w91 hbox hb; have n0_ := Aside0.mk (Kd.N_below (Kd.N_elderB (by (with_reducible repeat (first | apply Kd.N_alloc | apply Kd.N_drewN | apply Kd.N_drew)); exact HO625.out) gb631 (Nat.le_of_eq hg.symm)) hb); have n1_ := Aside0.mk (Kd.N_below (Kd.N_elderB (by (with_reducible repeat (first | apply Kd.N_alloc | apply Kd.N_drewN | apply Kd.N_drew)); exact HO630.out) gb631 (Nat.le_of_eq hg.symm)) hb); have n2_ := Aside0.mk (blk_below (g := gb614) (o := .cells #[.int .i64 a0_0, .int .i64 a0_1, .slice A0_2 l0_2.length c0_2] 24 (0, 0)) (by (with_reducible repeat (first | refine blk_drewN ?_ _ | refine blk_drew ?_ | refine blk_alloc ?_ _)); exact BK614.out) hb); have n3_ := Aside0.mk (blk_below (g := gb615) (o := .cells #[.int .i64 a1_0, .int .i64 a1_1, .slice A1_2 l1_2.length c1_2] 24 (0, 0)) (by (with_reducible repeat (first | refine blk_drewN ?_ _ | refine blk_drew ?_ | refine blk_alloc ?_ _)); exact BK615.out) hb); have n4_ := Aside0.mk (below_step (by repeat (first | (with_reducible first | exact HB.out | apply below_alloc | apply pw_below_drewN | apply below_drew1 | refine below_set ?_ GE614.out | refine below_set ?_ GE615.out) | exact HB.out)) hb); have n5_ := Aside0.mk (hbox); have n6_ := Aside0.mk ((by rw [hg]; exact (below_size (by repeat (first | (with_reducible first | exact HB.out | apply below_alloc | apply pw_below_drewN | apply below_drew1 | refine below_set ?_ GE614.out | refine below_set ?_ GE615.out) | exact HB.out))) : w.heap.size ≤ gb631)); have n7_ := Aside0.mk ((by rw [hg]; exact (below_size (by repeat (first | (with_reducible first | exact HB.out | apply below_alloc | apply pw_below_drewN | apply below_drew1 | refine below_set ?_ GE614.out | refine below_set ?_ GE615.out) | exact HB.out))) : w.heap.size ≤ gb631)); have n8_ := Aside0.mk ((by rw [hg]; exact Nat.ne_of_lt (blk_lt (g := gb614) (o := .cells #[.int .i64 a0_0, .int .i64 a0_1, .slice A0_2 l0_2.length c0_2] 24 (0, 0)) (by (with_reducible repeat (first | refine blk_drewN ?_ _ | refine blk_drew ?_ | refine blk_alloc ?_ _)); exact BK614.out)) : gb614 ≠ gb631)); have n9_ := Aside0.mk ((by rw [hg]; exact Nat.ne_of_gt (blk_lt (g := gb614) (o := .cells #[.int .i64 a0_0, .int .i64 a0_1, .slice A0_2 l0_2.length c0_2] 24 (0, 0)) (by (with_reducible repeat (first | refine blk_drewN ?_ _ | refine blk_drew ?_ | refine blk_alloc ?_ _)); exact BK614.out)) : gb631 ≠ gb614)); have n10_ := Aside0.mk ((by rw [hg]; exact Nat.ne_of_lt (blk_lt (g := gb615) (o := .cells #[.int .i64 a1_0, .int .i64 a1_1, .slice A1_2 l1_2.length c1_2] 24 (0, 0)) (by (with_reducible repeat (first | refine blk_drewN ?_ _ | refine blk_drew ?_ | refine blk_alloc ?_ _)); exact BK615.out)) : gb615 ≠ gb631)); have n11_ := Aside0.mk ((by rw [hg]; exact Nat.ne_of_gt (blk_lt (g := gb615) (o := .cells #[.int .i64 a1_0, .int .i64 a1_1, .slice A1_2 l1_2.length c1_2] 24 (0, 0)) (by (with_reducible repeat (first | refine blk_drewN ?_ _ | refine blk_drew ?_ | refine blk_alloc ?_ _)); exact BK615.out)) : gb631 ≠ gb615)); clear HO625; clear HO630; clear BK614; clear BK615; clear HB; have HO625 := n0_; have HO630 := n1_; have BK614 := n2_; have BK615 := n3_; have HB := n4_; have BK631 := n5_; have GW631 := n6_; have GE631 := n7_; have NB614_631 := n8_; have NB631_614 := n9_; have NB615_631 := n10_; have NB631_615 := n11_; clear n0_ n1_ n2_ n3_ n4_ n5_ n6_ n7_ n8_ n9_ n10_ n11_; clear hb hbox hg; have hnb92 := NB631_614.out; have hnc92 := NB614_631.out; have hnb93 := NB631_615.out; have hnc93 := NB615_631.out; have hcz94_0 : w91.cell? ⟨gb631, 0, none⟩ = some (.int .i64 0) := (blk_cell BK631.out 0).trans rfl; have hcz94_1 : w91.cell? ⟨gb631, 1, none⟩ = some (.int .i64 0) := (blk_cell BK631.out 1).trans rfl; have hcz94_2 : w91.cell? ⟨gb631, 2, none⟩ = some (.slice none 0 0) := (blk_cell BK631.out 2).trans rfl; have hfz94_0 := blk_frozen BK631.out 0; have hfz94_1 := blk_frozen BK631.out 1; have hfz94_2 := blk_frozen BK631.out 2; obtain ⟨Ao95, co95, eo95⟩ := Kd.N_slice HO630.out; subst eo95))
        have n0_ : Aside0 (Kd.N k24 24 (((w91.setCell ⟨gb631, 0, none⟩ (.int .i64 t626)).setCell ⟨gb631, 1, none⟩ (.int .i64 t627)).setCell ⟨gb631, 2, none⟩ (.slice Ao95 t628.length co95)) w.heap.size (fun k_ => some k_ ≠ (.slice Ao95 t628.length co95 : Value).ownBlock ∧ k_ ≠ gb614 ∧ k_ ≠ gb615 ∧ k_ ≠ gb631) (.slice Ao89 t623.length co89) t623) := ⟨by (with_reducible repeat (first | apply Kd.N_alloc | apply Kd.N_drewN | apply Kd.N_drew)); exact Kd.N_mono (Kd.N_far (p := ⟨gb631, 2, none⟩) (Kd.N_far (p := ⟨gb631, 1, none⟩) (Kd.N_far (p := ⟨gb631, 0, none⟩) (Kd.N_mono HO625.out (fun k_ hk => (⟨hk, hk.2⟩ : _ ∧ k_ ≠ gb631))) (fun _ hk => hk.2) (.int .i64 t626)) (fun _ hk => hk.2) (.int .i64 t627)) (fun _ hk => hk.2) (.slice Ao95 t628.length co95)) (fun _ hk => ⟨hk.1.1.2, ⟨hk.1.1.1.1, ⟨hk.1.1.1.2, hk.1.2⟩⟩⟩)⟩
        have n1_ : Aside0 (Kd.N k24 24 (((w91.setCell ⟨gb631, 0, none⟩ (.int .i64 t626)).setCell ⟨gb631, 1, none⟩ (.int .i64 t627)).setCell ⟨gb631, 2, none⟩ (.slice Ao95 t628.length co95)) w.heap.size (fun k_ => some k_ ≠ (.slice Ao89 t623.length co89 : Value).ownBlock ∧ k_ ≠ gb614 ∧ k_ ≠ gb615 ∧ k_ ≠ gb631) (.slice Ao95 t628.length co95) t628) := ⟨by (with_reducible repeat (first | apply Kd.N_alloc | apply Kd.N_drewN | apply Kd.N_drew)); exact Kd.N_mono (Kd.N_far (p := ⟨gb631, 2, none⟩) (Kd.N_far (p := ⟨gb631, 1, none⟩) (Kd.N_far (p := ⟨gb631, 0, none⟩) (Kd.N_mono HO630.out (fun k_ hk => (⟨hk, hk.2⟩ : _ ∧ k_ ≠ gb631))) (fun _ hk => hk.2) (.int .i64 t626)) (fun _ hk => hk.2) (.int .i64 t627)) (fun _ hk => hk.2) (.slice Ao95 t628.length co95)) (fun _ hk => ⟨hk.1.1.1, ⟨hk.1.1.2.1, ⟨hk.1.1.2.2, hk.1.2⟩⟩⟩)⟩
        have n2_ : Aside0 ((((w91.setCell ⟨gb631, 0, none⟩ (.int .i64 t626)).setCell ⟨gb631, 1, none⟩ (.int .i64 t627)).setCell ⟨gb631, 2, none⟩ (.slice Ao95 t628.length co95)).heap[gb614]? = some (.cells #[.int .i64 a0_0, .int .i64 a0_1, .slice A0_2 l0_2.length c0_2] 24 (0, 0))) := ⟨by (with_reducible repeat (first | refine blk_drewN ?_ _ | refine blk_drew ?_ | refine blk_alloc ?_ _)); refine blk_far ?_ NB614_631.out _; (with_reducible repeat (first | refine blk_drewN ?_ _ | refine blk_drew ?_ | refine blk_alloc ?_ _)); refine blk_far ?_ NB614_631.out _; (with_reducible repeat (first | refine blk_drewN ?_ _ | refine blk_drew ?_ | refine blk_alloc ?_ _)); refine blk_far ?_ NB614_631.out _; (with_reducible repeat (first | refine blk_drewN ?_ _ | refine blk_drew ?_ | refine blk_alloc ?_ _)); exact BK614.out⟩
        have n3_ : Aside0 ((((w91.setCell ⟨gb631, 0, none⟩ (.int .i64 t626)).setCell ⟨gb631, 1, none⟩ (.int .i64 t627)).setCell ⟨gb631, 2, none⟩ (.slice Ao95 t628.length co95)).heap[gb615]? = some (.cells #[.int .i64 a1_0, .int .i64 a1_1, .slice A1_2 l1_2.length c1_2] 24 (0, 0))) := ⟨by (with_reducible repeat (first | refine blk_drewN ?_ _ | refine blk_drew ?_ | refine blk_alloc ?_ _)); refine blk_far ?_ NB615_631.out _; (with_reducible repeat (first | refine blk_drewN ?_ _ | refine blk_drew ?_ | refine blk_alloc ?_ _)); refine blk_far ?_ NB615_631.out _; (with_reducible repeat (first | refine blk_drewN ?_ _ | refine blk_drew ?_ | refine blk_alloc ?_ _)); refine blk_far ?_ NB615_631.out _; (with_reducible repeat (first | refine blk_drewN ?_ _ | refine blk_drew ?_ | refine blk_alloc ?_ _)); exact BK615.out⟩
        have n4_ : Aside0 ((((w91.setCell ⟨gb631, 0, none⟩ (.int .i64 t626)).setCell ⟨gb631, 1, none⟩ (.int .i64 t627)).setCell ⟨gb631, 2, none⟩ (.slice Ao95 t628.length co95)).heap[gb631]? = some (.cells #[.int .i64 t626, .int .i64 t627, .slice Ao95 t628.length co95] 24 (0, 0))) := ⟨by (with_reducible repeat (first | refine blk_drewN ?_ _ | refine blk_drew ?_ | refine blk_alloc ?_ _)); refine blk_put (cs := #[.int .i64 t626, .int .i64 t627, .slice none 0 0]) ?_ 2 _ rfl; (with_reducible repeat (first | refine blk_drewN ?_ _ | refine blk_drew ?_ | refine blk_alloc ?_ _)); refine blk_put (cs := #[.int .i64 t626, .int .i64 0, .slice none 0 0]) ?_ 1 _ rfl; (with_reducible repeat (first | refine blk_drewN ?_ _ | refine blk_drew ?_ | refine blk_alloc ?_ _)); refine blk_put (cs := #[.int .i64 0, .int .i64 0, .slice none 0 0]) ?_ 0 _ rfl; (with_reducible repeat (first | refine blk_drewN ?_ _ | refine blk_drew ?_ | refine blk_alloc ?_ _)); exact BK631.out⟩
        have n5_ : Aside0 (Below w.heap.size w (((w91.setCell ⟨gb631, 0, none⟩ (.int .i64 t626)).setCell ⟨gb631, 1, none⟩ (.int .i64 t627)).setCell ⟨gb631, 2, none⟩ (.slice Ao95 t628.length co95))) := ⟨by repeat (first | (with_reducible first | exact HB.out | apply below_alloc | apply pw_below_drewN | apply below_drew1 | refine below_set ?_ GE614.out | refine below_set ?_ GE615.out | refine below_set ?_ GE631.out) | exact HB.out)⟩
        (try clear HO625)
        (try clear HO630)
        (try clear BK614)
        (try clear BK615)
        (try clear BK631)
        (try clear HB)
        generalize (((w91.setCell ⟨gb631, 0, none⟩ (.int .i64 t626)).setCell ⟨gb631, 1, none⟩ (.int .i64 t627)).setCell ⟨gb631, 2, none⟩ (.slice Ao95 t628.length co95)) = w96 at n0_ n1_ n2_ n3_ n4_ n5_ ⊢
        have HO625 := n0_
        have HO630 := n1_
        have BK614 := n2_
        have BK615 := n3_
        have BK631 := n4_
        have HB := n5_
        clear n0_ n1_ n2_ n3_ n4_ n5_
        have n0_ := Aside0.mk (Kd.N_drew HO625.out)
        have n1_ := Aside0.mk (Kd.N_drew HO630.out)
        have n2_ := Aside0.mk (blk_drew BK614.out)
        have n3_ := Aside0.mk (blk_drew BK615.out)
        have n4_ := Aside0.mk (blk_drew BK631.out)
        have n5_ := Aside0.mk (below_drew1 HB.out)
        clear HO625
        clear HO630
        clear BK614
        clear BK615
        clear BK631
        clear HB
        have HO625 := n0_
        have HO630 := n1_
        have BK614 := n2_
        have BK615 := n3_
        have BK631 := n4_
        have HB := n5_
        clear n0_ n1_ n2_ n3_ n4_ n5_
        refine start_ (n := 29) (S := fun w' => w'.cell? ⟨gb614, 0, none⟩ = some (.int .i64 a0_0) ∧ w'.cell? ⟨gb614, 1, none⟩ = some (.int .i64 a0_1) ∧ w'.cell? ⟨gb614, 2, none⟩ = some (.slice A0_2 l0_2.length c0_2) ∧ w'.cell? ⟨gb615, 0, none⟩ = some (.int .i64 a1_0) ∧ w'.cell? ⟨gb615, 1, none⟩ = some (.int .i64 a1_1) ∧ w'.cell? ⟨gb615, 2, none⟩ = some (.slice A1_2 l1_2.length c1_2) ∧ w'.cell? ⟨gb631, 0, none⟩ = some (.int .i64 t626) ∧ w'.cell? ⟨gb631, 1, none⟩ = some (.int .i64 t627) ∧ w'.cell? ⟨gb631, 2, none⟩ = some (.slice Ao95 t628.length co95)) (ds := []) Mk29_17_ (by kernel_rfl) rfl rfl ⟨(blk_cell BK614.out 0).trans rfl, (blk_cell BK614.out 1).trans rfl, (blk_cell BK614.out 2).trans rfl, (blk_cell BK615.out 0).trans rfl, (blk_cell BK615.out 1).trans rfl, (blk_cell BK615.out 2).trans rfl, (blk_cell BK631.out 0).trans rfl, (blk_cell BK631.out 1).trans rfl, (blk_cell BK631.out 2).trans rfl⟩ (fun hHeld => ?_); refine with_tabW parrylaw22_FormulaTexts.tab4 parrylaw22_FormulaTexts.bits4 (fun HT_ HW_ => ?_)
        generalize w96.drew = w97 at HO625 HO630 BK614 BK615 BK631 HB hHeld ⊢
        refine take_ (i := 0) (N := some 26) (v := ?_) (a' := ?_) Mk29_18_ rfl rfl (take_ofW HT_.out HW_.out (by kernel_rfl)) (fun _ _ _ h => h) (Or.inl ⟨by rfl, ?_⟩) hHeld ?_ ?_
        rotate_left
        ·rintro w' ⟨s0, s1, s2, s3, s4, s5, s6, s7, s8⟩
         go_simp
         with_reducible rfl
        rotate_left
        ·simp only [Act.put, List.setIfInBounds_toArray, List.set_cons_zero, List.set_cons_succ, i64_w, i32_w]
         rfl
        refine take_ (i := 2) (N := some 28) (v := ?_) (a' := ?_) Mk29_19_ rfl rfl (take_ofW HT_.out HW_.out (by kernel_rfl)) (fun _ _ _ h => h) (Or.inl ⟨by rfl, ?_⟩) hHeld ?_ ?_
        rotate_left
        ·rintro w' ⟨s0, s1, s2, s3, s4, s5, s6, s7, s8⟩
         go_simp
         with_reducible rfl
        rotate_left
        ·simp only [Act.put, List.setIfInBounds_toArray, List.set_cons_zero, List.set_cons_succ, i64_w, i32_w]
         rfl
        refine take_ (i := 5) (N := some 31) (v := ?_) (a' := ?_) Mk29_20_ rfl rfl (take_ofW HT_.out HW_.out (by kernel_rfl)) (fun _ _ _ h => h) (Or.inl ⟨by rfl, ?_⟩) hHeld ?_ ?_
        rotate_left
        ·rintro w' ⟨s0, s1, s2, s3, s4, s5, s6, s7, s8⟩
         go_simp
         with_reducible rfl
        rotate_left
        ·simp only [Act.put, List.setIfInBounds_toArray, List.set_cons_zero, List.set_cons_succ, i64_w, i32_w]
         rfl
        refine take_ (i := 6) (N := some 32) (v := ?_) (a' := ?_) Mk29_21_ rfl rfl (take_ofW HT_.out HW_.out (by kernel_rfl)) (fun _ _ _ h => h) (Or.inl ⟨by rfl, ?_⟩) hHeld ?_ ?_
        rotate_left
        ·rintro w' ⟨s0, s1, s2, s3, s4, s5, s6, s7, s8⟩
         go_simp
         with_reducible rfl
        rotate_left
        ·simp only [Act.put, List.setIfInBounds_toArray, List.set_cons_zero, List.set_cons_succ, i64_w, i32_w]
         rfl
        refine one_ (i := 1) (N := some 27) Mk29_22_ rfl rfl (one_of HT_.out (by kernel_rfl)) (by decide) (fun K hK => ?_)
        refine goes_ Tryd.func26 (by kernel_rfl) rfl #[.agg #[.int .i64 a0_0, .int .i64 a0_1, .slice A0_2 l0_2.length c0_2]] (by rfl) rfl rfl (by (try simp only [List.map_toArray, List.map_cons, List.map_nil]); first | done | rfl | (simp only [List.length_drop, List.length_take]; rfl)) ?_
        with_reducible refine (formula_Text.calls a0_0 a0_1 _ _ l0_2 t632 _ ?side1 ?side2 A19.out).mono ?_
        (case side1 => repeat (first | exact (Kd.C_below HR0_2.out HB.out) | (with_reducible refine Kd.C_alloc ?_ _) | (with_reducible refine Kd.C_drewN ?_ _) | (with_reducible refine Kd.C_drew ?_)))
        (case side2 => exact HC0_2.out)
        rintro e w98 ⟨rfl, hb⟩
        refine ⟨_, rfl, ?_⟩
        have n0_ := Aside0.mk (Kd.N_below (by (with_reducible repeat (first | apply Kd.N_alloc | apply Kd.N_drewN | apply Kd.N_drew)); exact HO625.out) hb)
        have n1_ := Aside0.mk (Kd.N_below (by (with_reducible repeat (first | apply Kd.N_alloc | apply Kd.N_drewN | apply Kd.N_drew)); exact HO630.out) hb)
        have n2_ := Aside0.mk (blk_below (g := gb614) (o := .cells #[.int .i64 a0_0, .int .i64 a0_1, .slice A0_2 l0_2.length c0_2] 24 (0, 0)) (by (with_reducible repeat (first | refine blk_drewN ?_ _ | refine blk_drew ?_ | refine blk_alloc ?_ _)); exact BK614.out) hb)
        have n3_ := Aside0.mk (blk_below (g := gb615) (o := .cells #[.int .i64 a1_0, .int .i64 a1_1, .slice A1_2 l1_2.length c1_2] 24 (0, 0)) (by (with_reducible repeat (first | refine blk_drewN ?_ _ | refine blk_drew ?_ | refine blk_alloc ?_ _)); exact BK615.out) hb)
        have n4_ := Aside0.mk (blk_below (g := gb631) (o := .cells #[.int .i64 t626, .int .i64 t627, .slice Ao95 t628.length co95] 24 (0, 0)) (by (with_reducible repeat (first | refine blk_drewN ?_ _ | refine blk_drew ?_ | refine blk_alloc ?_ _)); exact BK631.out) hb)
        have n5_ := Aside0.mk (below_step (by repeat (first | (with_reducible first | exact HB.out | apply below_alloc | apply pw_below_drewN | apply below_drew1 | refine below_set ?_ GE614.out | refine below_set ?_ GE615.out | refine below_set ?_ GE631.out) | exact HB.out)) hb)
        clear HO625
        clear HO630
        clear BK614
        clear BK615
        clear BK631
        clear HB
        have HO625 := n0_
        have HO630 := n1_
        have BK614 := n2_
        have BK615 := n3_
        have BK631 := n4_
        have HB := n5_
        clear n0_ n1_ n2_ n3_ n4_ n5_
        (try clear hb)
        (try clear hb2)
        (try clear hk)
        (try clear hi)
        refine hK.out _ _ ⟨(blk_cell BK614.out 0).trans rfl, (blk_cell BK614.out 1).trans rfl, (blk_cell BK614.out 2).trans rfl, (blk_cell BK615.out 0).trans rfl, (blk_cell BK615.out 1).trans rfl, (blk_cell BK615.out 2).trans rfl, (blk_cell BK631.out 0).trans rfl, (blk_cell BK631.out 1).trans rfl, (blk_cell BK631.out 2).trans rfl⟩ (fun hHeld => ?_)
        clear hK K
        refine norm_ (a' := ?_) ?_ ?_
        rotate_left
        ·show Act.put _ (some 27) _ = _
         simp only [Act.put, List.setIfInBounds_toArray, List.set_cons_zero, List.set_cons_succ, i64_w, i32_w]
         rfl
        refine one_ (i := 3) (N := some 29) Mk29_23_ rfl rfl (one_of HT_.out (by kernel_rfl)) (by decide) (fun K hK => ?_)
        refine goes_ Tryd.func26 (by kernel_rfl) rfl #[.agg #[.int .i64 a1_0, .int .i64 a1_1, .slice A1_2 l1_2.length c1_2]] (by rfl) rfl rfl (by (try simp only [List.map_toArray, List.map_cons, List.map_nil]); first | done | rfl | (simp only [List.length_drop, List.length_take]; rfl)) ?_
        with_reducible refine (formula_Text.calls a1_0 a1_1 _ _ l1_2 t633 _ ?side1 ?side2 A20.out).mono ?_
        (case side1 => repeat (first | exact (Kd.C_below HR1_2.out HB.out) | (with_reducible refine Kd.C_alloc ?_ _) | (with_reducible refine Kd.C_drewN ?_ _) | (with_reducible refine Kd.C_drew ?_)))
        (case side2 => exact HC1_2.out)
        rintro e w99 ⟨rfl, hb⟩
        refine ⟨_, rfl, ?_⟩
        have n0_ := Aside0.mk (Kd.N_below (by (with_reducible repeat (first | apply Kd.N_alloc | apply Kd.N_drewN | apply Kd.N_drew)); exact HO625.out) hb)
        have n1_ := Aside0.mk (Kd.N_below (by (with_reducible repeat (first | apply Kd.N_alloc | apply Kd.N_drewN | apply Kd.N_drew)); exact HO630.out) hb)
        have n2_ := Aside0.mk (blk_below (g := gb614) (o := .cells #[.int .i64 a0_0, .int .i64 a0_1, .slice A0_2 l0_2.length c0_2] 24 (0, 0)) (by (with_reducible repeat (first | refine blk_drewN ?_ _ | refine blk_drew ?_ | refine blk_alloc ?_ _)); exact BK614.out) hb)
        have n3_ := Aside0.mk (blk_below (g := gb615) (o := .cells #[.int .i64 a1_0, .int .i64 a1_1, .slice A1_2 l1_2.length c1_2] 24 (0, 0)) (by (with_reducible repeat (first | refine blk_drewN ?_ _ | refine blk_drew ?_ | refine blk_alloc ?_ _)); exact BK615.out) hb)
        have n4_ := Aside0.mk (blk_below (g := gb631) (o := .cells #[.int .i64 t626, .int .i64 t627, .slice Ao95 t628.length co95] 24 (0, 0)) (by (with_reducible repeat (first | refine blk_drewN ?_ _ | refine blk_drew ?_ | refine blk_alloc ?_ _)); exact BK631.out) hb)
        have n5_ := Aside0.mk (below_step (by repeat (first | (with_reducible first | exact HB.out | apply below_alloc | apply pw_below_drewN | apply below_drew1 | refine below_set ?_ GE614.out | refine below_set ?_ GE615.out | refine below_set ?_ GE631.out) | exact HB.out)) hb)
        clear HO625
        clear HO630
        clear BK614
        clear BK615
        clear BK631
        clear HB
        have HO625 := n0_
        have HO630 := n1_
        have BK614 := n2_
        have BK615 := n3_
        have BK631 := n4_
        have HB := n5_
        clear n0_ n1_ n2_ n3_ n4_ n5_
        (try clear hb)
        (try clear hb2)
        (try clear hk)
        (try clear hi)
        refine hK.out _ _ ⟨(blk_cell BK614.out 0).trans rfl, (blk_cell BK614.out 1).trans rfl, (blk_cell BK614.out 2).trans rfl, (blk_cell BK615.out 0).trans rfl, (blk_cell BK615.out 1).trans rfl, (blk_cell BK615.out 2).trans rfl, (blk_cell BK631.out 0).trans rfl, (blk_cell BK631.out 1).trans rfl, (blk_cell BK631.out 2).trans rfl⟩ (fun hHeld => ?_)
        clear hK K
        refine norm_ (a' := ?_) ?_ ?_
        rotate_left
        ·show Act.put _ (some 29) _ = _
         simp only [Act.put, List.setIfInBounds_toArray, List.set_cons_zero, List.set_cons_succ, i64_w, i32_w]
         rfl
        refine pure_ (i := 4) (N := some 30) (v := ?_) (a' := ?_) Mk29_24_ rfl rfl (any_of HT_.out (by kernel_rfl)) (fun _ _ _ h => h) (Or.inl ⟨by rfl, ?_⟩) ?_ ?_; rotate_left; intro w'; go_simp; with_reducible rfl; rotate_left; simp only [Act.put, List.setIfInBounds_toArray, List.set_cons_zero, List.set_cons_succ, i64_w, i32_w]; rfl
        refine one_ (i := 7) (N := some 33) Mk29_25_ rfl rfl (one_of HT_.out (by kernel_rfl)) (by decide) (fun K hK => ?_)
        refine goes_ Tryd.func21 (by kernel_rfl) rfl #[.agg #[.int .i64 a0_0, .int .i64 a0_1, .slice A0_2 l0_2.length c0_2], .agg #[.int .i64 a1_0, .int .i64 a1_1, .slice A1_2 l1_2.length c1_2]] (by rfl) rfl rfl (by (try simp only [List.map_toArray, List.map_cons, List.map_nil]); first | done | rfl | (simp only [List.length_drop, List.length_take]; rfl)) ?_
        with_reducible refine (formula_Same.calls a0_0 a0_1 _ _ l0_2 a1_0 a1_1 _ _ l1_2 t634 _ ?side1 ?side2 ?side3 ?side4 A21.out).mono ?_
        (case side1 => repeat (first | exact (Kd.C_below HR0_2.out HB.out) | (with_reducible refine Kd.C_alloc ?_ _) | (with_reducible refine Kd.C_drewN ?_ _) | (with_reducible refine Kd.C_drew ?_)))
        (case side2 => exact HC0_2.out)
        (case side3 => repeat (first | exact (Kd.C_below HR1_2.out HB.out) | (with_reducible refine Kd.C_alloc ?_ _) | (with_reducible refine Kd.C_drewN ?_ _) | (with_reducible refine Kd.C_drew ?_)))
        (case side4 => exact HC1_2.out)
        rintro e w100 ⟨rfl, hb⟩
        refine ⟨_, rfl, ?_⟩
        have n0_ := Aside0.mk (Kd.N_below (by (with_reducible repeat (first | apply Kd.N_alloc | apply Kd.N_drewN | apply Kd.N_drew)); exact HO625.out) hb)
        have n1_ := Aside0.mk (Kd.N_below (by (with_reducible repeat (first | apply Kd.N_alloc | apply Kd.N_drewN | apply Kd.N_drew)); exact HO630.out) hb)
        have n2_ := Aside0.mk (blk_below (g := gb614) (o := .cells #[.int .i64 a0_0, .int .i64 a0_1, .slice A0_2 l0_2.length c0_2] 24 (0, 0)) (by (with_reducible repeat (first | refine blk_drewN ?_ _ | refine blk_drew ?_ | refine blk_alloc ?_ _)); exact BK614.out) hb)
        have n3_ := Aside0.mk (blk_below (g := gb615) (o := .cells #[.int .i64 a1_0, .int .i64 a1_1, .slice A1_2 l1_2.length c1_2] 24 (0, 0)) (by (with_reducible repeat (first | refine blk_drewN ?_ _ | refine blk_drew ?_ | refine blk_alloc ?_ _)); exact BK615.out) hb)
        have n4_ := Aside0.mk (blk_below (g := gb631) (o := .cells #[.int .i64 t626, .int .i64 t627, .slice Ao95 t628.length co95] 24 (0, 0)) (by (with_reducible repeat (first | refine blk_drewN ?_ _ | refine blk_drew ?_ | refine blk_alloc ?_ _)); exact BK631.out) hb)
        have n5_ := Aside0.mk (below_step (by repeat (first | (with_reducible first | exact HB.out | apply below_alloc | apply pw_below_drewN | apply below_drew1 | refine below_set ?_ GE614.out | refine below_set ?_ GE615.out | refine below_set ?_ GE631.out) | exact HB.out)) hb)
        clear HO625
        clear HO630
        clear BK614
        clear BK615
        clear BK631
        clear HB
        have HO625 := n0_
        have HO630 := n1_
        have BK614 := n2_
        have BK615 := n3_
        have BK631 := n4_
        have HB := n5_
        clear n0_ n1_ n2_ n3_ n4_ n5_
        (try clear hb)
        (try clear hb2)
        (try clear hk)
        (try clear hi)
        refine hK.out _ _ ⟨(blk_cell BK614.out 0).trans rfl, (blk_cell BK614.out 1).trans rfl, (blk_cell BK614.out 2).trans rfl, (blk_cell BK615.out 0).trans rfl, (blk_cell BK615.out 1).trans rfl, (blk_cell BK615.out 2).trans rfl, (blk_cell BK631.out 0).trans rfl, (blk_cell BK631.out 1).trans rfl, (blk_cell BK631.out 2).trans rfl⟩ (fun hHeld => ?_)
        clear hK K
        refine norm_ (a' := ?_) ?_ ?_
        rotate_left
        ·show Act.put _ (some 33) _ = _
         simp only [Act.put, List.setIfInBounds_toArray, List.set_cons_zero, List.set_cons_succ, i64_w, i32_w]
         rfl
        refine pure_ (i := 8) (N := some 34) (v := ?_) (a' := ?_) Mk29_26_ rfl rfl (any_of HT_.out (by kernel_rfl)) (fun _ _ _ h => h) (Or.inl ⟨by rfl, ?_⟩) ?_ ?_; rotate_left; intro w'; go_simp; with_reducible rfl; rotate_left; simp only [Act.put, List.setIfInBounds_toArray, List.set_cons_zero, List.set_cons_succ, i64_w, i32_w]; rfl
        refine pure_ (i := 9) (N := some 35) (v := ?_) (a' := ?_) Mk29_27_ rfl rfl (any_of HT_.out (by kernel_rfl)) (fun _ _ _ h => h) (Or.inl ⟨by rfl, ?_⟩) ?_ ?_; rotate_left; intro w'; go_simp; with_reducible rfl; rotate_left; simp only [Act.put, List.setIfInBounds_toArray, List.set_cons_zero, List.set_cons_succ, i64_w, i32_w]; rfl
        refine pure_ (i := 10) (N := some 36) (v := ?_) (a' := ?_) Mk29_28_ rfl rfl (any_of HT_.out (by kernel_rfl)) (fun _ _ _ h => h) (Or.inl ⟨by rfl, ?_⟩) ?_ ?_; rotate_left; intro w'; go_simp; with_reducible rfl; rotate_left; simp only [Act.put, List.setIfInBounds_toArray, List.set_cons_zero, List.set_cons_succ, i64_w, i32_w]; rfl
        refine take_ (i := 11) (N := some 37) (v := ?_) (a' := ?_) Mk29_29_ rfl rfl (take_ofW HT_.out HW_.out (by kernel_rfl)) (fun _ _ _ h => h) (Or.inl ⟨by rfl, ?_⟩) hHeld ?_ ?_
        rotate_left
        ·rintro w' ⟨s0, s1, s2, s3, s4, s5, s6, s7, s8⟩
         go_simp
         with_reducible rfl
        rotate_left
        ·simp only [Act.put, List.setIfInBounds_toArray, List.set_cons_zero, List.set_cons_succ, i64_w, i32_w]
         rfl
        refine pure_ (i := 12) (N := some 38) (v := ?_) (a' := ?_) Mk29_30_ rfl rfl (any_of HT_.out (by kernel_rfl)) (fun _ _ _ h => h) (Or.inl ⟨by rfl, ?_⟩) ?_ ?_; rotate_left; intro w'; go_simp; with_reducible rfl; rotate_left; simp only [Act.put, List.setIfInBounds_toArray, List.set_cons_zero, List.set_cons_succ, i64_w, i32_w]; rfl
        refine pure_ (i := 13) (N := some 39) (v := ?_) (a' := ?_) Mk29_31_ rfl rfl (any_of HT_.out (by kernel_rfl)) (fun _ _ _ h => h) (Or.inl ⟨by rfl, ?_⟩) ?_ ?_; rotate_left; intro w'; go_simp; with_reducible rfl; rotate_left; simp only [Act.put, List.setIfInBounds_toArray, List.set_cons_zero, List.set_cons_succ, i64_w, i32_w]; rfl
        refine take_ (i := 14) (N := some 40) (v := ?_) (a' := ?_) Mk29_32_ rfl rfl (take_ofW HT_.out HW_.out (by kernel_rfl)) (fun _ _ _ h => h) (Or.inl ⟨by rfl, ?_⟩) hHeld ?_ ?_
        rotate_left
        ·rintro w' ⟨s0, s1, s2, s3, s4, s5, s6, s7, s8⟩
         go_simp
         with_reducible rfl
        rotate_left
        ·simp only [Act.put, List.setIfInBounds_toArray, List.set_cons_zero, List.set_cons_succ, i64_w, i32_w]
         rfl
        refine take_ (i := 15) (N := some 41) (v := ?_) (a' := ?_) Mk29_33_ rfl rfl (take_ofW HT_.out HW_.out (by kernel_rfl)) (fun _ _ _ h => h) (Or.inl ⟨by rfl, ?_⟩) hHeld ?_ ?_
        rotate_left
        ·rintro w' ⟨s0, s1, s2, s3, s4, s5, s6, s7, s8⟩
         go_simp
         with_reducible rfl
        rotate_left
        ·simp only [Act.put, List.setIfInBounds_toArray, List.set_cons_zero, List.set_cons_succ, i64_w, i32_w]
         rfl
        refine one_ (i := 16) (N := some 42) Mk29_34_ rfl rfl (one_of HT_.out (by kernel_rfl)) (by decide) (fun K hK => ?_)
        refine goes_ Tryd.func21 (by kernel_rfl) rfl #[.agg #[.int .i64 t626, .int .i64 t627, .slice Ao95 t628.length co95], .agg #[.int .i64 a0_0, .int .i64 a0_1, .slice A0_2 l0_2.length c0_2]] (by rfl) rfl rfl (by (try simp only [List.map_toArray, List.map_cons, List.map_nil]); first | done | rfl | (simp only [List.length_drop, List.length_take]; rfl)) ?_
        with_reducible refine (formula_Same.calls t626 t627 _ _ t628 a0_0 a0_1 _ _ l0_2 false _ ?side1 ?side2 ?side3 ?side4 A48.out).mono ?_
        (case side1 => repeat (first | exact (Kd.N_reads' HO630.out).2.2 | (with_reducible refine Kd.C_alloc ?_ _) | (with_reducible refine Kd.C_drewN ?_ _) | (with_reducible refine Kd.C_drew ?_)))
        (case side2 => exact (Kd.N_reads' HO630.out).2.1)
        (case side3 => repeat (first | exact (Kd.C_below HR0_2.out HB.out) | (with_reducible refine Kd.C_alloc ?_ _) | (with_reducible refine Kd.C_drewN ?_ _) | (with_reducible refine Kd.C_drew ?_)))
        (case side4 => exact HC0_2.out)
        rintro e w101 ⟨rfl, hb⟩
        refine ⟨_, rfl, ?_⟩
        have n0_ := Aside0.mk (Kd.N_below (by (with_reducible repeat (first | apply Kd.N_alloc | apply Kd.N_drewN | apply Kd.N_drew)); exact HO625.out) hb)
        have n1_ := Aside0.mk (Kd.N_below (by (with_reducible repeat (first | apply Kd.N_alloc | apply Kd.N_drewN | apply Kd.N_drew)); exact HO630.out) hb)
        have n2_ := Aside0.mk (blk_below (g := gb614) (o := .cells #[.int .i64 a0_0, .int .i64 a0_1, .slice A0_2 l0_2.length c0_2] 24 (0, 0)) (by (with_reducible repeat (first | refine blk_drewN ?_ _ | refine blk_drew ?_ | refine blk_alloc ?_ _)); exact BK614.out) hb)
        have n3_ := Aside0.mk (blk_below (g := gb615) (o := .cells #[.int .i64 a1_0, .int .i64 a1_1, .slice A1_2 l1_2.length c1_2] 24 (0, 0)) (by (with_reducible repeat (first | refine blk_drewN ?_ _ | refine blk_drew ?_ | refine blk_alloc ?_ _)); exact BK615.out) hb)
        have n4_ := Aside0.mk (blk_below (g := gb631) (o := .cells #[.int .i64 t626, .int .i64 t627, .slice Ao95 t628.length co95] 24 (0, 0)) (by (with_reducible repeat (first | refine blk_drewN ?_ _ | refine blk_drew ?_ | refine blk_alloc ?_ _)); exact BK631.out) hb)
        have n5_ := Aside0.mk (below_step (by repeat (first | (with_reducible first | exact HB.out | apply below_alloc | apply pw_below_drewN | apply below_drew1 | refine below_set ?_ GE614.out | refine below_set ?_ GE615.out | refine below_set ?_ GE631.out) | exact HB.out)) hb)
        clear HO625
        clear HO630
        clear BK614
        clear BK615
        clear BK631
        clear HB
        have HO625 := n0_
        have HO630 := n1_
        have BK614 := n2_
        have BK615 := n3_
        have BK631 := n4_
        have HB := n5_
        clear n0_ n1_ n2_ n3_ n4_ n5_
        (try clear hb)
        (try clear hb2)
        (try clear hk)
        (try clear hi)
        refine hK.out _ _ ⟨(blk_cell BK614.out 0).trans rfl, (blk_cell BK614.out 1).trans rfl, (blk_cell BK614.out 2).trans rfl, (blk_cell BK615.out 0).trans rfl, (blk_cell BK615.out 1).trans rfl, (blk_cell BK615.out 2).trans rfl, (blk_cell BK631.out 0).trans rfl, (blk_cell BK631.out 1).trans rfl, (blk_cell BK631.out 2).trans rfl⟩ (fun hHeld => ?_)
        clear hK K
        refine norm_ (a' := ?_) ?_ ?_
        rotate_left
        ·show Act.put _ (some 42) _ = _
         simp only [Act.put, List.setIfInBounds_toArray, List.set_cons_zero, List.set_cons_succ, i64_w, i32_w]
         rfl
        refine pure_ (i := 17) (N := some 43) (v := ?_) (a' := ?_) Mk29_35_ rfl rfl (any_of HT_.out (by kernel_rfl)) (fun _ _ _ h => h) (Or.inl ⟨by rfl, ?_⟩) ?_ ?_; rotate_left; intro w'; go_simp; with_reducible rfl; rotate_left; simp only [Act.put, List.setIfInBounds_toArray, List.set_cons_zero, List.set_cons_succ, i64_w, i32_w]; rfl
        refine pure_ (i := 18) (N := some 44) (v := ?_) (a' := ?_) Mk29_36_ rfl rfl (any_of HT_.out (by kernel_rfl)) (fun _ _ _ h => h) (Or.inl ⟨by rfl, ?_⟩) ?_ ?_; rotate_left; intro w'; go_simp; with_reducible rfl; rotate_left; simp only [Act.put, List.setIfInBounds_toArray, List.set_cons_zero, List.set_cons_succ, i64_w, i32_w]; rfl
        refine take_ (i := 19) (N := some 45) (v := ?_) (a' := ?_) Mk29_37_ rfl rfl (take_ofW HT_.out HW_.out (by kernel_rfl)) (fun _ _ _ h => h) (Or.inl ⟨by rfl, ?_⟩) hHeld ?_ ?_
        rotate_left
        ·rintro w' ⟨s0, s1, s2, s3, s4, s5, s6, s7, s8⟩
         go_simp
         with_reducible rfl
        rotate_left
        ·simp only [Act.put, List.setIfInBounds_toArray, List.set_cons_zero, List.set_cons_succ, i64_w, i32_w]
         rfl
        refine one_ (i := 20) (N := some 46) Mk29_38_ rfl rfl (one_of HT_.out (by kernel_rfl)) (by decide) (fun K hK => ?_)
        refine goes_ Tryd.func28 (by kernel_rfl) rfl #[.agg #[.int .i64 a0_0, .int .i64 a0_1, .slice A0_2 l0_2.length c0_2]] (by rfl) rfl rfl (by (try simp only [List.map_toArray, List.map_cons, List.map_nil]); first | done | rfl | (simp only [List.length_drop, List.length_take]; rfl)) ?_
        with_reducible refine (formula_Not.calls k a0_0 a0_1 _ _ l0_2 t638 t639 t640 _ ?side1 ?side2 A75.out).mono ?_
        (case side1 => repeat (first | exact (Kd.C_below HR0_2.out HB.out) | (with_reducible refine Kd.C_alloc ?_ _) | (with_reducible refine Kd.C_drewN ?_ _) | (with_reducible refine Kd.C_drew ?_)))
        (case side2 => exact HC0_2.out)
        rintro e w102 ⟨v641, rfl, ho0, hb⟩
        refine ⟨_, rfl, ?_⟩
        have n0_ := Aside0.mk (Kd.N_elder' (by (with_reducible repeat (first | apply Kd.N_alloc | apply Kd.N_drewN | apply Kd.N_drew)); exact HO625.out) (Kd.N_base ho0) hb)
        have n1_ := Aside0.mk (Kd.N_elder' (by (with_reducible repeat (first | apply Kd.N_alloc | apply Kd.N_drewN | apply Kd.N_drew)); exact HO630.out) (Kd.N_base ho0) hb)
        have n2_ := Aside0.mk (Kd.N_lower (Kd.N_mono (ok' := fun k_ => some k_ ≠ (.slice Ao89 t623.length co89 : Value).ownBlock ∧ some k_ ≠ (.slice Ao95 t628.length co95 : Value).ownBlock ∧ k_ ≠ gb614 ∧ k_ ≠ gb615 ∧ k_ ≠ gb631) ho0 (fun k_ hk_ => ⟨(Kd.fresh' (Kd.N_lt (by (with_reducible repeat (first | apply Kd.N_alloc | apply Kd.N_drewN | apply Kd.N_drew)); exact HO625.out)) k_ hk_), (Kd.fresh' (Kd.N_lt (by (with_reducible repeat (first | apply Kd.N_alloc | apply Kd.N_drewN | apply Kd.N_drew)); exact HO630.out)) k_ hk_), (Kd.freshB (g := gb614) (o := .cells #[.int .i64 a0_0, .int .i64 a0_1, .slice A0_2 l0_2.length c0_2] 24 (0, 0)) (by (with_reducible repeat (first | refine blk_drewN ?_ _ | refine blk_drew ?_ | refine blk_alloc ?_ _)); exact BK614.out) k_ hk_), (Kd.freshB (g := gb615) (o := .cells #[.int .i64 a1_0, .int .i64 a1_1, .slice A1_2 l1_2.length c1_2] 24 (0, 0)) (by (with_reducible repeat (first | refine blk_drewN ?_ _ | refine blk_drew ?_ | refine blk_alloc ?_ _)); exact BK615.out) k_ hk_), (Kd.freshB (g := gb631) (o := .cells #[.int .i64 t626, .int .i64 t627, .slice Ao95 t628.length co95] 24 (0, 0)) (by (with_reducible repeat (first | refine blk_drewN ?_ _ | refine blk_drew ?_ | refine blk_alloc ?_ _)); exact BK631.out) k_ hk_)⟩)) (below_size (by repeat (first | (with_reducible first | exact HB.out | apply below_alloc | apply pw_below_drewN | apply below_drew1 | refine below_set ?_ GE614.out | refine below_set ?_ GE615.out | refine below_set ?_ GE631.out) | exact HB.out))))
        have n3_ := Aside0.mk (blk_below (g := gb614) (o := .cells #[.int .i64 a0_0, .int .i64 a0_1, .slice A0_2 l0_2.length c0_2] 24 (0, 0)) (by (with_reducible repeat (first | refine blk_drewN ?_ _ | refine blk_drew ?_ | refine blk_alloc ?_ _)); exact BK614.out) hb)
        have n4_ := Aside0.mk (blk_below (g := gb615) (o := .cells #[.int .i64 a1_0, .int .i64 a1_1, .slice A1_2 l1_2.length c1_2] 24 (0, 0)) (by (with_reducible repeat (first | refine blk_drewN ?_ _ | refine blk_drew ?_ | refine blk_alloc ?_ _)); exact BK615.out) hb)
        have n5_ := Aside0.mk (blk_below (g := gb631) (o := .cells #[.int .i64 t626, .int .i64 t627, .slice Ao95 t628.length co95] 24 (0, 0)) (by (with_reducible repeat (first | refine blk_drewN ?_ _ | refine blk_drew ?_ | refine blk_alloc ?_ _)); exact BK631.out) hb)
        have n6_ := Aside0.mk (below_step (by repeat (first | (with_reducible first | exact HB.out | apply below_alloc | apply pw_below_drewN | apply below_drew1 | refine below_set ?_ GE614.out | refine below_set ?_ GE615.out | refine below_set ?_ GE631.out) | exact HB.out)) hb)
        clear HO625
        clear HO630
        clear BK614
        clear BK615
        clear BK631
        clear HB
        have HO625 := n0_
        have HO630 := n1_
        have HO642 := n2_
        have BK614 := n3_
        have BK615 := n4_
        have BK631 := n5_
        have HB := n6_
        clear n0_ n1_ n2_ n3_ n4_ n5_ n6_
        (try clear hb)
        (try clear hb2)
        (try clear hk)
        (try clear hi)
        (try clear ho0)
        obtain ⟨Ao103, co103, eo103⟩ := Kd.N_slice HO642.out
        (first | subst eo103 | (injection eo103 with f1_ f2_ f3_; have f4_ := f1_.symm; have f5_ := f3_.symm; clear f1_ f2_ f3_; subst f4_; subst f5_))
        refine hK.out _ _ ⟨(blk_cell BK614.out 0).trans rfl, (blk_cell BK614.out 1).trans rfl, (blk_cell BK614.out 2).trans rfl, (blk_cell BK615.out 0).trans rfl, (blk_cell BK615.out 1).trans rfl, (blk_cell BK615.out 2).trans rfl, (blk_cell BK631.out 0).trans rfl, (blk_cell BK631.out 1).trans rfl, (blk_cell BK631.out 2).trans rfl⟩ (fun hHeld => ?_)
        clear hK K
        refine norm_ (a' := ?_) ?_ ?_
        rotate_left
        ·show Act.put _ (some 46) _ = _
         simp only [Act.put, List.setIfInBounds_toArray, List.set_cons_zero, List.set_cons_succ, i64_w, i32_w]
         rfl
        refine one_ (i := 21) (N := some 47) Mk29_39_ rfl rfl (one_of HT_.out (by kernel_rfl)) (by decide) (fun K hK => ?_)
        refine goes_ Tryd.func13 (by kernel_rfl) rfl #[.agg #[.int .i64 t638, .int .i64 t639, .slice Ao103 t640.length co103]] (by rfl) rfl rfl (by (try simp only [List.map_toArray, List.map_cons, List.map_nil]); first | done | rfl | (simp only [List.length_drop, List.length_take]; rfl)) ?_
        with_reducible refine (formula_May.calls t638 t639 _ _ t640 t643 _ ?side1 ?side2 A76.out).mono ?_
        (case side1 => repeat (first | exact (Kd.N_reads' HO642.out).2.2 | (with_reducible refine Kd.C_alloc ?_ _) | (with_reducible refine Kd.C_drewN ?_ _) | (with_reducible refine Kd.C_drew ?_)))
        (case side2 => exact (Kd.N_reads' HO642.out).2.1)
        rintro e w104 ⟨rfl, hb⟩
        refine ⟨_, rfl, ?_⟩
        have n0_ := Aside0.mk (Kd.N_below (by (with_reducible repeat (first | apply Kd.N_alloc | apply Kd.N_drewN | apply Kd.N_drew)); exact HO625.out) hb)
        have n1_ := Aside0.mk (Kd.N_below (by (with_reducible repeat (first | apply Kd.N_alloc | apply Kd.N_drewN | apply Kd.N_drew)); exact HO630.out) hb)
        have n2_ := Aside0.mk (Kd.N_below (by (with_reducible repeat (first | apply Kd.N_alloc | apply Kd.N_drewN | apply Kd.N_drew)); exact HO642.out) hb)
        have n3_ := Aside0.mk (blk_below (g := gb614) (o := .cells #[.int .i64 a0_0, .int .i64 a0_1, .slice A0_2 l0_2.length c0_2] 24 (0, 0)) (by (with_reducible repeat (first | refine blk_drewN ?_ _ | refine blk_drew ?_ | refine blk_alloc ?_ _)); exact BK614.out) hb)
        have n4_ := Aside0.mk (blk_below (g := gb615) (o := .cells #[.int .i64 a1_0, .int .i64 a1_1, .slice A1_2 l1_2.length c1_2] 24 (0, 0)) (by (with_reducible repeat (first | refine blk_drewN ?_ _ | refine blk_drew ?_ | refine blk_alloc ?_ _)); exact BK615.out) hb)
        have n5_ := Aside0.mk (blk_below (g := gb631) (o := .cells #[.int .i64 t626, .int .i64 t627, .slice Ao95 t628.length co95] 24 (0, 0)) (by (with_reducible repeat (first | refine blk_drewN ?_ _ | refine blk_drew ?_ | refine blk_alloc ?_ _)); exact BK631.out) hb)
        have n6_ := Aside0.mk (below_step (by repeat (first | (with_reducible first | exact HB.out | apply below_alloc | apply pw_below_drewN | apply below_drew1 | refine below_set ?_ GE614.out | refine below_set ?_ GE615.out | refine below_set ?_ GE631.out) | exact HB.out)) hb)
        clear HO625
        clear HO630
        clear HO642
        clear BK614
        clear BK615
        clear BK631
        clear HB
        have HO625 := n0_
        have HO630 := n1_
        have HO642 := n2_
        have BK614 := n3_
        have BK615 := n4_
        have BK631 := n5_
        have HB := n6_
        clear n0_ n1_ n2_ n3_ n4_ n5_ n6_
        (try clear hb)
        (try clear hb2)
        (try clear hk)
        (try clear hi)
        refine hK.out _ _ ⟨(blk_cell BK614.out 0).trans rfl, (blk_cell BK614.out 1).trans rfl, (blk_cell BK614.out 2).trans rfl, (blk_cell BK615.out 0).trans rfl, (blk_cell BK615.out 1).trans rfl, (blk_cell BK615.out 2).trans rfl, (blk_cell BK631.out 0).trans rfl, (blk_cell BK631.out 1).trans rfl, (blk_cell BK631.out 2).trans rfl⟩ (fun hHeld => ?_)
        clear hK K
        refine norm_ (a' := ?_) ?_ ?_
        rotate_left
        ·show Act.put _ (some 47) _ = _
         simp only [Act.put, List.setIfInBounds_toArray, List.set_cons_zero, List.set_cons_succ, i64_w, i32_w]
         rfl
        refine pure_ (i := 22) (N := some 48) (v := ?_) (a' := ?_) Mk29_40_ rfl rfl (any_of HT_.out (by kernel_rfl)) (fun _ _ _ h => h) (Or.inl ⟨by rfl, ?_⟩) ?_ ?_; rotate_left; intro w'; go_simp; with_reducible rfl; rotate_left; simp only [Act.put, List.setIfInBounds_toArray, List.set_cons_zero, List.set_cons_succ, i64_w, i32_w]; rfl
        refine pure_ (i := 23) (N := some 49) (v := ?_) (a' := ?_) Mk29_41_ rfl rfl (any_of HT_.out (by kernel_rfl)) (fun _ _ _ h => h) (Or.inl ⟨by rfl, ?_⟩) ?_ ?_; rotate_left; intro w'; go_simp; with_reducible rfl; rotate_left; simp only [Act.put, List.setIfInBounds_toArray, List.set_cons_zero, List.set_cons_succ, i64_w, i32_w]; rfl
        refine pure_ (i := 24) (N := some 50) (v := ?_) (a' := ?_) Mk29_42_ rfl rfl (any_of HT_.out (by kernel_rfl)) (fun _ _ _ h => h) (Or.inl ⟨by rfl, ?_⟩) ?_ ?_; rotate_left; intro w'; go_simp; with_reducible rfl; rotate_left; simp only [Act.put, List.setIfInBounds_toArray, List.set_cons_zero, List.set_cons_succ, i64_w, i32_w]; rfl
        refine pure_ (i := 25) (N := some 51) (v := ?_) (a' := ?_) Mk29_43_ rfl rfl (any_of HT_.out (by kernel_rfl)) (fun _ _ _ h => h) (Or.inl ⟨by rfl, ?_⟩) ?_ ?_; rotate_left; intro w'; go_simp; with_reducible rfl; rotate_left; simp only [Act.put, List.setIfInBounds_toArray, List.set_cons_zero, List.set_cons_succ, i64_w, i32_w]; rfl
        refine one_ (i := 26) (N := some 52) Mk29_44_ rfl rfl (one_of HT_.out (by kernel_rfl)) (by decide) (fun K hK => ?_)
        refine goes_ Tryd.func11 (by kernel_rfl) rfl #[] (by rfl) rfl rfl (by (try simp only [List.map_toArray, List.map_cons, List.map_nil]); first | done | rfl | (simp only [List.length_drop, List.length_take]; rfl)) ?_
        with_reducible refine (parrylaw22_awake.calls  t644 _ A78.out).mono ?_
        rintro e w105 ⟨rfl, hb⟩
        refine ⟨_, rfl, ?_⟩
        have n0_ := Aside0.mk (Kd.N_below (by (with_reducible repeat (first | apply Kd.N_alloc | apply Kd.N_drewN | apply Kd.N_drew)); exact HO625.out) hb)
        have n1_ := Aside0.mk (Kd.N_below (by (with_reducible repeat (first | apply Kd.N_alloc | apply Kd.N_drewN | apply Kd.N_drew)); exact HO630.out) hb)
        have n2_ := Aside0.mk (Kd.N_below (by (with_reducible repeat (first | apply Kd.N_alloc | apply Kd.N_drewN | apply Kd.N_drew)); exact HO642.out) hb)
        have n3_ := Aside0.mk (blk_below (g := gb614) (o := .cells #[.int .i64 a0_0, .int .i64 a0_1, .slice A0_2 l0_2.length c0_2] 24 (0, 0)) (by (with_reducible repeat (first | refine blk_drewN ?_ _ | refine blk_drew ?_ | refine blk_alloc ?_ _)); exact BK614.out) hb)
        have n4_ := Aside0.mk (blk_below (g := gb615) (o := .cells #[.int .i64 a1_0, .int .i64 a1_1, .slice A1_2 l1_2.length c1_2] 24 (0, 0)) (by (with_reducible repeat (first | refine blk_drewN ?_ _ | refine blk_drew ?_ | refine blk_alloc ?_ _)); exact BK615.out) hb)
        have n5_ := Aside0.mk (blk_below (g := gb631) (o := .cells #[.int .i64 t626, .int .i64 t627, .slice Ao95 t628.length co95] 24 (0, 0)) (by (with_reducible repeat (first | refine blk_drewN ?_ _ | refine blk_drew ?_ | refine blk_alloc ?_ _)); exact BK631.out) hb)
        have n6_ := Aside0.mk (below_step (by repeat (first | (with_reducible first | exact HB.out | apply below_alloc | apply pw_below_drewN | apply below_drew1 | refine below_set ?_ GE614.out | refine below_set ?_ GE615.out | refine below_set ?_ GE631.out) | exact HB.out)) hb)
        clear HO625
        clear HO630
        clear HO642
        clear BK614
        clear BK615
        clear BK631
        clear HB
        have HO625 := n0_
        have HO630 := n1_
        have HO642 := n2_
        have BK614 := n3_
        have BK615 := n4_
        have BK631 := n5_
        have HB := n6_
        clear n0_ n1_ n2_ n3_ n4_ n5_ n6_
        (try clear hb)
        (try clear hb2)
        (try clear hk)
        (try clear hi)
        refine hK.out _ _ ⟨(blk_cell BK614.out 0).trans rfl, (blk_cell BK614.out 1).trans rfl, (blk_cell BK614.out 2).trans rfl, (blk_cell BK615.out 0).trans rfl, (blk_cell BK615.out 1).trans rfl, (blk_cell BK615.out 2).trans rfl, (blk_cell BK631.out 0).trans rfl, (blk_cell BK631.out 1).trans rfl, (blk_cell BK631.out 2).trans rfl⟩ (fun hHeld => ?_)
        clear hK K
        refine norm_ (a' := ?_) ?_ ?_
        rotate_left
        ·show Act.put _ (some 52) _ = _
         simp only [Act.put, List.setIfInBounds_toArray, List.set_cons_zero, List.set_cons_succ, i64_w, i32_w]
         rfl
        refine pure_ (i := 27) (N := some 53) (v := ?_) (a' := ?_) Mk29_45_ rfl rfl (any_of HT_.out (by kernel_rfl)) (fun _ _ _ h => h) (Or.inl ⟨by rfl, ?_⟩) ?_ ?_; rotate_left; intro w'; go_simp; with_reducible rfl; rotate_left; simp only [Act.put, List.setIfInBounds_toArray, List.set_cons_zero, List.set_cons_succ, i64_w, i32_w]; rfl
        refine pure_ (i := 28) (N := some 4) (v := ?_) (a' := ?_) Mk29_46_ rfl rfl (any_of HT_.out (by kernel_rfl)) (fun _ _ _ h => h) (Or.inl ⟨by rfl, ?_⟩) ?_ ?_; rotate_left; intro w'; go_simp; with_reducible rfl; rotate_left; simp only [Act.put, List.setIfInBounds_toArray, List.set_cons_zero, List.set_cons_succ, i64_w, i32_w]; rfl
        refine done_ (done_of HT_.out (by kernel_rfl)) ?_
        try go_wp2
        go_ret
        exact ⟨by first | rfl | (simp [errW_none, errW_some] <;> rfl) | (simp [*, errW_none, errW_some] <;> rfl), by repeat (first | (with_reducible first | exact HB.out | apply below_alloc | apply pw_below_drewN | apply below_drew1 | refine below_set ?_ GE614.out | refine below_set ?_ GE615.out | refine below_set ?_ GE631.out) | exact HB.out)⟩
    ·rw [if_neg c22] at H
     have c22b0 : ((t632.toList == t633.toList) == t634) = false := by simpa using c22
     (try (have c22b1 : decide ((t632.toList == t633.toList) = t634) = false := by simpa using c22))
     (try (have c22b2 : ((t632.toList == t633.toList) == t634) = false := by simpa using c22))
     (try (have c22b3 : ¬ ((t632.toList == t633.toList) = t634) := by simpa using c22))
     clear c22
     exact absurd ((Option.some.inj H).trans HRT.out) (by decide)
   ·rw [if_neg c16] at H
    have c16b0 : (t620 == 0) = false := beq_eq_false_iff_ne.mpr c16
    have c16b1 : (t620 != 0) = true := bne_iff_ne.mpr c16
    replace H := Option.bind_eq_some_iff.mp H
    obtain ⟨t645, A1060, H⟩ := H
    replace H : (some t645) = some r := H
    have A106 := Aside0.mk A1060
    clear A1060
    obtain rfl := Option.some.inj H
    go_enter Tryd.func8, Tryd.ntmps8
    try go_wp2_with (first | ((with_reducible refine gate_dst (N := 2) rfl ?_); refine box_event ?hg (N := 2) ?hd (cs := #[.int .i64 a0_0, .int .i64 a0_1, .slice A0_2 l0_2.length c0_2]) (t := 24) ?hr ?_; (case hd => rfl); (case hg => rfl); (case hr => first | (go_simp; done) | (go_simp; rfl)); intro gb614 hg w107 hbox hb; have n0_ := Aside0.mk (below_step (by repeat (first | (with_reducible first | exact HB.out | apply below_alloc | apply pw_below_drewN | apply below_drew1) | exact HB.out)) hb); have n1_ := Aside0.mk (hbox); have n2_ := Aside0.mk ((by rw [hg]; exact (below_size (by repeat (first | (with_reducible first | exact HB.out | apply below_alloc | apply pw_below_drewN | apply below_drew1) | exact HB.out))) : w.heap.size ≤ gb614)); have n3_ := Aside0.mk ((by rw [hg]; exact (below_size (by repeat (first | (with_reducible first | exact HB.out | apply below_alloc | apply pw_below_drewN | apply below_drew1) | exact HB.out))) : w.heap.size ≤ gb614)); clear HB; have HB := n0_; have BK614 := n1_; have GW614 := n2_; have GE614 := n3_; clear n0_ n1_ n2_ n3_; clear hb hbox hg) | ((with_reducible refine gate_dst (N := 3) rfl ?_); refine box_event ?hg (N := 3) ?hd (cs := #[.int .i64 a1_0, .int .i64 a1_1, .slice A1_2 l1_2.length c1_2]) (t := 24) ?hr ?_; (case hd => rfl); (case hg => rfl); (case hr => first | (go_simp; done) | (go_simp; rfl)); intro gb615 hg w108 hbox hb; have n0_ := Aside0.mk (blk_below (g := gb614) (o := .cells #[.int .i64 a0_0, .int .i64 a0_1, .slice A0_2 l0_2.length c0_2] 24 (0, 0)) (by (with_reducible repeat (first | refine blk_drewN ?_ _ | refine blk_drew ?_ | refine blk_alloc ?_ _)); exact BK614.out) hb); have n1_ := Aside0.mk (below_step (by repeat (first | (with_reducible first | exact HB.out | apply below_alloc | apply pw_below_drewN | apply below_drew1 | refine below_set ?_ GE614.out) | exact HB.out)) hb); have n2_ := Aside0.mk (hbox); have n3_ := Aside0.mk ((by rw [hg]; exact (below_size (by repeat (first | (with_reducible first | exact HB.out | apply below_alloc | apply pw_below_drewN | apply below_drew1 | refine below_set ?_ GE614.out) | exact HB.out))) : w.heap.size ≤ gb615)); have n4_ := Aside0.mk ((by rw [hg]; exact (below_size (by repeat (first | (with_reducible first | exact HB.out | apply below_alloc | apply pw_below_drewN | apply below_drew1 | refine below_set ?_ GE614.out) | exact HB.out))) : w.heap.size ≤ gb615)); have n5_ := Aside0.mk ((by rw [hg]; exact Nat.ne_of_lt (blk_lt (g := gb614) (o := .cells #[.int .i64 a0_0, .int .i64 a0_1, .slice A0_2 l0_2.length c0_2] 24 (0, 0)) (by (with_reducible repeat (first | refine blk_drewN ?_ _ | refine blk_drew ?_ | refine blk_alloc ?_ _)); exact BK614.out)) : gb614 ≠ gb615)); have n6_ := Aside0.mk ((by rw [hg]; exact Nat.ne_of_gt (blk_lt (g := gb614) (o := .cells #[.int .i64 a0_0, .int .i64 a0_1, .slice A0_2 l0_2.length c0_2] 24 (0, 0)) (by (with_reducible repeat (first | refine blk_drewN ?_ _ | refine blk_drew ?_ | refine blk_alloc ?_ _)); exact BK614.out)) : gb615 ≠ gb614)); clear BK614; clear HB; have BK614 := n0_; have HB := n1_; have BK615 := n2_; have GW615 := n3_; have GE615 := n4_; have NB614_615 := n5_; have NB615_614 := n6_; clear n0_ n1_ n2_ n3_ n4_ n5_ n6_; clear hb hbox hg))
    have n0_ := Aside0.mk (blk_drew BK614.out)
    have n1_ := Aside0.mk (blk_drew BK615.out)
    have n2_ := Aside0.mk (below_drew1 HB.out)
    clear BK614
    clear BK615
    clear HB
    have BK614 := n0_
    have BK615 := n1_
    have HB := n2_
    clear n0_ n1_ n2_
    refine start_ (n := 16) (S := fun w' => w'.cell? ⟨gb614, 0, none⟩ = some (.int .i64 a0_0) ∧ w'.cell? ⟨gb614, 1, none⟩ = some (.int .i64 a0_1) ∧ w'.cell? ⟨gb614, 2, none⟩ = some (.slice A0_2 l0_2.length c0_2) ∧ w'.cell? ⟨gb615, 0, none⟩ = some (.int .i64 a1_0) ∧ w'.cell? ⟨gb615, 1, none⟩ = some (.int .i64 a1_1) ∧ w'.cell? ⟨gb615, 2, none⟩ = some (.slice A1_2 l1_2.length c1_2)) (ds := []) Mk16_0_ (by kernel_rfl) rfl rfl ⟨(blk_cell BK614.out 0).trans rfl, (blk_cell BK614.out 1).trans rfl, (blk_cell BK614.out 2).trans rfl, (blk_cell BK615.out 0).trans rfl, (blk_cell BK615.out 1).trans rfl, (blk_cell BK615.out 2).trans rfl⟩ (fun hHeld => ?_); refine with_tabW parrylaw22_FormulaTexts.tab1 parrylaw22_FormulaTexts.bits1 (fun HT_ HW_ => ?_)
    generalize w108.drew = w109 at BK614 BK615 HB hHeld ⊢
    refine take_ (i := 0) (N := some 6) (v := ?_) (a' := ?_) Mk16_1_ rfl rfl (take_ofW HT_.out HW_.out (by kernel_rfl)) (fun _ _ _ h => h) (Or.inl ⟨by rfl, ?_⟩) hHeld ?_ ?_
    rotate_left
    ·rintro w' ⟨s0, s1, s2, s3, s4, s5⟩
     go_simp
     with_reducible rfl
    rotate_left
    ·simp only [Act.put, List.setIfInBounds_toArray, List.set_cons_zero, List.set_cons_succ, i64_w, i32_w]
     rfl
    refine take_ (i := 2) (N := some 8) (v := ?_) (a' := ?_) Mk16_2_ rfl rfl (take_ofW HT_.out HW_.out (by kernel_rfl)) (fun _ _ _ h => h) (Or.inl ⟨by rfl, ?_⟩) hHeld ?_ ?_
    rotate_left
    ·rintro w' ⟨s0, s1, s2, s3, s4, s5⟩
     go_simp
     with_reducible rfl
    rotate_left
    ·simp only [Act.put, List.setIfInBounds_toArray, List.set_cons_zero, List.set_cons_succ, i64_w, i32_w]
     rfl
    refine one_ (i := 1) (N := some 7) Mk16_3_ rfl rfl (one_of HT_.out (by kernel_rfl)) (by decide) (fun K hK => ?_)
    refine goes_ Tryd.func9 (by kernel_rfl) rfl #[.agg #[.int .i64 a0_0, .int .i64 a0_1, .slice A0_2 l0_2.length c0_2]] (by rfl) rfl rfl (by (try simp only [List.map_toArray, List.map_cons, List.map_nil]); first | done | rfl | (simp only [List.length_drop, List.length_take]; rfl)) ?_
    with_reducible refine (parrylaw22_Heavy.calls k a0_0 a0_1 _ _ l0_2 t616 _ ?side1 ?side2 A3.out).mono ?_
    (case side1 => repeat (first | exact (Kd.C_below HR0_2.out HB.out) | (with_reducible refine Kd.C_alloc ?_ _) | (with_reducible refine Kd.C_drewN ?_ _) | (with_reducible refine Kd.C_drew ?_)))
    (case side2 => exact HC0_2.out)
    rintro e w110 ⟨rfl, hb⟩
    refine ⟨_, rfl, ?_⟩
    have n0_ := Aside0.mk (blk_below (g := gb614) (o := .cells #[.int .i64 a0_0, .int .i64 a0_1, .slice A0_2 l0_2.length c0_2] 24 (0, 0)) (by (with_reducible repeat (first | refine blk_drewN ?_ _ | refine blk_drew ?_ | refine blk_alloc ?_ _)); exact BK614.out) hb)
    have n1_ := Aside0.mk (blk_below (g := gb615) (o := .cells #[.int .i64 a1_0, .int .i64 a1_1, .slice A1_2 l1_2.length c1_2] 24 (0, 0)) (by (with_reducible repeat (first | refine blk_drewN ?_ _ | refine blk_drew ?_ | refine blk_alloc ?_ _)); exact BK615.out) hb)
    have n2_ := Aside0.mk (below_step (by repeat (first | (with_reducible first | exact HB.out | apply below_alloc | apply pw_below_drewN | apply below_drew1 | refine below_set ?_ GE614.out | refine below_set ?_ GE615.out) | exact HB.out)) hb)
    clear BK614
    clear BK615
    clear HB
    have BK614 := n0_
    have BK615 := n1_
    have HB := n2_
    clear n0_ n1_ n2_
    (try clear hb)
    (try clear hb2)
    (try clear hk)
    (try clear hi)
    refine hK.out _ _ ⟨(blk_cell BK614.out 0).trans rfl, (blk_cell BK614.out 1).trans rfl, (blk_cell BK614.out 2).trans rfl, (blk_cell BK615.out 0).trans rfl, (blk_cell BK615.out 1).trans rfl, (blk_cell BK615.out 2).trans rfl⟩ (fun hHeld => ?_)
    clear hK K
    refine norm_ (a' := ?_) ?_ ?_
    rotate_left
    ·show Act.put _ (some 7) _ = _
     simp only [Act.put, List.setIfInBounds_toArray, List.set_cons_zero, List.set_cons_succ, i64_w, i32_w]
     rfl
    refine one_ (i := 3) (N := some 9) Mk16_4_ rfl rfl (one_of HT_.out (by kernel_rfl)) (by decide) (fun K hK => ?_)
    refine goes_ Tryd.func9 (by kernel_rfl) rfl #[.agg #[.int .i64 a1_0, .int .i64 a1_1, .slice A1_2 l1_2.length c1_2]] (by rfl) rfl rfl (by (try simp only [List.map_toArray, List.map_cons, List.map_nil]); first | done | rfl | (simp only [List.length_drop, List.length_take]; rfl)) ?_
    with_reducible refine (parrylaw22_Heavy.calls k a1_0 a1_1 _ _ l1_2 t617 _ ?side1 ?side2 A4.out).mono ?_
    (case side1 => repeat (first | exact (Kd.C_below HR1_2.out HB.out) | (with_reducible refine Kd.C_alloc ?_ _) | (with_reducible refine Kd.C_drewN ?_ _) | (with_reducible refine Kd.C_drew ?_)))
    (case side2 => exact HC1_2.out)
    rintro e w111 ⟨rfl, hb⟩
    refine ⟨_, rfl, ?_⟩
    have n0_ := Aside0.mk (blk_below (g := gb614) (o := .cells #[.int .i64 a0_0, .int .i64 a0_1, .slice A0_2 l0_2.length c0_2] 24 (0, 0)) (by (with_reducible repeat (first | refine blk_drewN ?_ _ | refine blk_drew ?_ | refine blk_alloc ?_ _)); exact BK614.out) hb)
    have n1_ := Aside0.mk (blk_below (g := gb615) (o := .cells #[.int .i64 a1_0, .int .i64 a1_1, .slice A1_2 l1_2.length c1_2] 24 (0, 0)) (by (with_reducible repeat (first | refine blk_drewN ?_ _ | refine blk_drew ?_ | refine blk_alloc ?_ _)); exact BK615.out) hb)
    have n2_ := Aside0.mk (below_step (by repeat (first | (with_reducible first | exact HB.out | apply below_alloc | apply pw_below_drewN | apply below_drew1 | refine below_set ?_ GE614.out | refine below_set ?_ GE615.out) | exact HB.out)) hb)
    clear BK614
    clear BK615
    clear HB
    have BK614 := n0_
    have BK615 := n1_
    have HB := n2_
    clear n0_ n1_ n2_
    (try clear hb)
    (try clear hb2)
    (try clear hk)
    (try clear hi)
    refine hK.out _ _ ⟨(blk_cell BK614.out 0).trans rfl, (blk_cell BK614.out 1).trans rfl, (blk_cell BK614.out 2).trans rfl, (blk_cell BK615.out 0).trans rfl, (blk_cell BK615.out 1).trans rfl, (blk_cell BK615.out 2).trans rfl⟩ (fun hHeld => ?_)
    clear hK K
    refine norm_ (a' := ?_) ?_ ?_
    rotate_left
    ·show Act.put _ (some 9) _ = _
     simp only [Act.put, List.setIfInBounds_toArray, List.set_cons_zero, List.set_cons_succ, i64_w, i32_w]
     rfl
    refine pure_ (i := 4) (N := some 10) (v := ?_) (a' := ?_) Mk16_5_ rfl rfl (any_of HT_.out (by kernel_rfl)) (fun _ _ _ h => h) (Or.inl ⟨by rfl, ?_⟩) ?_ ?_; rotate_left; intro w'; go_simp; with_reducible rfl; rotate_left; simp only [Act.put, List.setIfInBounds_toArray, List.set_cons_zero, List.set_cons_succ, i64_w, i32_w]; rfl
    refine pure_ (i := 5) (N := some 11) (v := ?_) (a' := ?_) Mk16_6_ rfl rfl (any_of HT_.out (by kernel_rfl)) (fun _ _ _ h => h) (Or.inl ⟨by rfl, ?_⟩) ?_ ?_; rotate_left; intro w'; go_simp; with_reducible rfl; rotate_left; simp only [Act.put, List.setIfInBounds_toArray, List.set_cons_zero, List.set_cons_succ, i64_w, i32_w]; rfl
    refine pure_ (i := 6) (N := some 12) (v := ?_) (a' := ?_) Mk16_7_ rfl rfl (any_of HT_.out (by kernel_rfl)) (fun _ _ _ h => h) (Or.inl ⟨by rfl, ?_⟩) ?_ ?_; rotate_left; intro w'; go_simp; with_reducible rfl; rotate_left; simp only [Act.put, List.setIfInBounds_toArray, List.set_cons_zero, List.set_cons_succ, i64_w, i32_w]; rfl
    refine take_ (i := 7) (N := some 13) (v := ?_) (a' := ?_) Mk16_8_ rfl rfl (take_ofW HT_.out HW_.out (by kernel_rfl)) (fun _ _ _ h => h) (Or.inl ⟨by rfl, ?_⟩) hHeld ?_ ?_
    rotate_left
    ·rintro w' ⟨s0, s1, s2, s3, s4, s5⟩
     go_simp
     with_reducible rfl
    rotate_left
    ·simp only [Act.put, List.setIfInBounds_toArray, List.set_cons_zero, List.set_cons_succ, i64_w, i32_w]
     rfl
    refine one_ (i := 8) (N := some 14) Mk16_9_ rfl rfl (one_of HT_.out (by kernel_rfl)) (by decide) (fun K hK => ?_)
    refine goes_ Tryd.func20 (by kernel_rfl) rfl #[.agg #[.int .i64 a0_0, .int .i64 a0_1, .slice A0_2 l0_2.length c0_2]] (by rfl) rfl rfl (by (try simp only [List.map_toArray, List.map_cons, List.map_nil]); first | done | rfl | (simp only [List.length_drop, List.length_take]; rfl)) ?_
    with_reducible refine (parryref22_May.calls k a0_0 a0_1 _ _ l0_2 t619 _ ?side1 ?side2 A13.out).mono ?_
    (case side1 => repeat (first | exact (Kd.C_below HR0_2.out HB.out) | (with_reducible refine Kd.C_alloc ?_ _) | (with_reducible refine Kd.C_drewN ?_ _) | (with_reducible refine Kd.C_drew ?_)))
    (case side2 => exact HC0_2.out)
    rintro e w112 ⟨rfl, hb⟩
    refine ⟨_, rfl, ?_⟩
    have n0_ := Aside0.mk (blk_below (g := gb614) (o := .cells #[.int .i64 a0_0, .int .i64 a0_1, .slice A0_2 l0_2.length c0_2] 24 (0, 0)) (by (with_reducible repeat (first | refine blk_drewN ?_ _ | refine blk_drew ?_ | refine blk_alloc ?_ _)); exact BK614.out) hb)
    have n1_ := Aside0.mk (blk_below (g := gb615) (o := .cells #[.int .i64 a1_0, .int .i64 a1_1, .slice A1_2 l1_2.length c1_2] 24 (0, 0)) (by (with_reducible repeat (first | refine blk_drewN ?_ _ | refine blk_drew ?_ | refine blk_alloc ?_ _)); exact BK615.out) hb)
    have n2_ := Aside0.mk (below_step (by repeat (first | (with_reducible first | exact HB.out | apply below_alloc | apply pw_below_drewN | apply below_drew1 | refine below_set ?_ GE614.out | refine below_set ?_ GE615.out) | exact HB.out)) hb)
    clear BK614
    clear BK615
    clear HB
    have BK614 := n0_
    have BK615 := n1_
    have HB := n2_
    clear n0_ n1_ n2_
    (try clear hb)
    (try clear hb2)
    (try clear hk)
    (try clear hi)
    refine hK.out _ _ ⟨(blk_cell BK614.out 0).trans rfl, (blk_cell BK614.out 1).trans rfl, (blk_cell BK614.out 2).trans rfl, (blk_cell BK615.out 0).trans rfl, (blk_cell BK615.out 1).trans rfl, (blk_cell BK615.out 2).trans rfl⟩ (fun hHeld => ?_)
    clear hK K
    refine norm_ (a' := ?_) ?_ ?_
    rotate_left
    ·show Act.put _ (some 14) _ = _
     simp only [Act.put, List.setIfInBounds_toArray, List.set_cons_zero, List.set_cons_succ, i64_w, i32_w]
     rfl
    refine pure_ (i := 9) (N := some 15) (v := ?_) (a' := ?_) Mk16_10_ rfl rfl (any_of HT_.out (by kernel_rfl)) (fun _ _ _ h => h) (Or.inl ⟨by rfl, ?_⟩) ?_ ?_; rotate_left; intro w'; go_simp; with_reducible rfl; rotate_left; simp only [Act.put, List.setIfInBounds_toArray, List.set_cons_zero, List.set_cons_succ, i64_w, i32_w]; rfl
    refine pure_ (i := 10) (N := some 16) (v := ?_) (a' := ?_) Mk16_11_ rfl rfl (any_of HT_.out (by kernel_rfl)) (fun _ _ _ h => h) (Or.inl ⟨by rfl, ?_⟩) ?_ ?_; rotate_left; intro w'; go_simp; with_reducible rfl; rotate_left; simp only [Act.put, List.setIfInBounds_toArray, List.set_cons_zero, List.set_cons_succ, i64_w, i32_w]; rfl
    refine pure_ (i := 11) (N := some 17) (v := ?_) (a' := ?_) Mk16_12_ rfl rfl (any_of HT_.out (by kernel_rfl)) (fun _ _ _ h => h) (Or.inl ⟨by rfl, ?_⟩) ?_ ?_; rotate_left; intro w'; go_simp; with_reducible rfl; rotate_left; simp only [Act.put, List.setIfInBounds_toArray, List.set_cons_zero, List.set_cons_succ, i64_w, i32_w]; rfl
    refine take_ (i := 12) (N := some 18) (v := ?_) (a' := ?_) Mk16_13_ rfl rfl (take_ofW HT_.out HW_.out (by kernel_rfl)) (fun _ _ _ h => h) (Or.inl ⟨by rfl, ?_⟩) hHeld ?_ ?_
    rotate_left
    ·rintro w' ⟨s0, s1, s2, s3, s4, s5⟩
     go_simp
     with_reducible rfl
    rotate_left
    ·simp only [Act.put, List.setIfInBounds_toArray, List.set_cons_zero, List.set_cons_succ, i64_w, i32_w]
     rfl
    refine one_ (i := 13) (N := some 19) Mk16_14_ rfl rfl (one_of HT_.out (by kernel_rfl)) (by decide) (fun K hK => ?_)
    refine goes_ Tryd.func20 (by kernel_rfl) rfl #[.agg #[.int .i64 a1_0, .int .i64 a1_1, .slice A1_2 l1_2.length c1_2]] (by rfl) rfl rfl (by (try simp only [List.map_toArray, List.map_cons, List.map_nil]); first | done | rfl | (simp only [List.length_drop, List.length_take]; rfl)) ?_
    with_reducible refine (parryref22_May.calls k a1_0 a1_1 _ _ l1_2 t620 _ ?side1 ?side2 A15.out).mono ?_
    (case side1 => repeat (first | exact (Kd.C_below HR1_2.out HB.out) | (with_reducible refine Kd.C_alloc ?_ _) | (with_reducible refine Kd.C_drewN ?_ _) | (with_reducible refine Kd.C_drew ?_)))
    (case side2 => exact HC1_2.out)
    rintro e w113 ⟨rfl, hb⟩
    refine ⟨_, rfl, ?_⟩
    have n0_ := Aside0.mk (blk_below (g := gb614) (o := .cells #[.int .i64 a0_0, .int .i64 a0_1, .slice A0_2 l0_2.length c0_2] 24 (0, 0)) (by (with_reducible repeat (first | refine blk_drewN ?_ _ | refine blk_drew ?_ | refine blk_alloc ?_ _)); exact BK614.out) hb)
    have n1_ := Aside0.mk (blk_below (g := gb615) (o := .cells #[.int .i64 a1_0, .int .i64 a1_1, .slice A1_2 l1_2.length c1_2] 24 (0, 0)) (by (with_reducible repeat (first | refine blk_drewN ?_ _ | refine blk_drew ?_ | refine blk_alloc ?_ _)); exact BK615.out) hb)
    have n2_ := Aside0.mk (below_step (by repeat (first | (with_reducible first | exact HB.out | apply below_alloc | apply pw_below_drewN | apply below_drew1 | refine below_set ?_ GE614.out | refine below_set ?_ GE615.out) | exact HB.out)) hb)
    clear BK614
    clear BK615
    clear HB
    have BK614 := n0_
    have BK615 := n1_
    have HB := n2_
    clear n0_ n1_ n2_
    (try clear hb)
    (try clear hb2)
    (try clear hk)
    (try clear hi)
    refine hK.out _ _ ⟨(blk_cell BK614.out 0).trans rfl, (blk_cell BK614.out 1).trans rfl, (blk_cell BK614.out 2).trans rfl, (blk_cell BK615.out 0).trans rfl, (blk_cell BK615.out 1).trans rfl, (blk_cell BK615.out 2).trans rfl⟩ (fun hHeld => ?_)
    clear hK K
    refine norm_ (a' := ?_) ?_ ?_
    rotate_left
    ·show Act.put _ (some 19) _ = _
     simp only [Act.put, List.setIfInBounds_toArray, List.set_cons_zero, List.set_cons_succ, i64_w, i32_w]
     rfl
    refine pure_ (i := 14) (N := some 20) (v := ?_) (a' := ?_) Mk16_15_ rfl rfl (any_of HT_.out (by kernel_rfl)) (fun _ _ _ h => h) (Or.inl ⟨by rfl, ?_⟩) ?_ ?_; rotate_left; intro w'; go_simp; with_reducible rfl; rotate_left; simp only [Act.put, List.setIfInBounds_toArray, List.set_cons_zero, List.set_cons_succ, i64_w, i32_w]; rfl
    refine pure_ (i := 15) (N := some 21) (v := ?_) (a' := ?_) Mk16_16_ rfl rfl (any_of HT_.out (by kernel_rfl)) (fun _ _ _ h => h) (Or.inl ⟨by rfl, ?_⟩) ?_ ?_; rotate_left; intro w'; go_simp; with_reducible rfl; rotate_left; simp only [Act.put, List.setIfInBounds_toArray, List.set_cons_zero, List.set_cons_succ, i64_w, i32_w]; rfl
    refine done_ (done_of HT_.out (by kernel_rfl)) ?_
    try go_wp2_with (first | ((with_reducible refine gate_callee (f := 11) rfl ?_); refine goesL_ (some 22) rfl rfl Tryd.func11 (by kernel_rfl) rfl #[] rfl (by (try simp only [List.map_toArray, List.map_cons, List.map_nil]); first | done | rfl | (simp only [List.length_drop, List.length_take]; rfl)) ?_; (with_reducible refine (parrylaw22_awake.calls  t645 _ A106.out).mono ?_); rintro e w114 ⟨rfl, hb⟩; refine ⟨_, rfl, ?_⟩; have n0_ := Aside0.mk (blk_below (g := gb614) (o := .cells #[.int .i64 a0_0, .int .i64 a0_1, .slice A0_2 l0_2.length c0_2] 24 (0, 0)) (by (with_reducible repeat (first | refine blk_drewN ?_ _ | refine blk_drew ?_ | refine blk_alloc ?_ _)); exact BK614.out) hb); have n1_ := Aside0.mk (blk_below (g := gb615) (o := .cells #[.int .i64 a1_0, .int .i64 a1_1, .slice A1_2 l1_2.length c1_2] 24 (0, 0)) (by (with_reducible repeat (first | refine blk_drewN ?_ _ | refine blk_drew ?_ | refine blk_alloc ?_ _)); exact BK615.out) hb); have n2_ := Aside0.mk (below_step (by repeat (first | (with_reducible first | exact HB.out | apply below_alloc | apply pw_below_drewN | apply below_drew1 | refine below_set ?_ GE614.out | refine below_set ?_ GE615.out) | exact HB.out)) hb); clear BK614; clear BK615; clear HB; have BK614 := n0_; have BK615 := n1_; have HB := n2_; clear n0_ n1_ n2_; (try clear hb); (try clear hb2); (try clear hk); (try clear hi)))
    go_ret
    exact ⟨by first | rfl | (simp [errW_none, errW_some] <;> rfl) | (simp [*, errW_none, errW_some] <;> rfl), by repeat (first | (with_reducible first | exact HB.out | apply below_alloc | apply pw_below_drewN | apply below_drew1 | refine below_set ?_ GE614.out | refine below_set ?_ GE615.out) | exact HB.out)⟩
  ·rw [if_neg c14] at H
   have c14b0 : (t619 == 0) = false := beq_eq_false_iff_ne.mpr c14
   have c14b1 : (t619 != 0) = true := bne_iff_ne.mpr c14
   replace H := Option.bind_eq_some_iff.mp H
   obtain ⟨t646, A1150, H⟩ := H
   replace H : (some t646) = some r := H
   have A115 := Aside0.mk A1150
   clear A1150
   obtain rfl := Option.some.inj H
   go_enter Tryd.func8, Tryd.ntmps8
   try go_wp2_with (first | ((with_reducible refine gate_dst (N := 2) rfl ?_); refine box_event ?hg (N := 2) ?hd (cs := #[.int .i64 a0_0, .int .i64 a0_1, .slice A0_2 l0_2.length c0_2]) (t := 24) ?hr ?_; (case hd => rfl); (case hg => rfl); (case hr => first | (go_simp; done) | (go_simp; rfl)); intro gb614 hg w116 hbox hb; have n0_ := Aside0.mk (below_step (by repeat (first | (with_reducible first | exact HB.out | apply below_alloc | apply pw_below_drewN | apply below_drew1) | exact HB.out)) hb); have n1_ := Aside0.mk (hbox); have n2_ := Aside0.mk ((by rw [hg]; exact (below_size (by repeat (first | (with_reducible first | exact HB.out | apply below_alloc | apply pw_below_drewN | apply below_drew1) | exact HB.out))) : w.heap.size ≤ gb614)); have n3_ := Aside0.mk ((by rw [hg]; exact (below_size (by repeat (first | (with_reducible first | exact HB.out | apply below_alloc | apply pw_below_drewN | apply below_drew1) | exact HB.out))) : w.heap.size ≤ gb614)); clear HB; have HB := n0_; have BK614 := n1_; have GW614 := n2_; have GE614 := n3_; clear n0_ n1_ n2_ n3_; clear hb hbox hg) | ((with_reducible refine gate_dst (N := 3) rfl ?_); refine box_event ?hg (N := 3) ?hd (cs := #[.int .i64 a1_0, .int .i64 a1_1, .slice A1_2 l1_2.length c1_2]) (t := 24) ?hr ?_; (case hd => rfl); (case hg => rfl); (case hr => first | (go_simp; done) | (go_simp; rfl)); intro gb615 hg w117 hbox hb; have n0_ := Aside0.mk (blk_below (g := gb614) (o := .cells #[.int .i64 a0_0, .int .i64 a0_1, .slice A0_2 l0_2.length c0_2] 24 (0, 0)) (by (with_reducible repeat (first | refine blk_drewN ?_ _ | refine blk_drew ?_ | refine blk_alloc ?_ _)); exact BK614.out) hb); have n1_ := Aside0.mk (below_step (by repeat (first | (with_reducible first | exact HB.out | apply below_alloc | apply pw_below_drewN | apply below_drew1 | refine below_set ?_ GE614.out) | exact HB.out)) hb); have n2_ := Aside0.mk (hbox); have n3_ := Aside0.mk ((by rw [hg]; exact (below_size (by repeat (first | (with_reducible first | exact HB.out | apply below_alloc | apply pw_below_drewN | apply below_drew1 | refine below_set ?_ GE614.out) | exact HB.out))) : w.heap.size ≤ gb615)); have n4_ := Aside0.mk ((by rw [hg]; exact (below_size (by repeat (first | (with_reducible first | exact HB.out | apply below_alloc | apply pw_below_drewN | apply below_drew1 | refine below_set ?_ GE614.out) | exact HB.out))) : w.heap.size ≤ gb615)); have n5_ := Aside0.mk ((by rw [hg]; exact Nat.ne_of_lt (blk_lt (g := gb614) (o := .cells #[.int .i64 a0_0, .int .i64 a0_1, .slice A0_2 l0_2.length c0_2] 24 (0, 0)) (by (with_reducible repeat (first | refine blk_drewN ?_ _ | refine blk_drew ?_ | refine blk_alloc ?_ _)); exact BK614.out)) : gb614 ≠ gb615)); have n6_ := Aside0.mk ((by rw [hg]; exact Nat.ne_of_gt (blk_lt (g := gb614) (o := .cells #[.int .i64 a0_0, .int .i64 a0_1, .slice A0_2 l0_2.length c0_2] 24 (0, 0)) (by (with_reducible repeat (first | refine blk_drewN ?_ _ | refine blk_drew ?_ | refine blk_alloc ?_ _)); exact BK614.out)) : gb615 ≠ gb614)); clear BK614; clear HB; have BK614 := n0_; have HB := n1_; have BK615 := n2_; have GW615 := n3_; have GE615 := n4_; have NB614_615 := n5_; have NB615_614 := n6_; clear n0_ n1_ n2_ n3_ n4_ n5_ n6_; clear hb hbox hg))
   have n0_ := Aside0.mk (blk_drew BK614.out)
   have n1_ := Aside0.mk (blk_drew BK615.out)
   have n2_ := Aside0.mk (below_drew1 HB.out)
   clear BK614
   clear BK615
   clear HB
   have BK614 := n0_
   have BK615 := n1_
   have HB := n2_
   clear n0_ n1_ n2_
   refine start_ (n := 16) (S := fun w' => w'.cell? ⟨gb614, 0, none⟩ = some (.int .i64 a0_0) ∧ w'.cell? ⟨gb614, 1, none⟩ = some (.int .i64 a0_1) ∧ w'.cell? ⟨gb614, 2, none⟩ = some (.slice A0_2 l0_2.length c0_2) ∧ w'.cell? ⟨gb615, 0, none⟩ = some (.int .i64 a1_0) ∧ w'.cell? ⟨gb615, 1, none⟩ = some (.int .i64 a1_1) ∧ w'.cell? ⟨gb615, 2, none⟩ = some (.slice A1_2 l1_2.length c1_2)) (ds := []) Mk16_0_ (by kernel_rfl) rfl rfl ⟨(blk_cell BK614.out 0).trans rfl, (blk_cell BK614.out 1).trans rfl, (blk_cell BK614.out 2).trans rfl, (blk_cell BK615.out 0).trans rfl, (blk_cell BK615.out 1).trans rfl, (blk_cell BK615.out 2).trans rfl⟩ (fun hHeld => ?_); refine with_tabW parrylaw22_FormulaTexts.tab1 parrylaw22_FormulaTexts.bits1 (fun HT_ HW_ => ?_)
   generalize w117.drew = w118 at BK614 BK615 HB hHeld ⊢
   refine take_ (i := 0) (N := some 6) (v := ?_) (a' := ?_) Mk16_1_ rfl rfl (take_ofW HT_.out HW_.out (by kernel_rfl)) (fun _ _ _ h => h) (Or.inl ⟨by rfl, ?_⟩) hHeld ?_ ?_
   rotate_left
   ·rintro w' ⟨s0, s1, s2, s3, s4, s5⟩
    go_simp
    with_reducible rfl
   rotate_left
   ·simp only [Act.put, List.setIfInBounds_toArray, List.set_cons_zero, List.set_cons_succ, i64_w, i32_w]
    rfl
   refine take_ (i := 2) (N := some 8) (v := ?_) (a' := ?_) Mk16_2_ rfl rfl (take_ofW HT_.out HW_.out (by kernel_rfl)) (fun _ _ _ h => h) (Or.inl ⟨by rfl, ?_⟩) hHeld ?_ ?_
   rotate_left
   ·rintro w' ⟨s0, s1, s2, s3, s4, s5⟩
    go_simp
    with_reducible rfl
   rotate_left
   ·simp only [Act.put, List.setIfInBounds_toArray, List.set_cons_zero, List.set_cons_succ, i64_w, i32_w]
    rfl
   refine one_ (i := 1) (N := some 7) Mk16_3_ rfl rfl (one_of HT_.out (by kernel_rfl)) (by decide) (fun K hK => ?_)
   refine goes_ Tryd.func9 (by kernel_rfl) rfl #[.agg #[.int .i64 a0_0, .int .i64 a0_1, .slice A0_2 l0_2.length c0_2]] (by rfl) rfl rfl (by (try simp only [List.map_toArray, List.map_cons, List.map_nil]); first | done | rfl | (simp only [List.length_drop, List.length_take]; rfl)) ?_
   with_reducible refine (parrylaw22_Heavy.calls k a0_0 a0_1 _ _ l0_2 t616 _ ?side1 ?side2 A3.out).mono ?_
   (case side1 => repeat (first | exact (Kd.C_below HR0_2.out HB.out) | (with_reducible refine Kd.C_alloc ?_ _) | (with_reducible refine Kd.C_drewN ?_ _) | (with_reducible refine Kd.C_drew ?_)))
   (case side2 => exact HC0_2.out)
   rintro e w119 ⟨rfl, hb⟩
   refine ⟨_, rfl, ?_⟩
   have n0_ := Aside0.mk (blk_below (g := gb614) (o := .cells #[.int .i64 a0_0, .int .i64 a0_1, .slice A0_2 l0_2.length c0_2] 24 (0, 0)) (by (with_reducible repeat (first | refine blk_drewN ?_ _ | refine blk_drew ?_ | refine blk_alloc ?_ _)); exact BK614.out) hb)
   have n1_ := Aside0.mk (blk_below (g := gb615) (o := .cells #[.int .i64 a1_0, .int .i64 a1_1, .slice A1_2 l1_2.length c1_2] 24 (0, 0)) (by (with_reducible repeat (first | refine blk_drewN ?_ _ | refine blk_drew ?_ | refine blk_alloc ?_ _)); exact BK615.out) hb)
   have n2_ := Aside0.mk (below_step (by repeat (first | (with_reducible first | exact HB.out | apply below_alloc | apply pw_below_drewN | apply below_drew1 | refine below_set ?_ GE614.out | refine below_set ?_ GE615.out) | exact HB.out)) hb)
   clear BK614
   clear BK615
   clear HB
   have BK614 := n0_
   have BK615 := n1_
   have HB := n2_
   clear n0_ n1_ n2_
   (try clear hb)
   (try clear hb2)
   (try clear hk)
   (try clear hi)
   refine hK.out _ _ ⟨(blk_cell BK614.out 0).trans rfl, (blk_cell BK614.out 1).trans rfl, (blk_cell BK614.out 2).trans rfl, (blk_cell BK615.out 0).trans rfl, (blk_cell BK615.out 1).trans rfl, (blk_cell BK615.out 2).trans rfl⟩ (fun hHeld => ?_)
   clear hK K
   refine norm_ (a' := ?_) ?_ ?_
   rotate_left
   ·show Act.put _ (some 7) _ = _
    simp only [Act.put, List.setIfInBounds_toArray, List.set_cons_zero, List.set_cons_succ, i64_w, i32_w]
    rfl
   refine one_ (i := 3) (N := some 9) Mk16_4_ rfl rfl (one_of HT_.out (by kernel_rfl)) (by decide) (fun K hK => ?_)
   refine goes_ Tryd.func9 (by kernel_rfl) rfl #[.agg #[.int .i64 a1_0, .int .i64 a1_1, .slice A1_2 l1_2.length c1_2]] (by rfl) rfl rfl (by (try simp only [List.map_toArray, List.map_cons, List.map_nil]); first | done | rfl | (simp only [List.length_drop, List.length_take]; rfl)) ?_
   with_reducible refine (parrylaw22_Heavy.calls k a1_0 a1_1 _ _ l1_2 t617 _ ?side1 ?side2 A4.out).mono ?_
   (case side1 => repeat (first | exact (Kd.C_below HR1_2.out HB.out) | (with_reducible refine Kd.C_alloc ?_ _) | (with_reducible refine Kd.C_drewN ?_ _) | (with_reducible refine Kd.C_drew ?_)))
   (case side2 => exact HC1_2.out)
   rintro e w120 ⟨rfl, hb⟩
   refine ⟨_, rfl, ?_⟩
   have n0_ := Aside0.mk (blk_below (g := gb614) (o := .cells #[.int .i64 a0_0, .int .i64 a0_1, .slice A0_2 l0_2.length c0_2] 24 (0, 0)) (by (with_reducible repeat (first | refine blk_drewN ?_ _ | refine blk_drew ?_ | refine blk_alloc ?_ _)); exact BK614.out) hb)
   have n1_ := Aside0.mk (blk_below (g := gb615) (o := .cells #[.int .i64 a1_0, .int .i64 a1_1, .slice A1_2 l1_2.length c1_2] 24 (0, 0)) (by (with_reducible repeat (first | refine blk_drewN ?_ _ | refine blk_drew ?_ | refine blk_alloc ?_ _)); exact BK615.out) hb)
   have n2_ := Aside0.mk (below_step (by repeat (first | (with_reducible first | exact HB.out | apply below_alloc | apply pw_below_drewN | apply below_drew1 | refine below_set ?_ GE614.out | refine below_set ?_ GE615.out) | exact HB.out)) hb)
   clear BK614
   clear BK615
   clear HB
   have BK614 := n0_
   have BK615 := n1_
   have HB := n2_
   clear n0_ n1_ n2_
   (try clear hb)
   (try clear hb2)
   (try clear hk)
   (try clear hi)
   refine hK.out _ _ ⟨(blk_cell BK614.out 0).trans rfl, (blk_cell BK614.out 1).trans rfl, (blk_cell BK614.out 2).trans rfl, (blk_cell BK615.out 0).trans rfl, (blk_cell BK615.out 1).trans rfl, (blk_cell BK615.out 2).trans rfl⟩ (fun hHeld => ?_)
   clear hK K
   refine norm_ (a' := ?_) ?_ ?_
   rotate_left
   ·show Act.put _ (some 9) _ = _
    simp only [Act.put, List.setIfInBounds_toArray, List.set_cons_zero, List.set_cons_succ, i64_w, i32_w]
    rfl
   refine pure_ (i := 4) (N := some 10) (v := ?_) (a' := ?_) Mk16_5_ rfl rfl (any_of HT_.out (by kernel_rfl)) (fun _ _ _ h => h) (Or.inl ⟨by rfl, ?_⟩) ?_ ?_; rotate_left; intro w'; go_simp; with_reducible rfl; rotate_left; simp only [Act.put, List.setIfInBounds_toArray, List.set_cons_zero, List.set_cons_succ, i64_w, i32_w]; rfl
   refine pure_ (i := 5) (N := some 11) (v := ?_) (a' := ?_) Mk16_6_ rfl rfl (any_of HT_.out (by kernel_rfl)) (fun _ _ _ h => h) (Or.inl ⟨by rfl, ?_⟩) ?_ ?_; rotate_left; intro w'; go_simp; with_reducible rfl; rotate_left; simp only [Act.put, List.setIfInBounds_toArray, List.set_cons_zero, List.set_cons_succ, i64_w, i32_w]; rfl
   refine pure_ (i := 6) (N := some 12) (v := ?_) (a' := ?_) Mk16_7_ rfl rfl (any_of HT_.out (by kernel_rfl)) (fun _ _ _ h => h) (Or.inl ⟨by rfl, ?_⟩) ?_ ?_; rotate_left; intro w'; go_simp; with_reducible rfl; rotate_left; simp only [Act.put, List.setIfInBounds_toArray, List.set_cons_zero, List.set_cons_succ, i64_w, i32_w]; rfl
   refine take_ (i := 7) (N := some 13) (v := ?_) (a' := ?_) Mk16_8_ rfl rfl (take_ofW HT_.out HW_.out (by kernel_rfl)) (fun _ _ _ h => h) (Or.inl ⟨by rfl, ?_⟩) hHeld ?_ ?_
   rotate_left
   ·rintro w' ⟨s0, s1, s2, s3, s4, s5⟩
    go_simp
    with_reducible rfl
   rotate_left
   ·simp only [Act.put, List.setIfInBounds_toArray, List.set_cons_zero, List.set_cons_succ, i64_w, i32_w]
    rfl
   refine one_ (i := 8) (N := some 14) Mk16_9_ rfl rfl (one_of HT_.out (by kernel_rfl)) (by decide) (fun K hK => ?_)
   refine goes_ Tryd.func20 (by kernel_rfl) rfl #[.agg #[.int .i64 a0_0, .int .i64 a0_1, .slice A0_2 l0_2.length c0_2]] (by rfl) rfl rfl (by (try simp only [List.map_toArray, List.map_cons, List.map_nil]); first | done | rfl | (simp only [List.length_drop, List.length_take]; rfl)) ?_
   with_reducible refine (parryref22_May.calls k a0_0 a0_1 _ _ l0_2 t619 _ ?side1 ?side2 A13.out).mono ?_
   (case side1 => repeat (first | exact (Kd.C_below HR0_2.out HB.out) | (with_reducible refine Kd.C_alloc ?_ _) | (with_reducible refine Kd.C_drewN ?_ _) | (with_reducible refine Kd.C_drew ?_)))
   (case side2 => exact HC0_2.out)
   rintro e w121 ⟨rfl, hb⟩
   refine ⟨_, rfl, ?_⟩
   have n0_ := Aside0.mk (blk_below (g := gb614) (o := .cells #[.int .i64 a0_0, .int .i64 a0_1, .slice A0_2 l0_2.length c0_2] 24 (0, 0)) (by (with_reducible repeat (first | refine blk_drewN ?_ _ | refine blk_drew ?_ | refine blk_alloc ?_ _)); exact BK614.out) hb)
   have n1_ := Aside0.mk (blk_below (g := gb615) (o := .cells #[.int .i64 a1_0, .int .i64 a1_1, .slice A1_2 l1_2.length c1_2] 24 (0, 0)) (by (with_reducible repeat (first | refine blk_drewN ?_ _ | refine blk_drew ?_ | refine blk_alloc ?_ _)); exact BK615.out) hb)
   have n2_ := Aside0.mk (below_step (by repeat (first | (with_reducible first | exact HB.out | apply below_alloc | apply pw_below_drewN | apply below_drew1 | refine below_set ?_ GE614.out | refine below_set ?_ GE615.out) | exact HB.out)) hb)
   clear BK614
   clear BK615
   clear HB
   have BK614 := n0_
   have BK615 := n1_
   have HB := n2_
   clear n0_ n1_ n2_
   (try clear hb)
   (try clear hb2)
   (try clear hk)
   (try clear hi)
   refine hK.out _ _ ⟨(blk_cell BK614.out 0).trans rfl, (blk_cell BK614.out 1).trans rfl, (blk_cell BK614.out 2).trans rfl, (blk_cell BK615.out 0).trans rfl, (blk_cell BK615.out 1).trans rfl, (blk_cell BK615.out 2).trans rfl⟩ (fun hHeld => ?_)
   clear hK K
   refine norm_ (a' := ?_) ?_ ?_
   rotate_left
   ·show Act.put _ (some 14) _ = _
    simp only [Act.put, List.setIfInBounds_toArray, List.set_cons_zero, List.set_cons_succ, i64_w, i32_w]
    rfl
   refine pure_ (i := 9) (N := some 15) (v := ?_) (a' := ?_) Mk16_10_ rfl rfl (any_of HT_.out (by kernel_rfl)) (fun _ _ _ h => h) (Or.inl ⟨by rfl, ?_⟩) ?_ ?_; rotate_left; intro w'; go_simp; with_reducible rfl; rotate_left; simp only [Act.put, List.setIfInBounds_toArray, List.set_cons_zero, List.set_cons_succ, i64_w, i32_w]; rfl
   refine pure_ (i := 10) (N := some 16) (v := ?_) (a' := ?_) Mk16_11_ rfl rfl (any_of HT_.out (by kernel_rfl)) (fun _ _ _ h => h) (Or.inl ⟨by rfl, ?_⟩) ?_ ?_; rotate_left; intro w'; go_simp; with_reducible rfl; rotate_left; simp only [Act.put, List.setIfInBounds_toArray, List.set_cons_zero, List.set_cons_succ, i64_w, i32_w]; rfl
   refine pure_ (i := 11) (N := some 17) (v := ?_) (a' := ?_) Mk16_12_ rfl rfl (any_of HT_.out (by kernel_rfl)) (fun _ _ _ h => h) (Or.inl ⟨by rfl, ?_⟩) ?_ ?_; rotate_left; intro w'; go_simp; with_reducible rfl; rotate_left; simp only [Act.put, List.setIfInBounds_toArray, List.set_cons_zero, List.set_cons_succ, i64_w, i32_w]; rfl
   refine pure_ (i := 12) (N := some 18) (v := undef) (a' := ?_) Mk16_13_ rfl rfl (any_of HT_.out (by kernel_rfl)) (fun _ _ _ h => h) (Or.inr ⟨by rfl, rfl⟩) ?_ ?_
   rotate_left
   ·simp only [Act.put, List.setIfInBounds_toArray, List.set_cons_zero, List.set_cons_succ, i64_w, i32_w]
    rfl
   refine pure_ (i := 13) (N := some 19) (v := undef) (a' := ?_) Mk16_14_ rfl rfl (any_of HT_.out (by kernel_rfl)) (fun _ _ _ h => h) (Or.inr ⟨by rfl, rfl⟩) ?_ ?_
   rotate_left
   ·simp only [Act.put, List.setIfInBounds_toArray, List.set_cons_zero, List.set_cons_succ, i64_w, i32_w]
    rfl
   refine pure_ (i := 14) (N := some 20) (v := undef) (a' := ?_) Mk16_15_ rfl rfl (any_of HT_.out (by kernel_rfl)) (fun _ _ _ h => h) (Or.inr ⟨by rfl, rfl⟩) ?_ ?_
   rotate_left
   ·simp only [Act.put, List.setIfInBounds_toArray, List.set_cons_zero, List.set_cons_succ, i64_w, i32_w]
    rfl
   refine pure_ (i := 15) (N := some 21) (v := ?_) (a' := ?_) Mk16_16_ rfl rfl (any_of HT_.out (by kernel_rfl)) (fun _ _ _ h => h) (Or.inl ⟨by rfl, ?_⟩) ?_ ?_; rotate_left; intro w'; go_simp; with_reducible rfl; rotate_left; simp only [Act.put, List.setIfInBounds_toArray, List.set_cons_zero, List.set_cons_succ, i64_w, i32_w]; rfl
   refine done_ (done_of HT_.out (by kernel_rfl)) ?_
   try go_wp2_with (first | ((with_reducible refine gate_callee (f := 11) rfl ?_); refine goesL_ (some 22) rfl rfl Tryd.func11 (by kernel_rfl) rfl #[] rfl (by (try simp only [List.map_toArray, List.map_cons, List.map_nil]); first | done | rfl | (simp only [List.length_drop, List.length_take]; rfl)) ?_; (with_reducible refine (parrylaw22_awake.calls  t646 _ A115.out).mono ?_); rintro e w122 ⟨rfl, hb⟩; refine ⟨_, rfl, ?_⟩; have n0_ := Aside0.mk (blk_below (g := gb614) (o := .cells #[.int .i64 a0_0, .int .i64 a0_1, .slice A0_2 l0_2.length c0_2] 24 (0, 0)) (by (with_reducible repeat (first | refine blk_drewN ?_ _ | refine blk_drew ?_ | refine blk_alloc ?_ _)); exact BK614.out) hb); have n1_ := Aside0.mk (blk_below (g := gb615) (o := .cells #[.int .i64 a1_0, .int .i64 a1_1, .slice A1_2 l1_2.length c1_2] 24 (0, 0)) (by (with_reducible repeat (first | refine blk_drewN ?_ _ | refine blk_drew ?_ | refine blk_alloc ?_ _)); exact BK615.out) hb); have n2_ := Aside0.mk (below_step (by repeat (first | (with_reducible first | exact HB.out | apply below_alloc | apply pw_below_drewN | apply below_drew1 | refine below_set ?_ GE614.out | refine below_set ?_ GE615.out) | exact HB.out)) hb); clear BK614; clear BK615; clear HB; have BK614 := n0_; have BK615 := n1_; have HB := n2_; clear n0_ n1_ n2_; (try clear hb); (try clear hb2); (try clear hk); (try clear hi)))
   go_ret
   exact ⟨by first | rfl | (simp [errW_none, errW_some] <;> rfl) | (simp [*, errW_none, errW_some] <;> rfl), by repeat (first | (with_reducible first | exact HB.out | apply below_alloc | apply pw_below_drewN | apply below_drew1 | refine below_set ?_ GE614.out | refine below_set ?_ GE615.out) | exact HB.out)⟩

end Go.Proofs.YtjjnokodkeekhaaDoor.P

