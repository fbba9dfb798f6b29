/- A part of the claim FormulaForms. -/
import Derived.Test.YtjjnokodkeekhaaDoorQFormulaFormsa
import Derived.Test.YtjjnokodkeekhaaDoorQFormulaFormsb
import Derived.Test.YtjjnokodkeekhaaDoorQFormulaFormsc
namespace Go.Proofs.YtjjnokodkeekhaaDoor.P
open Go.RowKit Go.Proofs.YtjjnokodkeekhaaDoorW.PrintWords Go.Proofs.YtjjnokodkeekhaaDoorW.PrintLast Go.Proofs.YtjjnokodkeekhaaDoorW.PrintMore
attribute [local go_sem] max2_int min2_int max_two min_two max_three min_three max_four min_four   -- for this text's walks alone
set_option linter.unusedVariables false
set_option linter.unusedSimpArgs false

mutual
def parryref22_same.j0 : Nat → Bool → Int → Int → List (S24) → Int → Int → List (S24) → Option (Bool)
  | 0, _, _, _, _, _, _, _ => none
  | k + 1, x26, x550000, x550001, x550002, x551000, x551001, x551002 => if x26 = true then (some false) else (parryref22_same.l0 k (x550002.length : Int) 0 x550000 x550001 x550002 x551000 x551001 x551002)
def parryref22_same.l0 : Nat → Int → Int → Int → Int → List (S24) → Int → Int → List (S24) → Option (Bool)
  | 0, _, _, _, _, _, _, _, _ => none
  | k + 1, x29, x30, x550000, x550001, x550002, x551000, x551001, x551002 => if x30 < x29 then (if 0 ≤ x30 then (if x30 < (x550002.length : Int) then (if x30 < (x551002.length : Int) then ((parryref22_same.f k ((rd_T24 x550002 x30).f0) ((rd_T24 x550002 x30).f1) ((rd_T24 x550002 x30).f2) ((rd_T24 x551002 x30).f0) ((rd_T24 x551002 x30).f1) ((rd_T24 x551002 x30).f2)).bind fun t553 => (if t553 = true then (parryref22_same.l0 k x29 (wrap64 (x30 + 1)) x550000 x550001 x550002 x551000 x551001 x551002) else (some false))) else (none)) else (none)) else (none)) else (some true)
def parryref22_same.f : Nat → Int → Int → List (S24) → Int → Int → List (S24) → Option (Bool)
  | 0, _, _, _, _, _, _ => none
  | k + 1, a0_0, a0_1, l0_2, a1_0, a1_1, l1_2 => if a0_0 = a1_0 then (if a0_1 = a1_1 then (parryref22_same.j0 k ((l0_2.length : Int) != (l1_2.length : Int)) a0_0 a0_1 l0_2 a1_0 a1_1 l1_2) else (parryref22_same.j0 k true a0_0 a0_1 l0_2 a1_0 a1_1 l1_2)) else (parryref22_same.j0 k true a0_0 a0_1 l0_2 a1_0 a1_1 l1_2)
end
theorem parryref22_same.mono_l : ∀ k, (∀ y0 y1 y2 y3 y4 y5, LeO (parryref22_same.f k y0 y1 y2 y3 y4 y5) (parryref22_same.f (k + 1) y0 y1 y2 y3 y4 y5)) ∧ (∀ y0 y1 y2 y3 y4 y5 y6, LeO (parryref22_same.j0 k y0 y1 y2 y3 y4 y5 y6) (parryref22_same.j0 (k + 1) y0 y1 y2 y3 y4 y5 y6)) ∧ (∀ y0 y1 y2 y3 y4 y5 y6 y7, LeO (parryref22_same.l0 k y0 y1 y2 y3 y4 y5 y6 y7) (parryref22_same.l0 (k + 1) y0 y1 y2 y3 y4 y5 y6 y7))
  | 0 => ⟨fun _ _ _ _ _ _ r h => by simp [parryref22_same.f] at h, fun _ _ _ _ _ _ _ r h => by simp [parryref22_same.j0] at h, fun _ _ _ _ _ _ _ _ r h => by simp [parryref22_same.l0] at h⟩
  | k + 1 => by
    obtain ⟨ih0, ih1, ih2⟩ := parryref22_same.mono_l k
    refine ⟨?_, ?_, ?_⟩
    · intro y0 y1 y2 y3 y4 y5
      unfold parryref22_same.f
      repeat' first
      | (with_reducible exact ih0 _ _ _ _ _ _)
      | (with_reducible exact ih1 _ _ _ _ _ _ _)
      | (with_reducible exact ih2 _ _ _ _ _ _ _ _)
      | (with_reducible exact LeO.refl _)
      | (with_reducible exact LeO.none _)
      | (with_reducible refine LeO.ite ?_ ?_)
      | (with_reducible refine LeO.bind ?_ (fun _ => ?_))
      | exact ih0 _ _ _ _ _ _
      | exact ih1 _ _ _ _ _ _ _
      | exact ih2 _ _ _ _ _ _ _ _
      | exact LeO.none _
      | refine LeO.ite ?_ ?_
      | refine LeO.bind ?_ (fun _ => ?_)
    · intro y0 y1 y2 y3 y4 y5 y6
      unfold parryref22_same.j0
      repeat' first
      | (with_reducible exact ih0 _ _ _ _ _ _)
      | (with_reducible exact ih1 _ _ _ _ _ _ _)
      | (with_reducible exact ih2 _ _ _ _ _ _ _ _)
      | (with_reducible exact LeO.refl _)
      | (with_reducible exact LeO.none _)
      | (with_reducible refine LeO.ite ?_ ?_)
      | (with_reducible refine LeO.bind ?_ (fun _ => ?_))
      | exact ih0 _ _ _ _ _ _
      | exact ih1 _ _ _ _ _ _ _
      | exact ih2 _ _ _ _ _ _ _ _
      | exact LeO.none _
      | refine LeO.ite ?_ ?_
      | refine LeO.bind ?_ (fun _ => ?_)
    · intro y0 y1 y2 y3 y4 y5 y6 y7
      unfold parryref22_same.l0
      repeat' first
      | (with_reducible exact ih0 _ _ _ _ _ _)
      | (with_reducible exact ih1 _ _ _ _ _ _ _)
      | (with_reducible exact ih2 _ _ _ _ _ _ _ _)
      | (with_reducible exact LeO.refl _)
      | (with_reducible exact LeO.none _)
      | (with_reducible refine LeO.ite ?_ ?_)
      | (with_reducible refine LeO.bind ?_ (fun _ => ?_))
      | exact ih0 _ _ _ _ _ _
      | exact ih1 _ _ _ _ _ _ _
      | exact ih2 _ _ _ _ _ _ _ _
      | exact LeO.none _
      | refine LeO.ite ?_ ?_
      | refine LeO.bind ?_ (fun _ => ?_)
theorem parryref22_same.mono : ∀ a0 a1 a2 a3 a4 a5 k, LeO (parryref22_same.f k a0 a1 a2 a3 a4 a5) (parryref22_same.f (k + 1) a0 a1 a2 a3 a4 a5) := by
  intro a0 a1 a2 a3 a4 a5 k
  obtain ⟨ih0, ih1, ih2⟩ := parryref22_same.mono_l k
  exact ih0 a0 a1 a2 a3 a4 a5
def parryref22_same.T6 : Bool × List (List Nat × List Nat) := (true, [([], []), ([0], [0]), ([], []), ([1, 2], [1, 2]), ([3], [3]), ([], []), ([5], [5]), ([], []), ([6, 7], [6, 7]), ([8], [8]), ([4, 9], [4, 9]), ([10], [10])])
def parryref22_same.B6 : List Nat := [0, 1, 0, 7, 15, 0, 32, 0, 224, 480, 1023, 2047]
theorem parryref22_same.tab6 : rtab .any (opsOf Tryd.f43 6) = parryref22_same.T6 := by kernel_rfl
theorem parryref22_same.bits6 : waitsOk parryref22_same.T6.2 parryref22_same.B6 = true := by kernel_rfl
set_option maxHeartbeats 8000000 in
set_option maxRecDepth 100000 in
theorem parryref22_same.calls (k : Nat) : ∀ (a0_0 : Int) (a0_1 : Int) (A0_2 : Option Addr) (c0_2 : Nat) (l0_2 : List (S24)) (a1_0 : Int) (a1_1 : Int) (A1_2 : Option Addr) (c1_2 : Nat) (l1_2 : List (S24)) (r : Bool) (w : World) (hr0_2 : Kd.C k24 w A0_2 l0_2.length l0_2) (hc0_2 : l0_2.length ≤ c0_2) (hr1_2 : Kd.C k24 w A1_2 l1_2.length l1_2) (hc1_2 : l1_2.length ≤ c1_2) (h : parryref22_same.f k a0_0 a0_1 l0_2 a1_0 a1_1 l1_2 = some r),
    Calls Tryd.prog 43 #[.agg #[.int .i64 a0_0, .int .i64 a0_1, .slice A0_2 l0_2.length c0_2], .agg #[.int .i64 a1_0, .int .i64 a1_1, .slice A1_2 l1_2.length c1_2]] w fun e w' => e = .returned (.bool r) ∧ Below w.heap.size w w' := by
  induction k using Nat.strongRecOn with
  | _ k ih =>
  intro a0_0 a0_1 A0_2 c0_2 l0_2 a1_0 a1_1 A1_2 c1_2 l1_2 r w hr0_2 hc0_2 hr1_2 hc1_2 h
  cases k with
  | zero => exact absurd h (by simp [parryref22_same.f])
  | succ k =>
  simp only [parryref22_same.f] at h
  have hu24 := Tryd.underlying24
  have HR0_2 := Aside0.mk hr0_2
  have HC0_2 := Aside0.mk hc0_2
  clear hr0_2 hc0_2
  have HR1_2 := Aside0.mk hr1_2
  have HC1_2 := Aside0.mk hc1_2
  clear hr1_2 hc1_2
  have HB := Aside0.mk (Below.refl w.heap.size w)
  have H : (if a0_0 = a1_0 then (if a0_1 = a1_1 then (parryref22_same.j0 k ((l0_2.length : Int) != (l1_2.length : Int)) a0_0 a0_1 l0_2 a1_0 a1_1 l1_2) else (parryref22_same.j0 k true a0_0 a0_1 l0_2 a1_0 a1_1 l1_2)) else (parryref22_same.j0 k true a0_0 a0_1 l0_2 a1_0 a1_1 l1_2)) = some r := h
  clear h
  have HC3 := Aside0.mk H
  clear H
  go_enter Tryd.func43, Tryd.ntmps43
  go_upto_region 1 with (first | ((with_reducible refine gate_dst (N := 2) rfl ?_); (try (refine gate_guard (by rfl) ?_; dsimp only)); refine box_event ?hg (N := 2) ?hd (cs := #[.int .i64 a0_0, .int .i64 a0_1, .slice A0_2 l0_2.length c0_2]) (t := 24) ?hr ?_; (case hd => rfl); (case hg => rfl); (case hr => first | (go_simp; done) | (go_simp; rfl)); intro gb549 hg w4 hbox hb; have n0_ := Aside0.mk (below_step (by repeat (first | (with_reducible first | exact HB.out | apply below_alloc | apply pw_below_drewN | apply below_drew1) | exact HB.out)) hb); have n1_ := Aside0.mk (hbox); have n2_ := Aside0.mk ((by rw [hg]; exact (below_size (by repeat (first | (with_reducible first | exact HB.out | apply below_alloc | apply pw_below_drewN | apply below_drew1) | exact HB.out))) : w.heap.size ≤ gb549)); have n3_ := Aside0.mk ((by rw [hg]; exact (below_size (by repeat (first | (with_reducible first | exact HB.out | apply below_alloc | apply pw_below_drewN | apply below_drew1) | exact HB.out))) : w.heap.size ≤ gb549)); clear HB; have HB := n0_; have BK549 := n1_; have GW549 := n2_; have GE549 := n3_; clear n0_ n1_ n2_ n3_; clear hb hbox hg) | ((with_reducible refine gate_dst (N := 3) rfl ?_); (try (refine gate_guard (by rfl) ?_; dsimp only)); refine box_event ?hg (N := 3) ?hd (cs := #[.int .i64 a1_0, .int .i64 a1_1, .slice A1_2 l1_2.length c1_2]) (t := 24) ?hr ?_; (case hd => rfl); (case hg => rfl); (case hr => first | (go_simp; done) | (go_simp; rfl)); intro gb550 hg w5 hbox hb; have n0_ := Aside0.mk (blk_below (g := gb549) (o := .cells #[.int .i64 a0_0, .int .i64 a0_1, .slice A0_2 l0_2.length c0_2] 24 (0, 0)) (by (with_reducible repeat (first | refine blk_drewN ?_ _ | refine blk_drew ?_ | refine blk_alloc ?_ _)); exact BK549.out) hb); have n1_ := Aside0.mk (below_step (by repeat (first | (with_reducible first | exact HB.out | apply below_alloc | apply pw_below_drewN | apply below_drew1 | refine below_set ?_ GE549.out) | exact HB.out)) hb); have n2_ := Aside0.mk (hbox); have n3_ := Aside0.mk ((by rw [hg]; exact (below_size (by repeat (first | (with_reducible first | exact HB.out | apply below_alloc | apply pw_below_drewN | apply below_drew1 | refine below_set ?_ GE549.out) | exact HB.out))) : w.heap.size ≤ gb550)); have n4_ := Aside0.mk ((by rw [hg]; exact (below_size (by repeat (first | (with_reducible first | exact HB.out | apply below_alloc | apply pw_below_drewN | apply below_drew1 | refine below_set ?_ GE549.out) | exact HB.out))) : w.heap.size ≤ gb550)); have n5_ := Aside0.mk ((by rw [hg]; exact Nat.ne_of_lt (blk_lt (g := gb549) (o := .cells #[.int .i64 a0_0, .int .i64 a0_1, .slice A0_2 l0_2.length c0_2] 24 (0, 0)) (by (with_reducible repeat (first | refine blk_drewN ?_ _ | refine blk_drew ?_ | refine blk_alloc ?_ _)); exact BK549.out)) : gb549 ≠ gb550)); have n6_ := Aside0.mk ((by rw [hg]; exact Nat.ne_of_gt (blk_lt (g := gb549) (o := .cells #[.int .i64 a0_0, .int .i64 a0_1, .slice A0_2 l0_2.length c0_2] 24 (0, 0)) (by (with_reducible repeat (first | refine blk_drewN ?_ _ | refine blk_drew ?_ | refine blk_alloc ?_ _)); exact BK549.out)) : gb550 ≠ gb549)); clear BK549; clear HB; have BK549 := n0_; have HB := n1_; have BK550 := n2_; have GW550 := n3_; have GE550 := n4_; have NB549_550 := n5_; have NB550_549 := n6_; clear n0_ n1_ n2_ n3_ n4_ n5_ n6_; clear hb hbox hg))
  (try simp only [Act.put, List.setIfInBounds_toArray, List.set_cons_zero, List.set_cons_succ])
  go_cut [26] (fun v26 wc => ∃ (kq : Nat) (x26_2 : Bool), v26 = .bool x26_2 ∧ Aside0 (parryref22_same.j0 kq x26_2 a0_0 a0_1 l0_2 a1_0 a1_1 l1_2 = some r) ∧ Aside0 (kq ≤ k) ∧ Aside0 (wc.heap[gb549]? = some (.cells #[.int .i64 a0_0, .int .i64 a0_1, (.slice A0_2 l0_2.length c0_2)] 24 (0, 0))) ∧ Aside0 (wc.heap[gb550]? = some (.cells #[.int .i64 a1_0, .int .i64 a1_1, (.slice A1_2 l1_2.length c1_2)] 24 (0, 0))) ∧ Aside0 (Below w.heap.size w wc))
  case first =>
    have H := HC3.out
    clear HC3
    by_cases c6 : a0_0 = a1_0
    · rw [if_pos c6] at H
      have c6b0 : (a0_0 == a1_0) = true := beq_iff_eq.mpr c6
      have c6b1 : (a0_0 != a1_0) = false := bne_eq_false_iff_eq.mpr c6
      clear c6
      (first | rw [c6b0] | (simp only [i64_w, i32_w]; rw [c6b0]) | skip)
      by_cases c7 : a0_1 = a1_1
      · rw [if_pos c7] at H
        have c7b0 : (a0_1 == a1_1) = true := beq_iff_eq.mpr c7
        have c7b1 : (a0_1 != a1_1) = false := bne_eq_false_iff_eq.mpr c7
        clear c7
        have H' := Aside0.mk H
        clear H
        have hnb8 := NB549_550.out
        have hnc8 := NB550_549.out
        have hcz9_0 : w5.cell? ⟨gb549, 0, none⟩ = some (.int .i64 a0_0) := (blk_cell BK549.out 0).trans rfl
        have hcz9_1 : w5.cell? ⟨gb549, 1, none⟩ = some (.int .i64 a0_1) := (blk_cell BK549.out 1).trans rfl
        have hcz9_2 : w5.cell? ⟨gb549, 2, none⟩ = some (.slice A0_2 l0_2.length c0_2) := (blk_cell BK549.out 2).trans rfl
        have hfz9_0 := blk_frozen BK549.out 0
        have hfz9_1 := blk_frozen BK549.out 1
        have hfz9_2 := blk_frozen BK549.out 2
        have hcz10_0 : w5.cell? ⟨gb550, 0, none⟩ = some (.int .i64 a1_0) := (blk_cell BK550.out 0).trans rfl
        have hcz10_1 : w5.cell? ⟨gb550, 1, none⟩ = some (.int .i64 a1_1) := (blk_cell BK550.out 1).trans rfl
        have hcz10_2 : w5.cell? ⟨gb550, 2, none⟩ = some (.slice A1_2 l1_2.length c1_2) := (blk_cell BK550.out 2).trans rfl
        have hfz10_0 := blk_frozen BK550.out 0
        have hfz10_1 := blk_frozen BK550.out 1
        have hfz10_2 := blk_frozen BK550.out 2
        go_wp2
        go_meet
        case rel => exact ⟨_, (((l0_2.length : Int) != (l1_2.length : Int))), (by first | rfl | (simp; done) | (simp [*]; done)), H', ⟨by first | omega | exact Nat.le_refl _⟩, ⟨by (with_reducible repeat (first | refine blk_drewN ?_ _ | refine blk_drew ?_ | refine blk_alloc ?_ _)); exact BK549.out⟩, ⟨by (with_reducible repeat (first | refine blk_drewN ?_ _ | refine blk_drew ?_ | refine blk_alloc ?_ _)); exact BK550.out⟩, ⟨by repeat (first | (with_reducible first | exact HB.out | apply below_alloc | apply pw_below_drewN | apply below_drew1 | refine below_set ?_ GE549.out | refine below_set ?_ GE550.out) | exact HB.out)⟩⟩
      · rw [if_neg c7] at H
        have c7b0 : (a0_1 == a1_1) = false := beq_eq_false_iff_ne.mpr c7
        have c7b1 : (a0_1 != a1_1) = true := bne_iff_ne.mpr c7
        have H' := Aside0.mk H
        clear H
        have hnb11 := NB549_550.out
        have hnc11 := NB550_549.out
        have hcz12_0 : w5.cell? ⟨gb549, 0, none⟩ = some (.int .i64 a0_0) := (blk_cell BK549.out 0).trans rfl
        have hcz12_1 : w5.cell? ⟨gb549, 1, none⟩ = some (.int .i64 a0_1) := (blk_cell BK549.out 1).trans rfl
        have hcz12_2 : w5.cell? ⟨gb549, 2, none⟩ = some (.slice A0_2 l0_2.length c0_2) := (blk_cell BK549.out 2).trans rfl
        have hfz12_0 := blk_frozen BK549.out 0
        have hfz12_1 := blk_frozen BK549.out 1
        have hfz12_2 := blk_frozen BK549.out 2
        have hcz13_0 : w5.cell? ⟨gb550, 0, none⟩ = some (.int .i64 a1_0) := (blk_cell BK550.out 0).trans rfl
        have hcz13_1 : w5.cell? ⟨gb550, 1, none⟩ = some (.int .i64 a1_1) := (blk_cell BK550.out 1).trans rfl
        have hcz13_2 : w5.cell? ⟨gb550, 2, none⟩ = some (.slice A1_2 l1_2.length c1_2) := (blk_cell BK550.out 2).trans rfl
        have hfz13_0 := blk_frozen BK550.out 0
        have hfz13_1 := blk_frozen BK550.out 1
        have hfz13_2 := blk_frozen BK550.out 2
        go_wp2
        go_meet
        case rel => exact ⟨_, (true), (by first | rfl | (simp; done) | (simp [*]; done)), H', ⟨by first | omega | exact Nat.le_refl _⟩, ⟨by (with_reducible repeat (first | refine blk_drewN ?_ _ | refine blk_drew ?_ | refine blk_alloc ?_ _)); exact BK549.out⟩, ⟨by (with_reducible repeat (first | refine blk_drewN ?_ _ | refine blk_drew ?_ | refine blk_alloc ?_ _)); exact BK550.out⟩, ⟨by repeat (first | (with_reducible first | exact HB.out | apply below_alloc | apply pw_below_drewN | apply below_drew1 | refine below_set ?_ GE549.out | refine below_set ?_ GE550.out) | exact HB.out)⟩⟩
    · rw [if_neg c6] at H
      have c6b0 : (a0_0 == a1_0) = false := beq_eq_false_iff_ne.mpr c6
      have c6b1 : (a0_0 != a1_0) = true := bne_iff_ne.mpr c6
      (first | rw [c6b0] | (simp only [i64_w, i32_w]; rw [c6b0]) | skip)
      have H' := Aside0.mk H
      clear H
      have hnb14 := NB549_550.out
      have hnc14 := NB550_549.out
      have hcz15_0 : w5.cell? ⟨gb549, 0, none⟩ = some (.int .i64 a0_0) := (blk_cell BK549.out 0).trans rfl
      have hcz15_1 : w5.cell? ⟨gb549, 1, none⟩ = some (.int .i64 a0_1) := (blk_cell BK549.out 1).trans rfl
      have hcz15_2 : w5.cell? ⟨gb549, 2, none⟩ = some (.slice A0_2 l0_2.length c0_2) := (blk_cell BK549.out 2).trans rfl
      have hfz15_0 := blk_frozen BK549.out 0
      have hfz15_1 := blk_frozen BK549.out 1
      have hfz15_2 := blk_frozen BK549.out 2
      have hcz16_0 : w5.cell? ⟨gb550, 0, none⟩ = some (.int .i64 a1_0) := (blk_cell BK550.out 0).trans rfl
      have hcz16_1 : w5.cell? ⟨gb550, 1, none⟩ = some (.int .i64 a1_1) := (blk_cell BK550.out 1).trans rfl
      have hcz16_2 : w5.cell? ⟨gb550, 2, none⟩ = some (.slice A1_2 l1_2.length c1_2) := (blk_cell BK550.out 2).trans rfl
      have hfz16_0 := blk_frozen BK550.out 0
      have hfz16_1 := blk_frozen BK550.out 1
      have hfz16_2 := blk_frozen BK550.out 2
      go_wp2
      go_meet
      case rel => exact ⟨_, (true), (by first | rfl | (simp; done) | (simp [*]; done)), H', ⟨by first | omega | exact Nat.le_refl _⟩, ⟨by (with_reducible repeat (first | refine blk_drewN ?_ _ | refine blk_drew ?_ | refine blk_alloc ?_ _)); exact BK549.out⟩, ⟨by (with_reducible repeat (first | refine blk_drewN ?_ _ | refine blk_drew ?_ | refine blk_alloc ?_ _)); exact BK550.out⟩, ⟨by repeat (first | (with_reducible first | exact HB.out | apply below_alloc | apply pw_below_drewN | apply below_drew1 | refine below_set ?_ GE549.out | refine below_set ?_ GE550.out) | exact HB.out)⟩⟩
  case rest =>
    clear HC3
    try clear c1
    try clear p2
    try clear c4
    try clear c6
    try clear c6b0
    try clear c6b1
    try clear c7
    try clear c7b0
    try clear c7b1
    try clear c8
    try clear c11
    try clear c14
    try clear hcz10_0
    try clear hcz10_1
    try clear hcz10_2
    try clear hcz12_0
    try clear hcz12_1
    try clear hcz12_2
    try clear hcz13_0
    try clear hcz13_1
    try clear hcz13_2
    try clear hcz15_0
    try clear hcz15_1
    try clear hcz15_2
    try clear hcz16_0
    try clear hcz16_1
    try clear hcz16_2
    try clear hcz9_0
    try clear hcz9_1
    try clear hcz9_2
    try clear hfz10_0
    try clear hfz10_1
    try clear hfz10_2
    try clear hfz12_0
    try clear hfz12_1
    try clear hfz12_2
    try clear hfz13_0
    try clear hfz13_1
    try clear hfz13_2
    try clear hfz15_0
    try clear hfz15_1
    try clear hfz15_2
    try clear hfz16_0
    try clear hfz16_1
    try clear hfz16_2
    try clear hfz9_0
    try clear hfz9_1
    try clear hfz9_2
    obtain ⟨kq, x26_2, rfl, HA, HJ2, BK549, BK550, HB⟩ := hcut
    cases kq with
    | zero => exact absurd HA.out (by simp [parryref22_same.j0])
    | succ kj2 =>
      have H := HA.out
      clear HA
      simp only [parryref22_same.j0] at H
      by_cases c17 : x26_2 = true
      · subst c17
        have H1 : (some false) = some r := by rw [if_pos rfl] at H; exact H
        clear H
        have H := H1
        clear H1
        obtain rfl := Option.some.inj H
        go_wp2
        go_ret
        exact ⟨by first | rfl | (simp [errW_none, errW_some] <;> rfl) | (simp [*, errW_none, errW_some] <;> rfl), by repeat (first | (with_reducible first | exact HB.out | apply below_alloc | apply pw_below_drewN | apply below_drew1 | refine below_set ?_ GE549.out | refine below_set ?_ GE550.out) | exact HB.out)⟩
      · replace c17 := Bool.eq_false_iff.mpr c17
        subst c17
        have H1 : (parryref22_same.l0 kj2 (l0_2.length : Int) 0 a0_0 a0_1 l0_2 a1_0 a1_1 l1_2) = some r := by rw [if_neg (show ¬ (false = true) by decide)] at H; exact H
        clear H
        have H := H1
        clear H1
        have H' := Aside0.mk H
        clear H
        have hnb18 := NB549_550.out
        have hnc18 := NB550_549.out
        have hcz19_0 : wc.cell? ⟨gb549, 0, none⟩ = some (.int .i64 a0_0) := (blk_cell BK549.out 0).trans rfl
        have hcz19_1 : wc.cell? ⟨gb549, 1, none⟩ = some (.int .i64 a0_1) := (blk_cell BK549.out 1).trans rfl
        have hcz19_2 : wc.cell? ⟨gb549, 2, none⟩ = some (.slice A0_2 l0_2.length c0_2) := (blk_cell BK549.out 2).trans rfl
        have hfz19_0 := blk_frozen BK549.out 0
        have hfz19_1 := blk_frozen BK549.out 1
        have hfz19_2 := blk_frozen BK549.out 2
        go_wp2
        go_loopg [30] kj2 (fun kq v30 w' => ∃ (x30_2 : Int), v30 = .int .i64 x30_2 ∧ Aside0 (parryref22_same.l0 kq (l0_2.length : Int) x30_2 a0_0 a0_1 l0_2 a1_0 a1_1 l1_2 = some r) ∧ Aside0 (kq ≤ kj2) ∧ Aside0 (w'.heap[gb549]? = some (.cells #[.int .i64 a0_0, .int .i64 a0_1, (.slice A0_2 l0_2.length c0_2)] 24 (0, 0))) ∧ Aside0 (w'.heap[gb550]? = some (.cells #[.int .i64 a1_0, .int .i64 a1_1, (.slice A1_2 l1_2.length c1_2)] 24 (0, 0))) ∧ Aside0 (Below w.heap.size w w'))
        case atStart => exact ⟨(0), (by first | rfl | (simp; done) | (simp [*]; done)), H', ⟨Nat.le_refl _⟩, ⟨by (with_reducible repeat (first | refine blk_drewN ?_ _ | refine blk_drew ?_ | refine blk_alloc ?_ _)); exact BK549.out⟩, ⟨by (with_reducible repeat (first | refine blk_drewN ?_ _ | refine blk_drew ?_ | refine blk_alloc ?_ _)); exact BK550.out⟩, ⟨by repeat (first | (with_reducible first | exact HB.out | apply below_alloc | apply pw_below_drewN | apply below_drew1 | refine below_set ?_ GE549.out | refine below_set ?_ GE550.out) | exact HB.out)⟩⟩
        case round =>
          clear H'
          try clear c1
          try clear p2
          try clear c4
          try clear c6
          try clear c6b0
          try clear c6b1
          try clear c7
          try clear c7b0
          try clear c7b1
          try clear c8
          try clear c11
          try clear c14
          try clear c17
          try clear c18
          try clear hcz10_0
          try clear hcz10_1
          try clear hcz10_2
          try clear hcz12_0
          try clear hcz12_1
          try clear hcz12_2
          try clear hcz13_0
          try clear hcz13_1
          try clear hcz13_2
          try clear hcz15_0
          try clear hcz15_1
          try clear hcz15_2
          try clear hcz16_0
          try clear hcz16_1
          try clear hcz16_2
          try clear hcz19_0
          try clear hcz19_1
          try clear hcz19_2
          try clear hcz9_0
          try clear hcz9_1
          try clear hcz9_2
          try clear hfz10_0
          try clear hfz10_1
          try clear hfz10_2
          try clear hfz12_0
          try clear hfz12_1
          try clear hfz12_2
          try clear hfz13_0
          try clear hfz13_1
          try clear hfz13_2
          try clear hfz15_0
          try clear hfz15_1
          try clear hfz15_2
          try clear hfz16_0
          try clear hfz16_1
          try clear hfz16_2
          try clear hfz19_0
          try clear hfz19_1
          try clear hfz19_2
          try clear hfz9_0
          try clear hfz9_1
          try clear hfz9_2
          try clear p2
          obtain ⟨x30_2, rfl, HA, HK2, BK549, BK550, HB⟩ := hrel
          cases gk with
          | zero => exact absurd HA.out (by simp [parryref22_same.l0])
          | succ k2 =>
            have H := HA.out
            clear HA
            simp only [parryref22_same.l0] at H
            by_cases c20 : x30_2 < (l0_2.length : Int)
            · rw [if_pos c20] at H
              have c20b0 : decide (x30_2 < (l0_2.length : Int)) = true := decide_eq_true c20
              clear c20
              by_cases c21 : 0 ≤ x30_2
              · rw [if_pos c21] at H
                have c21b0 : decide (0 ≤ x30_2) = true := decide_eq_true c21
                clear c21
                by_cases c22 : x30_2 < (l0_2.length : Int)
                · rw [if_pos c22] at H
                  have c22b0 : decide (x30_2 < (l0_2.length : Int)) = true := decide_eq_true c22
                  clear c22
                  by_cases c23 : x30_2 < (l1_2.length : Int)
                  · rw [if_pos c23] at H
                    have c23b0 : decide (x30_2 < (l1_2.length : Int)) = true := decide_eq_true c23
                    clear c23
                    replace H := Option.bind_eq_some_iff.mp H
                    obtain ⟨t553, A240, H⟩ := H
                    replace H : (if t553 = true then (parryref22_same.l0 k2 (l0_2.length : Int) (wrap64 (x30_2 + 1)) a0_0 a0_1 l0_2 a1_0 a1_1 l1_2) else (some false)) = some r := H
                    have A24 := Aside0.mk A240
                    clear A240
                    by_cases c25 : t553 = true
                    · subst c25
                      have H1 : (parryref22_same.l0 k2 (l0_2.length : Int) (wrap64 (x30_2 + 1)) a0_0 a0_1 l0_2 a1_0 a1_1 l1_2) = some r := by rw [if_pos rfl] at H; exact H
                      clear H
                      have H := H1
                      clear H1
                      have H' := Aside0.mk H
                      clear H
                      try go_wp2
                      have n0_ := Aside0.mk (blk_drew BK549.out)
                      have n1_ := Aside0.mk (blk_drew BK550.out)
                      have n2_ := Aside0.mk (below_drew1 HB.out)
                      clear BK549
                      clear BK550
                      clear HB
                      have BK549 := n0_
                      have BK550 := n1_
                      have HB := n2_
                      clear n0_ n1_ n2_
                      have p551 : 0 ≤ (x30_2 : Int) := of_decide_eq_true (by first | (with_reducible assumption) | assumption)
                      have q551 : x30_2 < (l0_2.length : Int) := of_decide_eq_true (by first | (with_reducible assumption) | assumption)
                      obtain ⟨ad551, A551_2, c551_2, e551, hx551_0, hx551_1, hx551_2, hl551_2, hi551_2⟩ := at_T24 HR0_2.out x30_2 p551 q551
                      have hw551_2 := hx551_2
                      have hw551_1 := hx551_1
                      have hw551_0 := hx551_0
                      cases e551
                      replace hx551_0 := (HB.out.cell (World.block_lt_of_cell? w _ hx551_0)).trans hx551_0
                      replace hx551_1 := (HB.out.cell (World.block_lt_of_cell? w _ hx551_1)).trans hx551_1
                      replace hx551_2 := (HB.out.cell (World.block_lt_of_cell? w _ hx551_2)).trans hx551_2
                      have HR551_2 := Aside0.mk hi551_2
                      have HC551_2 := Aside0.mk hl551_2
                      clear hi551_2 hl551_2
                      replace p551 := eq_true p551
                      replace q551 := eq_true q551
                      have p552 : 0 ≤ (x30_2 : Int) := of_decide_eq_true (by first | (with_reducible assumption) | assumption)
                      have q552 : x30_2 < (l1_2.length : Int) := of_decide_eq_true (by first | (with_reducible assumption) | assumption)
                      obtain ⟨ad552, A552_2, c552_2, e552, hx552_0, hx552_1, hx552_2, hl552_2, hi552_2⟩ := at_T24 HR1_2.out x30_2 p552 q552
                      have hw552_2 := hx552_2
                      have hw552_1 := hx552_1
                      have hw552_0 := hx552_0
                      cases e552
                      replace hx552_0 := (HB.out.cell (World.block_lt_of_cell? w _ hx552_0)).trans hx552_0
                      replace hx552_1 := (HB.out.cell (World.block_lt_of_cell? w _ hx552_1)).trans hx552_1
                      replace hx552_2 := (HB.out.cell (World.block_lt_of_cell? w _ hx552_2)).trans hx552_2
                      have HR552_2 := Aside0.mk hi552_2
                      have HC552_2 := Aside0.mk hl552_2
                      clear hi552_2 hl552_2
                      replace p552 := eq_true p552
                      replace q552 := eq_true q552
                      refine start_ (n := 12) (S := fun w' => w'.cell? ⟨gb549, 0, none⟩ = some (.int .i64 a0_0) ∧ w'.cell? ⟨gb549, 1, none⟩ = some (.int .i64 a0_1) ∧ w'.cell? ⟨gb549, 2, none⟩ = some (.slice (some ad551) l0_2.length c0_2) ∧ w'.cell? ⟨gb550, 0, none⟩ = some (.int .i64 a1_0) ∧ w'.cell? ⟨gb550, 1, none⟩ = some (.int .i64 a1_1) ∧ w'.cell? ⟨gb550, 2, none⟩ = some (.slice (some ad552) l1_2.length c1_2) ∧ w'.cell? (ad551.add ((x30_2).toNat * 3)) = some (.int .i64 ((rd_T24 l0_2 x30_2).f0)) ∧ w'.cell? ⟨(ad551.add ((x30_2).toNat * 3)).block, (ad551.add ((x30_2).toNat * 3)).off + 1, none⟩ = some (.int .i64 ((rd_T24 l0_2 x30_2).f1)) ∧ w'.cell? ⟨(ad551.add ((x30_2).toNat * 3)).block, (ad551.add ((x30_2).toNat * 3)).off + 2, none⟩ = some (.slice A551_2 ((rd_T24 l0_2 x30_2).f2).length c551_2) ∧ w'.cell? (ad552.add ((x30_2).toNat * 3)) = some (.int .i64 ((rd_T24 l1_2 x30_2).f0)) ∧ w'.cell? ⟨(ad552.add ((x30_2).toNat * 3)).block, (ad552.add ((x30_2).toNat * 3)).off + 1, none⟩ = some (.int .i64 ((rd_T24 l1_2 x30_2).f1)) ∧ w'.cell? ⟨(ad552.add ((x30_2).toNat * 3)).block, (ad552.add ((x30_2).toNat * 3)).off + 2, none⟩ = some (.slice A552_2 ((rd_T24 l1_2 x30_2).f2).length c552_2)) (ds := []) #[false, false, false, false, false, false, false, false, false, false, false, false] (by kernel_rfl) rfl rfl ⟨(blk_cell BK549.out 0).trans rfl, (blk_cell BK549.out 1).trans rfl, (blk_cell BK549.out 2).trans rfl, (blk_cell BK550.out 0).trans rfl, (blk_cell BK550.out 1).trans rfl, (blk_cell BK550.out 2).trans rfl, ((HB.out.cell (World.block_lt_of_cell? w _ hw551_0)).trans hw551_0), ((HB.out.cell (World.block_lt_of_cell? w _ hw551_1)).trans hw551_1), ((HB.out.cell (World.block_lt_of_cell? w _ hw551_2)).trans hw551_2), ((HB.out.cell (World.block_lt_of_cell? w _ hw552_0)).trans hw552_0), ((HB.out.cell (World.block_lt_of_cell? w _ hw552_1)).trans hw552_1), ((HB.out.cell (World.block_lt_of_cell? w _ hw552_2)).trans hw552_2)⟩ (fun hHeld => ?_); refine with_tabW parryref22_same.tab6 parryref22_same.bits6 (fun HT_ HW_ => ?_)
                      generalize wr.drew = w26 at BK549 BK550 HB HR551_2 HR552_2 hx551_0 hx551_1 hx551_2 hx552_0 hx552_1 hx552_2 hHeld ⊢
                      refine pure_ (i := 0) (N := some 33) (v := ?_) (a' := ?_) #[true, false, false, false, false, false, false, false, false, false, false, false] rfl rfl (any_of HT_.out (by kernel_rfl)) (fun _ _ _ h => h) (Or.inl ⟨by rfl, ?_⟩) ?_ ?_
                      rotate_left
                      · intro w'
                        go_simp
                        with_reducible rfl
                      rotate_left
                      · simp only [Act.put, List.setIfInBounds_toArray, List.set_cons_zero, List.set_cons_succ, i64_w, i32_w]
                        rfl
                      refine pure_ (i := 2) (N := some 35) (v := ?_) (a' := ?_) #[true, false, true, false, false, false, false, false, false, false, false, false] rfl rfl (any_of HT_.out (by kernel_rfl)) (fun _ _ _ h => h) (Or.inl ⟨by rfl, ?_⟩) ?_ ?_
                      rotate_left
                      · intro w'
                        go_simp
                        with_reducible rfl
                      rotate_left
                      · simp only [Act.put, List.setIfInBounds_toArray, List.set_cons_zero, List.set_cons_succ, i64_w, i32_w]
                        rfl
                      refine pure_ (i := 5) (N := some 38) (v := ?_) (a' := ?_) #[true, false, true, false, false, true, false, false, false, false, false, false] rfl rfl (any_of HT_.out (by kernel_rfl)) (fun _ _ _ h => h) (Or.inl ⟨by rfl, ?_⟩) ?_ ?_
                      rotate_left
                      · intro w'
                        go_simp
                        with_reducible rfl
                      rotate_left
                      · simp only [Act.put, List.setIfInBounds_toArray, List.set_cons_zero, List.set_cons_succ, i64_w, i32_w]
                        rfl
                      refine pure_ (i := 7) (N := some 40) (v := ?_) (a' := ?_) #[true, false, true, false, false, true, false, true, false, false, false, false] rfl rfl (any_of HT_.out (by kernel_rfl)) (fun _ _ _ h => h) (Or.inl ⟨by rfl, ?_⟩) ?_ ?_
                      rotate_left
                      · intro w'
                        go_simp
                        with_reducible rfl
                      rotate_left
                      · simp only [Act.put, List.setIfInBounds_toArray, List.set_cons_zero, List.set_cons_succ, i64_w, i32_w]
                        rfl
                      refine take_ (i := 1) (N := some 34) (v := ?_) (a' := ?_) #[true, true, true, false, false, true, false, true, false, false, false, false] rfl rfl (take_ofW HT_.out HW_.out (by kernel_rfl)) (fun _ _ _ h => h) (Or.inl ⟨by rfl, ?_⟩) hHeld ?_ ?_
                      rotate_left
                      · rintro w' ⟨s0, s1, s2, s3, s4, s5, s6, s7, s8, s9, s10, s11⟩
                        go_simp
                        with_reducible rfl
                      rotate_left
                      · simp only [Act.put, List.setIfInBounds_toArray, List.set_cons_zero, List.set_cons_succ, i64_w, i32_w]
                        rfl
                      refine pure_ (i := 3) (N := some 36) (v := ?_) (a' := ?_) #[true, true, true, true, false, true, false, true, false, false, false, false] rfl rfl (any_of HT_.out (by kernel_rfl)) (fun _ _ _ h => h) (Or.inl ⟨by rfl, ?_⟩) ?_ ?_
                      rotate_left
                      · intro w'
                        go_simp
                        with_reducible rfl
                      rotate_left
                      · simp only [Act.put, List.setIfInBounds_toArray, List.set_cons_zero, List.set_cons_succ, i64_w, i32_w]
                        rfl
                      refine take_ (i := 4) (N := some 37) (v := ?_) (a' := ?_) #[true, true, true, true, true, true, false, true, false, false, false, false] rfl rfl (take_ofW HT_.out HW_.out (by kernel_rfl)) (fun _ _ _ h => h) (Or.inl ⟨by rfl, ?_⟩) hHeld ?_ ?_
                      rotate_left
                      · rintro w' ⟨s0, s1, s2, s3, s4, s5, s6, s7, s8, s9, s10, s11⟩
                        go_simp
                        with_reducible rfl
                      rotate_left
                      · simp only [Act.put, List.setIfInBounds_toArray, List.set_cons_zero, List.set_cons_succ, i64_w, i32_w]
                        rfl
                      refine take_ (i := 6) (N := some 39) (v := ?_) (a' := ?_) #[true, true, true, true, true, true, true, true, false, false, false, false] rfl rfl (take_ofW HT_.out HW_.out (by kernel_rfl)) (fun _ _ _ h => h) (Or.inl ⟨by rfl, ?_⟩) hHeld ?_ ?_
                      rotate_left
                      · rintro w' ⟨s0, s1, s2, s3, s4, s5, s6, s7, s8, s9, s10, s11⟩
                        go_simp
                        with_reducible rfl
                      rotate_left
                      · simp only [Act.put, List.setIfInBounds_toArray, List.set_cons_zero, List.set_cons_succ, i64_w, i32_w]
                        rfl
                      refine pure_ (i := 8) (N := some 41) (v := ?_) (a' := ?_) #[true, true, true, true, true, true, true, true, true, false, false, false] rfl rfl (any_of HT_.out (by kernel_rfl)) (fun _ _ _ h => h) (Or.inl ⟨by rfl, ?_⟩) ?_ ?_
                      rotate_left
                      · intro w'
                        go_simp
                        with_reducible rfl
                      rotate_left
                      · simp only [Act.put, List.setIfInBounds_toArray, List.set_cons_zero, List.set_cons_succ, i64_w, i32_w]
                        rfl
                      refine take_ (i := 9) (N := some 42) (v := ?_) (a' := ?_) #[true, true, true, true, true, true, true, true, true, true, false, false] rfl rfl (take_ofW HT_.out HW_.out (by kernel_rfl)) (fun _ _ _ h => h) (Or.inl ⟨by rfl, ?_⟩) hHeld ?_ ?_
                      rotate_left
                      · rintro w' ⟨s0, s1, s2, s3, s4, s5, s6, s7, s8, s9, s10, s11⟩
                        go_simp
                        with_reducible rfl
                      rotate_left
                      · simp only [Act.put, List.setIfInBounds_toArray, List.set_cons_zero, List.set_cons_succ, i64_w, i32_w]
                        rfl
                      refine one_ (i := 10) (N := some 43) #[true, true, true, true, true, true, true, true, true, true, true, false] rfl rfl (one_of HT_.out (by kernel_rfl)) (by decide) (fun K hK => ?_)
                      refine goes_ Tryd.func43 (by kernel_rfl) rfl #[.agg #[.int .i64 ((rd_T24 l0_2 x30_2).f0), .int .i64 ((rd_T24 l0_2 x30_2).f1), .slice A551_2 ((rd_T24 l0_2 x30_2).f2).length c551_2], .agg #[.int .i64 ((rd_T24 l1_2 x30_2).f0), .int .i64 ((rd_T24 l1_2 x30_2).f1), .slice A552_2 ((rd_T24 l1_2 x30_2).f2).length c552_2]] (by rfl) rfl rfl (by (try simp only [List.map_toArray, List.map_cons, List.map_nil]); first | done | rfl | (simp only [List.length_drop, List.length_take]; rfl)) ?_
                      with_reducible refine (ih k2 (by have := HJ2.out; have := HK2.out; omega) ((rd_T24 l0_2 x30_2).f0) ((rd_T24 l0_2 x30_2).f1) _ _ ((rd_T24 l0_2 x30_2).f2) ((rd_T24 l1_2 x30_2).f0) ((rd_T24 l1_2 x30_2).f1) _ _ ((rd_T24 l1_2 x30_2).f2) true _ ?side1 ?side2 ?side3 ?side4 A24.out).mono ?_
                      (case side1 => repeat (first | exact (Kd.C_below HR551_2.out HB.out) | (with_reducible refine Kd.C_alloc ?_ _) | (with_reducible refine Kd.C_drewN ?_ _) | (with_reducible refine Kd.C_drew ?_)))
                      (case side2 => exact HC551_2.out)
                      (case side3 => repeat (first | exact (Kd.C_below HR552_2.out HB.out) | (with_reducible refine Kd.C_alloc ?_ _) | (with_reducible refine Kd.C_drewN ?_ _) | (with_reducible refine Kd.C_drew ?_)))
                      (case side4 => exact HC552_2.out)
                      rintro e w27 ⟨rfl, hb⟩
                      refine ⟨_, rfl, ?_⟩
                      have n0_ := Aside0.mk (blk_below (g := gb549) (o := .cells #[.int .i64 a0_0, .int .i64 a0_1, .slice (some ad551) l0_2.length c0_2] 24 (0, 0)) (by (with_reducible repeat (first | refine blk_drewN ?_ _ | refine blk_drew ?_ | refine blk_alloc ?_ _)); exact BK549.out) hb)
                      have n1_ := Aside0.mk (blk_below (g := gb550) (o := .cells #[.int .i64 a1_0, .int .i64 a1_1, .slice (some ad552) l1_2.length c1_2] 24 (0, 0)) (by (with_reducible repeat (first | refine blk_drewN ?_ _ | refine blk_drew ?_ | refine blk_alloc ?_ _)); exact BK550.out) hb)
                      have n2_ := Aside0.mk (below_step (by repeat (first | (with_reducible first | exact HB.out | apply below_alloc | apply pw_below_drewN | apply below_drew1 | refine below_set ?_ GE549.out | refine below_set ?_ GE550.out) | exact HB.out)) hb)
                      clear BK549
                      clear BK550
                      clear HB
                      have BK549 := n0_
                      have BK550 := n1_
                      have HB := n2_
                      clear n0_ n1_ n2_
                      (try clear hb)
                      (try clear hb2)
                      (try clear hk)
                      (try clear hi)
                      refine hK.out _ _ ⟨(blk_cell BK549.out 0).trans rfl, (blk_cell BK549.out 1).trans rfl, (blk_cell BK549.out 2).trans rfl, (blk_cell BK550.out 0).trans rfl, (blk_cell BK550.out 1).trans rfl, (blk_cell BK550.out 2).trans rfl, ((HB.out.cell (World.block_lt_of_cell? w _ hw551_0)).trans hw551_0), ((HB.out.cell (World.block_lt_of_cell? w _ hw551_1)).trans hw551_1), ((HB.out.cell (World.block_lt_of_cell? w _ hw551_2)).trans hw551_2), ((HB.out.cell (World.block_lt_of_cell? w _ hw552_0)).trans hw552_0), ((HB.out.cell (World.block_lt_of_cell? w _ hw552_1)).trans hw552_1), ((HB.out.cell (World.block_lt_of_cell? w _ hw552_2)).trans hw552_2)⟩ (fun hHeld => ?_)
                      clear hK K
                      refine norm_ (a' := ?_) ?_ ?_
                      rotate_left
                      · show Act.put _ (some 43) _ = _
                        simp only [Act.put, List.setIfInBounds_toArray, List.set_cons_zero, List.set_cons_succ, i64_w, i32_w]
                        rfl
                      refine pure_ (i := 11) (N := some 44) (v := ?_) (a' := ?_) #[true, true, true, true, true, true, true, true, true, true, true, true] rfl rfl (any_of HT_.out (by kernel_rfl)) (fun _ _ _ h => h) (Or.inl ⟨by rfl, ?_⟩) ?_ ?_
                      rotate_left
                      · intro w'
                        go_simp
                        with_reducible rfl
                      rotate_left
                      · simp only [Act.put, List.setIfInBounds_toArray, List.set_cons_zero, List.set_cons_succ, i64_w, i32_w]
                        rfl
                      refine done_ (done_of HT_.out (by kernel_rfl)) ?_
                      try go_wp2
                      go_roundg k2
                      case measure => have := HJ2.out; have := HK2.out; omega
                      case rel => exact ⟨(wrap64 (x30_2 + 1)), (by first | rfl | (simp; done) | (simp [*]; done)), H', ⟨by have := HJ2.out; have := HK2.out; omega⟩, ⟨by (with_reducible repeat (first | refine blk_drewN ?_ _ | refine blk_drew ?_ | refine blk_alloc ?_ _)); exact BK549.out⟩, ⟨by (with_reducible repeat (first | refine blk_drewN ?_ _ | refine blk_drew ?_ | refine blk_alloc ?_ _)); exact BK550.out⟩, ⟨by repeat (first | (with_reducible first | exact HB.out | apply below_alloc | apply pw_below_drewN | apply below_drew1 | refine below_set ?_ GE549.out | refine below_set ?_ GE550.out) | exact HB.out)⟩⟩
                    · replace c25 := Bool.eq_false_iff.mpr c25
                      subst c25
                      have H1 : (some false) = some r := by rw [if_neg (show ¬ (false = true) by decide)] at H; exact H
                      clear H
                      have H := H1
                      clear H1
                      obtain rfl := Option.some.inj H
                      try go_wp2
                      have n0_ := Aside0.mk (blk_drew BK549.out)
                      have n1_ := Aside0.mk (blk_drew BK550.out)
                      have n2_ := Aside0.mk (below_drew1 HB.out)
                      clear BK549
                      clear BK550
                      clear HB
                      have BK549 := n0_
                      have BK550 := n1_
                      have HB := n2_
                      clear n0_ n1_ n2_
                      have p551 : 0 ≤ (x30_2 : Int) := of_decide_eq_true (by first | (with_reducible assumption) | assumption)
                      have q551 : x30_2 < (l0_2.length : Int) := of_decide_eq_true (by first | (with_reducible assumption) | assumption)
                      obtain ⟨ad551, A551_2, c551_2, e551, hx551_0, hx551_1, hx551_2, hl551_2, hi551_2⟩ := at_T24 HR0_2.out x30_2 p551 q551
                      have hw551_2 := hx551_2
                      have hw551_1 := hx551_1
                      have hw551_0 := hx551_0
                      cases e551
                      replace hx551_0 := (HB.out.cell (World.block_lt_of_cell? w _ hx551_0)).trans hx551_0
                      replace hx551_1 := (HB.out.cell (World.block_lt_of_cell? w _ hx551_1)).trans hx551_1
                      replace hx551_2 := (HB.out.cell (World.block_lt_of_cell? w _ hx551_2)).trans hx551_2
                      have HR551_2 := Aside0.mk hi551_2
                      have HC551_2 := Aside0.mk hl551_2
                      clear hi551_2 hl551_2
                      replace p551 := eq_true p551
                      replace q551 := eq_true q551
                      have p552 : 0 ≤ (x30_2 : Int) := of_decide_eq_true (by first | (with_reducible assumption) | assumption)
                      have q552 : x30_2 < (l1_2.length : Int) := of_decide_eq_true (by first | (with_reducible assumption) | assumption)
                      obtain ⟨ad552, A552_2, c552_2, e552, hx552_0, hx552_1, hx552_2, hl552_2, hi552_2⟩ := at_T24 HR1_2.out x30_2 p552 q552
                      have hw552_2 := hx552_2
                      have hw552_1 := hx552_1
                      have hw552_0 := hx552_0
                      cases e552
                      replace hx552_0 := (HB.out.cell (World.block_lt_of_cell? w _ hx552_0)).trans hx552_0
                      replace hx552_1 := (HB.out.cell (World.block_lt_of_cell? w _ hx552_1)).trans hx552_1
                      replace hx552_2 := (HB.out.cell (World.block_lt_of_cell? w _ hx552_2)).trans hx552_2
                      have HR552_2 := Aside0.mk hi552_2
                      have HC552_2 := Aside0.mk hl552_2
                      clear hi552_2 hl552_2
                      replace p552 := eq_true p552
                      replace q552 := eq_true q552
                      refine start_ (n := 12) (S := fun w' => w'.cell? ⟨gb549, 0, none⟩ = some (.int .i64 a0_0) ∧ w'.cell? ⟨gb549, 1, none⟩ = some (.int .i64 a0_1) ∧ w'.cell? ⟨gb549, 2, none⟩ = some (.slice (some ad551) l0_2.length c0_2) ∧ w'.cell? ⟨gb550, 0, none⟩ = some (.int .i64 a1_0) ∧ w'.cell? ⟨gb550, 1, none⟩ = some (.int .i64 a1_1) ∧ w'.cell? ⟨gb550, 2, none⟩ = some (.slice (some ad552) l1_2.length c1_2) ∧ w'.cell? (ad551.add ((x30_2).toNat * 3)) = some (.int .i64 ((rd_T24 l0_2 x30_2).f0)) ∧ w'.cell? ⟨(ad551.add ((x30_2).toNat * 3)).block, (ad551.add ((x30_2).toNat * 3)).off + 1, none⟩ = some (.int .i64 ((rd_T24 l0_2 x30_2).f1)) ∧ w'.cell? ⟨(ad551.add ((x30_2).toNat * 3)).block, (ad551.add ((x30_2).toNat * 3)).off + 2, none⟩ = some (.slice A551_2 ((rd_T24 l0_2 x30_2).f2).length c551_2) ∧ w'.cell? (ad552.add ((x30_2).toNat * 3)) = some (.int .i64 ((rd_T24 l1_2 x30_2).f0)) ∧ w'.cell? ⟨(ad552.add ((x30_2).toNat * 3)).block, (ad552.add ((x30_2).toNat * 3)).off + 1, none⟩ = some (.int .i64 ((rd_T24 l1_2 x30_2).f1)) ∧ w'.cell? ⟨(ad552.add ((x30_2).toNat * 3)).block, (ad552.add ((x30_2).toNat * 3)).off + 2, none⟩ = some (.slice A552_2 ((rd_T24 l1_2 x30_2).f2).length c552_2)) (ds := []) #[false, false, false, false, false, false, false, false, false, false, false, false] (by kernel_rfl) rfl rfl ⟨(blk_cell BK549.out 0).trans rfl, (blk_cell BK549.out 1).trans rfl, (blk_cell BK549.out 2).trans rfl, (blk_cell BK550.out 0).trans rfl, (blk_cell BK550.out 1).trans rfl, (blk_cell BK550.out 2).trans rfl, ((HB.out.cell (World.block_lt_of_cell? w _ hw551_0)).trans hw551_0), ((HB.out.cell (World.block_lt_of_cell? w _ hw551_1)).trans hw551_1), ((HB.out.cell (World.block_lt_of_cell? w _ hw551_2)).trans hw551_2), ((HB.out.cell (World.block_lt_of_cell? w _ hw552_0)).trans hw552_0), ((HB.out.cell (World.block_lt_of_cell? w _ hw552_1)).trans hw552_1), ((HB.out.cell (World.block_lt_of_cell? w _ hw552_2)).trans hw552_2)⟩ (fun hHeld => ?_); refine with_tabW parryref22_same.tab6 parryref22_same.bits6 (fun HT_ HW_ => ?_)
                      generalize wr.drew = w28 at BK549 BK550 HB HR551_2 HR552_2 hx551_0 hx551_1 hx551_2 hx552_0 hx552_1 hx552_2 hHeld ⊢
                      refine pure_ (i := 0) (N := some 33) (v := ?_) (a' := ?_) #[true, false, false, false, false, false, false, false, false, false, false, false] rfl rfl (any_of HT_.out (by kernel_rfl)) (fun _ _ _ h => h) (Or.inl ⟨by rfl, ?_⟩) ?_ ?_
                      rotate_left
                      · intro w'
                        go_simp
                        with_reducible rfl
                      rotate_left
                      · simp only [Act.put, List.setIfInBounds_toArray, List.set_cons_zero, List.set_cons_succ, i64_w, i32_w]
                        rfl
                      refine pure_ (i := 2) (N := some 35) (v := ?_) (a' := ?_) #[true, false, true, false, false, false, false, false, false, false, false, false] rfl rfl (any_of HT_.out (by kernel_rfl)) (fun _ _ _ h => h) (Or.inl ⟨by rfl, ?_⟩) ?_ ?_
                      rotate_left
                      · intro w'
                        go_simp
                        with_reducible rfl
                      rotate_left
                      · simp only [Act.put, List.setIfInBounds_toArray, List.set_cons_zero, List.set_cons_succ, i64_w, i32_w]
                        rfl
                      refine pure_ (i := 5) (N := some 38) (v := ?_) (a' := ?_) #[true, false, true, false, false, true, false, false, false, false, false, false] rfl rfl (any_of HT_.out (by kernel_rfl)) (fun _ _ _ h => h) (Or.inl ⟨by rfl, ?_⟩) ?_ ?_
                      rotate_left
                      · intro w'
                        go_simp
                        with_reducible rfl
                      rotate_left
                      · simp only [Act.put, List.setIfInBounds_toArray, List.set_cons_zero, List.set_cons_succ, i64_w, i32_w]
                        rfl
                      refine pure_ (i := 7) (N := some 40) (v := ?_) (a' := ?_) #[true, false, true, false, false, true, false, true, false, false, false, false] rfl rfl (any_of HT_.out (by kernel_rfl)) (fun _ _ _ h => h) (Or.inl ⟨by rfl, ?_⟩) ?_ ?_
                      rotate_left
                      · intro w'
                        go_simp
                        with_reducible rfl
                      rotate_left
                      · simp only [Act.put, List.setIfInBounds_toArray, List.set_cons_zero, List.set_cons_succ, i64_w, i32_w]
                        rfl
                      refine take_ (i := 1) (N := some 34) (v := ?_) (a' := ?_) #[true, true, true, false, false, true, false, true, false, false, false, false] rfl rfl (take_ofW HT_.out HW_.out (by kernel_rfl)) (fun _ _ _ h => h) (Or.inl ⟨by rfl, ?_⟩) hHeld ?_ ?_
                      rotate_left
                      · rintro w' ⟨s0, s1, s2, s3, s4, s5, s6, s7, s8, s9, s10, s11⟩
                        go_simp
                        with_reducible rfl
                      rotate_left
                      · simp only [Act.put, List.setIfInBounds_toArray, List.set_cons_zero, List.set_cons_succ, i64_w, i32_w]
                        rfl
                      refine pure_ (i := 3) (N := some 36) (v := ?_) (a' := ?_) #[true, true, true, true, false, true, false, true, false, false, false, false] rfl rfl (any_of HT_.out (by kernel_rfl)) (fun _ _ _ h => h) (Or.inl ⟨by rfl, ?_⟩) ?_ ?_
                      rotate_left
                      · intro w'
                        go_simp
                        with_reducible rfl
                      rotate_left
                      · simp only [Act.put, List.setIfInBounds_toArray, List.set_cons_zero, List.set_cons_succ, i64_w, i32_w]
                        rfl
                      refine take_ (i := 4) (N := some 37) (v := ?_) (a' := ?_) #[true, true, true, true, true, true, false, true, false, false, false, false] rfl rfl (take_ofW HT_.out HW_.out (by kernel_rfl)) (fun _ _ _ h => h) (Or.inl ⟨by rfl, ?_⟩) hHeld ?_ ?_
                      rotate_left
                      · rintro w' ⟨s0, s1, s2, s3, s4, s5, s6, s7, s8, s9, s10, s11⟩
                        go_simp
                        with_reducible rfl
                      rotate_left
                      · simp only [Act.put, List.setIfInBounds_toArray, List.set_cons_zero, List.set_cons_succ, i64_w, i32_w]
                        rfl
                      refine take_ (i := 6) (N := some 39) (v := ?_) (a' := ?_) #[true, true, true, true, true, true, true, true, false, false, false, false] rfl rfl (take_ofW HT_.out HW_.out (by kernel_rfl)) (fun _ _ _ h => h) (Or.inl ⟨by rfl, ?_⟩) hHeld ?_ ?_
                      rotate_left
                      · rintro w' ⟨s0, s1, s2, s3, s4, s5, s6, s7, s8, s9, s10, s11⟩
                        go_simp
                        with_reducible rfl
                      rotate_left
                      · simp only [Act.put, List.setIfInBounds_toArray, List.set_cons_zero, List.set_cons_succ, i64_w, i32_w]
                        rfl
                      refine pure_ (i := 8) (N := some 41) (v := ?_) (a' := ?_) #[true, true, true, true, true, true, true, true, true, false, false, false] rfl rfl (any_of HT_.out (by kernel_rfl)) (fun _ _ _ h => h) (Or.inl ⟨by rfl, ?_⟩) ?_ ?_
                      rotate_left
                      · intro w'
                        go_simp
                        with_reducible rfl
                      rotate_left
                      · simp only [Act.put, List.setIfInBounds_toArray, List.set_cons_zero, List.set_cons_succ, i64_w, i32_w]
                        rfl
                      refine take_ (i := 9) (N := some 42) (v := ?_) (a' := ?_) #[true, true, true, true, true, true, true, true, true, true, false, false] rfl rfl (take_ofW HT_.out HW_.out (by kernel_rfl)) (fun _ _ _ h => h) (Or.inl ⟨by rfl, ?_⟩) hHeld ?_ ?_
                      rotate_left
                      · rintro w' ⟨s0, s1, s2, s3, s4, s5, s6, s7, s8, s9, s10, s11⟩
                        go_simp
                        with_reducible rfl
                      rotate_left
                      · simp only [Act.put, List.setIfInBounds_toArray, List.set_cons_zero, List.set_cons_succ, i64_w, i32_w]
                        rfl
                      refine one_ (i := 10) (N := some 43) #[true, true, true, true, true, true, true, true, true, true, true, false] rfl rfl (one_of HT_.out (by kernel_rfl)) (by decide) (fun K hK => ?_)
                      refine goes_ Tryd.func43 (by kernel_rfl) rfl #[.agg #[.int .i64 ((rd_T24 l0_2 x30_2).f0), .int .i64 ((rd_T24 l0_2 x30_2).f1), .slice A551_2 ((rd_T24 l0_2 x30_2).f2).length c551_2], .agg #[.int .i64 ((rd_T24 l1_2 x30_2).f0), .int .i64 ((rd_T24 l1_2 x30_2).f1), .slice A552_2 ((rd_T24 l1_2 x30_2).f2).length c552_2]] (by rfl) rfl rfl (by (try simp only [List.map_toArray, List.map_cons, List.map_nil]); first | done | rfl | (simp only [List.length_drop, List.length_take]; rfl)) ?_
                      with_reducible refine (ih k2 (by have := HJ2.out; have := HK2.out; omega) ((rd_T24 l0_2 x30_2).f0) ((rd_T24 l0_2 x30_2).f1) _ _ ((rd_T24 l0_2 x30_2).f2) ((rd_T24 l1_2 x30_2).f0) ((rd_T24 l1_2 x30_2).f1) _ _ ((rd_T24 l1_2 x30_2).f2) false _ ?side1 ?side2 ?side3 ?side4 A24.out).mono ?_
                      (case side1 => repeat (first | exact (Kd.C_below HR551_2.out HB.out) | (with_reducible refine Kd.C_alloc ?_ _) | (with_reducible refine Kd.C_drewN ?_ _) | (with_reducible refine Kd.C_drew ?_)))
                      (case side2 => exact HC551_2.out)
                      (case side3 => repeat (first | exact (Kd.C_below HR552_2.out HB.out) | (with_reducible refine Kd.C_alloc ?_ _) | (with_reducible refine Kd.C_drewN ?_ _) | (with_reducible refine Kd.C_drew ?_)))
                      (case side4 => exact HC552_2.out)
                      rintro e w29 ⟨rfl, hb⟩
                      refine ⟨_, rfl, ?_⟩
                      have n0_ := Aside0.mk (blk_below (g := gb549) (o := .cells #[.int .i64 a0_0, .int .i64 a0_1, .slice (some ad551) l0_2.length c0_2] 24 (0, 0)) (by (with_reducible repeat (first | refine blk_drewN ?_ _ | refine blk_drew ?_ | refine blk_alloc ?_ _)); exact BK549.out) hb)
                      have n1_ := Aside0.mk (blk_below (g := gb550) (o := .cells #[.int .i64 a1_0, .int .i64 a1_1, .slice (some ad552) l1_2.length c1_2] 24 (0, 0)) (by (with_reducible repeat (first | refine blk_drewN ?_ _ | refine blk_drew ?_ | refine blk_alloc ?_ _)); exact BK550.out) hb)
                      have n2_ := Aside0.mk (below_step (by repeat (first | (with_reducible first | exact HB.out | apply below_alloc | apply pw_below_drewN | apply below_drew1 | refine below_set ?_ GE549.out | refine below_set ?_ GE550.out) | exact HB.out)) hb)
                      clear BK549
                      clear BK550
                      clear HB
                      have BK549 := n0_
                      have BK550 := n1_
                      have HB := n2_
                      clear n0_ n1_ n2_
                      (try clear hb)
                      (try clear hb2)
                      (try clear hk)
                      (try clear hi)
                      refine hK.out _ _ ⟨(blk_cell BK549.out 0).trans rfl, (blk_cell BK549.out 1).trans rfl, (blk_cell BK549.out 2).trans rfl, (blk_cell BK550.out 0).trans rfl, (blk_cell BK550.out 1).trans rfl, (blk_cell BK550.out 2).trans rfl, ((HB.out.cell (World.block_lt_of_cell? w _ hw551_0)).trans hw551_0), ((HB.out.cell (World.block_lt_of_cell? w _ hw551_1)).trans hw551_1), ((HB.out.cell (World.block_lt_of_cell? w _ hw551_2)).trans hw551_2), ((HB.out.cell (World.block_lt_of_cell? w _ hw552_0)).trans hw552_0), ((HB.out.cell (World.block_lt_of_cell? w _ hw552_1)).trans hw552_1), ((HB.out.cell (World.block_lt_of_cell? w _ hw552_2)).trans hw552_2)⟩ (fun hHeld => ?_)
                      clear hK K
                      refine norm_ (a' := ?_) ?_ ?_
                      rotate_left
                      · show Act.put _ (some 43) _ = _
                        simp only [Act.put, List.setIfInBounds_toArray, List.set_cons_zero, List.set_cons_succ, i64_w, i32_w]
                        rfl
                      refine pure_ (i := 11) (N := some 44) (v := ?_) (a' := ?_) #[true, true, true, true, true, true, true, true, true, true, true, true] rfl rfl (any_of HT_.out (by kernel_rfl)) (fun _ _ _ h => h) (Or.inl ⟨by rfl, ?_⟩) ?_ ?_
                      rotate_left
                      · intro w'
                        go_simp
                        with_reducible rfl
                      rotate_left
                      · simp only [Act.put, List.setIfInBounds_toArray, List.set_cons_zero, List.set_cons_succ, i64_w, i32_w]
                        rfl
                      refine done_ (done_of HT_.out (by kernel_rfl)) ?_
                      try go_wp2
                      go_ret
                      exact ⟨by first | rfl | (simp [errW_none, errW_some] <;> rfl) | (simp [*, errW_none, errW_some] <;> rfl), by repeat (first | (with_reducible first | exact HB.out | apply below_alloc | apply pw_below_drewN | apply below_drew1 | refine below_set ?_ GE549.out | refine below_set ?_ GE550.out) | exact HB.out)⟩
                  · rw [if_neg c23] at H
                    exact absurd H (by simp)
                · rw [if_neg c22] at H
                  exact absurd H (by simp)
              · rw [if_neg c21] at H
                exact absurd H (by simp)
            · rw [if_neg c20] at H
              have c20b0 : decide (x30_2 < (l0_2.length : Int)) = false := decide_eq_false c20
              clear c20
              obtain rfl := Option.some.inj H
              go_wp2
              go_ret
              exact ⟨by first | rfl | (simp [errW_none, errW_some] <;> rfl) | (simp [*, errW_none, errW_some] <;> rfl), by repeat (first | (with_reducible first | exact HB.out | apply below_alloc | apply pw_below_drewN | apply below_drew1 | refine below_set ?_ GE549.out | refine below_set ?_ GE550.out) | exact HB.out)⟩

end Go.Proofs.YtjjnokodkeekhaaDoor.P

namespace Go.Proofs.YtjjnokodkeekhaaDoor.P
open Go.RowKit Go.Proofs.YtjjnokodkeekhaaDoorW.PrintWords Go.Proofs.YtjjnokodkeekhaaDoorW.PrintLast Go.Proofs.YtjjnokodkeekhaaDoorW.PrintMore
attribute [local go_sem] max2_int min2_int max_two min_two max_three min_three max_four min_four   -- for this text's walks alone
set_option linter.unusedVariables false
set_option linter.unusedSimpArgs false

def parryref22_Same.f (k : Nat) (a0_0 : Int) (a0_1 : Int) (l0_2 : List (S24)) (a1_0 : Int) (a1_1 : Int) (l1_2 : List (S24)) : Option (Bool) := (parryref22_fits.f k a0_0 a0_1 l0_2).bind fun t556 => (if t556 = true then ((parryref22_fits.f k a1_0 a1_1 l1_2).bind fun t557 => (if t557 = true then ((parryref22_same.f k a0_0 a0_1 l0_2 a1_0 a1_1 l1_2).bind fun t558 => (some t558)) else (some false))) else (some false))
theorem parryref22_Same.mono : ∀ a0 a1 a2 a3 a4 a5 k, LeO (parryref22_Same.f k a0 a1 a2 a3 a4 a5) (parryref22_Same.f (k + 1) a0 a1 a2 a3 a4 a5) := by
  intro a0 a1 a2 a3 a4 a5 k
  unfold parryref22_Same.f
  repeat' first
      | (with_reducible exact parryref22_fits.mono _ _ _ _)
      | (with_reducible exact parryref22_same.mono _ _ _ _ _ _ _)
      | (with_reducible exact LeO.refl _)
      | (with_reducible exact LeO.none _)
      | (with_reducible refine LeO.ite ?_ ?_)
      | (with_reducible refine LeO.bind ?_ (fun _ => ?_))
      | exact parryref22_fits.mono _ _ _ _
      | exact parryref22_same.mono _ _ _ _ _ _ _
      | exact LeO.none _
      | refine LeO.ite ?_ ?_
      | refine LeO.bind ?_ (fun _ => ?_)
set_option maxHeartbeats 8000000 in
set_option maxRecDepth 100000 in
theorem parryref22_Same.calls (k : Nat) (a0_0 : Int) (a0_1 : Int) (A0_2 : Option Addr) (c0_2 : Nat) (l0_2 : List (S24)) (a1_0 : Int) (a1_1 : Int) (A1_2 : Option Addr) (c1_2 : Nat) (l1_2 : List (S24)) (r : Bool) (w : World) (hr0_2 : Kd.C k24 w A0_2 l0_2.length l0_2) (hc0_2 : l0_2.length ≤ c0_2) (hr1_2 : Kd.C k24 w A1_2 l1_2.length l1_2) (hc1_2 : l1_2.length ≤ c1_2) (h : parryref22_Same.f k a0_0 a0_1 l0_2 a1_0 a1_1 l1_2 = some r) :
    Calls Tryd.prog 22 #[.agg #[.int .i64 a0_0, .int .i64 a0_1, .slice A0_2 l0_2.length c0_2], .agg #[.int .i64 a1_0, .int .i64 a1_1, .slice A1_2 l1_2.length c1_2]] w fun e w' => e = .returned (.bool r) ∧ Below w.heap.size w w' := by
  have hu24 := Tryd.underlying24
  have HR0_2 := Aside0.mk hr0_2
  have HC0_2 := Aside0.mk hc0_2
  clear hr0_2 hc0_2
  have HR1_2 := Aside0.mk hr1_2
  have HC1_2 := Aside0.mk hc1_2
  clear hr1_2 hc1_2
  have HB := Aside0.mk (Below.refl w.heap.size w)
  have H : ((parryref22_fits.f k a0_0 a0_1 l0_2).bind fun t556 => (if t556 = true then ((parryref22_fits.f k a1_0 a1_1 l1_2).bind fun t557 => (if t557 = true then ((parryref22_same.f k a0_0 a0_1 l0_2 a1_0 a1_1 l1_2).bind fun t558 => (some t558)) else (some false))) else (some false))) = some r := h
  clear h
  replace H := Option.bind_eq_some_iff.mp H
  obtain ⟨t556, A30, H⟩ := H
  replace H : (if t556 = true then ((parryref22_fits.f k a1_0 a1_1 l1_2).bind fun t557 => (if t557 = true then ((parryref22_same.f k a0_0 a0_1 l0_2 a1_0 a1_1 l1_2).bind fun t558 => (some t558)) else (some false))) else (some false)) = some r := H
  have A3 := Aside0.mk A30
  clear A30
  by_cases c4 : t556 = true
  · subst c4
    have H1 : ((parryref22_fits.f k a1_0 a1_1 l1_2).bind fun t557 => (if t557 = true then ((parryref22_same.f k a0_0 a0_1 l0_2 a1_0 a1_1 l1_2).bind fun t558 => (some t558)) else (some false))) = some r := by rw [if_pos rfl] at H; exact H
    clear H
    have H := H1
    clear H1
    replace H := Option.bind_eq_some_iff.mp H
    obtain ⟨t557, A50, H⟩ := H
    replace H : (if t557 = true then ((parryref22_same.f k a0_0 a0_1 l0_2 a1_0 a1_1 l1_2).bind fun t558 => (some t558)) else (some false)) = some r := H
    have A5 := Aside0.mk A50
    clear A50
    by_cases c6 : t557 = true
    · subst c6
      have H1 : ((parryref22_same.f k a0_0 a0_1 l0_2 a1_0 a1_1 l1_2).bind fun t558 => (some t558)) = some r := by rw [if_pos rfl] at H; exact H
      clear H
      have H := H1
      clear H1
      replace H := Option.bind_eq_some_iff.mp H
      obtain ⟨t558, A70, H⟩ := H
      replace H : (some t558) = some r := H
      have A7 := Aside0.mk A70
      clear A70
      obtain rfl := Option.some.inj H
      go_enter Tryd.func22, Tryd.ntmps22
      go_wp2_with (first | ((with_reducible refine gate_dst (N := 2) rfl ?_); refine box_event ?hg (N := 2) ?hd (cs := #[.int .i64 a0_0, .int .i64 a0_1, .slice A0_2 l0_2.length c0_2]) (t := 24) ?hr ?_; (case hd => rfl); (case hg => rfl); (case hr => first | (go_simp; done) | (go_simp; rfl)); intro gb554 hg w8 hbox hb; have n0_ := Aside0.mk (below_step (by repeat (first | (with_reducible first | exact HB.out | apply below_alloc | apply pw_below_drewN | apply below_drew1) | exact HB.out)) hb); have n1_ := Aside0.mk (hbox); have n2_ := Aside0.mk ((by rw [hg]; exact (below_size (by repeat (first | (with_reducible first | exact HB.out | apply below_alloc | apply pw_below_drewN | apply below_drew1) | exact HB.out))) : w.heap.size ≤ gb554)); have n3_ := Aside0.mk ((by rw [hg]; exact (below_size (by repeat (first | (with_reducible first | exact HB.out | apply below_alloc | apply pw_below_drewN | apply below_drew1) | exact HB.out))) : w.heap.size ≤ gb554)); clear HB; have HB := n0_; have BK554 := n1_; have GW554 := n2_; have GE554 := n3_; clear n0_ n1_ n2_ n3_; clear hb hbox hg) | ((with_reducible refine gate_dst (N := 3) rfl ?_); refine box_event ?hg (N := 3) ?hd (cs := #[.int .i64 a1_0, .int .i64 a1_1, .slice A1_2 l1_2.length c1_2]) (t := 24) ?hr ?_; (case hd => rfl); (case hg => rfl); (case hr => first | (go_simp; done) | (go_simp; rfl)); intro gb555 hg w9 hbox hb; have n0_ := Aside0.mk (blk_below (g := gb554) (o := .cells #[.int .i64 a0_0, .int .i64 a0_1, .slice A0_2 l0_2.length c0_2] 24 (0, 0)) (by (with_reducible repeat (first | refine blk_drewN ?_ _ | refine blk_drew ?_ | refine blk_alloc ?_ _)); exact BK554.out) hb); have n1_ := Aside0.mk (below_step (by repeat (first | (with_reducible first | exact HB.out | apply below_alloc | apply pw_below_drewN | apply below_drew1 | refine below_set ?_ GE554.out) | exact HB.out)) hb); have n2_ := Aside0.mk (hbox); have n3_ := Aside0.mk ((by rw [hg]; exact (below_size (by repeat (first | (with_reducible first | exact HB.out | apply below_alloc | apply pw_below_drewN | apply below_drew1 | refine below_set ?_ GE554.out) | exact HB.out))) : w.heap.size ≤ gb555)); have n4_ := Aside0.mk ((by rw [hg]; exact (below_size (by repeat (first | (with_reducible first | exact HB.out | apply below_alloc | apply pw_below_drewN | apply below_drew1 | refine below_set ?_ GE554.out) | exact HB.out))) : w.heap.size ≤ gb555)); have n5_ := Aside0.mk ((by rw [hg]; exact Nat.ne_of_lt (blk_lt (g := gb554) (o := .cells #[.int .i64 a0_0, .int .i64 a0_1, .slice A0_2 l0_2.length c0_2] 24 (0, 0)) (by (with_reducible repeat (first | refine blk_drewN ?_ _ | refine blk_drew ?_ | refine blk_alloc ?_ _)); exact BK554.out)) : gb554 ≠ gb555)); have n6_ := Aside0.mk ((by rw [hg]; exact Nat.ne_of_gt (blk_lt (g := gb554) (o := .cells #[.int .i64 a0_0, .int .i64 a0_1, .slice A0_2 l0_2.length c0_2] 24 (0, 0)) (by (with_reducible repeat (first | refine blk_drewN ?_ _ | refine blk_drew ?_ | refine blk_alloc ?_ _)); exact BK554.out)) : gb555 ≠ gb554)); clear BK554; clear HB; have BK554 := n0_; have HB := n1_; have BK555 := n2_; have GW555 := n3_; have GE555 := n4_; have NB554_555 := n5_; have NB555_554 := n6_; clear n0_ n1_ n2_ n3_ n4_ n5_ n6_; clear hb hbox hg; have hnb10 := NB554_555.out; have hnc10 := NB555_554.out; have hcz11_0 : w9.cell? ⟨gb554, 0, none⟩ = some (.int .i64 a0_0) := (blk_cell BK554.out 0).trans rfl; have hcz11_1 : w9.cell? ⟨gb554, 1, none⟩ = some (.int .i64 a0_1) := (blk_cell BK554.out 1).trans rfl; have hcz11_2 : w9.cell? ⟨gb554, 2, none⟩ = some (.slice A0_2 l0_2.length c0_2) := (blk_cell BK554.out 2).trans rfl; have hfz11_0 := blk_frozen BK554.out 0; have hfz11_1 := blk_frozen BK554.out 1; have hfz11_2 := blk_frozen BK554.out 2) | ((with_reducible refine gate_callee (f := 42) rfl ?_); refine goesL_ (some 6) rfl rfl Tryd.func42 (by kernel_rfl) rfl #[.agg #[.int .i64 a0_0, .int .i64 a0_1, .slice A0_2 l0_2.length c0_2]] rfl (by (try simp only [List.map_toArray, List.map_cons, List.map_nil]); first | done | rfl | (simp only [List.length_drop, List.length_take]; rfl)) ?_; (with_reducible refine (parryref22_fits.calls k a0_0 a0_1 _ _ l0_2 true _ ?side1 ?side2 A3.out).mono ?_); (case side1 => repeat (first | exact (Kd.C_below HR0_2.out HB.out) | (with_reducible refine Kd.C_alloc ?_ _) | (with_reducible refine Kd.C_drewN ?_ _) | (with_reducible refine Kd.C_drew ?_))); (case side2 => exact HC0_2.out); rintro e w12 ⟨rfl, hb⟩; refine ⟨_, rfl, ?_⟩; have n0_ := Aside0.mk (blk_below (g := gb554) (o := .cells #[.int .i64 a0_0, .int .i64 a0_1, .slice A0_2 l0_2.length c0_2] 24 (0, 0)) (by (with_reducible repeat (first | refine blk_drewN ?_ _ | refine blk_drew ?_ | refine blk_alloc ?_ _)); exact BK554.out) hb); have n1_ := Aside0.mk (blk_below (g := gb555) (o := .cells #[.int .i64 a1_0, .int .i64 a1_1, .slice A1_2 l1_2.length c1_2] 24 (0, 0)) (by (with_reducible repeat (first | refine blk_drewN ?_ _ | refine blk_drew ?_ | refine blk_alloc ?_ _)); exact BK555.out) hb); have n2_ := Aside0.mk (below_step (by repeat (first | (with_reducible first | exact HB.out | apply below_alloc | apply pw_below_drewN | apply below_drew1 | refine below_set ?_ GE554.out | refine below_set ?_ GE555.out) | exact HB.out)) hb); clear BK554; clear BK555; clear HB; have BK554 := n0_; have BK555 := n1_; have HB := n2_; clear n0_ n1_ n2_; (try clear hb); (try clear hb2); (try clear hk); (try clear hi); have hcz13_0 : w12.cell? ⟨gb555, 0, none⟩ = some (.int .i64 a1_0) := (blk_cell BK555.out 0).trans rfl; have hcz13_1 : w12.cell? ⟨gb555, 1, none⟩ = some (.int .i64 a1_1) := (blk_cell BK555.out 1).trans rfl; have hcz13_2 : w12.cell? ⟨gb555, 2, none⟩ = some (.slice A1_2 l1_2.length c1_2) := (blk_cell BK555.out 2).trans rfl; have hfz13_0 := blk_frozen BK555.out 0; have hfz13_1 := blk_frozen BK555.out 1; have hfz13_2 := blk_frozen BK555.out 2) | (go_at_call 42; (with_reducible refine (parryref22_fits.calls k a1_0 a1_1 _ _ l1_2 true _ ?side1 ?side2 A5.out).mono ?_); (case side1 => repeat (first | exact (Kd.C_below HR1_2.out HB.out) | (with_reducible refine Kd.C_alloc ?_ _) | (with_reducible refine Kd.C_drewN ?_ _) | (with_reducible refine Kd.C_drew ?_))); (case side2 => exact HC1_2.out); rintro e w14 ⟨rfl, hb⟩; have n0_ := Aside0.mk (blk_below (g := gb554) (o := .cells #[.int .i64 a0_0, .int .i64 a0_1, .slice A0_2 l0_2.length c0_2] 24 (0, 0)) (by (with_reducible repeat (first | refine blk_drewN ?_ _ | refine blk_drew ?_ | refine blk_alloc ?_ _)); exact BK554.out) hb); have n1_ := Aside0.mk (blk_below (g := gb555) (o := .cells #[.int .i64 a1_0, .int .i64 a1_1, .slice A1_2 l1_2.length c1_2] 24 (0, 0)) (by (with_reducible repeat (first | refine blk_drewN ?_ _ | refine blk_drew ?_ | refine blk_alloc ?_ _)); exact BK555.out) hb); have n2_ := Aside0.mk (below_step (by repeat (first | (with_reducible first | exact HB.out | apply below_alloc | apply pw_below_drewN | apply below_drew1 | refine below_set ?_ GE554.out | refine below_set ?_ GE555.out) | exact HB.out)) hb); clear BK554; clear BK555; clear HB; have BK554 := n0_; have BK555 := n1_; have HB := n2_; clear n0_ n1_ n2_; (try clear hb); (try clear hb2); (try clear hk); (try clear hi); have hcz15_0 : w14.cell? ⟨gb554, 0, none⟩ = some (.int .i64 a0_0) := (blk_cell BK554.out 0).trans rfl; have hcz15_1 : w14.cell? ⟨gb554, 1, none⟩ = some (.int .i64 a0_1) := (blk_cell BK554.out 1).trans rfl; have hcz15_2 : w14.cell? ⟨gb554, 2, none⟩ = some (.slice A0_2 l0_2.length c0_2) := (blk_cell BK554.out 2).trans rfl; have hfz15_0 := blk_frozen BK554.out 0; have hfz15_1 := blk_frozen BK554.out 1; have hfz15_2 := blk_frozen BK554.out 2; have hcz16_0 : w14.cell? ⟨gb555, 0, none⟩ = some (.int .i64 a1_0) := (blk_cell BK555.out 0).trans rfl; have hcz16_1 : w14.cell? ⟨gb555, 1, none⟩ = some (.int .i64 a1_1) := (blk_cell BK555.out 1).trans rfl; have hcz16_2 : w14.cell? ⟨gb555, 2, none⟩ = some (.slice A1_2 l1_2.length c1_2) := (blk_cell BK555.out 2).trans rfl; have hfz16_0 := blk_frozen BK555.out 0; have hfz16_1 := blk_frozen BK555.out 1; have hfz16_2 := blk_frozen BK555.out 2) | (go_at_call 43; (with_reducible refine (parryref22_same.calls k a0_0 a0_1 _ _ l0_2 a1_0 a1_1 _ _ l1_2 t558 _ ?side1 ?side2 ?side3 ?side4 A7.out).mono ?_); (case side1 => repeat (first | exact (Kd.C_below HR0_2.out HB.out) | (with_reducible refine Kd.C_alloc ?_ _) | (with_reducible refine Kd.C_drewN ?_ _) | (with_reducible refine Kd.C_drew ?_))); (case side2 => exact HC0_2.out); (case side3 => repeat (first | exact (Kd.C_below HR1_2.out HB.out) | (with_reducible refine Kd.C_alloc ?_ _) | (with_reducible refine Kd.C_drewN ?_ _) | (with_reducible refine Kd.C_drew ?_))); (case side4 => exact HC1_2.out); rintro e w17 ⟨rfl, hb⟩; have n0_ := Aside0.mk (blk_below (g := gb554) (o := .cells #[.int .i64 a0_0, .int .i64 a0_1, .slice A0_2 l0_2.length c0_2] 24 (0, 0)) (by (with_reducible repeat (first | refine blk_drewN ?_ _ | refine blk_drew ?_ | refine blk_alloc ?_ _)); exact BK554.out) hb); have n1_ := Aside0.mk (blk_below (g := gb555) (o := .cells #[.int .i64 a1_0, .int .i64 a1_1, .slice A1_2 l1_2.length c1_2] 24 (0, 0)) (by (with_reducible repeat (first | refine blk_drewN ?_ _ | refine blk_drew ?_ | refine blk_alloc ?_ _)); exact BK555.out) hb); have n2_ := Aside0.mk (below_step (by repeat (first | (with_reducible first | exact HB.out | apply below_alloc | apply pw_below_drewN | apply below_drew1 | refine below_set ?_ GE554.out | refine below_set ?_ GE555.out) | exact HB.out)) hb); clear BK554; clear BK555; clear HB; have BK554 := n0_; have BK555 := n1_; have HB := n2_; clear n0_ n1_ n2_; (try clear hb); (try clear hb2); (try clear hk); (try clear hi)))
      go_ret
      exact ⟨by first | rfl | (simp [errW_none, errW_some] <;> rfl) | (simp [*, errW_none, errW_some] <;> rfl), by repeat (first | (with_reducible first | exact HB.out | apply below_alloc | apply pw_below_drewN | apply below_drew1 | refine below_set ?_ GE554.out | refine below_set ?_ GE555.out) | exact HB.out)⟩
    · replace c6 := Bool.eq_false_iff.mpr c6
      subst c6
      have H1 : (some false) = some r := by rw [if_neg (show ¬ (false = true) by decide)] at H; exact H
      clear H
      have H := H1
      clear H1
      obtain rfl := Option.some.inj H
      go_enter Tryd.func22, Tryd.ntmps22
      go_wp2_with (first | ((with_reducible refine gate_dst (N := 2) rfl ?_); refine box_event ?hg (N := 2) ?hd (cs := #[.int .i64 a0_0, .int .i64 a0_1, .slice A0_2 l0_2.length c0_2]) (t := 24) ?hr ?_; (case hd => rfl); (case hg => rfl); (case hr => first | (go_simp; done) | (go_simp; rfl)); intro gb554 hg w18 hbox hb; have n0_ := Aside0.mk (below_step (by repeat (first | (with_reducible first | exact HB.out | apply below_alloc | apply pw_below_drewN | apply below_drew1) | exact HB.out)) hb); have n1_ := Aside0.mk (hbox); have n2_ := Aside0.mk ((by rw [hg]; exact (below_size (by repeat (first | (with_reducible first | exact HB.out | apply below_alloc | apply pw_below_drewN | apply below_drew1) | exact HB.out))) : w.heap.size ≤ gb554)); have n3_ := Aside0.mk ((by rw [hg]; exact (below_size (by repeat (first | (with_reducible first | exact HB.out | apply below_alloc | apply pw_below_drewN | apply below_drew1) | exact HB.out))) : w.heap.size ≤ gb554)); clear HB; have HB := n0_; have BK554 := n1_; have GW554 := n2_; have GE554 := n3_; clear n0_ n1_ n2_ n3_; clear hb hbox hg) | ((with_reducible refine gate_dst (N := 3) rfl ?_); refine box_event ?hg (N := 3) ?hd (cs := #[.int .i64 a1_0, .int .i64 a1_1, .slice A1_2 l1_2.length c1_2]) (t := 24) ?hr ?_; (case hd => rfl); (case hg => rfl); (case hr => first | (go_simp; done) | (go_simp; rfl)); intro gb555 hg w19 hbox hb; have n0_ := Aside0.mk (blk_below (g := gb554) (o := .cells #[.int .i64 a0_0, .int .i64 a0_1, .slice A0_2 l0_2.length c0_2] 24 (0, 0)) (by (with_reducible repeat (first | refine blk_drewN ?_ _ | refine blk_drew ?_ | refine blk_alloc ?_ _)); exact BK554.out) hb); have n1_ := Aside0.mk (below_step (by repeat (first | (with_reducible first | exact HB.out | apply below_alloc | apply pw_below_drewN | apply below_drew1 | refine below_set ?_ GE554.out) | exact HB.out)) hb); have n2_ := Aside0.mk (hbox); have n3_ := Aside0.mk ((by rw [hg]; exact (below_size (by repeat (first | (with_reducible first | exact HB.out | apply below_alloc | apply pw_below_drewN | apply below_drew1 | refine below_set ?_ GE554.out) | exact HB.out))) : w.heap.size ≤ gb555)); have n4_ := Aside0.mk ((by rw [hg]; exact (below_size (by repeat (first | (with_reducible first | exact HB.out | apply below_alloc | apply pw_below_drewN | apply below_drew1 | refine below_set ?_ GE554.out) | exact HB.out))) : w.heap.size ≤ gb555)); have n5_ := Aside0.mk ((by rw [hg]; exact Nat.ne_of_lt (blk_lt (g := gb554) (o := .cells #[.int .i64 a0_0, .int .i64 a0_1, .slice A0_2 l0_2.length c0_2] 24 (0, 0)) (by (with_reducible repeat (first | refine blk_drewN ?_ _ | refine blk_drew ?_ | refine blk_alloc ?_ _)); exact BK554.out)) : gb554 ≠ gb555)); have n6_ := Aside0.mk ((by rw [hg]; exact Nat.ne_of_gt (blk_lt (g := gb554) (o := .cells #[.int .i64 a0_0, .int .i64 a0_1, .slice A0_2 l0_2.length c0_2] 24 (0, 0)) (by (with_reducible repeat (first | refine blk_drewN ?_ _ | refine blk_drew ?_ | refine blk_alloc ?_ _)); exact BK554.out)) : gb555 ≠ gb554)); clear BK554; clear HB; have BK554 := n0_; have HB := n1_; have BK555 := n2_; have GW555 := n3_; have GE555 := n4_; have NB554_555 := n5_; have NB555_554 := n6_; clear n0_ n1_ n2_ n3_ n4_ n5_ n6_; clear hb hbox hg; have hnb20 := NB554_555.out; have hnc20 := NB555_554.out; have hcz21_0 : w19.cell? ⟨gb554, 0, none⟩ = some (.int .i64 a0_0) := (blk_cell BK554.out 0).trans rfl; have hcz21_1 : w19.cell? ⟨gb554, 1, none⟩ = some (.int .i64 a0_1) := (blk_cell BK554.out 1).trans rfl; have hcz21_2 : w19.cell? ⟨gb554, 2, none⟩ = some (.slice A0_2 l0_2.length c0_2) := (blk_cell BK554.out 2).trans rfl; have hfz21_0 := blk_frozen BK554.out 0; have hfz21_1 := blk_frozen BK554.out 1; have hfz21_2 := blk_frozen BK554.out 2) | ((with_reducible refine gate_callee (f := 42) rfl ?_); refine goesL_ (some 6) rfl rfl Tryd.func42 (by kernel_rfl) rfl #[.agg #[.int .i64 a0_0, .int .i64 a0_1, .slice A0_2 l0_2.length c0_2]] rfl (by (try simp only [List.map_toArray, List.map_cons, List.map_nil]); first | done | rfl | (simp only [List.length_drop, List.length_take]; rfl)) ?_; (with_reducible refine (parryref22_fits.calls k a0_0 a0_1 _ _ l0_2 true _ ?side1 ?side2 A3.out).mono ?_); (case side1 => repeat (first | exact (Kd.C_below HR0_2.out HB.out) | (with_reducible refine Kd.C_alloc ?_ _) | (with_reducible refine Kd.C_drewN ?_ _) | (with_reducible refine Kd.C_drew ?_))); (case side2 => exact HC0_2.out); rintro e w22 ⟨rfl, hb⟩; refine ⟨_, rfl, ?_⟩; have n0_ := Aside0.mk (blk_below (g := gb554) (o := .cells #[.int .i64 a0_0, .int .i64 a0_1, .slice A0_2 l0_2.length c0_2] 24 (0, 0)) (by (with_reducible repeat (first | refine blk_drewN ?_ _ | refine blk_drew ?_ | refine blk_alloc ?_ _)); exact BK554.out) hb); have n1_ := Aside0.mk (blk_below (g := gb555) (o := .cells #[.int .i64 a1_0, .int .i64 a1_1, .slice A1_2 l1_2.length c1_2] 24 (0, 0)) (by (with_reducible repeat (first | refine blk_drewN ?_ _ | refine blk_drew ?_ | refine blk_alloc ?_ _)); exact BK555.out) hb); have n2_ := Aside0.mk (below_step (by repeat (first | (with_reducible first | exact HB.out | apply below_alloc | apply pw_below_drewN | apply below_drew1 | refine below_set ?_ GE554.out | refine below_set ?_ GE555.out) | exact HB.out)) hb); clear BK554; clear BK555; clear HB; have BK554 := n0_; have BK555 := n1_; have HB := n2_; clear n0_ n1_ n2_; (try clear hb); (try clear hb2); (try clear hk); (try clear hi); have hcz23_0 : w22.cell? ⟨gb555, 0, none⟩ = some (.int .i64 a1_0) := (blk_cell BK555.out 0).trans rfl; have hcz23_1 : w22.cell? ⟨gb555, 1, none⟩ = some (.int .i64 a1_1) := (blk_cell BK555.out 1).trans rfl; have hcz23_2 : w22.cell? ⟨gb555, 2, none⟩ = some (.slice A1_2 l1_2.length c1_2) := (blk_cell BK555.out 2).trans rfl; have hfz23_0 := blk_frozen BK555.out 0; have hfz23_1 := blk_frozen BK555.out 1; have hfz23_2 := blk_frozen BK555.out 2) | (go_at_call 42; (with_reducible refine (parryref22_fits.calls k a1_0 a1_1 _ _ l1_2 false _ ?side1 ?side2 A5.out).mono ?_); (case side1 => repeat (first | exact (Kd.C_below HR1_2.out HB.out) | (with_reducible refine Kd.C_alloc ?_ _) | (with_reducible refine Kd.C_drewN ?_ _) | (with_reducible refine Kd.C_drew ?_))); (case side2 => exact HC1_2.out); rintro e w24 ⟨rfl, hb⟩; have n0_ := Aside0.mk (blk_below (g := gb554) (o := .cells #[.int .i64 a0_0, .int .i64 a0_1, .slice A0_2 l0_2.length c0_2] 24 (0, 0)) (by (with_reducible repeat (first | refine blk_drewN ?_ _ | refine blk_drew ?_ | refine blk_alloc ?_ _)); exact BK554.out) hb); have n1_ := Aside0.mk (blk_below (g := gb555) (o := .cells #[.int .i64 a1_0, .int .i64 a1_1, .slice A1_2 l1_2.length c1_2] 24 (0, 0)) (by (with_reducible repeat (first | refine blk_drewN ?_ _ | refine blk_drew ?_ | refine blk_alloc ?_ _)); exact BK555.out) hb); have n2_ := Aside0.mk (below_step (by repeat (first | (with_reducible first | exact HB.out | apply below_alloc | apply pw_below_drewN | apply below_drew1 | refine below_set ?_ GE554.out | refine below_set ?_ GE555.out) | exact HB.out)) hb); clear BK554; clear BK555; clear HB; have BK554 := n0_; have BK555 := n1_; have HB := n2_; clear n0_ n1_ n2_; (try clear hb); (try clear hb2); (try clear hk); (try clear hi)))
      go_ret
      exact ⟨by first | rfl | (simp [errW_none, errW_some] <;> rfl) | (simp [*, errW_none, errW_some] <;> rfl), by repeat (first | (with_reducible first | exact HB.out | apply below_alloc | apply pw_below_drewN | apply below_drew1 | refine below_set ?_ GE554.out | refine below_set ?_ GE555.out) | exact HB.out)⟩
  · replace c4 := Bool.eq_false_iff.mpr c4
    subst c4
    have H1 : (some false) = some r := by rw [if_neg (show ¬ (false = true) by decide)] at H; exact H
    clear H
    have H := H1
    clear H1
    obtain rfl := Option.some.inj H
    go_enter Tryd.func22, Tryd.ntmps22
    go_wp2_with (first | ((with_reducible refine gate_dst (N := 2) rfl ?_); refine box_event ?hg (N := 2) ?hd (cs := #[.int .i64 a0_0, .int .i64 a0_1, .slice A0_2 l0_2.length c0_2]) (t := 24) ?hr ?_; (case hd => rfl); (case hg => rfl); (case hr => first | (go_simp; done) | (go_simp; rfl)); intro gb554 hg w25 hbox hb; have n0_ := Aside0.mk (below_step (by repeat (first | (with_reducible first | exact HB.out | apply below_alloc | apply pw_below_drewN | apply below_drew1) | exact HB.out)) hb); have n1_ := Aside0.mk (hbox); have n2_ := Aside0.mk ((by rw [hg]; exact (below_size (by repeat (first | (with_reducible first | exact HB.out | apply below_alloc | apply pw_below_drewN | apply below_drew1) | exact HB.out))) : w.heap.size ≤ gb554)); have n3_ := Aside0.mk ((by rw [hg]; exact (below_size (by repeat (first | (with_reducible first | exact HB.out | apply below_alloc | apply pw_below_drewN | apply below_drew1) | exact HB.out))) : w.heap.size ≤ gb554)); clear HB; have HB := n0_; have BK554 := n1_; have GW554 := n2_; have GE554 := n3_; clear n0_ n1_ n2_ n3_; clear hb hbox hg) | ((with_reducible refine gate_dst (N := 3) rfl ?_); refine box_event ?hg (N := 3) ?hd (cs := #[.int .i64 a1_0, .int .i64 a1_1, .slice A1_2 l1_2.length c1_2]) (t := 24) ?hr ?_; (case hd => rfl); (case hg => rfl); (case hr => first | (go_simp; done) | (go_simp; rfl)); intro gb555 hg w26 hbox hb; have n0_ := Aside0.mk (blk_below (g := gb554) (o := .cells #[.int .i64 a0_0, .int .i64 a0_1, .slice A0_2 l0_2.length c0_2] 24 (0, 0)) (by (with_reducible repeat (first | refine blk_drewN ?_ _ | refine blk_drew ?_ | refine blk_alloc ?_ _)); exact BK554.out) hb); have n1_ := Aside0.mk (below_step (by repeat (first | (with_reducible first | exact HB.out | apply below_alloc | apply pw_below_drewN | apply below_drew1 | refine below_set ?_ GE554.out) | exact HB.out)) hb); have n2_ := Aside0.mk (hbox); have n3_ := Aside0.mk ((by rw [hg]; exact (below_size (by repeat (first | (with_reducible first | exact HB.out | apply below_alloc | apply pw_below_drewN | apply below_drew1 | refine below_set ?_ GE554.out) | exact HB.out))) : w.heap.size ≤ gb555)); have n4_ := Aside0.mk ((by rw [hg]; exact (below_size (by repeat (first | (with_reducible first | exact HB.out | apply below_alloc | apply pw_below_drewN | apply below_drew1 | refine below_set ?_ GE554.out) | exact HB.out))) : w.heap.size ≤ gb555)); have n5_ := Aside0.mk ((by rw [hg]; exact Nat.ne_of_lt (blk_lt (g := gb554) (o := .cells #[.int .i64 a0_0, .int .i64 a0_1, .slice A0_2 l0_2.length c0_2] 24 (0, 0)) (by (with_reducible repeat (first | refine blk_drewN ?_ _ | refine blk_drew ?_ | refine blk_alloc ?_ _)); exact BK554.out)) : gb554 ≠ gb555)); have n6_ := Aside0.mk ((by rw [hg]; exact Nat.ne_of_gt (blk_lt (g := gb554) (o := .cells #[.int .i64 a0_0, .int .i64 a0_1, .slice A0_2 l0_2.length c0_2] 24 (0, 0)) (by (with_reducible repeat (first | refine blk_drewN ?_ _ | refine blk_drew ?_ | refine blk_alloc ?_ _)); exact BK554.out)) : gb555 ≠ gb554)); clear BK554; clear HB; have BK554 := n0_; have HB := n1_; have BK555 := n2_; have GW555 := n3_; have GE555 := n4_; have NB554_555 := n5_; have NB555_554 := n6_; clear n0_ n1_ n2_ n3_ n4_ n5_ n6_; clear hb hbox hg; have hnb27 := NB554_555.out; have hnc27 := NB555_554.out; have hcz28_0 : w26.cell? ⟨gb554, 0, none⟩ = some (.int .i64 a0_0) := (blk_cell BK554.out 0).trans rfl; have hcz28_1 : w26.cell? ⟨gb554, 1, none⟩ = some (.int .i64 a0_1) := (blk_cell BK554.out 1).trans rfl; have hcz28_2 : w26.cell? ⟨gb554, 2, none⟩ = some (.slice A0_2 l0_2.length c0_2) := (blk_cell BK554.out 2).trans rfl; have hfz28_0 := blk_frozen BK554.out 0; have hfz28_1 := blk_frozen BK554.out 1; have hfz28_2 := blk_frozen BK554.out 2) | ((with_reducible refine gate_callee (f := 42) rfl ?_); refine goesL_ (some 6) rfl rfl Tryd.func42 (by kernel_rfl) rfl #[.agg #[.int .i64 a0_0, .int .i64 a0_1, .slice A0_2 l0_2.length c0_2]] rfl (by (try simp only [List.map_toArray, List.map_cons, List.map_nil]); first | done | rfl | (simp only [List.length_drop, List.length_take]; rfl)) ?_; (with_reducible refine (parryref22_fits.calls k a0_0 a0_1 _ _ l0_2 false _ ?side1 ?side2 A3.out).mono ?_); (case side1 => repeat (first | exact (Kd.C_below HR0_2.out HB.out) | (with_reducible refine Kd.C_alloc ?_ _) | (with_reducible refine Kd.C_drewN ?_ _) | (with_reducible refine Kd.C_drew ?_))); (case side2 => exact HC0_2.out); rintro e w29 ⟨rfl, hb⟩; refine ⟨_, rfl, ?_⟩; have n0_ := Aside0.mk (blk_below (g := gb554) (o := .cells #[.int .i64 a0_0, .int .i64 a0_1, .slice A0_2 l0_2.length c0_2] 24 (0, 0)) (by (with_reducible repeat (first | refine blk_drewN ?_ _ | refine blk_drew ?_ | refine blk_alloc ?_ _)); exact BK554.out) hb); have n1_ := Aside0.mk (blk_below (g := gb555) (o := .cells #[.int .i64 a1_0, .int .i64 a1_1, .slice A1_2 l1_2.length c1_2] 24 (0, 0)) (by (with_reducible repeat (first | refine blk_drewN ?_ _ | refine blk_drew ?_ | refine blk_alloc ?_ _)); exact BK555.out) hb); have n2_ := Aside0.mk (below_step (by repeat (first | (with_reducible first | exact HB.out | apply below_alloc | apply pw_below_drewN | apply below_drew1 | refine below_set ?_ GE554.out | refine below_set ?_ GE555.out) | exact HB.out)) hb); clear BK554; clear BK555; clear HB; have BK554 := n0_; have BK555 := n1_; have HB := n2_; clear n0_ n1_ n2_; (try clear hb); (try clear hb2); (try clear hk); (try clear hi)))
    go_ret
    exact ⟨by first | rfl | (simp [errW_none, errW_some] <;> rfl) | (simp [*, errW_none, errW_some] <;> rfl), by repeat (first | (with_reducible first | exact HB.out | apply below_alloc | apply pw_below_drewN | apply below_drew1 | refine below_set ?_ GE554.out | refine below_set ?_ GE555.out) | exact HB.out)⟩

def parryref22_MayWord.f (l0_0 : List Int) (l0_1 : List Int) : Option (Bool) := if (l0_0.length : Int) ≤ 3000 then (if (l0_1.length : Int) ≥ 1 then (some (decide ((l0_1.length : Int) ≤ 27000))) else (some false)) else (some false)
set_option maxHeartbeats 8000000 in
set_option maxRecDepth 100000 in
theorem parryref22_MayWord.calls (A0_0 : Option Addr) (c0_0 : Nat) (l0_0 : List Int) (A0_1 : Option Addr) (c0_1 : Nat) (l0_1 : List Int) (r : Bool) (w : World) (hr0_0 : Kd.C (Kd.int .u32) w A0_0 l0_0.length l0_0) (hc0_0 : l0_0.length ≤ c0_0) (hr0_1 : Kd.C (Kd.int .u32) w A0_1 l0_1.length l0_1) (hc0_1 : l0_1.length ≤ c0_1) (h : parryref22_MayWord.f l0_0 l0_1 = some r) :
    Calls Tryd.prog 23 #[.agg #[.slice A0_0 l0_0.length c0_0, .slice A0_1 l0_1.length c0_1]] w fun e w' => e = .returned (.bool r) ∧ Below w.heap.size w w' := by
  have hu27 := Tryd.underlying27
  have HR0_0 := Aside0.mk hr0_0
  have HC0_0 := Aside0.mk hc0_0
  clear hr0_0 hc0_0
  have HR0_1 := Aside0.mk hr0_1
  have HC0_1 := Aside0.mk hc0_1
  clear hr0_1 hc0_1
  have HB := Aside0.mk (Below.refl w.heap.size w)
  have H : (if (l0_0.length : Int) ≤ 3000 then (if (l0_1.length : Int) ≥ 1 then (some (decide ((l0_1.length : Int) ≤ 27000))) else (some false)) else (some false)) = some r := h
  clear h
  by_cases c2 : (l0_0.length : Int) ≤ 3000
  · rw [if_pos c2] at H
    have c2b0 : decide ((l0_0.length : Int) ≤ 3000) = true := decide_eq_true c2
    have c2b1 : decide (l0_0.length ≤ 3000) = true := decide_eq_true (by omega)
    clear c2
    by_cases c3 : (l0_1.length : Int) ≥ 1
    · rw [if_pos c3] at H
      have c3b0 : decide (1 ≤ (l0_1.length : Int)) = true := decide_eq_true c3
      have c3b1 : decide (1 ≤ l0_1.length) = true := decide_eq_true (by omega)
      clear c3
      obtain rfl := Option.some.inj H
      go_enter Tryd.func23, Tryd.ntmps23
      go_wp2_with (first | ((with_reducible refine gate_dst (N := 1) rfl ?_); (try (refine gate_guard (by rfl) ?_; dsimp only)); refine box_event ?hg (N := 1) ?hd (cs := #[.slice A0_0 l0_0.length c0_0, .slice A0_1 l0_1.length c0_1]) (t := 27) ?hr ?_; (case hd => rfl); (case hg => rfl); (case hr => first | (go_simp; done) | (go_simp; rfl)); intro gb559 hg w4 hbox hb; have n0_ := Aside0.mk (below_step (by repeat (first | (with_reducible first | exact HB.out | apply below_alloc | apply pw_below_drewN | apply below_drew1) | exact HB.out)) hb); have n1_ := Aside0.mk (hbox); have n2_ := Aside0.mk ((by rw [hg]; exact (below_size (by repeat (first | (with_reducible first | exact HB.out | apply below_alloc | apply pw_below_drewN | apply below_drew1) | exact HB.out))) : w.heap.size ≤ gb559)); have n3_ := Aside0.mk ((by rw [hg]; exact (below_size (by repeat (first | (with_reducible first | exact HB.out | apply below_alloc | apply pw_below_drewN | apply below_drew1) | exact HB.out))) : w.heap.size ≤ gb559)); clear HB; have HB := n0_; have BK559 := n1_; have GW559 := n2_; have GE559 := n3_; clear n0_ n1_ n2_ n3_; clear hb hbox hg; have hcz5_0 : w4.cell? ⟨gb559, 0, none⟩ = some (.slice A0_0 l0_0.length c0_0) := (blk_cell BK559.out 0).trans rfl; have hcz5_1 : w4.cell? ⟨gb559, 1, none⟩ = some (.slice A0_1 l0_1.length c0_1) := (blk_cell BK559.out 1).trans rfl; have hfz5_0 := blk_frozen BK559.out 0; have hfz5_1 := blk_frozen BK559.out 1))
      go_ret
      exact ⟨by first | rfl | (simp [errW_none, errW_some] <;> rfl) | (simp [*, errW_none, errW_some] <;> rfl), by repeat (first | (with_reducible first | exact HB.out | apply below_alloc | apply pw_below_drewN | apply below_drew1 | refine below_set ?_ GE559.out) | exact HB.out)⟩
    · rw [if_neg c3] at H
      have c3b0 : decide (1 ≤ (l0_1.length : Int)) = false := decide_eq_false c3
      have c3b1 : decide (1 ≤ l0_1.length) = false := decide_eq_false (by omega)
      clear c3
      obtain rfl := Option.some.inj H
      go_enter Tryd.func23, Tryd.ntmps23
      go_wp2_with (first | ((with_reducible refine gate_dst (N := 1) rfl ?_); (try (refine gate_guard (by rfl) ?_; dsimp only)); refine box_event ?hg (N := 1) ?hd (cs := #[.slice A0_0 l0_0.length c0_0, .slice A0_1 l0_1.length c0_1]) (t := 27) ?hr ?_; (case hd => rfl); (case hg => rfl); (case hr => first | (go_simp; done) | (go_simp; rfl)); intro gb559 hg w6 hbox hb; have n0_ := Aside0.mk (below_step (by repeat (first | (with_reducible first | exact HB.out | apply below_alloc | apply pw_below_drewN | apply below_drew1) | exact HB.out)) hb); have n1_ := Aside0.mk (hbox); have n2_ := Aside0.mk ((by rw [hg]; exact (below_size (by repeat (first | (with_reducible first | exact HB.out | apply below_alloc | apply pw_below_drewN | apply below_drew1) | exact HB.out))) : w.heap.size ≤ gb559)); have n3_ := Aside0.mk ((by rw [hg]; exact (below_size (by repeat (first | (with_reducible first | exact HB.out | apply below_alloc | apply pw_below_drewN | apply below_drew1) | exact HB.out))) : w.heap.size ≤ gb559)); clear HB; have HB := n0_; have BK559 := n1_; have GW559 := n2_; have GE559 := n3_; clear n0_ n1_ n2_ n3_; clear hb hbox hg; have hcz7_0 : w6.cell? ⟨gb559, 0, none⟩ = some (.slice A0_0 l0_0.length c0_0) := (blk_cell BK559.out 0).trans rfl; have hcz7_1 : w6.cell? ⟨gb559, 1, none⟩ = some (.slice A0_1 l0_1.length c0_1) := (blk_cell BK559.out 1).trans rfl; have hfz7_0 := blk_frozen BK559.out 0; have hfz7_1 := blk_frozen BK559.out 1))
      go_ret
      exact ⟨by first | rfl | (simp [errW_none, errW_some] <;> rfl) | (simp [*, errW_none, errW_some] <;> rfl), by repeat (first | (with_reducible first | exact HB.out | apply below_alloc | apply pw_below_drewN | apply below_drew1 | refine below_set ?_ GE559.out) | exact HB.out)⟩
  · rw [if_neg c2] at H
    have c2b0 : decide ((l0_0.length : Int) ≤ 3000) = false := decide_eq_false c2
    have c2b1 : decide (l0_0.length ≤ 3000) = false := decide_eq_false (by omega)
    clear c2
    obtain rfl := Option.some.inj H
    go_enter Tryd.func23, Tryd.ntmps23
    go_wp2_with (first | ((with_reducible refine gate_dst (N := 1) rfl ?_); (try (refine gate_guard (by rfl) ?_; dsimp only)); refine box_event ?hg (N := 1) ?hd (cs := #[.slice A0_0 l0_0.length c0_0, .slice A0_1 l0_1.length c0_1]) (t := 27) ?hr ?_; (case hd => rfl); (case hg => rfl); (case hr => first | (go_simp; done) | (go_simp; rfl)); intro gb559 hg w8 hbox hb; have n0_ := Aside0.mk (below_step (by repeat (first | (with_reducible first | exact HB.out | apply below_alloc | apply pw_below_drewN | apply below_drew1) | exact HB.out)) hb); have n1_ := Aside0.mk (hbox); have n2_ := Aside0.mk ((by rw [hg]; exact (below_size (by repeat (first | (with_reducible first | exact HB.out | apply below_alloc | apply pw_below_drewN | apply below_drew1) | exact HB.out))) : w.heap.size ≤ gb559)); have n3_ := Aside0.mk ((by rw [hg]; exact (below_size (by repeat (first | (with_reducible first | exact HB.out | apply below_alloc | apply pw_below_drewN | apply below_drew1) | exact HB.out))) : w.heap.size ≤ gb559)); clear HB; have HB := n0_; have BK559 := n1_; have GW559 := n2_; have GE559 := n3_; clear n0_ n1_ n2_ n3_; clear hb hbox hg; have hcz9_0 : w8.cell? ⟨gb559, 0, none⟩ = some (.slice A0_0 l0_0.length c0_0) := (blk_cell BK559.out 0).trans rfl; have hcz9_1 : w8.cell? ⟨gb559, 1, none⟩ = some (.slice A0_1 l0_1.length c0_1) := (blk_cell BK559.out 1).trans rfl; have hfz9_0 := blk_frozen BK559.out 0; have hfz9_1 := blk_frozen BK559.out 1))
    go_ret
    exact ⟨by first | rfl | (simp [errW_none, errW_some] <;> rfl) | (simp [*, errW_none, errW_some] <;> rfl), by repeat (first | (with_reducible first | exact HB.out | apply below_alloc | apply pw_below_drewN | apply below_drew1 | refine below_set ?_ GE559.out) | exact HB.out)⟩

def parryref22_letter.f (l0_0 : List Int) (l0_1 : List Int) (a1 : Int) : Option (Int) := if a1 < (l0_0.length : Int) then (if 0 ≤ a1 then (some (rd l0_0 a1)) else (none)) else (if 0 ≤ (wrap64 (a1 - (l0_0.length : Int))) then (if (wrap64 (a1 - (l0_0.length : Int))) < (l0_1.length : Int) then (some (rd l0_1 (wrap64 (a1 - (l0_0.length : Int))))) else (none)) else (none))
set_option maxHeartbeats 8000000 in
set_option maxRecDepth 100000 in
theorem parryref22_letter.calls (A0_0 : Option Addr) (c0_0 : Nat) (l0_0 : List Int) (A0_1 : Option Addr) (c0_1 : Nat) (l0_1 : List Int) (a1 : Int) (r : Int) (w : World) (hr0_0 : Kd.C (Kd.int .u32) w A0_0 l0_0.length l0_0) (hc0_0 : l0_0.length ≤ c0_0) (hr0_1 : Kd.C (Kd.int .u32) w A0_1 l0_1.length l0_1) (hc0_1 : l0_1.length ≤ c0_1) (h : parryref22_letter.f l0_0 l0_1 a1 = some r) :
    Calls Tryd.prog 68 #[.agg #[.slice A0_0 l0_0.length c0_0, .slice A0_1 l0_1.length c0_1], .int .i64 a1] w fun e w' => e = .returned (.int .u32 r) ∧ Below w.heap.size w w' := by
  have hu27 := Tryd.underlying27
  have HR0_0 := Aside0.mk hr0_0
  have HC0_0 := Aside0.mk hc0_0
  clear hr0_0 hc0_0
  have HR0_1 := Aside0.mk hr0_1
  have HC0_1 := Aside0.mk hc0_1
  clear hr0_1 hc0_1
  have HB := Aside0.mk (Below.refl w.heap.size w)
  have H : (if a1 < (l0_0.length : Int) then (if 0 ≤ a1 then (some (rd l0_0 a1)) else (none)) else (if 0 ≤ (wrap64 (a1 - (l0_0.length : Int))) then (if (wrap64 (a1 - (l0_0.length : Int))) < (l0_1.length : Int) then (some (rd l0_1 (wrap64 (a1 - (l0_0.length : Int))))) else (none)) else (none))) = some r := h
  clear h
  by_cases c3 : a1 < (l0_0.length : Int)
  · rw [if_pos c3] at H
    have c3b0 : decide (a1 < (l0_0.length : Int)) = true := decide_eq_true c3
    clear c3
    by_cases c4 : 0 ≤ a1
    · rw [if_pos c4] at H
      have c4b0 : decide (0 ≤ a1) = true := decide_eq_true c4
      clear c4
      obtain rfl := Option.some.inj H
      go_enter Tryd.func68, Tryd.ntmps68
      go_wp2_with (first | ((with_reducible refine gate_dst (N := 2) rfl ?_); refine box_event ?hg (N := 2) ?hd (cs := #[.slice A0_0 l0_0.length c0_0, .slice A0_1 l0_1.length c0_1]) (t := 27) ?hr ?_; (case hd => rfl); (case hg => rfl); (case hr => first | (go_simp; done) | (go_simp; rfl)); intro gb560 hg w5 hbox hb; have n0_ := Aside0.mk (below_step (by repeat (first | (with_reducible first | exact HB.out | apply below_alloc | apply pw_below_drewN | apply below_drew1) | exact HB.out)) hb); have n1_ := Aside0.mk (hbox); have n2_ := Aside0.mk ((by rw [hg]; exact (below_size (by repeat (first | (with_reducible first | exact HB.out | apply below_alloc | apply pw_below_drewN | apply below_drew1) | exact HB.out))) : w.heap.size ≤ gb560)); have n3_ := Aside0.mk ((by rw [hg]; exact (below_size (by repeat (first | (with_reducible first | exact HB.out | apply below_alloc | apply pw_below_drewN | apply below_drew1) | exact HB.out))) : w.heap.size ≤ gb560)); clear HB; have HB := n0_; have BK560 := n1_; have GW560 := n2_; have GE560 := n3_; clear n0_ n1_ n2_ n3_; clear hb hbox hg; have hcz6_0 : w5.cell? ⟨gb560, 0, none⟩ = some (.slice A0_0 l0_0.length c0_0) := (blk_cell BK560.out 0).trans rfl; have hcz6_1 : w5.cell? ⟨gb560, 1, none⟩ = some (.slice A0_1 l0_1.length c0_1) := (blk_cell BK560.out 1).trans rfl; have hfz6_0 := blk_frozen BK560.out 0; have hfz6_1 := blk_frozen BK560.out 1; have p561 : 0 ≤ (a1 : Int) := of_decide_eq_true (by first | (with_reducible assumption) | assumption); have q561 : a1 < (l0_0.length : Int) := of_decide_eq_true (by first | (with_reducible assumption) | assumption); obtain ⟨ad561, e561, hx561_0⟩ := Kd.at_int HR0_0.out a1 p561 q561; cases e561; replace hx561_0 := (HB.out.cell (World.block_lt_of_cell? w _ hx561_0)).trans hx561_0; replace p561 := eq_true p561; replace q561 := eq_true q561))
      go_ret
      exact ⟨by first | rfl | (simp [errW_none, errW_some] <;> rfl) | (simp [*, errW_none, errW_some] <;> rfl), by repeat (first | (with_reducible first | exact HB.out | apply below_alloc | apply pw_below_drewN | apply below_drew1 | refine below_set ?_ GE560.out) | exact HB.out)⟩
    · rw [if_neg c4] at H
      exact absurd H (by simp)
  · rw [if_neg c3] at H
    have c3b0 : decide (a1 < (l0_0.length : Int)) = false := decide_eq_false c3
    clear c3
    obtain ⟨ji7, hji7⟩ : ∃ j_ : Int, (wrap64 (a1 - (l0_0.length : Int))) = j_ := ⟨_, rfl⟩
    replace H : (if 0 ≤ (ji7) then (if (ji7) < (l0_1.length : Int) then (some (rd l0_1 (ji7))) else (none)) else (none)) = some r := by first | (rw [hji7] at H; exact H) | (simp only [hji7] at H ⊢; exact H)
    have hji7w : (IntKind.i64.wrap (a1 - (l0_0.length : Int))) = ji7 := (i64_w _).trans hji7
    by_cases c8 : 0 ≤ (ji7)
    · rw [if_pos c8] at H
      have c8b0 : decide (0 ≤ (ji7)) = true := decide_eq_true c8
      clear c8
      by_cases c9 : (ji7) < (l0_1.length : Int)
      · rw [if_pos c9] at H
        have c9b0 : decide ((ji7) < (l0_1.length : Int)) = true := decide_eq_true c9
        clear c9
        obtain rfl := Option.some.inj H
        go_enter Tryd.func68, Tryd.ntmps68
        go_wp2_with (first | ((with_reducible refine gate_dst (N := 2) rfl ?_); refine box_event ?hg (N := 2) ?hd (cs := #[.slice A0_0 l0_0.length c0_0, .slice A0_1 l0_1.length c0_1]) (t := 27) ?hr ?_; (case hd => rfl); (case hg => rfl); (case hr => first | (go_simp; done) | (go_simp; rfl)); intro gb560 hg w10 hbox hb; have n0_ := Aside0.mk (below_step (by repeat (first | (with_reducible first | exact HB.out | apply below_alloc | apply pw_below_drewN | apply below_drew1) | exact HB.out)) hb); have n1_ := Aside0.mk (hbox); have n2_ := Aside0.mk ((by rw [hg]; exact (below_size (by repeat (first | (with_reducible first | exact HB.out | apply below_alloc | apply pw_below_drewN | apply below_drew1) | exact HB.out))) : w.heap.size ≤ gb560)); have n3_ := Aside0.mk ((by rw [hg]; exact (below_size (by repeat (first | (with_reducible first | exact HB.out | apply below_alloc | apply pw_below_drewN | apply below_drew1) | exact HB.out))) : w.heap.size ≤ gb560)); clear HB; have HB := n0_; have BK560 := n1_; have GW560 := n2_; have GE560 := n3_; clear n0_ n1_ n2_ n3_; clear hb hbox hg; have hcz11_0 : w10.cell? ⟨gb560, 0, none⟩ = some (.slice A0_0 l0_0.length c0_0) := (blk_cell BK560.out 0).trans rfl; have hcz11_1 : w10.cell? ⟨gb560, 1, none⟩ = some (.slice A0_1 l0_1.length c0_1) := (blk_cell BK560.out 1).trans rfl; have hfz11_0 := blk_frozen BK560.out 0; have hfz11_1 := blk_frozen BK560.out 1; have p562 : 0 ≤ ((ji7) : Int) := of_decide_eq_true (by first | (with_reducible assumption) | assumption); have q562 : (ji7) < (l0_1.length : Int) := of_decide_eq_true (by first | (with_reducible assumption) | assumption); obtain ⟨ad562, e562, hx562_0⟩ := Kd.at_int HR0_1.out (ji7) p562 q562; cases e562; replace hx562_0 := (HB.out.cell (World.block_lt_of_cell? w _ hx562_0)).trans hx562_0; replace p562 := eq_true p562; replace q562 := eq_true q562))
        go_ret
        exact ⟨by first | rfl | (simp [errW_none, errW_some] <;> rfl) | (simp only [← hji7]; first | rfl | (simp [errW_none, errW_some] <;> rfl)) | (simp [*, errW_none, errW_some] <;> rfl), by repeat (first | (with_reducible first | exact HB.out | apply below_alloc | apply pw_below_drewN | apply below_drew1 | refine below_set ?_ GE560.out) | exact HB.out)⟩
      · rw [if_neg c9] at H
        exact absurd H (by simp)
    · rw [if_neg c8] at H
      exact absurd H (by simp)

end Go.Proofs.YtjjnokodkeekhaaDoor.P

namespace Go.Proofs.YtjjnokodkeekhaaDoor.X
open Go.RowKit Go.Proofs.YtjjnokodkeekhaaDoorW.PrintWords Go.Proofs.YtjjnokodkeekhaaDoorW.PrintLast Go.Proofs.YtjjnokodkeekhaaDoorW.PrintMore
open Go.Proofs.YtjjnokodkeekhaaDoor.P Go.Proofs.YtjjnokodkeekhaaDoor.Evx
set_option linter.unusedSimpArgs false
set_option linter.unusedVariables false
/-- What the first loop lays down. -/
def layB (ls : List Int) (op m : Int) (x y : List Bool) (i : Nat) : Bool :=
  if op = 1 then true else if op = 2 then bitS (ls.getD i 0) m else if op = 3 then !(x.getD i false) else if op = 4 then x.getD i false && y.getD i false else if op = 5 then x.getD i false || y.getD i false else if op = 8 then true else false
/-- What a pass lays down. -/
def stepB (n b : Nat) (op : Int) (x y : List Bool) (i : Nat) (nx : Bool) : Bool :=
  if op = 6 then x.getD (nextS n b i) false else if op = 7 then y.getD i false || x.getD i false && nx else y.getD i false && (x.getD i false || nx)
def layL (f : Nat → Bool) (n i : Nat) : List Bool := (List.range i).map f ++ List.replicate (n - i) false
theorem layL_len (f : Nat → Bool) {n i : Nat} (h : i ≤ n) : (layL f n i).length = n := by simp [layL]; omega
theorem layL_set (f : Nat → Bool) {n i : Nat} (h : i < n) : (layL f n i).set i (f i) = layL f n (i + 1) := by
  unfold layL
  rw [List.set_append_right _ _ (by simp), List.length_map, List.length_range, Nat.sub_self, show n - i = (n - (i + 1)) + 1 by omega, List.replicate_succ, List.set_cons_zero, List.range_succ, List.map_append, List.append_assoc]
  rfl
theorem layL_same (f : Nat → Bool) {n i : Nat} (h : i < n) (hf : f i = false) : layL f n i = layL f n (i + 1) := by
  unfold layL
  rw [show n - i = (n - (i + 1)) + 1 by omega, List.replicate_succ, List.range_succ, List.map_append, List.append_assoc]
  simp [hf]
theorem layL_all (f : Nat → Bool) (n : Nat) : layL f n n = (List.range n).map f := by simp [layL]
theorem lay_plain (ls : List Int) (b : Nat) (op m : Int) (x y : List Bool) (hb : b < ls.length) (h : op = 1 ∨ op = 2 ∨ op = 3 ∨ op = 4 ∨ op = 5) : (List.range ls.length).map (layB ls op m x y) = rowOp ls b op m x y := by
  rcases h with h | h | h | h | h <;> subst h
  · exact (settle_const (fun _ => true) ls.length b false hb).symm
  · exact (settle_const (fun i => bitS (ls.getD i 0) m) ls.length b false hb).symm
  · exact (settle_const (fun i => !(x.getD i false)) ls.length b false hb).symm
  · exact (settle_const (fun i => x.getD i false && y.getD i false) ls.length b false hb).symm
  · exact (settle_const (fun i => x.getD i false || y.getD i false) ls.length b false hb).symm
theorem passes3 {f : Nat → Bool → Bool} (h : MonoB f) (n b : Nat) (first : Bool) (hb : b < n) : passes f n b 3 (List.replicate n first) = settleS f n b first := pass_settle h n b first hb
theorem map_const {n : Nat} (v : Bool) : (List.range n).map (fun _ => v) = List.replicate n v := by
  apply List.ext_getElem (by simp)
  intro i h1 h2
  simp
theorem lay_timed (ls : List Int) (b : Nat) (op m : Int) (x y : List Bool) (hb : b < ls.length) (h : op = 6 ∨ op = 7 ∨ op = 8) : passes (stepB ls.length b op x y) ls.length b 3 ((List.range ls.length).map (layB ls op m x y)) = rowOp ls b op m x y := by
  rcases h with h | h | h <;> subst h
  · refine (congrArg (passes _ _ _ 3) (map_const false)).trans ?_
    exact passes3 (mono_const _) _ b false hb
  · refine (congrArg (passes _ _ _ 3) (map_const false)).trans ?_
    exact passes3 (mono_until _ _) _ b false hb
  · refine (congrArg (passes _ _ _ 3) (map_const true)).trans ?_
    exact passes3 (mono_release _ _) _ b true hb
theorem letter_some (st lp : List Int) (i : Nat) (h : i < st.length + lp.length) (hm : st.length + lp.length < 1000000000) : parryref22_letter.f st lp i = some ((st ++ lp).getD i 0) := by
  unfold parryref22_letter.f
  by_cases h1 : i < st.length
  · rw [if_pos (by omega), if_pos (by omega)]
    simp [rd, rdOf, List.getElem?_append_left h1]
  · have hw : wrap64 ((i : Int) - st.length) = ((i - st.length : Nat) : Int) := by rw [w64 (by omega) (by omega)]; omega
    rw [if_neg (by omega), hw, if_pos (by omega), if_pos (by omega)]
    simp [rd, rdOf, List.getElem?_append_right (Nat.le_of_not_lt h1)]
theorem rtimed_some (op : Int) : parryref22_Timed.f op = some (timedS op) := by
  unfold parryref22_Timed.f timedS
  by_cases h6 : op = 6
  · subst h6; rfl
  by_cases h7 : op = 7
  · subst h7; rfl
  rw [if_neg h6, if_neg h7]
  congr 1
  by_cases h8 : op = 8
  · subst h8; rfl
  · rw [beq_eq_false_iff_ne.2 h8]
    symm
    rw [Bool.and_eq_false_iff, decide_eq_false_iff_not, decide_eq_false_iff_not]
    omega
structure RSt (w wx : World) (fs lw : Array Value) (g : Nat) (out : List Bool) : Prop where
  c1 : wx.heap[w.heap.size]? = some (.cells fs 24 (0, 0))
  c2 : wx.heap[w.heap.size + 1]? = some (.cells lw 27 (0, 0))
  og : BRow wx g out
  bl : Below w.heap.size w wx
  hg : w.heap.size + 2 ≤ g
theorem RSt.next {w wx w' : World} {fs lw : Array Value} {g : Nat} {out : List Bool} (h : RSt w wx fs lw g out) (hB : Below wx.heap.size wx w') : RSt w w' fs lw g out :=
  ⟨(hB.block _ (blk_lt h.c1)).trans h.c1, (hB.block _ (blk_lt h.c2)).trans h.c2, (hB.block _ (blk_lt h.og)).trans h.og, h.bl.trans (hB.mono h.bl.size), h.hg⟩
def KRow (wx : World) (g n : Nat) (v : Value) (x : List Bool) : Prop := ∃ ga, v = .slice (some ⟨ga, 0, none⟩) n n ∧ g < ga ∧ BRow wx ga x ∧ x.length = n
theorem KRow.next {wx w' : World} {g n : Nat} {v : Value} {x : List Bool} (h : KRow wx g n v x) (hB : Below wx.heap.size wx w') : KRow w' g n v x := by
  obtain ⟨ga, h1, h2, h3, h4⟩ := h
  exact ⟨ga, h1, h2, (hB.block _ (blk_lt h3)).trans h3, h4⟩
theorem KRow.set_ {wx : World} {g n : Nat} {v : Value} {x : List Bool} (h : KRow wx g n v x) (i : Nat) (u : Value) : KRow (wx.setCell ⟨g, i, none⟩ u) g n v x := by
  obtain ⟨ga, h1, h2, h3, h4⟩ := h
  exact ⟨ga, h1, h2, blk_far h3 (show ga ≠ g by omega) u, h4⟩
theorem make_bools (n : Nat) (h : n < 1000000000) (W : World) : (Instr.makeSlice 35 (.int .i64 (n : Int)) (.int .i64 (n : Int))).run Tryd.prog W = .ok (.slice (some ⟨W.heap.size, 0, none⟩) n n) (W.alloc (.cells (boolsOf (List.replicate n false)).toArray 4)) := by
  have := print_make_of (P := Tryd.prog) 35 4 (.bool false) 1 Tryd.underlying35 infoBool rfl (by decide) n (by omega) W
  rw [this]
  congr 3
  apply Array.ext
  · simp [madeCells, boolsOf]
  · intro i h1 h2
    simp [madeCells, boolsOf, Nat.mod_one]
theorem RSt.set {w wx : World} {fs lw : Array Value} {g : Nat} {out : List Bool} (h : RSt w wx fs lw g out) (i : Nat) (v : Bool) : RSt w (wx.setCell ⟨g, i, none⟩ (.bool v)) fs lw g (out.set i v) :=
  ⟨blk_far h.c1 (show w.heap.size ≠ g by have := h.hg; omega) _, blk_far h.c2 (show w.heap.size + 1 ≠ g by have := h.hg; omega) _, (blk_set h.og i _).trans (by rw [bools_set]), h.bl.setCell (show w.heap.size ≤ g by have := h.hg; omega) _, h.hg⟩
def RefAt (st lp : List Int) (s : S24) : Prop := ∀ (n : Nat) (A : Option Addr) (cp : Nat) (A1 A2 : Option Addr) (c1 c2 : Nat) (w : World), n = st.length + lp.length → st.length < n → n < 1000000 → Kd.C (Kd.int .u32) w A1 st.length st → st.length ≤ c1 → Kd.C (Kd.int .u32) w A2 lp.length lp → lp.length ≤ c2 → Kd.C k24 w A s.f2.length s.f2 → s.f2.length ≤ cp → soundS s = true →
  Calls Tryd.prog 44 #[.agg #[.int .i64 s.f0, .int .i64 s.f1, .slice A s.f2.length cp], .agg #[.slice A1 st.length c1, .slice A2 lp.length c2]] w fun e w' => ∃ g, e = .returned (.slice (some ⟨g, 0, none⟩) n n) ∧ w.heap.size ≤ g ∧ BRow w' g (rowS (st ++ lp) st.length s) ∧ Below w.heap.size w w'
end Go.Proofs.YtjjnokodkeekhaaDoor.X

