/- A part of the claim TableauRuns. -/
import Derived.Test.YtegaicoddnmemaaQTableauRunsa
import Derived.Test.YtegaicoddnmemaaQTableauRunsb
import Derived.Test.YtegaicoddnmemaaQTableauRunsc
import Derived.Test.YtegaicoddnmemaaQTableauRunsd
import Derived.Test.YtegaicoddnmemaaQTableauRunse
import Derived.Test.YtegaicoddnmemaaQTableauRunsf
namespace Go.Proofs.Ytegaicoddnmemaa.X
open Go.RowKit Go.Proofs.YtegaicoddnmemaaW.PrintWords Go.Proofs.YtegaicoddnmemaaW.PrintLast Go.Proofs.YtegaicoddnmemaaW.PrintMore
open Go.Proofs.Ytegaicoddnmemaa.P Go.Proofs.Ytegaicoddnmemaa.Evx
set_option linter.unusedVariables false
set_option linter.unusedSimpArgs false
mutual
theorem rref_all (st lp : List Int) : ∀ s : S24, RefAt st lp s
  | ⟨op, m, kids⟩ => by
    cases ht : timedS op with
    | false => exact rrow_plain st lp ⟨op, m, kids⟩ ht (rref_kids st lp kids)
    | true => exact rrow_timed st lp ⟨op, m, kids⟩ ht (rref_kids st lp kids)
theorem rref_kids (st lp : List Int) : ∀ (l : List S24) (k : S24), k ∈ l → RefAt st lp k
  | [], k, hk => by simp at hk
  | a :: r, k, hk => by
    rcases List.mem_cons.1 hk with h | h
    · rw [h]
      exact rref_all st lp a
    · exact rref_kids st lp r k h
end
end Go.Proofs.Ytegaicoddnmemaa.X

namespace Go.Proofs.Ytegaicoddnmemaa.X
open Go.RowKit Go.Proofs.YtegaicoddnmemaaW.PrintWords Go.Proofs.YtegaicoddnmemaaW.PrintLast Go.Proofs.YtegaicoddnmemaaW.PrintMore
open Go.Proofs.Ytegaicoddnmemaa.P Go.Proofs.Ytegaicoddnmemaa.Evx
set_option linter.unusedSimpArgs false
set_option linter.unusedVariables false
theorem Timed_some (op : Int) : parryref22_Timed.f op = some (timedS op) := by
  unfold parryref22_Timed.f timedS
  repeat' split
  all_goals (congr 1; rw [Bool.eq_iff_iff]; simp; omega)
end Go.Proofs.Ytegaicoddnmemaa.X

namespace Go.Proofs.Ytegaicoddnmemaa.P
open Go.RowKit Go.Proofs.YtegaicoddnmemaaW.PrintWords Go.Proofs.YtegaicoddnmemaaW.PrintLast Go.Proofs.YtegaicoddnmemaaW.PrintMore
attribute [local go_sem] max2_int min2_int max_two min_two max_three min_three max_four min_four   -- for this text's walks alone
set_option linter.unusedVariables false
set_option linter.unusedSimpArgs false

mutual
def parryref22_count.j0 : Nat → Int → Int → Bool → Int → Int → List (S24) → Option (Int × Int)
  | 0, _, _, _, _, _, _ => none
  | k + 1, x1, x2, x19, x172000, x172001, x172002 => if x19 = true then (some (61, 0)) else ((parryref22_Timed.f x172000).bind fun t172 => (if t172 = true then (parryref22_count.j1 k x1 x2 1 1 x172000 x172001 x172002) else (parryref22_count.j1 k x1 x2 1 0 x172000 x172001 x172002)))
def parryref22_count.j1 : Nat → Int → Int → Int → Int → Int → Int → List (S24) → Option (Int × Int)
  | 0, _, _, _, _, _, _, _ => none
  | k + 1, x1, x2, x8, x9, x172000, x172001, x172002 => parryref22_count.l0 k x1 x2 x8 x9 x172002 (x172002.length : Int) 0
def parryref22_count.l0 : Nat → Int → Int → Int → Int → List (S24) → Int → Int → Option (Int × Int)
  | 0, _, _, _, _, _, _, _ => none
  | k + 1, x1, x2, x8, x9, x24, x25, x26 => if x26 < x25 then (if 0 ≤ x26 then (if x26 < (x24.length : Int) then ((parryref22_count.f k ((rd_T24 x24 x26).f0) ((rd_T24 x24 x26).f1) ((rd_T24 x24 x26).f2) (wrap64 (x1 + 1)) (wrap64 (x2 - x8))).bind fun bt175 => (if (wrap64 (x8 + bt175.1)) > 60 then (some (wrap64 (x8 + bt175.1), wrap64 (x9 + bt175.2))) else (parryref22_count.l0 k x1 x2 (wrap64 (x8 + bt175.1)) (wrap64 (x9 + bt175.2)) x24 x25 (wrap64 (x26 + 1))))) else (none)) else (none)) else (some (x8, x9))
def parryref22_count.f : Nat → Int → Int → List (S24) → Int → Int → Option (Int × Int)
  | 0, _, _, _, _, _ => none
  | k + 1, a0_0, a0_1, l0_2, a1, a2 => if a1 > 12 then (parryref22_count.j0 k a1 a2 true a0_0 a0_1 l0_2) else (parryref22_count.j0 k a1 a2 (decide (a2 < 1)) a0_0 a0_1 l0_2)
end
theorem parryref22_count.mono_l : ∀ k, (∀ y0 y1 y2 y3 y4, LeO (parryref22_count.f k y0 y1 y2 y3 y4) (parryref22_count.f (k + 1) y0 y1 y2 y3 y4)) ∧ (∀ y0 y1 y2 y3 y4 y5, LeO (parryref22_count.j0 k y0 y1 y2 y3 y4 y5) (parryref22_count.j0 (k + 1) y0 y1 y2 y3 y4 y5)) ∧ (∀ y0 y1 y2 y3 y4 y5 y6, LeO (parryref22_count.j1 k y0 y1 y2 y3 y4 y5 y6) (parryref22_count.j1 (k + 1) y0 y1 y2 y3 y4 y5 y6)) ∧ (∀ y0 y1 y2 y3 y4 y5 y6, LeO (parryref22_count.l0 k y0 y1 y2 y3 y4 y5 y6) (parryref22_count.l0 (k + 1) y0 y1 y2 y3 y4 y5 y6))
  | 0 => ⟨fun _ _ _ _ _ r h => by simp [parryref22_count.f] at h, fun _ _ _ _ _ _ r h => by simp [parryref22_count.j0] at h, fun _ _ _ _ _ _ _ r h => by simp [parryref22_count.j1] at h, fun _ _ _ _ _ _ _ r h => by simp [parryref22_count.l0] at h⟩
  | k + 1 => by
    obtain ⟨ih0, ih1, ih2, ih3⟩ := parryref22_count.mono_l k
    refine ⟨?_, ?_, ?_, ?_⟩
    · intro y0 y1 y2 y3 y4
      unfold parryref22_count.f
      repeat' first
      | (with_reducible exact ih0 _ _ _ _ _)
      | (with_reducible exact ih1 _ _ _ _ _ _)
      | (with_reducible exact ih2 _ _ _ _ _ _ _)
      | (with_reducible exact ih3 _ _ _ _ _ _ _)
      | (with_reducible exact LeO.refl _)
      | (with_reducible exact LeO.none _)
      | (with_reducible refine LeO.ite ?_ ?_)
      | (with_reducible refine LeO.bind ?_ (fun _ => ?_))
      | exact ih0 _ _ _ _ _
      | exact ih1 _ _ _ _ _ _
      | exact ih2 _ _ _ _ _ _ _
      | exact ih3 _ _ _ _ _ _ _
      | exact LeO.none _
      | refine LeO.ite ?_ ?_
      | refine LeO.bind ?_ (fun _ => ?_)
    · intro y0 y1 y2 y3 y4 y5
      unfold parryref22_count.j0
      repeat' first
      | (with_reducible exact ih0 _ _ _ _ _)
      | (with_reducible exact ih1 _ _ _ _ _ _)
      | (with_reducible exact ih2 _ _ _ _ _ _ _)
      | (with_reducible exact ih3 _ _ _ _ _ _ _)
      | (with_reducible exact LeO.refl _)
      | (with_reducible exact LeO.none _)
      | (with_reducible refine LeO.ite ?_ ?_)
      | (with_reducible refine LeO.bind ?_ (fun _ => ?_))
      | exact ih0 _ _ _ _ _
      | exact ih1 _ _ _ _ _ _
      | exact ih2 _ _ _ _ _ _ _
      | exact ih3 _ _ _ _ _ _ _
      | exact LeO.none _
      | refine LeO.ite ?_ ?_
      | refine LeO.bind ?_ (fun _ => ?_)
    · intro y0 y1 y2 y3 y4 y5 y6
      unfold parryref22_count.j1
      repeat' first
      | (with_reducible exact ih0 _ _ _ _ _)
      | (with_reducible exact ih1 _ _ _ _ _ _)
      | (with_reducible exact ih2 _ _ _ _ _ _ _)
      | (with_reducible exact ih3 _ _ _ _ _ _ _)
      | (with_reducible exact LeO.refl _)
      | (with_reducible exact LeO.none _)
      | (with_reducible refine LeO.ite ?_ ?_)
      | (with_reducible refine LeO.bind ?_ (fun _ => ?_))
      | exact ih0 _ _ _ _ _
      | exact ih1 _ _ _ _ _ _
      | exact ih2 _ _ _ _ _ _ _
      | exact ih3 _ _ _ _ _ _ _
      | exact LeO.none _
      | refine LeO.ite ?_ ?_
      | refine LeO.bind ?_ (fun _ => ?_)
    · intro y0 y1 y2 y3 y4 y5 y6
      unfold parryref22_count.l0
      repeat' first
      | (with_reducible exact ih0 _ _ _ _ _)
      | (with_reducible exact ih1 _ _ _ _ _ _)
      | (with_reducible exact ih2 _ _ _ _ _ _ _)
      | (with_reducible exact ih3 _ _ _ _ _ _ _)
      | (with_reducible exact LeO.refl _)
      | (with_reducible exact LeO.none _)
      | (with_reducible refine LeO.ite ?_ ?_)
      | (with_reducible refine LeO.bind ?_ (fun _ => ?_))
      | exact ih0 _ _ _ _ _
      | exact ih1 _ _ _ _ _ _
      | exact ih2 _ _ _ _ _ _ _
      | exact ih3 _ _ _ _ _ _ _
      | exact LeO.none _
      | refine LeO.ite ?_ ?_
      | refine LeO.bind ?_ (fun _ => ?_)
theorem parryref22_count.mono : ∀ a0 a1 a2 a3 a4 k, LeO (parryref22_count.f k a0 a1 a2 a3 a4) (parryref22_count.f (k + 1) a0 a1 a2 a3 a4) := by
  intro a0 a1 a2 a3 a4 k
  obtain ⟨ih0, ih1, ih2, ih3⟩ := parryref22_count.mono_l k
  exact ih0 a0 a1 a2 a3 a4
set_option maxHeartbeats 8000000 in
set_option maxRecDepth 100000 in
theorem parryref22_count.calls (k : Nat) : ∀ (a0_0 : Int) (a0_1 : Int) (A0_2 : Option Addr) (c0_2 : Nat) (l0_2 : List (S24)) (a1 : Int) (a2 : Int) (r1 : Int) (r2 : Int) (w : World) (hr0_2 : Kd.C k24 w A0_2 l0_2.length l0_2) (hc0_2 : l0_2.length ≤ c0_2) (h : parryref22_count.f k a0_0 a0_1 l0_2 a1 a2 = some (r1, r2)),
    Calls Try.prog 35 #[.agg #[.int .i64 a0_0, .int .i64 a0_1, .slice A0_2 l0_2.length c0_2], .int .i64 a1, .int .i64 a2] w fun e w' => e = .returned (.tuple #[.int .i64 r1, .int .i64 r2]) ∧ Below w.heap.size w w' := by
  induction k using Nat.strongRecOn with
  | _ k ih =>
  intro a0_0 a0_1 A0_2 c0_2 l0_2 a1 a2 r1 r2 w hr0_2 hc0_2 h
  cases k with
  | zero => exact absurd h (by simp [parryref22_count.f])
  | succ k =>
  simp only [parryref22_count.f] at h
  have hu24 := Try.underlying24
  have HR0_2 := Aside0.mk hr0_2
  have HC0_2 := Aside0.mk hc0_2
  clear hr0_2 hc0_2
  have HB := Aside0.mk (Below.refl w.heap.size w)
  have H : (if a1 > 12 then (parryref22_count.j0 k a1 a2 true a0_0 a0_1 l0_2) else (parryref22_count.j0 k a1 a2 (decide (a2 < 1)) a0_0 a0_1 l0_2)) = some (r1, r2) := h
  clear h
  have HC4 := Aside0.mk H
  clear H
  go_enter Try.func35, Try.ntmps35
  go_upto_region 1 with (first | ((with_reducible refine gate_dst (N := 3) rfl ?_); refine box_event ?hg (N := 3) ?hd (cs := #[.int .i64 a0_0, .int .i64 a0_1, .slice A0_2 l0_2.length c0_2]) (t := 24) ?hr ?_; (case hd => rfl); (case hg => rfl); (case hr => first | (go_simp; done) | (go_simp; rfl)); intro gb171 hg w5 hbox hb; have n0_ := Aside0.mk (below_step (by repeat (first | (with_reducible first | exact HB.out | apply below_alloc | apply pw_below_drewN | apply below_drew1) | exact HB.out)) hb); have n1_ := Aside0.mk (hbox); have n2_ := Aside0.mk ((by rw [hg]; exact (below_size (by repeat (first | (with_reducible first | exact HB.out | apply below_alloc | apply pw_below_drewN | apply below_drew1) | exact HB.out))) : w.heap.size ≤ gb171)); have n3_ := Aside0.mk ((by rw [hg]; exact (below_size (by repeat (first | (with_reducible first | exact HB.out | apply below_alloc | apply pw_below_drewN | apply below_drew1) | exact HB.out))) : w.heap.size ≤ gb171)); clear HB; have HB := n0_; have BK171 := n1_; have GW171 := n2_; have GE171 := n3_; clear n0_ n1_ n2_ n3_; clear hb hbox hg))
  (try simp only [Act.put, List.setIfInBounds_toArray, List.set_cons_zero, List.set_cons_succ])
  go_cut [19] (fun v19 wc => ∃ (kq : Nat) (x19_3 : Bool), v19 = .bool x19_3 ∧ Aside0 (parryref22_count.j0 kq a1 a2 x19_3 a0_0 a0_1 l0_2 = some (r1, r2)) ∧ Aside0 (kq ≤ k) ∧ Aside0 (wc.heap[gb171]? = some (.cells #[.int .i64 a0_0, .int .i64 a0_1, (.slice A0_2 l0_2.length c0_2)] 24 (0, 0))) ∧ Aside0 (Below w.heap.size w wc))
  case first =>
    have H := HC4.out
    clear HC4
    by_cases c6 : a1 > 12
    · rw [if_pos c6] at H
      have c6b0 : decide (12 < a1) = true := decide_eq_true c6
      clear c6
      (first | rw [c6b0] | (simp only [i64_w, i32_w]; rw [c6b0]) | skip)
      have H' := Aside0.mk H
      clear H
      go_wp2
      go_meet
      case rel => exact ⟨_, (true), (by first | rfl | (simp; done) | (simp [*]; done)), H', ⟨by first | omega | exact Nat.le_refl _⟩, ⟨by (with_reducible repeat (first | refine blk_drewN ?_ _ | refine blk_drew ?_ | refine blk_alloc ?_ _)); exact BK171.out⟩, ⟨by repeat (first | (with_reducible first | exact HB.out | apply below_alloc | apply pw_below_drewN | apply below_drew1 | refine below_set ?_ GE171.out) | exact HB.out)⟩⟩
    · rw [if_neg c6] at H
      have c6b0 : decide (12 < a1) = false := decide_eq_false c6
      clear c6
      (first | rw [c6b0] | (simp only [i64_w, i32_w]; rw [c6b0]) | skip)
      have H' := Aside0.mk H
      clear H
      go_wp2
      go_meet
      case rel => exact ⟨_, (decide (a2 < 1)), (by first | rfl | (simp; done) | (simp [*]; done)), H', ⟨by first | omega | exact Nat.le_refl _⟩, ⟨by (with_reducible repeat (first | refine blk_drewN ?_ _ | refine blk_drew ?_ | refine blk_alloc ?_ _)); exact BK171.out⟩, ⟨by repeat (first | (with_reducible first | exact HB.out | apply below_alloc | apply pw_below_drewN | apply below_drew1 | refine below_set ?_ GE171.out) | exact HB.out)⟩⟩
  case rest =>
    clear HC4
    try clear p2
    try clear c3
    try clear c6
    try clear c6b0
    obtain ⟨kq, x19_3, rfl, HA, HJ3, BK171, HB⟩ := hcut
    cases kq with
    | zero => exact absurd HA.out (by simp [parryref22_count.j0])
    | succ kj3 =>
      have H := HA.out
      clear HA
      simp only [parryref22_count.j0] at H
      by_cases c7 : x19_3 = true
      · subst c7
        have H1 : (some (61, 0)) = some (r1, r2) := by rw [if_pos rfl] at H; exact H
        clear H
        have H := H1
        clear H1
        simp only [Option.some.injEq, Prod.mk.injEq] at H
        obtain ⟨rfl, rfl⟩ := H
        go_wp2
        go_ret2
        exact ⟨by first | rfl | (simp [errW_none, errW_some] <;> rfl) | (simp [*, errW_none, errW_some] <;> rfl), by repeat (first | (with_reducible first | exact HB.out | apply below_alloc | apply pw_below_drewN | apply below_drew1 | refine below_set ?_ GE171.out) | exact HB.out)⟩
      · replace c7 := Bool.eq_false_iff.mpr c7
        subst c7
        have H1 : ((parryref22_Timed.f a0_0).bind fun t172 => (if t172 = true then (parryref22_count.j1 kj3 a1 a2 1 1 a0_0 a0_1 l0_2) else (parryref22_count.j1 kj3 a1 a2 1 0 a0_0 a0_1 l0_2))) = some (r1, r2) := by rw [if_neg (show ¬ (false = true) by decide)] at H; exact H
        clear H
        have H := H1
        clear H1
        replace H := Option.bind_eq_some_iff.mp H
        obtain ⟨t172, A80, H⟩ := H
        replace H : (if t172 = true then (parryref22_count.j1 kj3 a1 a2 1 1 a0_0 a0_1 l0_2) else (parryref22_count.j1 kj3 a1 a2 1 0 a0_0 a0_1 l0_2)) = some (r1, r2) := H
        have A8 := Aside0.mk A80
        clear A80
        have HC9 := Aside0.mk H
        clear H
        have hcz10_0 : wc.cell? ⟨gb171, 0, none⟩ = some (.int .i64 a0_0) := (blk_cell BK171.out 0).trans rfl
        have hcz10_1 : wc.cell? ⟨gb171, 1, none⟩ = some (.int .i64 a0_1) := (blk_cell BK171.out 1).trans rfl
        have hcz10_2 : wc.cell? ⟨gb171, 2, none⟩ = some (.slice A0_2 l0_2.length c0_2) := (blk_cell BK171.out 2).trans rfl
        have hfz10_0 := blk_frozen BK171.out 0
        have hfz10_1 := blk_frozen BK171.out 1
        have hfz10_2 := blk_frozen BK171.out 2
        go_upto_if 22 with (first | ((with_reducible refine gate_callee (f := 46) rfl ?_); refine goesL_ (some 22) rfl rfl Try.func46 (by kernel_rfl) rfl #[.int .i64 a0_0] rfl (by (try simp only [List.map_toArray, List.map_cons, List.map_nil]); first | done | rfl | (simp only [List.length_drop, List.length_take]; rfl)) ?_; (with_reducible refine (parryref22_Timed.calls a0_0 t172 _ A8.out).mono ?_); rintro e w' ⟨rfl, ⟨nd, rfl⟩⟩; refine ⟨_, rfl, ?_⟩))
        (try simp only [Act.put, List.setIfInBounds_toArray, List.set_cons_zero, List.set_cons_succ])
        go_cut [9] (fun v9 wc => ∃ (kq : Nat) (x9_8 : Int), v9 = .int .i64 x9_8 ∧ Aside0 (parryref22_count.j1 kq a1 a2 1 x9_8 a0_0 a0_1 l0_2 = some (r1, r2)) ∧ Aside0 (kq ≤ kj3) ∧ Aside0 (wc.heap[gb171]? = some (.cells #[.int .i64 a0_0, .int .i64 a0_1, (.slice A0_2 l0_2.length c0_2)] 24 (0, 0))) ∧ Aside0 (Below w.heap.size w wc))
        case first =>
          have H := HC9.out
          clear HC9
          by_cases c11 : t172 = true
          · subst c11
            have H1 : (parryref22_count.j1 kj3 a1 a2 1 1 a0_0 a0_1 l0_2) = some (r1, r2) := by rw [if_pos rfl] at H; exact H
            clear H
            have H := H1
            clear H1
            have H' := Aside0.mk H
            clear H
            go_wp2
            go_meet
            case rel => exact ⟨_, (1), (by first | rfl | (simp; done) | (simp [*]; done)), H', ⟨by have := HJ3.out; first | omega | exact Nat.le_refl _⟩, ⟨by (with_reducible repeat (first | refine blk_drewN ?_ _ | refine blk_drew ?_ | refine blk_alloc ?_ _)); exact BK171.out⟩, ⟨by repeat (first | (with_reducible first | exact HB.out | apply below_alloc | apply pw_below_drewN | apply below_drew1 | refine below_set ?_ GE171.out) | exact HB.out)⟩⟩
          · replace c11 := Bool.eq_false_iff.mpr c11
            subst c11
            have H1 : (parryref22_count.j1 kj3 a1 a2 1 0 a0_0 a0_1 l0_2) = some (r1, r2) := by rw [if_neg (show ¬ (false = true) by decide)] at H; exact H
            clear H
            have H := H1
            clear H1
            have H' := Aside0.mk H
            clear H
            go_wp2
            go_meet
            case rel => exact ⟨_, (0), (by first | rfl | (simp; done) | (simp [*]; done)), H', ⟨by have := HJ3.out; first | omega | exact Nat.le_refl _⟩, ⟨by (with_reducible repeat (first | refine blk_drewN ?_ _ | refine blk_drew ?_ | refine blk_alloc ?_ _)); exact BK171.out⟩, ⟨by repeat (first | (with_reducible first | exact HB.out | apply below_alloc | apply pw_below_drewN | apply below_drew1 | refine below_set ?_ GE171.out) | exact HB.out)⟩⟩
        case rest =>
          clear HC9
          try clear c1
          try clear p2
          try clear c3
          try clear c4
          try clear c6
          try clear c6b0
          try clear c7
          try clear c11
          try clear hcz10_0
          try clear hcz10_1
          try clear hcz10_2
          try clear hfz10_0
          try clear hfz10_1
          try clear hfz10_2
          try clear p2
          obtain ⟨kq, x9_8, rfl, HA, HJ8, BK171, HB⟩ := hcut
          cases kq with
          | zero => exact absurd HA.out (by simp [parryref22_count.j1])
          | succ kj8 =>
            have H := HA.out
            clear HA
            simp only [parryref22_count.j1] at H
            have H' := Aside0.mk H
            clear H
            have hcz12_0 : wc.cell? ⟨gb171, 0, none⟩ = some (.int .i64 a0_0) := (blk_cell BK171.out 0).trans rfl
            have hcz12_1 : wc.cell? ⟨gb171, 1, none⟩ = some (.int .i64 a0_1) := (blk_cell BK171.out 1).trans rfl
            have hcz12_2 : wc.cell? ⟨gb171, 2, none⟩ = some (.slice A0_2 l0_2.length c0_2) := (blk_cell BK171.out 2).trans rfl
            have hfz12_0 := blk_frozen BK171.out 0
            have hfz12_1 := blk_frozen BK171.out 1
            have hfz12_2 := blk_frozen BK171.out 2
            go_wp2
            go_loopg [8, 9, 26] kj8 (fun kq v8 v9 v26 w' => ∃ (x8_3 : Int) (x9_3 : Int) (x26_3 : Int), v8 = .int .i64 x8_3 ∧ v9 = .int .i64 x9_3 ∧ v26 = .int .i64 x26_3 ∧ Aside0 (parryref22_count.l0 kq a1 a2 x8_3 x9_3 l0_2 (l0_2.length : Int) x26_3 = some (r1, r2)) ∧ Aside0 (kq ≤ kj8) ∧ Aside0 (w'.heap[gb171]? = some (.cells #[.int .i64 a0_0, .int .i64 a0_1, (.slice A0_2 l0_2.length c0_2)] 24 (0, 0))) ∧ Aside0 (Below w.heap.size w w'))
            case atStart => exact ⟨(1), (x9_8), (0), (by first | rfl | (simp; done) | (simp [*]; done)), (by first | rfl | (simp; done) | (simp [*]; done)), (by first | rfl | (simp; done) | (simp [*]; done)), H', ⟨Nat.le_refl _⟩, ⟨by (with_reducible repeat (first | refine blk_drewN ?_ _ | refine blk_drew ?_ | refine blk_alloc ?_ _)); exact BK171.out⟩, ⟨by repeat (first | (with_reducible first | exact HB.out | apply below_alloc | apply pw_below_drewN | apply below_drew1 | refine below_set ?_ GE171.out) | exact HB.out)⟩⟩
            case round =>
              clear H'
              try clear c1
              try clear p2
              try clear c3
              try clear c4
              try clear c6
              try clear c6b0
              try clear c7
              try clear c11
              try clear hcz10_0
              try clear hcz10_1
              try clear hcz10_2
              try clear hcz12_0
              try clear hcz12_1
              try clear hcz12_2
              try clear hfz10_0
              try clear hfz10_1
              try clear hfz10_2
              try clear hfz12_0
              try clear hfz12_1
              try clear hfz12_2
              try clear p2
              obtain ⟨x8_3, x9_3, x26_3, rfl, rfl, rfl, HA, HK3, BK171, HB⟩ := hrel
              cases gk with
              | zero => exact absurd HA.out (by simp [parryref22_count.l0])
              | succ k3 =>
                have H := HA.out
                clear HA
                simp only [parryref22_count.l0] at H
                by_cases c13 : x26_3 < (l0_2.length : Int)
                · rw [if_pos c13] at H
                  have c13b0 : decide (x26_3 < (l0_2.length : Int)) = true := decide_eq_true c13
                  clear c13
                  by_cases c14 : 0 ≤ x26_3
                  · rw [if_pos c14] at H
                    have c14b0 : decide (0 ≤ x26_3) = true := decide_eq_true c14
                    clear c14
                    by_cases c15 : x26_3 < (l0_2.length : Int)
                    · rw [if_pos c15] at H
                      have c15b0 : decide (x26_3 < (l0_2.length : Int)) = true := decide_eq_true c15
                      clear c15
                      replace H := Option.bind_eq_some_iff.mp H
                      obtain ⟨⟨t175, t176⟩, A160, H⟩ := H
                      replace H : (if (wrap64 (x8_3 + t175)) > 60 then (some (wrap64 (x8_3 + t175), wrap64 (x9_3 + t176))) else (parryref22_count.l0 k3 a1 a2 (wrap64 (x8_3 + t175)) (wrap64 (x9_3 + t176)) l0_2 (l0_2.length : Int) (wrap64 (x26_3 + 1)))) = some (r1, r2) := H
                      have A16 := Aside0.mk A160
                      clear A160
                      by_cases c17 : (wrap64 (x8_3 + t175)) > 60
                      · rw [if_pos c17] at H
                        have c17b0 : decide (60 < (wrap64 (x8_3 + t175))) = true := decide_eq_true c17
                        clear c17
                        simp only [Option.some.injEq, Prod.mk.injEq] at H
                        obtain ⟨rfl, rfl⟩ := H
                        have p173 : 0 ≤ (x26_3 : Int) := of_decide_eq_true (by first | (with_reducible assumption) | assumption)
                        have q173 : x26_3 < (l0_2.length : Int) := of_decide_eq_true (by first | (with_reducible assumption) | assumption)
                        obtain ⟨ad173, A173_2, c173_2, e173, hx173_0, hx173_1, hx173_2, hl173_2, hi173_2⟩ := at_T24 HR0_2.out x26_3 p173 q173
                        cases e173
                        replace hx173_0 := (HB.out.cell (World.block_lt_of_cell? w _ hx173_0)).trans hx173_0
                        replace hx173_1 := (HB.out.cell (World.block_lt_of_cell? w _ hx173_1)).trans hx173_1
                        replace hx173_2 := (HB.out.cell (World.block_lt_of_cell? w _ hx173_2)).trans hx173_2
                        have HR173_2 := Aside0.mk hi173_2
                        have HC173_2 := Aside0.mk hl173_2
                        clear hi173_2 hl173_2
                        replace p173 := eq_true p173
                        replace q173 := eq_true q173
                        go_wp2_with (first | ((with_reducible refine gate_dst (N := 11) rfl ?_); refine box_event ?hg (N := 11) ?hd (cs := #[.int .i64 0, .int .i64 0, .slice none 0 0]) (t := 24) ?hr ?_; (case hd => rfl); (case hg => rfl); (case hr => first | (go_simp; done) | (go_simp; rfl)); intro gb174 hg w18 hbox hb; have n0_ := Aside0.mk (blk_below (g := gb171) (o := .cells #[.int .i64 a0_0, .int .i64 a0_1, .slice (some ad173) l0_2.length c0_2] 24 (0, 0)) (by (with_reducible repeat (first | refine blk_drewN ?_ _ | refine blk_drew ?_ | refine blk_alloc ?_ _)); exact BK171.out) hb); have n1_ := Aside0.mk (below_step (by repeat (first | (with_reducible first | exact HB.out | apply below_alloc | apply pw_below_drewN | apply below_drew1 | refine below_set ?_ GE171.out) | exact HB.out)) hb); have n2_ := Aside0.mk (hbox); have n3_ := Aside0.mk ((by rw [hg]; exact (below_size (by repeat (first | (with_reducible first | exact HB.out | apply below_alloc | apply pw_below_drewN | apply below_drew1 | refine below_set ?_ GE171.out) | exact HB.out))) : w.heap.size ≤ gb174)); have n4_ := Aside0.mk ((by rw [hg]; exact (below_size (by repeat (first | (with_reducible first | exact HB.out | apply below_alloc | apply pw_below_drewN | apply below_drew1 | refine below_set ?_ GE171.out) | exact HB.out))) : w.heap.size ≤ gb174)); have n5_ := Aside0.mk ((by rw [hg]; exact Nat.ne_of_lt (blk_lt (g := gb171) (o := .cells #[.int .i64 a0_0, .int .i64 a0_1, .slice (some ad173) l0_2.length c0_2] 24 (0, 0)) (by (with_reducible repeat (first | refine blk_drewN ?_ _ | refine blk_drew ?_ | refine blk_alloc ?_ _)); exact BK171.out)) : gb171 ≠ gb174)); have n6_ := Aside0.mk ((by rw [hg]; exact Nat.ne_of_gt (blk_lt (g := gb171) (o := .cells #[.int .i64 a0_0, .int .i64 a0_1, .slice (some ad173) l0_2.length c0_2] 24 (0, 0)) (by (with_reducible repeat (first | refine blk_drewN ?_ _ | refine blk_drew ?_ | refine blk_alloc ?_ _)); exact BK171.out)) : gb174 ≠ gb171)); clear BK171; clear HB; have BK171 := n0_; have HB := n1_; have BK174 := n2_; have GW174 := n3_; have GE174 := n4_; have NB171_174 := n5_; have NB174_171 := n6_; clear n0_ n1_ n2_ n3_ n4_ n5_ n6_; clear hb hbox hg; have hnb19 := NB174_171.out; have hnc19 := NB171_174.out; have hcz20_0 : w18.cell? ⟨gb174, 0, none⟩ = some (.int .i64 0) := (blk_cell BK174.out 0).trans rfl; have hcz20_1 : w18.cell? ⟨gb174, 1, none⟩ = some (.int .i64 0) := (blk_cell BK174.out 1).trans rfl; have hcz20_2 : w18.cell? ⟨gb174, 2, none⟩ = some (.slice none 0 0) := (blk_cell BK174.out 2).trans rfl; have hfz20_0 := blk_frozen BK174.out 0; have hfz20_1 := blk_frozen BK174.out 1; have hfz20_2 := blk_frozen BK174.out 2) | ((with_reducible refine gate_callee (f := 35) rfl ?_); refine goesL_ (some 37) rfl rfl Try.func35 (by kernel_rfl) rfl #[.agg #[.int .i64 ((rd_T24 l0_2 x26_3).f0), .int .i64 ((rd_T24 l0_2 x26_3).f1), .slice A173_2 ((rd_T24 l0_2 x26_3).f2).length c173_2], .int .i64 (wrap64 (a1 + 1)), .int .i64 (wrap64 (a2 - x8_3))] rfl (by (try simp only [List.map_toArray, List.map_cons, List.map_nil]); first | done | rfl | (simp only [List.length_drop, List.length_take]; rfl)) ?_; (with_reducible refine (ih k3 (by have := HJ3.out; have := HJ8.out; have := HK3.out; omega) ((rd_T24 l0_2 x26_3).f0) ((rd_T24 l0_2 x26_3).f1) _ _ ((rd_T24 l0_2 x26_3).f2) (wrap64 (a1 + 1)) (wrap64 (a2 - x8_3)) t175 t176 _ ?side1 ?side2 A16.out).mono ?_); (case side1 => exact Kd.C_below HR173_2.out (by repeat (first | (with_reducible first | exact HB.out | apply below_alloc | apply pw_below_drewN | apply below_drew1 | refine below_set ?_ GE171.out | refine below_set ?_ GE174.out) | exact HB.out))); (case side2 => exact HC173_2.out); rintro e w21 ⟨rfl, hb⟩; refine ⟨_, rfl, ?_⟩; have n0_ := Aside0.mk (blk_below (g := gb171) (o := .cells #[.int .i64 a0_0, .int .i64 a0_1, .slice (some ad173) l0_2.length c0_2] 24 (0, 0)) (by (with_reducible repeat (first | refine blk_drewN ?_ _ | refine blk_drew ?_ | refine blk_alloc ?_ _)); refine blk_far ?_ NB171_174.out _; (with_reducible repeat (first | refine blk_drewN ?_ _ | refine blk_drew ?_ | refine blk_alloc ?_ _)); refine blk_far ?_ NB171_174.out _; (with_reducible repeat (first | refine blk_drewN ?_ _ | refine blk_drew ?_ | refine blk_alloc ?_ _)); refine blk_far ?_ NB171_174.out _; (with_reducible repeat (first | refine blk_drewN ?_ _ | refine blk_drew ?_ | refine blk_alloc ?_ _)); exact BK171.out) hb); have n1_ := Aside0.mk (blk_below (g := gb174) (o := .cells #[.int .i64 ((rd_T24 l0_2 x26_3).f0), .int .i64 ((rd_T24 l0_2 x26_3).f1), .slice A173_2 ((rd_T24 l0_2 x26_3).f2).length c173_2] 24 (0, 0)) (by (with_reducible repeat (first | refine blk_drewN ?_ _ | refine blk_drew ?_ | refine blk_alloc ?_ _)); refine blk_put (cs := #[.int .i64 ((rd_T24 l0_2 x26_3).f0), .int .i64 ((rd_T24 l0_2 x26_3).f1), .slice none 0 0]) ?_ 2 _ rfl; (with_reducible repeat (first | refine blk_drewN ?_ _ | refine blk_drew ?_ | refine blk_alloc ?_ _)); refine blk_put (cs := #[.int .i64 ((rd_T24 l0_2 x26_3).f0), .int .i64 0, .slice none 0 0]) ?_ 1 _ rfl; (with_reducible repeat (first | refine blk_drewN ?_ _ | refine blk_drew ?_ | refine blk_alloc ?_ _)); refine blk_put (cs := #[.int .i64 0, .int .i64 0, .slice none 0 0]) ?_ 0 _ rfl; (with_reducible repeat (first | refine blk_drewN ?_ _ | refine blk_drew ?_ | refine blk_alloc ?_ _)); exact BK174.out) hb); have n2_ := Aside0.mk (below_step (by repeat (first | (with_reducible first | exact HB.out | apply below_alloc | apply pw_below_drewN | apply below_drew1 | refine below_set ?_ GE171.out | refine below_set ?_ GE174.out) | exact HB.out)) hb); clear BK171; clear BK174; clear HB; have BK171 := n0_; have BK174 := n1_; have HB := n2_; clear n0_ n1_ n2_; (try clear hb); (try clear hb2); (try clear hk); (try clear hi)))
                        go_ret2
                        exact ⟨by first | rfl | (simp [errW_none, errW_some] <;> rfl) | (simp [*, errW_none, errW_some] <;> rfl), by repeat (first | (with_reducible first | exact HB.out | apply below_alloc | apply pw_below_drewN | apply below_drew1 | refine below_set ?_ GE171.out | refine below_set ?_ GE174.out) | exact HB.out)⟩
                      · rw [if_neg c17] at H
                        have c17b0 : decide (60 < (wrap64 (x8_3 + t175))) = false := decide_eq_false c17
                        clear c17
                        have H' := Aside0.mk H
                        clear H
                        have p173 : 0 ≤ (x26_3 : Int) := of_decide_eq_true (by first | (with_reducible assumption) | assumption)
                        have q173 : x26_3 < (l0_2.length : Int) := of_decide_eq_true (by first | (with_reducible assumption) | assumption)
                        obtain ⟨ad173, A173_2, c173_2, e173, hx173_0, hx173_1, hx173_2, hl173_2, hi173_2⟩ := at_T24 HR0_2.out x26_3 p173 q173
                        cases e173
                        replace hx173_0 := (HB.out.cell (World.block_lt_of_cell? w _ hx173_0)).trans hx173_0
                        replace hx173_1 := (HB.out.cell (World.block_lt_of_cell? w _ hx173_1)).trans hx173_1
                        replace hx173_2 := (HB.out.cell (World.block_lt_of_cell? w _ hx173_2)).trans hx173_2
                        have HR173_2 := Aside0.mk hi173_2
                        have HC173_2 := Aside0.mk hl173_2
                        clear hi173_2 hl173_2
                        replace p173 := eq_true p173
                        replace q173 := eq_true q173
                        go_wp2_with (first | ((with_reducible refine gate_dst (N := 11) rfl ?_); refine box_event ?hg (N := 11) ?hd (cs := #[.int .i64 0, .int .i64 0, .slice none 0 0]) (t := 24) ?hr ?_; (case hd => rfl); (case hg => rfl); (case hr => first | (go_simp; done) | (go_simp; rfl)); intro gb174 hg w22 hbox hb; have n0_ := Aside0.mk (blk_below (g := gb171) (o := .cells #[.int .i64 a0_0, .int .i64 a0_1, .slice (some ad173) l0_2.length c0_2] 24 (0, 0)) (by (with_reducible repeat (first | refine blk_drewN ?_ _ | refine blk_drew ?_ | refine blk_alloc ?_ _)); exact BK171.out) hb); have n1_ := Aside0.mk (below_step (by repeat (first | (with_reducible first | exact HB.out | apply below_alloc | apply pw_below_drewN | apply below_drew1 | refine below_set ?_ GE171.out) | exact HB.out)) hb); have n2_ := Aside0.mk (hbox); have n3_ := Aside0.mk ((by rw [hg]; exact (below_size (by repeat (first | (with_reducible first | exact HB.out | apply below_alloc | apply pw_below_drewN | apply below_drew1 | refine below_set ?_ GE171.out) | exact HB.out))) : w.heap.size ≤ gb174)); have n4_ := Aside0.mk ((by rw [hg]; exact (below_size (by repeat (first | (with_reducible first | exact HB.out | apply below_alloc | apply pw_below_drewN | apply below_drew1 | refine below_set ?_ GE171.out) | exact HB.out))) : w.heap.size ≤ gb174)); have n5_ := Aside0.mk ((by rw [hg]; exact Nat.ne_of_lt (blk_lt (g := gb171) (o := .cells #[.int .i64 a0_0, .int .i64 a0_1, .slice (some ad173) l0_2.length c0_2] 24 (0, 0)) (by (with_reducible repeat (first | refine blk_drewN ?_ _ | refine blk_drew ?_ | refine blk_alloc ?_ _)); exact BK171.out)) : gb171 ≠ gb174)); have n6_ := Aside0.mk ((by rw [hg]; exact Nat.ne_of_gt (blk_lt (g := gb171) (o := .cells #[.int .i64 a0_0, .int .i64 a0_1, .slice (some ad173) l0_2.length c0_2] 24 (0, 0)) (by (with_reducible repeat (first | refine blk_drewN ?_ _ | refine blk_drew ?_ | refine blk_alloc ?_ _)); exact BK171.out)) : gb174 ≠ gb171)); clear BK171; clear HB; have BK171 := n0_; have HB := n1_; have BK174 := n2_; have GW174 := n3_; have GE174 := n4_; have NB171_174 := n5_; have NB174_171 := n6_; clear n0_ n1_ n2_ n3_ n4_ n5_ n6_; clear hb hbox hg; have hnb23 := NB174_171.out; have hnc23 := NB171_174.out; have hcz24_0 : w22.cell? ⟨gb174, 0, none⟩ = some (.int .i64 0) := (blk_cell BK174.out 0).trans rfl; have hcz24_1 : w22.cell? ⟨gb174, 1, none⟩ = some (.int .i64 0) := (blk_cell BK174.out 1).trans rfl; have hcz24_2 : w22.cell? ⟨gb174, 2, none⟩ = some (.slice none 0 0) := (blk_cell BK174.out 2).trans rfl; have hfz24_0 := blk_frozen BK174.out 0; have hfz24_1 := blk_frozen BK174.out 1; have hfz24_2 := blk_frozen BK174.out 2) | ((with_reducible refine gate_callee (f := 35) rfl ?_); refine goesL_ (some 37) rfl rfl Try.func35 (by kernel_rfl) rfl #[.agg #[.int .i64 ((rd_T24 l0_2 x26_3).f0), .int .i64 ((rd_T24 l0_2 x26_3).f1), .slice A173_2 ((rd_T24 l0_2 x26_3).f2).length c173_2], .int .i64 (wrap64 (a1 + 1)), .int .i64 (wrap64 (a2 - x8_3))] rfl (by (try simp only [List.map_toArray, List.map_cons, List.map_nil]); first | done | rfl | (simp only [List.length_drop, List.length_take]; rfl)) ?_; (with_reducible refine (ih k3 (by have := HJ3.out; have := HJ8.out; have := HK3.out; omega) ((rd_T24 l0_2 x26_3).f0) ((rd_T24 l0_2 x26_3).f1) _ _ ((rd_T24 l0_2 x26_3).f2) (wrap64 (a1 + 1)) (wrap64 (a2 - x8_3)) t175 t176 _ ?side1 ?side2 A16.out).mono ?_); (case side1 => exact Kd.C_below HR173_2.out (by repeat (first | (with_reducible first | exact HB.out | apply below_alloc | apply pw_below_drewN | apply below_drew1 | refine below_set ?_ GE171.out | refine below_set ?_ GE174.out) | exact HB.out))); (case side2 => exact HC173_2.out); rintro e w25 ⟨rfl, hb⟩; refine ⟨_, rfl, ?_⟩; have n0_ := Aside0.mk (blk_below (g := gb171) (o := .cells #[.int .i64 a0_0, .int .i64 a0_1, .slice (some ad173) l0_2.length c0_2] 24 (0, 0)) (by (with_reducible repeat (first | refine blk_drewN ?_ _ | refine blk_drew ?_ | refine blk_alloc ?_ _)); refine blk_far ?_ NB171_174.out _; (with_reducible repeat (first | refine blk_drewN ?_ _ | refine blk_drew ?_ | refine blk_alloc ?_ _)); refine blk_far ?_ NB171_174.out _; (with_reducible repeat (first | refine blk_drewN ?_ _ | refine blk_drew ?_ | refine blk_alloc ?_ _)); refine blk_far ?_ NB171_174.out _; (with_reducible repeat (first | refine blk_drewN ?_ _ | refine blk_drew ?_ | refine blk_alloc ?_ _)); exact BK171.out) hb); have n1_ := Aside0.mk (blk_below (g := gb174) (o := .cells #[.int .i64 ((rd_T24 l0_2 x26_3).f0), .int .i64 ((rd_T24 l0_2 x26_3).f1), .slice A173_2 ((rd_T24 l0_2 x26_3).f2).length c173_2] 24 (0, 0)) (by (with_reducible repeat (first | refine blk_drewN ?_ _ | refine blk_drew ?_ | refine blk_alloc ?_ _)); refine blk_put (cs := #[.int .i64 ((rd_T24 l0_2 x26_3).f0), .int .i64 ((rd_T24 l0_2 x26_3).f1), .slice none 0 0]) ?_ 2 _ rfl; (with_reducible repeat (first | refine blk_drewN ?_ _ | refine blk_drew ?_ | refine blk_alloc ?_ _)); refine blk_put (cs := #[.int .i64 ((rd_T24 l0_2 x26_3).f0), .int .i64 0, .slice none 0 0]) ?_ 1 _ rfl; (with_reducible repeat (first | refine blk_drewN ?_ _ | refine blk_drew ?_ | refine blk_alloc ?_ _)); refine blk_put (cs := #[.int .i64 0, .int .i64 0, .slice none 0 0]) ?_ 0 _ rfl; (with_reducible repeat (first | refine blk_drewN ?_ _ | refine blk_drew ?_ | refine blk_alloc ?_ _)); exact BK174.out) hb); have n2_ := Aside0.mk (below_step (by repeat (first | (with_reducible first | exact HB.out | apply below_alloc | apply pw_below_drewN | apply below_drew1 | refine below_set ?_ GE171.out | refine below_set ?_ GE174.out) | exact HB.out)) hb); clear BK171; clear BK174; clear HB; have BK171 := n0_; have BK174 := n1_; have HB := n2_; clear n0_ n1_ n2_; (try clear hb); (try clear hb2); (try clear hk); (try clear hi)))
                        go_roundg k3
                        case measure => have := HJ3.out; have := HJ8.out; have := HK3.out; omega
                        case rel => exact ⟨(wrap64 (x8_3 + t175)), (wrap64 (x9_3 + t176)), (wrap64 (x26_3 + 1)), (by first | rfl | (simp; done) | (simp [*]; done)), (by first | rfl | (simp; done) | (simp [*]; done)), (by first | rfl | (simp; done) | (simp [*]; done)), H', ⟨by have := HJ3.out; have := HJ8.out; have := HK3.out; omega⟩, ⟨by (with_reducible repeat (first | refine blk_drewN ?_ _ | refine blk_drew ?_ | refine blk_alloc ?_ _)); exact BK171.out⟩, ⟨by repeat (first | (with_reducible first | exact HB.out | apply below_alloc | apply pw_below_drewN | apply below_drew1 | refine below_set ?_ GE171.out | refine below_set ?_ GE174.out) | exact HB.out)⟩⟩
                    · rw [if_neg c15] at H
                      exact absurd H (by simp)
                  · rw [if_neg c14] at H
                    exact absurd H (by simp)
                · rw [if_neg c13] at H
                  have c13b0 : decide (x26_3 < (l0_2.length : Int)) = false := decide_eq_false c13
                  clear c13
                  simp only [Option.some.injEq, Prod.mk.injEq] at H
                  obtain ⟨rfl, rfl⟩ := H
                  go_wp2
                  go_ret2
                  exact ⟨by first | rfl | (simp [errW_none, errW_some] <;> rfl) | (simp [*, errW_none, errW_some] <;> rfl), by repeat (first | (with_reducible first | exact HB.out | apply below_alloc | apply pw_below_drewN | apply below_drew1 | refine below_set ?_ GE171.out) | exact HB.out)⟩

end Go.Proofs.Ytegaicoddnmemaa.P

namespace Go.Proofs.Ytegaicoddnmemaa.P
open Go.RowKit Go.Proofs.YtegaicoddnmemaaW.PrintWords Go.Proofs.YtegaicoddnmemaaW.PrintLast Go.Proofs.YtegaicoddnmemaaW.PrintMore
attribute [local go_sem] max2_int min2_int max_two min_two max_three min_three max_four min_four   -- for this text's walks alone
set_option linter.unusedVariables false
set_option linter.unusedSimpArgs false

mutual
def parryref22_Kids.j0 : Nat → Int → Bool → Option (Int)
  | 0, _, _ => none
  | k + 1, x3, x4 => if x4 = true then (some 0) else (if x3 = 3 then (parryref22_Kids.j1 k x3 (x3 == 3)) else (parryref22_Kids.j1 k x3 (x3 == 6)))
def parryref22_Kids.j1 : Nat → Int → Bool → Option (Int)
  | 0, _, _ => none
  | k + 1, x3, x7 => if x7 = true then (some 1) else (if x3 = 4 then (some 2) else (if x3 = 5 then (some 2) else (if x3 = 7 then (some 2) else (if x3 = 8 then (some 2) else (some (-1))))))
end
def parryref22_Kids.f (k : Nat) (a0 : Int) : Option (Int) := if a0 = 1 then (parryref22_Kids.j0 k a0 (a0 == 1)) else (parryref22_Kids.j0 k a0 (a0 == 2))
theorem parryref22_Kids.mono_l : ∀ k, (∀ y0 y1, LeO (parryref22_Kids.j0 k y0 y1) (parryref22_Kids.j0 (k + 1) y0 y1)) ∧ (∀ y0 y1, LeO (parryref22_Kids.j1 k y0 y1) (parryref22_Kids.j1 (k + 1) y0 y1))
  | 0 => ⟨fun _ _ r h => by simp [parryref22_Kids.j0] at h, fun _ _ r h => by simp [parryref22_Kids.j1] at h⟩
  | k + 1 => by
    obtain ⟨ih0, ih1⟩ := parryref22_Kids.mono_l k
    refine ⟨?_, ?_⟩
    · intro y0 y1
      unfold parryref22_Kids.j0
      repeat' first
      | (with_reducible exact ih0 _ _)
      | (with_reducible exact ih1 _ _)
      | (with_reducible exact LeO.refl _)
      | (with_reducible exact LeO.none _)
      | (with_reducible refine LeO.ite ?_ ?_)
      | (with_reducible refine LeO.bind ?_ (fun _ => ?_))
      | exact ih0 _ _
      | exact ih1 _ _
      | exact LeO.none _
      | refine LeO.ite ?_ ?_
      | refine LeO.bind ?_ (fun _ => ?_)
    · intro y0 y1
      unfold parryref22_Kids.j1
      repeat' first
      | (with_reducible exact ih0 _ _)
      | (with_reducible exact ih1 _ _)
      | (with_reducible exact LeO.refl _)
      | (with_reducible exact LeO.none _)
      | (with_reducible refine LeO.ite ?_ ?_)
      | (with_reducible refine LeO.bind ?_ (fun _ => ?_))
      | exact ih0 _ _
      | exact ih1 _ _
      | exact LeO.none _
      | refine LeO.ite ?_ ?_
      | refine LeO.bind ?_ (fun _ => ?_)
theorem parryref22_Kids.mono : ∀ a0 k, LeO (parryref22_Kids.f k a0) (parryref22_Kids.f (k + 1) a0) := by
  intro a0 k
  obtain ⟨ih0, ih1⟩ := parryref22_Kids.mono_l k
  unfold parryref22_Kids.f
  repeat' first
      | (with_reducible exact ih0 _ _)
      | (with_reducible exact ih1 _ _)
      | (with_reducible exact LeO.refl _)
      | (with_reducible exact LeO.none _)
      | (with_reducible refine LeO.ite ?_ ?_)
      | (with_reducible refine LeO.bind ?_ (fun _ => ?_))
      | exact ih0 _ _
      | exact ih1 _ _
      | exact LeO.none _
      | refine LeO.ite ?_ ?_
      | refine LeO.bind ?_ (fun _ => ?_)
set_option maxHeartbeats 8000000 in
set_option maxRecDepth 100000 in
theorem parryref22_Kids.calls (k : Nat) (a0 : Int) (r : Int) (w : World) (h : parryref22_Kids.f k a0 = some r) :
    Calls Try.prog 51 #[.int .i64 a0] w fun e w' => e = .returned (.int .i64 r) ∧ Drawn0 w w' := by
  have H : (if a0 = 1 then (parryref22_Kids.j0 k a0 (a0 == 1)) else (parryref22_Kids.j0 k a0 (a0 == 2))) = some r := h
  clear h
  have HC2 := Aside0.mk H
  clear H
  go_enter Try.func51, Try.ntmps51
  go_upto_if 4 with (fail)
  go_cut [4] (fun v4 wc => ∃ (kq : Nat) (x4_1 : Bool), v4 = .bool x4_1 ∧ Aside0 (parryref22_Kids.j0 kq a0 x4_1 = some r) ∧ Aside0 (kq ≤ k) ∧ Drawn0 w wc)
  case first =>
    have H := HC2.out
    clear HC2
    by_cases c3 : a0 = 1
    · rw [if_pos c3] at H
      have c3b0 : (a0 == 1) = true := beq_iff_eq.mpr c3
      have c3b1 : (a0 != 1) = false := bne_eq_false_iff_eq.mpr c3
      clear c3
      (first | rw [c3b0] | (simp only [i64_w, i32_w]; rw [c3b0]) | skip)
      have H' := Aside0.mk H
      clear H
      go_wp2
      go_meet
      case rel => exact ⟨_, ((a0 == 1)), (by first | rfl | (simp; done) | (simp [*]; done)), H', ⟨by first | omega | exact Nat.le_refl _⟩, by repeat (first | exact Drawn0.refl _ | apply Drawn0.step)⟩
    · rw [if_neg c3] at H
      have c3b0 : (a0 == 1) = false := beq_eq_false_iff_ne.mpr c3
      have c3b1 : (a0 != 1) = true := bne_iff_ne.mpr c3
      (first | rw [c3b0] | (simp only [i64_w, i32_w]; rw [c3b0]) | skip)
      have H' := Aside0.mk H
      clear H
      go_wp2
      go_meet
      case rel => exact ⟨_, ((a0 == 2)), (by first | rfl | (simp; done) | (simp [*]; done)), H', ⟨by first | omega | exact Nat.le_refl _⟩, by repeat (first | exact Drawn0.refl _ | apply Drawn0.step)⟩
  case rest =>
    clear HC2
    try clear p2
    try clear c3
    try clear c3b0
    try clear c3b1
    obtain ⟨kq, x4_1, rfl, HA, HJ1, ⟨mc1, rfl⟩⟩ := hcut
    cases kq with
    | zero => exact absurd HA.out (by simp [parryref22_Kids.j0])
    | succ kj1 =>
      have H := HA.out
      clear HA
      simp only [parryref22_Kids.j0] at H
      by_cases c4 : x4_1 = true
      · subst c4
        have H1 : (some 0) = some r := by rw [if_pos rfl] at H; exact H
        clear H
        have H := H1
        clear H1
        obtain rfl := Option.some.inj H
        go_wp2
        go_ret
        exact ⟨by first | rfl | (simp; done) | (simp [*]; done), by repeat (first | exact Drawn0.refl _ | apply Drawn0.step)⟩
      · replace c4 := Bool.eq_false_iff.mpr c4
        subst c4
        have H1 : (if a0 = 3 then (parryref22_Kids.j1 kj1 a0 (a0 == 3)) else (parryref22_Kids.j1 kj1 a0 (a0 == 6))) = some r := by rw [if_neg (show ¬ (false = true) by decide)] at H; exact H
        clear H
        have H := H1
        clear H1
        have HC5 := Aside0.mk H
        clear H
        go_upto_if 7 with (fail)
        go_cut [7] (fun v7 wc => ∃ (kq : Nat) (x7_4 : Bool), v7 = .bool x7_4 ∧ Aside0 (parryref22_Kids.j1 kq a0 x7_4 = some r) ∧ Aside0 (kq ≤ kj1) ∧ Drawn0 w wc)
        case first =>
          have H := HC5.out
          clear HC5
          by_cases c6 : a0 = 3
          · rw [if_pos c6] at H
            have c6b0 : (a0 == 3) = true := beq_iff_eq.mpr c6
            have c6b1 : (a0 != 3) = false := bne_eq_false_iff_eq.mpr c6
            clear c6
            (first | rw [c6b0] | (simp only [i64_w, i32_w]; rw [c6b0]) | skip)
            have H' := Aside0.mk H
            clear H
            go_wp2
            go_meet
            case rel => exact ⟨_, ((a0 == 3)), (by first | rfl | (simp; done) | (simp [*]; done)), H', ⟨by have := HJ1.out; first | omega | exact Nat.le_refl _⟩, by repeat (first | exact Drawn0.refl _ | apply Drawn0.step)⟩
          · rw [if_neg c6] at H
            have c6b0 : (a0 == 3) = false := beq_eq_false_iff_ne.mpr c6
            have c6b1 : (a0 != 3) = true := bne_iff_ne.mpr c6
            (first | rw [c6b0] | (simp only [i64_w, i32_w]; rw [c6b0]) | skip)
            have H' := Aside0.mk H
            clear H
            go_wp2
            go_meet
            case rel => exact ⟨_, ((a0 == 6)), (by first | rfl | (simp; done) | (simp [*]; done)), H', ⟨by have := HJ1.out; first | omega | exact Nat.le_refl _⟩, by repeat (first | exact Drawn0.refl _ | apply Drawn0.step)⟩
        case rest =>
          clear HC5
          try clear c1
          try clear p2
          try clear c3
          try clear c3b0
          try clear c3b1
          try clear c4
          try clear c5
          try clear c6
          try clear c6b0
          try clear c6b1
          try clear p2
          obtain ⟨kq, x7_4, rfl, HA, HJ4, ⟨mc4, rfl⟩⟩ := hcut
          cases kq with
          | zero => exact absurd HA.out (by simp [parryref22_Kids.j1])
          | succ kj4 =>
            have H := HA.out
            clear HA
            simp only [parryref22_Kids.j1] at H
            by_cases c7 : x7_4 = true
            · subst c7
              have H1 : (some 1) = some r := by rw [if_pos rfl] at H; exact H
              clear H
              have H := H1
              clear H1
              obtain rfl := Option.some.inj H
              go_wp2
              go_ret
              exact ⟨by first | rfl | (simp; done) | (simp [*]; done), by repeat (first | exact Drawn0.refl _ | apply Drawn0.step)⟩
            · replace c7 := Bool.eq_false_iff.mpr c7
              subst c7
              have H1 : (if a0 = 4 then (some 2) else (if a0 = 5 then (some 2) else (if a0 = 7 then (some 2) else (if a0 = 8 then (some 2) else (some (-1)))))) = some r := by rw [if_neg (show ¬ (false = true) by decide)] at H; exact H
              clear H
              have H := H1
              clear H1
              by_cases c8 : a0 = 4
              · rw [if_pos c8] at H
                have c8b0 : (a0 == 4) = true := beq_iff_eq.mpr c8
                have c8b1 : (a0 != 4) = false := bne_eq_false_iff_eq.mpr c8
                clear c8
                obtain rfl := Option.some.inj H
                go_wp2
                go_ret
                exact ⟨by first | rfl | (simp; done) | (simp [*]; done), by repeat (first | exact Drawn0.refl _ | apply Drawn0.step)⟩
              · rw [if_neg c8] at H
                have c8b0 : (a0 == 4) = false := beq_eq_false_iff_ne.mpr c8
                have c8b1 : (a0 != 4) = true := bne_iff_ne.mpr c8
                by_cases c9 : a0 = 5
                · rw [if_pos c9] at H
                  have c9b0 : (a0 == 5) = true := beq_iff_eq.mpr c9
                  have c9b1 : (a0 != 5) = false := bne_eq_false_iff_eq.mpr c9
                  clear c9
                  obtain rfl := Option.some.inj H
                  go_wp2
                  go_ret
                  exact ⟨by first | rfl | (simp; done) | (simp [*]; done), by repeat (first | exact Drawn0.refl _ | apply Drawn0.step)⟩
                · rw [if_neg c9] at H
                  have c9b0 : (a0 == 5) = false := beq_eq_false_iff_ne.mpr c9
                  have c9b1 : (a0 != 5) = true := bne_iff_ne.mpr c9
                  by_cases c10 : a0 = 7
                  · rw [if_pos c10] at H
                    have c10b0 : (a0 == 7) = true := beq_iff_eq.mpr c10
                    have c10b1 : (a0 != 7) = false := bne_eq_false_iff_eq.mpr c10
                    clear c10
                    obtain rfl := Option.some.inj H
                    go_wp2
                    go_ret
                    exact ⟨by first | rfl | (simp; done) | (simp [*]; done), by repeat (first | exact Drawn0.refl _ | apply Drawn0.step)⟩
                  · rw [if_neg c10] at H
                    have c10b0 : (a0 == 7) = false := beq_eq_false_iff_ne.mpr c10
                    have c10b1 : (a0 != 7) = true := bne_iff_ne.mpr c10
                    by_cases c11 : a0 = 8
                    · rw [if_pos c11] at H
                      have c11b0 : (a0 == 8) = true := beq_iff_eq.mpr c11
                      have c11b1 : (a0 != 8) = false := bne_eq_false_iff_eq.mpr c11
                      clear c11
                      obtain rfl := Option.some.inj H
                      go_wp2
                      go_ret
                      exact ⟨by first | rfl | (simp; done) | (simp [*]; done), by repeat (first | exact Drawn0.refl _ | apply Drawn0.step)⟩
                    · rw [if_neg c11] at H
                      have c11b0 : (a0 == 8) = false := beq_eq_false_iff_ne.mpr c11
                      have c11b1 : (a0 != 8) = true := bne_iff_ne.mpr c11
                      obtain rfl := Option.some.inj H
                      go_wp2
                      go_ret
                      exact ⟨by first | rfl | (simp; done) | (simp [*]; done), by repeat (first | exact Drawn0.refl _ | apply Drawn0.step)⟩

end Go.Proofs.Ytegaicoddnmemaa.P

namespace Go.Proofs.Ytegaicoddnmemaa.X
open Go.RowKit Go.Proofs.YtegaicoddnmemaaW.PrintWords Go.Proofs.YtegaicoddnmemaaW.PrintLast Go.Proofs.YtegaicoddnmemaaW.PrintMore
open Go.Proofs.Ytegaicoddnmemaa.P Go.Proofs.Ytegaicoddnmemaa.Evx
set_option linter.unusedSimpArgs false
set_option linter.unusedVariables false
theorem Kids_ev (op : Int) : Ev (fun k => parryref22_Kids.f k op) (kidsS op) := by
  have h1 : ∀ b : Bool, b = decide (op = 3 ∨ op = 6) → ¬ (op = 1 ∨ op = 2) → Ev (fun k => parryref22_Kids.j1 k op b) (kidsS op) := by
    intro b hb h0
    refine ev_step (fun k => rfl) (ev_bool (fun h => ?_) (fun h => ?_))
    · rw [h] at hb
      have := of_decide_eq_true hb.symm
      exact ev_eq (ev_some _) (by unfold kidsS; rw [if_neg h0, if_pos this])
    · rw [h] at hb
      have := of_decide_eq_false hb.symm
      have e : kidsS op = if op = 4 ∨ op = 5 ∨ op = 7 ∨ op = 8 then 2 else -1 := by unfold kidsS; rw [if_neg h0, if_neg this]
      rw [e]
      refine ev_ite (fun c => ev_eq (ev_some _) ?_) (fun c4 => ev_ite (fun c => ev_eq (ev_some _) ?_) (fun c5 => ev_ite (fun c => ev_eq (ev_some _) ?_) (fun c7 => ev_ite (fun c => ev_eq (ev_some _) ?_) (fun c8 => ev_eq (ev_some _) ?_))))
      · rw [if_pos (by omega)]
      · rw [if_pos (by omega)]
      · rw [if_pos (by omega)]
      · rw [if_pos (by omega)]
      · rw [if_neg (by omega)]
  have h0 : ∀ b : Bool, b = decide (op = 1 ∨ op = 2) → Ev (fun k => parryref22_Kids.j0 k op b) (kidsS op) := by
    intro b hb
    refine ev_step (fun k => rfl) (ev_bool (fun h => ?_) (fun h => ?_))
    · rw [h] at hb
      have := of_decide_eq_true hb.symm
      exact ev_eq (ev_some _) (by unfold kidsS; rw [if_pos this])
    · rw [h] at hb
      have h2 := of_decide_eq_false hb.symm
      refine ev_ite (fun c => h1 _ ?_ h2) (fun c => h1 _ ?_ h2)
      · simp [c]
      · simp [c, show (op == 6) = decide (op = 6) from rfl]
  unfold parryref22_Kids.f
  refine ev_ite (fun c => h0 _ ?_) (fun c => h0 _ ?_)
  · simp [c]
  · simp [c, show (op == 2) = decide (op = 2) from rfl]
def rsd.T1 : Bool × List (List Nat × List Nat) := (true, [([], []), ([0], [0]), ([1], [1]), ([2], [2]), ([3, 2], [3]), ([4], [4]), ([5, 4], [4, 5]), ([6, 4], [4, 6]), ([4], [4]), ([8, 4], [4, 8]), ([9, 4, 4], [4, 9]), ([7, 10, 4], [4, 7, 10]), ([4, 11], [4, 11])])
def rsd.B1 : List Nat := [0, 1, 3, 7, 15, 31, 63, 127, 31, 287, 799, 2047, 4095]
theorem rsd.tab1 : rtab .any (opsOf Try.f36 1) = rsd.T1 := by kernel_rfl
theorem rsd.bits1 : waitsOk rsd.T1.2 rsd.B1 = true := by kernel_rfl
theorem bnot {b : Bool} (h : (!b) = true) : b = false := by simpa using h
def RsAt (s : S24) : Prop := ∀ (A : Option Addr) (cp : Nat) (w : World), Kd.C k24 w A s.f2.length s.f2 → s.f2.length ≤ cp →
    Calls Try.prog 36 #[.agg #[.int .i64 s.f0, .int .i64 s.f1, .slice A s.f2.length cp]] w fun e w' => e = .returned (.bool (soundS s)) ∧ Below w.heap.size w w'
set_option maxHeartbeats 4000000 in
set_option maxRecDepth 100000 in
theorem rsound_calls (s : S24) (ih : ∀ k ∈ s.f2, RsAt k) : RsAt s := by
  intro A cp w hk hc
  have huF := Try.underlying24
  have huL := Try.underlying22
  obtain ⟨W1, hW1⟩ : ∃ W1, W1 = w.alloc (.cells #[.int .i64 s.f0, .int .i64 s.f1, .slice A s.f2.length cp] 24) := ⟨_, rfl⟩
  have hB1 : Below w.heap.size w W1 := by rw [hW1]; exact below_alloc (Below.refl _ _) _
  have hbx : W1.heap[w.heap.size]? = some (.cells #[.int .i64 s.f0, .int .i64 s.f1, .slice A s.f2.length cp] 24 (0, 0)) := by rw [hW1]; exact heap_alloc_new w _
  have HBX := Aside0.mk hbx
  have HB1 := Aside0.mk hB1
  have HK := Aside0.mk hk
  have HIH := Aside0.mk ih
  obtain ⟨kk, hkk⟩ := (Kids_ev s.f0).rounds
  have hkr := kids_range s.f0
  have HKK := Aside0.mk hkk
  have HD := Aside0.mk (show soundS s = (decide (0 ≤ kidsS s.f0) && (decide ((s.f2.length : Int) = kidsS s.f0) && (decide (0 ≤ s.f1) && (decide (s.f1 ≤ mostS s.f0) && soundL s.f2)))) from by cases s; rfl)
  have HMO := Aside0.mk (show mostS s.f0 = if s.f0 = 2 then 19 else 0 from rfl)
  have x0 : W1.cell? ⟨w.heap.size, 0, none⟩ = some (.int .i64 s.f0) := (blk_cell hbx 0).trans rfl
  have x1 : W1.cell? ⟨w.heap.size, 1, none⟩ = some (.int .i64 s.f1) := (blk_cell hbx 1).trans rfl
  have x2 : W1.cell? ⟨w.heap.size, 2, none⟩ = some (.slice A s.f2.length cp) := (blk_cell hbx 2).trans rfl
  have hlen := Kd.C_max HK.out
  clear hbx hB1 hk ih hkk
  generalize kidsS s.f0 = Kq at *
  generalize mostS s.f0 = M at *
  generalize soundS s = R at *
  go_enter Try.func36, Try.ntmps36
  go_upto_region 1 with fail
  rw [← hW1]
  clear hW1
  go_cut [17] (fun v17 wx => ∃ (t : Bool) (m : Nat), v17 = .bool t ∧ Aside0 ((!(decide (0 ≤ Kq) && decide ((s.f2.length : Int) = Kq))) = t) ∧ wx = W1.drewN m)
  case first =>
    by_cases c1 : 0 ≤ Kq
    · have d1 : decide (Kq < 0) = false := decide_eq_false (by omega)
      have HC1 := Aside0.mk c1
      clear c1
      go_region_with (go_at_call 51; refine (parryref22_Kids.calls kk s.f0 Kq _ HKK.out).mono ?_; rintro e w1 ⟨rfl, hd0⟩; obtain ⟨m, rfl⟩ := hd0.out)
      all_goals (
        go_wp2_with fail
        go_meet
        exact ⟨_, _, rfl, ⟨by rw [decide_eq_true HC1.out, Bool.true_and]; rfl⟩, rfl⟩)
    · have d1 : decide (Kq < 0) = true := decide_eq_true (by omega)
      have HC1 := Aside0.mk c1
      clear c1
      refine start_ (n := 13) (S := fun w' => w'.cell? ⟨w.heap.size, 0, none⟩ = some (.int .i64 s.f0) ∧ w'.cell? ⟨w.heap.size, 2, none⟩ = some (.slice A s.f2.length cp)) (ds := []) #[false, false, false, false, false, false, false, false, false, false, false, false, false] (by kernel_rfl) rfl rfl ⟨x0, x2⟩ (fun hHeld => ?_)
      refine with_tabW rsd.tab1 rsd.bits1 (fun HT_ HW_ => ?_)
      refine pure_ (i := 0) (N := some 5) (v := ?_) (a' := ?_) #[true, false, false, false, false, false, false, false, false, false, false, false, false] rfl rfl (any_of HT_.out (by kernel_rfl)) (fun _ _ _ h => h) (Or.inl ⟨by rfl, ?_⟩) ?_ ?_
      rotate_left
      · intro w'
        go_simp
        with_reducible rfl
      rotate_left
      · simp only [Act.put, List.setIfInBounds_toArray, List.set_cons_zero, List.set_cons_succ, i64_w, i32_w]
        rfl
      refine take_ (i := 1) (N := some 6) (v := ?_) (a' := ?_) #[true, true, false, false, false, false, false, false, false, false, false, false, false] rfl rfl (take_ofW HT_.out HW_.out (by kernel_rfl)) (fun _ _ _ h => h) (Or.inl ⟨by rfl, ?_⟩) hHeld ?_ ?_
      rotate_left
      · rintro w' ⟨s0, s1⟩
        go_simp
        with_reducible rfl
      rotate_left
      · simp only [Act.put, List.setIfInBounds_toArray, List.set_cons_zero, List.set_cons_succ, i64_w, i32_w]
        rfl
      refine one_ (i := 2) (N := some 7) #[true, true, true, false, false, false, false, false, false, false, false, false, false] rfl rfl (one_of HT_.out (by kernel_rfl)) (by decide) (fun K hK => ?_)
      refine goes_ Try.func51 (by kernel_rfl) rfl #[.int .i64 s.f0] (by rfl) rfl rfl (by simp only [List.map_toArray, List.map_cons, List.map_nil]; rfl) ?_
      with_reducible refine (parryref22_Kids.calls kk s.f0 Kq _ HKK.out).mono ?_
      rintro e w1 ⟨rfl, hd0⟩
      obtain ⟨m, rfl⟩ := hd0.out
      refine ⟨_, rfl, ?_⟩
      refine hK.out _ _ ⟨x0, x2⟩ (fun hHeld => ?_)
      clear hK K
      refine norm_ (a' := ?_) ?_ ?_
      rotate_left
      · show Act.put _ (some 7) _ = _
        simp only [Act.put, List.setIfInBounds_toArray, List.set_cons_zero, List.set_cons_succ, i64_w, i32_w]
        rfl
      refine pure_ (i := 3) (N := some 8) (v := ?_) (a' := ?_) #[true, true, true, true, false, false, false, false, false, false, false, false, false] rfl rfl (any_of HT_.out (by kernel_rfl)) (fun _ _ _ h => h) (Or.inl ⟨by rfl, ?_⟩) ?_ ?_
      rotate_left
      · intro w'
        go_simp
        with_reducible rfl
      rotate_left
      · simp only [Act.put, List.setIfInBounds_toArray, List.set_cons_zero, List.set_cons_succ, i64_w, i32_w]
        rfl
      refine pure_ (i := 4) (N := some 9) (v := ?_) (a' := ?_) #[true, true, true, true, true, false, false, false, false, false, false, false, false] rfl rfl (any_of HT_.out (by kernel_rfl)) (fun _ _ _ h => h) (Or.inl ⟨by rfl, ?_⟩) ?_ ?_
      rotate_left
      · intro w'
        go_simp
        with_reducible rfl
      rotate_left
      · simp only [Act.put, List.setIfInBounds_toArray, List.set_cons_zero, List.set_cons_succ, i64_w, i32_w]
        rfl
      refine pure_ (i := 5) (N := some 10) (v := undef) (a' := ?_) #[true, true, true, true, true, true, false, false, false, false, false, false, false] rfl rfl (any_of HT_.out (by kernel_rfl)) (fun _ _ _ h => h) (Or.inr ⟨by rfl, rfl⟩) ?_ ?_
      rotate_left
      · simp only [Act.put, List.setIfInBounds_toArray, List.set_cons_zero, List.set_cons_succ, i64_w, i32_w]
        rfl
      refine pure_ (i := 6) (N := some 11) (v := undef) (a' := ?_) #[true, true, true, true, true, true, true, false, false, false, false, false, false] rfl rfl (any_of HT_.out (by kernel_rfl)) (fun _ _ _ h => h) (Or.inr ⟨by rfl, rfl⟩) ?_ ?_
      rotate_left
      · simp only [Act.put, List.setIfInBounds_toArray, List.set_cons_zero, List.set_cons_succ, i64_w, i32_w]
        rfl
      refine pure_ (i := 7) (N := some 12) (v := undef) (a' := ?_) #[true, true, true, true, true, true, true, true, false, false, false, false, false] rfl rfl (any_of HT_.out (by kernel_rfl)) (fun _ _ _ h => h) (Or.inr ⟨by rfl, rfl⟩) ?_ ?_
      rotate_left
      · simp only [Act.put, List.setIfInBounds_toArray, List.set_cons_zero, List.set_cons_succ, i64_w, i32_w]
        rfl
      refine pure_ (i := 8) (N := some 13) (v := undef) (a' := ?_) #[true, true, true, true, true, true, true, true, true, false, false, false, false] rfl rfl (any_of HT_.out (by kernel_rfl)) (fun _ _ _ h => h) (Or.inr ⟨by rfl, rfl⟩) ?_ ?_
      rotate_left
      · simp only [Act.put, List.setIfInBounds_toArray, List.set_cons_zero, List.set_cons_succ, i64_w, i32_w]
        rfl
      refine pure_ (i := 9) (N := some 14) (v := undef) (a' := ?_) #[true, true, true, true, true, true, true, true, true, true, false, false, false] rfl rfl (any_of HT_.out (by kernel_rfl)) (fun _ _ _ h => h) (Or.inr ⟨by rfl, rfl⟩) ?_ ?_
      rotate_left
      · simp only [Act.put, List.setIfInBounds_toArray, List.set_cons_zero, List.set_cons_succ, i64_w, i32_w]
        rfl
      refine pure_ (i := 10) (N := some 15) (v := undef) (a' := ?_) #[true, true, true, true, true, true, true, true, true, true, true, false, false] rfl rfl (any_of HT_.out (by kernel_rfl)) (fun _ _ _ h => h) (Or.inr ⟨by rfl, rfl⟩) ?_ ?_
      rotate_left
      · simp only [Act.put, List.setIfInBounds_toArray, List.set_cons_zero, List.set_cons_succ, i64_w, i32_w]
        rfl
      refine pure_ (i := 11) (N := some 16) (v := undef) (a' := ?_) #[true, true, true, true, true, true, true, true, true, true, true, true, false] rfl rfl (any_of HT_.out (by kernel_rfl)) (fun _ _ _ h => h) (Or.inr ⟨by rfl, rfl⟩) ?_ ?_
      rotate_left
      · simp only [Act.put, List.setIfInBounds_toArray, List.set_cons_zero, List.set_cons_succ, i64_w, i32_w]
        rfl
      refine pure_ (i := 12) (N := some 17) (v := ?_) (a' := ?_) #[true, true, true, true, true, true, true, true, true, true, true, true, true] rfl rfl (any_of HT_.out (by kernel_rfl)) (fun _ _ _ h => h) (Or.inl ⟨by rfl, ?_⟩) ?_ ?_
      rotate_left
      · intro w'
        go_simp
        with_reducible rfl
      rotate_left
      · simp only [Act.put, List.setIfInBounds_toArray, List.set_cons_zero, List.set_cons_succ, i64_w, i32_w]
        rfl
      refine done_ (done_of HT_.out (by kernel_rfl)) ?_
      go_wp2_with fail
      go_meet
      exact ⟨_, _, rfl, ⟨by rw [decide_eq_false (show ¬ 0 ≤ Kq by have := HC1.out; omega)]; rfl⟩, rfl⟩
  case rest =>
    obtain ⟨t, m, rfl, HT, hwc⟩ := hcut
    rw [hwc]
    clear hwc wc
    cases t with
    | true =>
      have HX := Aside0.mk (show R = false from by rw [HD.out, ← Bool.and_assoc, bnot HT.out]; rfl)
      go_wp2
      go_ret
      exact ⟨by rw [HX.out]; rfl, pw_below_drewN HB1.out _⟩
    | false =>
      have hT : (decide (0 ≤ Kq) && decide ((s.f2.length : Int) = Kq)) = true := by simpa using HT.out
      have HD2 := Aside0.mk (show R = (decide (0 ≤ s.f1) && (decide (s.f1 ≤ M) && soundL s.f2)) from by rw [HD.out, ← Bool.and_assoc, hT, Bool.true_and])
      clear hT
      go_upto_region 3 with fail
      go_cut [40] (fun v40 wx => ∃ (t : Bool), v40 = .bool t ∧ Aside0 ((!(decide (0 ≤ s.f1) && decide (s.f1 ≤ M))) = t) ∧ wx = W1.drewN m)
      case first =>
        by_cases h2 : s.f0 = 2
        · have hm : M = 19 := by rw [HMO.out, if_pos h2]
          have e2 : (s.f0 == 2) = true := beq_iff_eq.mpr h2
          have e3 : (s.f0 != 2) = false := bne_eq_false_iff_eq.mpr h2
          have HMM := Aside0.mk hm
          clear h2 hm
          by_cases c3 : s.f1 < 0
          · go_wp2
            go_meet
            exact ⟨_, rfl, ⟨by rw [decide_eq_false (show ¬ 0 ≤ s.f1 by omega)]; rfl⟩, rfl⟩
          · by_cases c4 : 20 ≤ s.f1
            · go_wp2
              go_meet
              exact ⟨_, rfl, ⟨by rw [HMM.out, decide_eq_false (show ¬ s.f1 ≤ 19 by omega), Bool.and_false]; rfl⟩, rfl⟩
            · go_wp2
              go_meet
              exact ⟨_, rfl, ⟨by rw [HMM.out, decide_eq_true (show s.f1 ≤ 19 by omega), decide_eq_true (show 0 ≤ s.f1 by omega)]; rfl⟩, rfl⟩
        · have hm : M = 0 := by rw [HMO.out, if_neg h2]
          have e2 : (s.f0 == 2) = false := beq_eq_false_iff_ne.mpr h2
          have e3 : (s.f0 != 2) = true := bne_iff_ne.mpr h2
          have HMM := Aside0.mk hm
          clear h2 hm
          go_wp2
          go_meet
          refine ⟨_, rfl, ⟨?_⟩, rfl⟩
          rw [HMM.out]
          by_cases c : s.f1 = 0
          · rw [c]; rfl
          · have h9 : (s.f1 != 0) = true := by simpa using c
            rw [h9]
            by_cases c4 : 0 ≤ s.f1
            · rw [decide_eq_false (show ¬ s.f1 ≤ 0 by omega), Bool.and_false]; rfl
            · rw [decide_eq_false c4]; rfl
      case rest =>
        obtain ⟨t, rfl, HT2, hwc⟩ := hcut
        rw [hwc]
        clear hwc wc
        cases t with
        | true =>
          have HX := Aside0.mk (show R = false from by rw [HD2.out, ← Bool.and_assoc, bnot HT2.out]; rfl)
          go_wp2
          go_ret
          exact ⟨by rw [HX.out]; rfl, pw_below_drewN HB1.out _⟩
        | false =>
          have hT : (decide (0 ≤ s.f1) && decide (s.f1 ≤ M)) = true := by simpa using HT2.out
          have HD3 := Aside0.mk (show R = soundL s.f2 from by rw [HD2.out, ← Bool.and_assoc, hT, Bool.true_and])
          clear hT
          go_wp2
          go_loopg [44] s.f2.length (fun kq v44 w' => ∃ j : Nat, j + kq = s.f2.length ∧ v44 = .int .i64 j ∧ Aside0 (soundL (s.f2.drop j) = soundL s.f2) ∧ Aside0 (Below w.heap.size w w'))
          case atStart => exact ⟨0, by omega, rfl, ⟨rfl⟩, ⟨pw_below_drewN HB1.out _⟩⟩
          case round =>
            obtain ⟨j, hj, rfl, HSL, HBj⟩ := hrel
            have HJ := Aside0.mk hj
            clear hj
            by_cases hlt : j < s.f2.length
            · obtain ⟨ad, A3, c3, e0, hx0, hx1, hx2, hl3, hk3⟩ := kid_at HK.out HBj.out j hlt hlt
              cases e0
              have HCALL := Aside0.mk (HIH.out (s.f2[j]'hlt) (List.getElem_mem hlt) A3 c3 _ (Kd.C_below (Kd.C_below hk3 HBj.out) (below_alloc (Below.refl _ _) (.cells #[.int .i64 (s.f2[j]'hlt).f0, .int .i64 (s.f2[j]'hlt).f1, .slice A3 (s.f2[j]'hlt).f2.length c3] 24))) hl3)
              have HST := Aside0.mk (show soundL s.f2 = (soundS (s.f2[j]'hlt) && soundL (s.f2.drop (j + 1))) from by rw [← HSL.out, List.drop_eq_getElem_cons hlt, soundL])
              generalize soundS (s.f2[j]'hlt) = b at *
              clear hk3 hl3
              cases b with
              | true =>
                have HS2 := Aside0.mk (show soundL (s.f2.drop (j + 1)) = soundL s.f2 from by rw [HST.out, Bool.true_and])
                go_wp2_with (go_at_call 36; refine HCALL.out.mono ?_; rintro e w2 ⟨rfl, hB⟩; have HB2 := Aside0.mk (HBj.out.trans (((below_alloc (Below.refl _ _) _ : Below wr.heap.size wr _).trans (hB.mono (by simp))).mono HBj.out.size)); clear hB)
                go_roundg (gk - 1)
                case measure => have := HJ.out; omega
                case rel => exact ⟨j + 1, by have := HJ.out; omega, by go_num, HS2, HB2⟩
              | false =>
                have HX := Aside0.mk (show R = false from by rw [HD3.out, HST.out, Bool.false_and])
                go_wp2_with (go_at_call 36; refine HCALL.out.mono ?_; rintro e w2 ⟨rfl, hB⟩; have HB2 := Aside0.mk (HBj.out.trans (((below_alloc (Below.refl _ _) _ : Below wr.heap.size wr _).trans (hB.mono (by simp))).mono HBj.out.size)); clear hB)
                go_ret
                exact ⟨by rw [HX.out]; rfl, HB2.out⟩
            · have HX := Aside0.mk (show R = true from by rw [HD3.out, ← HSL.out, List.drop_eq_nil_of_le (by omega)]; rfl)
              go_wp2
              go_ret
              exact ⟨by rw [HX.out]; rfl, HBj.out⟩
mutual
theorem rsound_all : ∀ s : S24, RsAt s
  | ⟨op, m, kids⟩ => rsound_calls ⟨op, m, kids⟩ (rsound_kids kids)
theorem rsound_kids : ∀ (l : List S24) (k : S24), k ∈ l → RsAt k
  | [], k, hk => by simp at hk
  | a :: r, k, hk => by
    rcases List.mem_cons.1 hk with h | h
    · rw [h]
      exact rsound_all a
    · exact rsound_kids r k h
end
def parryref22_sound.f (a0_0 : Int) (a0_1 : Int) (l0_2 : List S24) : Option Bool := some (soundS ⟨a0_0, a0_1, l0_2⟩)
theorem parryref22_sound.calls (a0_0 : Int) (a0_1 : Int) (A0_2 : Option Addr) (c0_2 : Nat) (l0_2 : List S24) (r : Bool) (w : World) (hr0_2 : Kd.C k24 w A0_2 l0_2.length l0_2) (hc0_2 : l0_2.length ≤ c0_2) (h : parryref22_sound.f a0_0 a0_1 l0_2 = some r) :
    Calls Try.prog 36 #[.agg #[.int .i64 a0_0, .int .i64 a0_1, .slice A0_2 l0_2.length c0_2]] w fun e w' => e = .returned (.bool r) ∧ Below w.heap.size w w' := by
  obtain rfl := Option.some.inj h
  exact rsound_all ⟨a0_0, a0_1, l0_2⟩ A0_2 c0_2 w hr0_2 hc0_2
end Go.Proofs.Ytegaicoddnmemaa.X

namespace Go.Proofs.Ytegaicoddnmemaa.P
open Go.RowKit Go.Proofs.YtegaicoddnmemaaW.PrintWords Go.Proofs.YtegaicoddnmemaaW.PrintLast Go.Proofs.YtegaicoddnmemaaW.PrintMore
attribute [local go_sem] max2_int min2_int max_two min_two max_three min_three max_four min_four   -- for this text's walks alone
set_option linter.unusedVariables false
set_option linter.unusedSimpArgs false

open Go.Proofs.Ytegaicoddnmemaa.X
def parryref22_May.j0 : Nat → Bool → Int → Int → List (S24) → Option (Int)
  | 0, _, _, _, _ => none
  | k + 1, x10, x178000, x178001, x178002 => if x10 = true then (some 7) else ((parryref22_sound.f x178000 x178001 x178002).bind fun t180 => (if t180 = true then (some 0) else (some 1)))
def parryref22_May.f (k : Nat) (a0_0 : Int) (a0_1 : Int) (l0_2 : List (S24)) : Option (Int) := (parryref22_count.f k a0_0 a0_1 l0_2 1 60).bind fun bt178 => (if bt178.1 > 60 then (parryref22_May.j0 k true a0_0 a0_1 l0_2) else (parryref22_May.j0 k (decide (bt178.2 > 8)) a0_0 a0_1 l0_2))
theorem parryref22_May.mono_l : ∀ k, (∀ y0 y1 y2 y3, LeO (parryref22_May.j0 k y0 y1 y2 y3) (parryref22_May.j0 (k + 1) y0 y1 y2 y3))
  | 0 => fun _ _ _ _ r h => by simp [parryref22_May.j0] at h
  | k + 1 => by
    have ih0 := parryref22_May.mono_l k
    · intro y0 y1 y2 y3
      unfold parryref22_May.j0
      repeat' first
      | (with_reducible exact ih0 _ _ _ _)
      | (with_reducible exact parryref22_count.mono _ _ _ _ _ _)
      | (with_reducible exact LeO.refl _)
      | (with_reducible exact LeO.none _)
      | (with_reducible refine LeO.ite ?_ ?_)
      | (with_reducible refine LeO.bind ?_ (fun _ => ?_))
      | exact ih0 _ _ _ _
      | exact parryref22_count.mono _ _ _ _ _ _
      | exact LeO.none _
      | refine LeO.ite ?_ ?_
      | refine LeO.bind ?_ (fun _ => ?_)
theorem parryref22_May.mono : ∀ a0 a1 a2 k, LeO (parryref22_May.f k a0 a1 a2) (parryref22_May.f (k + 1) a0 a1 a2) := by
  intro a0 a1 a2 k
  have ih0 := parryref22_May.mono_l k
  unfold parryref22_May.f
  repeat' first
      | (with_reducible exact ih0 _ _ _ _)
      | (with_reducible exact parryref22_count.mono _ _ _ _ _ _)
      | (with_reducible exact LeO.refl _)
      | (with_reducible exact LeO.none _)
      | (with_reducible refine LeO.ite ?_ ?_)
      | (with_reducible refine LeO.bind ?_ (fun _ => ?_))
      | exact ih0 _ _ _ _
      | exact parryref22_count.mono _ _ _ _ _ _
      | exact LeO.none _
      | refine LeO.ite ?_ ?_
      | refine LeO.bind ?_ (fun _ => ?_)
set_option maxHeartbeats 8000000 in
set_option maxRecDepth 100000 in
theorem parryref22_May.calls (k : Nat) (a0_0 : Int) (a0_1 : Int) (A0_2 : Option Addr) (c0_2 : Nat) (l0_2 : List (S24)) (r : Int) (w : World) (hr0_2 : Kd.C k24 w A0_2 l0_2.length l0_2) (hc0_2 : l0_2.length ≤ c0_2) (h : parryref22_May.f k a0_0 a0_1 l0_2 = some r) :
    Calls Try.prog 15 #[.agg #[.int .i64 a0_0, .int .i64 a0_1, .slice A0_2 l0_2.length c0_2]] w fun e w' => e = .returned (.int .i64 r) ∧ Below w.heap.size w w' := by
  have hu24 := Try.underlying24
  have HR0_2 := Aside0.mk hr0_2
  have HC0_2 := Aside0.mk hc0_2
  clear hr0_2 hc0_2
  have HB := Aside0.mk (Below.refl w.heap.size w)
  have H : ((parryref22_count.f k a0_0 a0_1 l0_2 1 60).bind fun bt178 => (if bt178.1 > 60 then (parryref22_May.j0 k true a0_0 a0_1 l0_2) else (parryref22_May.j0 k (decide (bt178.2 > 8)) a0_0 a0_1 l0_2))) = some r := h
  clear h
  replace H := Option.bind_eq_some_iff.mp H
  obtain ⟨⟨t178, t179⟩, A20, H⟩ := H
  replace H : (if t178 > 60 then (parryref22_May.j0 k true a0_0 a0_1 l0_2) else (parryref22_May.j0 k (decide (t179 > 8)) a0_0 a0_1 l0_2)) = some r := H
  have A2 := Aside0.mk A20
  clear A20
  have HC3 := Aside0.mk H
  clear H
  go_enter Try.func15, Try.ntmps15
  go_upto_region 2 with (first | ((with_reducible refine gate_dst (N := 1) rfl ?_); refine box_event ?hg (N := 1) ?hd (cs := #[.int .i64 a0_0, .int .i64 a0_1, .slice A0_2 l0_2.length c0_2]) (t := 24) ?hr ?_; (case hd => rfl); (case hg => rfl); (case hr => first | (go_simp; done) | (go_simp; rfl)); intro gb177 hg w4 hbox hb; have n0_ := Aside0.mk (below_step (by repeat (first | (with_reducible first | exact HB.out | apply below_alloc | apply pw_below_drewN | apply below_drew1) | exact HB.out)) hb); have n1_ := Aside0.mk (hbox); have n2_ := Aside0.mk ((by rw [hg]; exact (below_size (by repeat (first | (with_reducible first | exact HB.out | apply below_alloc | apply pw_below_drewN | apply below_drew1) | exact HB.out))) : w.heap.size ≤ gb177)); have n3_ := Aside0.mk ((by rw [hg]; exact (below_size (by repeat (first | (with_reducible first | exact HB.out | apply below_alloc | apply pw_below_drewN | apply below_drew1) | exact HB.out))) : w.heap.size ≤ gb177)); clear HB; have HB := n0_; have BK177 := n1_; have GW177 := n2_; have GE177 := n3_; clear n0_ n1_ n2_ n3_; clear hb hbox hg; have hcz5_0 : w4.cell? ⟨gb177, 0, none⟩ = some (.int .i64 a0_0) := (blk_cell BK177.out 0).trans rfl; have hcz5_1 : w4.cell? ⟨gb177, 1, none⟩ = some (.int .i64 a0_1) := (blk_cell BK177.out 1).trans rfl; have hcz5_2 : w4.cell? ⟨gb177, 2, none⟩ = some (.slice A0_2 l0_2.length c0_2) := (blk_cell BK177.out 2).trans rfl; have hfz5_0 := blk_frozen BK177.out 0; have hfz5_1 := blk_frozen BK177.out 1; have hfz5_2 := blk_frozen BK177.out 2) | ((with_reducible refine gate_callee (f := 35) rfl ?_); refine goesL_ (some 7) rfl rfl Try.func35 (by kernel_rfl) rfl #[.agg #[.int .i64 a0_0, .int .i64 a0_1, .slice A0_2 l0_2.length c0_2], .int .i64 1, .int .i64 60] rfl (by (try simp only [List.map_toArray, List.map_cons, List.map_nil]); first | done | rfl | (simp only [List.length_drop, List.length_take]; rfl)) ?_; (with_reducible refine (parryref22_count.calls k a0_0 a0_1 _ _ l0_2 1 60 t178 t179 _ ?side1 ?side2 A2.out).mono ?_); (case side1 => repeat (first | exact (Kd.C_below HR0_2.out HB.out) | (with_reducible refine Kd.C_alloc ?_ _) | (with_reducible refine Kd.C_drewN ?_ _) | (with_reducible refine Kd.C_drew ?_))); (case side2 => exact HC0_2.out); rintro e w6 ⟨rfl, hb⟩; refine ⟨_, rfl, ?_⟩; have n0_ := Aside0.mk (blk_below (g := gb177) (o := .cells #[.int .i64 a0_0, .int .i64 a0_1, .slice A0_2 l0_2.length c0_2] 24 (0, 0)) (by (with_reducible repeat (first | refine blk_drewN ?_ _ | refine blk_drew ?_ | refine blk_alloc ?_ _)); exact BK177.out) hb); have n1_ := Aside0.mk (below_step (by repeat (first | (with_reducible first | exact HB.out | apply below_alloc | apply pw_below_drewN | apply below_drew1 | refine below_set ?_ GE177.out) | exact HB.out)) hb); clear BK177; clear HB; have BK177 := n0_; have HB := n1_; clear n0_ n1_; (try clear hb); (try clear hb2); (try clear hk); (try clear hi)))
  (try simp only [Act.put, List.setIfInBounds_toArray, List.set_cons_zero, List.set_cons_succ])
  go_cut [10] (fun v10 wc => ∃ (kq : Nat) (x10_2 : Bool), v10 = .bool x10_2 ∧ Aside0 (parryref22_May.j0 kq x10_2 a0_0 a0_1 l0_2 = some r) ∧ Aside0 (kq ≤ k) ∧ Aside0 (wc.heap[gb177]? = some (.cells #[.int .i64 a0_0, .int .i64 a0_1, (.slice A0_2 l0_2.length c0_2)] 24 (0, 0))) ∧ Aside0 (Below w.heap.size w wc))
  case first =>
    have H := HC3.out
    clear HC3
    by_cases c7 : t178 > 60
    · rw [if_pos c7] at H
      have c7b0 : decide (60 < t178) = true := decide_eq_true c7
      clear c7
      (first | rw [c7b0] | (simp only [i64_w, i32_w]; rw [c7b0]) | skip)
      have H' := Aside0.mk H
      clear H
      go_wp2
      go_meet
      case rel => exact ⟨_, (true), (by first | rfl | (simp; done) | (simp [*]; done)), H', ⟨by first | omega | exact Nat.le_refl _⟩, ⟨by (with_reducible repeat (first | refine blk_drewN ?_ _ | refine blk_drew ?_ | refine blk_alloc ?_ _)); exact BK177.out⟩, ⟨by repeat (first | (with_reducible first | exact HB.out | apply below_alloc | apply pw_below_drewN | apply below_drew1 | refine below_set ?_ GE177.out) | exact HB.out)⟩⟩
    · rw [if_neg c7] at H
      have c7b0 : decide (60 < t178) = false := decide_eq_false c7
      clear c7
      (first | rw [c7b0] | (simp only [i64_w, i32_w]; rw [c7b0]) | skip)
      have H' := Aside0.mk H
      clear H
      go_wp2
      go_meet
      case rel => exact ⟨_, (decide (t179 > 8)), (by first | rfl | (simp; done) | (simp [*]; done)), H', ⟨by first | omega | exact Nat.le_refl _⟩, ⟨by (with_reducible repeat (first | refine blk_drewN ?_ _ | refine blk_drew ?_ | refine blk_alloc ?_ _)); exact BK177.out⟩, ⟨by repeat (first | (with_reducible first | exact HB.out | apply below_alloc | apply pw_below_drewN | apply below_drew1 | refine below_set ?_ GE177.out) | exact HB.out)⟩⟩
  case rest =>
    clear HC3
    try clear c1
    try clear p2
    try clear c3
    try clear c7
    try clear c7b0
    try clear hcz5_0
    try clear hcz5_1
    try clear hcz5_2
    try clear hfz5_0
    try clear hfz5_1
    try clear hfz5_2
    obtain ⟨kq, x10_2, rfl, HA, HJ2, BK177, HB⟩ := hcut
    cases kq with
    | zero => exact absurd HA.out (by simp [parryref22_May.j0])
    | succ kj2 =>
      have H := HA.out
      clear HA
      simp only [parryref22_May.j0] at H
      by_cases c8 : x10_2 = true
      · subst c8
        have H1 : (some 7) = some r := by rw [if_pos rfl] at H; exact H
        clear H
        have H := H1
        clear H1
        obtain rfl := Option.some.inj H
        go_wp2
        go_ret
        exact ⟨by first | rfl | (simp [errW_none, errW_some] <;> rfl) | (simp [*, errW_none, errW_some] <;> rfl), by repeat (first | (with_reducible first | exact HB.out | apply below_alloc | apply pw_below_drewN | apply below_drew1 | refine below_set ?_ GE177.out) | exact HB.out)⟩
      · replace c8 := Bool.eq_false_iff.mpr c8
        subst c8
        have H1 : ((parryref22_sound.f a0_0 a0_1 l0_2).bind fun t180 => (if t180 = true then (some 0) else (some 1))) = some r := by rw [if_neg (show ¬ (false = true) by decide)] at H; exact H
        clear H
        have H := H1
        clear H1
        replace H := Option.bind_eq_some_iff.mp H
        obtain ⟨t180, A90, H⟩ := H
        replace H : (if t180 = true then (some 0) else (some 1)) = some r := H
        have A9 := Aside0.mk A90
        clear A90
        by_cases c10 : t180 = true
        · subst c10
          have H1 : (some 0) = some r := by rw [if_pos rfl] at H; exact H
          clear H
          have H := H1
          clear H1
          obtain rfl := Option.some.inj H
          have hcz11_0 : wc.cell? ⟨gb177, 0, none⟩ = some (.int .i64 a0_0) := (blk_cell BK177.out 0).trans rfl
          have hcz11_1 : wc.cell? ⟨gb177, 1, none⟩ = some (.int .i64 a0_1) := (blk_cell BK177.out 1).trans rfl
          have hcz11_2 : wc.cell? ⟨gb177, 2, none⟩ = some (.slice A0_2 l0_2.length c0_2) := (blk_cell BK177.out 2).trans rfl
          have hfz11_0 := blk_frozen BK177.out 0
          have hfz11_1 := blk_frozen BK177.out 1
          have hfz11_2 := blk_frozen BK177.out 2
          go_wp2_with (first | ((with_reducible refine gate_callee (f := 36) rfl ?_); refine goesL_ (some 19) rfl rfl Try.func36 (by kernel_rfl) rfl #[.agg #[.int .i64 a0_0, .int .i64 a0_1, .slice A0_2 l0_2.length c0_2]] rfl (by (try simp only [List.map_toArray, List.map_cons, List.map_nil]); first | done | rfl | (simp only [List.length_drop, List.length_take]; rfl)) ?_; (with_reducible refine (parryref22_sound.calls a0_0 a0_1 _ _ l0_2 true _ ?side1 ?side2 A9.out).mono ?_); (case side1 => repeat (first | exact (Kd.C_below HR0_2.out HB.out) | (with_reducible refine Kd.C_alloc ?_ _) | (with_reducible refine Kd.C_drewN ?_ _) | (with_reducible refine Kd.C_drew ?_))); (case side2 => exact HC0_2.out); rintro e w12 ⟨rfl, hb⟩; refine ⟨_, rfl, ?_⟩; have n0_ := Aside0.mk (blk_below (g := gb177) (o := .cells #[.int .i64 a0_0, .int .i64 a0_1, .slice A0_2 l0_2.length c0_2] 24 (0, 0)) (by (with_reducible repeat (first | refine blk_drewN ?_ _ | refine blk_drew ?_ | refine blk_alloc ?_ _)); exact BK177.out) hb); have n1_ := Aside0.mk (below_step (by repeat (first | (with_reducible first | exact HB.out | apply below_alloc | apply pw_below_drewN | apply below_drew1 | refine below_set ?_ GE177.out) | exact HB.out)) hb); clear BK177; clear HB; have BK177 := n0_; have HB := n1_; clear n0_ n1_; (try clear hb); (try clear hb2); (try clear hk); (try clear hi)))
          go_ret
          exact ⟨by first | rfl | (simp [errW_none, errW_some] <;> rfl) | (simp [*, errW_none, errW_some] <;> rfl), by repeat (first | (with_reducible first | exact HB.out | apply below_alloc | apply pw_below_drewN | apply below_drew1 | refine below_set ?_ GE177.out) | exact HB.out)⟩
        · replace c10 := Bool.eq_false_iff.mpr c10
          subst c10
          have H1 : (some 1) = some r := by rw [if_neg (show ¬ (false = true) by decide)] at H; exact H
          clear H
          have H := H1
          clear H1
          obtain rfl := Option.some.inj H
          have hcz13_0 : wc.cell? ⟨gb177, 0, none⟩ = some (.int .i64 a0_0) := (blk_cell BK177.out 0).trans rfl
          have hcz13_1 : wc.cell? ⟨gb177, 1, none⟩ = some (.int .i64 a0_1) := (blk_cell BK177.out 1).trans rfl
          have hcz13_2 : wc.cell? ⟨gb177, 2, none⟩ = some (.slice A0_2 l0_2.length c0_2) := (blk_cell BK177.out 2).trans rfl
          have hfz13_0 := blk_frozen BK177.out 0
          have hfz13_1 := blk_frozen BK177.out 1
          have hfz13_2 := blk_frozen BK177.out 2
          go_wp2_with (first | ((with_reducible refine gate_callee (f := 36) rfl ?_); refine goesL_ (some 19) rfl rfl Try.func36 (by kernel_rfl) rfl #[.agg #[.int .i64 a0_0, .int .i64 a0_1, .slice A0_2 l0_2.length c0_2]] rfl (by (try simp only [List.map_toArray, List.map_cons, List.map_nil]); first | done | rfl | (simp only [List.length_drop, List.length_take]; rfl)) ?_; (with_reducible refine (parryref22_sound.calls a0_0 a0_1 _ _ l0_2 false _ ?side1 ?side2 A9.out).mono ?_); (case side1 => repeat (first | exact (Kd.C_below HR0_2.out HB.out) | (with_reducible refine Kd.C_alloc ?_ _) | (with_reducible refine Kd.C_drewN ?_ _) | (with_reducible refine Kd.C_drew ?_))); (case side2 => exact HC0_2.out); rintro e w14 ⟨rfl, hb⟩; refine ⟨_, rfl, ?_⟩; have n0_ := Aside0.mk (blk_below (g := gb177) (o := .cells #[.int .i64 a0_0, .int .i64 a0_1, .slice A0_2 l0_2.length c0_2] 24 (0, 0)) (by (with_reducible repeat (first | refine blk_drewN ?_ _ | refine blk_drew ?_ | refine blk_alloc ?_ _)); exact BK177.out) hb); have n1_ := Aside0.mk (below_step (by repeat (first | (with_reducible first | exact HB.out | apply below_alloc | apply pw_below_drewN | apply below_drew1 | refine below_set ?_ GE177.out) | exact HB.out)) hb); clear BK177; clear HB; have BK177 := n0_; have HB := n1_; clear n0_ n1_; (try clear hb); (try clear hb2); (try clear hk); (try clear hi)))
          go_ret
          exact ⟨by first | rfl | (simp [errW_none, errW_some] <;> rfl) | (simp [*, errW_none, errW_some] <;> rfl), by repeat (first | (with_reducible first | exact HB.out | apply below_alloc | apply pw_below_drewN | apply below_drew1 | refine below_set ?_ GE177.out) | exact HB.out)⟩

end Go.Proofs.Ytegaicoddnmemaa.P

namespace Go.Proofs.Ytegaicoddnmemaa.X
open Go.RowKit Go.Proofs.YtegaicoddnmemaaW.PrintWords Go.Proofs.YtegaicoddnmemaaW.PrintMore
open Go.Proofs.Ytegaicoddnmemaa.P Go.Proofs.Ytegaicoddnmemaa.Evx
set_option linter.unusedVariables false
set_option linter.unusedSimpArgs false
/-- What count tells: exact where the formula fits, more than the room where it does not. -/
def CntAt (s : S24) : Prop := ∀ (d r : Int), 1 ≤ d → d ≤ 13 → r ≤ 60 → 60 ≤ r + 60 * d → ∃ n t : Int, Ev (fun k => parryref22_count.f k s.f0 s.f1 s.f2 d r) (n, t) ∧ 1 ≤ n ∧ n ≤ 61 + 60 * (13 - d) ∧ 0 ≤ t ∧ t ≤ n ∧
  ((nS s : Int) ≤ r ∧ d + hS s ≤ 13 → n = nS s ∧ t = tnS s) ∧ (¬ ((nS s : Int) ≤ r ∧ d + hS s ≤ 13) → r < n)
theorem nS_pos (s : S24) : 1 ≤ nS s := by cases s; simp only [nS]; omega
theorem count_l (kids : List S24) (d r : Int) (hd1 : 1 ≤ d) (hd : d ≤ 12) (hr : r ≤ 60) (hr2 : 60 ≤ r + 60 * d) (ih : ∀ k ∈ kids, CntAt k) :
    ∀ (e j : Nat) (n t : Int), j + e = kids.length → (j : Int) < n → n ≤ 60 → 0 ≤ t → t ≤ n → ∃ n' t' : Int, Ev (fun k => parryref22_count.l0 k d r n t kids (kids.length : Int) j) (n', t') ∧ 1 ≤ n' ∧ n' ≤ 61 + 60 * (13 - d) ∧ 0 ≤ t' ∧ t' ≤ n' ∧
      (n + nL (kids.drop j) ≤ r ∧ d + 1 + hL (kids.drop j) ≤ 13 → n' = n + nL (kids.drop j) ∧ t' = t + tnL (kids.drop j)) ∧ (¬ (n + nL (kids.drop j) ≤ r ∧ d + 1 + hL (kids.drop j) ≤ 13) → r < n')
  | 0, j, n, t, hj, h1, h2, h3, h4 => by
    refine ⟨n, t, ev_step (fun k => rfl) (ev_neg (by omega) (ev_some _)), by omega, by omega, h3, h4, ?_, ?_⟩
    · rw [List.drop_eq_nil_of_le (by omega)]; simp [nL, tnL]
    · rw [List.drop_eq_nil_of_le (by omega)]; simp only [nL, hL]; omega
  | e + 1, j, n, t, hj, h1, h2, h3, h4 => by
    have hlt : j < kids.length := by omega
    obtain ⟨x, y, hx, x1, x2, y1, y2, q1, q2⟩ := ih _ (List.getElem_mem hlt) (d + 1) (r - n) (by omega) (by omega) (by omega) (by omega)
    have hdr := List.drop_eq_getElem_cons hlt
    rw [hdr]
    simp only [nL, tnL, hL]
    have hk1 : 1 ≤ nS (kids[j]'hlt) := by cases (kids[j]'hlt); simp only [nS]; omega
    by_cases hc : n + x > 60
    · refine ⟨n + x, t + y, ev_step (fun k => rfl) (ev_pos (by omega) (ev_pos (by omega) (ev_pos (by omega) ?_))), by omega, by omega, by omega, by omega, ?_, ?_⟩
      · rw [rdT_nat kids j hlt, w64 (by omega) (by omega), w64 (by omega) (by omega)]
        refine ev_bind hx ?_
        simp only
        rw [w64 (by omega) (by omega), w64 (by omega) (by omega)]
        exact ev_pos hc (ev_some _)
      · intro hq
        have := q1 (by omega)
        omega
      · intro _
        omega
    · obtain ⟨n', t', hn', a1, a2, a3, a4, b1, b2⟩ := count_l kids d r hd1 hd hr hr2 ih e (j + 1) (n + x) (t + y) (by omega) (by omega) (by omega) (by omega) (by omega)
      refine ⟨n', t', ev_step (fun k => rfl) (ev_pos (by omega) (ev_pos (by omega) (ev_pos (by omega) ?_))), a1, a2, a3, a4, ?_, ?_⟩
      · rw [rdT_nat kids j hlt, w64 (by omega) (by omega), w64 (by omega) (by omega)]
        refine ev_bind hx ?_
        simp only
        rw [w64 (by omega) (by omega), w64 (by omega) (by omega), w64 (by omega) (by omega)]
        refine ev_neg hc ?_
        exact_mod_cast hn'
      · intro hq
        have := q1 (by omega)
        have := b1 (by omega)
        omega
      · intro hq
        by_cases hq2 : (nS (kids[j]'hlt) : Int) ≤ r - n ∧ d + 1 + hS (kids[j]'hlt) ≤ 13
        · have := q1 hq2
          exact b2 (by omega)
        · have := q2 hq2
          exact b2 (by omega)
mutual
theorem count_ev : ∀ s : S24, CntAt s
  | ⟨op, m, kids⟩ => by
    intro d r h1 h2 h3 h4
    have ih := count_evL kids
    by_cases hd : d > 12
    · refine ⟨61, 0, ev_step (fun k => rfl) (ev_pos hd (ev_step (f := fun _ => some (61, 0)) (fun k => rfl) (ev_some _))), by omega, by omega, by omega, by omega, ?_, fun _ => by omega⟩
      intro hq
      simp only [hS] at hq
      omega
    · by_cases hr : r < 1
      · refine ⟨61, 0, ev_step (fun k => rfl) (ev_neg hd (ev_step (fun k => rfl) (ev_pos (decide_eq_true hr) (ev_some _)))), by omega, by omega, by omega, by omega, ?_, fun _ => by omega⟩
        intro hq
        have := nS_pos ⟨op, m, kids⟩
        omega
      · have hts : 0 ≤ (tS op : Int) ∧ (tS op : Int) ≤ 1 := by unfold tS; split <;> simp
        obtain ⟨n', t', hn', a1, a2, a3, a4, b1, b2⟩ := count_l kids d r h1 (by omega) h3 h4 ih kids.length 0 1 (tS op) (by omega) (by omega) (by omega) hts.1 hts.2
        refine ⟨n', t', ev_step (fun k => rfl) (ev_neg hd (ev_step (fun k => rfl) (ev_neg (by rw [decide_eq_false hr]; simp) ?_))), a1, a2, a3, a4, ?_, ?_⟩
        · refine ev_bindv (Timed_some op) (ev_bool (fun c => ?_) (fun c => ?_))
          · have e1 : (tS op : Int) = 1 := by unfold tS; rw [if_pos c]; rfl
            rw [e1] at hn'
            exact ev_step (fun k => rfl) hn'
          · have e1 : (tS op : Int) = 0 := by unfold tS; rw [if_neg (by rw [c]; simp)]; rfl
            rw [e1] at hn'
            exact ev_step (fun k => rfl) hn'
        · intro hq
          simp only [nS, hS, tnS] at hq ⊢
          have := b1 (by rw [List.drop_zero]; omega)
          rw [List.drop_zero] at this
          omega
        · intro hq
          simp only [nS, hS] at hq
          exact b2 (by rw [List.drop_zero]; omega)
theorem count_evL : ∀ l : List S24, ∀ k ∈ l, CntAt k
  | [], k, hk => by cases hk
  | a :: r, k, hk => by
    rcases List.mem_cons.1 hk with e | e
    · rw [e]; exact count_ev a
    · exact count_evL r k e
end
theorem rMay_ev (s : S24) : Ev (fun n => parryref22_May.f n s.f0 s.f1 s.f2) (mayF s) := by
  obtain ⟨n, t, hx, a1, a2, a3, a4, q1, q2⟩ := count_ev s 1 60 (by omega) (by omega) (by omega) (by omega)
  rw [may_eq]
  unfold parryref22_May.f
  refine ev_bind hx ?_
  have h0 : ∀ b : Bool, b = !decide (nS s ≤ 60 ∧ hS s ≤ 12 ∧ tnS s ≤ 8) → Ev (fun n => parryref22_May.j0 n b s.f0 s.f1 s.f2) (if nS s ≤ 60 ∧ hS s ≤ 12 ∧ tnS s ≤ 8 then (if soundS s = true then 0 else 1) else 7) := by
    intro b hb
    refine ev_step (fun k => rfl) (ev_bool (fun h => ?_) (fun h => ?_))
    · rw [h] at hb
      have hq : ¬ (nS s ≤ 60 ∧ hS s ≤ 12 ∧ tnS s ≤ 8) := of_decide_eq_false (bnot hb.symm)
      exact ev_eq (ev_some _) (by rw [if_neg hq])
    · rw [h] at hb
      have hq : nS s ≤ 60 ∧ hS s ≤ 12 ∧ tnS s ≤ 8 := by simpa using hb.symm
      rw [if_pos hq]
      have hso : parryref22_sound.f s.f0 s.f1 s.f2 = some (soundS s) := by cases s; rfl
      exact ev_bindv hso (ev_ite (fun c => by rw [if_pos c]; exact ev_some _) (fun c => by rw [if_neg c]; exact ev_some _))
  refine ev_ite (fun c => h0 _ ?_) (fun c => h0 _ ?_)
  · have hq : ¬ (nS s ≤ 60 ∧ hS s ≤ 12 ∧ tnS s ≤ 8) := fun h => by have := q1 (by omega); simp only at c; omega
    rw [decide_eq_false hq]; rfl
  · have hq : (nS s : Int) ≤ 60 ∧ 1 + (hS s : Int) ≤ 13 := by
      apply Classical.byContradiction
      intro h
      have := q2 h
      simp only at c
      omega
    have := q1 hq
    simp only
    by_cases ht : t > 8
    · rw [decide_eq_true ht, decide_eq_false (by omega)]; rfl
    · rw [decide_eq_false ht, decide_eq_true (by omega)]; rfl
end Go.Proofs.Ytegaicoddnmemaa.X

namespace Go.Proofs.Ytegaicoddnmemaa.X
open Go.RowKit Go.Proofs.YtegaicoddnmemaaW.PrintWords Go.Proofs.YtegaicoddnmemaaW.PrintLast Go.Proofs.YtegaicoddnmemaaW.PrintMore
open Go.Proofs.Ytegaicoddnmemaa.P Go.Proofs.Ytegaicoddnmemaa.Evx
set_option linter.unusedSimpArgs false
set_option linter.unusedVariables false
/-- A row of one's own, made behind w0, of formulas that lie in wk. -/
def TRowB (wk w0 w : World) (v : Value) (l : List S24) : Prop := OwnRow (k24.K wk) 24 3 w w0.heap.size v l
theorem trow_readB {wk w0 w : World} {v : Value} {l : List S24} (h : TRowB wk w0 w v l) (hb : Below wk.heap.size wk w) : ∃ A c, v = .slice A l.length c ∧ l.length ≤ c ∧ Kd.C k24 w A l.length l := by
  obtain ⟨A, c, e, hl, hr⟩ := OwnRow.reads h
  exact ⟨A, c, e, hl, hr.imp_ (Below.refl _ _) (fun _ _ hp => k24.K_below hb hp)⟩
def TmAt (wk w0 : World) (s : S24) : Prop := Below wk.heap.size wk w0 → ∀ (l : List S24) (v : Value) (A : Option Addr) (cp : Nat) (w : World), TRowB wk w0 w v l → Below w0.heap.size w0 w → Kd.C k24 wk A s.f2.length s.f2 → s.f2.length ≤ cp → l.length + tnS s ≤ 1000 →
    Calls Try.prog 44 #[.agg #[.int .i64 s.f0, .int .i64 s.f1, .slice A s.f2.length cp], v] w fun e w' => ∃ v1, e = .returned v1 ∧ TRowB wk w0 w' v1 (l ++ timesS s) ∧ Below w0.heap.size w0 w'
def ownF (s : S24) : List S24 := if timedS s.f0 = true then [s] else []
theorem times_eq (s : S24) : timesS s = ownF s ++ timesL s.f2 := by cases s; rw [timesS]; rfl
theorem info24x : (Try.prog.info? 24).map (fun i => (i.zero, i.size, i.bytes)) = some (some (.agg #[(.int .i64 0), (.int .i64 0), (.slice none 0 0)]), 3, 40) := by kernel_rfl
set_option maxHeartbeats 4000000 in
set_option maxRecDepth 100000 in
theorem times_calls (wk w0 : World) (s : S24) (ih : ∀ k ∈ s.f2, TmAt wk w0 k) : TmAt wk w0 s := by
  intro hBk l v A cp w hT hB hk hc hbd
  have HBK := Aside0.mk hBk
  have huF := Try.underlying24
  have huL := Try.underlying22
  obtain ⟨W1, hW1⟩ : ∃ W1, W1 = w.alloc (.cells #[.int .i64 s.f0, .int .i64 s.f1, .slice A s.f2.length cp] 24) := ⟨_, rfl⟩
  have hB1 : Below w.heap.size w W1 := by rw [hW1]; exact below_alloc (Below.refl _ _) _
  have hbx : W1.heap[w.heap.size]? = some (.cells #[.int .i64 s.f0, .int .i64 s.f1, .slice A s.f2.length cp] 24 (0, 0)) := by rw [hW1]; exact heap_alloc_new w _
  have HBX := Aside0.mk hbx
  have HB1 := Aside0.mk (hB.trans (hB1.mono hB.size))
  have HK := Aside0.mk hk
  have HIH := Aside0.mk ih
  have HT1 := Aside0.mk (show TRowB wk w0 W1 v l from OwnRow.below hT hB1)
  have hvlt : ∀ k, v.ownBlock = some k → k < w.heap.size := by obtain ⟨inner, ho, _⟩ := hT; exact own_lt ho
  have HVL := Aside0.mk hvlt
  have HBD := Aside0.mk hbd
  have HTN := Aside0.mk (tn_eq s)
  have HTE := Aside0.mk (times_eq s)
  have HTD := Aside0.mk (Timed_some s.f0)
  have HKM := Aside0.mk (k24_mk wk s hc hk)
  have x0 : W1.cell? ⟨w.heap.size, 0, none⟩ = some (.int .i64 s.f0) := (blk_cell hbx 0).trans rfl
  have x1 : W1.cell? ⟨w.heap.size, 1, none⟩ = some (.int .i64 s.f1) := (blk_cell hbx 1).trans rfl
  have x2 : W1.cell? ⟨w.heap.size, 2, none⟩ = some (.slice A s.f2.length cp) := (blk_cell hbx 2).trans rfl
  have hlen := Kd.C_max HK.out
  have hlb : l.length ≤ 1000 := by omega
  have HSZ := Aside0.mk hB.size
  have HRES := Aside0.mk (show l ++ timesS s = l ++ ownF s ++ timesL s.f2 from by rw [times_eq, List.append_assoc])
  generalize l ++ timesS s = R at *
  clear hBk hT hB hk hbx hB1 ih hvlt hbd
  go_enter Try.func44, Try.ntmps44
  go_upto_region 1 with fail
  rw [← hW1]
  clear hW1
  go_upto_if 9 with (go_at_call 46; refine (parryref22_Timed.calls _ (timedS s.f0) _ HTD.out).mono ?_; rintro e w1 ⟨rfl, hd0⟩; obtain ⟨m, rfl⟩ := hd0.out)
  go_cut [1] (fun v1 wx => Aside0 (TRowB wk w0 wx v1 (l ++ ownF s)) ∧ Aside0 (Below w0.heap.size w0 wx) ∧ Aside0 (wx.heap[w.heap.size]? = some (.cells #[.int .i64 s.f0, .int .i64 s.f1, .slice A s.f2.length cp] 24 (0, 0))))
  case first =>
    cases htm : timedS s.f0 with
    | false =>
      have HE := Aside0.mk (show ownF s = [] from by unfold ownF; rw [htm]; rfl)
      go_wp2
      go_meet
      exact ⟨⟨by rw [HE.out, List.append_nil]; exact OwnRow.below HT1.out (pw_below_drewN (Below.refl _ _) _)⟩, ⟨pw_below_drewN HB1.out _⟩, HBX⟩
    | true =>
      have HE := Aside0.mk (show ownF s = [s] from by unfold ownF; rw [htm]; rfl)
      obtain ⟨inner, hown, hreps⟩ := OwnRow.below HT1.out (pw_below_drewN (Below.refl _ W1) m)
      have HOWN := Aside0.mk hown
      have HREP := Aside0.mk hreps
      clear hown hreps
      go_wp2_with ((with_reducible refine gate_builtin (b := .append) (xs := #[.tmp 10, .tmp 12]) rfl ?_); at_builtin; refine print_append_cells (w0 := w0) w0.heap.size rfl (.tmp 10) (.tmp 12) 22 24 _ 3 40 rfl huL info24x rfl (by decide) (by decide) v l.length inner [.int .i64 s.f0, .int .i64 s.f1, .slice A s.f2.length cp] rfl rfl rfl (by intro u hu; simp at hu; rcases hu with rfl | rfl | rfl <;> rfl) HOWN.out (pw_below_drewN HB1.out _) (Nat.le_trans HSZ.out (by have := blk_lt HBX.out; show w.heap.size ≤ W1.heap.size; omega)) (by omega) ?_; intro v1 w1 hown1 hb1 hg1 hat1; have HO1 := Aside0.mk hown1; have HB2 := Aside0.mk hb1; have HG1 := Aside0.mk hg1; clear hown1 hb1 hg1 hat1)
      go_meet
      refine ⟨⟨?_⟩, HB2, ⟨blk_grown (blk_drewN HBX.out m) HG1.out (fun e => Nat.lt_irrefl _ (HVL.out _ e.symm))⟩⟩
      rw [HE.out]
      exact ⟨_, by rw [List.length_append]; exact HO1.out, HREP.out.snoc HKM.out rfl⟩
  case rest =>
    obtain ⟨HTa, HBa, HBXa⟩ := hcut
    have z2 : wc.cell? ⟨w.heap.size, 2, none⟩ = some (.slice A s.f2.length cp) := (blk_cell HBXa.out 2).trans rfl
    have hlo : (l ++ ownF s).length + tnL s.f2 ≤ 1000 := by
      have h1 := HBD.out
      have h2 := HTN.out
      have h3 : (ownF s).length = tS s.f0 := by unfold ownF tS; split <;> rfl
      rw [List.length_append]
      omega
    have HLO := Aside0.mk hlo
    generalize l ++ ownF s = L1 at *
    clear hlo x0 x1 x2
    go_wp2
    go_loopg [17, 1] s.f2.length (fun kq v17 v1 w' => ∃ (j : Nat) (l2 : List S24), j + kq = s.f2.length ∧ v17 = .int .i64 j ∧ Aside0 (l2 ++ timesL (s.f2.drop j) = L1 ++ timesL s.f2) ∧ Aside0 (TRowB wk w0 w' v1 l2) ∧ Aside0 (Below w0.heap.size w0 w'))
    case atStart => exact ⟨0, L1, by omega, rfl, ⟨rfl⟩, HTa, HBa⟩
    case round =>
      obtain ⟨j, l2, hj, rfl, HL2, HT2, HB2⟩ := hrel
      have HJ := Aside0.mk hj
      clear hj
      by_cases hlt : j < s.f2.length
      · obtain ⟨ad, A3, c3, e0, hx0, hx1, hx2, hl3, hk3⟩ := kid_at HK.out (HBK.out.trans (HB2.out.mono HBK.out.size)) j hlt hlt
        cases e0
        have hd := List.drop_eq_getElem_cons hlt
        have hL3 : (l2 ++ timesS (s.f2[j]'hlt)) ++ timesL (s.f2.drop (j + 1)) = L1 ++ timesL s.f2 := by rw [← HL2.out, hd, timesL, List.append_assoc]
        have hbd3 : l2.length + tnS (s.f2[j]'hlt) ≤ 1000 := by
          have h1 := congrArg List.length hL3
          simp only [List.length_append, len_times, len_timesL] at h1
          have h2 := HLO.out
          omega
        have HL3 := Aside0.mk hL3
        have HCALL := Aside0.mk (fun W u (h : TRowB wk w0 W u l2) (hb : Below w0.heap.size w0 W) => HIH.out (s.f2[j]'hlt) (List.getElem_mem hlt) HBK.out l2 u A3 c3 W h hb hk3 hl3 hbd3)
        clear hd hL3 hbd3 hk3 hl3
        go_wp2_with (go_at_call 44; refine (HCALL.out _ _ (OwnRow.below HT2.out (below_alloc (Below.refl _ _) _)) (below_alloc HB2.out _)).mono ?_; rintro e w2 ⟨v2, rfl, hT, hB⟩; have HT3 := Aside0.mk hT; have HB3 := Aside0.mk hB; clear hT hB)
        go_roundg (gk - 1)
        case measure => have := HJ.out; omega
        case rel => exact ⟨j + 1, l2 ++ timesS (s.f2[j]'hlt), by have := HJ.out; omega, by go_num, HL3, HT3, HB3⟩
      · have HX := Aside0.mk (show l2 = R from by have := HL2.out; rw [List.drop_eq_nil_of_le (by omega), timesL, List.append_nil] at this; rw [this, HRES.out])
        go_wp2
        go_ret
        exact ⟨_, rfl, by rw [← HX.out]; exact HT2.out, HB2.out⟩
mutual
theorem tm_all (wk w0 : World) : ∀ s : S24, TmAt wk w0 s
  | ⟨op, m, kids⟩ => times_calls wk w0 ⟨op, m, kids⟩ (tm_kids wk w0 kids)
theorem tm_kids (wk w0 : World) : ∀ (l : List S24) (k : S24), k ∈ l → TmAt wk w0 k
  | [], k, hk => by simp at hk
  | a :: r, k, hk => by
    rcases List.mem_cons.1 hk with h | h
    · rw [h]
      exact tm_all wk w0 a
    · exact tm_kids wk w0 r k h
end
set_option maxHeartbeats 1600000 in
theorem rTimes_callsB (wk : World) (s : S24) (A : Option Addr) (cp : Nat) (w : World) (hBk : Below wk.heap.size wk w) (hrk : Kd.C k24 wk A s.f2.length s.f2) (hc : s.f2.length ≤ cp) :
    Calls Try.prog 30 #[.agg #[.int .i64 s.f0, .int .i64 s.f1, .slice A s.f2.length cp]] w fun e w' => ∃ v1, e = .returned v1 ∧ TRowB wk w w' v1 (TimesS s) ∧ Below w.heap.size w w' := by
  have hr : Kd.C k24 w A s.f2.length s.f2 := Kd.C_below hrk hBk
  have HBK := Aside0.mk hBk
  have HRK := Aside0.mk hrk
  clear hBk hrk
  have huF := Try.underlying24
  obtain ⟨W1, hW1⟩ : ∃ W1, W1 = w.alloc (.cells #[.int .i64 s.f0, .int .i64 s.f1, .slice A s.f2.length cp] 24) := ⟨_, rfl⟩
  have hB1 : Below w.heap.size w W1 := by rw [hW1]; exact below_alloc (Below.refl _ _) _
  have hbx : W1.heap[w.heap.size]? = some (.cells #[.int .i64 s.f0, .int .i64 s.f1, .slice A s.f2.length cp] 24 (0, 0)) := by rw [hW1]; exact heap_alloc_new w _
  have HBX := Aside0.mk hbx
  have HB1 := Aside0.mk hB1
  have HR := Aside0.mk hr
  have x0 : W1.cell? ⟨w.heap.size, 0, none⟩ = some (.int .i64 s.f0) := (blk_cell hbx 0).trans rfl
  have x1 : W1.cell? ⟨w.heap.size, 1, none⟩ = some (.int .i64 s.f1) := (blk_cell hbx 1).trans rfl
  have x2 : W1.cell? ⟨w.heap.size, 2, none⟩ = some (.slice A s.f2.length cp) := (blk_cell hbx 2).trans rfl
  obtain ⟨k1, hk1⟩ := (rMay_ev s).rounds
  have HK1 := Aside0.mk hk1
  have HM := Aside0.mk (@may_zero s)
  have HTS := Aside0.mk (show TimesS s = if mayF s = 0 then timesS s else [] from rfl)
  generalize TimesS s = R at *
  generalize mayF s = mv at *
  clear hbx hB1 hr hk1
  by_cases hm : mv = 0
  · have hX : R = [] ++ timesS s := by rw [HTS.out, if_pos hm]; rfl
    have HX := Aside0.mk hX
    have HZ := Aside0.mk (HM.out hm)
    have em : (mv != 0) = false := by rw [hm]; rfl
    clear hX hm
    go_enter Try.func30, Try.ntmps30
    go_upto_region 1 with fail
    rw [← hW1]
    clear hW1
    go_wp2_with (first | (go_at_call 15; refine (parryref22_May.calls k1 s.f0 s.f1 A cp s.f2 mv _ (Kd.C_below HR.out HB1.out) hc HK1.out).mono ?_; rintro e w1 ⟨rfl, hB⟩; have HB := Aside0.mk (HB1.out.trans (hB.mono HB1.out.size)); have HBX1 := Aside0.mk ((hB.block _ (blk_lt HBX.out)).trans HBX.out); have y0 := (blk_cell HBX1.out 0).trans rfl; have y1 := (blk_cell HBX1.out 1).trans rfl; have y2 := (blk_cell HBX1.out 2).trans rfl; clear hB) | (go_at_call 44; refine (tm_all wk w s HBK.out [] (.slice none 0 0) A cp _ (OwnRow.none_ _ _ _ _ _) HB.out HRK.out hc (by have := HZ.out; simp; omega)).mono ?_; rintro e w2 ⟨v2, rfl, hT, hB2⟩; have HT := Aside0.mk hT; have HB2 := Aside0.mk hB2; clear hT hB2))
    go_ret
    exact ⟨_, rfl, by rw [HX.out]; exact HT.out, HB2.out⟩
  · have hX : R = [] := by rw [HTS.out, if_neg hm]
    have HX := Aside0.mk hX
    have em : (mv != 0) = true := by simpa using hm
    clear hX hm
    go_enter Try.func30, Try.ntmps30
    go_upto_region 1 with fail
    rw [← hW1]
    clear hW1
    go_wp2_with (go_at_call 15; refine (parryref22_May.calls k1 s.f0 s.f1 A cp s.f2 mv _ (Kd.C_below HR.out HB1.out) hc HK1.out).mono ?_; rintro e w1 ⟨rfl, hB⟩; have HB := Aside0.mk (HB1.out.trans (hB.mono HB1.out.size)); clear hB)
    go_ret
    exact ⟨_, rfl, by rw [HX.out]; exact OwnRow.none_ _ _ _ _ _, HB.out⟩
end Go.Proofs.Ytegaicoddnmemaa.X

namespace Go.Proofs.Ytegaicoddnmemaa.X
open Go.RowKit Go.Proofs.YtegaicoddnmemaaW.PrintWords Go.Proofs.YtegaicoddnmemaaW.PrintLast Go.Proofs.YtegaicoddnmemaaW.PrintMore
open Go.Proofs.Ytegaicoddnmemaa.P Go.Proofs.Ytegaicoddnmemaa.Evx
set_option linter.unusedSimpArgs false
set_option linter.unusedVariables false
theorem rmayWord_some (st lp : List Int) : parryref22_MayWord.f st lp = some (wordS st lp) := by
  unfold parryref22_MayWord.f wordS
  split
  · split
    · congr 1
      rw [decide_eq_decide]
      omega
    · rw [decide_eq_false]
      omega
  · rw [decide_eq_false]
    omega
set_option maxHeartbeats 8000000 in
set_option maxRecDepth 100000 in
theorem rRun_calls (s : S24) (st lp : List Int) (A : Option Addr) (cp : Nat) (A1 A2 : Option Addr) (c1 c2 : Nat) (w : World) (hr : Kd.C k24 w A s.f2.length s.f2) (hc : s.f2.length ≤ cp) (hr1 : Kd.C (Kd.int .u32) w A1 st.length st) (hc1 : st.length ≤ c1) (hr2 : Kd.C (Kd.int .u32) w A2 lp.length lp) (hc2 : lp.length ≤ c2) :
    Calls Try.prog 12 #[.agg #[.int .i64 s.f0, .int .i64 s.f1, .slice A s.f2.length cp], .agg #[.slice A1 st.length c1, .slice A2 lp.length c2]] w fun e w' => ∃ v0_ : Value, e = .returned (.tuple #[v0_, .bool (runOk s st lp)]) ∧ Kd.R (Kd.int .i64) 3 w' w.heap.size (fun _ => True) v0_ (runS s st lp) ∧ Below w.heap.size w w' := by
  have huF := Try.underlying24
  have huL := Try.underlying22
  have huW := Try.underlying27
  have hus := Try.underlying45
  have hui := Try.underlying31
  have huu := Try.underlying25
  obtain ⟨W2, hW2⟩ : ∃ W2, W2 = (w.alloc (.cells #[.int .i64 s.f0, .int .i64 s.f1, .slice A s.f2.length cp] 24)).alloc (.cells #[.slice A1 st.length c1, .slice A2 lp.length c2] 27) := ⟨_, rfl⟩
  have hB2 : Below w.heap.size w W2 := by rw [hW2]; exact below_alloc (below_alloc (Below.refl _ _) _) _
  have hb1 : W2.heap[w.heap.size]? = some (.cells #[.int .i64 s.f0, .int .i64 s.f1, .slice A s.f2.length cp] 24 (0, 0)) := by rw [hW2]; exact blk_alloc (heap_alloc_new w _) _
  have hb2 : W2.heap[w.heap.size + 1]? = some (.cells #[.slice A1 st.length c1, .slice A2 lp.length c2] 27 (0, 0)) := by
    rw [hW2]
    have := heap_alloc_new (w.alloc (.cells #[.int .i64 s.f0, .int .i64 s.f1, .slice A s.f2.length cp] 24)) (.cells #[.slice A1 st.length c1, .slice A2 lp.length c2] 27)
    simpa using this
  obtain ⟨k1, hk1⟩ := (rMay_ev s).rounds
  have HK1 := Aside0.mk hk1
  have HRR := Aside0.mk hr
  have x0 : W2.cell? ⟨w.heap.size, 0, none⟩ = some (.int .i64 s.f0) := (blk_cell hb1 0).trans rfl
  have x1 : W2.cell? ⟨w.heap.size, 1, none⟩ = some (.int .i64 s.f1) := (blk_cell hb1 1).trans rfl
  have x2 : W2.cell? ⟨w.heap.size, 2, none⟩ = some (.slice A s.f2.length cp) := (blk_cell hb1 2).trans rfl
  have HB2 := Aside0.mk hB2
  have HBX1 := Aside0.mk hb1
  have HBX2 := Aside0.mk hb2
  have HCF := Aside0.mk (Kd.C_below hr hB2)
  have HC1 := Aside0.mk (Kd.C_below hr1 hB2)
  have HC2 := Aside0.mk (Kd.C_below hr2 hB2)
  have HRF := Aside0.mk (show runS s st lp = if mayF s = 0 ∧ wordS st lp = true then runL st lp (timesS s) 0 (List.replicate (st.length + lp.length) 0) else [] from rfl)
  have HRO := Aside0.mk (show runOk s st lp = (decide (mayF s = 0) && wordS st lp) from rfl)
  have HSUB := Aside0.mk (fun (hm : mayF s = 0) (t : S24) (ht : t ∈ timesS s) => (times_sub s t ht).may hm)
  have HTS := Aside0.mk (show TimesS s = if mayF s = 0 then timesS s else [] from rfl)
  have HTC := Aside0.mk (fun W (h : Below w.heap.size w W) => rTimes_callsB w s A cp W h hr hc)
  have HTN := Aside0.mk (fun (h : mayF s = 0) => show (timesS s).length ≤ 8 by rw [len_times]; exact (may_zero h).2.2.1)
  clear hb1 hb2 hr hr1 hr2 hB2 hk1
  generalize mayF s = mv at *
  generalize hR : runS s st lp = R at *
  generalize runOk s st lp = Ok at *
  clear hR
  by_cases hm : mv = 0
  · have em : (mv != 0) = false := by rw [hm]; rfl
    cases hw : wordS st lp with
    | false =>
      have HX := Aside0.mk (show R = [] from by rw [HRF.out, hw, if_neg (by simp)])
      have HXO := Aside0.mk (show Ok = false from by rw [HRO.out, hw, Bool.and_false])
      have HWD := Aside0.mk ((rmayWord_some st lp).trans (by rw [hw]))
      clear hw
      go_enter Try.func12, Try.ntmps12
      go_upto_region 1 with fail
      rw [← hW2]
      clear hW2
      go_wp2_with (first | (go_at_call 15; refine (parryref22_May.calls k1 s.f0 s.f1 A cp s.f2 mv _ HCF.out hc HK1.out).mono ?_; rintro e w3 ⟨rfl, hB3⟩; have HB3 := Aside0.mk hB3; have HBX3 := Aside0.mk ((hB3.block _ (blk_lt HBX2.out)).trans HBX2.out); have y0 := (blk_cell HBX3.out 0).trans rfl; have y1 := (blk_cell HBX3.out 1).trans rfl; clear hB3) | (go_at_call 29; refine (parryref22_MayWord.calls A1 c1 st A2 c2 lp false _ (Kd.C_below HC1.out HB3.out) hc1 (Kd.C_below HC2.out HB3.out) hc2 HWD.out).mono ?_; rintro e w4 ⟨rfl, hB4⟩; have HB4 := Aside0.mk hB4; clear hB4))
      go_ret2
      exact ⟨_, by rw [HXO.out]; rfl, by rw [HX.out]; exact Kd.R_nil _ _ _ _ _, (HB2.out.trans (HB3.out.mono HB2.out.size)).trans (HB4.out.mono (Nat.le_trans HB2.out.size HB3.out.size))⟩
    | true =>
      have hwp : st.length ≤ 3000 ∧ 1 ≤ lp.length ∧ lp.length ≤ 27000 := of_decide_eq_true hw
      have HWT := Aside0.mk hw
      have HX := Aside0.mk (show R = runL st lp (timesS s) 0 (List.replicate (st.length + lp.length) 0) from by rw [HRF.out, hw, if_pos ⟨hm, rfl⟩])
      have HXO := Aside0.mk (show Ok = true from by rw [HRO.out, hw, decide_eq_true hm]; rfl)
      have HWD := Aside0.mk ((rmayWord_some st lp).trans (by rw [hw]))
      have HSB := Aside0.mk (HSUB.out hm)
      have hT : TimesS s = timesS s := by rw [HTS.out, if_pos hm]
      rw [hT] at HTC
      have HTL := Aside0.mk (HTN.out hm)
      clear HTS hT HTN
      generalize timesS s = T at *
      obtain ⟨n, hn⟩ : ∃ n, n = st.length + lp.length := ⟨_, rfl⟩
      have HN := Aside0.mk hn
      have hmk := make_ints n (by omega)
      have hnb : n ≤ 30000 := by omega
      have hn0 : 0 < n := by omega
      have hns : st.length < n := by omega
      clear hw hn
      go_enter Try.func12, Try.ntmps12
      go_upto_region 1 with fail
      rw [← hW2]
      clear hW2
      go_upto_region 3 with (first | (go_at_call 15; refine (parryref22_May.calls k1 s.f0 s.f1 A cp s.f2 mv _ HCF.out hc HK1.out).mono ?_; rintro e w3 ⟨rfl, hB3⟩; have HB3 := Aside0.mk hB3; have HBX3 := Aside0.mk ((hB3.block _ (blk_lt HBX2.out)).trans HBX2.out); have HBY3 := Aside0.mk ((hB3.block _ (blk_lt HBX1.out)).trans HBX1.out); have y0 := (blk_cell HBX3.out 0).trans rfl; have y1 := (blk_cell HBX3.out 1).trans rfl; clear hB3) | (go_at_call 29; refine (parryref22_MayWord.calls A1 c1 st A2 c2 lp true _ (Kd.C_below HC1.out HB3.out) hc1 (Kd.C_below HC2.out HB3.out) hc2 HWD.out).mono ?_; rintro e w4 ⟨rfl, hB4⟩; have HB4 := Aside0.mk (HB3.out.trans (hB4.mono HB3.out.size)); have HBX4 := Aside0.mk ((hB4.block _ (blk_lt HBX3.out)).trans HBX3.out); have HBY4 := Aside0.mk ((hB4.block _ (blk_lt HBY3.out)).trans HBY3.out); clear hB4))
      have z0 : w4.cell? ⟨w.heap.size + 1, 0, none⟩ = some (.slice A1 st.length c1) := (blk_cell HBX4.out 0).trans rfl
      have z1 : w4.cell? ⟨w.heap.size + 1, 1, none⟩ = some (.slice A2 lp.length c2) := (blk_cell HBX4.out 1).trans rfl
      go_cut [6] (fun v6 wx => v6 = .int .i64 (n : Int) ∧ wx = w4)
      case first =>
        go_wp2
        go_meet
        exact ⟨by rw [HN.out]; rfl, rfl⟩
      case rest =>
        obtain ⟨rfl, hwc⟩ := hcut
        rw [hwc]
        clear hwc wc z0 z1
        go_upto_region 5 with fail
        obtain ⟨g, hg⟩ : ∃ g, g = w4.heap.size := ⟨_, rfl⟩
        obtain ⟨W5, hW5⟩ : ∃ W5, W5 = w4.alloc (.cells (intsOf (List.replicate n 0)).toArray 3) := ⟨_, rfl⟩
        have hB5 : Below w4.heap.size w4 W5 := by rw [hW5]; exact below_alloc (Below.refl _ _) _
        have hG5 : IRow W5 g (List.replicate n 0) := by rw [hW5, hg]; exact heap_alloc_new w4 _
        have hg2 : W2.heap.size ≤ g := by rw [hg]; exact HB4.out.size
        rw [← hW5, ← hg]
        have HB5 := Aside0.mk (HB4.out.trans (hB5.mono HB4.out.size))
        have HBX5 := Aside0.mk ((hB5.block _ (blk_lt HBX4.out)).trans HBX4.out)
        have HBY5 := Aside0.mk ((hB5.block _ (blk_lt HBY4.out)).trans HBY4.out)
        have HG5 := Aside0.mk hG5
        have HG2 := Aside0.mk hg2
        have z0 : W5.cell? ⟨w.heap.size, 0, none⟩ = some (.int .i64 s.f0) := (blk_cell HBY5.out 0).trans rfl
        have z1 : W5.cell? ⟨w.heap.size, 1, none⟩ = some (.int .i64 s.f1) := (blk_cell HBY5.out 1).trans rfl
        have z2 : W5.cell? ⟨w.heap.size, 2, none⟩ = some (.slice A s.f2.length cp) := (blk_cell HBY5.out 2).trans rfl
        have HBW5 := Aside0.mk (HB2.out.trans (HB5.out.mono HB2.out.size))
        clear hW5 hg hB5 hG5 hg2 hmk
        go_wp2_with (go_at_call 30; refine (HTC.out W5 HBW5.out).mono ?_; rintro e w6 ⟨v6, rfl, hT6, hB6⟩; obtain ⟨A6, c6, e6, hl6, hC6⟩ := trow_readB hT6 (HBW5.out.trans (hB6.mono HBW5.out.size)); subst e6; have HT6 := Aside0.mk hT6; have HB6 := Aside0.mk (HB5.out.trans (hB6.mono HB5.out.size)); have HG6 := Aside0.mk (show IRow w6 g (List.replicate n 0) from (hB6.block _ (blk_lt HG5.out)).trans HG5.out); clear hT6 hB6 hC6)
        go_loopg [33] T.length (fun kq v33 w' => ∃ (k : Nat) (out : List Int), k + kq = T.length ∧ v33 = .int .i64 k ∧ out.length = n ∧ Aside0 (runL st lp (T.drop k) k out = R) ∧ Aside0 (IRow w' g out) ∧ Aside0 (Below W2.heap.size W2 w') ∧ Aside0 (TRowB w W5 w' (.slice A6 T.length c6) T))
        case atStart => exact ⟨0, List.replicate n 0, by omega, rfl, by simp, ⟨by rw [HX.out, HN.out]; rfl⟩, HG6, HB6, HT6⟩
        case round =>
          obtain ⟨k, out, hk, rfl, hol, HRL, HGo, HBo, HTo⟩ := hrel
          have HK := Aside0.mk hk
          clear hk
          by_cases hlt : k < T.length
          · obtain ⟨A7, c7, e7, hl7, hC7⟩ := trow_readB HTo.out (HB2.out.trans (HBo.out.mono HB2.out.size))
            injection e7 with e7 e8 e9
            subst e7 e9
            obtain ⟨ad, A3, c3, e0, hx0, hx1, hx2, hl3, hk3⟩ := kid_at hC7 (Below.refl _ _) k hlt hlt
            cases e0
            have hnw := World.new_ne wr _ hx0
            have hbl := World.block_lt_of_cell? _ _ hx0
            have HK3 := Aside0.mk hk3
            have HL3 := Aside0.mk hl3
            have HTM := Aside0.mk (HSB.out _ (List.getElem_mem hlt))
            have HRS := Aside0.mk (show runL st lp (T.drop (k + 1)) (k + 1) (runRow (rowF (headT (T[k]'hlt)) st lp) n st.length k out) = R from by rw [← HRL.out, List.drop_eq_getElem_cons hlt, runL, HN.out])
            generalize T[k]'hlt = t at *
            clear hk3 hl3 hC7 hl7
            have hk8 : k < 8 := by have := HTL.out; omega
            have HSND := Aside0.mk (may_sound HTM.out)
            have HHM := Aside0.mk (head_may HTM.out)
            obtain ⟨W7, hW7⟩ : ∃ W7, W7 = wr.alloc (.cells #[.int .i64 t.f0, .int .i64 t.f1, .slice A3 t.f2.length c3] 24) := ⟨_, rfl⟩
            have hB7 : Below wr.heap.size wr W7 := by rw [hW7]; exact below_alloc (Below.refl _ _) _
            have hX7 : W7.heap[wr.heap.size]? = some (.cells #[.int .i64 t.f0, .int .i64 t.f1, .slice A3 t.f2.length c3] 24 (0, 0)) := by rw [hW7]; exact heap_alloc_new wr _
            have HB7 := Aside0.mk (HBo.out.trans (hB7.mono HBo.out.size))
            have HBXl := Aside0.mk ((HB7.out.block _ (blk_lt HBX2.out)).trans HBX2.out)
            have HX7 := Aside0.mk hX7
            have HG7 := Aside0.mk (show IRow W7 g out from (hB7.block _ (blk_lt HGo.out)).trans HGo.out)
            have HT7 := Aside0.mk (show TRowB w W5 W7 _ T from OwnRow.below HTo.out hB7)
            have HK7 := Aside0.mk (Kd.C_below HK3.out hB7)
            have HROW := Aside0.mk (fun (h : S24) W (hB : Below W7.heap.size W7 W) A4 c4 => fun hk4 hc4 hs4 => rref_all st lp h n A4 c4 A1 A2 c1 c2 W HN.out hns (by omega) (Kd.C_below HC1.out (HB7.out.trans (hB.mono HB7.out.size))) hc1 (Kd.C_below HC2.out (HB7.out.trans (hB.mono HB7.out.size))) hc2 hk4 hc4 hs4)
            have a0 : W7.cell? ⟨wr.heap.size, 0, none⟩ = some (.int .i64 t.f0) := (blk_cell hX7 0).trans rfl
            have a1 : W7.cell? ⟨wr.heap.size, 1, none⟩ = some (.int .i64 t.f1) := (blk_cell hX7 1).trans rfl
            have a2 : W7.cell? ⟨wr.heap.size, 2, none⟩ = some (.slice A3 t.f2.length c3) := (blk_cell hX7 2).trans rfl
            have b0 : W7.cell? ⟨w.heap.size + 1, 0, none⟩ = some (.slice A1 st.length c1) := (blk_cell HBXl.out 0).trans rfl
            have b1 : W7.cell? ⟨w.heap.size + 1, 1, none⟩ = some (.slice A2 lp.length c2) := (blk_cell HBXl.out 1).trans rfl
            have hwk : IntKind.u64.wrap (k : Int) = (k : Int) := u64_id (by omega) (by omega)
            go_upto_region 8 with fail
            rw [← hW7]
            clear hW7 hB7 hX7 hx0 hx1 hx2 hnw hbl
            go_upto_if 43 with (go_at_call 31; refine (HROW.out t W7 (Below.refl _ _) A3 c3 HK7.out HL3.out HSND.out).mono ?_; rintro e w8 ⟨g8, rfl, hg8, hG8, hB8⟩; have HB8 := Aside0.mk hB8; have HR8 := Aside0.mk hG8; have HG8S := Aside0.mk hg8; have HX8 := Aside0.mk ((hB8.block _ (blk_lt HX7.out)).trans HX7.out); have HBXm := Aside0.mk ((hB8.block _ (blk_lt HBXl.out)).trans HBXl.out); have HG8 := Aside0.mk (show IRow w8 g out from (hB8.block _ (blk_lt HG7.out)).trans HG7.out); have HT8 := Aside0.mk (show TRowB w W5 w8 _ T from OwnRow.below HT7.out hB8); have HB82 := Aside0.mk (HB7.out.trans (hB8.mono HB7.out.size)); have a0 := (blk_cell HX8.out 0).trans rfl; have a2 := (blk_cell HX8.out 2).trans rfl; have b0 := (blk_cell HBXm.out 0).trans rfl; have b1 := (blk_cell HBXm.out 1).trans rfl; clear hB8 hG8 hg8)
            go_cut [10] (fun v10 wx => ∃ gr, v10 = .slice (some ⟨gr, 0, none⟩) n n ∧ Aside0 (BRow wx gr (rowS (st ++ lp) st.length (headT t))) ∧ Aside0 (g < gr) ∧ Aside0 (IRow wx g out) ∧ Aside0 (Below W2.heap.size W2 wx) ∧ Aside0 (TRowB w W5 wx (.slice (some ad) T.length c6) T))
            case first =>
              by_cases h6 : t.f0 = 6
              · have h6b : (t.f0 == 6) = true := beq_iff_eq.2 h6
                have hl0 := next6 HTM.out h6
                have hK8 := Kd.C_below HK7.out HB8.out
                obtain ⟨ad2, A5, c5, e0, hy0, hy1, hy2, hl5, hk5⟩ := kid_at hK8 (Below.refl _ _) 0 hl0 hl0
                subst e0
                have e0 : ad2.add (0 * 3) = ad2 := by cases ad2; simp [Addr.add]
                rw [e0] at hy0 hy1 hy2
                have hh : headT t = t.f2[0]'hl0 := by unfold headT; rw [if_pos h6, List.getD_eq_getElem?_getD, List.getElem?_eq_getElem hl0]; rfl
                have HSH := Aside0.mk (show soundS (t.f2[0]'hl0) = true from by rw [← hh]; exact may_sound HHM.out)
                have HH := Aside0.mk hh
                have HK5 := Aside0.mk hk5
                have HL5 := Aside0.mk hl5
                have HGG := Aside0.mk (show g < w8.heap.size from blk_lt HG8.out)
                clear hk5 hl5 hh h6 hK8
                go_upto_region 10 with fail
                have HCALL := Aside0.mk (HROW.out (t.f2[0]'hl0) w8.drew (below_drew1 HB8.out) A5 c5 (Kd.C_drew HK5.out) HL5.out HSH.out)
                go_region_with (go_at_call 31; refine HCALL.out.mono ?_; rintro e w9 ⟨g9, rfl, hg9, hG9, hB9⟩; have HB9 := Aside0.mk ((below_drew1 (Below.refl _ _)).trans hB9); have HR9 := Aside0.mk hG9; have HG9S := Aside0.mk (show w8.heap.size ≤ g9 from hg9); clear hB9 hG9 hg9)
                all_goals (
                  go_wp2_with fail
                  go_meet
                  exact ⟨g9, rfl, ⟨by rw [HH.out]; exact HR9.out⟩, ⟨Nat.lt_of_lt_of_le HGG.out HG9S.out⟩, ⟨(HB9.out.block _ (blk_lt HG8.out)).trans HG8.out⟩, ⟨HB82.out.trans (HB9.out.mono HB82.out.size)⟩, ⟨OwnRow.below HT8.out HB9.out⟩⟩)
              · have h6b : (t.f0 == 6) = false := beq_eq_false_iff_ne.2 h6
                have hh : headT t = t := by unfold headT; rw [if_neg h6]
                have HH := Aside0.mk hh
                clear hh
                go_wp2
                go_meet
                exact ⟨g8, rfl, ⟨by rw [HH.out]; exact HR8.out⟩, ⟨Nat.lt_of_lt_of_le (blk_lt HG7.out) HG8S.out⟩, HG8, HB82, HT8⟩
            case rest =>
              obtain ⟨gr, rfl, HRr, HGr, HGc, HBc, HTc⟩ := hcut
              have hrf : rowF (headT t) st lp = rowS (st ++ lp) st.length (headT t) := by unfold rowF; rw [if_pos ⟨HHM.out, HWT.out⟩]
              rw [hrf] at HRS
              have HRLN := Aside0.mk (show (rowS (st ++ lp) st.length (headT t)).length = n from by rw [len_row, List.length_append, HN.out])
              clear hrf
              generalize rowS (st ++ lp) st.length (headT t) = row at *
              go_wp2
              go_loopg [52] n (fun kq v52 w' => ∃ (i : Nat), i + kq = n ∧ v52 = .int .i64 i ∧ Aside0 (IRow w' g (half row n st.length k out i)) ∧ Aside0 (BRow w' gr row) ∧ Aside0 (Below W2.heap.size W2 w') ∧ Aside0 (TRowB w W5 w' (.slice (some ad) T.length c6) T))
              case atStart => exact ⟨0, by omega, rfl, ⟨by simpa [half] using HGc.out⟩, HRr, HBc, HTc⟩
              case round =>
                obtain ⟨i, hi, rfl, HGi, HRi, HBi, HTi⟩ := hrel
                have HI := Aside0.mk hi
                clear hi
                by_cases hin : i < n
                · have hq : nextS n st.length i < n := nextS_lt hns
                  have hx := brow_cell HRi.out (i := nextS n st.length i) (by rw [HRLN.out]; exact hq)
                  have hbl := Aside0.mk ((HBi.out.block _ (blk_lt HBX2.out)).trans HBX2.out)
                  have l0 : wr.cell? ⟨w.heap.size + 1, 0, none⟩ = some (.slice A1 st.length c1) := (blk_cell hbl.out 0).trans rfl
                  have hlen : (half row n st.length k out i).length = n := half_len hol (by omega)
                  have hcx := irow_cell HGi.out (i := i) (by omega)
                  have hfx := blk_frozen HGi.out i
                  have HGET := Aside0.mk (half_get (row := row) (b := st.length) (k := k) hol hin)
                  rw [HGET.out] at hcx
                  have HSTEP := Aside0.mk (half_step (row := row) (b := st.length) (k := k) hol hin)
                  have HSAME := Aside0.mk (half_same (row := row) (b := st.length) (k := k) hol hin)
                  have HAT := Aside0.mk (show runAt row n st.length k out i = if row.getD (nextS n st.length i) false = true then orBit (out.getD i 0) k else out.getD i 0 from rfl)
                  have hnx : nextS n st.length i = if i + 1 < n then i + 1 else st.length := rfl
                  generalize row.getD (nextS n st.length i) false = x at *
                  generalize out.getD i 0 = o at *
                  clear hlen
                  obtain ⟨q, hqq⟩ : ∃ q, q = nextS n st.length i := ⟨_, rfl⟩
                  rw [← hqq] at hx hq hnx
                  have HNX := Aside0.mk hnx
                  clear hnx hqq
                  go_upto_if 59 with fail
                  go_cut [12] (fun v12 wx => v12 = .int .i64 ((q : Nat) : Int) ∧ wx = wr)
                  case first =>
                    by_cases hie : i + 1 = n
                    · have HQ := Aside0.mk (show q = st.length from by rw [HNX.out, if_neg (by omega)])
                      have hib : (((i : Int) + 1) == (n : Int)) = true := beq_iff_eq.2 (by omega)
                      clear hie
                      go_wp2
                      go_meet
                      exact ⟨by first | (rw [HQ.out]; done) | (rw [HQ.out]; rfl), rfl⟩
                    · have HQ := Aside0.mk (show q = i + 1 from by rw [HNX.out, if_pos (by omega)])
                      have hib : (((i : Int) + 1) == (n : Int)) = false := beq_eq_false_iff_ne.2 (by omega)
                      clear hie
                      go_wp2
                      go_meet
                      exact ⟨by first | (rw [HQ.out]; done) | (rw [HQ.out]; rfl), rfl⟩
                  case rest =>
                    obtain ⟨rfl, hwc⟩ := hcut
                    rw [hwc]
                    clear hwc wc
                    cases x with
                    | false =>
                      have HSM := Aside0.mk (HSAME.out rfl)
                      go_wp2
                      go_roundg (n - (i + 1))
                      case measure => have := HI.out; omega
                      case rel => exact ⟨i + 1, by omega, by go_num, ⟨by rw [← HSM.out]; exact HGi.out⟩, HRi, HBi, HTi⟩
                    | true =>
                      go_wp2
                      go_roundg (n - (i + 1))
                      case measure => have := HI.out; omega
                      case rel => exact ⟨i + 1, by omega, by go_num, ⟨by rw [← HSTEP.out, HAT.out]; exact irow_set HGi.out i (orBit o k)⟩, ⟨blk_far HRi.out (show gr ≠ g by have := HGr.out; omega) _⟩, ⟨HBi.out.setCell HG2.out _⟩, ⟨OwnRow.set_ HTi.out HGi.out (by decide) i _⟩⟩
                · have hin2 : i = n := by have := HI.out; omega
                  have hhalf : half row n st.length k out i = runRow row n st.length k out := by unfold half; rw [hin2, List.take_of_length_le (by rw [len_runRow]; omega), List.drop_eq_nil_of_le (by omega), List.append_nil]
                  have HHALF := Aside0.mk hhalf
                  have HIN2 := Aside0.mk hin2
                  clear hhalf hin2
                  go_wp2
                  go_roundg (T.length - (k + 1))
                  case measure => have := HK.out; omega
                  case rel => exact ⟨k + 1, runRow row n st.length k out, by omega, by go_num, len_runRow _ _ _ _ _, HRS, ⟨by rw [← HHALF.out]; exact HGi.out⟩, HBi, HTi⟩
          · go_wp2
            go_ret2
            have hfin : out = R := by rw [← HRL.out, List.drop_eq_nil_of_le (by omega)]; rfl
            exact ⟨_, by rw [HXO.out]; rfl, by rw [← hfin]; exact irow_R HGo.out hol (Nat.le_trans HB2.out.size HG2.out) (by omega), HB2.out.trans (HBo.out.mono HB2.out.size)⟩
  · have em : (mv != 0) = true := by simpa using hm
    have HX := Aside0.mk (show R = [] from by rw [HRF.out, if_neg (fun h => hm h.1)])
    have HXO := Aside0.mk (show Ok = false from by rw [HRO.out, decide_eq_false hm]; rfl)
    go_enter Try.func12, Try.ntmps12
    go_upto_region 1 with fail
    rw [← hW2]
    clear hW2
    go_wp2_with (go_at_call 15; refine (parryref22_May.calls k1 s.f0 s.f1 A cp s.f2 mv _ HCF.out hc HK1.out).mono ?_; rintro e w3 ⟨rfl, hB3⟩; have HB3 := Aside0.mk hB3; clear hB3)
    go_ret2
    exact ⟨_, by rw [HXO.out]; rfl, by rw [HX.out]; exact Kd.R_nil _ _ _ _ _, HB2.out.trans (HB3.out.mono HB2.out.size)⟩
def parryref22_Run.f (a0_0 : Int) (a0_1 : Int) (l0_2 : List S24) (l1_0 : List Int) (l1_1 : List Int) : Option (List Int × Bool) := some (runS ⟨a0_0, a0_1, l0_2⟩ l1_0 l1_1, runOk ⟨a0_0, a0_1, l0_2⟩ l1_0 l1_1)
theorem parryref22_Run.calls (a0_0 : Int) (a0_1 : Int) (A0_2 : Option Addr) (c0_2 : Nat) (l0_2 : List S24) (A1_0 : Option Addr) (c1_0 : Nat) (l1_0 : List Int) (A1_1 : Option Addr) (c1_1 : Nat) (l1_1 : List Int) (r1 : List Int) (r2 : Bool) (w : World) (hr0_2 : Kd.C k24 w A0_2 l0_2.length l0_2) (hc0_2 : l0_2.length ≤ c0_2) (hr1_0 : Kd.C (Kd.int .u32) w A1_0 l1_0.length l1_0) (hc1_0 : l1_0.length ≤ c1_0) (hr1_1 : Kd.C (Kd.int .u32) w A1_1 l1_1.length l1_1) (hc1_1 : l1_1.length ≤ c1_1) (h : parryref22_Run.f a0_0 a0_1 l0_2 l1_0 l1_1 = some (r1, r2)) :
    Calls Try.prog 12 #[.agg #[.int .i64 a0_0, .int .i64 a0_1, .slice A0_2 l0_2.length c0_2], .agg #[.slice A1_0 l1_0.length c1_0, .slice A1_1 l1_1.length c1_1]] w fun e w' => ∃ v1_ : Value, e = .returned (.tuple #[v1_, .bool r2]) ∧ Kd.R (Kd.int .i64) 3 w' w.heap.size (fun _ => True) v1_ r1 ∧ Below w.heap.size w w' := by
  obtain ⟨rfl, rfl⟩ := Prod.mk.inj (Option.some.inj h)
  exact rRun_calls ⟨a0_0, a0_1, l0_2⟩ l1_0 l1_1 A0_2 c0_2 A1_0 A1_1 c1_0 c1_1 w hr0_2 hc0_2 hr1_0 hc1_0 hr1_1 hc1_1
end Go.Proofs.Ytegaicoddnmemaa.X

namespace Go.Proofs.Ytegaicoddnmemaa.P
open Go.RowKit Go.Proofs.YtegaicoddnmemaaW.PrintWords Go.Proofs.YtegaicoddnmemaaW.PrintLast Go.Proofs.YtegaicoddnmemaaW.PrintMore
attribute [local go_sem] max2_int min2_int max_two min_two max_three min_three max_four min_four   -- for this text's walks alone
set_option linter.unusedVariables false
set_option linter.unusedSimpArgs false

open Go.Proofs.Ytegaicoddnmemaa.X
def parrylaw23_TableauRuns.f (k : Nat) (a0_0 : Int) (a0_1 : Int) (l0_2 : List (S24)) (l1_0 : List Int) (l1_1 : List Int) : Option (Bool) := (parrylaw22_Heavy.f k a0_0 a0_1 l0_2).bind fun t193 => ((parrylaw22_Long.f l1_0 l1_1).bind fun t194 => (if (wrap64 (t193 + t194)) > 0 then ((parrylaw23_awake.f).bind fun t195 => (some t195)) else ((tableau_Run.f a0_0 a0_1 l0_2 l1_0 l1_1).bind fun bt196 => ((parryref22_Run.f a0_0 a0_1 l0_2 l1_0 l1_1).bind fun bt200 => (if (bt196.2 == bt200.2) = true then ((parryref9_SameInts.f k bt196.1 bt200.1).bind fun t204 => (if t204 = true then ((parrylaw23_awake.f).bind fun t205 => (some t205)) else (some false))) else (some false))))))
theorem parrylaw23_TableauRuns.mono : ∀ a0 a1 a2 a3 a4 k, LeO (parrylaw23_TableauRuns.f k a0 a1 a2 a3 a4) (parrylaw23_TableauRuns.f (k + 1) a0 a1 a2 a3 a4) := by
  intro a0 a1 a2 a3 a4 k
  unfold parrylaw23_TableauRuns.f
  repeat' first
      | (with_reducible exact parrylaw22_Heavy.mono _ _ _ _)
      | (with_reducible exact parryref9_SameInts.mono _ _ _)
      | (with_reducible exact LeO.refl _)
      | (with_reducible exact LeO.none _)
      | (with_reducible refine LeO.ite ?_ ?_)
      | (with_reducible refine LeO.bind ?_ (fun _ => ?_))
      | exact parrylaw22_Heavy.mono _ _ _ _
      | exact parryref9_SameInts.mono _ _ _
      | exact LeO.none _
      | refine LeO.ite ?_ ?_
      | refine LeO.bind ?_ (fun _ => ?_)
set_option maxHeartbeats 8000000 in
set_option maxRecDepth 100000 in
theorem parrylaw23_TableauRuns.calls (k : Nat) (a0_0 : Int) (a0_1 : Int) (A0_2 : Option Addr) (c0_2 : Nat) (l0_2 : List (S24)) (A1_0 : Option Addr) (c1_0 : Nat) (l1_0 : List Int) (A1_1 : Option Addr) (c1_1 : Nat) (l1_1 : List Int) (r : Bool) (w : World) (hr0_2 : Kd.C k24 w A0_2 l0_2.length l0_2) (hc0_2 : l0_2.length ≤ c0_2) (hr1_0 : Kd.C (Kd.int .u32) w A1_0 l1_0.length l1_0) (hc1_0 : l1_0.length ≤ c1_0) (hr1_1 : Kd.C (Kd.int .u32) w A1_1 l1_1.length l1_1) (hc1_1 : l1_1.length ≤ c1_1) (h : parrylaw23_TableauRuns.f k a0_0 a0_1 l0_2 l1_0 l1_1 = some r) (hrt : r = true) :
    Calls Try.prog 3 #[.agg #[.int .i64 a0_0, .int .i64 a0_1, .slice A0_2 l0_2.length c0_2], .agg #[.slice A1_0 l1_0.length c1_0, .slice A1_1 l1_1.length c1_1]] w fun e w' => e = .returned (.bool r) ∧ Below w.heap.size w w' := by
  have hu24 := Try.underlying24
  have hu27 := Try.underlying27
  have HR0_2 := Aside0.mk hr0_2
  have HC0_2 := Aside0.mk hc0_2
  clear hr0_2 hc0_2
  have HR1_0 := Aside0.mk hr1_0
  have HC1_0 := Aside0.mk hc1_0
  clear hr1_0 hc1_0
  have HR1_1 := Aside0.mk hr1_1
  have HC1_1 := Aside0.mk hc1_1
  clear hr1_1 hc1_1
  have HB := Aside0.mk (Below.refl w.heap.size w)
  have HRT := Aside0.mk hrt
  clear hrt
  have H : ((parrylaw22_Heavy.f k a0_0 a0_1 l0_2).bind fun t193 => ((parrylaw22_Long.f l1_0 l1_1).bind fun t194 => (if (wrap64 (t193 + t194)) > 0 then ((parrylaw23_awake.f).bind fun t195 => (some t195)) else ((tableau_Run.f a0_0 a0_1 l0_2 l1_0 l1_1).bind fun bt196 => ((parryref22_Run.f a0_0 a0_1 l0_2 l1_0 l1_1).bind fun bt200 => (if (bt196.2 == bt200.2) = true then ((parryref9_SameInts.f k bt196.1 bt200.1).bind fun t204 => (if t204 = true then ((parrylaw23_awake.f).bind fun t205 => (some t205)) else (some false))) else (some false))))))) = some r := h
  clear h
  replace H := Option.bind_eq_some_iff.mp H
  obtain ⟨t193, A30, H⟩ := H
  replace H : ((parrylaw22_Long.f l1_0 l1_1).bind fun t194 => (if (wrap64 (t193 + t194)) > 0 then ((parrylaw23_awake.f).bind fun t195 => (some t195)) else ((tableau_Run.f a0_0 a0_1 l0_2 l1_0 l1_1).bind fun bt196 => ((parryref22_Run.f a0_0 a0_1 l0_2 l1_0 l1_1).bind fun bt200 => (if (bt196.2 == bt200.2) = true then ((parryref9_SameInts.f k bt196.1 bt200.1).bind fun t204 => (if t204 = true then ((parrylaw23_awake.f).bind fun t205 => (some t205)) else (some false))) else (some false)))))) = some r := H
  have A3 := Aside0.mk A30
  clear A30
  replace H := Option.bind_eq_some_iff.mp H
  obtain ⟨t194, A40, H⟩ := H
  replace H : (if (wrap64 (t193 + t194)) > 0 then ((parrylaw23_awake.f).bind fun t195 => (some t195)) else ((tableau_Run.f a0_0 a0_1 l0_2 l1_0 l1_1).bind fun bt196 => ((parryref22_Run.f a0_0 a0_1 l0_2 l1_0 l1_1).bind fun bt200 => (if (bt196.2 == bt200.2) = true then ((parryref9_SameInts.f k bt196.1 bt200.1).bind fun t204 => (if t204 = true then ((parrylaw23_awake.f).bind fun t205 => (some t205)) else (some false))) else (some false))))) = some r := H
  have A4 := Aside0.mk A40
  clear A40
  by_cases c5 : (wrap64 (t193 + t194)) > 0
  · rw [if_pos c5] at H
    have c5b0 : decide (0 < (wrap64 (t193 + t194))) = true := decide_eq_true c5
    clear c5
    replace H := Option.bind_eq_some_iff.mp H
    obtain ⟨t195, A60, H⟩ := H
    replace H : (some t195) = some r := H
    have A6 := Aside0.mk A60
    clear A60
    obtain rfl := Option.some.inj H
    go_enter Try.func3, Try.ntmps3
    try go_wp2_with (first | ((with_reducible refine gate_dst (N := 2) rfl ?_); refine box_event ?hg (N := 2) ?hd (cs := #[.int .i64 a0_0, .int .i64 a0_1, .slice A0_2 l0_2.length c0_2]) (t := 24) ?hr ?_; (case hd => rfl); (case hg => rfl); (case hr => first | (go_simp; done) | (go_simp; rfl)); intro gb191 hg w7 hbox hb; have n0_ := Aside0.mk (below_step (by repeat (first | (with_reducible first | exact HB.out | apply below_alloc | apply pw_below_drewN | apply below_drew1) | exact HB.out)) hb); have n1_ := Aside0.mk (hbox); have n2_ := Aside0.mk ((by rw [hg]; exact (below_size (by repeat (first | (with_reducible first | exact HB.out | apply below_alloc | apply pw_below_drewN | apply below_drew1) | exact HB.out))) : w.heap.size ≤ gb191)); have n3_ := Aside0.mk ((by rw [hg]; exact (below_size (by repeat (first | (with_reducible first | exact HB.out | apply below_alloc | apply pw_below_drewN | apply below_drew1) | exact HB.out))) : w.heap.size ≤ gb191)); clear HB; have HB := n0_; have BK191 := n1_; have GW191 := n2_; have GE191 := n3_; clear n0_ n1_ n2_ n3_; clear hb hbox hg) | ((with_reducible refine gate_dst (N := 3) rfl ?_); refine box_event ?hg (N := 3) ?hd (cs := #[.slice A1_0 l1_0.length c1_0, .slice A1_1 l1_1.length c1_1]) (t := 27) ?hr ?_; (case hd => rfl); (case hg => rfl); (case hr => first | (go_simp; done) | (go_simp; rfl)); intro gb192 hg w8 hbox hb; have n0_ := Aside0.mk (blk_below (g := gb191) (o := .cells #[.int .i64 a0_0, .int .i64 a0_1, .slice A0_2 l0_2.length c0_2] 24 (0, 0)) (by (with_reducible repeat (first | refine blk_drewN ?_ _ | refine blk_drew ?_ | refine blk_alloc ?_ _)); exact BK191.out) hb); have n1_ := Aside0.mk (below_step (by repeat (first | (with_reducible first | exact HB.out | apply below_alloc | apply pw_below_drewN | apply below_drew1 | refine below_set ?_ GE191.out) | exact HB.out)) hb); have n2_ := Aside0.mk (hbox); have n3_ := Aside0.mk ((by rw [hg]; exact (below_size (by repeat (first | (with_reducible first | exact HB.out | apply below_alloc | apply pw_below_drewN | apply below_drew1 | refine below_set ?_ GE191.out) | exact HB.out))) : w.heap.size ≤ gb192)); have n4_ := Aside0.mk ((by rw [hg]; exact (below_size (by repeat (first | (with_reducible first | exact HB.out | apply below_alloc | apply pw_below_drewN | apply below_drew1 | refine below_set ?_ GE191.out) | exact HB.out))) : w.heap.size ≤ gb192)); have n5_ := Aside0.mk ((by rw [hg]; exact Nat.ne_of_lt (blk_lt (g := gb191) (o := .cells #[.int .i64 a0_0, .int .i64 a0_1, .slice A0_2 l0_2.length c0_2] 24 (0, 0)) (by (with_reducible repeat (first | refine blk_drewN ?_ _ | refine blk_drew ?_ | refine blk_alloc ?_ _)); exact BK191.out)) : gb191 ≠ gb192)); have n6_ := Aside0.mk ((by rw [hg]; exact Nat.ne_of_gt (blk_lt (g := gb191) (o := .cells #[.int .i64 a0_0, .int .i64 a0_1, .slice A0_2 l0_2.length c0_2] 24 (0, 0)) (by (with_reducible repeat (first | refine blk_drewN ?_ _ | refine blk_drew ?_ | refine blk_alloc ?_ _)); exact BK191.out)) : gb192 ≠ gb191)); clear BK191; clear HB; have BK191 := n0_; have HB := n1_; have BK192 := n2_; have GW192 := n3_; have GE192 := n4_; have NB191_192 := n5_; have NB192_191 := n6_; clear n0_ n1_ n2_ n3_ n4_ n5_ n6_; clear hb hbox hg))
    have n0_ := Aside0.mk (blk_drew BK191.out)
    have n1_ := Aside0.mk (blk_drew BK192.out)
    have n2_ := Aside0.mk (below_drew1 HB.out)
    clear BK191
    clear BK192
    clear HB
    have BK191 := n0_
    have BK192 := n1_
    have HB := n2_
    clear n0_ n1_ n2_
    refine start_ (n := 6) (S := fun w' => w'.cell? ⟨gb191, 0, none⟩ = some (.int .i64 a0_0) ∧ w'.cell? ⟨gb191, 1, none⟩ = some (.int .i64 a0_1) ∧ w'.cell? ⟨gb191, 2, none⟩ = some (.slice A0_2 l0_2.length c0_2) ∧ w'.cell? ⟨gb192, 0, none⟩ = some (.slice A1_0 l1_0.length c1_0) ∧ w'.cell? ⟨gb192, 1, none⟩ = some (.slice A1_1 l1_1.length c1_1)) (ds := []) #[false, false, false, false, false, false] (by kernel_rfl) rfl rfl ⟨(blk_cell BK191.out 0).trans rfl, (blk_cell BK191.out 1).trans rfl, (blk_cell BK191.out 2).trans rfl, (blk_cell BK192.out 0).trans rfl, (blk_cell BK192.out 1).trans rfl⟩ (fun hHeld => ?_)
    generalize w8.drew = w9 at BK191 BK192 HB hHeld ⊢
    refine take_ (i := 0) (N := some 9) (v := ?_) (a' := ?_) #[true, false, false, false, false, false] rfl rfl (by kernel_rfl) (fun _ _ _ h => h) (Or.inl ⟨by rfl, ?_⟩) hHeld ?_ ?_
    rotate_left
    · rintro w' ⟨s0, s1, s2, s3, s4⟩
      go_simp
      with_reducible rfl
    rotate_left
    · simp only [Act.put, List.setIfInBounds_toArray, List.set_cons_zero, List.set_cons_succ, i64_w, i32_w]
      rfl
    refine take_ (i := 2) (N := some 11) (v := ?_) (a' := ?_) #[true, false, true, false, false, false] rfl rfl (by kernel_rfl) (fun _ _ _ h => h) (Or.inl ⟨by rfl, ?_⟩) hHeld ?_ ?_
    rotate_left
    · rintro w' ⟨s0, s1, s2, s3, s4⟩
      go_simp
      with_reducible rfl
    rotate_left
    · simp only [Act.put, List.setIfInBounds_toArray, List.set_cons_zero, List.set_cons_succ, i64_w, i32_w]
      rfl
    refine one_ (i := 1) (N := some 10) #[true, true, true, false, false, false] rfl rfl (by kernel_rfl) (by decide) (fun K hK => ?_)
    refine goes_ Try.func8 (by kernel_rfl) rfl #[.agg #[.int .i64 a0_0, .int .i64 a0_1, .slice A0_2 l0_2.length c0_2]] (by rfl) rfl rfl (by (try simp only [List.map_toArray, List.map_cons, List.map_nil]); first | done | rfl | (simp only [List.length_drop, List.length_take]; rfl)) ?_
    with_reducible refine (parrylaw22_Heavy.calls k a0_0 a0_1 _ _ l0_2 t193 _ ?side1 ?side2 A3.out).mono ?_
    (case side1 => repeat (first | exact (Kd.C_below HR0_2.out HB.out) | (with_reducible refine Kd.C_alloc ?_ _) | (with_reducible refine Kd.C_drewN ?_ _) | (with_reducible refine Kd.C_drew ?_)))
    (case side2 => exact HC0_2.out)
    rintro e w10 ⟨rfl, hb⟩
    refine ⟨_, rfl, ?_⟩
    have n0_ := Aside0.mk (blk_below (g := gb191) (o := .cells #[.int .i64 a0_0, .int .i64 a0_1, .slice A0_2 l0_2.length c0_2] 24 (0, 0)) (by (with_reducible repeat (first | refine blk_drewN ?_ _ | refine blk_drew ?_ | refine blk_alloc ?_ _)); exact BK191.out) hb)
    have n1_ := Aside0.mk (blk_below (g := gb192) (o := .cells #[.slice A1_0 l1_0.length c1_0, .slice A1_1 l1_1.length c1_1] 27 (0, 0)) (by (with_reducible repeat (first | refine blk_drewN ?_ _ | refine blk_drew ?_ | refine blk_alloc ?_ _)); exact BK192.out) hb)
    have n2_ := Aside0.mk (below_step (by repeat (first | (with_reducible first | exact HB.out | apply below_alloc | apply pw_below_drewN | apply below_drew1 | refine below_set ?_ GE191.out | refine below_set ?_ GE192.out) | exact HB.out)) hb)
    clear BK191
    clear BK192
    clear HB
    have BK191 := n0_
    have BK192 := n1_
    have HB := n2_
    clear n0_ n1_ n2_
    (try clear hb)
    (try clear hb2)
    (try clear hk)
    (try clear hi)
    refine hK.out _ _ ⟨(blk_cell BK191.out 0).trans rfl, (blk_cell BK191.out 1).trans rfl, (blk_cell BK191.out 2).trans rfl, (blk_cell BK192.out 0).trans rfl, (blk_cell BK192.out 1).trans rfl⟩ (fun hHeld => ?_)
    clear hK K
    refine norm_ (a' := ?_) ?_ ?_
    rotate_left
    · show Act.put _ (some 10) _ = _
      simp only [Act.put, List.setIfInBounds_toArray, List.set_cons_zero, List.set_cons_succ, i64_w, i32_w]
      rfl
    refine one_ (i := 3) (N := some 12) #[true, true, true, true, false, false] rfl rfl (by kernel_rfl) (by decide) (fun K hK => ?_)
    refine goes_ Try.func9 (by kernel_rfl) rfl #[.agg #[.slice A1_0 l1_0.length c1_0, .slice A1_1 l1_1.length c1_1]] (by rfl) rfl rfl (by (try simp only [List.map_toArray, List.map_cons, List.map_nil]); first | done | rfl | (simp only [List.length_drop, List.length_take]; rfl)) ?_
    with_reducible refine (parrylaw22_Long.calls _ _ l1_0 _ _ l1_1 t194 _ ?side1 ?side2 ?side3 ?side4 A4.out).mono ?_
    (case side1 => repeat (first | exact (Kd.C_below HR1_0.out HB.out) | (with_reducible refine Kd.C_alloc ?_ _) | (with_reducible refine Kd.C_drewN ?_ _) | (with_reducible refine Kd.C_drew ?_)))
    (case side2 => exact HC1_0.out)
    (case side3 => repeat (first | exact (Kd.C_below HR1_1.out HB.out) | (with_reducible refine Kd.C_alloc ?_ _) | (with_reducible refine Kd.C_drewN ?_ _) | (with_reducible refine Kd.C_drew ?_)))
    (case side4 => exact HC1_1.out)
    rintro e w11 ⟨rfl, hb⟩
    refine ⟨_, rfl, ?_⟩
    have n0_ := Aside0.mk (blk_below (g := gb191) (o := .cells #[.int .i64 a0_0, .int .i64 a0_1, .slice A0_2 l0_2.length c0_2] 24 (0, 0)) (by (with_reducible repeat (first | refine blk_drewN ?_ _ | refine blk_drew ?_ | refine blk_alloc ?_ _)); exact BK191.out) hb)
    have n1_ := Aside0.mk (blk_below (g := gb192) (o := .cells #[.slice A1_0 l1_0.length c1_0, .slice A1_1 l1_1.length c1_1] 27 (0, 0)) (by (with_reducible repeat (first | refine blk_drewN ?_ _ | refine blk_drew ?_ | refine blk_alloc ?_ _)); exact BK192.out) hb)
    have n2_ := Aside0.mk (below_step (by repeat (first | (with_reducible first | exact HB.out | apply below_alloc | apply pw_below_drewN | apply below_drew1 | refine below_set ?_ GE191.out | refine below_set ?_ GE192.out) | exact HB.out)) hb)
    clear BK191
    clear BK192
    clear HB
    have BK191 := n0_
    have BK192 := n1_
    have HB := n2_
    clear n0_ n1_ n2_
    (try clear hb)
    (try clear hb2)
    (try clear hk)
    (try clear hi)
    refine hK.out _ _ ⟨(blk_cell BK191.out 0).trans rfl, (blk_cell BK191.out 1).trans rfl, (blk_cell BK191.out 2).trans rfl, (blk_cell BK192.out 0).trans rfl, (blk_cell BK192.out 1).trans rfl⟩ (fun hHeld => ?_)
    clear hK K
    refine norm_ (a' := ?_) ?_ ?_
    rotate_left
    · show Act.put _ (some 12) _ = _
      simp only [Act.put, List.setIfInBounds_toArray, List.set_cons_zero, List.set_cons_succ, i64_w, i32_w]
      rfl
    refine pure_ (i := 4) (N := some 13) (v := ?_) (a' := ?_) #[true, true, true, true, true, false] rfl rfl (by kernel_rfl) (fun _ _ _ h => h) (Or.inl ⟨by rfl, ?_⟩) ?_ ?_
    rotate_left
    · intro w'
      go_simp
      with_reducible rfl
    rotate_left
    · simp only [Act.put, List.setIfInBounds_toArray, List.set_cons_zero, List.set_cons_succ, i64_w, i32_w]
      rfl
    refine pure_ (i := 5) (N := some 14) (v := ?_) (a' := ?_) #[true, true, true, true, true, true] rfl rfl (by kernel_rfl) (fun _ _ _ h => h) (Or.inl ⟨by rfl, ?_⟩) ?_ ?_
    rotate_left
    · intro w'
      go_simp
      with_reducible rfl
    rotate_left
    · simp only [Act.put, List.setIfInBounds_toArray, List.set_cons_zero, List.set_cons_succ, i64_w, i32_w]
      rfl
    refine done_ (by kernel_rfl) ?_
    try go_wp2_with (first | ((with_reducible refine gate_callee (f := 10) rfl ?_); refine goesL_ (some 15) rfl rfl Try.func10 (by kernel_rfl) rfl #[] rfl (by (try simp only [List.map_toArray, List.map_cons, List.map_nil]); first | done | rfl | (simp only [List.length_drop, List.length_take]; rfl)) ?_; (with_reducible refine (parrylaw23_awake.calls  t195 _ A6.out).mono ?_); rintro e w12 ⟨rfl, hb⟩; refine ⟨_, rfl, ?_⟩; have n0_ := Aside0.mk (blk_below (g := gb191) (o := .cells #[.int .i64 a0_0, .int .i64 a0_1, .slice A0_2 l0_2.length c0_2] 24 (0, 0)) (by (with_reducible repeat (first | refine blk_drewN ?_ _ | refine blk_drew ?_ | refine blk_alloc ?_ _)); exact BK191.out) hb); have n1_ := Aside0.mk (blk_below (g := gb192) (o := .cells #[.slice A1_0 l1_0.length c1_0, .slice A1_1 l1_1.length c1_1] 27 (0, 0)) (by (with_reducible repeat (first | refine blk_drewN ?_ _ | refine blk_drew ?_ | refine blk_alloc ?_ _)); exact BK192.out) hb); have n2_ := Aside0.mk (below_step (by repeat (first | (with_reducible first | exact HB.out | apply below_alloc | apply pw_below_drewN | apply below_drew1 | refine below_set ?_ GE191.out | refine below_set ?_ GE192.out) | exact HB.out)) hb); clear BK191; clear BK192; clear HB; have BK191 := n0_; have BK192 := n1_; have HB := n2_; clear n0_ n1_ n2_; (try clear hb); (try clear hb2); (try clear hk); (try clear hi)))
    go_ret
    exact ⟨by first | rfl | (simp [errW_none, errW_some] <;> rfl) | (simp [*, errW_none, errW_some] <;> rfl), by repeat (first | (with_reducible first | exact HB.out | apply below_alloc | apply pw_below_drewN | apply below_drew1 | refine below_set ?_ GE191.out | refine below_set ?_ GE192.out) | exact HB.out)⟩
  · rw [if_neg c5] at H
    have c5b0 : decide (0 < (wrap64 (t193 + t194))) = false := decide_eq_false c5
    clear c5
    replace H := Option.bind_eq_some_iff.mp H
    obtain ⟨⟨t196, t199⟩, A130, H⟩ := H
    replace H : ((parryref22_Run.f a0_0 a0_1 l0_2 l1_0 l1_1).bind fun bt200 => (if (t199 == bt200.2) = true then ((parryref9_SameInts.f k t196 bt200.1).bind fun t204 => (if t204 = true then ((parrylaw23_awake.f).bind fun t205 => (some t205)) else (some false))) else (some false))) = some r := H
    have A13 := Aside0.mk A130
    clear A130
    replace H := Option.bind_eq_some_iff.mp H
    obtain ⟨⟨t200, t203⟩, A140, H⟩ := H
    replace H : (if (t199 == t203) = true then ((parryref9_SameInts.f k t196 t200).bind fun t204 => (if t204 = true then ((parrylaw23_awake.f).bind fun t205 => (some t205)) else (some false))) else (some false)) = some r := H
    have A14 := Aside0.mk A140
    clear A140
    by_cases c15 : (t199 == t203) = true
    · rw [if_pos c15] at H
      have c15b0 : (t199 == t203) = true := c15
      (try (have c15b1 : decide (t199 = t203) = true := by simpa using c15))
      (try (have c15b2 : (t199 == t203) = true := by simpa using c15))
      clear c15
      replace H := Option.bind_eq_some_iff.mp H
      obtain ⟨t204, A160, H⟩ := H
      replace H : (if t204 = true then ((parrylaw23_awake.f).bind fun t205 => (some t205)) else (some false)) = some r := H
      have A16 := Aside0.mk A160
      clear A160
      by_cases c17 : t204 = true
      · subst c17
        have H1 : ((parrylaw23_awake.f).bind fun t205 => (some t205)) = some r := by rw [if_pos rfl] at H; exact H
        clear H
        have H := H1
        clear H1
        replace H := Option.bind_eq_some_iff.mp H
        obtain ⟨t205, A180, H⟩ := H
        replace H : (some t205) = some r := H
        have A18 := Aside0.mk A180
        clear A180
        obtain rfl := Option.some.inj H
        go_enter Try.func3, Try.ntmps3
        try go_wp2_with (first | ((with_reducible refine gate_dst (N := 2) rfl ?_); refine box_event ?hg (N := 2) ?hd (cs := #[.int .i64 a0_0, .int .i64 a0_1, .slice A0_2 l0_2.length c0_2]) (t := 24) ?hr ?_; (case hd => rfl); (case hg => rfl); (case hr => first | (go_simp; done) | (go_simp; rfl)); intro gb191 hg w19 hbox hb; have n0_ := Aside0.mk (below_step (by repeat (first | (with_reducible first | exact HB.out | apply below_alloc | apply pw_below_drewN | apply below_drew1) | exact HB.out)) hb); have n1_ := Aside0.mk (hbox); have n2_ := Aside0.mk ((by rw [hg]; exact (below_size (by repeat (first | (with_reducible first | exact HB.out | apply below_alloc | apply pw_below_drewN | apply below_drew1) | exact HB.out))) : w.heap.size ≤ gb191)); have n3_ := Aside0.mk ((by rw [hg]; exact (below_size (by repeat (first | (with_reducible first | exact HB.out | apply below_alloc | apply pw_below_drewN | apply below_drew1) | exact HB.out))) : w.heap.size ≤ gb191)); clear HB; have HB := n0_; have BK191 := n1_; have GW191 := n2_; have GE191 := n3_; clear n0_ n1_ n2_ n3_; clear hb hbox hg) | ((with_reducible refine gate_dst (N := 3) rfl ?_); refine box_event ?hg (N := 3) ?hd (cs := #[.slice A1_0 l1_0.length c1_0, .slice A1_1 l1_1.length c1_1]) (t := 27) ?hr ?_; (case hd => rfl); (case hg => rfl); (case hr => first | (go_simp; done) | (go_simp; rfl)); intro gb192 hg w20 hbox hb; have n0_ := Aside0.mk (blk_below (g := gb191) (o := .cells #[.int .i64 a0_0, .int .i64 a0_1, .slice A0_2 l0_2.length c0_2] 24 (0, 0)) (by (with_reducible repeat (first | refine blk_drewN ?_ _ | refine blk_drew ?_ | refine blk_alloc ?_ _)); exact BK191.out) hb); have n1_ := Aside0.mk (below_step (by repeat (first | (with_reducible first | exact HB.out | apply below_alloc | apply pw_below_drewN | apply below_drew1 | refine below_set ?_ GE191.out) | exact HB.out)) hb); have n2_ := Aside0.mk (hbox); have n3_ := Aside0.mk ((by rw [hg]; exact (below_size (by repeat (first | (with_reducible first | exact HB.out | apply below_alloc | apply pw_below_drewN | apply below_drew1 | refine below_set ?_ GE191.out) | exact HB.out))) : w.heap.size ≤ gb192)); have n4_ := Aside0.mk ((by rw [hg]; exact (below_size (by repeat (first | (with_reducible first | exact HB.out | apply below_alloc | apply pw_below_drewN | apply below_drew1 | refine below_set ?_ GE191.out) | exact HB.out))) : w.heap.size ≤ gb192)); have n5_ := Aside0.mk ((by rw [hg]; exact Nat.ne_of_lt (blk_lt (g := gb191) (o := .cells #[.int .i64 a0_0, .int .i64 a0_1, .slice A0_2 l0_2.length c0_2] 24 (0, 0)) (by (with_reducible repeat (first | refine blk_drewN ?_ _ | refine blk_drew ?_ | refine blk_alloc ?_ _)); exact BK191.out)) : gb191 ≠ gb192)); have n6_ := Aside0.mk ((by rw [hg]; exact Nat.ne_of_gt (blk_lt (g := gb191) (o := .cells #[.int .i64 a0_0, .int .i64 a0_1, .slice A0_2 l0_2.length c0_2] 24 (0, 0)) (by (with_reducible repeat (first | refine blk_drewN ?_ _ | refine blk_drew ?_ | refine blk_alloc ?_ _)); exact BK191.out)) : gb192 ≠ gb191)); clear BK191; clear HB; have BK191 := n0_; have HB := n1_; have BK192 := n2_; have GW192 := n3_; have GE192 := n4_; have NB191_192 := n5_; have NB192_191 := n6_; clear n0_ n1_ n2_ n3_ n4_ n5_ n6_; clear hb hbox hg))
        have n0_ := Aside0.mk (blk_drew BK191.out)
        have n1_ := Aside0.mk (blk_drew BK192.out)
        have n2_ := Aside0.mk (below_drew1 HB.out)
        clear BK191
        clear BK192
        clear HB
        have BK191 := n0_
        have BK192 := n1_
        have HB := n2_
        clear n0_ n1_ n2_
        refine start_ (n := 6) (S := fun w' => w'.cell? ⟨gb191, 0, none⟩ = some (.int .i64 a0_0) ∧ w'.cell? ⟨gb191, 1, none⟩ = some (.int .i64 a0_1) ∧ w'.cell? ⟨gb191, 2, none⟩ = some (.slice A0_2 l0_2.length c0_2) ∧ w'.cell? ⟨gb192, 0, none⟩ = some (.slice A1_0 l1_0.length c1_0) ∧ w'.cell? ⟨gb192, 1, none⟩ = some (.slice A1_1 l1_1.length c1_1)) (ds := []) #[false, false, false, false, false, false] (by kernel_rfl) rfl rfl ⟨(blk_cell BK191.out 0).trans rfl, (blk_cell BK191.out 1).trans rfl, (blk_cell BK191.out 2).trans rfl, (blk_cell BK192.out 0).trans rfl, (blk_cell BK192.out 1).trans rfl⟩ (fun hHeld => ?_)
        generalize w20.drew = w21 at BK191 BK192 HB hHeld ⊢
        refine take_ (i := 0) (N := some 9) (v := ?_) (a' := ?_) #[true, false, false, false, false, false] rfl rfl (by kernel_rfl) (fun _ _ _ h => h) (Or.inl ⟨by rfl, ?_⟩) hHeld ?_ ?_
        rotate_left
        · rintro w' ⟨s0, s1, s2, s3, s4⟩
          go_simp
          with_reducible rfl
        rotate_left
        · simp only [Act.put, List.setIfInBounds_toArray, List.set_cons_zero, List.set_cons_succ, i64_w, i32_w]
          rfl
        refine take_ (i := 2) (N := some 11) (v := ?_) (a' := ?_) #[true, false, true, false, false, false] rfl rfl (by kernel_rfl) (fun _ _ _ h => h) (Or.inl ⟨by rfl, ?_⟩) hHeld ?_ ?_
        rotate_left
        · rintro w' ⟨s0, s1, s2, s3, s4⟩
          go_simp
          with_reducible rfl
        rotate_left
        · simp only [Act.put, List.setIfInBounds_toArray, List.set_cons_zero, List.set_cons_succ, i64_w, i32_w]
          rfl
        refine one_ (i := 1) (N := some 10) #[true, true, true, false, false, false] rfl rfl (by kernel_rfl) (by decide) (fun K hK => ?_)
        refine goes_ Try.func8 (by kernel_rfl) rfl #[.agg #[.int .i64 a0_0, .int .i64 a0_1, .slice A0_2 l0_2.length c0_2]] (by rfl) rfl rfl (by (try simp only [List.map_toArray, List.map_cons, List.map_nil]); first | done | rfl | (simp only [List.length_drop, List.length_take]; rfl)) ?_
        with_reducible refine (parrylaw22_Heavy.calls k a0_0 a0_1 _ _ l0_2 t193 _ ?side1 ?side2 A3.out).mono ?_
        (case side1 => repeat (first | exact (Kd.C_below HR0_2.out HB.out) | (with_reducible refine Kd.C_alloc ?_ _) | (with_reducible refine Kd.C_drewN ?_ _) | (with_reducible refine Kd.C_drew ?_)))
        (case side2 => exact HC0_2.out)
        rintro e w22 ⟨rfl, hb⟩
        refine ⟨_, rfl, ?_⟩
        have n0_ := Aside0.mk (blk_below (g := gb191) (o := .cells #[.int .i64 a0_0, .int .i64 a0_1, .slice A0_2 l0_2.length c0_2] 24 (0, 0)) (by (with_reducible repeat (first | refine blk_drewN ?_ _ | refine blk_drew ?_ | refine blk_alloc ?_ _)); exact BK191.out) hb)
        have n1_ := Aside0.mk (blk_below (g := gb192) (o := .cells #[.slice A1_0 l1_0.length c1_0, .slice A1_1 l1_1.length c1_1] 27 (0, 0)) (by (with_reducible repeat (first | refine blk_drewN ?_ _ | refine blk_drew ?_ | refine blk_alloc ?_ _)); exact BK192.out) hb)
        have n2_ := Aside0.mk (below_step (by repeat (first | (with_reducible first | exact HB.out | apply below_alloc | apply pw_below_drewN | apply below_drew1 | refine below_set ?_ GE191.out | refine below_set ?_ GE192.out) | exact HB.out)) hb)
        clear BK191
        clear BK192
        clear HB
        have BK191 := n0_
        have BK192 := n1_
        have HB := n2_
        clear n0_ n1_ n2_
        (try clear hb)
        (try clear hb2)
        (try clear hk)
        (try clear hi)
        refine hK.out _ _ ⟨(blk_cell BK191.out 0).trans rfl, (blk_cell BK191.out 1).trans rfl, (blk_cell BK191.out 2).trans rfl, (blk_cell BK192.out 0).trans rfl, (blk_cell BK192.out 1).trans rfl⟩ (fun hHeld => ?_)
        clear hK K
        refine norm_ (a' := ?_) ?_ ?_
        rotate_left
        · show Act.put _ (some 10) _ = _
          simp only [Act.put, List.setIfInBounds_toArray, List.set_cons_zero, List.set_cons_succ, i64_w, i32_w]
          rfl
        refine one_ (i := 3) (N := some 12) #[true, true, true, true, false, false] rfl rfl (by kernel_rfl) (by decide) (fun K hK => ?_)
        refine goes_ Try.func9 (by kernel_rfl) rfl #[.agg #[.slice A1_0 l1_0.length c1_0, .slice A1_1 l1_1.length c1_1]] (by rfl) rfl rfl (by (try simp only [List.map_toArray, List.map_cons, List.map_nil]); first | done | rfl | (simp only [List.length_drop, List.length_take]; rfl)) ?_
        with_reducible refine (parrylaw22_Long.calls _ _ l1_0 _ _ l1_1 t194 _ ?side1 ?side2 ?side3 ?side4 A4.out).mono ?_
        (case side1 => repeat (first | exact (Kd.C_below HR1_0.out HB.out) | (with_reducible refine Kd.C_alloc ?_ _) | (with_reducible refine Kd.C_drewN ?_ _) | (with_reducible refine Kd.C_drew ?_)))
        (case side2 => exact HC1_0.out)
        (case side3 => repeat (first | exact (Kd.C_below HR1_1.out HB.out) | (with_reducible refine Kd.C_alloc ?_ _) | (with_reducible refine Kd.C_drewN ?_ _) | (with_reducible refine Kd.C_drew ?_)))
        (case side4 => exact HC1_1.out)
        rintro e w23 ⟨rfl, hb⟩
        refine ⟨_, rfl, ?_⟩
        have n0_ := Aside0.mk (blk_below (g := gb191) (o := .cells #[.int .i64 a0_0, .int .i64 a0_1, .slice A0_2 l0_2.length c0_2] 24 (0, 0)) (by (with_reducible repeat (first | refine blk_drewN ?_ _ | refine blk_drew ?_ | refine blk_alloc ?_ _)); exact BK191.out) hb)
        have n1_ := Aside0.mk (blk_below (g := gb192) (o := .cells #[.slice A1_0 l1_0.length c1_0, .slice A1_1 l1_1.length c1_1] 27 (0, 0)) (by (with_reducible repeat (first | refine blk_drewN ?_ _ | refine blk_drew ?_ | refine blk_alloc ?_ _)); exact BK192.out) hb)
        have n2_ := Aside0.mk (below_step (by repeat (first | (with_reducible first | exact HB.out | apply below_alloc | apply pw_below_drewN | apply below_drew1 | refine below_set ?_ GE191.out | refine below_set ?_ GE192.out) | exact HB.out)) hb)
        clear BK191
        clear BK192
        clear HB
        have BK191 := n0_
        have BK192 := n1_
        have HB := n2_
        clear n0_ n1_ n2_
        (try clear hb)
        (try clear hb2)
        (try clear hk)
        (try clear hi)
        refine hK.out _ _ ⟨(blk_cell BK191.out 0).trans rfl, (blk_cell BK191.out 1).trans rfl, (blk_cell BK191.out 2).trans rfl, (blk_cell BK192.out 0).trans rfl, (blk_cell BK192.out 1).trans rfl⟩ (fun hHeld => ?_)
        clear hK K
        refine norm_ (a' := ?_) ?_ ?_
        rotate_left
        · show Act.put _ (some 12) _ = _
          simp only [Act.put, List.setIfInBounds_toArray, List.set_cons_zero, List.set_cons_succ, i64_w, i32_w]
          rfl
        refine pure_ (i := 4) (N := some 13) (v := ?_) (a' := ?_) #[true, true, true, true, true, false] rfl rfl (by kernel_rfl) (fun _ _ _ h => h) (Or.inl ⟨by rfl, ?_⟩) ?_ ?_
        rotate_left
        · intro w'
          go_simp
          with_reducible rfl
        rotate_left
        · simp only [Act.put, List.setIfInBounds_toArray, List.set_cons_zero, List.set_cons_succ, i64_w, i32_w]
          rfl
        refine pure_ (i := 5) (N := some 14) (v := ?_) (a' := ?_) #[true, true, true, true, true, true] rfl rfl (by kernel_rfl) (fun _ _ _ h => h) (Or.inl ⟨by rfl, ?_⟩) ?_ ?_
        rotate_left
        · intro w'
          go_simp
          with_reducible rfl
        rotate_left
        · simp only [Act.put, List.setIfInBounds_toArray, List.set_cons_zero, List.set_cons_succ, i64_w, i32_w]
          rfl
        refine done_ (by kernel_rfl) ?_
        have hnb24 := NB191_192.out
        have hnc24 := NB192_191.out
        have hcz25_0 : w23.cell? ⟨gb191, 0, none⟩ = some (.int .i64 a0_0) := (blk_cell BK191.out 0).trans rfl
        have hcz25_1 : w23.cell? ⟨gb191, 1, none⟩ = some (.int .i64 a0_1) := (blk_cell BK191.out 1).trans rfl
        have hcz25_2 : w23.cell? ⟨gb191, 2, none⟩ = some (.slice A0_2 l0_2.length c0_2) := (blk_cell BK191.out 2).trans rfl
        have hfz25_0 := blk_frozen BK191.out 0
        have hfz25_1 := blk_frozen BK191.out 1
        have hfz25_2 := blk_frozen BK191.out 2
        have hcz26_0 : w23.cell? ⟨gb192, 0, none⟩ = some (.slice A1_0 l1_0.length c1_0) := (blk_cell BK192.out 0).trans rfl
        have hcz26_1 : w23.cell? ⟨gb192, 1, none⟩ = some (.slice A1_1 l1_1.length c1_1) := (blk_cell BK192.out 1).trans rfl
        have hfz26_0 := blk_frozen BK192.out 0
        have hfz26_1 := blk_frozen BK192.out 1
        try go_wp2_with (first | ((with_reducible refine gate_callee (f := 11) rfl ?_); refine goesL_ (some 19) rfl rfl Try.func11 (by kernel_rfl) rfl #[.agg #[.int .i64 a0_0, .int .i64 a0_1, .slice A0_2 l0_2.length c0_2], .agg #[.slice A1_0 l1_0.length c1_0, .slice A1_1 l1_1.length c1_1]] rfl (by (try simp only [List.map_toArray, List.map_cons, List.map_nil]); first | done | rfl | (simp only [List.length_drop, List.length_take]; rfl)) ?_; (with_reducible refine (tableau_Run.calls a0_0 a0_1 _ _ l0_2 _ _ l1_0 _ _ l1_1 t196 t199 _ ?side1 ?side2 ?side3 ?side4 ?side5 ?side6 A13.out).mono ?_); (case side1 => repeat (first | exact (Kd.C_below HR0_2.out HB.out) | (with_reducible refine Kd.C_alloc ?_ _) | (with_reducible refine Kd.C_drewN ?_ _) | (with_reducible refine Kd.C_drew ?_))); (case side2 => exact HC0_2.out); (case side3 => repeat (first | exact (Kd.C_below HR1_0.out HB.out) | (with_reducible refine Kd.C_alloc ?_ _) | (with_reducible refine Kd.C_drewN ?_ _) | (with_reducible refine Kd.C_drew ?_))); (case side4 => exact HC1_0.out); (case side5 => repeat (first | exact (Kd.C_below HR1_1.out HB.out) | (with_reducible refine Kd.C_alloc ?_ _) | (with_reducible refine Kd.C_drewN ?_ _) | (with_reducible refine Kd.C_drew ?_))); (case side6 => exact HC1_1.out); rintro e w27 ⟨v197, rfl, ho0, hb⟩; refine ⟨_, rfl, ?_⟩; have n0_ := Aside0.mk (Kd.R_lower ho0 (below_size (by repeat (first | (with_reducible first | exact HB.out | apply below_alloc | apply pw_below_drewN | apply below_drew1 | refine below_set ?_ GE191.out | refine below_set ?_ GE192.out) | exact HB.out)))); have n1_ := Aside0.mk (blk_below (g := gb191) (o := .cells #[.int .i64 a0_0, .int .i64 a0_1, .slice A0_2 l0_2.length c0_2] 24 (0, 0)) (by (with_reducible repeat (first | refine blk_drewN ?_ _ | refine blk_drew ?_ | refine blk_alloc ?_ _)); exact BK191.out) hb); have n2_ := Aside0.mk (blk_below (g := gb192) (o := .cells #[.slice A1_0 l1_0.length c1_0, .slice A1_1 l1_1.length c1_1] 27 (0, 0)) (by (with_reducible repeat (first | refine blk_drewN ?_ _ | refine blk_drew ?_ | refine blk_alloc ?_ _)); exact BK192.out) hb); have n3_ := Aside0.mk (below_step (by repeat (first | (with_reducible first | exact HB.out | apply below_alloc | apply pw_below_drewN | apply below_drew1 | refine below_set ?_ GE191.out | refine below_set ?_ GE192.out) | exact HB.out)) hb); clear BK191; clear BK192; clear HB; have HO198 := n0_; have BK191 := n1_; have BK192 := n2_; have HB := n3_; clear n0_ n1_ n2_ n3_; (try clear hb); (try clear hb2); (try clear hk); (try clear hi); (try clear ho0); have hcz28_0 : w27.cell? ⟨gb191, 0, none⟩ = some (.int .i64 a0_0) := (blk_cell BK191.out 0).trans rfl; have hcz28_1 : w27.cell? ⟨gb191, 1, none⟩ = some (.int .i64 a0_1) := (blk_cell BK191.out 1).trans rfl; have hcz28_2 : w27.cell? ⟨gb191, 2, none⟩ = some (.slice A0_2 l0_2.length c0_2) := (blk_cell BK191.out 2).trans rfl; have hfz28_0 := blk_frozen BK191.out 0; have hfz28_1 := blk_frozen BK191.out 1; have hfz28_2 := blk_frozen BK191.out 2; have hcz29_0 : w27.cell? ⟨gb192, 0, none⟩ = some (.slice A1_0 l1_0.length c1_0) := (blk_cell BK192.out 0).trans rfl; have hcz29_1 : w27.cell? ⟨gb192, 1, none⟩ = some (.slice A1_1 l1_1.length c1_1) := (blk_cell BK192.out 1).trans rfl; have hfz29_0 := blk_frozen BK192.out 0; have hfz29_1 := blk_frozen BK192.out 1) | ((with_reducible refine gate_callee (f := 12) rfl ?_); refine goesL_ (some 25) rfl rfl Try.func12 (by kernel_rfl) rfl #[.agg #[.int .i64 a0_0, .int .i64 a0_1, .slice A0_2 l0_2.length c0_2], .agg #[.slice A1_0 l1_0.length c1_0, .slice A1_1 l1_1.length c1_1]] rfl (by (try simp only [List.map_toArray, List.map_cons, List.map_nil]); first | done | rfl | (simp only [List.length_drop, List.length_take]; rfl)) ?_; (with_reducible refine (parryref22_Run.calls a0_0 a0_1 _ _ l0_2 _ _ l1_0 _ _ l1_1 t200 t203 _ ?side1 ?side2 ?side3 ?side4 ?side5 ?side6 A14.out).mono ?_); (case side1 => repeat (first | exact (Kd.C_below HR0_2.out HB.out) | (with_reducible refine Kd.C_alloc ?_ _) | (with_reducible refine Kd.C_drewN ?_ _) | (with_reducible refine Kd.C_drew ?_))); (case side2 => exact HC0_2.out); (case side3 => repeat (first | exact (Kd.C_below HR1_0.out HB.out) | (with_reducible refine Kd.C_alloc ?_ _) | (with_reducible refine Kd.C_drewN ?_ _) | (with_reducible refine Kd.C_drew ?_))); (case side4 => exact HC1_0.out); (case side5 => repeat (first | exact (Kd.C_below HR1_1.out HB.out) | (with_reducible refine Kd.C_alloc ?_ _) | (with_reducible refine Kd.C_drewN ?_ _) | (with_reducible refine Kd.C_drew ?_))); (case side6 => exact HC1_1.out); rintro e w30 ⟨v201, rfl, ho0, hb⟩; refine ⟨_, rfl, ?_⟩; have n0_ := Aside0.mk (Kd.R_elder' (by (with_reducible repeat (first | apply Kd.R_alloc | apply Kd.R_drewN | apply Kd.R_drew)); exact HO198.out) (Kd.R_base ho0) hb); have n1_ := Aside0.mk (Kd.R_lower (Kd.R_new' ho0 (Kd.R_lt (by (with_reducible repeat (first | apply Kd.R_alloc | apply Kd.R_drewN | apply Kd.R_drew)); exact HO198.out))) (below_size (by repeat (first | (with_reducible first | exact HB.out | apply below_alloc | apply pw_below_drewN | apply below_drew1 | refine below_set ?_ GE191.out | refine below_set ?_ GE192.out) | exact HB.out)))); have n2_ := Aside0.mk (blk_below (g := gb191) (o := .cells #[.int .i64 a0_0, .int .i64 a0_1, .slice A0_2 l0_2.length c0_2] 24 (0, 0)) (by (with_reducible repeat (first | refine blk_drewN ?_ _ | refine blk_drew ?_ | refine blk_alloc ?_ _)); exact BK191.out) hb); have n3_ := Aside0.mk (blk_below (g := gb192) (o := .cells #[.slice A1_0 l1_0.length c1_0, .slice A1_1 l1_1.length c1_1] 27 (0, 0)) (by (with_reducible repeat (first | refine blk_drewN ?_ _ | refine blk_drew ?_ | refine blk_alloc ?_ _)); exact BK192.out) hb); have n4_ := Aside0.mk (below_step (by repeat (first | (with_reducible first | exact HB.out | apply below_alloc | apply pw_below_drewN | apply below_drew1 | refine below_set ?_ GE191.out | refine below_set ?_ GE192.out) | exact HB.out)) hb); clear HO198; clear BK191; clear BK192; clear HB; have HO198 := n0_; have HO202 := n1_; have BK191 := n2_; have BK192 := n3_; have HB := n4_; clear n0_ n1_ n2_ n3_ n4_; (try clear hb); (try clear hb2); (try clear hk); (try clear hi); (try clear ho0); obtain ⟨Ao31, co31, eo31⟩ := Kd.R_slice HO198.out; subst eo31; obtain ⟨Ao32, co32, eo32⟩ := Kd.R_slice HO202.out; subst eo32) | (go_at_call 13; (with_reducible refine (parryref9_SameInts.calls k _ _ t196 _ _ t200 true _ ?side1 ?side2 ?side3 ?side4 A16.out).mono ?_); (case side1 => repeat (first | exact (Kd.R_reads' HO198.out).2.2 | (with_reducible refine Kd.C_alloc ?_ _) | (with_reducible refine Kd.C_drewN ?_ _) | (with_reducible refine Kd.C_drew ?_))); (case side2 => exact (Kd.R_reads' HO198.out).2.1); (case side3 => repeat (first | exact (Kd.R_reads' HO202.out).2.2 | (with_reducible refine Kd.C_alloc ?_ _) | (with_reducible refine Kd.C_drewN ?_ _) | (with_reducible refine Kd.C_drew ?_))); (case side4 => exact (Kd.R_reads' HO202.out).2.1); rintro e w' ⟨rfl, ⟨nd, rfl⟩⟩) | (go_at_call 10; (with_reducible refine (parrylaw23_awake.calls  t205 _ A18.out).mono ?_); rintro e w33 ⟨rfl, hb⟩; have n0_ := Aside0.mk (Kd.R_below (by (with_reducible repeat (first | apply Kd.R_alloc | apply Kd.R_drewN | apply Kd.R_drew)); exact HO198.out) hb); have n1_ := Aside0.mk (Kd.R_below (by (with_reducible repeat (first | apply Kd.R_alloc | apply Kd.R_drewN | apply Kd.R_drew)); exact HO202.out) hb); have n2_ := Aside0.mk (blk_below (g := gb191) (o := .cells #[.int .i64 a0_0, .int .i64 a0_1, .slice A0_2 l0_2.length c0_2] 24 (0, 0)) (by (with_reducible repeat (first | refine blk_drewN ?_ _ | refine blk_drew ?_ | refine blk_alloc ?_ _)); exact BK191.out) hb); have n3_ := Aside0.mk (blk_below (g := gb192) (o := .cells #[.slice A1_0 l1_0.length c1_0, .slice A1_1 l1_1.length c1_1] 27 (0, 0)) (by (with_reducible repeat (first | refine blk_drewN ?_ _ | refine blk_drew ?_ | refine blk_alloc ?_ _)); exact BK192.out) hb); have n4_ := Aside0.mk (below_step (by repeat (first | (with_reducible first | exact HB.out | apply below_alloc | apply pw_below_drewN | apply below_drew1 | refine below_set ?_ GE191.out | refine below_set ?_ GE192.out) | exact HB.out)) hb); clear HO198; clear HO202; clear BK191; clear BK192; clear HB; have HO198 := n0_; have HO202 := n1_; have BK191 := n2_; have BK192 := n3_; have HB := n4_; clear n0_ n1_ n2_ n3_ n4_; (try clear hb); (try clear hb2); (try clear hk); (try clear hi)))
        go_ret
        exact ⟨by first | rfl | (simp [errW_none, errW_some] <;> rfl) | (simp [*, errW_none, errW_some] <;> rfl), by repeat (first | (with_reducible first | exact HB.out | apply below_alloc | apply pw_below_drewN | apply below_drew1 | refine below_set ?_ GE191.out | refine below_set ?_ GE192.out) | exact HB.out)⟩
      · replace c17 := Bool.eq_false_iff.mpr c17
        subst c17
        have H1 : (some false) = some r := by rw [if_neg (show ¬ (false = true) by decide)] at H; exact H
        clear H
        have H := H1
        clear H1
        exact absurd ((Option.some.inj H).trans HRT.out) (by decide)
    · rw [if_neg c15] at H
      exact absurd ((Option.some.inj H).trans HRT.out) (by decide)

end Go.Proofs.Ytegaicoddnmemaa.P

