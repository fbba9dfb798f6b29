/- A part of the claim DomSizes. -/
import Derived.Test.YtofmfnbiondplaaQDomSizesa
import Derived.Test.YtofmfnbiondplaaQDomSizesb
import Derived.Test.YtofmfnbiondplaaQDomSizesc
import Derived.Test.YtofmfnbiondplaaQDomSizesd
import Derived.Test.YtofmfnbiondplaaQDomSizese
namespace Go.Proofs.Ytofmfnbiondplaa.P
open Go.RowKit Go.Proofs.YtofmfnbiondplaaW.PrintWords Go.Proofs.YtofmfnbiondplaaW.PrintLast Go.Proofs.YtofmfnbiondplaaW.PrintMore
attribute [local go_sem] max2_int min2_int max_two min_two max_three min_three max_four min_four   -- for this text's walks alone
set_option linter.unusedVariables false
set_option linter.unusedSimpArgs false

open Go.Proofs.Ytofmfnbiondplaa.X
mutual
def parryref1_State.j0 : Nat → List (S28) → List Int → Bool → Option (Int × Bool)
  | 0, _, _, _ => none
  | k + 1, x0, x1, x20 => if x20 = true then (some (0, false)) else (parryref1_State.l0 k x1 0 1 x0 (x0.length : Int) 0)
def parryref1_State.l0 : Nat → List Int → Int → Int → List (S28) → Int → Int → Option (Int × Bool)
  | 0, _, _, _, _, _, _ => none
  | k + 1, x1, x6, x7, x21, x22, x23 => if x23 < x22 then (if 0 ≤ x23 then (if x23 < (x21.length : Int) then (if x23 < (x1.length : Int) then (if (rd x1 x23) < ((rd_T28 x21 x23).f3) then (some (0, false)) else ((parryref1_Size.f ((rd_T28 x21 x23).f0) ((rd_T28 x21 x23).f1) ((rd_T28 x21 x23).f2) ((rd_T28 x21 x23).f3) ((rd_T28 x21 x23).f4)).bind fun t307 => (if (rd x1 x23) ≥ (wrap64 (((rd_T28 x21 x23).f3) + t307)) then (some (0, false)) else ((parryref1_Size.f ((rd_T28 x21 x23).f0) ((rd_T28 x21 x23).f1) ((rd_T28 x21 x23).f2) ((rd_T28 x21 x23).f3) ((rd_T28 x21 x23).f4)).bind fun t308 => (parryref1_State.l0 k x1 (wrap64 (x6 + (wrap64 ((wrap64 ((rd x1 x23) - ((rd_T28 x21 x23).f3))) * x7)))) (wrap64 (x7 * t308)) x21 x22 (wrap64 (x23 + 1))))))) else (none)) else (none)) else (none)) else (some (x6, true))
end
def parryref1_State.f (k : Nat) (l0 : List (S28)) (l1 : List Int) : Option (Int × Bool) := (parryref1_MayVars.f k l0).bind fun t303 => (if t303 = 0 then (parryref1_State.j0 k l0 l1 ((l1.length : Int) != (l0.length : Int))) else (parryref1_State.j0 k l0 l1 true))
theorem parryref1_State.mono_l : ∀ k, (∀ y0 y1 y2, LeO (parryref1_State.j0 k y0 y1 y2) (parryref1_State.j0 (k + 1) y0 y1 y2)) ∧ (∀ y0 y1 y2 y3 y4 y5, LeO (parryref1_State.l0 k y0 y1 y2 y3 y4 y5) (parryref1_State.l0 (k + 1) y0 y1 y2 y3 y4 y5))
  | 0 => ⟨fun _ _ _ r h => by simp [parryref1_State.j0] at h, fun _ _ _ _ _ _ r h => by simp [parryref1_State.l0] at h⟩
  | k + 1 => by
    obtain ⟨ih0, ih1⟩ := parryref1_State.mono_l k
    refine ⟨?_, ?_⟩
    · intro y0 y1 y2
      unfold parryref1_State.j0
      repeat' first
      | (with_reducible exact ih0 _ _ _)
      | (with_reducible exact ih1 _ _ _ _ _ _)
      | (with_reducible exact parryref1_MayVars.mono _ _)
      | (with_reducible exact LeO.refl _)
      | (with_reducible exact LeO.none _)
      | (with_reducible refine LeO.ite ?_ ?_)
      | (with_reducible refine LeO.bind ?_ (fun _ => ?_))
      | exact ih0 _ _ _
      | exact ih1 _ _ _ _ _ _
      | exact parryref1_MayVars.mono _ _
      | exact LeO.none _
      | refine LeO.ite ?_ ?_
      | refine LeO.bind ?_ (fun _ => ?_)
    · intro y0 y1 y2 y3 y4 y5
      unfold parryref1_State.l0
      repeat' first
      | (with_reducible exact ih0 _ _ _)
      | (with_reducible exact ih1 _ _ _ _ _ _)
      | (with_reducible exact parryref1_MayVars.mono _ _)
      | (with_reducible exact LeO.refl _)
      | (with_reducible exact LeO.none _)
      | (with_reducible refine LeO.ite ?_ ?_)
      | (with_reducible refine LeO.bind ?_ (fun _ => ?_))
      | exact ih0 _ _ _
      | exact ih1 _ _ _ _ _ _
      | exact parryref1_MayVars.mono _ _
      | exact LeO.none _
      | refine LeO.ite ?_ ?_
      | refine LeO.bind ?_ (fun _ => ?_)
theorem parryref1_State.mono : ∀ a0 a1 k, LeO (parryref1_State.f k a0 a1) (parryref1_State.f (k + 1) a0 a1) := by
  intro a0 a1 k
  obtain ⟨ih0, ih1⟩ := parryref1_State.mono_l k
  unfold parryref1_State.f
  repeat' first
      | (with_reducible exact ih0 _ _ _)
      | (with_reducible exact ih1 _ _ _ _ _ _)
      | (with_reducible exact parryref1_MayVars.mono _ _)
      | (with_reducible exact LeO.refl _)
      | (with_reducible exact LeO.none _)
      | (with_reducible refine LeO.ite ?_ ?_)
      | (with_reducible refine LeO.bind ?_ (fun _ => ?_))
      | exact ih0 _ _ _
      | exact ih1 _ _ _ _ _ _
      | exact parryref1_MayVars.mono _ _
      | exact LeO.none _
      | refine LeO.ite ?_ ?_
      | refine LeO.bind ?_ (fun _ => ?_)
def parryref1_State.T8 : Bool × List (List Nat × List Nat) := (true, [([], []), ([], []), ([1], [1]), ([0, 2], [0, 2]), ([3], [3]), ([4], [4]), ([4], [4]), ([6, 4], [4, 6]), ([4], [4]), ([8, 4, 4], [4, 8]), ([7, 9, 4], [4, 7, 9]), ([5, 10, 4], [4, 5, 10]), ([4, 11], [4, 11])])
def parryref1_State.B8 : List Nat := [0, 0, 2, 7, 15, 31, 31, 95, 31, 287, 991, 2047, 4095]
theorem parryref1_State.tab8 : rtab .any (opsOf Try.f21 8) = parryref1_State.T8 := by kernel_rfl
theorem parryref1_State.bits8 : waitsOk parryref1_State.T8.2 parryref1_State.B8 = true := by kernel_rfl
set_option maxHeartbeats 8000000 in
set_option maxRecDepth 100000 in
theorem parryref1_State.calls (k : Nat) (A0 : Option Addr) (c0 : Nat) (l0 : List (S28)) (A1 : Option Addr) (c1 : Nat) (l1 : List Int) (r1 : Int) (r2 : Bool) (w : World) (hr0 : Kd.C k28 w A0 l0.length l0) (hc0 : l0.length ≤ c0) (hr1 : Kd.C (Kd.int .i64) w A1 l1.length l1) (hc1 : l1.length ≤ c1) (h : parryref1_State.f k l0 l1 = some (r1, r2)) :
    Calls Try.prog 21 #[.slice A0 l0.length c0, .slice A1 l1.length c1] w fun e w' => e = .returned (.tuple #[.int .i64 r1, .bool r2]) ∧ Below w.heap.size w w' := by
  have hu28 := Try.underlying28
  have HR0 := Aside0.mk hr0
  have HC0 := Aside0.mk hc0
  clear hr0 hc0
  have HR1 := Aside0.mk hr1
  have HC1 := Aside0.mk hc1
  clear hr1 hc1
  have HB := Aside0.mk (Below.refl w.heap.size w)
  have H : ((parryref1_MayVars.f k l0).bind fun t303 => (if t303 = 0 then (parryref1_State.j0 k l0 l1 ((l1.length : Int) != (l0.length : Int))) else (parryref1_State.j0 k l0 l1 true))) = some (r1, r2) := h
  clear h
  have HC3 := Aside0.mk H
  clear H
  go_enter Try.func21, Try.ntmps21
  go_upto_region 1 with (fail)
  go_cut [20] (fun v20 wc => ∃ (kq : Nat) (x20_2 : Bool), v20 = .bool x20_2 ∧ Aside0 (parryref1_State.j0 kq l0 l1 x20_2 = some (r1, r2)) ∧ Aside0 (kq ≤ k) ∧ Aside0 (Below w.heap.size w wc))
  case first =>
    have H := HC3.out
    clear HC3
    replace H := Option.bind_eq_some_iff.mp H
    obtain ⟨t303, A40, H⟩ := H
    replace H : (if t303 = 0 then (parryref1_State.j0 k l0 l1 ((l1.length : Int) != (l0.length : Int))) else (parryref1_State.j0 k l0 l1 true)) = some (r1, r2) := H
    have A4 := Aside0.mk A40
    clear A40
    by_cases c5 : t303 = 0
    · rw [if_pos c5] at H
      have c5b0 : (t303 == 0) = true := beq_iff_eq.mpr c5
      have c5b1 : (t303 != 0) = false := bne_eq_false_iff_eq.mpr c5
      clear c5
      (first | rw [c5b0] | (simp only [i64_w, i32_w]; rw [c5b0]) | skip)
      have H' := Aside0.mk H
      clear H
      go_wp2_with (first | ((with_reducible refine gate_callee (f := 17) rfl ?_); refine goesL_ (some 12) rfl rfl Try.func17 (by kernel_rfl) rfl #[.slice A0 l0.length c0] rfl (by (try simp only [List.map_toArray, List.map_cons, List.map_nil]); first | done | rfl | (simp only [List.length_drop, List.length_take]; rfl)) ?_; (with_reducible refine (parryref1_MayVars.calls k _ _ l0 t303 _ ?side1 ?side2 A4.out).mono ?_); (case side1 => repeat (first | exact (Kd.C_below HR0.out HB.out) | (with_reducible refine Kd.C_alloc ?_ _) | (with_reducible refine Kd.C_drewN ?_ _) | (with_reducible refine Kd.C_drew ?_))); (case side2 => exact HC0.out); rintro e w6 ⟨rfl, hb⟩; refine ⟨_, rfl, ?_⟩; have n0_ := Aside0.mk (below_step (by repeat (first | (with_reducible first | exact HB.out | apply below_alloc | apply pw_below_drewN | apply below_drew1) | exact HB.out)) hb); clear HB; have HB := n0_; clear n0_; (try clear hb); (try clear hb2); (try clear hk); (try clear hi)))
      go_meet
      case rel => exact ⟨_, (((l1.length : Int) != (l0.length : Int))), (by first | rfl | (simp; done) | (simp [*]; done)), H', ⟨by first | omega | exact Nat.le_refl _⟩, ⟨by repeat (first | (with_reducible first | exact HB.out | apply below_alloc | apply pw_below_drewN | apply below_drew1) | exact HB.out)⟩⟩
    · rw [if_neg c5] at H
      have c5b0 : (t303 == 0) = false := beq_eq_false_iff_ne.mpr c5
      have c5b1 : (t303 != 0) = true := bne_iff_ne.mpr c5
      (first | rw [c5b0] | (simp only [i64_w, i32_w]; rw [c5b0]) | skip)
      have H' := Aside0.mk H
      clear H
      go_wp2_with (first | ((with_reducible refine gate_callee (f := 17) rfl ?_); refine goesL_ (some 12) rfl rfl Try.func17 (by kernel_rfl) rfl #[.slice A0 l0.length c0] rfl (by (try simp only [List.map_toArray, List.map_cons, List.map_nil]); first | done | rfl | (simp only [List.length_drop, List.length_take]; rfl)) ?_; (with_reducible refine (parryref1_MayVars.calls k _ _ l0 t303 _ ?side1 ?side2 A4.out).mono ?_); (case side1 => repeat (first | exact (Kd.C_below HR0.out HB.out) | (with_reducible refine Kd.C_alloc ?_ _) | (with_reducible refine Kd.C_drewN ?_ _) | (with_reducible refine Kd.C_drew ?_))); (case side2 => exact HC0.out); rintro e w7 ⟨rfl, hb⟩; refine ⟨_, rfl, ?_⟩; have n0_ := Aside0.mk (below_step (by repeat (first | (with_reducible first | exact HB.out | apply below_alloc | apply pw_below_drewN | apply below_drew1) | exact HB.out)) hb); clear HB; have HB := n0_; clear n0_; (try clear hb); (try clear hb2); (try clear hk); (try clear hi)))
      go_meet
      case rel => exact ⟨_, (true), (by first | rfl | (simp; done) | (simp [*]; done)), H', ⟨by first | omega | exact Nat.le_refl _⟩, ⟨by repeat (first | (with_reducible first | exact HB.out | apply below_alloc | apply pw_below_drewN | apply below_drew1) | exact HB.out)⟩⟩
  case rest =>
    clear HC3
    try clear c1
    try clear c2
    try clear p2
    try clear c5
    try clear c5b0
    try clear c5b1
    obtain ⟨kq, x20_2, rfl, HA, HJ2, HB⟩ := hcut
    cases kq with
    | zero => exact absurd HA.out (by simp [parryref1_State.j0])
    | succ kj2 =>
      have H := HA.out
      clear HA
      simp only [parryref1_State.j0] at H
      by_cases c8 : x20_2 = true
      · subst c8
        have H1 : (some (0, false)) = some (r1, r2) := by rw [if_pos rfl] at H; exact H
        clear H
        have H := H1
        clear H1
        simp only [Option.some.injEq, Prod.mk.injEq] at H
        obtain ⟨rfl, rfl⟩ := H
        go_wp2
        go_ret2
        exact ⟨by first | rfl | (simp [errW_none, errW_some] <;> rfl) | (simp [*, errW_none, errW_some] <;> rfl), by repeat (first | (with_reducible first | exact HB.out | apply below_alloc | apply pw_below_drewN | apply below_drew1) | exact HB.out)⟩
      · replace c8 := Bool.eq_false_iff.mpr c8
        subst c8
        have H1 : (parryref1_State.l0 kj2 l1 0 1 l0 (l0.length : Int) 0) = some (r1, r2) := by rw [if_neg (show ¬ (false = true) by decide)] at H; exact H
        clear H
        have H := H1
        clear H1
        have H' := Aside0.mk H
        clear H
        go_wp2
        go_loopg [6, 7, 23] kj2 (fun kq v6 v7 v23 w' => ∃ (x6_2 : Int) (x7_2 : Int) (x23_2 : Int), v6 = .int .i64 x6_2 ∧ v7 = .int .i64 x7_2 ∧ v23 = .int .i64 x23_2 ∧ Aside0 (parryref1_State.l0 kq l1 x6_2 x7_2 l0 (l0.length : Int) x23_2 = some (r1, r2)) ∧ Aside0 (kq ≤ kj2) ∧ Aside0 (Below w.heap.size w w'))
        case atStart => exact ⟨(0), (1), (0), (by first | rfl | (simp; done) | (simp [*]; done)), (by first | rfl | (simp; done) | (simp [*]; done)), (by first | rfl | (simp; done) | (simp [*]; done)), H', ⟨Nat.le_refl _⟩, ⟨by repeat (first | (with_reducible first | exact HB.out | apply below_alloc | apply pw_below_drewN | apply below_drew1) | exact HB.out)⟩⟩
        case round =>
          clear H'
          try clear c1
          try clear c2
          try clear p2
          try clear c5
          try clear c5b0
          try clear c5b1
          try clear c8
          try clear p2
          obtain ⟨x6_2, x7_2, x23_2, rfl, rfl, rfl, HA, HK2, HB⟩ := hrel
          cases gk with
          | zero => exact absurd HA.out (by simp [parryref1_State.l0])
          | succ k2 =>
            have H := HA.out
            clear HA
            simp only [parryref1_State.l0] at H
            by_cases c9 : x23_2 < (l0.length : Int)
            · rw [if_pos c9] at H
              have c9b0 : decide (x23_2 < (l0.length : Int)) = true := decide_eq_true c9
              clear c9
              by_cases c10 : 0 ≤ x23_2
              · rw [if_pos c10] at H
                have c10b0 : decide (0 ≤ x23_2) = true := decide_eq_true c10
                clear c10
                by_cases c11 : x23_2 < (l0.length : Int)
                · rw [if_pos c11] at H
                  have c11b0 : decide (x23_2 < (l0.length : Int)) = true := decide_eq_true c11
                  clear c11
                  by_cases c12 : x23_2 < (l1.length : Int)
                  · rw [if_pos c12] at H
                    have c12b0 : decide (x23_2 < (l1.length : Int)) = true := decide_eq_true c12
                    clear c12
                    by_cases c13 : (rd l1 x23_2) < ((rd_T28 l0 x23_2).f3)
                    · rw [if_pos c13] at H
                      have c13b0 : decide ((rd l1 x23_2) < ((rd_T28 l0 x23_2).f3)) = true := decide_eq_true c13
                      clear c13
                      simp only [Option.some.injEq, Prod.mk.injEq] at H
                      obtain ⟨rfl, rfl⟩ := H
                      have p304 : 0 ≤ (x23_2 : Int) := of_decide_eq_true (by first | (with_reducible assumption) | assumption)
                      have q304 : x23_2 < (l0.length : Int) := of_decide_eq_true (by first | (with_reducible assumption) | assumption)
                      obtain ⟨ad304, e304, hx304_0, hx304_1, hx304_2, hx304_3, hx304_4⟩ := at_T28 HR0.out x23_2 p304 q304
                      cases e304
                      replace hx304_0 := (HB.out.cell (World.block_lt_of_cell? w _ hx304_0)).trans hx304_0
                      replace hx304_1 := (HB.out.cell (World.block_lt_of_cell? w _ hx304_1)).trans hx304_1
                      replace hx304_2 := (HB.out.cell (World.block_lt_of_cell? w _ hx304_2)).trans hx304_2
                      replace hx304_3 := (HB.out.cell (World.block_lt_of_cell? w _ hx304_3)).trans hx304_3
                      replace hx304_4 := (HB.out.cell (World.block_lt_of_cell? w _ hx304_4)).trans hx304_4
                      replace p304 := eq_true p304
                      replace q304 := eq_true q304
                      try go_wp2_with (first | ((with_reducible refine gate_dst (N := 9) rfl ?_); (try (refine gate_guard (by rfl) ?_; dsimp only)); refine box_event ?hg (N := 9) ?hd (cs := #[.string (⟨#[]⟩ : ByteArray), .bool false, .int .i64 0, .int .i64 0, .int .i64 0]) (t := 28) ?hr ?_; (case hd => rfl); (case hg => rfl); (case hr => first | (go_simp; done) | (go_simp; rfl)); intro gb305 hg w14 hbox hb; have n0_ := Aside0.mk (below_step (by repeat (first | (with_reducible first | exact HB.out | apply below_alloc | apply pw_below_drewN | apply below_drew1) | exact HB.out)) hb); have n1_ := Aside0.mk (hbox); have n2_ := Aside0.mk ((by rw [hg]; exact (below_size (by repeat (first | (with_reducible first | exact HB.out | apply below_alloc | apply pw_below_drewN | apply below_drew1) | exact HB.out))) : w.heap.size ≤ gb305)); have n3_ := Aside0.mk ((by rw [hg]; exact (below_size (by repeat (first | (with_reducible first | exact HB.out | apply below_alloc | apply pw_below_drewN | apply below_drew1) | exact HB.out))) : w.heap.size ≤ gb305)); clear HB; have HB := n0_; have BK305 := n1_; have GW305 := n2_; have GE305 := n3_; clear n0_ n1_ n2_ n3_; clear hb hbox hg; have hcz15_0 : w14.cell? ⟨gb305, 0, none⟩ = some (.string (⟨#[]⟩ : ByteArray)) := (blk_cell BK305.out 0).trans rfl; have hcz15_1 : w14.cell? ⟨gb305, 1, none⟩ = some (.bool false) := (blk_cell BK305.out 1).trans rfl; have hcz15_2 : w14.cell? ⟨gb305, 2, none⟩ = some (.int .i64 0) := (blk_cell BK305.out 2).trans rfl; have hcz15_3 : w14.cell? ⟨gb305, 3, none⟩ = some (.int .i64 0) := (blk_cell BK305.out 3).trans rfl; have hcz15_4 : w14.cell? ⟨gb305, 4, none⟩ = some (.int .i64 0) := (blk_cell BK305.out 4).trans rfl; have hfz15_0 := blk_frozen BK305.out 0; have hfz15_1 := blk_frozen BK305.out 1; have hfz15_2 := blk_frozen BK305.out 2; have hfz15_3 := blk_frozen BK305.out 3; have hfz15_4 := blk_frozen BK305.out 4; have p306 : 0 ≤ (x23_2 : Int) := of_decide_eq_true (by first | (with_reducible assumption) | assumption); have q306 : x23_2 < (l1.length : Int) := of_decide_eq_true (by first | (with_reducible assumption) | assumption); obtain ⟨ad306, e306, hx306_0⟩ := Kd.at_int HR1.out x23_2 p306 q306; cases e306; have hn306_0 : ad306.block ≠ gb305 := Nat.ne_of_lt (Nat.lt_of_lt_of_le (by have := World.block_lt_of_cell? _ _ hx306_0; first | rwa [add_block] at this | exact this) GW305.out); have hn306_1 : ad306.block ≠ gb305 := Nat.ne_of_lt (Nat.lt_of_lt_of_le (by have := World.block_lt_of_cell? _ _ hx306_0; first | rwa [add_block] at this | exact this) GW305.out); have hn306_2 : ad306.block ≠ gb305 := Nat.ne_of_lt (Nat.lt_of_lt_of_le (by have := World.block_lt_of_cell? _ _ hx306_0; first | rwa [add_block] at this | exact this) GW305.out); have hn306_3 : ad306.block ≠ gb305 := Nat.ne_of_lt (Nat.lt_of_lt_of_le (by have := World.block_lt_of_cell? _ _ hx306_0; first | rwa [add_block] at this | exact this) GW305.out); have hn306_4 : ad306.block ≠ gb305 := Nat.ne_of_lt (Nat.lt_of_lt_of_le (by have := World.block_lt_of_cell? _ _ hx306_0; first | rwa [add_block] at this | exact this) GW305.out); replace hx306_0 := (HB.out.cell (World.block_lt_of_cell? w _ hx306_0)).trans hx306_0; replace hx306_0 := (cell_far (p := ⟨gb305, 0, none⟩) (by first | (rw [add_block]; exact hn306_0) | (show (Addr.add _ _).block ≠ _; rw [add_block]; exact hn306_0) | exact hn306_0) (.string ((rd_T28 l0 x23_2).f0))).trans hx306_0; replace hx306_0 := (cell_far (p := ⟨gb305, 1, none⟩) (by first | (rw [add_block]; exact hn306_1) | (show (Addr.add _ _).block ≠ _; rw [add_block]; exact hn306_1) | exact hn306_1) (.bool ((rd_T28 l0 x23_2).f1))).trans hx306_0; replace hx306_0 := (cell_far (p := ⟨gb305, 2, none⟩) (by first | (rw [add_block]; exact hn306_2) | (show (Addr.add _ _).block ≠ _; rw [add_block]; exact hn306_2) | exact hn306_2) (.int .i64 ((rd_T28 l0 x23_2).f2))).trans hx306_0; replace hx306_0 := (cell_far (p := ⟨gb305, 3, none⟩) (by first | (rw [add_block]; exact hn306_3) | (show (Addr.add _ _).block ≠ _; rw [add_block]; exact hn306_3) | exact hn306_3) (.int .i64 ((rd_T28 l0 x23_2).f3))).trans hx306_0; replace hx306_0 := (cell_far (p := ⟨gb305, 4, none⟩) (by first | (rw [add_block]; exact hn306_4) | (show (Addr.add _ _).block ≠ _; rw [add_block]; exact hn306_4) | exact hn306_4) (.int .i64 ((rd_T28 l0 x23_2).f4))).trans hx306_0; clear hn306_0; clear hn306_1; clear hn306_2; clear hn306_3; clear hn306_4; replace p306 := eq_true p306; replace q306 := eq_true q306))
                      have n0_ : Aside0 ((((((w14.setCell ⟨gb305, 0, none⟩ (.string ((rd_T28 l0 x23_2).f0))).setCell ⟨gb305, 1, none⟩ (.bool ((rd_T28 l0 x23_2).f1))).setCell ⟨gb305, 2, none⟩ (.int .i64 ((rd_T28 l0 x23_2).f2))).setCell ⟨gb305, 3, none⟩ (.int .i64 ((rd_T28 l0 x23_2).f3))).setCell ⟨gb305, 4, none⟩ (.int .i64 ((rd_T28 l0 x23_2).f4))).heap[gb305]? = some (.cells #[.string ((rd_T28 l0 x23_2).f0), .bool ((rd_T28 l0 x23_2).f1), .int .i64 ((rd_T28 l0 x23_2).f2), .int .i64 ((rd_T28 l0 x23_2).f3), .int .i64 ((rd_T28 l0 x23_2).f4)] 28 (0, 0))) := ⟨by (with_reducible repeat (first | refine blk_drewN ?_ _ | refine blk_drew ?_ | refine blk_alloc ?_ _)); refine blk_put (cs := #[.string ((rd_T28 l0 x23_2).f0), .bool ((rd_T28 l0 x23_2).f1), .int .i64 ((rd_T28 l0 x23_2).f2), .int .i64 ((rd_T28 l0 x23_2).f3), .int .i64 0]) ?_ 4 _ rfl; (with_reducible repeat (first | refine blk_drewN ?_ _ | refine blk_drew ?_ | refine blk_alloc ?_ _)); refine blk_put (cs := #[.string ((rd_T28 l0 x23_2).f0), .bool ((rd_T28 l0 x23_2).f1), .int .i64 ((rd_T28 l0 x23_2).f2), .int .i64 0, .int .i64 0]) ?_ 3 _ rfl; (with_reducible repeat (first | refine blk_drewN ?_ _ | refine blk_drew ?_ | refine blk_alloc ?_ _)); refine blk_put (cs := #[.string ((rd_T28 l0 x23_2).f0), .bool ((rd_T28 l0 x23_2).f1), .int .i64 0, .int .i64 0, .int .i64 0]) ?_ 2 _ rfl; (with_reducible repeat (first | refine blk_drewN ?_ _ | refine blk_drew ?_ | refine blk_alloc ?_ _)); refine blk_put (cs := #[.string ((rd_T28 l0 x23_2).f0), .bool false, .int .i64 0, .int .i64 0, .int .i64 0]) ?_ 1 _ rfl; (with_reducible repeat (first | refine blk_drewN ?_ _ | refine blk_drew ?_ | refine blk_alloc ?_ _)); refine blk_put (cs := #[.string (⟨#[]⟩ : ByteArray), .bool false, .int .i64 0, .int .i64 0, .int .i64 0]) ?_ 0 _ rfl; (with_reducible repeat (first | refine blk_drewN ?_ _ | refine blk_drew ?_ | refine blk_alloc ?_ _)); exact BK305.out⟩
                      have n1_ : Aside0 (Below w.heap.size w (((((w14.setCell ⟨gb305, 0, none⟩ (.string ((rd_T28 l0 x23_2).f0))).setCell ⟨gb305, 1, none⟩ (.bool ((rd_T28 l0 x23_2).f1))).setCell ⟨gb305, 2, none⟩ (.int .i64 ((rd_T28 l0 x23_2).f2))).setCell ⟨gb305, 3, none⟩ (.int .i64 ((rd_T28 l0 x23_2).f3))).setCell ⟨gb305, 4, none⟩ (.int .i64 ((rd_T28 l0 x23_2).f4)))) := ⟨by repeat (first | (with_reducible first | exact HB.out | apply below_alloc | apply pw_below_drewN | apply below_drew1 | refine below_set ?_ GE305.out) | exact HB.out)⟩
                      (try clear BK305)
                      (try clear HB)
                      generalize (((((w14.setCell ⟨gb305, 0, none⟩ (.string ((rd_T28 l0 x23_2).f0))).setCell ⟨gb305, 1, none⟩ (.bool ((rd_T28 l0 x23_2).f1))).setCell ⟨gb305, 2, none⟩ (.int .i64 ((rd_T28 l0 x23_2).f2))).setCell ⟨gb305, 3, none⟩ (.int .i64 ((rd_T28 l0 x23_2).f3))).setCell ⟨gb305, 4, none⟩ (.int .i64 ((rd_T28 l0 x23_2).f4))) = w16 at n0_ n1_ ⊢
                      have BK305 := n0_
                      have HB := n1_
                      clear n0_ n1_
                      have n0_ := Aside0.mk (blk_drew BK305.out)
                      have n1_ := Aside0.mk (below_drew1 HB.out)
                      clear BK305
                      clear HB
                      have BK305 := n0_
                      have HB := n1_
                      clear n0_ n1_
                      refine start_ (n := 13) (S := fun w' => w'.cell? ⟨gb305, 0, none⟩ = some (.string ((rd_T28 l0 x23_2).f0)) ∧ w'.cell? ⟨gb305, 1, none⟩ = some (.bool ((rd_T28 l0 x23_2).f1)) ∧ w'.cell? ⟨gb305, 2, none⟩ = some (.int .i64 ((rd_T28 l0 x23_2).f2)) ∧ w'.cell? ⟨gb305, 3, none⟩ = some (.int .i64 ((rd_T28 l0 x23_2).f3)) ∧ w'.cell? ⟨gb305, 4, none⟩ = some (.int .i64 ((rd_T28 l0 x23_2).f4))) (ds := []) #[false, false, false, false, false, false, false, false, false, false, false, false, false] (by kernel_rfl) rfl rfl ⟨(blk_cell BK305.out 0).trans rfl, (blk_cell BK305.out 1).trans rfl, (blk_cell BK305.out 2).trans rfl, (blk_cell BK305.out 3).trans rfl, (blk_cell BK305.out 4).trans rfl⟩ (fun hHeld => ?_); refine with_tabW parryref1_State.tab8 parryref1_State.bits8 (fun HT_ HW_ => ?_)
                      generalize w16.drew = w17 at BK305 HB hHeld ⊢
                      refine pure_ (i := 0) (N := some 32) (v := ?_) (a' := ?_) #[true, false, false, false, false, false, false, false, false, false, false, false, false] rfl rfl (any_of HT_.out (by kernel_rfl)) (fun _ _ _ h => h) (Or.inl ⟨by rfl, ?_⟩) ?_ ?_
                      rotate_left
                      · intro w'
                        go_simp
                        with_reducible rfl
                      rotate_left
                      · simp only [Act.put, List.setIfInBounds_toArray, List.set_cons_zero, List.set_cons_succ, i64_w, i32_w]
                        rfl
                      refine pure_ (i := 1) (N := some 33) (v := ?_) (a' := ?_) #[true, true, false, false, false, false, false, false, false, false, false, false, false] rfl rfl (any_of HT_.out (by kernel_rfl)) (fun _ _ _ h => h) (Or.inl ⟨by rfl, ?_⟩) ?_ ?_
                      rotate_left
                      · intro w'
                        go_simp
                        with_reducible rfl
                      rotate_left
                      · simp only [Act.put, List.setIfInBounds_toArray, List.set_cons_zero, List.set_cons_succ, i64_w, i32_w]
                        rfl
                      refine take_ (i := 2) (N := some 34) (v := ?_) (a' := ?_) #[true, true, true, false, false, false, false, false, false, false, false, false, false] rfl rfl (take_ofW HT_.out HW_.out (by kernel_rfl)) (fun _ _ _ h => h) (Or.inl ⟨by rfl, ?_⟩) hHeld ?_ ?_
                      rotate_left
                      · rintro w' ⟨s0, s1, s2, s3, s4⟩
                        go_simp
                        with_reducible rfl
                      rotate_left
                      · simp only [Act.put, List.setIfInBounds_toArray, List.set_cons_zero, List.set_cons_succ, i64_w, i32_w]
                        rfl
                      refine pure_ (i := 3) (N := some 35) (v := ?_) (a' := ?_) #[true, true, true, true, false, false, false, false, false, false, false, false, false] rfl rfl (any_of HT_.out (by kernel_rfl)) (fun _ _ _ h => h) (Or.inl ⟨by rfl, ?_⟩) ?_ ?_
                      rotate_left
                      · intro w'
                        go_simp
                        with_reducible rfl
                      rotate_left
                      · simp only [Act.put, List.setIfInBounds_toArray, List.set_cons_zero, List.set_cons_succ, i64_w, i32_w]
                        rfl
                      refine pure_ (i := 4) (N := some 36) (v := ?_) (a' := ?_) #[true, true, true, true, true, false, false, false, false, false, false, false, false] rfl rfl (any_of HT_.out (by kernel_rfl)) (fun _ _ _ h => h) (Or.inl ⟨by rfl, ?_⟩) ?_ ?_
                      rotate_left
                      · intro w'
                        go_simp
                        with_reducible rfl
                      rotate_left
                      · simp only [Act.put, List.setIfInBounds_toArray, List.set_cons_zero, List.set_cons_succ, i64_w, i32_w]
                        rfl
                      refine pure_ (i := 5) (N := some 37) (v := undef) (a' := ?_) #[true, true, true, true, true, true, false, false, false, false, false, false, false] rfl rfl (any_of HT_.out (by kernel_rfl)) (fun _ _ _ h => h) (Or.inr ⟨by rfl, rfl⟩) ?_ ?_
                      rotate_left
                      · simp only [Act.put, List.setIfInBounds_toArray, List.set_cons_zero, List.set_cons_succ, i64_w, i32_w]
                        rfl
                      refine pure_ (i := 6) (N := some 38) (v := undef) (a' := ?_) #[true, true, true, true, true, true, true, false, false, false, false, false, false] rfl rfl (any_of HT_.out (by kernel_rfl)) (fun _ _ _ h => h) (Or.inr ⟨by rfl, rfl⟩) ?_ ?_
                      rotate_left
                      · simp only [Act.put, List.setIfInBounds_toArray, List.set_cons_zero, List.set_cons_succ, i64_w, i32_w]
                        rfl
                      refine pure_ (i := 7) (N := some 39) (v := undef) (a' := ?_) #[true, true, true, true, true, true, true, true, false, false, false, false, false] rfl rfl (any_of HT_.out (by kernel_rfl)) (fun _ _ _ h => h) (Or.inr ⟨by rfl, rfl⟩) ?_ ?_
                      rotate_left
                      · simp only [Act.put, List.setIfInBounds_toArray, List.set_cons_zero, List.set_cons_succ, i64_w, i32_w]
                        rfl
                      refine pure_ (i := 8) (N := some 40) (v := undef) (a' := ?_) #[true, true, true, true, true, true, true, true, true, false, false, false, false] rfl rfl (any_of HT_.out (by kernel_rfl)) (fun _ _ _ h => h) (Or.inr ⟨by rfl, rfl⟩) ?_ ?_
                      rotate_left
                      · simp only [Act.put, List.setIfInBounds_toArray, List.set_cons_zero, List.set_cons_succ, i64_w, i32_w]
                        rfl
                      refine pure_ (i := 9) (N := some 41) (v := undef) (a' := ?_) #[true, true, true, true, true, true, true, true, true, true, false, false, false] rfl rfl (any_of HT_.out (by kernel_rfl)) (fun _ _ _ h => h) (Or.inr ⟨by rfl, rfl⟩) ?_ ?_
                      rotate_left
                      · simp only [Act.put, List.setIfInBounds_toArray, List.set_cons_zero, List.set_cons_succ, i64_w, i32_w]
                        rfl
                      refine pure_ (i := 10) (N := some 42) (v := undef) (a' := ?_) #[true, true, true, true, true, true, true, true, true, true, true, false, false] rfl rfl (any_of HT_.out (by kernel_rfl)) (fun _ _ _ h => h) (Or.inr ⟨by rfl, rfl⟩) ?_ ?_
                      rotate_left
                      · simp only [Act.put, List.setIfInBounds_toArray, List.set_cons_zero, List.set_cons_succ, i64_w, i32_w]
                        rfl
                      refine pure_ (i := 11) (N := some 43) (v := undef) (a' := ?_) #[true, true, true, true, true, true, true, true, true, true, true, true, false] rfl rfl (any_of HT_.out (by kernel_rfl)) (fun _ _ _ h => h) (Or.inr ⟨by rfl, rfl⟩) ?_ ?_
                      rotate_left
                      · simp only [Act.put, List.setIfInBounds_toArray, List.set_cons_zero, List.set_cons_succ, i64_w, i32_w]
                        rfl
                      refine pure_ (i := 12) (N := some 44) (v := ?_) (a' := ?_) #[true, true, true, true, true, true, true, true, true, true, true, true, true] rfl rfl (any_of HT_.out (by kernel_rfl)) (fun _ _ _ h => h) (Or.inl ⟨by rfl, ?_⟩) ?_ ?_
                      rotate_left
                      · intro w'
                        go_simp
                        with_reducible rfl
                      rotate_left
                      · simp only [Act.put, List.setIfInBounds_toArray, List.set_cons_zero, List.set_cons_succ, i64_w, i32_w]
                        rfl
                      refine done_ (done_of HT_.out (by kernel_rfl)) ?_
                      try go_wp2
                      go_ret2
                      exact ⟨by first | rfl | (simp [errW_none, errW_some] <;> rfl) | (simp [*, errW_none, errW_some] <;> rfl), by repeat (first | (with_reducible first | exact HB.out | apply below_alloc | apply pw_below_drewN | apply below_drew1 | refine below_set ?_ GE305.out) | exact HB.out)⟩
                    · rw [if_neg c13] at H
                      have c13b0 : decide ((rd l1 x23_2) < ((rd_T28 l0 x23_2).f3)) = false := decide_eq_false c13
                      clear c13
                      replace H := Option.bind_eq_some_iff.mp H
                      obtain ⟨t307, A180, H⟩ := H
                      replace H : (if (rd l1 x23_2) ≥ (wrap64 (((rd_T28 l0 x23_2).f3) + t307)) then (some (0, false)) else ((parryref1_Size.f ((rd_T28 l0 x23_2).f0) ((rd_T28 l0 x23_2).f1) ((rd_T28 l0 x23_2).f2) ((rd_T28 l0 x23_2).f3) ((rd_T28 l0 x23_2).f4)).bind fun t308 => (parryref1_State.l0 k2 l1 (wrap64 (x6_2 + (wrap64 ((wrap64 ((rd l1 x23_2) - ((rd_T28 l0 x23_2).f3))) * x7_2)))) (wrap64 (x7_2 * t308)) l0 (l0.length : Int) (wrap64 (x23_2 + 1))))) = some (r1, r2) := H
                      have A18 := Aside0.mk A180
                      clear A180
                      by_cases c19 : (rd l1 x23_2) ≥ (wrap64 (((rd_T28 l0 x23_2).f3) + t307))
                      · rw [if_pos c19] at H
                        have c19b0 : decide ((wrap64 (((rd_T28 l0 x23_2).f3) + t307)) ≤ (rd l1 x23_2)) = true := decide_eq_true c19
                        clear c19
                        simp only [Option.some.injEq, Prod.mk.injEq] at H
                        obtain ⟨rfl, rfl⟩ := H
                        have p304 : 0 ≤ (x23_2 : Int) := of_decide_eq_true (by first | (with_reducible assumption) | assumption)
                        have q304 : x23_2 < (l0.length : Int) := of_decide_eq_true (by first | (with_reducible assumption) | assumption)
                        obtain ⟨ad304, e304, hx304_0, hx304_1, hx304_2, hx304_3, hx304_4⟩ := at_T28 HR0.out x23_2 p304 q304
                        cases e304
                        replace hx304_0 := (HB.out.cell (World.block_lt_of_cell? w _ hx304_0)).trans hx304_0
                        replace hx304_1 := (HB.out.cell (World.block_lt_of_cell? w _ hx304_1)).trans hx304_1
                        replace hx304_2 := (HB.out.cell (World.block_lt_of_cell? w _ hx304_2)).trans hx304_2
                        replace hx304_3 := (HB.out.cell (World.block_lt_of_cell? w _ hx304_3)).trans hx304_3
                        replace hx304_4 := (HB.out.cell (World.block_lt_of_cell? w _ hx304_4)).trans hx304_4
                        replace p304 := eq_true p304
                        replace q304 := eq_true q304
                        try go_wp2_with (first | ((with_reducible refine gate_dst (N := 9) rfl ?_); (try (refine gate_guard (by rfl) ?_; dsimp only)); refine box_event ?hg (N := 9) ?hd (cs := #[.string (⟨#[]⟩ : ByteArray), .bool false, .int .i64 0, .int .i64 0, .int .i64 0]) (t := 28) ?hr ?_; (case hd => rfl); (case hg => rfl); (case hr => first | (go_simp; done) | (go_simp; rfl)); intro gb305 hg w20 hbox hb; have n0_ := Aside0.mk (below_step (by repeat (first | (with_reducible first | exact HB.out | apply below_alloc | apply pw_below_drewN | apply below_drew1) | exact HB.out)) hb); have n1_ := Aside0.mk (hbox); have n2_ := Aside0.mk ((by rw [hg]; exact (below_size (by repeat (first | (with_reducible first | exact HB.out | apply below_alloc | apply pw_below_drewN | apply below_drew1) | exact HB.out))) : w.heap.size ≤ gb305)); have n3_ := Aside0.mk ((by rw [hg]; exact (below_size (by repeat (first | (with_reducible first | exact HB.out | apply below_alloc | apply pw_below_drewN | apply below_drew1) | exact HB.out))) : w.heap.size ≤ gb305)); clear HB; have HB := n0_; have BK305 := n1_; have GW305 := n2_; have GE305 := n3_; clear n0_ n1_ n2_ n3_; clear hb hbox hg; have hcz21_0 : w20.cell? ⟨gb305, 0, none⟩ = some (.string (⟨#[]⟩ : ByteArray)) := (blk_cell BK305.out 0).trans rfl; have hcz21_1 : w20.cell? ⟨gb305, 1, none⟩ = some (.bool false) := (blk_cell BK305.out 1).trans rfl; have hcz21_2 : w20.cell? ⟨gb305, 2, none⟩ = some (.int .i64 0) := (blk_cell BK305.out 2).trans rfl; have hcz21_3 : w20.cell? ⟨gb305, 3, none⟩ = some (.int .i64 0) := (blk_cell BK305.out 3).trans rfl; have hcz21_4 : w20.cell? ⟨gb305, 4, none⟩ = some (.int .i64 0) := (blk_cell BK305.out 4).trans rfl; have hfz21_0 := blk_frozen BK305.out 0; have hfz21_1 := blk_frozen BK305.out 1; have hfz21_2 := blk_frozen BK305.out 2; have hfz21_3 := blk_frozen BK305.out 3; have hfz21_4 := blk_frozen BK305.out 4; have p306 : 0 ≤ (x23_2 : Int) := of_decide_eq_true (by first | (with_reducible assumption) | assumption); have q306 : x23_2 < (l1.length : Int) := of_decide_eq_true (by first | (with_reducible assumption) | assumption); obtain ⟨ad306, e306, hx306_0⟩ := Kd.at_int HR1.out x23_2 p306 q306; cases e306; have hn306_0 : ad306.block ≠ gb305 := Nat.ne_of_lt (Nat.lt_of_lt_of_le (by have := World.block_lt_of_cell? _ _ hx306_0; first | rwa [add_block] at this | exact this) GW305.out); have hn306_1 : ad306.block ≠ gb305 := Nat.ne_of_lt (Nat.lt_of_lt_of_le (by have := World.block_lt_of_cell? _ _ hx306_0; first | rwa [add_block] at this | exact this) GW305.out); have hn306_2 : ad306.block ≠ gb305 := Nat.ne_of_lt (Nat.lt_of_lt_of_le (by have := World.block_lt_of_cell? _ _ hx306_0; first | rwa [add_block] at this | exact this) GW305.out); have hn306_3 : ad306.block ≠ gb305 := Nat.ne_of_lt (Nat.lt_of_lt_of_le (by have := World.block_lt_of_cell? _ _ hx306_0; first | rwa [add_block] at this | exact this) GW305.out); have hn306_4 : ad306.block ≠ gb305 := Nat.ne_of_lt (Nat.lt_of_lt_of_le (by have := World.block_lt_of_cell? _ _ hx306_0; first | rwa [add_block] at this | exact this) GW305.out); replace hx306_0 := (HB.out.cell (World.block_lt_of_cell? w _ hx306_0)).trans hx306_0; replace hx306_0 := (cell_far (p := ⟨gb305, 0, none⟩) (by first | (rw [add_block]; exact hn306_0) | (show (Addr.add _ _).block ≠ _; rw [add_block]; exact hn306_0) | exact hn306_0) (.string ((rd_T28 l0 x23_2).f0))).trans hx306_0; replace hx306_0 := (cell_far (p := ⟨gb305, 1, none⟩) (by first | (rw [add_block]; exact hn306_1) | (show (Addr.add _ _).block ≠ _; rw [add_block]; exact hn306_1) | exact hn306_1) (.bool ((rd_T28 l0 x23_2).f1))).trans hx306_0; replace hx306_0 := (cell_far (p := ⟨gb305, 2, none⟩) (by first | (rw [add_block]; exact hn306_2) | (show (Addr.add _ _).block ≠ _; rw [add_block]; exact hn306_2) | exact hn306_2) (.int .i64 ((rd_T28 l0 x23_2).f2))).trans hx306_0; replace hx306_0 := (cell_far (p := ⟨gb305, 3, none⟩) (by first | (rw [add_block]; exact hn306_3) | (show (Addr.add _ _).block ≠ _; rw [add_block]; exact hn306_3) | exact hn306_3) (.int .i64 ((rd_T28 l0 x23_2).f3))).trans hx306_0; replace hx306_0 := (cell_far (p := ⟨gb305, 4, none⟩) (by first | (rw [add_block]; exact hn306_4) | (show (Addr.add _ _).block ≠ _; rw [add_block]; exact hn306_4) | exact hn306_4) (.int .i64 ((rd_T28 l0 x23_2).f4))).trans hx306_0; clear hn306_0; clear hn306_1; clear hn306_2; clear hn306_3; clear hn306_4; replace p306 := eq_true p306; replace q306 := eq_true q306))
                        have n0_ : Aside0 ((((((w20.setCell ⟨gb305, 0, none⟩ (.string ((rd_T28 l0 x23_2).f0))).setCell ⟨gb305, 1, none⟩ (.bool ((rd_T28 l0 x23_2).f1))).setCell ⟨gb305, 2, none⟩ (.int .i64 ((rd_T28 l0 x23_2).f2))).setCell ⟨gb305, 3, none⟩ (.int .i64 ((rd_T28 l0 x23_2).f3))).setCell ⟨gb305, 4, none⟩ (.int .i64 ((rd_T28 l0 x23_2).f4))).heap[gb305]? = some (.cells #[.string ((rd_T28 l0 x23_2).f0), .bool ((rd_T28 l0 x23_2).f1), .int .i64 ((rd_T28 l0 x23_2).f2), .int .i64 ((rd_T28 l0 x23_2).f3), .int .i64 ((rd_T28 l0 x23_2).f4)] 28 (0, 0))) := ⟨by (with_reducible repeat (first | refine blk_drewN ?_ _ | refine blk_drew ?_ | refine blk_alloc ?_ _)); refine blk_put (cs := #[.string ((rd_T28 l0 x23_2).f0), .bool ((rd_T28 l0 x23_2).f1), .int .i64 ((rd_T28 l0 x23_2).f2), .int .i64 ((rd_T28 l0 x23_2).f3), .int .i64 0]) ?_ 4 _ rfl; (with_reducible repeat (first | refine blk_drewN ?_ _ | refine blk_drew ?_ | refine blk_alloc ?_ _)); refine blk_put (cs := #[.string ((rd_T28 l0 x23_2).f0), .bool ((rd_T28 l0 x23_2).f1), .int .i64 ((rd_T28 l0 x23_2).f2), .int .i64 0, .int .i64 0]) ?_ 3 _ rfl; (with_reducible repeat (first | refine blk_drewN ?_ _ | refine blk_drew ?_ | refine blk_alloc ?_ _)); refine blk_put (cs := #[.string ((rd_T28 l0 x23_2).f0), .bool ((rd_T28 l0 x23_2).f1), .int .i64 0, .int .i64 0, .int .i64 0]) ?_ 2 _ rfl; (with_reducible repeat (first | refine blk_drewN ?_ _ | refine blk_drew ?_ | refine blk_alloc ?_ _)); refine blk_put (cs := #[.string ((rd_T28 l0 x23_2).f0), .bool false, .int .i64 0, .int .i64 0, .int .i64 0]) ?_ 1 _ rfl; (with_reducible repeat (first | refine blk_drewN ?_ _ | refine blk_drew ?_ | refine blk_alloc ?_ _)); refine blk_put (cs := #[.string (⟨#[]⟩ : ByteArray), .bool false, .int .i64 0, .int .i64 0, .int .i64 0]) ?_ 0 _ rfl; (with_reducible repeat (first | refine blk_drewN ?_ _ | refine blk_drew ?_ | refine blk_alloc ?_ _)); exact BK305.out⟩
                        have n1_ : Aside0 (Below w.heap.size w (((((w20.setCell ⟨gb305, 0, none⟩ (.string ((rd_T28 l0 x23_2).f0))).setCell ⟨gb305, 1, none⟩ (.bool ((rd_T28 l0 x23_2).f1))).setCell ⟨gb305, 2, none⟩ (.int .i64 ((rd_T28 l0 x23_2).f2))).setCell ⟨gb305, 3, none⟩ (.int .i64 ((rd_T28 l0 x23_2).f3))).setCell ⟨gb305, 4, none⟩ (.int .i64 ((rd_T28 l0 x23_2).f4)))) := ⟨by repeat (first | (with_reducible first | exact HB.out | apply below_alloc | apply pw_below_drewN | apply below_drew1 | refine below_set ?_ GE305.out) | exact HB.out)⟩
                        (try clear BK305)
                        (try clear HB)
                        generalize (((((w20.setCell ⟨gb305, 0, none⟩ (.string ((rd_T28 l0 x23_2).f0))).setCell ⟨gb305, 1, none⟩ (.bool ((rd_T28 l0 x23_2).f1))).setCell ⟨gb305, 2, none⟩ (.int .i64 ((rd_T28 l0 x23_2).f2))).setCell ⟨gb305, 3, none⟩ (.int .i64 ((rd_T28 l0 x23_2).f3))).setCell ⟨gb305, 4, none⟩ (.int .i64 ((rd_T28 l0 x23_2).f4))) = w22 at n0_ n1_ ⊢
                        have BK305 := n0_
                        have HB := n1_
                        clear n0_ n1_
                        have n0_ := Aside0.mk (blk_drew BK305.out)
                        have n1_ := Aside0.mk (below_drew1 HB.out)
                        clear BK305
                        clear HB
                        have BK305 := n0_
                        have HB := n1_
                        clear n0_ n1_
                        refine start_ (n := 13) (S := fun w' => w'.cell? ⟨gb305, 0, none⟩ = some (.string ((rd_T28 l0 x23_2).f0)) ∧ w'.cell? ⟨gb305, 1, none⟩ = some (.bool ((rd_T28 l0 x23_2).f1)) ∧ w'.cell? ⟨gb305, 2, none⟩ = some (.int .i64 ((rd_T28 l0 x23_2).f2)) ∧ w'.cell? ⟨gb305, 3, none⟩ = some (.int .i64 ((rd_T28 l0 x23_2).f3)) ∧ w'.cell? ⟨gb305, 4, none⟩ = some (.int .i64 ((rd_T28 l0 x23_2).f4))) (ds := []) #[false, false, false, false, false, false, false, false, false, false, false, false, false] (by kernel_rfl) rfl rfl ⟨(blk_cell BK305.out 0).trans rfl, (blk_cell BK305.out 1).trans rfl, (blk_cell BK305.out 2).trans rfl, (blk_cell BK305.out 3).trans rfl, (blk_cell BK305.out 4).trans rfl⟩ (fun hHeld => ?_); refine with_tabW parryref1_State.tab8 parryref1_State.bits8 (fun HT_ HW_ => ?_)
                        generalize w22.drew = w23 at BK305 HB hHeld ⊢
                        refine pure_ (i := 0) (N := some 32) (v := ?_) (a' := ?_) #[true, false, false, false, false, false, false, false, false, false, false, false, false] rfl rfl (any_of HT_.out (by kernel_rfl)) (fun _ _ _ h => h) (Or.inl ⟨by rfl, ?_⟩) ?_ ?_
                        rotate_left
                        · intro w'
                          go_simp
                          with_reducible rfl
                        rotate_left
                        · simp only [Act.put, List.setIfInBounds_toArray, List.set_cons_zero, List.set_cons_succ, i64_w, i32_w]
                          rfl
                        refine pure_ (i := 1) (N := some 33) (v := ?_) (a' := ?_) #[true, true, false, false, false, false, false, false, false, false, false, false, false] rfl rfl (any_of HT_.out (by kernel_rfl)) (fun _ _ _ h => h) (Or.inl ⟨by rfl, ?_⟩) ?_ ?_
                        rotate_left
                        · intro w'
                          go_simp
                          with_reducible rfl
                        rotate_left
                        · simp only [Act.put, List.setIfInBounds_toArray, List.set_cons_zero, List.set_cons_succ, i64_w, i32_w]
                          rfl
                        refine take_ (i := 2) (N := some 34) (v := ?_) (a' := ?_) #[true, true, true, false, false, false, false, false, false, false, false, false, false] rfl rfl (take_ofW HT_.out HW_.out (by kernel_rfl)) (fun _ _ _ h => h) (Or.inl ⟨by rfl, ?_⟩) hHeld ?_ ?_
                        rotate_left
                        · rintro w' ⟨s0, s1, s2, s3, s4⟩
                          go_simp
                          with_reducible rfl
                        rotate_left
                        · simp only [Act.put, List.setIfInBounds_toArray, List.set_cons_zero, List.set_cons_succ, i64_w, i32_w]
                          rfl
                        refine pure_ (i := 3) (N := some 35) (v := ?_) (a' := ?_) #[true, true, true, true, false, false, false, false, false, false, false, false, false] rfl rfl (any_of HT_.out (by kernel_rfl)) (fun _ _ _ h => h) (Or.inl ⟨by rfl, ?_⟩) ?_ ?_
                        rotate_left
                        · intro w'
                          go_simp
                          with_reducible rfl
                        rotate_left
                        · simp only [Act.put, List.setIfInBounds_toArray, List.set_cons_zero, List.set_cons_succ, i64_w, i32_w]
                          rfl
                        refine pure_ (i := 4) (N := some 36) (v := ?_) (a' := ?_) #[true, true, true, true, true, false, false, false, false, false, false, false, false] rfl rfl (any_of HT_.out (by kernel_rfl)) (fun _ _ _ h => h) (Or.inl ⟨by rfl, ?_⟩) ?_ ?_
                        rotate_left
                        · intro w'
                          go_simp
                          with_reducible rfl
                        rotate_left
                        · simp only [Act.put, List.setIfInBounds_toArray, List.set_cons_zero, List.set_cons_succ, i64_w, i32_w]
                          rfl
                        refine pure_ (i := 5) (N := some 37) (v := ?_) (a' := ?_) #[true, true, true, true, true, true, false, false, false, false, false, false, false] rfl rfl (any_of HT_.out (by kernel_rfl)) (fun _ _ _ h => h) (Or.inl ⟨by rfl, ?_⟩) ?_ ?_
                        rotate_left
                        · intro w'
                          go_simp
                          with_reducible rfl
                        rotate_left
                        · simp only [Act.put, List.setIfInBounds_toArray, List.set_cons_zero, List.set_cons_succ, i64_w, i32_w]
                          rfl
                        refine pure_ (i := 6) (N := some 38) (v := ?_) (a' := ?_) #[true, true, true, true, true, true, true, false, false, false, false, false, false] rfl rfl (any_of HT_.out (by kernel_rfl)) (fun _ _ _ h => h) (Or.inl ⟨by rfl, ?_⟩) ?_ ?_
                        rotate_left
                        · intro w'
                          go_simp
                          with_reducible rfl
                        rotate_left
                        · simp only [Act.put, List.setIfInBounds_toArray, List.set_cons_zero, List.set_cons_succ, i64_w, i32_w]
                          rfl
                        refine take_ (i := 7) (N := some 39) (v := ?_) (a' := ?_) #[true, true, true, true, true, true, true, true, false, false, false, false, false] rfl rfl (take_ofW HT_.out HW_.out (by kernel_rfl)) (fun _ _ _ h => h) (Or.inl ⟨by rfl, ?_⟩) hHeld ?_ ?_
                        rotate_left
                        · rintro w' ⟨s0, s1, s2, s3, s4⟩
                          go_simp
                          with_reducible rfl
                        rotate_left
                        · simp only [Act.put, List.setIfInBounds_toArray, List.set_cons_zero, List.set_cons_succ, i64_w, i32_w]
                          rfl
                        refine take_ (i := 8) (N := some 40) (v := ?_) (a' := ?_) #[true, true, true, true, true, true, true, true, true, false, false, false, false] rfl rfl (take_ofW HT_.out HW_.out (by kernel_rfl)) (fun _ _ _ h => h) (Or.inl ⟨by rfl, ?_⟩) hHeld ?_ ?_
                        rotate_left
                        · rintro w' ⟨s0, s1, s2, s3, s4⟩
                          go_simp
                          with_reducible rfl
                        rotate_left
                        · simp only [Act.put, List.setIfInBounds_toArray, List.set_cons_zero, List.set_cons_succ, i64_w, i32_w]
                          rfl
                        refine one_ (i := 9) (N := some 41) #[true, true, true, true, true, true, true, true, true, true, false, false, false] rfl rfl (one_of HT_.out (by kernel_rfl)) (by decide) (fun K hK => ?_)
                        refine goes_ Try.func19 (by kernel_rfl) rfl #[.agg #[.string ((rd_T28 l0 x23_2).f0), .bool ((rd_T28 l0 x23_2).f1), .int .i64 ((rd_T28 l0 x23_2).f2), .int .i64 ((rd_T28 l0 x23_2).f3), .int .i64 ((rd_T28 l0 x23_2).f4)]] (by rfl) rfl rfl (by (try simp only [List.map_toArray, List.map_cons, List.map_nil]); first | done | rfl | (simp only [List.length_drop, List.length_take]; rfl)) ?_
                        with_reducible refine (parryref1_Size.calls ((rd_T28 l0 x23_2).f0) ((rd_T28 l0 x23_2).f1) ((rd_T28 l0 x23_2).f2) ((rd_T28 l0 x23_2).f3) ((rd_T28 l0 x23_2).f4) t307 _ A18.out).mono ?_
                        rintro e w24 ⟨rfl, hb⟩
                        refine ⟨_, rfl, ?_⟩
                        have n0_ := Aside0.mk (blk_below (g := gb305) (o := .cells #[.string ((rd_T28 l0 x23_2).f0), .bool ((rd_T28 l0 x23_2).f1), .int .i64 ((rd_T28 l0 x23_2).f2), .int .i64 ((rd_T28 l0 x23_2).f3), .int .i64 ((rd_T28 l0 x23_2).f4)] 28 (0, 0)) (by (with_reducible repeat (first | refine blk_drewN ?_ _ | refine blk_drew ?_ | refine blk_alloc ?_ _)); exact BK305.out) hb)
                        have n1_ := Aside0.mk (below_step (by repeat (first | (with_reducible first | exact HB.out | apply below_alloc | apply pw_below_drewN | apply below_drew1 | refine below_set ?_ GE305.out) | exact HB.out)) hb)
                        clear BK305
                        clear HB
                        have BK305 := n0_
                        have HB := n1_
                        clear n0_ n1_
                        (try clear hb)
                        (try clear hb2)
                        (try clear hk)
                        (try clear hi)
                        refine hK.out _ _ ⟨(blk_cell BK305.out 0).trans rfl, (blk_cell BK305.out 1).trans rfl, (blk_cell BK305.out 2).trans rfl, (blk_cell BK305.out 3).trans rfl, (blk_cell BK305.out 4).trans rfl⟩ (fun hHeld => ?_)
                        clear hK K
                        refine norm_ (a' := ?_) ?_ ?_
                        rotate_left
                        · show Act.put _ (some 41) _ = _
                          simp only [Act.put, List.setIfInBounds_toArray, List.set_cons_zero, List.set_cons_succ, i64_w, i32_w]
                          rfl
                        refine pure_ (i := 10) (N := some 42) (v := ?_) (a' := ?_) #[true, true, true, true, true, true, true, true, true, true, true, false, false] rfl rfl (any_of HT_.out (by kernel_rfl)) (fun _ _ _ h => h) (Or.inl ⟨by rfl, ?_⟩) ?_ ?_
                        rotate_left
                        · intro w'
                          go_simp
                          with_reducible rfl
                        rotate_left
                        · simp only [Act.put, List.setIfInBounds_toArray, List.set_cons_zero, List.set_cons_succ, i64_w, i32_w]
                          rfl
                        refine pure_ (i := 11) (N := some 43) (v := ?_) (a' := ?_) #[true, true, true, true, true, true, true, true, true, true, true, true, false] rfl rfl (any_of HT_.out (by kernel_rfl)) (fun _ _ _ h => h) (Or.inl ⟨by rfl, ?_⟩) ?_ ?_
                        rotate_left
                        · intro w'
                          go_simp
                          with_reducible rfl
                        rotate_left
                        · simp only [Act.put, List.setIfInBounds_toArray, List.set_cons_zero, List.set_cons_succ, i64_w, i32_w]
                          rfl
                        refine pure_ (i := 12) (N := some 44) (v := ?_) (a' := ?_) #[true, true, true, true, true, true, true, true, true, true, true, true, true] rfl rfl (any_of HT_.out (by kernel_rfl)) (fun _ _ _ h => h) (Or.inl ⟨by rfl, ?_⟩) ?_ ?_
                        rotate_left
                        · intro w'
                          go_simp
                          with_reducible rfl
                        rotate_left
                        · simp only [Act.put, List.setIfInBounds_toArray, List.set_cons_zero, List.set_cons_succ, i64_w, i32_w]
                          rfl
                        refine done_ (done_of HT_.out (by kernel_rfl)) ?_
                        try go_wp2
                        go_ret2
                        exact ⟨by first | rfl | (simp [errW_none, errW_some] <;> rfl) | (simp [*, errW_none, errW_some] <;> rfl), by repeat (first | (with_reducible first | exact HB.out | apply below_alloc | apply pw_below_drewN | apply below_drew1 | refine below_set ?_ GE305.out) | exact HB.out)⟩
                      · rw [if_neg c19] at H
                        have c19b0 : decide ((wrap64 (((rd_T28 l0 x23_2).f3) + t307)) ≤ (rd l1 x23_2)) = false := decide_eq_false c19
                        clear c19
                        replace H := Option.bind_eq_some_iff.mp H
                        obtain ⟨t308, A250, H⟩ := H
                        replace H : (parryref1_State.l0 k2 l1 (wrap64 (x6_2 + (wrap64 ((wrap64 ((rd l1 x23_2) - ((rd_T28 l0 x23_2).f3))) * x7_2)))) (wrap64 (x7_2 * t308)) l0 (l0.length : Int) (wrap64 (x23_2 + 1))) = some (r1, r2) := H
                        have A25 := Aside0.mk A250
                        clear A250
                        have H' := Aside0.mk H
                        clear H
                        have p304 : 0 ≤ (x23_2 : Int) := of_decide_eq_true (by first | (with_reducible assumption) | assumption)
                        have q304 : x23_2 < (l0.length : Int) := of_decide_eq_true (by first | (with_reducible assumption) | assumption)
                        obtain ⟨ad304, e304, hx304_0, hx304_1, hx304_2, hx304_3, hx304_4⟩ := at_T28 HR0.out x23_2 p304 q304
                        cases e304
                        replace hx304_0 := (HB.out.cell (World.block_lt_of_cell? w _ hx304_0)).trans hx304_0
                        replace hx304_1 := (HB.out.cell (World.block_lt_of_cell? w _ hx304_1)).trans hx304_1
                        replace hx304_2 := (HB.out.cell (World.block_lt_of_cell? w _ hx304_2)).trans hx304_2
                        replace hx304_3 := (HB.out.cell (World.block_lt_of_cell? w _ hx304_3)).trans hx304_3
                        replace hx304_4 := (HB.out.cell (World.block_lt_of_cell? w _ hx304_4)).trans hx304_4
                        replace p304 := eq_true p304
                        replace q304 := eq_true q304
                        try go_wp2_with (first | ((with_reducible refine gate_dst (N := 9) rfl ?_); (try (refine gate_guard (by rfl) ?_; dsimp only)); refine box_event ?hg (N := 9) ?hd (cs := #[.string (⟨#[]⟩ : ByteArray), .bool false, .int .i64 0, .int .i64 0, .int .i64 0]) (t := 28) ?hr ?_; (case hd => rfl); (case hg => rfl); (case hr => first | (go_simp; done) | (go_simp; rfl)); intro gb305 hg w26 hbox hb; have n0_ := Aside0.mk (below_step (by repeat (first | (with_reducible first | exact HB.out | apply below_alloc | apply pw_below_drewN | apply below_drew1) | exact HB.out)) hb); have n1_ := Aside0.mk (hbox); have n2_ := Aside0.mk ((by rw [hg]; exact (below_size (by repeat (first | (with_reducible first | exact HB.out | apply below_alloc | apply pw_below_drewN | apply below_drew1) | exact HB.out))) : w.heap.size ≤ gb305)); have n3_ := Aside0.mk ((by rw [hg]; exact (below_size (by repeat (first | (with_reducible first | exact HB.out | apply below_alloc | apply pw_below_drewN | apply below_drew1) | exact HB.out))) : w.heap.size ≤ gb305)); clear HB; have HB := n0_; have BK305 := n1_; have GW305 := n2_; have GE305 := n3_; clear n0_ n1_ n2_ n3_; clear hb hbox hg; have hcz27_0 : w26.cell? ⟨gb305, 0, none⟩ = some (.string (⟨#[]⟩ : ByteArray)) := (blk_cell BK305.out 0).trans rfl; have hcz27_1 : w26.cell? ⟨gb305, 1, none⟩ = some (.bool false) := (blk_cell BK305.out 1).trans rfl; have hcz27_2 : w26.cell? ⟨gb305, 2, none⟩ = some (.int .i64 0) := (blk_cell BK305.out 2).trans rfl; have hcz27_3 : w26.cell? ⟨gb305, 3, none⟩ = some (.int .i64 0) := (blk_cell BK305.out 3).trans rfl; have hcz27_4 : w26.cell? ⟨gb305, 4, none⟩ = some (.int .i64 0) := (blk_cell BK305.out 4).trans rfl; have hfz27_0 := blk_frozen BK305.out 0; have hfz27_1 := blk_frozen BK305.out 1; have hfz27_2 := blk_frozen BK305.out 2; have hfz27_3 := blk_frozen BK305.out 3; have hfz27_4 := blk_frozen BK305.out 4; have p306 : 0 ≤ (x23_2 : Int) := of_decide_eq_true (by first | (with_reducible assumption) | assumption); have q306 : x23_2 < (l1.length : Int) := of_decide_eq_true (by first | (with_reducible assumption) | assumption); obtain ⟨ad306, e306, hx306_0⟩ := Kd.at_int HR1.out x23_2 p306 q306; cases e306; have hn306_0 : ad306.block ≠ gb305 := Nat.ne_of_lt (Nat.lt_of_lt_of_le (by have := World.block_lt_of_cell? _ _ hx306_0; first | rwa [add_block] at this | exact this) GW305.out); have hn306_1 : ad306.block ≠ gb305 := Nat.ne_of_lt (Nat.lt_of_lt_of_le (by have := World.block_lt_of_cell? _ _ hx306_0; first | rwa [add_block] at this | exact this) GW305.out); have hn306_2 : ad306.block ≠ gb305 := Nat.ne_of_lt (Nat.lt_of_lt_of_le (by have := World.block_lt_of_cell? _ _ hx306_0; first | rwa [add_block] at this | exact this) GW305.out); have hn306_3 : ad306.block ≠ gb305 := Nat.ne_of_lt (Nat.lt_of_lt_of_le (by have := World.block_lt_of_cell? _ _ hx306_0; first | rwa [add_block] at this | exact this) GW305.out); have hn306_4 : ad306.block ≠ gb305 := Nat.ne_of_lt (Nat.lt_of_lt_of_le (by have := World.block_lt_of_cell? _ _ hx306_0; first | rwa [add_block] at this | exact this) GW305.out); replace hx306_0 := (HB.out.cell (World.block_lt_of_cell? w _ hx306_0)).trans hx306_0; replace hx306_0 := (cell_far (p := ⟨gb305, 0, none⟩) (by first | (rw [add_block]; exact hn306_0) | (show (Addr.add _ _).block ≠ _; rw [add_block]; exact hn306_0) | exact hn306_0) (.string ((rd_T28 l0 x23_2).f0))).trans hx306_0; replace hx306_0 := (cell_far (p := ⟨gb305, 1, none⟩) (by first | (rw [add_block]; exact hn306_1) | (show (Addr.add _ _).block ≠ _; rw [add_block]; exact hn306_1) | exact hn306_1) (.bool ((rd_T28 l0 x23_2).f1))).trans hx306_0; replace hx306_0 := (cell_far (p := ⟨gb305, 2, none⟩) (by first | (rw [add_block]; exact hn306_2) | (show (Addr.add _ _).block ≠ _; rw [add_block]; exact hn306_2) | exact hn306_2) (.int .i64 ((rd_T28 l0 x23_2).f2))).trans hx306_0; replace hx306_0 := (cell_far (p := ⟨gb305, 3, none⟩) (by first | (rw [add_block]; exact hn306_3) | (show (Addr.add _ _).block ≠ _; rw [add_block]; exact hn306_3) | exact hn306_3) (.int .i64 ((rd_T28 l0 x23_2).f3))).trans hx306_0; replace hx306_0 := (cell_far (p := ⟨gb305, 4, none⟩) (by first | (rw [add_block]; exact hn306_4) | (show (Addr.add _ _).block ≠ _; rw [add_block]; exact hn306_4) | exact hn306_4) (.int .i64 ((rd_T28 l0 x23_2).f4))).trans hx306_0; clear hn306_0; clear hn306_1; clear hn306_2; clear hn306_3; clear hn306_4; replace p306 := eq_true p306; replace q306 := eq_true q306))
                        have n0_ : Aside0 ((((((w26.setCell ⟨gb305, 0, none⟩ (.string ((rd_T28 l0 x23_2).f0))).setCell ⟨gb305, 1, none⟩ (.bool ((rd_T28 l0 x23_2).f1))).setCell ⟨gb305, 2, none⟩ (.int .i64 ((rd_T28 l0 x23_2).f2))).setCell ⟨gb305, 3, none⟩ (.int .i64 ((rd_T28 l0 x23_2).f3))).setCell ⟨gb305, 4, none⟩ (.int .i64 ((rd_T28 l0 x23_2).f4))).heap[gb305]? = some (.cells #[.string ((rd_T28 l0 x23_2).f0), .bool ((rd_T28 l0 x23_2).f1), .int .i64 ((rd_T28 l0 x23_2).f2), .int .i64 ((rd_T28 l0 x23_2).f3), .int .i64 ((rd_T28 l0 x23_2).f4)] 28 (0, 0))) := ⟨by (with_reducible repeat (first | refine blk_drewN ?_ _ | refine blk_drew ?_ | refine blk_alloc ?_ _)); refine blk_put (cs := #[.string ((rd_T28 l0 x23_2).f0), .bool ((rd_T28 l0 x23_2).f1), .int .i64 ((rd_T28 l0 x23_2).f2), .int .i64 ((rd_T28 l0 x23_2).f3), .int .i64 0]) ?_ 4 _ rfl; (with_reducible repeat (first | refine blk_drewN ?_ _ | refine blk_drew ?_ | refine blk_alloc ?_ _)); refine blk_put (cs := #[.string ((rd_T28 l0 x23_2).f0), .bool ((rd_T28 l0 x23_2).f1), .int .i64 ((rd_T28 l0 x23_2).f2), .int .i64 0, .int .i64 0]) ?_ 3 _ rfl; (with_reducible repeat (first | refine blk_drewN ?_ _ | refine blk_drew ?_ | refine blk_alloc ?_ _)); refine blk_put (cs := #[.string ((rd_T28 l0 x23_2).f0), .bool ((rd_T28 l0 x23_2).f1), .int .i64 0, .int .i64 0, .int .i64 0]) ?_ 2 _ rfl; (with_reducible repeat (first | refine blk_drewN ?_ _ | refine blk_drew ?_ | refine blk_alloc ?_ _)); refine blk_put (cs := #[.string ((rd_T28 l0 x23_2).f0), .bool false, .int .i64 0, .int .i64 0, .int .i64 0]) ?_ 1 _ rfl; (with_reducible repeat (first | refine blk_drewN ?_ _ | refine blk_drew ?_ | refine blk_alloc ?_ _)); refine blk_put (cs := #[.string (⟨#[]⟩ : ByteArray), .bool false, .int .i64 0, .int .i64 0, .int .i64 0]) ?_ 0 _ rfl; (with_reducible repeat (first | refine blk_drewN ?_ _ | refine blk_drew ?_ | refine blk_alloc ?_ _)); exact BK305.out⟩
                        have n1_ : Aside0 (Below w.heap.size w (((((w26.setCell ⟨gb305, 0, none⟩ (.string ((rd_T28 l0 x23_2).f0))).setCell ⟨gb305, 1, none⟩ (.bool ((rd_T28 l0 x23_2).f1))).setCell ⟨gb305, 2, none⟩ (.int .i64 ((rd_T28 l0 x23_2).f2))).setCell ⟨gb305, 3, none⟩ (.int .i64 ((rd_T28 l0 x23_2).f3))).setCell ⟨gb305, 4, none⟩ (.int .i64 ((rd_T28 l0 x23_2).f4)))) := ⟨by repeat (first | (with_reducible first | exact HB.out | apply below_alloc | apply pw_below_drewN | apply below_drew1 | refine below_set ?_ GE305.out) | exact HB.out)⟩
                        (try clear BK305)
                        (try clear HB)
                        generalize (((((w26.setCell ⟨gb305, 0, none⟩ (.string ((rd_T28 l0 x23_2).f0))).setCell ⟨gb305, 1, none⟩ (.bool ((rd_T28 l0 x23_2).f1))).setCell ⟨gb305, 2, none⟩ (.int .i64 ((rd_T28 l0 x23_2).f2))).setCell ⟨gb305, 3, none⟩ (.int .i64 ((rd_T28 l0 x23_2).f3))).setCell ⟨gb305, 4, none⟩ (.int .i64 ((rd_T28 l0 x23_2).f4))) = w28 at n0_ n1_ ⊢
                        have BK305 := n0_
                        have HB := n1_
                        clear n0_ n1_
                        have n0_ := Aside0.mk (blk_drew BK305.out)
                        have n1_ := Aside0.mk (below_drew1 HB.out)
                        clear BK305
                        clear HB
                        have BK305 := n0_
                        have HB := n1_
                        clear n0_ n1_
                        refine start_ (n := 13) (S := fun w' => w'.cell? ⟨gb305, 0, none⟩ = some (.string ((rd_T28 l0 x23_2).f0)) ∧ w'.cell? ⟨gb305, 1, none⟩ = some (.bool ((rd_T28 l0 x23_2).f1)) ∧ w'.cell? ⟨gb305, 2, none⟩ = some (.int .i64 ((rd_T28 l0 x23_2).f2)) ∧ w'.cell? ⟨gb305, 3, none⟩ = some (.int .i64 ((rd_T28 l0 x23_2).f3)) ∧ w'.cell? ⟨gb305, 4, none⟩ = some (.int .i64 ((rd_T28 l0 x23_2).f4))) (ds := []) #[false, false, false, false, false, false, false, false, false, false, false, false, false] (by kernel_rfl) rfl rfl ⟨(blk_cell BK305.out 0).trans rfl, (blk_cell BK305.out 1).trans rfl, (blk_cell BK305.out 2).trans rfl, (blk_cell BK305.out 3).trans rfl, (blk_cell BK305.out 4).trans rfl⟩ (fun hHeld => ?_); refine with_tabW parryref1_State.tab8 parryref1_State.bits8 (fun HT_ HW_ => ?_)
                        generalize w28.drew = w29 at BK305 HB hHeld ⊢
                        refine pure_ (i := 0) (N := some 32) (v := ?_) (a' := ?_) #[true, false, false, false, false, false, false, false, false, false, false, false, false] rfl rfl (any_of HT_.out (by kernel_rfl)) (fun _ _ _ h => h) (Or.inl ⟨by rfl, ?_⟩) ?_ ?_
                        rotate_left
                        · intro w'
                          go_simp
                          with_reducible rfl
                        rotate_left
                        · simp only [Act.put, List.setIfInBounds_toArray, List.set_cons_zero, List.set_cons_succ, i64_w, i32_w]
                          rfl
                        refine pure_ (i := 1) (N := some 33) (v := ?_) (a' := ?_) #[true, true, false, false, false, false, false, false, false, false, false, false, false] rfl rfl (any_of HT_.out (by kernel_rfl)) (fun _ _ _ h => h) (Or.inl ⟨by rfl, ?_⟩) ?_ ?_
                        rotate_left
                        · intro w'
                          go_simp
                          with_reducible rfl
                        rotate_left
                        · simp only [Act.put, List.setIfInBounds_toArray, List.set_cons_zero, List.set_cons_succ, i64_w, i32_w]
                          rfl
                        refine take_ (i := 2) (N := some 34) (v := ?_) (a' := ?_) #[true, true, true, false, false, false, false, false, false, false, false, false, false] rfl rfl (take_ofW HT_.out HW_.out (by kernel_rfl)) (fun _ _ _ h => h) (Or.inl ⟨by rfl, ?_⟩) hHeld ?_ ?_
                        rotate_left
                        · rintro w' ⟨s0, s1, s2, s3, s4⟩
                          go_simp
                          with_reducible rfl
                        rotate_left
                        · simp only [Act.put, List.setIfInBounds_toArray, List.set_cons_zero, List.set_cons_succ, i64_w, i32_w]
                          rfl
                        refine pure_ (i := 3) (N := some 35) (v := ?_) (a' := ?_) #[true, true, true, true, false, false, false, false, false, false, false, false, false] rfl rfl (any_of HT_.out (by kernel_rfl)) (fun _ _ _ h => h) (Or.inl ⟨by rfl, ?_⟩) ?_ ?_
                        rotate_left
                        · intro w'
                          go_simp
                          with_reducible rfl
                        rotate_left
                        · simp only [Act.put, List.setIfInBounds_toArray, List.set_cons_zero, List.set_cons_succ, i64_w, i32_w]
                          rfl
                        refine pure_ (i := 4) (N := some 36) (v := ?_) (a' := ?_) #[true, true, true, true, true, false, false, false, false, false, false, false, false] rfl rfl (any_of HT_.out (by kernel_rfl)) (fun _ _ _ h => h) (Or.inl ⟨by rfl, ?_⟩) ?_ ?_
                        rotate_left
                        · intro w'
                          go_simp
                          with_reducible rfl
                        rotate_left
                        · simp only [Act.put, List.setIfInBounds_toArray, List.set_cons_zero, List.set_cons_succ, i64_w, i32_w]
                          rfl
                        refine pure_ (i := 5) (N := some 37) (v := ?_) (a' := ?_) #[true, true, true, true, true, true, false, false, false, false, false, false, false] rfl rfl (any_of HT_.out (by kernel_rfl)) (fun _ _ _ h => h) (Or.inl ⟨by rfl, ?_⟩) ?_ ?_
                        rotate_left
                        · intro w'
                          go_simp
                          with_reducible rfl
                        rotate_left
                        · simp only [Act.put, List.setIfInBounds_toArray, List.set_cons_zero, List.set_cons_succ, i64_w, i32_w]
                          rfl
                        refine pure_ (i := 6) (N := some 38) (v := ?_) (a' := ?_) #[true, true, true, true, true, true, true, false, false, false, false, false, false] rfl rfl (any_of HT_.out (by kernel_rfl)) (fun _ _ _ h => h) (Or.inl ⟨by rfl, ?_⟩) ?_ ?_
                        rotate_left
                        · intro w'
                          go_simp
                          with_reducible rfl
                        rotate_left
                        · simp only [Act.put, List.setIfInBounds_toArray, List.set_cons_zero, List.set_cons_succ, i64_w, i32_w]
                          rfl
                        refine take_ (i := 7) (N := some 39) (v := ?_) (a' := ?_) #[true, true, true, true, true, true, true, true, false, false, false, false, false] rfl rfl (take_ofW HT_.out HW_.out (by kernel_rfl)) (fun _ _ _ h => h) (Or.inl ⟨by rfl, ?_⟩) hHeld ?_ ?_
                        rotate_left
                        · rintro w' ⟨s0, s1, s2, s3, s4⟩
                          go_simp
                          with_reducible rfl
                        rotate_left
                        · simp only [Act.put, List.setIfInBounds_toArray, List.set_cons_zero, List.set_cons_succ, i64_w, i32_w]
                          rfl
                        refine take_ (i := 8) (N := some 40) (v := ?_) (a' := ?_) #[true, true, true, true, true, true, true, true, true, false, false, false, false] rfl rfl (take_ofW HT_.out HW_.out (by kernel_rfl)) (fun _ _ _ h => h) (Or.inl ⟨by rfl, ?_⟩) hHeld ?_ ?_
                        rotate_left
                        · rintro w' ⟨s0, s1, s2, s3, s4⟩
                          go_simp
                          with_reducible rfl
                        rotate_left
                        · simp only [Act.put, List.setIfInBounds_toArray, List.set_cons_zero, List.set_cons_succ, i64_w, i32_w]
                          rfl
                        refine one_ (i := 9) (N := some 41) #[true, true, true, true, true, true, true, true, true, true, false, false, false] rfl rfl (one_of HT_.out (by kernel_rfl)) (by decide) (fun K hK => ?_)
                        refine goes_ Try.func19 (by kernel_rfl) rfl #[.agg #[.string ((rd_T28 l0 x23_2).f0), .bool ((rd_T28 l0 x23_2).f1), .int .i64 ((rd_T28 l0 x23_2).f2), .int .i64 ((rd_T28 l0 x23_2).f3), .int .i64 ((rd_T28 l0 x23_2).f4)]] (by rfl) rfl rfl (by (try simp only [List.map_toArray, List.map_cons, List.map_nil]); first | done | rfl | (simp only [List.length_drop, List.length_take]; rfl)) ?_
                        with_reducible refine (parryref1_Size.calls ((rd_T28 l0 x23_2).f0) ((rd_T28 l0 x23_2).f1) ((rd_T28 l0 x23_2).f2) ((rd_T28 l0 x23_2).f3) ((rd_T28 l0 x23_2).f4) t307 _ A18.out).mono ?_
                        rintro e w30 ⟨rfl, hb⟩
                        refine ⟨_, rfl, ?_⟩
                        have n0_ := Aside0.mk (blk_below (g := gb305) (o := .cells #[.string ((rd_T28 l0 x23_2).f0), .bool ((rd_T28 l0 x23_2).f1), .int .i64 ((rd_T28 l0 x23_2).f2), .int .i64 ((rd_T28 l0 x23_2).f3), .int .i64 ((rd_T28 l0 x23_2).f4)] 28 (0, 0)) (by (with_reducible repeat (first | refine blk_drewN ?_ _ | refine blk_drew ?_ | refine blk_alloc ?_ _)); exact BK305.out) hb)
                        have n1_ := Aside0.mk (below_step (by repeat (first | (with_reducible first | exact HB.out | apply below_alloc | apply pw_below_drewN | apply below_drew1 | refine below_set ?_ GE305.out) | exact HB.out)) hb)
                        clear BK305
                        clear HB
                        have BK305 := n0_
                        have HB := n1_
                        clear n0_ n1_
                        (try clear hb)
                        (try clear hb2)
                        (try clear hk)
                        (try clear hi)
                        refine hK.out _ _ ⟨(blk_cell BK305.out 0).trans rfl, (blk_cell BK305.out 1).trans rfl, (blk_cell BK305.out 2).trans rfl, (blk_cell BK305.out 3).trans rfl, (blk_cell BK305.out 4).trans rfl⟩ (fun hHeld => ?_)
                        clear hK K
                        refine norm_ (a' := ?_) ?_ ?_
                        rotate_left
                        · show Act.put _ (some 41) _ = _
                          simp only [Act.put, List.setIfInBounds_toArray, List.set_cons_zero, List.set_cons_succ, i64_w, i32_w]
                          rfl
                        refine pure_ (i := 10) (N := some 42) (v := ?_) (a' := ?_) #[true, true, true, true, true, true, true, true, true, true, true, false, false] rfl rfl (any_of HT_.out (by kernel_rfl)) (fun _ _ _ h => h) (Or.inl ⟨by rfl, ?_⟩) ?_ ?_
                        rotate_left
                        · intro w'
                          go_simp
                          with_reducible rfl
                        rotate_left
                        · simp only [Act.put, List.setIfInBounds_toArray, List.set_cons_zero, List.set_cons_succ, i64_w, i32_w]
                          rfl
                        refine pure_ (i := 11) (N := some 43) (v := ?_) (a' := ?_) #[true, true, true, true, true, true, true, true, true, true, true, true, false] rfl rfl (any_of HT_.out (by kernel_rfl)) (fun _ _ _ h => h) (Or.inl ⟨by rfl, ?_⟩) ?_ ?_
                        rotate_left
                        · intro w'
                          go_simp
                          with_reducible rfl
                        rotate_left
                        · simp only [Act.put, List.setIfInBounds_toArray, List.set_cons_zero, List.set_cons_succ, i64_w, i32_w]
                          rfl
                        refine pure_ (i := 12) (N := some 44) (v := ?_) (a' := ?_) #[true, true, true, true, true, true, true, true, true, true, true, true, true] rfl rfl (any_of HT_.out (by kernel_rfl)) (fun _ _ _ h => h) (Or.inl ⟨by rfl, ?_⟩) ?_ ?_
                        rotate_left
                        · intro w'
                          go_simp
                          with_reducible rfl
                        rotate_left
                        · simp only [Act.put, List.setIfInBounds_toArray, List.set_cons_zero, List.set_cons_succ, i64_w, i32_w]
                          rfl
                        refine done_ (done_of HT_.out (by kernel_rfl)) ?_
                        have hcz31_0 : w30.cell? ⟨gb305, 0, none⟩ = some (.string ((rd_T28 l0 x23_2).f0)) := (blk_cell BK305.out 0).trans rfl
                        have hcz31_1 : w30.cell? ⟨gb305, 1, none⟩ = some (.bool ((rd_T28 l0 x23_2).f1)) := (blk_cell BK305.out 1).trans rfl
                        have hcz31_2 : w30.cell? ⟨gb305, 2, none⟩ = some (.int .i64 ((rd_T28 l0 x23_2).f2)) := (blk_cell BK305.out 2).trans rfl
                        have hcz31_3 : w30.cell? ⟨gb305, 3, none⟩ = some (.int .i64 ((rd_T28 l0 x23_2).f3)) := (blk_cell BK305.out 3).trans rfl
                        have hcz31_4 : w30.cell? ⟨gb305, 4, none⟩ = some (.int .i64 ((rd_T28 l0 x23_2).f4)) := (blk_cell BK305.out 4).trans rfl
                        have hfz31_0 := blk_frozen BK305.out 0
                        have hfz31_1 := blk_frozen BK305.out 1
                        have hfz31_2 := blk_frozen BK305.out 2
                        have hfz31_3 := blk_frozen BK305.out 3
                        have hfz31_4 := blk_frozen BK305.out 4
                        try go_wp2_with (first | ((with_reducible refine gate_callee (f := 19) rfl ?_); refine goesL_ (some 55) rfl rfl Try.func19 (by kernel_rfl) rfl #[.agg #[.string ((rd_T28 l0 x23_2).f0), .bool ((rd_T28 l0 x23_2).f1), .int .i64 ((rd_T28 l0 x23_2).f2), .int .i64 ((rd_T28 l0 x23_2).f3), .int .i64 ((rd_T28 l0 x23_2).f4)]] rfl (by (try simp only [List.map_toArray, List.map_cons, List.map_nil]); first | done | rfl | (simp only [List.length_drop, List.length_take]; rfl)) ?_; (with_reducible refine (parryref1_Size.calls ((rd_T28 l0 x23_2).f0) ((rd_T28 l0 x23_2).f1) ((rd_T28 l0 x23_2).f2) ((rd_T28 l0 x23_2).f3) ((rd_T28 l0 x23_2).f4) t308 _ A25.out).mono ?_); rintro e w32 ⟨rfl, hb⟩; refine ⟨_, rfl, ?_⟩; have n0_ := Aside0.mk (blk_below (g := gb305) (o := .cells #[.string ((rd_T28 l0 x23_2).f0), .bool ((rd_T28 l0 x23_2).f1), .int .i64 ((rd_T28 l0 x23_2).f2), .int .i64 ((rd_T28 l0 x23_2).f3), .int .i64 ((rd_T28 l0 x23_2).f4)] 28 (0, 0)) (by (with_reducible repeat (first | refine blk_drewN ?_ _ | refine blk_drew ?_ | refine blk_alloc ?_ _)); exact BK305.out) hb); have n1_ := Aside0.mk (below_step (by repeat (first | (with_reducible first | exact HB.out | apply below_alloc | apply pw_below_drewN | apply below_drew1 | refine below_set ?_ GE305.out) | exact HB.out)) hb); clear BK305; clear HB; have BK305 := n0_; have HB := n1_; clear n0_ n1_; (try clear hb); (try clear hb2); (try clear hk); (try clear hi)))
                        go_roundg k2
                        case measure => have := HJ2.out; have := HK2.out; omega
                        case rel => exact ⟨(wrap64 (x6_2 + (wrap64 ((wrap64 ((rd l1 x23_2) - ((rd_T28 l0 x23_2).f3))) * x7_2)))), (wrap64 (x7_2 * t308)), (wrap64 (x23_2 + 1)), (by first | rfl | (simp; done) | (simp [*]; done)), (by first | rfl | (simp; done) | (simp [*]; done)), (by first | rfl | (simp; done) | (simp [*]; done)), H', ⟨by have := HJ2.out; have := HK2.out; omega⟩, ⟨by repeat (first | (with_reducible first | exact HB.out | apply below_alloc | apply pw_below_drewN | apply below_drew1 | refine below_set ?_ GE305.out) | exact HB.out)⟩⟩
                  · rw [if_neg c12] at H
                    exact absurd H (by simp)
                · rw [if_neg c11] at H
                  exact absurd H (by simp)
              · rw [if_neg c10] at H
                exact absurd H (by simp)
            · rw [if_neg c9] at H
              have c9b0 : decide (x23_2 < (l0.length : Int)) = false := decide_eq_false c9
              clear c9
              simp only [Option.some.injEq, Prod.mk.injEq] at H
              obtain ⟨rfl, rfl⟩ := H
              go_wp2
              go_ret2
              exact ⟨by first | rfl | (simp [errW_none, errW_some] <;> rfl) | (simp [*, errW_none, errW_some] <;> rfl), by repeat (first | (with_reducible first | exact HB.out | apply below_alloc | apply pw_below_drewN | apply below_drew1) | exact HB.out)⟩

end Go.Proofs.Ytofmfnbiondplaa.P

namespace Go.Proofs.Ytofmfnbiondplaa.P
end Go.Proofs.Ytofmfnbiondplaa.P

