/- A part of the claim DomOrder. -/
import Derived.Test.YtofmfnbiondplaaQDomOrdera
import Derived.Test.YtofmfnbiondplaaQDomOrderb
import Derived.Test.YtofmfnbiondplaaQDomOrderc
import Derived.Test.YtofmfnbiondplaaQDomOrderd
namespace Go.Proofs.Ytofmfnbiondplaa.P
open Go.RowKit Go.Proofs.YtofmfnbiondplaaW.PrintWords Go.Proofs.YtofmfnbiondplaaW.PrintLast Go.Proofs.YtofmfnbiondplaaW.PrintMore
attribute [local go_sem] max2_int min2_int max_two min_two max_three min_three max_four min_four   -- for this text's walks alone
set_option linter.unusedVariables false
set_option linter.unusedSimpArgs false

open Go.Proofs.Ytofmfnbiondplaa.X
mutual
def parrylaw1_DomOrder.j0 : Nat → List (S28) → Int → Bool → Option (Bool)
  | 0, _, _, _ => none
  | k + 1, x0, x1, x25 => if x25 = true then ((parrylaw1_awake.f k).bind fun t277 => (some t277)) else ((parryref1_Total.f k x0).bind fun t278 => (if (IntKind.u64.wrap (wrap64 (t278 - 1))) = 0 then (none) else ((dom_Values.f k x0 (wrap64 (Int.tmod (IntKind.u64.wrap (x1)) (IntKind.u64.wrap (wrap64 (t278 - 1)))))).bind fun bt279 => ((dom_Values.f k x0 (wrap64 ((wrap64 (Int.tmod (IntKind.u64.wrap (x1)) (IntKind.u64.wrap (wrap64 (t278 - 1))))) + 1))).bind fun bt283 => (if bt279.2 = true then (if bt283.2 = true then (if (bt279.1.length : Int) = (x0.length : Int) then (parrylaw1_DomOrder.j1 k x0 bt279.1 bt283.1 ((bt283.1.length : Int) != (x0.length : Int))) else (parrylaw1_DomOrder.j1 k x0 bt279.1 bt283.1 true)) else (parrylaw1_DomOrder.j1 k x0 bt279.1 bt283.1 true)) else (parrylaw1_DomOrder.j1 k x0 bt279.1 bt283.1 true))))))
def parrylaw1_DomOrder.j1 : Nat → List (S28) → List Int → List Int → Bool → Option (Bool)
  | 0, _, _, _, _ => none
  | k + 1, x0, x5, x7, x67 => if x67 = true then (some false) else (parrylaw1_DomOrder.l0 k x5 x7 true x0 (x0.length : Int) 0)
def parrylaw1_DomOrder.l0 : Nat → List Int → List Int → Bool → List (S28) → Int → Int → Option (Bool)
  | 0, _, _, _, _, _, _ => none
  | k + 1, x5, x7, x9, x68, x69, x70 => if x70 < x69 then (if 0 ≤ x70 then (if x70 < (x68.length : Int) then (if x70 < (x5.length : Int) then (if x9 = true then ((parryref1_Size.f ((rd_T28 x68 x70).f0) ((rd_T28 x68 x70).f1) ((rd_T28 x68 x70).f2) ((rd_T28 x68 x70).f3) ((rd_T28 x68 x70).f4)).bind fun t291 => (if (wrap64 ((rd x5 x70) + 1)) ≥ (wrap64 (((rd_T28 x68 x70).f3) + t291)) then (if x70 < (x7.length : Int) then (if (rd x7 x70) = ((rd_T28 x68 x70).f3) then (parrylaw1_DomOrder.l0 k x5 x7 (decide ((wrap64 ((rd x5 x70) + 1)) ≥ (wrap64 (((rd_T28 x68 x70).f3) + t291)))) x68 x69 (wrap64 (x70 + 1))) else (some false)) else (none)) else (if x70 < (x7.length : Int) then (if (rd x7 x70) = (wrap64 ((rd x5 x70) + 1)) then (parrylaw1_DomOrder.l0 k x5 x7 (decide ((wrap64 ((rd x5 x70) + 1)) ≥ (wrap64 (((rd_T28 x68 x70).f3) + t291)))) x68 x69 (wrap64 (x70 + 1))) else (some false)) else (none)))) else (if x70 < (x7.length : Int) then (if (rd x7 x70) = (rd x5 x70) then (parrylaw1_DomOrder.l0 k x5 x7 x9 x68 x69 (wrap64 (x70 + 1))) else (some false)) else (none))) else (none)) else (none)) else (none)) else (if x9 = true then (some false) else ((parrylaw1_awake.f k).bind fun t287 => (some t287)))
end
def parrylaw1_DomOrder.f (k : Nat) (l0 : List (S28)) (a1 : Int) : Option (Bool) := (parrylaw1_Heavy.f k l0).bind fun t274 => (if t274 > 0 then (parrylaw1_DomOrder.j0 k l0 a1 true) else ((parryref1_MayVars.f k l0).bind fun t275 => (if t275 = 0 then ((parryref1_Total.f k l0).bind fun t276 => (parrylaw1_DomOrder.j0 k l0 a1 (decide (t276 < 2)))) else (parrylaw1_DomOrder.j0 k l0 a1 true))))
theorem parrylaw1_DomOrder.mono_l : ∀ k, (∀ y0 y1 y2, LeO (parrylaw1_DomOrder.j0 k y0 y1 y2) (parrylaw1_DomOrder.j0 (k + 1) y0 y1 y2)) ∧ (∀ y0 y1 y2 y3, LeO (parrylaw1_DomOrder.j1 k y0 y1 y2 y3) (parrylaw1_DomOrder.j1 (k + 1) y0 y1 y2 y3)) ∧ (∀ y0 y1 y2 y3 y4 y5, LeO (parrylaw1_DomOrder.l0 k y0 y1 y2 y3 y4 y5) (parrylaw1_DomOrder.l0 (k + 1) y0 y1 y2 y3 y4 y5))
  | 0 => ⟨fun _ _ _ r h => by simp [parrylaw1_DomOrder.j0] at h, fun _ _ _ _ r h => by simp [parrylaw1_DomOrder.j1] at h, fun _ _ _ _ _ _ r h => by simp [parrylaw1_DomOrder.l0] at h⟩
  | k + 1 => by
    obtain ⟨ih0, ih1, ih2⟩ := parrylaw1_DomOrder.mono_l k
    refine ⟨?_, ?_, ?_⟩
    · intro y0 y1 y2
      unfold parrylaw1_DomOrder.j0
      repeat' first
      | (with_reducible exact ih0 _ _ _)
      | (with_reducible exact ih1 _ _ _ _)
      | (with_reducible exact ih2 _ _ _ _ _ _)
      | (with_reducible exact dom_Values.mono _ _ _)
      | (with_reducible exact parrylaw1_Heavy.mono _ _)
      | (with_reducible exact parrylaw1_awake.mono _)
      | (with_reducible exact parryref1_MayVars.mono _ _)
      | (with_reducible exact parryref1_Total.mono _ _)
      | (with_reducible exact LeO.refl _)
      | (with_reducible exact LeO.none _)
      | (with_reducible refine LeO.ite ?_ ?_)
      | (with_reducible refine LeO.bind ?_ (fun _ => ?_))
      | exact ih0 _ _ _
      | exact ih1 _ _ _ _
      | exact ih2 _ _ _ _ _ _
      | exact dom_Values.mono _ _ _
      | exact parrylaw1_Heavy.mono _ _
      | exact parrylaw1_awake.mono _
      | exact parryref1_MayVars.mono _ _
      | exact parryref1_Total.mono _ _
      | exact LeO.none _
      | refine LeO.ite ?_ ?_
      | refine LeO.bind ?_ (fun _ => ?_)
    · intro y0 y1 y2 y3
      unfold parrylaw1_DomOrder.j1
      repeat' first
      | (with_reducible exact ih0 _ _ _)
      | (with_reducible exact ih1 _ _ _ _)
      | (with_reducible exact ih2 _ _ _ _ _ _)
      | (with_reducible exact dom_Values.mono _ _ _)
      | (with_reducible exact parrylaw1_Heavy.mono _ _)
      | (with_reducible exact parrylaw1_awake.mono _)
      | (with_reducible exact parryref1_MayVars.mono _ _)
      | (with_reducible exact parryref1_Total.mono _ _)
      | (with_reducible exact LeO.refl _)
      | (with_reducible exact LeO.none _)
      | (with_reducible refine LeO.ite ?_ ?_)
      | (with_reducible refine LeO.bind ?_ (fun _ => ?_))
      | exact ih0 _ _ _
      | exact ih1 _ _ _ _
      | exact ih2 _ _ _ _ _ _
      | exact dom_Values.mono _ _ _
      | exact parrylaw1_Heavy.mono _ _
      | exact parrylaw1_awake.mono _
      | exact parryref1_MayVars.mono _ _
      | exact parryref1_Total.mono _ _
      | exact LeO.none _
      | refine LeO.ite ?_ ?_
      | refine LeO.bind ?_ (fun _ => ?_)
    · intro y0 y1 y2 y3 y4 y5
      unfold parrylaw1_DomOrder.l0
      repeat' first
      | (with_reducible exact ih0 _ _ _)
      | (with_reducible exact ih1 _ _ _ _)
      | (with_reducible exact ih2 _ _ _ _ _ _)
      | (with_reducible exact dom_Values.mono _ _ _)
      | (with_reducible exact parrylaw1_Heavy.mono _ _)
      | (with_reducible exact parrylaw1_awake.mono _)
      | (with_reducible exact parryref1_MayVars.mono _ _)
      | (with_reducible exact parryref1_Total.mono _ _)
      | (with_reducible exact LeO.refl _)
      | (with_reducible exact LeO.none _)
      | (with_reducible refine LeO.ite ?_ ?_)
      | (with_reducible refine LeO.bind ?_ (fun _ => ?_))
      | exact ih0 _ _ _
      | exact ih1 _ _ _ _
      | exact ih2 _ _ _ _ _ _
      | exact dom_Values.mono _ _ _
      | exact parrylaw1_Heavy.mono _ _
      | exact parrylaw1_awake.mono _
      | exact parryref1_MayVars.mono _ _
      | exact parryref1_Total.mono _ _
      | exact LeO.none _
      | refine LeO.ite ?_ ?_
      | refine LeO.bind ?_ (fun _ => ?_)
theorem parrylaw1_DomOrder.mono : ∀ a0 a1 k, LeO (parrylaw1_DomOrder.f k a0 a1) (parrylaw1_DomOrder.f (k + 1) a0 a1) := by
  intro a0 a1 k
  obtain ⟨ih0, ih1, ih2⟩ := parrylaw1_DomOrder.mono_l k
  unfold parrylaw1_DomOrder.f
  repeat' first
      | (with_reducible exact ih0 _ _ _)
      | (with_reducible exact ih1 _ _ _ _)
      | (with_reducible exact ih2 _ _ _ _ _ _)
      | (with_reducible exact dom_Values.mono _ _ _)
      | (with_reducible exact parrylaw1_Heavy.mono _ _)
      | (with_reducible exact parrylaw1_awake.mono _)
      | (with_reducible exact parryref1_MayVars.mono _ _)
      | (with_reducible exact parryref1_Total.mono _ _)
      | (with_reducible exact LeO.refl _)
      | (with_reducible exact LeO.none _)
      | (with_reducible refine LeO.ite ?_ ?_)
      | (with_reducible refine LeO.bind ?_ (fun _ => ?_))
      | exact ih0 _ _ _
      | exact ih1 _ _ _ _
      | exact ih2 _ _ _ _ _ _
      | exact dom_Values.mono _ _ _
      | exact parrylaw1_Heavy.mono _ _
      | exact parrylaw1_awake.mono _
      | exact parryref1_MayVars.mono _ _
      | exact parryref1_Total.mono _ _
      | exact LeO.none _
      | refine LeO.ite ?_ ?_
      | refine LeO.bind ?_ (fun _ => ?_)
def parrylaw1_DomOrder.T15 : Bool × List (List Nat × List Nat) := (true, [([], []), ([], []), ([1], [1]), ([], []), ([3], [3]), ([2, 4], [2, 4]), ([0, 5], [0, 5]), ([6, 4, 0, 1, 2, 3, 4, 5, 6], [6])])
def parrylaw1_DomOrder.B15 : List Nat := [0, 0, 2, 0, 8, 30, 63, 127]
theorem parrylaw1_DomOrder.tab15 : rtab .any (opsOf Try.f6 15) = parrylaw1_DomOrder.T15 := by kernel_rfl
theorem parrylaw1_DomOrder.bits15 : waitsOk parrylaw1_DomOrder.T15.2 parrylaw1_DomOrder.B15 = true := by kernel_rfl
set_option maxHeartbeats 8000000 in
set_option maxRecDepth 100000 in
theorem parrylaw1_DomOrder.calls (k : Nat) (A0 : Option Addr) (c0 : Nat) (l0 : List (S28)) (a1 : Int) (r : Bool) (w : World) (hr0 : Kd.C k28 w A0 l0.length l0) (hc0 : l0.length ≤ c0) (h : parrylaw1_DomOrder.f k l0 a1 = some r) :
    Calls Try.prog 6 #[.slice A0 l0.length c0, .int .i64 a1] w fun e w' => e = .returned (.bool r) ∧ Below w.heap.size w w' := by
  have hu28 := Try.underlying28
  have HR0 := Aside0.mk hr0
  have HC0 := Aside0.mk hc0
  clear hr0 hc0
  have HB := Aside0.mk (Below.refl w.heap.size w)
  have H : ((parrylaw1_Heavy.f k l0).bind fun t274 => (if t274 > 0 then (parrylaw1_DomOrder.j0 k l0 a1 true) else ((parryref1_MayVars.f k l0).bind fun t275 => (if t275 = 0 then ((parryref1_Total.f k l0).bind fun t276 => (parrylaw1_DomOrder.j0 k l0 a1 (decide (t276 < 2)))) else (parrylaw1_DomOrder.j0 k l0 a1 true))))) = some r := h
  clear h
  have HC3 := Aside0.mk H
  clear H
  go_enter Try.func6, Try.ntmps6
  go_upto_region 1 with (fail)
  go_cut [25] (fun v25 wc => ∃ (kq : Nat) (x25_2 : Bool), v25 = .bool x25_2 ∧ Aside0 (parrylaw1_DomOrder.j0 kq l0 a1 x25_2 = some r) ∧ Aside0 (kq ≤ k) ∧ Aside0 (Below w.heap.size w wc))
  case first =>
    have H := HC3.out
    clear HC3
    replace H := Option.bind_eq_some_iff.mp H
    obtain ⟨t274, A40, H⟩ := H
    replace H : (if t274 > 0 then (parrylaw1_DomOrder.j0 k l0 a1 true) else ((parryref1_MayVars.f k l0).bind fun t275 => (if t275 = 0 then ((parryref1_Total.f k l0).bind fun t276 => (parrylaw1_DomOrder.j0 k l0 a1 (decide (t276 < 2)))) else (parrylaw1_DomOrder.j0 k l0 a1 true)))) = some r := H
    have A4 := Aside0.mk A40
    clear A40
    by_cases c5 : t274 > 0
    · rw [if_pos c5] at H
      have c5b0 : decide (0 < t274) = true := decide_eq_true c5
      clear c5
      (first | rw [c5b0] | (simp only [i64_w, i32_w]; rw [c5b0]) | skip)
      have H' := Aside0.mk H
      clear H
      go_wp2_with (first | ((with_reducible refine gate_callee (f := 9) rfl ?_); refine goesL_ (some 14) rfl rfl Try.func9 (by kernel_rfl) rfl #[.slice A0 l0.length c0] rfl (by (try simp only [List.map_toArray, List.map_cons, List.map_nil]); first | done | rfl | (simp only [List.length_drop, List.length_take]; rfl)) ?_; (with_reducible refine (parrylaw1_Heavy.calls k _ _ l0 t274 _ ?side1 ?side2 A4.out).mono ?_); (case side1 => repeat (first | exact (Kd.C_below HR0.out HB.out) | (with_reducible refine Kd.C_alloc ?_ _) | (with_reducible refine Kd.C_drewN ?_ _) | (with_reducible refine Kd.C_drew ?_))); (case side2 => exact HC0.out); rintro e w6 ⟨rfl, hb⟩; refine ⟨_, rfl, ?_⟩; have n0_ := Aside0.mk (below_step (by repeat (first | (with_reducible first | exact HB.out | apply below_alloc | apply pw_below_drewN | apply below_drew1) | exact HB.out)) hb); clear HB; have HB := n0_; clear n0_; (try clear hb); (try clear hb2); (try clear hk); (try clear hi)))
      go_meet
      case rel => exact ⟨_, (true), (by first | rfl | (simp; done) | (simp [*]; done)), H', ⟨by first | omega | exact Nat.le_refl _⟩, ⟨by repeat (first | (with_reducible first | exact HB.out | apply below_alloc | apply pw_below_drewN | apply below_drew1) | exact HB.out)⟩⟩
    · rw [if_neg c5] at H
      have c5b0 : decide (0 < t274) = false := decide_eq_false c5
      clear c5
      (first | rw [c5b0] | (simp only [i64_w, i32_w]; rw [c5b0]) | skip)
      replace H := Option.bind_eq_some_iff.mp H
      obtain ⟨t275, A70, H⟩ := H
      replace H : (if t275 = 0 then ((parryref1_Total.f k l0).bind fun t276 => (parrylaw1_DomOrder.j0 k l0 a1 (decide (t276 < 2)))) else (parrylaw1_DomOrder.j0 k l0 a1 true)) = some r := H
      have A7 := Aside0.mk A70
      clear A70
      by_cases c8 : t275 = 0
      · rw [if_pos c8] at H
        have c8b0 : (t275 == 0) = true := beq_iff_eq.mpr c8
        have c8b1 : (t275 != 0) = false := bne_eq_false_iff_eq.mpr c8
        clear c8
        replace H := Option.bind_eq_some_iff.mp H
        obtain ⟨t276, A90, H⟩ := H
        replace H : (parrylaw1_DomOrder.j0 k l0 a1 (decide (t276 < 2))) = some r := H
        have A9 := Aside0.mk A90
        clear A90
        have H' := Aside0.mk H
        clear H
        go_wp2_with (first | ((with_reducible refine gate_callee (f := 9) rfl ?_); refine goesL_ (some 14) rfl rfl Try.func9 (by kernel_rfl) rfl #[.slice A0 l0.length c0] rfl (by (try simp only [List.map_toArray, List.map_cons, List.map_nil]); first | done | rfl | (simp only [List.length_drop, List.length_take]; rfl)) ?_; (with_reducible refine (parrylaw1_Heavy.calls k _ _ l0 t274 _ ?side1 ?side2 A4.out).mono ?_); (case side1 => repeat (first | exact (Kd.C_below HR0.out HB.out) | (with_reducible refine Kd.C_alloc ?_ _) | (with_reducible refine Kd.C_drewN ?_ _) | (with_reducible refine Kd.C_drew ?_))); (case side2 => exact HC0.out); rintro e w10 ⟨rfl, hb⟩; refine ⟨_, rfl, ?_⟩; have n0_ := Aside0.mk (below_step (by repeat (first | (with_reducible first | exact HB.out | apply below_alloc | apply pw_below_drewN | apply below_drew1) | exact HB.out)) hb); clear HB; have HB := n0_; clear n0_; (try clear hb); (try clear hb2); (try clear hk); (try clear hi)) | (go_at_call 17; (with_reducible refine (parryref1_MayVars.calls k _ _ l0 t275 _ ?side1 ?side2 A7.out).mono ?_); (case side1 => repeat (first | exact (Kd.C_below HR0.out HB.out) | (with_reducible refine Kd.C_alloc ?_ _) | (with_reducible refine Kd.C_drewN ?_ _) | (with_reducible refine Kd.C_drew ?_))); (case side2 => exact HC0.out); rintro e w11 ⟨rfl, hb⟩; have n0_ := Aside0.mk (below_step (by repeat (first | (with_reducible first | exact HB.out | apply below_alloc | apply pw_below_drewN | apply below_drew1) | exact HB.out)) hb); clear HB; have HB := n0_; clear n0_; (try clear hb); (try clear hb2); (try clear hk); (try clear hi)) | (go_at_call 18; (with_reducible refine (parryref1_Total.calls k _ _ l0 t276 _ ?side1 ?side2 A9.out).mono ?_); (case side1 => repeat (first | exact (Kd.C_below HR0.out HB.out) | (with_reducible refine Kd.C_alloc ?_ _) | (with_reducible refine Kd.C_drewN ?_ _) | (with_reducible refine Kd.C_drew ?_))); (case side2 => exact HC0.out); rintro e w12 ⟨rfl, hb⟩; have n0_ := Aside0.mk (below_step (by repeat (first | (with_reducible first | exact HB.out | apply below_alloc | apply pw_below_drewN | apply below_drew1) | exact HB.out)) hb); clear HB; have HB := n0_; clear n0_; (try clear hb); (try clear hb2); (try clear hk); (try clear hi)))
        go_meet
        case rel => exact ⟨_, (decide (t276 < 2)), (by first | rfl | (simp; done) | (simp [*]; done)), H', ⟨by first | omega | exact Nat.le_refl _⟩, ⟨by repeat (first | (with_reducible first | exact HB.out | apply below_alloc | apply pw_below_drewN | apply below_drew1) | exact HB.out)⟩⟩
      · rw [if_neg c8] at H
        have c8b0 : (t275 == 0) = false := beq_eq_false_iff_ne.mpr c8
        have c8b1 : (t275 != 0) = true := bne_iff_ne.mpr c8
        have H' := Aside0.mk H
        clear H
        go_wp2_with (first | ((with_reducible refine gate_callee (f := 9) rfl ?_); refine goesL_ (some 14) rfl rfl Try.func9 (by kernel_rfl) rfl #[.slice A0 l0.length c0] rfl (by (try simp only [List.map_toArray, List.map_cons, List.map_nil]); first | done | rfl | (simp only [List.length_drop, List.length_take]; rfl)) ?_; (with_reducible refine (parrylaw1_Heavy.calls k _ _ l0 t274 _ ?side1 ?side2 A4.out).mono ?_); (case side1 => repeat (first | exact (Kd.C_below HR0.out HB.out) | (with_reducible refine Kd.C_alloc ?_ _) | (with_reducible refine Kd.C_drewN ?_ _) | (with_reducible refine Kd.C_drew ?_))); (case side2 => exact HC0.out); rintro e w13 ⟨rfl, hb⟩; refine ⟨_, rfl, ?_⟩; have n0_ := Aside0.mk (below_step (by repeat (first | (with_reducible first | exact HB.out | apply below_alloc | apply pw_below_drewN | apply below_drew1) | exact HB.out)) hb); clear HB; have HB := n0_; clear n0_; (try clear hb); (try clear hb2); (try clear hk); (try clear hi)) | (go_at_call 17; (with_reducible refine (parryref1_MayVars.calls k _ _ l0 t275 _ ?side1 ?side2 A7.out).mono ?_); (case side1 => repeat (first | exact (Kd.C_below HR0.out HB.out) | (with_reducible refine Kd.C_alloc ?_ _) | (with_reducible refine Kd.C_drewN ?_ _) | (with_reducible refine Kd.C_drew ?_))); (case side2 => exact HC0.out); rintro e w14 ⟨rfl, hb⟩; have n0_ := Aside0.mk (below_step (by repeat (first | (with_reducible first | exact HB.out | apply below_alloc | apply pw_below_drewN | apply below_drew1) | exact HB.out)) hb); clear HB; have HB := n0_; clear n0_; (try clear hb); (try clear hb2); (try clear hk); (try clear hi)))
        go_meet
        case rel => exact ⟨_, (true), (by first | rfl | (simp; done) | (simp [*]; done)), H', ⟨by first | omega | exact Nat.le_refl _⟩, ⟨by repeat (first | (with_reducible first | exact HB.out | apply below_alloc | apply pw_below_drewN | apply below_drew1) | exact HB.out)⟩⟩
  case rest =>
    clear HC3
    try clear p2
    try clear c5
    try clear c5b0
    try clear c6
    try clear c8
    try clear c8b0
    try clear c8b1
    try clear c9
    obtain ⟨kq, x25_2, rfl, HA, HJ2, HB⟩ := hcut
    cases kq with
    | zero => exact absurd HA.out (by simp [parrylaw1_DomOrder.j0])
    | succ kj2 =>
      have H := HA.out
      clear HA
      simp only [parrylaw1_DomOrder.j0] at H
      by_cases c15 : x25_2 = true
      · subst c15
        have H1 : ((parrylaw1_awake.f kj2).bind fun t277 => (some t277)) = some r := by rw [if_pos rfl] at H; exact H
        clear H
        have H := H1
        clear H1
        replace H := Option.bind_eq_some_iff.mp H
        obtain ⟨t277, A160, H⟩ := H
        replace H : (some t277) = some r := H
        have A16 := Aside0.mk A160
        clear A160
        obtain rfl := Option.some.inj H
        go_wp2_with (first | ((with_reducible refine gate_callee (f := 11) rfl ?_); refine goesL_ (some 26) rfl rfl Try.func11 (by kernel_rfl) rfl #[] rfl (by (try simp only [List.map_toArray, List.map_cons, List.map_nil]); first | done | rfl | (simp only [List.length_drop, List.length_take]; rfl)) ?_; (with_reducible refine (parrylaw1_awake.calls kj2  t277 _ A16.out).mono ?_); rintro e w17 ⟨rfl, hb⟩; refine ⟨_, rfl, ?_⟩; have n0_ := Aside0.mk (below_step (by repeat (first | (with_reducible first | exact HB.out | apply below_alloc | apply pw_below_drewN | apply below_drew1) | exact HB.out)) hb); clear HB; have HB := n0_; clear n0_; (try clear hb); (try clear hb2); (try clear hk); (try clear hi)))
        go_ret
        exact ⟨by first | rfl | (simp [errW_none, errW_some] <;> rfl) | (simp [*, errW_none, errW_some] <;> rfl), by repeat (first | (with_reducible first | exact HB.out | apply below_alloc | apply pw_below_drewN | apply below_drew1) | exact HB.out)⟩
      · replace c15 := Bool.eq_false_iff.mpr c15
        subst c15
        have H1 : ((parryref1_Total.f kj2 l0).bind fun t278 => (if (IntKind.u64.wrap (wrap64 (t278 - 1))) = 0 then (none) else ((dom_Values.f kj2 l0 (wrap64 (Int.tmod (IntKind.u64.wrap (a1)) (IntKind.u64.wrap (wrap64 (t278 - 1)))))).bind fun bt279 => ((dom_Values.f kj2 l0 (wrap64 ((wrap64 (Int.tmod (IntKind.u64.wrap (a1)) (IntKind.u64.wrap (wrap64 (t278 - 1))))) + 1))).bind fun bt283 => (if bt279.2 = true then (if bt283.2 = true then (if (bt279.1.length : Int) = (l0.length : Int) then (parrylaw1_DomOrder.j1 kj2 l0 bt279.1 bt283.1 ((bt283.1.length : Int) != (l0.length : Int))) else (parrylaw1_DomOrder.j1 kj2 l0 bt279.1 bt283.1 true)) else (parrylaw1_DomOrder.j1 kj2 l0 bt279.1 bt283.1 true)) else (parrylaw1_DomOrder.j1 kj2 l0 bt279.1 bt283.1 true)))))) = some r := by rw [if_neg (show ¬ (false = true) by decide)] at H; exact H
        clear H
        have H := H1
        clear H1
        replace H := Option.bind_eq_some_iff.mp H
        obtain ⟨t278, A180, H⟩ := H
        replace H : (if (IntKind.u64.wrap (wrap64 (t278 - 1))) = 0 then (none) else ((dom_Values.f kj2 l0 (wrap64 (Int.tmod (IntKind.u64.wrap (a1)) (IntKind.u64.wrap (wrap64 (t278 - 1)))))).bind fun bt279 => ((dom_Values.f kj2 l0 (wrap64 ((wrap64 (Int.tmod (IntKind.u64.wrap (a1)) (IntKind.u64.wrap (wrap64 (t278 - 1))))) + 1))).bind fun bt283 => (if bt279.2 = true then (if bt283.2 = true then (if (bt279.1.length : Int) = (l0.length : Int) then (parrylaw1_DomOrder.j1 kj2 l0 bt279.1 bt283.1 ((bt283.1.length : Int) != (l0.length : Int))) else (parrylaw1_DomOrder.j1 kj2 l0 bt279.1 bt283.1 true)) else (parrylaw1_DomOrder.j1 kj2 l0 bt279.1 bt283.1 true)) else (parrylaw1_DomOrder.j1 kj2 l0 bt279.1 bt283.1 true))))) = some r := H
        have A18 := Aside0.mk A180
        clear A180
        by_cases c19 : (IntKind.u64.wrap (wrap64 (t278 - 1))) = 0
        · rw [if_pos c19] at H
          exact absurd H (by simp)
        · rw [if_neg c19] at H
          have c19b0 : ((IntKind.u64.wrap (wrap64 (t278 - 1))) == 0) = false := beq_eq_false_iff_ne.mpr c19
          have c19b1 : ((IntKind.u64.wrap (wrap64 (t278 - 1))) != 0) = true := bne_iff_ne.mpr c19
          replace H := Option.bind_eq_some_iff.mp H
          obtain ⟨⟨t279, t280⟩, A200, H⟩ := H
          replace H : ((dom_Values.f kj2 l0 (wrap64 ((wrap64 (Int.tmod (IntKind.u64.wrap (a1)) (IntKind.u64.wrap (wrap64 (t278 - 1))))) + 1))).bind fun bt283 => (if t280 = true then (if bt283.2 = true then (if (t279.length : Int) = (l0.length : Int) then (parrylaw1_DomOrder.j1 kj2 l0 t279 bt283.1 ((bt283.1.length : Int) != (l0.length : Int))) else (parrylaw1_DomOrder.j1 kj2 l0 t279 bt283.1 true)) else (parrylaw1_DomOrder.j1 kj2 l0 t279 bt283.1 true)) else (parrylaw1_DomOrder.j1 kj2 l0 t279 bt283.1 true))) = some r := H
          have A20 := Aside0.mk A200
          clear A200
          replace H := Option.bind_eq_some_iff.mp H
          obtain ⟨⟨t283, t284⟩, A210, H⟩ := H
          replace H : (if t280 = true then (if t284 = true then (if (t279.length : Int) = (l0.length : Int) then (parrylaw1_DomOrder.j1 kj2 l0 t279 t283 ((t283.length : Int) != (l0.length : Int))) else (parrylaw1_DomOrder.j1 kj2 l0 t279 t283 true)) else (parrylaw1_DomOrder.j1 kj2 l0 t279 t283 true)) else (parrylaw1_DomOrder.j1 kj2 l0 t279 t283 true)) = some r := H
          have A21 := Aside0.mk A210
          clear A210
          have HC22 := Aside0.mk H
          clear H
          go_upto_region 6 with (first | ((with_reducible refine gate_callee (f := 18) rfl ?_); refine goesL_ (some 30) rfl rfl Try.func18 (by kernel_rfl) rfl #[.slice A0 l0.length c0] rfl (by (try simp only [List.map_toArray, List.map_cons, List.map_nil]); first | done | rfl | (simp only [List.length_drop, List.length_take]; rfl)) ?_; (with_reducible refine (parryref1_Total.calls kj2 _ _ l0 t278 _ ?side1 ?side2 A18.out).mono ?_); (case side1 => repeat (first | exact (Kd.C_below HR0.out HB.out) | (with_reducible refine Kd.C_alloc ?_ _) | (with_reducible refine Kd.C_drewN ?_ _) | (with_reducible refine Kd.C_drew ?_))); (case side2 => exact HC0.out); rintro e w23 ⟨rfl, hb⟩; refine ⟨_, rfl, ?_⟩; have n0_ := Aside0.mk (below_step (by repeat (first | (with_reducible first | exact HB.out | apply below_alloc | apply pw_below_drewN | apply below_drew1) | exact HB.out)) hb); clear HB; have HB := n0_; clear n0_; (try clear hb); (try clear hb2); (try clear hk); (try clear hi)) | ((with_reducible refine gate_callee (f := 14) rfl ?_); refine goesL_ (some 38) rfl rfl Try.func14 (by kernel_rfl) rfl #[.slice A0 l0.length c0, .int .i64 (wrap64 (Int.tmod (IntKind.u64.wrap (a1)) (IntKind.u64.wrap (wrap64 (t278 - 1)))))] rfl (by (try simp only [List.map_toArray, List.map_cons, List.map_nil]); first | done | rfl | (simp only [List.length_drop, List.length_take]; rfl)) ?_; (with_reducible refine (dom_Values.calls kj2 _ _ l0 (wrap64 (Int.tmod (IntKind.u64.wrap (a1)) (IntKind.u64.wrap (wrap64 (t278 - 1))))) t279 t280 _ ?side1 ?side2 A20.out).mono ?_); (case side1 => repeat (first | exact (Kd.C_below HR0.out HB.out) | (with_reducible refine Kd.C_alloc ?_ _) | (with_reducible refine Kd.C_drewN ?_ _) | (with_reducible refine Kd.C_drew ?_))); (case side2 => exact HC0.out); rintro e w24 ⟨v281, rfl, ho0, hb⟩; refine ⟨_, rfl, ?_⟩; have n0_ := Aside0.mk (Kd.R_lower ho0 (below_size (by repeat (first | (with_reducible first | exact HB.out | apply below_alloc | apply pw_below_drewN | apply below_drew1) | exact HB.out)))); have n1_ := Aside0.mk (below_step (by repeat (first | (with_reducible first | exact HB.out | apply below_alloc | apply pw_below_drewN | apply below_drew1) | exact HB.out)) hb); clear HB; have HO282 := n0_; have HB := n1_; clear n0_ n1_; (try clear hb); (try clear hb2); (try clear hk); (try clear hi); (try clear ho0)) | ((with_reducible refine gate_callee (f := 14) rfl ?_); refine goesL_ (some 45) rfl rfl Try.func14 (by kernel_rfl) rfl #[.slice A0 l0.length c0, .int .i64 (wrap64 ((wrap64 (Int.tmod (IntKind.u64.wrap (a1)) (IntKind.u64.wrap (wrap64 (t278 - 1))))) + 1))] rfl (by (try simp only [List.map_toArray, List.map_cons, List.map_nil]); first | done | rfl | (simp only [List.length_drop, List.length_take]; rfl)) ?_; (with_reducible refine (dom_Values.calls kj2 _ _ l0 (wrap64 ((wrap64 (Int.tmod (IntKind.u64.wrap (a1)) (IntKind.u64.wrap (wrap64 (t278 - 1))))) + 1)) t283 t284 _ ?side1 ?side2 A21.out).mono ?_); (case side1 => repeat (first | exact (Kd.C_below HR0.out HB.out) | (with_reducible refine Kd.C_alloc ?_ _) | (with_reducible refine Kd.C_drewN ?_ _) | (with_reducible refine Kd.C_drew ?_))); (case side2 => exact HC0.out); rintro e w25 ⟨v285, rfl, ho0, hb⟩; refine ⟨_, rfl, ?_⟩; have n0_ := Aside0.mk (Kd.R_elder' (by (with_reducible repeat (first | apply Kd.R_alloc | apply Kd.R_drewN | apply Kd.R_drew)); exact HO282.out) (Kd.R_base ho0) hb); have n1_ := Aside0.mk (Kd.R_lower (Kd.R_new' ho0 (Kd.R_lt (by (with_reducible repeat (first | apply Kd.R_alloc | apply Kd.R_drewN | apply Kd.R_drew)); exact HO282.out))) (below_size (by repeat (first | (with_reducible first | exact HB.out | apply below_alloc | apply pw_below_drewN | apply below_drew1) | exact HB.out)))); have n2_ := Aside0.mk (below_step (by repeat (first | (with_reducible first | exact HB.out | apply below_alloc | apply pw_below_drewN | apply below_drew1) | exact HB.out)) hb); clear HO282; clear HB; have HO282 := n0_; have HO286 := n1_; have HB := n2_; clear n0_ n1_ n2_; (try clear hb); (try clear hb2); (try clear hk); (try clear hi); (try clear ho0)))
          (try simp only [Act.put, List.setIfInBounds_toArray, List.set_cons_zero, List.set_cons_succ])
          go_cut [67] (fun v67 wc => ∃ (kq : Nat) (x67_21 : Bool), v67 = .bool x67_21 ∧ Aside0 (parrylaw1_DomOrder.j1 kq l0 t279 t283 x67_21 = some r) ∧ Aside0 (kq ≤ kj2) ∧ Aside0 (Kd.R (Kd.int .i64) 3 wc w.heap.size (fun k_ => some k_ ≠ (v285 : Value).ownBlock) v281 t279) ∧ Aside0 (Kd.R (Kd.int .i64) 3 wc w.heap.size (fun k_ => some k_ ≠ (v281 : Value).ownBlock) v285 t283) ∧ Aside0 (Below w.heap.size w wc))
          case first =>
            have H := HC22.out
            clear HC22
            by_cases c26 : t280 = true
            · subst c26
              have H1 : (if t284 = true then (if (t279.length : Int) = (l0.length : Int) then (parrylaw1_DomOrder.j1 kj2 l0 t279 t283 ((t283.length : Int) != (l0.length : Int))) else (parrylaw1_DomOrder.j1 kj2 l0 t279 t283 true)) else (parrylaw1_DomOrder.j1 kj2 l0 t279 t283 true)) = some r := by rw [if_pos rfl] at H; exact H
              clear H
              have H := H1
              clear H1
              by_cases c27 : t284 = true
              · subst c27
                have H1 : (if (t279.length : Int) = (l0.length : Int) then (parrylaw1_DomOrder.j1 kj2 l0 t279 t283 ((t283.length : Int) != (l0.length : Int))) else (parrylaw1_DomOrder.j1 kj2 l0 t279 t283 true)) = some r := by rw [if_pos rfl] at H; exact H
                clear H
                have H := H1
                clear H1
                by_cases c28 : (t279.length : Int) = (l0.length : Int)
                · rw [if_pos c28] at H
                  have c28b0 : ((t279.length : Int) == (l0.length : Int)) = true := beq_iff_eq.mpr c28
                  have c28b1 : ((t279.length : Int) != (l0.length : Int)) = false := bne_eq_false_iff_eq.mpr c28
                  have c28b2 : (t279.length == l0.length) = true := by first | simpa using c28 | (simp at c28 ⊢; omega)
                  clear c28
                  (first | rw [c28b0] | (simp only [i64_w, i32_w]; rw [c28b0]) | skip)
                  have H' := Aside0.mk H
                  clear H
                  obtain ⟨Ao29, co29, eo29⟩ := Kd.R_slice HO282.out
                  subst eo29
                  obtain ⟨Ao30, co30, eo30⟩ := Kd.R_slice HO286.out
                  subst eo30
                  go_wp2
                  go_meet
                  case rel => exact ⟨_, (((t283.length : Int) != (l0.length : Int))), (by first | rfl | (simp; done) | (simp [*]; done)), H', ⟨by have := HJ2.out; first | omega | exact Nat.le_refl _⟩, ⟨by (with_reducible repeat (first | apply Kd.R_alloc | apply Kd.R_drewN | apply Kd.R_drew)); exact Kd.R_mono HO282.out (fun _ hk => hk.2)⟩, ⟨by (with_reducible repeat (first | apply Kd.R_alloc | apply Kd.R_drewN | apply Kd.R_drew)); exact Kd.R_mono HO286.out (fun _ hk => hk.2)⟩, ⟨by repeat (first | (with_reducible first | exact HB.out | apply below_alloc | apply pw_below_drewN | apply below_drew1) | exact HB.out)⟩⟩
                · rw [if_neg c28] at H
                  have c28b0 : ((t279.length : Int) == (l0.length : Int)) = false := beq_eq_false_iff_ne.mpr c28
                  have c28b1 : ((t279.length : Int) != (l0.length : Int)) = true := bne_iff_ne.mpr c28
                  have c28b2 : (t279.length == l0.length) = false := by first | simpa using c28 | (simp at c28 ⊢; omega)
                  (first | rw [c28b0] | (simp only [i64_w, i32_w]; rw [c28b0]) | skip)
                  have H' := Aside0.mk H
                  clear H
                  obtain ⟨Ao31, co31, eo31⟩ := Kd.R_slice HO282.out
                  subst eo31
                  go_wp2
                  go_meet
                  case rel => exact ⟨_, (true), (by first | rfl | (simp; done) | (simp [*]; done)), H', ⟨by have := HJ2.out; first | omega | exact Nat.le_refl _⟩, ⟨by (with_reducible repeat (first | apply Kd.R_alloc | apply Kd.R_drewN | apply Kd.R_drew)); exact Kd.R_mono HO282.out (fun _ hk => hk.2)⟩, ⟨by (with_reducible repeat (first | apply Kd.R_alloc | apply Kd.R_drewN | apply Kd.R_drew)); exact Kd.R_mono HO286.out (fun _ hk => hk.2)⟩, ⟨by repeat (first | (with_reducible first | exact HB.out | apply below_alloc | apply pw_below_drewN | apply below_drew1) | exact HB.out)⟩⟩
              · replace c27 := Bool.eq_false_iff.mpr c27
                subst c27
                have H1 : (parrylaw1_DomOrder.j1 kj2 l0 t279 t283 true) = some r := by rw [if_neg (show ¬ (false = true) by decide)] at H; exact H
                clear H
                have H := H1
                clear H1
                have H' := Aside0.mk H
                clear H
                go_wp2
                go_meet
                case rel => exact ⟨_, (true), (by first | rfl | (simp; done) | (simp [*]; done)), H', ⟨by have := HJ2.out; first | omega | exact Nat.le_refl _⟩, ⟨by (with_reducible repeat (first | apply Kd.R_alloc | apply Kd.R_drewN | apply Kd.R_drew)); exact Kd.R_mono HO282.out (fun _ hk => hk.2)⟩, ⟨by (with_reducible repeat (first | apply Kd.R_alloc | apply Kd.R_drewN | apply Kd.R_drew)); exact Kd.R_mono HO286.out (fun _ hk => hk.2)⟩, ⟨by repeat (first | (with_reducible first | exact HB.out | apply below_alloc | apply pw_below_drewN | apply below_drew1) | exact HB.out)⟩⟩
            · replace c26 := Bool.eq_false_iff.mpr c26
              subst c26
              have H1 : (parrylaw1_DomOrder.j1 kj2 l0 t279 t283 true) = some r := by rw [if_neg (show ¬ (false = true) by decide)] at H; exact H
              clear H
              have H := H1
              clear H1
              have H' := Aside0.mk H
              clear H
              go_wp2
              go_meet
              case rel => exact ⟨_, (true), (by first | rfl | (simp; done) | (simp [*]; done)), H', ⟨by have := HJ2.out; first | omega | exact Nat.le_refl _⟩, ⟨by (with_reducible repeat (first | apply Kd.R_alloc | apply Kd.R_drewN | apply Kd.R_drew)); exact Kd.R_mono HO282.out (fun _ hk => hk.2)⟩, ⟨by (with_reducible repeat (first | apply Kd.R_alloc | apply Kd.R_drewN | apply Kd.R_drew)); exact Kd.R_mono HO286.out (fun _ hk => hk.2)⟩, ⟨by repeat (first | (with_reducible first | exact HB.out | apply below_alloc | apply pw_below_drewN | apply below_drew1) | exact HB.out)⟩⟩
          case rest =>
            clear HC22
            try clear c1
            try clear c2
            try clear p2
            try clear c5
            try clear c5b0
            try clear c6
            try clear p6
            try clear c8
            try clear c8b0
            try clear c8b1
            try clear c9
            try clear c11
            try clear c14
            try clear c15
            try clear c18
            try clear c19
            try clear c19b0
            try clear c19b1
            try clear c26
            try clear c27
            try clear c28
            try clear c28b0
            try clear c28b1
            try clear c28b2
            try clear p2
            obtain ⟨kq, x67_21, rfl, HA, HJ21, HO_5, HO_7, HB⟩ := hcut
            cases kq with
            | zero => exact absurd HA.out (by simp [parrylaw1_DomOrder.j1])
            | succ kj21 =>
              have H := HA.out
              clear HA
              simp only [parrylaw1_DomOrder.j1] at H
              by_cases c32 : x67_21 = true
              · subst c32
                have H1 : (some false) = some r := by rw [if_pos rfl] at H; exact H
                clear H
                have H := H1
                clear H1
                obtain rfl := Option.some.inj H
                go_wp2
                go_ret
                exact ⟨by first | rfl | (simp [errW_none, errW_some] <;> rfl) | (simp [*, errW_none, errW_some] <;> rfl), by repeat (first | (with_reducible first | exact HB.out | apply below_alloc | apply pw_below_drewN | apply below_drew1) | exact HB.out)⟩
              · replace c32 := Bool.eq_false_iff.mpr c32
                subst c32
                have H1 : (parrylaw1_DomOrder.l0 kj21 t279 t283 true l0 (l0.length : Int) 0) = some r := by rw [if_neg (show ¬ (false = true) by decide)] at H; exact H
                clear H
                have H := H1
                clear H1
                have H' := Aside0.mk H
                clear H
                go_wp2
                go_loopg [9, 70] kj21 (fun kq v9 v70 w' => ∃ (x9_3 : Bool) (x70_3 : Int), v9 = .bool x9_3 ∧ v70 = .int .i64 x70_3 ∧ Aside0 (parrylaw1_DomOrder.l0 kq t279 t283 x9_3 l0 (l0.length : Int) x70_3 = some r) ∧ Aside0 (kq ≤ kj21) ∧ Aside0 (Kd.R (Kd.int .i64) 3 w' w.heap.size (fun k_ => some k_ ≠ (v285 : Value).ownBlock) v281 t279) ∧ Aside0 (Kd.R (Kd.int .i64) 3 w' w.heap.size (fun k_ => some k_ ≠ (v281 : Value).ownBlock) v285 t283) ∧ Aside0 (Below w.heap.size w w'))
                case atStart => exact ⟨(true), (0), (by first | rfl | (simp; done) | (simp [*]; done)), (by first | rfl | (simp; done) | (simp [*]; done)), H', ⟨Nat.le_refl _⟩, ⟨by (with_reducible repeat (first | apply Kd.R_alloc | apply Kd.R_drewN | apply Kd.R_drew)); exact HO_5.out⟩, ⟨by (with_reducible repeat (first | apply Kd.R_alloc | apply Kd.R_drewN | apply Kd.R_drew)); exact HO_7.out⟩, ⟨by repeat (first | (with_reducible first | exact HB.out | apply below_alloc | apply pw_below_drewN | apply below_drew1) | exact HB.out)⟩⟩
                case round =>
                  clear H'
                  try clear c1
                  try clear c2
                  try clear p2
                  try clear c3
                  try clear c5
                  try clear c5b0
                  try clear c6
                  try clear p6
                  try clear c8
                  try clear c8b0
                  try clear c8b1
                  try clear c9
                  try clear c11
                  try clear c14
                  try clear c15
                  try clear c18
                  try clear c19
                  try clear c19b0
                  try clear c19b1
                  try clear c26
                  try clear c27
                  try clear c28
                  try clear c28b0
                  try clear c28b1
                  try clear c28b2
                  try clear c32
                  try clear p2
                  try clear p6
                  obtain ⟨x9_3, x70_3, rfl, rfl, HA, HK3, HO_5, HO_7, HB⟩ := hrel
                  cases gk with
                  | zero => exact absurd HA.out (by simp [parrylaw1_DomOrder.l0])
                  | succ k3 =>
                    have H := HA.out
                    clear HA
                    simp only [parrylaw1_DomOrder.l0] at H
                    by_cases c33 : x70_3 < (l0.length : Int)
                    · rw [if_pos c33] at H
                      have c33b0 : decide (x70_3 < (l0.length : Int)) = true := decide_eq_true c33
                      clear c33
                      by_cases c34 : 0 ≤ x70_3
                      · rw [if_pos c34] at H
                        have c34b0 : decide (0 ≤ x70_3) = true := decide_eq_true c34
                        clear c34
                        by_cases c35 : x70_3 < (l0.length : Int)
                        · rw [if_pos c35] at H
                          have c35b0 : decide (x70_3 < (l0.length : Int)) = true := decide_eq_true c35
                          clear c35
                          by_cases c36 : x70_3 < (t279.length : Int)
                          · rw [if_pos c36] at H
                            have c36b0 : decide (x70_3 < (t279.length : Int)) = true := decide_eq_true c36
                            clear c36
                            by_cases c37 : x9_3 = true
                            · subst c37
                              have H1 : ((parryref1_Size.f ((rd_T28 l0 x70_3).f0) ((rd_T28 l0 x70_3).f1) ((rd_T28 l0 x70_3).f2) ((rd_T28 l0 x70_3).f3) ((rd_T28 l0 x70_3).f4)).bind fun t291 => (if (wrap64 ((rd t279 x70_3) + 1)) ≥ (wrap64 (((rd_T28 l0 x70_3).f3) + t291)) then (if x70_3 < (t283.length : Int) then (if (rd t283 x70_3) = ((rd_T28 l0 x70_3).f3) then (parrylaw1_DomOrder.l0 k3 t279 t283 (decide ((wrap64 ((rd t279 x70_3) + 1)) ≥ (wrap64 (((rd_T28 l0 x70_3).f3) + t291)))) l0 (l0.length : Int) (wrap64 (x70_3 + 1))) else (some false)) else (none)) else (if x70_3 < (t283.length : Int) then (if (rd t283 x70_3) = (wrap64 ((rd t279 x70_3) + 1)) then (parrylaw1_DomOrder.l0 k3 t279 t283 (decide ((wrap64 ((rd t279 x70_3) + 1)) ≥ (wrap64 (((rd_T28 l0 x70_3).f3) + t291)))) l0 (l0.length : Int) (wrap64 (x70_3 + 1))) else (some false)) else (none)))) = some r := by rw [if_pos rfl] at H; exact H
                              clear H
                              have H := H1
                              clear H1
                              replace H := Option.bind_eq_some_iff.mp H
                              obtain ⟨t291, A380, H⟩ := H
                              replace H : (if (wrap64 ((rd t279 x70_3) + 1)) ≥ (wrap64 (((rd_T28 l0 x70_3).f3) + t291)) then (if x70_3 < (t283.length : Int) then (if (rd t283 x70_3) = ((rd_T28 l0 x70_3).f3) then (parrylaw1_DomOrder.l0 k3 t279 t283 (decide ((wrap64 ((rd t279 x70_3) + 1)) ≥ (wrap64 (((rd_T28 l0 x70_3).f3) + t291)))) l0 (l0.length : Int) (wrap64 (x70_3 + 1))) else (some false)) else (none)) else (if x70_3 < (t283.length : Int) then (if (rd t283 x70_3) = (wrap64 ((rd t279 x70_3) + 1)) then (parrylaw1_DomOrder.l0 k3 t279 t283 (decide ((wrap64 ((rd t279 x70_3) + 1)) ≥ (wrap64 (((rd_T28 l0 x70_3).f3) + t291)))) l0 (l0.length : Int) (wrap64 (x70_3 + 1))) else (some false)) else (none))) = some r := H
                              have A38 := Aside0.mk A380
                              clear A380
                              by_cases c39 : (wrap64 ((rd t279 x70_3) + 1)) ≥ (wrap64 (((rd_T28 l0 x70_3).f3) + t291))
                              · rw [if_pos c39] at H
                                have c39b0 : decide ((wrap64 (((rd_T28 l0 x70_3).f3) + t291)) ≤ (wrap64 ((rd t279 x70_3) + 1))) = true := decide_eq_true c39
                                clear c39
                                by_cases c40 : x70_3 < (t283.length : Int)
                                · rw [if_pos c40] at H
                                  have c40b0 : decide (x70_3 < (t283.length : Int)) = true := decide_eq_true c40
                                  clear c40
                                  by_cases c41 : (rd t283 x70_3) = ((rd_T28 l0 x70_3).f3)
                                  · rw [if_pos c41] at H
                                    have c41b0 : ((rd t283 x70_3) == ((rd_T28 l0 x70_3).f3)) = true := beq_iff_eq.mpr c41
                                    have c41b1 : ((rd t283 x70_3) != ((rd_T28 l0 x70_3).f3)) = false := bne_eq_false_iff_eq.mpr c41
                                    clear c41
                                    have H' := Aside0.mk H
                                    clear H
                                    have p288 : 0 ≤ (x70_3 : Int) := of_decide_eq_true (by first | (with_reducible assumption) | assumption)
                                    have q288 : x70_3 < (l0.length : Int) := of_decide_eq_true (by first | (with_reducible assumption) | assumption)
                                    obtain ⟨ad288, e288, hx288_0, hx288_1, hx288_2, hx288_3, hx288_4⟩ := at_T28 HR0.out x70_3 p288 q288
                                    cases e288
                                    replace hx288_0 := (HB.out.cell (World.block_lt_of_cell? w _ hx288_0)).trans hx288_0
                                    replace hx288_1 := (HB.out.cell (World.block_lt_of_cell? w _ hx288_1)).trans hx288_1
                                    replace hx288_2 := (HB.out.cell (World.block_lt_of_cell? w _ hx288_2)).trans hx288_2
                                    replace hx288_3 := (HB.out.cell (World.block_lt_of_cell? w _ hx288_3)).trans hx288_3
                                    replace hx288_4 := (HB.out.cell (World.block_lt_of_cell? w _ hx288_4)).trans hx288_4
                                    replace p288 := eq_true p288
                                    replace q288 := eq_true q288
                                    try go_wp2_with (first | ((with_reducible refine gate_dst (N := 11) rfl ?_); (try (refine gate_guard (by rfl) ?_; dsimp only)); refine box_event ?hg (N := 11) ?hd (cs := #[.string (⟨#[]⟩ : ByteArray), .bool false, .int .i64 0, .int .i64 0, .int .i64 0]) (t := 28) ?hr ?_; (case hd => rfl); (case hg => rfl); (case hr => first | (go_simp; done) | (go_simp; rfl)); intro gb289 hg w42 hbox hb; have n0_ := Aside0.mk (Kd.R_below (by (with_reducible repeat (first | apply Kd.R_alloc | apply Kd.R_drewN | apply Kd.R_drew)); exact HO_5.out) hb); have n1_ := Aside0.mk (Kd.R_below (by (with_reducible repeat (first | apply Kd.R_alloc | apply Kd.R_drewN | apply Kd.R_drew)); exact HO_7.out) hb); have n2_ := Aside0.mk (below_step (by repeat (first | (with_reducible first | exact HB.out | apply below_alloc | apply pw_below_drewN | apply below_drew1) | exact HB.out)) hb); have n3_ := Aside0.mk (hbox); have n4_ := Aside0.mk ((by rw [hg]; exact (below_size (by repeat (first | (with_reducible first | exact HB.out | apply below_alloc | apply pw_below_drewN | apply below_drew1) | exact HB.out))) : w.heap.size ≤ gb289)); have n5_ := Aside0.mk ((by rw [hg]; exact (below_size (by repeat (first | (with_reducible first | exact HB.out | apply below_alloc | apply pw_below_drewN | apply below_drew1) | exact HB.out))) : w.heap.size ≤ gb289)); clear HO_5; clear HO_7; clear HB; have HO_5 := n0_; have HO_7 := n1_; have HB := n2_; have BK289 := n3_; have GW289 := n4_; have GE289 := n5_; clear n0_ n1_ n2_ n3_ n4_ n5_; clear hb hbox hg; have hcz43_0 : w42.cell? ⟨gb289, 0, none⟩ = some (.string (⟨#[]⟩ : ByteArray)) := (blk_cell BK289.out 0).trans rfl; have hcz43_1 : w42.cell? ⟨gb289, 1, none⟩ = some (.bool false) := (blk_cell BK289.out 1).trans rfl; have hcz43_2 : w42.cell? ⟨gb289, 2, none⟩ = some (.int .i64 0) := (blk_cell BK289.out 2).trans rfl; have hcz43_3 : w42.cell? ⟨gb289, 3, none⟩ = some (.int .i64 0) := (blk_cell BK289.out 3).trans rfl; have hcz43_4 : w42.cell? ⟨gb289, 4, none⟩ = some (.int .i64 0) := (blk_cell BK289.out 4).trans rfl; have hfz43_0 := blk_frozen BK289.out 0; have hfz43_1 := blk_frozen BK289.out 1; have hfz43_2 := blk_frozen BK289.out 2; have hfz43_3 := blk_frozen BK289.out 3; have hfz43_4 := blk_frozen BK289.out 4; obtain ⟨Ao44, co44, eo44⟩ := Kd.R_slice HO_5.out; subst eo44; have p290 : 0 ≤ (x70_3 : Int) := of_decide_eq_true (by first | (with_reducible assumption) | assumption); have q290 : x70_3 < (t279.length : Int) := of_decide_eq_true (by first | (with_reducible assumption) | assumption); obtain ⟨ad290, e290, hx290_0⟩ := Kd.at_int (Kd.R_reads' HO_5.out).2.2 x70_3 p290 q290; cases e290; have hn290_0 : ad290.block ≠ gb289 := Kd.own_blk (Kd.R_ne HO_5.out BK289.out (by decide)); have hn290_1 : ad290.block ≠ gb289 := Kd.own_blk (Kd.R_ne HO_5.out BK289.out (by decide)); have hn290_2 : ad290.block ≠ gb289 := Kd.own_blk (Kd.R_ne HO_5.out BK289.out (by decide)); have hn290_3 : ad290.block ≠ gb289 := Kd.own_blk (Kd.R_ne HO_5.out BK289.out (by decide)); have hn290_4 : ad290.block ≠ gb289 := Kd.own_blk (Kd.R_ne HO_5.out BK289.out (by decide)); replace hx290_0 := (cell_far (p := ⟨gb289, 0, none⟩) (by first | (rw [add_block]; exact hn290_0) | (show (Addr.add _ _).block ≠ _; rw [add_block]; exact hn290_0) | exact hn290_0) (.string ((rd_T28 l0 x70_3).f0))).trans hx290_0; replace hx290_0 := (cell_far (p := ⟨gb289, 1, none⟩) (by first | (rw [add_block]; exact hn290_1) | (show (Addr.add _ _).block ≠ _; rw [add_block]; exact hn290_1) | exact hn290_1) (.bool ((rd_T28 l0 x70_3).f1))).trans hx290_0; replace hx290_0 := (cell_far (p := ⟨gb289, 2, none⟩) (by first | (rw [add_block]; exact hn290_2) | (show (Addr.add _ _).block ≠ _; rw [add_block]; exact hn290_2) | exact hn290_2) (.int .i64 ((rd_T28 l0 x70_3).f2))).trans hx290_0; replace hx290_0 := (cell_far (p := ⟨gb289, 3, none⟩) (by first | (rw [add_block]; exact hn290_3) | (show (Addr.add _ _).block ≠ _; rw [add_block]; exact hn290_3) | exact hn290_3) (.int .i64 ((rd_T28 l0 x70_3).f3))).trans hx290_0; replace hx290_0 := (cell_far (p := ⟨gb289, 4, none⟩) (by first | (rw [add_block]; exact hn290_4) | (show (Addr.add _ _).block ≠ _; rw [add_block]; exact hn290_4) | exact hn290_4) (.int .i64 ((rd_T28 l0 x70_3).f4))).trans hx290_0; clear hn290_0; clear hn290_1; clear hn290_2; clear hn290_3; clear hn290_4; replace p290 := eq_true p290; replace q290 := eq_true q290))
                                    have n0_ : Aside0 (Kd.R (Kd.int .i64) 3 (((((w42.setCell ⟨gb289, 0, none⟩ (.string ((rd_T28 l0 x70_3).f0))).setCell ⟨gb289, 1, none⟩ (.bool ((rd_T28 l0 x70_3).f1))).setCell ⟨gb289, 2, none⟩ (.int .i64 ((rd_T28 l0 x70_3).f2))).setCell ⟨gb289, 3, none⟩ (.int .i64 ((rd_T28 l0 x70_3).f3))).setCell ⟨gb289, 4, none⟩ (.int .i64 ((rd_T28 l0 x70_3).f4))) w.heap.size (fun k_ => some k_ ≠ (v285 : Value).ownBlock) (.slice (some ad290) t279.length co44) t279) := ⟨by (with_reducible repeat (first | apply Kd.R_alloc | apply Kd.R_drewN | apply Kd.R_drew)); exact Kd.R_mono (Kd.R_far (p := ⟨gb289, 4, none⟩) (Kd.R_far (p := ⟨gb289, 3, none⟩) (Kd.R_far (p := ⟨gb289, 2, none⟩) (Kd.R_far (p := ⟨gb289, 1, none⟩) (Kd.R_far (p := ⟨gb289, 0, none⟩) (Kd.R_types HO_5.out BK289.out (by decide)) (fun _ hk => hk.2) (.string ((rd_T28 l0 x70_3).f0))) (fun _ hk => hk.2) (.bool ((rd_T28 l0 x70_3).f1))) (fun _ hk => hk.2) (.int .i64 ((rd_T28 l0 x70_3).f2))) (fun _ hk => hk.2) (.int .i64 ((rd_T28 l0 x70_3).f3))) (fun _ hk => hk.2) (.int .i64 ((rd_T28 l0 x70_3).f4))) (fun _ hk => hk.1)⟩
                                    have n1_ : Aside0 (Kd.R (Kd.int .i64) 3 (((((w42.setCell ⟨gb289, 0, none⟩ (.string ((rd_T28 l0 x70_3).f0))).setCell ⟨gb289, 1, none⟩ (.bool ((rd_T28 l0 x70_3).f1))).setCell ⟨gb289, 2, none⟩ (.int .i64 ((rd_T28 l0 x70_3).f2))).setCell ⟨gb289, 3, none⟩ (.int .i64 ((rd_T28 l0 x70_3).f3))).setCell ⟨gb289, 4, none⟩ (.int .i64 ((rd_T28 l0 x70_3).f4))) w.heap.size (fun k_ => some k_ ≠ (.slice (some ad290) t279.length co44 : Value).ownBlock) v285 t283) := ⟨by (with_reducible repeat (first | apply Kd.R_alloc | apply Kd.R_drewN | apply Kd.R_drew)); exact Kd.R_mono (Kd.R_far (p := ⟨gb289, 4, none⟩) (Kd.R_far (p := ⟨gb289, 3, none⟩) (Kd.R_far (p := ⟨gb289, 2, none⟩) (Kd.R_far (p := ⟨gb289, 1, none⟩) (Kd.R_far (p := ⟨gb289, 0, none⟩) (Kd.R_types HO_7.out BK289.out (by decide)) (fun _ hk => hk.2) (.string ((rd_T28 l0 x70_3).f0))) (fun _ hk => hk.2) (.bool ((rd_T28 l0 x70_3).f1))) (fun _ hk => hk.2) (.int .i64 ((rd_T28 l0 x70_3).f2))) (fun _ hk => hk.2) (.int .i64 ((rd_T28 l0 x70_3).f3))) (fun _ hk => hk.2) (.int .i64 ((rd_T28 l0 x70_3).f4))) (fun _ hk => hk.1)⟩
                                    have n2_ : Aside0 ((((((w42.setCell ⟨gb289, 0, none⟩ (.string ((rd_T28 l0 x70_3).f0))).setCell ⟨gb289, 1, none⟩ (.bool ((rd_T28 l0 x70_3).f1))).setCell ⟨gb289, 2, none⟩ (.int .i64 ((rd_T28 l0 x70_3).f2))).setCell ⟨gb289, 3, none⟩ (.int .i64 ((rd_T28 l0 x70_3).f3))).setCell ⟨gb289, 4, none⟩ (.int .i64 ((rd_T28 l0 x70_3).f4))).heap[gb289]? = some (.cells #[.string ((rd_T28 l0 x70_3).f0), .bool ((rd_T28 l0 x70_3).f1), .int .i64 ((rd_T28 l0 x70_3).f2), .int .i64 ((rd_T28 l0 x70_3).f3), .int .i64 ((rd_T28 l0 x70_3).f4)] 28 (0, 0))) := ⟨by (with_reducible repeat (first | refine blk_drewN ?_ _ | refine blk_drew ?_ | refine blk_alloc ?_ _)); refine blk_put (cs := #[.string ((rd_T28 l0 x70_3).f0), .bool ((rd_T28 l0 x70_3).f1), .int .i64 ((rd_T28 l0 x70_3).f2), .int .i64 ((rd_T28 l0 x70_3).f3), .int .i64 0]) ?_ 4 _ rfl; (with_reducible repeat (first | refine blk_drewN ?_ _ | refine blk_drew ?_ | refine blk_alloc ?_ _)); refine blk_put (cs := #[.string ((rd_T28 l0 x70_3).f0), .bool ((rd_T28 l0 x70_3).f1), .int .i64 ((rd_T28 l0 x70_3).f2), .int .i64 0, .int .i64 0]) ?_ 3 _ rfl; (with_reducible repeat (first | refine blk_drewN ?_ _ | refine blk_drew ?_ | refine blk_alloc ?_ _)); refine blk_put (cs := #[.string ((rd_T28 l0 x70_3).f0), .bool ((rd_T28 l0 x70_3).f1), .int .i64 0, .int .i64 0, .int .i64 0]) ?_ 2 _ rfl; (with_reducible repeat (first | refine blk_drewN ?_ _ | refine blk_drew ?_ | refine blk_alloc ?_ _)); refine blk_put (cs := #[.string ((rd_T28 l0 x70_3).f0), .bool false, .int .i64 0, .int .i64 0, .int .i64 0]) ?_ 1 _ rfl; (with_reducible repeat (first | refine blk_drewN ?_ _ | refine blk_drew ?_ | refine blk_alloc ?_ _)); refine blk_put (cs := #[.string (⟨#[]⟩ : ByteArray), .bool false, .int .i64 0, .int .i64 0, .int .i64 0]) ?_ 0 _ rfl; (with_reducible repeat (first | refine blk_drewN ?_ _ | refine blk_drew ?_ | refine blk_alloc ?_ _)); exact BK289.out⟩
                                    have n3_ : Aside0 (Below w.heap.size w (((((w42.setCell ⟨gb289, 0, none⟩ (.string ((rd_T28 l0 x70_3).f0))).setCell ⟨gb289, 1, none⟩ (.bool ((rd_T28 l0 x70_3).f1))).setCell ⟨gb289, 2, none⟩ (.int .i64 ((rd_T28 l0 x70_3).f2))).setCell ⟨gb289, 3, none⟩ (.int .i64 ((rd_T28 l0 x70_3).f3))).setCell ⟨gb289, 4, none⟩ (.int .i64 ((rd_T28 l0 x70_3).f4)))) := ⟨by repeat (first | (with_reducible first | exact HB.out | apply below_alloc | apply pw_below_drewN | apply below_drew1 | refine below_set ?_ GE289.out) | exact HB.out)⟩
                                    (try clear HO_5)
                                    (try clear HO_7)
                                    (try clear BK289)
                                    (try clear HB)
                                    generalize (((((w42.setCell ⟨gb289, 0, none⟩ (.string ((rd_T28 l0 x70_3).f0))).setCell ⟨gb289, 1, none⟩ (.bool ((rd_T28 l0 x70_3).f1))).setCell ⟨gb289, 2, none⟩ (.int .i64 ((rd_T28 l0 x70_3).f2))).setCell ⟨gb289, 3, none⟩ (.int .i64 ((rd_T28 l0 x70_3).f3))).setCell ⟨gb289, 4, none⟩ (.int .i64 ((rd_T28 l0 x70_3).f4))) = w45 at n0_ n1_ n2_ n3_ ⊢
                                    have HO_5 := n0_
                                    have HO_7 := n1_
                                    have BK289 := n2_
                                    have HB := n3_
                                    clear n0_ n1_ n2_ n3_
                                    have n0_ := Aside0.mk (Kd.R_drew HO_5.out)
                                    have n1_ := Aside0.mk (Kd.R_drew HO_7.out)
                                    have n2_ := Aside0.mk (blk_drew BK289.out)
                                    have n3_ := Aside0.mk (below_drew1 HB.out)
                                    clear HO_5
                                    clear HO_7
                                    clear BK289
                                    clear HB
                                    have HO_5 := n0_
                                    have HO_7 := n1_
                                    have BK289 := n2_
                                    have HB := n3_
                                    clear n0_ n1_ n2_ n3_
                                    refine start_ (n := 8) (S := fun w' => w'.cell? ⟨gb289, 0, none⟩ = some (.string ((rd_T28 l0 x70_3).f0)) ∧ w'.cell? ⟨gb289, 1, none⟩ = some (.bool ((rd_T28 l0 x70_3).f1)) ∧ w'.cell? ⟨gb289, 2, none⟩ = some (.int .i64 ((rd_T28 l0 x70_3).f2)) ∧ w'.cell? ⟨gb289, 3, none⟩ = some (.int .i64 ((rd_T28 l0 x70_3).f3)) ∧ w'.cell? ⟨gb289, 4, none⟩ = some (.int .i64 ((rd_T28 l0 x70_3).f4))) (ds := []) #[false, false, false, false, false, false, false, false] (by kernel_rfl) rfl rfl ⟨(blk_cell BK289.out 0).trans rfl, (blk_cell BK289.out 1).trans rfl, (blk_cell BK289.out 2).trans rfl, (blk_cell BK289.out 3).trans rfl, (blk_cell BK289.out 4).trans rfl⟩ (fun hHeld => ?_); refine with_tabW parrylaw1_DomOrder.tab15 parrylaw1_DomOrder.bits15 (fun HT_ HW_ => ?_)
                                    generalize w45.drew = w46 at HO_5 HO_7 BK289 HB hHeld ⊢
                                    refine pure_ (i := 0) (N := some 82) (v := ?_) (a' := ?_) #[true, false, false, false, false, false, false, false] rfl rfl (any_of HT_.out (by kernel_rfl)) (fun _ _ _ h => h) (Or.inl ⟨by rfl, ?_⟩) ?_ ?_
                                    rotate_left
                                    · intro w'
                                      go_simp
                                      with_reducible rfl
                                    rotate_left
                                    · simp only [Act.put, List.setIfInBounds_toArray, List.set_cons_zero, List.set_cons_succ, i64_w, i32_w]
                                      rfl
                                    refine pure_ (i := 1) (N := some 83) (v := ?_) (a' := ?_) #[true, true, false, false, false, false, false, false] rfl rfl (any_of HT_.out (by kernel_rfl)) (fun _ _ _ h => h) (Or.inl ⟨by rfl, ?_⟩) ?_ ?_
                                    rotate_left
                                    · intro w'
                                      go_simp
                                      with_reducible rfl
                                    rotate_left
                                    · simp only [Act.put, List.setIfInBounds_toArray, List.set_cons_zero, List.set_cons_succ, i64_w, i32_w]
                                      rfl
                                    refine take_ (i := 2) (N := some 84) (v := ?_) (a' := ?_) #[true, true, true, false, false, false, false, false] rfl rfl (take_ofW HT_.out HW_.out (by kernel_rfl)) (fun _ _ _ h => h) (Or.inl ⟨by rfl, ?_⟩) hHeld ?_ ?_
                                    rotate_left
                                    · rintro w' ⟨s0, s1, s2, s3, s4⟩
                                      go_simp
                                      with_reducible rfl
                                    rotate_left
                                    · simp only [Act.put, List.setIfInBounds_toArray, List.set_cons_zero, List.set_cons_succ, i64_w, i32_w]
                                      rfl
                                    refine take_ (i := 3) (N := some 85) (v := ?_) (a' := ?_) #[true, true, true, true, false, false, false, false] rfl rfl (take_ofW HT_.out HW_.out (by kernel_rfl)) (fun _ _ _ h => h) (Or.inl ⟨by rfl, ?_⟩) hHeld ?_ ?_
                                    rotate_left
                                    · rintro w' ⟨s0, s1, s2, s3, s4⟩
                                      go_simp
                                      with_reducible rfl
                                    rotate_left
                                    · simp only [Act.put, List.setIfInBounds_toArray, List.set_cons_zero, List.set_cons_succ, i64_w, i32_w]
                                      rfl
                                    refine one_ (i := 4) (N := some 86) #[true, true, true, true, true, false, false, false] rfl rfl (one_of HT_.out (by kernel_rfl)) (by decide) (fun K hK => ?_)
                                    refine goes_ Try.func19 (by kernel_rfl) rfl #[.agg #[.string ((rd_T28 l0 x70_3).f0), .bool ((rd_T28 l0 x70_3).f1), .int .i64 ((rd_T28 l0 x70_3).f2), .int .i64 ((rd_T28 l0 x70_3).f3), .int .i64 ((rd_T28 l0 x70_3).f4)]] (by rfl) rfl rfl (by (try simp only [List.map_toArray, List.map_cons, List.map_nil]); first | done | rfl | (simp only [List.length_drop, List.length_take]; rfl)) ?_
                                    with_reducible refine (parryref1_Size.calls ((rd_T28 l0 x70_3).f0) ((rd_T28 l0 x70_3).f1) ((rd_T28 l0 x70_3).f2) ((rd_T28 l0 x70_3).f3) ((rd_T28 l0 x70_3).f4) t291 _ A38.out).mono ?_
                                    rintro e w47 ⟨rfl, hb⟩
                                    refine ⟨_, rfl, ?_⟩
                                    have n0_ := Aside0.mk (Kd.R_below (by (with_reducible repeat (first | apply Kd.R_alloc | apply Kd.R_drewN | apply Kd.R_drew)); exact HO_5.out) hb)
                                    have n1_ := Aside0.mk (Kd.R_below (by (with_reducible repeat (first | apply Kd.R_alloc | apply Kd.R_drewN | apply Kd.R_drew)); exact HO_7.out) hb)
                                    have n2_ := Aside0.mk (blk_below (g := gb289) (o := .cells #[.string ((rd_T28 l0 x70_3).f0), .bool ((rd_T28 l0 x70_3).f1), .int .i64 ((rd_T28 l0 x70_3).f2), .int .i64 ((rd_T28 l0 x70_3).f3), .int .i64 ((rd_T28 l0 x70_3).f4)] 28 (0, 0)) (by (with_reducible repeat (first | refine blk_drewN ?_ _ | refine blk_drew ?_ | refine blk_alloc ?_ _)); exact BK289.out) hb)
                                    have n3_ := Aside0.mk (below_step (by repeat (first | (with_reducible first | exact HB.out | apply below_alloc | apply pw_below_drewN | apply below_drew1 | refine below_set ?_ GE289.out) | exact HB.out)) hb)
                                    clear HO_5
                                    clear HO_7
                                    clear BK289
                                    clear HB
                                    have HO_5 := n0_
                                    have HO_7 := n1_
                                    have BK289 := n2_
                                    have HB := n3_
                                    clear n0_ n1_ n2_ n3_
                                    (try clear hb)
                                    (try clear hb2)
                                    (try clear hk)
                                    (try clear hi)
                                    refine hK.out _ _ ⟨(blk_cell BK289.out 0).trans rfl, (blk_cell BK289.out 1).trans rfl, (blk_cell BK289.out 2).trans rfl, (blk_cell BK289.out 3).trans rfl, (blk_cell BK289.out 4).trans rfl⟩ (fun hHeld => ?_)
                                    clear hK K
                                    refine norm_ (a' := ?_) ?_ ?_
                                    rotate_left
                                    · show Act.put _ (some 86) _ = _
                                      simp only [Act.put, List.setIfInBounds_toArray, List.set_cons_zero, List.set_cons_succ, i64_w, i32_w]
                                      rfl
                                    refine pure_ (i := 5) (N := some 87) (v := ?_) (a' := ?_) #[true, true, true, true, true, true, false, false] rfl rfl (any_of HT_.out (by kernel_rfl)) (fun _ _ _ h => h) (Or.inl ⟨by rfl, ?_⟩) ?_ ?_
                                    rotate_left
                                    · intro w'
                                      go_simp
                                      with_reducible rfl
                                    rotate_left
                                    · simp only [Act.put, List.setIfInBounds_toArray, List.set_cons_zero, List.set_cons_succ, i64_w, i32_w]
                                      rfl
                                    refine pure_ (i := 6) (N := some 88) (v := ?_) (a' := ?_) #[true, true, true, true, true, true, true, false] rfl rfl (any_of HT_.out (by kernel_rfl)) (fun _ _ _ h => h) (Or.inl ⟨by rfl, ?_⟩) ?_ ?_
                                    rotate_left
                                    · intro w'
                                      go_simp
                                      with_reducible rfl
                                    rotate_left
                                    · simp only [Act.put, List.setIfInBounds_toArray, List.set_cons_zero, List.set_cons_succ, i64_w, i32_w]
                                      rfl
                                    refine pure_ (i := 7) (N := some 9) (v := ?_) (a' := ?_) #[true, true, true, true, true, true, true, true] rfl rfl (any_of HT_.out (by kernel_rfl)) (fun _ _ _ h => h) (Or.inl ⟨by rfl, ?_⟩) ?_ ?_
                                    rotate_left
                                    · intro w'
                                      go_simp
                                      with_reducible rfl
                                    rotate_left
                                    · simp only [Act.put, List.setIfInBounds_toArray, List.set_cons_zero, List.set_cons_succ, i64_w, i32_w]
                                      rfl
                                    refine done_ (done_of HT_.out (by kernel_rfl)) ?_
                                    have hcz48_0 : w47.cell? ⟨gb289, 0, none⟩ = some (.string ((rd_T28 l0 x70_3).f0)) := (blk_cell BK289.out 0).trans rfl
                                    have hcz48_1 : w47.cell? ⟨gb289, 1, none⟩ = some (.bool ((rd_T28 l0 x70_3).f1)) := (blk_cell BK289.out 1).trans rfl
                                    have hcz48_2 : w47.cell? ⟨gb289, 2, none⟩ = some (.int .i64 ((rd_T28 l0 x70_3).f2)) := (blk_cell BK289.out 2).trans rfl
                                    have hcz48_3 : w47.cell? ⟨gb289, 3, none⟩ = some (.int .i64 ((rd_T28 l0 x70_3).f3)) := (blk_cell BK289.out 3).trans rfl
                                    have hcz48_4 : w47.cell? ⟨gb289, 4, none⟩ = some (.int .i64 ((rd_T28 l0 x70_3).f4)) := (blk_cell BK289.out 4).trans rfl
                                    have hfz48_0 := blk_frozen BK289.out 0
                                    have hfz48_1 := blk_frozen BK289.out 1
                                    have hfz48_2 := blk_frozen BK289.out 2
                                    have hfz48_3 := blk_frozen BK289.out 3
                                    have hfz48_4 := blk_frozen BK289.out 4
                                    obtain ⟨Ao49, co49, eo49⟩ := Kd.R_slice HO_7.out
                                    subst eo49
                                    have p292 : 0 ≤ (x70_3 : Int) := of_decide_eq_true (by first | (with_reducible assumption) | assumption)
                                    have q292 : x70_3 < (t283.length : Int) := of_decide_eq_true (by first | (with_reducible assumption) | assumption)
                                    obtain ⟨ad292, e292, hx292_0⟩ := Kd.at_int (Kd.R_reads' HO_7.out).2.2 x70_3 p292 q292
                                    cases e292
                                    replace p292 := eq_true p292
                                    replace q292 := eq_true q292
                                    try go_wp2
                                    go_roundg k3
                                    case measure => have := HJ2.out; have := HJ21.out; have := HK3.out; omega
                                    case rel => exact ⟨(decide ((wrap64 ((rd t279 x70_3) + 1)) ≥ (wrap64 (((rd_T28 l0 x70_3).f3) + t291)))), (wrap64 (x70_3 + 1)), (by first | rfl | (simp; done) | (simp [*]; done)), (by first | rfl | (simp; done) | (simp [*]; done)), H', ⟨by have := HJ2.out; have := HJ21.out; have := HK3.out; omega⟩, ⟨by (with_reducible repeat (first | apply Kd.R_alloc | apply Kd.R_drewN | apply Kd.R_drew)); exact HO_5.out⟩, ⟨by (with_reducible repeat (first | apply Kd.R_alloc | apply Kd.R_drewN | apply Kd.R_drew)); exact HO_7.out⟩, ⟨by repeat (first | (with_reducible first | exact HB.out | apply below_alloc | apply pw_below_drewN | apply below_drew1 | refine below_set ?_ GE289.out) | exact HB.out)⟩⟩
                                  · rw [if_neg c41] at H
                                    have c41b0 : ((rd t283 x70_3) == ((rd_T28 l0 x70_3).f3)) = false := beq_eq_false_iff_ne.mpr c41
                                    have c41b1 : ((rd t283 x70_3) != ((rd_T28 l0 x70_3).f3)) = true := bne_iff_ne.mpr c41
                                    obtain rfl := Option.some.inj H
                                    have p288 : 0 ≤ (x70_3 : Int) := of_decide_eq_true (by first | (with_reducible assumption) | assumption)
                                    have q288 : x70_3 < (l0.length : Int) := of_decide_eq_true (by first | (with_reducible assumption) | assumption)
                                    obtain ⟨ad288, e288, hx288_0, hx288_1, hx288_2, hx288_3, hx288_4⟩ := at_T28 HR0.out x70_3 p288 q288
                                    cases e288
                                    replace hx288_0 := (HB.out.cell (World.block_lt_of_cell? w _ hx288_0)).trans hx288_0
                                    replace hx288_1 := (HB.out.cell (World.block_lt_of_cell? w _ hx288_1)).trans hx288_1
                                    replace hx288_2 := (HB.out.cell (World.block_lt_of_cell? w _ hx288_2)).trans hx288_2
                                    replace hx288_3 := (HB.out.cell (World.block_lt_of_cell? w _ hx288_3)).trans hx288_3
                                    replace hx288_4 := (HB.out.cell (World.block_lt_of_cell? w _ hx288_4)).trans hx288_4
                                    replace p288 := eq_true p288
                                    replace q288 := eq_true q288
                                    try go_wp2_with (first | ((with_reducible refine gate_dst (N := 11) rfl ?_); (try (refine gate_guard (by rfl) ?_; dsimp only)); refine box_event ?hg (N := 11) ?hd (cs := #[.string (⟨#[]⟩ : ByteArray), .bool false, .int .i64 0, .int .i64 0, .int .i64 0]) (t := 28) ?hr ?_; (case hd => rfl); (case hg => rfl); (case hr => first | (go_simp; done) | (go_simp; rfl)); intro gb289 hg w50 hbox hb; have n0_ := Aside0.mk (Kd.R_below (by (with_reducible repeat (first | apply Kd.R_alloc | apply Kd.R_drewN | apply Kd.R_drew)); exact HO_5.out) hb); have n1_ := Aside0.mk (Kd.R_below (by (with_reducible repeat (first | apply Kd.R_alloc | apply Kd.R_drewN | apply Kd.R_drew)); exact HO_7.out) hb); have n2_ := Aside0.mk (below_step (by repeat (first | (with_reducible first | exact HB.out | apply below_alloc | apply pw_below_drewN | apply below_drew1) | exact HB.out)) hb); have n3_ := Aside0.mk (hbox); have n4_ := Aside0.mk ((by rw [hg]; exact (below_size (by repeat (first | (with_reducible first | exact HB.out | apply below_alloc | apply pw_below_drewN | apply below_drew1) | exact HB.out))) : w.heap.size ≤ gb289)); have n5_ := Aside0.mk ((by rw [hg]; exact (below_size (by repeat (first | (with_reducible first | exact HB.out | apply below_alloc | apply pw_below_drewN | apply below_drew1) | exact HB.out))) : w.heap.size ≤ gb289)); clear HO_5; clear HO_7; clear HB; have HO_5 := n0_; have HO_7 := n1_; have HB := n2_; have BK289 := n3_; have GW289 := n4_; have GE289 := n5_; clear n0_ n1_ n2_ n3_ n4_ n5_; clear hb hbox hg; have hcz51_0 : w50.cell? ⟨gb289, 0, none⟩ = some (.string (⟨#[]⟩ : ByteArray)) := (blk_cell BK289.out 0).trans rfl; have hcz51_1 : w50.cell? ⟨gb289, 1, none⟩ = some (.bool false) := (blk_cell BK289.out 1).trans rfl; have hcz51_2 : w50.cell? ⟨gb289, 2, none⟩ = some (.int .i64 0) := (blk_cell BK289.out 2).trans rfl; have hcz51_3 : w50.cell? ⟨gb289, 3, none⟩ = some (.int .i64 0) := (blk_cell BK289.out 3).trans rfl; have hcz51_4 : w50.cell? ⟨gb289, 4, none⟩ = some (.int .i64 0) := (blk_cell BK289.out 4).trans rfl; have hfz51_0 := blk_frozen BK289.out 0; have hfz51_1 := blk_frozen BK289.out 1; have hfz51_2 := blk_frozen BK289.out 2; have hfz51_3 := blk_frozen BK289.out 3; have hfz51_4 := blk_frozen BK289.out 4; obtain ⟨Ao52, co52, eo52⟩ := Kd.R_slice HO_5.out; subst eo52; have p290 : 0 ≤ (x70_3 : Int) := of_decide_eq_true (by first | (with_reducible assumption) | assumption); have q290 : x70_3 < (t279.length : Int) := of_decide_eq_true (by first | (with_reducible assumption) | assumption); obtain ⟨ad290, e290, hx290_0⟩ := Kd.at_int (Kd.R_reads' HO_5.out).2.2 x70_3 p290 q290; cases e290; have hn290_0 : ad290.block ≠ gb289 := Kd.own_blk (Kd.R_ne HO_5.out BK289.out (by decide)); have hn290_1 : ad290.block ≠ gb289 := Kd.own_blk (Kd.R_ne HO_5.out BK289.out (by decide)); have hn290_2 : ad290.block ≠ gb289 := Kd.own_blk (Kd.R_ne HO_5.out BK289.out (by decide)); have hn290_3 : ad290.block ≠ gb289 := Kd.own_blk (Kd.R_ne HO_5.out BK289.out (by decide)); have hn290_4 : ad290.block ≠ gb289 := Kd.own_blk (Kd.R_ne HO_5.out BK289.out (by decide)); replace hx290_0 := (cell_far (p := ⟨gb289, 0, none⟩) (by first | (rw [add_block]; exact hn290_0) | (show (Addr.add _ _).block ≠ _; rw [add_block]; exact hn290_0) | exact hn290_0) (.string ((rd_T28 l0 x70_3).f0))).trans hx290_0; replace hx290_0 := (cell_far (p := ⟨gb289, 1, none⟩) (by first | (rw [add_block]; exact hn290_1) | (show (Addr.add _ _).block ≠ _; rw [add_block]; exact hn290_1) | exact hn290_1) (.bool ((rd_T28 l0 x70_3).f1))).trans hx290_0; replace hx290_0 := (cell_far (p := ⟨gb289, 2, none⟩) (by first | (rw [add_block]; exact hn290_2) | (show (Addr.add _ _).block ≠ _; rw [add_block]; exact hn290_2) | exact hn290_2) (.int .i64 ((rd_T28 l0 x70_3).f2))).trans hx290_0; replace hx290_0 := (cell_far (p := ⟨gb289, 3, none⟩) (by first | (rw [add_block]; exact hn290_3) | (show (Addr.add _ _).block ≠ _; rw [add_block]; exact hn290_3) | exact hn290_3) (.int .i64 ((rd_T28 l0 x70_3).f3))).trans hx290_0; replace hx290_0 := (cell_far (p := ⟨gb289, 4, none⟩) (by first | (rw [add_block]; exact hn290_4) | (show (Addr.add _ _).block ≠ _; rw [add_block]; exact hn290_4) | exact hn290_4) (.int .i64 ((rd_T28 l0 x70_3).f4))).trans hx290_0; clear hn290_0; clear hn290_1; clear hn290_2; clear hn290_3; clear hn290_4; replace p290 := eq_true p290; replace q290 := eq_true q290))
                                    have n0_ : Aside0 (Kd.R (Kd.int .i64) 3 (((((w50.setCell ⟨gb289, 0, none⟩ (.string ((rd_T28 l0 x70_3).f0))).setCell ⟨gb289, 1, none⟩ (.bool ((rd_T28 l0 x70_3).f1))).setCell ⟨gb289, 2, none⟩ (.int .i64 ((rd_T28 l0 x70_3).f2))).setCell ⟨gb289, 3, none⟩ (.int .i64 ((rd_T28 l0 x70_3).f3))).setCell ⟨gb289, 4, none⟩ (.int .i64 ((rd_T28 l0 x70_3).f4))) w.heap.size (fun k_ => some k_ ≠ (v285 : Value).ownBlock) (.slice (some ad290) t279.length co52) t279) := ⟨by (with_reducible repeat (first | apply Kd.R_alloc | apply Kd.R_drewN | apply Kd.R_drew)); exact Kd.R_mono (Kd.R_far (p := ⟨gb289, 4, none⟩) (Kd.R_far (p := ⟨gb289, 3, none⟩) (Kd.R_far (p := ⟨gb289, 2, none⟩) (Kd.R_far (p := ⟨gb289, 1, none⟩) (Kd.R_far (p := ⟨gb289, 0, none⟩) (Kd.R_types HO_5.out BK289.out (by decide)) (fun _ hk => hk.2) (.string ((rd_T28 l0 x70_3).f0))) (fun _ hk => hk.2) (.bool ((rd_T28 l0 x70_3).f1))) (fun _ hk => hk.2) (.int .i64 ((rd_T28 l0 x70_3).f2))) (fun _ hk => hk.2) (.int .i64 ((rd_T28 l0 x70_3).f3))) (fun _ hk => hk.2) (.int .i64 ((rd_T28 l0 x70_3).f4))) (fun _ hk => hk.1)⟩
                                    have n1_ : Aside0 (Kd.R (Kd.int .i64) 3 (((((w50.setCell ⟨gb289, 0, none⟩ (.string ((rd_T28 l0 x70_3).f0))).setCell ⟨gb289, 1, none⟩ (.bool ((rd_T28 l0 x70_3).f1))).setCell ⟨gb289, 2, none⟩ (.int .i64 ((rd_T28 l0 x70_3).f2))).setCell ⟨gb289, 3, none⟩ (.int .i64 ((rd_T28 l0 x70_3).f3))).setCell ⟨gb289, 4, none⟩ (.int .i64 ((rd_T28 l0 x70_3).f4))) w.heap.size (fun k_ => some k_ ≠ (.slice (some ad290) t279.length co52 : Value).ownBlock) v285 t283) := ⟨by (with_reducible repeat (first | apply Kd.R_alloc | apply Kd.R_drewN | apply Kd.R_drew)); exact Kd.R_mono (Kd.R_far (p := ⟨gb289, 4, none⟩) (Kd.R_far (p := ⟨gb289, 3, none⟩) (Kd.R_far (p := ⟨gb289, 2, none⟩) (Kd.R_far (p := ⟨gb289, 1, none⟩) (Kd.R_far (p := ⟨gb289, 0, none⟩) (Kd.R_types HO_7.out BK289.out (by decide)) (fun _ hk => hk.2) (.string ((rd_T28 l0 x70_3).f0))) (fun _ hk => hk.2) (.bool ((rd_T28 l0 x70_3).f1))) (fun _ hk => hk.2) (.int .i64 ((rd_T28 l0 x70_3).f2))) (fun _ hk => hk.2) (.int .i64 ((rd_T28 l0 x70_3).f3))) (fun _ hk => hk.2) (.int .i64 ((rd_T28 l0 x70_3).f4))) (fun _ hk => hk.1)⟩
                                    have n2_ : Aside0 ((((((w50.setCell ⟨gb289, 0, none⟩ (.string ((rd_T28 l0 x70_3).f0))).setCell ⟨gb289, 1, none⟩ (.bool ((rd_T28 l0 x70_3).f1))).setCell ⟨gb289, 2, none⟩ (.int .i64 ((rd_T28 l0 x70_3).f2))).setCell ⟨gb289, 3, none⟩ (.int .i64 ((rd_T28 l0 x70_3).f3))).setCell ⟨gb289, 4, none⟩ (.int .i64 ((rd_T28 l0 x70_3).f4))).heap[gb289]? = some (.cells #[.string ((rd_T28 l0 x70_3).f0), .bool ((rd_T28 l0 x70_3).f1), .int .i64 ((rd_T28 l0 x70_3).f2), .int .i64 ((rd_T28 l0 x70_3).f3), .int .i64 ((rd_T28 l0 x70_3).f4)] 28 (0, 0))) := ⟨by (with_reducible repeat (first | refine blk_drewN ?_ _ | refine blk_drew ?_ | refine blk_alloc ?_ _)); refine blk_put (cs := #[.string ((rd_T28 l0 x70_3).f0), .bool ((rd_T28 l0 x70_3).f1), .int .i64 ((rd_T28 l0 x70_3).f2), .int .i64 ((rd_T28 l0 x70_3).f3), .int .i64 0]) ?_ 4 _ rfl; (with_reducible repeat (first | refine blk_drewN ?_ _ | refine blk_drew ?_ | refine blk_alloc ?_ _)); refine blk_put (cs := #[.string ((rd_T28 l0 x70_3).f0), .bool ((rd_T28 l0 x70_3).f1), .int .i64 ((rd_T28 l0 x70_3).f2), .int .i64 0, .int .i64 0]) ?_ 3 _ rfl; (with_reducible repeat (first | refine blk_drewN ?_ _ | refine blk_drew ?_ | refine blk_alloc ?_ _)); refine blk_put (cs := #[.string ((rd_T28 l0 x70_3).f0), .bool ((rd_T28 l0 x70_3).f1), .int .i64 0, .int .i64 0, .int .i64 0]) ?_ 2 _ rfl; (with_reducible repeat (first | refine blk_drewN ?_ _ | refine blk_drew ?_ | refine blk_alloc ?_ _)); refine blk_put (cs := #[.string ((rd_T28 l0 x70_3).f0), .bool false, .int .i64 0, .int .i64 0, .int .i64 0]) ?_ 1 _ rfl; (with_reducible repeat (first | refine blk_drewN ?_ _ | refine blk_drew ?_ | refine blk_alloc ?_ _)); refine blk_put (cs := #[.string (⟨#[]⟩ : ByteArray), .bool false, .int .i64 0, .int .i64 0, .int .i64 0]) ?_ 0 _ rfl; (with_reducible repeat (first | refine blk_drewN ?_ _ | refine blk_drew ?_ | refine blk_alloc ?_ _)); exact BK289.out⟩
                                    have n3_ : Aside0 (Below w.heap.size w (((((w50.setCell ⟨gb289, 0, none⟩ (.string ((rd_T28 l0 x70_3).f0))).setCell ⟨gb289, 1, none⟩ (.bool ((rd_T28 l0 x70_3).f1))).setCell ⟨gb289, 2, none⟩ (.int .i64 ((rd_T28 l0 x70_3).f2))).setCell ⟨gb289, 3, none⟩ (.int .i64 ((rd_T28 l0 x70_3).f3))).setCell ⟨gb289, 4, none⟩ (.int .i64 ((rd_T28 l0 x70_3).f4)))) := ⟨by repeat (first | (with_reducible first | exact HB.out | apply below_alloc | apply pw_below_drewN | apply below_drew1 | refine below_set ?_ GE289.out) | exact HB.out)⟩
                                    (try clear HO_5)
                                    (try clear HO_7)
                                    (try clear BK289)
                                    (try clear HB)
                                    generalize (((((w50.setCell ⟨gb289, 0, none⟩ (.string ((rd_T28 l0 x70_3).f0))).setCell ⟨gb289, 1, none⟩ (.bool ((rd_T28 l0 x70_3).f1))).setCell ⟨gb289, 2, none⟩ (.int .i64 ((rd_T28 l0 x70_3).f2))).setCell ⟨gb289, 3, none⟩ (.int .i64 ((rd_T28 l0 x70_3).f3))).setCell ⟨gb289, 4, none⟩ (.int .i64 ((rd_T28 l0 x70_3).f4))) = w53 at n0_ n1_ n2_ n3_ ⊢
                                    have HO_5 := n0_
                                    have HO_7 := n1_
                                    have BK289 := n2_
                                    have HB := n3_
                                    clear n0_ n1_ n2_ n3_
                                    have n0_ := Aside0.mk (Kd.R_drew HO_5.out)
                                    have n1_ := Aside0.mk (Kd.R_drew HO_7.out)
                                    have n2_ := Aside0.mk (blk_drew BK289.out)
                                    have n3_ := Aside0.mk (below_drew1 HB.out)
                                    clear HO_5
                                    clear HO_7
                                    clear BK289
                                    clear HB
                                    have HO_5 := n0_
                                    have HO_7 := n1_
                                    have BK289 := n2_
                                    have HB := n3_
                                    clear n0_ n1_ n2_ n3_
                                    refine start_ (n := 8) (S := fun w' => w'.cell? ⟨gb289, 0, none⟩ = some (.string ((rd_T28 l0 x70_3).f0)) ∧ w'.cell? ⟨gb289, 1, none⟩ = some (.bool ((rd_T28 l0 x70_3).f1)) ∧ w'.cell? ⟨gb289, 2, none⟩ = some (.int .i64 ((rd_T28 l0 x70_3).f2)) ∧ w'.cell? ⟨gb289, 3, none⟩ = some (.int .i64 ((rd_T28 l0 x70_3).f3)) ∧ w'.cell? ⟨gb289, 4, none⟩ = some (.int .i64 ((rd_T28 l0 x70_3).f4))) (ds := []) #[false, false, false, false, false, false, false, false] (by kernel_rfl) rfl rfl ⟨(blk_cell BK289.out 0).trans rfl, (blk_cell BK289.out 1).trans rfl, (blk_cell BK289.out 2).trans rfl, (blk_cell BK289.out 3).trans rfl, (blk_cell BK289.out 4).trans rfl⟩ (fun hHeld => ?_); refine with_tabW parrylaw1_DomOrder.tab15 parrylaw1_DomOrder.bits15 (fun HT_ HW_ => ?_)
                                    generalize w53.drew = w54 at HO_5 HO_7 BK289 HB hHeld ⊢
                                    refine pure_ (i := 0) (N := some 82) (v := ?_) (a' := ?_) #[true, false, false, false, false, false, false, false] rfl rfl (any_of HT_.out (by kernel_rfl)) (fun _ _ _ h => h) (Or.inl ⟨by rfl, ?_⟩) ?_ ?_
                                    rotate_left
                                    · intro w'
                                      go_simp
                                      with_reducible rfl
                                    rotate_left
                                    · simp only [Act.put, List.setIfInBounds_toArray, List.set_cons_zero, List.set_cons_succ, i64_w, i32_w]
                                      rfl
                                    refine pure_ (i := 1) (N := some 83) (v := ?_) (a' := ?_) #[true, true, false, false, false, false, false, false] rfl rfl (any_of HT_.out (by kernel_rfl)) (fun _ _ _ h => h) (Or.inl ⟨by rfl, ?_⟩) ?_ ?_
                                    rotate_left
                                    · intro w'
                                      go_simp
                                      with_reducible rfl
                                    rotate_left
                                    · simp only [Act.put, List.setIfInBounds_toArray, List.set_cons_zero, List.set_cons_succ, i64_w, i32_w]
                                      rfl
                                    refine take_ (i := 2) (N := some 84) (v := ?_) (a' := ?_) #[true, true, true, false, false, false, false, false] rfl rfl (take_ofW HT_.out HW_.out (by kernel_rfl)) (fun _ _ _ h => h) (Or.inl ⟨by rfl, ?_⟩) hHeld ?_ ?_
                                    rotate_left
                                    · rintro w' ⟨s0, s1, s2, s3, s4⟩
                                      go_simp
                                      with_reducible rfl
                                    rotate_left
                                    · simp only [Act.put, List.setIfInBounds_toArray, List.set_cons_zero, List.set_cons_succ, i64_w, i32_w]
                                      rfl
                                    refine take_ (i := 3) (N := some 85) (v := ?_) (a' := ?_) #[true, true, true, true, false, false, false, false] rfl rfl (take_ofW HT_.out HW_.out (by kernel_rfl)) (fun _ _ _ h => h) (Or.inl ⟨by rfl, ?_⟩) hHeld ?_ ?_
                                    rotate_left
                                    · rintro w' ⟨s0, s1, s2, s3, s4⟩
                                      go_simp
                                      with_reducible rfl
                                    rotate_left
                                    · simp only [Act.put, List.setIfInBounds_toArray, List.set_cons_zero, List.set_cons_succ, i64_w, i32_w]
                                      rfl
                                    refine one_ (i := 4) (N := some 86) #[true, true, true, true, true, false, false, false] rfl rfl (one_of HT_.out (by kernel_rfl)) (by decide) (fun K hK => ?_)
                                    refine goes_ Try.func19 (by kernel_rfl) rfl #[.agg #[.string ((rd_T28 l0 x70_3).f0), .bool ((rd_T28 l0 x70_3).f1), .int .i64 ((rd_T28 l0 x70_3).f2), .int .i64 ((rd_T28 l0 x70_3).f3), .int .i64 ((rd_T28 l0 x70_3).f4)]] (by rfl) rfl rfl (by (try simp only [List.map_toArray, List.map_cons, List.map_nil]); first | done | rfl | (simp only [List.length_drop, List.length_take]; rfl)) ?_
                                    with_reducible refine (parryref1_Size.calls ((rd_T28 l0 x70_3).f0) ((rd_T28 l0 x70_3).f1) ((rd_T28 l0 x70_3).f2) ((rd_T28 l0 x70_3).f3) ((rd_T28 l0 x70_3).f4) t291 _ A38.out).mono ?_
                                    rintro e w55 ⟨rfl, hb⟩
                                    refine ⟨_, rfl, ?_⟩
                                    have n0_ := Aside0.mk (Kd.R_below (by (with_reducible repeat (first | apply Kd.R_alloc | apply Kd.R_drewN | apply Kd.R_drew)); exact HO_5.out) hb)
                                    have n1_ := Aside0.mk (Kd.R_below (by (with_reducible repeat (first | apply Kd.R_alloc | apply Kd.R_drewN | apply Kd.R_drew)); exact HO_7.out) hb)
                                    have n2_ := Aside0.mk (blk_below (g := gb289) (o := .cells #[.string ((rd_T28 l0 x70_3).f0), .bool ((rd_T28 l0 x70_3).f1), .int .i64 ((rd_T28 l0 x70_3).f2), .int .i64 ((rd_T28 l0 x70_3).f3), .int .i64 ((rd_T28 l0 x70_3).f4)] 28 (0, 0)) (by (with_reducible repeat (first | refine blk_drewN ?_ _ | refine blk_drew ?_ | refine blk_alloc ?_ _)); exact BK289.out) hb)
                                    have n3_ := Aside0.mk (below_step (by repeat (first | (with_reducible first | exact HB.out | apply below_alloc | apply pw_below_drewN | apply below_drew1 | refine below_set ?_ GE289.out) | exact HB.out)) hb)
                                    clear HO_5
                                    clear HO_7
                                    clear BK289
                                    clear HB
                                    have HO_5 := n0_
                                    have HO_7 := n1_
                                    have BK289 := n2_
                                    have HB := n3_
                                    clear n0_ n1_ n2_ n3_
                                    (try clear hb)
                                    (try clear hb2)
                                    (try clear hk)
                                    (try clear hi)
                                    refine hK.out _ _ ⟨(blk_cell BK289.out 0).trans rfl, (blk_cell BK289.out 1).trans rfl, (blk_cell BK289.out 2).trans rfl, (blk_cell BK289.out 3).trans rfl, (blk_cell BK289.out 4).trans rfl⟩ (fun hHeld => ?_)
                                    clear hK K
                                    refine norm_ (a' := ?_) ?_ ?_
                                    rotate_left
                                    · show Act.put _ (some 86) _ = _
                                      simp only [Act.put, List.setIfInBounds_toArray, List.set_cons_zero, List.set_cons_succ, i64_w, i32_w]
                                      rfl
                                    refine pure_ (i := 5) (N := some 87) (v := ?_) (a' := ?_) #[true, true, true, true, true, true, false, false] rfl rfl (any_of HT_.out (by kernel_rfl)) (fun _ _ _ h => h) (Or.inl ⟨by rfl, ?_⟩) ?_ ?_
                                    rotate_left
                                    · intro w'
                                      go_simp
                                      with_reducible rfl
                                    rotate_left
                                    · simp only [Act.put, List.setIfInBounds_toArray, List.set_cons_zero, List.set_cons_succ, i64_w, i32_w]
                                      rfl
                                    refine pure_ (i := 6) (N := some 88) (v := ?_) (a' := ?_) #[true, true, true, true, true, true, true, false] rfl rfl (any_of HT_.out (by kernel_rfl)) (fun _ _ _ h => h) (Or.inl ⟨by rfl, ?_⟩) ?_ ?_
                                    rotate_left
                                    · intro w'
                                      go_simp
                                      with_reducible rfl
                                    rotate_left
                                    · simp only [Act.put, List.setIfInBounds_toArray, List.set_cons_zero, List.set_cons_succ, i64_w, i32_w]
                                      rfl
                                    refine pure_ (i := 7) (N := some 9) (v := ?_) (a' := ?_) #[true, true, true, true, true, true, true, true] rfl rfl (any_of HT_.out (by kernel_rfl)) (fun _ _ _ h => h) (Or.inl ⟨by rfl, ?_⟩) ?_ ?_
                                    rotate_left
                                    · intro w'
                                      go_simp
                                      with_reducible rfl
                                    rotate_left
                                    · simp only [Act.put, List.setIfInBounds_toArray, List.set_cons_zero, List.set_cons_succ, i64_w, i32_w]
                                      rfl
                                    refine done_ (done_of HT_.out (by kernel_rfl)) ?_
                                    have hcz56_0 : w55.cell? ⟨gb289, 0, none⟩ = some (.string ((rd_T28 l0 x70_3).f0)) := (blk_cell BK289.out 0).trans rfl
                                    have hcz56_1 : w55.cell? ⟨gb289, 1, none⟩ = some (.bool ((rd_T28 l0 x70_3).f1)) := (blk_cell BK289.out 1).trans rfl
                                    have hcz56_2 : w55.cell? ⟨gb289, 2, none⟩ = some (.int .i64 ((rd_T28 l0 x70_3).f2)) := (blk_cell BK289.out 2).trans rfl
                                    have hcz56_3 : w55.cell? ⟨gb289, 3, none⟩ = some (.int .i64 ((rd_T28 l0 x70_3).f3)) := (blk_cell BK289.out 3).trans rfl
                                    have hcz56_4 : w55.cell? ⟨gb289, 4, none⟩ = some (.int .i64 ((rd_T28 l0 x70_3).f4)) := (blk_cell BK289.out 4).trans rfl
                                    have hfz56_0 := blk_frozen BK289.out 0
                                    have hfz56_1 := blk_frozen BK289.out 1
                                    have hfz56_2 := blk_frozen BK289.out 2
                                    have hfz56_3 := blk_frozen BK289.out 3
                                    have hfz56_4 := blk_frozen BK289.out 4
                                    obtain ⟨Ao57, co57, eo57⟩ := Kd.R_slice HO_7.out
                                    subst eo57
                                    have p292 : 0 ≤ (x70_3 : Int) := of_decide_eq_true (by first | (with_reducible assumption) | assumption)
                                    have q292 : x70_3 < (t283.length : Int) := of_decide_eq_true (by first | (with_reducible assumption) | assumption)
                                    obtain ⟨ad292, e292, hx292_0⟩ := Kd.at_int (Kd.R_reads' HO_7.out).2.2 x70_3 p292 q292
                                    cases e292
                                    replace p292 := eq_true p292
                                    replace q292 := eq_true q292
                                    try go_wp2
                                    go_ret
                                    exact ⟨by first | rfl | (simp [errW_none, errW_some] <;> rfl) | (simp [*, errW_none, errW_some] <;> rfl), by repeat (first | (with_reducible first | exact HB.out | apply below_alloc | apply pw_below_drewN | apply below_drew1 | refine below_set ?_ GE289.out) | exact HB.out)⟩
                                · rw [if_neg c40] at H
                                  exact absurd H (by simp)
                              · rw [if_neg c39] at H
                                have c39b0 : decide ((wrap64 (((rd_T28 l0 x70_3).f3) + t291)) ≤ (wrap64 ((rd t279 x70_3) + 1))) = false := decide_eq_false c39
                                clear c39
                                by_cases c58 : x70_3 < (t283.length : Int)
                                · rw [if_pos c58] at H
                                  have c58b0 : decide (x70_3 < (t283.length : Int)) = true := decide_eq_true c58
                                  clear c58
                                  by_cases c59 : (rd t283 x70_3) = (wrap64 ((rd t279 x70_3) + 1))
                                  · rw [if_pos c59] at H
                                    have c59b0 : ((rd t283 x70_3) == (wrap64 ((rd t279 x70_3) + 1))) = true := beq_iff_eq.mpr c59
                                    have c59b1 : ((rd t283 x70_3) != (wrap64 ((rd t279 x70_3) + 1))) = false := bne_eq_false_iff_eq.mpr c59
                                    clear c59
                                    have H' := Aside0.mk H
                                    clear H
                                    have p288 : 0 ≤ (x70_3 : Int) := of_decide_eq_true (by first | (with_reducible assumption) | assumption)
                                    have q288 : x70_3 < (l0.length : Int) := of_decide_eq_true (by first | (with_reducible assumption) | assumption)
                                    obtain ⟨ad288, e288, hx288_0, hx288_1, hx288_2, hx288_3, hx288_4⟩ := at_T28 HR0.out x70_3 p288 q288
                                    cases e288
                                    replace hx288_0 := (HB.out.cell (World.block_lt_of_cell? w _ hx288_0)).trans hx288_0
                                    replace hx288_1 := (HB.out.cell (World.block_lt_of_cell? w _ hx288_1)).trans hx288_1
                                    replace hx288_2 := (HB.out.cell (World.block_lt_of_cell? w _ hx288_2)).trans hx288_2
                                    replace hx288_3 := (HB.out.cell (World.block_lt_of_cell? w _ hx288_3)).trans hx288_3
                                    replace hx288_4 := (HB.out.cell (World.block_lt_of_cell? w _ hx288_4)).trans hx288_4
                                    replace p288 := eq_true p288
                                    replace q288 := eq_true q288
                                    try go_wp2_with (first | ((with_reducible refine gate_dst (N := 11) rfl ?_); (try (refine gate_guard (by rfl) ?_; dsimp only)); refine box_event ?hg (N := 11) ?hd (cs := #[.string (⟨#[]⟩ : ByteArray), .bool false, .int .i64 0, .int .i64 0, .int .i64 0]) (t := 28) ?hr ?_; (case hd => rfl); (case hg => rfl); (case hr => first | (go_simp; done) | (go_simp; rfl)); intro gb289 hg w60 hbox hb; have n0_ := Aside0.mk (Kd.R_below (by (with_reducible repeat (first | apply Kd.R_alloc | apply Kd.R_drewN | apply Kd.R_drew)); exact HO_5.out) hb); have n1_ := Aside0.mk (Kd.R_below (by (with_reducible repeat (first | apply Kd.R_alloc | apply Kd.R_drewN | apply Kd.R_drew)); exact HO_7.out) hb); have n2_ := Aside0.mk (below_step (by repeat (first | (with_reducible first | exact HB.out | apply below_alloc | apply pw_below_drewN | apply below_drew1) | exact HB.out)) hb); have n3_ := Aside0.mk (hbox); have n4_ := Aside0.mk ((by rw [hg]; exact (below_size (by repeat (first | (with_reducible first | exact HB.out | apply below_alloc | apply pw_below_drewN | apply below_drew1) | exact HB.out))) : w.heap.size ≤ gb289)); have n5_ := Aside0.mk ((by rw [hg]; exact (below_size (by repeat (first | (with_reducible first | exact HB.out | apply below_alloc | apply pw_below_drewN | apply below_drew1) | exact HB.out))) : w.heap.size ≤ gb289)); clear HO_5; clear HO_7; clear HB; have HO_5 := n0_; have HO_7 := n1_; have HB := n2_; have BK289 := n3_; have GW289 := n4_; have GE289 := n5_; clear n0_ n1_ n2_ n3_ n4_ n5_; clear hb hbox hg; have hcz61_0 : w60.cell? ⟨gb289, 0, none⟩ = some (.string (⟨#[]⟩ : ByteArray)) := (blk_cell BK289.out 0).trans rfl; have hcz61_1 : w60.cell? ⟨gb289, 1, none⟩ = some (.bool false) := (blk_cell BK289.out 1).trans rfl; have hcz61_2 : w60.cell? ⟨gb289, 2, none⟩ = some (.int .i64 0) := (blk_cell BK289.out 2).trans rfl; have hcz61_3 : w60.cell? ⟨gb289, 3, none⟩ = some (.int .i64 0) := (blk_cell BK289.out 3).trans rfl; have hcz61_4 : w60.cell? ⟨gb289, 4, none⟩ = some (.int .i64 0) := (blk_cell BK289.out 4).trans rfl; have hfz61_0 := blk_frozen BK289.out 0; have hfz61_1 := blk_frozen BK289.out 1; have hfz61_2 := blk_frozen BK289.out 2; have hfz61_3 := blk_frozen BK289.out 3; have hfz61_4 := blk_frozen BK289.out 4; obtain ⟨Ao62, co62, eo62⟩ := Kd.R_slice HO_5.out; subst eo62; have p290 : 0 ≤ (x70_3 : Int) := of_decide_eq_true (by first | (with_reducible assumption) | assumption); have q290 : x70_3 < (t279.length : Int) := of_decide_eq_true (by first | (with_reducible assumption) | assumption); obtain ⟨ad290, e290, hx290_0⟩ := Kd.at_int (Kd.R_reads' HO_5.out).2.2 x70_3 p290 q290; cases e290; have hn290_0 : ad290.block ≠ gb289 := Kd.own_blk (Kd.R_ne HO_5.out BK289.out (by decide)); have hn290_1 : ad290.block ≠ gb289 := Kd.own_blk (Kd.R_ne HO_5.out BK289.out (by decide)); have hn290_2 : ad290.block ≠ gb289 := Kd.own_blk (Kd.R_ne HO_5.out BK289.out (by decide)); have hn290_3 : ad290.block ≠ gb289 := Kd.own_blk (Kd.R_ne HO_5.out BK289.out (by decide)); have hn290_4 : ad290.block ≠ gb289 := Kd.own_blk (Kd.R_ne HO_5.out BK289.out (by decide)); replace hx290_0 := (cell_far (p := ⟨gb289, 0, none⟩) (by first | (rw [add_block]; exact hn290_0) | (show (Addr.add _ _).block ≠ _; rw [add_block]; exact hn290_0) | exact hn290_0) (.string ((rd_T28 l0 x70_3).f0))).trans hx290_0; replace hx290_0 := (cell_far (p := ⟨gb289, 1, none⟩) (by first | (rw [add_block]; exact hn290_1) | (show (Addr.add _ _).block ≠ _; rw [add_block]; exact hn290_1) | exact hn290_1) (.bool ((rd_T28 l0 x70_3).f1))).trans hx290_0; replace hx290_0 := (cell_far (p := ⟨gb289, 2, none⟩) (by first | (rw [add_block]; exact hn290_2) | (show (Addr.add _ _).block ≠ _; rw [add_block]; exact hn290_2) | exact hn290_2) (.int .i64 ((rd_T28 l0 x70_3).f2))).trans hx290_0; replace hx290_0 := (cell_far (p := ⟨gb289, 3, none⟩) (by first | (rw [add_block]; exact hn290_3) | (show (Addr.add _ _).block ≠ _; rw [add_block]; exact hn290_3) | exact hn290_3) (.int .i64 ((rd_T28 l0 x70_3).f3))).trans hx290_0; replace hx290_0 := (cell_far (p := ⟨gb289, 4, none⟩) (by first | (rw [add_block]; exact hn290_4) | (show (Addr.add _ _).block ≠ _; rw [add_block]; exact hn290_4) | exact hn290_4) (.int .i64 ((rd_T28 l0 x70_3).f4))).trans hx290_0; clear hn290_0; clear hn290_1; clear hn290_2; clear hn290_3; clear hn290_4; replace p290 := eq_true p290; replace q290 := eq_true q290))
                                    have n0_ : Aside0 (Kd.R (Kd.int .i64) 3 (((((w60.setCell ⟨gb289, 0, none⟩ (.string ((rd_T28 l0 x70_3).f0))).setCell ⟨gb289, 1, none⟩ (.bool ((rd_T28 l0 x70_3).f1))).setCell ⟨gb289, 2, none⟩ (.int .i64 ((rd_T28 l0 x70_3).f2))).setCell ⟨gb289, 3, none⟩ (.int .i64 ((rd_T28 l0 x70_3).f3))).setCell ⟨gb289, 4, none⟩ (.int .i64 ((rd_T28 l0 x70_3).f4))) w.heap.size (fun k_ => some k_ ≠ (v285 : Value).ownBlock) (.slice (some ad290) t279.length co62) t279) := ⟨by (with_reducible repeat (first | apply Kd.R_alloc | apply Kd.R_drewN | apply Kd.R_drew)); exact Kd.R_mono (Kd.R_far (p := ⟨gb289, 4, none⟩) (Kd.R_far (p := ⟨gb289, 3, none⟩) (Kd.R_far (p := ⟨gb289, 2, none⟩) (Kd.R_far (p := ⟨gb289, 1, none⟩) (Kd.R_far (p := ⟨gb289, 0, none⟩) (Kd.R_types HO_5.out BK289.out (by decide)) (fun _ hk => hk.2) (.string ((rd_T28 l0 x70_3).f0))) (fun _ hk => hk.2) (.bool ((rd_T28 l0 x70_3).f1))) (fun _ hk => hk.2) (.int .i64 ((rd_T28 l0 x70_3).f2))) (fun _ hk => hk.2) (.int .i64 ((rd_T28 l0 x70_3).f3))) (fun _ hk => hk.2) (.int .i64 ((rd_T28 l0 x70_3).f4))) (fun _ hk => hk.1)⟩
                                    have n1_ : Aside0 (Kd.R (Kd.int .i64) 3 (((((w60.setCell ⟨gb289, 0, none⟩ (.string ((rd_T28 l0 x70_3).f0))).setCell ⟨gb289, 1, none⟩ (.bool ((rd_T28 l0 x70_3).f1))).setCell ⟨gb289, 2, none⟩ (.int .i64 ((rd_T28 l0 x70_3).f2))).setCell ⟨gb289, 3, none⟩ (.int .i64 ((rd_T28 l0 x70_3).f3))).setCell ⟨gb289, 4, none⟩ (.int .i64 ((rd_T28 l0 x70_3).f4))) w.heap.size (fun k_ => some k_ ≠ (.slice (some ad290) t279.length co62 : Value).ownBlock) v285 t283) := ⟨by (with_reducible repeat (first | apply Kd.R_alloc | apply Kd.R_drewN | apply Kd.R_drew)); exact Kd.R_mono (Kd.R_far (p := ⟨gb289, 4, none⟩) (Kd.R_far (p := ⟨gb289, 3, none⟩) (Kd.R_far (p := ⟨gb289, 2, none⟩) (Kd.R_far (p := ⟨gb289, 1, none⟩) (Kd.R_far (p := ⟨gb289, 0, none⟩) (Kd.R_types HO_7.out BK289.out (by decide)) (fun _ hk => hk.2) (.string ((rd_T28 l0 x70_3).f0))) (fun _ hk => hk.2) (.bool ((rd_T28 l0 x70_3).f1))) (fun _ hk => hk.2) (.int .i64 ((rd_T28 l0 x70_3).f2))) (fun _ hk => hk.2) (.int .i64 ((rd_T28 l0 x70_3).f3))) (fun _ hk => hk.2) (.int .i64 ((rd_T28 l0 x70_3).f4))) (fun _ hk => hk.1)⟩
                                    have n2_ : Aside0 ((((((w60.setCell ⟨gb289, 0, none⟩ (.string ((rd_T28 l0 x70_3).f0))).setCell ⟨gb289, 1, none⟩ (.bool ((rd_T28 l0 x70_3).f1))).setCell ⟨gb289, 2, none⟩ (.int .i64 ((rd_T28 l0 x70_3).f2))).setCell ⟨gb289, 3, none⟩ (.int .i64 ((rd_T28 l0 x70_3).f3))).setCell ⟨gb289, 4, none⟩ (.int .i64 ((rd_T28 l0 x70_3).f4))).heap[gb289]? = some (.cells #[.string ((rd_T28 l0 x70_3).f0), .bool ((rd_T28 l0 x70_3).f1), .int .i64 ((rd_T28 l0 x70_3).f2), .int .i64 ((rd_T28 l0 x70_3).f3), .int .i64 ((rd_T28 l0 x70_3).f4)] 28 (0, 0))) := ⟨by (with_reducible repeat (first | refine blk_drewN ?_ _ | refine blk_drew ?_ | refine blk_alloc ?_ _)); refine blk_put (cs := #[.string ((rd_T28 l0 x70_3).f0), .bool ((rd_T28 l0 x70_3).f1), .int .i64 ((rd_T28 l0 x70_3).f2), .int .i64 ((rd_T28 l0 x70_3).f3), .int .i64 0]) ?_ 4 _ rfl; (with_reducible repeat (first | refine blk_drewN ?_ _ | refine blk_drew ?_ | refine blk_alloc ?_ _)); refine blk_put (cs := #[.string ((rd_T28 l0 x70_3).f0), .bool ((rd_T28 l0 x70_3).f1), .int .i64 ((rd_T28 l0 x70_3).f2), .int .i64 0, .int .i64 0]) ?_ 3 _ rfl; (with_reducible repeat (first | refine blk_drewN ?_ _ | refine blk_drew ?_ | refine blk_alloc ?_ _)); refine blk_put (cs := #[.string ((rd_T28 l0 x70_3).f0), .bool ((rd_T28 l0 x70_3).f1), .int .i64 0, .int .i64 0, .int .i64 0]) ?_ 2 _ rfl; (with_reducible repeat (first | refine blk_drewN ?_ _ | refine blk_drew ?_ | refine blk_alloc ?_ _)); refine blk_put (cs := #[.string ((rd_T28 l0 x70_3).f0), .bool false, .int .i64 0, .int .i64 0, .int .i64 0]) ?_ 1 _ rfl; (with_reducible repeat (first | refine blk_drewN ?_ _ | refine blk_drew ?_ | refine blk_alloc ?_ _)); refine blk_put (cs := #[.string (⟨#[]⟩ : ByteArray), .bool false, .int .i64 0, .int .i64 0, .int .i64 0]) ?_ 0 _ rfl; (with_reducible repeat (first | refine blk_drewN ?_ _ | refine blk_drew ?_ | refine blk_alloc ?_ _)); exact BK289.out⟩
                                    have n3_ : Aside0 (Below w.heap.size w (((((w60.setCell ⟨gb289, 0, none⟩ (.string ((rd_T28 l0 x70_3).f0))).setCell ⟨gb289, 1, none⟩ (.bool ((rd_T28 l0 x70_3).f1))).setCell ⟨gb289, 2, none⟩ (.int .i64 ((rd_T28 l0 x70_3).f2))).setCell ⟨gb289, 3, none⟩ (.int .i64 ((rd_T28 l0 x70_3).f3))).setCell ⟨gb289, 4, none⟩ (.int .i64 ((rd_T28 l0 x70_3).f4)))) := ⟨by repeat (first | (with_reducible first | exact HB.out | apply below_alloc | apply pw_below_drewN | apply below_drew1 | refine below_set ?_ GE289.out) | exact HB.out)⟩
                                    (try clear HO_5)
                                    (try clear HO_7)
                                    (try clear BK289)
                                    (try clear HB)
                                    generalize (((((w60.setCell ⟨gb289, 0, none⟩ (.string ((rd_T28 l0 x70_3).f0))).setCell ⟨gb289, 1, none⟩ (.bool ((rd_T28 l0 x70_3).f1))).setCell ⟨gb289, 2, none⟩ (.int .i64 ((rd_T28 l0 x70_3).f2))).setCell ⟨gb289, 3, none⟩ (.int .i64 ((rd_T28 l0 x70_3).f3))).setCell ⟨gb289, 4, none⟩ (.int .i64 ((rd_T28 l0 x70_3).f4))) = w63 at n0_ n1_ n2_ n3_ ⊢
                                    have HO_5 := n0_
                                    have HO_7 := n1_
                                    have BK289 := n2_
                                    have HB := n3_
                                    clear n0_ n1_ n2_ n3_
                                    have n0_ := Aside0.mk (Kd.R_drew HO_5.out)
                                    have n1_ := Aside0.mk (Kd.R_drew HO_7.out)
                                    have n2_ := Aside0.mk (blk_drew BK289.out)
                                    have n3_ := Aside0.mk (below_drew1 HB.out)
                                    clear HO_5
                                    clear HO_7
                                    clear BK289
                                    clear HB
                                    have HO_5 := n0_
                                    have HO_7 := n1_
                                    have BK289 := n2_
                                    have HB := n3_
                                    clear n0_ n1_ n2_ n3_
                                    refine start_ (n := 8) (S := fun w' => w'.cell? ⟨gb289, 0, none⟩ = some (.string ((rd_T28 l0 x70_3).f0)) ∧ w'.cell? ⟨gb289, 1, none⟩ = some (.bool ((rd_T28 l0 x70_3).f1)) ∧ w'.cell? ⟨gb289, 2, none⟩ = some (.int .i64 ((rd_T28 l0 x70_3).f2)) ∧ w'.cell? ⟨gb289, 3, none⟩ = some (.int .i64 ((rd_T28 l0 x70_3).f3)) ∧ w'.cell? ⟨gb289, 4, none⟩ = some (.int .i64 ((rd_T28 l0 x70_3).f4))) (ds := []) #[false, false, false, false, false, false, false, false] (by kernel_rfl) rfl rfl ⟨(blk_cell BK289.out 0).trans rfl, (blk_cell BK289.out 1).trans rfl, (blk_cell BK289.out 2).trans rfl, (blk_cell BK289.out 3).trans rfl, (blk_cell BK289.out 4).trans rfl⟩ (fun hHeld => ?_); refine with_tabW parrylaw1_DomOrder.tab15 parrylaw1_DomOrder.bits15 (fun HT_ HW_ => ?_)
                                    generalize w63.drew = w64 at HO_5 HO_7 BK289 HB hHeld ⊢
                                    refine pure_ (i := 0) (N := some 82) (v := ?_) (a' := ?_) #[true, false, false, false, false, false, false, false] rfl rfl (any_of HT_.out (by kernel_rfl)) (fun _ _ _ h => h) (Or.inl ⟨by rfl, ?_⟩) ?_ ?_
                                    rotate_left
                                    · intro w'
                                      go_simp
                                      with_reducible rfl
                                    rotate_left
                                    · simp only [Act.put, List.setIfInBounds_toArray, List.set_cons_zero, List.set_cons_succ, i64_w, i32_w]
                                      rfl
                                    refine pure_ (i := 1) (N := some 83) (v := ?_) (a' := ?_) #[true, true, false, false, false, false, false, false] rfl rfl (any_of HT_.out (by kernel_rfl)) (fun _ _ _ h => h) (Or.inl ⟨by rfl, ?_⟩) ?_ ?_
                                    rotate_left
                                    · intro w'
                                      go_simp
                                      with_reducible rfl
                                    rotate_left
                                    · simp only [Act.put, List.setIfInBounds_toArray, List.set_cons_zero, List.set_cons_succ, i64_w, i32_w]
                                      rfl
                                    refine take_ (i := 2) (N := some 84) (v := ?_) (a' := ?_) #[true, true, true, false, false, false, false, false] rfl rfl (take_ofW HT_.out HW_.out (by kernel_rfl)) (fun _ _ _ h => h) (Or.inl ⟨by rfl, ?_⟩) hHeld ?_ ?_
                                    rotate_left
                                    · rintro w' ⟨s0, s1, s2, s3, s4⟩
                                      go_simp
                                      with_reducible rfl
                                    rotate_left
                                    · simp only [Act.put, List.setIfInBounds_toArray, List.set_cons_zero, List.set_cons_succ, i64_w, i32_w]
                                      rfl
                                    refine take_ (i := 3) (N := some 85) (v := ?_) (a' := ?_) #[true, true, true, true, false, false, false, false] rfl rfl (take_ofW HT_.out HW_.out (by kernel_rfl)) (fun _ _ _ h => h) (Or.inl ⟨by rfl, ?_⟩) hHeld ?_ ?_
                                    rotate_left
                                    · rintro w' ⟨s0, s1, s2, s3, s4⟩
                                      go_simp
                                      with_reducible rfl
                                    rotate_left
                                    · simp only [Act.put, List.setIfInBounds_toArray, List.set_cons_zero, List.set_cons_succ, i64_w, i32_w]
                                      rfl
                                    refine one_ (i := 4) (N := some 86) #[true, true, true, true, true, false, false, false] rfl rfl (one_of HT_.out (by kernel_rfl)) (by decide) (fun K hK => ?_)
                                    refine goes_ Try.func19 (by kernel_rfl) rfl #[.agg #[.string ((rd_T28 l0 x70_3).f0), .bool ((rd_T28 l0 x70_3).f1), .int .i64 ((rd_T28 l0 x70_3).f2), .int .i64 ((rd_T28 l0 x70_3).f3), .int .i64 ((rd_T28 l0 x70_3).f4)]] (by rfl) rfl rfl (by (try simp only [List.map_toArray, List.map_cons, List.map_nil]); first | done | rfl | (simp only [List.length_drop, List.length_take]; rfl)) ?_
                                    with_reducible refine (parryref1_Size.calls ((rd_T28 l0 x70_3).f0) ((rd_T28 l0 x70_3).f1) ((rd_T28 l0 x70_3).f2) ((rd_T28 l0 x70_3).f3) ((rd_T28 l0 x70_3).f4) t291 _ A38.out).mono ?_
                                    rintro e w65 ⟨rfl, hb⟩
                                    refine ⟨_, rfl, ?_⟩
                                    have n0_ := Aside0.mk (Kd.R_below (by (with_reducible repeat (first | apply Kd.R_alloc | apply Kd.R_drewN | apply Kd.R_drew)); exact HO_5.out) hb)
                                    have n1_ := Aside0.mk (Kd.R_below (by (with_reducible repeat (first | apply Kd.R_alloc | apply Kd.R_drewN | apply Kd.R_drew)); exact HO_7.out) hb)
                                    have n2_ := Aside0.mk (blk_below (g := gb289) (o := .cells #[.string ((rd_T28 l0 x70_3).f0), .bool ((rd_T28 l0 x70_3).f1), .int .i64 ((rd_T28 l0 x70_3).f2), .int .i64 ((rd_T28 l0 x70_3).f3), .int .i64 ((rd_T28 l0 x70_3).f4)] 28 (0, 0)) (by (with_reducible repeat (first | refine blk_drewN ?_ _ | refine blk_drew ?_ | refine blk_alloc ?_ _)); exact BK289.out) hb)
                                    have n3_ := Aside0.mk (below_step (by repeat (first | (with_reducible first | exact HB.out | apply below_alloc | apply pw_below_drewN | apply below_drew1 | refine below_set ?_ GE289.out) | exact HB.out)) hb)
                                    clear HO_5
                                    clear HO_7
                                    clear BK289
                                    clear HB
                                    have HO_5 := n0_
                                    have HO_7 := n1_
                                    have BK289 := n2_
                                    have HB := n3_
                                    clear n0_ n1_ n2_ n3_
                                    (try clear hb)
                                    (try clear hb2)
                                    (try clear hk)
                                    (try clear hi)
                                    refine hK.out _ _ ⟨(blk_cell BK289.out 0).trans rfl, (blk_cell BK289.out 1).trans rfl, (blk_cell BK289.out 2).trans rfl, (blk_cell BK289.out 3).trans rfl, (blk_cell BK289.out 4).trans rfl⟩ (fun hHeld => ?_)
                                    clear hK K
                                    refine norm_ (a' := ?_) ?_ ?_
                                    rotate_left
                                    · show Act.put _ (some 86) _ = _
                                      simp only [Act.put, List.setIfInBounds_toArray, List.set_cons_zero, List.set_cons_succ, i64_w, i32_w]
                                      rfl
                                    refine pure_ (i := 5) (N := some 87) (v := ?_) (a' := ?_) #[true, true, true, true, true, true, false, false] rfl rfl (any_of HT_.out (by kernel_rfl)) (fun _ _ _ h => h) (Or.inl ⟨by rfl, ?_⟩) ?_ ?_
                                    rotate_left
                                    · intro w'
                                      go_simp
                                      with_reducible rfl
                                    rotate_left
                                    · simp only [Act.put, List.setIfInBounds_toArray, List.set_cons_zero, List.set_cons_succ, i64_w, i32_w]
                                      rfl
                                    refine pure_ (i := 6) (N := some 88) (v := ?_) (a' := ?_) #[true, true, true, true, true, true, true, false] rfl rfl (any_of HT_.out (by kernel_rfl)) (fun _ _ _ h => h) (Or.inl ⟨by rfl, ?_⟩) ?_ ?_
                                    rotate_left
                                    · intro w'
                                      go_simp
                                      with_reducible rfl
                                    rotate_left
                                    · simp only [Act.put, List.setIfInBounds_toArray, List.set_cons_zero, List.set_cons_succ, i64_w, i32_w]
                                      rfl
                                    refine pure_ (i := 7) (N := some 9) (v := ?_) (a' := ?_) #[true, true, true, true, true, true, true, true] rfl rfl (any_of HT_.out (by kernel_rfl)) (fun _ _ _ h => h) (Or.inl ⟨by rfl, ?_⟩) ?_ ?_
                                    rotate_left
                                    · intro w'
                                      go_simp
                                      with_reducible rfl
                                    rotate_left
                                    · simp only [Act.put, List.setIfInBounds_toArray, List.set_cons_zero, List.set_cons_succ, i64_w, i32_w]
                                      rfl
                                    refine done_ (done_of HT_.out (by kernel_rfl)) ?_
                                    obtain ⟨Ao66, co66, eo66⟩ := Kd.R_slice HO_7.out
                                    subst eo66
                                    have p293 : 0 ≤ (x70_3 : Int) := of_decide_eq_true (by first | (with_reducible assumption) | assumption)
                                    have q293 : x70_3 < (t283.length : Int) := of_decide_eq_true (by first | (with_reducible assumption) | assumption)
                                    obtain ⟨ad293, e293, hx293_0⟩ := Kd.at_int (Kd.R_reads' HO_7.out).2.2 x70_3 p293 q293
                                    cases e293
                                    replace p293 := eq_true p293
                                    replace q293 := eq_true q293
                                    try go_wp2
                                    go_roundg k3
                                    case measure => have := HJ2.out; have := HJ21.out; have := HK3.out; omega
                                    case rel => exact ⟨(decide ((wrap64 ((rd t279 x70_3) + 1)) ≥ (wrap64 (((rd_T28 l0 x70_3).f3) + t291)))), (wrap64 (x70_3 + 1)), (by first | rfl | (simp; done) | (simp [*]; done)), (by first | rfl | (simp; done) | (simp [*]; done)), H', ⟨by have := HJ2.out; have := HJ21.out; have := HK3.out; omega⟩, ⟨by (with_reducible repeat (first | apply Kd.R_alloc | apply Kd.R_drewN | apply Kd.R_drew)); exact HO_5.out⟩, ⟨by (with_reducible repeat (first | apply Kd.R_alloc | apply Kd.R_drewN | apply Kd.R_drew)); exact HO_7.out⟩, ⟨by repeat (first | (with_reducible first | exact HB.out | apply below_alloc | apply pw_below_drewN | apply below_drew1 | refine below_set ?_ GE289.out) | exact HB.out)⟩⟩
                                  · rw [if_neg c59] at H
                                    have c59b0 : ((rd t283 x70_3) == (wrap64 ((rd t279 x70_3) + 1))) = false := beq_eq_false_iff_ne.mpr c59
                                    have c59b1 : ((rd t283 x70_3) != (wrap64 ((rd t279 x70_3) + 1))) = true := bne_iff_ne.mpr c59
                                    obtain rfl := Option.some.inj H
                                    have p288 : 0 ≤ (x70_3 : Int) := of_decide_eq_true (by first | (with_reducible assumption) | assumption)
                                    have q288 : x70_3 < (l0.length : Int) := of_decide_eq_true (by first | (with_reducible assumption) | assumption)
                                    obtain ⟨ad288, e288, hx288_0, hx288_1, hx288_2, hx288_3, hx288_4⟩ := at_T28 HR0.out x70_3 p288 q288
                                    cases e288
                                    replace hx288_0 := (HB.out.cell (World.block_lt_of_cell? w _ hx288_0)).trans hx288_0
                                    replace hx288_1 := (HB.out.cell (World.block_lt_of_cell? w _ hx288_1)).trans hx288_1
                                    replace hx288_2 := (HB.out.cell (World.block_lt_of_cell? w _ hx288_2)).trans hx288_2
                                    replace hx288_3 := (HB.out.cell (World.block_lt_of_cell? w _ hx288_3)).trans hx288_3
                                    replace hx288_4 := (HB.out.cell (World.block_lt_of_cell? w _ hx288_4)).trans hx288_4
                                    replace p288 := eq_true p288
                                    replace q288 := eq_true q288
                                    try go_wp2_with (first | ((with_reducible refine gate_dst (N := 11) rfl ?_); (try (refine gate_guard (by rfl) ?_; dsimp only)); refine box_event ?hg (N := 11) ?hd (cs := #[.string (⟨#[]⟩ : ByteArray), .bool false, .int .i64 0, .int .i64 0, .int .i64 0]) (t := 28) ?hr ?_; (case hd => rfl); (case hg => rfl); (case hr => first | (go_simp; done) | (go_simp; rfl)); intro gb289 hg w67 hbox hb; have n0_ := Aside0.mk (Kd.R_below (by (with_reducible repeat (first | apply Kd.R_alloc | apply Kd.R_drewN | apply Kd.R_drew)); exact HO_5.out) hb); have n1_ := Aside0.mk (Kd.R_below (by (with_reducible repeat (first | apply Kd.R_alloc | apply Kd.R_drewN | apply Kd.R_drew)); exact HO_7.out) hb); have n2_ := Aside0.mk (below_step (by repeat (first | (with_reducible first | exact HB.out | apply below_alloc | apply pw_below_drewN | apply below_drew1) | exact HB.out)) hb); have n3_ := Aside0.mk (hbox); have n4_ := Aside0.mk ((by rw [hg]; exact (below_size (by repeat (first | (with_reducible first | exact HB.out | apply below_alloc | apply pw_below_drewN | apply below_drew1) | exact HB.out))) : w.heap.size ≤ gb289)); have n5_ := Aside0.mk ((by rw [hg]; exact (below_size (by repeat (first | (with_reducible first | exact HB.out | apply below_alloc | apply pw_below_drewN | apply below_drew1) | exact HB.out))) : w.heap.size ≤ gb289)); clear HO_5; clear HO_7; clear HB; have HO_5 := n0_; have HO_7 := n1_; have HB := n2_; have BK289 := n3_; have GW289 := n4_; have GE289 := n5_; clear n0_ n1_ n2_ n3_ n4_ n5_; clear hb hbox hg; have hcz68_0 : w67.cell? ⟨gb289, 0, none⟩ = some (.string (⟨#[]⟩ : ByteArray)) := (blk_cell BK289.out 0).trans rfl; have hcz68_1 : w67.cell? ⟨gb289, 1, none⟩ = some (.bool false) := (blk_cell BK289.out 1).trans rfl; have hcz68_2 : w67.cell? ⟨gb289, 2, none⟩ = some (.int .i64 0) := (blk_cell BK289.out 2).trans rfl; have hcz68_3 : w67.cell? ⟨gb289, 3, none⟩ = some (.int .i64 0) := (blk_cell BK289.out 3).trans rfl; have hcz68_4 : w67.cell? ⟨gb289, 4, none⟩ = some (.int .i64 0) := (blk_cell BK289.out 4).trans rfl; have hfz68_0 := blk_frozen BK289.out 0; have hfz68_1 := blk_frozen BK289.out 1; have hfz68_2 := blk_frozen BK289.out 2; have hfz68_3 := blk_frozen BK289.out 3; have hfz68_4 := blk_frozen BK289.out 4; obtain ⟨Ao69, co69, eo69⟩ := Kd.R_slice HO_5.out; subst eo69; have p290 : 0 ≤ (x70_3 : Int) := of_decide_eq_true (by first | (with_reducible assumption) | assumption); have q290 : x70_3 < (t279.length : Int) := of_decide_eq_true (by first | (with_reducible assumption) | assumption); obtain ⟨ad290, e290, hx290_0⟩ := Kd.at_int (Kd.R_reads' HO_5.out).2.2 x70_3 p290 q290; cases e290; have hn290_0 : ad290.block ≠ gb289 := Kd.own_blk (Kd.R_ne HO_5.out BK289.out (by decide)); have hn290_1 : ad290.block ≠ gb289 := Kd.own_blk (Kd.R_ne HO_5.out BK289.out (by decide)); have hn290_2 : ad290.block ≠ gb289 := Kd.own_blk (Kd.R_ne HO_5.out BK289.out (by decide)); have hn290_3 : ad290.block ≠ gb289 := Kd.own_blk (Kd.R_ne HO_5.out BK289.out (by decide)); have hn290_4 : ad290.block ≠ gb289 := Kd.own_blk (Kd.R_ne HO_5.out BK289.out (by decide)); replace hx290_0 := (cell_far (p := ⟨gb289, 0, none⟩) (by first | (rw [add_block]; exact hn290_0) | (show (Addr.add _ _).block ≠ _; rw [add_block]; exact hn290_0) | exact hn290_0) (.string ((rd_T28 l0 x70_3).f0))).trans hx290_0; replace hx290_0 := (cell_far (p := ⟨gb289, 1, none⟩) (by first | (rw [add_block]; exact hn290_1) | (show (Addr.add _ _).block ≠ _; rw [add_block]; exact hn290_1) | exact hn290_1) (.bool ((rd_T28 l0 x70_3).f1))).trans hx290_0; replace hx290_0 := (cell_far (p := ⟨gb289, 2, none⟩) (by first | (rw [add_block]; exact hn290_2) | (show (Addr.add _ _).block ≠ _; rw [add_block]; exact hn290_2) | exact hn290_2) (.int .i64 ((rd_T28 l0 x70_3).f2))).trans hx290_0; replace hx290_0 := (cell_far (p := ⟨gb289, 3, none⟩) (by first | (rw [add_block]; exact hn290_3) | (show (Addr.add _ _).block ≠ _; rw [add_block]; exact hn290_3) | exact hn290_3) (.int .i64 ((rd_T28 l0 x70_3).f3))).trans hx290_0; replace hx290_0 := (cell_far (p := ⟨gb289, 4, none⟩) (by first | (rw [add_block]; exact hn290_4) | (show (Addr.add _ _).block ≠ _; rw [add_block]; exact hn290_4) | exact hn290_4) (.int .i64 ((rd_T28 l0 x70_3).f4))).trans hx290_0; clear hn290_0; clear hn290_1; clear hn290_2; clear hn290_3; clear hn290_4; replace p290 := eq_true p290; replace q290 := eq_true q290))
                                    have n0_ : Aside0 (Kd.R (Kd.int .i64) 3 (((((w67.setCell ⟨gb289, 0, none⟩ (.string ((rd_T28 l0 x70_3).f0))).setCell ⟨gb289, 1, none⟩ (.bool ((rd_T28 l0 x70_3).f1))).setCell ⟨gb289, 2, none⟩ (.int .i64 ((rd_T28 l0 x70_3).f2))).setCell ⟨gb289, 3, none⟩ (.int .i64 ((rd_T28 l0 x70_3).f3))).setCell ⟨gb289, 4, none⟩ (.int .i64 ((rd_T28 l0 x70_3).f4))) w.heap.size (fun k_ => some k_ ≠ (v285 : Value).ownBlock) (.slice (some ad290) t279.length co69) t279) := ⟨by (with_reducible repeat (first | apply Kd.R_alloc | apply Kd.R_drewN | apply Kd.R_drew)); exact Kd.R_mono (Kd.R_far (p := ⟨gb289, 4, none⟩) (Kd.R_far (p := ⟨gb289, 3, none⟩) (Kd.R_far (p := ⟨gb289, 2, none⟩) (Kd.R_far (p := ⟨gb289, 1, none⟩) (Kd.R_far (p := ⟨gb289, 0, none⟩) (Kd.R_types HO_5.out BK289.out (by decide)) (fun _ hk => hk.2) (.string ((rd_T28 l0 x70_3).f0))) (fun _ hk => hk.2) (.bool ((rd_T28 l0 x70_3).f1))) (fun _ hk => hk.2) (.int .i64 ((rd_T28 l0 x70_3).f2))) (fun _ hk => hk.2) (.int .i64 ((rd_T28 l0 x70_3).f3))) (fun _ hk => hk.2) (.int .i64 ((rd_T28 l0 x70_3).f4))) (fun _ hk => hk.1)⟩
                                    have n1_ : Aside0 (Kd.R (Kd.int .i64) 3 (((((w67.setCell ⟨gb289, 0, none⟩ (.string ((rd_T28 l0 x70_3).f0))).setCell ⟨gb289, 1, none⟩ (.bool ((rd_T28 l0 x70_3).f1))).setCell ⟨gb289, 2, none⟩ (.int .i64 ((rd_T28 l0 x70_3).f2))).setCell ⟨gb289, 3, none⟩ (.int .i64 ((rd_T28 l0 x70_3).f3))).setCell ⟨gb289, 4, none⟩ (.int .i64 ((rd_T28 l0 x70_3).f4))) w.heap.size (fun k_ => some k_ ≠ (.slice (some ad290) t279.length co69 : Value).ownBlock) v285 t283) := ⟨by (with_reducible repeat (first | apply Kd.R_alloc | apply Kd.R_drewN | apply Kd.R_drew)); exact Kd.R_mono (Kd.R_far (p := ⟨gb289, 4, none⟩) (Kd.R_far (p := ⟨gb289, 3, none⟩) (Kd.R_far (p := ⟨gb289, 2, none⟩) (Kd.R_far (p := ⟨gb289, 1, none⟩) (Kd.R_far (p := ⟨gb289, 0, none⟩) (Kd.R_types HO_7.out BK289.out (by decide)) (fun _ hk => hk.2) (.string ((rd_T28 l0 x70_3).f0))) (fun _ hk => hk.2) (.bool ((rd_T28 l0 x70_3).f1))) (fun _ hk => hk.2) (.int .i64 ((rd_T28 l0 x70_3).f2))) (fun _ hk => hk.2) (.int .i64 ((rd_T28 l0 x70_3).f3))) (fun _ hk => hk.2) (.int .i64 ((rd_T28 l0 x70_3).f4))) (fun _ hk => hk.1)⟩
                                    have n2_ : Aside0 ((((((w67.setCell ⟨gb289, 0, none⟩ (.string ((rd_T28 l0 x70_3).f0))).setCell ⟨gb289, 1, none⟩ (.bool ((rd_T28 l0 x70_3).f1))).setCell ⟨gb289, 2, none⟩ (.int .i64 ((rd_T28 l0 x70_3).f2))).setCell ⟨gb289, 3, none⟩ (.int .i64 ((rd_T28 l0 x70_3).f3))).setCell ⟨gb289, 4, none⟩ (.int .i64 ((rd_T28 l0 x70_3).f4))).heap[gb289]? = some (.cells #[.string ((rd_T28 l0 x70_3).f0), .bool ((rd_T28 l0 x70_3).f1), .int .i64 ((rd_T28 l0 x70_3).f2), .int .i64 ((rd_T28 l0 x70_3).f3), .int .i64 ((rd_T28 l0 x70_3).f4)] 28 (0, 0))) := ⟨by (with_reducible repeat (first | refine blk_drewN ?_ _ | refine blk_drew ?_ | refine blk_alloc ?_ _)); refine blk_put (cs := #[.string ((rd_T28 l0 x70_3).f0), .bool ((rd_T28 l0 x70_3).f1), .int .i64 ((rd_T28 l0 x70_3).f2), .int .i64 ((rd_T28 l0 x70_3).f3), .int .i64 0]) ?_ 4 _ rfl; (with_reducible repeat (first | refine blk_drewN ?_ _ | refine blk_drew ?_ | refine blk_alloc ?_ _)); refine blk_put (cs := #[.string ((rd_T28 l0 x70_3).f0), .bool ((rd_T28 l0 x70_3).f1), .int .i64 ((rd_T28 l0 x70_3).f2), .int .i64 0, .int .i64 0]) ?_ 3 _ rfl; (with_reducible repeat (first | refine blk_drewN ?_ _ | refine blk_drew ?_ | refine blk_alloc ?_ _)); refine blk_put (cs := #[.string ((rd_T28 l0 x70_3).f0), .bool ((rd_T28 l0 x70_3).f1), .int .i64 0, .int .i64 0, .int .i64 0]) ?_ 2 _ rfl; (with_reducible repeat (first | refine blk_drewN ?_ _ | refine blk_drew ?_ | refine blk_alloc ?_ _)); refine blk_put (cs := #[.string ((rd_T28 l0 x70_3).f0), .bool false, .int .i64 0, .int .i64 0, .int .i64 0]) ?_ 1 _ rfl; (with_reducible repeat (first | refine blk_drewN ?_ _ | refine blk_drew ?_ | refine blk_alloc ?_ _)); refine blk_put (cs := #[.string (⟨#[]⟩ : ByteArray), .bool false, .int .i64 0, .int .i64 0, .int .i64 0]) ?_ 0 _ rfl; (with_reducible repeat (first | refine blk_drewN ?_ _ | refine blk_drew ?_ | refine blk_alloc ?_ _)); exact BK289.out⟩
                                    have n3_ : Aside0 (Below w.heap.size w (((((w67.setCell ⟨gb289, 0, none⟩ (.string ((rd_T28 l0 x70_3).f0))).setCell ⟨gb289, 1, none⟩ (.bool ((rd_T28 l0 x70_3).f1))).setCell ⟨gb289, 2, none⟩ (.int .i64 ((rd_T28 l0 x70_3).f2))).setCell ⟨gb289, 3, none⟩ (.int .i64 ((rd_T28 l0 x70_3).f3))).setCell ⟨gb289, 4, none⟩ (.int .i64 ((rd_T28 l0 x70_3).f4)))) := ⟨by repeat (first | (with_reducible first | exact HB.out | apply below_alloc | apply pw_below_drewN | apply below_drew1 | refine below_set ?_ GE289.out) | exact HB.out)⟩
                                    (try clear HO_5)
                                    (try clear HO_7)
                                    (try clear BK289)
                                    (try clear HB)
                                    generalize (((((w67.setCell ⟨gb289, 0, none⟩ (.string ((rd_T28 l0 x70_3).f0))).setCell ⟨gb289, 1, none⟩ (.bool ((rd_T28 l0 x70_3).f1))).setCell ⟨gb289, 2, none⟩ (.int .i64 ((rd_T28 l0 x70_3).f2))).setCell ⟨gb289, 3, none⟩ (.int .i64 ((rd_T28 l0 x70_3).f3))).setCell ⟨gb289, 4, none⟩ (.int .i64 ((rd_T28 l0 x70_3).f4))) = w70 at n0_ n1_ n2_ n3_ ⊢
                                    have HO_5 := n0_
                                    have HO_7 := n1_
                                    have BK289 := n2_
                                    have HB := n3_
                                    clear n0_ n1_ n2_ n3_
                                    have n0_ := Aside0.mk (Kd.R_drew HO_5.out)
                                    have n1_ := Aside0.mk (Kd.R_drew HO_7.out)
                                    have n2_ := Aside0.mk (blk_drew BK289.out)
                                    have n3_ := Aside0.mk (below_drew1 HB.out)
                                    clear HO_5
                                    clear HO_7
                                    clear BK289
                                    clear HB
                                    have HO_5 := n0_
                                    have HO_7 := n1_
                                    have BK289 := n2_
                                    have HB := n3_
                                    clear n0_ n1_ n2_ n3_
                                    refine start_ (n := 8) (S := fun w' => w'.cell? ⟨gb289, 0, none⟩ = some (.string ((rd_T28 l0 x70_3).f0)) ∧ w'.cell? ⟨gb289, 1, none⟩ = some (.bool ((rd_T28 l0 x70_3).f1)) ∧ w'.cell? ⟨gb289, 2, none⟩ = some (.int .i64 ((rd_T28 l0 x70_3).f2)) ∧ w'.cell? ⟨gb289, 3, none⟩ = some (.int .i64 ((rd_T28 l0 x70_3).f3)) ∧ w'.cell? ⟨gb289, 4, none⟩ = some (.int .i64 ((rd_T28 l0 x70_3).f4))) (ds := []) #[false, false, false, false, false, false, false, false] (by kernel_rfl) rfl rfl ⟨(blk_cell BK289.out 0).trans rfl, (blk_cell BK289.out 1).trans rfl, (blk_cell BK289.out 2).trans rfl, (blk_cell BK289.out 3).trans rfl, (blk_cell BK289.out 4).trans rfl⟩ (fun hHeld => ?_); refine with_tabW parrylaw1_DomOrder.tab15 parrylaw1_DomOrder.bits15 (fun HT_ HW_ => ?_)
                                    generalize w70.drew = w71 at HO_5 HO_7 BK289 HB hHeld ⊢
                                    refine pure_ (i := 0) (N := some 82) (v := ?_) (a' := ?_) #[true, false, false, false, false, false, false, false] rfl rfl (any_of HT_.out (by kernel_rfl)) (fun _ _ _ h => h) (Or.inl ⟨by rfl, ?_⟩) ?_ ?_
                                    rotate_left
                                    · intro w'
                                      go_simp
                                      with_reducible rfl
                                    rotate_left
                                    · simp only [Act.put, List.setIfInBounds_toArray, List.set_cons_zero, List.set_cons_succ, i64_w, i32_w]
                                      rfl
                                    refine pure_ (i := 1) (N := some 83) (v := ?_) (a' := ?_) #[true, true, false, false, false, false, false, false] rfl rfl (any_of HT_.out (by kernel_rfl)) (fun _ _ _ h => h) (Or.inl ⟨by rfl, ?_⟩) ?_ ?_
                                    rotate_left
                                    · intro w'
                                      go_simp
                                      with_reducible rfl
                                    rotate_left
                                    · simp only [Act.put, List.setIfInBounds_toArray, List.set_cons_zero, List.set_cons_succ, i64_w, i32_w]
                                      rfl
                                    refine take_ (i := 2) (N := some 84) (v := ?_) (a' := ?_) #[true, true, true, false, false, false, false, false] rfl rfl (take_ofW HT_.out HW_.out (by kernel_rfl)) (fun _ _ _ h => h) (Or.inl ⟨by rfl, ?_⟩) hHeld ?_ ?_
                                    rotate_left
                                    · rintro w' ⟨s0, s1, s2, s3, s4⟩
                                      go_simp
                                      with_reducible rfl
                                    rotate_left
                                    · simp only [Act.put, List.setIfInBounds_toArray, List.set_cons_zero, List.set_cons_succ, i64_w, i32_w]
                                      rfl
                                    refine take_ (i := 3) (N := some 85) (v := ?_) (a' := ?_) #[true, true, true, true, false, false, false, false] rfl rfl (take_ofW HT_.out HW_.out (by kernel_rfl)) (fun _ _ _ h => h) (Or.inl ⟨by rfl, ?_⟩) hHeld ?_ ?_
                                    rotate_left
                                    · rintro w' ⟨s0, s1, s2, s3, s4⟩
                                      go_simp
                                      with_reducible rfl
                                    rotate_left
                                    · simp only [Act.put, List.setIfInBounds_toArray, List.set_cons_zero, List.set_cons_succ, i64_w, i32_w]
                                      rfl
                                    refine one_ (i := 4) (N := some 86) #[true, true, true, true, true, false, false, false] rfl rfl (one_of HT_.out (by kernel_rfl)) (by decide) (fun K hK => ?_)
                                    refine goes_ Try.func19 (by kernel_rfl) rfl #[.agg #[.string ((rd_T28 l0 x70_3).f0), .bool ((rd_T28 l0 x70_3).f1), .int .i64 ((rd_T28 l0 x70_3).f2), .int .i64 ((rd_T28 l0 x70_3).f3), .int .i64 ((rd_T28 l0 x70_3).f4)]] (by rfl) rfl rfl (by (try simp only [List.map_toArray, List.map_cons, List.map_nil]); first | done | rfl | (simp only [List.length_drop, List.length_take]; rfl)) ?_
                                    with_reducible refine (parryref1_Size.calls ((rd_T28 l0 x70_3).f0) ((rd_T28 l0 x70_3).f1) ((rd_T28 l0 x70_3).f2) ((rd_T28 l0 x70_3).f3) ((rd_T28 l0 x70_3).f4) t291 _ A38.out).mono ?_
                                    rintro e w72 ⟨rfl, hb⟩
                                    refine ⟨_, rfl, ?_⟩
                                    have n0_ := Aside0.mk (Kd.R_below (by (with_reducible repeat (first | apply Kd.R_alloc | apply Kd.R_drewN | apply Kd.R_drew)); exact HO_5.out) hb)
                                    have n1_ := Aside0.mk (Kd.R_below (by (with_reducible repeat (first | apply Kd.R_alloc | apply Kd.R_drewN | apply Kd.R_drew)); exact HO_7.out) hb)
                                    have n2_ := Aside0.mk (blk_below (g := gb289) (o := .cells #[.string ((rd_T28 l0 x70_3).f0), .bool ((rd_T28 l0 x70_3).f1), .int .i64 ((rd_T28 l0 x70_3).f2), .int .i64 ((rd_T28 l0 x70_3).f3), .int .i64 ((rd_T28 l0 x70_3).f4)] 28 (0, 0)) (by (with_reducible repeat (first | refine blk_drewN ?_ _ | refine blk_drew ?_ | refine blk_alloc ?_ _)); exact BK289.out) hb)
                                    have n3_ := Aside0.mk (below_step (by repeat (first | (with_reducible first | exact HB.out | apply below_alloc | apply pw_below_drewN | apply below_drew1 | refine below_set ?_ GE289.out) | exact HB.out)) hb)
                                    clear HO_5
                                    clear HO_7
                                    clear BK289
                                    clear HB
                                    have HO_5 := n0_
                                    have HO_7 := n1_
                                    have BK289 := n2_
                                    have HB := n3_
                                    clear n0_ n1_ n2_ n3_
                                    (try clear hb)
                                    (try clear hb2)
                                    (try clear hk)
                                    (try clear hi)
                                    refine hK.out _ _ ⟨(blk_cell BK289.out 0).trans rfl, (blk_cell BK289.out 1).trans rfl, (blk_cell BK289.out 2).trans rfl, (blk_cell BK289.out 3).trans rfl, (blk_cell BK289.out 4).trans rfl⟩ (fun hHeld => ?_)
                                    clear hK K
                                    refine norm_ (a' := ?_) ?_ ?_
                                    rotate_left
                                    · show Act.put _ (some 86) _ = _
                                      simp only [Act.put, List.setIfInBounds_toArray, List.set_cons_zero, List.set_cons_succ, i64_w, i32_w]
                                      rfl
                                    refine pure_ (i := 5) (N := some 87) (v := ?_) (a' := ?_) #[true, true, true, true, true, true, false, false] rfl rfl (any_of HT_.out (by kernel_rfl)) (fun _ _ _ h => h) (Or.inl ⟨by rfl, ?_⟩) ?_ ?_
                                    rotate_left
                                    · intro w'
                                      go_simp
                                      with_reducible rfl
                                    rotate_left
                                    · simp only [Act.put, List.setIfInBounds_toArray, List.set_cons_zero, List.set_cons_succ, i64_w, i32_w]
                                      rfl
                                    refine pure_ (i := 6) (N := some 88) (v := ?_) (a' := ?_) #[true, true, true, true, true, true, true, false] rfl rfl (any_of HT_.out (by kernel_rfl)) (fun _ _ _ h => h) (Or.inl ⟨by rfl, ?_⟩) ?_ ?_
                                    rotate_left
                                    · intro w'
                                      go_simp
                                      with_reducible rfl
                                    rotate_left
                                    · simp only [Act.put, List.setIfInBounds_toArray, List.set_cons_zero, List.set_cons_succ, i64_w, i32_w]
                                      rfl
                                    refine pure_ (i := 7) (N := some 9) (v := ?_) (a' := ?_) #[true, true, true, true, true, true, true, true] rfl rfl (any_of HT_.out (by kernel_rfl)) (fun _ _ _ h => h) (Or.inl ⟨by rfl, ?_⟩) ?_ ?_
                                    rotate_left
                                    · intro w'
                                      go_simp
                                      with_reducible rfl
                                    rotate_left
                                    · simp only [Act.put, List.setIfInBounds_toArray, List.set_cons_zero, List.set_cons_succ, i64_w, i32_w]
                                      rfl
                                    refine done_ (done_of HT_.out (by kernel_rfl)) ?_
                                    obtain ⟨Ao73, co73, eo73⟩ := Kd.R_slice HO_7.out
                                    subst eo73
                                    have p293 : 0 ≤ (x70_3 : Int) := of_decide_eq_true (by first | (with_reducible assumption) | assumption)
                                    have q293 : x70_3 < (t283.length : Int) := of_decide_eq_true (by first | (with_reducible assumption) | assumption)
                                    obtain ⟨ad293, e293, hx293_0⟩ := Kd.at_int (Kd.R_reads' HO_7.out).2.2 x70_3 p293 q293
                                    cases e293
                                    replace p293 := eq_true p293
                                    replace q293 := eq_true q293
                                    try go_wp2
                                    go_ret
                                    exact ⟨by first | rfl | (simp [errW_none, errW_some] <;> rfl) | (simp [*, errW_none, errW_some] <;> rfl), by repeat (first | (with_reducible first | exact HB.out | apply below_alloc | apply pw_below_drewN | apply below_drew1 | refine below_set ?_ GE289.out) | exact HB.out)⟩
                                · rw [if_neg c58] at H
                                  exact absurd H (by simp)
                            · replace c37 := Bool.eq_false_iff.mpr c37
                              subst c37
                              have H1 : (if x70_3 < (t283.length : Int) then (if (rd t283 x70_3) = (rd t279 x70_3) then (parrylaw1_DomOrder.l0 k3 t279 t283 false l0 (l0.length : Int) (wrap64 (x70_3 + 1))) else (some false)) else (none)) = some r := by rw [if_neg (show ¬ (false = true) by decide)] at H; exact H
                              clear H
                              have H := H1
                              clear H1
                              by_cases c74 : x70_3 < (t283.length : Int)
                              · rw [if_pos c74] at H
                                have c74b0 : decide (x70_3 < (t283.length : Int)) = true := decide_eq_true c74
                                clear c74
                                by_cases c75 : (rd t283 x70_3) = (rd t279 x70_3)
                                · rw [if_pos c75] at H
                                  have c75b0 : ((rd t283 x70_3) == (rd t279 x70_3)) = true := beq_iff_eq.mpr c75
                                  have c75b1 : ((rd t283 x70_3) != (rd t279 x70_3)) = false := bne_eq_false_iff_eq.mpr c75
                                  clear c75
                                  have H' := Aside0.mk H
                                  clear H
                                  have p288 : 0 ≤ (x70_3 : Int) := of_decide_eq_true (by first | (with_reducible assumption) | assumption)
                                  have q288 : x70_3 < (l0.length : Int) := of_decide_eq_true (by first | (with_reducible assumption) | assumption)
                                  obtain ⟨ad288, e288, hx288_0, hx288_1, hx288_2, hx288_3, hx288_4⟩ := at_T28 HR0.out x70_3 p288 q288
                                  cases e288
                                  replace hx288_0 := (HB.out.cell (World.block_lt_of_cell? w _ hx288_0)).trans hx288_0
                                  replace hx288_1 := (HB.out.cell (World.block_lt_of_cell? w _ hx288_1)).trans hx288_1
                                  replace hx288_2 := (HB.out.cell (World.block_lt_of_cell? w _ hx288_2)).trans hx288_2
                                  replace hx288_3 := (HB.out.cell (World.block_lt_of_cell? w _ hx288_3)).trans hx288_3
                                  replace hx288_4 := (HB.out.cell (World.block_lt_of_cell? w _ hx288_4)).trans hx288_4
                                  replace p288 := eq_true p288
                                  replace q288 := eq_true q288
                                  go_wp2_with (first | ((with_reducible refine gate_dst (N := 11) rfl ?_); (try (refine gate_guard (by rfl) ?_; dsimp only)); refine box_event ?hg (N := 11) ?hd (cs := #[.string (⟨#[]⟩ : ByteArray), .bool false, .int .i64 0, .int .i64 0, .int .i64 0]) (t := 28) ?hr ?_; (case hd => rfl); (case hg => rfl); (case hr => first | (go_simp; done) | (go_simp; rfl)); intro gb289 hg w76 hbox hb; have n0_ := Aside0.mk (Kd.R_below (by (with_reducible repeat (first | apply Kd.R_alloc | apply Kd.R_drewN | apply Kd.R_drew)); exact HO_5.out) hb); have n1_ := Aside0.mk (Kd.R_below (by (with_reducible repeat (first | apply Kd.R_alloc | apply Kd.R_drewN | apply Kd.R_drew)); exact HO_7.out) hb); have n2_ := Aside0.mk (below_step (by repeat (first | (with_reducible first | exact HB.out | apply below_alloc | apply pw_below_drewN | apply below_drew1) | exact HB.out)) hb); have n3_ := Aside0.mk (hbox); have n4_ := Aside0.mk ((by rw [hg]; exact (below_size (by repeat (first | (with_reducible first | exact HB.out | apply below_alloc | apply pw_below_drewN | apply below_drew1) | exact HB.out))) : w.heap.size ≤ gb289)); have n5_ := Aside0.mk ((by rw [hg]; exact (below_size (by repeat (first | (with_reducible first | exact HB.out | apply below_alloc | apply pw_below_drewN | apply below_drew1) | exact HB.out))) : w.heap.size ≤ gb289)); clear HO_5; clear HO_7; clear HB; have HO_5 := n0_; have HO_7 := n1_; have HB := n2_; have BK289 := n3_; have GW289 := n4_; have GE289 := n5_; clear n0_ n1_ n2_ n3_ n4_ n5_; clear hb hbox hg; have hcz77_0 : w76.cell? ⟨gb289, 0, none⟩ = some (.string (⟨#[]⟩ : ByteArray)) := (blk_cell BK289.out 0).trans rfl; have hcz77_1 : w76.cell? ⟨gb289, 1, none⟩ = some (.bool false) := (blk_cell BK289.out 1).trans rfl; have hcz77_2 : w76.cell? ⟨gb289, 2, none⟩ = some (.int .i64 0) := (blk_cell BK289.out 2).trans rfl; have hcz77_3 : w76.cell? ⟨gb289, 3, none⟩ = some (.int .i64 0) := (blk_cell BK289.out 3).trans rfl; have hcz77_4 : w76.cell? ⟨gb289, 4, none⟩ = some (.int .i64 0) := (blk_cell BK289.out 4).trans rfl; have hfz77_0 := blk_frozen BK289.out 0; have hfz77_1 := blk_frozen BK289.out 1; have hfz77_2 := blk_frozen BK289.out 2; have hfz77_3 := blk_frozen BK289.out 3; have hfz77_4 := blk_frozen BK289.out 4; obtain ⟨Ao78, co78, eo78⟩ := Kd.R_slice HO_5.out; subst eo78; have p290 : 0 ≤ (x70_3 : Int) := of_decide_eq_true (by first | (with_reducible assumption) | assumption); have q290 : x70_3 < (t279.length : Int) := of_decide_eq_true (by first | (with_reducible assumption) | assumption); obtain ⟨ad290, e290, hx290_0⟩ := Kd.at_int (Kd.R_reads' HO_5.out).2.2 x70_3 p290 q290; cases e290; have hn290_0 : ad290.block ≠ gb289 := Kd.own_blk (Kd.R_ne HO_5.out BK289.out (by decide)); have hn290_1 : ad290.block ≠ gb289 := Kd.own_blk (Kd.R_ne HO_5.out BK289.out (by decide)); have hn290_2 : ad290.block ≠ gb289 := Kd.own_blk (Kd.R_ne HO_5.out BK289.out (by decide)); have hn290_3 : ad290.block ≠ gb289 := Kd.own_blk (Kd.R_ne HO_5.out BK289.out (by decide)); have hn290_4 : ad290.block ≠ gb289 := Kd.own_blk (Kd.R_ne HO_5.out BK289.out (by decide)); replace hx290_0 := (cell_far (p := ⟨gb289, 0, none⟩) (by first | (rw [add_block]; exact hn290_0) | (show (Addr.add _ _).block ≠ _; rw [add_block]; exact hn290_0) | exact hn290_0) (.string ((rd_T28 l0 x70_3).f0))).trans hx290_0; replace hx290_0 := (cell_far (p := ⟨gb289, 1, none⟩) (by first | (rw [add_block]; exact hn290_1) | (show (Addr.add _ _).block ≠ _; rw [add_block]; exact hn290_1) | exact hn290_1) (.bool ((rd_T28 l0 x70_3).f1))).trans hx290_0; replace hx290_0 := (cell_far (p := ⟨gb289, 2, none⟩) (by first | (rw [add_block]; exact hn290_2) | (show (Addr.add _ _).block ≠ _; rw [add_block]; exact hn290_2) | exact hn290_2) (.int .i64 ((rd_T28 l0 x70_3).f2))).trans hx290_0; replace hx290_0 := (cell_far (p := ⟨gb289, 3, none⟩) (by first | (rw [add_block]; exact hn290_3) | (show (Addr.add _ _).block ≠ _; rw [add_block]; exact hn290_3) | exact hn290_3) (.int .i64 ((rd_T28 l0 x70_3).f3))).trans hx290_0; replace hx290_0 := (cell_far (p := ⟨gb289, 4, none⟩) (by first | (rw [add_block]; exact hn290_4) | (show (Addr.add _ _).block ≠ _; rw [add_block]; exact hn290_4) | exact hn290_4) (.int .i64 ((rd_T28 l0 x70_3).f4))).trans hx290_0; clear hn290_0; clear hn290_1; clear hn290_2; clear hn290_3; clear hn290_4; replace p290 := eq_true p290; replace q290 := eq_true q290; obtain ⟨Ao79, co79, eo79⟩ := Kd.R_slice HO_7.out; subst eo79; have p294 : 0 ≤ (x70_3 : Int) := of_decide_eq_true (by first | (with_reducible assumption) | assumption); have q294 : x70_3 < (t283.length : Int) := of_decide_eq_true (by first | (with_reducible assumption) | assumption); obtain ⟨ad294, e294, hx294_0⟩ := Kd.at_int (Kd.R_reads' HO_7.out).2.2 x70_3 p294 q294; cases e294; have hn294_0 : ad294.block ≠ gb289 := Kd.own_blk (Kd.R_ne HO_7.out BK289.out (by decide)); have hn294_1 : ad294.block ≠ gb289 := Kd.own_blk (Kd.R_ne HO_7.out BK289.out (by decide)); have hn294_2 : ad294.block ≠ gb289 := Kd.own_blk (Kd.R_ne HO_7.out BK289.out (by decide)); have hn294_3 : ad294.block ≠ gb289 := Kd.own_blk (Kd.R_ne HO_7.out BK289.out (by decide)); have hn294_4 : ad294.block ≠ gb289 := Kd.own_blk (Kd.R_ne HO_7.out BK289.out (by decide)); replace hx294_0 := (cell_far (p := ⟨gb289, 0, none⟩) (by first | (rw [add_block]; exact hn294_0) | (show (Addr.add _ _).block ≠ _; rw [add_block]; exact hn294_0) | exact hn294_0) (.string ((rd_T28 l0 x70_3).f0))).trans hx294_0; replace hx294_0 := (cell_far (p := ⟨gb289, 1, none⟩) (by first | (rw [add_block]; exact hn294_1) | (show (Addr.add _ _).block ≠ _; rw [add_block]; exact hn294_1) | exact hn294_1) (.bool ((rd_T28 l0 x70_3).f1))).trans hx294_0; replace hx294_0 := (cell_far (p := ⟨gb289, 2, none⟩) (by first | (rw [add_block]; exact hn294_2) | (show (Addr.add _ _).block ≠ _; rw [add_block]; exact hn294_2) | exact hn294_2) (.int .i64 ((rd_T28 l0 x70_3).f2))).trans hx294_0; replace hx294_0 := (cell_far (p := ⟨gb289, 3, none⟩) (by first | (rw [add_block]; exact hn294_3) | (show (Addr.add _ _).block ≠ _; rw [add_block]; exact hn294_3) | exact hn294_3) (.int .i64 ((rd_T28 l0 x70_3).f3))).trans hx294_0; replace hx294_0 := (cell_far (p := ⟨gb289, 4, none⟩) (by first | (rw [add_block]; exact hn294_4) | (show (Addr.add _ _).block ≠ _; rw [add_block]; exact hn294_4) | exact hn294_4) (.int .i64 ((rd_T28 l0 x70_3).f4))).trans hx294_0; clear hn294_0; clear hn294_1; clear hn294_2; clear hn294_3; clear hn294_4; replace p294 := eq_true p294; replace q294 := eq_true q294))
                                  go_roundg k3
                                  case measure => have := HJ2.out; have := HJ21.out; have := HK3.out; omega
                                  case rel => exact ⟨(false), (wrap64 (x70_3 + 1)), (by first | rfl | (simp; done) | (simp [*]; done)), (by first | rfl | (simp; done) | (simp [*]; done)), H', ⟨by have := HJ2.out; have := HJ21.out; have := HK3.out; omega⟩, ⟨by (with_reducible repeat (first | apply Kd.R_alloc | apply Kd.R_drewN | apply Kd.R_drew)); exact Kd.R_mono (Kd.R_far (p := ⟨gb289, 4, none⟩) (Kd.R_far (p := ⟨gb289, 3, none⟩) (Kd.R_far (p := ⟨gb289, 2, none⟩) (Kd.R_far (p := ⟨gb289, 1, none⟩) (Kd.R_far (p := ⟨gb289, 0, none⟩) (Kd.R_types HO_5.out BK289.out (by decide)) (fun _ hk => hk.2) (.string ((rd_T28 l0 x70_3).f0))) (fun _ hk => hk.2) (.bool ((rd_T28 l0 x70_3).f1))) (fun _ hk => hk.2) (.int .i64 ((rd_T28 l0 x70_3).f2))) (fun _ hk => hk.2) (.int .i64 ((rd_T28 l0 x70_3).f3))) (fun _ hk => hk.2) (.int .i64 ((rd_T28 l0 x70_3).f4))) (fun _ hk => hk.1)⟩, ⟨by (with_reducible repeat (first | apply Kd.R_alloc | apply Kd.R_drewN | apply Kd.R_drew)); exact Kd.R_mono (Kd.R_far (p := ⟨gb289, 4, none⟩) (Kd.R_far (p := ⟨gb289, 3, none⟩) (Kd.R_far (p := ⟨gb289, 2, none⟩) (Kd.R_far (p := ⟨gb289, 1, none⟩) (Kd.R_far (p := ⟨gb289, 0, none⟩) (Kd.R_types HO_7.out BK289.out (by decide)) (fun _ hk => hk.2) (.string ((rd_T28 l0 x70_3).f0))) (fun _ hk => hk.2) (.bool ((rd_T28 l0 x70_3).f1))) (fun _ hk => hk.2) (.int .i64 ((rd_T28 l0 x70_3).f2))) (fun _ hk => hk.2) (.int .i64 ((rd_T28 l0 x70_3).f3))) (fun _ hk => hk.2) (.int .i64 ((rd_T28 l0 x70_3).f4))) (fun _ hk => hk.1)⟩, ⟨by repeat (first | (with_reducible first | exact HB.out | apply below_alloc | apply pw_below_drewN | apply below_drew1 | refine below_set ?_ GE289.out) | exact HB.out)⟩⟩
                                · rw [if_neg c75] at H
                                  have c75b0 : ((rd t283 x70_3) == (rd t279 x70_3)) = false := beq_eq_false_iff_ne.mpr c75
                                  have c75b1 : ((rd t283 x70_3) != (rd t279 x70_3)) = true := bne_iff_ne.mpr c75
                                  obtain rfl := Option.some.inj H
                                  have p288 : 0 ≤ (x70_3 : Int) := of_decide_eq_true (by first | (with_reducible assumption) | assumption)
                                  have q288 : x70_3 < (l0.length : Int) := of_decide_eq_true (by first | (with_reducible assumption) | assumption)
                                  obtain ⟨ad288, e288, hx288_0, hx288_1, hx288_2, hx288_3, hx288_4⟩ := at_T28 HR0.out x70_3 p288 q288
                                  cases e288
                                  replace hx288_0 := (HB.out.cell (World.block_lt_of_cell? w _ hx288_0)).trans hx288_0
                                  replace hx288_1 := (HB.out.cell (World.block_lt_of_cell? w _ hx288_1)).trans hx288_1
                                  replace hx288_2 := (HB.out.cell (World.block_lt_of_cell? w _ hx288_2)).trans hx288_2
                                  replace hx288_3 := (HB.out.cell (World.block_lt_of_cell? w _ hx288_3)).trans hx288_3
                                  replace hx288_4 := (HB.out.cell (World.block_lt_of_cell? w _ hx288_4)).trans hx288_4
                                  replace p288 := eq_true p288
                                  replace q288 := eq_true q288
                                  go_wp2_with (first | ((with_reducible refine gate_dst (N := 11) rfl ?_); (try (refine gate_guard (by rfl) ?_; dsimp only)); refine box_event ?hg (N := 11) ?hd (cs := #[.string (⟨#[]⟩ : ByteArray), .bool false, .int .i64 0, .int .i64 0, .int .i64 0]) (t := 28) ?hr ?_; (case hd => rfl); (case hg => rfl); (case hr => first | (go_simp; done) | (go_simp; rfl)); intro gb289 hg w80 hbox hb; have n0_ := Aside0.mk (Kd.R_below (by (with_reducible repeat (first | apply Kd.R_alloc | apply Kd.R_drewN | apply Kd.R_drew)); exact HO_5.out) hb); have n1_ := Aside0.mk (Kd.R_below (by (with_reducible repeat (first | apply Kd.R_alloc | apply Kd.R_drewN | apply Kd.R_drew)); exact HO_7.out) hb); have n2_ := Aside0.mk (below_step (by repeat (first | (with_reducible first | exact HB.out | apply below_alloc | apply pw_below_drewN | apply below_drew1) | exact HB.out)) hb); have n3_ := Aside0.mk (hbox); have n4_ := Aside0.mk ((by rw [hg]; exact (below_size (by repeat (first | (with_reducible first | exact HB.out | apply below_alloc | apply pw_below_drewN | apply below_drew1) | exact HB.out))) : w.heap.size ≤ gb289)); have n5_ := Aside0.mk ((by rw [hg]; exact (below_size (by repeat (first | (with_reducible first | exact HB.out | apply below_alloc | apply pw_below_drewN | apply below_drew1) | exact HB.out))) : w.heap.size ≤ gb289)); clear HO_5; clear HO_7; clear HB; have HO_5 := n0_; have HO_7 := n1_; have HB := n2_; have BK289 := n3_; have GW289 := n4_; have GE289 := n5_; clear n0_ n1_ n2_ n3_ n4_ n5_; clear hb hbox hg; have hcz81_0 : w80.cell? ⟨gb289, 0, none⟩ = some (.string (⟨#[]⟩ : ByteArray)) := (blk_cell BK289.out 0).trans rfl; have hcz81_1 : w80.cell? ⟨gb289, 1, none⟩ = some (.bool false) := (blk_cell BK289.out 1).trans rfl; have hcz81_2 : w80.cell? ⟨gb289, 2, none⟩ = some (.int .i64 0) := (blk_cell BK289.out 2).trans rfl; have hcz81_3 : w80.cell? ⟨gb289, 3, none⟩ = some (.int .i64 0) := (blk_cell BK289.out 3).trans rfl; have hcz81_4 : w80.cell? ⟨gb289, 4, none⟩ = some (.int .i64 0) := (blk_cell BK289.out 4).trans rfl; have hfz81_0 := blk_frozen BK289.out 0; have hfz81_1 := blk_frozen BK289.out 1; have hfz81_2 := blk_frozen BK289.out 2; have hfz81_3 := blk_frozen BK289.out 3; have hfz81_4 := blk_frozen BK289.out 4; obtain ⟨Ao82, co82, eo82⟩ := Kd.R_slice HO_5.out; subst eo82; have p290 : 0 ≤ (x70_3 : Int) := of_decide_eq_true (by first | (with_reducible assumption) | assumption); have q290 : x70_3 < (t279.length : Int) := of_decide_eq_true (by first | (with_reducible assumption) | assumption); obtain ⟨ad290, e290, hx290_0⟩ := Kd.at_int (Kd.R_reads' HO_5.out).2.2 x70_3 p290 q290; cases e290; have hn290_0 : ad290.block ≠ gb289 := Kd.own_blk (Kd.R_ne HO_5.out BK289.out (by decide)); have hn290_1 : ad290.block ≠ gb289 := Kd.own_blk (Kd.R_ne HO_5.out BK289.out (by decide)); have hn290_2 : ad290.block ≠ gb289 := Kd.own_blk (Kd.R_ne HO_5.out BK289.out (by decide)); have hn290_3 : ad290.block ≠ gb289 := Kd.own_blk (Kd.R_ne HO_5.out BK289.out (by decide)); have hn290_4 : ad290.block ≠ gb289 := Kd.own_blk (Kd.R_ne HO_5.out BK289.out (by decide)); replace hx290_0 := (cell_far (p := ⟨gb289, 0, none⟩) (by first | (rw [add_block]; exact hn290_0) | (show (Addr.add _ _).block ≠ _; rw [add_block]; exact hn290_0) | exact hn290_0) (.string ((rd_T28 l0 x70_3).f0))).trans hx290_0; replace hx290_0 := (cell_far (p := ⟨gb289, 1, none⟩) (by first | (rw [add_block]; exact hn290_1) | (show (Addr.add _ _).block ≠ _; rw [add_block]; exact hn290_1) | exact hn290_1) (.bool ((rd_T28 l0 x70_3).f1))).trans hx290_0; replace hx290_0 := (cell_far (p := ⟨gb289, 2, none⟩) (by first | (rw [add_block]; exact hn290_2) | (show (Addr.add _ _).block ≠ _; rw [add_block]; exact hn290_2) | exact hn290_2) (.int .i64 ((rd_T28 l0 x70_3).f2))).trans hx290_0; replace hx290_0 := (cell_far (p := ⟨gb289, 3, none⟩) (by first | (rw [add_block]; exact hn290_3) | (show (Addr.add _ _).block ≠ _; rw [add_block]; exact hn290_3) | exact hn290_3) (.int .i64 ((rd_T28 l0 x70_3).f3))).trans hx290_0; replace hx290_0 := (cell_far (p := ⟨gb289, 4, none⟩) (by first | (rw [add_block]; exact hn290_4) | (show (Addr.add _ _).block ≠ _; rw [add_block]; exact hn290_4) | exact hn290_4) (.int .i64 ((rd_T28 l0 x70_3).f4))).trans hx290_0; clear hn290_0; clear hn290_1; clear hn290_2; clear hn290_3; clear hn290_4; replace p290 := eq_true p290; replace q290 := eq_true q290; obtain ⟨Ao83, co83, eo83⟩ := Kd.R_slice HO_7.out; subst eo83; have p294 : 0 ≤ (x70_3 : Int) := of_decide_eq_true (by first | (with_reducible assumption) | assumption); have q294 : x70_3 < (t283.length : Int) := of_decide_eq_true (by first | (with_reducible assumption) | assumption); obtain ⟨ad294, e294, hx294_0⟩ := Kd.at_int (Kd.R_reads' HO_7.out).2.2 x70_3 p294 q294; cases e294; have hn294_0 : ad294.block ≠ gb289 := Kd.own_blk (Kd.R_ne HO_7.out BK289.out (by decide)); have hn294_1 : ad294.block ≠ gb289 := Kd.own_blk (Kd.R_ne HO_7.out BK289.out (by decide)); have hn294_2 : ad294.block ≠ gb289 := Kd.own_blk (Kd.R_ne HO_7.out BK289.out (by decide)); have hn294_3 : ad294.block ≠ gb289 := Kd.own_blk (Kd.R_ne HO_7.out BK289.out (by decide)); have hn294_4 : ad294.block ≠ gb289 := Kd.own_blk (Kd.R_ne HO_7.out BK289.out (by decide)); replace hx294_0 := (cell_far (p := ⟨gb289, 0, none⟩) (by first | (rw [add_block]; exact hn294_0) | (show (Addr.add _ _).block ≠ _; rw [add_block]; exact hn294_0) | exact hn294_0) (.string ((rd_T28 l0 x70_3).f0))).trans hx294_0; replace hx294_0 := (cell_far (p := ⟨gb289, 1, none⟩) (by first | (rw [add_block]; exact hn294_1) | (show (Addr.add _ _).block ≠ _; rw [add_block]; exact hn294_1) | exact hn294_1) (.bool ((rd_T28 l0 x70_3).f1))).trans hx294_0; replace hx294_0 := (cell_far (p := ⟨gb289, 2, none⟩) (by first | (rw [add_block]; exact hn294_2) | (show (Addr.add _ _).block ≠ _; rw [add_block]; exact hn294_2) | exact hn294_2) (.int .i64 ((rd_T28 l0 x70_3).f2))).trans hx294_0; replace hx294_0 := (cell_far (p := ⟨gb289, 3, none⟩) (by first | (rw [add_block]; exact hn294_3) | (show (Addr.add _ _).block ≠ _; rw [add_block]; exact hn294_3) | exact hn294_3) (.int .i64 ((rd_T28 l0 x70_3).f3))).trans hx294_0; replace hx294_0 := (cell_far (p := ⟨gb289, 4, none⟩) (by first | (rw [add_block]; exact hn294_4) | (show (Addr.add _ _).block ≠ _; rw [add_block]; exact hn294_4) | exact hn294_4) (.int .i64 ((rd_T28 l0 x70_3).f4))).trans hx294_0; clear hn294_0; clear hn294_1; clear hn294_2; clear hn294_3; clear hn294_4; replace p294 := eq_true p294; replace q294 := eq_true q294))
                                  go_ret
                                  exact ⟨by first | rfl | (simp [errW_none, errW_some] <;> rfl) | (simp [*, errW_none, errW_some] <;> rfl), by repeat (first | (with_reducible first | exact HB.out | apply below_alloc | apply pw_below_drewN | apply below_drew1 | refine below_set ?_ GE289.out) | exact HB.out)⟩
                              · rw [if_neg c74] at H
                                exact absurd H (by simp)
                          · rw [if_neg c36] at H
                            exact absurd H (by simp)
                        · rw [if_neg c35] at H
                          exact absurd H (by simp)
                      · rw [if_neg c34] at H
                        exact absurd H (by simp)
                    · rw [if_neg c33] at H
                      have c33b0 : decide (x70_3 < (l0.length : Int)) = false := decide_eq_false c33
                      clear c33
                      by_cases c84 : x9_3 = true
                      · subst c84
                        have H1 : (some false) = some r := by rw [if_pos rfl] at H; exact H
                        clear H
                        have H := H1
                        clear H1
                        obtain rfl := Option.some.inj H
                        go_wp2
                        go_ret
                        exact ⟨by first | rfl | (simp [errW_none, errW_some] <;> rfl) | (simp [*, errW_none, errW_some] <;> rfl), by repeat (first | (with_reducible first | exact HB.out | apply below_alloc | apply pw_below_drewN | apply below_drew1) | exact HB.out)⟩
                      · replace c84 := Bool.eq_false_iff.mpr c84
                        subst c84
                        have H1 : ((parrylaw1_awake.f k3).bind fun t287 => (some t287)) = some r := by rw [if_neg (show ¬ (false = true) by decide)] at H; exact H
                        clear H
                        have H := H1
                        clear H1
                        replace H := Option.bind_eq_some_iff.mp H
                        obtain ⟨t287, A850, H⟩ := H
                        replace H : (some t287) = some r := H
                        have A85 := Aside0.mk A850
                        clear A850
                        obtain rfl := Option.some.inj H
                        go_wp2_with (first | (go_at_call 11; (with_reducible refine (parrylaw1_awake.calls k3  t287 _ A85.out).mono ?_); rintro e w86 ⟨rfl, hb⟩; have n0_ := Aside0.mk (Kd.R_below (by (with_reducible repeat (first | apply Kd.R_alloc | apply Kd.R_drewN | apply Kd.R_drew)); exact HO_5.out) hb); have n1_ := Aside0.mk (Kd.R_below (by (with_reducible repeat (first | apply Kd.R_alloc | apply Kd.R_drewN | apply Kd.R_drew)); exact HO_7.out) hb); have n2_ := Aside0.mk (below_step (by repeat (first | (with_reducible first | exact HB.out | apply below_alloc | apply pw_below_drewN | apply below_drew1) | exact HB.out)) hb); clear HO_5; clear HO_7; clear HB; have HO_5 := n0_; have HO_7 := n1_; have HB := n2_; clear n0_ n1_ n2_; (try clear hb); (try clear hb2); (try clear hk); (try clear hi)))
                        go_ret
                        exact ⟨by first | rfl | (simp [errW_none, errW_some] <;> rfl) | (simp [*, errW_none, errW_some] <;> rfl), by repeat (first | (with_reducible first | exact HB.out | apply below_alloc | apply pw_below_drewN | apply below_drew1) | exact HB.out)⟩

end Go.Proofs.Ytofmfnbiondplaa.P

namespace Go.Proofs.Ytofmfnbiondplaa.P
open Go.RowKit Go.Proofs.YtofmfnbiondplaaW.PrintWords Go.Proofs.YtofmfnbiondplaaW.PrintLast Go.Proofs.YtofmfnbiondplaaW.PrintMore
attribute [local go_sem] max2_int min2_int max_two min_two max_three min_three max_four min_four   -- for this text's walks alone
set_option linter.unusedVariables false
set_option linter.unusedSimpArgs false

open Go.Proofs.Ytofmfnbiondplaa.X
mutual
def parryref1_Values.j0 : Nat → List (S28) → Int → Bool → Option (List Int × Bool)
  | 0, _, _, _ => none
  | k + 1, x0, x1, x22 => if x22 = true then (some (([] : List Int), false)) else (parryref1_Values.l0 k x1 ([] : List Int) x0 (x0.length : Int) 0)
def parryref1_Values.l0 : Nat → Int → List Int → List (S28) → Int → Int → Option (List Int × Bool)
  | 0, _, _, _, _, _ => none
  | k + 1, x1, x6, x23, x24, x25 => if x25 < x24 then (if 0 ≤ x25 then (if x25 < (x23.length : Int) then ((parryref1_Size.f ((rd_T28 x23 x25).f0) ((rd_T28 x23 x25).f1) ((rd_T28 x23 x25).f2) ((rd_T28 x23 x25).f3) ((rd_T28 x23 x25).f4)).bind fun t299 => (if t299 = 0 then (none) else (if x6.length < 17592186044416 then (parryref1_Values.l0 k (wrap64 (Int.tdiv x1 t299)) (x6 ++ [wrap64 ((Int.tmod x1 t299) + ((rd_T28 x23 x25).f3))]) x23 x24 (wrap64 (x25 + 1))) else (none)))) else (none)) else (none)) else (some (x6, true))
end
def parryref1_Values.f (k : Nat) (l0 : List (S28)) (a1 : Int) : Option (List Int × Bool) := (parryref1_MayVars.f k l0).bind fun t295 => (if t295 = 0 then (if a1 < 0 then (parryref1_Values.j0 k l0 a1 true) else ((parryref1_Total.f k l0).bind fun t296 => (parryref1_Values.j0 k l0 a1 (decide (a1 ≥ t296))))) else (parryref1_Values.j0 k l0 a1 true))
theorem parryref1_Values.mono_l : ∀ k, (∀ y0 y1 y2, LeO (parryref1_Values.j0 k y0 y1 y2) (parryref1_Values.j0 (k + 1) y0 y1 y2)) ∧ (∀ y0 y1 y2 y3 y4, LeO (parryref1_Values.l0 k y0 y1 y2 y3 y4) (parryref1_Values.l0 (k + 1) y0 y1 y2 y3 y4))
  | 0 => ⟨fun _ _ _ r h => by simp [parryref1_Values.j0] at h, fun _ _ _ _ _ r h => by simp [parryref1_Values.l0] at h⟩
  | k + 1 => by
    obtain ⟨ih0, ih1⟩ := parryref1_Values.mono_l k
    refine ⟨?_, ?_⟩
    · intro y0 y1 y2
      unfold parryref1_Values.j0
      repeat' first
      | (with_reducible exact ih0 _ _ _)
      | (with_reducible exact ih1 _ _ _ _ _)
      | (with_reducible exact parryref1_MayVars.mono _ _)
      | (with_reducible exact parryref1_Total.mono _ _)
      | (with_reducible exact LeO.refl _)
      | (with_reducible exact LeO.none _)
      | (with_reducible refine LeO.ite ?_ ?_)
      | (with_reducible refine LeO.bind ?_ (fun _ => ?_))
      | exact ih0 _ _ _
      | exact ih1 _ _ _ _ _
      | exact parryref1_MayVars.mono _ _
      | exact parryref1_Total.mono _ _
      | exact LeO.none _
      | refine LeO.ite ?_ ?_
      | refine LeO.bind ?_ (fun _ => ?_)
    · intro y0 y1 y2 y3 y4
      unfold parryref1_Values.l0
      repeat' first
      | (with_reducible exact ih0 _ _ _)
      | (with_reducible exact ih1 _ _ _ _ _)
      | (with_reducible exact parryref1_MayVars.mono _ _)
      | (with_reducible exact parryref1_Total.mono _ _)
      | (with_reducible exact LeO.refl _)
      | (with_reducible exact LeO.none _)
      | (with_reducible refine LeO.ite ?_ ?_)
      | (with_reducible refine LeO.bind ?_ (fun _ => ?_))
      | exact ih0 _ _ _
      | exact ih1 _ _ _ _ _
      | exact parryref1_MayVars.mono _ _
      | exact parryref1_Total.mono _ _
      | exact LeO.none _
      | refine LeO.ite ?_ ?_
      | refine LeO.bind ?_ (fun _ => ?_)
theorem parryref1_Values.mono : ∀ a0 a1 k, LeO (parryref1_Values.f k a0 a1) (parryref1_Values.f (k + 1) a0 a1) := by
  intro a0 a1 k
  obtain ⟨ih0, ih1⟩ := parryref1_Values.mono_l k
  unfold parryref1_Values.f
  repeat' first
      | (with_reducible exact ih0 _ _ _)
      | (with_reducible exact ih1 _ _ _ _ _)
      | (with_reducible exact parryref1_MayVars.mono _ _)
      | (with_reducible exact parryref1_Total.mono _ _)
      | (with_reducible exact LeO.refl _)
      | (with_reducible exact LeO.none _)
      | (with_reducible refine LeO.ite ?_ ?_)
      | (with_reducible refine LeO.bind ?_ (fun _ => ?_))
      | exact ih0 _ _ _
      | exact ih1 _ _ _ _ _
      | exact parryref1_MayVars.mono _ _
      | exact parryref1_Total.mono _ _
      | exact LeO.none _
      | refine LeO.ite ?_ ?_
      | refine LeO.bind ?_ (fun _ => ?_)
def parryref1_Values.T8 : Bool × List (List Nat × List Nat) := (true, [([], []), ([], []), ([], []), ([1, 2], [1, 2]), ([], []), ([4], [4]), ([3, 5], [3, 5]), ([6], [6]), ([0, 7], [0, 7]), ([8, 8, 0, 1, 2, 3, 4, 5, 6, 7, 8], [0, 8])])
def parryref1_Values.B8 : List Nat := [0, 0, 0, 6, 0, 16, 62, 126, 255, 511]
theorem parryref1_Values.tab8 : rtab .any (opsOf Try.f20 8) = parryref1_Values.T8 := by kernel_rfl
theorem parryref1_Values.bits8 : waitsOk parryref1_Values.T8.2 parryref1_Values.B8 = true := by kernel_rfl
set_option maxHeartbeats 8000000 in
set_option maxRecDepth 100000 in
theorem parryref1_Values.calls (k : Nat) (A0 : Option Addr) (c0 : Nat) (l0 : List (S28)) (a1 : Int) (r1 : List Int) (r2 : Bool) (w : World) (hr0 : Kd.C k28 w A0 l0.length l0) (hc0 : l0.length ≤ c0) (h : parryref1_Values.f k l0 a1 = some (r1, r2)) :
    Calls Try.prog 20 #[.slice A0 l0.length c0, .int .i64 a1] w fun e w' => ∃ v0_ : Value, e = .returned (.tuple #[v0_, .bool r2]) ∧ Kd.R (Kd.int .i64) 3 w' w.heap.size (fun _ => True) v0_ r1 ∧ Below w.heap.size w w' := by
  have hu28 := Try.underlying28
  have HR0 := Aside0.mk hr0
  have HC0 := Aside0.mk hc0
  clear hr0 hc0
  have HB := Aside0.mk (Below.refl w.heap.size w)
  have H : ((parryref1_MayVars.f k l0).bind fun t295 => (if t295 = 0 then (if a1 < 0 then (parryref1_Values.j0 k l0 a1 true) else ((parryref1_Total.f k l0).bind fun t296 => (parryref1_Values.j0 k l0 a1 (decide (a1 ≥ t296))))) else (parryref1_Values.j0 k l0 a1 true))) = some (r1, r2) := h
  clear h
  have HC3 := Aside0.mk H
  clear H
  go_enter Try.func20, Try.ntmps20
  go_upto_region 1 with (fail)
  go_cut [22] (fun v22 wc => ∃ (kq : Nat) (x22_2 : Bool), v22 = .bool x22_2 ∧ Aside0 (parryref1_Values.j0 kq l0 a1 x22_2 = some (r1, r2)) ∧ Aside0 (kq ≤ k) ∧ Aside0 (Below w.heap.size w wc))
  case first =>
    have H := HC3.out
    clear HC3
    replace H := Option.bind_eq_some_iff.mp H
    obtain ⟨t295, A40, H⟩ := H
    replace H : (if t295 = 0 then (if a1 < 0 then (parryref1_Values.j0 k l0 a1 true) else ((parryref1_Total.f k l0).bind fun t296 => (parryref1_Values.j0 k l0 a1 (decide (a1 ≥ t296))))) else (parryref1_Values.j0 k l0 a1 true)) = some (r1, r2) := H
    have A4 := Aside0.mk A40
    clear A40
    by_cases c5 : t295 = 0
    · rw [if_pos c5] at H
      have c5b0 : (t295 == 0) = true := beq_iff_eq.mpr c5
      have c5b1 : (t295 != 0) = false := bne_eq_false_iff_eq.mpr c5
      clear c5
      (first | rw [c5b0] | (simp only [i64_w, i32_w]; rw [c5b0]) | skip)
      by_cases c6 : a1 < 0
      · rw [if_pos c6] at H
        have c6b0 : decide (a1 < 0) = true := decide_eq_true c6
        clear c6
        have H' := Aside0.mk H
        clear H
        go_wp2_with (first | ((with_reducible refine gate_callee (f := 17) rfl ?_); refine goesL_ (some 11) rfl rfl Try.func17 (by kernel_rfl) rfl #[.slice A0 l0.length c0] rfl (by (try simp only [List.map_toArray, List.map_cons, List.map_nil]); first | done | rfl | (simp only [List.length_drop, List.length_take]; rfl)) ?_; (with_reducible refine (parryref1_MayVars.calls k _ _ l0 t295 _ ?side1 ?side2 A4.out).mono ?_); (case side1 => repeat (first | exact (Kd.C_below HR0.out HB.out) | (with_reducible refine Kd.C_alloc ?_ _) | (with_reducible refine Kd.C_drewN ?_ _) | (with_reducible refine Kd.C_drew ?_))); (case side2 => exact HC0.out); rintro e w7 ⟨rfl, hb⟩; refine ⟨_, rfl, ?_⟩; have n0_ := Aside0.mk (below_step (by repeat (first | (with_reducible first | exact HB.out | apply below_alloc | apply pw_below_drewN | apply below_drew1) | exact HB.out)) hb); clear HB; have HB := n0_; clear n0_; (try clear hb); (try clear hb2); (try clear hk); (try clear hi)))
        go_meet
        case rel => exact ⟨_, (true), (by first | rfl | (simp; done) | (simp [*]; done)), H', ⟨by first | omega | exact Nat.le_refl _⟩, ⟨by repeat (first | (with_reducible first | exact HB.out | apply below_alloc | apply pw_below_drewN | apply below_drew1) | exact HB.out)⟩⟩
      · rw [if_neg c6] at H
        have c6b0 : decide (a1 < 0) = false := decide_eq_false c6
        clear c6
        replace H := Option.bind_eq_some_iff.mp H
        obtain ⟨t296, A80, H⟩ := H
        replace H : (parryref1_Values.j0 k l0 a1 (decide (a1 ≥ t296))) = some (r1, r2) := H
        have A8 := Aside0.mk A80
        clear A80
        have H' := Aside0.mk H
        clear H
        go_wp2_with (first | ((with_reducible refine gate_callee (f := 17) rfl ?_); refine goesL_ (some 11) rfl rfl Try.func17 (by kernel_rfl) rfl #[.slice A0 l0.length c0] rfl (by (try simp only [List.map_toArray, List.map_cons, List.map_nil]); first | done | rfl | (simp only [List.length_drop, List.length_take]; rfl)) ?_; (with_reducible refine (parryref1_MayVars.calls k _ _ l0 t295 _ ?side1 ?side2 A4.out).mono ?_); (case side1 => repeat (first | exact (Kd.C_below HR0.out HB.out) | (with_reducible refine Kd.C_alloc ?_ _) | (with_reducible refine Kd.C_drewN ?_ _) | (with_reducible refine Kd.C_drew ?_))); (case side2 => exact HC0.out); rintro e w9 ⟨rfl, hb⟩; refine ⟨_, rfl, ?_⟩; have n0_ := Aside0.mk (below_step (by repeat (first | (with_reducible first | exact HB.out | apply below_alloc | apply pw_below_drewN | apply below_drew1) | exact HB.out)) hb); clear HB; have HB := n0_; clear n0_; (try clear hb); (try clear hb2); (try clear hk); (try clear hi)) | (go_at_call 18; (with_reducible refine (parryref1_Total.calls k _ _ l0 t296 _ ?side1 ?side2 A8.out).mono ?_); (case side1 => repeat (first | exact (Kd.C_below HR0.out HB.out) | (with_reducible refine Kd.C_alloc ?_ _) | (with_reducible refine Kd.C_drewN ?_ _) | (with_reducible refine Kd.C_drew ?_))); (case side2 => exact HC0.out); rintro e w10 ⟨rfl, hb⟩; have n0_ := Aside0.mk (below_step (by repeat (first | (with_reducible first | exact HB.out | apply below_alloc | apply pw_below_drewN | apply below_drew1) | exact HB.out)) hb); clear HB; have HB := n0_; clear n0_; (try clear hb); (try clear hb2); (try clear hk); (try clear hi)))
        go_meet
        case rel => exact ⟨_, (decide (a1 ≥ t296)), (by first | rfl | (simp; done) | (simp [*]; done)), H', ⟨by first | omega | exact Nat.le_refl _⟩, ⟨by repeat (first | (with_reducible first | exact HB.out | apply below_alloc | apply pw_below_drewN | apply below_drew1) | exact HB.out)⟩⟩
    · rw [if_neg c5] at H
      have c5b0 : (t295 == 0) = false := beq_eq_false_iff_ne.mpr c5
      have c5b1 : (t295 != 0) = true := bne_iff_ne.mpr c5
      (first | rw [c5b0] | (simp only [i64_w, i32_w]; rw [c5b0]) | skip)
      have H' := Aside0.mk H
      clear H
      go_wp2_with (first | ((with_reducible refine gate_callee (f := 17) rfl ?_); refine goesL_ (some 11) rfl rfl Try.func17 (by kernel_rfl) rfl #[.slice A0 l0.length c0] rfl (by (try simp only [List.map_toArray, List.map_cons, List.map_nil]); first | done | rfl | (simp only [List.length_drop, List.length_take]; rfl)) ?_; (with_reducible refine (parryref1_MayVars.calls k _ _ l0 t295 _ ?side1 ?side2 A4.out).mono ?_); (case side1 => repeat (first | exact (Kd.C_below HR0.out HB.out) | (with_reducible refine Kd.C_alloc ?_ _) | (with_reducible refine Kd.C_drewN ?_ _) | (with_reducible refine Kd.C_drew ?_))); (case side2 => exact HC0.out); rintro e w11 ⟨rfl, hb⟩; refine ⟨_, rfl, ?_⟩; have n0_ := Aside0.mk (below_step (by repeat (first | (with_reducible first | exact HB.out | apply below_alloc | apply pw_below_drewN | apply below_drew1) | exact HB.out)) hb); clear HB; have HB := n0_; clear n0_; (try clear hb); (try clear hb2); (try clear hk); (try clear hi)))
      go_meet
      case rel => exact ⟨_, (true), (by first | rfl | (simp; done) | (simp [*]; done)), H', ⟨by first | omega | exact Nat.le_refl _⟩, ⟨by repeat (first | (with_reducible first | exact HB.out | apply below_alloc | apply pw_below_drewN | apply below_drew1) | exact HB.out)⟩⟩
  case rest =>
    clear HC3
    try clear c1
    try clear c2
    try clear p2
    try clear c5
    try clear c5b0
    try clear c5b1
    try clear c6
    try clear c6b0
    obtain ⟨kq, x22_2, rfl, HA, HJ2, HB⟩ := hcut
    cases kq with
    | zero => exact absurd HA.out (by simp [parryref1_Values.j0])
    | succ kj2 =>
      have H := HA.out
      clear HA
      simp only [parryref1_Values.j0] at H
      by_cases c12 : x22_2 = true
      · subst c12
        have H1 : (some (([] : List Int), false)) = some (r1, r2) := by rw [if_pos rfl] at H; exact H
        clear H
        have H := H1
        clear H1
        simp only [Option.some.injEq, Prod.mk.injEq] at H
        obtain ⟨rfl, rfl⟩ := H
        go_wp2
        go_ret2
        exact ⟨_, by first | rfl | (simp [errW_none, errW_some] <;> rfl) | (simp [*, errW_none, errW_some] <;> rfl), by first | exact Kd.R_nil _ _ _ _ _ | exact Kd.N_nil _ _ _ _ _ | exact Kd.V_nil _ _ _ _ _ | exact Kd.Q_nil _ _ _ _ _ | exact Kd.S_nil _ _ _ _ _, by repeat (first | (with_reducible first | exact HB.out | apply below_alloc | apply pw_below_drewN | apply below_drew1) | exact HB.out)⟩
      · replace c12 := Bool.eq_false_iff.mpr c12
        subst c12
        have H1 : (parryref1_Values.l0 kj2 a1 ([] : List Int) l0 (l0.length : Int) 0) = some (r1, r2) := by rw [if_neg (show ¬ (false = true) by decide)] at H; exact H
        clear H
        have H := H1
        clear H1
        have H' := Aside0.mk H
        clear H
        go_wp2
        go_loopg [1, 6, 25] kj2 (fun kq v1 v6 v25 w' => ∃ (x1_2 : Int) (x6_2 : List Int) (x25_2 : Int), v1 = .int .i64 x1_2 ∧ v25 = .int .i64 x25_2 ∧ Aside0 (parryref1_Values.l0 kq x1_2 x6_2 l0 (l0.length : Int) x25_2 = some (r1, r2)) ∧ Aside0 (kq ≤ kj2) ∧ Aside0 (Kd.R (Kd.int .i64) 3 w' w.heap.size (fun _ => True) v6 x6_2) ∧ Aside0 (Below w.heap.size w w'))
        case atStart => exact ⟨(a1), (([] : List Int)), (0), (by first | rfl | (simp; done) | (simp [*]; done)), (by first | rfl | (simp; done) | (simp [*]; done)), H', ⟨Nat.le_refl _⟩, ⟨by first | exact Kd.R_nil _ _ _ _ _ | exact Kd.N_nil _ _ _ _ _ | exact Kd.V_nil _ _ _ _ _ | exact Kd.Q_nil _ _ _ _ _ | exact Kd.S_nil _ _ _ _ _⟩, ⟨by repeat (first | (with_reducible first | exact HB.out | apply below_alloc | apply pw_below_drewN | apply below_drew1) | exact HB.out)⟩⟩
        case round =>
          clear H'
          try clear c1
          try clear c2
          try clear p2
          try clear c5
          try clear c5b0
          try clear c5b1
          try clear c6
          try clear c6b0
          try clear c12
          try clear p2
          obtain ⟨x1_2, x6_2, x25_2, rfl, rfl, HA, HK2, HO_6, HB⟩ := hrel
          cases gk with
          | zero => exact absurd HA.out (by simp [parryref1_Values.l0])
          | succ k2 =>
            have H := HA.out
            clear HA
            simp only [parryref1_Values.l0] at H
            by_cases c13 : x25_2 < (l0.length : Int)
            · rw [if_pos c13] at H
              have c13b0 : decide (x25_2 < (l0.length : Int)) = true := decide_eq_true c13
              clear c13
              by_cases c14 : 0 ≤ x25_2
              · rw [if_pos c14] at H
                have c14b0 : decide (0 ≤ x25_2) = true := decide_eq_true c14
                clear c14
                by_cases c15 : x25_2 < (l0.length : Int)
                · rw [if_pos c15] at H
                  have c15b0 : decide (x25_2 < (l0.length : Int)) = true := decide_eq_true c15
                  clear c15
                  replace H := Option.bind_eq_some_iff.mp H
                  obtain ⟨t299, A160, H⟩ := H
                  replace H : (if t299 = 0 then (none) else (if x6_2.length < 17592186044416 then (parryref1_Values.l0 k2 (wrap64 (Int.tdiv x1_2 t299)) (x6_2 ++ [wrap64 ((Int.tmod x1_2 t299) + ((rd_T28 l0 x25_2).f3))]) l0 (l0.length : Int) (wrap64 (x25_2 + 1))) else (none))) = some (r1, r2) := H
                  have A16 := Aside0.mk A160
                  clear A160
                  by_cases c17 : t299 = 0
                  · rw [if_pos c17] at H
                    exact absurd H (by simp)
                  · rw [if_neg c17] at H
                    have c17b0 : (t299 == 0) = false := beq_eq_false_iff_ne.mpr c17
                    have c17b1 : (t299 != 0) = true := bne_iff_ne.mpr c17
                    by_cases c18 : x6_2.length < 17592186044416
                    · rw [if_pos c18] at H
                      have LMc18 := Aside0.mk c18
                      clear c18
                      obtain ⟨y300, hy300⟩ : ∃ y_ : List Int, y_ = (x6_2 ++ [wrap64 ((Int.tmod x1_2 t299) + ((rd_T28 l0 x25_2).f3))]) := ⟨_, rfl⟩
                      replace H : (parryref1_Values.l0 k2 (wrap64 (Int.tdiv x1_2 t299)) y300 l0 (l0.length : Int) (wrap64 (x25_2 + 1))) = some (r1, r2) := by first | (rw [hy300]; with_reducible exact H) | (have H2_ := (Option.bind_some _ _).symm.trans H; rw [hy300]; with_reducible exact H2_) | (have H2_ := (Option.bind_some _ _).symm.trans H; with_reducible exact H2_) | with_reducible exact H | (rw [hy300]; exact H) | exact H
                      have Ny300 := Aside0.mk hy300
                      clear hy300
                      have H' := Aside0.mk H
                      clear H
                      have p297 : 0 ≤ (x25_2 : Int) := of_decide_eq_true (by first | (with_reducible assumption) | assumption)
                      have q297 : x25_2 < (l0.length : Int) := of_decide_eq_true (by first | (with_reducible assumption) | assumption)
                      obtain ⟨ad297, e297, hx297_0, hx297_1, hx297_2, hx297_3, hx297_4⟩ := at_T28 HR0.out x25_2 p297 q297
                      cases e297
                      replace hx297_0 := (HB.out.cell (World.block_lt_of_cell? w _ hx297_0)).trans hx297_0
                      replace hx297_1 := (HB.out.cell (World.block_lt_of_cell? w _ hx297_1)).trans hx297_1
                      replace hx297_2 := (HB.out.cell (World.block_lt_of_cell? w _ hx297_2)).trans hx297_2
                      replace hx297_3 := (HB.out.cell (World.block_lt_of_cell? w _ hx297_3)).trans hx297_3
                      replace hx297_4 := (HB.out.cell (World.block_lt_of_cell? w _ hx297_4)).trans hx297_4
                      replace p297 := eq_true p297
                      replace q297 := eq_true q297
                      try go_wp2_with (first | ((with_reducible refine gate_dst (N := 8) rfl ?_); refine box_event ?hg (N := 8) ?hd (cs := #[.string (⟨#[]⟩ : ByteArray), .bool false, .int .i64 0, .int .i64 0, .int .i64 0]) (t := 28) ?hr ?_; (case hd => rfl); (case hg => rfl); (case hr => first | (go_simp; done) | (go_simp; rfl)); intro gb298 hg w19 hbox hb; have n0_ := Aside0.mk (Kd.R_below (by (with_reducible repeat (first | apply Kd.R_alloc | apply Kd.R_drewN | apply Kd.R_drew)); exact HO_6.out) hb); have n1_ := Aside0.mk (below_step (by repeat (first | (with_reducible first | exact HB.out | apply below_alloc | apply pw_below_drewN | apply below_drew1) | exact HB.out)) hb); have n2_ := Aside0.mk (hbox); have n3_ := Aside0.mk ((by rw [hg]; exact (below_size (by repeat (first | (with_reducible first | exact HB.out | apply below_alloc | apply pw_below_drewN | apply below_drew1) | exact HB.out))) : w.heap.size ≤ gb298)); have n4_ := Aside0.mk ((by rw [hg]; exact (below_size (by repeat (first | (with_reducible first | exact HB.out | apply below_alloc | apply pw_below_drewN | apply below_drew1) | exact HB.out))) : w.heap.size ≤ gb298)); clear HO_6; clear HB; have HO_6 := n0_; have HB := n1_; have BK298 := n2_; have GW298 := n3_; have GE298 := n4_; clear n0_ n1_ n2_ n3_ n4_; clear hb hbox hg; have hcz20_0 : w19.cell? ⟨gb298, 0, none⟩ = some (.string (⟨#[]⟩ : ByteArray)) := (blk_cell BK298.out 0).trans rfl; have hcz20_1 : w19.cell? ⟨gb298, 1, none⟩ = some (.bool false) := (blk_cell BK298.out 1).trans rfl; have hcz20_2 : w19.cell? ⟨gb298, 2, none⟩ = some (.int .i64 0) := (blk_cell BK298.out 2).trans rfl; have hcz20_3 : w19.cell? ⟨gb298, 3, none⟩ = some (.int .i64 0) := (blk_cell BK298.out 3).trans rfl; have hcz20_4 : w19.cell? ⟨gb298, 4, none⟩ = some (.int .i64 0) := (blk_cell BK298.out 4).trans rfl; have hfz20_0 := blk_frozen BK298.out 0; have hfz20_1 := blk_frozen BK298.out 1; have hfz20_2 := blk_frozen BK298.out 2; have hfz20_3 := blk_frozen BK298.out 3; have hfz20_4 := blk_frozen BK298.out 4) | ((with_reducible refine gate_callee (f := 19) rfl ?_); refine goesL_ (some 30) rfl rfl Try.func19 (by kernel_rfl) rfl #[.agg #[.string ((rd_T28 l0 x25_2).f0), .bool ((rd_T28 l0 x25_2).f1), .int .i64 ((rd_T28 l0 x25_2).f2), .int .i64 ((rd_T28 l0 x25_2).f3), .int .i64 ((rd_T28 l0 x25_2).f4)]] rfl (by (try simp only [List.map_toArray, List.map_cons, List.map_nil]); first | done | rfl | (simp only [List.length_drop, List.length_take]; rfl)) ?_; (with_reducible refine (parryref1_Size.calls ((rd_T28 l0 x25_2).f0) ((rd_T28 l0 x25_2).f1) ((rd_T28 l0 x25_2).f2) ((rd_T28 l0 x25_2).f3) ((rd_T28 l0 x25_2).f4) t299 _ A16.out).mono ?_); rintro e w21 ⟨rfl, hb⟩; refine ⟨_, rfl, ?_⟩; have n0_ := Aside0.mk (Kd.R_below (by (with_reducible repeat (first | apply Kd.R_alloc | apply Kd.R_drewN | apply Kd.R_drew)); exact (Kd.R_mono (Kd.R_far (p := ⟨gb298, 4, none⟩) (Kd.R_far (p := ⟨gb298, 3, none⟩) (Kd.R_far (p := ⟨gb298, 2, none⟩) (Kd.R_far (p := ⟨gb298, 1, none⟩) (Kd.R_far (p := ⟨gb298, 0, none⟩) (Kd.R_types HO_6.out BK298.out (by decide)) (fun _ hk => hk.2) (.string ((rd_T28 l0 x25_2).f0))) (fun _ hk => hk.2) (.bool ((rd_T28 l0 x25_2).f1))) (fun _ hk => hk.2) (.int .i64 ((rd_T28 l0 x25_2).f2))) (fun _ hk => hk.2) (.int .i64 ((rd_T28 l0 x25_2).f3))) (fun _ hk => hk.2) (.int .i64 ((rd_T28 l0 x25_2).f4))) (fun _ h_ => h_.1))) hb); have n1_ := Aside0.mk (blk_below (g := gb298) (o := .cells #[.string ((rd_T28 l0 x25_2).f0), .bool ((rd_T28 l0 x25_2).f1), .int .i64 ((rd_T28 l0 x25_2).f2), .int .i64 ((rd_T28 l0 x25_2).f3), .int .i64 ((rd_T28 l0 x25_2).f4)] 28 (0, 0)) (by (with_reducible repeat (first | refine blk_drewN ?_ _ | refine blk_drew ?_ | refine blk_alloc ?_ _)); refine blk_put (cs := #[.string ((rd_T28 l0 x25_2).f0), .bool ((rd_T28 l0 x25_2).f1), .int .i64 ((rd_T28 l0 x25_2).f2), .int .i64 ((rd_T28 l0 x25_2).f3), .int .i64 0]) ?_ 4 _ rfl; (with_reducible repeat (first | refine blk_drewN ?_ _ | refine blk_drew ?_ | refine blk_alloc ?_ _)); refine blk_put (cs := #[.string ((rd_T28 l0 x25_2).f0), .bool ((rd_T28 l0 x25_2).f1), .int .i64 ((rd_T28 l0 x25_2).f2), .int .i64 0, .int .i64 0]) ?_ 3 _ rfl; (with_reducible repeat (first | refine blk_drewN ?_ _ | refine blk_drew ?_ | refine blk_alloc ?_ _)); refine blk_put (cs := #[.string ((rd_T28 l0 x25_2).f0), .bool ((rd_T28 l0 x25_2).f1), .int .i64 0, .int .i64 0, .int .i64 0]) ?_ 2 _ rfl; (with_reducible repeat (first | refine blk_drewN ?_ _ | refine blk_drew ?_ | refine blk_alloc ?_ _)); refine blk_put (cs := #[.string ((rd_T28 l0 x25_2).f0), .bool false, .int .i64 0, .int .i64 0, .int .i64 0]) ?_ 1 _ rfl; (with_reducible repeat (first | refine blk_drewN ?_ _ | refine blk_drew ?_ | refine blk_alloc ?_ _)); refine blk_put (cs := #[.string (⟨#[]⟩ : ByteArray), .bool false, .int .i64 0, .int .i64 0, .int .i64 0]) ?_ 0 _ rfl; (with_reducible repeat (first | refine blk_drewN ?_ _ | refine blk_drew ?_ | refine blk_alloc ?_ _)); exact BK298.out) hb); have n2_ := Aside0.mk (below_step (by repeat (first | (with_reducible first | exact HB.out | apply below_alloc | apply pw_below_drewN | apply below_drew1 | refine below_set ?_ GE298.out) | exact HB.out)) hb); clear HO_6; clear BK298; clear HB; have HO_6 := n0_; have BK298 := n1_; have HB := n2_; clear n0_ n1_ n2_; (try clear hb); (try clear hb2); (try clear hk); (try clear hi)))
                      have n0_ := Aside0.mk (Kd.R_drew HO_6.out)
                      have n1_ := Aside0.mk (blk_drew BK298.out)
                      have n2_ := Aside0.mk (below_drew1 HB.out)
                      clear HO_6
                      clear BK298
                      clear HB
                      have HO_6 := n0_
                      have BK298 := n1_
                      have HB := n2_
                      clear n0_ n1_ n2_
                      refine start_ (n := 10) (S := fun w' => w'.cell? ⟨gb298, 0, none⟩ = some (.string ((rd_T28 l0 x25_2).f0)) ∧ w'.cell? ⟨gb298, 1, none⟩ = some (.bool ((rd_T28 l0 x25_2).f1)) ∧ w'.cell? ⟨gb298, 2, none⟩ = some (.int .i64 ((rd_T28 l0 x25_2).f2)) ∧ w'.cell? ⟨gb298, 3, none⟩ = some (.int .i64 ((rd_T28 l0 x25_2).f3)) ∧ w'.cell? ⟨gb298, 4, none⟩ = some (.int .i64 ((rd_T28 l0 x25_2).f4))) (ds := []) #[false, false, false, false, false, false, false, false, false, false] (by kernel_rfl) rfl rfl ⟨(blk_cell BK298.out 0).trans rfl, (blk_cell BK298.out 1).trans rfl, (blk_cell BK298.out 2).trans rfl, (blk_cell BK298.out 3).trans rfl, (blk_cell BK298.out 4).trans rfl⟩ (fun hHeld => ?_); refine with_tabW parryref1_Values.tab8 parryref1_Values.bits8 (fun HT_ HW_ => ?_)
                      generalize w21.drew = w22 at HO_6 BK298 HB hHeld ⊢
                      refine pure_ (i := 0) (N := some 31) (v := ?_) (a' := ?_) #[true, false, false, false, false, false, false, false, false, false] rfl rfl (any_of HT_.out (by kernel_rfl)) (fun _ _ _ h => h) (Or.inl ⟨by rfl, ?_⟩) ?_ ?_
                      rotate_left
                      · intro w'
                        go_simp
                        with_reducible rfl
                      rotate_left
                      · simp only [Act.put, List.setIfInBounds_toArray, List.set_cons_zero, List.set_cons_succ, i64_w, i32_w]
                        rfl
                      refine pure_ (i := 1) (N := some 32) (v := ?_) (a' := ?_) #[true, true, false, false, false, false, false, false, false, false] rfl rfl (any_of HT_.out (by kernel_rfl)) (fun _ _ _ h => h) (Or.inl ⟨by rfl, ?_⟩) ?_ ?_
                      rotate_left
                      · intro w'
                        go_simp
                        with_reducible rfl
                      rotate_left
                      · simp only [Act.put, List.setIfInBounds_toArray, List.set_cons_zero, List.set_cons_succ, i64_w, i32_w]
                        rfl
                      refine pure_ (i := 2) (N := some 33) (v := ?_) (a' := ?_) #[true, true, true, false, false, false, false, false, false, false] rfl rfl (any_of HT_.out (by kernel_rfl)) (fun _ _ _ h => h) (Or.inl ⟨by rfl, ?_⟩) ?_ ?_
                      rotate_left
                      · intro w'
                        go_simp
                        with_reducible rfl
                      rotate_left
                      · simp only [Act.put, List.setIfInBounds_toArray, List.set_cons_zero, List.set_cons_succ, i64_w, i32_w]
                        rfl
                      refine pure_ (i := 3) (N := some 34) (v := ?_) (a' := ?_) #[true, true, true, true, false, false, false, false, false, false] rfl rfl (any_of HT_.out (by kernel_rfl)) (fun _ _ _ h => h) (Or.inl ⟨by rfl, ?_⟩) ?_ ?_
                      rotate_left
                      · intro w'
                        go_simp
                        with_reducible rfl
                      rotate_left
                      · simp only [Act.put, List.setIfInBounds_toArray, List.set_cons_zero, List.set_cons_succ, i64_w, i32_w]
                        rfl
                      refine pure_ (i := 4) (N := some 35) (v := ?_) (a' := ?_) #[true, true, true, true, true, false, false, false, false, false] rfl rfl (any_of HT_.out (by kernel_rfl)) (fun _ _ _ h => h) (Or.inl ⟨by rfl, ?_⟩) ?_ ?_
                      rotate_left
                      · intro w'
                        go_simp
                        with_reducible rfl
                      rotate_left
                      · simp only [Act.put, List.setIfInBounds_toArray, List.set_cons_zero, List.set_cons_succ, i64_w, i32_w]
                        rfl
                      refine take_ (i := 5) (N := some 36) (v := ?_) (a' := ?_) #[true, true, true, true, true, true, false, false, false, false] rfl rfl (take_ofW HT_.out HW_.out (by kernel_rfl)) (fun _ _ _ h => h) (Or.inl ⟨by rfl, ?_⟩) hHeld ?_ ?_
                      rotate_left
                      · rintro w' ⟨s0, s1, s2, s3, s4⟩
                        go_simp
                        with_reducible rfl
                      rotate_left
                      · simp only [Act.put, List.setIfInBounds_toArray, List.set_cons_zero, List.set_cons_succ, i64_w, i32_w]
                        rfl
                      refine pure_ (i := 6) (N := some 37) (v := ?_) (a' := ?_) #[true, true, true, true, true, true, true, false, false, false] rfl rfl (any_of HT_.out (by kernel_rfl)) (fun _ _ _ h => h) (Or.inl ⟨by rfl, ?_⟩) ?_ ?_
                      rotate_left
                      · intro w'
                        go_simp
                        with_reducible rfl
                      rotate_left
                      · simp only [Act.put, List.setIfInBounds_toArray, List.set_cons_zero, List.set_cons_succ, i64_w, i32_w]
                        rfl
                      refine one_ (i := 7) (N := some 38) #[true, true, true, true, true, true, true, true, false, false] rfl rfl (one_of HT_.out (by kernel_rfl)) (by decide) (fun K hK => ?_)
                      refine value_ (w1 := ?_) (v := ?_) (by rfl) rfl ?_ ?_
                      rotate_left 2
                      · go_simp
                        constructor
                        · rfl
                        · rfl
                      refine hK.out _ _ ⟨(blk_cell (blk_alloc BK298.out _) 0).trans rfl, (blk_cell (blk_alloc BK298.out _) 1).trans rfl, (blk_cell (blk_alloc BK298.out _) 2).trans rfl, (blk_cell (blk_alloc BK298.out _) 3).trans rfl, (blk_cell (blk_alloc BK298.out _) 4).trans rfl⟩ (fun hHeld => ?_)
                      clear hK K
                      refine norm_ (a' := ?_) ?_ ?_
                      rotate_left
                      · show Act.put _ (some 38) _ = _
                        simp only [Act.put, List.setIfInBounds_toArray, List.set_cons_zero, List.set_cons_succ, i64_w, i32_w]
                        rfl
                      refine one_ (i := 8) (N := some 39) #[true, true, true, true, true, true, true, true, true, false] rfl rfl (one_of HT_.out (by kernel_rfl)) (by decide) (fun K hK => ?_)
                      refine Kd.R_append_step (Kd.int .i64) (w0 := w) w.heap.size (by rfl) (.tmp 31) (.tmp 38) 30 3 (.int .i64 0) 8 rfl Try.underlying30 info3 rfl (by decide) (by omega) u6 x6_2 (wrap64 ((Int.tmod x1_2 t299) + ((rd_T28 l0 x25_2).f3))) [.int .i64 (wrap64 ((Int.tmod x1_2 t299) + ((rd_T28 l0 x25_2).f3)))] (fun _ => True) (fun _ => False) rfl rfl ?aP (fun _ hk => hk.elim) ?aF ?aO ?aB ?aS ?aL ?_
                      (case aP => exact rfl)
                      (case aB => exact (by repeat (first | (with_reducible first | exact HB.out | apply below_alloc | apply pw_below_drewN | apply below_drew1 | refine below_set ?_ GE298.out) | exact HB.out)))
                      (case aF => exact (fun _ _ => trivial))
                      (case aO => exact (by (with_reducible repeat (first | apply Kd.R_alloc | apply Kd.R_drewN | apply Kd.R_drew)); exact HO_6.out))
                      (case aS => exact (below_size (by repeat (first | (with_reducible first | exact HB.out | apply below_alloc | apply pw_below_drewN | apply below_drew1 | refine below_set ?_ GE298.out) | exact HB.out))))
                      (case aL => have := LMc18.out; omega)
                      intro v301 w23 ho hb hg hat
                      rw [← Ny300.out] at ho
                      have n0_ := Aside0.mk (blk_grown (g := gb298) (o := .cells #[.string ((rd_T28 l0 x25_2).f0), .bool ((rd_T28 l0 x25_2).f1), .int .i64 ((rd_T28 l0 x25_2).f2), .int .i64 ((rd_T28 l0 x25_2).f3), .int .i64 ((rd_T28 l0 x25_2).f4)] 28 (0, 0)) (by (with_reducible repeat (first | refine blk_drewN ?_ _ | refine blk_drew ?_ | refine blk_alloc ?_ _)); exact BK298.out) hg (Kd.R_ne HO_6.out BK298.out (by decide)))
                      have n1_ := Aside0.mk (hb)
                      have n2_ := Aside0.mk (ho)
                      clear BK298
                      clear HB
                      clear HO_6
                      have BK298 := n0_
                      have HB := n1_
                      have HO302 := n2_
                      clear n0_ n1_ n2_
                      clear ho hb hg hat
                      refine hK.out _ _ ⟨(blk_cell BK298.out 0).trans rfl, (blk_cell BK298.out 1).trans rfl, (blk_cell BK298.out 2).trans rfl, (blk_cell BK298.out 3).trans rfl, (blk_cell BK298.out 4).trans rfl⟩ (fun hHeld => ?_)
                      clear hK K
                      refine norm_ (a' := ?_) ?_ ?_
                      rotate_left
                      · show Act.put _ (some 39) _ = _
                        simp only [Act.put, List.setIfInBounds_toArray, List.set_cons_zero, List.set_cons_succ, i64_w, i32_w]
                        rfl
                      refine pure_ (i := 9) (N := some 6) (v := ?_) (a' := ?_) #[true, true, true, true, true, true, true, true, true, true] rfl rfl (any_of HT_.out (by kernel_rfl)) (fun _ _ _ h => h) (Or.inl ⟨by rfl, ?_⟩) ?_ ?_
                      rotate_left
                      · intro w'
                        go_simp
                        with_reducible rfl
                      rotate_left
                      · simp only [Act.put, List.setIfInBounds_toArray, List.set_cons_zero, List.set_cons_succ, i64_w, i32_w]
                        rfl
                      refine done_ (done_of HT_.out (by kernel_rfl)) ?_
                      try go_wp2
                      go_roundg k2
                      case measure => have := HJ2.out; have := HK2.out; omega
                      case rel => exact ⟨(wrap64 (Int.tdiv x1_2 t299)), (y300), (wrap64 (x25_2 + 1)), (by first | rfl | (simp; done) | (simp [*]; done)), (by first | rfl | (simp; done) | (simp [*]; done)), H', ⟨by have := HJ2.out; have := HK2.out; omega⟩, ⟨by (with_reducible repeat (first | apply Kd.R_alloc | apply Kd.R_drewN | apply Kd.R_drew)); exact HO302.out⟩, ⟨by repeat (first | (with_reducible first | exact HB.out | apply below_alloc | apply pw_below_drewN | apply below_drew1 | refine below_set ?_ GE298.out) | exact HB.out)⟩⟩
                    · rw [if_neg c18] at H
                      exact absurd H (by simp)
                · rw [if_neg c15] at H
                  exact absurd H (by simp)
              · rw [if_neg c14] at H
                exact absurd H (by simp)
            · rw [if_neg c13] at H
              have c13b0 : decide (x25_2 < (l0.length : Int)) = false := decide_eq_false c13
              clear c13
              simp only [Option.some.injEq, Prod.mk.injEq] at H
              obtain ⟨rfl, rfl⟩ := H
              go_wp2
              go_ret2
              exact ⟨_, by first | rfl | (simp [errW_none, errW_some] <;> rfl) | (simp [*, errW_none, errW_some] <;> rfl), by (with_reducible repeat (first | apply Kd.R_alloc | apply Kd.R_drewN | apply Kd.R_drew)); exact HO_6.out, by repeat (first | (with_reducible first | exact HB.out | apply below_alloc | apply pw_below_drewN | apply below_drew1) | exact HB.out)⟩

end Go.Proofs.Ytofmfnbiondplaa.P

namespace Go.Proofs.Ytofmfnbiondplaa.P
open Go.RowKit Go.Proofs.YtofmfnbiondplaaW.PrintWords Go.Proofs.YtofmfnbiondplaaW.PrintLast Go.Proofs.YtofmfnbiondplaaW.PrintMore
attribute [local go_sem] max2_int min2_int max_two min_two max_three min_three max_four min_four   -- for this text's walks alone
set_option linter.unusedVariables false
set_option linter.unusedSimpArgs false

open Go.Proofs.Ytofmfnbiondplaa.X
mutual
def parryref1_State.j0 : Nat → List (S28) → List Int → Bool → Option (Int × Bool)
  | 0, _, _, _ => none
  | k + 1, x0, x1, x20 => if x20 = true then (some (0, false)) else (parryref1_State.l0 k x1 0 1 x0 (x0.length : Int) 0)
def parryref1_State.l0 : Nat → List Int → Int → Int → List (S28) → Int → Int → Option (Int × Bool)
  | 0, _, _, _, _, _, _ => none
  | k + 1, x1, x6, x7, x21, x22, x23 => if x23 < x22 then (if 0 ≤ x23 then (if x23 < (x21.length : Int) then (if x23 < (x1.length : Int) then (if (rd x1 x23) < ((rd_T28 x21 x23).f3) then (some (0, false)) else ((parryref1_Size.f ((rd_T28 x21 x23).f0) ((rd_T28 x21 x23).f1) ((rd_T28 x21 x23).f2) ((rd_T28 x21 x23).f3) ((rd_T28 x21 x23).f4)).bind fun t307 => (if (rd x1 x23) ≥ (wrap64 (((rd_T28 x21 x23).f3) + t307)) then (some (0, false)) else ((parryref1_Size.f ((rd_T28 x21 x23).f0) ((rd_T28 x21 x23).f1) ((rd_T28 x21 x23).f2) ((rd_T28 x21 x23).f3) ((rd_T28 x21 x23).f4)).bind fun t308 => (parryref1_State.l0 k x1 (wrap64 (x6 + (wrap64 ((wrap64 ((rd x1 x23) - ((rd_T28 x21 x23).f3))) * x7)))) (wrap64 (x7 * t308)) x21 x22 (wrap64 (x23 + 1))))))) else (none)) else (none)) else (none)) else (some (x6, true))
end
def parryref1_State.f (k : Nat) (l0 : List (S28)) (l1 : List Int) : Option (Int × Bool) := (parryref1_MayVars.f k l0).bind fun t303 => (if t303 = 0 then (parryref1_State.j0 k l0 l1 ((l1.length : Int) != (l0.length : Int))) else (parryref1_State.j0 k l0 l1 true))
theorem parryref1_State.mono_l : ∀ k, (∀ y0 y1 y2, LeO (parryref1_State.j0 k y0 y1 y2) (parryref1_State.j0 (k + 1) y0 y1 y2)) ∧ (∀ y0 y1 y2 y3 y4 y5, LeO (parryref1_State.l0 k y0 y1 y2 y3 y4 y5) (parryref1_State.l0 (k + 1) y0 y1 y2 y3 y4 y5))
  | 0 => ⟨fun _ _ _ r h => by simp [parryref1_State.j0] at h, fun _ _ _ _ _ _ r h => by simp [parryref1_State.l0] at h⟩
  | k + 1 => by
    obtain ⟨ih0, ih1⟩ := parryref1_State.mono_l k
    refine ⟨?_, ?_⟩
    · intro y0 y1 y2
      unfold parryref1_State.j0
      repeat' first
      | (with_reducible exact ih0 _ _ _)
      | (with_reducible exact ih1 _ _ _ _ _ _)
      | (with_reducible exact parryref1_MayVars.mono _ _)
      | (with_reducible exact LeO.refl _)
      | (with_reducible exact LeO.none _)
      | (with_reducible refine LeO.ite ?_ ?_)
      | (with_reducible refine LeO.bind ?_ (fun _ => ?_))
      | exact ih0 _ _ _
      | exact ih1 _ _ _ _ _ _
      | exact parryref1_MayVars.mono _ _
      | exact LeO.none _
      | refine LeO.ite ?_ ?_
      | refine LeO.bind ?_ (fun _ => ?_)
    · intro y0 y1 y2 y3 y4 y5
      unfold parryref1_State.l0
      repeat' first
      | (with_reducible exact ih0 _ _ _)
      | (with_reducible exact ih1 _ _ _ _ _ _)
      | (with_reducible exact parryref1_MayVars.mono _ _)
      | (with_reducible exact LeO.refl _)
      | (with_reducible exact LeO.none _)
      | (with_reducible refine LeO.ite ?_ ?_)
      | (with_reducible refine LeO.bind ?_ (fun _ => ?_))
      | exact ih0 _ _ _
      | exact ih1 _ _ _ _ _ _
      | exact parryref1_MayVars.mono _ _
      | exact LeO.none _
      | refine LeO.ite ?_ ?_
      | refine LeO.bind ?_ (fun _ => ?_)
theorem parryref1_State.mono : ∀ a0 a1 k, LeO (parryref1_State.f k a0 a1) (parryref1_State.f (k + 1) a0 a1) := by
  intro a0 a1 k
  obtain ⟨ih0, ih1⟩ := parryref1_State.mono_l k
  unfold parryref1_State.f
  repeat' first
      | (with_reducible exact ih0 _ _ _)
      | (with_reducible exact ih1 _ _ _ _ _ _)
      | (with_reducible exact parryref1_MayVars.mono _ _)
      | (with_reducible exact LeO.refl _)
      | (with_reducible exact LeO.none _)
      | (with_reducible refine LeO.ite ?_ ?_)
      | (with_reducible refine LeO.bind ?_ (fun _ => ?_))
      | exact ih0 _ _ _
      | exact ih1 _ _ _ _ _ _
      | exact parryref1_MayVars.mono _ _
      | exact LeO.none _
      | refine LeO.ite ?_ ?_
      | refine LeO.bind ?_ (fun _ => ?_)
def parryref1_State.T8 : Bool × List (List Nat × List Nat) := (true, [([], []), ([], []), ([1], [1]), ([0, 2], [0, 2]), ([3], [3]), ([4], [4]), ([4], [4]), ([6, 4], [4, 6]), ([4], [4]), ([8, 4, 4], [4, 8]), ([7, 9, 4], [4, 7, 9]), ([5, 10, 4], [4, 5, 10]), ([4, 11], [4, 11])])
def parryref1_State.B8 : List Nat := [0, 0, 2, 7, 15, 31, 31, 95, 31, 287, 991, 2047, 4095]
theorem parryref1_State.tab8 : rtab .any (opsOf Try.f21 8) = parryref1_State.T8 := by kernel_rfl
theorem parryref1_State.bits8 : waitsOk parryref1_State.T8.2 parryref1_State.B8 = true := by kernel_rfl
set_option maxHeartbeats 8000000 in
set_option maxRecDepth 100000 in
theorem parryref1_State.calls (k : Nat) (A0 : Option Addr) (c0 : Nat) (l0 : List (S28)) (A1 : Option Addr) (c1 : Nat) (l1 : List Int) (r1 : Int) (r2 : Bool) (w : World) (hr0 : Kd.C k28 w A0 l0.length l0) (hc0 : l0.length ≤ c0) (hr1 : Kd.C (Kd.int .i64) w A1 l1.length l1) (hc1 : l1.length ≤ c1) (h : parryref1_State.f k l0 l1 = some (r1, r2)) :
    Calls Try.prog 21 #[.slice A0 l0.length c0, .slice A1 l1.length c1] w fun e w' => e = .returned (.tuple #[.int .i64 r1, .bool r2]) ∧ Below w.heap.size w w' := by
  have hu28 := Try.underlying28
  have HR0 := Aside0.mk hr0
  have HC0 := Aside0.mk hc0
  clear hr0 hc0
  have HR1 := Aside0.mk hr1
  have HC1 := Aside0.mk hc1
  clear hr1 hc1
  have HB := Aside0.mk (Below.refl w.heap.size w)
  have H : ((parryref1_MayVars.f k l0).bind fun t303 => (if t303 = 0 then (parryref1_State.j0 k l0 l1 ((l1.length : Int) != (l0.length : Int))) else (parryref1_State.j0 k l0 l1 true))) = some (r1, r2) := h
  clear h
  have HC3 := Aside0.mk H
  clear H
  go_enter Try.func21, Try.ntmps21
  go_upto_region 1 with (fail)
  go_cut [20] (fun v20 wc => ∃ (kq : Nat) (x20_2 : Bool), v20 = .bool x20_2 ∧ Aside0 (parryref1_State.j0 kq l0 l1 x20_2 = some (r1, r2)) ∧ Aside0 (kq ≤ k) ∧ Aside0 (Below w.heap.size w wc))
  case first =>
    have H := HC3.out
    clear HC3
    replace H := Option.bind_eq_some_iff.mp H
    obtain ⟨t303, A40, H⟩ := H
    replace H : (if t303 = 0 then (parryref1_State.j0 k l0 l1 ((l1.length : Int) != (l0.length : Int))) else (parryref1_State.j0 k l0 l1 true)) = some (r1, r2) := H
    have A4 := Aside0.mk A40
    clear A40
    by_cases c5 : t303 = 0
    · rw [if_pos c5] at H
      have c5b0 : (t303 == 0) = true := beq_iff_eq.mpr c5
      have c5b1 : (t303 != 0) = false := bne_eq_false_iff_eq.mpr c5
      clear c5
      (first | rw [c5b0] | (simp only [i64_w, i32_w]; rw [c5b0]) | skip)
      have H' := Aside0.mk H
      clear H
      go_wp2_with (first | ((with_reducible refine gate_callee (f := 17) rfl ?_); refine goesL_ (some 12) rfl rfl Try.func17 (by kernel_rfl) rfl #[.slice A0 l0.length c0] rfl (by (try simp only [List.map_toArray, List.map_cons, List.map_nil]); first | done | rfl | (simp only [List.length_drop, List.length_take]; rfl)) ?_; (with_reducible refine (parryref1_MayVars.calls k _ _ l0 t303 _ ?side1 ?side2 A4.out).mono ?_); (case side1 => repeat (first | exact (Kd.C_below HR0.out HB.out) | (with_reducible refine Kd.C_alloc ?_ _) | (with_reducible refine Kd.C_drewN ?_ _) | (with_reducible refine Kd.C_drew ?_))); (case side2 => exact HC0.out); rintro e w6 ⟨rfl, hb⟩; refine ⟨_, rfl, ?_⟩; have n0_ := Aside0.mk (below_step (by repeat (first | (with_reducible first | exact HB.out | apply below_alloc | apply pw_below_drewN | apply below_drew1) | exact HB.out)) hb); clear HB; have HB := n0_; clear n0_; (try clear hb); (try clear hb2); (try clear hk); (try clear hi)))
      go_meet
      case rel => exact ⟨_, (((l1.length : Int) != (l0.length : Int))), (by first | rfl | (simp; done) | (simp [*]; done)), H', ⟨by first | omega | exact Nat.le_refl _⟩, ⟨by repeat (first | (with_reducible first | exact HB.out | apply below_alloc | apply pw_below_drewN | apply below_drew1) | exact HB.out)⟩⟩
    · rw [if_neg c5] at H
      have c5b0 : (t303 == 0) = false := beq_eq_false_iff_ne.mpr c5
      have c5b1 : (t303 != 0) = true := bne_iff_ne.mpr c5
      (first | rw [c5b0] | (simp only [i64_w, i32_w]; rw [c5b0]) | skip)
      have H' := Aside0.mk H
      clear H
      go_wp2_with (first | ((with_reducible refine gate_callee (f := 17) rfl ?_); refine goesL_ (some 12) rfl rfl Try.func17 (by kernel_rfl) rfl #[.slice A0 l0.length c0] rfl (by (try simp only [List.map_toArray, List.map_cons, List.map_nil]); first | done | rfl | (simp only [List.length_drop, List.length_take]; rfl)) ?_; (with_reducible refine (parryref1_MayVars.calls k _ _ l0 t303 _ ?side1 ?side2 A4.out).mono ?_); (case side1 => repeat (first | exact (Kd.C_below HR0.out HB.out) | (with_reducible refine Kd.C_alloc ?_ _) | (with_reducible refine Kd.C_drewN ?_ _) | (with_reducible refine Kd.C_drew ?_))); (case side2 => exact HC0.out); rintro e w7 ⟨rfl, hb⟩; refine ⟨_, rfl, ?_⟩; have n0_ := Aside0.mk (below_step (by repeat (first | (with_reducible first | exact HB.out | apply below_alloc | apply pw_below_drewN | apply below_drew1) | exact HB.out)) hb); clear HB; have HB := n0_; clear n0_; (try clear hb); (try clear hb2); (try clear hk); (try clear hi)))
      go_meet
      case rel => exact ⟨_, (true), (by first | rfl | (simp; done) | (simp [*]; done)), H', ⟨by first | omega | exact Nat.le_refl _⟩, ⟨by repeat (first | (with_reducible first | exact HB.out | apply below_alloc | apply pw_below_drewN | apply below_drew1) | exact HB.out)⟩⟩
  case rest =>
    clear HC3
    try clear c1
    try clear c2
    try clear p2
    try clear c5
    try clear c5b0
    try clear c5b1
    obtain ⟨kq, x20_2, rfl, HA, HJ2, HB⟩ := hcut
    cases kq with
    | zero => exact absurd HA.out (by simp [parryref1_State.j0])
    | succ kj2 =>
      have H := HA.out
      clear HA
      simp only [parryref1_State.j0] at H
      by_cases c8 : x20_2 = true
      · subst c8
        have H1 : (some (0, false)) = some (r1, r2) := by rw [if_pos rfl] at H; exact H
        clear H
        have H := H1
        clear H1
        simp only [Option.some.injEq, Prod.mk.injEq] at H
        obtain ⟨rfl, rfl⟩ := H
        go_wp2
        go_ret2
        exact ⟨by first | rfl | (simp [errW_none, errW_some] <;> rfl) | (simp [*, errW_none, errW_some] <;> rfl), by repeat (first | (with_reducible first | exact HB.out | apply below_alloc | apply pw_below_drewN | apply below_drew1) | exact HB.out)⟩
      · replace c8 := Bool.eq_false_iff.mpr c8
        subst c8
        have H1 : (parryref1_State.l0 kj2 l1 0 1 l0 (l0.length : Int) 0) = some (r1, r2) := by rw [if_neg (show ¬ (false = true) by decide)] at H; exact H
        clear H
        have H := H1
        clear H1
        have H' := Aside0.mk H
        clear H
        go_wp2
        go_loopg [6, 7, 23] kj2 (fun kq v6 v7 v23 w' => ∃ (x6_2 : Int) (x7_2 : Int) (x23_2 : Int), v6 = .int .i64 x6_2 ∧ v7 = .int .i64 x7_2 ∧ v23 = .int .i64 x23_2 ∧ Aside0 (parryref1_State.l0 kq l1 x6_2 x7_2 l0 (l0.length : Int) x23_2 = some (r1, r2)) ∧ Aside0 (kq ≤ kj2) ∧ Aside0 (Below w.heap.size w w'))
        case atStart => exact ⟨(0), (1), (0), (by first | rfl | (simp; done) | (simp [*]; done)), (by first | rfl | (simp; done) | (simp [*]; done)), (by first | rfl | (simp; done) | (simp [*]; done)), H', ⟨Nat.le_refl _⟩, ⟨by repeat (first | (with_reducible first | exact HB.out | apply below_alloc | apply pw_below_drewN | apply below_drew1) | exact HB.out)⟩⟩
        case round =>
          clear H'
          try clear c1
          try clear c2
          try clear p2
          try clear c5
          try clear c5b0
          try clear c5b1
          try clear c8
          try clear p2
          obtain ⟨x6_2, x7_2, x23_2, rfl, rfl, rfl, HA, HK2, HB⟩ := hrel
          cases gk with
          | zero => exact absurd HA.out (by simp [parryref1_State.l0])
          | succ k2 =>
            have H := HA.out
            clear HA
            simp only [parryref1_State.l0] at H
            by_cases c9 : x23_2 < (l0.length : Int)
            · rw [if_pos c9] at H
              have c9b0 : decide (x23_2 < (l0.length : Int)) = true := decide_eq_true c9
              clear c9
              by_cases c10 : 0 ≤ x23_2
              · rw [if_pos c10] at H
                have c10b0 : decide (0 ≤ x23_2) = true := decide_eq_true c10
                clear c10
                by_cases c11 : x23_2 < (l0.length : Int)
                · rw [if_pos c11] at H
                  have c11b0 : decide (x23_2 < (l0.length : Int)) = true := decide_eq_true c11
                  clear c11
                  by_cases c12 : x23_2 < (l1.length : Int)
                  · rw [if_pos c12] at H
                    have c12b0 : decide (x23_2 < (l1.length : Int)) = true := decide_eq_true c12
                    clear c12
                    by_cases c13 : (rd l1 x23_2) < ((rd_T28 l0 x23_2).f3)
                    · rw [if_pos c13] at H
                      have c13b0 : decide ((rd l1 x23_2) < ((rd_T28 l0 x23_2).f3)) = true := decide_eq_true c13
                      clear c13
                      simp only [Option.some.injEq, Prod.mk.injEq] at H
                      obtain ⟨rfl, rfl⟩ := H
                      have p304 : 0 ≤ (x23_2 : Int) := of_decide_eq_true (by first | (with_reducible assumption) | assumption)
                      have q304 : x23_2 < (l0.length : Int) := of_decide_eq_true (by first | (with_reducible assumption) | assumption)
                      obtain ⟨ad304, e304, hx304_0, hx304_1, hx304_2, hx304_3, hx304_4⟩ := at_T28 HR0.out x23_2 p304 q304
                      cases e304
                      replace hx304_0 := (HB.out.cell (World.block_lt_of_cell? w _ hx304_0)).trans hx304_0
                      replace hx304_1 := (HB.out.cell (World.block_lt_of_cell? w _ hx304_1)).trans hx304_1
                      replace hx304_2 := (HB.out.cell (World.block_lt_of_cell? w _ hx304_2)).trans hx304_2
                      replace hx304_3 := (HB.out.cell (World.block_lt_of_cell? w _ hx304_3)).trans hx304_3
                      replace hx304_4 := (HB.out.cell (World.block_lt_of_cell? w _ hx304_4)).trans hx304_4
                      replace p304 := eq_true p304
                      replace q304 := eq_true q304
                      try go_wp2_with (first | ((with_reducible refine gate_dst (N := 9) rfl ?_); (try (refine gate_guard (by rfl) ?_; dsimp only)); refine box_event ?hg (N := 9) ?hd (cs := #[.string (⟨#[]⟩ : ByteArray), .bool false, .int .i64 0, .int .i64 0, .int .i64 0]) (t := 28) ?hr ?_; (case hd => rfl); (case hg => rfl); (case hr => first | (go_simp; done) | (go_simp; rfl)); intro gb305 hg w14 hbox hb; have n0_ := Aside0.mk (below_step (by repeat (first | (with_reducible first | exact HB.out | apply below_alloc | apply pw_below_drewN | apply below_drew1) | exact HB.out)) hb); have n1_ := Aside0.mk (hbox); have n2_ := Aside0.mk ((by rw [hg]; exact (below_size (by repeat (first | (with_reducible first | exact HB.out | apply below_alloc | apply pw_below_drewN | apply below_drew1) | exact HB.out))) : w.heap.size ≤ gb305)); have n3_ := Aside0.mk ((by rw [hg]; exact (below_size (by repeat (first | (with_reducible first | exact HB.out | apply below_alloc | apply pw_below_drewN | apply below_drew1) | exact HB.out))) : w.heap.size ≤ gb305)); clear HB; have HB := n0_; have BK305 := n1_; have GW305 := n2_; have GE305 := n3_; clear n0_ n1_ n2_ n3_; clear hb hbox hg; have hcz15_0 : w14.cell? ⟨gb305, 0, none⟩ = some (.string (⟨#[]⟩ : ByteArray)) := (blk_cell BK305.out 0).trans rfl; have hcz15_1 : w14.cell? ⟨gb305, 1, none⟩ = some (.bool false) := (blk_cell BK305.out 1).trans rfl; have hcz15_2 : w14.cell? ⟨gb305, 2, none⟩ = some (.int .i64 0) := (blk_cell BK305.out 2).trans rfl; have hcz15_3 : w14.cell? ⟨gb305, 3, none⟩ = some (.int .i64 0) := (blk_cell BK305.out 3).trans rfl; have hcz15_4 : w14.cell? ⟨gb305, 4, none⟩ = some (.int .i64 0) := (blk_cell BK305.out 4).trans rfl; have hfz15_0 := blk_frozen BK305.out 0; have hfz15_1 := blk_frozen BK305.out 1; have hfz15_2 := blk_frozen BK305.out 2; have hfz15_3 := blk_frozen BK305.out 3; have hfz15_4 := blk_frozen BK305.out 4; have p306 : 0 ≤ (x23_2 : Int) := of_decide_eq_true (by first | (with_reducible assumption) | assumption); have q306 : x23_2 < (l1.length : Int) := of_decide_eq_true (by first | (with_reducible assumption) | assumption); obtain ⟨ad306, e306, hx306_0⟩ := Kd.at_int HR1.out x23_2 p306 q306; cases e306; have hn306_0 : ad306.block ≠ gb305 := Nat.ne_of_lt (Nat.lt_of_lt_of_le (by have := World.block_lt_of_cell? _ _ hx306_0; first | rwa [add_block] at this | exact this) GW305.out); have hn306_1 : ad306.block ≠ gb305 := Nat.ne_of_lt (Nat.lt_of_lt_of_le (by have := World.block_lt_of_cell? _ _ hx306_0; first | rwa [add_block] at this | exact this) GW305.out); have hn306_2 : ad306.block ≠ gb305 := Nat.ne_of_lt (Nat.lt_of_lt_of_le (by have := World.block_lt_of_cell? _ _ hx306_0; first | rwa [add_block] at this | exact this) GW305.out); have hn306_3 : ad306.block ≠ gb305 := Nat.ne_of_lt (Nat.lt_of_lt_of_le (by have := World.block_lt_of_cell? _ _ hx306_0; first | rwa [add_block] at this | exact this) GW305.out); have hn306_4 : ad306.block ≠ gb305 := Nat.ne_of_lt (Nat.lt_of_lt_of_le (by have := World.block_lt_of_cell? _ _ hx306_0; first | rwa [add_block] at this | exact this) GW305.out); replace hx306_0 := (HB.out.cell (World.block_lt_of_cell? w _ hx306_0)).trans hx306_0; replace hx306_0 := (cell_far (p := ⟨gb305, 0, none⟩) (by first | (rw [add_block]; exact hn306_0) | (show (Addr.add _ _).block ≠ _; rw [add_block]; exact hn306_0) | exact hn306_0) (.string ((rd_T28 l0 x23_2).f0))).trans hx306_0; replace hx306_0 := (cell_far (p := ⟨gb305, 1, none⟩) (by first | (rw [add_block]; exact hn306_1) | (show (Addr.add _ _).block ≠ _; rw [add_block]; exact hn306_1) | exact hn306_1) (.bool ((rd_T28 l0 x23_2).f1))).trans hx306_0; replace hx306_0 := (cell_far (p := ⟨gb305, 2, none⟩) (by first | (rw [add_block]; exact hn306_2) | (show (Addr.add _ _).block ≠ _; rw [add_block]; exact hn306_2) | exact hn306_2) (.int .i64 ((rd_T28 l0 x23_2).f2))).trans hx306_0; replace hx306_0 := (cell_far (p := ⟨gb305, 3, none⟩) (by first | (rw [add_block]; exact hn306_3) | (show (Addr.add _ _).block ≠ _; rw [add_block]; exact hn306_3) | exact hn306_3) (.int .i64 ((rd_T28 l0 x23_2).f3))).trans hx306_0; replace hx306_0 := (cell_far (p := ⟨gb305, 4, none⟩) (by first | (rw [add_block]; exact hn306_4) | (show (Addr.add _ _).block ≠ _; rw [add_block]; exact hn306_4) | exact hn306_4) (.int .i64 ((rd_T28 l0 x23_2).f4))).trans hx306_0; clear hn306_0; clear hn306_1; clear hn306_2; clear hn306_3; clear hn306_4; replace p306 := eq_true p306; replace q306 := eq_true q306))
                      have n0_ : Aside0 ((((((w14.setCell ⟨gb305, 0, none⟩ (.string ((rd_T28 l0 x23_2).f0))).setCell ⟨gb305, 1, none⟩ (.bool ((rd_T28 l0 x23_2).f1))).setCell ⟨gb305, 2, none⟩ (.int .i64 ((rd_T28 l0 x23_2).f2))).setCell ⟨gb305, 3, none⟩ (.int .i64 ((rd_T28 l0 x23_2).f3))).setCell ⟨gb305, 4, none⟩ (.int .i64 ((rd_T28 l0 x23_2).f4))).heap[gb305]? = some (.cells #[.string ((rd_T28 l0 x23_2).f0), .bool ((rd_T28 l0 x23_2).f1), .int .i64 ((rd_T28 l0 x23_2).f2), .int .i64 ((rd_T28 l0 x23_2).f3), .int .i64 ((rd_T28 l0 x23_2).f4)] 28 (0, 0))) := ⟨by (with_reducible repeat (first | refine blk_drewN ?_ _ | refine blk_drew ?_ | refine blk_alloc ?_ _)); refine blk_put (cs := #[.string ((rd_T28 l0 x23_2).f0), .bool ((rd_T28 l0 x23_2).f1), .int .i64 ((rd_T28 l0 x23_2).f2), .int .i64 ((rd_T28 l0 x23_2).f3), .int .i64 0]) ?_ 4 _ rfl; (with_reducible repeat (first | refine blk_drewN ?_ _ | refine blk_drew ?_ | refine blk_alloc ?_ _)); refine blk_put (cs := #[.string ((rd_T28 l0 x23_2).f0), .bool ((rd_T28 l0 x23_2).f1), .int .i64 ((rd_T28 l0 x23_2).f2), .int .i64 0, .int .i64 0]) ?_ 3 _ rfl; (with_reducible repeat (first | refine blk_drewN ?_ _ | refine blk_drew ?_ | refine blk_alloc ?_ _)); refine blk_put (cs := #[.string ((rd_T28 l0 x23_2).f0), .bool ((rd_T28 l0 x23_2).f1), .int .i64 0, .int .i64 0, .int .i64 0]) ?_ 2 _ rfl; (with_reducible repeat (first | refine blk_drewN ?_ _ | refine blk_drew ?_ | refine blk_alloc ?_ _)); refine blk_put (cs := #[.string ((rd_T28 l0 x23_2).f0), .bool false, .int .i64 0, .int .i64 0, .int .i64 0]) ?_ 1 _ rfl; (with_reducible repeat (first | refine blk_drewN ?_ _ | refine blk_drew ?_ | refine blk_alloc ?_ _)); refine blk_put (cs := #[.string (⟨#[]⟩ : ByteArray), .bool false, .int .i64 0, .int .i64 0, .int .i64 0]) ?_ 0 _ rfl; (with_reducible repeat (first | refine blk_drewN ?_ _ | refine blk_drew ?_ | refine blk_alloc ?_ _)); exact BK305.out⟩
                      have n1_ : Aside0 (Below w.heap.size w (((((w14.setCell ⟨gb305, 0, none⟩ (.string ((rd_T28 l0 x23_2).f0))).setCell ⟨gb305, 1, none⟩ (.bool ((rd_T28 l0 x23_2).f1))).setCell ⟨gb305, 2, none⟩ (.int .i64 ((rd_T28 l0 x23_2).f2))).setCell ⟨gb305, 3, none⟩ (.int .i64 ((rd_T28 l0 x23_2).f3))).setCell ⟨gb305, 4, none⟩ (.int .i64 ((rd_T28 l0 x23_2).f4)))) := ⟨by repeat (first | (with_reducible first | exact HB.out | apply below_alloc | apply pw_below_drewN | apply below_drew1 | refine below_set ?_ GE305.out) | exact HB.out)⟩
                      (try clear BK305)
                      (try clear HB)
                      generalize (((((w14.setCell ⟨gb305, 0, none⟩ (.string ((rd_T28 l0 x23_2).f0))).setCell ⟨gb305, 1, none⟩ (.bool ((rd_T28 l0 x23_2).f1))).setCell ⟨gb305, 2, none⟩ (.int .i64 ((rd_T28 l0 x23_2).f2))).setCell ⟨gb305, 3, none⟩ (.int .i64 ((rd_T28 l0 x23_2).f3))).setCell ⟨gb305, 4, none⟩ (.int .i64 ((rd_T28 l0 x23_2).f4))) = w16 at n0_ n1_ ⊢
                      have BK305 := n0_
                      have HB := n1_
                      clear n0_ n1_
                      have n0_ := Aside0.mk (blk_drew BK305.out)
                      have n1_ := Aside0.mk (below_drew1 HB.out)
                      clear BK305
                      clear HB
                      have BK305 := n0_
                      have HB := n1_
                      clear n0_ n1_
                      refine start_ (n := 13) (S := fun w' => w'.cell? ⟨gb305, 0, none⟩ = some (.string ((rd_T28 l0 x23_2).f0)) ∧ w'.cell? ⟨gb305, 1, none⟩ = some (.bool ((rd_T28 l0 x23_2).f1)) ∧ w'.cell? ⟨gb305, 2, none⟩ = some (.int .i64 ((rd_T28 l0 x23_2).f2)) ∧ w'.cell? ⟨gb305, 3, none⟩ = some (.int .i64 ((rd_T28 l0 x23_2).f3)) ∧ w'.cell? ⟨gb305, 4, none⟩ = some (.int .i64 ((rd_T28 l0 x23_2).f4))) (ds := []) #[false, false, false, false, false, false, false, false, false, false, false, false, false] (by kernel_rfl) rfl rfl ⟨(blk_cell BK305.out 0).trans rfl, (blk_cell BK305.out 1).trans rfl, (blk_cell BK305.out 2).trans rfl, (blk_cell BK305.out 3).trans rfl, (blk_cell BK305.out 4).trans rfl⟩ (fun hHeld => ?_); refine with_tabW parryref1_State.tab8 parryref1_State.bits8 (fun HT_ HW_ => ?_)
                      generalize w16.drew = w17 at BK305 HB hHeld ⊢
                      refine pure_ (i := 0) (N := some 32) (v := ?_) (a' := ?_) #[true, false, false, false, false, false, false, false, false, false, false, false, false] rfl rfl (any_of HT_.out (by kernel_rfl)) (fun _ _ _ h => h) (Or.inl ⟨by rfl, ?_⟩) ?_ ?_
                      rotate_left
                      · intro w'
                        go_simp
                        with_reducible rfl
                      rotate_left
                      · simp only [Act.put, List.setIfInBounds_toArray, List.set_cons_zero, List.set_cons_succ, i64_w, i32_w]
                        rfl
                      refine pure_ (i := 1) (N := some 33) (v := ?_) (a' := ?_) #[true, true, false, false, false, false, false, false, false, false, false, false, false] rfl rfl (any_of HT_.out (by kernel_rfl)) (fun _ _ _ h => h) (Or.inl ⟨by rfl, ?_⟩) ?_ ?_
                      rotate_left
                      · intro w'
                        go_simp
                        with_reducible rfl
                      rotate_left
                      · simp only [Act.put, List.setIfInBounds_toArray, List.set_cons_zero, List.set_cons_succ, i64_w, i32_w]
                        rfl
                      refine take_ (i := 2) (N := some 34) (v := ?_) (a' := ?_) #[true, true, true, false, false, false, false, false, false, false, false, false, false] rfl rfl (take_ofW HT_.out HW_.out (by kernel_rfl)) (fun _ _ _ h => h) (Or.inl ⟨by rfl, ?_⟩) hHeld ?_ ?_
                      rotate_left
                      · rintro w' ⟨s0, s1, s2, s3, s4⟩
                        go_simp
                        with_reducible rfl
                      rotate_left
                      · simp only [Act.put, List.setIfInBounds_toArray, List.set_cons_zero, List.set_cons_succ, i64_w, i32_w]
                        rfl
                      refine pure_ (i := 3) (N := some 35) (v := ?_) (a' := ?_) #[true, true, true, true, false, false, false, false, false, false, false, false, false] rfl rfl (any_of HT_.out (by kernel_rfl)) (fun _ _ _ h => h) (Or.inl ⟨by rfl, ?_⟩) ?_ ?_
                      rotate_left
                      · intro w'
                        go_simp
                        with_reducible rfl
                      rotate_left
                      · simp only [Act.put, List.setIfInBounds_toArray, List.set_cons_zero, List.set_cons_succ, i64_w, i32_w]
                        rfl
                      refine pure_ (i := 4) (N := some 36) (v := ?_) (a' := ?_) #[true, true, true, true, true, false, false, false, false, false, false, false, false] rfl rfl (any_of HT_.out (by kernel_rfl)) (fun _ _ _ h => h) (Or.inl ⟨by rfl, ?_⟩) ?_ ?_
                      rotate_left
                      · intro w'
                        go_simp
                        with_reducible rfl
                      rotate_left
                      · simp only [Act.put, List.setIfInBounds_toArray, List.set_cons_zero, List.set_cons_succ, i64_w, i32_w]
                        rfl
                      refine pure_ (i := 5) (N := some 37) (v := undef) (a' := ?_) #[true, true, true, true, true, true, false, false, false, false, false, false, false] rfl rfl (any_of HT_.out (by kernel_rfl)) (fun _ _ _ h => h) (Or.inr ⟨by rfl, rfl⟩) ?_ ?_
                      rotate_left
                      · simp only [Act.put, List.setIfInBounds_toArray, List.set_cons_zero, List.set_cons_succ, i64_w, i32_w]
                        rfl
                      refine pure_ (i := 6) (N := some 38) (v := undef) (a' := ?_) #[true, true, true, true, true, true, true, false, false, false, false, false, false] rfl rfl (any_of HT_.out (by kernel_rfl)) (fun _ _ _ h => h) (Or.inr ⟨by rfl, rfl⟩) ?_ ?_
                      rotate_left
                      · simp only [Act.put, List.setIfInBounds_toArray, List.set_cons_zero, List.set_cons_succ, i64_w, i32_w]
                        rfl
                      refine pure_ (i := 7) (N := some 39) (v := undef) (a' := ?_) #[true, true, true, true, true, true, true, true, false, false, false, false, false] rfl rfl (any_of HT_.out (by kernel_rfl)) (fun _ _ _ h => h) (Or.inr ⟨by rfl, rfl⟩) ?_ ?_
                      rotate_left
                      · simp only [Act.put, List.setIfInBounds_toArray, List.set_cons_zero, List.set_cons_succ, i64_w, i32_w]
                        rfl
                      refine pure_ (i := 8) (N := some 40) (v := undef) (a' := ?_) #[true, true, true, true, true, true, true, true, true, false, false, false, false] rfl rfl (any_of HT_.out (by kernel_rfl)) (fun _ _ _ h => h) (Or.inr ⟨by rfl, rfl⟩) ?_ ?_
                      rotate_left
                      · simp only [Act.put, List.setIfInBounds_toArray, List.set_cons_zero, List.set_cons_succ, i64_w, i32_w]
                        rfl
                      refine pure_ (i := 9) (N := some 41) (v := undef) (a' := ?_) #[true, true, true, true, true, true, true, true, true, true, false, false, false] rfl rfl (any_of HT_.out (by kernel_rfl)) (fun _ _ _ h => h) (Or.inr ⟨by rfl, rfl⟩) ?_ ?_
                      rotate_left
                      · simp only [Act.put, List.setIfInBounds_toArray, List.set_cons_zero, List.set_cons_succ, i64_w, i32_w]
                        rfl
                      refine pure_ (i := 10) (N := some 42) (v := undef) (a' := ?_) #[true, true, true, true, true, true, true, true, true, true, true, false, false] rfl rfl (any_of HT_.out (by kernel_rfl)) (fun _ _ _ h => h) (Or.inr ⟨by rfl, rfl⟩) ?_ ?_
                      rotate_left
                      · simp only [Act.put, List.setIfInBounds_toArray, List.set_cons_zero, List.set_cons_succ, i64_w, i32_w]
                        rfl
                      refine pure_ (i := 11) (N := some 43) (v := undef) (a' := ?_) #[true, true, true, true, true, true, true, true, true, true, true, true, false] rfl rfl (any_of HT_.out (by kernel_rfl)) (fun _ _ _ h => h) (Or.inr ⟨by rfl, rfl⟩) ?_ ?_
                      rotate_left
                      · simp only [Act.put, List.setIfInBounds_toArray, List.set_cons_zero, List.set_cons_succ, i64_w, i32_w]
                        rfl
                      refine pure_ (i := 12) (N := some 44) (v := ?_) (a' := ?_) #[true, true, true, true, true, true, true, true, true, true, true, true, true] rfl rfl (any_of HT_.out (by kernel_rfl)) (fun _ _ _ h => h) (Or.inl ⟨by rfl, ?_⟩) ?_ ?_
                      rotate_left
                      · intro w'
                        go_simp
                        with_reducible rfl
                      rotate_left
                      · simp only [Act.put, List.setIfInBounds_toArray, List.set_cons_zero, List.set_cons_succ, i64_w, i32_w]
                        rfl
                      refine done_ (done_of HT_.out (by kernel_rfl)) ?_
                      try go_wp2
                      go_ret2
                      exact ⟨by first | rfl | (simp [errW_none, errW_some] <;> rfl) | (simp [*, errW_none, errW_some] <;> rfl), by repeat (first | (with_reducible first | exact HB.out | apply below_alloc | apply pw_below_drewN | apply below_drew1 | refine below_set ?_ GE305.out) | exact HB.out)⟩
                    · rw [if_neg c13] at H
                      have c13b0 : decide ((rd l1 x23_2) < ((rd_T28 l0 x23_2).f3)) = false := decide_eq_false c13
                      clear c13
                      replace H := Option.bind_eq_some_iff.mp H
                      obtain ⟨t307, A180, H⟩ := H
                      replace H : (if (rd l1 x23_2) ≥ (wrap64 (((rd_T28 l0 x23_2).f3) + t307)) then (some (0, false)) else ((parryref1_Size.f ((rd_T28 l0 x23_2).f0) ((rd_T28 l0 x23_2).f1) ((rd_T28 l0 x23_2).f2) ((rd_T28 l0 x23_2).f3) ((rd_T28 l0 x23_2).f4)).bind fun t308 => (parryref1_State.l0 k2 l1 (wrap64 (x6_2 + (wrap64 ((wrap64 ((rd l1 x23_2) - ((rd_T28 l0 x23_2).f3))) * x7_2)))) (wrap64 (x7_2 * t308)) l0 (l0.length : Int) (wrap64 (x23_2 + 1))))) = some (r1, r2) := H
                      have A18 := Aside0.mk A180
                      clear A180
                      by_cases c19 : (rd l1 x23_2) ≥ (wrap64 (((rd_T28 l0 x23_2).f3) + t307))
                      · rw [if_pos c19] at H
                        have c19b0 : decide ((wrap64 (((rd_T28 l0 x23_2).f3) + t307)) ≤ (rd l1 x23_2)) = true := decide_eq_true c19
                        clear c19
                        simp only [Option.some.injEq, Prod.mk.injEq] at H
                        obtain ⟨rfl, rfl⟩ := H
                        have p304 : 0 ≤ (x23_2 : Int) := of_decide_eq_true (by first | (with_reducible assumption) | assumption)
                        have q304 : x23_2 < (l0.length : Int) := of_decide_eq_true (by first | (with_reducible assumption) | assumption)
                        obtain ⟨ad304, e304, hx304_0, hx304_1, hx304_2, hx304_3, hx304_4⟩ := at_T28 HR0.out x23_2 p304 q304
                        cases e304
                        replace hx304_0 := (HB.out.cell (World.block_lt_of_cell? w _ hx304_0)).trans hx304_0
                        replace hx304_1 := (HB.out.cell (World.block_lt_of_cell? w _ hx304_1)).trans hx304_1
                        replace hx304_2 := (HB.out.cell (World.block_lt_of_cell? w _ hx304_2)).trans hx304_2
                        replace hx304_3 := (HB.out.cell (World.block_lt_of_cell? w _ hx304_3)).trans hx304_3
                        replace hx304_4 := (HB.out.cell (World.block_lt_of_cell? w _ hx304_4)).trans hx304_4
                        replace p304 := eq_true p304
                        replace q304 := eq_true q304
                        try go_wp2_with (first | ((with_reducible refine gate_dst (N := 9) rfl ?_); (try (refine gate_guard (by rfl) ?_; dsimp only)); refine box_event ?hg (N := 9) ?hd (cs := #[.string (⟨#[]⟩ : ByteArray), .bool false, .int .i64 0, .int .i64 0, .int .i64 0]) (t := 28) ?hr ?_; (case hd => rfl); (case hg => rfl); (case hr => first | (go_simp; done) | (go_simp; rfl)); intro gb305 hg w20 hbox hb; have n0_ := Aside0.mk (below_step (by repeat (first | (with_reducible first | exact HB.out | apply below_alloc | apply pw_below_drewN | apply below_drew1) | exact HB.out)) hb); have n1_ := Aside0.mk (hbox); have n2_ := Aside0.mk ((by rw [hg]; exact (below_size (by repeat (first | (with_reducible first | exact HB.out | apply below_alloc | apply pw_below_drewN | apply below_drew1) | exact HB.out))) : w.heap.size ≤ gb305)); have n3_ := Aside0.mk ((by rw [hg]; exact (below_size (by repeat (first | (with_reducible first | exact HB.out | apply below_alloc | apply pw_below_drewN | apply below_drew1) | exact HB.out))) : w.heap.size ≤ gb305)); clear HB; have HB := n0_; have BK305 := n1_; have GW305 := n2_; have GE305 := n3_; clear n0_ n1_ n2_ n3_; clear hb hbox hg; have hcz21_0 : w20.cell? ⟨gb305, 0, none⟩ = some (.string (⟨#[]⟩ : ByteArray)) := (blk_cell BK305.out 0).trans rfl; have hcz21_1 : w20.cell? ⟨gb305, 1, none⟩ = some (.bool false) := (blk_cell BK305.out 1).trans rfl; have hcz21_2 : w20.cell? ⟨gb305, 2, none⟩ = some (.int .i64 0) := (blk_cell BK305.out 2).trans rfl; have hcz21_3 : w20.cell? ⟨gb305, 3, none⟩ = some (.int .i64 0) := (blk_cell BK305.out 3).trans rfl; have hcz21_4 : w20.cell? ⟨gb305, 4, none⟩ = some (.int .i64 0) := (blk_cell BK305.out 4).trans rfl; have hfz21_0 := blk_frozen BK305.out 0; have hfz21_1 := blk_frozen BK305.out 1; have hfz21_2 := blk_frozen BK305.out 2; have hfz21_3 := blk_frozen BK305.out 3; have hfz21_4 := blk_frozen BK305.out 4; have p306 : 0 ≤ (x23_2 : Int) := of_decide_eq_true (by first | (with_reducible assumption) | assumption); have q306 : x23_2 < (l1.length : Int) := of_decide_eq_true (by first | (with_reducible assumption) | assumption); obtain ⟨ad306, e306, hx306_0⟩ := Kd.at_int HR1.out x23_2 p306 q306; cases e306; have hn306_0 : ad306.block ≠ gb305 := Nat.ne_of_lt (Nat.lt_of_lt_of_le (by have := World.block_lt_of_cell? _ _ hx306_0; first | rwa [add_block] at this | exact this) GW305.out); have hn306_1 : ad306.block ≠ gb305 := Nat.ne_of_lt (Nat.lt_of_lt_of_le (by have := World.block_lt_of_cell? _ _ hx306_0; first | rwa [add_block] at this | exact this) GW305.out); have hn306_2 : ad306.block ≠ gb305 := Nat.ne_of_lt (Nat.lt_of_lt_of_le (by have := World.block_lt_of_cell? _ _ hx306_0; first | rwa [add_block] at this | exact this) GW305.out); have hn306_3 : ad306.block ≠ gb305 := Nat.ne_of_lt (Nat.lt_of_lt_of_le (by have := World.block_lt_of_cell? _ _ hx306_0; first | rwa [add_block] at this | exact this) GW305.out); have hn306_4 : ad306.block ≠ gb305 := Nat.ne_of_lt (Nat.lt_of_lt_of_le (by have := World.block_lt_of_cell? _ _ hx306_0; first | rwa [add_block] at this | exact this) GW305.out); replace hx306_0 := (HB.out.cell (World.block_lt_of_cell? w _ hx306_0)).trans hx306_0; replace hx306_0 := (cell_far (p := ⟨gb305, 0, none⟩) (by first | (rw [add_block]; exact hn306_0) | (show (Addr.add _ _).block ≠ _; rw [add_block]; exact hn306_0) | exact hn306_0) (.string ((rd_T28 l0 x23_2).f0))).trans hx306_0; replace hx306_0 := (cell_far (p := ⟨gb305, 1, none⟩) (by first | (rw [add_block]; exact hn306_1) | (show (Addr.add _ _).block ≠ _; rw [add_block]; exact hn306_1) | exact hn306_1) (.bool ((rd_T28 l0 x23_2).f1))).trans hx306_0; replace hx306_0 := (cell_far (p := ⟨gb305, 2, none⟩) (by first | (rw [add_block]; exact hn306_2) | (show (Addr.add _ _).block ≠ _; rw [add_block]; exact hn306_2) | exact hn306_2) (.int .i64 ((rd_T28 l0 x23_2).f2))).trans hx306_0; replace hx306_0 := (cell_far (p := ⟨gb305, 3, none⟩) (by first | (rw [add_block]; exact hn306_3) | (show (Addr.add _ _).block ≠ _; rw [add_block]; exact hn306_3) | exact hn306_3) (.int .i64 ((rd_T28 l0 x23_2).f3))).trans hx306_0; replace hx306_0 := (cell_far (p := ⟨gb305, 4, none⟩) (by first | (rw [add_block]; exact hn306_4) | (show (Addr.add _ _).block ≠ _; rw [add_block]; exact hn306_4) | exact hn306_4) (.int .i64 ((rd_T28 l0 x23_2).f4))).trans hx306_0; clear hn306_0; clear hn306_1; clear hn306_2; clear hn306_3; clear hn306_4; replace p306 := eq_true p306; replace q306 := eq_true q306))
                        have n0_ : Aside0 ((((((w20.setCell ⟨gb305, 0, none⟩ (.string ((rd_T28 l0 x23_2).f0))).setCell ⟨gb305, 1, none⟩ (.bool ((rd_T28 l0 x23_2).f1))).setCell ⟨gb305, 2, none⟩ (.int .i64 ((rd_T28 l0 x23_2).f2))).setCell ⟨gb305, 3, none⟩ (.int .i64 ((rd_T28 l0 x23_2).f3))).setCell ⟨gb305, 4, none⟩ (.int .i64 ((rd_T28 l0 x23_2).f4))).heap[gb305]? = some (.cells #[.string ((rd_T28 l0 x23_2).f0), .bool ((rd_T28 l0 x23_2).f1), .int .i64 ((rd_T28 l0 x23_2).f2), .int .i64 ((rd_T28 l0 x23_2).f3), .int .i64 ((rd_T28 l0 x23_2).f4)] 28 (0, 0))) := ⟨by (with_reducible repeat (first | refine blk_drewN ?_ _ | refine blk_drew ?_ | refine blk_alloc ?_ _)); refine blk_put (cs := #[.string ((rd_T28 l0 x23_2).f0), .bool ((rd_T28 l0 x23_2).f1), .int .i64 ((rd_T28 l0 x23_2).f2), .int .i64 ((rd_T28 l0 x23_2).f3), .int .i64 0]) ?_ 4 _ rfl; (with_reducible repeat (first | refine blk_drewN ?_ _ | refine blk_drew ?_ | refine blk_alloc ?_ _)); refine blk_put (cs := #[.string ((rd_T28 l0 x23_2).f0), .bool ((rd_T28 l0 x23_2).f1), .int .i64 ((rd_T28 l0 x23_2).f2), .int .i64 0, .int .i64 0]) ?_ 3 _ rfl; (with_reducible repeat (first | refine blk_drewN ?_ _ | refine blk_drew ?_ | refine blk_alloc ?_ _)); refine blk_put (cs := #[.string ((rd_T28 l0 x23_2).f0), .bool ((rd_T28 l0 x23_2).f1), .int .i64 0, .int .i64 0, .int .i64 0]) ?_ 2 _ rfl; (with_reducible repeat (first | refine blk_drewN ?_ _ | refine blk_drew ?_ | refine blk_alloc ?_ _)); refine blk_put (cs := #[.string ((rd_T28 l0 x23_2).f0), .bool false, .int .i64 0, .int .i64 0, .int .i64 0]) ?_ 1 _ rfl; (with_reducible repeat (first | refine blk_drewN ?_ _ | refine blk_drew ?_ | refine blk_alloc ?_ _)); refine blk_put (cs := #[.string (⟨#[]⟩ : ByteArray), .bool false, .int .i64 0, .int .i64 0, .int .i64 0]) ?_ 0 _ rfl; (with_reducible repeat (first | refine blk_drewN ?_ _ | refine blk_drew ?_ | refine blk_alloc ?_ _)); exact BK305.out⟩
                        have n1_ : Aside0 (Below w.heap.size w (((((w20.setCell ⟨gb305, 0, none⟩ (.string ((rd_T28 l0 x23_2).f0))).setCell ⟨gb305, 1, none⟩ (.bool ((rd_T28 l0 x23_2).f1))).setCell ⟨gb305, 2, none⟩ (.int .i64 ((rd_T28 l0 x23_2).f2))).setCell ⟨gb305, 3, none⟩ (.int .i64 ((rd_T28 l0 x23_2).f3))).setCell ⟨gb305, 4, none⟩ (.int .i64 ((rd_T28 l0 x23_2).f4)))) := ⟨by repeat (first | (with_reducible first | exact HB.out | apply below_alloc | apply pw_below_drewN | apply below_drew1 | refine below_set ?_ GE305.out) | exact HB.out)⟩
                        (try clear BK305)
                        (try clear HB)
                        generalize (((((w20.setCell ⟨gb305, 0, none⟩ (.string ((rd_T28 l0 x23_2).f0))).setCell ⟨gb305, 1, none⟩ (.bool ((rd_T28 l0 x23_2).f1))).setCell ⟨gb305, 2, none⟩ (.int .i64 ((rd_T28 l0 x23_2).f2))).setCell ⟨gb305, 3, none⟩ (.int .i64 ((rd_T28 l0 x23_2).f3))).setCell ⟨gb305, 4, none⟩ (.int .i64 ((rd_T28 l0 x23_2).f4))) = w22 at n0_ n1_ ⊢
                        have BK305 := n0_
                        have HB := n1_
                        clear n0_ n1_
                        have n0_ := Aside0.mk (blk_drew BK305.out)
                        have n1_ := Aside0.mk (below_drew1 HB.out)
                        clear BK305
                        clear HB
                        have BK305 := n0_
                        have HB := n1_
                        clear n0_ n1_
                        refine start_ (n := 13) (S := fun w' => w'.cell? ⟨gb305, 0, none⟩ = some (.string ((rd_T28 l0 x23_2).f0)) ∧ w'.cell? ⟨gb305, 1, none⟩ = some (.bool ((rd_T28 l0 x23_2).f1)) ∧ w'.cell? ⟨gb305, 2, none⟩ = some (.int .i64 ((rd_T28 l0 x23_2).f2)) ∧ w'.cell? ⟨gb305, 3, none⟩ = some (.int .i64 ((rd_T28 l0 x23_2).f3)) ∧ w'.cell? ⟨gb305, 4, none⟩ = some (.int .i64 ((rd_T28 l0 x23_2).f4))) (ds := []) #[false, false, false, false, false, false, false, false, false, false, false, false, false] (by kernel_rfl) rfl rfl ⟨(blk_cell BK305.out 0).trans rfl, (blk_cell BK305.out 1).trans rfl, (blk_cell BK305.out 2).trans rfl, (blk_cell BK305.out 3).trans rfl, (blk_cell BK305.out 4).trans rfl⟩ (fun hHeld => ?_); refine with_tabW parryref1_State.tab8 parryref1_State.bits8 (fun HT_ HW_ => ?_)
                        generalize w22.drew = w23 at BK305 HB hHeld ⊢
                        refine pure_ (i := 0) (N := some 32) (v := ?_) (a' := ?_) #[true, false, false, false, false, false, false, false, false, false, false, false, false] rfl rfl (any_of HT_.out (by kernel_rfl)) (fun _ _ _ h => h) (Or.inl ⟨by rfl, ?_⟩) ?_ ?_
                        rotate_left
                        · intro w'
                          go_simp
                          with_reducible rfl
                        rotate_left
                        · simp only [Act.put, List.setIfInBounds_toArray, List.set_cons_zero, List.set_cons_succ, i64_w, i32_w]
                          rfl
                        refine pure_ (i := 1) (N := some 33) (v := ?_) (a' := ?_) #[true, true, false, false, false, false, false, false, false, false, false, false, false] rfl rfl (any_of HT_.out (by kernel_rfl)) (fun _ _ _ h => h) (Or.inl ⟨by rfl, ?_⟩) ?_ ?_
                        rotate_left
                        · intro w'
                          go_simp
                          with_reducible rfl
                        rotate_left
                        · simp only [Act.put, List.setIfInBounds_toArray, List.set_cons_zero, List.set_cons_succ, i64_w, i32_w]
                          rfl
                        refine take_ (i := 2) (N := some 34) (v := ?_) (a' := ?_) #[true, true, true, false, false, false, false, false, false, false, false, false, false] rfl rfl (take_ofW HT_.out HW_.out (by kernel_rfl)) (fun _ _ _ h => h) (Or.inl ⟨by rfl, ?_⟩) hHeld ?_ ?_
                        rotate_left
                        · rintro w' ⟨s0, s1, s2, s3, s4⟩
                          go_simp
                          with_reducible rfl
                        rotate_left
                        · simp only [Act.put, List.setIfInBounds_toArray, List.set_cons_zero, List.set_cons_succ, i64_w, i32_w]
                          rfl
                        refine pure_ (i := 3) (N := some 35) (v := ?_) (a' := ?_) #[true, true, true, true, false, false, false, false, false, false, false, false, false] rfl rfl (any_of HT_.out (by kernel_rfl)) (fun _ _ _ h => h) (Or.inl ⟨by rfl, ?_⟩) ?_ ?_
                        rotate_left
                        · intro w'
                          go_simp
                          with_reducible rfl
                        rotate_left
                        · simp only [Act.put, List.setIfInBounds_toArray, List.set_cons_zero, List.set_cons_succ, i64_w, i32_w]
                          rfl
                        refine pure_ (i := 4) (N := some 36) (v := ?_) (a' := ?_) #[true, true, true, true, true, false, false, false, false, false, false, false, false] rfl rfl (any_of HT_.out (by kernel_rfl)) (fun _ _ _ h => h) (Or.inl ⟨by rfl, ?_⟩) ?_ ?_
                        rotate_left
                        · intro w'
                          go_simp
                          with_reducible rfl
                        rotate_left
                        · simp only [Act.put, List.setIfInBounds_toArray, List.set_cons_zero, List.set_cons_succ, i64_w, i32_w]
                          rfl
                        refine pure_ (i := 5) (N := some 37) (v := ?_) (a' := ?_) #[true, true, true, true, true, true, false, false, false, false, false, false, false] rfl rfl (any_of HT_.out (by kernel_rfl)) (fun _ _ _ h => h) (Or.inl ⟨by rfl, ?_⟩) ?_ ?_
                        rotate_left
                        · intro w'
                          go_simp
                          with_reducible rfl
                        rotate_left
                        · simp only [Act.put, List.setIfInBounds_toArray, List.set_cons_zero, List.set_cons_succ, i64_w, i32_w]
                          rfl
                        refine pure_ (i := 6) (N := some 38) (v := ?_) (a' := ?_) #[true, true, true, true, true, true, true, false, false, false, false, false, false] rfl rfl (any_of HT_.out (by kernel_rfl)) (fun _ _ _ h => h) (Or.inl ⟨by rfl, ?_⟩) ?_ ?_
                        rotate_left
                        · intro w'
                          go_simp
                          with_reducible rfl
                        rotate_left
                        · simp only [Act.put, List.setIfInBounds_toArray, List.set_cons_zero, List.set_cons_succ, i64_w, i32_w]
                          rfl
                        refine take_ (i := 7) (N := some 39) (v := ?_) (a' := ?_) #[true, true, true, true, true, true, true, true, false, false, false, false, false] rfl rfl (take_ofW HT_.out HW_.out (by kernel_rfl)) (fun _ _ _ h => h) (Or.inl ⟨by rfl, ?_⟩) hHeld ?_ ?_
                        rotate_left
                        · rintro w' ⟨s0, s1, s2, s3, s4⟩
                          go_simp
                          with_reducible rfl
                        rotate_left
                        · simp only [Act.put, List.setIfInBounds_toArray, List.set_cons_zero, List.set_cons_succ, i64_w, i32_w]
                          rfl
                        refine take_ (i := 8) (N := some 40) (v := ?_) (a' := ?_) #[true, true, true, true, true, true, true, true, true, false, false, false, false] rfl rfl (take_ofW HT_.out HW_.out (by kernel_rfl)) (fun _ _ _ h => h) (Or.inl ⟨by rfl, ?_⟩) hHeld ?_ ?_
                        rotate_left
                        · rintro w' ⟨s0, s1, s2, s3, s4⟩
                          go_simp
                          with_reducible rfl
                        rotate_left
                        · simp only [Act.put, List.setIfInBounds_toArray, List.set_cons_zero, List.set_cons_succ, i64_w, i32_w]
                          rfl
                        refine one_ (i := 9) (N := some 41) #[true, true, true, true, true, true, true, true, true, true, false, false, false] rfl rfl (one_of HT_.out (by kernel_rfl)) (by decide) (fun K hK => ?_)
                        refine goes_ Try.func19 (by kernel_rfl) rfl #[.agg #[.string ((rd_T28 l0 x23_2).f0), .bool ((rd_T28 l0 x23_2).f1), .int .i64 ((rd_T28 l0 x23_2).f2), .int .i64 ((rd_T28 l0 x23_2).f3), .int .i64 ((rd_T28 l0 x23_2).f4)]] (by rfl) rfl rfl (by (try simp only [List.map_toArray, List.map_cons, List.map_nil]); first | done | rfl | (simp only [List.length_drop, List.length_take]; rfl)) ?_
                        with_reducible refine (parryref1_Size.calls ((rd_T28 l0 x23_2).f0) ((rd_T28 l0 x23_2).f1) ((rd_T28 l0 x23_2).f2) ((rd_T28 l0 x23_2).f3) ((rd_T28 l0 x23_2).f4) t307 _ A18.out).mono ?_
                        rintro e w24 ⟨rfl, hb⟩
                        refine ⟨_, rfl, ?_⟩
                        have n0_ := Aside0.mk (blk_below (g := gb305) (o := .cells #[.string ((rd_T28 l0 x23_2).f0), .bool ((rd_T28 l0 x23_2).f1), .int .i64 ((rd_T28 l0 x23_2).f2), .int .i64 ((rd_T28 l0 x23_2).f3), .int .i64 ((rd_T28 l0 x23_2).f4)] 28 (0, 0)) (by (with_reducible repeat (first | refine blk_drewN ?_ _ | refine blk_drew ?_ | refine blk_alloc ?_ _)); exact BK305.out) hb)
                        have n1_ := Aside0.mk (below_step (by repeat (first | (with_reducible first | exact HB.out | apply below_alloc | apply pw_below_drewN | apply below_drew1 | refine below_set ?_ GE305.out) | exact HB.out)) hb)
                        clear BK305
                        clear HB
                        have BK305 := n0_
                        have HB := n1_
                        clear n0_ n1_
                        (try clear hb)
                        (try clear hb2)
                        (try clear hk)
                        (try clear hi)
                        refine hK.out _ _ ⟨(blk_cell BK305.out 0).trans rfl, (blk_cell BK305.out 1).trans rfl, (blk_cell BK305.out 2).trans rfl, (blk_cell BK305.out 3).trans rfl, (blk_cell BK305.out 4).trans rfl⟩ (fun hHeld => ?_)
                        clear hK K
                        refine norm_ (a' := ?_) ?_ ?_
                        rotate_left
                        · show Act.put _ (some 41) _ = _
                          simp only [Act.put, List.setIfInBounds_toArray, List.set_cons_zero, List.set_cons_succ, i64_w, i32_w]
                          rfl
                        refine pure_ (i := 10) (N := some 42) (v := ?_) (a' := ?_) #[true, true, true, true, true, true, true, true, true, true, true, false, false] rfl rfl (any_of HT_.out (by kernel_rfl)) (fun _ _ _ h => h) (Or.inl ⟨by rfl, ?_⟩) ?_ ?_
                        rotate_left
                        · intro w'
                          go_simp
                          with_reducible rfl
                        rotate_left
                        · simp only [Act.put, List.setIfInBounds_toArray, List.set_cons_zero, List.set_cons_succ, i64_w, i32_w]
                          rfl
                        refine pure_ (i := 11) (N := some 43) (v := ?_) (a' := ?_) #[true, true, true, true, true, true, true, true, true, true, true, true, false] rfl rfl (any_of HT_.out (by kernel_rfl)) (fun _ _ _ h => h) (Or.inl ⟨by rfl, ?_⟩) ?_ ?_
                        rotate_left
                        · intro w'
                          go_simp
                          with_reducible rfl
                        rotate_left
                        · simp only [Act.put, List.setIfInBounds_toArray, List.set_cons_zero, List.set_cons_succ, i64_w, i32_w]
                          rfl
                        refine pure_ (i := 12) (N := some 44) (v := ?_) (a' := ?_) #[true, true, true, true, true, true, true, true, true, true, true, true, true] rfl rfl (any_of HT_.out (by kernel_rfl)) (fun _ _ _ h => h) (Or.inl ⟨by rfl, ?_⟩) ?_ ?_
                        rotate_left
                        · intro w'
                          go_simp
                          with_reducible rfl
                        rotate_left
                        · simp only [Act.put, List.setIfInBounds_toArray, List.set_cons_zero, List.set_cons_succ, i64_w, i32_w]
                          rfl
                        refine done_ (done_of HT_.out (by kernel_rfl)) ?_
                        try go_wp2
                        go_ret2
                        exact ⟨by first | rfl | (simp [errW_none, errW_some] <;> rfl) | (simp [*, errW_none, errW_some] <;> rfl), by repeat (first | (with_reducible first | exact HB.out | apply below_alloc | apply pw_below_drewN | apply below_drew1 | refine below_set ?_ GE305.out) | exact HB.out)⟩
                      · rw [if_neg c19] at H
                        have c19b0 : decide ((wrap64 (((rd_T28 l0 x23_2).f3) + t307)) ≤ (rd l1 x23_2)) = false := decide_eq_false c19
                        clear c19
                        replace H := Option.bind_eq_some_iff.mp H
                        obtain ⟨t308, A250, H⟩ := H
                        replace H : (parryref1_State.l0 k2 l1 (wrap64 (x6_2 + (wrap64 ((wrap64 ((rd l1 x23_2) - ((rd_T28 l0 x23_2).f3))) * x7_2)))) (wrap64 (x7_2 * t308)) l0 (l0.length : Int) (wrap64 (x23_2 + 1))) = some (r1, r2) := H
                        have A25 := Aside0.mk A250
                        clear A250
                        have H' := Aside0.mk H
                        clear H
                        have p304 : 0 ≤ (x23_2 : Int) := of_decide_eq_true (by first | (with_reducible assumption) | assumption)
                        have q304 : x23_2 < (l0.length : Int) := of_decide_eq_true (by first | (with_reducible assumption) | assumption)
                        obtain ⟨ad304, e304, hx304_0, hx304_1, hx304_2, hx304_3, hx304_4⟩ := at_T28 HR0.out x23_2 p304 q304
                        cases e304
                        replace hx304_0 := (HB.out.cell (World.block_lt_of_cell? w _ hx304_0)).trans hx304_0
                        replace hx304_1 := (HB.out.cell (World.block_lt_of_cell? w _ hx304_1)).trans hx304_1
                        replace hx304_2 := (HB.out.cell (World.block_lt_of_cell? w _ hx304_2)).trans hx304_2
                        replace hx304_3 := (HB.out.cell (World.block_lt_of_cell? w _ hx304_3)).trans hx304_3
                        replace hx304_4 := (HB.out.cell (World.block_lt_of_cell? w _ hx304_4)).trans hx304_4
                        replace p304 := eq_true p304
                        replace q304 := eq_true q304
                        try go_wp2_with (first | ((with_reducible refine gate_dst (N := 9) rfl ?_); (try (refine gate_guard (by rfl) ?_; dsimp only)); refine box_event ?hg (N := 9) ?hd (cs := #[.string (⟨#[]⟩ : ByteArray), .bool false, .int .i64 0, .int .i64 0, .int .i64 0]) (t := 28) ?hr ?_; (case hd => rfl); (case hg => rfl); (case hr => first | (go_simp; done) | (go_simp; rfl)); intro gb305 hg w26 hbox hb; have n0_ := Aside0.mk (below_step (by repeat (first | (with_reducible first | exact HB.out | apply below_alloc | apply pw_below_drewN | apply below_drew1) | exact HB.out)) hb); have n1_ := Aside0.mk (hbox); have n2_ := Aside0.mk ((by rw [hg]; exact (below_size (by repeat (first | (with_reducible first | exact HB.out | apply below_alloc | apply pw_below_drewN | apply below_drew1) | exact HB.out))) : w.heap.size ≤ gb305)); have n3_ := Aside0.mk ((by rw [hg]; exact (below_size (by repeat (first | (with_reducible first | exact HB.out | apply below_alloc | apply pw_below_drewN | apply below_drew1) | exact HB.out))) : w.heap.size ≤ gb305)); clear HB; have HB := n0_; have BK305 := n1_; have GW305 := n2_; have GE305 := n3_; clear n0_ n1_ n2_ n3_; clear hb hbox hg; have hcz27_0 : w26.cell? ⟨gb305, 0, none⟩ = some (.string (⟨#[]⟩ : ByteArray)) := (blk_cell BK305.out 0).trans rfl; have hcz27_1 : w26.cell? ⟨gb305, 1, none⟩ = some (.bool false) := (blk_cell BK305.out 1).trans rfl; have hcz27_2 : w26.cell? ⟨gb305, 2, none⟩ = some (.int .i64 0) := (blk_cell BK305.out 2).trans rfl; have hcz27_3 : w26.cell? ⟨gb305, 3, none⟩ = some (.int .i64 0) := (blk_cell BK305.out 3).trans rfl; have hcz27_4 : w26.cell? ⟨gb305, 4, none⟩ = some (.int .i64 0) := (blk_cell BK305.out 4).trans rfl; have hfz27_0 := blk_frozen BK305.out 0; have hfz27_1 := blk_frozen BK305.out 1; have hfz27_2 := blk_frozen BK305.out 2; have hfz27_3 := blk_frozen BK305.out 3; have hfz27_4 := blk_frozen BK305.out 4; have p306 : 0 ≤ (x23_2 : Int) := of_decide_eq_true (by first | (with_reducible assumption) | assumption); have q306 : x23_2 < (l1.length : Int) := of_decide_eq_true (by first | (with_reducible assumption) | assumption); obtain ⟨ad306, e306, hx306_0⟩ := Kd.at_int HR1.out x23_2 p306 q306; cases e306; have hn306_0 : ad306.block ≠ gb305 := Nat.ne_of_lt (Nat.lt_of_lt_of_le (by have := World.block_lt_of_cell? _ _ hx306_0; first | rwa [add_block] at this | exact this) GW305.out); have hn306_1 : ad306.block ≠ gb305 := Nat.ne_of_lt (Nat.lt_of_lt_of_le (by have := World.block_lt_of_cell? _ _ hx306_0; first | rwa [add_block] at this | exact this) GW305.out); have hn306_2 : ad306.block ≠ gb305 := Nat.ne_of_lt (Nat.lt_of_lt_of_le (by have := World.block_lt_of_cell? _ _ hx306_0; first | rwa [add_block] at this | exact this) GW305.out); have hn306_3 : ad306.block ≠ gb305 := Nat.ne_of_lt (Nat.lt_of_lt_of_le (by have := World.block_lt_of_cell? _ _ hx306_0; first | rwa [add_block] at this | exact this) GW305.out); have hn306_4 : ad306.block ≠ gb305 := Nat.ne_of_lt (Nat.lt_of_lt_of_le (by have := World.block_lt_of_cell? _ _ hx306_0; first | rwa [add_block] at this | exact this) GW305.out); replace hx306_0 := (HB.out.cell (World.block_lt_of_cell? w _ hx306_0)).trans hx306_0; replace hx306_0 := (cell_far (p := ⟨gb305, 0, none⟩) (by first | (rw [add_block]; exact hn306_0) | (show (Addr.add _ _).block ≠ _; rw [add_block]; exact hn306_0) | exact hn306_0) (.string ((rd_T28 l0 x23_2).f0))).trans hx306_0; replace hx306_0 := (cell_far (p := ⟨gb305, 1, none⟩) (by first | (rw [add_block]; exact hn306_1) | (show (Addr.add _ _).block ≠ _; rw [add_block]; exact hn306_1) | exact hn306_1) (.bool ((rd_T28 l0 x23_2).f1))).trans hx306_0; replace hx306_0 := (cell_far (p := ⟨gb305, 2, none⟩) (by first | (rw [add_block]; exact hn306_2) | (show (Addr.add _ _).block ≠ _; rw [add_block]; exact hn306_2) | exact hn306_2) (.int .i64 ((rd_T28 l0 x23_2).f2))).trans hx306_0; replace hx306_0 := (cell_far (p := ⟨gb305, 3, none⟩) (by first | (rw [add_block]; exact hn306_3) | (show (Addr.add _ _).block ≠ _; rw [add_block]; exact hn306_3) | exact hn306_3) (.int .i64 ((rd_T28 l0 x23_2).f3))).trans hx306_0; replace hx306_0 := (cell_far (p := ⟨gb305, 4, none⟩) (by first | (rw [add_block]; exact hn306_4) | (show (Addr.add _ _).block ≠ _; rw [add_block]; exact hn306_4) | exact hn306_4) (.int .i64 ((rd_T28 l0 x23_2).f4))).trans hx306_0; clear hn306_0; clear hn306_1; clear hn306_2; clear hn306_3; clear hn306_4; replace p306 := eq_true p306; replace q306 := eq_true q306))
                        have n0_ : Aside0 ((((((w26.setCell ⟨gb305, 0, none⟩ (.string ((rd_T28 l0 x23_2).f0))).setCell ⟨gb305, 1, none⟩ (.bool ((rd_T28 l0 x23_2).f1))).setCell ⟨gb305, 2, none⟩ (.int .i64 ((rd_T28 l0 x23_2).f2))).setCell ⟨gb305, 3, none⟩ (.int .i64 ((rd_T28 l0 x23_2).f3))).setCell ⟨gb305, 4, none⟩ (.int .i64 ((rd_T28 l0 x23_2).f4))).heap[gb305]? = some (.cells #[.string ((rd_T28 l0 x23_2).f0), .bool ((rd_T28 l0 x23_2).f1), .int .i64 ((rd_T28 l0 x23_2).f2), .int .i64 ((rd_T28 l0 x23_2).f3), .int .i64 ((rd_T28 l0 x23_2).f4)] 28 (0, 0))) := ⟨by (with_reducible repeat (first | refine blk_drewN ?_ _ | refine blk_drew ?_ | refine blk_alloc ?_ _)); refine blk_put (cs := #[.string ((rd_T28 l0 x23_2).f0), .bool ((rd_T28 l0 x23_2).f1), .int .i64 ((rd_T28 l0 x23_2).f2), .int .i64 ((rd_T28 l0 x23_2).f3), .int .i64 0]) ?_ 4 _ rfl; (with_reducible repeat (first | refine blk_drewN ?_ _ | refine blk_drew ?_ | refine blk_alloc ?_ _)); refine blk_put (cs := #[.string ((rd_T28 l0 x23_2).f0), .bool ((rd_T28 l0 x23_2).f1), .int .i64 ((rd_T28 l0 x23_2).f2), .int .i64 0, .int .i64 0]) ?_ 3 _ rfl; (with_reducible repeat (first | refine blk_drewN ?_ _ | refine blk_drew ?_ | refine blk_alloc ?_ _)); refine blk_put (cs := #[.string ((rd_T28 l0 x23_2).f0), .bool ((rd_T28 l0 x23_2).f1), .int .i64 0, .int .i64 0, .int .i64 0]) ?_ 2 _ rfl; (with_reducible repeat (first | refine blk_drewN ?_ _ | refine blk_drew ?_ | refine blk_alloc ?_ _)); refine blk_put (cs := #[.string ((rd_T28 l0 x23_2).f0), .bool false, .int .i64 0, .int .i64 0, .int .i64 0]) ?_ 1 _ rfl; (with_reducible repeat (first | refine blk_drewN ?_ _ | refine blk_drew ?_ | refine blk_alloc ?_ _)); refine blk_put (cs := #[.string (⟨#[]⟩ : ByteArray), .bool false, .int .i64 0, .int .i64 0, .int .i64 0]) ?_ 0 _ rfl; (with_reducible repeat (first | refine blk_drewN ?_ _ | refine blk_drew ?_ | refine blk_alloc ?_ _)); exact BK305.out⟩
                        have n1_ : Aside0 (Below w.heap.size w (((((w26.setCell ⟨gb305, 0, none⟩ (.string ((rd_T28 l0 x23_2).f0))).setCell ⟨gb305, 1, none⟩ (.bool ((rd_T28 l0 x23_2).f1))).setCell ⟨gb305, 2, none⟩ (.int .i64 ((rd_T28 l0 x23_2).f2))).setCell ⟨gb305, 3, none⟩ (.int .i64 ((rd_T28 l0 x23_2).f3))).setCell ⟨gb305, 4, none⟩ (.int .i64 ((rd_T28 l0 x23_2).f4)))) := ⟨by repeat (first | (with_reducible first | exact HB.out | apply below_alloc | apply pw_below_drewN | apply below_drew1 | refine below_set ?_ GE305.out) | exact HB.out)⟩
                        (try clear BK305)
                        (try clear HB)
                        generalize (((((w26.setCell ⟨gb305, 0, none⟩ (.string ((rd_T28 l0 x23_2).f0))).setCell ⟨gb305, 1, none⟩ (.bool ((rd_T28 l0 x23_2).f1))).setCell ⟨gb305, 2, none⟩ (.int .i64 ((rd_T28 l0 x23_2).f2))).setCell ⟨gb305, 3, none⟩ (.int .i64 ((rd_T28 l0 x23_2).f3))).setCell ⟨gb305, 4, none⟩ (.int .i64 ((rd_T28 l0 x23_2).f4))) = w28 at n0_ n1_ ⊢
                        have BK305 := n0_
                        have HB := n1_
                        clear n0_ n1_
                        have n0_ := Aside0.mk (blk_drew BK305.out)
                        have n1_ := Aside0.mk (below_drew1 HB.out)
                        clear BK305
                        clear HB
                        have BK305 := n0_
                        have HB := n1_
                        clear n0_ n1_
                        refine start_ (n := 13) (S := fun w' => w'.cell? ⟨gb305, 0, none⟩ = some (.string ((rd_T28 l0 x23_2).f0)) ∧ w'.cell? ⟨gb305, 1, none⟩ = some (.bool ((rd_T28 l0 x23_2).f1)) ∧ w'.cell? ⟨gb305, 2, none⟩ = some (.int .i64 ((rd_T28 l0 x23_2).f2)) ∧ w'.cell? ⟨gb305, 3, none⟩ = some (.int .i64 ((rd_T28 l0 x23_2).f3)) ∧ w'.cell? ⟨gb305, 4, none⟩ = some (.int .i64 ((rd_T28 l0 x23_2).f4))) (ds := []) #[false, false, false, false, false, false, false, false, false, false, false, false, false] (by kernel_rfl) rfl rfl ⟨(blk_cell BK305.out 0).trans rfl, (blk_cell BK305.out 1).trans rfl, (blk_cell BK305.out 2).trans rfl, (blk_cell BK305.out 3).trans rfl, (blk_cell BK305.out 4).trans rfl⟩ (fun hHeld => ?_); refine with_tabW parryref1_State.tab8 parryref1_State.bits8 (fun HT_ HW_ => ?_)
                        generalize w28.drew = w29 at BK305 HB hHeld ⊢
                        refine pure_ (i := 0) (N := some 32) (v := ?_) (a' := ?_) #[true, false, false, false, false, false, false, false, false, false, false, false, false] rfl rfl (any_of HT_.out (by kernel_rfl)) (fun _ _ _ h => h) (Or.inl ⟨by rfl, ?_⟩) ?_ ?_
                        rotate_left
                        · intro w'
                          go_simp
                          with_reducible rfl
                        rotate_left
                        · simp only [Act.put, List.setIfInBounds_toArray, List.set_cons_zero, List.set_cons_succ, i64_w, i32_w]
                          rfl
                        refine pure_ (i := 1) (N := some 33) (v := ?_) (a' := ?_) #[true, true, false, false, false, false, false, false, false, false, false, false, false] rfl rfl (any_of HT_.out (by kernel_rfl)) (fun _ _ _ h => h) (Or.inl ⟨by rfl, ?_⟩) ?_ ?_
                        rotate_left
                        · intro w'
                          go_simp
                          with_reducible rfl
                        rotate_left
                        · simp only [Act.put, List.setIfInBounds_toArray, List.set_cons_zero, List.set_cons_succ, i64_w, i32_w]
                          rfl
                        refine take_ (i := 2) (N := some 34) (v := ?_) (a' := ?_) #[true, true, true, false, false, false, false, false, false, false, false, false, false] rfl rfl (take_ofW HT_.out HW_.out (by kernel_rfl)) (fun _ _ _ h => h) (Or.inl ⟨by rfl, ?_⟩) hHeld ?_ ?_
                        rotate_left
                        · rintro w' ⟨s0, s1, s2, s3, s4⟩
                          go_simp
                          with_reducible rfl
                        rotate_left
                        · simp only [Act.put, List.setIfInBounds_toArray, List.set_cons_zero, List.set_cons_succ, i64_w, i32_w]
                          rfl
                        refine pure_ (i := 3) (N := some 35) (v := ?_) (a' := ?_) #[true, true, true, true, false, false, false, false, false, false, false, false, false] rfl rfl (any_of HT_.out (by kernel_rfl)) (fun _ _ _ h => h) (Or.inl ⟨by rfl, ?_⟩) ?_ ?_
                        rotate_left
                        · intro w'
                          go_simp
                          with_reducible rfl
                        rotate_left
                        · simp only [Act.put, List.setIfInBounds_toArray, List.set_cons_zero, List.set_cons_succ, i64_w, i32_w]
                          rfl
                        refine pure_ (i := 4) (N := some 36) (v := ?_) (a' := ?_) #[true, true, true, true, true, false, false, false, false, false, false, false, false] rfl rfl (any_of HT_.out (by kernel_rfl)) (fun _ _ _ h => h) (Or.inl ⟨by rfl, ?_⟩) ?_ ?_
                        rotate_left
                        · intro w'
                          go_simp
                          with_reducible rfl
                        rotate_left
                        · simp only [Act.put, List.setIfInBounds_toArray, List.set_cons_zero, List.set_cons_succ, i64_w, i32_w]
                          rfl
                        refine pure_ (i := 5) (N := some 37) (v := ?_) (a' := ?_) #[true, true, true, true, true, true, false, false, false, false, false, false, false] rfl rfl (any_of HT_.out (by kernel_rfl)) (fun _ _ _ h => h) (Or.inl ⟨by rfl, ?_⟩) ?_ ?_
                        rotate_left
                        · intro w'
                          go_simp
                          with_reducible rfl
                        rotate_left
                        · simp only [Act.put, List.setIfInBounds_toArray, List.set_cons_zero, List.set_cons_succ, i64_w, i32_w]
                          rfl
                        refine pure_ (i := 6) (N := some 38) (v := ?_) (a' := ?_) #[true, true, true, true, true, true, true, false, false, false, false, false, false] rfl rfl (any_of HT_.out (by kernel_rfl)) (fun _ _ _ h => h) (Or.inl ⟨by rfl, ?_⟩) ?_ ?_
                        rotate_left
                        · intro w'
                          go_simp
                          with_reducible rfl
                        rotate_left
                        · simp only [Act.put, List.setIfInBounds_toArray, List.set_cons_zero, List.set_cons_succ, i64_w, i32_w]
                          rfl
                        refine take_ (i := 7) (N := some 39) (v := ?_) (a' := ?_) #[true, true, true, true, true, true, true, true, false, false, false, false, false] rfl rfl (take_ofW HT_.out HW_.out (by kernel_rfl)) (fun _ _ _ h => h) (Or.inl ⟨by rfl, ?_⟩) hHeld ?_ ?_
                        rotate_left
                        · rintro w' ⟨s0, s1, s2, s3, s4⟩
                          go_simp
                          with_reducible rfl
                        rotate_left
                        · simp only [Act.put, List.setIfInBounds_toArray, List.set_cons_zero, List.set_cons_succ, i64_w, i32_w]
                          rfl
                        refine take_ (i := 8) (N := some 40) (v := ?_) (a' := ?_) #[true, true, true, true, true, true, true, true, true, false, false, false, false] rfl rfl (take_ofW HT_.out HW_.out (by kernel_rfl)) (fun _ _ _ h => h) (Or.inl ⟨by rfl, ?_⟩) hHeld ?_ ?_
                        rotate_left
                        · rintro w' ⟨s0, s1, s2, s3, s4⟩
                          go_simp
                          with_reducible rfl
                        rotate_left
                        · simp only [Act.put, List.setIfInBounds_toArray, List.set_cons_zero, List.set_cons_succ, i64_w, i32_w]
                          rfl
                        refine one_ (i := 9) (N := some 41) #[true, true, true, true, true, true, true, true, true, true, false, false, false] rfl rfl (one_of HT_.out (by kernel_rfl)) (by decide) (fun K hK => ?_)
                        refine goes_ Try.func19 (by kernel_rfl) rfl #[.agg #[.string ((rd_T28 l0 x23_2).f0), .bool ((rd_T28 l0 x23_2).f1), .int .i64 ((rd_T28 l0 x23_2).f2), .int .i64 ((rd_T28 l0 x23_2).f3), .int .i64 ((rd_T28 l0 x23_2).f4)]] (by rfl) rfl rfl (by (try simp only [List.map_toArray, List.map_cons, List.map_nil]); first | done | rfl | (simp only [List.length_drop, List.length_take]; rfl)) ?_
                        with_reducible refine (parryref1_Size.calls ((rd_T28 l0 x23_2).f0) ((rd_T28 l0 x23_2).f1) ((rd_T28 l0 x23_2).f2) ((rd_T28 l0 x23_2).f3) ((rd_T28 l0 x23_2).f4) t307 _ A18.out).mono ?_
                        rintro e w30 ⟨rfl, hb⟩
                        refine ⟨_, rfl, ?_⟩
                        have n0_ := Aside0.mk (blk_below (g := gb305) (o := .cells #[.string ((rd_T28 l0 x23_2).f0), .bool ((rd_T28 l0 x23_2).f1), .int .i64 ((rd_T28 l0 x23_2).f2), .int .i64 ((rd_T28 l0 x23_2).f3), .int .i64 ((rd_T28 l0 x23_2).f4)] 28 (0, 0)) (by (with_reducible repeat (first | refine blk_drewN ?_ _ | refine blk_drew ?_ | refine blk_alloc ?_ _)); exact BK305.out) hb)
                        have n1_ := Aside0.mk (below_step (by repeat (first | (with_reducible first | exact HB.out | apply below_alloc | apply pw_below_drewN | apply below_drew1 | refine below_set ?_ GE305.out) | exact HB.out)) hb)
                        clear BK305
                        clear HB
                        have BK305 := n0_
                        have HB := n1_
                        clear n0_ n1_
                        (try clear hb)
                        (try clear hb2)
                        (try clear hk)
                        (try clear hi)
                        refine hK.out _ _ ⟨(blk_cell BK305.out 0).trans rfl, (blk_cell BK305.out 1).trans rfl, (blk_cell BK305.out 2).trans rfl, (blk_cell BK305.out 3).trans rfl, (blk_cell BK305.out 4).trans rfl⟩ (fun hHeld => ?_)
                        clear hK K
                        refine norm_ (a' := ?_) ?_ ?_
                        rotate_left
                        · show Act.put _ (some 41) _ = _
                          simp only [Act.put, List.setIfInBounds_toArray, List.set_cons_zero, List.set_cons_succ, i64_w, i32_w]
                          rfl
                        refine pure_ (i := 10) (N := some 42) (v := ?_) (a' := ?_) #[true, true, true, true, true, true, true, true, true, true, true, false, false] rfl rfl (any_of HT_.out (by kernel_rfl)) (fun _ _ _ h => h) (Or.inl ⟨by rfl, ?_⟩) ?_ ?_
                        rotate_left
                        · intro w'
                          go_simp
                          with_reducible rfl
                        rotate_left
                        · simp only [Act.put, List.setIfInBounds_toArray, List.set_cons_zero, List.set_cons_succ, i64_w, i32_w]
                          rfl
                        refine pure_ (i := 11) (N := some 43) (v := ?_) (a' := ?_) #[true, true, true, true, true, true, true, true, true, true, true, true, false] rfl rfl (any_of HT_.out (by kernel_rfl)) (fun _ _ _ h => h) (Or.inl ⟨by rfl, ?_⟩) ?_ ?_
                        rotate_left
                        · intro w'
                          go_simp
                          with_reducible rfl
                        rotate_left
                        · simp only [Act.put, List.setIfInBounds_toArray, List.set_cons_zero, List.set_cons_succ, i64_w, i32_w]
                          rfl
                        refine pure_ (i := 12) (N := some 44) (v := ?_) (a' := ?_) #[true, true, true, true, true, true, true, true, true, true, true, true, true] rfl rfl (any_of HT_.out (by kernel_rfl)) (fun _ _ _ h => h) (Or.inl ⟨by rfl, ?_⟩) ?_ ?_
                        rotate_left
                        · intro w'
                          go_simp
                          with_reducible rfl
                        rotate_left
                        · simp only [Act.put, List.setIfInBounds_toArray, List.set_cons_zero, List.set_cons_succ, i64_w, i32_w]
                          rfl
                        refine done_ (done_of HT_.out (by kernel_rfl)) ?_
                        have hcz31_0 : w30.cell? ⟨gb305, 0, none⟩ = some (.string ((rd_T28 l0 x23_2).f0)) := (blk_cell BK305.out 0).trans rfl
                        have hcz31_1 : w30.cell? ⟨gb305, 1, none⟩ = some (.bool ((rd_T28 l0 x23_2).f1)) := (blk_cell BK305.out 1).trans rfl
                        have hcz31_2 : w30.cell? ⟨gb305, 2, none⟩ = some (.int .i64 ((rd_T28 l0 x23_2).f2)) := (blk_cell BK305.out 2).trans rfl
                        have hcz31_3 : w30.cell? ⟨gb305, 3, none⟩ = some (.int .i64 ((rd_T28 l0 x23_2).f3)) := (blk_cell BK305.out 3).trans rfl
                        have hcz31_4 : w30.cell? ⟨gb305, 4, none⟩ = some (.int .i64 ((rd_T28 l0 x23_2).f4)) := (blk_cell BK305.out 4).trans rfl
                        have hfz31_0 := blk_frozen BK305.out 0
                        have hfz31_1 := blk_frozen BK305.out 1
                        have hfz31_2 := blk_frozen BK305.out 2
                        have hfz31_3 := blk_frozen BK305.out 3
                        have hfz31_4 := blk_frozen BK305.out 4
                        try go_wp2_with (first | ((with_reducible refine gate_callee (f := 19) rfl ?_); refine goesL_ (some 55) rfl rfl Try.func19 (by kernel_rfl) rfl #[.agg #[.string ((rd_T28 l0 x23_2).f0), .bool ((rd_T28 l0 x23_2).f1), .int .i64 ((rd_T28 l0 x23_2).f2), .int .i64 ((rd_T28 l0 x23_2).f3), .int .i64 ((rd_T28 l0 x23_2).f4)]] rfl (by (try simp only [List.map_toArray, List.map_cons, List.map_nil]); first | done | rfl | (simp only [List.length_drop, List.length_take]; rfl)) ?_; (with_reducible refine (parryref1_Size.calls ((rd_T28 l0 x23_2).f0) ((rd_T28 l0 x23_2).f1) ((rd_T28 l0 x23_2).f2) ((rd_T28 l0 x23_2).f3) ((rd_T28 l0 x23_2).f4) t308 _ A25.out).mono ?_); rintro e w32 ⟨rfl, hb⟩; refine ⟨_, rfl, ?_⟩; have n0_ := Aside0.mk (blk_below (g := gb305) (o := .cells #[.string ((rd_T28 l0 x23_2).f0), .bool ((rd_T28 l0 x23_2).f1), .int .i64 ((rd_T28 l0 x23_2).f2), .int .i64 ((rd_T28 l0 x23_2).f3), .int .i64 ((rd_T28 l0 x23_2).f4)] 28 (0, 0)) (by (with_reducible repeat (first | refine blk_drewN ?_ _ | refine blk_drew ?_ | refine blk_alloc ?_ _)); exact BK305.out) hb); have n1_ := Aside0.mk (below_step (by repeat (first | (with_reducible first | exact HB.out | apply below_alloc | apply pw_below_drewN | apply below_drew1 | refine below_set ?_ GE305.out) | exact HB.out)) hb); clear BK305; clear HB; have BK305 := n0_; have HB := n1_; clear n0_ n1_; (try clear hb); (try clear hb2); (try clear hk); (try clear hi)))
                        go_roundg k2
                        case measure => have := HJ2.out; have := HK2.out; omega
                        case rel => exact ⟨(wrap64 (x6_2 + (wrap64 ((wrap64 ((rd l1 x23_2) - ((rd_T28 l0 x23_2).f3))) * x7_2)))), (wrap64 (x7_2 * t308)), (wrap64 (x23_2 + 1)), (by first | rfl | (simp; done) | (simp [*]; done)), (by first | rfl | (simp; done) | (simp [*]; done)), (by first | rfl | (simp; done) | (simp [*]; done)), H', ⟨by have := HJ2.out; have := HK2.out; omega⟩, ⟨by repeat (first | (with_reducible first | exact HB.out | apply below_alloc | apply pw_below_drewN | apply below_drew1 | refine below_set ?_ GE305.out) | exact HB.out)⟩⟩
                  · rw [if_neg c12] at H
                    exact absurd H (by simp)
                · rw [if_neg c11] at H
                  exact absurd H (by simp)
              · rw [if_neg c10] at H
                exact absurd H (by simp)
            · rw [if_neg c9] at H
              have c9b0 : decide (x23_2 < (l0.length : Int)) = false := decide_eq_false c9
              clear c9
              simp only [Option.some.injEq, Prod.mk.injEq] at H
              obtain ⟨rfl, rfl⟩ := H
              go_wp2
              go_ret2
              exact ⟨by first | rfl | (simp [errW_none, errW_some] <;> rfl) | (simp [*, errW_none, errW_some] <;> rfl), by repeat (first | (with_reducible first | exact HB.out | apply below_alloc | apply pw_below_drewN | apply below_drew1) | exact HB.out)⟩

end Go.Proofs.Ytofmfnbiondplaa.P

