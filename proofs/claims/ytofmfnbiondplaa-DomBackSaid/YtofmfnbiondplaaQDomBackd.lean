/- A part of the claim DomBack. -/
import Derived.Test.YtofmfnbiondplaaQDomBacka
import Derived.Test.YtofmfnbiondplaaQDomBackb
import Derived.Test.YtofmfnbiondplaaQDomBackc
namespace Go.Proofs.Ytofmfnbiondplaa.P
open Go.RowKit Go.Proofs.YtofmfnbiondplaaW.PrintWords Go.Proofs.YtofmfnbiondplaaW.PrintLast Go.Proofs.YtofmfnbiondplaaW.PrintMore
attribute [local go_sem] max2_int min2_int max_two min_two max_three min_three max_four min_four   -- for this text's walks alone
set_option linter.unusedVariables false
set_option linter.unusedSimpArgs false

open Go.Proofs.Ytofmfnbiondplaa.X
mutual
def parrylaw1_DomBack.j0 : Nat → List (S28) → Int → Bool → Option (Bool)
  | 0, _, _, _ => none
  | k + 1, x0, x1, x26 => if x26 = true then ((parrylaw1_awake.f k).bind fun t173 => (some t173)) else ((dom_Total.f k x0).bind fun t174 => (parrylaw1_DomBack.l0 k x0 x1 t174 1 x0 (x0.length : Int) 0))
def parrylaw1_DomBack.l0 : Nat → List (S28) → Int → Int → Int → List (S28) → Int → Int → Option (Bool)
  | 0, _, _, _, _, _, _, _ => none
  | k + 1, x0, x1, x5, x6, x30, x31, x32 => if x32 < x31 then (if 0 ≤ x32 then (if x32 < (x30.length : Int) then ((dom_Size.f ((rd_T28 x30 x32).f0) ((rd_T28 x30 x32).f1) ((rd_T28 x30 x32).f2) ((rd_T28 x30 x32).f3) ((rd_T28 x30 x32).f4)).bind fun t177 => (parrylaw1_DomBack.l0 k x0 x1 x5 (wrap64 (x6 * t177)) x30 x31 (wrap64 (x32 + 1)))) else (none)) else (none)) else (if x5 = x6 then (if x5 < 1 then (parrylaw1_DomBack.j2 k x0 x1 x5 true) else (parrylaw1_DomBack.j2 k x0 x1 x5 (decide (x5 > 512)))) else (parrylaw1_DomBack.j2 k x0 x1 x5 true))
def parrylaw1_DomBack.j2 : Nat → List (S28) → Int → Int → Bool → Option (Bool)
  | 0, _, _, _, _ => none
  | k + 1, x0, x1, x5, x51 => if x51 = true then (some false) else ((dom_Values.f k x0 (-1)).bind fun bt178 => ((dom_Values.f k x0 x5).bind fun bt182 => (if (IntKind.u64.wrap (x5)) = 0 then (none) else ((dom_Values.f k x0 (wrap64 (Int.tmod (IntKind.u64.wrap (x1)) (IntKind.u64.wrap (x5))))).bind fun bt186 => ((dom_State.f k x0 bt186.1).bind fun bt190 => (if bt186.2 = true then (if bt190.2 = true then (if bt190.1 = (wrap64 (Int.tmod (IntKind.u64.wrap (x1)) (IntKind.u64.wrap (x5)))) then (if bt178.2 = true then (parrylaw1_DomBack.j3 k x0 bt186.1 true) else (if bt182.2 = true then (parrylaw1_DomBack.j3 k x0 bt186.1 true) else (parrylaw1_DomBack.j3 k x0 bt186.1 ((bt186.1.length : Int) != (x0.length : Int))))) else (parrylaw1_DomBack.j3 k x0 bt186.1 true)) else (parrylaw1_DomBack.j3 k x0 bt186.1 true)) else (parrylaw1_DomBack.j3 k x0 bt186.1 true)))))))
def parrylaw1_DomBack.j3 : Nat → List (S28) → List Int → Bool → Option (Bool)
  | 0, _, _, _ => none
  | k + 1, x0, x13, x104 => if x104 = true then (some false) else (parrylaw1_DomBack.l1 k x0 x13 (x13.length : Int) 0)
def parrylaw1_DomBack.l1 : Nat → List (S28) → List Int → Int → Int → Option (Bool)
  | 0, _, _, _, _ => none
  | k + 1, x0, x105, x106, x107 => if x107 < x106 then (if 0 ≤ x107 then (if x107 < (x105.length : Int) then (if x107 < (x0.length : Int) then (if (rd x105 x107) < ((rd_T28 x0 x107).f3) then (some false) else ((dom_Size.f ((rd_T28 x0 x107).f0) ((rd_T28 x0 x107).f1) ((rd_T28 x0 x107).f2) ((rd_T28 x0 x107).f3) ((rd_T28 x0 x107).f4)).bind fun t196 => (if (rd x105 x107) ≥ (wrap64 (((rd_T28 x0 x107).f3) + t196)) then (some false) else (parrylaw1_DomBack.l1 k x0 x105 x106 (wrap64 (x107 + 1)))))) else (none)) else (none)) else (none)) else ((parrylaw1_awake.f k).bind fun t197 => (some t197))
end
def parrylaw1_DomBack.f (k : Nat) (l0 : List (S28)) (a1 : Int) : Option (Bool) := (parrylaw1_Heavy.f k l0).bind fun t171 => (if t171 > 0 then (parrylaw1_DomBack.j0 k l0 a1 true) else ((dom_May.f k l0).bind fun t172 => (parrylaw1_DomBack.j0 k l0 a1 (t172 != 0))))
theorem parrylaw1_DomBack.mono_l : ∀ k, (∀ y0 y1 y2, LeO (parrylaw1_DomBack.j0 k y0 y1 y2) (parrylaw1_DomBack.j0 (k + 1) y0 y1 y2)) ∧ (∀ y0 y1 y2 y3 y4 y5 y6, LeO (parrylaw1_DomBack.l0 k y0 y1 y2 y3 y4 y5 y6) (parrylaw1_DomBack.l0 (k + 1) y0 y1 y2 y3 y4 y5 y6)) ∧ (∀ y0 y1 y2 y3, LeO (parrylaw1_DomBack.j2 k y0 y1 y2 y3) (parrylaw1_DomBack.j2 (k + 1) y0 y1 y2 y3)) ∧ (∀ y0 y1 y2, LeO (parrylaw1_DomBack.j3 k y0 y1 y2) (parrylaw1_DomBack.j3 (k + 1) y0 y1 y2)) ∧ (∀ y0 y1 y2 y3, LeO (parrylaw1_DomBack.l1 k y0 y1 y2 y3) (parrylaw1_DomBack.l1 (k + 1) y0 y1 y2 y3))
  | 0 => ⟨fun _ _ _ r h => by simp [parrylaw1_DomBack.j0] at h, fun _ _ _ _ _ _ _ r h => by simp [parrylaw1_DomBack.l0] at h, fun _ _ _ _ r h => by simp [parrylaw1_DomBack.j2] at h, fun _ _ _ r h => by simp [parrylaw1_DomBack.j3] at h, fun _ _ _ _ r h => by simp [parrylaw1_DomBack.l1] at h⟩
  | k + 1 => by
    obtain ⟨ih0, ih1, ih2, ih3, ih4⟩ := parrylaw1_DomBack.mono_l k
    refine ⟨?_, ?_, ?_, ?_, ?_⟩
    · intro y0 y1 y2
      unfold parrylaw1_DomBack.j0
      repeat' first
      | (with_reducible exact ih0 _ _ _)
      | (with_reducible exact ih1 _ _ _ _ _ _ _)
      | (with_reducible exact ih2 _ _ _ _)
      | (with_reducible exact ih3 _ _ _)
      | (with_reducible exact ih4 _ _ _ _)
      | (with_reducible exact dom_May.mono _ _)
      | (with_reducible exact dom_State.mono _ _ _)
      | (with_reducible exact dom_Total.mono _ _)
      | (with_reducible exact dom_Values.mono _ _ _)
      | (with_reducible exact parrylaw1_Heavy.mono _ _)
      | (with_reducible exact parrylaw1_awake.mono _)
      | (with_reducible exact LeO.refl _)
      | (with_reducible exact LeO.none _)
      | (with_reducible refine LeO.ite ?_ ?_)
      | (with_reducible refine LeO.bind ?_ (fun _ => ?_))
      | exact ih0 _ _ _
      | exact ih1 _ _ _ _ _ _ _
      | exact ih2 _ _ _ _
      | exact ih3 _ _ _
      | exact ih4 _ _ _ _
      | exact dom_May.mono _ _
      | exact dom_State.mono _ _ _
      | exact dom_Total.mono _ _
      | exact dom_Values.mono _ _ _
      | exact parrylaw1_Heavy.mono _ _
      | exact parrylaw1_awake.mono _
      | exact LeO.none _
      | refine LeO.ite ?_ ?_
      | refine LeO.bind ?_ (fun _ => ?_)
    · intro y0 y1 y2 y3 y4 y5 y6
      unfold parrylaw1_DomBack.l0
      repeat' first
      | (with_reducible exact ih0 _ _ _)
      | (with_reducible exact ih1 _ _ _ _ _ _ _)
      | (with_reducible exact ih2 _ _ _ _)
      | (with_reducible exact ih3 _ _ _)
      | (with_reducible exact ih4 _ _ _ _)
      | (with_reducible exact dom_May.mono _ _)
      | (with_reducible exact dom_State.mono _ _ _)
      | (with_reducible exact dom_Total.mono _ _)
      | (with_reducible exact dom_Values.mono _ _ _)
      | (with_reducible exact parrylaw1_Heavy.mono _ _)
      | (with_reducible exact parrylaw1_awake.mono _)
      | (with_reducible exact LeO.refl _)
      | (with_reducible exact LeO.none _)
      | (with_reducible refine LeO.ite ?_ ?_)
      | (with_reducible refine LeO.bind ?_ (fun _ => ?_))
      | exact ih0 _ _ _
      | exact ih1 _ _ _ _ _ _ _
      | exact ih2 _ _ _ _
      | exact ih3 _ _ _
      | exact ih4 _ _ _ _
      | exact dom_May.mono _ _
      | exact dom_State.mono _ _ _
      | exact dom_Total.mono _ _
      | exact dom_Values.mono _ _ _
      | exact parrylaw1_Heavy.mono _ _
      | exact parrylaw1_awake.mono _
      | exact LeO.none _
      | refine LeO.ite ?_ ?_
      | refine LeO.bind ?_ (fun _ => ?_)
    · intro y0 y1 y2 y3
      unfold parrylaw1_DomBack.j2
      repeat' first
      | (with_reducible exact ih0 _ _ _)
      | (with_reducible exact ih1 _ _ _ _ _ _ _)
      | (with_reducible exact ih2 _ _ _ _)
      | (with_reducible exact ih3 _ _ _)
      | (with_reducible exact ih4 _ _ _ _)
      | (with_reducible exact dom_May.mono _ _)
      | (with_reducible exact dom_State.mono _ _ _)
      | (with_reducible exact dom_Total.mono _ _)
      | (with_reducible exact dom_Values.mono _ _ _)
      | (with_reducible exact parrylaw1_Heavy.mono _ _)
      | (with_reducible exact parrylaw1_awake.mono _)
      | (with_reducible exact LeO.refl _)
      | (with_reducible exact LeO.none _)
      | (with_reducible refine LeO.ite ?_ ?_)
      | (with_reducible refine LeO.bind ?_ (fun _ => ?_))
      | exact ih0 _ _ _
      | exact ih1 _ _ _ _ _ _ _
      | exact ih2 _ _ _ _
      | exact ih3 _ _ _
      | exact ih4 _ _ _ _
      | exact dom_May.mono _ _
      | exact dom_State.mono _ _ _
      | exact dom_Total.mono _ _
      | exact dom_Values.mono _ _ _
      | exact parrylaw1_Heavy.mono _ _
      | exact parrylaw1_awake.mono _
      | exact LeO.none _
      | refine LeO.ite ?_ ?_
      | refine LeO.bind ?_ (fun _ => ?_)
    · intro y0 y1 y2
      unfold parrylaw1_DomBack.j3
      repeat' first
      | (with_reducible exact ih0 _ _ _)
      | (with_reducible exact ih1 _ _ _ _ _ _ _)
      | (with_reducible exact ih2 _ _ _ _)
      | (with_reducible exact ih3 _ _ _)
      | (with_reducible exact ih4 _ _ _ _)
      | (with_reducible exact dom_May.mono _ _)
      | (with_reducible exact dom_State.mono _ _ _)
      | (with_reducible exact dom_Total.mono _ _)
      | (with_reducible exact dom_Values.mono _ _ _)
      | (with_reducible exact parrylaw1_Heavy.mono _ _)
      | (with_reducible exact parrylaw1_awake.mono _)
      | (with_reducible exact LeO.refl _)
      | (with_reducible exact LeO.none _)
      | (with_reducible refine LeO.ite ?_ ?_)
      | (with_reducible refine LeO.bind ?_ (fun _ => ?_))
      | exact ih0 _ _ _
      | exact ih1 _ _ _ _ _ _ _
      | exact ih2 _ _ _ _
      | exact ih3 _ _ _
      | exact ih4 _ _ _ _
      | exact dom_May.mono _ _
      | exact dom_State.mono _ _ _
      | exact dom_Total.mono _ _
      | exact dom_Values.mono _ _ _
      | exact parrylaw1_Heavy.mono _ _
      | exact parrylaw1_awake.mono _
      | exact LeO.none _
      | refine LeO.ite ?_ ?_
      | refine LeO.bind ?_ (fun _ => ?_)
    · intro y0 y1 y2 y3
      unfold parrylaw1_DomBack.l1
      repeat' first
      | (with_reducible exact ih0 _ _ _)
      | (with_reducible exact ih1 _ _ _ _ _ _ _)
      | (with_reducible exact ih2 _ _ _ _)
      | (with_reducible exact ih3 _ _ _)
      | (with_reducible exact ih4 _ _ _ _)
      | (with_reducible exact dom_May.mono _ _)
      | (with_reducible exact dom_State.mono _ _ _)
      | (with_reducible exact dom_Total.mono _ _)
      | (with_reducible exact dom_Values.mono _ _ _)
      | (with_reducible exact parrylaw1_Heavy.mono _ _)
      | (with_reducible exact parrylaw1_awake.mono _)
      | (with_reducible exact LeO.refl _)
      | (with_reducible exact LeO.none _)
      | (with_reducible refine LeO.ite ?_ ?_)
      | (with_reducible refine LeO.bind ?_ (fun _ => ?_))
      | exact ih0 _ _ _
      | exact ih1 _ _ _ _ _ _ _
      | exact ih2 _ _ _ _
      | exact ih3 _ _ _
      | exact ih4 _ _ _ _
      | exact dom_May.mono _ _
      | exact dom_State.mono _ _ _
      | exact dom_Total.mono _ _
      | exact dom_Values.mono _ _ _
      | exact parrylaw1_Heavy.mono _ _
      | exact parrylaw1_awake.mono _
      | exact LeO.none _
      | refine LeO.ite ?_ ?_
      | refine LeO.bind ?_ (fun _ => ?_)
theorem parrylaw1_DomBack.mono : ∀ a0 a1 k, LeO (parrylaw1_DomBack.f k a0 a1) (parrylaw1_DomBack.f (k + 1) a0 a1) := by
  intro a0 a1 k
  obtain ⟨ih0, ih1, ih2, ih3, ih4⟩ := parrylaw1_DomBack.mono_l k
  unfold parrylaw1_DomBack.f
  repeat' first
      | (with_reducible exact ih0 _ _ _)
      | (with_reducible exact ih1 _ _ _ _ _ _ _)
      | (with_reducible exact ih2 _ _ _ _)
      | (with_reducible exact ih3 _ _ _)
      | (with_reducible exact ih4 _ _ _ _)
      | (with_reducible exact dom_May.mono _ _)
      | (with_reducible exact dom_State.mono _ _ _)
      | (with_reducible exact dom_Total.mono _ _)
      | (with_reducible exact dom_Values.mono _ _ _)
      | (with_reducible exact parrylaw1_Heavy.mono _ _)
      | (with_reducible exact parrylaw1_awake.mono _)
      | (with_reducible exact LeO.refl _)
      | (with_reducible exact LeO.none _)
      | (with_reducible refine LeO.ite ?_ ?_)
      | (with_reducible refine LeO.bind ?_ (fun _ => ?_))
      | exact ih0 _ _ _
      | exact ih1 _ _ _ _ _ _ _
      | exact ih2 _ _ _ _
      | exact ih3 _ _ _
      | exact ih4 _ _ _ _
      | exact dom_May.mono _ _
      | exact dom_State.mono _ _ _
      | exact dom_Total.mono _ _
      | exact dom_Values.mono _ _ _
      | exact parrylaw1_Heavy.mono _ _
      | exact parrylaw1_awake.mono _
      | exact LeO.none _
      | refine LeO.ite ?_ ?_
      | refine LeO.bind ?_ (fun _ => ?_)
def parrylaw1_DomBack.T21 : Bool × List (List Nat × List Nat) := (true, [([], []), ([], []), ([], []), ([1, 2], [1, 2]), ([3], [3]), ([4], [4]), ([0, 5], [0, 5]), ([6], [6]), ([7], [7]), ([7], [7]), ([7], [7]), ([9, 10, 7], [7, 9, 10]), ([11, 7], [7, 11]), ([12, 7], [7, 12]), ([7], [7]), ([7], [7]), ([14, 15, 7], [7, 14, 15]), ([16, 7], [7, 16]), ([17, 7, 7], [7, 17]), ([13, 18, 7], [7, 13, 18]), ([8, 19, 7], [7, 8, 19]), ([7, 20], [7, 20])])
def parrylaw1_DomBack.B21 : List Nat := [0, 0, 0, 6, 14, 30, 63, 127, 255, 255, 255, 1791, 3839, 7935, 255, 255, 49407, 114943, 246015, 524031, 1048575, 2097151]
theorem parrylaw1_DomBack.tab21 : rtab .any (opsOf Try.f3 21) = parrylaw1_DomBack.T21 := by kernel_rfl
theorem parrylaw1_DomBack.bits21 : waitsOk parrylaw1_DomBack.T21.2 parrylaw1_DomBack.B21 = true := by kernel_rfl
set_option maxHeartbeats 8000000 in
set_option maxRecDepth 100000 in
theorem parrylaw1_DomBack.calls (k : Nat) (A0 : Option Addr) (c0 : Nat) (l0 : List (S28)) (a1 : Int) (r : Bool) (w : World) (hr0 : Kd.C k28 w A0 l0.length l0) (hc0 : l0.length ≤ c0) (h : parrylaw1_DomBack.f k l0 a1 = some r) :
    Calls Try.prog 3 #[.slice A0 l0.length c0, .int .i64 a1] w fun e w' => e = .returned (.bool r) ∧ Below w.heap.size w w' := by
  have hu28 := Try.underlying28
  have HR0 := Aside0.mk hr0
  have HC0 := Aside0.mk hc0
  clear hr0 hc0
  have HB := Aside0.mk (Below.refl w.heap.size w)
  have H : ((parrylaw1_Heavy.f k l0).bind fun t171 => (if t171 > 0 then (parrylaw1_DomBack.j0 k l0 a1 true) else ((dom_May.f k l0).bind fun t172 => (parrylaw1_DomBack.j0 k l0 a1 (t172 != 0))))) = some r := h
  clear h
  have HC3 := Aside0.mk H
  clear H
  go_enter Try.func3, Try.ntmps3
  go_upto_region 1 with (fail)
  go_cut [26] (fun v26 wc => ∃ (kq : Nat) (x26_2 : Bool), v26 = .bool x26_2 ∧ Aside0 (parrylaw1_DomBack.j0 kq l0 a1 x26_2 = some r) ∧ Aside0 (kq ≤ k) ∧ Aside0 (Below w.heap.size w wc))
  case first =>
    have H := HC3.out
    clear HC3
    replace H := Option.bind_eq_some_iff.mp H
    obtain ⟨t171, A40, H⟩ := H
    replace H : (if t171 > 0 then (parrylaw1_DomBack.j0 k l0 a1 true) else ((dom_May.f k l0).bind fun t172 => (parrylaw1_DomBack.j0 k l0 a1 (t172 != 0)))) = some r := H
    have A4 := Aside0.mk A40
    clear A40
    by_cases c5 : t171 > 0
    · rw [if_pos c5] at H
      have c5b0 : decide (0 < t171) = true := decide_eq_true c5
      clear c5
      (first | rw [c5b0] | (simp only [i64_w, i32_w]; rw [c5b0]) | skip)
      have H' := Aside0.mk H
      clear H
      go_wp2_with (first | ((with_reducible refine gate_callee (f := 9) rfl ?_); refine goesL_ (some 20) rfl rfl Try.func9 (by kernel_rfl) rfl #[.slice A0 l0.length c0] rfl (by (try simp only [List.map_toArray, List.map_cons, List.map_nil]); first | done | rfl | (simp only [List.length_drop, List.length_take]; rfl)) ?_; (with_reducible refine (parrylaw1_Heavy.calls k _ _ l0 t171 _ ?side1 ?side2 A4.out).mono ?_); (case side1 => repeat (first | exact (Kd.C_below HR0.out HB.out) | (with_reducible refine Kd.C_alloc ?_ _) | (with_reducible refine Kd.C_drewN ?_ _) | (with_reducible refine Kd.C_drew ?_))); (case side2 => exact HC0.out); rintro e w6 ⟨rfl, hb⟩; refine ⟨_, rfl, ?_⟩; have n0_ := Aside0.mk (below_step (by repeat (first | (with_reducible first | exact HB.out | apply below_alloc | apply pw_below_drewN | apply below_drew1) | exact HB.out)) hb); clear HB; have HB := n0_; clear n0_; (try clear hb); (try clear hb2); (try clear hk); (try clear hi)))
      go_meet
      case rel => exact ⟨_, (true), (by first | rfl | (simp; done) | (simp [*]; done)), H', ⟨by first | omega | exact Nat.le_refl _⟩, ⟨by repeat (first | (with_reducible first | exact HB.out | apply below_alloc | apply pw_below_drewN | apply below_drew1) | exact HB.out)⟩⟩
    · rw [if_neg c5] at H
      have c5b0 : decide (0 < t171) = false := decide_eq_false c5
      clear c5
      (first | rw [c5b0] | (simp only [i64_w, i32_w]; rw [c5b0]) | skip)
      replace H := Option.bind_eq_some_iff.mp H
      obtain ⟨t172, A70, H⟩ := H
      replace H : (parrylaw1_DomBack.j0 k l0 a1 (t172 != 0)) = some r := H
      have A7 := Aside0.mk A70
      clear A70
      have H' := Aside0.mk H
      clear H
      go_wp2_with (first | ((with_reducible refine gate_callee (f := 9) rfl ?_); refine goesL_ (some 20) rfl rfl Try.func9 (by kernel_rfl) rfl #[.slice A0 l0.length c0] rfl (by (try simp only [List.map_toArray, List.map_cons, List.map_nil]); first | done | rfl | (simp only [List.length_drop, List.length_take]; rfl)) ?_; (with_reducible refine (parrylaw1_Heavy.calls k _ _ l0 t171 _ ?side1 ?side2 A4.out).mono ?_); (case side1 => repeat (first | exact (Kd.C_below HR0.out HB.out) | (with_reducible refine Kd.C_alloc ?_ _) | (with_reducible refine Kd.C_drewN ?_ _) | (with_reducible refine Kd.C_drew ?_))); (case side2 => exact HC0.out); rintro e w8 ⟨rfl, hb⟩; refine ⟨_, rfl, ?_⟩; have n0_ := Aside0.mk (below_step (by repeat (first | (with_reducible first | exact HB.out | apply below_alloc | apply pw_below_drewN | apply below_drew1) | exact HB.out)) hb); clear HB; have HB := n0_; clear n0_; (try clear hb); (try clear hb2); (try clear hk); (try clear hi)) | (go_at_call 10; (with_reducible refine (dom_May.calls k _ _ l0 t172 _ ?side1 ?side2 A7.out).mono ?_); (case side1 => repeat (first | exact (Kd.C_below HR0.out HB.out) | (with_reducible refine Kd.C_alloc ?_ _) | (with_reducible refine Kd.C_drewN ?_ _) | (with_reducible refine Kd.C_drew ?_))); (case side2 => exact HC0.out); rintro e w9 ⟨rfl, hb⟩; have n0_ := Aside0.mk (below_step (by repeat (first | (with_reducible first | exact HB.out | apply below_alloc | apply pw_below_drewN | apply below_drew1) | exact HB.out)) hb); clear HB; have HB := n0_; clear n0_; (try clear hb); (try clear hb2); (try clear hk); (try clear hi)))
      go_meet
      case rel => exact ⟨_, ((t172 != 0)), (by first | rfl | (simp; done) | (simp [*]; done)), H', ⟨by first | omega | exact Nat.le_refl _⟩, ⟨by repeat (first | (with_reducible first | exact HB.out | apply below_alloc | apply pw_below_drewN | apply below_drew1) | exact HB.out)⟩⟩
  case rest =>
    clear HC3
    try clear p2
    try clear c3
    try clear c5
    try clear c5b0
    try clear c9
    obtain ⟨kq, x26_2, rfl, HA, HJ2, HB⟩ := hcut
    cases kq with
    | zero => exact absurd HA.out (by simp [parrylaw1_DomBack.j0])
    | succ kj2 =>
      have H := HA.out
      clear HA
      simp only [parrylaw1_DomBack.j0] at H
      by_cases c10 : x26_2 = true
      · subst c10
        have H1 : ((parrylaw1_awake.f kj2).bind fun t173 => (some t173)) = some r := by rw [if_pos rfl] at H; exact H
        clear H
        have H := H1
        clear H1
        replace H := Option.bind_eq_some_iff.mp H
        obtain ⟨t173, A110, H⟩ := H
        replace H : (some t173) = some r := H
        have A11 := Aside0.mk A110
        clear A110
        obtain rfl := Option.some.inj H
        go_wp2_with (first | ((with_reducible refine gate_callee (f := 11) rfl ?_); refine goesL_ (some 27) rfl rfl Try.func11 (by kernel_rfl) rfl #[] rfl (by (try simp only [List.map_toArray, List.map_cons, List.map_nil]); first | done | rfl | (simp only [List.length_drop, List.length_take]; rfl)) ?_; (with_reducible refine (parrylaw1_awake.calls kj2  t173 _ A11.out).mono ?_); rintro e w12 ⟨rfl, hb⟩; refine ⟨_, rfl, ?_⟩; have n0_ := Aside0.mk (below_step (by repeat (first | (with_reducible first | exact HB.out | apply below_alloc | apply pw_below_drewN | apply below_drew1) | exact HB.out)) hb); clear HB; have HB := n0_; clear n0_; (try clear hb); (try clear hb2); (try clear hk); (try clear hi)))
        go_ret
        exact ⟨by first | rfl | (simp [errW_none, errW_some] <;> rfl) | (simp [*, errW_none, errW_some] <;> rfl), by repeat (first | (with_reducible first | exact HB.out | apply below_alloc | apply pw_below_drewN | apply below_drew1) | exact HB.out)⟩
      · replace c10 := Bool.eq_false_iff.mpr c10
        subst c10
        have H1 : ((dom_Total.f kj2 l0).bind fun t174 => (parrylaw1_DomBack.l0 kj2 l0 a1 t174 1 l0 (l0.length : Int) 0)) = some r := by rw [if_neg (show ¬ (false = true) by decide)] at H; exact H
        clear H
        have H := H1
        clear H1
        replace H := Option.bind_eq_some_iff.mp H
        obtain ⟨t174, A130, H⟩ := H
        replace H : (parrylaw1_DomBack.l0 kj2 l0 a1 t174 1 l0 (l0.length : Int) 0) = some r := H
        have A13 := Aside0.mk A130
        clear A130
        have H' := Aside0.mk H
        clear H
        go_wp2_with (first | ((with_reducible refine gate_callee (f := 12) rfl ?_); refine goesL_ (some 29) rfl rfl Try.func12 (by kernel_rfl) rfl #[.slice A0 l0.length c0] rfl (by (try simp only [List.map_toArray, List.map_cons, List.map_nil]); first | done | rfl | (simp only [List.length_drop, List.length_take]; rfl)) ?_; (with_reducible refine (dom_Total.calls kj2 _ _ l0 t174 _ ?side1 ?side2 A13.out).mono ?_); (case side1 => repeat (first | exact (Kd.C_below HR0.out HB.out) | (with_reducible refine Kd.C_alloc ?_ _) | (with_reducible refine Kd.C_drewN ?_ _) | (with_reducible refine Kd.C_drew ?_))); (case side2 => exact HC0.out); rintro e w14 ⟨rfl, hb⟩; refine ⟨_, rfl, ?_⟩; have n0_ := Aside0.mk (below_step (by repeat (first | (with_reducible first | exact HB.out | apply below_alloc | apply pw_below_drewN | apply below_drew1) | exact HB.out)) hb); clear HB; have HB := n0_; clear n0_; (try clear hb); (try clear hb2); (try clear hk); (try clear hi)))
        go_loopg [6, 32] kj2 (fun kq v6 v32 w' => ∃ (x6_2 : Int) (x32_2 : Int), v6 = .int .i64 x6_2 ∧ v32 = .int .i64 x32_2 ∧ Aside0 (parrylaw1_DomBack.l0 kq l0 a1 t174 x6_2 l0 (l0.length : Int) x32_2 = some r) ∧ Aside0 (kq ≤ kj2) ∧ Aside0 (Below w.heap.size w w'))
        case atStart => exact ⟨(1), (0), (by first | rfl | (simp; done) | (simp [*]; done)), (by first | rfl | (simp; done) | (simp [*]; done)), H', ⟨Nat.le_refl _⟩, ⟨by repeat (first | (with_reducible first | exact HB.out | apply below_alloc | apply pw_below_drewN | apply below_drew1) | exact HB.out)⟩⟩
        case round =>
          clear H'
          try clear c1
          try clear p2
          try clear c3
          try clear c5
          try clear c5b0
          try clear c9
          try clear c10
          try clear c11
          try clear c12
          try clear p2
          obtain ⟨x6_2, x32_2, rfl, rfl, HA, HK2, HB⟩ := hrel
          cases gk with
          | zero => exact absurd HA.out (by simp [parrylaw1_DomBack.l0])
          | succ k2 =>
            have H := HA.out
            clear HA
            simp only [parrylaw1_DomBack.l0] at H
            by_cases c15 : x32_2 < (l0.length : Int)
            · rw [if_pos c15] at H
              have c15b0 : decide (x32_2 < (l0.length : Int)) = true := decide_eq_true c15
              clear c15
              by_cases c16 : 0 ≤ x32_2
              · rw [if_pos c16] at H
                have c16b0 : decide (0 ≤ x32_2) = true := decide_eq_true c16
                clear c16
                by_cases c17 : x32_2 < (l0.length : Int)
                · rw [if_pos c17] at H
                  have c17b0 : decide (x32_2 < (l0.length : Int)) = true := decide_eq_true c17
                  clear c17
                  replace H := Option.bind_eq_some_iff.mp H
                  obtain ⟨t177, A180, H⟩ := H
                  replace H : (parrylaw1_DomBack.l0 k2 l0 a1 t174 (wrap64 (x6_2 * t177)) l0 (l0.length : Int) (wrap64 (x32_2 + 1))) = some r := H
                  have A18 := Aside0.mk A180
                  clear A180
                  have H' := Aside0.mk H
                  clear H
                  have p175 : 0 ≤ (x32_2 : Int) := of_decide_eq_true (by first | (with_reducible assumption) | assumption)
                  have q175 : x32_2 < (l0.length : Int) := of_decide_eq_true (by first | (with_reducible assumption) | assumption)
                  obtain ⟨ad175, e175, hx175_0, hx175_1, hx175_2, hx175_3, hx175_4⟩ := at_T28 HR0.out x32_2 p175 q175
                  cases e175
                  replace hx175_0 := (HB.out.cell (World.block_lt_of_cell? w _ hx175_0)).trans hx175_0
                  replace hx175_1 := (HB.out.cell (World.block_lt_of_cell? w _ hx175_1)).trans hx175_1
                  replace hx175_2 := (HB.out.cell (World.block_lt_of_cell? w _ hx175_2)).trans hx175_2
                  replace hx175_3 := (HB.out.cell (World.block_lt_of_cell? w _ hx175_3)).trans hx175_3
                  replace hx175_4 := (HB.out.cell (World.block_lt_of_cell? w _ hx175_4)).trans hx175_4
                  replace p175 := eq_true p175
                  replace q175 := eq_true q175
                  go_wp2_with (first | ((with_reducible refine gate_dst (N := 8) rfl ?_); (try (refine gate_guard (by rfl) ?_; dsimp only)); refine box_event ?hg (N := 8) ?hd (cs := #[.string (⟨#[]⟩ : ByteArray), .bool false, .int .i64 0, .int .i64 0, .int .i64 0]) (t := 28) ?hr ?_; (case hd => rfl); (case hg => rfl); (case hr => first | (go_simp; done) | (go_simp; rfl)); intro gb176 hg w19 hbox hb; have n0_ := Aside0.mk (below_step (by repeat (first | (with_reducible first | exact HB.out | apply below_alloc | apply pw_below_drewN | apply below_drew1) | exact HB.out)) hb); have n1_ := Aside0.mk (hbox); have n2_ := Aside0.mk ((by rw [hg]; exact (below_size (by repeat (first | (with_reducible first | exact HB.out | apply below_alloc | apply pw_below_drewN | apply below_drew1) | exact HB.out))) : w.heap.size ≤ gb176)); have n3_ := Aside0.mk ((by rw [hg]; exact (below_size (by repeat (first | (with_reducible first | exact HB.out | apply below_alloc | apply pw_below_drewN | apply below_drew1) | exact HB.out))) : w.heap.size ≤ gb176)); clear HB; have HB := n0_; have BK176 := n1_; have GW176 := n2_; have GE176 := n3_; clear n0_ n1_ n2_ n3_; clear hb hbox hg; have hcz20_0 : w19.cell? ⟨gb176, 0, none⟩ = some (.string (⟨#[]⟩ : ByteArray)) := (blk_cell BK176.out 0).trans rfl; have hcz20_1 : w19.cell? ⟨gb176, 1, none⟩ = some (.bool false) := (blk_cell BK176.out 1).trans rfl; have hcz20_2 : w19.cell? ⟨gb176, 2, none⟩ = some (.int .i64 0) := (blk_cell BK176.out 2).trans rfl; have hcz20_3 : w19.cell? ⟨gb176, 3, none⟩ = some (.int .i64 0) := (blk_cell BK176.out 3).trans rfl; have hcz20_4 : w19.cell? ⟨gb176, 4, none⟩ = some (.int .i64 0) := (blk_cell BK176.out 4).trans rfl; have hfz20_0 := blk_frozen BK176.out 0; have hfz20_1 := blk_frozen BK176.out 1; have hfz20_2 := blk_frozen BK176.out 2; have hfz20_3 := blk_frozen BK176.out 3; have hfz20_4 := blk_frozen BK176.out 4) | ((with_reducible refine gate_callee (f := 13) rfl ?_); refine goesL_ (some 38) rfl rfl Try.func13 (by kernel_rfl) rfl #[.agg #[.string ((rd_T28 l0 x32_2).f0), .bool ((rd_T28 l0 x32_2).f1), .int .i64 ((rd_T28 l0 x32_2).f2), .int .i64 ((rd_T28 l0 x32_2).f3), .int .i64 ((rd_T28 l0 x32_2).f4)]] rfl (by (try simp only [List.map_toArray, List.map_cons, List.map_nil]); first | done | rfl | (simp only [List.length_drop, List.length_take]; rfl)) ?_; (with_reducible refine (dom_Size.calls ((rd_T28 l0 x32_2).f0) ((rd_T28 l0 x32_2).f1) ((rd_T28 l0 x32_2).f2) ((rd_T28 l0 x32_2).f3) ((rd_T28 l0 x32_2).f4) t177 _ A18.out).mono ?_); rintro e w21 ⟨rfl, hb⟩; refine ⟨_, rfl, ?_⟩; have n0_ := Aside0.mk (blk_below (g := gb176) (o := .cells #[.string ((rd_T28 l0 x32_2).f0), .bool ((rd_T28 l0 x32_2).f1), .int .i64 ((rd_T28 l0 x32_2).f2), .int .i64 ((rd_T28 l0 x32_2).f3), .int .i64 ((rd_T28 l0 x32_2).f4)] 28 (0, 0)) (by (with_reducible repeat (first | refine blk_drewN ?_ _ | refine blk_drew ?_ | refine blk_alloc ?_ _)); refine blk_put (cs := #[.string ((rd_T28 l0 x32_2).f0), .bool ((rd_T28 l0 x32_2).f1), .int .i64 ((rd_T28 l0 x32_2).f2), .int .i64 ((rd_T28 l0 x32_2).f3), .int .i64 0]) ?_ 4 _ rfl; (with_reducible repeat (first | refine blk_drewN ?_ _ | refine blk_drew ?_ | refine blk_alloc ?_ _)); refine blk_put (cs := #[.string ((rd_T28 l0 x32_2).f0), .bool ((rd_T28 l0 x32_2).f1), .int .i64 ((rd_T28 l0 x32_2).f2), .int .i64 0, .int .i64 0]) ?_ 3 _ rfl; (with_reducible repeat (first | refine blk_drewN ?_ _ | refine blk_drew ?_ | refine blk_alloc ?_ _)); refine blk_put (cs := #[.string ((rd_T28 l0 x32_2).f0), .bool ((rd_T28 l0 x32_2).f1), .int .i64 0, .int .i64 0, .int .i64 0]) ?_ 2 _ rfl; (with_reducible repeat (first | refine blk_drewN ?_ _ | refine blk_drew ?_ | refine blk_alloc ?_ _)); refine blk_put (cs := #[.string ((rd_T28 l0 x32_2).f0), .bool false, .int .i64 0, .int .i64 0, .int .i64 0]) ?_ 1 _ rfl; (with_reducible repeat (first | refine blk_drewN ?_ _ | refine blk_drew ?_ | refine blk_alloc ?_ _)); refine blk_put (cs := #[.string (⟨#[]⟩ : ByteArray), .bool false, .int .i64 0, .int .i64 0, .int .i64 0]) ?_ 0 _ rfl; (with_reducible repeat (first | refine blk_drewN ?_ _ | refine blk_drew ?_ | refine blk_alloc ?_ _)); exact BK176.out) hb); have n1_ := Aside0.mk (below_step (by repeat (first | (with_reducible first | exact HB.out | apply below_alloc | apply pw_below_drewN | apply below_drew1 | refine below_set ?_ GE176.out) | exact HB.out)) hb); clear BK176; clear HB; have BK176 := n0_; have HB := n1_; clear n0_ n1_; (try clear hb); (try clear hb2); (try clear hk); (try clear hi)))
                  go_roundg k2
                  case measure => have := HJ2.out; have := HK2.out; omega
                  case rel => exact ⟨(wrap64 (x6_2 * t177)), (wrap64 (x32_2 + 1)), (by first | rfl | (simp; done) | (simp [*]; done)), (by first | rfl | (simp; done) | (simp [*]; done)), H', ⟨by have := HJ2.out; have := HK2.out; omega⟩, ⟨by repeat (first | (with_reducible first | exact HB.out | apply below_alloc | apply pw_below_drewN | apply below_drew1 | refine below_set ?_ GE176.out) | exact HB.out)⟩⟩
                · rw [if_neg c17] at H
                  exact absurd H (by simp)
              · rw [if_neg c16] at H
                exact absurd H (by simp)
            · rw [if_neg c15] at H
              have c15b0 : decide (x32_2 < (l0.length : Int)) = false := decide_eq_false c15
              clear c15
              have HC22 := Aside0.mk H
              clear H
              go_upto_region 9 with (fail)
              go_cut [51] (fun v51 wc => ∃ (kq : Nat) (x51_21 : Bool), v51 = .bool x51_21 ∧ Aside0 (parrylaw1_DomBack.j2 kq l0 a1 t174 x51_21 = some r) ∧ Aside0 (kq ≤ k2) ∧ Aside0 (Below w.heap.size w wc))
              case first =>
                have H := HC22.out
                clear HC22
                by_cases c23 : t174 = x6_2
                · rw [if_pos c23] at H
                  have c23b0 : (t174 == x6_2) = true := beq_iff_eq.mpr c23
                  have c23b1 : (t174 != x6_2) = false := bne_eq_false_iff_eq.mpr c23
                  clear c23
                  (first | rw [c23b0] | (simp only [i64_w, i32_w]; rw [c23b0]) | skip)
                  by_cases c24 : t174 < 1
                  · rw [if_pos c24] at H
                    have c24b0 : decide (t174 < 1) = true := decide_eq_true c24
                    clear c24
                    have H' := Aside0.mk H
                    clear H
                    go_wp2
                    go_meet
                    case rel => exact ⟨_, (true), (by first | rfl | (simp; done) | (simp [*]; done)), H', ⟨by have := HJ2.out; have := HK2.out; first | omega | exact Nat.le_refl _⟩, ⟨by repeat (first | (with_reducible first | exact HB.out | apply below_alloc | apply pw_below_drewN | apply below_drew1) | exact HB.out)⟩⟩
                  · rw [if_neg c24] at H
                    have c24b0 : decide (t174 < 1) = false := decide_eq_false c24
                    clear c24
                    have H' := Aside0.mk H
                    clear H
                    go_wp2
                    go_meet
                    case rel => exact ⟨_, (decide (t174 > 512)), (by first | rfl | (simp; done) | (simp [*]; done)), H', ⟨by have := HJ2.out; have := HK2.out; first | omega | exact Nat.le_refl _⟩, ⟨by repeat (first | (with_reducible first | exact HB.out | apply below_alloc | apply pw_below_drewN | apply below_drew1) | exact HB.out)⟩⟩
                · rw [if_neg c23] at H
                  have c23b0 : (t174 == x6_2) = false := beq_eq_false_iff_ne.mpr c23
                  have c23b1 : (t174 != x6_2) = true := bne_iff_ne.mpr c23
                  (first | rw [c23b0] | (simp only [i64_w, i32_w]; rw [c23b0]) | skip)
                  have H' := Aside0.mk H
                  clear H
                  go_wp2
                  go_meet
                  case rel => exact ⟨_, (true), (by first | rfl | (simp; done) | (simp [*]; done)), H', ⟨by have := HJ2.out; have := HK2.out; first | omega | exact Nat.le_refl _⟩, ⟨by repeat (first | (with_reducible first | exact HB.out | apply below_alloc | apply pw_below_drewN | apply below_drew1) | exact HB.out)⟩⟩
              case rest =>
                clear HC22
                try clear c1
                try clear p1
                try clear q1
                try clear hx1
                try clear c2
                try clear p2
                try clear c3
                try clear c5
                try clear c5b0
                try clear p6
                try clear c9
                try clear c10
                try clear c11
                try clear c12
                try clear c13
                try clear c15
                try clear c15b0
                try clear c16
                try clear c16b0
                try clear c17
                try clear c17b0
                try clear p17
                try clear q17
                try clear hx17
                try clear c23
                try clear c23b0
                try clear c23b1
                try clear c24
                try clear c24b0
                try clear hcz20_0
                try clear hcz20_1
                try clear hcz20_2
                try clear hcz20_3
                try clear hcz20_4
                try clear hfz20_0
                try clear hfz20_1
                try clear hfz20_2
                try clear hfz20_3
                try clear hfz20_4
                try clear hx175_0
                try clear hx175_1
                try clear hx175_2
                try clear hx175_3
                try clear hx175_4
                try clear p175
                try clear p2
                try clear q175
                obtain ⟨kq, x51_21, rfl, HA, HJ21, HB⟩ := hcut
                cases kq with
                | zero => exact absurd HA.out (by simp [parrylaw1_DomBack.j2])
                | succ kj21 =>
                  have H := HA.out
                  clear HA
                  simp only [parrylaw1_DomBack.j2] at H
                  by_cases c25 : x51_21 = true
                  · subst c25
                    have H1 : (some false) = some r := by rw [if_pos rfl] at H; exact H
                    clear H
                    have H := H1
                    clear H1
                    obtain rfl := Option.some.inj H
                    go_wp2
                    go_ret
                    exact ⟨by first | rfl | (simp [errW_none, errW_some] <;> rfl) | (simp [*, errW_none, errW_some] <;> rfl), by repeat (first | (with_reducible first | exact HB.out | apply below_alloc | apply pw_below_drewN | apply below_drew1) | exact HB.out)⟩
                  · replace c25 := Bool.eq_false_iff.mpr c25
                    subst c25
                    have H1 : ((dom_Values.f kj21 l0 (-1)).bind fun bt178 => ((dom_Values.f kj21 l0 t174).bind fun bt182 => (if (IntKind.u64.wrap (t174)) = 0 then (none) else ((dom_Values.f kj21 l0 (wrap64 (Int.tmod (IntKind.u64.wrap (a1)) (IntKind.u64.wrap (t174))))).bind fun bt186 => ((dom_State.f kj21 l0 bt186.1).bind fun bt190 => (if bt186.2 = true then (if bt190.2 = true then (if bt190.1 = (wrap64 (Int.tmod (IntKind.u64.wrap (a1)) (IntKind.u64.wrap (t174)))) then (if bt178.2 = true then (parrylaw1_DomBack.j3 kj21 l0 bt186.1 true) else (if bt182.2 = true then (parrylaw1_DomBack.j3 kj21 l0 bt186.1 true) else (parrylaw1_DomBack.j3 kj21 l0 bt186.1 ((bt186.1.length : Int) != (l0.length : Int))))) else (parrylaw1_DomBack.j3 kj21 l0 bt186.1 true)) else (parrylaw1_DomBack.j3 kj21 l0 bt186.1 true)) else (parrylaw1_DomBack.j3 kj21 l0 bt186.1 true))))))) = some r := by rw [if_neg (show ¬ (false = true) by decide)] at H; exact H
                    clear H
                    have H := H1
                    clear H1
                    replace H := Option.bind_eq_some_iff.mp H
                    obtain ⟨⟨t178, t179⟩, A260, H⟩ := H
                    replace H : ((dom_Values.f kj21 l0 t174).bind fun bt182 => (if (IntKind.u64.wrap (t174)) = 0 then (none) else ((dom_Values.f kj21 l0 (wrap64 (Int.tmod (IntKind.u64.wrap (a1)) (IntKind.u64.wrap (t174))))).bind fun bt186 => ((dom_State.f kj21 l0 bt186.1).bind fun bt190 => (if bt186.2 = true then (if bt190.2 = true then (if bt190.1 = (wrap64 (Int.tmod (IntKind.u64.wrap (a1)) (IntKind.u64.wrap (t174)))) then (if t179 = true then (parrylaw1_DomBack.j3 kj21 l0 bt186.1 true) else (if bt182.2 = true then (parrylaw1_DomBack.j3 kj21 l0 bt186.1 true) else (parrylaw1_DomBack.j3 kj21 l0 bt186.1 ((bt186.1.length : Int) != (l0.length : Int))))) else (parrylaw1_DomBack.j3 kj21 l0 bt186.1 true)) else (parrylaw1_DomBack.j3 kj21 l0 bt186.1 true)) else (parrylaw1_DomBack.j3 kj21 l0 bt186.1 true)))))) = some r := H
                    have A26 := Aside0.mk A260
                    clear A260
                    replace H := Option.bind_eq_some_iff.mp H
                    obtain ⟨⟨t182, t183⟩, A270, H⟩ := H
                    replace H : (if (IntKind.u64.wrap (t174)) = 0 then (none) else ((dom_Values.f kj21 l0 (wrap64 (Int.tmod (IntKind.u64.wrap (a1)) (IntKind.u64.wrap (t174))))).bind fun bt186 => ((dom_State.f kj21 l0 bt186.1).bind fun bt190 => (if bt186.2 = true then (if bt190.2 = true then (if bt190.1 = (wrap64 (Int.tmod (IntKind.u64.wrap (a1)) (IntKind.u64.wrap (t174)))) then (if t179 = true then (parrylaw1_DomBack.j3 kj21 l0 bt186.1 true) else (if t183 = true then (parrylaw1_DomBack.j3 kj21 l0 bt186.1 true) else (parrylaw1_DomBack.j3 kj21 l0 bt186.1 ((bt186.1.length : Int) != (l0.length : Int))))) else (parrylaw1_DomBack.j3 kj21 l0 bt186.1 true)) else (parrylaw1_DomBack.j3 kj21 l0 bt186.1 true)) else (parrylaw1_DomBack.j3 kj21 l0 bt186.1 true))))) = some r := H
                    have A27 := Aside0.mk A270
                    clear A270
                    by_cases c28 : (IntKind.u64.wrap (t174)) = 0
                    · rw [if_pos c28] at H
                      exact absurd H (by simp)
                    · rw [if_neg c28] at H
                      have c28b0 : ((IntKind.u64.wrap (t174)) == 0) = false := beq_eq_false_iff_ne.mpr c28
                      have c28b1 : ((IntKind.u64.wrap (t174)) != 0) = true := bne_iff_ne.mpr c28
                      replace H := Option.bind_eq_some_iff.mp H
                      obtain ⟨⟨t186, t187⟩, A290, H⟩ := H
                      replace H : ((dom_State.f kj21 l0 t186).bind fun bt190 => (if t187 = true then (if bt190.2 = true then (if bt190.1 = (wrap64 (Int.tmod (IntKind.u64.wrap (a1)) (IntKind.u64.wrap (t174)))) then (if t179 = true then (parrylaw1_DomBack.j3 kj21 l0 t186 true) else (if t183 = true then (parrylaw1_DomBack.j3 kj21 l0 t186 true) else (parrylaw1_DomBack.j3 kj21 l0 t186 ((t186.length : Int) != (l0.length : Int))))) else (parrylaw1_DomBack.j3 kj21 l0 t186 true)) else (parrylaw1_DomBack.j3 kj21 l0 t186 true)) else (parrylaw1_DomBack.j3 kj21 l0 t186 true))) = some r := H
                      have A29 := Aside0.mk A290
                      clear A290
                      replace H := Option.bind_eq_some_iff.mp H
                      obtain ⟨⟨t190, t191⟩, A300, H⟩ := H
                      replace H : (if t187 = true then (if t191 = true then (if t190 = (wrap64 (Int.tmod (IntKind.u64.wrap (a1)) (IntKind.u64.wrap (t174)))) then (if t179 = true then (parrylaw1_DomBack.j3 kj21 l0 t186 true) else (if t183 = true then (parrylaw1_DomBack.j3 kj21 l0 t186 true) else (parrylaw1_DomBack.j3 kj21 l0 t186 ((t186.length : Int) != (l0.length : Int))))) else (parrylaw1_DomBack.j3 kj21 l0 t186 true)) else (parrylaw1_DomBack.j3 kj21 l0 t186 true)) else (parrylaw1_DomBack.j3 kj21 l0 t186 true)) = some r := H
                      have A30 := Aside0.mk A300
                      clear A300
                      have HC31 := Aside0.mk H
                      clear H
                      go_upto_region 16 with (first | ((with_reducible refine gate_callee (f := 14) rfl ?_); refine goesL_ (some 54) rfl rfl Try.func14 (by kernel_rfl) rfl #[.slice A0 l0.length c0, .int .i64 (-1)] rfl (by (try simp only [List.map_toArray, List.map_cons, List.map_nil]); first | done | rfl | (simp only [List.length_drop, List.length_take]; rfl)) ?_; (with_reducible refine (dom_Values.calls kj21 _ _ l0 (-1) t178 t179 _ ?side1 ?side2 A26.out).mono ?_); (case side1 => repeat (first | exact (Kd.C_below HR0.out HB.out) | (with_reducible refine Kd.C_alloc ?_ _) | (with_reducible refine Kd.C_drewN ?_ _) | (with_reducible refine Kd.C_drew ?_))); (case side2 => exact HC0.out); rintro e w32 ⟨v180, rfl, ho0, hb⟩; refine ⟨_, rfl, ?_⟩; have n0_ := Aside0.mk (Kd.R_lower ho0 (below_size (by repeat (first | (with_reducible first | exact HB.out | apply below_alloc | apply pw_below_drewN | apply below_drew1) | exact HB.out)))); have n1_ := Aside0.mk (below_step (by repeat (first | (with_reducible first | exact HB.out | apply below_alloc | apply pw_below_drewN | apply below_drew1) | exact HB.out)) hb); clear HB; have HO181 := n0_; have HB := n1_; clear n0_ n1_; (try clear hb); (try clear hb2); (try clear hk); (try clear hi); (try clear ho0)) | ((with_reducible refine gate_callee (f := 14) rfl ?_); refine goesL_ (some 60) rfl rfl Try.func14 (by kernel_rfl) rfl #[.slice A0 l0.length c0, .int .i64 t174] rfl (by (try simp only [List.map_toArray, List.map_cons, List.map_nil]); first | done | rfl | (simp only [List.length_drop, List.length_take]; rfl)) ?_; (with_reducible refine (dom_Values.calls kj21 _ _ l0 t174 t182 t183 _ ?side1 ?side2 A27.out).mono ?_); (case side1 => repeat (first | exact (Kd.C_below HR0.out HB.out) | (with_reducible refine Kd.C_alloc ?_ _) | (with_reducible refine Kd.C_drewN ?_ _) | (with_reducible refine Kd.C_drew ?_))); (case side2 => exact HC0.out); rintro e w33 ⟨v184, rfl, ho0, hb⟩; refine ⟨_, rfl, ?_⟩; have n0_ := Aside0.mk (Kd.R_elder' (by (with_reducible repeat (first | apply Kd.R_alloc | apply Kd.R_drewN | apply Kd.R_drew)); exact HO181.out) (Kd.R_base ho0) hb); have n1_ := Aside0.mk (Kd.R_lower (Kd.R_new' ho0 (Kd.R_lt (by (with_reducible repeat (first | apply Kd.R_alloc | apply Kd.R_drewN | apply Kd.R_drew)); exact HO181.out))) (below_size (by repeat (first | (with_reducible first | exact HB.out | apply below_alloc | apply pw_below_drewN | apply below_drew1) | exact HB.out)))); have n2_ := Aside0.mk (below_step (by repeat (first | (with_reducible first | exact HB.out | apply below_alloc | apply pw_below_drewN | apply below_drew1) | exact HB.out)) hb); clear HO181; clear HB; have HO181 := n0_; have HO185 := n1_; have HB := n2_; clear n0_ n1_ n2_; (try clear hb); (try clear hb2); (try clear hk); (try clear hi); (try clear ho0)) | ((with_reducible refine gate_callee (f := 14) rfl ?_); refine goesL_ (some 72) rfl rfl Try.func14 (by kernel_rfl) rfl #[.slice A0 l0.length c0, .int .i64 (wrap64 (Int.tmod (IntKind.u64.wrap (a1)) (IntKind.u64.wrap (t174))))] rfl (by (try simp only [List.map_toArray, List.map_cons, List.map_nil]); first | done | rfl | (simp only [List.length_drop, List.length_take]; rfl)) ?_; (with_reducible refine (dom_Values.calls kj21 _ _ l0 (wrap64 (Int.tmod (IntKind.u64.wrap (a1)) (IntKind.u64.wrap (t174)))) t186 t187 _ ?side1 ?side2 A29.out).mono ?_); (case side1 => repeat (first | exact (Kd.C_below HR0.out HB.out) | (with_reducible refine Kd.C_alloc ?_ _) | (with_reducible refine Kd.C_drewN ?_ _) | (with_reducible refine Kd.C_drew ?_))); (case side2 => exact HC0.out); rintro e w34 ⟨v188, rfl, ho0, hb⟩; refine ⟨_, rfl, ?_⟩; have n0_ := Aside0.mk (Kd.R_elder' (by (with_reducible repeat (first | apply Kd.R_alloc | apply Kd.R_drewN | apply Kd.R_drew)); exact HO181.out) (Kd.R_base ho0) hb); have n1_ := Aside0.mk (Kd.R_elder' (by (with_reducible repeat (first | apply Kd.R_alloc | apply Kd.R_drewN | apply Kd.R_drew)); exact HO185.out) (Kd.R_base ho0) hb); have n2_ := Aside0.mk (Kd.R_lower (Kd.R_new' (Kd.R_new' ho0 (Kd.R_lt (by (with_reducible repeat (first | apply Kd.R_alloc | apply Kd.R_drewN | apply Kd.R_drew)); exact HO181.out))) (Kd.R_lt (by (with_reducible repeat (first | apply Kd.R_alloc | apply Kd.R_drewN | apply Kd.R_drew)); exact HO185.out))) (below_size (by repeat (first | (with_reducible first | exact HB.out | apply below_alloc | apply pw_below_drewN | apply below_drew1) | exact HB.out)))); have n3_ := Aside0.mk (below_step (by repeat (first | (with_reducible first | exact HB.out | apply below_alloc | apply pw_below_drewN | apply below_drew1) | exact HB.out)) hb); clear HO181; clear HO185; clear HB; have HO181 := n0_; have HO185 := n1_; have HO189 := n2_; have HB := n3_; clear n0_ n1_ n2_ n3_; (try clear hb); (try clear hb2); (try clear hk); (try clear hi); (try clear ho0); obtain ⟨Ao35, co35, eo35⟩ := Kd.R_slice HO189.out; subst eo35) | ((with_reducible refine gate_callee (f := 15) rfl ?_); refine goesL_ (some 78) rfl rfl Try.func15 (by kernel_rfl) rfl #[.slice A0 l0.length c0, .slice Ao35 t186.length co35] rfl (by (try simp only [List.map_toArray, List.map_cons, List.map_nil]); first | done | rfl | (simp only [List.length_drop, List.length_take]; rfl)) ?_; (with_reducible refine (dom_State.calls kj21 _ _ l0 _ _ t186 t190 t191 _ ?side1 ?side2 ?side3 ?side4 A30.out).mono ?_); (case side1 => repeat (first | exact (Kd.C_below HR0.out HB.out) | (with_reducible refine Kd.C_alloc ?_ _) | (with_reducible refine Kd.C_drewN ?_ _) | (with_reducible refine Kd.C_drew ?_))); (case side2 => exact HC0.out); (case side3 => repeat (first | exact (Kd.R_reads' HO189.out).2.2 | (with_reducible refine Kd.C_alloc ?_ _) | (with_reducible refine Kd.C_drewN ?_ _) | (with_reducible refine Kd.C_drew ?_))); (case side4 => exact (Kd.R_reads' HO189.out).2.1); rintro e w36 ⟨rfl, hb⟩; refine ⟨_, rfl, ?_⟩; have n0_ := Aside0.mk (Kd.R_below (by (with_reducible repeat (first | apply Kd.R_alloc | apply Kd.R_drewN | apply Kd.R_drew)); exact HO181.out) hb); have n1_ := Aside0.mk (Kd.R_below (by (with_reducible repeat (first | apply Kd.R_alloc | apply Kd.R_drewN | apply Kd.R_drew)); exact HO185.out) hb); have n2_ := Aside0.mk (Kd.R_below (by (with_reducible repeat (first | apply Kd.R_alloc | apply Kd.R_drewN | apply Kd.R_drew)); exact HO189.out) hb); have n3_ := Aside0.mk (below_step (by repeat (first | (with_reducible first | exact HB.out | apply below_alloc | apply pw_below_drewN | apply below_drew1) | exact HB.out)) hb); clear HO181; clear HO185; clear HO189; clear HB; have HO181 := n0_; have HO185 := n1_; have HO189 := n2_; have HB := n3_; clear n0_ n1_ n2_ n3_; (try clear hb); (try clear hb2); (try clear hk); (try clear hi)))
                      (try simp only [Act.put, List.setIfInBounds_toArray, List.set_cons_zero, List.set_cons_succ])
                      go_cut [104] (fun v104 wc => ∃ (kq : Nat) (x104_30 : Bool), v104 = .bool x104_30 ∧ Aside0 (parrylaw1_DomBack.j3 kq l0 t186 x104_30 = some r) ∧ Aside0 (kq ≤ kj21) ∧ Aside0 (Kd.R (Kd.int .i64) 3 wc w.heap.size (fun _ => True) (.slice Ao35 t186.length co35) t186) ∧ Aside0 (Below w.heap.size w wc))
                      case first =>
                        have H := HC31.out
                        clear HC31
                        by_cases c37 : t187 = true
                        · subst c37
                          have H1 : (if t191 = true then (if t190 = (wrap64 (Int.tmod (IntKind.u64.wrap (a1)) (IntKind.u64.wrap (t174)))) then (if t179 = true then (parrylaw1_DomBack.j3 kj21 l0 t186 true) else (if t183 = true then (parrylaw1_DomBack.j3 kj21 l0 t186 true) else (parrylaw1_DomBack.j3 kj21 l0 t186 ((t186.length : Int) != (l0.length : Int))))) else (parrylaw1_DomBack.j3 kj21 l0 t186 true)) else (parrylaw1_DomBack.j3 kj21 l0 t186 true)) = some r := by rw [if_pos rfl] at H; exact H
                          clear H
                          have H := H1
                          clear H1
                          by_cases c38 : t191 = true
                          · subst c38
                            have H1 : (if t190 = (wrap64 (Int.tmod (IntKind.u64.wrap (a1)) (IntKind.u64.wrap (t174)))) then (if t179 = true then (parrylaw1_DomBack.j3 kj21 l0 t186 true) else (if t183 = true then (parrylaw1_DomBack.j3 kj21 l0 t186 true) else (parrylaw1_DomBack.j3 kj21 l0 t186 ((t186.length : Int) != (l0.length : Int))))) else (parrylaw1_DomBack.j3 kj21 l0 t186 true)) = some r := by rw [if_pos rfl] at H; exact H
                            clear H
                            have H := H1
                            clear H1
                            by_cases c39 : t190 = (wrap64 (Int.tmod (IntKind.u64.wrap (a1)) (IntKind.u64.wrap (t174))))
                            · rw [if_pos c39] at H
                              have c39b0 : (t190 == (wrap64 (Int.tmod (IntKind.u64.wrap (a1)) (IntKind.u64.wrap (t174))))) = true := beq_iff_eq.mpr c39
                              have c39b1 : (t190 != (wrap64 (Int.tmod (IntKind.u64.wrap (a1)) (IntKind.u64.wrap (t174))))) = false := bne_eq_false_iff_eq.mpr c39
                              clear c39
                              (first | rw [c39b0] | (simp only [i64_w, i32_w]; rw [c39b0]) | skip)
                              by_cases c40 : t179 = true
                              · subst c40
                                have H1 : (parrylaw1_DomBack.j3 kj21 l0 t186 true) = some r := by rw [if_pos rfl] at H; exact H
                                clear H
                                have H := H1
                                clear H1
                                have H' := Aside0.mk H
                                clear H
                                go_wp2
                                go_meet
                                case rel => exact ⟨_, (true), (by first | rfl | (simp; done) | (simp [*]; done)), H', ⟨by have := HJ2.out; have := HK2.out; have := HJ21.out; first | omega | exact Nat.le_refl _⟩, ⟨by (with_reducible repeat (first | apply Kd.R_alloc | apply Kd.R_drewN | apply Kd.R_drew)); exact Kd.R_mono HO189.out (fun _ hk => trivial)⟩, ⟨by repeat (first | (with_reducible first | exact HB.out | apply below_alloc | apply pw_below_drewN | apply below_drew1) | exact HB.out)⟩⟩
                              · replace c40 := Bool.eq_false_iff.mpr c40
                                subst c40
                                have H1 : (if t183 = true then (parrylaw1_DomBack.j3 kj21 l0 t186 true) else (parrylaw1_DomBack.j3 kj21 l0 t186 ((t186.length : Int) != (l0.length : Int)))) = some r := by rw [if_neg (show ¬ (false = true) by decide)] at H; exact H
                                clear H
                                have H := H1
                                clear H1
                                by_cases c41 : t183 = true
                                · subst c41
                                  have H1 : (parrylaw1_DomBack.j3 kj21 l0 t186 true) = some r := by rw [if_pos rfl] at H; exact H
                                  clear H
                                  have H := H1
                                  clear H1
                                  have H' := Aside0.mk H
                                  clear H
                                  go_wp2
                                  go_meet
                                  case rel => exact ⟨_, (true), (by first | rfl | (simp; done) | (simp [*]; done)), H', ⟨by have := HJ2.out; have := HK2.out; have := HJ21.out; first | omega | exact Nat.le_refl _⟩, ⟨by (with_reducible repeat (first | apply Kd.R_alloc | apply Kd.R_drewN | apply Kd.R_drew)); exact Kd.R_mono HO189.out (fun _ hk => trivial)⟩, ⟨by repeat (first | (with_reducible first | exact HB.out | apply below_alloc | apply pw_below_drewN | apply below_drew1) | exact HB.out)⟩⟩
                                · replace c41 := Bool.eq_false_iff.mpr c41
                                  subst c41
                                  have H1 : (parrylaw1_DomBack.j3 kj21 l0 t186 ((t186.length : Int) != (l0.length : Int))) = some r := by rw [if_neg (show ¬ (false = true) by decide)] at H; exact H
                                  clear H
                                  have H := H1
                                  clear H1
                                  have H' := Aside0.mk H
                                  clear H
                                  go_wp2
                                  go_meet
                                  case rel => exact ⟨_, (((t186.length : Int) != (l0.length : Int))), (by first | rfl | (simp; done) | (simp [*]; done)), H', ⟨by have := HJ2.out; have := HK2.out; have := HJ21.out; first | omega | exact Nat.le_refl _⟩, ⟨by (with_reducible repeat (first | apply Kd.R_alloc | apply Kd.R_drewN | apply Kd.R_drew)); exact Kd.R_mono HO189.out (fun _ hk => trivial)⟩, ⟨by repeat (first | (with_reducible first | exact HB.out | apply below_alloc | apply pw_below_drewN | apply below_drew1) | exact HB.out)⟩⟩
                            · rw [if_neg c39] at H
                              have c39b0 : (t190 == (wrap64 (Int.tmod (IntKind.u64.wrap (a1)) (IntKind.u64.wrap (t174))))) = false := beq_eq_false_iff_ne.mpr c39
                              have c39b1 : (t190 != (wrap64 (Int.tmod (IntKind.u64.wrap (a1)) (IntKind.u64.wrap (t174))))) = true := bne_iff_ne.mpr c39
                              (first | rw [c39b0] | (simp only [i64_w, i32_w]; rw [c39b0]) | skip)
                              have H' := Aside0.mk H
                              clear H
                              go_wp2
                              go_meet
                              case rel => exact ⟨_, (true), (by first | rfl | (simp; done) | (simp [*]; done)), H', ⟨by have := HJ2.out; have := HK2.out; have := HJ21.out; first | omega | exact Nat.le_refl _⟩, ⟨by (with_reducible repeat (first | apply Kd.R_alloc | apply Kd.R_drewN | apply Kd.R_drew)); exact Kd.R_mono HO189.out (fun _ hk => trivial)⟩, ⟨by repeat (first | (with_reducible first | exact HB.out | apply below_alloc | apply pw_below_drewN | apply below_drew1) | exact HB.out)⟩⟩
                          · replace c38 := Bool.eq_false_iff.mpr c38
                            subst c38
                            have H1 : (parrylaw1_DomBack.j3 kj21 l0 t186 true) = some r := by rw [if_neg (show ¬ (false = true) by decide)] at H; exact H
                            clear H
                            have H := H1
                            clear H1
                            have H' := Aside0.mk H
                            clear H
                            go_wp2
                            go_meet
                            case rel => exact ⟨_, (true), (by first | rfl | (simp; done) | (simp [*]; done)), H', ⟨by have := HJ2.out; have := HK2.out; have := HJ21.out; first | omega | exact Nat.le_refl _⟩, ⟨by (with_reducible repeat (first | apply Kd.R_alloc | apply Kd.R_drewN | apply Kd.R_drew)); exact Kd.R_mono HO189.out (fun _ hk => trivial)⟩, ⟨by repeat (first | (with_reducible first | exact HB.out | apply below_alloc | apply pw_below_drewN | apply below_drew1) | exact HB.out)⟩⟩
                        · replace c37 := Bool.eq_false_iff.mpr c37
                          subst c37
                          have H1 : (parrylaw1_DomBack.j3 kj21 l0 t186 true) = some r := by rw [if_neg (show ¬ (false = true) by decide)] at H; exact H
                          clear H
                          have H := H1
                          clear H1
                          have H' := Aside0.mk H
                          clear H
                          go_wp2
                          go_meet
                          case rel => exact ⟨_, (true), (by first | rfl | (simp; done) | (simp [*]; done)), H', ⟨by have := HJ2.out; have := HK2.out; have := HJ21.out; first | omega | exact Nat.le_refl _⟩, ⟨by (with_reducible repeat (first | apply Kd.R_alloc | apply Kd.R_drewN | apply Kd.R_drew)); exact Kd.R_mono HO189.out (fun _ hk => trivial)⟩, ⟨by repeat (first | (with_reducible first | exact HB.out | apply below_alloc | apply pw_below_drewN | apply below_drew1) | exact HB.out)⟩⟩
                      case rest =>
                        clear HC31
                        try clear c1
                        try clear p1
                        try clear q1
                        try clear hx1
                        try clear c2
                        try clear p2
                        try clear c3
                        try clear c4
                        try clear c5
                        try clear c5b0
                        try clear p6
                        try clear c9
                        try clear c10
                        try clear c11
                        try clear c12
                        try clear c13
                        try clear c14
                        try clear c15
                        try clear c15b0
                        try clear c16
                        try clear c16b0
                        try clear c17
                        try clear c17b0
                        try clear p17
                        try clear q17
                        try clear hx17
                        try clear c23
                        try clear c23b0
                        try clear c23b1
                        try clear c24
                        try clear c24b0
                        try clear c25
                        try clear c28
                        try clear c28b0
                        try clear c28b1
                        try clear c37
                        try clear c38
                        try clear c39
                        try clear c39b0
                        try clear c39b1
                        try clear c40
                        try clear c41
                        try clear hcz20_0
                        try clear hcz20_1
                        try clear hcz20_2
                        try clear hcz20_3
                        try clear hcz20_4
                        try clear hfz20_0
                        try clear hfz20_1
                        try clear hfz20_2
                        try clear hfz20_3
                        try clear hfz20_4
                        try clear hx175_0
                        try clear hx175_1
                        try clear hx175_2
                        try clear hx175_3
                        try clear hx175_4
                        try clear p1
                        try clear p17
                        try clear p175
                        try clear p2
                        try clear p6
                        try clear q1
                        try clear q17
                        try clear q175
                        obtain ⟨kq, x104_30, rfl, HA, HJ30, HO_13, HB⟩ := hcut
                        cases kq with
                        | zero => exact absurd HA.out (by simp [parrylaw1_DomBack.j3])
                        | succ kj30 =>
                          have H := HA.out
                          clear HA
                          simp only [parrylaw1_DomBack.j3] at H
                          by_cases c42 : x104_30 = true
                          · subst c42
                            have H1 : (some false) = some r := by rw [if_pos rfl] at H; exact H
                            clear H
                            have H := H1
                            clear H1
                            obtain rfl := Option.some.inj H
                            go_wp2
                            go_ret
                            exact ⟨by first | rfl | (simp [errW_none, errW_some] <;> rfl) | (simp [*, errW_none, errW_some] <;> rfl), by repeat (first | (with_reducible first | exact HB.out | apply below_alloc | apply pw_below_drewN | apply below_drew1) | exact HB.out)⟩
                          · replace c42 := Bool.eq_false_iff.mpr c42
                            subst c42
                            have H1 : (parrylaw1_DomBack.l1 kj30 l0 t186 (t186.length : Int) 0) = some r := by rw [if_neg (show ¬ (false = true) by decide)] at H; exact H
                            clear H
                            have H := H1
                            clear H1
                            have H' := Aside0.mk H
                            clear H
                            go_wp2
                            go_loopg [107] kj30 (fun kq v107 w' => ∃ (x107_5 : Int), v107 = .int .i64 x107_5 ∧ Aside0 (parrylaw1_DomBack.l1 kq l0 t186 (t186.length : Int) x107_5 = some r) ∧ Aside0 (kq ≤ kj30) ∧ Aside0 (Kd.R (Kd.int .i64) 3 w' w.heap.size (fun _ => True) (.slice Ao35 t186.length co35) t186) ∧ Aside0 (Below w.heap.size w w'))
                            case atStart => exact ⟨(0), (by first | rfl | (simp; done) | (simp [*]; done)), H', ⟨Nat.le_refl _⟩, ⟨by (with_reducible repeat (first | apply Kd.R_alloc | apply Kd.R_drewN | apply Kd.R_drew)); exact HO_13.out⟩, ⟨by repeat (first | (with_reducible first | exact HB.out | apply below_alloc | apply pw_below_drewN | apply below_drew1) | exact HB.out)⟩⟩
                            case round =>
                              clear H'
                              try clear c1
                              try clear p1
                              try clear q1
                              try clear hx1
                              try clear c2
                              try clear p2
                              try clear c3
                              try clear c4
                              try clear c5
                              try clear c5b0
                              try clear p6
                              try clear c9
                              try clear c10
                              try clear c11
                              try clear c12
                              try clear c13
                              try clear c14
                              try clear c15
                              try clear c15b0
                              try clear c16
                              try clear c16b0
                              try clear c17
                              try clear c17b0
                              try clear p17
                              try clear q17
                              try clear hx17
                              try clear c23
                              try clear c23b0
                              try clear c23b1
                              try clear c24
                              try clear c24b0
                              try clear c25
                              try clear c28
                              try clear c28b0
                              try clear c28b1
                              try clear c37
                              try clear c38
                              try clear c39
                              try clear c39b0
                              try clear c39b1
                              try clear c40
                              try clear c41
                              try clear c42
                              try clear hcz20_0
                              try clear hcz20_1
                              try clear hcz20_2
                              try clear hcz20_3
                              try clear hcz20_4
                              try clear hfz20_0
                              try clear hfz20_1
                              try clear hfz20_2
                              try clear hfz20_3
                              try clear hfz20_4
                              try clear hx175_0
                              try clear hx175_1
                              try clear hx175_2
                              try clear hx175_3
                              try clear hx175_4
                              try clear p1
                              try clear p17
                              try clear p175
                              try clear p2
                              try clear p6
                              try clear q1
                              try clear q17
                              try clear q175
                              obtain ⟨x107_5, rfl, HA, HK5, HO_105, HB⟩ := hrel
                              cases gk with
                              | zero => exact absurd HA.out (by simp [parrylaw1_DomBack.l1])
                              | succ k5 =>
                                have H := HA.out
                                clear HA
                                simp only [parrylaw1_DomBack.l1] at H
                                by_cases c43 : x107_5 < (t186.length : Int)
                                · rw [if_pos c43] at H
                                  have c43b0 : decide (x107_5 < (t186.length : Int)) = true := decide_eq_true c43
                                  clear c43
                                  by_cases c44 : 0 ≤ x107_5
                                  · rw [if_pos c44] at H
                                    have c44b0 : decide (0 ≤ x107_5) = true := decide_eq_true c44
                                    clear c44
                                    by_cases c45 : x107_5 < (t186.length : Int)
                                    · rw [if_pos c45] at H
                                      have c45b0 : decide (x107_5 < (t186.length : Int)) = true := decide_eq_true c45
                                      clear c45
                                      by_cases c46 : x107_5 < (l0.length : Int)
                                      · rw [if_pos c46] at H
                                        have c46b0 : decide (x107_5 < (l0.length : Int)) = true := decide_eq_true c46
                                        clear c46
                                        by_cases c47 : (rd t186 x107_5) < ((rd_T28 l0 x107_5).f3)
                                        · rw [if_pos c47] at H
                                          have c47b0 : decide ((rd t186 x107_5) < ((rd_T28 l0 x107_5).f3)) = true := decide_eq_true c47
                                          clear c47
                                          obtain rfl := Option.some.inj H
                                          have p192 : 0 ≤ (x107_5 : Int) := of_decide_eq_true (by first | (with_reducible assumption) | assumption)
                                          have q192 : x107_5 < (t186.length : Int) := of_decide_eq_true (by first | (with_reducible assumption) | assumption)
                                          obtain ⟨ad192, e192, hx192_0⟩ := Kd.at_int (Kd.R_reads' HO_105.out).2.2 x107_5 p192 q192
                                          cases e192
                                          replace p192 := eq_true p192
                                          replace q192 := eq_true q192
                                          try go_wp2
                                          have n0_ := Aside0.mk (Kd.R_drew HO_105.out)
                                          have n1_ := Aside0.mk (below_drew1 HB.out)
                                          clear HO_105
                                          clear HB
                                          have HO_105 := n0_
                                          have HB := n1_
                                          clear n0_ n1_
                                          have p193 : 0 ≤ (x107_5 : Int) := of_decide_eq_true (by first | (with_reducible assumption) | assumption)
                                          have q193 : x107_5 < (l0.length : Int) := of_decide_eq_true (by first | (with_reducible assumption) | assumption)
                                          obtain ⟨ad193, e193, hx193_0, hx193_1, hx193_2, hx193_3, hx193_4⟩ := at_T28 HR0.out x107_5 p193 q193
                                          have hw193_4 := hx193_4
                                          have hw193_3 := hx193_3
                                          have hw193_2 := hx193_2
                                          have hw193_1 := hx193_1
                                          have hw193_0 := hx193_0
                                          cases e193
                                          replace hx193_0 := (HB.out.cell (World.block_lt_of_cell? w _ hx193_0)).trans hx193_0
                                          replace hx193_1 := (HB.out.cell (World.block_lt_of_cell? w _ hx193_1)).trans hx193_1
                                          replace hx193_2 := (HB.out.cell (World.block_lt_of_cell? w _ hx193_2)).trans hx193_2
                                          replace hx193_3 := (HB.out.cell (World.block_lt_of_cell? w _ hx193_3)).trans hx193_3
                                          replace hx193_4 := (HB.out.cell (World.block_lt_of_cell? w _ hx193_4)).trans hx193_4
                                          replace p193 := eq_true p193
                                          replace q193 := eq_true q193
                                          refine start_ (n := 22) (S := fun w' => w'.cell? (ad193.add ((x107_5).toNat * 5)) = some (.string ((rd_T28 l0 x107_5).f0)) ∧ w'.cell? ⟨(ad193.add ((x107_5).toNat * 5)).block, (ad193.add ((x107_5).toNat * 5)).off + 1, none⟩ = some (.bool ((rd_T28 l0 x107_5).f1)) ∧ w'.cell? ⟨(ad193.add ((x107_5).toNat * 5)).block, (ad193.add ((x107_5).toNat * 5)).off + 2, none⟩ = some (.int .i64 ((rd_T28 l0 x107_5).f2)) ∧ w'.cell? ⟨(ad193.add ((x107_5).toNat * 5)).block, (ad193.add ((x107_5).toNat * 5)).off + 3, none⟩ = some (.int .i64 ((rd_T28 l0 x107_5).f3)) ∧ w'.cell? ⟨(ad193.add ((x107_5).toNat * 5)).block, (ad193.add ((x107_5).toNat * 5)).off + 4, none⟩ = some (.int .i64 ((rd_T28 l0 x107_5).f4))) (ds := []) #[false, false, false, false, false, false, false, false, false, false, false, false, false, false, false, false, false, false, false, false, false, false] (by kernel_rfl) rfl rfl ⟨((HB.out.cell (World.block_lt_of_cell? w _ hw193_0)).trans hw193_0), ((HB.out.cell (World.block_lt_of_cell? w _ hw193_1)).trans hw193_1), ((HB.out.cell (World.block_lt_of_cell? w _ hw193_2)).trans hw193_2), ((HB.out.cell (World.block_lt_of_cell? w _ hw193_3)).trans hw193_3), ((HB.out.cell (World.block_lt_of_cell? w _ hw193_4)).trans hw193_4)⟩ (fun hHeld => ?_); refine with_tabW parrylaw1_DomBack.tab21 parrylaw1_DomBack.bits21 (fun HT_ HW_ => ?_)
                                          generalize wr.drew = w48 at HO_105 HB hx193_0 hx193_1 hx193_2 hx193_3 hx193_4 hHeld ⊢
                                          refine pure_ (i := 0) (N := some 112) (v := ?_) (a' := ?_) #[true, false, false, false, false, false, false, false, false, false, false, false, false, false, false, false, false, false, false, false, false, false] rfl rfl (any_of HT_.out (by kernel_rfl)) (fun _ _ _ h => h) (Or.inl ⟨by rfl, ?_⟩) ?_ ?_
                                          rotate_left
                                          · intro w'
                                            go_simp
                                            with_reducible rfl
                                          rotate_left
                                          · simp only [Act.put, List.setIfInBounds_toArray, List.set_cons_zero, List.set_cons_succ, i64_w, i32_w]
                                            rfl
                                          refine pure_ (i := 1) (N := some 113) (v := ?_) (a' := ?_) #[true, true, false, false, false, false, false, false, false, false, false, false, false, false, false, false, false, false, false, false, false, false] rfl rfl (any_of HT_.out (by kernel_rfl)) (fun _ _ _ h => h) (Or.inl ⟨by rfl, ?_⟩) ?_ ?_
                                          rotate_left
                                          · intro w'
                                            go_simp
                                            with_reducible rfl
                                          rotate_left
                                          · simp only [Act.put, List.setIfInBounds_toArray, List.set_cons_zero, List.set_cons_succ, i64_w, i32_w]
                                            rfl
                                          refine pure_ (i := 2) (N := some 114) (v := ?_) (a' := ?_) #[true, true, true, false, false, false, false, false, false, false, false, false, false, false, false, false, false, false, false, false, false, false] rfl rfl (any_of HT_.out (by kernel_rfl)) (fun _ _ _ h => h) (Or.inl ⟨by rfl, ?_⟩) ?_ ?_
                                          rotate_left
                                          · intro w'
                                            go_simp
                                            with_reducible rfl
                                          rotate_left
                                          · simp only [Act.put, List.setIfInBounds_toArray, List.set_cons_zero, List.set_cons_succ, i64_w, i32_w]
                                            rfl
                                          refine pure_ (i := 3) (N := some 115) (v := ?_) (a' := ?_) #[true, true, true, true, false, false, false, false, false, false, false, false, false, false, false, false, false, false, false, false, false, false] rfl rfl (any_of HT_.out (by kernel_rfl)) (fun _ _ _ h => h) (Or.inl ⟨by rfl, ?_⟩) ?_ ?_
                                          rotate_left
                                          · intro w'
                                            go_simp
                                            with_reducible rfl
                                          rotate_left
                                          · simp only [Act.put, List.setIfInBounds_toArray, List.set_cons_zero, List.set_cons_succ, i64_w, i32_w]
                                            rfl
                                          refine pure_ (i := 4) (N := some 116) (v := ?_) (a' := ?_) #[true, true, true, true, true, false, false, false, false, false, false, false, false, false, false, false, false, false, false, false, false, false] rfl rfl (any_of HT_.out (by kernel_rfl)) (fun _ _ _ h => h) (Or.inl ⟨by rfl, ?_⟩) ?_ ?_
                                          rotate_left
                                          · intro w'
                                            go_simp
                                            with_reducible rfl
                                          rotate_left
                                          · simp only [Act.put, List.setIfInBounds_toArray, List.set_cons_zero, List.set_cons_succ, i64_w, i32_w]
                                            rfl
                                          refine take_ (i := 5) (N := some 117) (v := ?_) (a' := ?_) #[true, true, true, true, true, true, false, false, false, false, false, false, false, false, false, false, false, false, false, false, false, false] rfl rfl (take_ofW HT_.out HW_.out (by kernel_rfl)) (fun _ _ _ h => h) (Or.inl ⟨by rfl, ?_⟩) hHeld ?_ ?_
                                          rotate_left
                                          · rintro w' ⟨s0, s1, s2, s3, s4⟩
                                            go_simp
                                            with_reducible rfl
                                          rotate_left
                                          · simp only [Act.put, List.setIfInBounds_toArray, List.set_cons_zero, List.set_cons_succ, i64_w, i32_w]
                                            rfl
                                          refine pure_ (i := 6) (N := some 118) (v := ?_) (a' := ?_) #[true, true, true, true, true, true, true, false, false, false, false, false, false, false, false, false, false, false, false, false, false, false] rfl rfl (any_of HT_.out (by kernel_rfl)) (fun _ _ _ h => h) (Or.inl ⟨by rfl, ?_⟩) ?_ ?_
                                          rotate_left
                                          · intro w'
                                            go_simp
                                            with_reducible rfl
                                          rotate_left
                                          · simp only [Act.put, List.setIfInBounds_toArray, List.set_cons_zero, List.set_cons_succ, i64_w, i32_w]
                                            rfl
                                          refine pure_ (i := 7) (N := some 119) (v := ?_) (a' := ?_) #[true, true, true, true, true, true, true, true, false, false, false, false, false, false, false, false, false, false, false, false, false, false] rfl rfl (any_of HT_.out (by kernel_rfl)) (fun _ _ _ h => h) (Or.inl ⟨by rfl, ?_⟩) ?_ ?_
                                          rotate_left
                                          · intro w'
                                            go_simp
                                            with_reducible rfl
                                          rotate_left
                                          · simp only [Act.put, List.setIfInBounds_toArray, List.set_cons_zero, List.set_cons_succ, i64_w, i32_w]
                                            rfl
                                          refine pure_ (i := 8) (N := some 120) (v := undef) (a' := ?_) #[true, true, true, true, true, true, true, true, true, false, false, false, false, false, false, false, false, false, false, false, false, false] rfl rfl (any_of HT_.out (by kernel_rfl)) (fun _ _ _ h => h) (Or.inr ⟨by rfl, rfl⟩) ?_ ?_
                                          rotate_left
                                          · simp only [Act.put, List.setIfInBounds_toArray, List.set_cons_zero, List.set_cons_succ, i64_w, i32_w]
                                            rfl
                                          refine pure_ (i := 9) (N := some 121) (v := undef) (a' := ?_) #[true, true, true, true, true, true, true, true, true, true, false, false, false, false, false, false, false, false, false, false, false, false] rfl rfl (any_of HT_.out (by kernel_rfl)) (fun _ _ _ h => h) (Or.inr ⟨by rfl, rfl⟩) ?_ ?_
                                          rotate_left
                                          · simp only [Act.put, List.setIfInBounds_toArray, List.set_cons_zero, List.set_cons_succ, i64_w, i32_w]
                                            rfl
                                          refine pure_ (i := 10) (N := some 122) (v := undef) (a' := ?_) #[true, true, true, true, true, true, true, true, true, true, true, false, false, false, false, false, false, false, false, false, false, false] rfl rfl (any_of HT_.out (by kernel_rfl)) (fun _ _ _ h => h) (Or.inr ⟨by rfl, rfl⟩) ?_ ?_
                                          rotate_left
                                          · simp only [Act.put, List.setIfInBounds_toArray, List.set_cons_zero, List.set_cons_succ, i64_w, i32_w]
                                            rfl
                                          refine pure_ (i := 11) (N := some 123) (v := undef) (a' := ?_) #[true, true, true, true, true, true, true, true, true, true, true, true, false, false, false, false, false, false, false, false, false, false] rfl rfl (any_of HT_.out (by kernel_rfl)) (fun _ _ _ h => h) (Or.inr ⟨by rfl, rfl⟩) ?_ ?_
                                          rotate_left
                                          · simp only [Act.put, List.setIfInBounds_toArray, List.set_cons_zero, List.set_cons_succ, i64_w, i32_w]
                                            rfl
                                          refine pure_ (i := 12) (N := some 124) (v := undef) (a' := ?_) #[true, true, true, true, true, true, true, true, true, true, true, true, true, false, false, false, false, false, false, false, false, false] rfl rfl (any_of HT_.out (by kernel_rfl)) (fun _ _ _ h => h) (Or.inr ⟨by rfl, rfl⟩) ?_ ?_
                                          rotate_left
                                          · simp only [Act.put, List.setIfInBounds_toArray, List.set_cons_zero, List.set_cons_succ, i64_w, i32_w]
                                            rfl
                                          refine pure_ (i := 13) (N := some 125) (v := undef) (a' := ?_) #[true, true, true, true, true, true, true, true, true, true, true, true, true, true, false, false, false, false, false, false, false, false] rfl rfl (any_of HT_.out (by kernel_rfl)) (fun _ _ _ h => h) (Or.inr ⟨by rfl, rfl⟩) ?_ ?_
                                          rotate_left
                                          · simp only [Act.put, List.setIfInBounds_toArray, List.set_cons_zero, List.set_cons_succ, i64_w, i32_w]
                                            rfl
                                          refine pure_ (i := 14) (N := some 126) (v := undef) (a' := ?_) #[true, true, true, true, true, true, true, true, true, true, true, true, true, true, true, false, false, false, false, false, false, false] rfl rfl (any_of HT_.out (by kernel_rfl)) (fun _ _ _ h => h) (Or.inr ⟨by rfl, rfl⟩) ?_ ?_
                                          rotate_left
                                          · simp only [Act.put, List.setIfInBounds_toArray, List.set_cons_zero, List.set_cons_succ, i64_w, i32_w]
                                            rfl
                                          refine pure_ (i := 15) (N := some 127) (v := undef) (a' := ?_) #[true, true, true, true, true, true, true, true, true, true, true, true, true, true, true, true, false, false, false, false, false, false] rfl rfl (any_of HT_.out (by kernel_rfl)) (fun _ _ _ h => h) (Or.inr ⟨by rfl, rfl⟩) ?_ ?_
                                          rotate_left
                                          · simp only [Act.put, List.setIfInBounds_toArray, List.set_cons_zero, List.set_cons_succ, i64_w, i32_w]
                                            rfl
                                          refine pure_ (i := 16) (N := some 128) (v := undef) (a' := ?_) #[true, true, true, true, true, true, true, true, true, true, true, true, true, true, true, true, true, false, false, false, false, false] rfl rfl (any_of HT_.out (by kernel_rfl)) (fun _ _ _ h => h) (Or.inr ⟨by rfl, rfl⟩) ?_ ?_
                                          rotate_left
                                          · simp only [Act.put, List.setIfInBounds_toArray, List.set_cons_zero, List.set_cons_succ, i64_w, i32_w]
                                            rfl
                                          refine pure_ (i := 17) (N := some 129) (v := undef) (a' := ?_) #[true, true, true, true, true, true, true, true, true, true, true, true, true, true, true, true, true, true, false, false, false, false] rfl rfl (any_of HT_.out (by kernel_rfl)) (fun _ _ _ h => h) (Or.inr ⟨by rfl, rfl⟩) ?_ ?_
                                          rotate_left
                                          · simp only [Act.put, List.setIfInBounds_toArray, List.set_cons_zero, List.set_cons_succ, i64_w, i32_w]
                                            rfl
                                          refine pure_ (i := 18) (N := some 130) (v := undef) (a' := ?_) #[true, true, true, true, true, true, true, true, true, true, true, true, true, true, true, true, true, true, true, false, false, false] rfl rfl (any_of HT_.out (by kernel_rfl)) (fun _ _ _ h => h) (Or.inr ⟨by rfl, rfl⟩) ?_ ?_
                                          rotate_left
                                          · simp only [Act.put, List.setIfInBounds_toArray, List.set_cons_zero, List.set_cons_succ, i64_w, i32_w]
                                            rfl
                                          refine pure_ (i := 19) (N := some 131) (v := undef) (a' := ?_) #[true, true, true, true, true, true, true, true, true, true, true, true, true, true, true, true, true, true, true, true, false, false] rfl rfl (any_of HT_.out (by kernel_rfl)) (fun _ _ _ h => h) (Or.inr ⟨by rfl, rfl⟩) ?_ ?_
                                          rotate_left
                                          · simp only [Act.put, List.setIfInBounds_toArray, List.set_cons_zero, List.set_cons_succ, i64_w, i32_w]
                                            rfl
                                          refine pure_ (i := 20) (N := some 132) (v := undef) (a' := ?_) #[true, true, true, true, true, true, true, true, true, true, true, true, true, true, true, true, true, true, true, true, true, false] rfl rfl (any_of HT_.out (by kernel_rfl)) (fun _ _ _ h => h) (Or.inr ⟨by rfl, rfl⟩) ?_ ?_
                                          rotate_left
                                          · simp only [Act.put, List.setIfInBounds_toArray, List.set_cons_zero, List.set_cons_succ, i64_w, i32_w]
                                            rfl
                                          refine pure_ (i := 21) (N := some 133) (v := ?_) (a' := ?_) #[true, true, true, true, true, true, true, true, true, true, true, true, true, true, true, true, true, true, true, true, true, true] rfl rfl (any_of HT_.out (by kernel_rfl)) (fun _ _ _ h => h) (Or.inl ⟨by rfl, ?_⟩) ?_ ?_
                                          rotate_left
                                          · intro w'
                                            go_simp
                                            with_reducible rfl
                                          rotate_left
                                          · simp only [Act.put, List.setIfInBounds_toArray, List.set_cons_zero, List.set_cons_succ, i64_w, i32_w]
                                            rfl
                                          refine done_ (done_of HT_.out (by kernel_rfl)) ?_
                                          try go_wp2
                                          go_ret
                                          exact ⟨by first | rfl | (simp [errW_none, errW_some] <;> rfl) | (simp [*, errW_none, errW_some] <;> rfl), by repeat (first | (with_reducible first | exact HB.out | apply below_alloc | apply pw_below_drewN | apply below_drew1) | exact HB.out)⟩
                                        · rw [if_neg c47] at H
                                          have c47b0 : decide ((rd t186 x107_5) < ((rd_T28 l0 x107_5).f3)) = false := decide_eq_false c47
                                          clear c47
                                          replace H := Option.bind_eq_some_iff.mp H
                                          obtain ⟨t196, A490, H⟩ := H
                                          replace H : (if (rd t186 x107_5) ≥ (wrap64 (((rd_T28 l0 x107_5).f3) + t196)) then (some false) else (parrylaw1_DomBack.l1 k5 l0 t186 (t186.length : Int) (wrap64 (x107_5 + 1)))) = some r := H
                                          have A49 := Aside0.mk A490
                                          clear A490
                                          by_cases c50 : (rd t186 x107_5) ≥ (wrap64 (((rd_T28 l0 x107_5).f3) + t196))
                                          · rw [if_pos c50] at H
                                            have c50b0 : decide ((wrap64 (((rd_T28 l0 x107_5).f3) + t196)) ≤ (rd t186 x107_5)) = true := decide_eq_true c50
                                            clear c50
                                            obtain rfl := Option.some.inj H
                                            have p192 : 0 ≤ (x107_5 : Int) := of_decide_eq_true (by first | (with_reducible assumption) | assumption)
                                            have q192 : x107_5 < (t186.length : Int) := of_decide_eq_true (by first | (with_reducible assumption) | assumption)
                                            obtain ⟨ad192, e192, hx192_0⟩ := Kd.at_int (Kd.R_reads' HO_105.out).2.2 x107_5 p192 q192
                                            cases e192
                                            replace p192 := eq_true p192
                                            replace q192 := eq_true q192
                                            try go_wp2
                                            have n0_ := Aside0.mk (Kd.R_drew HO_105.out)
                                            have n1_ := Aside0.mk (below_drew1 HB.out)
                                            clear HO_105
                                            clear HB
                                            have HO_105 := n0_
                                            have HB := n1_
                                            clear n0_ n1_
                                            have p193 : 0 ≤ (x107_5 : Int) := of_decide_eq_true (by first | (with_reducible assumption) | assumption)
                                            have q193 : x107_5 < (l0.length : Int) := of_decide_eq_true (by first | (with_reducible assumption) | assumption)
                                            obtain ⟨ad193, e193, hx193_0, hx193_1, hx193_2, hx193_3, hx193_4⟩ := at_T28 HR0.out x107_5 p193 q193
                                            have hw193_4 := hx193_4
                                            have hw193_3 := hx193_3
                                            have hw193_2 := hx193_2
                                            have hw193_1 := hx193_1
                                            have hw193_0 := hx193_0
                                            cases e193
                                            replace hx193_0 := (HB.out.cell (World.block_lt_of_cell? w _ hx193_0)).trans hx193_0
                                            replace hx193_1 := (HB.out.cell (World.block_lt_of_cell? w _ hx193_1)).trans hx193_1
                                            replace hx193_2 := (HB.out.cell (World.block_lt_of_cell? w _ hx193_2)).trans hx193_2
                                            replace hx193_3 := (HB.out.cell (World.block_lt_of_cell? w _ hx193_3)).trans hx193_3
                                            replace hx193_4 := (HB.out.cell (World.block_lt_of_cell? w _ hx193_4)).trans hx193_4
                                            replace p193 := eq_true p193
                                            replace q193 := eq_true q193
                                            have p194 : 0 ≤ (x107_5 : Int) := of_decide_eq_true (by first | (with_reducible assumption) | assumption)
                                            have q194 : x107_5 < (l0.length : Int) := of_decide_eq_true (by first | (with_reducible assumption) | assumption)
                                            obtain ⟨ad194, e194, hx194_0, hx194_1, hx194_2, hx194_3, hx194_4⟩ := at_T28 HR0.out x107_5 p194 q194
                                            have hw194_4 := hx194_4
                                            have hw194_3 := hx194_3
                                            have hw194_2 := hx194_2
                                            have hw194_1 := hx194_1
                                            have hw194_0 := hx194_0
                                            obtain rfl : ad193 = ad194 := (by injection e194)
                                            replace hx194_0 := (HB.out.cell (World.block_lt_of_cell? w _ hx194_0)).trans hx194_0
                                            replace hx194_1 := (HB.out.cell (World.block_lt_of_cell? w _ hx194_1)).trans hx194_1
                                            replace hx194_2 := (HB.out.cell (World.block_lt_of_cell? w _ hx194_2)).trans hx194_2
                                            replace hx194_3 := (HB.out.cell (World.block_lt_of_cell? w _ hx194_3)).trans hx194_3
                                            replace hx194_4 := (HB.out.cell (World.block_lt_of_cell? w _ hx194_4)).trans hx194_4
                                            replace p194 := eq_true p194
                                            replace q194 := eq_true q194
                                            have p195 : 0 ≤ (x107_5 : Int) := of_decide_eq_true (by first | (with_reducible assumption) | assumption)
                                            have q195 : x107_5 < (l0.length : Int) := of_decide_eq_true (by first | (with_reducible assumption) | assumption)
                                            obtain ⟨ad195, e195, hx195_0, hx195_1, hx195_2, hx195_3, hx195_4⟩ := at_T28 HR0.out x107_5 p195 q195
                                            have hw195_4 := hx195_4
                                            have hw195_3 := hx195_3
                                            have hw195_2 := hx195_2
                                            have hw195_1 := hx195_1
                                            have hw195_0 := hx195_0
                                            obtain rfl : ad193 = ad195 := (by injection e195)
                                            replace hx195_0 := (HB.out.cell (World.block_lt_of_cell? w _ hx195_0)).trans hx195_0
                                            replace hx195_1 := (HB.out.cell (World.block_lt_of_cell? w _ hx195_1)).trans hx195_1
                                            replace hx195_2 := (HB.out.cell (World.block_lt_of_cell? w _ hx195_2)).trans hx195_2
                                            replace hx195_3 := (HB.out.cell (World.block_lt_of_cell? w _ hx195_3)).trans hx195_3
                                            replace hx195_4 := (HB.out.cell (World.block_lt_of_cell? w _ hx195_4)).trans hx195_4
                                            replace p195 := eq_true p195
                                            replace q195 := eq_true q195
                                            refine start_ (n := 22) (S := fun w' => w'.cell? (ad193.add ((x107_5).toNat * 5)) = some (.string ((rd_T28 l0 x107_5).f0)) ∧ w'.cell? ⟨(ad193.add ((x107_5).toNat * 5)).block, (ad193.add ((x107_5).toNat * 5)).off + 1, none⟩ = some (.bool ((rd_T28 l0 x107_5).f1)) ∧ w'.cell? ⟨(ad193.add ((x107_5).toNat * 5)).block, (ad193.add ((x107_5).toNat * 5)).off + 2, none⟩ = some (.int .i64 ((rd_T28 l0 x107_5).f2)) ∧ w'.cell? ⟨(ad193.add ((x107_5).toNat * 5)).block, (ad193.add ((x107_5).toNat * 5)).off + 3, none⟩ = some (.int .i64 ((rd_T28 l0 x107_5).f3)) ∧ w'.cell? ⟨(ad193.add ((x107_5).toNat * 5)).block, (ad193.add ((x107_5).toNat * 5)).off + 4, none⟩ = some (.int .i64 ((rd_T28 l0 x107_5).f4)) ∧ w'.cell? (ad193.add ((x107_5).toNat * 5)) = some (.string ((rd_T28 l0 x107_5).f0)) ∧ w'.cell? ⟨(ad193.add ((x107_5).toNat * 5)).block, (ad193.add ((x107_5).toNat * 5)).off + 1, none⟩ = some (.bool ((rd_T28 l0 x107_5).f1)) ∧ w'.cell? ⟨(ad193.add ((x107_5).toNat * 5)).block, (ad193.add ((x107_5).toNat * 5)).off + 2, none⟩ = some (.int .i64 ((rd_T28 l0 x107_5).f2)) ∧ w'.cell? ⟨(ad193.add ((x107_5).toNat * 5)).block, (ad193.add ((x107_5).toNat * 5)).off + 3, none⟩ = some (.int .i64 ((rd_T28 l0 x107_5).f3)) ∧ w'.cell? ⟨(ad193.add ((x107_5).toNat * 5)).block, (ad193.add ((x107_5).toNat * 5)).off + 4, none⟩ = some (.int .i64 ((rd_T28 l0 x107_5).f4)) ∧ w'.cell? (ad193.add ((x107_5).toNat * 5)) = some (.string ((rd_T28 l0 x107_5).f0)) ∧ w'.cell? ⟨(ad193.add ((x107_5).toNat * 5)).block, (ad193.add ((x107_5).toNat * 5)).off + 1, none⟩ = some (.bool ((rd_T28 l0 x107_5).f1)) ∧ w'.cell? ⟨(ad193.add ((x107_5).toNat * 5)).block, (ad193.add ((x107_5).toNat * 5)).off + 2, none⟩ = some (.int .i64 ((rd_T28 l0 x107_5).f2)) ∧ w'.cell? ⟨(ad193.add ((x107_5).toNat * 5)).block, (ad193.add ((x107_5).toNat * 5)).off + 3, none⟩ = some (.int .i64 ((rd_T28 l0 x107_5).f3)) ∧ w'.cell? ⟨(ad193.add ((x107_5).toNat * 5)).block, (ad193.add ((x107_5).toNat * 5)).off + 4, none⟩ = some (.int .i64 ((rd_T28 l0 x107_5).f4))) (ds := []) #[false, false, false, false, false, false, false, false, false, false, false, false, false, false, false, false, false, false, false, false, false, false] (by kernel_rfl) rfl rfl ⟨((HB.out.cell (World.block_lt_of_cell? w _ hw193_0)).trans hw193_0), ((HB.out.cell (World.block_lt_of_cell? w _ hw193_1)).trans hw193_1), ((HB.out.cell (World.block_lt_of_cell? w _ hw193_2)).trans hw193_2), ((HB.out.cell (World.block_lt_of_cell? w _ hw193_3)).trans hw193_3), ((HB.out.cell (World.block_lt_of_cell? w _ hw193_4)).trans hw193_4), ((HB.out.cell (World.block_lt_of_cell? w _ hw194_0)).trans hw194_0), ((HB.out.cell (World.block_lt_of_cell? w _ hw194_1)).trans hw194_1), ((HB.out.cell (World.block_lt_of_cell? w _ hw194_2)).trans hw194_2), ((HB.out.cell (World.block_lt_of_cell? w _ hw194_3)).trans hw194_3), ((HB.out.cell (World.block_lt_of_cell? w _ hw194_4)).trans hw194_4), ((HB.out.cell (World.block_lt_of_cell? w _ hw195_0)).trans hw195_0), ((HB.out.cell (World.block_lt_of_cell? w _ hw195_1)).trans hw195_1), ((HB.out.cell (World.block_lt_of_cell? w _ hw195_2)).trans hw195_2), ((HB.out.cell (World.block_lt_of_cell? w _ hw195_3)).trans hw195_3), ((HB.out.cell (World.block_lt_of_cell? w _ hw195_4)).trans hw195_4)⟩ (fun hHeld => ?_); refine with_tabW parrylaw1_DomBack.tab21 parrylaw1_DomBack.bits21 (fun HT_ HW_ => ?_)
                                            generalize wr.drew = w51 at HO_105 HB hx193_0 hx193_1 hx193_2 hx193_3 hx193_4 hx194_0 hx194_1 hx194_2 hx194_3 hx194_4 hx195_0 hx195_1 hx195_2 hx195_3 hx195_4 hHeld ⊢
                                            refine pure_ (i := 0) (N := some 112) (v := ?_) (a' := ?_) #[true, false, false, false, false, false, false, false, false, false, false, false, false, false, false, false, false, false, false, false, false, false] rfl rfl (any_of HT_.out (by kernel_rfl)) (fun _ _ _ h => h) (Or.inl ⟨by rfl, ?_⟩) ?_ ?_
                                            rotate_left
                                            · intro w'
                                              go_simp
                                              with_reducible rfl
                                            rotate_left
                                            · simp only [Act.put, List.setIfInBounds_toArray, List.set_cons_zero, List.set_cons_succ, i64_w, i32_w]
                                              rfl
                                            refine pure_ (i := 1) (N := some 113) (v := ?_) (a' := ?_) #[true, true, false, false, false, false, false, false, false, false, false, false, false, false, false, false, false, false, false, false, false, false] rfl rfl (any_of HT_.out (by kernel_rfl)) (fun _ _ _ h => h) (Or.inl ⟨by rfl, ?_⟩) ?_ ?_
                                            rotate_left
                                            · intro w'
                                              go_simp
                                              with_reducible rfl
                                            rotate_left
                                            · simp only [Act.put, List.setIfInBounds_toArray, List.set_cons_zero, List.set_cons_succ, i64_w, i32_w]
                                              rfl
                                            refine pure_ (i := 2) (N := some 114) (v := ?_) (a' := ?_) #[true, true, true, false, false, false, false, false, false, false, false, false, false, false, false, false, false, false, false, false, false, false] rfl rfl (any_of HT_.out (by kernel_rfl)) (fun _ _ _ h => h) (Or.inl ⟨by rfl, ?_⟩) ?_ ?_
                                            rotate_left
                                            · intro w'
                                              go_simp
                                              with_reducible rfl
                                            rotate_left
                                            · simp only [Act.put, List.setIfInBounds_toArray, List.set_cons_zero, List.set_cons_succ, i64_w, i32_w]
                                              rfl
                                            refine pure_ (i := 3) (N := some 115) (v := ?_) (a' := ?_) #[true, true, true, true, false, false, false, false, false, false, false, false, false, false, false, false, false, false, false, false, false, false] rfl rfl (any_of HT_.out (by kernel_rfl)) (fun _ _ _ h => h) (Or.inl ⟨by rfl, ?_⟩) ?_ ?_
                                            rotate_left
                                            · intro w'
                                              go_simp
                                              with_reducible rfl
                                            rotate_left
                                            · simp only [Act.put, List.setIfInBounds_toArray, List.set_cons_zero, List.set_cons_succ, i64_w, i32_w]
                                              rfl
                                            refine pure_ (i := 4) (N := some 116) (v := ?_) (a' := ?_) #[true, true, true, true, true, false, false, false, false, false, false, false, false, false, false, false, false, false, false, false, false, false] rfl rfl (any_of HT_.out (by kernel_rfl)) (fun _ _ _ h => h) (Or.inl ⟨by rfl, ?_⟩) ?_ ?_
                                            rotate_left
                                            · intro w'
                                              go_simp
                                              with_reducible rfl
                                            rotate_left
                                            · simp only [Act.put, List.setIfInBounds_toArray, List.set_cons_zero, List.set_cons_succ, i64_w, i32_w]
                                              rfl
                                            refine take_ (i := 5) (N := some 117) (v := ?_) (a' := ?_) #[true, true, true, true, true, true, false, false, false, false, false, false, false, false, false, false, false, false, false, false, false, false] rfl rfl (take_ofW HT_.out HW_.out (by kernel_rfl)) (fun _ _ _ h => h) (Or.inl ⟨by rfl, ?_⟩) hHeld ?_ ?_
                                            rotate_left
                                            · rintro w' ⟨s0, s1, s2, s3, s4, s5, s6, s7, s8, s9, s10, s11, s12, s13, s14⟩
                                              go_simp
                                              with_reducible rfl
                                            rotate_left
                                            · simp only [Act.put, List.setIfInBounds_toArray, List.set_cons_zero, List.set_cons_succ, i64_w, i32_w]
                                              rfl
                                            refine pure_ (i := 6) (N := some 118) (v := ?_) (a' := ?_) #[true, true, true, true, true, true, true, false, false, false, false, false, false, false, false, false, false, false, false, false, false, false] rfl rfl (any_of HT_.out (by kernel_rfl)) (fun _ _ _ h => h) (Or.inl ⟨by rfl, ?_⟩) ?_ ?_
                                            rotate_left
                                            · intro w'
                                              go_simp
                                              with_reducible rfl
                                            rotate_left
                                            · simp only [Act.put, List.setIfInBounds_toArray, List.set_cons_zero, List.set_cons_succ, i64_w, i32_w]
                                              rfl
                                            refine pure_ (i := 7) (N := some 119) (v := ?_) (a' := ?_) #[true, true, true, true, true, true, true, true, false, false, false, false, false, false, false, false, false, false, false, false, false, false] rfl rfl (any_of HT_.out (by kernel_rfl)) (fun _ _ _ h => h) (Or.inl ⟨by rfl, ?_⟩) ?_ ?_
                                            rotate_left
                                            · intro w'
                                              go_simp
                                              with_reducible rfl
                                            rotate_left
                                            · simp only [Act.put, List.setIfInBounds_toArray, List.set_cons_zero, List.set_cons_succ, i64_w, i32_w]
                                              rfl
                                            refine pure_ (i := 8) (N := some 120) (v := ?_) (a' := ?_) #[true, true, true, true, true, true, true, true, true, false, false, false, false, false, false, false, false, false, false, false, false, false] rfl rfl (any_of HT_.out (by kernel_rfl)) (fun _ _ _ h => h) (Or.inl ⟨by rfl, ?_⟩) ?_ ?_
                                            rotate_left
                                            · intro w'
                                              go_simp
                                              with_reducible rfl
                                            rotate_left
                                            · simp only [Act.put, List.setIfInBounds_toArray, List.set_cons_zero, List.set_cons_succ, i64_w, i32_w]
                                              rfl
                                            refine pure_ (i := 9) (N := some 121) (v := ?_) (a' := ?_) #[true, true, true, true, true, true, true, true, true, true, false, false, false, false, false, false, false, false, false, false, false, false] rfl rfl (any_of HT_.out (by kernel_rfl)) (fun _ _ _ h => h) (Or.inl ⟨by rfl, ?_⟩) ?_ ?_
                                            rotate_left
                                            · intro w'
                                              go_simp
                                              with_reducible rfl
                                            rotate_left
                                            · simp only [Act.put, List.setIfInBounds_toArray, List.set_cons_zero, List.set_cons_succ, i64_w, i32_w]
                                              rfl
                                            refine pure_ (i := 10) (N := some 122) (v := ?_) (a' := ?_) #[true, true, true, true, true, true, true, true, true, true, true, false, false, false, false, false, false, false, false, false, false, false] rfl rfl (any_of HT_.out (by kernel_rfl)) (fun _ _ _ h => h) (Or.inl ⟨by rfl, ?_⟩) ?_ ?_
                                            rotate_left
                                            · intro w'
                                              go_simp
                                              with_reducible rfl
                                            rotate_left
                                            · simp only [Act.put, List.setIfInBounds_toArray, List.set_cons_zero, List.set_cons_succ, i64_w, i32_w]
                                              rfl
                                            refine pure_ (i := 11) (N := some 123) (v := ?_) (a' := ?_) #[true, true, true, true, true, true, true, true, true, true, true, true, false, false, false, false, false, false, false, false, false, false] rfl rfl (any_of HT_.out (by kernel_rfl)) (fun _ _ _ h => h) (Or.inl ⟨by rfl, ?_⟩) ?_ ?_
                                            rotate_left
                                            · intro w'
                                              go_simp
                                              with_reducible rfl
                                            rotate_left
                                            · simp only [Act.put, List.setIfInBounds_toArray, List.set_cons_zero, List.set_cons_succ, i64_w, i32_w]
                                              rfl
                                            refine pure_ (i := 12) (N := some 124) (v := ?_) (a' := ?_) #[true, true, true, true, true, true, true, true, true, true, true, true, true, false, false, false, false, false, false, false, false, false] rfl rfl (any_of HT_.out (by kernel_rfl)) (fun _ _ _ h => h) (Or.inl ⟨by rfl, ?_⟩) ?_ ?_
                                            rotate_left
                                            · intro w'
                                              go_simp
                                              with_reducible rfl
                                            rotate_left
                                            · simp only [Act.put, List.setIfInBounds_toArray, List.set_cons_zero, List.set_cons_succ, i64_w, i32_w]
                                              rfl
                                            refine pure_ (i := 14) (N := some 126) (v := ?_) (a' := ?_) #[true, true, true, true, true, true, true, true, true, true, true, true, true, false, true, false, false, false, false, false, false, false] rfl rfl (any_of HT_.out (by kernel_rfl)) (fun _ _ _ h => h) (Or.inl ⟨by rfl, ?_⟩) ?_ ?_
                                            rotate_left
                                            · intro w'
                                              go_simp
                                              with_reducible rfl
                                            rotate_left
                                            · simp only [Act.put, List.setIfInBounds_toArray, List.set_cons_zero, List.set_cons_succ, i64_w, i32_w]
                                              rfl
                                            refine pure_ (i := 15) (N := some 127) (v := ?_) (a' := ?_) #[true, true, true, true, true, true, true, true, true, true, true, true, true, false, true, true, false, false, false, false, false, false] rfl rfl (any_of HT_.out (by kernel_rfl)) (fun _ _ _ h => h) (Or.inl ⟨by rfl, ?_⟩) ?_ ?_
                                            rotate_left
                                            · intro w'
                                              go_simp
                                              with_reducible rfl
                                            rotate_left
                                            · simp only [Act.put, List.setIfInBounds_toArray, List.set_cons_zero, List.set_cons_succ, i64_w, i32_w]
                                              rfl
                                            refine pure_ (i := 16) (N := some 128) (v := ?_) (a' := ?_) #[true, true, true, true, true, true, true, true, true, true, true, true, true, false, true, true, true, false, false, false, false, false] rfl rfl (any_of HT_.out (by kernel_rfl)) (fun _ _ _ h => h) (Or.inl ⟨by rfl, ?_⟩) ?_ ?_
                                            rotate_left
                                            · intro w'
                                              go_simp
                                              with_reducible rfl
                                            rotate_left
                                            · simp only [Act.put, List.setIfInBounds_toArray, List.set_cons_zero, List.set_cons_succ, i64_w, i32_w]
                                              rfl
                                            refine take_ (i := 13) (N := some 125) (v := ?_) (a' := ?_) #[true, true, true, true, true, true, true, true, true, true, true, true, true, true, true, true, true, false, false, false, false, false] rfl rfl (take_ofW HT_.out HW_.out (by kernel_rfl)) (fun _ _ _ h => h) (Or.inl ⟨by rfl, ?_⟩) hHeld ?_ ?_
                                            rotate_left
                                            · rintro w' ⟨s0, s1, s2, s3, s4, s5, s6, s7, s8, s9, s10, s11, s12, s13, s14⟩
                                              go_simp
                                              with_reducible rfl
                                            rotate_left
                                            · simp only [Act.put, List.setIfInBounds_toArray, List.set_cons_zero, List.set_cons_succ, i64_w, i32_w]
                                              rfl
                                            refine take_ (i := 17) (N := some 129) (v := ?_) (a' := ?_) #[true, true, true, true, true, true, true, true, true, true, true, true, true, true, true, true, true, true, false, false, false, false] rfl rfl (take_ofW HT_.out HW_.out (by kernel_rfl)) (fun _ _ _ h => h) (Or.inl ⟨by rfl, ?_⟩) hHeld ?_ ?_
                                            rotate_left
                                            · rintro w' ⟨s0, s1, s2, s3, s4, s5, s6, s7, s8, s9, s10, s11, s12, s13, s14⟩
                                              go_simp
                                              with_reducible rfl
                                            rotate_left
                                            · simp only [Act.put, List.setIfInBounds_toArray, List.set_cons_zero, List.set_cons_succ, i64_w, i32_w]
                                              rfl
                                            refine one_ (i := 18) (N := some 130) #[true, true, true, true, true, true, true, true, true, true, true, true, true, true, true, true, true, true, true, false, false, false] rfl rfl (one_of HT_.out (by kernel_rfl)) (by decide) (fun K hK => ?_)
                                            refine goes_ Try.func13 (by kernel_rfl) rfl #[.agg #[.string ((rd_T28 l0 x107_5).f0), .bool ((rd_T28 l0 x107_5).f1), .int .i64 ((rd_T28 l0 x107_5).f2), .int .i64 ((rd_T28 l0 x107_5).f3), .int .i64 ((rd_T28 l0 x107_5).f4)]] (by rfl) rfl rfl (by (try simp only [List.map_toArray, List.map_cons, List.map_nil]); first | done | rfl | (simp only [List.length_drop, List.length_take]; rfl)) ?_
                                            with_reducible refine (dom_Size.calls ((rd_T28 l0 x107_5).f0) ((rd_T28 l0 x107_5).f1) ((rd_T28 l0 x107_5).f2) ((rd_T28 l0 x107_5).f3) ((rd_T28 l0 x107_5).f4) t196 _ A49.out).mono ?_
                                            rintro e w52 ⟨rfl, hb⟩
                                            refine ⟨_, rfl, ?_⟩
                                            have n0_ := Aside0.mk (Kd.R_below (by (with_reducible repeat (first | apply Kd.R_alloc | apply Kd.R_drewN | apply Kd.R_drew)); exact HO_105.out) hb)
                                            have n1_ := Aside0.mk (below_step (by repeat (first | (with_reducible first | exact HB.out | apply below_alloc | apply pw_below_drewN | apply below_drew1) | exact HB.out)) hb)
                                            clear HO_105
                                            clear HB
                                            have HO_105 := n0_
                                            have HB := n1_
                                            clear n0_ n1_
                                            (try clear hb)
                                            (try clear hb2)
                                            (try clear hk)
                                            (try clear hi)
                                            refine hK.out _ _ ⟨((HB.out.cell (World.block_lt_of_cell? w _ hw193_0)).trans hw193_0), ((HB.out.cell (World.block_lt_of_cell? w _ hw193_1)).trans hw193_1), ((HB.out.cell (World.block_lt_of_cell? w _ hw193_2)).trans hw193_2), ((HB.out.cell (World.block_lt_of_cell? w _ hw193_3)).trans hw193_3), ((HB.out.cell (World.block_lt_of_cell? w _ hw193_4)).trans hw193_4), ((HB.out.cell (World.block_lt_of_cell? w _ hw194_0)).trans hw194_0), ((HB.out.cell (World.block_lt_of_cell? w _ hw194_1)).trans hw194_1), ((HB.out.cell (World.block_lt_of_cell? w _ hw194_2)).trans hw194_2), ((HB.out.cell (World.block_lt_of_cell? w _ hw194_3)).trans hw194_3), ((HB.out.cell (World.block_lt_of_cell? w _ hw194_4)).trans hw194_4), ((HB.out.cell (World.block_lt_of_cell? w _ hw195_0)).trans hw195_0), ((HB.out.cell (World.block_lt_of_cell? w _ hw195_1)).trans hw195_1), ((HB.out.cell (World.block_lt_of_cell? w _ hw195_2)).trans hw195_2), ((HB.out.cell (World.block_lt_of_cell? w _ hw195_3)).trans hw195_3), ((HB.out.cell (World.block_lt_of_cell? w _ hw195_4)).trans hw195_4)⟩ (fun hHeld => ?_)
                                            clear hK K
                                            refine norm_ (a' := ?_) ?_ ?_
                                            rotate_left
                                            · show Act.put _ (some 130) _ = _
                                              simp only [Act.put, List.setIfInBounds_toArray, List.set_cons_zero, List.set_cons_succ, i64_w, i32_w]
                                              rfl
                                            refine pure_ (i := 19) (N := some 131) (v := ?_) (a' := ?_) #[true, true, true, true, true, true, true, true, true, true, true, true, true, true, true, true, true, true, true, true, false, false] rfl rfl (any_of HT_.out (by kernel_rfl)) (fun _ _ _ h => h) (Or.inl ⟨by rfl, ?_⟩) ?_ ?_
                                            rotate_left
                                            · intro w'
                                              go_simp
                                              with_reducible rfl
                                            rotate_left
                                            · simp only [Act.put, List.setIfInBounds_toArray, List.set_cons_zero, List.set_cons_succ, i64_w, i32_w]
                                              rfl
                                            refine pure_ (i := 20) (N := some 132) (v := ?_) (a' := ?_) #[true, true, true, true, true, true, true, true, true, true, true, true, true, true, true, true, true, true, true, true, true, false] rfl rfl (any_of HT_.out (by kernel_rfl)) (fun _ _ _ h => h) (Or.inl ⟨by rfl, ?_⟩) ?_ ?_
                                            rotate_left
                                            · intro w'
                                              go_simp
                                              with_reducible rfl
                                            rotate_left
                                            · simp only [Act.put, List.setIfInBounds_toArray, List.set_cons_zero, List.set_cons_succ, i64_w, i32_w]
                                              rfl
                                            refine pure_ (i := 21) (N := some 133) (v := ?_) (a' := ?_) #[true, true, true, true, true, true, true, true, true, true, true, true, true, true, true, true, true, true, true, true, true, true] rfl rfl (any_of HT_.out (by kernel_rfl)) (fun _ _ _ h => h) (Or.inl ⟨by rfl, ?_⟩) ?_ ?_
                                            rotate_left
                                            · intro w'
                                              go_simp
                                              with_reducible rfl
                                            rotate_left
                                            · simp only [Act.put, List.setIfInBounds_toArray, List.set_cons_zero, List.set_cons_succ, i64_w, i32_w]
                                              rfl
                                            refine done_ (done_of HT_.out (by kernel_rfl)) ?_
                                            try go_wp2
                                            go_ret
                                            exact ⟨by first | rfl | (simp [errW_none, errW_some] <;> rfl) | (simp [*, errW_none, errW_some] <;> rfl), by repeat (first | (with_reducible first | exact HB.out | apply below_alloc | apply pw_below_drewN | apply below_drew1) | exact HB.out)⟩
                                          · rw [if_neg c50] at H
                                            have c50b0 : decide ((wrap64 (((rd_T28 l0 x107_5).f3) + t196)) ≤ (rd t186 x107_5)) = false := decide_eq_false c50
                                            clear c50
                                            have H' := Aside0.mk H
                                            clear H
                                            have p192 : 0 ≤ (x107_5 : Int) := of_decide_eq_true (by first | (with_reducible assumption) | assumption)
                                            have q192 : x107_5 < (t186.length : Int) := of_decide_eq_true (by first | (with_reducible assumption) | assumption)
                                            obtain ⟨ad192, e192, hx192_0⟩ := Kd.at_int (Kd.R_reads' HO_105.out).2.2 x107_5 p192 q192
                                            cases e192
                                            replace p192 := eq_true p192
                                            replace q192 := eq_true q192
                                            try go_wp2
                                            have n0_ := Aside0.mk (Kd.R_drew HO_105.out)
                                            have n1_ := Aside0.mk (below_drew1 HB.out)
                                            clear HO_105
                                            clear HB
                                            have HO_105 := n0_
                                            have HB := n1_
                                            clear n0_ n1_
                                            have p193 : 0 ≤ (x107_5 : Int) := of_decide_eq_true (by first | (with_reducible assumption) | assumption)
                                            have q193 : x107_5 < (l0.length : Int) := of_decide_eq_true (by first | (with_reducible assumption) | assumption)
                                            obtain ⟨ad193, e193, hx193_0, hx193_1, hx193_2, hx193_3, hx193_4⟩ := at_T28 HR0.out x107_5 p193 q193
                                            have hw193_4 := hx193_4
                                            have hw193_3 := hx193_3
                                            have hw193_2 := hx193_2
                                            have hw193_1 := hx193_1
                                            have hw193_0 := hx193_0
                                            cases e193
                                            replace hx193_0 := (HB.out.cell (World.block_lt_of_cell? w _ hx193_0)).trans hx193_0
                                            replace hx193_1 := (HB.out.cell (World.block_lt_of_cell? w _ hx193_1)).trans hx193_1
                                            replace hx193_2 := (HB.out.cell (World.block_lt_of_cell? w _ hx193_2)).trans hx193_2
                                            replace hx193_3 := (HB.out.cell (World.block_lt_of_cell? w _ hx193_3)).trans hx193_3
                                            replace hx193_4 := (HB.out.cell (World.block_lt_of_cell? w _ hx193_4)).trans hx193_4
                                            replace p193 := eq_true p193
                                            replace q193 := eq_true q193
                                            have p194 : 0 ≤ (x107_5 : Int) := of_decide_eq_true (by first | (with_reducible assumption) | assumption)
                                            have q194 : x107_5 < (l0.length : Int) := of_decide_eq_true (by first | (with_reducible assumption) | assumption)
                                            obtain ⟨ad194, e194, hx194_0, hx194_1, hx194_2, hx194_3, hx194_4⟩ := at_T28 HR0.out x107_5 p194 q194
                                            have hw194_4 := hx194_4
                                            have hw194_3 := hx194_3
                                            have hw194_2 := hx194_2
                                            have hw194_1 := hx194_1
                                            have hw194_0 := hx194_0
                                            obtain rfl : ad193 = ad194 := (by injection e194)
                                            replace hx194_0 := (HB.out.cell (World.block_lt_of_cell? w _ hx194_0)).trans hx194_0
                                            replace hx194_1 := (HB.out.cell (World.block_lt_of_cell? w _ hx194_1)).trans hx194_1
                                            replace hx194_2 := (HB.out.cell (World.block_lt_of_cell? w _ hx194_2)).trans hx194_2
                                            replace hx194_3 := (HB.out.cell (World.block_lt_of_cell? w _ hx194_3)).trans hx194_3
                                            replace hx194_4 := (HB.out.cell (World.block_lt_of_cell? w _ hx194_4)).trans hx194_4
                                            replace p194 := eq_true p194
                                            replace q194 := eq_true q194
                                            have p195 : 0 ≤ (x107_5 : Int) := of_decide_eq_true (by first | (with_reducible assumption) | assumption)
                                            have q195 : x107_5 < (l0.length : Int) := of_decide_eq_true (by first | (with_reducible assumption) | assumption)
                                            obtain ⟨ad195, e195, hx195_0, hx195_1, hx195_2, hx195_3, hx195_4⟩ := at_T28 HR0.out x107_5 p195 q195
                                            have hw195_4 := hx195_4
                                            have hw195_3 := hx195_3
                                            have hw195_2 := hx195_2
                                            have hw195_1 := hx195_1
                                            have hw195_0 := hx195_0
                                            obtain rfl : ad193 = ad195 := (by injection e195)
                                            replace hx195_0 := (HB.out.cell (World.block_lt_of_cell? w _ hx195_0)).trans hx195_0
                                            replace hx195_1 := (HB.out.cell (World.block_lt_of_cell? w _ hx195_1)).trans hx195_1
                                            replace hx195_2 := (HB.out.cell (World.block_lt_of_cell? w _ hx195_2)).trans hx195_2
                                            replace hx195_3 := (HB.out.cell (World.block_lt_of_cell? w _ hx195_3)).trans hx195_3
                                            replace hx195_4 := (HB.out.cell (World.block_lt_of_cell? w _ hx195_4)).trans hx195_4
                                            replace p195 := eq_true p195
                                            replace q195 := eq_true q195
                                            refine start_ (n := 22) (S := fun w' => w'.cell? (ad193.add ((x107_5).toNat * 5)) = some (.string ((rd_T28 l0 x107_5).f0)) ∧ w'.cell? ⟨(ad193.add ((x107_5).toNat * 5)).block, (ad193.add ((x107_5).toNat * 5)).off + 1, none⟩ = some (.bool ((rd_T28 l0 x107_5).f1)) ∧ w'.cell? ⟨(ad193.add ((x107_5).toNat * 5)).block, (ad193.add ((x107_5).toNat * 5)).off + 2, none⟩ = some (.int .i64 ((rd_T28 l0 x107_5).f2)) ∧ w'.cell? ⟨(ad193.add ((x107_5).toNat * 5)).block, (ad193.add ((x107_5).toNat * 5)).off + 3, none⟩ = some (.int .i64 ((rd_T28 l0 x107_5).f3)) ∧ w'.cell? ⟨(ad193.add ((x107_5).toNat * 5)).block, (ad193.add ((x107_5).toNat * 5)).off + 4, none⟩ = some (.int .i64 ((rd_T28 l0 x107_5).f4)) ∧ w'.cell? (ad193.add ((x107_5).toNat * 5)) = some (.string ((rd_T28 l0 x107_5).f0)) ∧ w'.cell? ⟨(ad193.add ((x107_5).toNat * 5)).block, (ad193.add ((x107_5).toNat * 5)).off + 1, none⟩ = some (.bool ((rd_T28 l0 x107_5).f1)) ∧ w'.cell? ⟨(ad193.add ((x107_5).toNat * 5)).block, (ad193.add ((x107_5).toNat * 5)).off + 2, none⟩ = some (.int .i64 ((rd_T28 l0 x107_5).f2)) ∧ w'.cell? ⟨(ad193.add ((x107_5).toNat * 5)).block, (ad193.add ((x107_5).toNat * 5)).off + 3, none⟩ = some (.int .i64 ((rd_T28 l0 x107_5).f3)) ∧ w'.cell? ⟨(ad193.add ((x107_5).toNat * 5)).block, (ad193.add ((x107_5).toNat * 5)).off + 4, none⟩ = some (.int .i64 ((rd_T28 l0 x107_5).f4)) ∧ w'.cell? (ad193.add ((x107_5).toNat * 5)) = some (.string ((rd_T28 l0 x107_5).f0)) ∧ w'.cell? ⟨(ad193.add ((x107_5).toNat * 5)).block, (ad193.add ((x107_5).toNat * 5)).off + 1, none⟩ = some (.bool ((rd_T28 l0 x107_5).f1)) ∧ w'.cell? ⟨(ad193.add ((x107_5).toNat * 5)).block, (ad193.add ((x107_5).toNat * 5)).off + 2, none⟩ = some (.int .i64 ((rd_T28 l0 x107_5).f2)) ∧ w'.cell? ⟨(ad193.add ((x107_5).toNat * 5)).block, (ad193.add ((x107_5).toNat * 5)).off + 3, none⟩ = some (.int .i64 ((rd_T28 l0 x107_5).f3)) ∧ w'.cell? ⟨(ad193.add ((x107_5).toNat * 5)).block, (ad193.add ((x107_5).toNat * 5)).off + 4, none⟩ = some (.int .i64 ((rd_T28 l0 x107_5).f4))) (ds := []) #[false, false, false, false, false, false, false, false, false, false, false, false, false, false, false, false, false, false, false, false, false, false] (by kernel_rfl) rfl rfl ⟨((HB.out.cell (World.block_lt_of_cell? w _ hw193_0)).trans hw193_0), ((HB.out.cell (World.block_lt_of_cell? w _ hw193_1)).trans hw193_1), ((HB.out.cell (World.block_lt_of_cell? w _ hw193_2)).trans hw193_2), ((HB.out.cell (World.block_lt_of_cell? w _ hw193_3)).trans hw193_3), ((HB.out.cell (World.block_lt_of_cell? w _ hw193_4)).trans hw193_4), ((HB.out.cell (World.block_lt_of_cell? w _ hw194_0)).trans hw194_0), ((HB.out.cell (World.block_lt_of_cell? w _ hw194_1)).trans hw194_1), ((HB.out.cell (World.block_lt_of_cell? w _ hw194_2)).trans hw194_2), ((HB.out.cell (World.block_lt_of_cell? w _ hw194_3)).trans hw194_3), ((HB.out.cell (World.block_lt_of_cell? w _ hw194_4)).trans hw194_4), ((HB.out.cell (World.block_lt_of_cell? w _ hw195_0)).trans hw195_0), ((HB.out.cell (World.block_lt_of_cell? w _ hw195_1)).trans hw195_1), ((HB.out.cell (World.block_lt_of_cell? w _ hw195_2)).trans hw195_2), ((HB.out.cell (World.block_lt_of_cell? w _ hw195_3)).trans hw195_3), ((HB.out.cell (World.block_lt_of_cell? w _ hw195_4)).trans hw195_4)⟩ (fun hHeld => ?_); refine with_tabW parrylaw1_DomBack.tab21 parrylaw1_DomBack.bits21 (fun HT_ HW_ => ?_)
                                            generalize wr.drew = w53 at HO_105 HB hx193_0 hx193_1 hx193_2 hx193_3 hx193_4 hx194_0 hx194_1 hx194_2 hx194_3 hx194_4 hx195_0 hx195_1 hx195_2 hx195_3 hx195_4 hHeld ⊢
                                            refine pure_ (i := 0) (N := some 112) (v := ?_) (a' := ?_) #[true, false, false, false, false, false, false, false, false, false, false, false, false, false, false, false, false, false, false, false, false, false] rfl rfl (any_of HT_.out (by kernel_rfl)) (fun _ _ _ h => h) (Or.inl ⟨by rfl, ?_⟩) ?_ ?_
                                            rotate_left
                                            · intro w'
                                              go_simp
                                              with_reducible rfl
                                            rotate_left
                                            · simp only [Act.put, List.setIfInBounds_toArray, List.set_cons_zero, List.set_cons_succ, i64_w, i32_w]
                                              rfl
                                            refine pure_ (i := 1) (N := some 113) (v := ?_) (a' := ?_) #[true, true, false, false, false, false, false, false, false, false, false, false, false, false, false, false, false, false, false, false, false, false] rfl rfl (any_of HT_.out (by kernel_rfl)) (fun _ _ _ h => h) (Or.inl ⟨by rfl, ?_⟩) ?_ ?_
                                            rotate_left
                                            · intro w'
                                              go_simp
                                              with_reducible rfl
                                            rotate_left
                                            · simp only [Act.put, List.setIfInBounds_toArray, List.set_cons_zero, List.set_cons_succ, i64_w, i32_w]
                                              rfl
                                            refine pure_ (i := 2) (N := some 114) (v := ?_) (a' := ?_) #[true, true, true, false, false, false, false, false, false, false, false, false, false, false, false, false, false, false, false, false, false, false] rfl rfl (any_of HT_.out (by kernel_rfl)) (fun _ _ _ h => h) (Or.inl ⟨by rfl, ?_⟩) ?_ ?_
                                            rotate_left
                                            · intro w'
                                              go_simp
                                              with_reducible rfl
                                            rotate_left
                                            · simp only [Act.put, List.setIfInBounds_toArray, List.set_cons_zero, List.set_cons_succ, i64_w, i32_w]
                                              rfl
                                            refine pure_ (i := 3) (N := some 115) (v := ?_) (a' := ?_) #[true, true, true, true, false, false, false, false, false, false, false, false, false, false, false, false, false, false, false, false, false, false] rfl rfl (any_of HT_.out (by kernel_rfl)) (fun _ _ _ h => h) (Or.inl ⟨by rfl, ?_⟩) ?_ ?_
                                            rotate_left
                                            · intro w'
                                              go_simp
                                              with_reducible rfl
                                            rotate_left
                                            · simp only [Act.put, List.setIfInBounds_toArray, List.set_cons_zero, List.set_cons_succ, i64_w, i32_w]
                                              rfl
                                            refine pure_ (i := 4) (N := some 116) (v := ?_) (a' := ?_) #[true, true, true, true, true, false, false, false, false, false, false, false, false, false, false, false, false, false, false, false, false, false] rfl rfl (any_of HT_.out (by kernel_rfl)) (fun _ _ _ h => h) (Or.inl ⟨by rfl, ?_⟩) ?_ ?_
                                            rotate_left
                                            · intro w'
                                              go_simp
                                              with_reducible rfl
                                            rotate_left
                                            · simp only [Act.put, List.setIfInBounds_toArray, List.set_cons_zero, List.set_cons_succ, i64_w, i32_w]
                                              rfl
                                            refine take_ (i := 5) (N := some 117) (v := ?_) (a' := ?_) #[true, true, true, true, true, true, false, false, false, false, false, false, false, false, false, false, false, false, false, false, false, false] rfl rfl (take_ofW HT_.out HW_.out (by kernel_rfl)) (fun _ _ _ h => h) (Or.inl ⟨by rfl, ?_⟩) hHeld ?_ ?_
                                            rotate_left
                                            · rintro w' ⟨s0, s1, s2, s3, s4, s5, s6, s7, s8, s9, s10, s11, s12, s13, s14⟩
                                              go_simp
                                              with_reducible rfl
                                            rotate_left
                                            · simp only [Act.put, List.setIfInBounds_toArray, List.set_cons_zero, List.set_cons_succ, i64_w, i32_w]
                                              rfl
                                            refine pure_ (i := 6) (N := some 118) (v := ?_) (a' := ?_) #[true, true, true, true, true, true, true, false, false, false, false, false, false, false, false, false, false, false, false, false, false, false] rfl rfl (any_of HT_.out (by kernel_rfl)) (fun _ _ _ h => h) (Or.inl ⟨by rfl, ?_⟩) ?_ ?_
                                            rotate_left
                                            · intro w'
                                              go_simp
                                              with_reducible rfl
                                            rotate_left
                                            · simp only [Act.put, List.setIfInBounds_toArray, List.set_cons_zero, List.set_cons_succ, i64_w, i32_w]
                                              rfl
                                            refine pure_ (i := 7) (N := some 119) (v := ?_) (a' := ?_) #[true, true, true, true, true, true, true, true, false, false, false, false, false, false, false, false, false, false, false, false, false, false] rfl rfl (any_of HT_.out (by kernel_rfl)) (fun _ _ _ h => h) (Or.inl ⟨by rfl, ?_⟩) ?_ ?_
                                            rotate_left
                                            · intro w'
                                              go_simp
                                              with_reducible rfl
                                            rotate_left
                                            · simp only [Act.put, List.setIfInBounds_toArray, List.set_cons_zero, List.set_cons_succ, i64_w, i32_w]
                                              rfl
                                            refine pure_ (i := 8) (N := some 120) (v := ?_) (a' := ?_) #[true, true, true, true, true, true, true, true, true, false, false, false, false, false, false, false, false, false, false, false, false, false] rfl rfl (any_of HT_.out (by kernel_rfl)) (fun _ _ _ h => h) (Or.inl ⟨by rfl, ?_⟩) ?_ ?_
                                            rotate_left
                                            · intro w'
                                              go_simp
                                              with_reducible rfl
                                            rotate_left
                                            · simp only [Act.put, List.setIfInBounds_toArray, List.set_cons_zero, List.set_cons_succ, i64_w, i32_w]
                                              rfl
                                            refine pure_ (i := 9) (N := some 121) (v := ?_) (a' := ?_) #[true, true, true, true, true, true, true, true, true, true, false, false, false, false, false, false, false, false, false, false, false, false] rfl rfl (any_of HT_.out (by kernel_rfl)) (fun _ _ _ h => h) (Or.inl ⟨by rfl, ?_⟩) ?_ ?_
                                            rotate_left
                                            · intro w'
                                              go_simp
                                              with_reducible rfl
                                            rotate_left
                                            · simp only [Act.put, List.setIfInBounds_toArray, List.set_cons_zero, List.set_cons_succ, i64_w, i32_w]
                                              rfl
                                            refine pure_ (i := 10) (N := some 122) (v := ?_) (a' := ?_) #[true, true, true, true, true, true, true, true, true, true, true, false, false, false, false, false, false, false, false, false, false, false] rfl rfl (any_of HT_.out (by kernel_rfl)) (fun _ _ _ h => h) (Or.inl ⟨by rfl, ?_⟩) ?_ ?_
                                            rotate_left
                                            · intro w'
                                              go_simp
                                              with_reducible rfl
                                            rotate_left
                                            · simp only [Act.put, List.setIfInBounds_toArray, List.set_cons_zero, List.set_cons_succ, i64_w, i32_w]
                                              rfl
                                            refine pure_ (i := 11) (N := some 123) (v := ?_) (a' := ?_) #[true, true, true, true, true, true, true, true, true, true, true, true, false, false, false, false, false, false, false, false, false, false] rfl rfl (any_of HT_.out (by kernel_rfl)) (fun _ _ _ h => h) (Or.inl ⟨by rfl, ?_⟩) ?_ ?_
                                            rotate_left
                                            · intro w'
                                              go_simp
                                              with_reducible rfl
                                            rotate_left
                                            · simp only [Act.put, List.setIfInBounds_toArray, List.set_cons_zero, List.set_cons_succ, i64_w, i32_w]
                                              rfl
                                            refine pure_ (i := 12) (N := some 124) (v := ?_) (a' := ?_) #[true, true, true, true, true, true, true, true, true, true, true, true, true, false, false, false, false, false, false, false, false, false] rfl rfl (any_of HT_.out (by kernel_rfl)) (fun _ _ _ h => h) (Or.inl ⟨by rfl, ?_⟩) ?_ ?_
                                            rotate_left
                                            · intro w'
                                              go_simp
                                              with_reducible rfl
                                            rotate_left
                                            · simp only [Act.put, List.setIfInBounds_toArray, List.set_cons_zero, List.set_cons_succ, i64_w, i32_w]
                                              rfl
                                            refine pure_ (i := 14) (N := some 126) (v := ?_) (a' := ?_) #[true, true, true, true, true, true, true, true, true, true, true, true, true, false, true, false, false, false, false, false, false, false] rfl rfl (any_of HT_.out (by kernel_rfl)) (fun _ _ _ h => h) (Or.inl ⟨by rfl, ?_⟩) ?_ ?_
                                            rotate_left
                                            · intro w'
                                              go_simp
                                              with_reducible rfl
                                            rotate_left
                                            · simp only [Act.put, List.setIfInBounds_toArray, List.set_cons_zero, List.set_cons_succ, i64_w, i32_w]
                                              rfl
                                            refine pure_ (i := 15) (N := some 127) (v := ?_) (a' := ?_) #[true, true, true, true, true, true, true, true, true, true, true, true, true, false, true, true, false, false, false, false, false, false] rfl rfl (any_of HT_.out (by kernel_rfl)) (fun _ _ _ h => h) (Or.inl ⟨by rfl, ?_⟩) ?_ ?_
                                            rotate_left
                                            · intro w'
                                              go_simp
                                              with_reducible rfl
                                            rotate_left
                                            · simp only [Act.put, List.setIfInBounds_toArray, List.set_cons_zero, List.set_cons_succ, i64_w, i32_w]
                                              rfl
                                            refine pure_ (i := 16) (N := some 128) (v := ?_) (a' := ?_) #[true, true, true, true, true, true, true, true, true, true, true, true, true, false, true, true, true, false, false, false, false, false] rfl rfl (any_of HT_.out (by kernel_rfl)) (fun _ _ _ h => h) (Or.inl ⟨by rfl, ?_⟩) ?_ ?_
                                            rotate_left
                                            · intro w'
                                              go_simp
                                              with_reducible rfl
                                            rotate_left
                                            · simp only [Act.put, List.setIfInBounds_toArray, List.set_cons_zero, List.set_cons_succ, i64_w, i32_w]
                                              rfl
                                            refine take_ (i := 13) (N := some 125) (v := ?_) (a' := ?_) #[true, true, true, true, true, true, true, true, true, true, true, true, true, true, true, true, true, false, false, false, false, false] rfl rfl (take_ofW HT_.out HW_.out (by kernel_rfl)) (fun _ _ _ h => h) (Or.inl ⟨by rfl, ?_⟩) hHeld ?_ ?_
                                            rotate_left
                                            · rintro w' ⟨s0, s1, s2, s3, s4, s5, s6, s7, s8, s9, s10, s11, s12, s13, s14⟩
                                              go_simp
                                              with_reducible rfl
                                            rotate_left
                                            · simp only [Act.put, List.setIfInBounds_toArray, List.set_cons_zero, List.set_cons_succ, i64_w, i32_w]
                                              rfl
                                            refine take_ (i := 17) (N := some 129) (v := ?_) (a' := ?_) #[true, true, true, true, true, true, true, true, true, true, true, true, true, true, true, true, true, true, false, false, false, false] rfl rfl (take_ofW HT_.out HW_.out (by kernel_rfl)) (fun _ _ _ h => h) (Or.inl ⟨by rfl, ?_⟩) hHeld ?_ ?_
                                            rotate_left
                                            · rintro w' ⟨s0, s1, s2, s3, s4, s5, s6, s7, s8, s9, s10, s11, s12, s13, s14⟩
                                              go_simp
                                              with_reducible rfl
                                            rotate_left
                                            · simp only [Act.put, List.setIfInBounds_toArray, List.set_cons_zero, List.set_cons_succ, i64_w, i32_w]
                                              rfl
                                            refine one_ (i := 18) (N := some 130) #[true, true, true, true, true, true, true, true, true, true, true, true, true, true, true, true, true, true, true, false, false, false] rfl rfl (one_of HT_.out (by kernel_rfl)) (by decide) (fun K hK => ?_)
                                            refine goes_ Try.func13 (by kernel_rfl) rfl #[.agg #[.string ((rd_T28 l0 x107_5).f0), .bool ((rd_T28 l0 x107_5).f1), .int .i64 ((rd_T28 l0 x107_5).f2), .int .i64 ((rd_T28 l0 x107_5).f3), .int .i64 ((rd_T28 l0 x107_5).f4)]] (by rfl) rfl rfl (by (try simp only [List.map_toArray, List.map_cons, List.map_nil]); first | done | rfl | (simp only [List.length_drop, List.length_take]; rfl)) ?_
                                            with_reducible refine (dom_Size.calls ((rd_T28 l0 x107_5).f0) ((rd_T28 l0 x107_5).f1) ((rd_T28 l0 x107_5).f2) ((rd_T28 l0 x107_5).f3) ((rd_T28 l0 x107_5).f4) t196 _ A49.out).mono ?_
                                            rintro e w54 ⟨rfl, hb⟩
                                            refine ⟨_, rfl, ?_⟩
                                            have n0_ := Aside0.mk (Kd.R_below (by (with_reducible repeat (first | apply Kd.R_alloc | apply Kd.R_drewN | apply Kd.R_drew)); exact HO_105.out) hb)
                                            have n1_ := Aside0.mk (below_step (by repeat (first | (with_reducible first | exact HB.out | apply below_alloc | apply pw_below_drewN | apply below_drew1) | exact HB.out)) hb)
                                            clear HO_105
                                            clear HB
                                            have HO_105 := n0_
                                            have HB := n1_
                                            clear n0_ n1_
                                            (try clear hb)
                                            (try clear hb2)
                                            (try clear hk)
                                            (try clear hi)
                                            refine hK.out _ _ ⟨((HB.out.cell (World.block_lt_of_cell? w _ hw193_0)).trans hw193_0), ((HB.out.cell (World.block_lt_of_cell? w _ hw193_1)).trans hw193_1), ((HB.out.cell (World.block_lt_of_cell? w _ hw193_2)).trans hw193_2), ((HB.out.cell (World.block_lt_of_cell? w _ hw193_3)).trans hw193_3), ((HB.out.cell (World.block_lt_of_cell? w _ hw193_4)).trans hw193_4), ((HB.out.cell (World.block_lt_of_cell? w _ hw194_0)).trans hw194_0), ((HB.out.cell (World.block_lt_of_cell? w _ hw194_1)).trans hw194_1), ((HB.out.cell (World.block_lt_of_cell? w _ hw194_2)).trans hw194_2), ((HB.out.cell (World.block_lt_of_cell? w _ hw194_3)).trans hw194_3), ((HB.out.cell (World.block_lt_of_cell? w _ hw194_4)).trans hw194_4), ((HB.out.cell (World.block_lt_of_cell? w _ hw195_0)).trans hw195_0), ((HB.out.cell (World.block_lt_of_cell? w _ hw195_1)).trans hw195_1), ((HB.out.cell (World.block_lt_of_cell? w _ hw195_2)).trans hw195_2), ((HB.out.cell (World.block_lt_of_cell? w _ hw195_3)).trans hw195_3), ((HB.out.cell (World.block_lt_of_cell? w _ hw195_4)).trans hw195_4)⟩ (fun hHeld => ?_)
                                            clear hK K
                                            refine norm_ (a' := ?_) ?_ ?_
                                            rotate_left
                                            · show Act.put _ (some 130) _ = _
                                              simp only [Act.put, List.setIfInBounds_toArray, List.set_cons_zero, List.set_cons_succ, i64_w, i32_w]
                                              rfl
                                            refine pure_ (i := 19) (N := some 131) (v := ?_) (a' := ?_) #[true, true, true, true, true, true, true, true, true, true, true, true, true, true, true, true, true, true, true, true, false, false] rfl rfl (any_of HT_.out (by kernel_rfl)) (fun _ _ _ h => h) (Or.inl ⟨by rfl, ?_⟩) ?_ ?_
                                            rotate_left
                                            · intro w'
                                              go_simp
                                              with_reducible rfl
                                            rotate_left
                                            · simp only [Act.put, List.setIfInBounds_toArray, List.set_cons_zero, List.set_cons_succ, i64_w, i32_w]
                                              rfl
                                            refine pure_ (i := 20) (N := some 132) (v := ?_) (a' := ?_) #[true, true, true, true, true, true, true, true, true, true, true, true, true, true, true, true, true, true, true, true, true, false] rfl rfl (any_of HT_.out (by kernel_rfl)) (fun _ _ _ h => h) (Or.inl ⟨by rfl, ?_⟩) ?_ ?_
                                            rotate_left
                                            · intro w'
                                              go_simp
                                              with_reducible rfl
                                            rotate_left
                                            · simp only [Act.put, List.setIfInBounds_toArray, List.set_cons_zero, List.set_cons_succ, i64_w, i32_w]
                                              rfl
                                            refine pure_ (i := 21) (N := some 133) (v := ?_) (a' := ?_) #[true, true, true, true, true, true, true, true, true, true, true, true, true, true, true, true, true, true, true, true, true, true] rfl rfl (any_of HT_.out (by kernel_rfl)) (fun _ _ _ h => h) (Or.inl ⟨by rfl, ?_⟩) ?_ ?_
                                            rotate_left
                                            · intro w'
                                              go_simp
                                              with_reducible rfl
                                            rotate_left
                                            · simp only [Act.put, List.setIfInBounds_toArray, List.set_cons_zero, List.set_cons_succ, i64_w, i32_w]
                                              rfl
                                            refine done_ (done_of HT_.out (by kernel_rfl)) ?_
                                            try go_wp2
                                            go_roundg k5
                                            case measure => have := HJ2.out; have := HK2.out; have := HJ21.out; have := HJ30.out; have := HK5.out; omega
                                            case rel => exact ⟨(wrap64 (x107_5 + 1)), (by first | rfl | (simp; done) | (simp [*]; done)), H', ⟨by have := HJ2.out; have := HK2.out; have := HJ21.out; have := HJ30.out; have := HK5.out; omega⟩, ⟨by (with_reducible repeat (first | apply Kd.R_alloc | apply Kd.R_drewN | apply Kd.R_drew)); exact HO_105.out⟩, ⟨by repeat (first | (with_reducible first | exact HB.out | apply below_alloc | apply pw_below_drewN | apply below_drew1) | exact HB.out)⟩⟩
                                      · rw [if_neg c46] at H
                                        exact absurd H (by simp)
                                    · rw [if_neg c45] at H
                                      exact absurd H (by simp)
                                  · rw [if_neg c44] at H
                                    exact absurd H (by simp)
                                · rw [if_neg c43] at H
                                  have c43b0 : decide (x107_5 < (t186.length : Int)) = false := decide_eq_false c43
                                  clear c43
                                  replace H := Option.bind_eq_some_iff.mp H
                                  obtain ⟨t197, A550, H⟩ := H
                                  replace H : (some t197) = some r := H
                                  have A55 := Aside0.mk A550
                                  clear A550
                                  obtain rfl := Option.some.inj H
                                  go_wp2_with (first | ((with_reducible refine gate_callee (f := 11) rfl ?_); refine goesL_ (some 135) rfl rfl Try.func11 (by kernel_rfl) rfl #[] rfl (by (try simp only [List.map_toArray, List.map_cons, List.map_nil]); first | done | rfl | (simp only [List.length_drop, List.length_take]; rfl)) ?_; (with_reducible refine (parrylaw1_awake.calls k5  t197 _ A55.out).mono ?_); rintro e w56 ⟨rfl, hb⟩; refine ⟨_, rfl, ?_⟩; have n0_ := Aside0.mk (Kd.R_below (by (with_reducible repeat (first | apply Kd.R_alloc | apply Kd.R_drewN | apply Kd.R_drew)); exact HO_105.out) hb); have n1_ := Aside0.mk (below_step (by repeat (first | (with_reducible first | exact HB.out | apply below_alloc | apply pw_below_drewN | apply below_drew1) | exact HB.out)) hb); clear HO_105; clear HB; have HO_105 := n0_; have HB := n1_; clear n0_ n1_; (try clear hb); (try clear hb2); (try clear hk); (try clear hi)))
                                  go_ret
                                  exact ⟨by first | rfl | (simp [errW_none, errW_some] <;> rfl) | (simp [*, errW_none, errW_some] <;> rfl), by repeat (first | (with_reducible first | exact HB.out | apply below_alloc | apply pw_below_drewN | apply below_drew1) | exact HB.out)⟩

end Go.Proofs.Ytofmfnbiondplaa.P

namespace Go.Proofs.Ytofmfnbiondplaa.P
open Go.RowKit Go.Proofs.YtofmfnbiondplaaW.PrintWords Go.Proofs.YtofmfnbiondplaaW.PrintLast Go.Proofs.YtofmfnbiondplaaW.PrintMore
attribute [local go_sem] max2_int min2_int max_two min_two max_three min_three max_four min_four   -- for this text's walks alone
set_option linter.unusedVariables false
set_option linter.unusedSimpArgs false

open Go.Proofs.Ytofmfnbiondplaa.X
def parryref1_Size.f (a0_0 : ByteArray) (a0_1 : Bool) (a0_2 : Int) (a0_3 : Int) (a0_4 : Int) : Option (Int) := if a0_2 = 1 then (some 2) else (if a0_2 = 2 then (if a0_3 ≥ (-1000) then (if a0_3 ≤ a0_4 then (if a0_4 ≤ 1000 then (some (wrap64 ((wrap64 (a0_4 - a0_3)) + 1))) else (some 0)) else (some 0)) else (some 0)) else (some 0))
set_option maxHeartbeats 8000000 in
set_option maxRecDepth 100000 in
theorem parryref1_Size.calls (a0_0 : ByteArray) (a0_1 : Bool) (a0_2 : Int) (a0_3 : Int) (a0_4 : Int) (r : Int) (w : World) (h : parryref1_Size.f a0_0 a0_1 a0_2 a0_3 a0_4 = some r) :
    Calls Try.prog 19 #[.agg #[.string a0_0, .bool a0_1, .int .i64 a0_2, .int .i64 a0_3, .int .i64 a0_4]] w fun e w' => e = .returned (.int .i64 r) ∧ Below w.heap.size w w' := by
  have hu28 := Try.underlying28
  have HB := Aside0.mk (Below.refl w.heap.size w)
  have H : (if a0_2 = 1 then (some 2) else (if a0_2 = 2 then (if a0_3 ≥ (-1000) then (if a0_3 ≤ a0_4 then (if a0_4 ≤ 1000 then (some (wrap64 ((wrap64 (a0_4 - a0_3)) + 1))) else (some 0)) else (some 0)) else (some 0)) else (some 0))) = some r := h
  clear h
  by_cases c2 : a0_2 = 1
  · rw [if_pos c2] at H
    have c2b0 : (a0_2 == 1) = true := beq_iff_eq.mpr c2
    have c2b1 : (a0_2 != 1) = false := bne_eq_false_iff_eq.mpr c2
    clear c2
    obtain rfl := Option.some.inj H
    go_enter Try.func19, Try.ntmps19
    go_wp2_with (first | ((with_reducible refine gate_dst (N := 1) rfl ?_); refine box_event ?hg (N := 1) ?hd (cs := #[.string a0_0, .bool a0_1, .int .i64 a0_2, .int .i64 a0_3, .int .i64 a0_4]) (t := 28) ?hr ?_; (case hd => rfl); (case hg => rfl); (case hr => first | (go_simp; done) | (go_simp; rfl)); intro gb246 hg w3 hbox hb; have n0_ := Aside0.mk (below_step (by repeat (first | (with_reducible first | exact HB.out | apply below_alloc | apply pw_below_drewN | apply below_drew1) | exact HB.out)) hb); have n1_ := Aside0.mk (hbox); have n2_ := Aside0.mk ((by rw [hg]; exact (below_size (by repeat (first | (with_reducible first | exact HB.out | apply below_alloc | apply pw_below_drewN | apply below_drew1) | exact HB.out))) : w.heap.size ≤ gb246)); have n3_ := Aside0.mk ((by rw [hg]; exact (below_size (by repeat (first | (with_reducible first | exact HB.out | apply below_alloc | apply pw_below_drewN | apply below_drew1) | exact HB.out))) : w.heap.size ≤ gb246)); clear HB; have HB := n0_; have BK246 := n1_; have GW246 := n2_; have GE246 := n3_; clear n0_ n1_ n2_ n3_; clear hb hbox hg; have hcz4_0 : w3.cell? ⟨gb246, 0, none⟩ = some (.string a0_0) := (blk_cell BK246.out 0).trans rfl; have hcz4_1 : w3.cell? ⟨gb246, 1, none⟩ = some (.bool a0_1) := (blk_cell BK246.out 1).trans rfl; have hcz4_2 : w3.cell? ⟨gb246, 2, none⟩ = some (.int .i64 a0_2) := (blk_cell BK246.out 2).trans rfl; have hcz4_3 : w3.cell? ⟨gb246, 3, none⟩ = some (.int .i64 a0_3) := (blk_cell BK246.out 3).trans rfl; have hcz4_4 : w3.cell? ⟨gb246, 4, none⟩ = some (.int .i64 a0_4) := (blk_cell BK246.out 4).trans rfl; have hfz4_0 := blk_frozen BK246.out 0; have hfz4_1 := blk_frozen BK246.out 1; have hfz4_2 := blk_frozen BK246.out 2; have hfz4_3 := blk_frozen BK246.out 3; have hfz4_4 := blk_frozen BK246.out 4))
    go_ret
    exact ⟨by first | rfl | (simp [errW_none, errW_some] <;> rfl) | (simp [*, errW_none, errW_some] <;> rfl), by repeat (first | (with_reducible first | exact HB.out | apply below_alloc | apply pw_below_drewN | apply below_drew1 | refine below_set ?_ GE246.out) | exact HB.out)⟩
  · rw [if_neg c2] at H
    have c2b0 : (a0_2 == 1) = false := beq_eq_false_iff_ne.mpr c2
    have c2b1 : (a0_2 != 1) = true := bne_iff_ne.mpr c2
    by_cases c5 : a0_2 = 2
    · rw [if_pos c5] at H
      have c5b0 : (a0_2 == 2) = true := beq_iff_eq.mpr c5
      have c5b1 : (a0_2 != 2) = false := bne_eq_false_iff_eq.mpr c5
      clear c5
      by_cases c6 : a0_3 ≥ (-1000)
      · rw [if_pos c6] at H
        have c6b0 : decide ((-1000) ≤ a0_3) = true := decide_eq_true c6
        clear c6
        by_cases c7 : a0_3 ≤ a0_4
        · rw [if_pos c7] at H
          have c7b0 : decide (a0_3 ≤ a0_4) = true := decide_eq_true c7
          clear c7
          by_cases c8 : a0_4 ≤ 1000
          · rw [if_pos c8] at H
            have c8b0 : decide (a0_4 ≤ 1000) = true := decide_eq_true c8
            clear c8
            obtain rfl := Option.some.inj H
            go_enter Try.func19, Try.ntmps19
            go_wp2_with (first | ((with_reducible refine gate_dst (N := 1) rfl ?_); refine box_event ?hg (N := 1) ?hd (cs := #[.string a0_0, .bool a0_1, .int .i64 a0_2, .int .i64 a0_3, .int .i64 a0_4]) (t := 28) ?hr ?_; (case hd => rfl); (case hg => rfl); (case hr => first | (go_simp; done) | (go_simp; rfl)); intro gb246 hg w9 hbox hb; have n0_ := Aside0.mk (below_step (by repeat (first | (with_reducible first | exact HB.out | apply below_alloc | apply pw_below_drewN | apply below_drew1) | exact HB.out)) hb); have n1_ := Aside0.mk (hbox); have n2_ := Aside0.mk ((by rw [hg]; exact (below_size (by repeat (first | (with_reducible first | exact HB.out | apply below_alloc | apply pw_below_drewN | apply below_drew1) | exact HB.out))) : w.heap.size ≤ gb246)); have n3_ := Aside0.mk ((by rw [hg]; exact (below_size (by repeat (first | (with_reducible first | exact HB.out | apply below_alloc | apply pw_below_drewN | apply below_drew1) | exact HB.out))) : w.heap.size ≤ gb246)); clear HB; have HB := n0_; have BK246 := n1_; have GW246 := n2_; have GE246 := n3_; clear n0_ n1_ n2_ n3_; clear hb hbox hg; have hcz10_0 : w9.cell? ⟨gb246, 0, none⟩ = some (.string a0_0) := (blk_cell BK246.out 0).trans rfl; have hcz10_1 : w9.cell? ⟨gb246, 1, none⟩ = some (.bool a0_1) := (blk_cell BK246.out 1).trans rfl; have hcz10_2 : w9.cell? ⟨gb246, 2, none⟩ = some (.int .i64 a0_2) := (blk_cell BK246.out 2).trans rfl; have hcz10_3 : w9.cell? ⟨gb246, 3, none⟩ = some (.int .i64 a0_3) := (blk_cell BK246.out 3).trans rfl; have hcz10_4 : w9.cell? ⟨gb246, 4, none⟩ = some (.int .i64 a0_4) := (blk_cell BK246.out 4).trans rfl; have hfz10_0 := blk_frozen BK246.out 0; have hfz10_1 := blk_frozen BK246.out 1; have hfz10_2 := blk_frozen BK246.out 2; have hfz10_3 := blk_frozen BK246.out 3; have hfz10_4 := blk_frozen BK246.out 4))
            go_ret
            exact ⟨by first | rfl | (simp [errW_none, errW_some] <;> rfl) | (simp [*, errW_none, errW_some] <;> rfl), by repeat (first | (with_reducible first | exact HB.out | apply below_alloc | apply pw_below_drewN | apply below_drew1 | refine below_set ?_ GE246.out) | exact HB.out)⟩
          · rw [if_neg c8] at H
            have c8b0 : decide (a0_4 ≤ 1000) = false := decide_eq_false c8
            clear c8
            obtain rfl := Option.some.inj H
            go_enter Try.func19, Try.ntmps19
            go_wp2_with (first | ((with_reducible refine gate_dst (N := 1) rfl ?_); refine box_event ?hg (N := 1) ?hd (cs := #[.string a0_0, .bool a0_1, .int .i64 a0_2, .int .i64 a0_3, .int .i64 a0_4]) (t := 28) ?hr ?_; (case hd => rfl); (case hg => rfl); (case hr => first | (go_simp; done) | (go_simp; rfl)); intro gb246 hg w11 hbox hb; have n0_ := Aside0.mk (below_step (by repeat (first | (with_reducible first | exact HB.out | apply below_alloc | apply pw_below_drewN | apply below_drew1) | exact HB.out)) hb); have n1_ := Aside0.mk (hbox); have n2_ := Aside0.mk ((by rw [hg]; exact (below_size (by repeat (first | (with_reducible first | exact HB.out | apply below_alloc | apply pw_below_drewN | apply below_drew1) | exact HB.out))) : w.heap.size ≤ gb246)); have n3_ := Aside0.mk ((by rw [hg]; exact (below_size (by repeat (first | (with_reducible first | exact HB.out | apply below_alloc | apply pw_below_drewN | apply below_drew1) | exact HB.out))) : w.heap.size ≤ gb246)); clear HB; have HB := n0_; have BK246 := n1_; have GW246 := n2_; have GE246 := n3_; clear n0_ n1_ n2_ n3_; clear hb hbox hg; have hcz12_0 : w11.cell? ⟨gb246, 0, none⟩ = some (.string a0_0) := (blk_cell BK246.out 0).trans rfl; have hcz12_1 : w11.cell? ⟨gb246, 1, none⟩ = some (.bool a0_1) := (blk_cell BK246.out 1).trans rfl; have hcz12_2 : w11.cell? ⟨gb246, 2, none⟩ = some (.int .i64 a0_2) := (blk_cell BK246.out 2).trans rfl; have hcz12_3 : w11.cell? ⟨gb246, 3, none⟩ = some (.int .i64 a0_3) := (blk_cell BK246.out 3).trans rfl; have hcz12_4 : w11.cell? ⟨gb246, 4, none⟩ = some (.int .i64 a0_4) := (blk_cell BK246.out 4).trans rfl; have hfz12_0 := blk_frozen BK246.out 0; have hfz12_1 := blk_frozen BK246.out 1; have hfz12_2 := blk_frozen BK246.out 2; have hfz12_3 := blk_frozen BK246.out 3; have hfz12_4 := blk_frozen BK246.out 4))
            go_ret
            exact ⟨by first | rfl | (simp [errW_none, errW_some] <;> rfl) | (simp [*, errW_none, errW_some] <;> rfl), by repeat (first | (with_reducible first | exact HB.out | apply below_alloc | apply pw_below_drewN | apply below_drew1 | refine below_set ?_ GE246.out) | exact HB.out)⟩
        · rw [if_neg c7] at H
          have c7b0 : decide (a0_3 ≤ a0_4) = false := decide_eq_false c7
          clear c7
          obtain rfl := Option.some.inj H
          go_enter Try.func19, Try.ntmps19
          go_wp2_with (first | ((with_reducible refine gate_dst (N := 1) rfl ?_); refine box_event ?hg (N := 1) ?hd (cs := #[.string a0_0, .bool a0_1, .int .i64 a0_2, .int .i64 a0_3, .int .i64 a0_4]) (t := 28) ?hr ?_; (case hd => rfl); (case hg => rfl); (case hr => first | (go_simp; done) | (go_simp; rfl)); intro gb246 hg w13 hbox hb; have n0_ := Aside0.mk (below_step (by repeat (first | (with_reducible first | exact HB.out | apply below_alloc | apply pw_below_drewN | apply below_drew1) | exact HB.out)) hb); have n1_ := Aside0.mk (hbox); have n2_ := Aside0.mk ((by rw [hg]; exact (below_size (by repeat (first | (with_reducible first | exact HB.out | apply below_alloc | apply pw_below_drewN | apply below_drew1) | exact HB.out))) : w.heap.size ≤ gb246)); have n3_ := Aside0.mk ((by rw [hg]; exact (below_size (by repeat (first | (with_reducible first | exact HB.out | apply below_alloc | apply pw_below_drewN | apply below_drew1) | exact HB.out))) : w.heap.size ≤ gb246)); clear HB; have HB := n0_; have BK246 := n1_; have GW246 := n2_; have GE246 := n3_; clear n0_ n1_ n2_ n3_; clear hb hbox hg; have hcz14_0 : w13.cell? ⟨gb246, 0, none⟩ = some (.string a0_0) := (blk_cell BK246.out 0).trans rfl; have hcz14_1 : w13.cell? ⟨gb246, 1, none⟩ = some (.bool a0_1) := (blk_cell BK246.out 1).trans rfl; have hcz14_2 : w13.cell? ⟨gb246, 2, none⟩ = some (.int .i64 a0_2) := (blk_cell BK246.out 2).trans rfl; have hcz14_3 : w13.cell? ⟨gb246, 3, none⟩ = some (.int .i64 a0_3) := (blk_cell BK246.out 3).trans rfl; have hcz14_4 : w13.cell? ⟨gb246, 4, none⟩ = some (.int .i64 a0_4) := (blk_cell BK246.out 4).trans rfl; have hfz14_0 := blk_frozen BK246.out 0; have hfz14_1 := blk_frozen BK246.out 1; have hfz14_2 := blk_frozen BK246.out 2; have hfz14_3 := blk_frozen BK246.out 3; have hfz14_4 := blk_frozen BK246.out 4))
          go_ret
          exact ⟨by first | rfl | (simp [errW_none, errW_some] <;> rfl) | (simp [*, errW_none, errW_some] <;> rfl), by repeat (first | (with_reducible first | exact HB.out | apply below_alloc | apply pw_below_drewN | apply below_drew1 | refine below_set ?_ GE246.out) | exact HB.out)⟩
      · rw [if_neg c6] at H
        have c6b0 : decide ((-1000) ≤ a0_3) = false := decide_eq_false c6
        clear c6
        obtain rfl := Option.some.inj H
        go_enter Try.func19, Try.ntmps19
        go_wp2_with (first | ((with_reducible refine gate_dst (N := 1) rfl ?_); refine box_event ?hg (N := 1) ?hd (cs := #[.string a0_0, .bool a0_1, .int .i64 a0_2, .int .i64 a0_3, .int .i64 a0_4]) (t := 28) ?hr ?_; (case hd => rfl); (case hg => rfl); (case hr => first | (go_simp; done) | (go_simp; rfl)); intro gb246 hg w15 hbox hb; have n0_ := Aside0.mk (below_step (by repeat (first | (with_reducible first | exact HB.out | apply below_alloc | apply pw_below_drewN | apply below_drew1) | exact HB.out)) hb); have n1_ := Aside0.mk (hbox); have n2_ := Aside0.mk ((by rw [hg]; exact (below_size (by repeat (first | (with_reducible first | exact HB.out | apply below_alloc | apply pw_below_drewN | apply below_drew1) | exact HB.out))) : w.heap.size ≤ gb246)); have n3_ := Aside0.mk ((by rw [hg]; exact (below_size (by repeat (first | (with_reducible first | exact HB.out | apply below_alloc | apply pw_below_drewN | apply below_drew1) | exact HB.out))) : w.heap.size ≤ gb246)); clear HB; have HB := n0_; have BK246 := n1_; have GW246 := n2_; have GE246 := n3_; clear n0_ n1_ n2_ n3_; clear hb hbox hg; have hcz16_0 : w15.cell? ⟨gb246, 0, none⟩ = some (.string a0_0) := (blk_cell BK246.out 0).trans rfl; have hcz16_1 : w15.cell? ⟨gb246, 1, none⟩ = some (.bool a0_1) := (blk_cell BK246.out 1).trans rfl; have hcz16_2 : w15.cell? ⟨gb246, 2, none⟩ = some (.int .i64 a0_2) := (blk_cell BK246.out 2).trans rfl; have hcz16_3 : w15.cell? ⟨gb246, 3, none⟩ = some (.int .i64 a0_3) := (blk_cell BK246.out 3).trans rfl; have hcz16_4 : w15.cell? ⟨gb246, 4, none⟩ = some (.int .i64 a0_4) := (blk_cell BK246.out 4).trans rfl; have hfz16_0 := blk_frozen BK246.out 0; have hfz16_1 := blk_frozen BK246.out 1; have hfz16_2 := blk_frozen BK246.out 2; have hfz16_3 := blk_frozen BK246.out 3; have hfz16_4 := blk_frozen BK246.out 4))
        go_ret
        exact ⟨by first | rfl | (simp [errW_none, errW_some] <;> rfl) | (simp [*, errW_none, errW_some] <;> rfl), by repeat (first | (with_reducible first | exact HB.out | apply below_alloc | apply pw_below_drewN | apply below_drew1 | refine below_set ?_ GE246.out) | exact HB.out)⟩
    · rw [if_neg c5] at H
      have c5b0 : (a0_2 == 2) = false := beq_eq_false_iff_ne.mpr c5
      have c5b1 : (a0_2 != 2) = true := bne_iff_ne.mpr c5
      obtain rfl := Option.some.inj H
      go_enter Try.func19, Try.ntmps19
      go_wp2_with (first | ((with_reducible refine gate_dst (N := 1) rfl ?_); refine box_event ?hg (N := 1) ?hd (cs := #[.string a0_0, .bool a0_1, .int .i64 a0_2, .int .i64 a0_3, .int .i64 a0_4]) (t := 28) ?hr ?_; (case hd => rfl); (case hg => rfl); (case hr => first | (go_simp; done) | (go_simp; rfl)); intro gb246 hg w17 hbox hb; have n0_ := Aside0.mk (below_step (by repeat (first | (with_reducible first | exact HB.out | apply below_alloc | apply pw_below_drewN | apply below_drew1) | exact HB.out)) hb); have n1_ := Aside0.mk (hbox); have n2_ := Aside0.mk ((by rw [hg]; exact (below_size (by repeat (first | (with_reducible first | exact HB.out | apply below_alloc | apply pw_below_drewN | apply below_drew1) | exact HB.out))) : w.heap.size ≤ gb246)); have n3_ := Aside0.mk ((by rw [hg]; exact (below_size (by repeat (first | (with_reducible first | exact HB.out | apply below_alloc | apply pw_below_drewN | apply below_drew1) | exact HB.out))) : w.heap.size ≤ gb246)); clear HB; have HB := n0_; have BK246 := n1_; have GW246 := n2_; have GE246 := n3_; clear n0_ n1_ n2_ n3_; clear hb hbox hg; have hcz18_0 : w17.cell? ⟨gb246, 0, none⟩ = some (.string a0_0) := (blk_cell BK246.out 0).trans rfl; have hcz18_1 : w17.cell? ⟨gb246, 1, none⟩ = some (.bool a0_1) := (blk_cell BK246.out 1).trans rfl; have hcz18_2 : w17.cell? ⟨gb246, 2, none⟩ = some (.int .i64 a0_2) := (blk_cell BK246.out 2).trans rfl; have hcz18_3 : w17.cell? ⟨gb246, 3, none⟩ = some (.int .i64 a0_3) := (blk_cell BK246.out 3).trans rfl; have hcz18_4 : w17.cell? ⟨gb246, 4, none⟩ = some (.int .i64 a0_4) := (blk_cell BK246.out 4).trans rfl; have hfz18_0 := blk_frozen BK246.out 0; have hfz18_1 := blk_frozen BK246.out 1; have hfz18_2 := blk_frozen BK246.out 2; have hfz18_3 := blk_frozen BK246.out 3; have hfz18_4 := blk_frozen BK246.out 4))
      go_ret
      exact ⟨by first | rfl | (simp [errW_none, errW_some] <;> rfl) | (simp [*, errW_none, errW_some] <;> rfl), by repeat (first | (with_reducible first | exact HB.out | apply below_alloc | apply pw_below_drewN | apply below_drew1 | refine below_set ?_ GE246.out) | exact HB.out)⟩

def parryref1_Find.l0 : Nat → ByteArray → List (S28) → Int → Int → Option (Int)
  | 0, _, _, _, _ => none
  | k + 1, x1, x7, x8, x9 => if x9 < x8 then (if 0 ≤ x9 then (if x9 < (x7.length : Int) then (if ((rd_T28 x7 x9).f0).toList = x1.toList then (some x9) else (parryref1_Find.l0 k x1 x7 x8 (wrap64 (x9 + 1)))) else (none)) else (none)) else (some (-1))
def parryref1_Find.f (k : Nat) (l0 : List (S28)) (a1 : ByteArray) : Option (Int) := parryref1_Find.l0 k a1 l0 (l0.length : Int) 0
theorem parryref1_Find.mono_l : ∀ k, (∀ y0 y1 y2 y3, LeO (parryref1_Find.l0 k y0 y1 y2 y3) (parryref1_Find.l0 (k + 1) y0 y1 y2 y3))
  | 0 => fun _ _ _ _ r h => by simp [parryref1_Find.l0] at h
  | k + 1 => by
    have ih0 := parryref1_Find.mono_l k
    · intro y0 y1 y2 y3
      unfold parryref1_Find.l0
      repeat' first
      | (with_reducible exact ih0 _ _ _ _)
      | (with_reducible exact LeO.refl _)
      | (with_reducible exact LeO.none _)
      | (with_reducible refine LeO.ite ?_ ?_)
      | (with_reducible refine LeO.bind ?_ (fun _ => ?_))
      | exact ih0 _ _ _ _
      | exact LeO.none _
      | refine LeO.ite ?_ ?_
      | refine LeO.bind ?_ (fun _ => ?_)
theorem parryref1_Find.mono : ∀ a0 a1 k, LeO (parryref1_Find.f k a0 a1) (parryref1_Find.f (k + 1) a0 a1) := by
  intro a0 a1 k
  have ih0 := parryref1_Find.mono_l k
  unfold parryref1_Find.f
  repeat' first
      | (with_reducible exact ih0 _ _ _ _)
      | (with_reducible exact LeO.refl _)
      | (with_reducible exact LeO.none _)
      | (with_reducible refine LeO.ite ?_ ?_)
      | (with_reducible refine LeO.bind ?_ (fun _ => ?_))
      | exact ih0 _ _ _ _
      | exact LeO.none _
      | refine LeO.ite ?_ ?_
      | refine LeO.bind ?_ (fun _ => ?_)
set_option maxHeartbeats 8000000 in
set_option maxRecDepth 100000 in
theorem parryref1_Find.calls (k : Nat) (A0 : Option Addr) (c0 : Nat) (l0 : List (S28)) (a1 : ByteArray) (r : Int) (w : World) (hr0 : Kd.C k28 w A0 l0.length l0) (hc0 : l0.length ≤ c0) (h : parryref1_Find.f k l0 a1 = some r) :
    Calls Try.prog 27 #[.slice A0 l0.length c0, .string a1] w fun e w' => e = .returned (.int .i64 r) ∧ Below w.heap.size w w' := by
  have hu28 := Try.underlying28
  have HR0 := Aside0.mk hr0
  have HC0 := Aside0.mk hc0
  clear hr0 hc0
  have HB := Aside0.mk (Below.refl w.heap.size w)
  have H : (parryref1_Find.l0 k a1 l0 (l0.length : Int) 0) = some r := h
  clear h
  have H' := Aside0.mk H
  clear H
  go_enter Try.func27, Try.ntmps27
  go_wp2
  go_loopg [9] k (fun kq v9 w' => ∃ (x9_1 : Int), v9 = .int .i64 x9_1 ∧ Aside0 (parryref1_Find.l0 kq a1 l0 (l0.length : Int) x9_1 = some r) ∧ Aside0 (kq ≤ k) ∧ Aside0 (Below w.heap.size w w'))
  case atStart => exact ⟨(0), (by first | rfl | (simp; done) | (simp [*]; done)), H', ⟨Nat.le_refl _⟩, ⟨by repeat (first | (with_reducible first | exact HB.out | apply below_alloc | apply pw_below_drewN | apply below_drew1) | exact HB.out)⟩⟩
  case round =>
    clear H'
    try clear c2
    try clear p2
    obtain ⟨x9_1, rfl, HA, HK1, HB⟩ := hrel
    cases gk with
    | zero => exact absurd HA.out (by simp [parryref1_Find.l0])
    | succ k1 =>
      have H := HA.out
      clear HA
      simp only [parryref1_Find.l0] at H
      by_cases c3 : x9_1 < (l0.length : Int)
      · rw [if_pos c3] at H
        have c3b0 : decide (x9_1 < (l0.length : Int)) = true := decide_eq_true c3
        clear c3
        by_cases c4 : 0 ≤ x9_1
        · rw [if_pos c4] at H
          have c4b0 : decide (0 ≤ x9_1) = true := decide_eq_true c4
          clear c4
          by_cases c5 : x9_1 < (l0.length : Int)
          · rw [if_pos c5] at H
            have c5b0 : decide (x9_1 < (l0.length : Int)) = true := decide_eq_true c5
            clear c5
            by_cases c6 : ((rd_T28 l0 x9_1).f0).toList = a1.toList
            · rw [if_pos c6] at H
              have c6b0 : (((rd_T28 l0 x9_1).f0).toList == a1.toList) = true := beq_iff_eq.mpr c6
              have c6b1 : (((rd_T28 l0 x9_1).f0).toList != a1.toList) = false := bne_eq_false_iff_eq.mpr c6
              clear c6
              obtain rfl := Option.some.inj H
              have p247 : 0 ≤ (x9_1 : Int) := of_decide_eq_true (by first | (with_reducible assumption) | assumption)
              have q247 : x9_1 < (l0.length : Int) := of_decide_eq_true (by first | (with_reducible assumption) | assumption)
              obtain ⟨ad247, e247, hx247_0, hx247_1, hx247_2, hx247_3, hx247_4⟩ := at_T28 HR0.out x9_1 p247 q247
              cases e247
              replace hx247_0 := (HB.out.cell (World.block_lt_of_cell? w _ hx247_0)).trans hx247_0
              replace hx247_1 := (HB.out.cell (World.block_lt_of_cell? w _ hx247_1)).trans hx247_1
              replace hx247_2 := (HB.out.cell (World.block_lt_of_cell? w _ hx247_2)).trans hx247_2
              replace hx247_3 := (HB.out.cell (World.block_lt_of_cell? w _ hx247_3)).trans hx247_3
              replace hx247_4 := (HB.out.cell (World.block_lt_of_cell? w _ hx247_4)).trans hx247_4
              replace p247 := eq_true p247
              replace q247 := eq_true q247
              go_wp2_with (first | ((with_reducible refine gate_dst (N := 6) rfl ?_); refine box_event ?hg (N := 6) ?hd (cs := #[.string (⟨#[]⟩ : ByteArray), .bool false, .int .i64 0, .int .i64 0, .int .i64 0]) (t := 28) ?hr ?_; (case hd => rfl); (case hg => rfl); (case hr => first | (go_simp; done) | (go_simp; rfl)); intro gb248 hg w7 hbox hb; have n0_ := Aside0.mk (below_step (by repeat (first | (with_reducible first | exact HB.out | apply below_alloc | apply pw_below_drewN | apply below_drew1) | exact HB.out)) hb); have n1_ := Aside0.mk (hbox); have n2_ := Aside0.mk ((by rw [hg]; exact (below_size (by repeat (first | (with_reducible first | exact HB.out | apply below_alloc | apply pw_below_drewN | apply below_drew1) | exact HB.out))) : w.heap.size ≤ gb248)); have n3_ := Aside0.mk ((by rw [hg]; exact (below_size (by repeat (first | (with_reducible first | exact HB.out | apply below_alloc | apply pw_below_drewN | apply below_drew1) | exact HB.out))) : w.heap.size ≤ gb248)); clear HB; have HB := n0_; have BK248 := n1_; have GW248 := n2_; have GE248 := n3_; clear n0_ n1_ n2_ n3_; clear hb hbox hg; have hcz8_0 : w7.cell? ⟨gb248, 0, none⟩ = some (.string (⟨#[]⟩ : ByteArray)) := (blk_cell BK248.out 0).trans rfl; have hcz8_1 : w7.cell? ⟨gb248, 1, none⟩ = some (.bool false) := (blk_cell BK248.out 1).trans rfl; have hcz8_2 : w7.cell? ⟨gb248, 2, none⟩ = some (.int .i64 0) := (blk_cell BK248.out 2).trans rfl; have hcz8_3 : w7.cell? ⟨gb248, 3, none⟩ = some (.int .i64 0) := (blk_cell BK248.out 3).trans rfl; have hcz8_4 : w7.cell? ⟨gb248, 4, none⟩ = some (.int .i64 0) := (blk_cell BK248.out 4).trans rfl; have hfz8_0 := blk_frozen BK248.out 0; have hfz8_1 := blk_frozen BK248.out 1; have hfz8_2 := blk_frozen BK248.out 2; have hfz8_3 := blk_frozen BK248.out 3; have hfz8_4 := blk_frozen BK248.out 4))
              go_ret
              exact ⟨by first | rfl | (simp [errW_none, errW_some] <;> rfl) | (simp [*, errW_none, errW_some] <;> rfl), by repeat (first | (with_reducible first | exact HB.out | apply below_alloc | apply pw_below_drewN | apply below_drew1 | refine below_set ?_ GE248.out) | exact HB.out)⟩
            · rw [if_neg c6] at H
              have c6b0 : (((rd_T28 l0 x9_1).f0).toList == a1.toList) = false := beq_eq_false_iff_ne.mpr c6
              have c6b1 : (((rd_T28 l0 x9_1).f0).toList != a1.toList) = true := bne_iff_ne.mpr c6
              have H' := Aside0.mk H
              clear H
              have p247 : 0 ≤ (x9_1 : Int) := of_decide_eq_true (by first | (with_reducible assumption) | assumption)
              have q247 : x9_1 < (l0.length : Int) := of_decide_eq_true (by first | (with_reducible assumption) | assumption)
              obtain ⟨ad247, e247, hx247_0, hx247_1, hx247_2, hx247_3, hx247_4⟩ := at_T28 HR0.out x9_1 p247 q247
              cases e247
              replace hx247_0 := (HB.out.cell (World.block_lt_of_cell? w _ hx247_0)).trans hx247_0
              replace hx247_1 := (HB.out.cell (World.block_lt_of_cell? w _ hx247_1)).trans hx247_1
              replace hx247_2 := (HB.out.cell (World.block_lt_of_cell? w _ hx247_2)).trans hx247_2
              replace hx247_3 := (HB.out.cell (World.block_lt_of_cell? w _ hx247_3)).trans hx247_3
              replace hx247_4 := (HB.out.cell (World.block_lt_of_cell? w _ hx247_4)).trans hx247_4
              replace p247 := eq_true p247
              replace q247 := eq_true q247
              go_wp2_with (first | ((with_reducible refine gate_dst (N := 6) rfl ?_); refine box_event ?hg (N := 6) ?hd (cs := #[.string (⟨#[]⟩ : ByteArray), .bool false, .int .i64 0, .int .i64 0, .int .i64 0]) (t := 28) ?hr ?_; (case hd => rfl); (case hg => rfl); (case hr => first | (go_simp; done) | (go_simp; rfl)); intro gb248 hg w9 hbox hb; have n0_ := Aside0.mk (below_step (by repeat (first | (with_reducible first | exact HB.out | apply below_alloc | apply pw_below_drewN | apply below_drew1) | exact HB.out)) hb); have n1_ := Aside0.mk (hbox); have n2_ := Aside0.mk ((by rw [hg]; exact (below_size (by repeat (first | (with_reducible first | exact HB.out | apply below_alloc | apply pw_below_drewN | apply below_drew1) | exact HB.out))) : w.heap.size ≤ gb248)); have n3_ := Aside0.mk ((by rw [hg]; exact (below_size (by repeat (first | (with_reducible first | exact HB.out | apply below_alloc | apply pw_below_drewN | apply below_drew1) | exact HB.out))) : w.heap.size ≤ gb248)); clear HB; have HB := n0_; have BK248 := n1_; have GW248 := n2_; have GE248 := n3_; clear n0_ n1_ n2_ n3_; clear hb hbox hg; have hcz10_0 : w9.cell? ⟨gb248, 0, none⟩ = some (.string (⟨#[]⟩ : ByteArray)) := (blk_cell BK248.out 0).trans rfl; have hcz10_1 : w9.cell? ⟨gb248, 1, none⟩ = some (.bool false) := (blk_cell BK248.out 1).trans rfl; have hcz10_2 : w9.cell? ⟨gb248, 2, none⟩ = some (.int .i64 0) := (blk_cell BK248.out 2).trans rfl; have hcz10_3 : w9.cell? ⟨gb248, 3, none⟩ = some (.int .i64 0) := (blk_cell BK248.out 3).trans rfl; have hcz10_4 : w9.cell? ⟨gb248, 4, none⟩ = some (.int .i64 0) := (blk_cell BK248.out 4).trans rfl; have hfz10_0 := blk_frozen BK248.out 0; have hfz10_1 := blk_frozen BK248.out 1; have hfz10_2 := blk_frozen BK248.out 2; have hfz10_3 := blk_frozen BK248.out 3; have hfz10_4 := blk_frozen BK248.out 4))
              go_roundg k1
              case measure => have := HK1.out; omega
              case rel => exact ⟨(wrap64 (x9_1 + 1)), (by first | rfl | (simp; done) | (simp [*]; done)), H', ⟨by have := HK1.out; omega⟩, ⟨by repeat (first | (with_reducible first | exact HB.out | apply below_alloc | apply pw_below_drewN | apply below_drew1 | refine below_set ?_ GE248.out) | exact HB.out)⟩⟩
          · rw [if_neg c5] at H
            exact absurd H (by simp)
        · rw [if_neg c4] at H
          exact absurd H (by simp)
      · rw [if_neg c3] at H
        have c3b0 : decide (x9_1 < (l0.length : Int)) = false := decide_eq_false c3
        clear c3
        obtain rfl := Option.some.inj H
        go_wp2
        go_ret
        exact ⟨by first | rfl | (simp [errW_none, errW_some] <;> rfl) | (simp [*, errW_none, errW_some] <;> rfl), by repeat (first | (with_reducible first | exact HB.out | apply below_alloc | apply pw_below_drewN | apply below_drew1) | exact HB.out)⟩

end Go.Proofs.Ytofmfnbiondplaa.P

namespace Go.Proofs.Ytofmfnbiondplaa.P
open Go.RowKit Go.Proofs.YtofmfnbiondplaaW.PrintWords Go.Proofs.YtofmfnbiondplaaW.PrintLast Go.Proofs.YtofmfnbiondplaaW.PrintMore
attribute [local go_sem] max2_int min2_int max_two min_two max_three min_three max_four min_four   -- for this text's walks alone
set_option linter.unusedVariables false
set_option linter.unusedSimpArgs false

open Go.Proofs.Ytofmfnbiondplaa.X
def parryref1_product.l0 : Nat → Int → List (S28) → Int → Int → Option (Int)
  | 0, _, _, _, _ => none
  | k + 1, x3, x6, x7, x8 => if x8 < x7 then (if 0 ≤ x8 then (if x8 < (x6.length : Int) then ((parryref1_Size.f ((rd_T28 x6 x8).f0) ((rd_T28 x6 x8).f1) ((rd_T28 x6 x8).f2) ((rd_T28 x6 x8).f3) ((rd_T28 x6 x8).f4)).bind fun t251 => (parryref1_product.l0 k (mn (wrap64 (x3 * t251)) 513) x6 x7 (wrap64 (x8 + 1)))) else (none)) else (none)) else (some x3)
def parryref1_product.f (k : Nat) (l0 : List (S28)) : Option (Int) := parryref1_product.l0 k 1 l0 (l0.length : Int) 0
theorem parryref1_product.mono_l : ∀ k, (∀ y0 y1 y2 y3, LeO (parryref1_product.l0 k y0 y1 y2 y3) (parryref1_product.l0 (k + 1) y0 y1 y2 y3))
  | 0 => fun _ _ _ _ r h => by simp [parryref1_product.l0] at h
  | k + 1 => by
    have ih0 := parryref1_product.mono_l k
    · intro y0 y1 y2 y3
      unfold parryref1_product.l0
      repeat' first
      | (with_reducible exact ih0 _ _ _ _)
      | (with_reducible exact LeO.refl _)
      | (with_reducible exact LeO.none _)
      | (with_reducible refine LeO.ite ?_ ?_)
      | (with_reducible refine LeO.bind ?_ (fun _ => ?_))
      | exact ih0 _ _ _ _
      | exact LeO.none _
      | refine LeO.ite ?_ ?_
      | refine LeO.bind ?_ (fun _ => ?_)
theorem parryref1_product.mono : ∀ a0 k, LeO (parryref1_product.f k a0) (parryref1_product.f (k + 1) a0) := by
  intro a0 k
  have ih0 := parryref1_product.mono_l k
  unfold parryref1_product.f
  repeat' first
      | (with_reducible exact ih0 _ _ _ _)
      | (with_reducible exact LeO.refl _)
      | (with_reducible exact LeO.none _)
      | (with_reducible refine LeO.ite ?_ ?_)
      | (with_reducible refine LeO.bind ?_ (fun _ => ?_))
      | exact ih0 _ _ _ _
      | exact LeO.none _
      | refine LeO.ite ?_ ?_
      | refine LeO.bind ?_ (fun _ => ?_)
set_option maxHeartbeats 8000000 in
set_option maxRecDepth 100000 in
theorem parryref1_product.calls (k : Nat) (A0 : Option Addr) (c0 : Nat) (l0 : List (S28)) (r : Int) (w : World) (hr0 : Kd.C k28 w A0 l0.length l0) (hc0 : l0.length ≤ c0) (h : parryref1_product.f k l0 = some r) :
    Calls Try.prog 35 #[.slice A0 l0.length c0] w fun e w' => e = .returned (.int .i64 r) ∧ Below w.heap.size w w' := by
  have hu28 := Try.underlying28
  have HR0 := Aside0.mk hr0
  have HC0 := Aside0.mk hc0
  clear hr0 hc0
  have HB := Aside0.mk (Below.refl w.heap.size w)
  have H : (parryref1_product.l0 k 1 l0 (l0.length : Int) 0) = some r := h
  clear h
  have H' := Aside0.mk H
  clear H
  go_enter Try.func35, Try.ntmps35
  go_wp2
  go_loopg [3, 8] k (fun kq v3 v8 w' => ∃ (x3_1 : Int) (x8_1 : Int), v3 = .int .i64 x3_1 ∧ v8 = .int .i64 x8_1 ∧ Aside0 (parryref1_product.l0 kq x3_1 l0 (l0.length : Int) x8_1 = some r) ∧ Aside0 (kq ≤ k) ∧ Aside0 (Below w.heap.size w w'))
  case atStart => exact ⟨(1), (0), (by first | rfl | (simp; done) | (simp [*]; done)), (by first | rfl | (simp; done) | (simp [*]; done)), H', ⟨Nat.le_refl _⟩, ⟨by repeat (first | (with_reducible first | exact HB.out | apply below_alloc | apply pw_below_drewN | apply below_drew1) | exact HB.out)⟩⟩
  case round =>
    clear H'
    obtain ⟨x3_1, x8_1, rfl, rfl, HA, HK1, HB⟩ := hrel
    cases gk with
    | zero => exact absurd HA.out (by simp [parryref1_product.l0])
    | succ k1 =>
      have H := HA.out
      clear HA
      simp only [parryref1_product.l0] at H
      by_cases c2 : x8_1 < (l0.length : Int)
      · rw [if_pos c2] at H
        have c2b0 : decide (x8_1 < (l0.length : Int)) = true := decide_eq_true c2
        clear c2
        by_cases c3 : 0 ≤ x8_1
        · rw [if_pos c3] at H
          have c3b0 : decide (0 ≤ x8_1) = true := decide_eq_true c3
          clear c3
          by_cases c4 : x8_1 < (l0.length : Int)
          · rw [if_pos c4] at H
            have c4b0 : decide (x8_1 < (l0.length : Int)) = true := decide_eq_true c4
            clear c4
            replace H := Option.bind_eq_some_iff.mp H
            obtain ⟨t251, A50, H⟩ := H
            replace H : (parryref1_product.l0 k1 (mn (wrap64 (x3_1 * t251)) 513) l0 (l0.length : Int) (wrap64 (x8_1 + 1))) = some r := H
            have A5 := Aside0.mk A50
            clear A50
            obtain ⟨ji6, hji6⟩ : ∃ j_ : Int, (mn (wrap64 (x3_1 * t251)) 513) = j_ := ⟨_, rfl⟩
            replace H : (parryref1_product.l0 k1 ji6 l0 (l0.length : Int) (wrap64 (x8_1 + 1))) = some r := by first | (rw [hji6] at H; exact H) | (simp only [hji6] at H ⊢; exact H)
            (try rw [hji6] at A5)
            have hji6_ : (if 513 < (wrap64 (x3_1 * t251)) then 513 else (wrap64 (x3_1 * t251))) = ji6 := hji6
            have H' := Aside0.mk H
            clear H
            have p249 : 0 ≤ (x8_1 : Int) := of_decide_eq_true (by first | (with_reducible assumption) | assumption)
            have q249 : x8_1 < (l0.length : Int) := of_decide_eq_true (by first | (with_reducible assumption) | assumption)
            obtain ⟨ad249, e249, hx249_0, hx249_1, hx249_2, hx249_3, hx249_4⟩ := at_T28 HR0.out x8_1 p249 q249
            cases e249
            replace hx249_0 := (HB.out.cell (World.block_lt_of_cell? w _ hx249_0)).trans hx249_0
            replace hx249_1 := (HB.out.cell (World.block_lt_of_cell? w _ hx249_1)).trans hx249_1
            replace hx249_2 := (HB.out.cell (World.block_lt_of_cell? w _ hx249_2)).trans hx249_2
            replace hx249_3 := (HB.out.cell (World.block_lt_of_cell? w _ hx249_3)).trans hx249_3
            replace hx249_4 := (HB.out.cell (World.block_lt_of_cell? w _ hx249_4)).trans hx249_4
            replace p249 := eq_true p249
            replace q249 := eq_true q249
            go_wp2_with (first | ((with_reducible refine gate_dst (N := 5) rfl ?_); refine box_event ?hg (N := 5) ?hd (cs := #[.string (⟨#[]⟩ : ByteArray), .bool false, .int .i64 0, .int .i64 0, .int .i64 0]) (t := 28) ?hr ?_; (case hd => rfl); (case hg => rfl); (case hr => first | (go_simp; done) | (go_simp; rfl)); intro gb250 hg w7 hbox hb; have n0_ := Aside0.mk (below_step (by repeat (first | (with_reducible first | exact HB.out | apply below_alloc | apply pw_below_drewN | apply below_drew1) | exact HB.out)) hb); have n1_ := Aside0.mk (hbox); have n2_ := Aside0.mk ((by rw [hg]; exact (below_size (by repeat (first | (with_reducible first | exact HB.out | apply below_alloc | apply pw_below_drewN | apply below_drew1) | exact HB.out))) : w.heap.size ≤ gb250)); have n3_ := Aside0.mk ((by rw [hg]; exact (below_size (by repeat (first | (with_reducible first | exact HB.out | apply below_alloc | apply pw_below_drewN | apply below_drew1) | exact HB.out))) : w.heap.size ≤ gb250)); clear HB; have HB := n0_; have BK250 := n1_; have GW250 := n2_; have GE250 := n3_; clear n0_ n1_ n2_ n3_; clear hb hbox hg; have hcz8_0 : w7.cell? ⟨gb250, 0, none⟩ = some (.string (⟨#[]⟩ : ByteArray)) := (blk_cell BK250.out 0).trans rfl; have hcz8_1 : w7.cell? ⟨gb250, 1, none⟩ = some (.bool false) := (blk_cell BK250.out 1).trans rfl; have hcz8_2 : w7.cell? ⟨gb250, 2, none⟩ = some (.int .i64 0) := (blk_cell BK250.out 2).trans rfl; have hcz8_3 : w7.cell? ⟨gb250, 3, none⟩ = some (.int .i64 0) := (blk_cell BK250.out 3).trans rfl; have hcz8_4 : w7.cell? ⟨gb250, 4, none⟩ = some (.int .i64 0) := (blk_cell BK250.out 4).trans rfl; have hfz8_0 := blk_frozen BK250.out 0; have hfz8_1 := blk_frozen BK250.out 1; have hfz8_2 := blk_frozen BK250.out 2; have hfz8_3 := blk_frozen BK250.out 3; have hfz8_4 := blk_frozen BK250.out 4) | ((with_reducible refine gate_callee (f := 19) rfl ?_); refine goesL_ (some 14) rfl rfl Try.func19 (by kernel_rfl) rfl #[.agg #[.string ((rd_T28 l0 x8_1).f0), .bool ((rd_T28 l0 x8_1).f1), .int .i64 ((rd_T28 l0 x8_1).f2), .int .i64 ((rd_T28 l0 x8_1).f3), .int .i64 ((rd_T28 l0 x8_1).f4)]] rfl (by (try simp only [List.map_toArray, List.map_cons, List.map_nil]); first | done | rfl | (simp only [List.length_drop, List.length_take]; rfl)) ?_; (with_reducible refine (parryref1_Size.calls ((rd_T28 l0 x8_1).f0) ((rd_T28 l0 x8_1).f1) ((rd_T28 l0 x8_1).f2) ((rd_T28 l0 x8_1).f3) ((rd_T28 l0 x8_1).f4) t251 _ A5.out).mono ?_); rintro e w9 ⟨rfl, hb⟩; refine ⟨_, rfl, ?_⟩; have n0_ := Aside0.mk (blk_below (g := gb250) (o := .cells #[.string ((rd_T28 l0 x8_1).f0), .bool ((rd_T28 l0 x8_1).f1), .int .i64 ((rd_T28 l0 x8_1).f2), .int .i64 ((rd_T28 l0 x8_1).f3), .int .i64 ((rd_T28 l0 x8_1).f4)] 28 (0, 0)) (by (with_reducible repeat (first | refine blk_drewN ?_ _ | refine blk_drew ?_ | refine blk_alloc ?_ _)); refine blk_put (cs := #[.string ((rd_T28 l0 x8_1).f0), .bool ((rd_T28 l0 x8_1).f1), .int .i64 ((rd_T28 l0 x8_1).f2), .int .i64 ((rd_T28 l0 x8_1).f3), .int .i64 0]) ?_ 4 _ rfl; (with_reducible repeat (first | refine blk_drewN ?_ _ | refine blk_drew ?_ | refine blk_alloc ?_ _)); refine blk_put (cs := #[.string ((rd_T28 l0 x8_1).f0), .bool ((rd_T28 l0 x8_1).f1), .int .i64 ((rd_T28 l0 x8_1).f2), .int .i64 0, .int .i64 0]) ?_ 3 _ rfl; (with_reducible repeat (first | refine blk_drewN ?_ _ | refine blk_drew ?_ | refine blk_alloc ?_ _)); refine blk_put (cs := #[.string ((rd_T28 l0 x8_1).f0), .bool ((rd_T28 l0 x8_1).f1), .int .i64 0, .int .i64 0, .int .i64 0]) ?_ 2 _ rfl; (with_reducible repeat (first | refine blk_drewN ?_ _ | refine blk_drew ?_ | refine blk_alloc ?_ _)); refine blk_put (cs := #[.string ((rd_T28 l0 x8_1).f0), .bool false, .int .i64 0, .int .i64 0, .int .i64 0]) ?_ 1 _ rfl; (with_reducible repeat (first | refine blk_drewN ?_ _ | refine blk_drew ?_ | refine blk_alloc ?_ _)); refine blk_put (cs := #[.string (⟨#[]⟩ : ByteArray), .bool false, .int .i64 0, .int .i64 0, .int .i64 0]) ?_ 0 _ rfl; (with_reducible repeat (first | refine blk_drewN ?_ _ | refine blk_drew ?_ | refine blk_alloc ?_ _)); exact BK250.out) hb); have n1_ := Aside0.mk (below_step (by repeat (first | (with_reducible first | exact HB.out | apply below_alloc | apply pw_below_drewN | apply below_drew1 | refine below_set ?_ GE250.out) | exact HB.out)) hb); clear BK250; clear HB; have BK250 := n0_; have HB := n1_; clear n0_ n1_; (try clear hb); (try clear hb2); (try clear hk); (try clear hi)))
            go_roundg k1
            case measure => have := HK1.out; omega
            case rel => exact ⟨(ji6), (wrap64 (x8_1 + 1)), (by first | rfl | (simp; done) | (simp only [← hji6] <;> (first | rfl | simp)) | (simp [*]; done)), (by first | rfl | (simp; done) | (simp [*]; done)), H', ⟨by have := HK1.out; omega⟩, ⟨by repeat (first | (with_reducible first | exact HB.out | apply below_alloc | apply pw_below_drewN | apply below_drew1 | refine below_set ?_ GE250.out) | exact HB.out)⟩⟩
          · rw [if_neg c4] at H
            exact absurd H (by simp)
        · rw [if_neg c3] at H
          exact absurd H (by simp)
      · rw [if_neg c2] at H
        have c2b0 : decide (x8_1 < (l0.length : Int)) = false := decide_eq_false c2
        clear c2
        obtain rfl := Option.some.inj H
        go_wp2
        go_ret
        exact ⟨by first | rfl | (simp [errW_none, errW_some] <;> rfl) | (simp [*, errW_none, errW_some] <;> rfl), by repeat (first | (with_reducible first | exact HB.out | apply below_alloc | apply pw_below_drewN | apply below_drew1) | exact HB.out)⟩

end Go.Proofs.Ytofmfnbiondplaa.P

