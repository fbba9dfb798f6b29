/- A part of the claim DomForms. -/
import Derived.Test.YtofmfnbiondplaaQDomFormsa
import Derived.Test.YtofmfnbiondplaaQDomFormsb
import Derived.Test.YtofmfnbiondplaaQDomFormsc
import Derived.Test.YtofmfnbiondplaaQDomFormsd
import Derived.Test.YtofmfnbiondplaaQDomFormse
namespace Go.Proofs.Ytofmfnbiondplaa.P
open Go.RowKit Go.Proofs.YtofmfnbiondplaaW.PrintWords Go.Proofs.YtofmfnbiondplaaW.PrintLast Go.Proofs.YtofmfnbiondplaaW.PrintMore
attribute [local go_sem] max2_int min2_int max_two min_two max_three min_three max_four min_four   -- for this text's walks alone
set_option linter.unusedVariables false
set_option linter.unusedSimpArgs false

open Go.Proofs.Ytofmfnbiondplaa.X
mutual
def parrylaw1_DomForms.j0 : Nat → List (S28) → Int → List Int → Int → Int → Bool → ByteArray → Bool → Option (Bool)
  | 0, _, _, _, _, _, _, _, _ => none
  | k + 1, x0, x1, x2, x3, x4, x5, x6, x39 => if x39 = true then ((parrylaw1_awake.f k).bind fun t345 => (some t345)) else ((dom_Values.f k x0 x1).bind fun bt346 => ((parryref1_Values.f k x0 x1).bind fun bt350 => ((dom_State.f k x0 x2).bind fun bt354 => ((parryref1_State.f k x0 x2).bind fun bt356 => ((dom_With.f k x0 x1 x3 x4).bind fun bt358 => ((parryref1_With.f k x0 x1 x3 x4).bind fun bt360 => ((dom_May.f k x0).bind fun t362 => ((parryref1_MayVars.f k x0).bind fun t363 => (if t362 = t363 then ((dom_Total.f k x0).bind fun t364 => ((parryref1_Total.f k x0).bind fun t365 => (if t364 = t365 then ((parryref9_SameInts.f k bt346.1 bt350.1).bind fun t366 => (if t366 = true then (if (bt346.2 != bt350.2) = true then (parrylaw1_DomForms.j1 k x0 x1 x5 x6 true) else (if bt354.1 = bt356.1 then (if (bt354.2 != bt356.2) = true then (parrylaw1_DomForms.j1 k x0 x1 x5 x6 true) else (if bt358.1 = bt360.1 then (parrylaw1_DomForms.j1 k x0 x1 x5 x6 (bt358.2 != bt360.2)) else (parrylaw1_DomForms.j1 k x0 x1 x5 x6 true))) else (parrylaw1_DomForms.j1 k x0 x1 x5 x6 true))) else (parrylaw1_DomForms.j1 k x0 x1 x5 x6 true))) else (parrylaw1_DomForms.j1 k x0 x1 x5 x6 true)))) else (parrylaw1_DomForms.j1 k x0 x1 x5 x6 true))))))))))
def parrylaw1_DomForms.j1 : Nat → List (S28) → Int → Bool → ByteArray → Bool → Option (Bool)
  | 0, _, _, _, _, _ => none
  | k + 1, x0, x1, x5, x6, x123 => if x123 = true then (some false) else (if (x0.length : Int) > 0 then (if 0 < (x0.length : Int) then ((dom_Size.f ((rd_T28 x0 0).f0) ((rd_T28 x0 0).f1) ((rd_T28 x0 0).f2) ((rd_T28 x0 0).f3) ((rd_T28 x0 0).f4)).bind fun t368 => ((parryref1_Size.f ((rd_T28 x0 0).f0) ((rd_T28 x0 0).f1) ((rd_T28 x0 0).f2) ((rd_T28 x0 0).f3) ((rd_T28 x0 0).f4)).bind fun t370 => (parrylaw1_DomForms.j2 k x0 x1 x5 x6 (t368 != t370)))) else (none)) else (parrylaw1_DomForms.j2 k x0 x1 x5 x6 false))
def parrylaw1_DomForms.j2 : Nat → List (S28) → Int → Bool → ByteArray → Bool → Option (Bool)
  | 0, _, _, _, _, _ => none
  | k + 1, x0, x1, x5, x6, x137 => if x137 = true then (some false) else ((dom_Part.f k x0 x1 x5).bind fun t371 => ((parryref1_Part.f k x0 x1 x5).bind fun t372 => (if t371 = t372 then ((dom_Find.f x0 x6).bind fun t373 => ((parryref1_Find.f k x0 x6).bind fun t374 => (if t373 = t374 then ((parrylaw1_awake.f k).bind fun t375 => (some t375)) else (some false)))) else (some false))))
end
def parrylaw1_DomForms.f (k : Nat) (l0 : List (S28)) (a1 : Int) (l2 : List Int) (a3 : Int) (a4 : Int) (a5 : Bool) (a6 : ByteArray) : Option (Bool) := (parrylaw1_Heavy.f k l0).bind fun t344 => (if t344 > 0 then (parrylaw1_DomForms.j0 k l0 a1 l2 a3 a4 a5 a6 true) else (if (l2.length : Int) > 20 then (parrylaw1_DomForms.j0 k l0 a1 l2 a3 a4 a5 a6 true) else (parrylaw1_DomForms.j0 k l0 a1 l2 a3 a4 a5 a6 (decide ((a6.size : Int) > 100)))))
theorem parrylaw1_DomForms.mono_l : ∀ k, (∀ y0 y1 y2 y3 y4 y5 y6 y7, LeO (parrylaw1_DomForms.j0 k y0 y1 y2 y3 y4 y5 y6 y7) (parrylaw1_DomForms.j0 (k + 1) y0 y1 y2 y3 y4 y5 y6 y7)) ∧ (∀ y0 y1 y2 y3 y4, LeO (parrylaw1_DomForms.j1 k y0 y1 y2 y3 y4) (parrylaw1_DomForms.j1 (k + 1) y0 y1 y2 y3 y4)) ∧ (∀ y0 y1 y2 y3 y4, LeO (parrylaw1_DomForms.j2 k y0 y1 y2 y3 y4) (parrylaw1_DomForms.j2 (k + 1) y0 y1 y2 y3 y4))
  | 0 => ⟨fun _ _ _ _ _ _ _ _ r h => by simp [parrylaw1_DomForms.j0] at h, fun _ _ _ _ _ r h => by simp [parrylaw1_DomForms.j1] at h, fun _ _ _ _ _ r h => by simp [parrylaw1_DomForms.j2] at h⟩
  | k + 1 => by
    obtain ⟨ih0, ih1, ih2⟩ := parrylaw1_DomForms.mono_l k
    refine ⟨?_, ?_, ?_⟩
    · intro y0 y1 y2 y3 y4 y5 y6 y7
      unfold parrylaw1_DomForms.j0
      repeat' first
      | (with_reducible exact ih0 _ _ _ _ _ _ _ _)
      | (with_reducible exact ih1 _ _ _ _ _)
      | (with_reducible exact ih2 _ _ _ _ _)
      | (with_reducible exact dom_May.mono _ _)
      | (with_reducible exact dom_Part.mono _ _ _ _)
      | (with_reducible exact dom_State.mono _ _ _)
      | (with_reducible exact dom_Total.mono _ _)
      | (with_reducible exact dom_Values.mono _ _ _)
      | (with_reducible exact dom_With.mono _ _ _ _ _)
      | (with_reducible exact parrylaw1_Heavy.mono _ _)
      | (with_reducible exact parrylaw1_awake.mono _)
      | (with_reducible exact parryref1_Find.mono _ _ _)
      | (with_reducible exact parryref1_MayVars.mono _ _)
      | (with_reducible exact parryref1_Part.mono _ _ _ _)
      | (with_reducible exact parryref1_State.mono _ _ _)
      | (with_reducible exact parryref1_Total.mono _ _)
      | (with_reducible exact parryref1_Values.mono _ _ _)
      | (with_reducible exact parryref1_With.mono _ _ _ _ _)
      | (with_reducible exact parryref9_SameInts.mono _ _ _)
      | (with_reducible exact LeO.refl _)
      | (with_reducible exact LeO.none _)
      | (with_reducible refine LeO.ite ?_ ?_)
      | (with_reducible refine LeO.bind ?_ (fun _ => ?_))
      | exact ih0 _ _ _ _ _ _ _ _
      | exact ih1 _ _ _ _ _
      | exact ih2 _ _ _ _ _
      | exact dom_May.mono _ _
      | exact dom_Part.mono _ _ _ _
      | exact dom_State.mono _ _ _
      | exact dom_Total.mono _ _
      | exact dom_Values.mono _ _ _
      | exact dom_With.mono _ _ _ _ _
      | exact parrylaw1_Heavy.mono _ _
      | exact parrylaw1_awake.mono _
      | exact parryref1_Find.mono _ _ _
      | exact parryref1_MayVars.mono _ _
      | exact parryref1_Part.mono _ _ _ _
      | exact parryref1_State.mono _ _ _
      | exact parryref1_Total.mono _ _
      | exact parryref1_Values.mono _ _ _
      | exact parryref1_With.mono _ _ _ _ _
      | exact parryref9_SameInts.mono _ _ _
      | exact LeO.none _
      | refine LeO.ite ?_ ?_
      | refine LeO.bind ?_ (fun _ => ?_)
    · intro y0 y1 y2 y3 y4
      unfold parrylaw1_DomForms.j1
      repeat' first
      | (with_reducible exact ih0 _ _ _ _ _ _ _ _)
      | (with_reducible exact ih1 _ _ _ _ _)
      | (with_reducible exact ih2 _ _ _ _ _)
      | (with_reducible exact dom_May.mono _ _)
      | (with_reducible exact dom_Part.mono _ _ _ _)
      | (with_reducible exact dom_State.mono _ _ _)
      | (with_reducible exact dom_Total.mono _ _)
      | (with_reducible exact dom_Values.mono _ _ _)
      | (with_reducible exact dom_With.mono _ _ _ _ _)
      | (with_reducible exact parrylaw1_Heavy.mono _ _)
      | (with_reducible exact parrylaw1_awake.mono _)
      | (with_reducible exact parryref1_Find.mono _ _ _)
      | (with_reducible exact parryref1_MayVars.mono _ _)
      | (with_reducible exact parryref1_Part.mono _ _ _ _)
      | (with_reducible exact parryref1_State.mono _ _ _)
      | (with_reducible exact parryref1_Total.mono _ _)
      | (with_reducible exact parryref1_Values.mono _ _ _)
      | (with_reducible exact parryref1_With.mono _ _ _ _ _)
      | (with_reducible exact parryref9_SameInts.mono _ _ _)
      | (with_reducible exact LeO.refl _)
      | (with_reducible exact LeO.none _)
      | (with_reducible refine LeO.ite ?_ ?_)
      | (with_reducible refine LeO.bind ?_ (fun _ => ?_))
      | exact ih0 _ _ _ _ _ _ _ _
      | exact ih1 _ _ _ _ _
      | exact ih2 _ _ _ _ _
      | exact dom_May.mono _ _
      | exact dom_Part.mono _ _ _ _
      | exact dom_State.mono _ _ _
      | exact dom_Total.mono _ _
      | exact dom_Values.mono _ _ _
      | exact dom_With.mono _ _ _ _ _
      | exact parrylaw1_Heavy.mono _ _
      | exact parrylaw1_awake.mono _
      | exact parryref1_Find.mono _ _ _
      | exact parryref1_MayVars.mono _ _
      | exact parryref1_Part.mono _ _ _ _
      | exact parryref1_State.mono _ _ _
      | exact parryref1_Total.mono _ _
      | exact parryref1_Values.mono _ _ _
      | exact parryref1_With.mono _ _ _ _ _
      | exact parryref9_SameInts.mono _ _ _
      | exact LeO.none _
      | refine LeO.ite ?_ ?_
      | refine LeO.bind ?_ (fun _ => ?_)
    · intro y0 y1 y2 y3 y4
      unfold parrylaw1_DomForms.j2
      repeat' first
      | (with_reducible exact ih0 _ _ _ _ _ _ _ _)
      | (with_reducible exact ih1 _ _ _ _ _)
      | (with_reducible exact ih2 _ _ _ _ _)
      | (with_reducible exact dom_May.mono _ _)
      | (with_reducible exact dom_Part.mono _ _ _ _)
      | (with_reducible exact dom_State.mono _ _ _)
      | (with_reducible exact dom_Total.mono _ _)
      | (with_reducible exact dom_Values.mono _ _ _)
      | (with_reducible exact dom_With.mono _ _ _ _ _)
      | (with_reducible exact parrylaw1_Heavy.mono _ _)
      | (with_reducible exact parrylaw1_awake.mono _)
      | (with_reducible exact parryref1_Find.mono _ _ _)
      | (with_reducible exact parryref1_MayVars.mono _ _)
      | (with_reducible exact parryref1_Part.mono _ _ _ _)
      | (with_reducible exact parryref1_State.mono _ _ _)
      | (with_reducible exact parryref1_Total.mono _ _)
      | (with_reducible exact parryref1_Values.mono _ _ _)
      | (with_reducible exact parryref1_With.mono _ _ _ _ _)
      | (with_reducible exact parryref9_SameInts.mono _ _ _)
      | (with_reducible exact LeO.refl _)
      | (with_reducible exact LeO.none _)
      | (with_reducible refine LeO.ite ?_ ?_)
      | (with_reducible refine LeO.bind ?_ (fun _ => ?_))
      | exact ih0 _ _ _ _ _ _ _ _
      | exact ih1 _ _ _ _ _
      | exact ih2 _ _ _ _ _
      | exact dom_May.mono _ _
      | exact dom_Part.mono _ _ _ _
      | exact dom_State.mono _ _ _
      | exact dom_Total.mono _ _
      | exact dom_Values.mono _ _ _
      | exact dom_With.mono _ _ _ _ _
      | exact parrylaw1_Heavy.mono _ _
      | exact parrylaw1_awake.mono _
      | exact parryref1_Find.mono _ _ _
      | exact parryref1_MayVars.mono _ _
      | exact parryref1_Part.mono _ _ _ _
      | exact parryref1_State.mono _ _ _
      | exact parryref1_Total.mono _ _
      | exact parryref1_Values.mono _ _ _
      | exact parryref1_With.mono _ _ _ _ _
      | exact parryref9_SameInts.mono _ _ _
      | exact LeO.none _
      | refine LeO.ite ?_ ?_
      | refine LeO.bind ?_ (fun _ => ?_)
theorem parrylaw1_DomForms.mono : ∀ a0 a1 a2 a3 a4 a5 a6 k, LeO (parrylaw1_DomForms.f k a0 a1 a2 a3 a4 a5 a6) (parrylaw1_DomForms.f (k + 1) a0 a1 a2 a3 a4 a5 a6) := by
  intro a0 a1 a2 a3 a4 a5 a6 k
  obtain ⟨ih0, ih1, ih2⟩ := parrylaw1_DomForms.mono_l k
  unfold parrylaw1_DomForms.f
  repeat' first
      | (with_reducible exact ih0 _ _ _ _ _ _ _ _)
      | (with_reducible exact ih1 _ _ _ _ _)
      | (with_reducible exact ih2 _ _ _ _ _)
      | (with_reducible exact dom_May.mono _ _)
      | (with_reducible exact dom_Part.mono _ _ _ _)
      | (with_reducible exact dom_State.mono _ _ _)
      | (with_reducible exact dom_Total.mono _ _)
      | (with_reducible exact dom_Values.mono _ _ _)
      | (with_reducible exact dom_With.mono _ _ _ _ _)
      | (with_reducible exact parrylaw1_Heavy.mono _ _)
      | (with_reducible exact parrylaw1_awake.mono _)
      | (with_reducible exact parryref1_Find.mono _ _ _)
      | (with_reducible exact parryref1_MayVars.mono _ _)
      | (with_reducible exact parryref1_Part.mono _ _ _ _)
      | (with_reducible exact parryref1_State.mono _ _ _)
      | (with_reducible exact parryref1_Total.mono _ _)
      | (with_reducible exact parryref1_Values.mono _ _ _)
      | (with_reducible exact parryref1_With.mono _ _ _ _ _)
      | (with_reducible exact parryref9_SameInts.mono _ _ _)
      | (with_reducible exact LeO.refl _)
      | (with_reducible exact LeO.none _)
      | (with_reducible refine LeO.ite ?_ ?_)
      | (with_reducible refine LeO.bind ?_ (fun _ => ?_))
      | exact ih0 _ _ _ _ _ _ _ _
      | exact ih1 _ _ _ _ _
      | exact ih2 _ _ _ _ _
      | exact dom_May.mono _ _
      | exact dom_Part.mono _ _ _ _
      | exact dom_State.mono _ _ _
      | exact dom_Total.mono _ _
      | exact dom_Values.mono _ _ _
      | exact dom_With.mono _ _ _ _ _
      | exact parrylaw1_Heavy.mono _ _
      | exact parrylaw1_awake.mono _
      | exact parryref1_Find.mono _ _ _
      | exact parryref1_MayVars.mono _ _
      | exact parryref1_Part.mono _ _ _ _
      | exact parryref1_State.mono _ _ _
      | exact parryref1_Total.mono _ _
      | exact parryref1_Values.mono _ _ _
      | exact parryref1_With.mono _ _ _ _ _
      | exact parryref9_SameInts.mono _ _ _
      | exact LeO.none _
      | refine LeO.ite ?_ ?_
      | refine LeO.bind ?_ (fun _ => ?_)
def parrylaw1_DomForms.T11 : Bool × List (List Nat × List Nat) := (true, [([], []), ([0], [0]), ([1], [1]), ([2], [2]), ([3], [3]), ([4, 3], [3, 4]), ([5, 3], [3, 5]), ([6, 3, 3], [3, 6]), ([3], [3]), ([8, 3], [3, 8]), ([9, 3], [3, 9]), ([10, 7, 3], [3, 10]), ([7, 11, 3], [3, 7, 11]), ([3, 12], [3, 12])])
def parrylaw1_DomForms.B11 : List Nat := [0, 1, 3, 7, 15, 31, 63, 127, 15, 271, 783, 2047, 4095, 8191]
theorem parrylaw1_DomForms.tab11 : rtab .any (opsOf Try.f7 11) = parrylaw1_DomForms.T11 := by kernel_rfl
theorem parrylaw1_DomForms.bits11 : waitsOk parrylaw1_DomForms.T11.2 parrylaw1_DomForms.B11 = true := by kernel_rfl
set_option maxHeartbeats 8000000 in
set_option maxRecDepth 100000 in
theorem parrylaw1_DomForms.calls (k : Nat) (A0 : Option Addr) (c0 : Nat) (l0 : List (S28)) (a1 : Int) (A2 : Option Addr) (c2 : Nat) (l2 : List Int) (a3 : Int) (a4 : Int) (a5 : Bool) (a6 : ByteArray) (r : Bool) (w : World) (hr0 : Kd.C k28 w A0 l0.length l0) (hc0 : l0.length ≤ c0) (hr2 : Kd.C (Kd.int .i64) w A2 l2.length l2) (hc2 : l2.length ≤ c2) (h : parrylaw1_DomForms.f k l0 a1 l2 a3 a4 a5 a6 = some r) :
    Calls Try.prog 7 #[.slice A0 l0.length c0, .int .i64 a1, .slice A2 l2.length c2, .int .i64 a3, .int .i64 a4, .bool a5, .string a6] w fun e w' => e = .returned (.bool r) ∧ Below w.heap.size w w' := by
  have hu28 := Try.underlying28
  have HR0 := Aside0.mk hr0
  have HC0 := Aside0.mk hc0
  clear hr0 hc0
  have HR2 := Aside0.mk hr2
  have HC2 := Aside0.mk hc2
  clear hr2 hc2
  have HB := Aside0.mk (Below.refl w.heap.size w)
  have H : ((parrylaw1_Heavy.f k l0).bind fun t344 => (if t344 > 0 then (parrylaw1_DomForms.j0 k l0 a1 l2 a3 a4 a5 a6 true) else (if (l2.length : Int) > 20 then (parrylaw1_DomForms.j0 k l0 a1 l2 a3 a4 a5 a6 true) else (parrylaw1_DomForms.j0 k l0 a1 l2 a3 a4 a5 a6 (decide ((a6.size : Int) > 100)))))) = some r := h
  clear h
  have HC8 := Aside0.mk H
  clear H
  go_enter Try.func7, Try.ntmps7
  go_upto_region 1 with (fail)
  go_cut [39] (fun v39 wc => ∃ (kq : Nat) (x39_7 : Bool), v39 = .bool x39_7 ∧ Aside0 (parrylaw1_DomForms.j0 kq l0 a1 l2 a3 a4 a5 a6 x39_7 = some r) ∧ Aside0 (kq ≤ k) ∧ Aside0 (Below w.heap.size w wc))
  case first =>
    have H := HC8.out
    clear HC8
    replace H := Option.bind_eq_some_iff.mp H
    obtain ⟨t344, A90, H⟩ := H
    replace H : (if t344 > 0 then (parrylaw1_DomForms.j0 k l0 a1 l2 a3 a4 a5 a6 true) else (if (l2.length : Int) > 20 then (parrylaw1_DomForms.j0 k l0 a1 l2 a3 a4 a5 a6 true) else (parrylaw1_DomForms.j0 k l0 a1 l2 a3 a4 a5 a6 (decide ((a6.size : Int) > 100))))) = some r := H
    have A9 := Aside0.mk A90
    clear A90
    by_cases c10 : t344 > 0
    · rw [if_pos c10] at H
      have c10b0 : decide (0 < t344) = true := decide_eq_true c10
      clear c10
      (first | rw [c10b0] | (simp only [i64_w, i32_w]; rw [c10b0]) | skip)
      have H' := Aside0.mk H
      clear H
      go_wp2_with (first | ((with_reducible refine gate_callee (f := 9) rfl ?_); refine goesL_ (some 28) rfl rfl Try.func9 (by kernel_rfl) rfl #[.slice A0 l0.length c0] rfl (by (try simp only [List.map_toArray, List.map_cons, List.map_nil]); first | done | rfl | (simp only [List.length_drop, List.length_take]; rfl)) ?_; (with_reducible refine (parrylaw1_Heavy.calls k _ _ l0 t344 _ ?side1 ?side2 A9.out).mono ?_); (case side1 => repeat (first | exact (Kd.C_below HR0.out HB.out) | (with_reducible refine Kd.C_alloc ?_ _) | (with_reducible refine Kd.C_drewN ?_ _) | (with_reducible refine Kd.C_drew ?_))); (case side2 => exact HC0.out); rintro e w11 ⟨rfl, hb⟩; refine ⟨_, rfl, ?_⟩; have n0_ := Aside0.mk (below_step (by repeat (first | (with_reducible first | exact HB.out | apply below_alloc | apply pw_below_drewN | apply below_drew1) | exact HB.out)) hb); clear HB; have HB := n0_; clear n0_; (try clear hb); (try clear hb2); (try clear hk); (try clear hi)))
      go_meet
      case rel => exact ⟨_, (true), (by first | rfl | (simp; done) | (simp [*]; done)), H', ⟨by first | omega | exact Nat.le_refl _⟩, ⟨by repeat (first | (with_reducible first | exact HB.out | apply below_alloc | apply pw_below_drewN | apply below_drew1) | exact HB.out)⟩⟩
    · rw [if_neg c10] at H
      have c10b0 : decide (0 < t344) = false := decide_eq_false c10
      clear c10
      (first | rw [c10b0] | (simp only [i64_w, i32_w]; rw [c10b0]) | skip)
      by_cases c12 : (l2.length : Int) > 20
      · rw [if_pos c12] at H
        have c12b0 : decide (20 < (l2.length : Int)) = true := decide_eq_true c12
        have c12b1 : decide (20 < l2.length) = true := decide_eq_true (by omega)
        clear c12
        have H' := Aside0.mk H
        clear H
        go_wp2_with (first | ((with_reducible refine gate_callee (f := 9) rfl ?_); refine goesL_ (some 28) rfl rfl Try.func9 (by kernel_rfl) rfl #[.slice A0 l0.length c0] rfl (by (try simp only [List.map_toArray, List.map_cons, List.map_nil]); first | done | rfl | (simp only [List.length_drop, List.length_take]; rfl)) ?_; (with_reducible refine (parrylaw1_Heavy.calls k _ _ l0 t344 _ ?side1 ?side2 A9.out).mono ?_); (case side1 => repeat (first | exact (Kd.C_below HR0.out HB.out) | (with_reducible refine Kd.C_alloc ?_ _) | (with_reducible refine Kd.C_drewN ?_ _) | (with_reducible refine Kd.C_drew ?_))); (case side2 => exact HC0.out); rintro e w13 ⟨rfl, hb⟩; refine ⟨_, rfl, ?_⟩; have n0_ := Aside0.mk (below_step (by repeat (first | (with_reducible first | exact HB.out | apply below_alloc | apply pw_below_drewN | apply below_drew1) | exact HB.out)) hb); clear HB; have HB := n0_; clear n0_; (try clear hb); (try clear hb2); (try clear hk); (try clear hi)))
        go_meet
        case rel => exact ⟨_, (true), (by first | rfl | (simp; done) | (simp [*]; done)), H', ⟨by first | omega | exact Nat.le_refl _⟩, ⟨by repeat (first | (with_reducible first | exact HB.out | apply below_alloc | apply pw_below_drewN | apply below_drew1) | exact HB.out)⟩⟩
      · rw [if_neg c12] at H
        have c12b0 : decide (20 < (l2.length : Int)) = false := decide_eq_false c12
        have c12b1 : decide (20 < l2.length) = false := decide_eq_false (by omega)
        clear c12
        have H' := Aside0.mk H
        clear H
        go_wp2_with (first | ((with_reducible refine gate_callee (f := 9) rfl ?_); refine goesL_ (some 28) rfl rfl Try.func9 (by kernel_rfl) rfl #[.slice A0 l0.length c0] rfl (by (try simp only [List.map_toArray, List.map_cons, List.map_nil]); first | done | rfl | (simp only [List.length_drop, List.length_take]; rfl)) ?_; (with_reducible refine (parrylaw1_Heavy.calls k _ _ l0 t344 _ ?side1 ?side2 A9.out).mono ?_); (case side1 => repeat (first | exact (Kd.C_below HR0.out HB.out) | (with_reducible refine Kd.C_alloc ?_ _) | (with_reducible refine Kd.C_drewN ?_ _) | (with_reducible refine Kd.C_drew ?_))); (case side2 => exact HC0.out); rintro e w14 ⟨rfl, hb⟩; refine ⟨_, rfl, ?_⟩; have n0_ := Aside0.mk (below_step (by repeat (first | (with_reducible first | exact HB.out | apply below_alloc | apply pw_below_drewN | apply below_drew1) | exact HB.out)) hb); clear HB; have HB := n0_; clear n0_; (try clear hb); (try clear hb2); (try clear hk); (try clear hi)))
        go_meet
        case rel => exact ⟨_, (decide ((a6.size : Int) > 100)), (by first | rfl | (simp; done) | (simp [*]; done)), H', ⟨by first | omega | exact Nat.le_refl _⟩, ⟨by repeat (first | (with_reducible first | exact HB.out | apply below_alloc | apply pw_below_drewN | apply below_drew1) | exact HB.out)⟩⟩
  case rest =>
    clear HC8
    try clear c1
    try clear c2
    try clear p2
    try clear c7
    try clear c9
    try clear c10
    try clear c10b0
    try clear c12
    try clear c12b0
    try clear c12b1
    obtain ⟨kq, x39_7, rfl, HA, HJ7, HB⟩ := hcut
    cases kq with
    | zero => exact absurd HA.out (by simp [parrylaw1_DomForms.j0])
    | succ kj7 =>
      have H := HA.out
      clear HA
      simp only [parrylaw1_DomForms.j0] at H
      by_cases c15 : x39_7 = true
      · subst c15
        have H1 : ((parrylaw1_awake.f kj7).bind fun t345 => (some t345)) = some r := by rw [if_pos rfl] at H; exact H
        clear H
        have H := H1
        clear H1
        replace H := Option.bind_eq_some_iff.mp H
        obtain ⟨t345, A160, H⟩ := H
        replace H : (some t345) = some r := H
        have A16 := Aside0.mk A160
        clear A160
        obtain rfl := Option.some.inj H
        go_wp2_with (first | ((with_reducible refine gate_callee (f := 11) rfl ?_); refine goesL_ (some 40) rfl rfl Try.func11 (by kernel_rfl) rfl #[] rfl (by (try simp only [List.map_toArray, List.map_cons, List.map_nil]); first | done | rfl | (simp only [List.length_drop, List.length_take]; rfl)) ?_; (with_reducible refine (parrylaw1_awake.calls kj7  t345 _ A16.out).mono ?_); rintro e w17 ⟨rfl, hb⟩; refine ⟨_, rfl, ?_⟩; have n0_ := Aside0.mk (below_step (by repeat (first | (with_reducible first | exact HB.out | apply below_alloc | apply pw_below_drewN | apply below_drew1) | exact HB.out)) hb); clear HB; have HB := n0_; clear n0_; (try clear hb); (try clear hb2); (try clear hk); (try clear hi)))
        go_ret
        exact ⟨by first | rfl | (simp [errW_none, errW_some] <;> rfl) | (simp [*, errW_none, errW_some] <;> rfl), by repeat (first | (with_reducible first | exact HB.out | apply below_alloc | apply pw_below_drewN | apply below_drew1) | exact HB.out)⟩
      · replace c15 := Bool.eq_false_iff.mpr c15
        subst c15
        have H1 : ((dom_Values.f kj7 l0 a1).bind fun bt346 => ((parryref1_Values.f kj7 l0 a1).bind fun bt350 => ((dom_State.f kj7 l0 l2).bind fun bt354 => ((parryref1_State.f kj7 l0 l2).bind fun bt356 => ((dom_With.f kj7 l0 a1 a3 a4).bind fun bt358 => ((parryref1_With.f kj7 l0 a1 a3 a4).bind fun bt360 => ((dom_May.f kj7 l0).bind fun t362 => ((parryref1_MayVars.f kj7 l0).bind fun t363 => (if t362 = t363 then ((dom_Total.f kj7 l0).bind fun t364 => ((parryref1_Total.f kj7 l0).bind fun t365 => (if t364 = t365 then ((parryref9_SameInts.f kj7 bt346.1 bt350.1).bind fun t366 => (if t366 = true then (if (bt346.2 != bt350.2) = true then (parrylaw1_DomForms.j1 kj7 l0 a1 a5 a6 true) else (if bt354.1 = bt356.1 then (if (bt354.2 != bt356.2) = true then (parrylaw1_DomForms.j1 kj7 l0 a1 a5 a6 true) else (if bt358.1 = bt360.1 then (parrylaw1_DomForms.j1 kj7 l0 a1 a5 a6 (bt358.2 != bt360.2)) else (parrylaw1_DomForms.j1 kj7 l0 a1 a5 a6 true))) else (parrylaw1_DomForms.j1 kj7 l0 a1 a5 a6 true))) else (parrylaw1_DomForms.j1 kj7 l0 a1 a5 a6 true))) else (parrylaw1_DomForms.j1 kj7 l0 a1 a5 a6 true)))) else (parrylaw1_DomForms.j1 kj7 l0 a1 a5 a6 true)))))))))) = some r := by rw [if_neg (show ¬ (false = true) by decide)] at H; exact H
        clear H
        have H := H1
        clear H1
        replace H := Option.bind_eq_some_iff.mp H
        obtain ⟨⟨t346, t347⟩, A180, H⟩ := H
        replace H : ((parryref1_Values.f kj7 l0 a1).bind fun bt350 => ((dom_State.f kj7 l0 l2).bind fun bt354 => ((parryref1_State.f kj7 l0 l2).bind fun bt356 => ((dom_With.f kj7 l0 a1 a3 a4).bind fun bt358 => ((parryref1_With.f kj7 l0 a1 a3 a4).bind fun bt360 => ((dom_May.f kj7 l0).bind fun t362 => ((parryref1_MayVars.f kj7 l0).bind fun t363 => (if t362 = t363 then ((dom_Total.f kj7 l0).bind fun t364 => ((parryref1_Total.f kj7 l0).bind fun t365 => (if t364 = t365 then ((parryref9_SameInts.f kj7 t346 bt350.1).bind fun t366 => (if t366 = true then (if (t347 != bt350.2) = true then (parrylaw1_DomForms.j1 kj7 l0 a1 a5 a6 true) else (if bt354.1 = bt356.1 then (if (bt354.2 != bt356.2) = true then (parrylaw1_DomForms.j1 kj7 l0 a1 a5 a6 true) else (if bt358.1 = bt360.1 then (parrylaw1_DomForms.j1 kj7 l0 a1 a5 a6 (bt358.2 != bt360.2)) else (parrylaw1_DomForms.j1 kj7 l0 a1 a5 a6 true))) else (parrylaw1_DomForms.j1 kj7 l0 a1 a5 a6 true))) else (parrylaw1_DomForms.j1 kj7 l0 a1 a5 a6 true))) else (parrylaw1_DomForms.j1 kj7 l0 a1 a5 a6 true)))) else (parrylaw1_DomForms.j1 kj7 l0 a1 a5 a6 true))))))))) = some r := H
        have A18 := Aside0.mk A180
        clear A180
        replace H := Option.bind_eq_some_iff.mp H
        obtain ⟨⟨t350, t351⟩, A190, H⟩ := H
        replace H : ((dom_State.f kj7 l0 l2).bind fun bt354 => ((parryref1_State.f kj7 l0 l2).bind fun bt356 => ((dom_With.f kj7 l0 a1 a3 a4).bind fun bt358 => ((parryref1_With.f kj7 l0 a1 a3 a4).bind fun bt360 => ((dom_May.f kj7 l0).bind fun t362 => ((parryref1_MayVars.f kj7 l0).bind fun t363 => (if t362 = t363 then ((dom_Total.f kj7 l0).bind fun t364 => ((parryref1_Total.f kj7 l0).bind fun t365 => (if t364 = t365 then ((parryref9_SameInts.f kj7 t346 t350).bind fun t366 => (if t366 = true then (if (t347 != t351) = true then (parrylaw1_DomForms.j1 kj7 l0 a1 a5 a6 true) else (if bt354.1 = bt356.1 then (if (bt354.2 != bt356.2) = true then (parrylaw1_DomForms.j1 kj7 l0 a1 a5 a6 true) else (if bt358.1 = bt360.1 then (parrylaw1_DomForms.j1 kj7 l0 a1 a5 a6 (bt358.2 != bt360.2)) else (parrylaw1_DomForms.j1 kj7 l0 a1 a5 a6 true))) else (parrylaw1_DomForms.j1 kj7 l0 a1 a5 a6 true))) else (parrylaw1_DomForms.j1 kj7 l0 a1 a5 a6 true))) else (parrylaw1_DomForms.j1 kj7 l0 a1 a5 a6 true)))) else (parrylaw1_DomForms.j1 kj7 l0 a1 a5 a6 true)))))))) = some r := H
        have A19 := Aside0.mk A190
        clear A190
        replace H := Option.bind_eq_some_iff.mp H
        obtain ⟨⟨t354, t355⟩, A200, H⟩ := H
        replace H : ((parryref1_State.f kj7 l0 l2).bind fun bt356 => ((dom_With.f kj7 l0 a1 a3 a4).bind fun bt358 => ((parryref1_With.f kj7 l0 a1 a3 a4).bind fun bt360 => ((dom_May.f kj7 l0).bind fun t362 => ((parryref1_MayVars.f kj7 l0).bind fun t363 => (if t362 = t363 then ((dom_Total.f kj7 l0).bind fun t364 => ((parryref1_Total.f kj7 l0).bind fun t365 => (if t364 = t365 then ((parryref9_SameInts.f kj7 t346 t350).bind fun t366 => (if t366 = true then (if (t347 != t351) = true then (parrylaw1_DomForms.j1 kj7 l0 a1 a5 a6 true) else (if t354 = bt356.1 then (if (t355 != bt356.2) = true then (parrylaw1_DomForms.j1 kj7 l0 a1 a5 a6 true) else (if bt358.1 = bt360.1 then (parrylaw1_DomForms.j1 kj7 l0 a1 a5 a6 (bt358.2 != bt360.2)) else (parrylaw1_DomForms.j1 kj7 l0 a1 a5 a6 true))) else (parrylaw1_DomForms.j1 kj7 l0 a1 a5 a6 true))) else (parrylaw1_DomForms.j1 kj7 l0 a1 a5 a6 true))) else (parrylaw1_DomForms.j1 kj7 l0 a1 a5 a6 true)))) else (parrylaw1_DomForms.j1 kj7 l0 a1 a5 a6 true))))))) = some r := H
        have A20 := Aside0.mk A200
        clear A200
        replace H := Option.bind_eq_some_iff.mp H
        obtain ⟨⟨t356, t357⟩, A210, H⟩ := H
        replace H : ((dom_With.f kj7 l0 a1 a3 a4).bind fun bt358 => ((parryref1_With.f kj7 l0 a1 a3 a4).bind fun bt360 => ((dom_May.f kj7 l0).bind fun t362 => ((parryref1_MayVars.f kj7 l0).bind fun t363 => (if t362 = t363 then ((dom_Total.f kj7 l0).bind fun t364 => ((parryref1_Total.f kj7 l0).bind fun t365 => (if t364 = t365 then ((parryref9_SameInts.f kj7 t346 t350).bind fun t366 => (if t366 = true then (if (t347 != t351) = true then (parrylaw1_DomForms.j1 kj7 l0 a1 a5 a6 true) else (if t354 = t356 then (if (t355 != t357) = true then (parrylaw1_DomForms.j1 kj7 l0 a1 a5 a6 true) else (if bt358.1 = bt360.1 then (parrylaw1_DomForms.j1 kj7 l0 a1 a5 a6 (bt358.2 != bt360.2)) else (parrylaw1_DomForms.j1 kj7 l0 a1 a5 a6 true))) else (parrylaw1_DomForms.j1 kj7 l0 a1 a5 a6 true))) else (parrylaw1_DomForms.j1 kj7 l0 a1 a5 a6 true))) else (parrylaw1_DomForms.j1 kj7 l0 a1 a5 a6 true)))) else (parrylaw1_DomForms.j1 kj7 l0 a1 a5 a6 true)))))) = some r := H
        have A21 := Aside0.mk A210
        clear A210
        replace H := Option.bind_eq_some_iff.mp H
        obtain ⟨⟨t358, t359⟩, A220, H⟩ := H
        replace H : ((parryref1_With.f kj7 l0 a1 a3 a4).bind fun bt360 => ((dom_May.f kj7 l0).bind fun t362 => ((parryref1_MayVars.f kj7 l0).bind fun t363 => (if t362 = t363 then ((dom_Total.f kj7 l0).bind fun t364 => ((parryref1_Total.f kj7 l0).bind fun t365 => (if t364 = t365 then ((parryref9_SameInts.f kj7 t346 t350).bind fun t366 => (if t366 = true then (if (t347 != t351) = true then (parrylaw1_DomForms.j1 kj7 l0 a1 a5 a6 true) else (if t354 = t356 then (if (t355 != t357) = true then (parrylaw1_DomForms.j1 kj7 l0 a1 a5 a6 true) else (if t358 = bt360.1 then (parrylaw1_DomForms.j1 kj7 l0 a1 a5 a6 (t359 != bt360.2)) else (parrylaw1_DomForms.j1 kj7 l0 a1 a5 a6 true))) else (parrylaw1_DomForms.j1 kj7 l0 a1 a5 a6 true))) else (parrylaw1_DomForms.j1 kj7 l0 a1 a5 a6 true))) else (parrylaw1_DomForms.j1 kj7 l0 a1 a5 a6 true)))) else (parrylaw1_DomForms.j1 kj7 l0 a1 a5 a6 true))))) = some r := H
        have A22 := Aside0.mk A220
        clear A220
        replace H := Option.bind_eq_some_iff.mp H
        obtain ⟨⟨t360, t361⟩, A230, H⟩ := H
        replace H : ((dom_May.f kj7 l0).bind fun t362 => ((parryref1_MayVars.f kj7 l0).bind fun t363 => (if t362 = t363 then ((dom_Total.f kj7 l0).bind fun t364 => ((parryref1_Total.f kj7 l0).bind fun t365 => (if t364 = t365 then ((parryref9_SameInts.f kj7 t346 t350).bind fun t366 => (if t366 = true then (if (t347 != t351) = true then (parrylaw1_DomForms.j1 kj7 l0 a1 a5 a6 true) else (if t354 = t356 then (if (t355 != t357) = true then (parrylaw1_DomForms.j1 kj7 l0 a1 a5 a6 true) else (if t358 = t360 then (parrylaw1_DomForms.j1 kj7 l0 a1 a5 a6 (t359 != t361)) else (parrylaw1_DomForms.j1 kj7 l0 a1 a5 a6 true))) else (parrylaw1_DomForms.j1 kj7 l0 a1 a5 a6 true))) else (parrylaw1_DomForms.j1 kj7 l0 a1 a5 a6 true))) else (parrylaw1_DomForms.j1 kj7 l0 a1 a5 a6 true)))) else (parrylaw1_DomForms.j1 kj7 l0 a1 a5 a6 true)))) = some r := H
        have A23 := Aside0.mk A230
        clear A230
        have HC24 := Aside0.mk H
        clear H
        go_upto_region 9 with (first | ((with_reducible refine gate_callee (f := 14) rfl ?_); refine goesL_ (some 44) rfl rfl Try.func14 (by kernel_rfl) rfl #[.slice A0 l0.length c0, .int .i64 a1] rfl (by (try simp only [List.map_toArray, List.map_cons, List.map_nil]); first | done | rfl | (simp only [List.length_drop, List.length_take]; rfl)) ?_; (with_reducible refine (dom_Values.calls kj7 _ _ l0 a1 t346 t347 _ ?side1 ?side2 A18.out).mono ?_); (case side1 => repeat (first | exact (Kd.C_below HR0.out HB.out) | (with_reducible refine Kd.C_alloc ?_ _) | (with_reducible refine Kd.C_drewN ?_ _) | (with_reducible refine Kd.C_drew ?_))); (case side2 => exact HC0.out); rintro e w25 ⟨v348, rfl, ho0, hb⟩; refine ⟨_, rfl, ?_⟩; have n0_ := Aside0.mk (Kd.R_lower ho0 (below_size (by repeat (first | (with_reducible first | exact HB.out | apply below_alloc | apply pw_below_drewN | apply below_drew1) | exact HB.out)))); have n1_ := Aside0.mk (below_step (by repeat (first | (with_reducible first | exact HB.out | apply below_alloc | apply pw_below_drewN | apply below_drew1) | exact HB.out)) hb); clear HB; have HO349 := n0_; have HB := n1_; clear n0_ n1_; (try clear hb); (try clear hb2); (try clear hk); (try clear hi); (try clear ho0)) | ((with_reducible refine gate_callee (f := 20) rfl ?_); refine goesL_ (some 50) rfl rfl Try.func20 (by kernel_rfl) rfl #[.slice A0 l0.length c0, .int .i64 a1] rfl (by (try simp only [List.map_toArray, List.map_cons, List.map_nil]); first | done | rfl | (simp only [List.length_drop, List.length_take]; rfl)) ?_; (with_reducible refine (parryref1_Values.calls kj7 _ _ l0 a1 t350 t351 _ ?side1 ?side2 A19.out).mono ?_); (case side1 => repeat (first | exact (Kd.C_below HR0.out HB.out) | (with_reducible refine Kd.C_alloc ?_ _) | (with_reducible refine Kd.C_drewN ?_ _) | (with_reducible refine Kd.C_drew ?_))); (case side2 => exact HC0.out); rintro e w26 ⟨v352, rfl, ho0, hb⟩; refine ⟨_, rfl, ?_⟩; have n0_ := Aside0.mk (Kd.R_elder' (by (with_reducible repeat (first | apply Kd.R_alloc | apply Kd.R_drewN | apply Kd.R_drew)); exact HO349.out) (Kd.R_base ho0) hb); have n1_ := Aside0.mk (Kd.R_lower (Kd.R_new' ho0 (Kd.R_lt (by (with_reducible repeat (first | apply Kd.R_alloc | apply Kd.R_drewN | apply Kd.R_drew)); exact HO349.out))) (below_size (by repeat (first | (with_reducible first | exact HB.out | apply below_alloc | apply pw_below_drewN | apply below_drew1) | exact HB.out)))); have n2_ := Aside0.mk (below_step (by repeat (first | (with_reducible first | exact HB.out | apply below_alloc | apply pw_below_drewN | apply below_drew1) | exact HB.out)) hb); clear HO349; clear HB; have HO349 := n0_; have HO353 := n1_; have HB := n2_; clear n0_ n1_ n2_; (try clear hb); (try clear hb2); (try clear hk); (try clear hi); (try clear ho0)) | ((with_reducible refine gate_callee (f := 15) rfl ?_); refine goesL_ (some 56) rfl rfl Try.func15 (by kernel_rfl) rfl #[.slice A0 l0.length c0, .slice A2 l2.length c2] rfl (by (try simp only [List.map_toArray, List.map_cons, List.map_nil]); first | done | rfl | (simp only [List.length_drop, List.length_take]; rfl)) ?_; (with_reducible refine (dom_State.calls kj7 _ _ l0 _ _ l2 t354 t355 _ ?side1 ?side2 ?side3 ?side4 A20.out).mono ?_); (case side1 => repeat (first | exact (Kd.C_below HR0.out HB.out) | (with_reducible refine Kd.C_alloc ?_ _) | (with_reducible refine Kd.C_drewN ?_ _) | (with_reducible refine Kd.C_drew ?_))); (case side2 => exact HC0.out); (case side3 => repeat (first | exact (Kd.C_below HR2.out HB.out) | (with_reducible refine Kd.C_alloc ?_ _) | (with_reducible refine Kd.C_drewN ?_ _) | (with_reducible refine Kd.C_drew ?_))); (case side4 => exact HC2.out); rintro e w27 ⟨rfl, hb⟩; refine ⟨_, rfl, ?_⟩; have n0_ := Aside0.mk (Kd.R_below (by (with_reducible repeat (first | apply Kd.R_alloc | apply Kd.R_drewN | apply Kd.R_drew)); exact HO349.out) hb); have n1_ := Aside0.mk (Kd.R_below (by (with_reducible repeat (first | apply Kd.R_alloc | apply Kd.R_drewN | apply Kd.R_drew)); exact HO353.out) hb); have n2_ := Aside0.mk (below_step (by repeat (first | (with_reducible first | exact HB.out | apply below_alloc | apply pw_below_drewN | apply below_drew1) | exact HB.out)) hb); clear HO349; clear HO353; clear HB; have HO349 := n0_; have HO353 := n1_; have HB := n2_; clear n0_ n1_ n2_; (try clear hb); (try clear hb2); (try clear hk); (try clear hi)) | ((with_reducible refine gate_callee (f := 21) rfl ?_); refine goesL_ (some 62) rfl rfl Try.func21 (by kernel_rfl) rfl #[.slice A0 l0.length c0, .slice A2 l2.length c2] rfl (by (try simp only [List.map_toArray, List.map_cons, List.map_nil]); first | done | rfl | (simp only [List.length_drop, List.length_take]; rfl)) ?_; (with_reducible refine (parryref1_State.calls kj7 _ _ l0 _ _ l2 t356 t357 _ ?side1 ?side2 ?side3 ?side4 A21.out).mono ?_); (case side1 => repeat (first | exact (Kd.C_below HR0.out HB.out) | (with_reducible refine Kd.C_alloc ?_ _) | (with_reducible refine Kd.C_drewN ?_ _) | (with_reducible refine Kd.C_drew ?_))); (case side2 => exact HC0.out); (case side3 => repeat (first | exact (Kd.C_below HR2.out HB.out) | (with_reducible refine Kd.C_alloc ?_ _) | (with_reducible refine Kd.C_drewN ?_ _) | (with_reducible refine Kd.C_drew ?_))); (case side4 => exact HC2.out); rintro e w28 ⟨rfl, hb⟩; refine ⟨_, rfl, ?_⟩; have n0_ := Aside0.mk (Kd.R_below (by (with_reducible repeat (first | apply Kd.R_alloc | apply Kd.R_drewN | apply Kd.R_drew)); exact HO349.out) hb); have n1_ := Aside0.mk (Kd.R_below (by (with_reducible repeat (first | apply Kd.R_alloc | apply Kd.R_drewN | apply Kd.R_drew)); exact HO353.out) hb); have n2_ := Aside0.mk (below_step (by repeat (first | (with_reducible first | exact HB.out | apply below_alloc | apply pw_below_drewN | apply below_drew1) | exact HB.out)) hb); clear HO349; clear HO353; clear HB; have HO349 := n0_; have HO353 := n1_; have HB := n2_; clear n0_ n1_ n2_; (try clear hb); (try clear hb2); (try clear hk); (try clear hi)) | ((with_reducible refine gate_callee (f := 22) rfl ?_); refine goesL_ (some 70) rfl rfl Try.func22 (by kernel_rfl) rfl #[.slice A0 l0.length c0, .int .i64 a1, .int .i64 a3, .int .i64 a4] rfl (by (try simp only [List.map_toArray, List.map_cons, List.map_nil]); first | done | rfl | (simp only [List.length_drop, List.length_take]; rfl)) ?_; (with_reducible refine (dom_With.calls kj7 _ _ l0 a1 a3 a4 t358 t359 _ ?side1 ?side2 A22.out).mono ?_); (case side1 => repeat (first | exact (Kd.C_below HR0.out HB.out) | (with_reducible refine Kd.C_alloc ?_ _) | (with_reducible refine Kd.C_drewN ?_ _) | (with_reducible refine Kd.C_drew ?_))); (case side2 => exact HC0.out); rintro e w29 ⟨rfl, hb⟩; refine ⟨_, rfl, ?_⟩; have n0_ := Aside0.mk (Kd.R_below (by (with_reducible repeat (first | apply Kd.R_alloc | apply Kd.R_drewN | apply Kd.R_drew)); exact HO349.out) hb); have n1_ := Aside0.mk (Kd.R_below (by (with_reducible repeat (first | apply Kd.R_alloc | apply Kd.R_drewN | apply Kd.R_drew)); exact HO353.out) hb); have n2_ := Aside0.mk (below_step (by repeat (first | (with_reducible first | exact HB.out | apply below_alloc | apply pw_below_drewN | apply below_drew1) | exact HB.out)) hb); clear HO349; clear HO353; clear HB; have HO349 := n0_; have HO353 := n1_; have HB := n2_; clear n0_ n1_ n2_; (try clear hb); (try clear hb2); (try clear hk); (try clear hi)) | ((with_reducible refine gate_callee (f := 23) rfl ?_); refine goesL_ (some 78) rfl rfl Try.func23 (by kernel_rfl) rfl #[.slice A0 l0.length c0, .int .i64 a1, .int .i64 a3, .int .i64 a4] rfl (by (try simp only [List.map_toArray, List.map_cons, List.map_nil]); first | done | rfl | (simp only [List.length_drop, List.length_take]; rfl)) ?_; (with_reducible refine (parryref1_With.calls kj7 _ _ l0 a1 a3 a4 t360 t361 _ ?side1 ?side2 A23.out).mono ?_); (case side1 => repeat (first | exact (Kd.C_below HR0.out HB.out) | (with_reducible refine Kd.C_alloc ?_ _) | (with_reducible refine Kd.C_drewN ?_ _) | (with_reducible refine Kd.C_drew ?_))); (case side2 => exact HC0.out); rintro e w30 ⟨rfl, hb⟩; refine ⟨_, rfl, ?_⟩; have n0_ := Aside0.mk (Kd.R_below (by (with_reducible repeat (first | apply Kd.R_alloc | apply Kd.R_drewN | apply Kd.R_drew)); exact HO349.out) hb); have n1_ := Aside0.mk (Kd.R_below (by (with_reducible repeat (first | apply Kd.R_alloc | apply Kd.R_drewN | apply Kd.R_drew)); exact HO353.out) hb); have n2_ := Aside0.mk (below_step (by repeat (first | (with_reducible first | exact HB.out | apply below_alloc | apply pw_below_drewN | apply below_drew1) | exact HB.out)) hb); clear HO349; clear HO353; clear HB; have HO349 := n0_; have HO353 := n1_; have HB := n2_; clear n0_ n1_ n2_; (try clear hb); (try clear hb2); (try clear hk); (try clear hi)))
        (try simp only [Act.put, List.setIfInBounds_toArray, List.set_cons_zero, List.set_cons_succ])
        go_cut [123] (fun v123 wc => ∃ (kq : Nat) (x123_23 : Bool), v123 = .bool x123_23 ∧ Aside0 (parrylaw1_DomForms.j1 kq l0 a1 a5 a6 x123_23 = some r) ∧ Aside0 (kq ≤ kj7) ∧ Aside0 (Below w.heap.size w wc))
        case first =>
          have H := HC24.out
          clear HC24
          replace H := Option.bind_eq_some_iff.mp H
          obtain ⟨t362, A310, H⟩ := H
          replace H : ((parryref1_MayVars.f kj7 l0).bind fun t363 => (if t362 = t363 then ((dom_Total.f kj7 l0).bind fun t364 => ((parryref1_Total.f kj7 l0).bind fun t365 => (if t364 = t365 then ((parryref9_SameInts.f kj7 t346 t350).bind fun t366 => (if t366 = true then (if (t347 != t351) = true then (parrylaw1_DomForms.j1 kj7 l0 a1 a5 a6 true) else (if t354 = t356 then (if (t355 != t357) = true then (parrylaw1_DomForms.j1 kj7 l0 a1 a5 a6 true) else (if t358 = t360 then (parrylaw1_DomForms.j1 kj7 l0 a1 a5 a6 (t359 != t361)) else (parrylaw1_DomForms.j1 kj7 l0 a1 a5 a6 true))) else (parrylaw1_DomForms.j1 kj7 l0 a1 a5 a6 true))) else (parrylaw1_DomForms.j1 kj7 l0 a1 a5 a6 true))) else (parrylaw1_DomForms.j1 kj7 l0 a1 a5 a6 true)))) else (parrylaw1_DomForms.j1 kj7 l0 a1 a5 a6 true))) = some r := H
          have A31 := Aside0.mk A310
          clear A310
          replace H := Option.bind_eq_some_iff.mp H
          obtain ⟨t363, A320, H⟩ := H
          replace H : (if t362 = t363 then ((dom_Total.f kj7 l0).bind fun t364 => ((parryref1_Total.f kj7 l0).bind fun t365 => (if t364 = t365 then ((parryref9_SameInts.f kj7 t346 t350).bind fun t366 => (if t366 = true then (if (t347 != t351) = true then (parrylaw1_DomForms.j1 kj7 l0 a1 a5 a6 true) else (if t354 = t356 then (if (t355 != t357) = true then (parrylaw1_DomForms.j1 kj7 l0 a1 a5 a6 true) else (if t358 = t360 then (parrylaw1_DomForms.j1 kj7 l0 a1 a5 a6 (t359 != t361)) else (parrylaw1_DomForms.j1 kj7 l0 a1 a5 a6 true))) else (parrylaw1_DomForms.j1 kj7 l0 a1 a5 a6 true))) else (parrylaw1_DomForms.j1 kj7 l0 a1 a5 a6 true))) else (parrylaw1_DomForms.j1 kj7 l0 a1 a5 a6 true)))) else (parrylaw1_DomForms.j1 kj7 l0 a1 a5 a6 true)) = some r := H
          have A32 := Aside0.mk A320
          clear A320
          by_cases c33 : t362 = t363
          · rw [if_pos c33] at H
            have c33b0 : (t362 == t363) = true := beq_iff_eq.mpr c33
            have c33b1 : (t362 != t363) = false := bne_eq_false_iff_eq.mpr c33
            clear c33
            (first | rw [c33b0] | (simp only [i64_w, i32_w]; rw [c33b0]) | skip)
            replace H := Option.bind_eq_some_iff.mp H
            obtain ⟨t364, A340, H⟩ := H
            replace H : ((parryref1_Total.f kj7 l0).bind fun t365 => (if t364 = t365 then ((parryref9_SameInts.f kj7 t346 t350).bind fun t366 => (if t366 = true then (if (t347 != t351) = true then (parrylaw1_DomForms.j1 kj7 l0 a1 a5 a6 true) else (if t354 = t356 then (if (t355 != t357) = true then (parrylaw1_DomForms.j1 kj7 l0 a1 a5 a6 true) else (if t358 = t360 then (parrylaw1_DomForms.j1 kj7 l0 a1 a5 a6 (t359 != t361)) else (parrylaw1_DomForms.j1 kj7 l0 a1 a5 a6 true))) else (parrylaw1_DomForms.j1 kj7 l0 a1 a5 a6 true))) else (parrylaw1_DomForms.j1 kj7 l0 a1 a5 a6 true))) else (parrylaw1_DomForms.j1 kj7 l0 a1 a5 a6 true))) = some r := H
            have A34 := Aside0.mk A340
            clear A340
            replace H := Option.bind_eq_some_iff.mp H
            obtain ⟨t365, A350, H⟩ := H
            replace H : (if t364 = t365 then ((parryref9_SameInts.f kj7 t346 t350).bind fun t366 => (if t366 = true then (if (t347 != t351) = true then (parrylaw1_DomForms.j1 kj7 l0 a1 a5 a6 true) else (if t354 = t356 then (if (t355 != t357) = true then (parrylaw1_DomForms.j1 kj7 l0 a1 a5 a6 true) else (if t358 = t360 then (parrylaw1_DomForms.j1 kj7 l0 a1 a5 a6 (t359 != t361)) else (parrylaw1_DomForms.j1 kj7 l0 a1 a5 a6 true))) else (parrylaw1_DomForms.j1 kj7 l0 a1 a5 a6 true))) else (parrylaw1_DomForms.j1 kj7 l0 a1 a5 a6 true))) else (parrylaw1_DomForms.j1 kj7 l0 a1 a5 a6 true)) = some r := H
            have A35 := Aside0.mk A350
            clear A350
            by_cases c36 : t364 = t365
            · rw [if_pos c36] at H
              have c36b0 : (t364 == t365) = true := beq_iff_eq.mpr c36
              have c36b1 : (t364 != t365) = false := bne_eq_false_iff_eq.mpr c36
              clear c36
              replace H := Option.bind_eq_some_iff.mp H
              obtain ⟨t366, A370, H⟩ := H
              replace H : (if t366 = true then (if (t347 != t351) = true then (parrylaw1_DomForms.j1 kj7 l0 a1 a5 a6 true) else (if t354 = t356 then (if (t355 != t357) = true then (parrylaw1_DomForms.j1 kj7 l0 a1 a5 a6 true) else (if t358 = t360 then (parrylaw1_DomForms.j1 kj7 l0 a1 a5 a6 (t359 != t361)) else (parrylaw1_DomForms.j1 kj7 l0 a1 a5 a6 true))) else (parrylaw1_DomForms.j1 kj7 l0 a1 a5 a6 true))) else (parrylaw1_DomForms.j1 kj7 l0 a1 a5 a6 true)) = some r := H
              have A37 := Aside0.mk A370
              clear A370
              by_cases c38 : t366 = true
              · subst c38
                have H1 : (if (t347 != t351) = true then (parrylaw1_DomForms.j1 kj7 l0 a1 a5 a6 true) else (if t354 = t356 then (if (t355 != t357) = true then (parrylaw1_DomForms.j1 kj7 l0 a1 a5 a6 true) else (if t358 = t360 then (parrylaw1_DomForms.j1 kj7 l0 a1 a5 a6 (t359 != t361)) else (parrylaw1_DomForms.j1 kj7 l0 a1 a5 a6 true))) else (parrylaw1_DomForms.j1 kj7 l0 a1 a5 a6 true))) = some r := by rw [if_pos rfl] at H; exact H
                clear H
                have H := H1
                clear H1
                by_cases c39 : (t347 != t351) = true
                · rw [if_pos c39] at H
                  have c39b0 : (t347 != t351) = true := c39
                  (try (have c39b1 : decide (t347 = t351) = false := by simpa using c39))
                  (try (have c39b2 : (t347 == t351) = false := by simpa using c39))
                  (try (have c39b3 : ¬ (t347 = t351) := by simpa using c39))
                  clear c39
                  have H' := Aside0.mk H
                  clear H
                  go_wp2_with (first | ((with_reducible refine gate_callee (f := 10) rfl ?_); refine goesL_ (some 82) rfl rfl Try.func10 (by kernel_rfl) rfl #[.slice A0 l0.length c0] rfl (by (try simp only [List.map_toArray, List.map_cons, List.map_nil]); first | done | rfl | (simp only [List.length_drop, List.length_take]; rfl)) ?_; (with_reducible refine (dom_May.calls kj7 _ _ l0 t362 _ ?side1 ?side2 A31.out).mono ?_); (case side1 => repeat (first | exact (Kd.C_below HR0.out HB.out) | (with_reducible refine Kd.C_alloc ?_ _) | (with_reducible refine Kd.C_drewN ?_ _) | (with_reducible refine Kd.C_drew ?_))); (case side2 => exact HC0.out); rintro e w40 ⟨rfl, hb⟩; refine ⟨_, rfl, ?_⟩; have n0_ := Aside0.mk (Kd.R_below (by (with_reducible repeat (first | apply Kd.R_alloc | apply Kd.R_drewN | apply Kd.R_drew)); exact HO349.out) hb); have n1_ := Aside0.mk (Kd.R_below (by (with_reducible repeat (first | apply Kd.R_alloc | apply Kd.R_drewN | apply Kd.R_drew)); exact HO353.out) hb); have n2_ := Aside0.mk (below_step (by repeat (first | (with_reducible first | exact HB.out | apply below_alloc | apply pw_below_drewN | apply below_drew1) | exact HB.out)) hb); clear HO349; clear HO353; clear HB; have HO349 := n0_; have HO353 := n1_; have HB := n2_; clear n0_ n1_ n2_; (try clear hb); (try clear hb2); (try clear hk); (try clear hi)) | ((with_reducible refine gate_callee (f := 17) rfl ?_); refine goesL_ (some 84) rfl rfl Try.func17 (by kernel_rfl) rfl #[.slice A0 l0.length c0] rfl (by (try simp only [List.map_toArray, List.map_cons, List.map_nil]); first | done | rfl | (simp only [List.length_drop, List.length_take]; rfl)) ?_; (with_reducible refine (parryref1_MayVars.calls kj7 _ _ l0 t363 _ ?side1 ?side2 A32.out).mono ?_); (case side1 => repeat (first | exact (Kd.C_below HR0.out HB.out) | (with_reducible refine Kd.C_alloc ?_ _) | (with_reducible refine Kd.C_drewN ?_ _) | (with_reducible refine Kd.C_drew ?_))); (case side2 => exact HC0.out); rintro e w41 ⟨rfl, hb⟩; refine ⟨_, rfl, ?_⟩; have n0_ := Aside0.mk (Kd.R_below (by (with_reducible repeat (first | apply Kd.R_alloc | apply Kd.R_drewN | apply Kd.R_drew)); exact HO349.out) hb); have n1_ := Aside0.mk (Kd.R_below (by (with_reducible repeat (first | apply Kd.R_alloc | apply Kd.R_drewN | apply Kd.R_drew)); exact HO353.out) hb); have n2_ := Aside0.mk (below_step (by repeat (first | (with_reducible first | exact HB.out | apply below_alloc | apply pw_below_drewN | apply below_drew1) | exact HB.out)) hb); clear HO349; clear HO353; clear HB; have HO349 := n0_; have HO353 := n1_; have HB := n2_; clear n0_ n1_ n2_; (try clear hb); (try clear hb2); (try clear hk); (try clear hi)) | (go_at_call 12; (with_reducible refine (dom_Total.calls kj7 _ _ l0 t364 _ ?side1 ?side2 A34.out).mono ?_); (case side1 => repeat (first | exact (Kd.C_below HR0.out HB.out) | (with_reducible refine Kd.C_alloc ?_ _) | (with_reducible refine Kd.C_drewN ?_ _) | (with_reducible refine Kd.C_drew ?_))); (case side2 => exact HC0.out); rintro e w42 ⟨rfl, hb⟩; have n0_ := Aside0.mk (Kd.R_below (by (with_reducible repeat (first | apply Kd.R_alloc | apply Kd.R_drewN | apply Kd.R_drew)); exact HO349.out) hb); have n1_ := Aside0.mk (Kd.R_below (by (with_reducible repeat (first | apply Kd.R_alloc | apply Kd.R_drewN | apply Kd.R_drew)); exact HO353.out) hb); have n2_ := Aside0.mk (below_step (by repeat (first | (with_reducible first | exact HB.out | apply below_alloc | apply pw_below_drewN | apply below_drew1) | exact HB.out)) hb); clear HO349; clear HO353; clear HB; have HO349 := n0_; have HO353 := n1_; have HB := n2_; clear n0_ n1_ n2_; (try clear hb); (try clear hb2); (try clear hk); (try clear hi)) | (go_at_call 18; (with_reducible refine (parryref1_Total.calls kj7 _ _ l0 t365 _ ?side1 ?side2 A35.out).mono ?_); (case side1 => repeat (first | exact (Kd.C_below HR0.out HB.out) | (with_reducible refine Kd.C_alloc ?_ _) | (with_reducible refine Kd.C_drewN ?_ _) | (with_reducible refine Kd.C_drew ?_))); (case side2 => exact HC0.out); rintro e w43 ⟨rfl, hb⟩; have n0_ := Aside0.mk (Kd.R_below (by (with_reducible repeat (first | apply Kd.R_alloc | apply Kd.R_drewN | apply Kd.R_drew)); exact HO349.out) hb); have n1_ := Aside0.mk (Kd.R_below (by (with_reducible repeat (first | apply Kd.R_alloc | apply Kd.R_drewN | apply Kd.R_drew)); exact HO353.out) hb); have n2_ := Aside0.mk (below_step (by repeat (first | (with_reducible first | exact HB.out | apply below_alloc | apply pw_below_drewN | apply below_drew1) | exact HB.out)) hb); clear HO349; clear HO353; clear HB; have HO349 := n0_; have HO353 := n1_; have HB := n2_; clear n0_ n1_ n2_; (try clear hb); (try clear hb2); (try clear hk); (try clear hi); obtain ⟨Ao44, co44, eo44⟩ := Kd.R_slice HO349.out; subst eo44; obtain ⟨Ao45, co45, eo45⟩ := Kd.R_slice HO353.out; subst eo45) | (go_at_call 24; (with_reducible refine (parryref9_SameInts.calls kj7 _ _ t346 _ _ t350 true _ ?side1 ?side2 ?side3 ?side4 A37.out).mono ?_); (case side1 => repeat (first | exact (Kd.R_reads' HO349.out).2.2 | (with_reducible refine Kd.C_alloc ?_ _) | (with_reducible refine Kd.C_drewN ?_ _) | (with_reducible refine Kd.C_drew ?_))); (case side2 => exact (Kd.R_reads' HO349.out).2.1); (case side3 => repeat (first | exact (Kd.R_reads' HO353.out).2.2 | (with_reducible refine Kd.C_alloc ?_ _) | (with_reducible refine Kd.C_drewN ?_ _) | (with_reducible refine Kd.C_drew ?_))); (case side4 => exact (Kd.R_reads' HO353.out).2.1); rintro e w' ⟨rfl, ⟨nd, rfl⟩⟩))
                  go_meet
                  case rel => exact ⟨_, (true), (by first | rfl | (simp; done) | (simp [*]; done)), H', ⟨by have := HJ7.out; first | omega | exact Nat.le_refl _⟩, ⟨by repeat (first | (with_reducible first | exact HB.out | apply below_alloc | apply pw_below_drewN | apply below_drew1) | exact HB.out)⟩⟩
                · rw [if_neg c39] at H
                  have c39b0 : (t347 != t351) = false := by simpa using c39
                  (try (have c39b1 : decide (t347 = t351) = true := by simpa using c39))
                  (try (have c39b2 : (t347 == t351) = true := by simpa using c39))
                  clear c39
                  by_cases c46 : t354 = t356
                  · rw [if_pos c46] at H
                    have c46b0 : (t354 == t356) = true := beq_iff_eq.mpr c46
                    have c46b1 : (t354 != t356) = false := bne_eq_false_iff_eq.mpr c46
                    clear c46
                    by_cases c47 : (t355 != t357) = true
                    · rw [if_pos c47] at H
                      have c47b0 : (t355 != t357) = true := c47
                      (try (have c47b1 : decide (t355 = t357) = false := by simpa using c47))
                      (try (have c47b2 : (t355 == t357) = false := by simpa using c47))
                      (try (have c47b3 : ¬ (t355 = t357) := by simpa using c47))
                      clear c47
                      have H' := Aside0.mk H
                      clear H
                      go_wp2_with (first | ((with_reducible refine gate_callee (f := 10) rfl ?_); refine goesL_ (some 82) rfl rfl Try.func10 (by kernel_rfl) rfl #[.slice A0 l0.length c0] rfl (by (try simp only [List.map_toArray, List.map_cons, List.map_nil]); first | done | rfl | (simp only [List.length_drop, List.length_take]; rfl)) ?_; (with_reducible refine (dom_May.calls kj7 _ _ l0 t362 _ ?side1 ?side2 A31.out).mono ?_); (case side1 => repeat (first | exact (Kd.C_below HR0.out HB.out) | (with_reducible refine Kd.C_alloc ?_ _) | (with_reducible refine Kd.C_drewN ?_ _) | (with_reducible refine Kd.C_drew ?_))); (case side2 => exact HC0.out); rintro e w48 ⟨rfl, hb⟩; refine ⟨_, rfl, ?_⟩; have n0_ := Aside0.mk (Kd.R_below (by (with_reducible repeat (first | apply Kd.R_alloc | apply Kd.R_drewN | apply Kd.R_drew)); exact HO349.out) hb); have n1_ := Aside0.mk (Kd.R_below (by (with_reducible repeat (first | apply Kd.R_alloc | apply Kd.R_drewN | apply Kd.R_drew)); exact HO353.out) hb); have n2_ := Aside0.mk (below_step (by repeat (first | (with_reducible first | exact HB.out | apply below_alloc | apply pw_below_drewN | apply below_drew1) | exact HB.out)) hb); clear HO349; clear HO353; clear HB; have HO349 := n0_; have HO353 := n1_; have HB := n2_; clear n0_ n1_ n2_; (try clear hb); (try clear hb2); (try clear hk); (try clear hi)) | ((with_reducible refine gate_callee (f := 17) rfl ?_); refine goesL_ (some 84) rfl rfl Try.func17 (by kernel_rfl) rfl #[.slice A0 l0.length c0] rfl (by (try simp only [List.map_toArray, List.map_cons, List.map_nil]); first | done | rfl | (simp only [List.length_drop, List.length_take]; rfl)) ?_; (with_reducible refine (parryref1_MayVars.calls kj7 _ _ l0 t363 _ ?side1 ?side2 A32.out).mono ?_); (case side1 => repeat (first | exact (Kd.C_below HR0.out HB.out) | (with_reducible refine Kd.C_alloc ?_ _) | (with_reducible refine Kd.C_drewN ?_ _) | (with_reducible refine Kd.C_drew ?_))); (case side2 => exact HC0.out); rintro e w49 ⟨rfl, hb⟩; refine ⟨_, rfl, ?_⟩; have n0_ := Aside0.mk (Kd.R_below (by (with_reducible repeat (first | apply Kd.R_alloc | apply Kd.R_drewN | apply Kd.R_drew)); exact HO349.out) hb); have n1_ := Aside0.mk (Kd.R_below (by (with_reducible repeat (first | apply Kd.R_alloc | apply Kd.R_drewN | apply Kd.R_drew)); exact HO353.out) hb); have n2_ := Aside0.mk (below_step (by repeat (first | (with_reducible first | exact HB.out | apply below_alloc | apply pw_below_drewN | apply below_drew1) | exact HB.out)) hb); clear HO349; clear HO353; clear HB; have HO349 := n0_; have HO353 := n1_; have HB := n2_; clear n0_ n1_ n2_; (try clear hb); (try clear hb2); (try clear hk); (try clear hi)) | (go_at_call 12; (with_reducible refine (dom_Total.calls kj7 _ _ l0 t364 _ ?side1 ?side2 A34.out).mono ?_); (case side1 => repeat (first | exact (Kd.C_below HR0.out HB.out) | (with_reducible refine Kd.C_alloc ?_ _) | (with_reducible refine Kd.C_drewN ?_ _) | (with_reducible refine Kd.C_drew ?_))); (case side2 => exact HC0.out); rintro e w50 ⟨rfl, hb⟩; have n0_ := Aside0.mk (Kd.R_below (by (with_reducible repeat (first | apply Kd.R_alloc | apply Kd.R_drewN | apply Kd.R_drew)); exact HO349.out) hb); have n1_ := Aside0.mk (Kd.R_below (by (with_reducible repeat (first | apply Kd.R_alloc | apply Kd.R_drewN | apply Kd.R_drew)); exact HO353.out) hb); have n2_ := Aside0.mk (below_step (by repeat (first | (with_reducible first | exact HB.out | apply below_alloc | apply pw_below_drewN | apply below_drew1) | exact HB.out)) hb); clear HO349; clear HO353; clear HB; have HO349 := n0_; have HO353 := n1_; have HB := n2_; clear n0_ n1_ n2_; (try clear hb); (try clear hb2); (try clear hk); (try clear hi)) | (go_at_call 18; (with_reducible refine (parryref1_Total.calls kj7 _ _ l0 t365 _ ?side1 ?side2 A35.out).mono ?_); (case side1 => repeat (first | exact (Kd.C_below HR0.out HB.out) | (with_reducible refine Kd.C_alloc ?_ _) | (with_reducible refine Kd.C_drewN ?_ _) | (with_reducible refine Kd.C_drew ?_))); (case side2 => exact HC0.out); rintro e w51 ⟨rfl, hb⟩; have n0_ := Aside0.mk (Kd.R_below (by (with_reducible repeat (first | apply Kd.R_alloc | apply Kd.R_drewN | apply Kd.R_drew)); exact HO349.out) hb); have n1_ := Aside0.mk (Kd.R_below (by (with_reducible repeat (first | apply Kd.R_alloc | apply Kd.R_drewN | apply Kd.R_drew)); exact HO353.out) hb); have n2_ := Aside0.mk (below_step (by repeat (first | (with_reducible first | exact HB.out | apply below_alloc | apply pw_below_drewN | apply below_drew1) | exact HB.out)) hb); clear HO349; clear HO353; clear HB; have HO349 := n0_; have HO353 := n1_; have HB := n2_; clear n0_ n1_ n2_; (try clear hb); (try clear hb2); (try clear hk); (try clear hi); obtain ⟨Ao52, co52, eo52⟩ := Kd.R_slice HO349.out; subst eo52; obtain ⟨Ao53, co53, eo53⟩ := Kd.R_slice HO353.out; subst eo53) | (go_at_call 24; (with_reducible refine (parryref9_SameInts.calls kj7 _ _ t346 _ _ t350 true _ ?side1 ?side2 ?side3 ?side4 A37.out).mono ?_); (case side1 => repeat (first | exact (Kd.R_reads' HO349.out).2.2 | (with_reducible refine Kd.C_alloc ?_ _) | (with_reducible refine Kd.C_drewN ?_ _) | (with_reducible refine Kd.C_drew ?_))); (case side2 => exact (Kd.R_reads' HO349.out).2.1); (case side3 => repeat (first | exact (Kd.R_reads' HO353.out).2.2 | (with_reducible refine Kd.C_alloc ?_ _) | (with_reducible refine Kd.C_drewN ?_ _) | (with_reducible refine Kd.C_drew ?_))); (case side4 => exact (Kd.R_reads' HO353.out).2.1); rintro e w' ⟨rfl, ⟨nd, rfl⟩⟩))
                      go_meet
                      case rel => exact ⟨_, (true), (by first | rfl | (simp; done) | (simp [*]; done)), H', ⟨by have := HJ7.out; first | omega | exact Nat.le_refl _⟩, ⟨by repeat (first | (with_reducible first | exact HB.out | apply below_alloc | apply pw_below_drewN | apply below_drew1) | exact HB.out)⟩⟩
                    · rw [if_neg c47] at H
                      have c47b0 : (t355 != t357) = false := by simpa using c47
                      (try (have c47b1 : decide (t355 = t357) = true := by simpa using c47))
                      (try (have c47b2 : (t355 == t357) = true := by simpa using c47))
                      clear c47
                      by_cases c54 : t358 = t360
                      · rw [if_pos c54] at H
                        have c54b0 : (t358 == t360) = true := beq_iff_eq.mpr c54
                        have c54b1 : (t358 != t360) = false := bne_eq_false_iff_eq.mpr c54
                        clear c54
                        have H' := Aside0.mk H
                        clear H
                        go_wp2_with (first | ((with_reducible refine gate_callee (f := 10) rfl ?_); refine goesL_ (some 82) rfl rfl Try.func10 (by kernel_rfl) rfl #[.slice A0 l0.length c0] rfl (by (try simp only [List.map_toArray, List.map_cons, List.map_nil]); first | done | rfl | (simp only [List.length_drop, List.length_take]; rfl)) ?_; (with_reducible refine (dom_May.calls kj7 _ _ l0 t362 _ ?side1 ?side2 A31.out).mono ?_); (case side1 => repeat (first | exact (Kd.C_below HR0.out HB.out) | (with_reducible refine Kd.C_alloc ?_ _) | (with_reducible refine Kd.C_drewN ?_ _) | (with_reducible refine Kd.C_drew ?_))); (case side2 => exact HC0.out); rintro e w55 ⟨rfl, hb⟩; refine ⟨_, rfl, ?_⟩; have n0_ := Aside0.mk (Kd.R_below (by (with_reducible repeat (first | apply Kd.R_alloc | apply Kd.R_drewN | apply Kd.R_drew)); exact HO349.out) hb); have n1_ := Aside0.mk (Kd.R_below (by (with_reducible repeat (first | apply Kd.R_alloc | apply Kd.R_drewN | apply Kd.R_drew)); exact HO353.out) hb); have n2_ := Aside0.mk (below_step (by repeat (first | (with_reducible first | exact HB.out | apply below_alloc | apply pw_below_drewN | apply below_drew1) | exact HB.out)) hb); clear HO349; clear HO353; clear HB; have HO349 := n0_; have HO353 := n1_; have HB := n2_; clear n0_ n1_ n2_; (try clear hb); (try clear hb2); (try clear hk); (try clear hi)) | ((with_reducible refine gate_callee (f := 17) rfl ?_); refine goesL_ (some 84) rfl rfl Try.func17 (by kernel_rfl) rfl #[.slice A0 l0.length c0] rfl (by (try simp only [List.map_toArray, List.map_cons, List.map_nil]); first | done | rfl | (simp only [List.length_drop, List.length_take]; rfl)) ?_; (with_reducible refine (parryref1_MayVars.calls kj7 _ _ l0 t363 _ ?side1 ?side2 A32.out).mono ?_); (case side1 => repeat (first | exact (Kd.C_below HR0.out HB.out) | (with_reducible refine Kd.C_alloc ?_ _) | (with_reducible refine Kd.C_drewN ?_ _) | (with_reducible refine Kd.C_drew ?_))); (case side2 => exact HC0.out); rintro e w56 ⟨rfl, hb⟩; refine ⟨_, rfl, ?_⟩; have n0_ := Aside0.mk (Kd.R_below (by (with_reducible repeat (first | apply Kd.R_alloc | apply Kd.R_drewN | apply Kd.R_drew)); exact HO349.out) hb); have n1_ := Aside0.mk (Kd.R_below (by (with_reducible repeat (first | apply Kd.R_alloc | apply Kd.R_drewN | apply Kd.R_drew)); exact HO353.out) hb); have n2_ := Aside0.mk (below_step (by repeat (first | (with_reducible first | exact HB.out | apply below_alloc | apply pw_below_drewN | apply below_drew1) | exact HB.out)) hb); clear HO349; clear HO353; clear HB; have HO349 := n0_; have HO353 := n1_; have HB := n2_; clear n0_ n1_ n2_; (try clear hb); (try clear hb2); (try clear hk); (try clear hi)) | (go_at_call 12; (with_reducible refine (dom_Total.calls kj7 _ _ l0 t364 _ ?side1 ?side2 A34.out).mono ?_); (case side1 => repeat (first | exact (Kd.C_below HR0.out HB.out) | (with_reducible refine Kd.C_alloc ?_ _) | (with_reducible refine Kd.C_drewN ?_ _) | (with_reducible refine Kd.C_drew ?_))); (case side2 => exact HC0.out); rintro e w57 ⟨rfl, hb⟩; have n0_ := Aside0.mk (Kd.R_below (by (with_reducible repeat (first | apply Kd.R_alloc | apply Kd.R_drewN | apply Kd.R_drew)); exact HO349.out) hb); have n1_ := Aside0.mk (Kd.R_below (by (with_reducible repeat (first | apply Kd.R_alloc | apply Kd.R_drewN | apply Kd.R_drew)); exact HO353.out) hb); have n2_ := Aside0.mk (below_step (by repeat (first | (with_reducible first | exact HB.out | apply below_alloc | apply pw_below_drewN | apply below_drew1) | exact HB.out)) hb); clear HO349; clear HO353; clear HB; have HO349 := n0_; have HO353 := n1_; have HB := n2_; clear n0_ n1_ n2_; (try clear hb); (try clear hb2); (try clear hk); (try clear hi)) | (go_at_call 18; (with_reducible refine (parryref1_Total.calls kj7 _ _ l0 t365 _ ?side1 ?side2 A35.out).mono ?_); (case side1 => repeat (first | exact (Kd.C_below HR0.out HB.out) | (with_reducible refine Kd.C_alloc ?_ _) | (with_reducible refine Kd.C_drewN ?_ _) | (with_reducible refine Kd.C_drew ?_))); (case side2 => exact HC0.out); rintro e w58 ⟨rfl, hb⟩; have n0_ := Aside0.mk (Kd.R_below (by (with_reducible repeat (first | apply Kd.R_alloc | apply Kd.R_drewN | apply Kd.R_drew)); exact HO349.out) hb); have n1_ := Aside0.mk (Kd.R_below (by (with_reducible repeat (first | apply Kd.R_alloc | apply Kd.R_drewN | apply Kd.R_drew)); exact HO353.out) hb); have n2_ := Aside0.mk (below_step (by repeat (first | (with_reducible first | exact HB.out | apply below_alloc | apply pw_below_drewN | apply below_drew1) | exact HB.out)) hb); clear HO349; clear HO353; clear HB; have HO349 := n0_; have HO353 := n1_; have HB := n2_; clear n0_ n1_ n2_; (try clear hb); (try clear hb2); (try clear hk); (try clear hi); obtain ⟨Ao59, co59, eo59⟩ := Kd.R_slice HO349.out; subst eo59; obtain ⟨Ao60, co60, eo60⟩ := Kd.R_slice HO353.out; subst eo60) | (go_at_call 24; (with_reducible refine (parryref9_SameInts.calls kj7 _ _ t346 _ _ t350 true _ ?side1 ?side2 ?side3 ?side4 A37.out).mono ?_); (case side1 => repeat (first | exact (Kd.R_reads' HO349.out).2.2 | (with_reducible refine Kd.C_alloc ?_ _) | (with_reducible refine Kd.C_drewN ?_ _) | (with_reducible refine Kd.C_drew ?_))); (case side2 => exact (Kd.R_reads' HO349.out).2.1); (case side3 => repeat (first | exact (Kd.R_reads' HO353.out).2.2 | (with_reducible refine Kd.C_alloc ?_ _) | (with_reducible refine Kd.C_drewN ?_ _) | (with_reducible refine Kd.C_drew ?_))); (case side4 => exact (Kd.R_reads' HO353.out).2.1); rintro e w' ⟨rfl, ⟨nd, rfl⟩⟩))
                        go_meet
                        case rel => exact ⟨_, ((t359 != t361)), (by first | rfl | (simp; done) | (simp [*]; done)), H', ⟨by have := HJ7.out; first | omega | exact Nat.le_refl _⟩, ⟨by repeat (first | (with_reducible first | exact HB.out | apply below_alloc | apply pw_below_drewN | apply below_drew1) | exact HB.out)⟩⟩
                      · rw [if_neg c54] at H
                        have c54b0 : (t358 == t360) = false := beq_eq_false_iff_ne.mpr c54
                        have c54b1 : (t358 != t360) = true := bne_iff_ne.mpr c54
                        have H' := Aside0.mk H
                        clear H
                        go_wp2_with (first | ((with_reducible refine gate_callee (f := 10) rfl ?_); refine goesL_ (some 82) rfl rfl Try.func10 (by kernel_rfl) rfl #[.slice A0 l0.length c0] rfl (by (try simp only [List.map_toArray, List.map_cons, List.map_nil]); first | done | rfl | (simp only [List.length_drop, List.length_take]; rfl)) ?_; (with_reducible refine (dom_May.calls kj7 _ _ l0 t362 _ ?side1 ?side2 A31.out).mono ?_); (case side1 => repeat (first | exact (Kd.C_below HR0.out HB.out) | (with_reducible refine Kd.C_alloc ?_ _) | (with_reducible refine Kd.C_drewN ?_ _) | (with_reducible refine Kd.C_drew ?_))); (case side2 => exact HC0.out); rintro e w61 ⟨rfl, hb⟩; refine ⟨_, rfl, ?_⟩; have n0_ := Aside0.mk (Kd.R_below (by (with_reducible repeat (first | apply Kd.R_alloc | apply Kd.R_drewN | apply Kd.R_drew)); exact HO349.out) hb); have n1_ := Aside0.mk (Kd.R_below (by (with_reducible repeat (first | apply Kd.R_alloc | apply Kd.R_drewN | apply Kd.R_drew)); exact HO353.out) hb); have n2_ := Aside0.mk (below_step (by repeat (first | (with_reducible first | exact HB.out | apply below_alloc | apply pw_below_drewN | apply below_drew1) | exact HB.out)) hb); clear HO349; clear HO353; clear HB; have HO349 := n0_; have HO353 := n1_; have HB := n2_; clear n0_ n1_ n2_; (try clear hb); (try clear hb2); (try clear hk); (try clear hi)) | ((with_reducible refine gate_callee (f := 17) rfl ?_); refine goesL_ (some 84) rfl rfl Try.func17 (by kernel_rfl) rfl #[.slice A0 l0.length c0] rfl (by (try simp only [List.map_toArray, List.map_cons, List.map_nil]); first | done | rfl | (simp only [List.length_drop, List.length_take]; rfl)) ?_; (with_reducible refine (parryref1_MayVars.calls kj7 _ _ l0 t363 _ ?side1 ?side2 A32.out).mono ?_); (case side1 => repeat (first | exact (Kd.C_below HR0.out HB.out) | (with_reducible refine Kd.C_alloc ?_ _) | (with_reducible refine Kd.C_drewN ?_ _) | (with_reducible refine Kd.C_drew ?_))); (case side2 => exact HC0.out); rintro e w62 ⟨rfl, hb⟩; refine ⟨_, rfl, ?_⟩; have n0_ := Aside0.mk (Kd.R_below (by (with_reducible repeat (first | apply Kd.R_alloc | apply Kd.R_drewN | apply Kd.R_drew)); exact HO349.out) hb); have n1_ := Aside0.mk (Kd.R_below (by (with_reducible repeat (first | apply Kd.R_alloc | apply Kd.R_drewN | apply Kd.R_drew)); exact HO353.out) hb); have n2_ := Aside0.mk (below_step (by repeat (first | (with_reducible first | exact HB.out | apply below_alloc | apply pw_below_drewN | apply below_drew1) | exact HB.out)) hb); clear HO349; clear HO353; clear HB; have HO349 := n0_; have HO353 := n1_; have HB := n2_; clear n0_ n1_ n2_; (try clear hb); (try clear hb2); (try clear hk); (try clear hi)) | (go_at_call 12; (with_reducible refine (dom_Total.calls kj7 _ _ l0 t364 _ ?side1 ?side2 A34.out).mono ?_); (case side1 => repeat (first | exact (Kd.C_below HR0.out HB.out) | (with_reducible refine Kd.C_alloc ?_ _) | (with_reducible refine Kd.C_drewN ?_ _) | (with_reducible refine Kd.C_drew ?_))); (case side2 => exact HC0.out); rintro e w63 ⟨rfl, hb⟩; have n0_ := Aside0.mk (Kd.R_below (by (with_reducible repeat (first | apply Kd.R_alloc | apply Kd.R_drewN | apply Kd.R_drew)); exact HO349.out) hb); have n1_ := Aside0.mk (Kd.R_below (by (with_reducible repeat (first | apply Kd.R_alloc | apply Kd.R_drewN | apply Kd.R_drew)); exact HO353.out) hb); have n2_ := Aside0.mk (below_step (by repeat (first | (with_reducible first | exact HB.out | apply below_alloc | apply pw_below_drewN | apply below_drew1) | exact HB.out)) hb); clear HO349; clear HO353; clear HB; have HO349 := n0_; have HO353 := n1_; have HB := n2_; clear n0_ n1_ n2_; (try clear hb); (try clear hb2); (try clear hk); (try clear hi)) | (go_at_call 18; (with_reducible refine (parryref1_Total.calls kj7 _ _ l0 t365 _ ?side1 ?side2 A35.out).mono ?_); (case side1 => repeat (first | exact (Kd.C_below HR0.out HB.out) | (with_reducible refine Kd.C_alloc ?_ _) | (with_reducible refine Kd.C_drewN ?_ _) | (with_reducible refine Kd.C_drew ?_))); (case side2 => exact HC0.out); rintro e w64 ⟨rfl, hb⟩; have n0_ := Aside0.mk (Kd.R_below (by (with_reducible repeat (first | apply Kd.R_alloc | apply Kd.R_drewN | apply Kd.R_drew)); exact HO349.out) hb); have n1_ := Aside0.mk (Kd.R_below (by (with_reducible repeat (first | apply Kd.R_alloc | apply Kd.R_drewN | apply Kd.R_drew)); exact HO353.out) hb); have n2_ := Aside0.mk (below_step (by repeat (first | (with_reducible first | exact HB.out | apply below_alloc | apply pw_below_drewN | apply below_drew1) | exact HB.out)) hb); clear HO349; clear HO353; clear HB; have HO349 := n0_; have HO353 := n1_; have HB := n2_; clear n0_ n1_ n2_; (try clear hb); (try clear hb2); (try clear hk); (try clear hi); obtain ⟨Ao65, co65, eo65⟩ := Kd.R_slice HO349.out; subst eo65; obtain ⟨Ao66, co66, eo66⟩ := Kd.R_slice HO353.out; subst eo66) | (go_at_call 24; (with_reducible refine (parryref9_SameInts.calls kj7 _ _ t346 _ _ t350 true _ ?side1 ?side2 ?side3 ?side4 A37.out).mono ?_); (case side1 => repeat (first | exact (Kd.R_reads' HO349.out).2.2 | (with_reducible refine Kd.C_alloc ?_ _) | (with_reducible refine Kd.C_drewN ?_ _) | (with_reducible refine Kd.C_drew ?_))); (case side2 => exact (Kd.R_reads' HO349.out).2.1); (case side3 => repeat (first | exact (Kd.R_reads' HO353.out).2.2 | (with_reducible refine Kd.C_alloc ?_ _) | (with_reducible refine Kd.C_drewN ?_ _) | (with_reducible refine Kd.C_drew ?_))); (case side4 => exact (Kd.R_reads' HO353.out).2.1); rintro e w' ⟨rfl, ⟨nd, rfl⟩⟩))
                        go_meet
                        case rel => exact ⟨_, (true), (by first | rfl | (simp; done) | (simp [*]; done)), H', ⟨by have := HJ7.out; first | omega | exact Nat.le_refl _⟩, ⟨by repeat (first | (with_reducible first | exact HB.out | apply below_alloc | apply pw_below_drewN | apply below_drew1) | exact HB.out)⟩⟩
                  · rw [if_neg c46] at H
                    have c46b0 : (t354 == t356) = false := beq_eq_false_iff_ne.mpr c46
                    have c46b1 : (t354 != t356) = true := bne_iff_ne.mpr c46
                    have H' := Aside0.mk H
                    clear H
                    go_wp2_with (first | ((with_reducible refine gate_callee (f := 10) rfl ?_); refine goesL_ (some 82) rfl rfl Try.func10 (by kernel_rfl) rfl #[.slice A0 l0.length c0] rfl (by (try simp only [List.map_toArray, List.map_cons, List.map_nil]); first | done | rfl | (simp only [List.length_drop, List.length_take]; rfl)) ?_; (with_reducible refine (dom_May.calls kj7 _ _ l0 t362 _ ?side1 ?side2 A31.out).mono ?_); (case side1 => repeat (first | exact (Kd.C_below HR0.out HB.out) | (with_reducible refine Kd.C_alloc ?_ _) | (with_reducible refine Kd.C_drewN ?_ _) | (with_reducible refine Kd.C_drew ?_))); (case side2 => exact HC0.out); rintro e w67 ⟨rfl, hb⟩; refine ⟨_, rfl, ?_⟩; have n0_ := Aside0.mk (Kd.R_below (by (with_reducible repeat (first | apply Kd.R_alloc | apply Kd.R_drewN | apply Kd.R_drew)); exact HO349.out) hb); have n1_ := Aside0.mk (Kd.R_below (by (with_reducible repeat (first | apply Kd.R_alloc | apply Kd.R_drewN | apply Kd.R_drew)); exact HO353.out) hb); have n2_ := Aside0.mk (below_step (by repeat (first | (with_reducible first | exact HB.out | apply below_alloc | apply pw_below_drewN | apply below_drew1) | exact HB.out)) hb); clear HO349; clear HO353; clear HB; have HO349 := n0_; have HO353 := n1_; have HB := n2_; clear n0_ n1_ n2_; (try clear hb); (try clear hb2); (try clear hk); (try clear hi)) | ((with_reducible refine gate_callee (f := 17) rfl ?_); refine goesL_ (some 84) rfl rfl Try.func17 (by kernel_rfl) rfl #[.slice A0 l0.length c0] rfl (by (try simp only [List.map_toArray, List.map_cons, List.map_nil]); first | done | rfl | (simp only [List.length_drop, List.length_take]; rfl)) ?_; (with_reducible refine (parryref1_MayVars.calls kj7 _ _ l0 t363 _ ?side1 ?side2 A32.out).mono ?_); (case side1 => repeat (first | exact (Kd.C_below HR0.out HB.out) | (with_reducible refine Kd.C_alloc ?_ _) | (with_reducible refine Kd.C_drewN ?_ _) | (with_reducible refine Kd.C_drew ?_))); (case side2 => exact HC0.out); rintro e w68 ⟨rfl, hb⟩; refine ⟨_, rfl, ?_⟩; have n0_ := Aside0.mk (Kd.R_below (by (with_reducible repeat (first | apply Kd.R_alloc | apply Kd.R_drewN | apply Kd.R_drew)); exact HO349.out) hb); have n1_ := Aside0.mk (Kd.R_below (by (with_reducible repeat (first | apply Kd.R_alloc | apply Kd.R_drewN | apply Kd.R_drew)); exact HO353.out) hb); have n2_ := Aside0.mk (below_step (by repeat (first | (with_reducible first | exact HB.out | apply below_alloc | apply pw_below_drewN | apply below_drew1) | exact HB.out)) hb); clear HO349; clear HO353; clear HB; have HO349 := n0_; have HO353 := n1_; have HB := n2_; clear n0_ n1_ n2_; (try clear hb); (try clear hb2); (try clear hk); (try clear hi)) | (go_at_call 12; (with_reducible refine (dom_Total.calls kj7 _ _ l0 t364 _ ?side1 ?side2 A34.out).mono ?_); (case side1 => repeat (first | exact (Kd.C_below HR0.out HB.out) | (with_reducible refine Kd.C_alloc ?_ _) | (with_reducible refine Kd.C_drewN ?_ _) | (with_reducible refine Kd.C_drew ?_))); (case side2 => exact HC0.out); rintro e w69 ⟨rfl, hb⟩; have n0_ := Aside0.mk (Kd.R_below (by (with_reducible repeat (first | apply Kd.R_alloc | apply Kd.R_drewN | apply Kd.R_drew)); exact HO349.out) hb); have n1_ := Aside0.mk (Kd.R_below (by (with_reducible repeat (first | apply Kd.R_alloc | apply Kd.R_drewN | apply Kd.R_drew)); exact HO353.out) hb); have n2_ := Aside0.mk (below_step (by repeat (first | (with_reducible first | exact HB.out | apply below_alloc | apply pw_below_drewN | apply below_drew1) | exact HB.out)) hb); clear HO349; clear HO353; clear HB; have HO349 := n0_; have HO353 := n1_; have HB := n2_; clear n0_ n1_ n2_; (try clear hb); (try clear hb2); (try clear hk); (try clear hi)) | (go_at_call 18; (with_reducible refine (parryref1_Total.calls kj7 _ _ l0 t365 _ ?side1 ?side2 A35.out).mono ?_); (case side1 => repeat (first | exact (Kd.C_below HR0.out HB.out) | (with_reducible refine Kd.C_alloc ?_ _) | (with_reducible refine Kd.C_drewN ?_ _) | (with_reducible refine Kd.C_drew ?_))); (case side2 => exact HC0.out); rintro e w70 ⟨rfl, hb⟩; have n0_ := Aside0.mk (Kd.R_below (by (with_reducible repeat (first | apply Kd.R_alloc | apply Kd.R_drewN | apply Kd.R_drew)); exact HO349.out) hb); have n1_ := Aside0.mk (Kd.R_below (by (with_reducible repeat (first | apply Kd.R_alloc | apply Kd.R_drewN | apply Kd.R_drew)); exact HO353.out) hb); have n2_ := Aside0.mk (below_step (by repeat (first | (with_reducible first | exact HB.out | apply below_alloc | apply pw_below_drewN | apply below_drew1) | exact HB.out)) hb); clear HO349; clear HO353; clear HB; have HO349 := n0_; have HO353 := n1_; have HB := n2_; clear n0_ n1_ n2_; (try clear hb); (try clear hb2); (try clear hk); (try clear hi); obtain ⟨Ao71, co71, eo71⟩ := Kd.R_slice HO349.out; subst eo71; obtain ⟨Ao72, co72, eo72⟩ := Kd.R_slice HO353.out; subst eo72) | (go_at_call 24; (with_reducible refine (parryref9_SameInts.calls kj7 _ _ t346 _ _ t350 true _ ?side1 ?side2 ?side3 ?side4 A37.out).mono ?_); (case side1 => repeat (first | exact (Kd.R_reads' HO349.out).2.2 | (with_reducible refine Kd.C_alloc ?_ _) | (with_reducible refine Kd.C_drewN ?_ _) | (with_reducible refine Kd.C_drew ?_))); (case side2 => exact (Kd.R_reads' HO349.out).2.1); (case side3 => repeat (first | exact (Kd.R_reads' HO353.out).2.2 | (with_reducible refine Kd.C_alloc ?_ _) | (with_reducible refine Kd.C_drewN ?_ _) | (with_reducible refine Kd.C_drew ?_))); (case side4 => exact (Kd.R_reads' HO353.out).2.1); rintro e w' ⟨rfl, ⟨nd, rfl⟩⟩))
                    go_meet
                    case rel => exact ⟨_, (true), (by first | rfl | (simp; done) | (simp [*]; done)), H', ⟨by have := HJ7.out; first | omega | exact Nat.le_refl _⟩, ⟨by repeat (first | (with_reducible first | exact HB.out | apply below_alloc | apply pw_below_drewN | apply below_drew1) | exact HB.out)⟩⟩
              · replace c38 := Bool.eq_false_iff.mpr c38
                subst c38
                have H1 : (parrylaw1_DomForms.j1 kj7 l0 a1 a5 a6 true) = some r := by rw [if_neg (show ¬ (false = true) by decide)] at H; exact H
                clear H
                have H := H1
                clear H1
                have H' := Aside0.mk H
                clear H
                go_wp2_with (first | ((with_reducible refine gate_callee (f := 10) rfl ?_); refine goesL_ (some 82) rfl rfl Try.func10 (by kernel_rfl) rfl #[.slice A0 l0.length c0] rfl (by (try simp only [List.map_toArray, List.map_cons, List.map_nil]); first | done | rfl | (simp only [List.length_drop, List.length_take]; rfl)) ?_; (with_reducible refine (dom_May.calls kj7 _ _ l0 t362 _ ?side1 ?side2 A31.out).mono ?_); (case side1 => repeat (first | exact (Kd.C_below HR0.out HB.out) | (with_reducible refine Kd.C_alloc ?_ _) | (with_reducible refine Kd.C_drewN ?_ _) | (with_reducible refine Kd.C_drew ?_))); (case side2 => exact HC0.out); rintro e w73 ⟨rfl, hb⟩; refine ⟨_, rfl, ?_⟩; have n0_ := Aside0.mk (Kd.R_below (by (with_reducible repeat (first | apply Kd.R_alloc | apply Kd.R_drewN | apply Kd.R_drew)); exact HO349.out) hb); have n1_ := Aside0.mk (Kd.R_below (by (with_reducible repeat (first | apply Kd.R_alloc | apply Kd.R_drewN | apply Kd.R_drew)); exact HO353.out) hb); have n2_ := Aside0.mk (below_step (by repeat (first | (with_reducible first | exact HB.out | apply below_alloc | apply pw_below_drewN | apply below_drew1) | exact HB.out)) hb); clear HO349; clear HO353; clear HB; have HO349 := n0_; have HO353 := n1_; have HB := n2_; clear n0_ n1_ n2_; (try clear hb); (try clear hb2); (try clear hk); (try clear hi)) | ((with_reducible refine gate_callee (f := 17) rfl ?_); refine goesL_ (some 84) rfl rfl Try.func17 (by kernel_rfl) rfl #[.slice A0 l0.length c0] rfl (by (try simp only [List.map_toArray, List.map_cons, List.map_nil]); first | done | rfl | (simp only [List.length_drop, List.length_take]; rfl)) ?_; (with_reducible refine (parryref1_MayVars.calls kj7 _ _ l0 t363 _ ?side1 ?side2 A32.out).mono ?_); (case side1 => repeat (first | exact (Kd.C_below HR0.out HB.out) | (with_reducible refine Kd.C_alloc ?_ _) | (with_reducible refine Kd.C_drewN ?_ _) | (with_reducible refine Kd.C_drew ?_))); (case side2 => exact HC0.out); rintro e w74 ⟨rfl, hb⟩; refine ⟨_, rfl, ?_⟩; have n0_ := Aside0.mk (Kd.R_below (by (with_reducible repeat (first | apply Kd.R_alloc | apply Kd.R_drewN | apply Kd.R_drew)); exact HO349.out) hb); have n1_ := Aside0.mk (Kd.R_below (by (with_reducible repeat (first | apply Kd.R_alloc | apply Kd.R_drewN | apply Kd.R_drew)); exact HO353.out) hb); have n2_ := Aside0.mk (below_step (by repeat (first | (with_reducible first | exact HB.out | apply below_alloc | apply pw_below_drewN | apply below_drew1) | exact HB.out)) hb); clear HO349; clear HO353; clear HB; have HO349 := n0_; have HO353 := n1_; have HB := n2_; clear n0_ n1_ n2_; (try clear hb); (try clear hb2); (try clear hk); (try clear hi)) | (go_at_call 12; (with_reducible refine (dom_Total.calls kj7 _ _ l0 t364 _ ?side1 ?side2 A34.out).mono ?_); (case side1 => repeat (first | exact (Kd.C_below HR0.out HB.out) | (with_reducible refine Kd.C_alloc ?_ _) | (with_reducible refine Kd.C_drewN ?_ _) | (with_reducible refine Kd.C_drew ?_))); (case side2 => exact HC0.out); rintro e w75 ⟨rfl, hb⟩; have n0_ := Aside0.mk (Kd.R_below (by (with_reducible repeat (first | apply Kd.R_alloc | apply Kd.R_drewN | apply Kd.R_drew)); exact HO349.out) hb); have n1_ := Aside0.mk (Kd.R_below (by (with_reducible repeat (first | apply Kd.R_alloc | apply Kd.R_drewN | apply Kd.R_drew)); exact HO353.out) hb); have n2_ := Aside0.mk (below_step (by repeat (first | (with_reducible first | exact HB.out | apply below_alloc | apply pw_below_drewN | apply below_drew1) | exact HB.out)) hb); clear HO349; clear HO353; clear HB; have HO349 := n0_; have HO353 := n1_; have HB := n2_; clear n0_ n1_ n2_; (try clear hb); (try clear hb2); (try clear hk); (try clear hi)) | (go_at_call 18; (with_reducible refine (parryref1_Total.calls kj7 _ _ l0 t365 _ ?side1 ?side2 A35.out).mono ?_); (case side1 => repeat (first | exact (Kd.C_below HR0.out HB.out) | (with_reducible refine Kd.C_alloc ?_ _) | (with_reducible refine Kd.C_drewN ?_ _) | (with_reducible refine Kd.C_drew ?_))); (case side2 => exact HC0.out); rintro e w76 ⟨rfl, hb⟩; have n0_ := Aside0.mk (Kd.R_below (by (with_reducible repeat (first | apply Kd.R_alloc | apply Kd.R_drewN | apply Kd.R_drew)); exact HO349.out) hb); have n1_ := Aside0.mk (Kd.R_below (by (with_reducible repeat (first | apply Kd.R_alloc | apply Kd.R_drewN | apply Kd.R_drew)); exact HO353.out) hb); have n2_ := Aside0.mk (below_step (by repeat (first | (with_reducible first | exact HB.out | apply below_alloc | apply pw_below_drewN | apply below_drew1) | exact HB.out)) hb); clear HO349; clear HO353; clear HB; have HO349 := n0_; have HO353 := n1_; have HB := n2_; clear n0_ n1_ n2_; (try clear hb); (try clear hb2); (try clear hk); (try clear hi); obtain ⟨Ao77, co77, eo77⟩ := Kd.R_slice HO349.out; subst eo77; obtain ⟨Ao78, co78, eo78⟩ := Kd.R_slice HO353.out; subst eo78) | (go_at_call 24; (with_reducible refine (parryref9_SameInts.calls kj7 _ _ t346 _ _ t350 false _ ?side1 ?side2 ?side3 ?side4 A37.out).mono ?_); (case side1 => repeat (first | exact (Kd.R_reads' HO349.out).2.2 | (with_reducible refine Kd.C_alloc ?_ _) | (with_reducible refine Kd.C_drewN ?_ _) | (with_reducible refine Kd.C_drew ?_))); (case side2 => exact (Kd.R_reads' HO349.out).2.1); (case side3 => repeat (first | exact (Kd.R_reads' HO353.out).2.2 | (with_reducible refine Kd.C_alloc ?_ _) | (with_reducible refine Kd.C_drewN ?_ _) | (with_reducible refine Kd.C_drew ?_))); (case side4 => exact (Kd.R_reads' HO353.out).2.1); rintro e w' ⟨rfl, ⟨nd, rfl⟩⟩))
                go_meet
                case rel => exact ⟨_, (true), (by first | rfl | (simp; done) | (simp [*]; done)), H', ⟨by have := HJ7.out; first | omega | exact Nat.le_refl _⟩, ⟨by repeat (first | (with_reducible first | exact HB.out | apply below_alloc | apply pw_below_drewN | apply below_drew1) | exact HB.out)⟩⟩
            · rw [if_neg c36] at H
              have c36b0 : (t364 == t365) = false := beq_eq_false_iff_ne.mpr c36
              have c36b1 : (t364 != t365) = true := bne_iff_ne.mpr c36
              have H' := Aside0.mk H
              clear H
              go_wp2_with (first | ((with_reducible refine gate_callee (f := 10) rfl ?_); refine goesL_ (some 82) rfl rfl Try.func10 (by kernel_rfl) rfl #[.slice A0 l0.length c0] rfl (by (try simp only [List.map_toArray, List.map_cons, List.map_nil]); first | done | rfl | (simp only [List.length_drop, List.length_take]; rfl)) ?_; (with_reducible refine (dom_May.calls kj7 _ _ l0 t362 _ ?side1 ?side2 A31.out).mono ?_); (case side1 => repeat (first | exact (Kd.C_below HR0.out HB.out) | (with_reducible refine Kd.C_alloc ?_ _) | (with_reducible refine Kd.C_drewN ?_ _) | (with_reducible refine Kd.C_drew ?_))); (case side2 => exact HC0.out); rintro e w79 ⟨rfl, hb⟩; refine ⟨_, rfl, ?_⟩; have n0_ := Aside0.mk (Kd.R_below (by (with_reducible repeat (first | apply Kd.R_alloc | apply Kd.R_drewN | apply Kd.R_drew)); exact HO349.out) hb); have n1_ := Aside0.mk (Kd.R_below (by (with_reducible repeat (first | apply Kd.R_alloc | apply Kd.R_drewN | apply Kd.R_drew)); exact HO353.out) hb); have n2_ := Aside0.mk (below_step (by repeat (first | (with_reducible first | exact HB.out | apply below_alloc | apply pw_below_drewN | apply below_drew1) | exact HB.out)) hb); clear HO349; clear HO353; clear HB; have HO349 := n0_; have HO353 := n1_; have HB := n2_; clear n0_ n1_ n2_; (try clear hb); (try clear hb2); (try clear hk); (try clear hi)) | ((with_reducible refine gate_callee (f := 17) rfl ?_); refine goesL_ (some 84) rfl rfl Try.func17 (by kernel_rfl) rfl #[.slice A0 l0.length c0] rfl (by (try simp only [List.map_toArray, List.map_cons, List.map_nil]); first | done | rfl | (simp only [List.length_drop, List.length_take]; rfl)) ?_; (with_reducible refine (parryref1_MayVars.calls kj7 _ _ l0 t363 _ ?side1 ?side2 A32.out).mono ?_); (case side1 => repeat (first | exact (Kd.C_below HR0.out HB.out) | (with_reducible refine Kd.C_alloc ?_ _) | (with_reducible refine Kd.C_drewN ?_ _) | (with_reducible refine Kd.C_drew ?_))); (case side2 => exact HC0.out); rintro e w80 ⟨rfl, hb⟩; refine ⟨_, rfl, ?_⟩; have n0_ := Aside0.mk (Kd.R_below (by (with_reducible repeat (first | apply Kd.R_alloc | apply Kd.R_drewN | apply Kd.R_drew)); exact HO349.out) hb); have n1_ := Aside0.mk (Kd.R_below (by (with_reducible repeat (first | apply Kd.R_alloc | apply Kd.R_drewN | apply Kd.R_drew)); exact HO353.out) hb); have n2_ := Aside0.mk (below_step (by repeat (first | (with_reducible first | exact HB.out | apply below_alloc | apply pw_below_drewN | apply below_drew1) | exact HB.out)) hb); clear HO349; clear HO353; clear HB; have HO349 := n0_; have HO353 := n1_; have HB := n2_; clear n0_ n1_ n2_; (try clear hb); (try clear hb2); (try clear hk); (try clear hi)) | (go_at_call 12; (with_reducible refine (dom_Total.calls kj7 _ _ l0 t364 _ ?side1 ?side2 A34.out).mono ?_); (case side1 => repeat (first | exact (Kd.C_below HR0.out HB.out) | (with_reducible refine Kd.C_alloc ?_ _) | (with_reducible refine Kd.C_drewN ?_ _) | (with_reducible refine Kd.C_drew ?_))); (case side2 => exact HC0.out); rintro e w81 ⟨rfl, hb⟩; have n0_ := Aside0.mk (Kd.R_below (by (with_reducible repeat (first | apply Kd.R_alloc | apply Kd.R_drewN | apply Kd.R_drew)); exact HO349.out) hb); have n1_ := Aside0.mk (Kd.R_below (by (with_reducible repeat (first | apply Kd.R_alloc | apply Kd.R_drewN | apply Kd.R_drew)); exact HO353.out) hb); have n2_ := Aside0.mk (below_step (by repeat (first | (with_reducible first | exact HB.out | apply below_alloc | apply pw_below_drewN | apply below_drew1) | exact HB.out)) hb); clear HO349; clear HO353; clear HB; have HO349 := n0_; have HO353 := n1_; have HB := n2_; clear n0_ n1_ n2_; (try clear hb); (try clear hb2); (try clear hk); (try clear hi)) | (go_at_call 18; (with_reducible refine (parryref1_Total.calls kj7 _ _ l0 t365 _ ?side1 ?side2 A35.out).mono ?_); (case side1 => repeat (first | exact (Kd.C_below HR0.out HB.out) | (with_reducible refine Kd.C_alloc ?_ _) | (with_reducible refine Kd.C_drewN ?_ _) | (with_reducible refine Kd.C_drew ?_))); (case side2 => exact HC0.out); rintro e w82 ⟨rfl, hb⟩; have n0_ := Aside0.mk (Kd.R_below (by (with_reducible repeat (first | apply Kd.R_alloc | apply Kd.R_drewN | apply Kd.R_drew)); exact HO349.out) hb); have n1_ := Aside0.mk (Kd.R_below (by (with_reducible repeat (first | apply Kd.R_alloc | apply Kd.R_drewN | apply Kd.R_drew)); exact HO353.out) hb); have n2_ := Aside0.mk (below_step (by repeat (first | (with_reducible first | exact HB.out | apply below_alloc | apply pw_below_drewN | apply below_drew1) | exact HB.out)) hb); clear HO349; clear HO353; clear HB; have HO349 := n0_; have HO353 := n1_; have HB := n2_; clear n0_ n1_ n2_; (try clear hb); (try clear hb2); (try clear hk); (try clear hi)))
              go_meet
              case rel => exact ⟨_, (true), (by first | rfl | (simp; done) | (simp [*]; done)), H', ⟨by have := HJ7.out; first | omega | exact Nat.le_refl _⟩, ⟨by repeat (first | (with_reducible first | exact HB.out | apply below_alloc | apply pw_below_drewN | apply below_drew1) | exact HB.out)⟩⟩
          · rw [if_neg c33] at H
            have c33b0 : (t362 == t363) = false := beq_eq_false_iff_ne.mpr c33
            have c33b1 : (t362 != t363) = true := bne_iff_ne.mpr c33
            (first | rw [c33b0] | (simp only [i64_w, i32_w]; rw [c33b0]) | skip)
            have H' := Aside0.mk H
            clear H
            go_wp2_with (first | ((with_reducible refine gate_callee (f := 10) rfl ?_); refine goesL_ (some 82) rfl rfl Try.func10 (by kernel_rfl) rfl #[.slice A0 l0.length c0] rfl (by (try simp only [List.map_toArray, List.map_cons, List.map_nil]); first | done | rfl | (simp only [List.length_drop, List.length_take]; rfl)) ?_; (with_reducible refine (dom_May.calls kj7 _ _ l0 t362 _ ?side1 ?side2 A31.out).mono ?_); (case side1 => repeat (first | exact (Kd.C_below HR0.out HB.out) | (with_reducible refine Kd.C_alloc ?_ _) | (with_reducible refine Kd.C_drewN ?_ _) | (with_reducible refine Kd.C_drew ?_))); (case side2 => exact HC0.out); rintro e w83 ⟨rfl, hb⟩; refine ⟨_, rfl, ?_⟩; have n0_ := Aside0.mk (Kd.R_below (by (with_reducible repeat (first | apply Kd.R_alloc | apply Kd.R_drewN | apply Kd.R_drew)); exact HO349.out) hb); have n1_ := Aside0.mk (Kd.R_below (by (with_reducible repeat (first | apply Kd.R_alloc | apply Kd.R_drewN | apply Kd.R_drew)); exact HO353.out) hb); have n2_ := Aside0.mk (below_step (by repeat (first | (with_reducible first | exact HB.out | apply below_alloc | apply pw_below_drewN | apply below_drew1) | exact HB.out)) hb); clear HO349; clear HO353; clear HB; have HO349 := n0_; have HO353 := n1_; have HB := n2_; clear n0_ n1_ n2_; (try clear hb); (try clear hb2); (try clear hk); (try clear hi)) | ((with_reducible refine gate_callee (f := 17) rfl ?_); refine goesL_ (some 84) rfl rfl Try.func17 (by kernel_rfl) rfl #[.slice A0 l0.length c0] rfl (by (try simp only [List.map_toArray, List.map_cons, List.map_nil]); first | done | rfl | (simp only [List.length_drop, List.length_take]; rfl)) ?_; (with_reducible refine (parryref1_MayVars.calls kj7 _ _ l0 t363 _ ?side1 ?side2 A32.out).mono ?_); (case side1 => repeat (first | exact (Kd.C_below HR0.out HB.out) | (with_reducible refine Kd.C_alloc ?_ _) | (with_reducible refine Kd.C_drewN ?_ _) | (with_reducible refine Kd.C_drew ?_))); (case side2 => exact HC0.out); rintro e w84 ⟨rfl, hb⟩; refine ⟨_, rfl, ?_⟩; have n0_ := Aside0.mk (Kd.R_below (by (with_reducible repeat (first | apply Kd.R_alloc | apply Kd.R_drewN | apply Kd.R_drew)); exact HO349.out) hb); have n1_ := Aside0.mk (Kd.R_below (by (with_reducible repeat (first | apply Kd.R_alloc | apply Kd.R_drewN | apply Kd.R_drew)); exact HO353.out) hb); have n2_ := Aside0.mk (below_step (by repeat (first | (with_reducible first | exact HB.out | apply below_alloc | apply pw_below_drewN | apply below_drew1) | exact HB.out)) hb); clear HO349; clear HO353; clear HB; have HO349 := n0_; have HO353 := n1_; have HB := n2_; clear n0_ n1_ n2_; (try clear hb); (try clear hb2); (try clear hk); (try clear hi)))
            go_meet
            case rel => exact ⟨_, (true), (by first | rfl | (simp; done) | (simp [*]; done)), H', ⟨by have := HJ7.out; first | omega | exact Nat.le_refl _⟩, ⟨by repeat (first | (with_reducible first | exact HB.out | apply below_alloc | apply pw_below_drewN | apply below_drew1) | exact HB.out)⟩⟩
        case rest =>
          clear HC24
          try clear c1
          try clear c2
          try clear p2
          try clear c3
          try clear c4
          try clear c5
          try clear c7
          try clear c9
          try clear c10
          try clear c10b0
          try clear c11
          try clear c12
          try clear c12b0
          try clear c12b1
          try clear c14
          try clear c15
          try clear c17
          try clear c20
          try clear c21
          try clear c22
          try clear c23
          try clear c33
          try clear c33b0
          try clear c33b1
          try clear c36
          try clear c36b0
          try clear c36b1
          try clear c38
          try clear c39
          try clear c39b0
          try clear c39b1
          try clear c39b2
          try clear c46
          try clear c46b0
          try clear c46b1
          try clear c47
          try clear c47b0
          try clear c47b1
          try clear c47b2
          try clear c54
          try clear c54b0
          try clear c54b1
          try clear p2
          obtain ⟨kq, x123_23, rfl, HA, HJ23, HB⟩ := hcut
          cases kq with
          | zero => exact absurd HA.out (by simp [parrylaw1_DomForms.j1])
          | succ kj23 =>
            have H := HA.out
            clear HA
            simp only [parrylaw1_DomForms.j1] at H
            by_cases c85 : x123_23 = true
            · subst c85
              have H1 : (some false) = some r := by rw [if_pos rfl] at H; exact H
              clear H
              have H := H1
              clear H1
              obtain rfl := Option.some.inj H
              go_wp2
              go_ret
              exact ⟨by first | rfl | (simp [errW_none, errW_some] <;> rfl) | (simp [*, errW_none, errW_some] <;> rfl), by repeat (first | (with_reducible first | exact HB.out | apply below_alloc | apply pw_below_drewN | apply below_drew1) | exact HB.out)⟩
            · replace c85 := Bool.eq_false_iff.mpr c85
              subst c85
              have H1 : (if (l0.length : Int) > 0 then (if 0 < (l0.length : Int) then ((dom_Size.f ((rd_T28 l0 0).f0) ((rd_T28 l0 0).f1) ((rd_T28 l0 0).f2) ((rd_T28 l0 0).f3) ((rd_T28 l0 0).f4)).bind fun t368 => ((parryref1_Size.f ((rd_T28 l0 0).f0) ((rd_T28 l0 0).f1) ((rd_T28 l0 0).f2) ((rd_T28 l0 0).f3) ((rd_T28 l0 0).f4)).bind fun t370 => (parrylaw1_DomForms.j2 kj23 l0 a1 a5 a6 (t368 != t370)))) else (none)) else (parrylaw1_DomForms.j2 kj23 l0 a1 a5 a6 false)) = some r := by rw [if_neg (show ¬ (false = true) by decide)] at H; exact H
              clear H
              have H := H1
              clear H1
              have HC86 := Aside0.mk H
              clear H
              go_upto_region 11 with (fail)
              go_cut [137] (fun v137 wc => ∃ (kq : Nat) (x137_85 : Bool), v137 = .bool x137_85 ∧ Aside0 (parrylaw1_DomForms.j2 kq l0 a1 a5 a6 x137_85 = some r) ∧ Aside0 (kq ≤ kj23) ∧ Aside0 (Below w.heap.size w wc))
              case first =>
                have H := HC86.out
                clear HC86
                by_cases c87 : (l0.length : Int) > 0
                · rw [if_pos c87] at H
                  have c87b0 : decide (0 < (l0.length : Int)) = true := decide_eq_true c87
                  have c87b1 : decide (0 < l0.length) = true := decide_eq_true (by omega)
                  clear c87
                  (first | rw [c87b0] | (simp only [i64_w, i32_w]; rw [c87b0]) | skip)
                  by_cases c88 : 0 < (l0.length : Int)
                  · rw [if_pos c88] at H
                    have c88b0 : decide (0 < (l0.length : Int)) = true := decide_eq_true c88
                    have c88b1 : decide (0 < l0.length) = true := decide_eq_true (by omega)
                    clear c88
                    replace H := Option.bind_eq_some_iff.mp H
                    obtain ⟨t368, A890, H⟩ := H
                    replace H : ((parryref1_Size.f ((rd_T28 l0 0).f0) ((rd_T28 l0 0).f1) ((rd_T28 l0 0).f2) ((rd_T28 l0 0).f3) ((rd_T28 l0 0).f4)).bind fun t370 => (parrylaw1_DomForms.j2 kj23 l0 a1 a5 a6 (t368 != t370))) = some r := H
                    have A89 := Aside0.mk A890
                    clear A890
                    replace H := Option.bind_eq_some_iff.mp H
                    obtain ⟨t370, A900, H⟩ := H
                    replace H : (parrylaw1_DomForms.j2 kj23 l0 a1 a5 a6 (t368 != t370)) = some r := H
                    have A90 := Aside0.mk A900
                    clear A900
                    have H' := Aside0.mk H
                    clear H
                    try go_wp2
                    have n0_ := Aside0.mk (below_drew1 HB.out)
                    clear HB
                    have HB := n0_
                    clear n0_
                    have p367 : 0 ≤ (0 : Int) := (by omega)
                    have q367 : 0 < (l0.length : Int) := of_decide_eq_true (by first | (with_reducible assumption) | assumption)
                    obtain ⟨ad367, e367, hx367_0, hx367_1, hx367_2, hx367_3, hx367_4⟩ := at_T28 HR0.out 0 p367 q367
                    have hw367_4 := hx367_4
                    (try rw [show ((0 : Int)).toNat = 0 from rfl] at hw367_4)
                    (try rw [show 0 * 5 = 0 from rfl] at hw367_4)
                    (try rw [Addr.add_zero'] at hw367_4)
                    have hw367_3 := hx367_3
                    (try rw [show ((0 : Int)).toNat = 0 from rfl] at hw367_3)
                    (try rw [show 0 * 5 = 0 from rfl] at hw367_3)
                    (try rw [Addr.add_zero'] at hw367_3)
                    have hw367_2 := hx367_2
                    (try rw [show ((0 : Int)).toNat = 0 from rfl] at hw367_2)
                    (try rw [show 0 * 5 = 0 from rfl] at hw367_2)
                    (try rw [Addr.add_zero'] at hw367_2)
                    have hw367_1 := hx367_1
                    (try rw [show ((0 : Int)).toNat = 0 from rfl] at hw367_1)
                    (try rw [show 0 * 5 = 0 from rfl] at hw367_1)
                    (try rw [Addr.add_zero'] at hw367_1)
                    have hw367_0 := hx367_0
                    (try rw [show ((0 : Int)).toNat = 0 from rfl] at hw367_0)
                    (try rw [show 0 * 5 = 0 from rfl] at hw367_0)
                    (try rw [Addr.add_zero'] at hw367_0)
                    cases e367
                    have qi367 : (0 < l0.length) = True := eq_true (by omega)
                    (try rw [show ((0 : Int)).toNat = 0 from rfl] at hx367_0)
                    (try rw [show 0 * 5 = 0 from rfl] at hx367_0)
                    (try rw [Addr.add_zero'] at hx367_0)
                    (try rw [show ((0 : Int)).toNat = 0 from rfl] at hx367_1)
                    (try rw [show 0 * 5 = 0 from rfl] at hx367_1)
                    (try rw [Addr.add_zero'] at hx367_1)
                    (try rw [show ((0 : Int)).toNat = 0 from rfl] at hx367_2)
                    (try rw [show 0 * 5 = 0 from rfl] at hx367_2)
                    (try rw [Addr.add_zero'] at hx367_2)
                    (try rw [show ((0 : Int)).toNat = 0 from rfl] at hx367_3)
                    (try rw [show 0 * 5 = 0 from rfl] at hx367_3)
                    (try rw [Addr.add_zero'] at hx367_3)
                    (try rw [show ((0 : Int)).toNat = 0 from rfl] at hx367_4)
                    (try rw [show 0 * 5 = 0 from rfl] at hx367_4)
                    (try rw [Addr.add_zero'] at hx367_4)
                    replace hx367_0 := (HB.out.cell (World.block_lt_of_cell? w _ hx367_0)).trans hx367_0
                    replace hx367_1 := (HB.out.cell (World.block_lt_of_cell? w _ hx367_1)).trans hx367_1
                    replace hx367_2 := (HB.out.cell (World.block_lt_of_cell? w _ hx367_2)).trans hx367_2
                    replace hx367_3 := (HB.out.cell (World.block_lt_of_cell? w _ hx367_3)).trans hx367_3
                    replace hx367_4 := (HB.out.cell (World.block_lt_of_cell? w _ hx367_4)).trans hx367_4
                    replace p367 := eq_true p367
                    replace q367 := eq_true q367
                    have p369 : 0 ≤ (0 : Int) := (by omega)
                    have q369 : 0 < (l0.length : Int) := of_decide_eq_true (by first | (with_reducible assumption) | assumption)
                    obtain ⟨ad369, e369, hx369_0, hx369_1, hx369_2, hx369_3, hx369_4⟩ := at_T28 HR0.out 0 p369 q369
                    have hw369_4 := hx369_4
                    (try rw [show ((0 : Int)).toNat = 0 from rfl] at hw369_4)
                    (try rw [show 0 * 5 = 0 from rfl] at hw369_4)
                    (try rw [Addr.add_zero'] at hw369_4)
                    have hw369_3 := hx369_3
                    (try rw [show ((0 : Int)).toNat = 0 from rfl] at hw369_3)
                    (try rw [show 0 * 5 = 0 from rfl] at hw369_3)
                    (try rw [Addr.add_zero'] at hw369_3)
                    have hw369_2 := hx369_2
                    (try rw [show ((0 : Int)).toNat = 0 from rfl] at hw369_2)
                    (try rw [show 0 * 5 = 0 from rfl] at hw369_2)
                    (try rw [Addr.add_zero'] at hw369_2)
                    have hw369_1 := hx369_1
                    (try rw [show ((0 : Int)).toNat = 0 from rfl] at hw369_1)
                    (try rw [show 0 * 5 = 0 from rfl] at hw369_1)
                    (try rw [Addr.add_zero'] at hw369_1)
                    have hw369_0 := hx369_0
                    (try rw [show ((0 : Int)).toNat = 0 from rfl] at hw369_0)
                    (try rw [show 0 * 5 = 0 from rfl] at hw369_0)
                    (try rw [Addr.add_zero'] at hw369_0)
                    obtain rfl : ad367 = ad369 := (by injection e369)
                    have qi369 : (0 < l0.length) = True := eq_true (by omega)
                    (try rw [show ((0 : Int)).toNat = 0 from rfl] at hx369_0)
                    (try rw [show 0 * 5 = 0 from rfl] at hx369_0)
                    (try rw [Addr.add_zero'] at hx369_0)
                    (try rw [show ((0 : Int)).toNat = 0 from rfl] at hx369_1)
                    (try rw [show 0 * 5 = 0 from rfl] at hx369_1)
                    (try rw [Addr.add_zero'] at hx369_1)
                    (try rw [show ((0 : Int)).toNat = 0 from rfl] at hx369_2)
                    (try rw [show 0 * 5 = 0 from rfl] at hx369_2)
                    (try rw [Addr.add_zero'] at hx369_2)
                    (try rw [show ((0 : Int)).toNat = 0 from rfl] at hx369_3)
                    (try rw [show 0 * 5 = 0 from rfl] at hx369_3)
                    (try rw [Addr.add_zero'] at hx369_3)
                    (try rw [show ((0 : Int)).toNat = 0 from rfl] at hx369_4)
                    (try rw [show 0 * 5 = 0 from rfl] at hx369_4)
                    (try rw [Addr.add_zero'] at hx369_4)
                    replace hx369_0 := (HB.out.cell (World.block_lt_of_cell? w _ hx369_0)).trans hx369_0
                    replace hx369_1 := (HB.out.cell (World.block_lt_of_cell? w _ hx369_1)).trans hx369_1
                    replace hx369_2 := (HB.out.cell (World.block_lt_of_cell? w _ hx369_2)).trans hx369_2
                    replace hx369_3 := (HB.out.cell (World.block_lt_of_cell? w _ hx369_3)).trans hx369_3
                    replace hx369_4 := (HB.out.cell (World.block_lt_of_cell? w _ hx369_4)).trans hx369_4
                    replace p369 := eq_true p369
                    replace q369 := eq_true q369
                    refine start_ (n := 14) (S := fun w' => w'.cell? ad367 = some (.string ((rd_T28 l0 0).f0)) ∧ w'.cell? ⟨ad367.block, ad367.off + 1, none⟩ = some (.bool ((rd_T28 l0 0).f1)) ∧ w'.cell? ⟨ad367.block, ad367.off + 2, none⟩ = some (.int .i64 ((rd_T28 l0 0).f2)) ∧ w'.cell? ⟨ad367.block, ad367.off + 3, none⟩ = some (.int .i64 ((rd_T28 l0 0).f3)) ∧ w'.cell? ⟨ad367.block, ad367.off + 4, none⟩ = some (.int .i64 ((rd_T28 l0 0).f4)) ∧ w'.cell? ad367 = some (.string ((rd_T28 l0 0).f0)) ∧ w'.cell? ⟨ad367.block, ad367.off + 1, none⟩ = some (.bool ((rd_T28 l0 0).f1)) ∧ w'.cell? ⟨ad367.block, ad367.off + 2, none⟩ = some (.int .i64 ((rd_T28 l0 0).f2)) ∧ w'.cell? ⟨ad367.block, ad367.off + 3, none⟩ = some (.int .i64 ((rd_T28 l0 0).f3)) ∧ w'.cell? ⟨ad367.block, ad367.off + 4, none⟩ = some (.int .i64 ((rd_T28 l0 0).f4))) (ds := []) #[false, false, false, false, false, false, false, false, false, false, false, false, false, false] (by kernel_rfl) rfl rfl ⟨((HB.out.cell (World.block_lt_of_cell? w _ hw367_0)).trans hw367_0), ((HB.out.cell (World.block_lt_of_cell? w _ hw367_1)).trans hw367_1), ((HB.out.cell (World.block_lt_of_cell? w _ hw367_2)).trans hw367_2), ((HB.out.cell (World.block_lt_of_cell? w _ hw367_3)).trans hw367_3), ((HB.out.cell (World.block_lt_of_cell? w _ hw367_4)).trans hw367_4), ((HB.out.cell (World.block_lt_of_cell? w _ hw369_0)).trans hw369_0), ((HB.out.cell (World.block_lt_of_cell? w _ hw369_1)).trans hw369_1), ((HB.out.cell (World.block_lt_of_cell? w _ hw369_2)).trans hw369_2), ((HB.out.cell (World.block_lt_of_cell? w _ hw369_3)).trans hw369_3), ((HB.out.cell (World.block_lt_of_cell? w _ hw369_4)).trans hw369_4)⟩ (fun hHeld => ?_); refine with_tabW parrylaw1_DomForms.tab11 parrylaw1_DomForms.bits11 (fun HT_ HW_ => ?_)
                    generalize wc.drew = w91 at HB hx367_0 hx367_1 hx367_2 hx367_3 hx367_4 hx369_0 hx369_1 hx369_2 hx369_3 hx369_4 hHeld ⊢
                    refine pure_ (i := 0) (N := some 124) (v := ?_) (a' := ?_) #[true, false, false, false, false, false, false, false, false, false, false, false, false, false] rfl rfl (any_of HT_.out (by kernel_rfl)) (fun _ _ _ h => h) (Or.inl ⟨by rfl, ?_⟩) ?_ ?_
                    rotate_left
                    · intro w'
                      go_simp
                      with_reducible rfl
                    rotate_left
                    · simp only [Act.put, List.setIfInBounds_toArray, List.set_cons_zero, List.set_cons_succ, i64_w, i32_w]
                      rfl
                    refine pure_ (i := 1) (N := some 125) (v := ?_) (a' := ?_) #[true, true, false, false, false, false, false, false, false, false, false, false, false, false] rfl rfl (any_of HT_.out (by kernel_rfl)) (fun _ _ _ h => h) (Or.inl ⟨by rfl, ?_⟩) ?_ ?_
                    rotate_left
                    · intro w'
                      go_simp
                      with_reducible rfl
                    rotate_left
                    · simp only [Act.put, List.setIfInBounds_toArray, List.set_cons_zero, List.set_cons_succ, i64_w, i32_w]
                      rfl
                    refine pure_ (i := 2) (N := some 126) (v := ?_) (a' := ?_) #[true, true, true, false, false, false, false, false, false, false, false, false, false, false] rfl rfl (any_of HT_.out (by kernel_rfl)) (fun _ _ _ h => h) (Or.inl ⟨by rfl, ?_⟩) ?_ ?_
                    rotate_left
                    · intro w'
                      go_simp
                      with_reducible rfl
                    rotate_left
                    · simp only [Act.put, List.setIfInBounds_toArray, List.set_cons_zero, List.set_cons_succ, i64_w, i32_w]
                      rfl
                    refine pure_ (i := 3) (N := some 127) (v := ?_) (a' := ?_) #[true, true, true, true, false, false, false, false, false, false, false, false, false, false] rfl rfl (any_of HT_.out (by kernel_rfl)) (fun _ _ _ h => h) (Or.inl ⟨by rfl, ?_⟩) ?_ ?_
                    rotate_left
                    · intro w'
                      go_simp
                      with_reducible rfl
                    rotate_left
                    · simp only [Act.put, List.setIfInBounds_toArray, List.set_cons_zero, List.set_cons_succ, i64_w, i32_w]
                      rfl
                    refine pure_ (i := 4) (N := some 128) (v := ?_) (a' := ?_) #[true, true, true, true, true, false, false, false, false, false, false, false, false, false] rfl rfl (any_of HT_.out (by kernel_rfl)) (fun _ _ _ h => h) (Or.inl ⟨by rfl, ?_⟩) ?_ ?_
                    rotate_left
                    · intro w'
                      go_simp
                      with_reducible rfl
                    rotate_left
                    · simp only [Act.put, List.setIfInBounds_toArray, List.set_cons_zero, List.set_cons_succ, i64_w, i32_w]
                      rfl
                    refine pure_ (i := 5) (N := some 129) (v := ?_) (a' := ?_) #[true, true, true, true, true, true, false, false, false, false, false, false, false, false] rfl rfl (any_of HT_.out (by kernel_rfl)) (fun _ _ _ h => h) (Or.inl ⟨by rfl, ?_⟩) ?_ ?_
                    rotate_left
                    · intro w'
                      go_simp
                      with_reducible rfl
                    rotate_left
                    · simp only [Act.put, List.setIfInBounds_toArray, List.set_cons_zero, List.set_cons_succ, i64_w, i32_w]
                      rfl
                    refine pure_ (i := 8) (N := some 132) (v := ?_) (a' := ?_) #[true, true, true, true, true, true, false, false, true, false, false, false, false, false] rfl rfl (any_of HT_.out (by kernel_rfl)) (fun _ _ _ h => h) (Or.inl ⟨by rfl, ?_⟩) ?_ ?_
                    rotate_left
                    · intro w'
                      go_simp
                      with_reducible rfl
                    rotate_left
                    · simp only [Act.put, List.setIfInBounds_toArray, List.set_cons_zero, List.set_cons_succ, i64_w, i32_w]
                      rfl
                    refine pure_ (i := 9) (N := some 133) (v := ?_) (a' := ?_) #[true, true, true, true, true, true, false, false, true, true, false, false, false, false] rfl rfl (any_of HT_.out (by kernel_rfl)) (fun _ _ _ h => h) (Or.inl ⟨by rfl, ?_⟩) ?_ ?_
                    rotate_left
                    · intro w'
                      go_simp
                      with_reducible rfl
                    rotate_left
                    · simp only [Act.put, List.setIfInBounds_toArray, List.set_cons_zero, List.set_cons_succ, i64_w, i32_w]
                      rfl
                    refine take_ (i := 6) (N := some 130) (v := ?_) (a' := ?_) #[true, true, true, true, true, true, true, false, true, true, false, false, false, false] rfl rfl (take_ofW HT_.out HW_.out (by kernel_rfl)) (fun _ _ _ h => h) (Or.inl ⟨by rfl, ?_⟩) hHeld ?_ ?_
                    rotate_left
                    · rintro w' ⟨s0, s1, s2, s3, s4, s5, s6, s7, s8, s9⟩
                      go_simp
                      with_reducible rfl
                    rotate_left
                    · simp only [Act.put, List.setIfInBounds_toArray, List.set_cons_zero, List.set_cons_succ, i64_w, i32_w]
                      rfl
                    refine take_ (i := 10) (N := some 134) (v := ?_) (a' := ?_) #[true, true, true, true, true, true, true, false, true, true, true, false, false, false] rfl rfl (take_ofW HT_.out HW_.out (by kernel_rfl)) (fun _ _ _ h => h) (Or.inl ⟨by rfl, ?_⟩) hHeld ?_ ?_
                    rotate_left
                    · rintro w' ⟨s0, s1, s2, s3, s4, s5, s6, s7, s8, s9⟩
                      go_simp
                      with_reducible rfl
                    rotate_left
                    · simp only [Act.put, List.setIfInBounds_toArray, List.set_cons_zero, List.set_cons_succ, i64_w, i32_w]
                      rfl
                    refine one_ (i := 7) (N := some 131) #[true, true, true, true, true, true, true, true, true, true, true, false, false, false] rfl rfl (one_of HT_.out (by kernel_rfl)) (by decide) (fun K hK => ?_)
                    refine goes_ Try.func13 (by kernel_rfl) rfl #[.agg #[.string ((rd_T28 l0 0).f0), .bool ((rd_T28 l0 0).f1), .int .i64 ((rd_T28 l0 0).f2), .int .i64 ((rd_T28 l0 0).f3), .int .i64 ((rd_T28 l0 0).f4)]] (by rfl) rfl rfl (by (try simp only [List.map_toArray, List.map_cons, List.map_nil]); first | done | rfl | (simp only [List.length_drop, List.length_take]; rfl)) ?_
                    with_reducible refine (dom_Size.calls ((rd_T28 l0 0).f0) ((rd_T28 l0 0).f1) ((rd_T28 l0 0).f2) ((rd_T28 l0 0).f3) ((rd_T28 l0 0).f4) t368 _ A89.out).mono ?_
                    rintro e w92 ⟨rfl, hb⟩
                    refine ⟨_, rfl, ?_⟩
                    have n0_ := Aside0.mk (below_step (by repeat (first | (with_reducible first | exact HB.out | apply below_alloc | apply pw_below_drewN | apply below_drew1) | exact HB.out)) hb)
                    clear HB
                    have HB := n0_
                    clear n0_
                    (try clear hb)
                    (try clear hb2)
                    (try clear hk)
                    (try clear hi)
                    refine hK.out _ _ ⟨((HB.out.cell (World.block_lt_of_cell? w _ hw367_0)).trans hw367_0), ((HB.out.cell (World.block_lt_of_cell? w _ hw367_1)).trans hw367_1), ((HB.out.cell (World.block_lt_of_cell? w _ hw367_2)).trans hw367_2), ((HB.out.cell (World.block_lt_of_cell? w _ hw367_3)).trans hw367_3), ((HB.out.cell (World.block_lt_of_cell? w _ hw367_4)).trans hw367_4), ((HB.out.cell (World.block_lt_of_cell? w _ hw369_0)).trans hw369_0), ((HB.out.cell (World.block_lt_of_cell? w _ hw369_1)).trans hw369_1), ((HB.out.cell (World.block_lt_of_cell? w _ hw369_2)).trans hw369_2), ((HB.out.cell (World.block_lt_of_cell? w _ hw369_3)).trans hw369_3), ((HB.out.cell (World.block_lt_of_cell? w _ hw369_4)).trans hw369_4)⟩ (fun hHeld => ?_)
                    clear hK K
                    refine norm_ (a' := ?_) ?_ ?_
                    rotate_left
                    · show Act.put _ (some 131) _ = _
                      simp only [Act.put, List.setIfInBounds_toArray, List.set_cons_zero, List.set_cons_succ, i64_w, i32_w]
                      rfl
                    refine one_ (i := 11) (N := some 135) #[true, true, true, true, true, true, true, true, true, true, true, true, false, false] rfl rfl (one_of HT_.out (by kernel_rfl)) (by decide) (fun K hK => ?_)
                    refine goes_ Try.func19 (by kernel_rfl) rfl #[.agg #[.string ((rd_T28 l0 0).f0), .bool ((rd_T28 l0 0).f1), .int .i64 ((rd_T28 l0 0).f2), .int .i64 ((rd_T28 l0 0).f3), .int .i64 ((rd_T28 l0 0).f4)]] (by rfl) rfl rfl (by (try simp only [List.map_toArray, List.map_cons, List.map_nil]); first | done | rfl | (simp only [List.length_drop, List.length_take]; rfl)) ?_
                    with_reducible refine (parryref1_Size.calls ((rd_T28 l0 0).f0) ((rd_T28 l0 0).f1) ((rd_T28 l0 0).f2) ((rd_T28 l0 0).f3) ((rd_T28 l0 0).f4) t370 _ A90.out).mono ?_
                    rintro e w93 ⟨rfl, hb⟩
                    refine ⟨_, rfl, ?_⟩
                    have n0_ := Aside0.mk (below_step (by repeat (first | (with_reducible first | exact HB.out | apply below_alloc | apply pw_below_drewN | apply below_drew1) | exact HB.out)) hb)
                    clear HB
                    have HB := n0_
                    clear n0_
                    (try clear hb)
                    (try clear hb2)
                    (try clear hk)
                    (try clear hi)
                    refine hK.out _ _ ⟨((HB.out.cell (World.block_lt_of_cell? w _ hw367_0)).trans hw367_0), ((HB.out.cell (World.block_lt_of_cell? w _ hw367_1)).trans hw367_1), ((HB.out.cell (World.block_lt_of_cell? w _ hw367_2)).trans hw367_2), ((HB.out.cell (World.block_lt_of_cell? w _ hw367_3)).trans hw367_3), ((HB.out.cell (World.block_lt_of_cell? w _ hw367_4)).trans hw367_4), ((HB.out.cell (World.block_lt_of_cell? w _ hw369_0)).trans hw369_0), ((HB.out.cell (World.block_lt_of_cell? w _ hw369_1)).trans hw369_1), ((HB.out.cell (World.block_lt_of_cell? w _ hw369_2)).trans hw369_2), ((HB.out.cell (World.block_lt_of_cell? w _ hw369_3)).trans hw369_3), ((HB.out.cell (World.block_lt_of_cell? w _ hw369_4)).trans hw369_4)⟩ (fun hHeld => ?_)
                    clear hK K
                    refine norm_ (a' := ?_) ?_ ?_
                    rotate_left
                    · show Act.put _ (some 135) _ = _
                      simp only [Act.put, List.setIfInBounds_toArray, List.set_cons_zero, List.set_cons_succ, i64_w, i32_w]
                      rfl
                    refine pure_ (i := 12) (N := some 136) (v := ?_) (a' := ?_) #[true, true, true, true, true, true, true, true, true, true, true, true, true, false] rfl rfl (any_of HT_.out (by kernel_rfl)) (fun _ _ _ h => h) (Or.inl ⟨by rfl, ?_⟩) ?_ ?_
                    rotate_left
                    · intro w'
                      go_simp
                      with_reducible rfl
                    rotate_left
                    · simp only [Act.put, List.setIfInBounds_toArray, List.set_cons_zero, List.set_cons_succ, i64_w, i32_w]
                      rfl
                    refine pure_ (i := 13) (N := some 137) (v := ?_) (a' := ?_) #[true, true, true, true, true, true, true, true, true, true, true, true, true, true] rfl rfl (any_of HT_.out (by kernel_rfl)) (fun _ _ _ h => h) (Or.inl ⟨by rfl, ?_⟩) ?_ ?_
                    rotate_left
                    · intro w'
                      go_simp
                      with_reducible rfl
                    rotate_left
                    · simp only [Act.put, List.setIfInBounds_toArray, List.set_cons_zero, List.set_cons_succ, i64_w, i32_w]
                      rfl
                    refine done_ (done_of HT_.out (by kernel_rfl)) ?_
                    try go_wp2
                    go_meet
                    case rel => exact ⟨_, ((t368 != t370)), (by first | rfl | (simp; done) | (simp [*]; done)), H', ⟨by have := HJ7.out; have := HJ23.out; first | omega | exact Nat.le_refl _⟩, ⟨by repeat (first | (with_reducible first | exact HB.out | apply below_alloc | apply pw_below_drewN | apply below_drew1) | exact HB.out)⟩⟩
                  · rw [if_neg c88] at H
                    exact absurd H (by simp)
                · rw [if_neg c87] at H
                  have c87b0 : decide (0 < (l0.length : Int)) = false := decide_eq_false c87
                  have c87b1 : decide (0 < l0.length) = false := decide_eq_false (by omega)
                  clear c87
                  (first | rw [c87b0] | (simp only [i64_w, i32_w]; rw [c87b0]) | skip)
                  have H' := Aside0.mk H
                  clear H
                  try go_wp2
                  have n0_ := Aside0.mk (below_drew1 HB.out)
                  clear HB
                  have HB := n0_
                  clear n0_
                  refine start_ (n := 14) (S := fun w' => True) (ds := []) #[false, false, false, false, false, false, false, false, false, false, false, false, false, false] (by kernel_rfl) rfl rfl trivial (fun hHeld => ?_); refine with_tabW parrylaw1_DomForms.tab11 parrylaw1_DomForms.bits11 (fun HT_ HW_ => ?_)
                  generalize wc.drew = w94 at HB hHeld ⊢
                  refine pure_ (i := 0) (N := some 124) (v := ?_) (a' := ?_) #[true, false, false, false, false, false, false, false, false, false, false, false, false, false] rfl rfl (any_of HT_.out (by kernel_rfl)) (fun _ _ _ h => h) (Or.inl ⟨by rfl, ?_⟩) ?_ ?_
                  rotate_left
                  · intro w'
                    go_simp
                    with_reducible rfl
                  rotate_left
                  · simp only [Act.put, List.setIfInBounds_toArray, List.set_cons_zero, List.set_cons_succ, i64_w, i32_w]
                    rfl
                  refine pure_ (i := 1) (N := some 125) (v := ?_) (a' := ?_) #[true, true, false, false, false, false, false, false, false, false, false, false, false, false] rfl rfl (any_of HT_.out (by kernel_rfl)) (fun _ _ _ h => h) (Or.inl ⟨by rfl, ?_⟩) ?_ ?_
                  rotate_left
                  · intro w'
                    go_simp
                    with_reducible rfl
                  rotate_left
                  · simp only [Act.put, List.setIfInBounds_toArray, List.set_cons_zero, List.set_cons_succ, i64_w, i32_w]
                    rfl
                  refine pure_ (i := 2) (N := some 126) (v := ?_) (a' := ?_) #[true, true, true, false, false, false, false, false, false, false, false, false, false, false] rfl rfl (any_of HT_.out (by kernel_rfl)) (fun _ _ _ h => h) (Or.inl ⟨by rfl, ?_⟩) ?_ ?_
                  rotate_left
                  · intro w'
                    go_simp
                    with_reducible rfl
                  rotate_left
                  · simp only [Act.put, List.setIfInBounds_toArray, List.set_cons_zero, List.set_cons_succ, i64_w, i32_w]
                    rfl
                  refine pure_ (i := 3) (N := some 127) (v := ?_) (a' := ?_) #[true, true, true, true, false, false, false, false, false, false, false, false, false, false] rfl rfl (any_of HT_.out (by kernel_rfl)) (fun _ _ _ h => h) (Or.inl ⟨by rfl, ?_⟩) ?_ ?_
                  rotate_left
                  · intro w'
                    go_simp
                    with_reducible rfl
                  rotate_left
                  · simp only [Act.put, List.setIfInBounds_toArray, List.set_cons_zero, List.set_cons_succ, i64_w, i32_w]
                    rfl
                  refine pure_ (i := 4) (N := some 128) (v := undef) (a' := ?_) #[true, true, true, true, true, false, false, false, false, false, false, false, false, false] rfl rfl (any_of HT_.out (by kernel_rfl)) (fun _ _ _ h => h) (Or.inr ⟨by rfl, rfl⟩) ?_ ?_
                  rotate_left
                  · simp only [Act.put, List.setIfInBounds_toArray, List.set_cons_zero, List.set_cons_succ, i64_w, i32_w]
                    rfl
                  refine pure_ (i := 5) (N := some 129) (v := undef) (a' := ?_) #[true, true, true, true, true, true, false, false, false, false, false, false, false, false] rfl rfl (any_of HT_.out (by kernel_rfl)) (fun _ _ _ h => h) (Or.inr ⟨by rfl, rfl⟩) ?_ ?_
                  rotate_left
                  · simp only [Act.put, List.setIfInBounds_toArray, List.set_cons_zero, List.set_cons_succ, i64_w, i32_w]
                    rfl
                  refine pure_ (i := 6) (N := some 130) (v := undef) (a' := ?_) #[true, true, true, true, true, true, true, false, false, false, false, false, false, false] rfl rfl (any_of HT_.out (by kernel_rfl)) (fun _ _ _ h => h) (Or.inr ⟨by rfl, rfl⟩) ?_ ?_
                  rotate_left
                  · simp only [Act.put, List.setIfInBounds_toArray, List.set_cons_zero, List.set_cons_succ, i64_w, i32_w]
                    rfl
                  refine pure_ (i := 7) (N := some 131) (v := undef) (a' := ?_) #[true, true, true, true, true, true, true, true, false, false, false, false, false, false] rfl rfl (any_of HT_.out (by kernel_rfl)) (fun _ _ _ h => h) (Or.inr ⟨by rfl, rfl⟩) ?_ ?_
                  rotate_left
                  · simp only [Act.put, List.setIfInBounds_toArray, List.set_cons_zero, List.set_cons_succ, i64_w, i32_w]
                    rfl
                  refine pure_ (i := 8) (N := some 132) (v := undef) (a' := ?_) #[true, true, true, true, true, true, true, true, true, false, false, false, false, false] rfl rfl (any_of HT_.out (by kernel_rfl)) (fun _ _ _ h => h) (Or.inr ⟨by rfl, rfl⟩) ?_ ?_
                  rotate_left
                  · simp only [Act.put, List.setIfInBounds_toArray, List.set_cons_zero, List.set_cons_succ, i64_w, i32_w]
                    rfl
                  refine pure_ (i := 9) (N := some 133) (v := undef) (a' := ?_) #[true, true, true, true, true, true, true, true, true, true, false, false, false, false] rfl rfl (any_of HT_.out (by kernel_rfl)) (fun _ _ _ h => h) (Or.inr ⟨by rfl, rfl⟩) ?_ ?_
                  rotate_left
                  · simp only [Act.put, List.setIfInBounds_toArray, List.set_cons_zero, List.set_cons_succ, i64_w, i32_w]
                    rfl
                  refine pure_ (i := 10) (N := some 134) (v := undef) (a' := ?_) #[true, true, true, true, true, true, true, true, true, true, true, false, false, false] rfl rfl (any_of HT_.out (by kernel_rfl)) (fun _ _ _ h => h) (Or.inr ⟨by rfl, rfl⟩) ?_ ?_
                  rotate_left
                  · simp only [Act.put, List.setIfInBounds_toArray, List.set_cons_zero, List.set_cons_succ, i64_w, i32_w]
                    rfl
                  refine pure_ (i := 11) (N := some 135) (v := undef) (a' := ?_) #[true, true, true, true, true, true, true, true, true, true, true, true, false, false] rfl rfl (any_of HT_.out (by kernel_rfl)) (fun _ _ _ h => h) (Or.inr ⟨by rfl, rfl⟩) ?_ ?_
                  rotate_left
                  · simp only [Act.put, List.setIfInBounds_toArray, List.set_cons_zero, List.set_cons_succ, i64_w, i32_w]
                    rfl
                  refine pure_ (i := 12) (N := some 136) (v := undef) (a' := ?_) #[true, true, true, true, true, true, true, true, true, true, true, true, true, false] rfl rfl (any_of HT_.out (by kernel_rfl)) (fun _ _ _ h => h) (Or.inr ⟨by rfl, rfl⟩) ?_ ?_
                  rotate_left
                  · simp only [Act.put, List.setIfInBounds_toArray, List.set_cons_zero, List.set_cons_succ, i64_w, i32_w]
                    rfl
                  refine pure_ (i := 13) (N := some 137) (v := ?_) (a' := ?_) #[true, true, true, true, true, true, true, true, true, true, true, true, true, true] rfl rfl (any_of HT_.out (by kernel_rfl)) (fun _ _ _ h => h) (Or.inl ⟨by rfl, ?_⟩) ?_ ?_
                  rotate_left
                  · intro w'
                    go_simp
                    with_reducible rfl
                  rotate_left
                  · simp only [Act.put, List.setIfInBounds_toArray, List.set_cons_zero, List.set_cons_succ, i64_w, i32_w]
                    rfl
                  refine done_ (done_of HT_.out (by kernel_rfl)) ?_
                  try go_wp2
                  go_meet
                  case rel => exact ⟨_, (false), (by first | rfl | (simp; done) | (simp [*]; done)), H', ⟨by have := HJ7.out; have := HJ23.out; first | omega | exact Nat.le_refl _⟩, ⟨by repeat (first | (with_reducible first | exact HB.out | apply below_alloc | apply pw_below_drewN | apply below_drew1) | exact HB.out)⟩⟩
              case rest =>
                clear HC86
                try clear c1
                try clear c2
                try clear p2
                try clear c3
                try clear p3
                try clear q3
                try clear hx3
                try clear qi3
                try clear c4
                try clear c5
                try clear c7
                try clear c8
                try clear c9
                try clear c10
                try clear c10b0
                try clear c11
                try clear c12
                try clear c12b0
                try clear c12b1
                try clear c13
                try clear c14
                try clear c15
                try clear c17
                try clear c19
                try clear c20
                try clear c21
                try clear c22
                try clear c23
                try clear c33
                try clear c33b0
                try clear c33b1
                try clear c36
                try clear c36b0
                try clear c36b1
                try clear p36
                try clear q36
                try clear hx36
                try clear qi36
                try clear c38
                try clear c39
                try clear c39b0
                try clear c39b1
                try clear c39b2
                try clear c46
                try clear c46b0
                try clear c46b1
                try clear c47
                try clear c47b0
                try clear c47b1
                try clear c47b2
                try clear c54
                try clear c54b0
                try clear c54b1
                try clear c85
                try clear c87
                try clear c87b0
                try clear c87b1
                try clear c88
                try clear c88b0
                try clear c88b1
                try clear hx367_0
                try clear hx367_1
                try clear hx367_2
                try clear hx367_3
                try clear hx367_4
                try clear hx369_0
                try clear hx369_1
                try clear hx369_2
                try clear hx369_3
                try clear hx369_4
                try clear p2
                try clear p367
                try clear p369
                try clear q367
                try clear q369
                obtain ⟨kq, x137_85, rfl, HA, HJ85, HB⟩ := hcut
                cases kq with
                | zero => exact absurd HA.out (by simp [parrylaw1_DomForms.j2])
                | succ kj85 =>
                  have H := HA.out
                  clear HA
                  simp only [parrylaw1_DomForms.j2] at H
                  by_cases c95 : x137_85 = true
                  · subst c95
                    have H1 : (some false) = some r := by rw [if_pos rfl] at H; exact H
                    clear H
                    have H := H1
                    clear H1
                    obtain rfl := Option.some.inj H
                    go_wp2
                    go_ret
                    exact ⟨by first | rfl | (simp [errW_none, errW_some] <;> rfl) | (simp [*, errW_none, errW_some] <;> rfl), by repeat (first | (with_reducible first | exact HB.out | apply below_alloc | apply pw_below_drewN | apply below_drew1) | exact HB.out)⟩
                  · replace c95 := Bool.eq_false_iff.mpr c95
                    subst c95
                    have H1 : ((dom_Part.f kj85 l0 a1 a5).bind fun t371 => ((parryref1_Part.f kj85 l0 a1 a5).bind fun t372 => (if t371 = t372 then ((dom_Find.f l0 a6).bind fun t373 => ((parryref1_Find.f kj85 l0 a6).bind fun t374 => (if t373 = t374 then ((parrylaw1_awake.f kj85).bind fun t375 => (some t375)) else (some false)))) else (some false)))) = some r := by rw [if_neg (show ¬ (false = true) by decide)] at H; exact H
                    clear H
                    have H := H1
                    clear H1
                    replace H := Option.bind_eq_some_iff.mp H
                    obtain ⟨t371, A960, H⟩ := H
                    replace H : ((parryref1_Part.f kj85 l0 a1 a5).bind fun t372 => (if t371 = t372 then ((dom_Find.f l0 a6).bind fun t373 => ((parryref1_Find.f kj85 l0 a6).bind fun t374 => (if t373 = t374 then ((parrylaw1_awake.f kj85).bind fun t375 => (some t375)) else (some false)))) else (some false))) = some r := H
                    have A96 := Aside0.mk A960
                    clear A960
                    replace H := Option.bind_eq_some_iff.mp H
                    obtain ⟨t372, A970, H⟩ := H
                    replace H : (if t371 = t372 then ((dom_Find.f l0 a6).bind fun t373 => ((parryref1_Find.f kj85 l0 a6).bind fun t374 => (if t373 = t374 then ((parrylaw1_awake.f kj85).bind fun t375 => (some t375)) else (some false)))) else (some false)) = some r := H
                    have A97 := Aside0.mk A970
                    clear A970
                    by_cases c98 : t371 = t372
                    · rw [if_pos c98] at H
                      have c98b0 : (t371 == t372) = true := beq_iff_eq.mpr c98
                      have c98b1 : (t371 != t372) = false := bne_eq_false_iff_eq.mpr c98
                      clear c98
                      replace H := Option.bind_eq_some_iff.mp H
                      obtain ⟨t373, A990, H⟩ := H
                      replace H : ((parryref1_Find.f kj85 l0 a6).bind fun t374 => (if t373 = t374 then ((parrylaw1_awake.f kj85).bind fun t375 => (some t375)) else (some false))) = some r := H
                      have A99 := Aside0.mk A990
                      clear A990
                      replace H := Option.bind_eq_some_iff.mp H
                      obtain ⟨t374, A1000, H⟩ := H
                      replace H : (if t373 = t374 then ((parrylaw1_awake.f kj85).bind fun t375 => (some t375)) else (some false)) = some r := H
                      have A100 := Aside0.mk A1000
                      clear A1000
                      by_cases c101 : t373 = t374
                      · rw [if_pos c101] at H
                        have c101b0 : (t373 == t374) = true := beq_iff_eq.mpr c101
                        have c101b1 : (t373 != t374) = false := bne_eq_false_iff_eq.mpr c101
                        clear c101
                        replace H := Option.bind_eq_some_iff.mp H
                        obtain ⟨t375, A1020, H⟩ := H
                        replace H : (some t375) = some r := H
                        have A102 := Aside0.mk A1020
                        clear A1020
                        obtain rfl := Option.some.inj H
                        go_wp2_with (first | ((with_reducible refine gate_callee (f := 25) rfl ?_); refine goesL_ (some 141) rfl rfl Try.func25 (by kernel_rfl) rfl #[.slice A0 l0.length c0, .int .i64 a1, .bool a5] rfl (by (try simp only [List.map_toArray, List.map_cons, List.map_nil]); first | done | rfl | (simp only [List.length_drop, List.length_take]; rfl)) ?_; (with_reducible refine (dom_Part.calls kj85 _ _ l0 a1 a5 t371 _ ?side1 ?side2 A96.out).mono ?_); (case side1 => repeat (first | exact (Kd.C_below HR0.out HB.out) | (with_reducible refine Kd.C_alloc ?_ _) | (with_reducible refine Kd.C_drewN ?_ _) | (with_reducible refine Kd.C_drew ?_))); (case side2 => exact HC0.out); rintro e w103 ⟨rfl, hb⟩; refine ⟨_, rfl, ?_⟩; have n0_ := Aside0.mk (below_step (by repeat (first | (with_reducible first | exact HB.out | apply below_alloc | apply pw_below_drewN | apply below_drew1) | exact HB.out)) hb); clear HB; have HB := n0_; clear n0_; (try clear hb); (try clear hb2); (try clear hk); (try clear hi)) | ((with_reducible refine gate_callee (f := 26) rfl ?_); refine goesL_ (some 145) rfl rfl Try.func26 (by kernel_rfl) rfl #[.slice A0 l0.length c0, .int .i64 a1, .bool a5] rfl (by (try simp only [List.map_toArray, List.map_cons, List.map_nil]); first | done | rfl | (simp only [List.length_drop, List.length_take]; rfl)) ?_; (with_reducible refine (parryref1_Part.calls kj85 _ _ l0 a1 a5 t372 _ ?side1 ?side2 A97.out).mono ?_); (case side1 => repeat (first | exact (Kd.C_below HR0.out HB.out) | (with_reducible refine Kd.C_alloc ?_ _) | (with_reducible refine Kd.C_drewN ?_ _) | (with_reducible refine Kd.C_drew ?_))); (case side2 => exact HC0.out); rintro e w104 ⟨rfl, hb⟩; refine ⟨_, rfl, ?_⟩; have n0_ := Aside0.mk (below_step (by repeat (first | (with_reducible first | exact HB.out | apply below_alloc | apply pw_below_drewN | apply below_drew1) | exact HB.out)) hb); clear HB; have HB := n0_; clear n0_; (try clear hb); (try clear hb2); (try clear hk); (try clear hi)) | (go_at_call 16; (with_reducible refine (dom_Find.calls _ _ l0 a6 t373 _ ?side1 ?side2 A99.out).mono ?_); (case side1 => repeat (first | exact (Kd.C_below HR0.out HB.out) | (with_reducible refine Kd.C_alloc ?_ _) | (with_reducible refine Kd.C_drewN ?_ _) | (with_reducible refine Kd.C_drew ?_))); (case side2 => exact HC0.out); rintro e w105 ⟨rfl, hb⟩; have n0_ := Aside0.mk (below_step (by repeat (first | (with_reducible first | exact HB.out | apply below_alloc | apply pw_below_drewN | apply below_drew1) | exact HB.out)) hb); clear HB; have HB := n0_; clear n0_; (try clear hb); (try clear hb2); (try clear hk); (try clear hi)) | (go_at_call 27; (with_reducible refine (parryref1_Find.calls kj85 _ _ l0 a6 t374 _ ?side1 ?side2 A100.out).mono ?_); (case side1 => repeat (first | exact (Kd.C_below HR0.out HB.out) | (with_reducible refine Kd.C_alloc ?_ _) | (with_reducible refine Kd.C_drewN ?_ _) | (with_reducible refine Kd.C_drew ?_))); (case side2 => exact HC0.out); rintro e w106 ⟨rfl, hb⟩; have n0_ := Aside0.mk (below_step (by repeat (first | (with_reducible first | exact HB.out | apply below_alloc | apply pw_below_drewN | apply below_drew1) | exact HB.out)) hb); clear HB; have HB := n0_; clear n0_; (try clear hb); (try clear hb2); (try clear hk); (try clear hi)) | (go_at_call 11; (with_reducible refine (parrylaw1_awake.calls kj85  t375 _ A102.out).mono ?_); rintro e w107 ⟨rfl, hb⟩; have n0_ := Aside0.mk (below_step (by repeat (first | (with_reducible first | exact HB.out | apply below_alloc | apply pw_below_drewN | apply below_drew1) | exact HB.out)) hb); clear HB; have HB := n0_; clear n0_; (try clear hb); (try clear hb2); (try clear hk); (try clear hi)))
                        go_ret
                        exact ⟨by first | rfl | (simp [errW_none, errW_some] <;> rfl) | (simp [*, errW_none, errW_some] <;> rfl), by repeat (first | (with_reducible first | exact HB.out | apply below_alloc | apply pw_below_drewN | apply below_drew1) | exact HB.out)⟩
                      · rw [if_neg c101] at H
                        have c101b0 : (t373 == t374) = false := beq_eq_false_iff_ne.mpr c101
                        have c101b1 : (t373 != t374) = true := bne_iff_ne.mpr c101
                        obtain rfl := Option.some.inj H
                        go_wp2_with (first | ((with_reducible refine gate_callee (f := 25) rfl ?_); refine goesL_ (some 141) rfl rfl Try.func25 (by kernel_rfl) rfl #[.slice A0 l0.length c0, .int .i64 a1, .bool a5] rfl (by (try simp only [List.map_toArray, List.map_cons, List.map_nil]); first | done | rfl | (simp only [List.length_drop, List.length_take]; rfl)) ?_; (with_reducible refine (dom_Part.calls kj85 _ _ l0 a1 a5 t371 _ ?side1 ?side2 A96.out).mono ?_); (case side1 => repeat (first | exact (Kd.C_below HR0.out HB.out) | (with_reducible refine Kd.C_alloc ?_ _) | (with_reducible refine Kd.C_drewN ?_ _) | (with_reducible refine Kd.C_drew ?_))); (case side2 => exact HC0.out); rintro e w108 ⟨rfl, hb⟩; refine ⟨_, rfl, ?_⟩; have n0_ := Aside0.mk (below_step (by repeat (first | (with_reducible first | exact HB.out | apply below_alloc | apply pw_below_drewN | apply below_drew1) | exact HB.out)) hb); clear HB; have HB := n0_; clear n0_; (try clear hb); (try clear hb2); (try clear hk); (try clear hi)) | ((with_reducible refine gate_callee (f := 26) rfl ?_); refine goesL_ (some 145) rfl rfl Try.func26 (by kernel_rfl) rfl #[.slice A0 l0.length c0, .int .i64 a1, .bool a5] rfl (by (try simp only [List.map_toArray, List.map_cons, List.map_nil]); first | done | rfl | (simp only [List.length_drop, List.length_take]; rfl)) ?_; (with_reducible refine (parryref1_Part.calls kj85 _ _ l0 a1 a5 t372 _ ?side1 ?side2 A97.out).mono ?_); (case side1 => repeat (first | exact (Kd.C_below HR0.out HB.out) | (with_reducible refine Kd.C_alloc ?_ _) | (with_reducible refine Kd.C_drewN ?_ _) | (with_reducible refine Kd.C_drew ?_))); (case side2 => exact HC0.out); rintro e w109 ⟨rfl, hb⟩; refine ⟨_, rfl, ?_⟩; have n0_ := Aside0.mk (below_step (by repeat (first | (with_reducible first | exact HB.out | apply below_alloc | apply pw_below_drewN | apply below_drew1) | exact HB.out)) hb); clear HB; have HB := n0_; clear n0_; (try clear hb); (try clear hb2); (try clear hk); (try clear hi)) | (go_at_call 16; (with_reducible refine (dom_Find.calls _ _ l0 a6 t373 _ ?side1 ?side2 A99.out).mono ?_); (case side1 => repeat (first | exact (Kd.C_below HR0.out HB.out) | (with_reducible refine Kd.C_alloc ?_ _) | (with_reducible refine Kd.C_drewN ?_ _) | (with_reducible refine Kd.C_drew ?_))); (case side2 => exact HC0.out); rintro e w110 ⟨rfl, hb⟩; have n0_ := Aside0.mk (below_step (by repeat (first | (with_reducible first | exact HB.out | apply below_alloc | apply pw_below_drewN | apply below_drew1) | exact HB.out)) hb); clear HB; have HB := n0_; clear n0_; (try clear hb); (try clear hb2); (try clear hk); (try clear hi)) | (go_at_call 27; (with_reducible refine (parryref1_Find.calls kj85 _ _ l0 a6 t374 _ ?side1 ?side2 A100.out).mono ?_); (case side1 => repeat (first | exact (Kd.C_below HR0.out HB.out) | (with_reducible refine Kd.C_alloc ?_ _) | (with_reducible refine Kd.C_drewN ?_ _) | (with_reducible refine Kd.C_drew ?_))); (case side2 => exact HC0.out); rintro e w111 ⟨rfl, hb⟩; have n0_ := Aside0.mk (below_step (by repeat (first | (with_reducible first | exact HB.out | apply below_alloc | apply pw_below_drewN | apply below_drew1) | exact HB.out)) hb); clear HB; have HB := n0_; clear n0_; (try clear hb); (try clear hb2); (try clear hk); (try clear hi)))
                        go_ret
                        exact ⟨by first | rfl | (simp [errW_none, errW_some] <;> rfl) | (simp [*, errW_none, errW_some] <;> rfl), by repeat (first | (with_reducible first | exact HB.out | apply below_alloc | apply pw_below_drewN | apply below_drew1) | exact HB.out)⟩
                    · rw [if_neg c98] at H
                      have c98b0 : (t371 == t372) = false := beq_eq_false_iff_ne.mpr c98
                      have c98b1 : (t371 != t372) = true := bne_iff_ne.mpr c98
                      obtain rfl := Option.some.inj H
                      go_wp2_with (first | ((with_reducible refine gate_callee (f := 25) rfl ?_); refine goesL_ (some 141) rfl rfl Try.func25 (by kernel_rfl) rfl #[.slice A0 l0.length c0, .int .i64 a1, .bool a5] rfl (by (try simp only [List.map_toArray, List.map_cons, List.map_nil]); first | done | rfl | (simp only [List.length_drop, List.length_take]; rfl)) ?_; (with_reducible refine (dom_Part.calls kj85 _ _ l0 a1 a5 t371 _ ?side1 ?side2 A96.out).mono ?_); (case side1 => repeat (first | exact (Kd.C_below HR0.out HB.out) | (with_reducible refine Kd.C_alloc ?_ _) | (with_reducible refine Kd.C_drewN ?_ _) | (with_reducible refine Kd.C_drew ?_))); (case side2 => exact HC0.out); rintro e w112 ⟨rfl, hb⟩; refine ⟨_, rfl, ?_⟩; have n0_ := Aside0.mk (below_step (by repeat (first | (with_reducible first | exact HB.out | apply below_alloc | apply pw_below_drewN | apply below_drew1) | exact HB.out)) hb); clear HB; have HB := n0_; clear n0_; (try clear hb); (try clear hb2); (try clear hk); (try clear hi)) | ((with_reducible refine gate_callee (f := 26) rfl ?_); refine goesL_ (some 145) rfl rfl Try.func26 (by kernel_rfl) rfl #[.slice A0 l0.length c0, .int .i64 a1, .bool a5] rfl (by (try simp only [List.map_toArray, List.map_cons, List.map_nil]); first | done | rfl | (simp only [List.length_drop, List.length_take]; rfl)) ?_; (with_reducible refine (parryref1_Part.calls kj85 _ _ l0 a1 a5 t372 _ ?side1 ?side2 A97.out).mono ?_); (case side1 => repeat (first | exact (Kd.C_below HR0.out HB.out) | (with_reducible refine Kd.C_alloc ?_ _) | (with_reducible refine Kd.C_drewN ?_ _) | (with_reducible refine Kd.C_drew ?_))); (case side2 => exact HC0.out); rintro e w113 ⟨rfl, hb⟩; refine ⟨_, rfl, ?_⟩; have n0_ := Aside0.mk (below_step (by repeat (first | (with_reducible first | exact HB.out | apply below_alloc | apply pw_below_drewN | apply below_drew1) | exact HB.out)) hb); clear HB; have HB := n0_; clear n0_; (try clear hb); (try clear hb2); (try clear hk); (try clear hi)))
                      go_ret
                      exact ⟨by first | rfl | (simp [errW_none, errW_some] <;> rfl) | (simp [*, errW_none, errW_some] <;> rfl), by repeat (first | (with_reducible first | exact HB.out | apply below_alloc | apply pw_below_drewN | apply below_drew1) | exact HB.out)⟩

end Go.Proofs.Ytofmfnbiondplaa.P

