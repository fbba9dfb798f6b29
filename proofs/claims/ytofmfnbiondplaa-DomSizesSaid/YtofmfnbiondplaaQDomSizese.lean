/- A part of the claim DomSizes. -/
import Derived.Test.YtofmfnbiondplaaQDomSizesa
import Derived.Test.YtofmfnbiondplaaQDomSizesb
import Derived.Test.YtofmfnbiondplaaQDomSizesc
import Derived.Test.YtofmfnbiondplaaQDomSizesd
namespace Go.Proofs.Ytofmfnbiondplaa.P
open Go.RowKit Go.Proofs.YtofmfnbiondplaaW.PrintWords Go.Proofs.YtofmfnbiondplaaW.PrintLast Go.Proofs.YtofmfnbiondplaaW.PrintMore
attribute [local go_sem] max2_int min2_int max_two min_two max_three min_three max_four min_four   -- for this text's walks alone
set_option linter.unusedVariables false
set_option linter.unusedSimpArgs false

open Go.Proofs.Ytofmfnbiondplaa.X
mutual
def parryref1_MayVars.l0 : Nat → List (S28) → List (S28) → Int → Int → Option (Int)
  | 0, _, _, _, _ => none
  | k + 1, x0, x7, x8, x9 => if x9 < x8 then (if 0 ≤ x9 then (if x9 < (x7.length : Int) then ((parryref1_Name.f ((rd_T28 x7 x9).f0)).bind fun t255 => (if t255 = true then (if x9 < 6 then (if x9 ≤ (x0.length : Int) then ((parryref1_Find.f k (x0.take (x9 : Int).toNat) ((rd_T28 x7 x9).f0)).bind fun t260 => (parryref1_MayVars.j1 k x0 x9 x7 x8 x9 (decide (t260 ≥ 0)) ((rd_T28 x7 x9).f0) ((rd_T28 x7 x9).f1) ((rd_T28 x7 x9).f2) ((rd_T28 x7 x9).f3) ((rd_T28 x7 x9).f4))) else (none)) else (parryref1_MayVars.j1 k x0 x9 x7 x8 x9 false ((rd_T28 x7 x9).f0) ((rd_T28 x7 x9).f1) ((rd_T28 x7 x9).f2) ((rd_T28 x7 x9).f3) ((rd_T28 x7 x9).f4))) else (parryref1_MayVars.j1 k x0 x9 x7 x8 x9 true ((rd_T28 x7 x9).f0) ((rd_T28 x7 x9).f1) ((rd_T28 x7 x9).f2) ((rd_T28 x7 x9).f3) ((rd_T28 x7 x9).f4)))) else (none)) else (none)) else (if (x0.length : Int) > 6 then (some 7) else ((parryref1_product.f k x0).bind fun t252 => (if t252 > 512 then (some 7) else (some 0))))
def parryref1_MayVars.j1 : Nat → List (S28) → Int → List (S28) → Int → Int → Bool → ByteArray → Bool → Int → Int → Int → Option (Int)
  | 0, _, _, _, _, _, _, _, _, _, _, _ => none
  | k + 1, x0, x3, x7, x8, x9, x30, x255000, x255001, x255002, x255003, x255004 => if x30 = true then (some 3) else (if x3 ≥ 6 then (if 0 ≤ x3 then (if x3 ≤ (x0.length : Int) then ((some (x0.take (x3 : Int).toNat : List (S28))).bind fun y261 => (parryref1_MayVars.l1 k x0 x7 x8 x9 y261 (y261.length : Int) 0 x255000 x255001 x255002 x255003 x255004)) else (none)) else (none)) else (parryref1_MayVars.j3 k x0 x7 x8 x9 x255000 x255001 x255002 x255003 x255004))
def parryref1_MayVars.j3 : Nat → List (S28) → List (S28) → Int → Int → ByteArray → Bool → Int → Int → Int → Option (Int)
  | 0, _, _, _, _, _, _, _, _, _ => none
  | k + 1, x0, x7, x8, x9, x255000, x255001, x255002, x255003, x255004 => if x255002 = 1 then (parryref1_MayVars.j4 k x0 x7 x8 x9 false x255000 x255001 x255002 x255003 x255004) else (parryref1_MayVars.j4 k x0 x7 x8 x9 (x255002 != 2) x255000 x255001 x255002 x255003 x255004)
def parryref1_MayVars.j4 : Nat → List (S28) → List (S28) → Int → Int → Bool → ByteArray → Bool → Int → Int → Int → Option (Int)
  | 0, _, _, _, _, _, _, _, _, _, _ => none
  | k + 1, x0, x7, x8, x9, x47, x255000, x255001, x255002, x255003, x255004 => if x47 = true then (some 4) else (if x255002 = 1 then (if x255003 = 0 then (parryref1_MayVars.j5 k x0 x7 x8 x9 (x255004 != 0) x255000 x255001 x255002 x255003 x255004) else (parryref1_MayVars.j5 k x0 x7 x8 x9 true x255000 x255001 x255002 x255003 x255004)) else (parryref1_MayVars.j5 k x0 x7 x8 x9 false x255000 x255001 x255002 x255003 x255004))
def parryref1_MayVars.j5 : Nat → List (S28) → List (S28) → Int → Int → Bool → ByteArray → Bool → Int → Int → Int → Option (Int)
  | 0, _, _, _, _, _, _, _, _, _, _ => none
  | k + 1, x0, x7, x8, x9, x56, x255000, x255001, x255002, x255003, x255004 => if x56 = true then (some 6) else ((parryref1_Size.f x255000 x255001 x255002 x255003 x255004).bind fun t267 => (if t267 = 0 then (some 6) else (parryref1_MayVars.l0 k x0 x7 x8 (wrap64 (x9 + 1)))))
def parryref1_MayVars.l1 : Nat → List (S28) → List (S28) → Int → Int → List (S28) → Int → Int → ByteArray → Bool → Int → Int → Int → Option (Int)
  | 0, _, _, _, _, _, _, _, _, _, _, _, _ => none
  | k + 1, x0, x7, x8, x9, x35, x36, x37, x255000, x255001, x255002, x255003, x255004 => if x37 < x36 then (if 0 ≤ x37 then (if x37 < (x35.length : Int) then (if ((rd_T28 x35 x37).f0).toList = x255000.toList then (some 3) else (parryref1_MayVars.l1 k x0 x7 x8 x9 x35 x36 (wrap64 (x37 + 1)) x255000 x255001 x255002 x255003 x255004)) else (none)) else (none)) else (parryref1_MayVars.j3 k x0 x7 x8 x9 x255000 x255001 x255002 x255003 x255004)
end
def parryref1_MayVars.f (k : Nat) (l0 : List (S28)) : Option (Int) := parryref1_MayVars.l0 k l0 l0 (l0.length : Int) 0
theorem parryref1_MayVars.mono_l : ∀ k, (∀ y0 y1 y2 y3, LeO (parryref1_MayVars.l0 k y0 y1 y2 y3) (parryref1_MayVars.l0 (k + 1) y0 y1 y2 y3)) ∧ (∀ y0 y1 y2 y3 y4 y5 y6 y7 y8 y9 y10, LeO (parryref1_MayVars.j1 k y0 y1 y2 y3 y4 y5 y6 y7 y8 y9 y10) (parryref1_MayVars.j1 (k + 1) y0 y1 y2 y3 y4 y5 y6 y7 y8 y9 y10)) ∧ (∀ y0 y1 y2 y3 y4 y5 y6 y7 y8, LeO (parryref1_MayVars.j3 k y0 y1 y2 y3 y4 y5 y6 y7 y8) (parryref1_MayVars.j3 (k + 1) y0 y1 y2 y3 y4 y5 y6 y7 y8)) ∧ (∀ y0 y1 y2 y3 y4 y5 y6 y7 y8 y9, LeO (parryref1_MayVars.j4 k y0 y1 y2 y3 y4 y5 y6 y7 y8 y9) (parryref1_MayVars.j4 (k + 1) y0 y1 y2 y3 y4 y5 y6 y7 y8 y9)) ∧ (∀ y0 y1 y2 y3 y4 y5 y6 y7 y8 y9, LeO (parryref1_MayVars.j5 k y0 y1 y2 y3 y4 y5 y6 y7 y8 y9) (parryref1_MayVars.j5 (k + 1) y0 y1 y2 y3 y4 y5 y6 y7 y8 y9)) ∧ (∀ y0 y1 y2 y3 y4 y5 y6 y7 y8 y9 y10 y11, LeO (parryref1_MayVars.l1 k y0 y1 y2 y3 y4 y5 y6 y7 y8 y9 y10 y11) (parryref1_MayVars.l1 (k + 1) y0 y1 y2 y3 y4 y5 y6 y7 y8 y9 y10 y11))
  | 0 => ⟨fun _ _ _ _ r h => by simp [parryref1_MayVars.l0] at h, fun _ _ _ _ _ _ _ _ _ _ _ r h => by simp [parryref1_MayVars.j1] at h, fun _ _ _ _ _ _ _ _ _ r h => by simp [parryref1_MayVars.j3] at h, fun _ _ _ _ _ _ _ _ _ _ r h => by simp [parryref1_MayVars.j4] at h, fun _ _ _ _ _ _ _ _ _ _ r h => by simp [parryref1_MayVars.j5] at h, fun _ _ _ _ _ _ _ _ _ _ _ _ r h => by simp [parryref1_MayVars.l1] at h⟩
  | k + 1 => by
    obtain ⟨ih0, ih1, ih2, ih3, ih4, ih5⟩ := parryref1_MayVars.mono_l k
    refine ⟨?_, ?_, ?_, ?_, ?_, ?_⟩
    · intro y0 y1 y2 y3
      unfold parryref1_MayVars.l0
      repeat' first
      | (with_reducible exact ih0 _ _ _ _)
      | (with_reducible exact ih1 _ _ _ _ _ _ _ _ _ _ _)
      | (with_reducible exact ih2 _ _ _ _ _ _ _ _ _)
      | (with_reducible exact ih3 _ _ _ _ _ _ _ _ _ _)
      | (with_reducible exact ih4 _ _ _ _ _ _ _ _ _ _)
      | (with_reducible exact ih5 _ _ _ _ _ _ _ _ _ _ _ _)
      | (with_reducible exact parryref1_Find.mono _ _ _)
      | (with_reducible exact parryref1_product.mono _ _)
      | (with_reducible exact LeO.refl _)
      | (with_reducible exact LeO.none _)
      | (with_reducible refine LeO.ite ?_ ?_)
      | (with_reducible refine LeO.bind ?_ (fun _ => ?_))
      | exact ih0 _ _ _ _
      | exact ih1 _ _ _ _ _ _ _ _ _ _ _
      | exact ih2 _ _ _ _ _ _ _ _ _
      | exact ih3 _ _ _ _ _ _ _ _ _ _
      | exact ih4 _ _ _ _ _ _ _ _ _ _
      | exact ih5 _ _ _ _ _ _ _ _ _ _ _ _
      | exact parryref1_Find.mono _ _ _
      | exact parryref1_product.mono _ _
      | exact LeO.none _
      | refine LeO.ite ?_ ?_
      | refine LeO.bind ?_ (fun _ => ?_)
    · intro y0 y1 y2 y3 y4 y5 y6 y7 y8 y9 y10
      unfold parryref1_MayVars.j1
      repeat' first
      | (with_reducible exact ih0 _ _ _ _)
      | (with_reducible exact ih1 _ _ _ _ _ _ _ _ _ _ _)
      | (with_reducible exact ih2 _ _ _ _ _ _ _ _ _)
      | (with_reducible exact ih3 _ _ _ _ _ _ _ _ _ _)
      | (with_reducible exact ih4 _ _ _ _ _ _ _ _ _ _)
      | (with_reducible exact ih5 _ _ _ _ _ _ _ _ _ _ _ _)
      | (with_reducible exact parryref1_Find.mono _ _ _)
      | (with_reducible exact parryref1_product.mono _ _)
      | (with_reducible exact LeO.refl _)
      | (with_reducible exact LeO.none _)
      | (with_reducible refine LeO.ite ?_ ?_)
      | (with_reducible refine LeO.bind ?_ (fun _ => ?_))
      | exact ih0 _ _ _ _
      | exact ih1 _ _ _ _ _ _ _ _ _ _ _
      | exact ih2 _ _ _ _ _ _ _ _ _
      | exact ih3 _ _ _ _ _ _ _ _ _ _
      | exact ih4 _ _ _ _ _ _ _ _ _ _
      | exact ih5 _ _ _ _ _ _ _ _ _ _ _ _
      | exact parryref1_Find.mono _ _ _
      | exact parryref1_product.mono _ _
      | exact LeO.none _
      | refine LeO.ite ?_ ?_
      | refine LeO.bind ?_ (fun _ => ?_)
    · intro y0 y1 y2 y3 y4 y5 y6 y7 y8
      unfold parryref1_MayVars.j3
      repeat' first
      | (with_reducible exact ih0 _ _ _ _)
      | (with_reducible exact ih1 _ _ _ _ _ _ _ _ _ _ _)
      | (with_reducible exact ih2 _ _ _ _ _ _ _ _ _)
      | (with_reducible exact ih3 _ _ _ _ _ _ _ _ _ _)
      | (with_reducible exact ih4 _ _ _ _ _ _ _ _ _ _)
      | (with_reducible exact ih5 _ _ _ _ _ _ _ _ _ _ _ _)
      | (with_reducible exact parryref1_Find.mono _ _ _)
      | (with_reducible exact parryref1_product.mono _ _)
      | (with_reducible exact LeO.refl _)
      | (with_reducible exact LeO.none _)
      | (with_reducible refine LeO.ite ?_ ?_)
      | (with_reducible refine LeO.bind ?_ (fun _ => ?_))
      | exact ih0 _ _ _ _
      | exact ih1 _ _ _ _ _ _ _ _ _ _ _
      | exact ih2 _ _ _ _ _ _ _ _ _
      | exact ih3 _ _ _ _ _ _ _ _ _ _
      | exact ih4 _ _ _ _ _ _ _ _ _ _
      | exact ih5 _ _ _ _ _ _ _ _ _ _ _ _
      | exact parryref1_Find.mono _ _ _
      | exact parryref1_product.mono _ _
      | exact LeO.none _
      | refine LeO.ite ?_ ?_
      | refine LeO.bind ?_ (fun _ => ?_)
    · intro y0 y1 y2 y3 y4 y5 y6 y7 y8 y9
      unfold parryref1_MayVars.j4
      repeat' first
      | (with_reducible exact ih0 _ _ _ _)
      | (with_reducible exact ih1 _ _ _ _ _ _ _ _ _ _ _)
      | (with_reducible exact ih2 _ _ _ _ _ _ _ _ _)
      | (with_reducible exact ih3 _ _ _ _ _ _ _ _ _ _)
      | (with_reducible exact ih4 _ _ _ _ _ _ _ _ _ _)
      | (with_reducible exact ih5 _ _ _ _ _ _ _ _ _ _ _ _)
      | (with_reducible exact parryref1_Find.mono _ _ _)
      | (with_reducible exact parryref1_product.mono _ _)
      | (with_reducible exact LeO.refl _)
      | (with_reducible exact LeO.none _)
      | (with_reducible refine LeO.ite ?_ ?_)
      | (with_reducible refine LeO.bind ?_ (fun _ => ?_))
      | exact ih0 _ _ _ _
      | exact ih1 _ _ _ _ _ _ _ _ _ _ _
      | exact ih2 _ _ _ _ _ _ _ _ _
      | exact ih3 _ _ _ _ _ _ _ _ _ _
      | exact ih4 _ _ _ _ _ _ _ _ _ _
      | exact ih5 _ _ _ _ _ _ _ _ _ _ _ _
      | exact parryref1_Find.mono _ _ _
      | exact parryref1_product.mono _ _
      | exact LeO.none _
      | refine LeO.ite ?_ ?_
      | refine LeO.bind ?_ (fun _ => ?_)
    · intro y0 y1 y2 y3 y4 y5 y6 y7 y8 y9
      unfold parryref1_MayVars.j5
      repeat' first
      | (with_reducible exact ih0 _ _ _ _)
      | (with_reducible exact ih1 _ _ _ _ _ _ _ _ _ _ _)
      | (with_reducible exact ih2 _ _ _ _ _ _ _ _ _)
      | (with_reducible exact ih3 _ _ _ _ _ _ _ _ _ _)
      | (with_reducible exact ih4 _ _ _ _ _ _ _ _ _ _)
      | (with_reducible exact ih5 _ _ _ _ _ _ _ _ _ _ _ _)
      | (with_reducible exact parryref1_Find.mono _ _ _)
      | (with_reducible exact parryref1_product.mono _ _)
      | (with_reducible exact LeO.refl _)
      | (with_reducible exact LeO.none _)
      | (with_reducible refine LeO.ite ?_ ?_)
      | (with_reducible refine LeO.bind ?_ (fun _ => ?_))
      | exact ih0 _ _ _ _
      | exact ih1 _ _ _ _ _ _ _ _ _ _ _
      | exact ih2 _ _ _ _ _ _ _ _ _
      | exact ih3 _ _ _ _ _ _ _ _ _ _
      | exact ih4 _ _ _ _ _ _ _ _ _ _
      | exact ih5 _ _ _ _ _ _ _ _ _ _ _ _
      | exact parryref1_Find.mono _ _ _
      | exact parryref1_product.mono _ _
      | exact LeO.none _
      | refine LeO.ite ?_ ?_
      | refine LeO.bind ?_ (fun _ => ?_)
    · intro y0 y1 y2 y3 y4 y5 y6 y7 y8 y9 y10 y11
      unfold parryref1_MayVars.l1
      repeat' first
      | (with_reducible exact ih0 _ _ _ _)
      | (with_reducible exact ih1 _ _ _ _ _ _ _ _ _ _ _)
      | (with_reducible exact ih2 _ _ _ _ _ _ _ _ _)
      | (with_reducible exact ih3 _ _ _ _ _ _ _ _ _ _)
      | (with_reducible exact ih4 _ _ _ _ _ _ _ _ _ _)
      | (with_reducible exact ih5 _ _ _ _ _ _ _ _ _ _ _ _)
      | (with_reducible exact parryref1_Find.mono _ _ _)
      | (with_reducible exact parryref1_product.mono _ _)
      | (with_reducible exact LeO.refl _)
      | (with_reducible exact LeO.none _)
      | (with_reducible refine LeO.ite ?_ ?_)
      | (with_reducible refine LeO.bind ?_ (fun _ => ?_))
      | exact ih0 _ _ _ _
      | exact ih1 _ _ _ _ _ _ _ _ _ _ _
      | exact ih2 _ _ _ _ _ _ _ _ _
      | exact ih3 _ _ _ _ _ _ _ _ _ _
      | exact ih4 _ _ _ _ _ _ _ _ _ _
      | exact ih5 _ _ _ _ _ _ _ _ _ _ _ _
      | exact parryref1_Find.mono _ _ _
      | exact parryref1_product.mono _ _
      | exact LeO.none _
      | refine LeO.ite ?_ ?_
      | refine LeO.bind ?_ (fun _ => ?_)
theorem parryref1_MayVars.mono : ∀ a0 k, LeO (parryref1_MayVars.f k a0) (parryref1_MayVars.f (k + 1) a0) := by
  intro a0 k
  obtain ⟨ih0, ih1, ih2, ih3, ih4, ih5⟩ := parryref1_MayVars.mono_l k
  unfold parryref1_MayVars.f
  repeat' first
      | (with_reducible exact ih0 _ _ _ _)
      | (with_reducible exact ih1 _ _ _ _ _ _ _ _ _ _ _)
      | (with_reducible exact ih2 _ _ _ _ _ _ _ _ _)
      | (with_reducible exact ih3 _ _ _ _ _ _ _ _ _ _)
      | (with_reducible exact ih4 _ _ _ _ _ _ _ _ _ _)
      | (with_reducible exact ih5 _ _ _ _ _ _ _ _ _ _ _ _)
      | (with_reducible exact parryref1_Find.mono _ _ _)
      | (with_reducible exact parryref1_product.mono _ _)
      | (with_reducible exact LeO.refl _)
      | (with_reducible exact LeO.none _)
      | (with_reducible refine LeO.ite ?_ ?_)
      | (with_reducible refine LeO.bind ?_ (fun _ => ?_))
      | exact ih0 _ _ _ _
      | exact ih1 _ _ _ _ _ _ _ _ _ _ _
      | exact ih2 _ _ _ _ _ _ _ _ _
      | exact ih3 _ _ _ _ _ _ _ _ _ _
      | exact ih4 _ _ _ _ _ _ _ _ _ _
      | exact ih5 _ _ _ _ _ _ _ _ _ _ _ _
      | exact parryref1_Find.mono _ _ _
      | exact parryref1_product.mono _ _
      | exact LeO.none _
      | refine LeO.ite ?_ ?_
      | refine LeO.bind ?_ (fun _ => ?_)
def parryref1_MayVars.T4 : Bool × List (List Nat × List Nat) := (true, [([], []), ([0], [0]), ([1], [1]), ([2], [2]), ([3, 2], [3]), ([4], [4]), ([5, 4], [4, 5]), ([6, 4, 4], [4, 6]), ([7], [7]), ([7], [7]), ([8, 9, 7], [7, 8, 9]), ([7], [7]), ([11, 7], [7, 11]), ([10, 12, 7, 7], [7, 10, 12]), ([13, 7], [7, 13]), ([7, 14, 4], [4, 7, 14]), ([4, 15], [4, 15])])
def parryref1_MayVars.B4 : List Nat := [0, 1, 3, 7, 15, 31, 63, 127, 255, 255, 1023, 255, 2303, 8191, 16383, 32767, 65535]
theorem parryref1_MayVars.tab4 : rtab .any (opsOf Try.f17 4) = parryref1_MayVars.T4 := by kernel_rfl
theorem parryref1_MayVars.bits4 : waitsOk parryref1_MayVars.T4.2 parryref1_MayVars.B4 = true := by kernel_rfl
set_option maxHeartbeats 8000000 in
set_option maxRecDepth 100000 in
theorem parryref1_MayVars.calls (k : Nat) (A0 : Option Addr) (c0 : Nat) (l0 : List (S28)) (r : Int) (w : World) (hr0 : Kd.C k28 w A0 l0.length l0) (hc0 : l0.length ≤ c0) (h : parryref1_MayVars.f k l0 = some r) :
    Calls Try.prog 17 #[.slice A0 l0.length c0] w fun e w' => e = .returned (.int .i64 r) ∧ Below w.heap.size w w' := by
  have hu28 := Try.underlying28
  have HR0 := Aside0.mk hr0
  have HC0 := Aside0.mk hc0
  clear hr0 hc0
  have HB := Aside0.mk (Below.refl w.heap.size w)
  have H : (parryref1_MayVars.l0 k l0 l0 (l0.length : Int) 0) = some r := h
  clear h
  have H' := Aside0.mk H
  clear H
  go_enter Try.func17, Try.ntmps17
  go_wp2
  go_loopg [9] k (fun kq v9 w' => ∃ (x9_1 : Int), v9 = .int .i64 x9_1 ∧ Aside0 (parryref1_MayVars.l0 kq l0 l0 (l0.length : Int) x9_1 = some r) ∧ Aside0 (kq ≤ k) ∧ Aside0 (Below w.heap.size w w'))
  case atStart => exact ⟨(0), (by first | rfl | (simp; done) | (simp [*]; done)), H', ⟨Nat.le_refl _⟩, ⟨by repeat (first | (with_reducible first | exact HB.out | apply below_alloc | apply pw_below_drewN | apply below_drew1) | exact HB.out)⟩⟩
  case round =>
    clear H'
    try clear c1
    obtain ⟨x9_1, rfl, HA, HK1, HB⟩ := hrel
    cases gk with
    | zero => exact absurd HA.out (by simp [parryref1_MayVars.l0])
    | succ k1 =>
      have H := HA.out
      clear HA
      simp only [parryref1_MayVars.l0] at H
      by_cases c2 : x9_1 < (l0.length : Int)
      · rw [if_pos c2] at H
        have c2b0 : decide (x9_1 < (l0.length : Int)) = true := decide_eq_true c2
        clear c2
        by_cases c3 : 0 ≤ x9_1
        · rw [if_pos c3] at H
          have c3b0 : decide (0 ≤ x9_1) = true := decide_eq_true c3
          clear c3
          by_cases c4 : x9_1 < (l0.length : Int)
          · rw [if_pos c4] at H
            have c4b0 : decide (x9_1 < (l0.length : Int)) = true := decide_eq_true c4
            clear c4
            have HC5 := Aside0.mk H
            clear H
            have p253 : 0 ≤ (x9_1 : Int) := of_decide_eq_true (by first | (with_reducible assumption) | assumption)
            have q253 : x9_1 < (l0.length : Int) := of_decide_eq_true (by first | (with_reducible assumption) | assumption)
            obtain ⟨ad253, e253, hx253_0, hx253_1, hx253_2, hx253_3, hx253_4⟩ := at_T28 HR0.out x9_1 p253 q253
            cases e253
            replace hx253_0 := (HB.out.cell (World.block_lt_of_cell? w _ hx253_0)).trans hx253_0
            replace hx253_1 := (HB.out.cell (World.block_lt_of_cell? w _ hx253_1)).trans hx253_1
            replace hx253_2 := (HB.out.cell (World.block_lt_of_cell? w _ hx253_2)).trans hx253_2
            replace hx253_3 := (HB.out.cell (World.block_lt_of_cell? w _ hx253_3)).trans hx253_3
            replace hx253_4 := (HB.out.cell (World.block_lt_of_cell? w _ hx253_4)).trans hx253_4
            replace p253 := eq_true p253
            replace q253 := eq_true q253
            go_upto_region 4 with (first | ((with_reducible refine gate_dst (N := 4) rfl ?_); refine box_event ?hg (N := 4) ?hd (cs := #[.string (⟨#[]⟩ : ByteArray), .bool false, .int .i64 0, .int .i64 0, .int .i64 0]) (t := 28) ?hr ?_; (case hd => rfl); (case hg => rfl); (case hr => first | (go_simp; done) | (go_simp; rfl)); intro gb254 hg w6 hbox hb; have n0_ := Aside0.mk (below_step (by repeat (first | (with_reducible first | exact HB.out | apply below_alloc | apply pw_below_drewN | apply below_drew1) | exact HB.out)) hb); have n1_ := Aside0.mk (hbox); have n2_ := Aside0.mk ((by rw [hg]; exact (below_size (by repeat (first | (with_reducible first | exact HB.out | apply below_alloc | apply pw_below_drewN | apply below_drew1) | exact HB.out))) : w.heap.size ≤ gb254)); have n3_ := Aside0.mk ((by rw [hg]; exact (below_size (by repeat (first | (with_reducible first | exact HB.out | apply below_alloc | apply pw_below_drewN | apply below_drew1) | exact HB.out))) : w.heap.size ≤ gb254)); clear HB; have HB := n0_; have BK254 := n1_; have GW254 := n2_; have GE254 := n3_; clear n0_ n1_ n2_ n3_; clear hb hbox hg; have hcz7_0 : w6.cell? ⟨gb254, 0, none⟩ = some (.string (⟨#[]⟩ : ByteArray)) := (blk_cell BK254.out 0).trans rfl; have hcz7_1 : w6.cell? ⟨gb254, 1, none⟩ = some (.bool false) := (blk_cell BK254.out 1).trans rfl; have hcz7_2 : w6.cell? ⟨gb254, 2, none⟩ = some (.int .i64 0) := (blk_cell BK254.out 2).trans rfl; have hcz7_3 : w6.cell? ⟨gb254, 3, none⟩ = some (.int .i64 0) := (blk_cell BK254.out 3).trans rfl; have hcz7_4 : w6.cell? ⟨gb254, 4, none⟩ = some (.int .i64 0) := (blk_cell BK254.out 4).trans rfl; have hfz7_0 := blk_frozen BK254.out 0; have hfz7_1 := blk_frozen BK254.out 1; have hfz7_2 := blk_frozen BK254.out 2; have hfz7_3 := blk_frozen BK254.out 3; have hfz7_4 := blk_frozen BK254.out 4))
            (try simp only [Act.put, List.setIfInBounds_toArray, List.set_cons_zero, List.set_cons_succ])
            go_cut [30] (fun v30 wc => ∃ (kq : Nat) (x30_4 : Bool), v30 = .bool x30_4 ∧ Aside0 (parryref1_MayVars.j1 kq l0 x9_1 l0 (l0.length : Int) x9_1 x30_4 ((rd_T28 l0 x9_1).f0) ((rd_T28 l0 x9_1).f1) ((rd_T28 l0 x9_1).f2) ((rd_T28 l0 x9_1).f3) ((rd_T28 l0 x9_1).f4) = some r) ∧ Aside0 (kq ≤ k1) ∧ Aside0 (wc.heap[gb254]? = some (.cells #[.string ((rd_T28 l0 x9_1).f0), .bool ((rd_T28 l0 x9_1).f1), .int .i64 ((rd_T28 l0 x9_1).f2), .int .i64 ((rd_T28 l0 x9_1).f3), .int .i64 ((rd_T28 l0 x9_1).f4)] 28 (0, 0))) ∧ Aside0 (Below w.heap.size w wc))
            case first =>
              have H := HC5.out
              clear HC5
              replace H := Option.bind_eq_some_iff.mp H
              obtain ⟨t255, A80, H⟩ := H
              replace H : (if t255 = true then (if x9_1 < 6 then (if x9_1 ≤ (l0.length : Int) then ((parryref1_Find.f k1 (l0.take (x9_1 : Int).toNat) ((rd_T28 l0 x9_1).f0)).bind fun t260 => (parryref1_MayVars.j1 k1 l0 x9_1 l0 (l0.length : Int) x9_1 (decide (t260 ≥ 0)) ((rd_T28 l0 x9_1).f0) ((rd_T28 l0 x9_1).f1) ((rd_T28 l0 x9_1).f2) ((rd_T28 l0 x9_1).f3) ((rd_T28 l0 x9_1).f4))) else (none)) else (parryref1_MayVars.j1 k1 l0 x9_1 l0 (l0.length : Int) x9_1 false ((rd_T28 l0 x9_1).f0) ((rd_T28 l0 x9_1).f1) ((rd_T28 l0 x9_1).f2) ((rd_T28 l0 x9_1).f3) ((rd_T28 l0 x9_1).f4))) else (parryref1_MayVars.j1 k1 l0 x9_1 l0 (l0.length : Int) x9_1 true ((rd_T28 l0 x9_1).f0) ((rd_T28 l0 x9_1).f1) ((rd_T28 l0 x9_1).f2) ((rd_T28 l0 x9_1).f3) ((rd_T28 l0 x9_1).f4))) = some r := H
              have A8 := Aside0.mk A80
              clear A80
              by_cases c9 : t255 = true
              · subst c9
                have H1 : (if x9_1 < 6 then (if x9_1 ≤ (l0.length : Int) then ((parryref1_Find.f k1 (l0.take (x9_1 : Int).toNat) ((rd_T28 l0 x9_1).f0)).bind fun t260 => (parryref1_MayVars.j1 k1 l0 x9_1 l0 (l0.length : Int) x9_1 (decide (t260 ≥ 0)) ((rd_T28 l0 x9_1).f0) ((rd_T28 l0 x9_1).f1) ((rd_T28 l0 x9_1).f2) ((rd_T28 l0 x9_1).f3) ((rd_T28 l0 x9_1).f4))) else (none)) else (parryref1_MayVars.j1 k1 l0 x9_1 l0 (l0.length : Int) x9_1 false ((rd_T28 l0 x9_1).f0) ((rd_T28 l0 x9_1).f1) ((rd_T28 l0 x9_1).f2) ((rd_T28 l0 x9_1).f3) ((rd_T28 l0 x9_1).f4))) = some r := by rw [if_pos rfl] at H; exact H
                clear H
                have H := H1
                clear H1
                by_cases c10 : x9_1 < 6
                · rw [if_pos c10] at H
                  have c10b0 : decide (x9_1 < 6) = true := decide_eq_true c10
                  clear c10
                  (first | rw [c10b0] | (simp only [i64_w, i32_w]; rw [c10b0]) | skip)
                  have c11b0 := eq_true (of_decide_eq_true (by first | (with_reducible assumption) | assumption) : 0 ≤ x9_1)
                  by_cases c12 : x9_1 ≤ (l0.length : Int)
                  · rw [if_pos c12] at H
                    have c12b0 := eq_true c12
                    have c12b1 : decide (x9_1 ≤ (l0.length : Int)) = true := decide_eq_true c12
                    clear c12
                    obtain ⟨y256, hy256⟩ : ∃ y_ : List (S28), y_ = (l0.take (x9_1 : Int).toNat) := ⟨_, rfl⟩
                    replace H : ((parryref1_Find.f k1 y256 ((rd_T28 l0 x9_1).f0)).bind fun t260 => (parryref1_MayVars.j1 k1 l0 x9_1 l0 (l0.length : Int) x9_1 (decide (t260 ≥ 0)) ((rd_T28 l0 x9_1).f0) ((rd_T28 l0 x9_1).f1) ((rd_T28 l0 x9_1).f2) ((rd_T28 l0 x9_1).f3) ((rd_T28 l0 x9_1).f4))) = some r := by first | (rw [hy256]; with_reducible exact H) | (have H2_ := (Option.bind_some _ _).symm.trans H; rw [hy256]; with_reducible exact H2_) | (have H2_ := (Option.bind_some _ _).symm.trans H; with_reducible exact H2_) | with_reducible exact H | (rw [hy256]; exact H) | exact H
                    have Ny256 := Aside0.mk hy256
                    clear hy256
                    replace H := Option.bind_eq_some_iff.mp H
                    obtain ⟨t260, A130, H⟩ := H
                    replace H : (parryref1_MayVars.j1 k1 l0 x9_1 l0 (l0.length : Int) x9_1 (decide (t260 ≥ 0)) ((rd_T28 l0 x9_1).f0) ((rd_T28 l0 x9_1).f1) ((rd_T28 l0 x9_1).f2) ((rd_T28 l0 x9_1).f3) ((rd_T28 l0 x9_1).f4)) = some r := H
                    have A13 := Aside0.mk A130
                    clear A130
                    have H' := Aside0.mk H
                    clear H
                    try go_wp2
                    have n0_ : Aside0 ((((((w6.setCell ⟨gb254, 0, none⟩ (.string ((rd_T28 l0 x9_1).f0))).setCell ⟨gb254, 1, none⟩ (.bool ((rd_T28 l0 x9_1).f1))).setCell ⟨gb254, 2, none⟩ (.int .i64 ((rd_T28 l0 x9_1).f2))).setCell ⟨gb254, 3, none⟩ (.int .i64 ((rd_T28 l0 x9_1).f3))).setCell ⟨gb254, 4, none⟩ (.int .i64 ((rd_T28 l0 x9_1).f4))).heap[gb254]? = some (.cells #[.string ((rd_T28 l0 x9_1).f0), .bool ((rd_T28 l0 x9_1).f1), .int .i64 ((rd_T28 l0 x9_1).f2), .int .i64 ((rd_T28 l0 x9_1).f3), .int .i64 ((rd_T28 l0 x9_1).f4)] 28 (0, 0))) := ⟨by (with_reducible repeat (first | refine blk_drewN ?_ _ | refine blk_drew ?_ | refine blk_alloc ?_ _)); refine blk_put (cs := #[.string ((rd_T28 l0 x9_1).f0), .bool ((rd_T28 l0 x9_1).f1), .int .i64 ((rd_T28 l0 x9_1).f2), .int .i64 ((rd_T28 l0 x9_1).f3), .int .i64 0]) ?_ 4 _ rfl; (with_reducible repeat (first | refine blk_drewN ?_ _ | refine blk_drew ?_ | refine blk_alloc ?_ _)); refine blk_put (cs := #[.string ((rd_T28 l0 x9_1).f0), .bool ((rd_T28 l0 x9_1).f1), .int .i64 ((rd_T28 l0 x9_1).f2), .int .i64 0, .int .i64 0]) ?_ 3 _ rfl; (with_reducible repeat (first | refine blk_drewN ?_ _ | refine blk_drew ?_ | refine blk_alloc ?_ _)); refine blk_put (cs := #[.string ((rd_T28 l0 x9_1).f0), .bool ((rd_T28 l0 x9_1).f1), .int .i64 0, .int .i64 0, .int .i64 0]) ?_ 2 _ rfl; (with_reducible repeat (first | refine blk_drewN ?_ _ | refine blk_drew ?_ | refine blk_alloc ?_ _)); refine blk_put (cs := #[.string ((rd_T28 l0 x9_1).f0), .bool false, .int .i64 0, .int .i64 0, .int .i64 0]) ?_ 1 _ rfl; (with_reducible repeat (first | refine blk_drewN ?_ _ | refine blk_drew ?_ | refine blk_alloc ?_ _)); refine blk_put (cs := #[.string (⟨#[]⟩ : ByteArray), .bool false, .int .i64 0, .int .i64 0, .int .i64 0]) ?_ 0 _ rfl; (with_reducible repeat (first | refine blk_drewN ?_ _ | refine blk_drew ?_ | refine blk_alloc ?_ _)); exact BK254.out⟩
                    have n1_ : Aside0 (Below w.heap.size w (((((w6.setCell ⟨gb254, 0, none⟩ (.string ((rd_T28 l0 x9_1).f0))).setCell ⟨gb254, 1, none⟩ (.bool ((rd_T28 l0 x9_1).f1))).setCell ⟨gb254, 2, none⟩ (.int .i64 ((rd_T28 l0 x9_1).f2))).setCell ⟨gb254, 3, none⟩ (.int .i64 ((rd_T28 l0 x9_1).f3))).setCell ⟨gb254, 4, none⟩ (.int .i64 ((rd_T28 l0 x9_1).f4)))) := ⟨by repeat (first | (with_reducible first | exact HB.out | apply below_alloc | apply pw_below_drewN | apply below_drew1 | refine below_set ?_ GE254.out) | exact HB.out)⟩
                    (try clear BK254)
                    (try clear HB)
                    generalize (((((w6.setCell ⟨gb254, 0, none⟩ (.string ((rd_T28 l0 x9_1).f0))).setCell ⟨gb254, 1, none⟩ (.bool ((rd_T28 l0 x9_1).f1))).setCell ⟨gb254, 2, none⟩ (.int .i64 ((rd_T28 l0 x9_1).f2))).setCell ⟨gb254, 3, none⟩ (.int .i64 ((rd_T28 l0 x9_1).f3))).setCell ⟨gb254, 4, none⟩ (.int .i64 ((rd_T28 l0 x9_1).f4))) = w14 at n0_ n1_ ⊢
                    have BK254 := n0_
                    have HB := n1_
                    clear n0_ n1_
                    have n0_ := Aside0.mk (blk_drew BK254.out)
                    have n1_ := Aside0.mk (below_drew1 HB.out)
                    clear BK254
                    clear HB
                    have BK254 := n0_
                    have HB := n1_
                    clear n0_ n1_
                    refine start_ (n := 17) (S := fun w' => w'.cell? ⟨gb254, 0, none⟩ = some (.string ((rd_T28 l0 x9_1).f0)) ∧ w'.cell? ⟨gb254, 1, none⟩ = some (.bool ((rd_T28 l0 x9_1).f1)) ∧ w'.cell? ⟨gb254, 2, none⟩ = some (.int .i64 ((rd_T28 l0 x9_1).f2)) ∧ w'.cell? ⟨gb254, 3, none⟩ = some (.int .i64 ((rd_T28 l0 x9_1).f3)) ∧ w'.cell? ⟨gb254, 4, none⟩ = some (.int .i64 ((rd_T28 l0 x9_1).f4))) (ds := []) #[false, false, false, false, false, false, false, false, false, false, false, false, false, false, false, false, false] (by kernel_rfl) rfl rfl ⟨(blk_cell BK254.out 0).trans rfl, (blk_cell BK254.out 1).trans rfl, (blk_cell BK254.out 2).trans rfl, (blk_cell BK254.out 3).trans rfl, (blk_cell BK254.out 4).trans rfl⟩ (fun hHeld => ?_); refine with_tabW parryref1_MayVars.tab4 parryref1_MayVars.bits4 (fun HT_ HW_ => ?_)
                    generalize w14.drew = w15 at BK254 HB hHeld ⊢
                    refine pure_ (i := 0) (N := some 14) (v := ?_) (a' := ?_) #[true, false, false, false, false, false, false, false, false, false, false, false, false, false, false, false, false] rfl rfl (any_of HT_.out (by kernel_rfl)) (fun _ _ _ h => h) (Or.inl ⟨by rfl, ?_⟩) ?_ ?_
                    rotate_left
                    · intro w'
                      go_simp
                      with_reducible rfl
                    rotate_left
                    · simp only [Act.put, List.setIfInBounds_toArray, List.set_cons_zero, List.set_cons_succ, i64_w, i32_w]
                      rfl
                    refine take_ (i := 1) (N := some 15) (v := ?_) (a' := ?_) #[true, true, false, false, false, false, false, false, false, false, false, false, false, false, false, false, false] rfl rfl (take_ofW HT_.out HW_.out (by kernel_rfl)) (fun _ _ _ h => h) (Or.inl ⟨by rfl, ?_⟩) hHeld ?_ ?_
                    rotate_left
                    · rintro w' ⟨s0, s1, s2, s3, s4⟩
                      go_simp
                      with_reducible rfl
                    rotate_left
                    · simp only [Act.put, List.setIfInBounds_toArray, List.set_cons_zero, List.set_cons_succ, i64_w, i32_w]
                      rfl
                    refine one_ (i := 2) (N := some 16) #[true, true, true, false, false, false, false, false, false, false, false, false, false, false, false, false, false] rfl rfl (one_of HT_.out (by kernel_rfl)) (by decide) (fun K hK => ?_)
                    refine goes_ Try.func34 (by kernel_rfl) rfl #[.string ((rd_T28 l0 x9_1).f0)] (by rfl) rfl rfl (by (try simp only [List.map_toArray, List.map_cons, List.map_nil]); first | done | rfl | (simp only [List.length_drop, List.length_take]; rfl)) ?_
                    with_reducible refine (parryref1_Name.calls ((rd_T28 l0 x9_1).f0) true _ A8.out).mono ?_
                    rintro e w16 ⟨rfl, hb⟩
                    refine ⟨_, rfl, ?_⟩
                    have n0_ := Aside0.mk (blk_below (g := gb254) (o := .cells #[.string ((rd_T28 l0 x9_1).f0), .bool ((rd_T28 l0 x9_1).f1), .int .i64 ((rd_T28 l0 x9_1).f2), .int .i64 ((rd_T28 l0 x9_1).f3), .int .i64 ((rd_T28 l0 x9_1).f4)] 28 (0, 0)) (by (with_reducible repeat (first | refine blk_drewN ?_ _ | refine blk_drew ?_ | refine blk_alloc ?_ _)); exact BK254.out) hb)
                    have n1_ := Aside0.mk (below_step (by repeat (first | (with_reducible first | exact HB.out | apply below_alloc | apply pw_below_drewN | apply below_drew1 | refine below_set ?_ GE254.out) | exact HB.out)) hb)
                    clear BK254
                    clear HB
                    have BK254 := n0_
                    have HB := n1_
                    clear n0_ n1_
                    (try clear hb)
                    (try clear hb2)
                    (try clear hk)
                    (try clear hi)
                    have q17 : (x9_1 : Int) ≤ ((l0.length : Int) : Int) := of_decide_eq_true (by first | (with_reducible assumption) | assumption)
                    obtain ⟨i017, hi017, _, hsz17, _⟩ := info_parts info28
                    have hroom17 : l0.length ≤ c0 := HC0.out
                    have hC17 : Kd.C k28 _ (some ad253) l0.length l0 := HR0.out
                    have hcut17 := cut_to (P := Try.prog) 22 28 .i64 Try.underlying22 hi017 (some ad253) l0.length c0 x9_1 (of_decide_eq_true (by first | (with_reducible assumption) | assumption)) q17 hroom17
                    have hr17 := Kd.C_take (m := (x9_1 : Int).toNat) hC17 (by omega)
                    have hy17 : y256.length = (x9_1 : Int).toNat := (by rw [Ny256.out, List.length_take]; omega)
                    rw [← Ny256.out] at hr17
                    rw [← hy17] at hcut17
                    have HR259 := Aside0.mk hr17
                    have HC259 := Aside0.mk (show y256.length ≤ c0 from by omega)
                    clear hr17 hC17 hroom17 hi017 hsz17
                    have KY17 := Aside0.mk hy17
                    clear hy17
                    replace q17 := eq_true q17
                    refine hK.out _ _ ⟨(blk_cell BK254.out 0).trans rfl, (blk_cell BK254.out 1).trans rfl, (blk_cell BK254.out 2).trans rfl, (blk_cell BK254.out 3).trans rfl, (blk_cell BK254.out 4).trans rfl⟩ (fun hHeld => ?_)
                    clear hK K
                    refine norm_ (a' := ?_) ?_ ?_
                    rotate_left
                    · show Act.put _ (some 16) _ = _
                      simp only [Act.put, List.setIfInBounds_toArray, List.set_cons_zero, List.set_cons_succ, i64_w, i32_w]
                      rfl
                    refine pure_ (i := 3) (N := some 17) (v := ?_) (a' := ?_) #[true, true, true, true, false, false, false, false, false, false, false, false, false, false, false, false, false] rfl rfl (any_of HT_.out (by kernel_rfl)) (fun _ _ _ h => h) (Or.inl ⟨by rfl, ?_⟩) ?_ ?_
                    rotate_left
                    · intro w'
                      go_simp
                      with_reducible rfl
                    rotate_left
                    · simp only [Act.put, List.setIfInBounds_toArray, List.set_cons_zero, List.set_cons_succ, i64_w, i32_w]
                      rfl
                    refine pure_ (i := 4) (N := some 18) (v := ?_) (a' := ?_) #[true, true, true, true, true, false, false, false, false, false, false, false, false, false, false, false, false] rfl rfl (any_of HT_.out (by kernel_rfl)) (fun _ _ _ h => h) (Or.inl ⟨by rfl, ?_⟩) ?_ ?_
                    rotate_left
                    · intro w'
                      go_simp
                      with_reducible rfl
                    rotate_left
                    · simp only [Act.put, List.setIfInBounds_toArray, List.set_cons_zero, List.set_cons_succ, i64_w, i32_w]
                      rfl
                    refine pure_ (i := 5) (N := some 19) (v := ?_) (a' := ?_) #[true, true, true, true, true, true, false, false, false, false, false, false, false, false, false, false, false] rfl rfl (any_of HT_.out (by kernel_rfl)) (fun _ _ _ h => h) (Or.inl ⟨by rfl, ?_⟩) ?_ ?_
                    rotate_left
                    · intro w'
                      go_simp
                      with_reducible rfl
                    rotate_left
                    · simp only [Act.put, List.setIfInBounds_toArray, List.set_cons_zero, List.set_cons_succ, i64_w, i32_w]
                      rfl
                    refine pure_ (i := 6) (N := some 20) (v := ?_) (a' := ?_) #[true, true, true, true, true, true, true, false, false, false, false, false, false, false, false, false, false] rfl rfl (any_of HT_.out (by kernel_rfl)) (fun _ _ _ h => h) (Or.inl ⟨by rfl, ?_⟩) ?_ ?_
                    rotate_left
                    · intro w'
                      go_simp
                      with_reducible rfl
                    rotate_left
                    · simp only [Act.put, List.setIfInBounds_toArray, List.set_cons_zero, List.set_cons_succ, i64_w, i32_w]
                      rfl
                    refine pure_ (i := 7) (N := some 21) (v := ?_) (a' := ?_) #[true, true, true, true, true, true, true, true, false, false, false, false, false, false, false, false, false] rfl rfl (any_of HT_.out (by kernel_rfl)) (fun _ _ _ h => h) (Or.inl ⟨by rfl, ?_⟩) ?_ ?_
                    rotate_left
                    · intro w'
                      go_simp
                      with_reducible rfl
                    rotate_left
                    · simp only [Act.put, List.setIfInBounds_toArray, List.set_cons_zero, List.set_cons_succ, i64_w, i32_w]
                      rfl
                    refine pure_ (i := 8) (N := some 22) (v := ?_) (a' := ?_) #[true, true, true, true, true, true, true, true, true, false, false, false, false, false, false, false, false] rfl rfl (any_of HT_.out (by kernel_rfl)) (fun _ _ _ h => h) (Or.inl ⟨by rfl, ?_⟩) ?_ ?_
                    rotate_left
                    · intro w'
                      go_simp
                      with_reducible rfl
                    rotate_left
                    · simp only [Act.put, List.setIfInBounds_toArray, List.set_cons_zero, List.set_cons_succ, i64_w, i32_w]
                      rfl
                    refine pure_ (i := 9) (N := some 23) (v := ?_) (a' := ?_) #[true, true, true, true, true, true, true, true, true, true, false, false, false, false, false, false, false] rfl rfl (any_of HT_.out (by kernel_rfl)) (fun _ _ _ h => h) (Or.inl ⟨by rfl, ?_⟩) ?_ ?_
                    rotate_left
                    · intro w'
                      go_simp
                      with_reducible rfl
                    rotate_left
                    · simp only [Act.put, List.setIfInBounds_toArray, List.set_cons_zero, List.set_cons_succ, i64_w, i32_w]
                      rfl
                    refine pure_ (i := 10) (N := some 24) (v := ?_) (a' := ?_) #[true, true, true, true, true, true, true, true, true, true, true, false, false, false, false, false, false] rfl rfl (any_of HT_.out (by kernel_rfl)) (fun _ _ _ h => h) (Or.inl ⟨by rfl, ?_⟩) ?_ ?_
                    rotate_left
                    · intro w'
                      go_simp
                      with_reducible rfl
                    rotate_left
                    · simp only [Act.put, List.setIfInBounds_toArray, List.set_cons_zero, List.set_cons_succ, i64_w, i32_w]
                      rfl
                    refine pure_ (i := 11) (N := some 25) (v := ?_) (a' := ?_) #[true, true, true, true, true, true, true, true, true, true, true, true, false, false, false, false, false] rfl rfl (any_of HT_.out (by kernel_rfl)) (fun _ _ _ h => h) (Or.inl ⟨by rfl, ?_⟩) ?_ ?_
                    rotate_left
                    · intro w'
                      go_simp
                      with_reducible rfl
                    rotate_left
                    · simp only [Act.put, List.setIfInBounds_toArray, List.set_cons_zero, List.set_cons_succ, i64_w, i32_w]
                      rfl
                    refine take_ (i := 12) (N := some 26) (v := ?_) (a' := ?_) #[true, true, true, true, true, true, true, true, true, true, true, true, true, false, false, false, false] rfl rfl (take_ofW HT_.out HW_.out (by kernel_rfl)) (fun _ _ _ h => h) (Or.inl ⟨by rfl, ?_⟩) hHeld ?_ ?_
                    rotate_left
                    · rintro w' ⟨s0, s1, s2, s3, s4⟩
                      go_simp
                      with_reducible rfl
                    rotate_left
                    · simp only [Act.put, List.setIfInBounds_toArray, List.set_cons_zero, List.set_cons_succ, i64_w, i32_w]
                      rfl
                    refine one_ (i := 13) (N := some 27) #[true, true, true, true, true, true, true, true, true, true, true, true, true, true, false, false, false] rfl rfl (one_of HT_.out (by kernel_rfl)) (by decide) (fun K hK => ?_)
                    refine goes_ Try.func27 (by kernel_rfl) rfl #[.slice (some ad253) y256.length c0, .string ((rd_T28 l0 x9_1).f0)] (by rfl) rfl rfl (by (try simp only [List.map_toArray, List.map_cons, List.map_nil]); first | done | rfl | (simp only [List.length_drop, List.length_take]; rfl)) ?_
                    with_reducible refine (parryref1_Find.calls k1 _ _ y256 ((rd_T28 l0 x9_1).f0) t260 _ ?side1 ?side2 A13.out).mono ?_
                    (case side1 => repeat (first | exact (Kd.C_below HR259.out HB.out) | (with_reducible refine Kd.C_alloc ?_ _) | (with_reducible refine Kd.C_drewN ?_ _) | (with_reducible refine Kd.C_drew ?_)))
                    (case side2 => exact HC259.out)
                    rintro e w18 ⟨rfl, hb⟩
                    refine ⟨_, rfl, ?_⟩
                    have n0_ := Aside0.mk (blk_below (g := gb254) (o := .cells #[.string ((rd_T28 l0 x9_1).f0), .bool ((rd_T28 l0 x9_1).f1), .int .i64 ((rd_T28 l0 x9_1).f2), .int .i64 ((rd_T28 l0 x9_1).f3), .int .i64 ((rd_T28 l0 x9_1).f4)] 28 (0, 0)) (by (with_reducible repeat (first | refine blk_drewN ?_ _ | refine blk_drew ?_ | refine blk_alloc ?_ _)); exact BK254.out) hb)
                    have n1_ := Aside0.mk (below_step (by repeat (first | (with_reducible first | exact HB.out | apply below_alloc | apply pw_below_drewN | apply below_drew1 | refine below_set ?_ GE254.out) | exact HB.out)) hb)
                    clear BK254
                    clear HB
                    have BK254 := n0_
                    have HB := n1_
                    clear n0_ n1_
                    (try clear hb)
                    (try clear hb2)
                    (try clear hk)
                    (try clear hi)
                    refine hK.out _ _ ⟨(blk_cell BK254.out 0).trans rfl, (blk_cell BK254.out 1).trans rfl, (blk_cell BK254.out 2).trans rfl, (blk_cell BK254.out 3).trans rfl, (blk_cell BK254.out 4).trans rfl⟩ (fun hHeld => ?_)
                    clear hK K
                    refine norm_ (a' := ?_) ?_ ?_
                    rotate_left
                    · show Act.put _ (some 27) _ = _
                      simp only [Act.put, List.setIfInBounds_toArray, List.set_cons_zero, List.set_cons_succ, i64_w, i32_w]
                      rfl
                    refine pure_ (i := 14) (N := some 28) (v := ?_) (a' := ?_) #[true, true, true, true, true, true, true, true, true, true, true, true, true, true, true, false, false] rfl rfl (any_of HT_.out (by kernel_rfl)) (fun _ _ _ h => h) (Or.inl ⟨by rfl, ?_⟩) ?_ ?_
                    rotate_left
                    · intro w'
                      go_simp
                      with_reducible rfl
                    rotate_left
                    · simp only [Act.put, List.setIfInBounds_toArray, List.set_cons_zero, List.set_cons_succ, i64_w, i32_w]
                      rfl
                    refine pure_ (i := 15) (N := some 29) (v := ?_) (a' := ?_) #[true, true, true, true, true, true, true, true, true, true, true, true, true, true, true, true, false] rfl rfl (any_of HT_.out (by kernel_rfl)) (fun _ _ _ h => h) (Or.inl ⟨by rfl, ?_⟩) ?_ ?_
                    rotate_left
                    · intro w'
                      go_simp
                      with_reducible rfl
                    rotate_left
                    · simp only [Act.put, List.setIfInBounds_toArray, List.set_cons_zero, List.set_cons_succ, i64_w, i32_w]
                      rfl
                    refine pure_ (i := 16) (N := some 30) (v := ?_) (a' := ?_) #[true, true, true, true, true, true, true, true, true, true, true, true, true, true, true, true, true] rfl rfl (any_of HT_.out (by kernel_rfl)) (fun _ _ _ h => h) (Or.inl ⟨by rfl, ?_⟩) ?_ ?_
                    rotate_left
                    · intro w'
                      go_simp
                      with_reducible rfl
                    rotate_left
                    · simp only [Act.put, List.setIfInBounds_toArray, List.set_cons_zero, List.set_cons_succ, i64_w, i32_w]
                      rfl
                    refine done_ (done_of HT_.out (by kernel_rfl)) ?_
                    try go_wp2
                    go_meet
                    case rel => exact ⟨_, (decide (t260 ≥ 0)), (by first | rfl | (simp; done) | (simp [*]; done)), H', ⟨by have := HK1.out; first | omega | exact Nat.le_refl _⟩, ⟨by (with_reducible repeat (first | refine blk_drewN ?_ _ | refine blk_drew ?_ | refine blk_alloc ?_ _)); exact BK254.out⟩, ⟨by repeat (first | (with_reducible first | exact HB.out | apply below_alloc | apply pw_below_drewN | apply below_drew1 | refine below_set ?_ GE254.out) | exact HB.out)⟩⟩
                  · rw [if_neg c12] at H
                    exact absurd H (by simp)
                · rw [if_neg c10] at H
                  have c10b0 : decide (x9_1 < 6) = false := decide_eq_false c10
                  clear c10
                  (first | rw [c10b0] | (simp only [i64_w, i32_w]; rw [c10b0]) | skip)
                  have H' := Aside0.mk H
                  clear H
                  try go_wp2
                  have n0_ : Aside0 ((((((w6.setCell ⟨gb254, 0, none⟩ (.string ((rd_T28 l0 x9_1).f0))).setCell ⟨gb254, 1, none⟩ (.bool ((rd_T28 l0 x9_1).f1))).setCell ⟨gb254, 2, none⟩ (.int .i64 ((rd_T28 l0 x9_1).f2))).setCell ⟨gb254, 3, none⟩ (.int .i64 ((rd_T28 l0 x9_1).f3))).setCell ⟨gb254, 4, none⟩ (.int .i64 ((rd_T28 l0 x9_1).f4))).heap[gb254]? = some (.cells #[.string ((rd_T28 l0 x9_1).f0), .bool ((rd_T28 l0 x9_1).f1), .int .i64 ((rd_T28 l0 x9_1).f2), .int .i64 ((rd_T28 l0 x9_1).f3), .int .i64 ((rd_T28 l0 x9_1).f4)] 28 (0, 0))) := ⟨by (with_reducible repeat (first | refine blk_drewN ?_ _ | refine blk_drew ?_ | refine blk_alloc ?_ _)); refine blk_put (cs := #[.string ((rd_T28 l0 x9_1).f0), .bool ((rd_T28 l0 x9_1).f1), .int .i64 ((rd_T28 l0 x9_1).f2), .int .i64 ((rd_T28 l0 x9_1).f3), .int .i64 0]) ?_ 4 _ rfl; (with_reducible repeat (first | refine blk_drewN ?_ _ | refine blk_drew ?_ | refine blk_alloc ?_ _)); refine blk_put (cs := #[.string ((rd_T28 l0 x9_1).f0), .bool ((rd_T28 l0 x9_1).f1), .int .i64 ((rd_T28 l0 x9_1).f2), .int .i64 0, .int .i64 0]) ?_ 3 _ rfl; (with_reducible repeat (first | refine blk_drewN ?_ _ | refine blk_drew ?_ | refine blk_alloc ?_ _)); refine blk_put (cs := #[.string ((rd_T28 l0 x9_1).f0), .bool ((rd_T28 l0 x9_1).f1), .int .i64 0, .int .i64 0, .int .i64 0]) ?_ 2 _ rfl; (with_reducible repeat (first | refine blk_drewN ?_ _ | refine blk_drew ?_ | refine blk_alloc ?_ _)); refine blk_put (cs := #[.string ((rd_T28 l0 x9_1).f0), .bool false, .int .i64 0, .int .i64 0, .int .i64 0]) ?_ 1 _ rfl; (with_reducible repeat (first | refine blk_drewN ?_ _ | refine blk_drew ?_ | refine blk_alloc ?_ _)); refine blk_put (cs := #[.string (⟨#[]⟩ : ByteArray), .bool false, .int .i64 0, .int .i64 0, .int .i64 0]) ?_ 0 _ rfl; (with_reducible repeat (first | refine blk_drewN ?_ _ | refine blk_drew ?_ | refine blk_alloc ?_ _)); exact BK254.out⟩
                  have n1_ : Aside0 (Below w.heap.size w (((((w6.setCell ⟨gb254, 0, none⟩ (.string ((rd_T28 l0 x9_1).f0))).setCell ⟨gb254, 1, none⟩ (.bool ((rd_T28 l0 x9_1).f1))).setCell ⟨gb254, 2, none⟩ (.int .i64 ((rd_T28 l0 x9_1).f2))).setCell ⟨gb254, 3, none⟩ (.int .i64 ((rd_T28 l0 x9_1).f3))).setCell ⟨gb254, 4, none⟩ (.int .i64 ((rd_T28 l0 x9_1).f4)))) := ⟨by repeat (first | (with_reducible first | exact HB.out | apply below_alloc | apply pw_below_drewN | apply below_drew1 | refine below_set ?_ GE254.out) | exact HB.out)⟩
                  (try clear BK254)
                  (try clear HB)
                  generalize (((((w6.setCell ⟨gb254, 0, none⟩ (.string ((rd_T28 l0 x9_1).f0))).setCell ⟨gb254, 1, none⟩ (.bool ((rd_T28 l0 x9_1).f1))).setCell ⟨gb254, 2, none⟩ (.int .i64 ((rd_T28 l0 x9_1).f2))).setCell ⟨gb254, 3, none⟩ (.int .i64 ((rd_T28 l0 x9_1).f3))).setCell ⟨gb254, 4, none⟩ (.int .i64 ((rd_T28 l0 x9_1).f4))) = w19 at n0_ n1_ ⊢
                  have BK254 := n0_
                  have HB := n1_
                  clear n0_ n1_
                  have n0_ := Aside0.mk (blk_drew BK254.out)
                  have n1_ := Aside0.mk (below_drew1 HB.out)
                  clear BK254
                  clear HB
                  have BK254 := n0_
                  have HB := n1_
                  clear n0_ n1_
                  refine start_ (n := 17) (S := fun w' => w'.cell? ⟨gb254, 0, none⟩ = some (.string ((rd_T28 l0 x9_1).f0)) ∧ w'.cell? ⟨gb254, 1, none⟩ = some (.bool ((rd_T28 l0 x9_1).f1)) ∧ w'.cell? ⟨gb254, 2, none⟩ = some (.int .i64 ((rd_T28 l0 x9_1).f2)) ∧ w'.cell? ⟨gb254, 3, none⟩ = some (.int .i64 ((rd_T28 l0 x9_1).f3)) ∧ w'.cell? ⟨gb254, 4, none⟩ = some (.int .i64 ((rd_T28 l0 x9_1).f4))) (ds := []) #[false, false, false, false, false, false, false, false, false, false, false, false, false, false, false, false, false] (by kernel_rfl) rfl rfl ⟨(blk_cell BK254.out 0).trans rfl, (blk_cell BK254.out 1).trans rfl, (blk_cell BK254.out 2).trans rfl, (blk_cell BK254.out 3).trans rfl, (blk_cell BK254.out 4).trans rfl⟩ (fun hHeld => ?_); refine with_tabW parryref1_MayVars.tab4 parryref1_MayVars.bits4 (fun HT_ HW_ => ?_)
                  generalize w19.drew = w20 at BK254 HB hHeld ⊢
                  refine pure_ (i := 0) (N := some 14) (v := ?_) (a' := ?_) #[true, false, false, false, false, false, false, false, false, false, false, false, false, false, false, false, false] rfl rfl (any_of HT_.out (by kernel_rfl)) (fun _ _ _ h => h) (Or.inl ⟨by rfl, ?_⟩) ?_ ?_
                  rotate_left
                  · intro w'
                    go_simp
                    with_reducible rfl
                  rotate_left
                  · simp only [Act.put, List.setIfInBounds_toArray, List.set_cons_zero, List.set_cons_succ, i64_w, i32_w]
                    rfl
                  refine take_ (i := 1) (N := some 15) (v := ?_) (a' := ?_) #[true, true, false, false, false, false, false, false, false, false, false, false, false, false, false, false, false] rfl rfl (take_ofW HT_.out HW_.out (by kernel_rfl)) (fun _ _ _ h => h) (Or.inl ⟨by rfl, ?_⟩) hHeld ?_ ?_
                  rotate_left
                  · rintro w' ⟨s0, s1, s2, s3, s4⟩
                    go_simp
                    with_reducible rfl
                  rotate_left
                  · simp only [Act.put, List.setIfInBounds_toArray, List.set_cons_zero, List.set_cons_succ, i64_w, i32_w]
                    rfl
                  refine one_ (i := 2) (N := some 16) #[true, true, true, false, false, false, false, false, false, false, false, false, false, false, false, false, false] rfl rfl (one_of HT_.out (by kernel_rfl)) (by decide) (fun K hK => ?_)
                  refine goes_ Try.func34 (by kernel_rfl) rfl #[.string ((rd_T28 l0 x9_1).f0)] (by rfl) rfl rfl (by (try simp only [List.map_toArray, List.map_cons, List.map_nil]); first | done | rfl | (simp only [List.length_drop, List.length_take]; rfl)) ?_
                  with_reducible refine (parryref1_Name.calls ((rd_T28 l0 x9_1).f0) true _ A8.out).mono ?_
                  rintro e w21 ⟨rfl, hb⟩
                  refine ⟨_, rfl, ?_⟩
                  have n0_ := Aside0.mk (blk_below (g := gb254) (o := .cells #[.string ((rd_T28 l0 x9_1).f0), .bool ((rd_T28 l0 x9_1).f1), .int .i64 ((rd_T28 l0 x9_1).f2), .int .i64 ((rd_T28 l0 x9_1).f3), .int .i64 ((rd_T28 l0 x9_1).f4)] 28 (0, 0)) (by (with_reducible repeat (first | refine blk_drewN ?_ _ | refine blk_drew ?_ | refine blk_alloc ?_ _)); exact BK254.out) hb)
                  have n1_ := Aside0.mk (below_step (by repeat (first | (with_reducible first | exact HB.out | apply below_alloc | apply pw_below_drewN | apply below_drew1 | refine below_set ?_ GE254.out) | exact HB.out)) hb)
                  clear BK254
                  clear HB
                  have BK254 := n0_
                  have HB := n1_
                  clear n0_ n1_
                  (try clear hb)
                  (try clear hb2)
                  (try clear hk)
                  (try clear hi)
                  refine hK.out _ _ ⟨(blk_cell BK254.out 0).trans rfl, (blk_cell BK254.out 1).trans rfl, (blk_cell BK254.out 2).trans rfl, (blk_cell BK254.out 3).trans rfl, (blk_cell BK254.out 4).trans rfl⟩ (fun hHeld => ?_)
                  clear hK K
                  refine norm_ (a' := ?_) ?_ ?_
                  rotate_left
                  · show Act.put _ (some 16) _ = _
                    simp only [Act.put, List.setIfInBounds_toArray, List.set_cons_zero, List.set_cons_succ, i64_w, i32_w]
                    rfl
                  refine pure_ (i := 3) (N := some 17) (v := ?_) (a' := ?_) #[true, true, true, true, false, false, false, false, false, false, false, false, false, false, false, false, false] rfl rfl (any_of HT_.out (by kernel_rfl)) (fun _ _ _ h => h) (Or.inl ⟨by rfl, ?_⟩) ?_ ?_
                  rotate_left
                  · intro w'
                    go_simp
                    with_reducible rfl
                  rotate_left
                  · simp only [Act.put, List.setIfInBounds_toArray, List.set_cons_zero, List.set_cons_succ, i64_w, i32_w]
                    rfl
                  refine pure_ (i := 4) (N := some 18) (v := ?_) (a' := ?_) #[true, true, true, true, true, false, false, false, false, false, false, false, false, false, false, false, false] rfl rfl (any_of HT_.out (by kernel_rfl)) (fun _ _ _ h => h) (Or.inl ⟨by rfl, ?_⟩) ?_ ?_
                  rotate_left
                  · intro w'
                    go_simp
                    with_reducible rfl
                  rotate_left
                  · simp only [Act.put, List.setIfInBounds_toArray, List.set_cons_zero, List.set_cons_succ, i64_w, i32_w]
                    rfl
                  refine pure_ (i := 5) (N := some 19) (v := ?_) (a' := ?_) #[true, true, true, true, true, true, false, false, false, false, false, false, false, false, false, false, false] rfl rfl (any_of HT_.out (by kernel_rfl)) (fun _ _ _ h => h) (Or.inl ⟨by rfl, ?_⟩) ?_ ?_
                  rotate_left
                  · intro w'
                    go_simp
                    with_reducible rfl
                  rotate_left
                  · simp only [Act.put, List.setIfInBounds_toArray, List.set_cons_zero, List.set_cons_succ, i64_w, i32_w]
                    rfl
                  refine pure_ (i := 6) (N := some 20) (v := ?_) (a' := ?_) #[true, true, true, true, true, true, true, false, false, false, false, false, false, false, false, false, false] rfl rfl (any_of HT_.out (by kernel_rfl)) (fun _ _ _ h => h) (Or.inl ⟨by rfl, ?_⟩) ?_ ?_
                  rotate_left
                  · intro w'
                    go_simp
                    with_reducible rfl
                  rotate_left
                  · simp only [Act.put, List.setIfInBounds_toArray, List.set_cons_zero, List.set_cons_succ, i64_w, i32_w]
                    rfl
                  refine pure_ (i := 7) (N := some 21) (v := ?_) (a' := ?_) #[true, true, true, true, true, true, true, true, false, false, false, false, false, false, false, false, false] rfl rfl (any_of HT_.out (by kernel_rfl)) (fun _ _ _ h => h) (Or.inl ⟨by rfl, ?_⟩) ?_ ?_
                  rotate_left
                  · intro w'
                    go_simp
                    with_reducible rfl
                  rotate_left
                  · simp only [Act.put, List.setIfInBounds_toArray, List.set_cons_zero, List.set_cons_succ, i64_w, i32_w]
                    rfl
                  refine pure_ (i := 8) (N := some 22) (v := undef) (a' := ?_) #[true, true, true, true, true, true, true, true, true, false, false, false, false, false, false, false, false] rfl rfl (any_of HT_.out (by kernel_rfl)) (fun _ _ _ h => h) (Or.inr ⟨by rfl, rfl⟩) ?_ ?_
                  rotate_left
                  · simp only [Act.put, List.setIfInBounds_toArray, List.set_cons_zero, List.set_cons_succ, i64_w, i32_w]
                    rfl
                  refine pure_ (i := 9) (N := some 23) (v := undef) (a' := ?_) #[true, true, true, true, true, true, true, true, true, true, false, false, false, false, false, false, false] rfl rfl (any_of HT_.out (by kernel_rfl)) (fun _ _ _ h => h) (Or.inr ⟨by rfl, rfl⟩) ?_ ?_
                  rotate_left
                  · simp only [Act.put, List.setIfInBounds_toArray, List.set_cons_zero, List.set_cons_succ, i64_w, i32_w]
                    rfl
                  refine pure_ (i := 10) (N := some 24) (v := undef) (a' := ?_) #[true, true, true, true, true, true, true, true, true, true, true, false, false, false, false, false, false] rfl rfl (any_of HT_.out (by kernel_rfl)) (fun _ _ _ h => h) (Or.inr ⟨by rfl, rfl⟩) ?_ ?_
                  rotate_left
                  · simp only [Act.put, List.setIfInBounds_toArray, List.set_cons_zero, List.set_cons_succ, i64_w, i32_w]
                    rfl
                  refine pure_ (i := 11) (N := some 25) (v := undef) (a' := ?_) #[true, true, true, true, true, true, true, true, true, true, true, true, false, false, false, false, false] rfl rfl (any_of HT_.out (by kernel_rfl)) (fun _ _ _ h => h) (Or.inr ⟨by rfl, rfl⟩) ?_ ?_
                  rotate_left
                  · simp only [Act.put, List.setIfInBounds_toArray, List.set_cons_zero, List.set_cons_succ, i64_w, i32_w]
                    rfl
                  refine pure_ (i := 12) (N := some 26) (v := undef) (a' := ?_) #[true, true, true, true, true, true, true, true, true, true, true, true, true, false, false, false, false] rfl rfl (any_of HT_.out (by kernel_rfl)) (fun _ _ _ h => h) (Or.inr ⟨by rfl, rfl⟩) ?_ ?_
                  rotate_left
                  · simp only [Act.put, List.setIfInBounds_toArray, List.set_cons_zero, List.set_cons_succ, i64_w, i32_w]
                    rfl
                  refine pure_ (i := 13) (N := some 27) (v := undef) (a' := ?_) #[true, true, true, true, true, true, true, true, true, true, true, true, true, true, false, false, false] rfl rfl (any_of HT_.out (by kernel_rfl)) (fun _ _ _ h => h) (Or.inr ⟨by rfl, rfl⟩) ?_ ?_
                  rotate_left
                  · simp only [Act.put, List.setIfInBounds_toArray, List.set_cons_zero, List.set_cons_succ, i64_w, i32_w]
                    rfl
                  refine pure_ (i := 14) (N := some 28) (v := undef) (a' := ?_) #[true, true, true, true, true, true, true, true, true, true, true, true, true, true, true, false, false] rfl rfl (any_of HT_.out (by kernel_rfl)) (fun _ _ _ h => h) (Or.inr ⟨by rfl, rfl⟩) ?_ ?_
                  rotate_left
                  · simp only [Act.put, List.setIfInBounds_toArray, List.set_cons_zero, List.set_cons_succ, i64_w, i32_w]
                    rfl
                  refine pure_ (i := 15) (N := some 29) (v := ?_) (a' := ?_) #[true, true, true, true, true, true, true, true, true, true, true, true, true, true, true, true, false] rfl rfl (any_of HT_.out (by kernel_rfl)) (fun _ _ _ h => h) (Or.inl ⟨by rfl, ?_⟩) ?_ ?_
                  rotate_left
                  · intro w'
                    go_simp
                    with_reducible rfl
                  rotate_left
                  · simp only [Act.put, List.setIfInBounds_toArray, List.set_cons_zero, List.set_cons_succ, i64_w, i32_w]
                    rfl
                  refine pure_ (i := 16) (N := some 30) (v := ?_) (a' := ?_) #[true, true, true, true, true, true, true, true, true, true, true, true, true, true, true, true, true] rfl rfl (any_of HT_.out (by kernel_rfl)) (fun _ _ _ h => h) (Or.inl ⟨by rfl, ?_⟩) ?_ ?_
                  rotate_left
                  · intro w'
                    go_simp
                    with_reducible rfl
                  rotate_left
                  · simp only [Act.put, List.setIfInBounds_toArray, List.set_cons_zero, List.set_cons_succ, i64_w, i32_w]
                    rfl
                  refine done_ (done_of HT_.out (by kernel_rfl)) ?_
                  try go_wp2
                  go_meet
                  case rel => exact ⟨_, (false), (by first | rfl | (simp; done) | (simp [*]; done)), H', ⟨by have := HK1.out; first | omega | exact Nat.le_refl _⟩, ⟨by (with_reducible repeat (first | refine blk_drewN ?_ _ | refine blk_drew ?_ | refine blk_alloc ?_ _)); exact BK254.out⟩, ⟨by repeat (first | (with_reducible first | exact HB.out | apply below_alloc | apply pw_below_drewN | apply below_drew1 | refine below_set ?_ GE254.out) | exact HB.out)⟩⟩
              · replace c9 := Bool.eq_false_iff.mpr c9
                subst c9
                have H1 : (parryref1_MayVars.j1 k1 l0 x9_1 l0 (l0.length : Int) x9_1 true ((rd_T28 l0 x9_1).f0) ((rd_T28 l0 x9_1).f1) ((rd_T28 l0 x9_1).f2) ((rd_T28 l0 x9_1).f3) ((rd_T28 l0 x9_1).f4)) = some r := by rw [if_neg (show ¬ (false = true) by decide)] at H; exact H
                clear H
                have H := H1
                clear H1
                have H' := Aside0.mk H
                clear H
                try go_wp2
                have n0_ : Aside0 ((((((w6.setCell ⟨gb254, 0, none⟩ (.string ((rd_T28 l0 x9_1).f0))).setCell ⟨gb254, 1, none⟩ (.bool ((rd_T28 l0 x9_1).f1))).setCell ⟨gb254, 2, none⟩ (.int .i64 ((rd_T28 l0 x9_1).f2))).setCell ⟨gb254, 3, none⟩ (.int .i64 ((rd_T28 l0 x9_1).f3))).setCell ⟨gb254, 4, none⟩ (.int .i64 ((rd_T28 l0 x9_1).f4))).heap[gb254]? = some (.cells #[.string ((rd_T28 l0 x9_1).f0), .bool ((rd_T28 l0 x9_1).f1), .int .i64 ((rd_T28 l0 x9_1).f2), .int .i64 ((rd_T28 l0 x9_1).f3), .int .i64 ((rd_T28 l0 x9_1).f4)] 28 (0, 0))) := ⟨by (with_reducible repeat (first | refine blk_drewN ?_ _ | refine blk_drew ?_ | refine blk_alloc ?_ _)); refine blk_put (cs := #[.string ((rd_T28 l0 x9_1).f0), .bool ((rd_T28 l0 x9_1).f1), .int .i64 ((rd_T28 l0 x9_1).f2), .int .i64 ((rd_T28 l0 x9_1).f3), .int .i64 0]) ?_ 4 _ rfl; (with_reducible repeat (first | refine blk_drewN ?_ _ | refine blk_drew ?_ | refine blk_alloc ?_ _)); refine blk_put (cs := #[.string ((rd_T28 l0 x9_1).f0), .bool ((rd_T28 l0 x9_1).f1), .int .i64 ((rd_T28 l0 x9_1).f2), .int .i64 0, .int .i64 0]) ?_ 3 _ rfl; (with_reducible repeat (first | refine blk_drewN ?_ _ | refine blk_drew ?_ | refine blk_alloc ?_ _)); refine blk_put (cs := #[.string ((rd_T28 l0 x9_1).f0), .bool ((rd_T28 l0 x9_1).f1), .int .i64 0, .int .i64 0, .int .i64 0]) ?_ 2 _ rfl; (with_reducible repeat (first | refine blk_drewN ?_ _ | refine blk_drew ?_ | refine blk_alloc ?_ _)); refine blk_put (cs := #[.string ((rd_T28 l0 x9_1).f0), .bool false, .int .i64 0, .int .i64 0, .int .i64 0]) ?_ 1 _ rfl; (with_reducible repeat (first | refine blk_drewN ?_ _ | refine blk_drew ?_ | refine blk_alloc ?_ _)); refine blk_put (cs := #[.string (⟨#[]⟩ : ByteArray), .bool false, .int .i64 0, .int .i64 0, .int .i64 0]) ?_ 0 _ rfl; (with_reducible repeat (first | refine blk_drewN ?_ _ | refine blk_drew ?_ | refine blk_alloc ?_ _)); exact BK254.out⟩
                have n1_ : Aside0 (Below w.heap.size w (((((w6.setCell ⟨gb254, 0, none⟩ (.string ((rd_T28 l0 x9_1).f0))).setCell ⟨gb254, 1, none⟩ (.bool ((rd_T28 l0 x9_1).f1))).setCell ⟨gb254, 2, none⟩ (.int .i64 ((rd_T28 l0 x9_1).f2))).setCell ⟨gb254, 3, none⟩ (.int .i64 ((rd_T28 l0 x9_1).f3))).setCell ⟨gb254, 4, none⟩ (.int .i64 ((rd_T28 l0 x9_1).f4)))) := ⟨by repeat (first | (with_reducible first | exact HB.out | apply below_alloc | apply pw_below_drewN | apply below_drew1 | refine below_set ?_ GE254.out) | exact HB.out)⟩
                (try clear BK254)
                (try clear HB)
                generalize (((((w6.setCell ⟨gb254, 0, none⟩ (.string ((rd_T28 l0 x9_1).f0))).setCell ⟨gb254, 1, none⟩ (.bool ((rd_T28 l0 x9_1).f1))).setCell ⟨gb254, 2, none⟩ (.int .i64 ((rd_T28 l0 x9_1).f2))).setCell ⟨gb254, 3, none⟩ (.int .i64 ((rd_T28 l0 x9_1).f3))).setCell ⟨gb254, 4, none⟩ (.int .i64 ((rd_T28 l0 x9_1).f4))) = w22 at n0_ n1_ ⊢
                have BK254 := n0_
                have HB := n1_
                clear n0_ n1_
                have n0_ := Aside0.mk (blk_drew BK254.out)
                have n1_ := Aside0.mk (below_drew1 HB.out)
                clear BK254
                clear HB
                have BK254 := n0_
                have HB := n1_
                clear n0_ n1_
                refine start_ (n := 17) (S := fun w' => w'.cell? ⟨gb254, 0, none⟩ = some (.string ((rd_T28 l0 x9_1).f0)) ∧ w'.cell? ⟨gb254, 1, none⟩ = some (.bool ((rd_T28 l0 x9_1).f1)) ∧ w'.cell? ⟨gb254, 2, none⟩ = some (.int .i64 ((rd_T28 l0 x9_1).f2)) ∧ w'.cell? ⟨gb254, 3, none⟩ = some (.int .i64 ((rd_T28 l0 x9_1).f3)) ∧ w'.cell? ⟨gb254, 4, none⟩ = some (.int .i64 ((rd_T28 l0 x9_1).f4))) (ds := []) #[false, false, false, false, false, false, false, false, false, false, false, false, false, false, false, false, false] (by kernel_rfl) rfl rfl ⟨(blk_cell BK254.out 0).trans rfl, (blk_cell BK254.out 1).trans rfl, (blk_cell BK254.out 2).trans rfl, (blk_cell BK254.out 3).trans rfl, (blk_cell BK254.out 4).trans rfl⟩ (fun hHeld => ?_); refine with_tabW parryref1_MayVars.tab4 parryref1_MayVars.bits4 (fun HT_ HW_ => ?_)
                generalize w22.drew = w23 at BK254 HB hHeld ⊢
                refine pure_ (i := 0) (N := some 14) (v := ?_) (a' := ?_) #[true, false, false, false, false, false, false, false, false, false, false, false, false, false, false, false, false] rfl rfl (any_of HT_.out (by kernel_rfl)) (fun _ _ _ h => h) (Or.inl ⟨by rfl, ?_⟩) ?_ ?_
                rotate_left
                · intro w'
                  go_simp
                  with_reducible rfl
                rotate_left
                · simp only [Act.put, List.setIfInBounds_toArray, List.set_cons_zero, List.set_cons_succ, i64_w, i32_w]
                  rfl
                refine take_ (i := 1) (N := some 15) (v := ?_) (a' := ?_) #[true, true, false, false, false, false, false, false, false, false, false, false, false, false, false, false, false] rfl rfl (take_ofW HT_.out HW_.out (by kernel_rfl)) (fun _ _ _ h => h) (Or.inl ⟨by rfl, ?_⟩) hHeld ?_ ?_
                rotate_left
                · rintro w' ⟨s0, s1, s2, s3, s4⟩
                  go_simp
                  with_reducible rfl
                rotate_left
                · simp only [Act.put, List.setIfInBounds_toArray, List.set_cons_zero, List.set_cons_succ, i64_w, i32_w]
                  rfl
                refine one_ (i := 2) (N := some 16) #[true, true, true, false, false, false, false, false, false, false, false, false, false, false, false, false, false] rfl rfl (one_of HT_.out (by kernel_rfl)) (by decide) (fun K hK => ?_)
                refine goes_ Try.func34 (by kernel_rfl) rfl #[.string ((rd_T28 l0 x9_1).f0)] (by rfl) rfl rfl (by (try simp only [List.map_toArray, List.map_cons, List.map_nil]); first | done | rfl | (simp only [List.length_drop, List.length_take]; rfl)) ?_
                with_reducible refine (parryref1_Name.calls ((rd_T28 l0 x9_1).f0) false _ A8.out).mono ?_
                rintro e w24 ⟨rfl, hb⟩
                refine ⟨_, rfl, ?_⟩
                have n0_ := Aside0.mk (blk_below (g := gb254) (o := .cells #[.string ((rd_T28 l0 x9_1).f0), .bool ((rd_T28 l0 x9_1).f1), .int .i64 ((rd_T28 l0 x9_1).f2), .int .i64 ((rd_T28 l0 x9_1).f3), .int .i64 ((rd_T28 l0 x9_1).f4)] 28 (0, 0)) (by (with_reducible repeat (first | refine blk_drewN ?_ _ | refine blk_drew ?_ | refine blk_alloc ?_ _)); exact BK254.out) hb)
                have n1_ := Aside0.mk (below_step (by repeat (first | (with_reducible first | exact HB.out | apply below_alloc | apply pw_below_drewN | apply below_drew1 | refine below_set ?_ GE254.out) | exact HB.out)) hb)
                clear BK254
                clear HB
                have BK254 := n0_
                have HB := n1_
                clear n0_ n1_
                (try clear hb)
                (try clear hb2)
                (try clear hk)
                (try clear hi)
                refine hK.out _ _ ⟨(blk_cell BK254.out 0).trans rfl, (blk_cell BK254.out 1).trans rfl, (blk_cell BK254.out 2).trans rfl, (blk_cell BK254.out 3).trans rfl, (blk_cell BK254.out 4).trans rfl⟩ (fun hHeld => ?_)
                clear hK K
                refine norm_ (a' := ?_) ?_ ?_
                rotate_left
                · show Act.put _ (some 16) _ = _
                  simp only [Act.put, List.setIfInBounds_toArray, List.set_cons_zero, List.set_cons_succ, i64_w, i32_w]
                  rfl
                refine pure_ (i := 3) (N := some 17) (v := ?_) (a' := ?_) #[true, true, true, true, false, false, false, false, false, false, false, false, false, false, false, false, false] rfl rfl (any_of HT_.out (by kernel_rfl)) (fun _ _ _ h => h) (Or.inl ⟨by rfl, ?_⟩) ?_ ?_
                rotate_left
                · intro w'
                  go_simp
                  with_reducible rfl
                rotate_left
                · simp only [Act.put, List.setIfInBounds_toArray, List.set_cons_zero, List.set_cons_succ, i64_w, i32_w]
                  rfl
                refine pure_ (i := 4) (N := some 18) (v := ?_) (a' := ?_) #[true, true, true, true, true, false, false, false, false, false, false, false, false, false, false, false, false] rfl rfl (any_of HT_.out (by kernel_rfl)) (fun _ _ _ h => h) (Or.inl ⟨by rfl, ?_⟩) ?_ ?_
                rotate_left
                · intro w'
                  go_simp
                  with_reducible rfl
                rotate_left
                · simp only [Act.put, List.setIfInBounds_toArray, List.set_cons_zero, List.set_cons_succ, i64_w, i32_w]
                  rfl
                refine pure_ (i := 5) (N := some 19) (v := undef) (a' := ?_) #[true, true, true, true, true, true, false, false, false, false, false, false, false, false, false, false, false] rfl rfl (any_of HT_.out (by kernel_rfl)) (fun _ _ _ h => h) (Or.inr ⟨by rfl, rfl⟩) ?_ ?_
                rotate_left
                · simp only [Act.put, List.setIfInBounds_toArray, List.set_cons_zero, List.set_cons_succ, i64_w, i32_w]
                  rfl
                refine pure_ (i := 6) (N := some 20) (v := undef) (a' := ?_) #[true, true, true, true, true, true, true, false, false, false, false, false, false, false, false, false, false] rfl rfl (any_of HT_.out (by kernel_rfl)) (fun _ _ _ h => h) (Or.inr ⟨by rfl, rfl⟩) ?_ ?_
                rotate_left
                · simp only [Act.put, List.setIfInBounds_toArray, List.set_cons_zero, List.set_cons_succ, i64_w, i32_w]
                  rfl
                refine pure_ (i := 7) (N := some 21) (v := undef) (a' := ?_) #[true, true, true, true, true, true, true, true, false, false, false, false, false, false, false, false, false] rfl rfl (any_of HT_.out (by kernel_rfl)) (fun _ _ _ h => h) (Or.inr ⟨by rfl, rfl⟩) ?_ ?_
                rotate_left
                · simp only [Act.put, List.setIfInBounds_toArray, List.set_cons_zero, List.set_cons_succ, i64_w, i32_w]
                  rfl
                refine pure_ (i := 8) (N := some 22) (v := undef) (a' := ?_) #[true, true, true, true, true, true, true, true, true, false, false, false, false, false, false, false, false] rfl rfl (any_of HT_.out (by kernel_rfl)) (fun _ _ _ h => h) (Or.inr ⟨by rfl, rfl⟩) ?_ ?_
                rotate_left
                · simp only [Act.put, List.setIfInBounds_toArray, List.set_cons_zero, List.set_cons_succ, i64_w, i32_w]
                  rfl
                refine pure_ (i := 9) (N := some 23) (v := undef) (a' := ?_) #[true, true, true, true, true, true, true, true, true, true, false, false, false, false, false, false, false] rfl rfl (any_of HT_.out (by kernel_rfl)) (fun _ _ _ h => h) (Or.inr ⟨by rfl, rfl⟩) ?_ ?_
                rotate_left
                · simp only [Act.put, List.setIfInBounds_toArray, List.set_cons_zero, List.set_cons_succ, i64_w, i32_w]
                  rfl
                refine pure_ (i := 10) (N := some 24) (v := undef) (a' := ?_) #[true, true, true, true, true, true, true, true, true, true, true, false, false, false, false, false, false] rfl rfl (any_of HT_.out (by kernel_rfl)) (fun _ _ _ h => h) (Or.inr ⟨by rfl, rfl⟩) ?_ ?_
                rotate_left
                · simp only [Act.put, List.setIfInBounds_toArray, List.set_cons_zero, List.set_cons_succ, i64_w, i32_w]
                  rfl
                refine pure_ (i := 11) (N := some 25) (v := undef) (a' := ?_) #[true, true, true, true, true, true, true, true, true, true, true, true, false, false, false, false, false] rfl rfl (any_of HT_.out (by kernel_rfl)) (fun _ _ _ h => h) (Or.inr ⟨by rfl, rfl⟩) ?_ ?_
                rotate_left
                · simp only [Act.put, List.setIfInBounds_toArray, List.set_cons_zero, List.set_cons_succ, i64_w, i32_w]
                  rfl
                refine pure_ (i := 12) (N := some 26) (v := undef) (a' := ?_) #[true, true, true, true, true, true, true, true, true, true, true, true, true, false, false, false, false] rfl rfl (any_of HT_.out (by kernel_rfl)) (fun _ _ _ h => h) (Or.inr ⟨by rfl, rfl⟩) ?_ ?_
                rotate_left
                · simp only [Act.put, List.setIfInBounds_toArray, List.set_cons_zero, List.set_cons_succ, i64_w, i32_w]
                  rfl
                refine pure_ (i := 13) (N := some 27) (v := undef) (a' := ?_) #[true, true, true, true, true, true, true, true, true, true, true, true, true, true, false, false, false] rfl rfl (any_of HT_.out (by kernel_rfl)) (fun _ _ _ h => h) (Or.inr ⟨by rfl, rfl⟩) ?_ ?_
                rotate_left
                · simp only [Act.put, List.setIfInBounds_toArray, List.set_cons_zero, List.set_cons_succ, i64_w, i32_w]
                  rfl
                refine pure_ (i := 14) (N := some 28) (v := undef) (a' := ?_) #[true, true, true, true, true, true, true, true, true, true, true, true, true, true, true, false, false] rfl rfl (any_of HT_.out (by kernel_rfl)) (fun _ _ _ h => h) (Or.inr ⟨by rfl, rfl⟩) ?_ ?_
                rotate_left
                · simp only [Act.put, List.setIfInBounds_toArray, List.set_cons_zero, List.set_cons_succ, i64_w, i32_w]
                  rfl
                refine pure_ (i := 15) (N := some 29) (v := undef) (a' := ?_) #[true, true, true, true, true, true, true, true, true, true, true, true, true, true, true, true, false] rfl rfl (any_of HT_.out (by kernel_rfl)) (fun _ _ _ h => h) (Or.inr ⟨by rfl, rfl⟩) ?_ ?_
                rotate_left
                · simp only [Act.put, List.setIfInBounds_toArray, List.set_cons_zero, List.set_cons_succ, i64_w, i32_w]
                  rfl
                refine pure_ (i := 16) (N := some 30) (v := ?_) (a' := ?_) #[true, true, true, true, true, true, true, true, true, true, true, true, true, true, true, true, true] rfl rfl (any_of HT_.out (by kernel_rfl)) (fun _ _ _ h => h) (Or.inl ⟨by rfl, ?_⟩) ?_ ?_
                rotate_left
                · intro w'
                  go_simp
                  with_reducible rfl
                rotate_left
                · simp only [Act.put, List.setIfInBounds_toArray, List.set_cons_zero, List.set_cons_succ, i64_w, i32_w]
                  rfl
                refine done_ (done_of HT_.out (by kernel_rfl)) ?_
                try go_wp2
                go_meet
                case rel => exact ⟨_, (true), (by first | rfl | (simp; done) | (simp [*]; done)), H', ⟨by have := HK1.out; first | omega | exact Nat.le_refl _⟩, ⟨by (with_reducible repeat (first | refine blk_drewN ?_ _ | refine blk_drew ?_ | refine blk_alloc ?_ _)); exact BK254.out⟩, ⟨by repeat (first | (with_reducible first | exact HB.out | apply below_alloc | apply pw_below_drewN | apply below_drew1 | refine below_set ?_ GE254.out) | exact HB.out)⟩⟩
            case rest =>
              clear HC5
              try clear c1
              try clear q1
              try clear c2
              try clear c2b0
              try clear p2
              try clear q2
              try clear hx2
              try clear c3
              try clear c3b0
              try clear c4
              try clear c4b0
              try clear c9
              try clear c10
              try clear c10b0
              try clear c11
              try clear c11b0
              try clear c12
              try clear c12b0
              try clear c12b1
              try clear c17
              try clear q17
              try clear hcz7_0
              try clear hcz7_1
              try clear hcz7_2
              try clear hcz7_3
              try clear hcz7_4
              try clear hfz7_0
              try clear hfz7_1
              try clear hfz7_2
              try clear hfz7_3
              try clear hfz7_4
              try clear hx253_0
              try clear hx253_1
              try clear hx253_2
              try clear hx253_3
              try clear hx253_4
              try clear p253
              try clear q17
              try clear q253
              obtain ⟨kq, x30_4, rfl, HA, HJ4, BK254, HB⟩ := hcut
              cases kq with
              | zero => exact absurd HA.out (by simp [parryref1_MayVars.j1])
              | succ kj4 =>
                have H := HA.out
                clear HA
                simp only [parryref1_MayVars.j1] at H
                by_cases c25 : x30_4 = true
                · subst c25
                  have H1 : (some 3) = some r := by rw [if_pos rfl] at H; exact H
                  clear H
                  have H := H1
                  clear H1
                  obtain rfl := Option.some.inj H
                  go_wp2
                  go_ret
                  exact ⟨by first | rfl | (simp [errW_none, errW_some] <;> rfl) | (simp [*, errW_none, errW_some] <;> rfl), by repeat (first | (with_reducible first | exact HB.out | apply below_alloc | apply pw_below_drewN | apply below_drew1 | refine below_set ?_ GE254.out) | exact HB.out)⟩
                · replace c25 := Bool.eq_false_iff.mpr c25
                  subst c25
                  have H1 : (if x9_1 ≥ 6 then (if 0 ≤ x9_1 then (if x9_1 ≤ (l0.length : Int) then ((some (l0.take (x9_1 : Int).toNat : List (S28))).bind fun y261 => (parryref1_MayVars.l1 kj4 l0 l0 (l0.length : Int) x9_1 y261 (y261.length : Int) 0 ((rd_T28 l0 x9_1).f0) ((rd_T28 l0 x9_1).f1) ((rd_T28 l0 x9_1).f2) ((rd_T28 l0 x9_1).f3) ((rd_T28 l0 x9_1).f4))) else (none)) else (none)) else (parryref1_MayVars.j3 kj4 l0 l0 (l0.length : Int) x9_1 ((rd_T28 l0 x9_1).f0) ((rd_T28 l0 x9_1).f1) ((rd_T28 l0 x9_1).f2) ((rd_T28 l0 x9_1).f3) ((rd_T28 l0 x9_1).f4))) = some r := by rw [if_neg (show ¬ (false = true) by decide)] at H; exact H
                  clear H
                  have H := H1
                  clear H1
                  have HC26 := Aside0.mk H
                  clear H
                  go_upto_if 32 with (fail)
                  go_cut [] (fun wc => ∃ (kq : Nat), Aside0 (parryref1_MayVars.j3 kq l0 l0 (l0.length : Int) x9_1 ((rd_T28 l0 x9_1).f0) ((rd_T28 l0 x9_1).f1) ((rd_T28 l0 x9_1).f2) ((rd_T28 l0 x9_1).f3) ((rd_T28 l0 x9_1).f4) = some r) ∧ Aside0 (kq ≤ kj4) ∧ Aside0 (wc.heap[gb254]? = some (.cells #[.string ((rd_T28 l0 x9_1).f0), .bool ((rd_T28 l0 x9_1).f1), .int .i64 ((rd_T28 l0 x9_1).f2), .int .i64 ((rd_T28 l0 x9_1).f3), .int .i64 ((rd_T28 l0 x9_1).f4)] 28 (0, 0))) ∧ Aside0 (Below w.heap.size w wc))
                  case first =>
                    have H := HC26.out
                    clear HC26
                    by_cases c27 : x9_1 ≥ 6
                    · rw [if_pos c27] at H
                      have c27b0 : decide (6 ≤ x9_1) = true := decide_eq_true c27
                      clear c27
                      (first | rw [c27b0] | (simp only [i64_w, i32_w]; rw [c27b0]) | skip)
                      by_cases c28 : 0 ≤ x9_1
                      · rw [if_pos c28] at H
                        have c28b0 := eq_true c28
                        have c28b1 : decide (0 ≤ x9_1) = true := decide_eq_true c28
                        clear c28
                        by_cases c29 : x9_1 ≤ (l0.length : Int)
                        · rw [if_pos c29] at H
                          have c29b0 := eq_true c29
                          have c29b1 : decide (x9_1 ≤ (l0.length : Int)) = true := decide_eq_true c29
                          clear c29
                          obtain ⟨y261, hy261⟩ : ∃ y_ : List (S28), y_ = (l0.take (x9_1 : Int).toNat) := ⟨_, rfl⟩
                          replace H : (parryref1_MayVars.l1 kj4 l0 l0 (l0.length : Int) x9_1 y261 (y261.length : Int) 0 ((rd_T28 l0 x9_1).f0) ((rd_T28 l0 x9_1).f1) ((rd_T28 l0 x9_1).f2) ((rd_T28 l0 x9_1).f3) ((rd_T28 l0 x9_1).f4)) = some r := by first | (rw [hy261]; with_reducible exact H) | (have H2_ := (Option.bind_some _ _).symm.trans H; rw [hy261]; with_reducible exact H2_) | (have H2_ := (Option.bind_some _ _).symm.trans H; with_reducible exact H2_) | with_reducible exact H | (rw [hy261]; exact H) | exact H
                          have Ny261 := Aside0.mk hy261
                          clear hy261
                          have H' := Aside0.mk H
                          clear H
                          have q30 : (x9_1 : Int) ≤ ((l0.length : Int) : Int) := of_decide_eq_true (by first | (with_reducible assumption) | assumption)
                          obtain ⟨i030, hi030, _, hsz30, _⟩ := info_parts info28
                          have hroom30 : l0.length ≤ c0 := HC0.out
                          have hC30 : Kd.C k28 _ (some ad253) l0.length l0 := HR0.out
                          have hcut30 := cut_to (P := Try.prog) 22 28 .i64 Try.underlying22 hi030 (some ad253) l0.length c0 x9_1 (of_decide_eq_true (by first | (with_reducible assumption) | assumption)) q30 hroom30
                          have hr30 := Kd.C_take (m := (x9_1 : Int).toNat) hC30 (by omega)
                          have hy30 : y261.length = (x9_1 : Int).toNat := (by rw [Ny261.out, List.length_take]; omega)
                          rw [← Ny261.out] at hr30
                          rw [← hy30] at hcut30
                          have HR264 := Aside0.mk hr30
                          have HC264 := Aside0.mk (show y261.length ≤ c0 from by omega)
                          clear hr30 hC30 hroom30 hi030 hsz30
                          have KY30 := Aside0.mk hy30
                          clear hy30
                          replace q30 := eq_true q30
                          go_wp2
                          go_loopg [37] kj4 (fun kq v37 w' => ∃ (x37_3 : Int), v37 = .int .i64 x37_3 ∧ Aside0 (parryref1_MayVars.l1 kq l0 l0 (l0.length : Int) x9_1 y261 (y261.length : Int) x37_3 ((rd_T28 l0 x9_1).f0) ((rd_T28 l0 x9_1).f1) ((rd_T28 l0 x9_1).f2) ((rd_T28 l0 x9_1).f3) ((rd_T28 l0 x9_1).f4) = some r) ∧ Aside0 (kq ≤ kj4) ∧ Aside0 (w'.heap[gb254]? = some (.cells #[.string ((rd_T28 l0 x9_1).f0), .bool ((rd_T28 l0 x9_1).f1), .int .i64 ((rd_T28 l0 x9_1).f2), .int .i64 ((rd_T28 l0 x9_1).f3), .int .i64 ((rd_T28 l0 x9_1).f4)] 28 (0, 0))) ∧ Aside0 (Below w.heap.size w w'))
                          case atStart => exact ⟨(0), (by first | rfl | (simp; done) | (simp [*]; done)), H', ⟨Nat.le_refl _⟩, ⟨by (with_reducible repeat (first | refine blk_drewN ?_ _ | refine blk_drew ?_ | refine blk_alloc ?_ _)); exact BK254.out⟩, ⟨by repeat (first | (with_reducible first | exact HB.out | apply below_alloc | apply pw_below_drewN | apply below_drew1 | refine below_set ?_ GE254.out) | exact HB.out)⟩⟩
                          case round =>
                            clear H'
                            try clear c1
                            try clear q1
                            try clear c2
                            try clear c2b0
                            try clear p2
                            try clear q2
                            try clear hx2
                            try clear c3
                            try clear c3b0
                            try clear q3
                            try clear c4
                            try clear c4b0
                            try clear c9
                            try clear c10
                            try clear c10b0
                            try clear c11
                            try clear c11b0
                            try clear c12
                            try clear c12b0
                            try clear c12b1
                            try clear c17
                            try clear q17
                            try clear c25
                            try clear p25
                            try clear q25
                            try clear hx25
                            try clear c27
                            try clear c27b0
                            try clear c28
                            try clear c28b0
                            try clear c28b1
                            try clear c29
                            try clear c29b0
                            try clear c29b1
                            try clear q30
                            try clear hcz7_0
                            try clear hcz7_1
                            try clear hcz7_2
                            try clear hcz7_3
                            try clear hcz7_4
                            try clear hfz7_0
                            try clear hfz7_1
                            try clear hfz7_2
                            try clear hfz7_3
                            try clear hfz7_4
                            try clear hx253_0
                            try clear hx253_1
                            try clear hx253_2
                            try clear hx253_3
                            try clear hx253_4
                            try clear p2
                            try clear p253
                            try clear q1
                            try clear q17
                            try clear q2
                            try clear q253
                            try clear q30
                            obtain ⟨x37_3, rfl, HA, HK3, BK254, HB⟩ := hrel
                            cases gk with
                            | zero => exact absurd HA.out (by simp [parryref1_MayVars.l1])
                            | succ k3 =>
                              have H := HA.out
                              clear HA
                              simp only [parryref1_MayVars.l1] at H
                              by_cases c31 : x37_3 < (y261.length : Int)
                              · rw [if_pos c31] at H
                                have c31b0 : decide (x37_3 < (y261.length : Int)) = true := decide_eq_true c31
                                clear c31
                                by_cases c32 : 0 ≤ x37_3
                                · rw [if_pos c32] at H
                                  have c32b0 : decide (0 ≤ x37_3) = true := decide_eq_true c32
                                  clear c32
                                  by_cases c33 : x37_3 < (y261.length : Int)
                                  · rw [if_pos c33] at H
                                    have c33b0 : decide (x37_3 < (y261.length : Int)) = true := decide_eq_true c33
                                    clear c33
                                    by_cases c34 : ((rd_T28 y261 x37_3).f0).toList = ((rd_T28 l0 x9_1).f0).toList
                                    · rw [if_pos c34] at H
                                      have c34b0 : (((rd_T28 y261 x37_3).f0).toList == ((rd_T28 l0 x9_1).f0).toList) = true := beq_iff_eq.mpr c34
                                      have c34b1 : (((rd_T28 y261 x37_3).f0).toList != ((rd_T28 l0 x9_1).f0).toList) = false := bne_eq_false_iff_eq.mpr c34
                                      clear c34
                                      obtain rfl := Option.some.inj H
                                      have p265 : 0 ≤ (x37_3 : Int) := of_decide_eq_true (by first | (with_reducible assumption) | assumption)
                                      have q265 : x37_3 < (y261.length : Int) := of_decide_eq_true (by first | (with_reducible assumption) | assumption)
                                      obtain ⟨ad265, e265, hx265_0, hx265_1, hx265_2, hx265_3, hx265_4⟩ := at_T28 HR264.out x37_3 p265 q265
                                      obtain rfl : ad253 = ad265 := (by injection e265)
                                      replace hx265_0 := (HB.out.cell (World.block_lt_of_cell? w _ hx265_0)).trans hx265_0
                                      replace hx265_1 := (HB.out.cell (World.block_lt_of_cell? w _ hx265_1)).trans hx265_1
                                      replace hx265_2 := (HB.out.cell (World.block_lt_of_cell? w _ hx265_2)).trans hx265_2
                                      replace hx265_3 := (HB.out.cell (World.block_lt_of_cell? w _ hx265_3)).trans hx265_3
                                      replace hx265_4 := (HB.out.cell (World.block_lt_of_cell? w _ hx265_4)).trans hx265_4
                                      replace p265 := eq_true p265
                                      replace q265 := eq_true q265
                                      go_wp2_with (first | ((with_reducible refine gate_dst (N := 6) rfl ?_); refine box_event ?hg (N := 6) ?hd (cs := #[.string (⟨#[]⟩ : ByteArray), .bool false, .int .i64 0, .int .i64 0, .int .i64 0]) (t := 28) ?hr ?_; (case hd => rfl); (case hg => rfl); (case hr => first | (go_simp; done) | (go_simp; rfl)); intro gb266 hg w35 hbox hb; have n0_ := Aside0.mk (blk_below (g := gb254) (o := .cells #[.string ((rd_T28 l0 x9_1).f0), .bool ((rd_T28 l0 x9_1).f1), .int .i64 ((rd_T28 l0 x9_1).f2), .int .i64 ((rd_T28 l0 x9_1).f3), .int .i64 ((rd_T28 l0 x9_1).f4)] 28 (0, 0)) (by (with_reducible repeat (first | refine blk_drewN ?_ _ | refine blk_drew ?_ | refine blk_alloc ?_ _)); exact BK254.out) hb); have n1_ := Aside0.mk (below_step (by repeat (first | (with_reducible first | exact HB.out | apply below_alloc | apply pw_below_drewN | apply below_drew1 | refine below_set ?_ GE254.out) | exact HB.out)) hb); have n2_ := Aside0.mk (hbox); have n3_ := Aside0.mk ((by rw [hg]; exact (below_size (by repeat (first | (with_reducible first | exact HB.out | apply below_alloc | apply pw_below_drewN | apply below_drew1 | refine below_set ?_ GE254.out) | exact HB.out))) : w.heap.size ≤ gb266)); have n4_ := Aside0.mk ((by rw [hg]; exact (below_size (by repeat (first | (with_reducible first | exact HB.out | apply below_alloc | apply pw_below_drewN | apply below_drew1 | refine below_set ?_ GE254.out) | exact HB.out))) : w.heap.size ≤ gb266)); have n5_ := Aside0.mk ((by rw [hg]; exact Nat.ne_of_lt (blk_lt (g := gb254) (o := .cells #[.string ((rd_T28 l0 x9_1).f0), .bool ((rd_T28 l0 x9_1).f1), .int .i64 ((rd_T28 l0 x9_1).f2), .int .i64 ((rd_T28 l0 x9_1).f3), .int .i64 ((rd_T28 l0 x9_1).f4)] 28 (0, 0)) (by (with_reducible repeat (first | refine blk_drewN ?_ _ | refine blk_drew ?_ | refine blk_alloc ?_ _)); exact BK254.out)) : gb254 ≠ gb266)); have n6_ := Aside0.mk ((by rw [hg]; exact Nat.ne_of_gt (blk_lt (g := gb254) (o := .cells #[.string ((rd_T28 l0 x9_1).f0), .bool ((rd_T28 l0 x9_1).f1), .int .i64 ((rd_T28 l0 x9_1).f2), .int .i64 ((rd_T28 l0 x9_1).f3), .int .i64 ((rd_T28 l0 x9_1).f4)] 28 (0, 0)) (by (with_reducible repeat (first | refine blk_drewN ?_ _ | refine blk_drew ?_ | refine blk_alloc ?_ _)); exact BK254.out)) : gb266 ≠ gb254)); clear BK254; clear HB; have BK254 := n0_; have HB := n1_; have BK266 := n2_; have GW266 := n3_; have GE266 := n4_; have NB254_266 := n5_; have NB266_254 := n6_; clear n0_ n1_ n2_ n3_ n4_ n5_ n6_; clear hb hbox hg; have hnb36 := NB266_254.out; have hnc36 := NB254_266.out; have hcz37_0 : w35.cell? ⟨gb266, 0, none⟩ = some (.string (⟨#[]⟩ : ByteArray)) := (blk_cell BK266.out 0).trans rfl; have hcz37_1 : w35.cell? ⟨gb266, 1, none⟩ = some (.bool false) := (blk_cell BK266.out 1).trans rfl; have hcz37_2 : w35.cell? ⟨gb266, 2, none⟩ = some (.int .i64 0) := (blk_cell BK266.out 2).trans rfl; have hcz37_3 : w35.cell? ⟨gb266, 3, none⟩ = some (.int .i64 0) := (blk_cell BK266.out 3).trans rfl; have hcz37_4 : w35.cell? ⟨gb266, 4, none⟩ = some (.int .i64 0) := (blk_cell BK266.out 4).trans rfl; have hfz37_0 := blk_frozen BK266.out 0; have hfz37_1 := blk_frozen BK266.out 1; have hfz37_2 := blk_frozen BK266.out 2; have hfz37_3 := blk_frozen BK266.out 3; have hfz37_4 := blk_frozen BK266.out 4; have hcz38_0 : w35.cell? ⟨gb254, 0, none⟩ = some (.string ((rd_T28 l0 x9_1).f0)) := (blk_cell BK254.out 0).trans rfl; have hcz38_1 : w35.cell? ⟨gb254, 1, none⟩ = some (.bool ((rd_T28 l0 x9_1).f1)) := (blk_cell BK254.out 1).trans rfl; have hcz38_2 : w35.cell? ⟨gb254, 2, none⟩ = some (.int .i64 ((rd_T28 l0 x9_1).f2)) := (blk_cell BK254.out 2).trans rfl; have hcz38_3 : w35.cell? ⟨gb254, 3, none⟩ = some (.int .i64 ((rd_T28 l0 x9_1).f3)) := (blk_cell BK254.out 3).trans rfl; have hcz38_4 : w35.cell? ⟨gb254, 4, none⟩ = some (.int .i64 ((rd_T28 l0 x9_1).f4)) := (blk_cell BK254.out 4).trans rfl; have hfz38_0 := blk_frozen BK254.out 0; have hfz38_1 := blk_frozen BK254.out 1; have hfz38_2 := blk_frozen BK254.out 2; have hfz38_3 := blk_frozen BK254.out 3; have hfz38_4 := blk_frozen BK254.out 4))
                                      go_ret
                                      exact ⟨by first | rfl | (simp [errW_none, errW_some] <;> rfl) | (simp [*, errW_none, errW_some] <;> rfl), by repeat (first | (with_reducible first | exact HB.out | apply below_alloc | apply pw_below_drewN | apply below_drew1 | refine below_set ?_ GE254.out | refine below_set ?_ GE266.out) | exact HB.out)⟩
                                    · rw [if_neg c34] at H
                                      have c34b0 : (((rd_T28 y261 x37_3).f0).toList == ((rd_T28 l0 x9_1).f0).toList) = false := beq_eq_false_iff_ne.mpr c34
                                      have c34b1 : (((rd_T28 y261 x37_3).f0).toList != ((rd_T28 l0 x9_1).f0).toList) = true := bne_iff_ne.mpr c34
                                      have H' := Aside0.mk H
                                      clear H
                                      have p265 : 0 ≤ (x37_3 : Int) := of_decide_eq_true (by first | (with_reducible assumption) | assumption)
                                      have q265 : x37_3 < (y261.length : Int) := of_decide_eq_true (by first | (with_reducible assumption) | assumption)
                                      obtain ⟨ad265, e265, hx265_0, hx265_1, hx265_2, hx265_3, hx265_4⟩ := at_T28 HR264.out x37_3 p265 q265
                                      obtain rfl : ad253 = ad265 := (by injection e265)
                                      replace hx265_0 := (HB.out.cell (World.block_lt_of_cell? w _ hx265_0)).trans hx265_0
                                      replace hx265_1 := (HB.out.cell (World.block_lt_of_cell? w _ hx265_1)).trans hx265_1
                                      replace hx265_2 := (HB.out.cell (World.block_lt_of_cell? w _ hx265_2)).trans hx265_2
                                      replace hx265_3 := (HB.out.cell (World.block_lt_of_cell? w _ hx265_3)).trans hx265_3
                                      replace hx265_4 := (HB.out.cell (World.block_lt_of_cell? w _ hx265_4)).trans hx265_4
                                      replace p265 := eq_true p265
                                      replace q265 := eq_true q265
                                      go_wp2_with (first | ((with_reducible refine gate_dst (N := 6) rfl ?_); refine box_event ?hg (N := 6) ?hd (cs := #[.string (⟨#[]⟩ : ByteArray), .bool false, .int .i64 0, .int .i64 0, .int .i64 0]) (t := 28) ?hr ?_; (case hd => rfl); (case hg => rfl); (case hr => first | (go_simp; done) | (go_simp; rfl)); intro gb266 hg w39 hbox hb; have n0_ := Aside0.mk (blk_below (g := gb254) (o := .cells #[.string ((rd_T28 l0 x9_1).f0), .bool ((rd_T28 l0 x9_1).f1), .int .i64 ((rd_T28 l0 x9_1).f2), .int .i64 ((rd_T28 l0 x9_1).f3), .int .i64 ((rd_T28 l0 x9_1).f4)] 28 (0, 0)) (by (with_reducible repeat (first | refine blk_drewN ?_ _ | refine blk_drew ?_ | refine blk_alloc ?_ _)); exact BK254.out) hb); have n1_ := Aside0.mk (below_step (by repeat (first | (with_reducible first | exact HB.out | apply below_alloc | apply pw_below_drewN | apply below_drew1 | refine below_set ?_ GE254.out) | exact HB.out)) hb); have n2_ := Aside0.mk (hbox); have n3_ := Aside0.mk ((by rw [hg]; exact (below_size (by repeat (first | (with_reducible first | exact HB.out | apply below_alloc | apply pw_below_drewN | apply below_drew1 | refine below_set ?_ GE254.out) | exact HB.out))) : w.heap.size ≤ gb266)); have n4_ := Aside0.mk ((by rw [hg]; exact (below_size (by repeat (first | (with_reducible first | exact HB.out | apply below_alloc | apply pw_below_drewN | apply below_drew1 | refine below_set ?_ GE254.out) | exact HB.out))) : w.heap.size ≤ gb266)); have n5_ := Aside0.mk ((by rw [hg]; exact Nat.ne_of_lt (blk_lt (g := gb254) (o := .cells #[.string ((rd_T28 l0 x9_1).f0), .bool ((rd_T28 l0 x9_1).f1), .int .i64 ((rd_T28 l0 x9_1).f2), .int .i64 ((rd_T28 l0 x9_1).f3), .int .i64 ((rd_T28 l0 x9_1).f4)] 28 (0, 0)) (by (with_reducible repeat (first | refine blk_drewN ?_ _ | refine blk_drew ?_ | refine blk_alloc ?_ _)); exact BK254.out)) : gb254 ≠ gb266)); have n6_ := Aside0.mk ((by rw [hg]; exact Nat.ne_of_gt (blk_lt (g := gb254) (o := .cells #[.string ((rd_T28 l0 x9_1).f0), .bool ((rd_T28 l0 x9_1).f1), .int .i64 ((rd_T28 l0 x9_1).f2), .int .i64 ((rd_T28 l0 x9_1).f3), .int .i64 ((rd_T28 l0 x9_1).f4)] 28 (0, 0)) (by (with_reducible repeat (first | refine blk_drewN ?_ _ | refine blk_drew ?_ | refine blk_alloc ?_ _)); exact BK254.out)) : gb266 ≠ gb254)); clear BK254; clear HB; have BK254 := n0_; have HB := n1_; have BK266 := n2_; have GW266 := n3_; have GE266 := n4_; have NB254_266 := n5_; have NB266_254 := n6_; clear n0_ n1_ n2_ n3_ n4_ n5_ n6_; clear hb hbox hg; have hnb40 := NB266_254.out; have hnc40 := NB254_266.out; have hcz41_0 : w39.cell? ⟨gb266, 0, none⟩ = some (.string (⟨#[]⟩ : ByteArray)) := (blk_cell BK266.out 0).trans rfl; have hcz41_1 : w39.cell? ⟨gb266, 1, none⟩ = some (.bool false) := (blk_cell BK266.out 1).trans rfl; have hcz41_2 : w39.cell? ⟨gb266, 2, none⟩ = some (.int .i64 0) := (blk_cell BK266.out 2).trans rfl; have hcz41_3 : w39.cell? ⟨gb266, 3, none⟩ = some (.int .i64 0) := (blk_cell BK266.out 3).trans rfl; have hcz41_4 : w39.cell? ⟨gb266, 4, none⟩ = some (.int .i64 0) := (blk_cell BK266.out 4).trans rfl; have hfz41_0 := blk_frozen BK266.out 0; have hfz41_1 := blk_frozen BK266.out 1; have hfz41_2 := blk_frozen BK266.out 2; have hfz41_3 := blk_frozen BK266.out 3; have hfz41_4 := blk_frozen BK266.out 4; have hcz42_0 : w39.cell? ⟨gb254, 0, none⟩ = some (.string ((rd_T28 l0 x9_1).f0)) := (blk_cell BK254.out 0).trans rfl; have hcz42_1 : w39.cell? ⟨gb254, 1, none⟩ = some (.bool ((rd_T28 l0 x9_1).f1)) := (blk_cell BK254.out 1).trans rfl; have hcz42_2 : w39.cell? ⟨gb254, 2, none⟩ = some (.int .i64 ((rd_T28 l0 x9_1).f2)) := (blk_cell BK254.out 2).trans rfl; have hcz42_3 : w39.cell? ⟨gb254, 3, none⟩ = some (.int .i64 ((rd_T28 l0 x9_1).f3)) := (blk_cell BK254.out 3).trans rfl; have hcz42_4 : w39.cell? ⟨gb254, 4, none⟩ = some (.int .i64 ((rd_T28 l0 x9_1).f4)) := (blk_cell BK254.out 4).trans rfl; have hfz42_0 := blk_frozen BK254.out 0; have hfz42_1 := blk_frozen BK254.out 1; have hfz42_2 := blk_frozen BK254.out 2; have hfz42_3 := blk_frozen BK254.out 3; have hfz42_4 := blk_frozen BK254.out 4))
                                      go_roundg k3
                                      case measure => have := HK1.out; have := HJ4.out; have := HK3.out; omega
                                      case rel => exact ⟨(wrap64 (x37_3 + 1)), (by first | rfl | (simp; done) | (simp [*]; done)), H', ⟨by have := HK1.out; have := HJ4.out; have := HK3.out; omega⟩, ⟨by (with_reducible repeat (first | refine blk_drewN ?_ _ | refine blk_drew ?_ | refine blk_alloc ?_ _)); refine blk_far ?_ NB254_266.out _; (with_reducible repeat (first | refine blk_drewN ?_ _ | refine blk_drew ?_ | refine blk_alloc ?_ _)); refine blk_far ?_ NB254_266.out _; (with_reducible repeat (first | refine blk_drewN ?_ _ | refine blk_drew ?_ | refine blk_alloc ?_ _)); refine blk_far ?_ NB254_266.out _; (with_reducible repeat (first | refine blk_drewN ?_ _ | refine blk_drew ?_ | refine blk_alloc ?_ _)); refine blk_far ?_ NB254_266.out _; (with_reducible repeat (first | refine blk_drewN ?_ _ | refine blk_drew ?_ | refine blk_alloc ?_ _)); refine blk_far ?_ NB254_266.out _; (with_reducible repeat (first | refine blk_drewN ?_ _ | refine blk_drew ?_ | refine blk_alloc ?_ _)); exact BK254.out⟩, ⟨by repeat (first | (with_reducible first | exact HB.out | apply below_alloc | apply pw_below_drewN | apply below_drew1 | refine below_set ?_ GE254.out | refine below_set ?_ GE266.out) | exact HB.out)⟩⟩
                                  · rw [if_neg c33] at H
                                    exact absurd H (by simp)
                                · rw [if_neg c32] at H
                                  exact absurd H (by simp)
                              · rw [if_neg c31] at H
                                have c31b0 : decide (x37_3 < (y261.length : Int)) = false := decide_eq_false c31
                                clear c31
                                have H' := Aside0.mk H
                                clear H
                                go_wp2
                                go_meet
                                case rel => exact ⟨_, H', ⟨by have := HK1.out; have := HJ4.out; have := HK3.out; first | omega | exact Nat.le_refl _⟩, ⟨by (with_reducible repeat (first | refine blk_drewN ?_ _ | refine blk_drew ?_ | refine blk_alloc ?_ _)); exact BK254.out⟩, ⟨by repeat (first | (with_reducible first | exact HB.out | apply below_alloc | apply pw_below_drewN | apply below_drew1 | refine below_set ?_ GE254.out) | exact HB.out)⟩⟩
                        · rw [if_neg c29] at H
                          exact absurd H (by simp)
                      · rw [if_neg c28] at H
                        exact absurd H (by simp)
                    · rw [if_neg c27] at H
                      have c27b0 : decide (6 ≤ x9_1) = false := decide_eq_false c27
                      clear c27
                      (first | rw [c27b0] | (simp only [i64_w, i32_w]; rw [c27b0]) | skip)
                      have H' := Aside0.mk H
                      clear H
                      go_wp2
                      go_meet
                      case rel => exact ⟨_, H', ⟨by have := HK1.out; have := HJ4.out; first | omega | exact Nat.le_refl _⟩, ⟨by (with_reducible repeat (first | refine blk_drewN ?_ _ | refine blk_drew ?_ | refine blk_alloc ?_ _)); exact BK254.out⟩, ⟨by repeat (first | (with_reducible first | exact HB.out | apply below_alloc | apply pw_below_drewN | apply below_drew1 | refine below_set ?_ GE254.out) | exact HB.out)⟩⟩
                  case rest =>
                    clear HC26
                    try clear c1
                    try clear q1
                    try clear c2
                    try clear c2b0
                    try clear p2
                    try clear q2
                    try clear hx2
                    try clear c3
                    try clear c3b0
                    try clear q3
                    try clear c4
                    try clear c4b0
                    try clear p6
                    try clear c9
                    try clear c10
                    try clear c10b0
                    try clear c11
                    try clear c11b0
                    try clear c12
                    try clear c12b0
                    try clear c12b1
                    try clear c17
                    try clear q17
                    try clear c25
                    try clear p25
                    try clear q25
                    try clear hx25
                    try clear p26
                    try clear q26
                    try clear hx26
                    try clear c27
                    try clear c27b0
                    try clear c28
                    try clear c28b0
                    try clear c28b1
                    try clear c29
                    try clear c29b0
                    try clear c29b1
                    try clear q30
                    try clear c31
                    try clear c31b0
                    try clear c32
                    try clear c32b0
                    try clear c33
                    try clear c33b0
                    try clear c34
                    try clear c34b0
                    try clear c34b1
                    try clear c36
                    try clear c40
                    try clear hcz37_0
                    try clear hcz37_1
                    try clear hcz37_2
                    try clear hcz37_3
                    try clear hcz37_4
                    try clear hcz38_0
                    try clear hcz38_1
                    try clear hcz38_2
                    try clear hcz38_3
                    try clear hcz38_4
                    try clear hcz41_0
                    try clear hcz41_1
                    try clear hcz41_2
                    try clear hcz41_3
                    try clear hcz41_4
                    try clear hcz42_0
                    try clear hcz42_1
                    try clear hcz42_2
                    try clear hcz42_3
                    try clear hcz42_4
                    try clear hcz7_0
                    try clear hcz7_1
                    try clear hcz7_2
                    try clear hcz7_3
                    try clear hcz7_4
                    try clear hfz37_0
                    try clear hfz37_1
                    try clear hfz37_2
                    try clear hfz37_3
                    try clear hfz37_4
                    try clear hfz38_0
                    try clear hfz38_1
                    try clear hfz38_2
                    try clear hfz38_3
                    try clear hfz38_4
                    try clear hfz41_0
                    try clear hfz41_1
                    try clear hfz41_2
                    try clear hfz41_3
                    try clear hfz41_4
                    try clear hfz42_0
                    try clear hfz42_1
                    try clear hfz42_2
                    try clear hfz42_3
                    try clear hfz42_4
                    try clear hfz7_0
                    try clear hfz7_1
                    try clear hfz7_2
                    try clear hfz7_3
                    try clear hfz7_4
                    try clear hx253_0
                    try clear hx253_1
                    try clear hx253_2
                    try clear hx253_3
                    try clear hx253_4
                    try clear hx265_0
                    try clear hx265_1
                    try clear hx265_2
                    try clear hx265_3
                    try clear hx265_4
                    try clear p2
                    try clear p25
                    try clear p253
                    try clear p265
                    try clear q1
                    try clear q17
                    try clear q2
                    try clear q25
                    try clear q253
                    try clear q265
                    try clear q3
                    try clear q30
                    obtain ⟨kq, HA, HJ25, BK254, HB⟩ := hcut
                    cases kq with
                    | zero => exact absurd HA.out (by simp [parryref1_MayVars.j3])
                    | succ kj25 =>
                      have H := HA.out
                      clear HA
                      simp only [parryref1_MayVars.j3] at H
                      have HC43 := Aside0.mk H
                      clear H
                      go_upto_region 13 with (fail)
                      go_cut [47] (fun v47 wc => ∃ (kq : Nat) (x47_42 : Bool), v47 = .bool x47_42 ∧ Aside0 (parryref1_MayVars.j4 kq l0 l0 (l0.length : Int) x9_1 x47_42 ((rd_T28 l0 x9_1).f0) ((rd_T28 l0 x9_1).f1) ((rd_T28 l0 x9_1).f2) ((rd_T28 l0 x9_1).f3) ((rd_T28 l0 x9_1).f4) = some r) ∧ Aside0 (kq ≤ kj25) ∧ Aside0 (wc.heap[gb254]? = some (.cells #[.string ((rd_T28 l0 x9_1).f0), .bool ((rd_T28 l0 x9_1).f1), .int .i64 ((rd_T28 l0 x9_1).f2), .int .i64 ((rd_T28 l0 x9_1).f3), .int .i64 ((rd_T28 l0 x9_1).f4)] 28 (0, 0))) ∧ Aside0 (Below w.heap.size w wc))
                      case first =>
                        have H := HC43.out
                        clear HC43
                        by_cases c44 : ((rd_T28 l0 x9_1).f2) = 1
                        · rw [if_pos c44] at H
                          have c44b0 : (((rd_T28 l0 x9_1).f2) == 1) = true := beq_iff_eq.mpr c44
                          have c44b1 : (((rd_T28 l0 x9_1).f2) != 1) = false := bne_eq_false_iff_eq.mpr c44
                          clear c44
                          (first | rw [c44b0] | (simp only [i64_w, i32_w]; rw [c44b0]) | skip)
                          have H' := Aside0.mk H
                          clear H
                          have hcz45_0 : wc.cell? ⟨gb254, 0, none⟩ = some (.string ((rd_T28 l0 x9_1).f0)) := (blk_cell BK254.out 0).trans rfl
                          have hcz45_1 : wc.cell? ⟨gb254, 1, none⟩ = some (.bool ((rd_T28 l0 x9_1).f1)) := (blk_cell BK254.out 1).trans rfl
                          have hcz45_2 : wc.cell? ⟨gb254, 2, none⟩ = some (.int .i64 ((rd_T28 l0 x9_1).f2)) := (blk_cell BK254.out 2).trans rfl
                          have hcz45_3 : wc.cell? ⟨gb254, 3, none⟩ = some (.int .i64 ((rd_T28 l0 x9_1).f3)) := (blk_cell BK254.out 3).trans rfl
                          have hcz45_4 : wc.cell? ⟨gb254, 4, none⟩ = some (.int .i64 ((rd_T28 l0 x9_1).f4)) := (blk_cell BK254.out 4).trans rfl
                          have hfz45_0 := blk_frozen BK254.out 0
                          have hfz45_1 := blk_frozen BK254.out 1
                          have hfz45_2 := blk_frozen BK254.out 2
                          have hfz45_3 := blk_frozen BK254.out 3
                          have hfz45_4 := blk_frozen BK254.out 4
                          go_wp2
                          go_meet
                          case rel => exact ⟨_, (false), (by first | rfl | (simp; done) | (simp [*]; done)), H', ⟨by have := HK1.out; have := HJ4.out; have := HJ25.out; first | omega | exact Nat.le_refl _⟩, ⟨by (with_reducible repeat (first | refine blk_drewN ?_ _ | refine blk_drew ?_ | refine blk_alloc ?_ _)); exact BK254.out⟩, ⟨by repeat (first | (with_reducible first | exact HB.out | apply below_alloc | apply pw_below_drewN | apply below_drew1 | refine below_set ?_ GE254.out) | exact HB.out)⟩⟩
                        · rw [if_neg c44] at H
                          have c44b0 : (((rd_T28 l0 x9_1).f2) == 1) = false := beq_eq_false_iff_ne.mpr c44
                          have c44b1 : (((rd_T28 l0 x9_1).f2) != 1) = true := bne_iff_ne.mpr c44
                          (first | rw [c44b0] | (simp only [i64_w, i32_w]; rw [c44b0]) | skip)
                          have H' := Aside0.mk H
                          clear H
                          have hcz46_0 : wc.cell? ⟨gb254, 0, none⟩ = some (.string ((rd_T28 l0 x9_1).f0)) := (blk_cell BK254.out 0).trans rfl
                          have hcz46_1 : wc.cell? ⟨gb254, 1, none⟩ = some (.bool ((rd_T28 l0 x9_1).f1)) := (blk_cell BK254.out 1).trans rfl
                          have hcz46_2 : wc.cell? ⟨gb254, 2, none⟩ = some (.int .i64 ((rd_T28 l0 x9_1).f2)) := (blk_cell BK254.out 2).trans rfl
                          have hcz46_3 : wc.cell? ⟨gb254, 3, none⟩ = some (.int .i64 ((rd_T28 l0 x9_1).f3)) := (blk_cell BK254.out 3).trans rfl
                          have hcz46_4 : wc.cell? ⟨gb254, 4, none⟩ = some (.int .i64 ((rd_T28 l0 x9_1).f4)) := (blk_cell BK254.out 4).trans rfl
                          have hfz46_0 := blk_frozen BK254.out 0
                          have hfz46_1 := blk_frozen BK254.out 1
                          have hfz46_2 := blk_frozen BK254.out 2
                          have hfz46_3 := blk_frozen BK254.out 3
                          have hfz46_4 := blk_frozen BK254.out 4
                          go_wp2
                          go_meet
                          case rel => exact ⟨_, ((((rd_T28 l0 x9_1).f2) != 2)), (by first | rfl | (simp; done) | (simp [*]; done)), H', ⟨by have := HK1.out; have := HJ4.out; have := HJ25.out; first | omega | exact Nat.le_refl _⟩, ⟨by (with_reducible repeat (first | refine blk_drewN ?_ _ | refine blk_drew ?_ | refine blk_alloc ?_ _)); exact BK254.out⟩, ⟨by repeat (first | (with_reducible first | exact HB.out | apply below_alloc | apply pw_below_drewN | apply below_drew1 | refine below_set ?_ GE254.out) | exact HB.out)⟩⟩
                      case rest =>
                        clear HC43
                        try clear c1
                        try clear q1
                        try clear c2
                        try clear c2b0
                        try clear p2
                        try clear q2
                        try clear hx2
                        try clear c3
                        try clear c3b0
                        try clear q3
                        try clear c4
                        try clear c4b0
                        try clear p6
                        try clear c9
                        try clear c10
                        try clear c10b0
                        try clear c11
                        try clear c11b0
                        try clear c12
                        try clear c12b0
                        try clear c12b1
                        try clear c17
                        try clear q17
                        try clear c25
                        try clear p25
                        try clear q25
                        try clear hx25
                        try clear p26
                        try clear q26
                        try clear hx26
                        try clear c27
                        try clear c27b0
                        try clear c28
                        try clear c28b0
                        try clear c28b1
                        try clear c29
                        try clear c29b0
                        try clear c29b1
                        try clear q30
                        try clear c31
                        try clear c31b0
                        try clear c32
                        try clear c32b0
                        try clear c33
                        try clear c33b0
                        try clear c34
                        try clear c34b0
                        try clear c34b1
                        try clear c36
                        try clear c40
                        try clear c44
                        try clear c44b0
                        try clear c44b1
                        try clear hcz37_0
                        try clear hcz37_1
                        try clear hcz37_2
                        try clear hcz37_3
                        try clear hcz37_4
                        try clear hcz38_0
                        try clear hcz38_1
                        try clear hcz38_2
                        try clear hcz38_3
                        try clear hcz38_4
                        try clear hcz41_0
                        try clear hcz41_1
                        try clear hcz41_2
                        try clear hcz41_3
                        try clear hcz41_4
                        try clear hcz42_0
                        try clear hcz42_1
                        try clear hcz42_2
                        try clear hcz42_3
                        try clear hcz42_4
                        try clear hcz45_0
                        try clear hcz45_1
                        try clear hcz45_2
                        try clear hcz45_3
                        try clear hcz45_4
                        try clear hcz46_0
                        try clear hcz46_1
                        try clear hcz46_2
                        try clear hcz46_3
                        try clear hcz46_4
                        try clear hcz7_0
                        try clear hcz7_1
                        try clear hcz7_2
                        try clear hcz7_3
                        try clear hcz7_4
                        try clear hfz37_0
                        try clear hfz37_1
                        try clear hfz37_2
                        try clear hfz37_3
                        try clear hfz37_4
                        try clear hfz38_0
                        try clear hfz38_1
                        try clear hfz38_2
                        try clear hfz38_3
                        try clear hfz38_4
                        try clear hfz41_0
                        try clear hfz41_1
                        try clear hfz41_2
                        try clear hfz41_3
                        try clear hfz41_4
                        try clear hfz42_0
                        try clear hfz42_1
                        try clear hfz42_2
                        try clear hfz42_3
                        try clear hfz42_4
                        try clear hfz45_0
                        try clear hfz45_1
                        try clear hfz45_2
                        try clear hfz45_3
                        try clear hfz45_4
                        try clear hfz46_0
                        try clear hfz46_1
                        try clear hfz46_2
                        try clear hfz46_3
                        try clear hfz46_4
                        try clear hfz7_0
                        try clear hfz7_1
                        try clear hfz7_2
                        try clear hfz7_3
                        try clear hfz7_4
                        try clear hx253_0
                        try clear hx253_1
                        try clear hx253_2
                        try clear hx253_3
                        try clear hx253_4
                        try clear hx265_0
                        try clear hx265_1
                        try clear hx265_2
                        try clear hx265_3
                        try clear hx265_4
                        try clear p2
                        try clear p25
                        try clear p253
                        try clear p26
                        try clear p265
                        try clear p6
                        try clear q1
                        try clear q17
                        try clear q2
                        try clear q25
                        try clear q253
                        try clear q26
                        try clear q265
                        try clear q3
                        try clear q30
                        obtain ⟨kq, x47_42, rfl, HA, HJ42, BK254, HB⟩ := hcut
                        cases kq with
                        | zero => exact absurd HA.out (by simp [parryref1_MayVars.j4])
                        | succ kj42 =>
                          have H := HA.out
                          clear HA
                          simp only [parryref1_MayVars.j4] at H
                          by_cases c47 : x47_42 = true
                          · subst c47
                            have H1 : (some 4) = some r := by rw [if_pos rfl] at H; exact H
                            clear H
                            have H := H1
                            clear H1
                            obtain rfl := Option.some.inj H
                            go_wp2
                            go_ret
                            exact ⟨by first | rfl | (simp [errW_none, errW_some] <;> rfl) | (simp [*, errW_none, errW_some] <;> rfl), by repeat (first | (with_reducible first | exact HB.out | apply below_alloc | apply pw_below_drewN | apply below_drew1 | refine below_set ?_ GE254.out) | exact HB.out)⟩
                          · replace c47 := Bool.eq_false_iff.mpr c47
                            subst c47
                            have H1 : (if ((rd_T28 l0 x9_1).f2) = 1 then (if ((rd_T28 l0 x9_1).f3) = 0 then (parryref1_MayVars.j5 kj42 l0 l0 (l0.length : Int) x9_1 (((rd_T28 l0 x9_1).f4) != 0) ((rd_T28 l0 x9_1).f0) ((rd_T28 l0 x9_1).f1) ((rd_T28 l0 x9_1).f2) ((rd_T28 l0 x9_1).f3) ((rd_T28 l0 x9_1).f4)) else (parryref1_MayVars.j5 kj42 l0 l0 (l0.length : Int) x9_1 true ((rd_T28 l0 x9_1).f0) ((rd_T28 l0 x9_1).f1) ((rd_T28 l0 x9_1).f2) ((rd_T28 l0 x9_1).f3) ((rd_T28 l0 x9_1).f4))) else (parryref1_MayVars.j5 kj42 l0 l0 (l0.length : Int) x9_1 false ((rd_T28 l0 x9_1).f0) ((rd_T28 l0 x9_1).f1) ((rd_T28 l0 x9_1).f2) ((rd_T28 l0 x9_1).f3) ((rd_T28 l0 x9_1).f4))) = some r := by rw [if_neg (show ¬ (false = true) by decide)] at H; exact H
                            clear H
                            have H := H1
                            clear H1
                            have HC48 := Aside0.mk H
                            clear H
                            go_upto_region 15 with (fail)
                            go_cut [56] (fun v56 wc => ∃ (kq : Nat) (x56_47 : Bool), v56 = .bool x56_47 ∧ Aside0 (parryref1_MayVars.j5 kq l0 l0 (l0.length : Int) x9_1 x56_47 ((rd_T28 l0 x9_1).f0) ((rd_T28 l0 x9_1).f1) ((rd_T28 l0 x9_1).f2) ((rd_T28 l0 x9_1).f3) ((rd_T28 l0 x9_1).f4) = some r) ∧ Aside0 (kq ≤ kj42) ∧ Aside0 (wc.heap[gb254]? = some (.cells #[.string ((rd_T28 l0 x9_1).f0), .bool ((rd_T28 l0 x9_1).f1), .int .i64 ((rd_T28 l0 x9_1).f2), .int .i64 ((rd_T28 l0 x9_1).f3), .int .i64 ((rd_T28 l0 x9_1).f4)] 28 (0, 0))) ∧ Aside0 (Below w.heap.size w wc))
                            case first =>
                              have H := HC48.out
                              clear HC48
                              by_cases c49 : ((rd_T28 l0 x9_1).f2) = 1
                              · rw [if_pos c49] at H
                                have c49b0 : (((rd_T28 l0 x9_1).f2) == 1) = true := beq_iff_eq.mpr c49
                                have c49b1 : (((rd_T28 l0 x9_1).f2) != 1) = false := bne_eq_false_iff_eq.mpr c49
                                clear c49
                                (first | rw [c49b0] | (simp only [i64_w, i32_w]; rw [c49b0]) | skip)
                                by_cases c50 : ((rd_T28 l0 x9_1).f3) = 0
                                · rw [if_pos c50] at H
                                  have c50b0 : (((rd_T28 l0 x9_1).f3) == 0) = true := beq_iff_eq.mpr c50
                                  have c50b1 : (((rd_T28 l0 x9_1).f3) != 0) = false := bne_eq_false_iff_eq.mpr c50
                                  clear c50
                                  have H' := Aside0.mk H
                                  clear H
                                  have hcz51_0 : wc.cell? ⟨gb254, 0, none⟩ = some (.string ((rd_T28 l0 x9_1).f0)) := (blk_cell BK254.out 0).trans rfl
                                  have hcz51_1 : wc.cell? ⟨gb254, 1, none⟩ = some (.bool ((rd_T28 l0 x9_1).f1)) := (blk_cell BK254.out 1).trans rfl
                                  have hcz51_2 : wc.cell? ⟨gb254, 2, none⟩ = some (.int .i64 ((rd_T28 l0 x9_1).f2)) := (blk_cell BK254.out 2).trans rfl
                                  have hcz51_3 : wc.cell? ⟨gb254, 3, none⟩ = some (.int .i64 ((rd_T28 l0 x9_1).f3)) := (blk_cell BK254.out 3).trans rfl
                                  have hcz51_4 : wc.cell? ⟨gb254, 4, none⟩ = some (.int .i64 ((rd_T28 l0 x9_1).f4)) := (blk_cell BK254.out 4).trans rfl
                                  have hfz51_0 := blk_frozen BK254.out 0
                                  have hfz51_1 := blk_frozen BK254.out 1
                                  have hfz51_2 := blk_frozen BK254.out 2
                                  have hfz51_3 := blk_frozen BK254.out 3
                                  have hfz51_4 := blk_frozen BK254.out 4
                                  go_wp2
                                  go_meet
                                  case rel => exact ⟨_, ((((rd_T28 l0 x9_1).f4) != 0)), (by first | rfl | (simp; done) | (simp [*]; done)), H', ⟨by have := HK1.out; have := HJ4.out; have := HJ25.out; have := HJ42.out; first | omega | exact Nat.le_refl _⟩, ⟨by (with_reducible repeat (first | refine blk_drewN ?_ _ | refine blk_drew ?_ | refine blk_alloc ?_ _)); exact BK254.out⟩, ⟨by repeat (first | (with_reducible first | exact HB.out | apply below_alloc | apply pw_below_drewN | apply below_drew1 | refine below_set ?_ GE254.out) | exact HB.out)⟩⟩
                                · rw [if_neg c50] at H
                                  have c50b0 : (((rd_T28 l0 x9_1).f3) == 0) = false := beq_eq_false_iff_ne.mpr c50
                                  have c50b1 : (((rd_T28 l0 x9_1).f3) != 0) = true := bne_iff_ne.mpr c50
                                  have H' := Aside0.mk H
                                  clear H
                                  have hcz52_0 : wc.cell? ⟨gb254, 0, none⟩ = some (.string ((rd_T28 l0 x9_1).f0)) := (blk_cell BK254.out 0).trans rfl
                                  have hcz52_1 : wc.cell? ⟨gb254, 1, none⟩ = some (.bool ((rd_T28 l0 x9_1).f1)) := (blk_cell BK254.out 1).trans rfl
                                  have hcz52_2 : wc.cell? ⟨gb254, 2, none⟩ = some (.int .i64 ((rd_T28 l0 x9_1).f2)) := (blk_cell BK254.out 2).trans rfl
                                  have hcz52_3 : wc.cell? ⟨gb254, 3, none⟩ = some (.int .i64 ((rd_T28 l0 x9_1).f3)) := (blk_cell BK254.out 3).trans rfl
                                  have hcz52_4 : wc.cell? ⟨gb254, 4, none⟩ = some (.int .i64 ((rd_T28 l0 x9_1).f4)) := (blk_cell BK254.out 4).trans rfl
                                  have hfz52_0 := blk_frozen BK254.out 0
                                  have hfz52_1 := blk_frozen BK254.out 1
                                  have hfz52_2 := blk_frozen BK254.out 2
                                  have hfz52_3 := blk_frozen BK254.out 3
                                  have hfz52_4 := blk_frozen BK254.out 4
                                  go_wp2
                                  go_meet
                                  case rel => exact ⟨_, (true), (by first | rfl | (simp; done) | (simp [*]; done)), H', ⟨by have := HK1.out; have := HJ4.out; have := HJ25.out; have := HJ42.out; first | omega | exact Nat.le_refl _⟩, ⟨by (with_reducible repeat (first | refine blk_drewN ?_ _ | refine blk_drew ?_ | refine blk_alloc ?_ _)); exact BK254.out⟩, ⟨by repeat (first | (with_reducible first | exact HB.out | apply below_alloc | apply pw_below_drewN | apply below_drew1 | refine below_set ?_ GE254.out) | exact HB.out)⟩⟩
                              · rw [if_neg c49] at H
                                have c49b0 : (((rd_T28 l0 x9_1).f2) == 1) = false := beq_eq_false_iff_ne.mpr c49
                                have c49b1 : (((rd_T28 l0 x9_1).f2) != 1) = true := bne_iff_ne.mpr c49
                                (first | rw [c49b0] | (simp only [i64_w, i32_w]; rw [c49b0]) | skip)
                                have H' := Aside0.mk H
                                clear H
                                have hcz53_0 : wc.cell? ⟨gb254, 0, none⟩ = some (.string ((rd_T28 l0 x9_1).f0)) := (blk_cell BK254.out 0).trans rfl
                                have hcz53_1 : wc.cell? ⟨gb254, 1, none⟩ = some (.bool ((rd_T28 l0 x9_1).f1)) := (blk_cell BK254.out 1).trans rfl
                                have hcz53_2 : wc.cell? ⟨gb254, 2, none⟩ = some (.int .i64 ((rd_T28 l0 x9_1).f2)) := (blk_cell BK254.out 2).trans rfl
                                have hcz53_3 : wc.cell? ⟨gb254, 3, none⟩ = some (.int .i64 ((rd_T28 l0 x9_1).f3)) := (blk_cell BK254.out 3).trans rfl
                                have hcz53_4 : wc.cell? ⟨gb254, 4, none⟩ = some (.int .i64 ((rd_T28 l0 x9_1).f4)) := (blk_cell BK254.out 4).trans rfl
                                have hfz53_0 := blk_frozen BK254.out 0
                                have hfz53_1 := blk_frozen BK254.out 1
                                have hfz53_2 := blk_frozen BK254.out 2
                                have hfz53_3 := blk_frozen BK254.out 3
                                have hfz53_4 := blk_frozen BK254.out 4
                                go_wp2
                                go_meet
                                case rel => exact ⟨_, (false), (by first | rfl | (simp; done) | (simp [*]; done)), H', ⟨by have := HK1.out; have := HJ4.out; have := HJ25.out; have := HJ42.out; first | omega | exact Nat.le_refl _⟩, ⟨by (with_reducible repeat (first | refine blk_drewN ?_ _ | refine blk_drew ?_ | refine blk_alloc ?_ _)); exact BK254.out⟩, ⟨by repeat (first | (with_reducible first | exact HB.out | apply below_alloc | apply pw_below_drewN | apply below_drew1 | refine below_set ?_ GE254.out) | exact HB.out)⟩⟩
                            case rest =>
                              clear HC48
                              try clear c1
                              try clear q1
                              try clear c2
                              try clear c2b0
                              try clear p2
                              try clear q2
                              try clear hx2
                              try clear c3
                              try clear c3b0
                              try clear q3
                              try clear c4
                              try clear c4b0
                              try clear c5
                              try clear p6
                              try clear c9
                              try clear c10
                              try clear c10b0
                              try clear c11
                              try clear c11b0
                              try clear c12
                              try clear c12b0
                              try clear c12b1
                              try clear c17
                              try clear q17
                              try clear c25
                              try clear p25
                              try clear q25
                              try clear hx25
                              try clear p26
                              try clear q26
                              try clear hx26
                              try clear c27
                              try clear c27b0
                              try clear c28
                              try clear c28b0
                              try clear c28b1
                              try clear c29
                              try clear c29b0
                              try clear c29b1
                              try clear q30
                              try clear c31
                              try clear c31b0
                              try clear c32
                              try clear c32b0
                              try clear c33
                              try clear c33b0
                              try clear c34
                              try clear c34b0
                              try clear c34b1
                              try clear c36
                              try clear c40
                              try clear c44
                              try clear c44b0
                              try clear c44b1
                              try clear c47
                              try clear c49
                              try clear c49b0
                              try clear c49b1
                              try clear c50
                              try clear c50b0
                              try clear c50b1
                              try clear hcz37_0
                              try clear hcz37_1
                              try clear hcz37_2
                              try clear hcz37_3
                              try clear hcz37_4
                              try clear hcz38_0
                              try clear hcz38_1
                              try clear hcz38_2
                              try clear hcz38_3
                              try clear hcz38_4
                              try clear hcz41_0
                              try clear hcz41_1
                              try clear hcz41_2
                              try clear hcz41_3
                              try clear hcz41_4
                              try clear hcz42_0
                              try clear hcz42_1
                              try clear hcz42_2
                              try clear hcz42_3
                              try clear hcz42_4
                              try clear hcz45_0
                              try clear hcz45_1
                              try clear hcz45_2
                              try clear hcz45_3
                              try clear hcz45_4
                              try clear hcz46_0
                              try clear hcz46_1
                              try clear hcz46_2
                              try clear hcz46_3
                              try clear hcz46_4
                              try clear hcz51_0
                              try clear hcz51_1
                              try clear hcz51_2
                              try clear hcz51_3
                              try clear hcz51_4
                              try clear hcz52_0
                              try clear hcz52_1
                              try clear hcz52_2
                              try clear hcz52_3
                              try clear hcz52_4
                              try clear hcz53_0
                              try clear hcz53_1
                              try clear hcz53_2
                              try clear hcz53_3
                              try clear hcz53_4
                              try clear hcz7_0
                              try clear hcz7_1
                              try clear hcz7_2
                              try clear hcz7_3
                              try clear hcz7_4
                              try clear hfz37_0
                              try clear hfz37_1
                              try clear hfz37_2
                              try clear hfz37_3
                              try clear hfz37_4
                              try clear hfz38_0
                              try clear hfz38_1
                              try clear hfz38_2
                              try clear hfz38_3
                              try clear hfz38_4
                              try clear hfz41_0
                              try clear hfz41_1
                              try clear hfz41_2
                              try clear hfz41_3
                              try clear hfz41_4
                              try clear hfz42_0
                              try clear hfz42_1
                              try clear hfz42_2
                              try clear hfz42_3
                              try clear hfz42_4
                              try clear hfz45_0
                              try clear hfz45_1
                              try clear hfz45_2
                              try clear hfz45_3
                              try clear hfz45_4
                              try clear hfz46_0
                              try clear hfz46_1
                              try clear hfz46_2
                              try clear hfz46_3
                              try clear hfz46_4
                              try clear hfz51_0
                              try clear hfz51_1
                              try clear hfz51_2
                              try clear hfz51_3
                              try clear hfz51_4
                              try clear hfz52_0
                              try clear hfz52_1
                              try clear hfz52_2
                              try clear hfz52_3
                              try clear hfz52_4
                              try clear hfz53_0
                              try clear hfz53_1
                              try clear hfz53_2
                              try clear hfz53_3
                              try clear hfz53_4
                              try clear hfz7_0
                              try clear hfz7_1
                              try clear hfz7_2
                              try clear hfz7_3
                              try clear hfz7_4
                              try clear hx253_0
                              try clear hx253_1
                              try clear hx253_2
                              try clear hx253_3
                              try clear hx253_4
                              try clear hx265_0
                              try clear hx265_1
                              try clear hx265_2
                              try clear hx265_3
                              try clear hx265_4
                              try clear p2
                              try clear p25
                              try clear p253
                              try clear p26
                              try clear p265
                              try clear p6
                              try clear q1
                              try clear q17
                              try clear q2
                              try clear q25
                              try clear q253
                              try clear q26
                              try clear q265
                              try clear q3
                              try clear q30
                              obtain ⟨kq, x56_47, rfl, HA, HJ47, BK254, HB⟩ := hcut
                              cases kq with
                              | zero => exact absurd HA.out (by simp [parryref1_MayVars.j5])
                              | succ kj47 =>
                                have H := HA.out
                                clear HA
                                simp only [parryref1_MayVars.j5] at H
                                by_cases c54 : x56_47 = true
                                · subst c54
                                  have H1 : (some 6) = some r := by rw [if_pos rfl] at H; exact H
                                  clear H
                                  have H := H1
                                  clear H1
                                  obtain rfl := Option.some.inj H
                                  go_wp2
                                  go_ret
                                  exact ⟨by first | rfl | (simp [errW_none, errW_some] <;> rfl) | (simp [*, errW_none, errW_some] <;> rfl), by repeat (first | (with_reducible first | exact HB.out | apply below_alloc | apply pw_below_drewN | apply below_drew1 | refine below_set ?_ GE254.out) | exact HB.out)⟩
                                · replace c54 := Bool.eq_false_iff.mpr c54
                                  subst c54
                                  have H1 : ((parryref1_Size.f ((rd_T28 l0 x9_1).f0) ((rd_T28 l0 x9_1).f1) ((rd_T28 l0 x9_1).f2) ((rd_T28 l0 x9_1).f3) ((rd_T28 l0 x9_1).f4)).bind fun t267 => (if t267 = 0 then (some 6) else (parryref1_MayVars.l0 kj47 l0 l0 (l0.length : Int) (wrap64 (x9_1 + 1))))) = some r := by rw [if_neg (show ¬ (false = true) by decide)] at H; exact H
                                  clear H
                                  have H := H1
                                  clear H1
                                  replace H := Option.bind_eq_some_iff.mp H
                                  obtain ⟨t267, A550, H⟩ := H
                                  replace H : (if t267 = 0 then (some 6) else (parryref1_MayVars.l0 kj47 l0 l0 (l0.length : Int) (wrap64 (x9_1 + 1)))) = some r := H
                                  have A55 := Aside0.mk A550
                                  clear A550
                                  by_cases c56 : t267 = 0
                                  · rw [if_pos c56] at H
                                    have c56b0 : (t267 == 0) = true := beq_iff_eq.mpr c56
                                    have c56b1 : (t267 != 0) = false := bne_eq_false_iff_eq.mpr c56
                                    clear c56
                                    obtain rfl := Option.some.inj H
                                    have hcz57_0 : wc.cell? ⟨gb254, 0, none⟩ = some (.string ((rd_T28 l0 x9_1).f0)) := (blk_cell BK254.out 0).trans rfl
                                    have hcz57_1 : wc.cell? ⟨gb254, 1, none⟩ = some (.bool ((rd_T28 l0 x9_1).f1)) := (blk_cell BK254.out 1).trans rfl
                                    have hcz57_2 : wc.cell? ⟨gb254, 2, none⟩ = some (.int .i64 ((rd_T28 l0 x9_1).f2)) := (blk_cell BK254.out 2).trans rfl
                                    have hcz57_3 : wc.cell? ⟨gb254, 3, none⟩ = some (.int .i64 ((rd_T28 l0 x9_1).f3)) := (blk_cell BK254.out 3).trans rfl
                                    have hcz57_4 : wc.cell? ⟨gb254, 4, none⟩ = some (.int .i64 ((rd_T28 l0 x9_1).f4)) := (blk_cell BK254.out 4).trans rfl
                                    have hfz57_0 := blk_frozen BK254.out 0
                                    have hfz57_1 := blk_frozen BK254.out 1
                                    have hfz57_2 := blk_frozen BK254.out 2
                                    have hfz57_3 := blk_frozen BK254.out 3
                                    have hfz57_4 := blk_frozen BK254.out 4
                                    go_wp2_with (first | ((with_reducible refine gate_callee (f := 19) rfl ?_); refine goesL_ (some 71) rfl rfl Try.func19 (by kernel_rfl) rfl #[.agg #[.string ((rd_T28 l0 x9_1).f0), .bool ((rd_T28 l0 x9_1).f1), .int .i64 ((rd_T28 l0 x9_1).f2), .int .i64 ((rd_T28 l0 x9_1).f3), .int .i64 ((rd_T28 l0 x9_1).f4)]] rfl (by (try simp only [List.map_toArray, List.map_cons, List.map_nil]); first | done | rfl | (simp only [List.length_drop, List.length_take]; rfl)) ?_; (with_reducible refine (parryref1_Size.calls ((rd_T28 l0 x9_1).f0) ((rd_T28 l0 x9_1).f1) ((rd_T28 l0 x9_1).f2) ((rd_T28 l0 x9_1).f3) ((rd_T28 l0 x9_1).f4) t267 _ A55.out).mono ?_); rintro e w58 ⟨rfl, hb⟩; refine ⟨_, rfl, ?_⟩; have n0_ := Aside0.mk (blk_below (g := gb254) (o := .cells #[.string ((rd_T28 l0 x9_1).f0), .bool ((rd_T28 l0 x9_1).f1), .int .i64 ((rd_T28 l0 x9_1).f2), .int .i64 ((rd_T28 l0 x9_1).f3), .int .i64 ((rd_T28 l0 x9_1).f4)] 28 (0, 0)) (by (with_reducible repeat (first | refine blk_drewN ?_ _ | refine blk_drew ?_ | refine blk_alloc ?_ _)); exact BK254.out) hb); have n1_ := Aside0.mk (below_step (by repeat (first | (with_reducible first | exact HB.out | apply below_alloc | apply pw_below_drewN | apply below_drew1 | refine below_set ?_ GE254.out) | exact HB.out)) hb); clear BK254; clear HB; have BK254 := n0_; have HB := n1_; clear n0_ n1_; (try clear hb); (try clear hb2); (try clear hk); (try clear hi)))
                                    go_ret
                                    exact ⟨by first | rfl | (simp [errW_none, errW_some] <;> rfl) | (simp [*, errW_none, errW_some] <;> rfl), by repeat (first | (with_reducible first | exact HB.out | apply below_alloc | apply pw_below_drewN | apply below_drew1 | refine below_set ?_ GE254.out) | exact HB.out)⟩
                                  · rw [if_neg c56] at H
                                    have c56b0 : (t267 == 0) = false := beq_eq_false_iff_ne.mpr c56
                                    have c56b1 : (t267 != 0) = true := bne_iff_ne.mpr c56
                                    have H' := Aside0.mk H
                                    clear H
                                    have hcz59_0 : wc.cell? ⟨gb254, 0, none⟩ = some (.string ((rd_T28 l0 x9_1).f0)) := (blk_cell BK254.out 0).trans rfl
                                    have hcz59_1 : wc.cell? ⟨gb254, 1, none⟩ = some (.bool ((rd_T28 l0 x9_1).f1)) := (blk_cell BK254.out 1).trans rfl
                                    have hcz59_2 : wc.cell? ⟨gb254, 2, none⟩ = some (.int .i64 ((rd_T28 l0 x9_1).f2)) := (blk_cell BK254.out 2).trans rfl
                                    have hcz59_3 : wc.cell? ⟨gb254, 3, none⟩ = some (.int .i64 ((rd_T28 l0 x9_1).f3)) := (blk_cell BK254.out 3).trans rfl
                                    have hcz59_4 : wc.cell? ⟨gb254, 4, none⟩ = some (.int .i64 ((rd_T28 l0 x9_1).f4)) := (blk_cell BK254.out 4).trans rfl
                                    have hfz59_0 := blk_frozen BK254.out 0
                                    have hfz59_1 := blk_frozen BK254.out 1
                                    have hfz59_2 := blk_frozen BK254.out 2
                                    have hfz59_3 := blk_frozen BK254.out 3
                                    have hfz59_4 := blk_frozen BK254.out 4
                                    go_wp2_with (first | ((with_reducible refine gate_callee (f := 19) rfl ?_); refine goesL_ (some 71) rfl rfl Try.func19 (by kernel_rfl) rfl #[.agg #[.string ((rd_T28 l0 x9_1).f0), .bool ((rd_T28 l0 x9_1).f1), .int .i64 ((rd_T28 l0 x9_1).f2), .int .i64 ((rd_T28 l0 x9_1).f3), .int .i64 ((rd_T28 l0 x9_1).f4)]] rfl (by (try simp only [List.map_toArray, List.map_cons, List.map_nil]); first | done | rfl | (simp only [List.length_drop, List.length_take]; rfl)) ?_; (with_reducible refine (parryref1_Size.calls ((rd_T28 l0 x9_1).f0) ((rd_T28 l0 x9_1).f1) ((rd_T28 l0 x9_1).f2) ((rd_T28 l0 x9_1).f3) ((rd_T28 l0 x9_1).f4) t267 _ A55.out).mono ?_); rintro e w60 ⟨rfl, hb⟩; refine ⟨_, rfl, ?_⟩; have n0_ := Aside0.mk (blk_below (g := gb254) (o := .cells #[.string ((rd_T28 l0 x9_1).f0), .bool ((rd_T28 l0 x9_1).f1), .int .i64 ((rd_T28 l0 x9_1).f2), .int .i64 ((rd_T28 l0 x9_1).f3), .int .i64 ((rd_T28 l0 x9_1).f4)] 28 (0, 0)) (by (with_reducible repeat (first | refine blk_drewN ?_ _ | refine blk_drew ?_ | refine blk_alloc ?_ _)); exact BK254.out) hb); have n1_ := Aside0.mk (below_step (by repeat (first | (with_reducible first | exact HB.out | apply below_alloc | apply pw_below_drewN | apply below_drew1 | refine below_set ?_ GE254.out) | exact HB.out)) hb); clear BK254; clear HB; have BK254 := n0_; have HB := n1_; clear n0_ n1_; (try clear hb); (try clear hb2); (try clear hk); (try clear hi)))
                                    go_roundg kj47
                                    case measure => have := HK1.out; have := HJ4.out; have := HJ25.out; have := HJ42.out; have := HJ47.out; omega
                                    case rel => exact ⟨(wrap64 (x9_1 + 1)), (by first | rfl | (simp; done) | (simp [*]; done)), H', ⟨by have := HK1.out; have := HJ4.out; have := HJ25.out; have := HJ42.out; have := HJ47.out; omega⟩, ⟨by repeat (first | (with_reducible first | exact HB.out | apply below_alloc | apply pw_below_drewN | apply below_drew1 | refine below_set ?_ GE254.out) | exact HB.out)⟩⟩
          · rw [if_neg c4] at H
            exact absurd H (by simp)
        · rw [if_neg c3] at H
          exact absurd H (by simp)
      · rw [if_neg c2] at H
        have c2b0 : decide (x9_1 < (l0.length : Int)) = false := decide_eq_false c2
        clear c2
        by_cases c61 : (l0.length : Int) > 6
        · rw [if_pos c61] at H
          have c61b0 : decide (6 < (l0.length : Int)) = true := decide_eq_true c61
          have c61b1 : decide (6 < l0.length) = true := decide_eq_true (by omega)
          clear c61
          obtain rfl := Option.some.inj H
          go_wp2
          go_ret
          exact ⟨by first | rfl | (simp [errW_none, errW_some] <;> rfl) | (simp [*, errW_none, errW_some] <;> rfl), by repeat (first | (with_reducible first | exact HB.out | apply below_alloc | apply pw_below_drewN | apply below_drew1) | exact HB.out)⟩
        · rw [if_neg c61] at H
          have c61b0 : decide (6 < (l0.length : Int)) = false := decide_eq_false c61
          have c61b1 : decide (6 < l0.length) = false := decide_eq_false (by omega)
          clear c61
          replace H := Option.bind_eq_some_iff.mp H
          obtain ⟨t252, A620, H⟩ := H
          replace H : (if t252 > 512 then (some 7) else (some 0)) = some r := H
          have A62 := Aside0.mk A620
          clear A620
          by_cases c63 : t252 > 512
          · rw [if_pos c63] at H
            have c63b0 : decide (512 < t252) = true := decide_eq_true c63
            clear c63
            obtain rfl := Option.some.inj H
            go_wp2_with (first | (go_at_call 35; (with_reducible refine (parryref1_product.calls k1 _ _ l0 t252 _ ?side1 ?side2 A62.out).mono ?_); (case side1 => repeat (first | exact (Kd.C_below HR0.out HB.out) | (with_reducible refine Kd.C_alloc ?_ _) | (with_reducible refine Kd.C_drewN ?_ _) | (with_reducible refine Kd.C_drew ?_))); (case side2 => exact HC0.out); rintro e w64 ⟨rfl, hb⟩; have n0_ := Aside0.mk (below_step (by repeat (first | (with_reducible first | exact HB.out | apply below_alloc | apply pw_below_drewN | apply below_drew1) | exact HB.out)) hb); clear HB; have HB := n0_; clear n0_; (try clear hb); (try clear hb2); (try clear hk); (try clear hi)))
            go_ret
            exact ⟨by first | rfl | (simp [errW_none, errW_some] <;> rfl) | (simp [*, errW_none, errW_some] <;> rfl), by repeat (first | (with_reducible first | exact HB.out | apply below_alloc | apply pw_below_drewN | apply below_drew1) | exact HB.out)⟩
          · rw [if_neg c63] at H
            have c63b0 : decide (512 < t252) = false := decide_eq_false c63
            clear c63
            obtain rfl := Option.some.inj H
            go_wp2_with (first | (go_at_call 35; (with_reducible refine (parryref1_product.calls k1 _ _ l0 t252 _ ?side1 ?side2 A62.out).mono ?_); (case side1 => repeat (first | exact (Kd.C_below HR0.out HB.out) | (with_reducible refine Kd.C_alloc ?_ _) | (with_reducible refine Kd.C_drewN ?_ _) | (with_reducible refine Kd.C_drew ?_))); (case side2 => exact HC0.out); rintro e w65 ⟨rfl, hb⟩; have n0_ := Aside0.mk (below_step (by repeat (first | (with_reducible first | exact HB.out | apply below_alloc | apply pw_below_drewN | apply below_drew1) | exact HB.out)) hb); clear HB; have HB := n0_; clear n0_; (try clear hb); (try clear hb2); (try clear hk); (try clear hi)))
            go_ret
            exact ⟨by first | rfl | (simp [errW_none, errW_some] <;> rfl) | (simp [*, errW_none, errW_some] <;> rfl), by repeat (first | (with_reducible first | exact HB.out | apply below_alloc | apply pw_below_drewN | apply below_drew1) | exact HB.out)⟩

end Go.Proofs.Ytofmfnbiondplaa.P

namespace Go.Proofs.Ytofmfnbiondplaa.P
open Go.RowKit Go.Proofs.YtofmfnbiondplaaW.PrintWords Go.Proofs.YtofmfnbiondplaaW.PrintLast Go.Proofs.YtofmfnbiondplaaW.PrintMore
attribute [local go_sem] max2_int min2_int max_two min_two max_three min_three max_four min_four   -- for this text's walks alone
set_option linter.unusedVariables false
set_option linter.unusedSimpArgs false

open Go.Proofs.Ytofmfnbiondplaa.X
mutual
def parryref1_Total.j0 : Nat → List (S28) → Bool → Option (Int)
  | 0, _, _ => none
  | k + 1, x0, x13 => if x13 = true then (some 0) else (if (x0.length : Int) > 6 then (parryref1_Total.j1 k x0 true) else ((parryref1_product.f k x0).bind fun t269 => (parryref1_Total.j1 k x0 (decide (t269 > 512)))))
def parryref1_Total.j1 : Nat → List (S28) → Bool → Option (Int)
  | 0, _, _ => none
  | k + 1, x0, x21 => if x21 = true then (some 0) else (parryref1_Total.l0 k x0 x0 (x0.length : Int) 0)
def parryref1_Total.l0 : Nat → List (S28) → List (S28) → Int → Int → Option (Int)
  | 0, _, _, _, _ => none
  | k + 1, x0, x22, x23, x24 => if x24 < x23 then (if 0 ≤ x24 then (if x24 < (x22.length : Int) then ((parryref1_Size.f ((rd_T28 x22 x24).f0) ((rd_T28 x22 x24).f1) ((rd_T28 x22 x24).f2) ((rd_T28 x22 x24).f3) ((rd_T28 x22 x24).f4)).bind fun t272 => (if t272 = 0 then (some 0) else (if ((rd_T28 x22 x24).f2) = 1 then (if ((rd_T28 x22 x24).f3) = 0 then (if ((rd_T28 x22 x24).f4) = 0 then (parryref1_Total.l0 k x0 x22 x23 (wrap64 (x24 + 1))) else (some 0)) else (some 0)) else (parryref1_Total.l0 k x0 x22 x23 (wrap64 (x24 + 1)))))) else (none)) else (none)) else ((parryref1_product.f k x0).bind fun t273 => (some t273))
end
def parryref1_Total.f (k : Nat) (l0 : List (S28)) : Option (Int) := (parryref1_MayVars.f k l0).bind fun t268 => (if t268 = 0 then (parryref1_Total.j0 k l0 false) else (parryref1_Total.j0 k l0 (t268 != 3)))
theorem parryref1_Total.mono_l : ∀ k, (∀ y0 y1, LeO (parryref1_Total.j0 k y0 y1) (parryref1_Total.j0 (k + 1) y0 y1)) ∧ (∀ y0 y1, LeO (parryref1_Total.j1 k y0 y1) (parryref1_Total.j1 (k + 1) y0 y1)) ∧ (∀ y0 y1 y2 y3, LeO (parryref1_Total.l0 k y0 y1 y2 y3) (parryref1_Total.l0 (k + 1) y0 y1 y2 y3))
  | 0 => ⟨fun _ _ r h => by simp [parryref1_Total.j0] at h, fun _ _ r h => by simp [parryref1_Total.j1] at h, fun _ _ _ _ r h => by simp [parryref1_Total.l0] at h⟩
  | k + 1 => by
    obtain ⟨ih0, ih1, ih2⟩ := parryref1_Total.mono_l k
    refine ⟨?_, ?_, ?_⟩
    · intro y0 y1
      unfold parryref1_Total.j0
      repeat' first
      | (with_reducible exact ih0 _ _)
      | (with_reducible exact ih1 _ _)
      | (with_reducible exact ih2 _ _ _ _)
      | (with_reducible exact parryref1_MayVars.mono _ _)
      | (with_reducible exact parryref1_product.mono _ _)
      | (with_reducible exact LeO.refl _)
      | (with_reducible exact LeO.none _)
      | (with_reducible refine LeO.ite ?_ ?_)
      | (with_reducible refine LeO.bind ?_ (fun _ => ?_))
      | exact ih0 _ _
      | exact ih1 _ _
      | exact ih2 _ _ _ _
      | exact parryref1_MayVars.mono _ _
      | exact parryref1_product.mono _ _
      | exact LeO.none _
      | refine LeO.ite ?_ ?_
      | refine LeO.bind ?_ (fun _ => ?_)
    · intro y0 y1
      unfold parryref1_Total.j1
      repeat' first
      | (with_reducible exact ih0 _ _)
      | (with_reducible exact ih1 _ _)
      | (with_reducible exact ih2 _ _ _ _)
      | (with_reducible exact parryref1_MayVars.mono _ _)
      | (with_reducible exact parryref1_product.mono _ _)
      | (with_reducible exact LeO.refl _)
      | (with_reducible exact LeO.none _)
      | (with_reducible refine LeO.ite ?_ ?_)
      | (with_reducible refine LeO.bind ?_ (fun _ => ?_))
      | exact ih0 _ _
      | exact ih1 _ _
      | exact ih2 _ _ _ _
      | exact parryref1_MayVars.mono _ _
      | exact parryref1_product.mono _ _
      | exact LeO.none _
      | refine LeO.ite ?_ ?_
      | refine LeO.bind ?_ (fun _ => ?_)
    · intro y0 y1 y2 y3
      unfold parryref1_Total.l0
      repeat' first
      | (with_reducible exact ih0 _ _)
      | (with_reducible exact ih1 _ _)
      | (with_reducible exact ih2 _ _ _ _)
      | (with_reducible exact parryref1_MayVars.mono _ _)
      | (with_reducible exact parryref1_product.mono _ _)
      | (with_reducible exact LeO.refl _)
      | (with_reducible exact LeO.none _)
      | (with_reducible refine LeO.ite ?_ ?_)
      | (with_reducible refine LeO.bind ?_ (fun _ => ?_))
      | exact ih0 _ _
      | exact ih1 _ _
      | exact ih2 _ _ _ _
      | exact parryref1_MayVars.mono _ _
      | exact parryref1_product.mono _ _
      | exact LeO.none _
      | refine LeO.ite ?_ ?_
      | refine LeO.bind ?_ (fun _ => ?_)
theorem parryref1_Total.mono : ∀ a0 k, LeO (parryref1_Total.f k a0) (parryref1_Total.f (k + 1) a0) := by
  intro a0 k
  obtain ⟨ih0, ih1, ih2⟩ := parryref1_Total.mono_l k
  unfold parryref1_Total.f
  repeat' first
      | (with_reducible exact ih0 _ _)
      | (with_reducible exact ih1 _ _)
      | (with_reducible exact ih2 _ _ _ _)
      | (with_reducible exact parryref1_MayVars.mono _ _)
      | (with_reducible exact parryref1_product.mono _ _)
      | (with_reducible exact LeO.refl _)
      | (with_reducible exact LeO.none _)
      | (with_reducible refine LeO.ite ?_ ?_)
      | (with_reducible refine LeO.bind ?_ (fun _ => ?_))
      | exact ih0 _ _
      | exact ih1 _ _
      | exact ih2 _ _ _ _
      | exact parryref1_MayVars.mono _ _
      | exact parryref1_product.mono _ _
      | exact LeO.none _
      | refine LeO.ite ?_ ?_
      | refine LeO.bind ?_ (fun _ => ?_)
set_option maxHeartbeats 8000000 in
set_option maxRecDepth 100000 in
theorem parryref1_Total.calls (k : Nat) (A0 : Option Addr) (c0 : Nat) (l0 : List (S28)) (r : Int) (w : World) (hr0 : Kd.C k28 w A0 l0.length l0) (hc0 : l0.length ≤ c0) (h : parryref1_Total.f k l0 = some r) :
    Calls Try.prog 18 #[.slice A0 l0.length c0] w fun e w' => e = .returned (.int .i64 r) ∧ Below w.heap.size w w' := by
  have hu28 := Try.underlying28
  have HR0 := Aside0.mk hr0
  have HC0 := Aside0.mk hc0
  clear hr0 hc0
  have HB := Aside0.mk (Below.refl w.heap.size w)
  have H : ((parryref1_MayVars.f k l0).bind fun t268 => (if t268 = 0 then (parryref1_Total.j0 k l0 false) else (parryref1_Total.j0 k l0 (t268 != 3)))) = some r := h
  clear h
  replace H := Option.bind_eq_some_iff.mp H
  obtain ⟨t268, A20, H⟩ := H
  replace H : (if t268 = 0 then (parryref1_Total.j0 k l0 false) else (parryref1_Total.j0 k l0 (t268 != 3))) = some r := H
  have A2 := Aside0.mk A20
  clear A20
  have HC3 := Aside0.mk H
  clear H
  go_enter Try.func18, Try.ntmps18
  go_upto_region 2 with (first | ((with_reducible refine gate_callee (f := 17) rfl ?_); refine goesL_ (some 7) rfl rfl Try.func17 (by kernel_rfl) rfl #[.slice A0 l0.length c0] rfl (by (try simp only [List.map_toArray, List.map_cons, List.map_nil]); first | done | rfl | (simp only [List.length_drop, List.length_take]; rfl)) ?_; (with_reducible refine (parryref1_MayVars.calls k _ _ l0 t268 _ ?side1 ?side2 A2.out).mono ?_); (case side1 => repeat (first | exact HR0.out | (with_reducible refine Kd.C_alloc ?_ _) | (with_reducible refine Kd.C_drewN ?_ _) | (with_reducible refine Kd.C_drew ?_))); (case side2 => exact HC0.out); rintro e w4 ⟨rfl, hb⟩; refine ⟨_, rfl, ?_⟩; have n0_ := Aside0.mk (below_step (by repeat (first | (with_reducible first | exact HB.out | apply below_alloc | apply pw_below_drewN | apply below_drew1) | exact HB.out)) hb); clear HB; have HB := n0_; clear n0_; (try clear hb); (try clear hb2); (try clear hk); (try clear hi)))
  (try simp only [Act.put, List.setIfInBounds_toArray, List.set_cons_zero, List.set_cons_succ])
  go_cut [13] (fun v13 wc => ∃ (kq : Nat) (x13_2 : Bool), v13 = .bool x13_2 ∧ Aside0 (parryref1_Total.j0 kq l0 x13_2 = some r) ∧ Aside0 (kq ≤ k) ∧ Aside0 (Below w.heap.size w wc))
  case first =>
    have H := HC3.out
    clear HC3
    by_cases c5 : t268 = 0
    · rw [if_pos c5] at H
      have c5b0 : (t268 == 0) = true := beq_iff_eq.mpr c5
      have c5b1 : (t268 != 0) = false := bne_eq_false_iff_eq.mpr c5
      clear c5
      (first | rw [c5b0] | (simp only [i64_w, i32_w]; rw [c5b0]) | skip)
      have H' := Aside0.mk H
      clear H
      go_wp2
      go_meet
      case rel => exact ⟨_, (false), (by first | rfl | (simp; done) | (simp [*]; done)), H', ⟨by first | omega | exact Nat.le_refl _⟩, ⟨by repeat (first | (with_reducible first | exact HB.out | apply below_alloc | apply pw_below_drewN | apply below_drew1) | exact HB.out)⟩⟩
    · rw [if_neg c5] at H
      have c5b0 : (t268 == 0) = false := beq_eq_false_iff_ne.mpr c5
      have c5b1 : (t268 != 0) = true := bne_iff_ne.mpr c5
      (first | rw [c5b0] | (simp only [i64_w, i32_w]; rw [c5b0]) | skip)
      have H' := Aside0.mk H
      clear H
      go_wp2
      go_meet
      case rel => exact ⟨_, ((t268 != 3)), (by first | rfl | (simp; done) | (simp [*]; done)), H', ⟨by first | omega | exact Nat.le_refl _⟩, ⟨by repeat (first | (with_reducible first | exact HB.out | apply below_alloc | apply pw_below_drewN | apply below_drew1) | exact HB.out)⟩⟩
  case rest =>
    clear HC3
    try clear c1
    try clear p2
    try clear c5
    try clear c5b0
    try clear c5b1
    obtain ⟨kq, x13_2, rfl, HA, HJ2, HB⟩ := hcut
    cases kq with
    | zero => exact absurd HA.out (by simp [parryref1_Total.j0])
    | succ kj2 =>
      have H := HA.out
      clear HA
      simp only [parryref1_Total.j0] at H
      by_cases c6 : x13_2 = true
      · subst c6
        have H1 : (some 0) = some r := by rw [if_pos rfl] at H; exact H
        clear H
        have H := H1
        clear H1
        obtain rfl := Option.some.inj H
        go_wp2
        go_ret
        exact ⟨by first | rfl | (simp [errW_none, errW_some] <;> rfl) | (simp [*, errW_none, errW_some] <;> rfl), by repeat (first | (with_reducible first | exact HB.out | apply below_alloc | apply pw_below_drewN | apply below_drew1) | exact HB.out)⟩
      · replace c6 := Bool.eq_false_iff.mpr c6
        subst c6
        have H1 : (if (l0.length : Int) > 6 then (parryref1_Total.j1 kj2 l0 true) else ((parryref1_product.f kj2 l0).bind fun t269 => (parryref1_Total.j1 kj2 l0 (decide (t269 > 512))))) = some r := by rw [if_neg (show ¬ (false = true) by decide)] at H; exact H
        clear H
        have H := H1
        clear H1
        have HC7 := Aside0.mk H
        clear H
        go_upto_region 4 with (fail)
        go_cut [21] (fun v21 wc => ∃ (kq : Nat) (x21_6 : Bool), v21 = .bool x21_6 ∧ Aside0 (parryref1_Total.j1 kq l0 x21_6 = some r) ∧ Aside0 (kq ≤ kj2) ∧ Aside0 (Below w.heap.size w wc))
        case first =>
          have H := HC7.out
          clear HC7
          by_cases c8 : (l0.length : Int) > 6
          · rw [if_pos c8] at H
            have c8b0 : decide (6 < (l0.length : Int)) = true := decide_eq_true c8
            have c8b1 : decide (6 < l0.length) = true := decide_eq_true (by omega)
            clear c8
            (first | rw [c8b0] | (simp only [i64_w, i32_w]; rw [c8b0]) | skip)
            have H' := Aside0.mk H
            clear H
            go_wp2
            go_meet
            case rel => exact ⟨_, (true), (by first | rfl | (simp; done) | (simp [*]; done)), H', ⟨by have := HJ2.out; first | omega | exact Nat.le_refl _⟩, ⟨by repeat (first | (with_reducible first | exact HB.out | apply below_alloc | apply pw_below_drewN | apply below_drew1) | exact HB.out)⟩⟩
          · rw [if_neg c8] at H
            have c8b0 : decide (6 < (l0.length : Int)) = false := decide_eq_false c8
            have c8b1 : decide (6 < l0.length) = false := decide_eq_false (by omega)
            clear c8
            (first | rw [c8b0] | (simp only [i64_w, i32_w]; rw [c8b0]) | skip)
            replace H := Option.bind_eq_some_iff.mp H
            obtain ⟨t269, A90, H⟩ := H
            replace H : (parryref1_Total.j1 kj2 l0 (decide (t269 > 512))) = some r := H
            have A9 := Aside0.mk A90
            clear A90
            have H' := Aside0.mk H
            clear H
            go_wp2_with (first | (go_at_call 35; (with_reducible refine (parryref1_product.calls kj2 _ _ l0 t269 _ ?side1 ?side2 A9.out).mono ?_); (case side1 => repeat (first | exact (Kd.C_below HR0.out HB.out) | (with_reducible refine Kd.C_alloc ?_ _) | (with_reducible refine Kd.C_drewN ?_ _) | (with_reducible refine Kd.C_drew ?_))); (case side2 => exact HC0.out); rintro e w10 ⟨rfl, hb⟩; have n0_ := Aside0.mk (below_step (by repeat (first | (with_reducible first | exact HB.out | apply below_alloc | apply pw_below_drewN | apply below_drew1) | exact HB.out)) hb); clear HB; have HB := n0_; clear n0_; (try clear hb); (try clear hb2); (try clear hk); (try clear hi)))
            go_meet
            case rel => exact ⟨_, (decide (t269 > 512)), (by first | rfl | (simp; done) | (simp [*]; done)), H', ⟨by have := HJ2.out; first | omega | exact Nat.le_refl _⟩, ⟨by repeat (first | (with_reducible first | exact HB.out | apply below_alloc | apply pw_below_drewN | apply below_drew1) | exact HB.out)⟩⟩
        case rest =>
          clear HC7
          try clear c1
          try clear p2
          try clear c5
          try clear c5b0
          try clear c5b1
          try clear c6
          try clear c8
          try clear c8b0
          try clear c8b1
          try clear p2
          obtain ⟨kq, x21_6, rfl, HA, HJ6, HB⟩ := hcut
          cases kq with
          | zero => exact absurd HA.out (by simp [parryref1_Total.j1])
          | succ kj6 =>
            have H := HA.out
            clear HA
            simp only [parryref1_Total.j1] at H
            by_cases c11 : x21_6 = true
            · subst c11
              have H1 : (some 0) = some r := by rw [if_pos rfl] at H; exact H
              clear H
              have H := H1
              clear H1
              obtain rfl := Option.some.inj H
              go_wp2
              go_ret
              exact ⟨by first | rfl | (simp [errW_none, errW_some] <;> rfl) | (simp [*, errW_none, errW_some] <;> rfl), by repeat (first | (with_reducible first | exact HB.out | apply below_alloc | apply pw_below_drewN | apply below_drew1) | exact HB.out)⟩
            · replace c11 := Bool.eq_false_iff.mpr c11
              subst c11
              have H1 : (parryref1_Total.l0 kj6 l0 l0 (l0.length : Int) 0) = some r := by rw [if_neg (show ¬ (false = true) by decide)] at H; exact H
              clear H
              have H := H1
              clear H1
              have H' := Aside0.mk H
              clear H
              go_wp2
              go_loopg [24] kj6 (fun kq v24 w' => ∃ (x24_3 : Int), v24 = .int .i64 x24_3 ∧ Aside0 (parryref1_Total.l0 kq l0 l0 (l0.length : Int) x24_3 = some r) ∧ Aside0 (kq ≤ kj6) ∧ Aside0 (Below w.heap.size w w'))
              case atStart => exact ⟨(0), (by first | rfl | (simp; done) | (simp [*]; done)), H', ⟨Nat.le_refl _⟩, ⟨by repeat (first | (with_reducible first | exact HB.out | apply below_alloc | apply pw_below_drewN | apply below_drew1) | exact HB.out)⟩⟩
              case round =>
                clear H'
                try clear c1
                try clear p2
                try clear c5
                try clear c5b0
                try clear c5b1
                try clear c6
                try clear c8
                try clear c8b0
                try clear c8b1
                try clear c11
                try clear p2
                obtain ⟨x24_3, rfl, HA, HK3, HB⟩ := hrel
                cases gk with
                | zero => exact absurd HA.out (by simp [parryref1_Total.l0])
                | succ k3 =>
                  have H := HA.out
                  clear HA
                  simp only [parryref1_Total.l0] at H
                  by_cases c12 : x24_3 < (l0.length : Int)
                  · rw [if_pos c12] at H
                    have c12b0 : decide (x24_3 < (l0.length : Int)) = true := decide_eq_true c12
                    clear c12
                    by_cases c13 : 0 ≤ x24_3
                    · rw [if_pos c13] at H
                      have c13b0 : decide (0 ≤ x24_3) = true := decide_eq_true c13
                      clear c13
                      by_cases c14 : x24_3 < (l0.length : Int)
                      · rw [if_pos c14] at H
                        have c14b0 : decide (x24_3 < (l0.length : Int)) = true := decide_eq_true c14
                        clear c14
                        replace H := Option.bind_eq_some_iff.mp H
                        obtain ⟨t272, A150, H⟩ := H
                        replace H : (if t272 = 0 then (some 0) else (if ((rd_T28 l0 x24_3).f2) = 1 then (if ((rd_T28 l0 x24_3).f3) = 0 then (if ((rd_T28 l0 x24_3).f4) = 0 then (parryref1_Total.l0 k3 l0 l0 (l0.length : Int) (wrap64 (x24_3 + 1))) else (some 0)) else (some 0)) else (parryref1_Total.l0 k3 l0 l0 (l0.length : Int) (wrap64 (x24_3 + 1))))) = some r := H
                        have A15 := Aside0.mk A150
                        clear A150
                        by_cases c16 : t272 = 0
                        · rw [if_pos c16] at H
                          have c16b0 : (t272 == 0) = true := beq_iff_eq.mpr c16
                          have c16b1 : (t272 != 0) = false := bne_eq_false_iff_eq.mpr c16
                          clear c16
                          obtain rfl := Option.some.inj H
                          have p270 : 0 ≤ (x24_3 : Int) := of_decide_eq_true (by first | (with_reducible assumption) | assumption)
                          have q270 : x24_3 < (l0.length : Int) := of_decide_eq_true (by first | (with_reducible assumption) | assumption)
                          obtain ⟨ad270, e270, hx270_0, hx270_1, hx270_2, hx270_3, hx270_4⟩ := at_T28 HR0.out x24_3 p270 q270
                          cases e270
                          replace hx270_0 := (HB.out.cell (World.block_lt_of_cell? w _ hx270_0)).trans hx270_0
                          replace hx270_1 := (HB.out.cell (World.block_lt_of_cell? w _ hx270_1)).trans hx270_1
                          replace hx270_2 := (HB.out.cell (World.block_lt_of_cell? w _ hx270_2)).trans hx270_2
                          replace hx270_3 := (HB.out.cell (World.block_lt_of_cell? w _ hx270_3)).trans hx270_3
                          replace hx270_4 := (HB.out.cell (World.block_lt_of_cell? w _ hx270_4)).trans hx270_4
                          replace p270 := eq_true p270
                          replace q270 := eq_true q270
                          go_wp2_with (first | ((with_reducible refine gate_dst (N := 5) rfl ?_); refine box_event ?hg (N := 5) ?hd (cs := #[.string (⟨#[]⟩ : ByteArray), .bool false, .int .i64 0, .int .i64 0, .int .i64 0]) (t := 28) ?hr ?_; (case hd => rfl); (case hg => rfl); (case hr => first | (go_simp; done) | (go_simp; rfl)); intro gb271 hg w17 hbox hb; have n0_ := Aside0.mk (below_step (by repeat (first | (with_reducible first | exact HB.out | apply below_alloc | apply pw_below_drewN | apply below_drew1) | exact HB.out)) hb); have n1_ := Aside0.mk (hbox); have n2_ := Aside0.mk ((by rw [hg]; exact (below_size (by repeat (first | (with_reducible first | exact HB.out | apply below_alloc | apply pw_below_drewN | apply below_drew1) | exact HB.out))) : w.heap.size ≤ gb271)); have n3_ := Aside0.mk ((by rw [hg]; exact (below_size (by repeat (first | (with_reducible first | exact HB.out | apply below_alloc | apply pw_below_drewN | apply below_drew1) | exact HB.out))) : w.heap.size ≤ gb271)); clear HB; have HB := n0_; have BK271 := n1_; have GW271 := n2_; have GE271 := n3_; clear n0_ n1_ n2_ n3_; clear hb hbox hg; have hcz18_0 : w17.cell? ⟨gb271, 0, none⟩ = some (.string (⟨#[]⟩ : ByteArray)) := (blk_cell BK271.out 0).trans rfl; have hcz18_1 : w17.cell? ⟨gb271, 1, none⟩ = some (.bool false) := (blk_cell BK271.out 1).trans rfl; have hcz18_2 : w17.cell? ⟨gb271, 2, none⟩ = some (.int .i64 0) := (blk_cell BK271.out 2).trans rfl; have hcz18_3 : w17.cell? ⟨gb271, 3, none⟩ = some (.int .i64 0) := (blk_cell BK271.out 3).trans rfl; have hcz18_4 : w17.cell? ⟨gb271, 4, none⟩ = some (.int .i64 0) := (blk_cell BK271.out 4).trans rfl; have hfz18_0 := blk_frozen BK271.out 0; have hfz18_1 := blk_frozen BK271.out 1; have hfz18_2 := blk_frozen BK271.out 2; have hfz18_3 := blk_frozen BK271.out 3; have hfz18_4 := blk_frozen BK271.out 4) | ((with_reducible refine gate_callee (f := 19) rfl ?_); refine goesL_ (some 29) rfl rfl Try.func19 (by kernel_rfl) rfl #[.agg #[.string ((rd_T28 l0 x24_3).f0), .bool ((rd_T28 l0 x24_3).f1), .int .i64 ((rd_T28 l0 x24_3).f2), .int .i64 ((rd_T28 l0 x24_3).f3), .int .i64 ((rd_T28 l0 x24_3).f4)]] rfl (by (try simp only [List.map_toArray, List.map_cons, List.map_nil]); first | done | rfl | (simp only [List.length_drop, List.length_take]; rfl)) ?_; (with_reducible refine (parryref1_Size.calls ((rd_T28 l0 x24_3).f0) ((rd_T28 l0 x24_3).f1) ((rd_T28 l0 x24_3).f2) ((rd_T28 l0 x24_3).f3) ((rd_T28 l0 x24_3).f4) t272 _ A15.out).mono ?_); rintro e w19 ⟨rfl, hb⟩; refine ⟨_, rfl, ?_⟩; have n0_ := Aside0.mk (blk_below (g := gb271) (o := .cells #[.string ((rd_T28 l0 x24_3).f0), .bool ((rd_T28 l0 x24_3).f1), .int .i64 ((rd_T28 l0 x24_3).f2), .int .i64 ((rd_T28 l0 x24_3).f3), .int .i64 ((rd_T28 l0 x24_3).f4)] 28 (0, 0)) (by (with_reducible repeat (first | refine blk_drewN ?_ _ | refine blk_drew ?_ | refine blk_alloc ?_ _)); refine blk_put (cs := #[.string ((rd_T28 l0 x24_3).f0), .bool ((rd_T28 l0 x24_3).f1), .int .i64 ((rd_T28 l0 x24_3).f2), .int .i64 ((rd_T28 l0 x24_3).f3), .int .i64 0]) ?_ 4 _ rfl; (with_reducible repeat (first | refine blk_drewN ?_ _ | refine blk_drew ?_ | refine blk_alloc ?_ _)); refine blk_put (cs := #[.string ((rd_T28 l0 x24_3).f0), .bool ((rd_T28 l0 x24_3).f1), .int .i64 ((rd_T28 l0 x24_3).f2), .int .i64 0, .int .i64 0]) ?_ 3 _ rfl; (with_reducible repeat (first | refine blk_drewN ?_ _ | refine blk_drew ?_ | refine blk_alloc ?_ _)); refine blk_put (cs := #[.string ((rd_T28 l0 x24_3).f0), .bool ((rd_T28 l0 x24_3).f1), .int .i64 0, .int .i64 0, .int .i64 0]) ?_ 2 _ rfl; (with_reducible repeat (first | refine blk_drewN ?_ _ | refine blk_drew ?_ | refine blk_alloc ?_ _)); refine blk_put (cs := #[.string ((rd_T28 l0 x24_3).f0), .bool false, .int .i64 0, .int .i64 0, .int .i64 0]) ?_ 1 _ rfl; (with_reducible repeat (first | refine blk_drewN ?_ _ | refine blk_drew ?_ | refine blk_alloc ?_ _)); refine blk_put (cs := #[.string (⟨#[]⟩ : ByteArray), .bool false, .int .i64 0, .int .i64 0, .int .i64 0]) ?_ 0 _ rfl; (with_reducible repeat (first | refine blk_drewN ?_ _ | refine blk_drew ?_ | refine blk_alloc ?_ _)); exact BK271.out) hb); have n1_ := Aside0.mk (below_step (by repeat (first | (with_reducible first | exact HB.out | apply below_alloc | apply pw_below_drewN | apply below_drew1 | refine below_set ?_ GE271.out) | exact HB.out)) hb); clear BK271; clear HB; have BK271 := n0_; have HB := n1_; clear n0_ n1_; (try clear hb); (try clear hb2); (try clear hk); (try clear hi)))
                          go_ret
                          exact ⟨by first | rfl | (simp [errW_none, errW_some] <;> rfl) | (simp [*, errW_none, errW_some] <;> rfl), by repeat (first | (with_reducible first | exact HB.out | apply below_alloc | apply pw_below_drewN | apply below_drew1 | refine below_set ?_ GE271.out) | exact HB.out)⟩
                        · rw [if_neg c16] at H
                          have c16b0 : (t272 == 0) = false := beq_eq_false_iff_ne.mpr c16
                          have c16b1 : (t272 != 0) = true := bne_iff_ne.mpr c16
                          by_cases c20 : ((rd_T28 l0 x24_3).f2) = 1
                          · rw [if_pos c20] at H
                            have c20b0 : (((rd_T28 l0 x24_3).f2) == 1) = true := beq_iff_eq.mpr c20
                            have c20b1 : (((rd_T28 l0 x24_3).f2) != 1) = false := bne_eq_false_iff_eq.mpr c20
                            clear c20
                            by_cases c21 : ((rd_T28 l0 x24_3).f3) = 0
                            · rw [if_pos c21] at H
                              have c21b0 : (((rd_T28 l0 x24_3).f3) == 0) = true := beq_iff_eq.mpr c21
                              have c21b1 : (((rd_T28 l0 x24_3).f3) != 0) = false := bne_eq_false_iff_eq.mpr c21
                              clear c21
                              by_cases c22 : ((rd_T28 l0 x24_3).f4) = 0
                              · rw [if_pos c22] at H
                                have c22b0 : (((rd_T28 l0 x24_3).f4) == 0) = true := beq_iff_eq.mpr c22
                                have c22b1 : (((rd_T28 l0 x24_3).f4) != 0) = false := bne_eq_false_iff_eq.mpr c22
                                clear c22
                                have H' := Aside0.mk H
                                clear H
                                have p270 : 0 ≤ (x24_3 : Int) := of_decide_eq_true (by first | (with_reducible assumption) | assumption)
                                have q270 : x24_3 < (l0.length : Int) := of_decide_eq_true (by first | (with_reducible assumption) | assumption)
                                obtain ⟨ad270, e270, hx270_0, hx270_1, hx270_2, hx270_3, hx270_4⟩ := at_T28 HR0.out x24_3 p270 q270
                                cases e270
                                replace hx270_0 := (HB.out.cell (World.block_lt_of_cell? w _ hx270_0)).trans hx270_0
                                replace hx270_1 := (HB.out.cell (World.block_lt_of_cell? w _ hx270_1)).trans hx270_1
                                replace hx270_2 := (HB.out.cell (World.block_lt_of_cell? w _ hx270_2)).trans hx270_2
                                replace hx270_3 := (HB.out.cell (World.block_lt_of_cell? w _ hx270_3)).trans hx270_3
                                replace hx270_4 := (HB.out.cell (World.block_lt_of_cell? w _ hx270_4)).trans hx270_4
                                replace p270 := eq_true p270
                                replace q270 := eq_true q270
                                go_wp2_with (first | ((with_reducible refine gate_dst (N := 5) rfl ?_); refine box_event ?hg (N := 5) ?hd (cs := #[.string (⟨#[]⟩ : ByteArray), .bool false, .int .i64 0, .int .i64 0, .int .i64 0]) (t := 28) ?hr ?_; (case hd => rfl); (case hg => rfl); (case hr => first | (go_simp; done) | (go_simp; rfl)); intro gb271 hg w23 hbox hb; have n0_ := Aside0.mk (below_step (by repeat (first | (with_reducible first | exact HB.out | apply below_alloc | apply pw_below_drewN | apply below_drew1) | exact HB.out)) hb); have n1_ := Aside0.mk (hbox); have n2_ := Aside0.mk ((by rw [hg]; exact (below_size (by repeat (first | (with_reducible first | exact HB.out | apply below_alloc | apply pw_below_drewN | apply below_drew1) | exact HB.out))) : w.heap.size ≤ gb271)); have n3_ := Aside0.mk ((by rw [hg]; exact (below_size (by repeat (first | (with_reducible first | exact HB.out | apply below_alloc | apply pw_below_drewN | apply below_drew1) | exact HB.out))) : w.heap.size ≤ gb271)); clear HB; have HB := n0_; have BK271 := n1_; have GW271 := n2_; have GE271 := n3_; clear n0_ n1_ n2_ n3_; clear hb hbox hg; have hcz24_0 : w23.cell? ⟨gb271, 0, none⟩ = some (.string (⟨#[]⟩ : ByteArray)) := (blk_cell BK271.out 0).trans rfl; have hcz24_1 : w23.cell? ⟨gb271, 1, none⟩ = some (.bool false) := (blk_cell BK271.out 1).trans rfl; have hcz24_2 : w23.cell? ⟨gb271, 2, none⟩ = some (.int .i64 0) := (blk_cell BK271.out 2).trans rfl; have hcz24_3 : w23.cell? ⟨gb271, 3, none⟩ = some (.int .i64 0) := (blk_cell BK271.out 3).trans rfl; have hcz24_4 : w23.cell? ⟨gb271, 4, none⟩ = some (.int .i64 0) := (blk_cell BK271.out 4).trans rfl; have hfz24_0 := blk_frozen BK271.out 0; have hfz24_1 := blk_frozen BK271.out 1; have hfz24_2 := blk_frozen BK271.out 2; have hfz24_3 := blk_frozen BK271.out 3; have hfz24_4 := blk_frozen BK271.out 4) | ((with_reducible refine gate_callee (f := 19) rfl ?_); refine goesL_ (some 29) rfl rfl Try.func19 (by kernel_rfl) rfl #[.agg #[.string ((rd_T28 l0 x24_3).f0), .bool ((rd_T28 l0 x24_3).f1), .int .i64 ((rd_T28 l0 x24_3).f2), .int .i64 ((rd_T28 l0 x24_3).f3), .int .i64 ((rd_T28 l0 x24_3).f4)]] rfl (by (try simp only [List.map_toArray, List.map_cons, List.map_nil]); first | done | rfl | (simp only [List.length_drop, List.length_take]; rfl)) ?_; (with_reducible refine (parryref1_Size.calls ((rd_T28 l0 x24_3).f0) ((rd_T28 l0 x24_3).f1) ((rd_T28 l0 x24_3).f2) ((rd_T28 l0 x24_3).f3) ((rd_T28 l0 x24_3).f4) t272 _ A15.out).mono ?_); rintro e w25 ⟨rfl, hb⟩; refine ⟨_, rfl, ?_⟩; have n0_ := Aside0.mk (blk_below (g := gb271) (o := .cells #[.string ((rd_T28 l0 x24_3).f0), .bool ((rd_T28 l0 x24_3).f1), .int .i64 ((rd_T28 l0 x24_3).f2), .int .i64 ((rd_T28 l0 x24_3).f3), .int .i64 ((rd_T28 l0 x24_3).f4)] 28 (0, 0)) (by (with_reducible repeat (first | refine blk_drewN ?_ _ | refine blk_drew ?_ | refine blk_alloc ?_ _)); refine blk_put (cs := #[.string ((rd_T28 l0 x24_3).f0), .bool ((rd_T28 l0 x24_3).f1), .int .i64 ((rd_T28 l0 x24_3).f2), .int .i64 ((rd_T28 l0 x24_3).f3), .int .i64 0]) ?_ 4 _ rfl; (with_reducible repeat (first | refine blk_drewN ?_ _ | refine blk_drew ?_ | refine blk_alloc ?_ _)); refine blk_put (cs := #[.string ((rd_T28 l0 x24_3).f0), .bool ((rd_T28 l0 x24_3).f1), .int .i64 ((rd_T28 l0 x24_3).f2), .int .i64 0, .int .i64 0]) ?_ 3 _ rfl; (with_reducible repeat (first | refine blk_drewN ?_ _ | refine blk_drew ?_ | refine blk_alloc ?_ _)); refine blk_put (cs := #[.string ((rd_T28 l0 x24_3).f0), .bool ((rd_T28 l0 x24_3).f1), .int .i64 0, .int .i64 0, .int .i64 0]) ?_ 2 _ rfl; (with_reducible repeat (first | refine blk_drewN ?_ _ | refine blk_drew ?_ | refine blk_alloc ?_ _)); refine blk_put (cs := #[.string ((rd_T28 l0 x24_3).f0), .bool false, .int .i64 0, .int .i64 0, .int .i64 0]) ?_ 1 _ rfl; (with_reducible repeat (first | refine blk_drewN ?_ _ | refine blk_drew ?_ | refine blk_alloc ?_ _)); refine blk_put (cs := #[.string (⟨#[]⟩ : ByteArray), .bool false, .int .i64 0, .int .i64 0, .int .i64 0]) ?_ 0 _ rfl; (with_reducible repeat (first | refine blk_drewN ?_ _ | refine blk_drew ?_ | refine blk_alloc ?_ _)); exact BK271.out) hb); have n1_ := Aside0.mk (below_step (by repeat (first | (with_reducible first | exact HB.out | apply below_alloc | apply pw_below_drewN | apply below_drew1 | refine below_set ?_ GE271.out) | exact HB.out)) hb); clear BK271; clear HB; have BK271 := n0_; have HB := n1_; clear n0_ n1_; (try clear hb); (try clear hb2); (try clear hk); (try clear hi); have hcz26_0 : w25.cell? ⟨gb271, 0, none⟩ = some (.string ((rd_T28 l0 x24_3).f0)) := (blk_cell BK271.out 0).trans rfl; have hcz26_1 : w25.cell? ⟨gb271, 1, none⟩ = some (.bool ((rd_T28 l0 x24_3).f1)) := (blk_cell BK271.out 1).trans rfl; have hcz26_2 : w25.cell? ⟨gb271, 2, none⟩ = some (.int .i64 ((rd_T28 l0 x24_3).f2)) := (blk_cell BK271.out 2).trans rfl; have hcz26_3 : w25.cell? ⟨gb271, 3, none⟩ = some (.int .i64 ((rd_T28 l0 x24_3).f3)) := (blk_cell BK271.out 3).trans rfl; have hcz26_4 : w25.cell? ⟨gb271, 4, none⟩ = some (.int .i64 ((rd_T28 l0 x24_3).f4)) := (blk_cell BK271.out 4).trans rfl; have hfz26_0 := blk_frozen BK271.out 0; have hfz26_1 := blk_frozen BK271.out 1; have hfz26_2 := blk_frozen BK271.out 2; have hfz26_3 := blk_frozen BK271.out 3; have hfz26_4 := blk_frozen BK271.out 4))
                                go_roundg k3
                                case measure => have := HJ2.out; have := HJ6.out; have := HK3.out; omega
                                case rel => exact ⟨(wrap64 (x24_3 + 1)), (by first | rfl | (simp; done) | (simp [*]; done)), H', ⟨by have := HJ2.out; have := HJ6.out; have := HK3.out; omega⟩, ⟨by repeat (first | (with_reducible first | exact HB.out | apply below_alloc | apply pw_below_drewN | apply below_drew1 | refine below_set ?_ GE271.out) | exact HB.out)⟩⟩
                              · rw [if_neg c22] at H
                                have c22b0 : (((rd_T28 l0 x24_3).f4) == 0) = false := beq_eq_false_iff_ne.mpr c22
                                have c22b1 : (((rd_T28 l0 x24_3).f4) != 0) = true := bne_iff_ne.mpr c22
                                obtain rfl := Option.some.inj H
                                have p270 : 0 ≤ (x24_3 : Int) := of_decide_eq_true (by first | (with_reducible assumption) | assumption)
                                have q270 : x24_3 < (l0.length : Int) := of_decide_eq_true (by first | (with_reducible assumption) | assumption)
                                obtain ⟨ad270, e270, hx270_0, hx270_1, hx270_2, hx270_3, hx270_4⟩ := at_T28 HR0.out x24_3 p270 q270
                                cases e270
                                replace hx270_0 := (HB.out.cell (World.block_lt_of_cell? w _ hx270_0)).trans hx270_0
                                replace hx270_1 := (HB.out.cell (World.block_lt_of_cell? w _ hx270_1)).trans hx270_1
                                replace hx270_2 := (HB.out.cell (World.block_lt_of_cell? w _ hx270_2)).trans hx270_2
                                replace hx270_3 := (HB.out.cell (World.block_lt_of_cell? w _ hx270_3)).trans hx270_3
                                replace hx270_4 := (HB.out.cell (World.block_lt_of_cell? w _ hx270_4)).trans hx270_4
                                replace p270 := eq_true p270
                                replace q270 := eq_true q270
                                go_wp2_with (first | ((with_reducible refine gate_dst (N := 5) rfl ?_); refine box_event ?hg (N := 5) ?hd (cs := #[.string (⟨#[]⟩ : ByteArray), .bool false, .int .i64 0, .int .i64 0, .int .i64 0]) (t := 28) ?hr ?_; (case hd => rfl); (case hg => rfl); (case hr => first | (go_simp; done) | (go_simp; rfl)); intro gb271 hg w27 hbox hb; have n0_ := Aside0.mk (below_step (by repeat (first | (with_reducible first | exact HB.out | apply below_alloc | apply pw_below_drewN | apply below_drew1) | exact HB.out)) hb); have n1_ := Aside0.mk (hbox); have n2_ := Aside0.mk ((by rw [hg]; exact (below_size (by repeat (first | (with_reducible first | exact HB.out | apply below_alloc | apply pw_below_drewN | apply below_drew1) | exact HB.out))) : w.heap.size ≤ gb271)); have n3_ := Aside0.mk ((by rw [hg]; exact (below_size (by repeat (first | (with_reducible first | exact HB.out | apply below_alloc | apply pw_below_drewN | apply below_drew1) | exact HB.out))) : w.heap.size ≤ gb271)); clear HB; have HB := n0_; have BK271 := n1_; have GW271 := n2_; have GE271 := n3_; clear n0_ n1_ n2_ n3_; clear hb hbox hg; have hcz28_0 : w27.cell? ⟨gb271, 0, none⟩ = some (.string (⟨#[]⟩ : ByteArray)) := (blk_cell BK271.out 0).trans rfl; have hcz28_1 : w27.cell? ⟨gb271, 1, none⟩ = some (.bool false) := (blk_cell BK271.out 1).trans rfl; have hcz28_2 : w27.cell? ⟨gb271, 2, none⟩ = some (.int .i64 0) := (blk_cell BK271.out 2).trans rfl; have hcz28_3 : w27.cell? ⟨gb271, 3, none⟩ = some (.int .i64 0) := (blk_cell BK271.out 3).trans rfl; have hcz28_4 : w27.cell? ⟨gb271, 4, none⟩ = some (.int .i64 0) := (blk_cell BK271.out 4).trans rfl; have hfz28_0 := blk_frozen BK271.out 0; have hfz28_1 := blk_frozen BK271.out 1; have hfz28_2 := blk_frozen BK271.out 2; have hfz28_3 := blk_frozen BK271.out 3; have hfz28_4 := blk_frozen BK271.out 4) | ((with_reducible refine gate_callee (f := 19) rfl ?_); refine goesL_ (some 29) rfl rfl Try.func19 (by kernel_rfl) rfl #[.agg #[.string ((rd_T28 l0 x24_3).f0), .bool ((rd_T28 l0 x24_3).f1), .int .i64 ((rd_T28 l0 x24_3).f2), .int .i64 ((rd_T28 l0 x24_3).f3), .int .i64 ((rd_T28 l0 x24_3).f4)]] rfl (by (try simp only [List.map_toArray, List.map_cons, List.map_nil]); first | done | rfl | (simp only [List.length_drop, List.length_take]; rfl)) ?_; (with_reducible refine (parryref1_Size.calls ((rd_T28 l0 x24_3).f0) ((rd_T28 l0 x24_3).f1) ((rd_T28 l0 x24_3).f2) ((rd_T28 l0 x24_3).f3) ((rd_T28 l0 x24_3).f4) t272 _ A15.out).mono ?_); rintro e w29 ⟨rfl, hb⟩; refine ⟨_, rfl, ?_⟩; have n0_ := Aside0.mk (blk_below (g := gb271) (o := .cells #[.string ((rd_T28 l0 x24_3).f0), .bool ((rd_T28 l0 x24_3).f1), .int .i64 ((rd_T28 l0 x24_3).f2), .int .i64 ((rd_T28 l0 x24_3).f3), .int .i64 ((rd_T28 l0 x24_3).f4)] 28 (0, 0)) (by (with_reducible repeat (first | refine blk_drewN ?_ _ | refine blk_drew ?_ | refine blk_alloc ?_ _)); refine blk_put (cs := #[.string ((rd_T28 l0 x24_3).f0), .bool ((rd_T28 l0 x24_3).f1), .int .i64 ((rd_T28 l0 x24_3).f2), .int .i64 ((rd_T28 l0 x24_3).f3), .int .i64 0]) ?_ 4 _ rfl; (with_reducible repeat (first | refine blk_drewN ?_ _ | refine blk_drew ?_ | refine blk_alloc ?_ _)); refine blk_put (cs := #[.string ((rd_T28 l0 x24_3).f0), .bool ((rd_T28 l0 x24_3).f1), .int .i64 ((rd_T28 l0 x24_3).f2), .int .i64 0, .int .i64 0]) ?_ 3 _ rfl; (with_reducible repeat (first | refine blk_drewN ?_ _ | refine blk_drew ?_ | refine blk_alloc ?_ _)); refine blk_put (cs := #[.string ((rd_T28 l0 x24_3).f0), .bool ((rd_T28 l0 x24_3).f1), .int .i64 0, .int .i64 0, .int .i64 0]) ?_ 2 _ rfl; (with_reducible repeat (first | refine blk_drewN ?_ _ | refine blk_drew ?_ | refine blk_alloc ?_ _)); refine blk_put (cs := #[.string ((rd_T28 l0 x24_3).f0), .bool false, .int .i64 0, .int .i64 0, .int .i64 0]) ?_ 1 _ rfl; (with_reducible repeat (first | refine blk_drewN ?_ _ | refine blk_drew ?_ | refine blk_alloc ?_ _)); refine blk_put (cs := #[.string (⟨#[]⟩ : ByteArray), .bool false, .int .i64 0, .int .i64 0, .int .i64 0]) ?_ 0 _ rfl; (with_reducible repeat (first | refine blk_drewN ?_ _ | refine blk_drew ?_ | refine blk_alloc ?_ _)); exact BK271.out) hb); have n1_ := Aside0.mk (below_step (by repeat (first | (with_reducible first | exact HB.out | apply below_alloc | apply pw_below_drewN | apply below_drew1 | refine below_set ?_ GE271.out) | exact HB.out)) hb); clear BK271; clear HB; have BK271 := n0_; have HB := n1_; clear n0_ n1_; (try clear hb); (try clear hb2); (try clear hk); (try clear hi); have hcz30_0 : w29.cell? ⟨gb271, 0, none⟩ = some (.string ((rd_T28 l0 x24_3).f0)) := (blk_cell BK271.out 0).trans rfl; have hcz30_1 : w29.cell? ⟨gb271, 1, none⟩ = some (.bool ((rd_T28 l0 x24_3).f1)) := (blk_cell BK271.out 1).trans rfl; have hcz30_2 : w29.cell? ⟨gb271, 2, none⟩ = some (.int .i64 ((rd_T28 l0 x24_3).f2)) := (blk_cell BK271.out 2).trans rfl; have hcz30_3 : w29.cell? ⟨gb271, 3, none⟩ = some (.int .i64 ((rd_T28 l0 x24_3).f3)) := (blk_cell BK271.out 3).trans rfl; have hcz30_4 : w29.cell? ⟨gb271, 4, none⟩ = some (.int .i64 ((rd_T28 l0 x24_3).f4)) := (blk_cell BK271.out 4).trans rfl; have hfz30_0 := blk_frozen BK271.out 0; have hfz30_1 := blk_frozen BK271.out 1; have hfz30_2 := blk_frozen BK271.out 2; have hfz30_3 := blk_frozen BK271.out 3; have hfz30_4 := blk_frozen BK271.out 4))
                                go_ret
                                exact ⟨by first | rfl | (simp [errW_none, errW_some] <;> rfl) | (simp [*, errW_none, errW_some] <;> rfl), by repeat (first | (with_reducible first | exact HB.out | apply below_alloc | apply pw_below_drewN | apply below_drew1 | refine below_set ?_ GE271.out) | exact HB.out)⟩
                            · rw [if_neg c21] at H
                              have c21b0 : (((rd_T28 l0 x24_3).f3) == 0) = false := beq_eq_false_iff_ne.mpr c21
                              have c21b1 : (((rd_T28 l0 x24_3).f3) != 0) = true := bne_iff_ne.mpr c21
                              obtain rfl := Option.some.inj H
                              have p270 : 0 ≤ (x24_3 : Int) := of_decide_eq_true (by first | (with_reducible assumption) | assumption)
                              have q270 : x24_3 < (l0.length : Int) := of_decide_eq_true (by first | (with_reducible assumption) | assumption)
                              obtain ⟨ad270, e270, hx270_0, hx270_1, hx270_2, hx270_3, hx270_4⟩ := at_T28 HR0.out x24_3 p270 q270
                              cases e270
                              replace hx270_0 := (HB.out.cell (World.block_lt_of_cell? w _ hx270_0)).trans hx270_0
                              replace hx270_1 := (HB.out.cell (World.block_lt_of_cell? w _ hx270_1)).trans hx270_1
                              replace hx270_2 := (HB.out.cell (World.block_lt_of_cell? w _ hx270_2)).trans hx270_2
                              replace hx270_3 := (HB.out.cell (World.block_lt_of_cell? w _ hx270_3)).trans hx270_3
                              replace hx270_4 := (HB.out.cell (World.block_lt_of_cell? w _ hx270_4)).trans hx270_4
                              replace p270 := eq_true p270
                              replace q270 := eq_true q270
                              go_wp2_with (first | ((with_reducible refine gate_dst (N := 5) rfl ?_); refine box_event ?hg (N := 5) ?hd (cs := #[.string (⟨#[]⟩ : ByteArray), .bool false, .int .i64 0, .int .i64 0, .int .i64 0]) (t := 28) ?hr ?_; (case hd => rfl); (case hg => rfl); (case hr => first | (go_simp; done) | (go_simp; rfl)); intro gb271 hg w31 hbox hb; have n0_ := Aside0.mk (below_step (by repeat (first | (with_reducible first | exact HB.out | apply below_alloc | apply pw_below_drewN | apply below_drew1) | exact HB.out)) hb); have n1_ := Aside0.mk (hbox); have n2_ := Aside0.mk ((by rw [hg]; exact (below_size (by repeat (first | (with_reducible first | exact HB.out | apply below_alloc | apply pw_below_drewN | apply below_drew1) | exact HB.out))) : w.heap.size ≤ gb271)); have n3_ := Aside0.mk ((by rw [hg]; exact (below_size (by repeat (first | (with_reducible first | exact HB.out | apply below_alloc | apply pw_below_drewN | apply below_drew1) | exact HB.out))) : w.heap.size ≤ gb271)); clear HB; have HB := n0_; have BK271 := n1_; have GW271 := n2_; have GE271 := n3_; clear n0_ n1_ n2_ n3_; clear hb hbox hg; have hcz32_0 : w31.cell? ⟨gb271, 0, none⟩ = some (.string (⟨#[]⟩ : ByteArray)) := (blk_cell BK271.out 0).trans rfl; have hcz32_1 : w31.cell? ⟨gb271, 1, none⟩ = some (.bool false) := (blk_cell BK271.out 1).trans rfl; have hcz32_2 : w31.cell? ⟨gb271, 2, none⟩ = some (.int .i64 0) := (blk_cell BK271.out 2).trans rfl; have hcz32_3 : w31.cell? ⟨gb271, 3, none⟩ = some (.int .i64 0) := (blk_cell BK271.out 3).trans rfl; have hcz32_4 : w31.cell? ⟨gb271, 4, none⟩ = some (.int .i64 0) := (blk_cell BK271.out 4).trans rfl; have hfz32_0 := blk_frozen BK271.out 0; have hfz32_1 := blk_frozen BK271.out 1; have hfz32_2 := blk_frozen BK271.out 2; have hfz32_3 := blk_frozen BK271.out 3; have hfz32_4 := blk_frozen BK271.out 4) | ((with_reducible refine gate_callee (f := 19) rfl ?_); refine goesL_ (some 29) rfl rfl Try.func19 (by kernel_rfl) rfl #[.agg #[.string ((rd_T28 l0 x24_3).f0), .bool ((rd_T28 l0 x24_3).f1), .int .i64 ((rd_T28 l0 x24_3).f2), .int .i64 ((rd_T28 l0 x24_3).f3), .int .i64 ((rd_T28 l0 x24_3).f4)]] rfl (by (try simp only [List.map_toArray, List.map_cons, List.map_nil]); first | done | rfl | (simp only [List.length_drop, List.length_take]; rfl)) ?_; (with_reducible refine (parryref1_Size.calls ((rd_T28 l0 x24_3).f0) ((rd_T28 l0 x24_3).f1) ((rd_T28 l0 x24_3).f2) ((rd_T28 l0 x24_3).f3) ((rd_T28 l0 x24_3).f4) t272 _ A15.out).mono ?_); rintro e w33 ⟨rfl, hb⟩; refine ⟨_, rfl, ?_⟩; have n0_ := Aside0.mk (blk_below (g := gb271) (o := .cells #[.string ((rd_T28 l0 x24_3).f0), .bool ((rd_T28 l0 x24_3).f1), .int .i64 ((rd_T28 l0 x24_3).f2), .int .i64 ((rd_T28 l0 x24_3).f3), .int .i64 ((rd_T28 l0 x24_3).f4)] 28 (0, 0)) (by (with_reducible repeat (first | refine blk_drewN ?_ _ | refine blk_drew ?_ | refine blk_alloc ?_ _)); refine blk_put (cs := #[.string ((rd_T28 l0 x24_3).f0), .bool ((rd_T28 l0 x24_3).f1), .int .i64 ((rd_T28 l0 x24_3).f2), .int .i64 ((rd_T28 l0 x24_3).f3), .int .i64 0]) ?_ 4 _ rfl; (with_reducible repeat (first | refine blk_drewN ?_ _ | refine blk_drew ?_ | refine blk_alloc ?_ _)); refine blk_put (cs := #[.string ((rd_T28 l0 x24_3).f0), .bool ((rd_T28 l0 x24_3).f1), .int .i64 ((rd_T28 l0 x24_3).f2), .int .i64 0, .int .i64 0]) ?_ 3 _ rfl; (with_reducible repeat (first | refine blk_drewN ?_ _ | refine blk_drew ?_ | refine blk_alloc ?_ _)); refine blk_put (cs := #[.string ((rd_T28 l0 x24_3).f0), .bool ((rd_T28 l0 x24_3).f1), .int .i64 0, .int .i64 0, .int .i64 0]) ?_ 2 _ rfl; (with_reducible repeat (first | refine blk_drewN ?_ _ | refine blk_drew ?_ | refine blk_alloc ?_ _)); refine blk_put (cs := #[.string ((rd_T28 l0 x24_3).f0), .bool false, .int .i64 0, .int .i64 0, .int .i64 0]) ?_ 1 _ rfl; (with_reducible repeat (first | refine blk_drewN ?_ _ | refine blk_drew ?_ | refine blk_alloc ?_ _)); refine blk_put (cs := #[.string (⟨#[]⟩ : ByteArray), .bool false, .int .i64 0, .int .i64 0, .int .i64 0]) ?_ 0 _ rfl; (with_reducible repeat (first | refine blk_drewN ?_ _ | refine blk_drew ?_ | refine blk_alloc ?_ _)); exact BK271.out) hb); have n1_ := Aside0.mk (below_step (by repeat (first | (with_reducible first | exact HB.out | apply below_alloc | apply pw_below_drewN | apply below_drew1 | refine below_set ?_ GE271.out) | exact HB.out)) hb); clear BK271; clear HB; have BK271 := n0_; have HB := n1_; clear n0_ n1_; (try clear hb); (try clear hb2); (try clear hk); (try clear hi); have hcz34_0 : w33.cell? ⟨gb271, 0, none⟩ = some (.string ((rd_T28 l0 x24_3).f0)) := (blk_cell BK271.out 0).trans rfl; have hcz34_1 : w33.cell? ⟨gb271, 1, none⟩ = some (.bool ((rd_T28 l0 x24_3).f1)) := (blk_cell BK271.out 1).trans rfl; have hcz34_2 : w33.cell? ⟨gb271, 2, none⟩ = some (.int .i64 ((rd_T28 l0 x24_3).f2)) := (blk_cell BK271.out 2).trans rfl; have hcz34_3 : w33.cell? ⟨gb271, 3, none⟩ = some (.int .i64 ((rd_T28 l0 x24_3).f3)) := (blk_cell BK271.out 3).trans rfl; have hcz34_4 : w33.cell? ⟨gb271, 4, none⟩ = some (.int .i64 ((rd_T28 l0 x24_3).f4)) := (blk_cell BK271.out 4).trans rfl; have hfz34_0 := blk_frozen BK271.out 0; have hfz34_1 := blk_frozen BK271.out 1; have hfz34_2 := blk_frozen BK271.out 2; have hfz34_3 := blk_frozen BK271.out 3; have hfz34_4 := blk_frozen BK271.out 4))
                              go_ret
                              exact ⟨by first | rfl | (simp [errW_none, errW_some] <;> rfl) | (simp [*, errW_none, errW_some] <;> rfl), by repeat (first | (with_reducible first | exact HB.out | apply below_alloc | apply pw_below_drewN | apply below_drew1 | refine below_set ?_ GE271.out) | exact HB.out)⟩
                          · rw [if_neg c20] at H
                            have c20b0 : (((rd_T28 l0 x24_3).f2) == 1) = false := beq_eq_false_iff_ne.mpr c20
                            have c20b1 : (((rd_T28 l0 x24_3).f2) != 1) = true := bne_iff_ne.mpr c20
                            have H' := Aside0.mk H
                            clear H
                            have p270 : 0 ≤ (x24_3 : Int) := of_decide_eq_true (by first | (with_reducible assumption) | assumption)
                            have q270 : x24_3 < (l0.length : Int) := of_decide_eq_true (by first | (with_reducible assumption) | assumption)
                            obtain ⟨ad270, e270, hx270_0, hx270_1, hx270_2, hx270_3, hx270_4⟩ := at_T28 HR0.out x24_3 p270 q270
                            cases e270
                            replace hx270_0 := (HB.out.cell (World.block_lt_of_cell? w _ hx270_0)).trans hx270_0
                            replace hx270_1 := (HB.out.cell (World.block_lt_of_cell? w _ hx270_1)).trans hx270_1
                            replace hx270_2 := (HB.out.cell (World.block_lt_of_cell? w _ hx270_2)).trans hx270_2
                            replace hx270_3 := (HB.out.cell (World.block_lt_of_cell? w _ hx270_3)).trans hx270_3
                            replace hx270_4 := (HB.out.cell (World.block_lt_of_cell? w _ hx270_4)).trans hx270_4
                            replace p270 := eq_true p270
                            replace q270 := eq_true q270
                            go_wp2_with (first | ((with_reducible refine gate_dst (N := 5) rfl ?_); refine box_event ?hg (N := 5) ?hd (cs := #[.string (⟨#[]⟩ : ByteArray), .bool false, .int .i64 0, .int .i64 0, .int .i64 0]) (t := 28) ?hr ?_; (case hd => rfl); (case hg => rfl); (case hr => first | (go_simp; done) | (go_simp; rfl)); intro gb271 hg w35 hbox hb; have n0_ := Aside0.mk (below_step (by repeat (first | (with_reducible first | exact HB.out | apply below_alloc | apply pw_below_drewN | apply below_drew1) | exact HB.out)) hb); have n1_ := Aside0.mk (hbox); have n2_ := Aside0.mk ((by rw [hg]; exact (below_size (by repeat (first | (with_reducible first | exact HB.out | apply below_alloc | apply pw_below_drewN | apply below_drew1) | exact HB.out))) : w.heap.size ≤ gb271)); have n3_ := Aside0.mk ((by rw [hg]; exact (below_size (by repeat (first | (with_reducible first | exact HB.out | apply below_alloc | apply pw_below_drewN | apply below_drew1) | exact HB.out))) : w.heap.size ≤ gb271)); clear HB; have HB := n0_; have BK271 := n1_; have GW271 := n2_; have GE271 := n3_; clear n0_ n1_ n2_ n3_; clear hb hbox hg; have hcz36_0 : w35.cell? ⟨gb271, 0, none⟩ = some (.string (⟨#[]⟩ : ByteArray)) := (blk_cell BK271.out 0).trans rfl; have hcz36_1 : w35.cell? ⟨gb271, 1, none⟩ = some (.bool false) := (blk_cell BK271.out 1).trans rfl; have hcz36_2 : w35.cell? ⟨gb271, 2, none⟩ = some (.int .i64 0) := (blk_cell BK271.out 2).trans rfl; have hcz36_3 : w35.cell? ⟨gb271, 3, none⟩ = some (.int .i64 0) := (blk_cell BK271.out 3).trans rfl; have hcz36_4 : w35.cell? ⟨gb271, 4, none⟩ = some (.int .i64 0) := (blk_cell BK271.out 4).trans rfl; have hfz36_0 := blk_frozen BK271.out 0; have hfz36_1 := blk_frozen BK271.out 1; have hfz36_2 := blk_frozen BK271.out 2; have hfz36_3 := blk_frozen BK271.out 3; have hfz36_4 := blk_frozen BK271.out 4) | ((with_reducible refine gate_callee (f := 19) rfl ?_); refine goesL_ (some 29) rfl rfl Try.func19 (by kernel_rfl) rfl #[.agg #[.string ((rd_T28 l0 x24_3).f0), .bool ((rd_T28 l0 x24_3).f1), .int .i64 ((rd_T28 l0 x24_3).f2), .int .i64 ((rd_T28 l0 x24_3).f3), .int .i64 ((rd_T28 l0 x24_3).f4)]] rfl (by (try simp only [List.map_toArray, List.map_cons, List.map_nil]); first | done | rfl | (simp only [List.length_drop, List.length_take]; rfl)) ?_; (with_reducible refine (parryref1_Size.calls ((rd_T28 l0 x24_3).f0) ((rd_T28 l0 x24_3).f1) ((rd_T28 l0 x24_3).f2) ((rd_T28 l0 x24_3).f3) ((rd_T28 l0 x24_3).f4) t272 _ A15.out).mono ?_); rintro e w37 ⟨rfl, hb⟩; refine ⟨_, rfl, ?_⟩; have n0_ := Aside0.mk (blk_below (g := gb271) (o := .cells #[.string ((rd_T28 l0 x24_3).f0), .bool ((rd_T28 l0 x24_3).f1), .int .i64 ((rd_T28 l0 x24_3).f2), .int .i64 ((rd_T28 l0 x24_3).f3), .int .i64 ((rd_T28 l0 x24_3).f4)] 28 (0, 0)) (by (with_reducible repeat (first | refine blk_drewN ?_ _ | refine blk_drew ?_ | refine blk_alloc ?_ _)); refine blk_put (cs := #[.string ((rd_T28 l0 x24_3).f0), .bool ((rd_T28 l0 x24_3).f1), .int .i64 ((rd_T28 l0 x24_3).f2), .int .i64 ((rd_T28 l0 x24_3).f3), .int .i64 0]) ?_ 4 _ rfl; (with_reducible repeat (first | refine blk_drewN ?_ _ | refine blk_drew ?_ | refine blk_alloc ?_ _)); refine blk_put (cs := #[.string ((rd_T28 l0 x24_3).f0), .bool ((rd_T28 l0 x24_3).f1), .int .i64 ((rd_T28 l0 x24_3).f2), .int .i64 0, .int .i64 0]) ?_ 3 _ rfl; (with_reducible repeat (first | refine blk_drewN ?_ _ | refine blk_drew ?_ | refine blk_alloc ?_ _)); refine blk_put (cs := #[.string ((rd_T28 l0 x24_3).f0), .bool ((rd_T28 l0 x24_3).f1), .int .i64 0, .int .i64 0, .int .i64 0]) ?_ 2 _ rfl; (with_reducible repeat (first | refine blk_drewN ?_ _ | refine blk_drew ?_ | refine blk_alloc ?_ _)); refine blk_put (cs := #[.string ((rd_T28 l0 x24_3).f0), .bool false, .int .i64 0, .int .i64 0, .int .i64 0]) ?_ 1 _ rfl; (with_reducible repeat (first | refine blk_drewN ?_ _ | refine blk_drew ?_ | refine blk_alloc ?_ _)); refine blk_put (cs := #[.string (⟨#[]⟩ : ByteArray), .bool false, .int .i64 0, .int .i64 0, .int .i64 0]) ?_ 0 _ rfl; (with_reducible repeat (first | refine blk_drewN ?_ _ | refine blk_drew ?_ | refine blk_alloc ?_ _)); exact BK271.out) hb); have n1_ := Aside0.mk (below_step (by repeat (first | (with_reducible first | exact HB.out | apply below_alloc | apply pw_below_drewN | apply below_drew1 | refine below_set ?_ GE271.out) | exact HB.out)) hb); clear BK271; clear HB; have BK271 := n0_; have HB := n1_; clear n0_ n1_; (try clear hb); (try clear hb2); (try clear hk); (try clear hi); have hcz38_0 : w37.cell? ⟨gb271, 0, none⟩ = some (.string ((rd_T28 l0 x24_3).f0)) := (blk_cell BK271.out 0).trans rfl; have hcz38_1 : w37.cell? ⟨gb271, 1, none⟩ = some (.bool ((rd_T28 l0 x24_3).f1)) := (blk_cell BK271.out 1).trans rfl; have hcz38_2 : w37.cell? ⟨gb271, 2, none⟩ = some (.int .i64 ((rd_T28 l0 x24_3).f2)) := (blk_cell BK271.out 2).trans rfl; have hcz38_3 : w37.cell? ⟨gb271, 3, none⟩ = some (.int .i64 ((rd_T28 l0 x24_3).f3)) := (blk_cell BK271.out 3).trans rfl; have hcz38_4 : w37.cell? ⟨gb271, 4, none⟩ = some (.int .i64 ((rd_T28 l0 x24_3).f4)) := (blk_cell BK271.out 4).trans rfl; have hfz38_0 := blk_frozen BK271.out 0; have hfz38_1 := blk_frozen BK271.out 1; have hfz38_2 := blk_frozen BK271.out 2; have hfz38_3 := blk_frozen BK271.out 3; have hfz38_4 := blk_frozen BK271.out 4))
                            go_roundg k3
                            case measure => have := HJ2.out; have := HJ6.out; have := HK3.out; omega
                            case rel => exact ⟨(wrap64 (x24_3 + 1)), (by first | rfl | (simp; done) | (simp [*]; done)), H', ⟨by have := HJ2.out; have := HJ6.out; have := HK3.out; omega⟩, ⟨by repeat (first | (with_reducible first | exact HB.out | apply below_alloc | apply pw_below_drewN | apply below_drew1 | refine below_set ?_ GE271.out) | exact HB.out)⟩⟩
                      · rw [if_neg c14] at H
                        exact absurd H (by simp)
                    · rw [if_neg c13] at H
                      exact absurd H (by simp)
                  · rw [if_neg c12] at H
                    have c12b0 : decide (x24_3 < (l0.length : Int)) = false := decide_eq_false c12
                    clear c12
                    replace H := Option.bind_eq_some_iff.mp H
                    obtain ⟨t273, A390, H⟩ := H
                    replace H : (some t273) = some r := H
                    have A39 := Aside0.mk A390
                    clear A390
                    obtain rfl := Option.some.inj H
                    go_wp2_with (first | ((with_reducible refine gate_callee (f := 35) rfl ?_); refine goesL_ (some 48) rfl rfl Try.func35 (by kernel_rfl) rfl #[.slice A0 l0.length c0] rfl (by (try simp only [List.map_toArray, List.map_cons, List.map_nil]); first | done | rfl | (simp only [List.length_drop, List.length_take]; rfl)) ?_; (with_reducible refine (parryref1_product.calls k3 _ _ l0 t273 _ ?side1 ?side2 A39.out).mono ?_); (case side1 => repeat (first | exact (Kd.C_below HR0.out HB.out) | (with_reducible refine Kd.C_alloc ?_ _) | (with_reducible refine Kd.C_drewN ?_ _) | (with_reducible refine Kd.C_drew ?_))); (case side2 => exact HC0.out); rintro e w40 ⟨rfl, hb⟩; refine ⟨_, rfl, ?_⟩; have n0_ := Aside0.mk (below_step (by repeat (first | (with_reducible first | exact HB.out | apply below_alloc | apply pw_below_drewN | apply below_drew1) | exact HB.out)) hb); clear HB; have HB := n0_; clear n0_; (try clear hb); (try clear hb2); (try clear hk); (try clear hi)))
                    go_ret
                    exact ⟨by first | rfl | (simp [errW_none, errW_some] <;> rfl) | (simp [*, errW_none, errW_some] <;> rfl), by repeat (first | (with_reducible first | exact HB.out | apply below_alloc | apply pw_below_drewN | apply below_drew1) | exact HB.out)⟩

end Go.Proofs.Ytofmfnbiondplaa.P

namespace Go.Proofs.Ytofmfnbiondplaa.P
open Go.RowKit Go.Proofs.YtofmfnbiondplaaW.PrintWords Go.Proofs.YtofmfnbiondplaaW.PrintLast Go.Proofs.YtofmfnbiondplaaW.PrintMore
attribute [local go_sem] max2_int min2_int max_two min_two max_three min_three max_four min_four   -- for this text's walks alone
set_option linter.unusedVariables false
set_option linter.unusedSimpArgs false

open Go.Proofs.Ytofmfnbiondplaa.X
mutual
def parryref1_Values.j0 : Nat → List (S28) → Int → Bool → Option (List Int × Bool)
  | 0, _, _, _ => none
  | k + 1, x0, x1, x22 => if x22 = true then (some (([] : List Int), false)) else (parryref1_Values.l0 k x1 ([] : List Int) x0 (x0.length : Int) 0)
def parryref1_Values.l0 : Nat → Int → List Int → List (S28) → Int → Int → Option (List Int × Bool)
  | 0, _, _, _, _, _ => none
  | k + 1, x1, x6, x23, x24, x25 => if x25 < x24 then (if 0 ≤ x25 then (if x25 < (x23.length : Int) then ((parryref1_Size.f ((rd_T28 x23 x25).f0) ((rd_T28 x23 x25).f1) ((rd_T28 x23 x25).f2) ((rd_T28 x23 x25).f3) ((rd_T28 x23 x25).f4)).bind fun t299 => (if t299 = 0 then (none) else (if x6.length < 17592186044416 then (parryref1_Values.l0 k (wrap64 (Int.tdiv x1 t299)) (x6 ++ [wrap64 ((Int.tmod x1 t299) + ((rd_T28 x23 x25).f3))]) x23 x24 (wrap64 (x25 + 1))) else (none)))) else (none)) else (none)) else (some (x6, true))
end
def parryref1_Values.f (k : Nat) (l0 : List (S28)) (a1 : Int) : Option (List Int × Bool) := (parryref1_MayVars.f k l0).bind fun t295 => (if t295 = 0 then (if a1 < 0 then (parryref1_Values.j0 k l0 a1 true) else ((parryref1_Total.f k l0).bind fun t296 => (parryref1_Values.j0 k l0 a1 (decide (a1 ≥ t296))))) else (parryref1_Values.j0 k l0 a1 true))
theorem parryref1_Values.mono_l : ∀ k, (∀ y0 y1 y2, LeO (parryref1_Values.j0 k y0 y1 y2) (parryref1_Values.j0 (k + 1) y0 y1 y2)) ∧ (∀ y0 y1 y2 y3 y4, LeO (parryref1_Values.l0 k y0 y1 y2 y3 y4) (parryref1_Values.l0 (k + 1) y0 y1 y2 y3 y4))
  | 0 => ⟨fun _ _ _ r h => by simp [parryref1_Values.j0] at h, fun _ _ _ _ _ r h => by simp [parryref1_Values.l0] at h⟩
  | k + 1 => by
    obtain ⟨ih0, ih1⟩ := parryref1_Values.mono_l k
    refine ⟨?_, ?_⟩
    · intro y0 y1 y2
      unfold parryref1_Values.j0
      repeat' first
      | (with_reducible exact ih0 _ _ _)
      | (with_reducible exact ih1 _ _ _ _ _)
      | (with_reducible exact parryref1_MayVars.mono _ _)
      | (with_reducible exact parryref1_Total.mono _ _)
      | (with_reducible exact LeO.refl _)
      | (with_reducible exact LeO.none _)
      | (with_reducible refine LeO.ite ?_ ?_)
      | (with_reducible refine LeO.bind ?_ (fun _ => ?_))
      | exact ih0 _ _ _
      | exact ih1 _ _ _ _ _
      | exact parryref1_MayVars.mono _ _
      | exact parryref1_Total.mono _ _
      | exact LeO.none _
      | refine LeO.ite ?_ ?_
      | refine LeO.bind ?_ (fun _ => ?_)
    · intro y0 y1 y2 y3 y4
      unfold parryref1_Values.l0
      repeat' first
      | (with_reducible exact ih0 _ _ _)
      | (with_reducible exact ih1 _ _ _ _ _)
      | (with_reducible exact parryref1_MayVars.mono _ _)
      | (with_reducible exact parryref1_Total.mono _ _)
      | (with_reducible exact LeO.refl _)
      | (with_reducible exact LeO.none _)
      | (with_reducible refine LeO.ite ?_ ?_)
      | (with_reducible refine LeO.bind ?_ (fun _ => ?_))
      | exact ih0 _ _ _
      | exact ih1 _ _ _ _ _
      | exact parryref1_MayVars.mono _ _
      | exact parryref1_Total.mono _ _
      | exact LeO.none _
      | refine LeO.ite ?_ ?_
      | refine LeO.bind ?_ (fun _ => ?_)
theorem parryref1_Values.mono : ∀ a0 a1 k, LeO (parryref1_Values.f k a0 a1) (parryref1_Values.f (k + 1) a0 a1) := by
  intro a0 a1 k
  obtain ⟨ih0, ih1⟩ := parryref1_Values.mono_l k
  unfold parryref1_Values.f
  repeat' first
      | (with_reducible exact ih0 _ _ _)
      | (with_reducible exact ih1 _ _ _ _ _)
      | (with_reducible exact parryref1_MayVars.mono _ _)
      | (with_reducible exact parryref1_Total.mono _ _)
      | (with_reducible exact LeO.refl _)
      | (with_reducible exact LeO.none _)
      | (with_reducible refine LeO.ite ?_ ?_)
      | (with_reducible refine LeO.bind ?_ (fun _ => ?_))
      | exact ih0 _ _ _
      | exact ih1 _ _ _ _ _
      | exact parryref1_MayVars.mono _ _
      | exact parryref1_Total.mono _ _
      | exact LeO.none _
      | refine LeO.ite ?_ ?_
      | refine LeO.bind ?_ (fun _ => ?_)
def parryref1_Values.T8 : Bool × List (List Nat × List Nat) := (true, [([], []), ([], []), ([], []), ([1, 2], [1, 2]), ([], []), ([4], [4]), ([3, 5], [3, 5]), ([6], [6]), ([0, 7], [0, 7]), ([8, 8, 0, 1, 2, 3, 4, 5, 6, 7, 8], [0, 8])])
def parryref1_Values.B8 : List Nat := [0, 0, 0, 6, 0, 16, 62, 126, 255, 511]
theorem parryref1_Values.tab8 : rtab .any (opsOf Try.f20 8) = parryref1_Values.T8 := by kernel_rfl
theorem parryref1_Values.bits8 : waitsOk parryref1_Values.T8.2 parryref1_Values.B8 = true := by kernel_rfl
set_option maxHeartbeats 8000000 in
set_option maxRecDepth 100000 in
theorem parryref1_Values.calls (k : Nat) (A0 : Option Addr) (c0 : Nat) (l0 : List (S28)) (a1 : Int) (r1 : List Int) (r2 : Bool) (w : World) (hr0 : Kd.C k28 w A0 l0.length l0) (hc0 : l0.length ≤ c0) (h : parryref1_Values.f k l0 a1 = some (r1, r2)) :
    Calls Try.prog 20 #[.slice A0 l0.length c0, .int .i64 a1] w fun e w' => ∃ v0_ : Value, e = .returned (.tuple #[v0_, .bool r2]) ∧ Kd.R (Kd.int .i64) 3 w' w.heap.size (fun _ => True) v0_ r1 ∧ Below w.heap.size w w' := by
  have hu28 := Try.underlying28
  have HR0 := Aside0.mk hr0
  have HC0 := Aside0.mk hc0
  clear hr0 hc0
  have HB := Aside0.mk (Below.refl w.heap.size w)
  have H : ((parryref1_MayVars.f k l0).bind fun t295 => (if t295 = 0 then (if a1 < 0 then (parryref1_Values.j0 k l0 a1 true) else ((parryref1_Total.f k l0).bind fun t296 => (parryref1_Values.j0 k l0 a1 (decide (a1 ≥ t296))))) else (parryref1_Values.j0 k l0 a1 true))) = some (r1, r2) := h
  clear h
  have HC3 := Aside0.mk H
  clear H
  go_enter Try.func20, Try.ntmps20
  go_upto_region 1 with (fail)
  go_cut [22] (fun v22 wc => ∃ (kq : Nat) (x22_2 : Bool), v22 = .bool x22_2 ∧ Aside0 (parryref1_Values.j0 kq l0 a1 x22_2 = some (r1, r2)) ∧ Aside0 (kq ≤ k) ∧ Aside0 (Below w.heap.size w wc))
  case first =>
    have H := HC3.out
    clear HC3
    replace H := Option.bind_eq_some_iff.mp H
    obtain ⟨t295, A40, H⟩ := H
    replace H : (if t295 = 0 then (if a1 < 0 then (parryref1_Values.j0 k l0 a1 true) else ((parryref1_Total.f k l0).bind fun t296 => (parryref1_Values.j0 k l0 a1 (decide (a1 ≥ t296))))) else (parryref1_Values.j0 k l0 a1 true)) = some (r1, r2) := H
    have A4 := Aside0.mk A40
    clear A40
    by_cases c5 : t295 = 0
    · rw [if_pos c5] at H
      have c5b0 : (t295 == 0) = true := beq_iff_eq.mpr c5
      have c5b1 : (t295 != 0) = false := bne_eq_false_iff_eq.mpr c5
      clear c5
      (first | rw [c5b0] | (simp only [i64_w, i32_w]; rw [c5b0]) | skip)
      by_cases c6 : a1 < 0
      · rw [if_pos c6] at H
        have c6b0 : decide (a1 < 0) = true := decide_eq_true c6
        clear c6
        have H' := Aside0.mk H
        clear H
        go_wp2_with (first | ((with_reducible refine gate_callee (f := 17) rfl ?_); refine goesL_ (some 11) rfl rfl Try.func17 (by kernel_rfl) rfl #[.slice A0 l0.length c0] rfl (by (try simp only [List.map_toArray, List.map_cons, List.map_nil]); first | done | rfl | (simp only [List.length_drop, List.length_take]; rfl)) ?_; (with_reducible refine (parryref1_MayVars.calls k _ _ l0 t295 _ ?side1 ?side2 A4.out).mono ?_); (case side1 => repeat (first | exact (Kd.C_below HR0.out HB.out) | (with_reducible refine Kd.C_alloc ?_ _) | (with_reducible refine Kd.C_drewN ?_ _) | (with_reducible refine Kd.C_drew ?_))); (case side2 => exact HC0.out); rintro e w7 ⟨rfl, hb⟩; refine ⟨_, rfl, ?_⟩; have n0_ := Aside0.mk (below_step (by repeat (first | (with_reducible first | exact HB.out | apply below_alloc | apply pw_below_drewN | apply below_drew1) | exact HB.out)) hb); clear HB; have HB := n0_; clear n0_; (try clear hb); (try clear hb2); (try clear hk); (try clear hi)))
        go_meet
        case rel => exact ⟨_, (true), (by first | rfl | (simp; done) | (simp [*]; done)), H', ⟨by first | omega | exact Nat.le_refl _⟩, ⟨by repeat (first | (with_reducible first | exact HB.out | apply below_alloc | apply pw_below_drewN | apply below_drew1) | exact HB.out)⟩⟩
      · rw [if_neg c6] at H
        have c6b0 : decide (a1 < 0) = false := decide_eq_false c6
        clear c6
        replace H := Option.bind_eq_some_iff.mp H
        obtain ⟨t296, A80, H⟩ := H
        replace H : (parryref1_Values.j0 k l0 a1 (decide (a1 ≥ t296))) = some (r1, r2) := H
        have A8 := Aside0.mk A80
        clear A80
        have H' := Aside0.mk H
        clear H
        go_wp2_with (first | ((with_reducible refine gate_callee (f := 17) rfl ?_); refine goesL_ (some 11) rfl rfl Try.func17 (by kernel_rfl) rfl #[.slice A0 l0.length c0] rfl (by (try simp only [List.map_toArray, List.map_cons, List.map_nil]); first | done | rfl | (simp only [List.length_drop, List.length_take]; rfl)) ?_; (with_reducible refine (parryref1_MayVars.calls k _ _ l0 t295 _ ?side1 ?side2 A4.out).mono ?_); (case side1 => repeat (first | exact (Kd.C_below HR0.out HB.out) | (with_reducible refine Kd.C_alloc ?_ _) | (with_reducible refine Kd.C_drewN ?_ _) | (with_reducible refine Kd.C_drew ?_))); (case side2 => exact HC0.out); rintro e w9 ⟨rfl, hb⟩; refine ⟨_, rfl, ?_⟩; have n0_ := Aside0.mk (below_step (by repeat (first | (with_reducible first | exact HB.out | apply below_alloc | apply pw_below_drewN | apply below_drew1) | exact HB.out)) hb); clear HB; have HB := n0_; clear n0_; (try clear hb); (try clear hb2); (try clear hk); (try clear hi)) | (go_at_call 18; (with_reducible refine (parryref1_Total.calls k _ _ l0 t296 _ ?side1 ?side2 A8.out).mono ?_); (case side1 => repeat (first | exact (Kd.C_below HR0.out HB.out) | (with_reducible refine Kd.C_alloc ?_ _) | (with_reducible refine Kd.C_drewN ?_ _) | (with_reducible refine Kd.C_drew ?_))); (case side2 => exact HC0.out); rintro e w10 ⟨rfl, hb⟩; have n0_ := Aside0.mk (below_step (by repeat (first | (with_reducible first | exact HB.out | apply below_alloc | apply pw_below_drewN | apply below_drew1) | exact HB.out)) hb); clear HB; have HB := n0_; clear n0_; (try clear hb); (try clear hb2); (try clear hk); (try clear hi)))
        go_meet
        case rel => exact ⟨_, (decide (a1 ≥ t296)), (by first | rfl | (simp; done) | (simp [*]; done)), H', ⟨by first | omega | exact Nat.le_refl _⟩, ⟨by repeat (first | (with_reducible first | exact HB.out | apply below_alloc | apply pw_below_drewN | apply below_drew1) | exact HB.out)⟩⟩
    · rw [if_neg c5] at H
      have c5b0 : (t295 == 0) = false := beq_eq_false_iff_ne.mpr c5
      have c5b1 : (t295 != 0) = true := bne_iff_ne.mpr c5
      (first | rw [c5b0] | (simp only [i64_w, i32_w]; rw [c5b0]) | skip)
      have H' := Aside0.mk H
      clear H
      go_wp2_with (first | ((with_reducible refine gate_callee (f := 17) rfl ?_); refine goesL_ (some 11) rfl rfl Try.func17 (by kernel_rfl) rfl #[.slice A0 l0.length c0] rfl (by (try simp only [List.map_toArray, List.map_cons, List.map_nil]); first | done | rfl | (simp only [List.length_drop, List.length_take]; rfl)) ?_; (with_reducible refine (parryref1_MayVars.calls k _ _ l0 t295 _ ?side1 ?side2 A4.out).mono ?_); (case side1 => repeat (first | exact (Kd.C_below HR0.out HB.out) | (with_reducible refine Kd.C_alloc ?_ _) | (with_reducible refine Kd.C_drewN ?_ _) | (with_reducible refine Kd.C_drew ?_))); (case side2 => exact HC0.out); rintro e w11 ⟨rfl, hb⟩; refine ⟨_, rfl, ?_⟩; have n0_ := Aside0.mk (below_step (by repeat (first | (with_reducible first | exact HB.out | apply below_alloc | apply pw_below_drewN | apply below_drew1) | exact HB.out)) hb); clear HB; have HB := n0_; clear n0_; (try clear hb); (try clear hb2); (try clear hk); (try clear hi)))
      go_meet
      case rel => exact ⟨_, (true), (by first | rfl | (simp; done) | (simp [*]; done)), H', ⟨by first | omega | exact Nat.le_refl _⟩, ⟨by repeat (first | (with_reducible first | exact HB.out | apply below_alloc | apply pw_below_drewN | apply below_drew1) | exact HB.out)⟩⟩
  case rest =>
    clear HC3
    try clear c1
    try clear c2
    try clear p2
    try clear c5
    try clear c5b0
    try clear c5b1
    try clear c6
    try clear c6b0
    obtain ⟨kq, x22_2, rfl, HA, HJ2, HB⟩ := hcut
    cases kq with
    | zero => exact absurd HA.out (by simp [parryref1_Values.j0])
    | succ kj2 =>
      have H := HA.out
      clear HA
      simp only [parryref1_Values.j0] at H
      by_cases c12 : x22_2 = true
      · subst c12
        have H1 : (some (([] : List Int), false)) = some (r1, r2) := by rw [if_pos rfl] at H; exact H
        clear H
        have H := H1
        clear H1
        simp only [Option.some.injEq, Prod.mk.injEq] at H
        obtain ⟨rfl, rfl⟩ := H
        go_wp2
        go_ret2
        exact ⟨_, by first | rfl | (simp [errW_none, errW_some] <;> rfl) | (simp [*, errW_none, errW_some] <;> rfl), by first | exact Kd.R_nil _ _ _ _ _ | exact Kd.N_nil _ _ _ _ _ | exact Kd.V_nil _ _ _ _ _ | exact Kd.Q_nil _ _ _ _ _ | exact Kd.S_nil _ _ _ _ _, by repeat (first | (with_reducible first | exact HB.out | apply below_alloc | apply pw_below_drewN | apply below_drew1) | exact HB.out)⟩
      · replace c12 := Bool.eq_false_iff.mpr c12
        subst c12
        have H1 : (parryref1_Values.l0 kj2 a1 ([] : List Int) l0 (l0.length : Int) 0) = some (r1, r2) := by rw [if_neg (show ¬ (false = true) by decide)] at H; exact H
        clear H
        have H := H1
        clear H1
        have H' := Aside0.mk H
        clear H
        go_wp2
        go_loopg [1, 6, 25] kj2 (fun kq v1 v6 v25 w' => ∃ (x1_2 : Int) (x6_2 : List Int) (x25_2 : Int), v1 = .int .i64 x1_2 ∧ v25 = .int .i64 x25_2 ∧ Aside0 (parryref1_Values.l0 kq x1_2 x6_2 l0 (l0.length : Int) x25_2 = some (r1, r2)) ∧ Aside0 (kq ≤ kj2) ∧ Aside0 (Kd.R (Kd.int .i64) 3 w' w.heap.size (fun _ => True) v6 x6_2) ∧ Aside0 (Below w.heap.size w w'))
        case atStart => exact ⟨(a1), (([] : List Int)), (0), (by first | rfl | (simp; done) | (simp [*]; done)), (by first | rfl | (simp; done) | (simp [*]; done)), H', ⟨Nat.le_refl _⟩, ⟨by first | exact Kd.R_nil _ _ _ _ _ | exact Kd.N_nil _ _ _ _ _ | exact Kd.V_nil _ _ _ _ _ | exact Kd.Q_nil _ _ _ _ _ | exact Kd.S_nil _ _ _ _ _⟩, ⟨by repeat (first | (with_reducible first | exact HB.out | apply below_alloc | apply pw_below_drewN | apply below_drew1) | exact HB.out)⟩⟩
        case round =>
          clear H'
          try clear c1
          try clear c2
          try clear p2
          try clear c5
          try clear c5b0
          try clear c5b1
          try clear c6
          try clear c6b0
          try clear c12
          try clear p2
          obtain ⟨x1_2, x6_2, x25_2, rfl, rfl, HA, HK2, HO_6, HB⟩ := hrel
          cases gk with
          | zero => exact absurd HA.out (by simp [parryref1_Values.l0])
          | succ k2 =>
            have H := HA.out
            clear HA
            simp only [parryref1_Values.l0] at H
            by_cases c13 : x25_2 < (l0.length : Int)
            · rw [if_pos c13] at H
              have c13b0 : decide (x25_2 < (l0.length : Int)) = true := decide_eq_true c13
              clear c13
              by_cases c14 : 0 ≤ x25_2
              · rw [if_pos c14] at H
                have c14b0 : decide (0 ≤ x25_2) = true := decide_eq_true c14
                clear c14
                by_cases c15 : x25_2 < (l0.length : Int)
                · rw [if_pos c15] at H
                  have c15b0 : decide (x25_2 < (l0.length : Int)) = true := decide_eq_true c15
                  clear c15
                  replace H := Option.bind_eq_some_iff.mp H
                  obtain ⟨t299, A160, H⟩ := H
                  replace H : (if t299 = 0 then (none) else (if x6_2.length < 17592186044416 then (parryref1_Values.l0 k2 (wrap64 (Int.tdiv x1_2 t299)) (x6_2 ++ [wrap64 ((Int.tmod x1_2 t299) + ((rd_T28 l0 x25_2).f3))]) l0 (l0.length : Int) (wrap64 (x25_2 + 1))) else (none))) = some (r1, r2) := H
                  have A16 := Aside0.mk A160
                  clear A160
                  by_cases c17 : t299 = 0
                  · rw [if_pos c17] at H
                    exact absurd H (by simp)
                  · rw [if_neg c17] at H
                    have c17b0 : (t299 == 0) = false := beq_eq_false_iff_ne.mpr c17
                    have c17b1 : (t299 != 0) = true := bne_iff_ne.mpr c17
                    by_cases c18 : x6_2.length < 17592186044416
                    · rw [if_pos c18] at H
                      have LMc18 := Aside0.mk c18
                      clear c18
                      obtain ⟨y300, hy300⟩ : ∃ y_ : List Int, y_ = (x6_2 ++ [wrap64 ((Int.tmod x1_2 t299) + ((rd_T28 l0 x25_2).f3))]) := ⟨_, rfl⟩
                      replace H : (parryref1_Values.l0 k2 (wrap64 (Int.tdiv x1_2 t299)) y300 l0 (l0.length : Int) (wrap64 (x25_2 + 1))) = some (r1, r2) := by first | (rw [hy300]; with_reducible exact H) | (have H2_ := (Option.bind_some _ _).symm.trans H; rw [hy300]; with_reducible exact H2_) | (have H2_ := (Option.bind_some _ _).symm.trans H; with_reducible exact H2_) | with_reducible exact H | (rw [hy300]; exact H) | exact H
                      have Ny300 := Aside0.mk hy300
                      clear hy300
                      have H' := Aside0.mk H
                      clear H
                      have p297 : 0 ≤ (x25_2 : Int) := of_decide_eq_true (by first | (with_reducible assumption) | assumption)
                      have q297 : x25_2 < (l0.length : Int) := of_decide_eq_true (by first | (with_reducible assumption) | assumption)
                      obtain ⟨ad297, e297, hx297_0, hx297_1, hx297_2, hx297_3, hx297_4⟩ := at_T28 HR0.out x25_2 p297 q297
                      cases e297
                      replace hx297_0 := (HB.out.cell (World.block_lt_of_cell? w _ hx297_0)).trans hx297_0
                      replace hx297_1 := (HB.out.cell (World.block_lt_of_cell? w _ hx297_1)).trans hx297_1
                      replace hx297_2 := (HB.out.cell (World.block_lt_of_cell? w _ hx297_2)).trans hx297_2
                      replace hx297_3 := (HB.out.cell (World.block_lt_of_cell? w _ hx297_3)).trans hx297_3
                      replace hx297_4 := (HB.out.cell (World.block_lt_of_cell? w _ hx297_4)).trans hx297_4
                      replace p297 := eq_true p297
                      replace q297 := eq_true q297
                      try go_wp2_with (first | ((with_reducible refine gate_dst (N := 8) rfl ?_); refine box_event ?hg (N := 8) ?hd (cs := #[.string (⟨#[]⟩ : ByteArray), .bool false, .int .i64 0, .int .i64 0, .int .i64 0]) (t := 28) ?hr ?_; (case hd => rfl); (case hg => rfl); (case hr => first | (go_simp; done) | (go_simp; rfl)); intro gb298 hg w19 hbox hb; have n0_ := Aside0.mk (Kd.R_below (by (with_reducible repeat (first | apply Kd.R_alloc | apply Kd.R_drewN | apply Kd.R_drew)); exact HO_6.out) hb); have n1_ := Aside0.mk (below_step (by repeat (first | (with_reducible first | exact HB.out | apply below_alloc | apply pw_below_drewN | apply below_drew1) | exact HB.out)) hb); have n2_ := Aside0.mk (hbox); have n3_ := Aside0.mk ((by rw [hg]; exact (below_size (by repeat (first | (with_reducible first | exact HB.out | apply below_alloc | apply pw_below_drewN | apply below_drew1) | exact HB.out))) : w.heap.size ≤ gb298)); have n4_ := Aside0.mk ((by rw [hg]; exact (below_size (by repeat (first | (with_reducible first | exact HB.out | apply below_alloc | apply pw_below_drewN | apply below_drew1) | exact HB.out))) : w.heap.size ≤ gb298)); clear HO_6; clear HB; have HO_6 := n0_; have HB := n1_; have BK298 := n2_; have GW298 := n3_; have GE298 := n4_; clear n0_ n1_ n2_ n3_ n4_; clear hb hbox hg; have hcz20_0 : w19.cell? ⟨gb298, 0, none⟩ = some (.string (⟨#[]⟩ : ByteArray)) := (blk_cell BK298.out 0).trans rfl; have hcz20_1 : w19.cell? ⟨gb298, 1, none⟩ = some (.bool false) := (blk_cell BK298.out 1).trans rfl; have hcz20_2 : w19.cell? ⟨gb298, 2, none⟩ = some (.int .i64 0) := (blk_cell BK298.out 2).trans rfl; have hcz20_3 : w19.cell? ⟨gb298, 3, none⟩ = some (.int .i64 0) := (blk_cell BK298.out 3).trans rfl; have hcz20_4 : w19.cell? ⟨gb298, 4, none⟩ = some (.int .i64 0) := (blk_cell BK298.out 4).trans rfl; have hfz20_0 := blk_frozen BK298.out 0; have hfz20_1 := blk_frozen BK298.out 1; have hfz20_2 := blk_frozen BK298.out 2; have hfz20_3 := blk_frozen BK298.out 3; have hfz20_4 := blk_frozen BK298.out 4) | ((with_reducible refine gate_callee (f := 19) rfl ?_); refine goesL_ (some 30) rfl rfl Try.func19 (by kernel_rfl) rfl #[.agg #[.string ((rd_T28 l0 x25_2).f0), .bool ((rd_T28 l0 x25_2).f1), .int .i64 ((rd_T28 l0 x25_2).f2), .int .i64 ((rd_T28 l0 x25_2).f3), .int .i64 ((rd_T28 l0 x25_2).f4)]] rfl (by (try simp only [List.map_toArray, List.map_cons, List.map_nil]); first | done | rfl | (simp only [List.length_drop, List.length_take]; rfl)) ?_; (with_reducible refine (parryref1_Size.calls ((rd_T28 l0 x25_2).f0) ((rd_T28 l0 x25_2).f1) ((rd_T28 l0 x25_2).f2) ((rd_T28 l0 x25_2).f3) ((rd_T28 l0 x25_2).f4) t299 _ A16.out).mono ?_); rintro e w21 ⟨rfl, hb⟩; refine ⟨_, rfl, ?_⟩; have n0_ := Aside0.mk (Kd.R_below (by (with_reducible repeat (first | apply Kd.R_alloc | apply Kd.R_drewN | apply Kd.R_drew)); exact (Kd.R_mono (Kd.R_far (p := ⟨gb298, 4, none⟩) (Kd.R_far (p := ⟨gb298, 3, none⟩) (Kd.R_far (p := ⟨gb298, 2, none⟩) (Kd.R_far (p := ⟨gb298, 1, none⟩) (Kd.R_far (p := ⟨gb298, 0, none⟩) (Kd.R_types HO_6.out BK298.out (by decide)) (fun _ hk => hk.2) (.string ((rd_T28 l0 x25_2).f0))) (fun _ hk => hk.2) (.bool ((rd_T28 l0 x25_2).f1))) (fun _ hk => hk.2) (.int .i64 ((rd_T28 l0 x25_2).f2))) (fun _ hk => hk.2) (.int .i64 ((rd_T28 l0 x25_2).f3))) (fun _ hk => hk.2) (.int .i64 ((rd_T28 l0 x25_2).f4))) (fun _ h_ => h_.1))) hb); have n1_ := Aside0.mk (blk_below (g := gb298) (o := .cells #[.string ((rd_T28 l0 x25_2).f0), .bool ((rd_T28 l0 x25_2).f1), .int .i64 ((rd_T28 l0 x25_2).f2), .int .i64 ((rd_T28 l0 x25_2).f3), .int .i64 ((rd_T28 l0 x25_2).f4)] 28 (0, 0)) (by (with_reducible repeat (first | refine blk_drewN ?_ _ | refine blk_drew ?_ | refine blk_alloc ?_ _)); refine blk_put (cs := #[.string ((rd_T28 l0 x25_2).f0), .bool ((rd_T28 l0 x25_2).f1), .int .i64 ((rd_T28 l0 x25_2).f2), .int .i64 ((rd_T28 l0 x25_2).f3), .int .i64 0]) ?_ 4 _ rfl; (with_reducible repeat (first | refine blk_drewN ?_ _ | refine blk_drew ?_ | refine blk_alloc ?_ _)); refine blk_put (cs := #[.string ((rd_T28 l0 x25_2).f0), .bool ((rd_T28 l0 x25_2).f1), .int .i64 ((rd_T28 l0 x25_2).f2), .int .i64 0, .int .i64 0]) ?_ 3 _ rfl; (with_reducible repeat (first | refine blk_drewN ?_ _ | refine blk_drew ?_ | refine blk_alloc ?_ _)); refine blk_put (cs := #[.string ((rd_T28 l0 x25_2).f0), .bool ((rd_T28 l0 x25_2).f1), .int .i64 0, .int .i64 0, .int .i64 0]) ?_ 2 _ rfl; (with_reducible repeat (first | refine blk_drewN ?_ _ | refine blk_drew ?_ | refine blk_alloc ?_ _)); refine blk_put (cs := #[.string ((rd_T28 l0 x25_2).f0), .bool false, .int .i64 0, .int .i64 0, .int .i64 0]) ?_ 1 _ rfl; (with_reducible repeat (first | refine blk_drewN ?_ _ | refine blk_drew ?_ | refine blk_alloc ?_ _)); refine blk_put (cs := #[.string (⟨#[]⟩ : ByteArray), .bool false, .int .i64 0, .int .i64 0, .int .i64 0]) ?_ 0 _ rfl; (with_reducible repeat (first | refine blk_drewN ?_ _ | refine blk_drew ?_ | refine blk_alloc ?_ _)); exact BK298.out) hb); have n2_ := Aside0.mk (below_step (by repeat (first | (with_reducible first | exact HB.out | apply below_alloc | apply pw_below_drewN | apply below_drew1 | refine below_set ?_ GE298.out) | exact HB.out)) hb); clear HO_6; clear BK298; clear HB; have HO_6 := n0_; have BK298 := n1_; have HB := n2_; clear n0_ n1_ n2_; (try clear hb); (try clear hb2); (try clear hk); (try clear hi)))
                      have n0_ := Aside0.mk (Kd.R_drew HO_6.out)
                      have n1_ := Aside0.mk (blk_drew BK298.out)
                      have n2_ := Aside0.mk (below_drew1 HB.out)
                      clear HO_6
                      clear BK298
                      clear HB
                      have HO_6 := n0_
                      have BK298 := n1_
                      have HB := n2_
                      clear n0_ n1_ n2_
                      refine start_ (n := 10) (S := fun w' => w'.cell? ⟨gb298, 0, none⟩ = some (.string ((rd_T28 l0 x25_2).f0)) ∧ w'.cell? ⟨gb298, 1, none⟩ = some (.bool ((rd_T28 l0 x25_2).f1)) ∧ w'.cell? ⟨gb298, 2, none⟩ = some (.int .i64 ((rd_T28 l0 x25_2).f2)) ∧ w'.cell? ⟨gb298, 3, none⟩ = some (.int .i64 ((rd_T28 l0 x25_2).f3)) ∧ w'.cell? ⟨gb298, 4, none⟩ = some (.int .i64 ((rd_T28 l0 x25_2).f4))) (ds := []) #[false, false, false, false, false, false, false, false, false, false] (by kernel_rfl) rfl rfl ⟨(blk_cell BK298.out 0).trans rfl, (blk_cell BK298.out 1).trans rfl, (blk_cell BK298.out 2).trans rfl, (blk_cell BK298.out 3).trans rfl, (blk_cell BK298.out 4).trans rfl⟩ (fun hHeld => ?_); refine with_tabW parryref1_Values.tab8 parryref1_Values.bits8 (fun HT_ HW_ => ?_)
                      generalize w21.drew = w22 at HO_6 BK298 HB hHeld ⊢
                      refine pure_ (i := 0) (N := some 31) (v := ?_) (a' := ?_) #[true, false, false, false, false, false, false, false, false, false] rfl rfl (any_of HT_.out (by kernel_rfl)) (fun _ _ _ h => h) (Or.inl ⟨by rfl, ?_⟩) ?_ ?_
                      rotate_left
                      · intro w'
                        go_simp
                        with_reducible rfl
                      rotate_left
                      · simp only [Act.put, List.setIfInBounds_toArray, List.set_cons_zero, List.set_cons_succ, i64_w, i32_w]
                        rfl
                      refine pure_ (i := 1) (N := some 32) (v := ?_) (a' := ?_) #[true, true, false, false, false, false, false, false, false, false] rfl rfl (any_of HT_.out (by kernel_rfl)) (fun _ _ _ h => h) (Or.inl ⟨by rfl, ?_⟩) ?_ ?_
                      rotate_left
                      · intro w'
                        go_simp
                        with_reducible rfl
                      rotate_left
                      · simp only [Act.put, List.setIfInBounds_toArray, List.set_cons_zero, List.set_cons_succ, i64_w, i32_w]
                        rfl
                      refine pure_ (i := 2) (N := some 33) (v := ?_) (a' := ?_) #[true, true, true, false, false, false, false, false, false, false] rfl rfl (any_of HT_.out (by kernel_rfl)) (fun _ _ _ h => h) (Or.inl ⟨by rfl, ?_⟩) ?_ ?_
                      rotate_left
                      · intro w'
                        go_simp
                        with_reducible rfl
                      rotate_left
                      · simp only [Act.put, List.setIfInBounds_toArray, List.set_cons_zero, List.set_cons_succ, i64_w, i32_w]
                        rfl
                      refine pure_ (i := 3) (N := some 34) (v := ?_) (a' := ?_) #[true, true, true, true, false, false, false, false, false, false] rfl rfl (any_of HT_.out (by kernel_rfl)) (fun _ _ _ h => h) (Or.inl ⟨by rfl, ?_⟩) ?_ ?_
                      rotate_left
                      · intro w'
                        go_simp
                        with_reducible rfl
                      rotate_left
                      · simp only [Act.put, List.setIfInBounds_toArray, List.set_cons_zero, List.set_cons_succ, i64_w, i32_w]
                        rfl
                      refine pure_ (i := 4) (N := some 35) (v := ?_) (a' := ?_) #[true, true, true, true, true, false, false, false, false, false] rfl rfl (any_of HT_.out (by kernel_rfl)) (fun _ _ _ h => h) (Or.inl ⟨by rfl, ?_⟩) ?_ ?_
                      rotate_left
                      · intro w'
                        go_simp
                        with_reducible rfl
                      rotate_left
                      · simp only [Act.put, List.setIfInBounds_toArray, List.set_cons_zero, List.set_cons_succ, i64_w, i32_w]
                        rfl
                      refine take_ (i := 5) (N := some 36) (v := ?_) (a' := ?_) #[true, true, true, true, true, true, false, false, false, false] rfl rfl (take_ofW HT_.out HW_.out (by kernel_rfl)) (fun _ _ _ h => h) (Or.inl ⟨by rfl, ?_⟩) hHeld ?_ ?_
                      rotate_left
                      · rintro w' ⟨s0, s1, s2, s3, s4⟩
                        go_simp
                        with_reducible rfl
                      rotate_left
                      · simp only [Act.put, List.setIfInBounds_toArray, List.set_cons_zero, List.set_cons_succ, i64_w, i32_w]
                        rfl
                      refine pure_ (i := 6) (N := some 37) (v := ?_) (a' := ?_) #[true, true, true, true, true, true, true, false, false, false] rfl rfl (any_of HT_.out (by kernel_rfl)) (fun _ _ _ h => h) (Or.inl ⟨by rfl, ?_⟩) ?_ ?_
                      rotate_left
                      · intro w'
                        go_simp
                        with_reducible rfl
                      rotate_left
                      · simp only [Act.put, List.setIfInBounds_toArray, List.set_cons_zero, List.set_cons_succ, i64_w, i32_w]
                        rfl
                      refine one_ (i := 7) (N := some 38) #[true, true, true, true, true, true, true, true, false, false] rfl rfl (one_of HT_.out (by kernel_rfl)) (by decide) (fun K hK => ?_)
                      refine value_ (w1 := ?_) (v := ?_) (by rfl) rfl ?_ ?_
                      rotate_left 2
                      · go_simp
                        constructor
                        · rfl
                        · rfl
                      refine hK.out _ _ ⟨(blk_cell (blk_alloc BK298.out _) 0).trans rfl, (blk_cell (blk_alloc BK298.out _) 1).trans rfl, (blk_cell (blk_alloc BK298.out _) 2).trans rfl, (blk_cell (blk_alloc BK298.out _) 3).trans rfl, (blk_cell (blk_alloc BK298.out _) 4).trans rfl⟩ (fun hHeld => ?_)
                      clear hK K
                      refine norm_ (a' := ?_) ?_ ?_
                      rotate_left
                      · show Act.put _ (some 38) _ = _
                        simp only [Act.put, List.setIfInBounds_toArray, List.set_cons_zero, List.set_cons_succ, i64_w, i32_w]
                        rfl
                      refine one_ (i := 8) (N := some 39) #[true, true, true, true, true, true, true, true, true, false] rfl rfl (one_of HT_.out (by kernel_rfl)) (by decide) (fun K hK => ?_)
                      refine Kd.R_append_step (Kd.int .i64) (w0 := w) w.heap.size (by rfl) (.tmp 31) (.tmp 38) 30 3 (.int .i64 0) 8 rfl Try.underlying30 info3 rfl (by decide) (by omega) u6 x6_2 (wrap64 ((Int.tmod x1_2 t299) + ((rd_T28 l0 x25_2).f3))) [.int .i64 (wrap64 ((Int.tmod x1_2 t299) + ((rd_T28 l0 x25_2).f3)))] (fun _ => True) (fun _ => False) rfl rfl ?aP (fun _ hk => hk.elim) ?aF ?aO ?aB ?aS ?aL ?_
                      (case aP => exact rfl)
                      (case aB => exact (by repeat (first | (with_reducible first | exact HB.out | apply below_alloc | apply pw_below_drewN | apply below_drew1 | refine below_set ?_ GE298.out) | exact HB.out)))
                      (case aF => exact (fun _ _ => trivial))
                      (case aO => exact (by (with_reducible repeat (first | apply Kd.R_alloc | apply Kd.R_drewN | apply Kd.R_drew)); exact HO_6.out))
                      (case aS => exact (below_size (by repeat (first | (with_reducible first | exact HB.out | apply below_alloc | apply pw_below_drewN | apply below_drew1 | refine below_set ?_ GE298.out) | exact HB.out))))
                      (case aL => have := LMc18.out; omega)
                      intro v301 w23 ho hb hg hat
                      rw [← Ny300.out] at ho
                      have n0_ := Aside0.mk (blk_grown (g := gb298) (o := .cells #[.string ((rd_T28 l0 x25_2).f0), .bool ((rd_T28 l0 x25_2).f1), .int .i64 ((rd_T28 l0 x25_2).f2), .int .i64 ((rd_T28 l0 x25_2).f3), .int .i64 ((rd_T28 l0 x25_2).f4)] 28 (0, 0)) (by (with_reducible repeat (first | refine blk_drewN ?_ _ | refine blk_drew ?_ | refine blk_alloc ?_ _)); exact BK298.out) hg (Kd.R_ne HO_6.out BK298.out (by decide)))
                      have n1_ := Aside0.mk (hb)
                      have n2_ := Aside0.mk (ho)
                      clear BK298
                      clear HB
                      clear HO_6
                      have BK298 := n0_
                      have HB := n1_
                      have HO302 := n2_
                      clear n0_ n1_ n2_
                      clear ho hb hg hat
                      refine hK.out _ _ ⟨(blk_cell BK298.out 0).trans rfl, (blk_cell BK298.out 1).trans rfl, (blk_cell BK298.out 2).trans rfl, (blk_cell BK298.out 3).trans rfl, (blk_cell BK298.out 4).trans rfl⟩ (fun hHeld => ?_)
                      clear hK K
                      refine norm_ (a' := ?_) ?_ ?_
                      rotate_left
                      · show Act.put _ (some 39) _ = _
                        simp only [Act.put, List.setIfInBounds_toArray, List.set_cons_zero, List.set_cons_succ, i64_w, i32_w]
                        rfl
                      refine pure_ (i := 9) (N := some 6) (v := ?_) (a' := ?_) #[true, true, true, true, true, true, true, true, true, true] rfl rfl (any_of HT_.out (by kernel_rfl)) (fun _ _ _ h => h) (Or.inl ⟨by rfl, ?_⟩) ?_ ?_
                      rotate_left
                      · intro w'
                        go_simp
                        with_reducible rfl
                      rotate_left
                      · simp only [Act.put, List.setIfInBounds_toArray, List.set_cons_zero, List.set_cons_succ, i64_w, i32_w]
                        rfl
                      refine done_ (done_of HT_.out (by kernel_rfl)) ?_
                      try go_wp2
                      go_roundg k2
                      case measure => have := HJ2.out; have := HK2.out; omega
                      case rel => exact ⟨(wrap64 (Int.tdiv x1_2 t299)), (y300), (wrap64 (x25_2 + 1)), (by first | rfl | (simp; done) | (simp [*]; done)), (by first | rfl | (simp; done) | (simp [*]; done)), H', ⟨by have := HJ2.out; have := HK2.out; omega⟩, ⟨by (with_reducible repeat (first | apply Kd.R_alloc | apply Kd.R_drewN | apply Kd.R_drew)); exact HO302.out⟩, ⟨by repeat (first | (with_reducible first | exact HB.out | apply below_alloc | apply pw_below_drewN | apply below_drew1 | refine below_set ?_ GE298.out) | exact HB.out)⟩⟩
                    · rw [if_neg c18] at H
                      exact absurd H (by simp)
                · rw [if_neg c15] at H
                  exact absurd H (by simp)
              · rw [if_neg c14] at H
                exact absurd H (by simp)
            · rw [if_neg c13] at H
              have c13b0 : decide (x25_2 < (l0.length : Int)) = false := decide_eq_false c13
              clear c13
              simp only [Option.some.injEq, Prod.mk.injEq] at H
              obtain ⟨rfl, rfl⟩ := H
              go_wp2
              go_ret2
              exact ⟨_, by first | rfl | (simp [errW_none, errW_some] <;> rfl) | (simp [*, errW_none, errW_some] <;> rfl), by (with_reducible repeat (first | apply Kd.R_alloc | apply Kd.R_drewN | apply Kd.R_drew)); exact HO_6.out, by repeat (first | (with_reducible first | exact HB.out | apply below_alloc | apply pw_below_drewN | apply below_drew1) | exact HB.out)⟩

end Go.Proofs.Ytofmfnbiondplaa.P

