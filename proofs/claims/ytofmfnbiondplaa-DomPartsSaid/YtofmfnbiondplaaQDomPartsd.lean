/- A part of the claim DomParts. -/
import Derived.Test.YtofmfnbiondplaaQDomPartsa
import Derived.Test.YtofmfnbiondplaaQDomPartsb
import Derived.Test.YtofmfnbiondplaaQDomPartsc
namespace Go.Proofs.Ytofmfnbiondplaa.P
open Go.RowKit Go.Proofs.YtofmfnbiondplaaW.PrintWords Go.Proofs.YtofmfnbiondplaaW.PrintLast Go.Proofs.YtofmfnbiondplaaW.PrintMore
attribute [local go_sem] max2_int min2_int max_two min_two max_three min_three max_four min_four   -- for this text's walks alone
set_option linter.unusedVariables false
set_option linter.unusedSimpArgs false

mutual
def parrylaw1_DomParts.l0 : Nat → List (S28) → Int → Int → Int → List Int → List Int → List Int → List (S28) → Int → Int → Option (Bool)
 | 0, _, _, _, _, _, _, _, _, _, _ => none
 | k + 1, x0, x1, x2, x3, x9, x13, x15, x116, x117, x118 => if x118 < x117 then (if 0 ≤ x118 then (if x118 < (x116.length : Int) then (if (rd_T28 x116 x118).f1 = true then (if x118 < (x13.length : Int) then (if x118 < (x9.length : Int) then (if (rd x13 x118) = (rd x9 x118) then (if x118 < (x15.length : Int) then (if (rd x15 x118) = ((rd_T28 x116 x118).f3) then (parrylaw1_DomParts.l0 k x0 x1 x2 x3 x9 x13 x15 x116 x117 (wrap64 (x118 + 1))) else (some false)) else (none)) else (some false)) else (none)) else (none)) else (if x118 < (x15.length : Int) then (if x118 < (x9.length : Int) then (if (rd x15 x118) = (rd x9 x118) then (if x118 < (x13.length : Int) then (if (rd x13 x118) = ((rd_T28 x116 x118).f3) then (parrylaw1_DomParts.l0 k x0 x1 x2 x3 x9 x13 x15 x116 x117 (wrap64 (x118 + 1))) else (some false)) else (none)) else (some false)) else (none)) else (none))) else (none)) else (none)) else ((dom_With.f k x0 x1 x2 x3).bind fun bt219 => (if bt219.2 = true then ((dom_Values.f k x0 bt219.1).bind fun bt221 => (if bt221.2 = true then (if (bt221.1.length : Int) = (x0.length : Int) then (if x2 < 0 then (some false) else (if x2 ≥ (x0.length : Int) then (some false) else (parrylaw1_DomParts.l1 k x2 x3 x9 bt221.1 (bt221.1.length : Int) 0))) else (some false)) else (some false))) else (if bt219.1 = 0 then (if x2 < 0 then ((parrylaw1_awake.f k).bind fun t229 => (some t229)) else (if x2 ≥ (x0.length : Int) then ((parrylaw1_awake.f k).bind fun t230 => (some t230)) else (if 0 ≤ x2 then (if x2 < (x0.length : Int) then (if x3 < ((rd_T28 x0 x2).f3) then ((parrylaw1_awake.f k).bind fun t232 => (some t232)) else ((dom_Size.f ((rd_T28 x0 x2).f0) ((rd_T28 x0 x2).f1) ((rd_T28 x0 x2).f2) ((rd_T28 x0 x2).f3) ((rd_T28 x0 x2).f4)).bind fun t235 => (if x3 ≥ (wrap64 (((rd_T28 x0 x2).f3) + t235)) then ((parrylaw1_awake.f k).bind fun t236 => (some t236)) else (some false)))) else (none)) else (none)))) else (some false))))
def parrylaw1_DomParts.l1 : Nat → Int → Int → List Int → List Int → Int → Int → Option (Bool)
 | 0, _, _, _, _, _, _ => none
 | k + 1, x2, x3, x9, x21, x246, x247 => if x247 < x246 then (if x247 = x2 then (if 0 ≤ x247 then (if x247 < (x21.length : Int) then (if (rd x21 x247) = x3 then (parrylaw1_DomParts.l1 k x2 x3 x9 x21 x246 (wrap64 (x247 + 1))) else (some false)) else (none)) else (none)) else (if 0 ≤ x247 then (if x247 < (x21.length : Int) then (if x247 < (x9.length : Int) then (if (rd x21 x247) = (rd x9 x247) then (parrylaw1_DomParts.l1 k x2 x3 x9 x21 x246 (wrap64 (x247 + 1))) else (some false)) else (none)) else (none)) else (none))) else ((parrylaw1_awake.f k).bind fun t228 => (some t228))
end
def parrylaw1_DomParts.f (k : Nat) (l0 : List (S28)) (a1 : Int) (a2 : Int) (a3 : Int) : Option (Bool) := (parrylaw1_Heavy.f k l0).bind fun t188 => (if t188 > 0 then ((parrylaw1_awake.f k).bind fun t189 => (some t189)) else ((dom_May.f k l0).bind fun t190 => (if t190 = 0 then ((dom_Total.f k l0).bind fun t191 => (if t191 < 1 then ((parrylaw1_awake.f k).bind fun t192 => (some t192)) else ((dom_Total.f k l0).bind fun t193 => (if (IntKind.u64.wrap (t193)) = 0 then (none) else ((dom_Values.f k l0 (wrap64 (Int.tmod (IntKind.u64.wrap (a1)) (IntKind.u64.wrap (t193))))).bind fun bt194 => ((dom_Part.f k l0 (wrap64 (Int.tmod (IntKind.u64.wrap (a1)) (IntKind.u64.wrap (t193)))) true).bind fun t198 => ((dom_Part.f k l0 (wrap64 (Int.tmod (IntKind.u64.wrap (a1)) (IntKind.u64.wrap (t193)))) false).bind fun t199 => ((dom_Values.f k l0 t198).bind fun bt200 => ((dom_Values.f k l0 t199).bind fun bt204 => (if bt194.2 = true then (if bt200.2 = true then (if bt204.2 = true then (if (bt194.1.length : Int) = (l0.length : Int) then (if (bt200.1.length : Int) = (l0.length : Int) then (if (bt204.1.length : Int) = (l0.length : Int) then ((dom_Part.f k l0 t198 true).bind fun t208 => (if t208 = t198 then ((dom_Part.f k l0 t198 false).bind fun t209 => ((dom_Part.f k l0 t199 true).bind fun t210 => (if t209 = t210 then (parrylaw1_DomParts.l0 k l0 (wrap64 (Int.tmod (IntKind.u64.wrap (a1)) (IntKind.u64.wrap (t193)))) a2 a3 bt194.1 bt200.1 bt204.1 l0 (l0.length : Int) 0) else (some false)))) else (some false))) else (some false)) else (some false)) else (some false)) else (some false)) else (some false)) else (some false))))))))))) else ((parrylaw1_awake.f k).bind fun t237 => (some t237)))))
theorem parrylaw1_DomParts.mono_l : ∀ k, (∀ y0 y1 y2 y3 y4 y5 y6 y7 y8 y9, LeO (parrylaw1_DomParts.l0 k y0 y1 y2 y3 y4 y5 y6 y7 y8 y9) (parrylaw1_DomParts.l0 (k + 1) y0 y1 y2 y3 y4 y5 y6 y7 y8 y9)) ∧ (∀ y0 y1 y2 y3 y4 y5, LeO (parrylaw1_DomParts.l1 k y0 y1 y2 y3 y4 y5) (parrylaw1_DomParts.l1 (k + 1) y0 y1 y2 y3 y4 y5))
 | 0 => ⟨fun _ _ _ _ _ _ _ _ _ _ r h => by simp [parrylaw1_DomParts.l0] at h, fun _ _ _ _ _ _ r h => by simp [parrylaw1_DomParts.l1] at h⟩
 | k + 1 => by
  obtain ⟨ih0, ih1⟩ := parrylaw1_DomParts.mono_l k
  refine ⟨?_, ?_⟩
  ·intro y0 y1 y2 y3 y4 y5 y6 y7 y8 y9
   unfold parrylaw1_DomParts.l0
   repeat' first
   | (with_reducible exact ih0 _ _ _ _ _ _ _ _ _ _)
   | (with_reducible exact ih1 _ _ _ _ _ _)
   | (with_reducible exact dom_May.mono _ _)
   | (with_reducible exact dom_Part.mono _ _ _ _)
   | (with_reducible exact dom_Total.mono _ _)
   | (with_reducible exact dom_Values.mono _ _ _)
   | (with_reducible exact dom_With.mono _ _ _ _ _)
   | (with_reducible exact parrylaw1_Heavy.mono _ _)
   | (with_reducible exact parrylaw1_awake.mono _)
   | (with_reducible exact LeO.refl _)
   | (with_reducible exact LeO.none _)
   | (with_reducible refine LeO.ite ?_ ?_)
   | (with_reducible refine LeO.bind ?_ (fun _ => ?_))
   | exact ih0 _ _ _ _ _ _ _ _ _ _
   | exact ih1 _ _ _ _ _ _
   | exact dom_May.mono _ _
   | exact dom_Part.mono _ _ _ _
   | exact dom_Total.mono _ _
   | exact dom_Values.mono _ _ _
   | exact dom_With.mono _ _ _ _ _
   | exact parrylaw1_Heavy.mono _ _
   | exact parrylaw1_awake.mono _
   | exact LeO.none _
   | refine LeO.ite ?_ ?_
   | refine LeO.bind ?_ (fun _ => ?_)
  ·intro y0 y1 y2 y3 y4 y5
   unfold parrylaw1_DomParts.l1
   repeat' first
   | (with_reducible exact ih0 _ _ _ _ _ _ _ _ _ _)
   | (with_reducible exact ih1 _ _ _ _ _ _)
   | (with_reducible exact dom_May.mono _ _)
   | (with_reducible exact dom_Part.mono _ _ _ _)
   | (with_reducible exact dom_Total.mono _ _)
   | (with_reducible exact dom_Values.mono _ _ _)
   | (with_reducible exact dom_With.mono _ _ _ _ _)
   | (with_reducible exact parrylaw1_Heavy.mono _ _)
   | (with_reducible exact parrylaw1_awake.mono _)
   | (with_reducible exact LeO.refl _)
   | (with_reducible exact LeO.none _)
   | (with_reducible refine LeO.ite ?_ ?_)
   | (with_reducible refine LeO.bind ?_ (fun _ => ?_))
   | exact ih0 _ _ _ _ _ _ _ _ _ _
   | exact ih1 _ _ _ _ _ _
   | exact dom_May.mono _ _
   | exact dom_Part.mono _ _ _ _
   | exact dom_Total.mono _ _
   | exact dom_Values.mono _ _ _
   | exact dom_With.mono _ _ _ _ _
   | exact parrylaw1_Heavy.mono _ _
   | exact parrylaw1_awake.mono _
   | exact LeO.none _
   | refine LeO.ite ?_ ?_
   | refine LeO.bind ?_ (fun _ => ?_)
theorem parrylaw1_DomParts.mono : ∀ a0 a1 a2 a3 k, LeO (parrylaw1_DomParts.f k a0 a1 a2 a3) (parrylaw1_DomParts.f (k + 1) a0 a1 a2 a3) := by
 intro a0 a1 a2 a3 k
 obtain ⟨ih0, ih1⟩ := parrylaw1_DomParts.mono_l k
 unfold parrylaw1_DomParts.f
 repeat' first
   | (with_reducible exact ih0 _ _ _ _ _ _ _ _ _ _)
   | (with_reducible exact ih1 _ _ _ _ _ _)
   | (with_reducible exact dom_May.mono _ _)
   | (with_reducible exact dom_Part.mono _ _ _ _)
   | (with_reducible exact dom_Total.mono _ _)
   | (with_reducible exact dom_Values.mono _ _ _)
   | (with_reducible exact dom_With.mono _ _ _ _ _)
   | (with_reducible exact parrylaw1_Heavy.mono _ _)
   | (with_reducible exact parrylaw1_awake.mono _)
   | (with_reducible exact LeO.refl _)
   | (with_reducible exact LeO.none _)
   | (with_reducible refine LeO.ite ?_ ?_)
   | (with_reducible refine LeO.bind ?_ (fun _ => ?_))
   | exact ih0 _ _ _ _ _ _ _ _ _ _
   | exact ih1 _ _ _ _ _ _
   | exact dom_May.mono _ _
   | exact dom_Part.mono _ _ _ _
   | exact dom_Total.mono _ _
   | exact dom_Values.mono _ _ _
   | exact dom_With.mono _ _ _ _ _
   | exact parrylaw1_Heavy.mono _ _
   | exact parrylaw1_awake.mono _
   | exact LeO.none _
   | refine LeO.ite ?_ ?_
   | refine LeO.bind ?_ (fun _ => ?_)
def parrylaw1_DomParts.T13 : Bool × List (List Nat × List Nat) := (true, [([], []), ([0], [0]), ([1], [1]), ([2], [2]), ([2], [2]), ([3, 4, 2], [2, 3, 4]), ([5, 2], [2, 5]), ([2], [2]), ([2], [2]), ([7, 8, 2], [2, 7, 8]), ([9, 2], [2, 9]), ([6, 10, 2], [2, 6, 10]), ([11, 2, 2], [2, 11]), ([12], [12]), ([12], [12]), ([13, 14, 12], [12, 13, 14]), ([15, 12], [12, 15]), ([12], [12]), ([17, 12], [12, 17]), ([16, 18, 12], [12, 16, 18]), ([12, 19, 2], [2, 12, 19]), ([2, 20], [2, 20]), ([21, 12], [21]), ([22], [22]), ([23, 22], [22, 23]), ([24, 22], [22, 24]), ([25, 22, 22], [22, 25]), ([26], [26]), ([26], [26]), ([27, 28, 26], [26, 27, 28]), ([29, 26], [26, 29]), ([26], [26]), ([26], [26]), ([31, 32, 26], [26, 31, 32]), ([33, 26], [26, 33]), ([30, 34, 26], [26, 30, 34]), ([35, 26, 26], [26, 35]), ([36], [36]), ([36], [36]), ([37, 38, 36], [36, 37, 38]), ([39, 36], [36, 39]), ([36], [36]), ([41, 36], [36, 41]), ([40, 42, 36], [36, 40, 42]), ([36, 43, 26], [26, 36, 43]), ([26, 44, 22], [22, 26, 44]), ([22, 45], [22, 45])])
def parrylaw1_DomParts.B13 : List Nat := [0, 1, 3, 7, 7, 31, 63, 7, 7, 391, 903, 2047, 4095, 8191, 8191, 32767, 65535, 8191, 139263, 524287, 1048575, 2097151, 4194303, 8388607, 16777215, 33554431, 67108863, 134217727, 134217727, 536870911, 1073741823, 134217727, 134217727, 6576668671, 15166603263, 34359738367, 68719476735, 137438953471, 137438953471, 549755813887, 1099511627775, 137438953471, 2336462209023, 8796093022207, 17592186044415, 35184372088831, 70368744177663]
theorem parrylaw1_DomParts.tab13 : rtab .any (opsOf Try.f8 13) = parrylaw1_DomParts.T13 := by kernel_rfl
theorem parrylaw1_DomParts.bits13 : waitsOk parrylaw1_DomParts.T13.2 parrylaw1_DomParts.B13 = true := by kernel_rfl
def parrylaw1_DomParts.T18 : Bool × List (List Nat × List Nat) := (true, [([], []), ([0], [0]), ([1], [1]), ([2], [2]), ([3, 2], [2, 3]), ([4, 2, 2], [2, 4]), ([5], [5]), ([5], [5]), ([7, 5], [5, 7]), ([6, 8, 5], [5, 6, 8]), ([5, 9, 2], [2, 5, 9]), ([10, 5, 2], [2, 10]), ([11], [11]), ([11], [11]), ([11], [11]), ([13, 14, 11], [11, 13, 14]), ([15, 11], [11, 15]), ([16, 11], [11, 16]), ([12, 17, 11], [11, 12, 17]), ([11, 18, 2], [2, 11, 18]), ([19, 11, 2], [2, 19]), ([20], [20]), ([20], [20]), ([20], [20]), ([22, 23, 20], [20, 22, 23]), ([24, 20], [20, 24]), ([25, 20], [20, 25]), ([20], [20]), ([20], [20]), ([27, 28, 20], [20, 27, 28]), ([29, 20], [20, 29]), ([30, 20, 20], [20, 30]), ([26, 31, 20], [20, 26, 31]), ([21, 32, 20], [20, 21, 32]), ([20, 33, 2], [2, 20, 33]), ([2, 34], [2, 34]), ([35, 31], [35]), ([36, 36], [36]), ([36, 37], [36, 37]), ([38, 37, 0, 1, 2, 3, 4, 5, 6, 7, 8, 9, 10, 11, 12, 13, 14, 15, 16, 17, 18, 19, 20, 21, 22, 23, 24, 25, 26, 27, 28, 29, 30, 31, 32, 33, 34, 35, 36, 37, 38], [38])])
def parrylaw1_DomParts.B18 : List Nat := [0, 1, 3, 7, 15, 31, 63, 63, 191, 511, 1023, 2047, 4095, 4095, 4095, 28671, 61439, 126975, 262143, 524287, 1048575, 2097151, 2097151, 2097151, 14680063, 31457279, 65011711, 2097151, 2097151, 404750335, 941621247, 2015363071, 4292870143, 8589934591, 17179869183, 34359738367, 68719476735, 137438953471, 274877906943, 549755813887]
theorem parrylaw1_DomParts.tab18 : rtab .any (opsOf Try.f8 18) = parrylaw1_DomParts.T18 := by kernel_rfl
theorem parrylaw1_DomParts.bits18 : waitsOk parrylaw1_DomParts.T18.2 parrylaw1_DomParts.B18 = true := by kernel_rfl
def parrylaw1_DomParts.T25 : Bool × List (List Nat × List Nat) := (true, [([], []), ([], []), ([0, 1], [0, 1]), ([2], [2]), ([3], [3]), ([3], [3]), ([4, 5, 3], [3, 4, 5]), ([6, 3], [3, 6]), ([3], [3]), ([7, 8, 3], [3, 7, 8]), ([3, 9], [3, 9]), ([10, 3], [10]), ([11], [11]), ([11], [11]), ([12, 13, 11], [11, 12, 13]), ([14, 11, 11], [11, 14]), ([15], [15]), ([15], [15]), ([16, 17, 15], [15, 16, 17]), ([18, 15], [15, 18]), ([15], [15]), ([15], [15]), ([20, 21, 15], [15, 20, 21]), ([22, 15], [15, 22]), ([19, 23, 15], [15, 19, 23]), ([15, 24, 11], [11, 15, 24]), ([11, 25], [11, 25])])
def parrylaw1_DomParts.B25 : List Nat := [0, 0, 3, 7, 15, 15, 63, 127, 15, 511, 1023, 2047, 4095, 4095, 16383, 32767, 65535, 65535, 262143, 524287, 65535, 65535, 3211263, 7405567, 16777215, 33554431, 67108863]
theorem parrylaw1_DomParts.tab25 : rtab .any (opsOf Try.f8 25) = parrylaw1_DomParts.T25 := by kernel_rfl
theorem parrylaw1_DomParts.bits25 : waitsOk parrylaw1_DomParts.T25.2 parrylaw1_DomParts.B25 = true := by kernel_rfl
set_option maxHeartbeats 8000000 in
set_option maxRecDepth 100000 in
theorem parrylaw1_DomParts.calls (k : Nat) (A0 : Option Addr) (c0 : Nat) (l0 : List (S28)) (a1 : Int) (a2 : Int) (a3 : Int) (r : Bool) (w : World) (hr0 : Kd.C k28 w A0 l0.length l0) (hc0 : l0.length ≤ c0) (h : parrylaw1_DomParts.f k l0 a1 a2 a3 = some r) (hrt : r = true) :
  Calls Try.prog 8 #[.slice A0 l0.length c0, .int .i64 a1, .int .i64 a2, .int .i64 a3] w fun e w' => e = .returned (.bool r) ∧ Below w.heap.size w w' := by
 have hu28 := Try.underlying28
 have HR0 := Aside0.mk hr0
 have HC0 := Aside0.mk hc0
 clear hr0 hc0
 have HB := Aside0.mk (Below.refl w.heap.size w)
 have HRT := Aside0.mk hrt
 clear hrt
 have H : ((parrylaw1_Heavy.f k l0).bind fun t188 => (if t188 > 0 then ((parrylaw1_awake.f k).bind fun t189 => (some t189)) else ((dom_May.f k l0).bind fun t190 => (if t190 = 0 then ((dom_Total.f k l0).bind fun t191 => (if t191 < 1 then ((parrylaw1_awake.f k).bind fun t192 => (some t192)) else ((dom_Total.f k l0).bind fun t193 => (if (IntKind.u64.wrap (t193)) = 0 then (none) else ((dom_Values.f k l0 (wrap64 (Int.tmod (IntKind.u64.wrap (a1)) (IntKind.u64.wrap (t193))))).bind fun bt194 => ((dom_Part.f k l0 (wrap64 (Int.tmod (IntKind.u64.wrap (a1)) (IntKind.u64.wrap (t193)))) true).bind fun t198 => ((dom_Part.f k l0 (wrap64 (Int.tmod (IntKind.u64.wrap (a1)) (IntKind.u64.wrap (t193)))) false).bind fun t199 => ((dom_Values.f k l0 t198).bind fun bt200 => ((dom_Values.f k l0 t199).bind fun bt204 => (if bt194.2 = true then (if bt200.2 = true then (if bt204.2 = true then (if (bt194.1.length : Int) = (l0.length : Int) then (if (bt200.1.length : Int) = (l0.length : Int) then (if (bt204.1.length : Int) = (l0.length : Int) then ((dom_Part.f k l0 t198 true).bind fun t208 => (if t208 = t198 then ((dom_Part.f k l0 t198 false).bind fun t209 => ((dom_Part.f k l0 t199 true).bind fun t210 => (if t209 = t210 then (parrylaw1_DomParts.l0 k l0 (wrap64 (Int.tmod (IntKind.u64.wrap (a1)) (IntKind.u64.wrap (t193)))) a2 a3 bt194.1 bt200.1 bt204.1 l0 (l0.length : Int) 0) else (some false)))) else (some false))) else (some false)) else (some false)) else (some false)) else (some false)) else (some false)) else (some false))))))))))) else ((parrylaw1_awake.f k).bind fun t237 => (some t237)))))) = some r := h
 clear h
 replace H := Option.bind_eq_some_iff.mp H
 obtain ⟨t188, A50, H⟩ := H
 replace H : (if t188 > 0 then ((parrylaw1_awake.f k).bind fun t189 => (some t189)) else ((dom_May.f k l0).bind fun t190 => (if t190 = 0 then ((dom_Total.f k l0).bind fun t191 => (if t191 < 1 then ((parrylaw1_awake.f k).bind fun t192 => (some t192)) else ((dom_Total.f k l0).bind fun t193 => (if (IntKind.u64.wrap (t193)) = 0 then (none) else ((dom_Values.f k l0 (wrap64 (Int.tmod (IntKind.u64.wrap (a1)) (IntKind.u64.wrap (t193))))).bind fun bt194 => ((dom_Part.f k l0 (wrap64 (Int.tmod (IntKind.u64.wrap (a1)) (IntKind.u64.wrap (t193)))) true).bind fun t198 => ((dom_Part.f k l0 (wrap64 (Int.tmod (IntKind.u64.wrap (a1)) (IntKind.u64.wrap (t193)))) false).bind fun t199 => ((dom_Values.f k l0 t198).bind fun bt200 => ((dom_Values.f k l0 t199).bind fun bt204 => (if bt194.2 = true then (if bt200.2 = true then (if bt204.2 = true then (if (bt194.1.length : Int) = (l0.length : Int) then (if (bt200.1.length : Int) = (l0.length : Int) then (if (bt204.1.length : Int) = (l0.length : Int) then ((dom_Part.f k l0 t198 true).bind fun t208 => (if t208 = t198 then ((dom_Part.f k l0 t198 false).bind fun t209 => ((dom_Part.f k l0 t199 true).bind fun t210 => (if t209 = t210 then (parrylaw1_DomParts.l0 k l0 (wrap64 (Int.tmod (IntKind.u64.wrap (a1)) (IntKind.u64.wrap (t193)))) a2 a3 bt194.1 bt200.1 bt204.1 l0 (l0.length : Int) 0) else (some false)))) else (some false))) else (some false)) else (some false)) else (some false)) else (some false)) else (some false)) else (some false))))))))))) else ((parrylaw1_awake.f k).bind fun t237 => (some t237))))) = some r := H
 have A5 := Aside0.mk A50
 clear A50
 by_cases c6 : t188 > 0
 ·rw [if_pos c6] at H
  have c6b0 : decide (0 < t188) = true := decide_eq_true c6
  clear c6
  replace H := Option.bind_eq_some_iff.mp H
  obtain ⟨t189, A70, H⟩ := H
  replace H : (some t189) = some r := H
  have A7 := Aside0.mk A70
  clear A70
  obtain rfl := Option.some.inj H
  go_enter Try.func8, Try.ntmps8
  go_wp2_with (first | ((with_reducible refine gate_callee (f := 9) rfl ?_); refine goesL_ (some 25) rfl rfl Try.func9 (by kernel_rfl) rfl #[.slice A0 l0.length c0] rfl (by (try simp only [List.map_toArray, List.map_cons, List.map_nil]); first | done | rfl | (simp only [List.length_drop, List.length_take]; rfl)) ?_; (with_reducible refine (parrylaw1_Heavy.calls k _ _ l0 t188 _ ?side1 ?side2 A5.out).mono ?_); (case side1 => repeat (first | exact HR0.out | (with_reducible refine Kd.C_alloc ?_ _) | (with_reducible refine Kd.C_drewN ?_ _) | (with_reducible refine Kd.C_drew ?_))); (case side2 => exact HC0.out); rintro e w8 ⟨rfl, hb⟩; refine ⟨_, rfl, ?_⟩; have n0_ := Aside0.mk (below_step (by repeat (first | (with_reducible first | exact HB.out | apply below_alloc | apply pw_below_drewN | apply below_drew1) | exact HB.out)) hb); clear HB; have HB := n0_; clear n0_; (try clear hb); (try clear hb2); (try clear hk); (try clear hi)) | ((with_reducible refine gate_callee (f := 11) rfl ?_); refine goesL_ (some 37) rfl rfl Try.func11 (by kernel_rfl) rfl #[] rfl (by (try simp only [List.map_toArray, List.map_cons, List.map_nil]); first | done | rfl | (simp only [List.length_drop, List.length_take]; rfl)) ?_; (with_reducible refine (parrylaw1_awake.calls k  t189 _ A7.out).mono ?_); rintro e w9 ⟨rfl, hb⟩; refine ⟨_, rfl, ?_⟩; have n0_ := Aside0.mk (below_step (by repeat (first | (with_reducible first | exact HB.out | apply below_alloc | apply pw_below_drewN | apply below_drew1) | exact HB.out)) hb); clear HB; have HB := n0_; clear n0_; (try clear hb); (try clear hb2); (try clear hk); (try clear hi)))
  go_ret
  exact ⟨by first | rfl | (simp [errW_none, errW_some] <;> rfl) | (simp [*, errW_none, errW_some] <;> rfl), by repeat (first | (with_reducible first | exact HB.out | apply below_alloc | apply pw_below_drewN | apply below_drew1) | exact HB.out)⟩
 ·rw [if_neg c6] at H
  have c6b0 : decide (0 < t188) = false := decide_eq_false c6
  clear c6
  replace H := Option.bind_eq_some_iff.mp H
  obtain ⟨t190, A100, H⟩ := H
  replace H : (if t190 = 0 then ((dom_Total.f k l0).bind fun t191 => (if t191 < 1 then ((parrylaw1_awake.f k).bind fun t192 => (some t192)) else ((dom_Total.f k l0).bind fun t193 => (if (IntKind.u64.wrap (t193)) = 0 then (none) else ((dom_Values.f k l0 (wrap64 (Int.tmod (IntKind.u64.wrap (a1)) (IntKind.u64.wrap (t193))))).bind fun bt194 => ((dom_Part.f k l0 (wrap64 (Int.tmod (IntKind.u64.wrap (a1)) (IntKind.u64.wrap (t193)))) true).bind fun t198 => ((dom_Part.f k l0 (wrap64 (Int.tmod (IntKind.u64.wrap (a1)) (IntKind.u64.wrap (t193)))) false).bind fun t199 => ((dom_Values.f k l0 t198).bind fun bt200 => ((dom_Values.f k l0 t199).bind fun bt204 => (if bt194.2 = true then (if bt200.2 = true then (if bt204.2 = true then (if (bt194.1.length : Int) = (l0.length : Int) then (if (bt200.1.length : Int) = (l0.length : Int) then (if (bt204.1.length : Int) = (l0.length : Int) then ((dom_Part.f k l0 t198 true).bind fun t208 => (if t208 = t198 then ((dom_Part.f k l0 t198 false).bind fun t209 => ((dom_Part.f k l0 t199 true).bind fun t210 => (if t209 = t210 then (parrylaw1_DomParts.l0 k l0 (wrap64 (Int.tmod (IntKind.u64.wrap (a1)) (IntKind.u64.wrap (t193)))) a2 a3 bt194.1 bt200.1 bt204.1 l0 (l0.length : Int) 0) else (some false)))) else (some false))) else (some false)) else (some false)) else (some false)) else (some false)) else (some false)) else (some false))))))))))) else ((parrylaw1_awake.f k).bind fun t237 => (some t237))) = some r := H
  have A10 := Aside0.mk A100
  clear A100
  by_cases c11 : t190 = 0
  ·rw [if_pos c11] at H
   have c11b0 : (t190 == 0) = true := beq_iff_eq.mpr c11
   have c11b1 : (t190 != 0) = false := bne_eq_false_iff_eq.mpr c11
   clear c11
   replace H := Option.bind_eq_some_iff.mp H
   obtain ⟨t191, A120, H⟩ := H
   replace H : (if t191 < 1 then ((parrylaw1_awake.f k).bind fun t192 => (some t192)) else ((dom_Total.f k l0).bind fun t193 => (if (IntKind.u64.wrap (t193)) = 0 then (none) else ((dom_Values.f k l0 (wrap64 (Int.tmod (IntKind.u64.wrap (a1)) (IntKind.u64.wrap (t193))))).bind fun bt194 => ((dom_Part.f k l0 (wrap64 (Int.tmod (IntKind.u64.wrap (a1)) (IntKind.u64.wrap (t193)))) true).bind fun t198 => ((dom_Part.f k l0 (wrap64 (Int.tmod (IntKind.u64.wrap (a1)) (IntKind.u64.wrap (t193)))) false).bind fun t199 => ((dom_Values.f k l0 t198).bind fun bt200 => ((dom_Values.f k l0 t199).bind fun bt204 => (if bt194.2 = true then (if bt200.2 = true then (if bt204.2 = true then (if (bt194.1.length : Int) = (l0.length : Int) then (if (bt200.1.length : Int) = (l0.length : Int) then (if (bt204.1.length : Int) = (l0.length : Int) then ((dom_Part.f k l0 t198 true).bind fun t208 => (if t208 = t198 then ((dom_Part.f k l0 t198 false).bind fun t209 => ((dom_Part.f k l0 t199 true).bind fun t210 => (if t209 = t210 then (parrylaw1_DomParts.l0 k l0 (wrap64 (Int.tmod (IntKind.u64.wrap (a1)) (IntKind.u64.wrap (t193)))) a2 a3 bt194.1 bt200.1 bt204.1 l0 (l0.length : Int) 0) else (some false)))) else (some false))) else (some false)) else (some false)) else (some false)) else (some false)) else (some false)) else (some false)))))))))) = some r := H
   have A12 := Aside0.mk A120
   clear A120
   by_cases c13 : t191 < 1
   ·rw [if_pos c13] at H
    have c13b0 : decide (t191 < 1) = true := decide_eq_true c13
    clear c13
    replace H := Option.bind_eq_some_iff.mp H
    obtain ⟨t192, A140, H⟩ := H
    replace H : (some t192) = some r := H
    have A14 := Aside0.mk A140
    clear A140
    obtain rfl := Option.some.inj H
    go_enter Try.func8, Try.ntmps8
    go_wp2_with (first | ((with_reducible refine gate_callee (f := 9) rfl ?_); refine goesL_ (some 25) rfl rfl Try.func9 (by kernel_rfl) rfl #[.slice A0 l0.length c0] rfl (by (try simp only [List.map_toArray, List.map_cons, List.map_nil]); first | done | rfl | (simp only [List.length_drop, List.length_take]; rfl)) ?_; (with_reducible refine (parrylaw1_Heavy.calls k _ _ l0 t188 _ ?side1 ?side2 A5.out).mono ?_); (case side1 => repeat (first | exact HR0.out | (with_reducible refine Kd.C_alloc ?_ _) | (with_reducible refine Kd.C_drewN ?_ _) | (with_reducible refine Kd.C_drew ?_))); (case side2 => exact HC0.out); rintro e w15 ⟨rfl, hb⟩; refine ⟨_, rfl, ?_⟩; have n0_ := Aside0.mk (below_step (by repeat (first | (with_reducible first | exact HB.out | apply below_alloc | apply pw_below_drewN | apply below_drew1) | exact HB.out)) hb); clear HB; have HB := n0_; clear n0_; (try clear hb); (try clear hb2); (try clear hk); (try clear hi)) | (go_at_call 10; (with_reducible refine (dom_May.calls k _ _ l0 t190 _ ?side1 ?side2 A10.out).mono ?_); (case side1 => repeat (first | exact (Kd.C_below HR0.out HB.out) | (with_reducible refine Kd.C_alloc ?_ _) | (with_reducible refine Kd.C_drewN ?_ _) | (with_reducible refine Kd.C_drew ?_))); (case side2 => exact HC0.out); rintro e w16 ⟨rfl, hb⟩; have n0_ := Aside0.mk (below_step (by repeat (first | (with_reducible first | exact HB.out | apply below_alloc | apply pw_below_drewN | apply below_drew1) | exact HB.out)) hb); clear HB; have HB := n0_; clear n0_; (try clear hb); (try clear hb2); (try clear hk); (try clear hi)) | (go_at_call 12; (with_reducible refine (dom_Total.calls k _ _ l0 t191 _ ?side1 ?side2 A12.out).mono ?_); (case side1 => repeat (first | exact (Kd.C_below HR0.out HB.out) | (with_reducible refine Kd.C_alloc ?_ _) | (with_reducible refine Kd.C_drewN ?_ _) | (with_reducible refine Kd.C_drew ?_))); (case side2 => exact HC0.out); rintro e w17 ⟨rfl, hb⟩; have n0_ := Aside0.mk (below_step (by repeat (first | (with_reducible first | exact HB.out | apply below_alloc | apply pw_below_drewN | apply below_drew1) | exact HB.out)) hb); clear HB; have HB := n0_; clear n0_; (try clear hb); (try clear hb2); (try clear hk); (try clear hi)) | ((with_reducible refine gate_callee (f := 11) rfl ?_); refine goesL_ (some 37) rfl rfl Try.func11 (by kernel_rfl) rfl #[] rfl (by (try simp only [List.map_toArray, List.map_cons, List.map_nil]); first | done | rfl | (simp only [List.length_drop, List.length_take]; rfl)) ?_; (with_reducible refine (parrylaw1_awake.calls k  t192 _ A14.out).mono ?_); rintro e w18 ⟨rfl, hb⟩; refine ⟨_, rfl, ?_⟩; have n0_ := Aside0.mk (below_step (by repeat (first | (with_reducible first | exact HB.out | apply below_alloc | apply pw_below_drewN | apply below_drew1) | exact HB.out)) hb); clear HB; have HB := n0_; clear n0_; (try clear hb); (try clear hb2); (try clear hk); (try clear hi)))
    go_ret
    exact ⟨by first | rfl | (simp [errW_none, errW_some] <;> rfl) | (simp [*, errW_none, errW_some] <;> rfl), by repeat (first | (with_reducible first | exact HB.out | apply below_alloc | apply pw_below_drewN | apply below_drew1) | exact HB.out)⟩
   ·rw [if_neg c13] at H
    have c13b0 : decide (t191 < 1) = false := decide_eq_false c13
    clear c13
    replace H := Option.bind_eq_some_iff.mp H
    obtain ⟨t193, A190, H⟩ := H
    replace H : (if (IntKind.u64.wrap (t193)) = 0 then (none) else ((dom_Values.f k l0 (wrap64 (Int.tmod (IntKind.u64.wrap (a1)) (IntKind.u64.wrap (t193))))).bind fun bt194 => ((dom_Part.f k l0 (wrap64 (Int.tmod (IntKind.u64.wrap (a1)) (IntKind.u64.wrap (t193)))) true).bind fun t198 => ((dom_Part.f k l0 (wrap64 (Int.tmod (IntKind.u64.wrap (a1)) (IntKind.u64.wrap (t193)))) false).bind fun t199 => ((dom_Values.f k l0 t198).bind fun bt200 => ((dom_Values.f k l0 t199).bind fun bt204 => (if bt194.2 = true then (if bt200.2 = true then (if bt204.2 = true then (if (bt194.1.length : Int) = (l0.length : Int) then (if (bt200.1.length : Int) = (l0.length : Int) then (if (bt204.1.length : Int) = (l0.length : Int) then ((dom_Part.f k l0 t198 true).bind fun t208 => (if t208 = t198 then ((dom_Part.f k l0 t198 false).bind fun t209 => ((dom_Part.f k l0 t199 true).bind fun t210 => (if t209 = t210 then (parrylaw1_DomParts.l0 k l0 (wrap64 (Int.tmod (IntKind.u64.wrap (a1)) (IntKind.u64.wrap (t193)))) a2 a3 bt194.1 bt200.1 bt204.1 l0 (l0.length : Int) 0) else (some false)))) else (some false))) else (some false)) else (some false)) else (some false)) else (some false)) else (some false)) else (some false)))))))) = some r := H
    have A19 := Aside0.mk A190
    clear A190
    by_cases c20 : (IntKind.u64.wrap (t193)) = 0
    ·rw [if_pos c20] at H
     exact absurd H (by simp)
    ·rw [if_neg c20] at H
     have c20b0 : ((IntKind.u64.wrap (t193)) == 0) = false := beq_eq_false_iff_ne.mpr c20
     have c20b1 : ((IntKind.u64.wrap (t193)) != 0) = true := bne_iff_ne.mpr c20
     replace H := Option.bind_eq_some_iff.mp H
     obtain ⟨⟨t194, t195⟩, A210, H⟩ := H
     replace H : ((dom_Part.f k l0 (wrap64 (Int.tmod (IntKind.u64.wrap (a1)) (IntKind.u64.wrap (t193)))) true).bind fun t198 => ((dom_Part.f k l0 (wrap64 (Int.tmod (IntKind.u64.wrap (a1)) (IntKind.u64.wrap (t193)))) false).bind fun t199 => ((dom_Values.f k l0 t198).bind fun bt200 => ((dom_Values.f k l0 t199).bind fun bt204 => (if t195 = true then (if bt200.2 = true then (if bt204.2 = true then (if (t194.length : Int) = (l0.length : Int) then (if (bt200.1.length : Int) = (l0.length : Int) then (if (bt204.1.length : Int) = (l0.length : Int) then ((dom_Part.f k l0 t198 true).bind fun t208 => (if t208 = t198 then ((dom_Part.f k l0 t198 false).bind fun t209 => ((dom_Part.f k l0 t199 true).bind fun t210 => (if t209 = t210 then (parrylaw1_DomParts.l0 k l0 (wrap64 (Int.tmod (IntKind.u64.wrap (a1)) (IntKind.u64.wrap (t193)))) a2 a3 t194 bt200.1 bt204.1 l0 (l0.length : Int) 0) else (some false)))) else (some false))) else (some false)) else (some false)) else (some false)) else (some false)) else (some false)) else (some false)))))) = some r := H
     have A21 := Aside0.mk A210
     clear A210
     replace H := Option.bind_eq_some_iff.mp H
     obtain ⟨t198, A220, H⟩ := H
     replace H : ((dom_Part.f k l0 (wrap64 (Int.tmod (IntKind.u64.wrap (a1)) (IntKind.u64.wrap (t193)))) false).bind fun t199 => ((dom_Values.f k l0 t198).bind fun bt200 => ((dom_Values.f k l0 t199).bind fun bt204 => (if t195 = true then (if bt200.2 = true then (if bt204.2 = true then (if (t194.length : Int) = (l0.length : Int) then (if (bt200.1.length : Int) = (l0.length : Int) then (if (bt204.1.length : Int) = (l0.length : Int) then ((dom_Part.f k l0 t198 true).bind fun t208 => (if t208 = t198 then ((dom_Part.f k l0 t198 false).bind fun t209 => ((dom_Part.f k l0 t199 true).bind fun t210 => (if t209 = t210 then (parrylaw1_DomParts.l0 k l0 (wrap64 (Int.tmod (IntKind.u64.wrap (a1)) (IntKind.u64.wrap (t193)))) a2 a3 t194 bt200.1 bt204.1 l0 (l0.length : Int) 0) else (some false)))) else (some false))) else (some false)) else (some false)) else (some false)) else (some false)) else (some false)) else (some false))))) = some r := H
     have A22 := Aside0.mk A220
     clear A220
     replace H := Option.bind_eq_some_iff.mp H
     obtain ⟨t199, A230, H⟩ := H
     replace H : ((dom_Values.f k l0 t198).bind fun bt200 => ((dom_Values.f k l0 t199).bind fun bt204 => (if t195 = true then (if bt200.2 = true then (if bt204.2 = true then (if (t194.length : Int) = (l0.length : Int) then (if (bt200.1.length : Int) = (l0.length : Int) then (if (bt204.1.length : Int) = (l0.length : Int) then ((dom_Part.f k l0 t198 true).bind fun t208 => (if t208 = t198 then ((dom_Part.f k l0 t198 false).bind fun t209 => ((dom_Part.f k l0 t199 true).bind fun t210 => (if t209 = t210 then (parrylaw1_DomParts.l0 k l0 (wrap64 (Int.tmod (IntKind.u64.wrap (a1)) (IntKind.u64.wrap (t193)))) a2 a3 t194 bt200.1 bt204.1 l0 (l0.length : Int) 0) else (some false)))) else (some false))) else (some false)) else (some false)) else (some false)) else (some false)) else (some false)) else (some false)))) = some r := H
     have A23 := Aside0.mk A230
     clear A230
     replace H := Option.bind_eq_some_iff.mp H
     obtain ⟨⟨t200, t201⟩, A240, H⟩ := H
     replace H : ((dom_Values.f k l0 t199).bind fun bt204 => (if t195 = true then (if t201 = true then (if bt204.2 = true then (if (t194.length : Int) = (l0.length : Int) then (if (t200.length : Int) = (l0.length : Int) then (if (bt204.1.length : Int) = (l0.length : Int) then ((dom_Part.f k l0 t198 true).bind fun t208 => (if t208 = t198 then ((dom_Part.f k l0 t198 false).bind fun t209 => ((dom_Part.f k l0 t199 true).bind fun t210 => (if t209 = t210 then (parrylaw1_DomParts.l0 k l0 (wrap64 (Int.tmod (IntKind.u64.wrap (a1)) (IntKind.u64.wrap (t193)))) a2 a3 t194 t200 bt204.1 l0 (l0.length : Int) 0) else (some false)))) else (some false))) else (some false)) else (some false)) else (some false)) else (some false)) else (some false)) else (some false))) = some r := H
     have A24 := Aside0.mk A240
     clear A240
     replace H := Option.bind_eq_some_iff.mp H
     obtain ⟨⟨t204, t205⟩, A250, H⟩ := H
     replace H : (if t195 = true then (if t201 = true then (if t205 = true then (if (t194.length : Int) = (l0.length : Int) then (if (t200.length : Int) = (l0.length : Int) then (if (t204.length : Int) = (l0.length : Int) then ((dom_Part.f k l0 t198 true).bind fun t208 => (if t208 = t198 then ((dom_Part.f k l0 t198 false).bind fun t209 => ((dom_Part.f k l0 t199 true).bind fun t210 => (if t209 = t210 then (parrylaw1_DomParts.l0 k l0 (wrap64 (Int.tmod (IntKind.u64.wrap (a1)) (IntKind.u64.wrap (t193)))) a2 a3 t194 t200 t204 l0 (l0.length : Int) 0) else (some false)))) else (some false))) else (some false)) else (some false)) else (some false)) else (some false)) else (some false)) else (some false)) = some r := H
     have A25 := Aside0.mk A250
     clear A250
     by_cases c26 : t195 = true
     ·subst c26
      have H1 : (if t201 = true then (if t205 = true then (if (t194.length : Int) = (l0.length : Int) then (if (t200.length : Int) = (l0.length : Int) then (if (t204.length : Int) = (l0.length : Int) then ((dom_Part.f k l0 t198 true).bind fun t208 => (if t208 = t198 then ((dom_Part.f k l0 t198 false).bind fun t209 => ((dom_Part.f k l0 t199 true).bind fun t210 => (if t209 = t210 then (parrylaw1_DomParts.l0 k l0 (wrap64 (Int.tmod (IntKind.u64.wrap (a1)) (IntKind.u64.wrap (t193)))) a2 a3 t194 t200 t204 l0 (l0.length : Int) 0) else (some false)))) else (some false))) else (some false)) else (some false)) else (some false)) else (some false)) else (some false)) = some r := by rw [if_pos rfl] at H; exact H
      clear H
      have H := H1
      clear H1
      by_cases c27 : t201 = true
      ·subst c27
       have H1 : (if t205 = true then (if (t194.length : Int) = (l0.length : Int) then (if (t200.length : Int) = (l0.length : Int) then (if (t204.length : Int) = (l0.length : Int) then ((dom_Part.f k l0 t198 true).bind fun t208 => (if t208 = t198 then ((dom_Part.f k l0 t198 false).bind fun t209 => ((dom_Part.f k l0 t199 true).bind fun t210 => (if t209 = t210 then (parrylaw1_DomParts.l0 k l0 (wrap64 (Int.tmod (IntKind.u64.wrap (a1)) (IntKind.u64.wrap (t193)))) a2 a3 t194 t200 t204 l0 (l0.length : Int) 0) else (some false)))) else (some false))) else (some false)) else (some false)) else (some false)) else (some false)) = some r := by rw [if_pos rfl] at H; exact H
       clear H
       have H := H1
       clear H1
       by_cases c28 : t205 = true
       ·subst c28
        have H1 : (if (t194.length : Int) = (l0.length : Int) then (if (t200.length : Int) = (l0.length : Int) then (if (t204.length : Int) = (l0.length : Int) then ((dom_Part.f k l0 t198 true).bind fun t208 => (if t208 = t198 then ((dom_Part.f k l0 t198 false).bind fun t209 => ((dom_Part.f k l0 t199 true).bind fun t210 => (if t209 = t210 then (parrylaw1_DomParts.l0 k l0 (wrap64 (Int.tmod (IntKind.u64.wrap (a1)) (IntKind.u64.wrap (t193)))) a2 a3 t194 t200 t204 l0 (l0.length : Int) 0) else (some false)))) else (some false))) else (some false)) else (some false)) else (some false)) = some r := by rw [if_pos rfl] at H; exact H
        clear H
        have H := H1
        clear H1
        by_cases c29 : (t194.length : Int) = (l0.length : Int)
        ·rw [if_pos c29] at H
         have c29b0 : ((t194.length : Int) == (l0.length : Int)) = true := beq_iff_eq.mpr c29
         have c29b1 : ((t194.length : Int) != (l0.length : Int)) = false := bne_eq_false_iff_eq.mpr c29
         have c29b2 : (t194.length == l0.length) = true := by first | simpa using c29 | (simp at c29 ⊢; omega)
         clear c29
         by_cases c30 : (t200.length : Int) = (l0.length : Int)
         ·rw [if_pos c30] at H
          have c30b0 : ((t200.length : Int) == (l0.length : Int)) = true := beq_iff_eq.mpr c30
          have c30b1 : ((t200.length : Int) != (l0.length : Int)) = false := bne_eq_false_iff_eq.mpr c30
          have c30b2 : (t200.length == l0.length) = true := by first | simpa using c30 | (simp at c30 ⊢; omega)
          clear c30
          by_cases c31 : (t204.length : Int) = (l0.length : Int)
          ·rw [if_pos c31] at H
           have c31b0 : ((t204.length : Int) == (l0.length : Int)) = true := beq_iff_eq.mpr c31
           have c31b1 : ((t204.length : Int) != (l0.length : Int)) = false := bne_eq_false_iff_eq.mpr c31
           have c31b2 : (t204.length == l0.length) = true := by first | simpa using c31 | (simp at c31 ⊢; omega)
           clear c31
           replace H := Option.bind_eq_some_iff.mp H
           obtain ⟨t208, A320, H⟩ := H
           replace H : (if t208 = t198 then ((dom_Part.f k l0 t198 false).bind fun t209 => ((dom_Part.f k l0 t199 true).bind fun t210 => (if t209 = t210 then (parrylaw1_DomParts.l0 k l0 (wrap64 (Int.tmod (IntKind.u64.wrap (a1)) (IntKind.u64.wrap (t193)))) a2 a3 t194 t200 t204 l0 (l0.length : Int) 0) else (some false)))) else (some false)) = some r := H
           have A32 := Aside0.mk A320
           clear A320
           by_cases c33 : t208 = t198
           ·rw [if_pos c33] at H
            have c33b0 : (t208 == t198) = true := beq_iff_eq.mpr c33
            have c33b1 : (t208 != t198) = false := bne_eq_false_iff_eq.mpr c33
            clear c33
            replace H := Option.bind_eq_some_iff.mp H
            obtain ⟨t209, A340, H⟩ := H
            replace H : ((dom_Part.f k l0 t199 true).bind fun t210 => (if t209 = t210 then (parrylaw1_DomParts.l0 k l0 (wrap64 (Int.tmod (IntKind.u64.wrap (a1)) (IntKind.u64.wrap (t193)))) a2 a3 t194 t200 t204 l0 (l0.length : Int) 0) else (some false))) = some r := H
            have A34 := Aside0.mk A340
            clear A340
            replace H := Option.bind_eq_some_iff.mp H
            obtain ⟨t210, A350, H⟩ := H
            replace H : (if t209 = t210 then (parrylaw1_DomParts.l0 k l0 (wrap64 (Int.tmod (IntKind.u64.wrap (a1)) (IntKind.u64.wrap (t193)))) a2 a3 t194 t200 t204 l0 (l0.length : Int) 0) else (some false)) = some r := H
            have A35 := Aside0.mk A350
            clear A350
            by_cases c36 : t209 = t210
            ·rw [if_pos c36] at H
             have c36b0 : (t209 == t210) = true := beq_iff_eq.mpr c36
             have c36b1 : (t209 != t210) = false := bne_eq_false_iff_eq.mpr c36
             clear c36
             have H' := Aside0.mk H
             clear H
             go_enter Try.func8, Try.ntmps8
             go_wp2_with (first | ((with_reducible refine gate_callee (f := 9) rfl ?_); refine goesL_ (some 25) rfl rfl Try.func9 (by kernel_rfl) rfl #[.slice A0 l0.length c0] rfl (by (try simp only [List.map_toArray, List.map_cons, List.map_nil]); first | done | rfl | (simp only [List.length_drop, List.length_take]; rfl)) ?_; (with_reducible refine (parrylaw1_Heavy.calls k _ _ l0 t188 _ ?side1 ?side2 A5.out).mono ?_); (case side1 => repeat (first | exact HR0.out | (with_reducible refine Kd.C_alloc ?_ _) | (with_reducible refine Kd.C_drewN ?_ _) | (with_reducible refine Kd.C_drew ?_))); (case side2 => exact HC0.out); rintro e w37 ⟨rfl, hb⟩; refine ⟨_, rfl, ?_⟩; have n0_ := Aside0.mk (below_step (by repeat (first | (with_reducible first | exact HB.out | apply below_alloc | apply pw_below_drewN | apply below_drew1) | exact HB.out)) hb); clear HB; have HB := n0_; clear n0_; (try clear hb); (try clear hb2); (try clear hk); (try clear hi)) | (go_at_call 10; (with_reducible refine (dom_May.calls k _ _ l0 t190 _ ?side1 ?side2 A10.out).mono ?_); (case side1 => repeat (first | exact (Kd.C_below HR0.out HB.out) | (with_reducible refine Kd.C_alloc ?_ _) | (with_reducible refine Kd.C_drewN ?_ _) | (with_reducible refine Kd.C_drew ?_))); (case side2 => exact HC0.out); rintro e w38 ⟨rfl, hb⟩; have n0_ := Aside0.mk (below_step (by repeat (first | (with_reducible first | exact HB.out | apply below_alloc | apply pw_below_drewN | apply below_drew1) | exact HB.out)) hb); clear HB; have HB := n0_; clear n0_; (try clear hb); (try clear hb2); (try clear hk); (try clear hi)) | (go_at_call 12; (with_reducible refine (dom_Total.calls k _ _ l0 t191 _ ?side1 ?side2 A12.out).mono ?_); (case side1 => repeat (first | exact (Kd.C_below HR0.out HB.out) | (with_reducible refine Kd.C_alloc ?_ _) | (with_reducible refine Kd.C_drewN ?_ _) | (with_reducible refine Kd.C_drew ?_))); (case side2 => exact HC0.out); rintro e w39 ⟨rfl, hb⟩; have n0_ := Aside0.mk (below_step (by repeat (first | (with_reducible first | exact HB.out | apply below_alloc | apply pw_below_drewN | apply below_drew1) | exact HB.out)) hb); clear HB; have HB := n0_; clear n0_; (try clear hb); (try clear hb2); (try clear hk); (try clear hi)) | ((with_reducible refine gate_callee (f := 12) rfl ?_); refine goesL_ (some 41) rfl rfl Try.func12 (by kernel_rfl) rfl #[.slice A0 l0.length c0] rfl (by (try simp only [List.map_toArray, List.map_cons, List.map_nil]); first | done | rfl | (simp only [List.length_drop, List.length_take]; rfl)) ?_; (with_reducible refine (dom_Total.calls k _ _ l0 t193 _ ?side1 ?side2 A19.out).mono ?_); (case side1 => repeat (first | exact (Kd.C_below HR0.out HB.out) | (with_reducible refine Kd.C_alloc ?_ _) | (with_reducible refine Kd.C_drewN ?_ _) | (with_reducible refine Kd.C_drew ?_))); (case side2 => exact HC0.out); rintro e w40 ⟨rfl, hb⟩; refine ⟨_, rfl, ?_⟩; have n0_ := Aside0.mk (below_step (by repeat (first | (with_reducible first | exact HB.out | apply below_alloc | apply pw_below_drewN | apply below_drew1) | exact HB.out)) hb); clear HB; have HB := n0_; clear n0_; (try clear hb); (try clear hb2); (try clear hk); (try clear hi)) | ((with_reducible refine gate_callee (f := 14) rfl ?_); refine goesL_ (some 48) rfl rfl Try.func14 (by kernel_rfl) rfl #[.slice A0 l0.length c0, .int .i64 (wrap64 (Int.tmod (IntKind.u64.wrap (a1)) (IntKind.u64.wrap (t193))))] rfl (by (try simp only [List.map_toArray, List.map_cons, List.map_nil]); first | done | rfl | (simp only [List.length_drop, List.length_take]; rfl)) ?_; (with_reducible refine (dom_Values.calls k _ _ l0 (wrap64 (Int.tmod (IntKind.u64.wrap (a1)) (IntKind.u64.wrap (t193)))) t194 true _ ?side1 ?side2 A21.out).mono ?_); (case side1 => repeat (first | exact (Kd.C_below HR0.out HB.out) | (with_reducible refine Kd.C_alloc ?_ _) | (with_reducible refine Kd.C_drewN ?_ _) | (with_reducible refine Kd.C_drew ?_))); (case side2 => exact HC0.out); rintro e w41 ⟨v196, rfl, ho0, hb⟩; refine ⟨_, rfl, ?_⟩; have n0_ := Aside0.mk (Kd.R_lower ho0 (below_size (by repeat (first | (with_reducible first | exact HB.out | apply below_alloc | apply pw_below_drewN | apply below_drew1) | exact HB.out)))); have n1_ := Aside0.mk (below_step (by repeat (first | (with_reducible first | exact HB.out | apply below_alloc | apply pw_below_drewN | apply below_drew1) | exact HB.out)) hb); clear HB; have HO197 := n0_; have HB := n1_; clear n0_ n1_; (try clear hb); (try clear hb2); (try clear hk); (try clear hi); (try clear ho0)) | ((with_reducible refine gate_callee (f := 25) rfl ?_); refine goesL_ (some 53) rfl rfl Try.func25 (by kernel_rfl) rfl #[.slice A0 l0.length c0, .int .i64 (wrap64 (Int.tmod (IntKind.u64.wrap (a1)) (IntKind.u64.wrap (t193)))), .bool true] rfl (by (try simp only [List.map_toArray, List.map_cons, List.map_nil]); first | done | rfl | (simp only [List.length_drop, List.length_take]; rfl)) ?_; (with_reducible refine (dom_Part.calls k _ _ l0 (wrap64 (Int.tmod (IntKind.u64.wrap (a1)) (IntKind.u64.wrap (t193)))) true t198 _ ?side1 ?side2 A22.out).mono ?_); (case side1 => repeat (first | exact (Kd.C_below HR0.out HB.out) | (with_reducible refine Kd.C_alloc ?_ _) | (with_reducible refine Kd.C_drewN ?_ _) | (with_reducible refine Kd.C_drew ?_))); (case side2 => exact HC0.out); rintro e w42 ⟨rfl, hb⟩; refine ⟨_, rfl, ?_⟩; have n0_ := Aside0.mk (Kd.R_below (by (with_reducible repeat (first | apply Kd.R_alloc | apply Kd.R_drewN | apply Kd.R_drew)); exact HO197.out) hb); have n1_ := Aside0.mk (below_step (by repeat (first | (with_reducible first | exact HB.out | apply below_alloc | apply pw_below_drewN | apply below_drew1) | exact HB.out)) hb); clear HO197; clear HB; have HO197 := n0_; have HB := n1_; clear n0_ n1_; (try clear hb); (try clear hb2); (try clear hk); (try clear hi)) | ((with_reducible refine gate_callee (f := 25) rfl ?_); refine goesL_ (some 56) rfl rfl Try.func25 (by kernel_rfl) rfl #[.slice A0 l0.length c0, .int .i64 (wrap64 (Int.tmod (IntKind.u64.wrap (a1)) (IntKind.u64.wrap (t193)))), .bool false] rfl (by (try simp only [List.map_toArray, List.map_cons, List.map_nil]); first | done | rfl | (simp only [List.length_drop, List.length_take]; rfl)) ?_; (with_reducible refine (dom_Part.calls k _ _ l0 (wrap64 (Int.tmod (IntKind.u64.wrap (a1)) (IntKind.u64.wrap (t193)))) false t199 _ ?side1 ?side2 A23.out).mono ?_); (case side1 => repeat (first | exact (Kd.C_below HR0.out HB.out) | (with_reducible refine Kd.C_alloc ?_ _) | (with_reducible refine Kd.C_drewN ?_ _) | (with_reducible refine Kd.C_drew ?_))); (case side2 => exact HC0.out); rintro e w43 ⟨rfl, hb⟩; refine ⟨_, rfl, ?_⟩; have n0_ := Aside0.mk (Kd.R_below (by (with_reducible repeat (first | apply Kd.R_alloc | apply Kd.R_drewN | apply Kd.R_drew)); exact HO197.out) hb); have n1_ := Aside0.mk (below_step (by repeat (first | (with_reducible first | exact HB.out | apply below_alloc | apply pw_below_drewN | apply below_drew1) | exact HB.out)) hb); clear HO197; clear HB; have HO197 := n0_; have HB := n1_; clear n0_ n1_; (try clear hb); (try clear hb2); (try clear hk); (try clear hi)) | ((with_reducible refine gate_callee (f := 14) rfl ?_); refine goesL_ (some 60) rfl rfl Try.func14 (by kernel_rfl) rfl #[.slice A0 l0.length c0, .int .i64 t198] rfl (by (try simp only [List.map_toArray, List.map_cons, List.map_nil]); first | done | rfl | (simp only [List.length_drop, List.length_take]; rfl)) ?_; (with_reducible refine (dom_Values.calls k _ _ l0 t198 t200 true _ ?side1 ?side2 A24.out).mono ?_); (case side1 => repeat (first | exact (Kd.C_below HR0.out HB.out) | (with_reducible refine Kd.C_alloc ?_ _) | (with_reducible refine Kd.C_drewN ?_ _) | (with_reducible refine Kd.C_drew ?_))); (case side2 => exact HC0.out); rintro e w44 ⟨v202, rfl, ho0, hb⟩; refine ⟨_, rfl, ?_⟩; have n0_ := Aside0.mk (Kd.R_elder' (by (with_reducible repeat (first | apply Kd.R_alloc | apply Kd.R_drewN | apply Kd.R_drew)); exact HO197.out) (Kd.R_base ho0) hb); have n1_ := Aside0.mk (Kd.R_lower (Kd.R_new' ho0 (Kd.R_lt (by (with_reducible repeat (first | apply Kd.R_alloc | apply Kd.R_drewN | apply Kd.R_drew)); exact HO197.out))) (below_size (by repeat (first | (with_reducible first | exact HB.out | apply below_alloc | apply pw_below_drewN | apply below_drew1) | exact HB.out)))); have n2_ := Aside0.mk (below_step (by repeat (first | (with_reducible first | exact HB.out | apply below_alloc | apply pw_below_drewN | apply below_drew1) | exact HB.out)) hb); clear HO197; clear HB; have HO197 := n0_; have HO203 := n1_; have HB := n2_; clear n0_ n1_ n2_; (try clear hb); (try clear hb2); (try clear hk); (try clear hi); (try clear ho0)) | ((with_reducible refine gate_callee (f := 14) rfl ?_); refine goesL_ (some 66) rfl rfl Try.func14 (by kernel_rfl) rfl #[.slice A0 l0.length c0, .int .i64 t199] rfl (by (try simp only [List.map_toArray, List.map_cons, List.map_nil]); first | done | rfl | (simp only [List.length_drop, List.length_take]; rfl)) ?_; (with_reducible refine (dom_Values.calls k _ _ l0 t199 t204 true _ ?side1 ?side2 A25.out).mono ?_); (case side1 => repeat (first | exact (Kd.C_below HR0.out HB.out) | (with_reducible refine Kd.C_alloc ?_ _) | (with_reducible refine Kd.C_drewN ?_ _) | (with_reducible refine Kd.C_drew ?_))); (case side2 => exact HC0.out); rintro e w45 ⟨v206, rfl, ho0, hb⟩; refine ⟨_, rfl, ?_⟩; have n0_ := Aside0.mk (Kd.R_elder' (by (with_reducible repeat (first | apply Kd.R_alloc | apply Kd.R_drewN | apply Kd.R_drew)); exact HO197.out) (Kd.R_base ho0) hb); have n1_ := Aside0.mk (Kd.R_elder' (by (with_reducible repeat (first | apply Kd.R_alloc | apply Kd.R_drewN | apply Kd.R_drew)); exact HO203.out) (Kd.R_base ho0) hb); have n2_ := Aside0.mk (Kd.R_lower (Kd.R_new' (Kd.R_new' ho0 (Kd.R_lt (by (with_reducible repeat (first | apply Kd.R_alloc | apply Kd.R_drewN | apply Kd.R_drew)); exact HO197.out))) (Kd.R_lt (by (with_reducible repeat (first | apply Kd.R_alloc | apply Kd.R_drewN | apply Kd.R_drew)); exact HO203.out))) (below_size (by repeat (first | (with_reducible first | exact HB.out | apply below_alloc | apply pw_below_drewN | apply below_drew1) | exact HB.out)))); have n3_ := Aside0.mk (below_step (by repeat (first | (with_reducible first | exact HB.out | apply below_alloc | apply pw_below_drewN | apply below_drew1) | exact HB.out)) hb); clear HO197; clear HO203; clear HB; have HO197 := n0_; have HO203 := n1_; have HO207 := n2_; have HB := n3_; clear n0_ n1_ n2_ n3_; (try clear hb); (try clear hb2); (try clear hk); (try clear hi); (try clear ho0); obtain ⟨Ao46, co46, eo46⟩ := Kd.R_slice HO197.out; subst eo46; obtain ⟨Ao47, co47, eo47⟩ := Kd.R_slice HO203.out; subst eo47; obtain ⟨Ao48, co48, eo48⟩ := Kd.R_slice HO207.out; subst eo48) | (go_at_call 25; (with_reducible refine (dom_Part.calls k _ _ l0 t198 true t208 _ ?side1 ?side2 A32.out).mono ?_); (case side1 => repeat (first | exact (Kd.C_below HR0.out HB.out) | (with_reducible refine Kd.C_alloc ?_ _) | (with_reducible refine Kd.C_drewN ?_ _) | (with_reducible refine Kd.C_drew ?_))); (case side2 => exact HC0.out); rintro e w49 ⟨rfl, hb⟩; have n0_ := Aside0.mk (Kd.R_below (by (with_reducible repeat (first | apply Kd.R_alloc | apply Kd.R_drewN | apply Kd.R_drew)); exact HO197.out) hb); have n1_ := Aside0.mk (Kd.R_below (by (with_reducible repeat (first | apply Kd.R_alloc | apply Kd.R_drewN | apply Kd.R_drew)); exact HO203.out) hb); have n2_ := Aside0.mk (Kd.R_below (by (with_reducible repeat (first | apply Kd.R_alloc | apply Kd.R_drewN | apply Kd.R_drew)); exact HO207.out) hb); have n3_ := Aside0.mk (below_step (by repeat (first | (with_reducible first | exact HB.out | apply below_alloc | apply pw_below_drewN | apply below_drew1) | exact HB.out)) hb); clear HO197; clear HO203; clear HO207; clear HB; have HO197 := n0_; have HO203 := n1_; have HO207 := n2_; have HB := n3_; clear n0_ n1_ n2_ n3_; (try clear hb); (try clear hb2); (try clear hk); (try clear hi)) | (go_at_call 25; (with_reducible refine (dom_Part.calls k _ _ l0 t198 false t209 _ ?side1 ?side2 A34.out).mono ?_); (case side1 => repeat (first | exact (Kd.C_below HR0.out HB.out) | (with_reducible refine Kd.C_alloc ?_ _) | (with_reducible refine Kd.C_drewN ?_ _) | (with_reducible refine Kd.C_drew ?_))); (case side2 => exact HC0.out); rintro e w50 ⟨rfl, hb⟩; have n0_ := Aside0.mk (Kd.R_below (by (with_reducible repeat (first | apply Kd.R_alloc | apply Kd.R_drewN | apply Kd.R_drew)); exact HO197.out) hb); have n1_ := Aside0.mk (Kd.R_below (by (with_reducible repeat (first | apply Kd.R_alloc | apply Kd.R_drewN | apply Kd.R_drew)); exact HO203.out) hb); have n2_ := Aside0.mk (Kd.R_below (by (with_reducible repeat (first | apply Kd.R_alloc | apply Kd.R_drewN | apply Kd.R_drew)); exact HO207.out) hb); have n3_ := Aside0.mk (below_step (by repeat (first | (with_reducible first | exact HB.out | apply below_alloc | apply pw_below_drewN | apply below_drew1) | exact HB.out)) hb); clear HO197; clear HO203; clear HO207; clear HB; have HO197 := n0_; have HO203 := n1_; have HO207 := n2_; have HB := n3_; clear n0_ n1_ n2_ n3_; (try clear hb); (try clear hb2); (try clear hk); (try clear hi)) | (go_at_call 25; (with_reducible refine (dom_Part.calls k _ _ l0 t199 true t210 _ ?side1 ?side2 A35.out).mono ?_); (case side1 => repeat (first | exact (Kd.C_below HR0.out HB.out) | (with_reducible refine Kd.C_alloc ?_ _) | (with_reducible refine Kd.C_drewN ?_ _) | (with_reducible refine Kd.C_drew ?_))); (case side2 => exact HC0.out); rintro e w51 ⟨rfl, hb⟩; have n0_ := Aside0.mk (Kd.R_below (by (with_reducible repeat (first | apply Kd.R_alloc | apply Kd.R_drewN | apply Kd.R_drew)); exact HO197.out) hb); have n1_ := Aside0.mk (Kd.R_below (by (with_reducible repeat (first | apply Kd.R_alloc | apply Kd.R_drewN | apply Kd.R_drew)); exact HO203.out) hb); have n2_ := Aside0.mk (Kd.R_below (by (with_reducible repeat (first | apply Kd.R_alloc | apply Kd.R_drewN | apply Kd.R_drew)); exact HO207.out) hb); have n3_ := Aside0.mk (below_step (by repeat (first | (with_reducible first | exact HB.out | apply below_alloc | apply pw_below_drewN | apply below_drew1) | exact HB.out)) hb); clear HO197; clear HO203; clear HO207; clear HB; have HO197 := n0_; have HO203 := n1_; have HO207 := n2_; have HB := n3_; clear n0_ n1_ n2_ n3_; (try clear hb); (try clear hb2); (try clear hk); (try clear hi)))
             go_loopg [118] k (fun kq v118 w' => ∃ (x118_1 : Int), v118 = .int .i64 x118_1 ∧ Aside0 (parrylaw1_DomParts.l0 kq l0 (wrap64 (Int.tmod (IntKind.u64.wrap (a1)) (IntKind.u64.wrap (t193)))) a2 a3 t194 t200 t204 l0 (l0.length : Int) x118_1 = some r) ∧ Aside0 (kq ≤ k) ∧ Aside0 (Kd.R (Kd.int .i64) 3 w' w.heap.size (fun k_ => some k_ ≠ ((.slice Ao47 t200.length co47) : Value).ownBlock ∧ some k_ ≠ ((.slice Ao48 t204.length co48) : Value).ownBlock) (.slice Ao46 t194.length co46) t194) ∧ Aside0 (Kd.R (Kd.int .i64) 3 w' w.heap.size (fun k_ => some k_ ≠ ((.slice Ao46 t194.length co46) : Value).ownBlock ∧ some k_ ≠ ((.slice Ao48 t204.length co48) : Value).ownBlock) (.slice Ao47 t200.length co47) t200) ∧ Aside0 (Kd.R (Kd.int .i64) 3 w' w.heap.size (fun k_ => some k_ ≠ ((.slice Ao46 t194.length co46) : Value).ownBlock ∧ some k_ ≠ ((.slice Ao47 t200.length co47) : Value).ownBlock) (.slice Ao48 t204.length co48) t204) ∧ Aside0 (Below w.heap.size w w'))
             case atStart => exact ⟨(0), (by first | rfl | (simp; done) | (simp [*]; done)), H', ⟨Nat.le_refl _⟩, ⟨by (with_reducible repeat (first | apply Kd.R_alloc | apply Kd.R_drewN | apply Kd.R_drew)); exact Kd.R_mono HO197.out (fun _ hk => ⟨hk.1.2, hk.2⟩)⟩, ⟨by (with_reducible repeat (first | apply Kd.R_alloc | apply Kd.R_drewN | apply Kd.R_drew)); exact Kd.R_mono HO203.out (fun _ hk => ⟨hk.1.2, hk.2⟩)⟩, ⟨by (with_reducible repeat (first | apply Kd.R_alloc | apply Kd.R_drewN | apply Kd.R_drew)); exact Kd.R_mono HO207.out (fun _ hk => ⟨hk.1.2, hk.2⟩)⟩, ⟨by repeat (first | (with_reducible first | exact HB.out | apply below_alloc | apply pw_below_drewN | apply below_drew1) | exact HB.out)⟩⟩
             case round =>
              clear H'
              try clear c1
              try clear c2
              try clear p2
              try clear c3
              try clear c6
              try clear c6b0
              try clear p6
              try clear c8
              try clear c9
              try clear c11
              try clear c11b0
              try clear c11b1
              try clear c12
              try clear c13
              try clear c13b0
              try clear c14
              try clear c20
              try clear c20b0
              try clear c20b1
              try clear c25
              try clear c26
              try clear c27
              try clear c28
              try clear c29
              try clear c29b0
              try clear c29b1
              try clear c29b2
              try clear c30
              try clear c30b0
              try clear c30b1
              try clear c30b2
              try clear c31
              try clear c31b0
              try clear c31b1
              try clear c31b2
              try clear c33
              try clear c33b0
              try clear c33b1
              try clear c36
              try clear c36b0
              try clear c36b1
              obtain ⟨x118_1, rfl, HA, HK1, HO_9, HO_13, HO_15, HB⟩ := hrel
              cases gk with
              | zero => exact absurd HA.out (by simp [parrylaw1_DomParts.l0])
              | succ k1 =>
               have H := HA.out
               clear HA
               simp only [parrylaw1_DomParts.l0] at H
               by_cases c52 : x118_1 < (l0.length : Int)
               ·rw [if_pos c52] at H
                have c52b0 : decide (x118_1 < (l0.length : Int)) = true := decide_eq_true c52
                clear c52
                by_cases c53 : 0 ≤ x118_1
                ·rw [if_pos c53] at H
                 have c53b0 : decide (0 ≤ x118_1) = true := decide_eq_true c53
                 clear c53
                 by_cases c54 : x118_1 < (l0.length : Int)
                 ·rw [if_pos c54] at H
                  have c54b0 : decide (x118_1 < (l0.length : Int)) = true := decide_eq_true c54
                  clear c54
                  obtain ⟨bq55, hbq55⟩ : ∃ b_ : Bool, b_ = ((rd_T28 l0 x118_1).f1) := ⟨_, rfl⟩
                  replace H : (if bq55 = true then (if x118_1 < (t200.length : Int) then (if x118_1 < (t194.length : Int) then (if (rd t200 x118_1) = (rd t194 x118_1) then (if x118_1 < (t204.length : Int) then (if (rd t204 x118_1) = ((rd_T28 l0 x118_1).f3) then (parrylaw1_DomParts.l0 k1 l0 (wrap64 (Int.tmod (IntKind.u64.wrap (a1)) (IntKind.u64.wrap (t193)))) a2 a3 t194 t200 t204 l0 (l0.length : Int) (wrap64 (x118_1 + 1))) else (some false)) else (none)) else (some false)) else (none)) else (none)) else (if x118_1 < (t204.length : Int) then (if x118_1 < (t194.length : Int) then (if (rd t204 x118_1) = (rd t194 x118_1) then (if x118_1 < (t200.length : Int) then (if (rd t200 x118_1) = ((rd_T28 l0 x118_1).f3) then (parrylaw1_DomParts.l0 k1 l0 (wrap64 (Int.tmod (IntKind.u64.wrap (a1)) (IntKind.u64.wrap (t193)))) a2 a3 t194 t200 t204 l0 (l0.length : Int) (wrap64 (x118_1 + 1))) else (some false)) else (none)) else (some false)) else (none)) else (none))) = some r := by rw [← hbq55] at H; exact H
                  have Nbq55 := Aside0.mk hbq55
                  clear hbq55
                  by_cases c56 : bq55 = true
                  ·subst c56
                   have H1 : (if x118_1 < (t200.length : Int) then (if x118_1 < (t194.length : Int) then (if (rd t200 x118_1) = (rd t194 x118_1) then (if x118_1 < (t204.length : Int) then (if (rd t204 x118_1) = ((rd_T28 l0 x118_1).f3) then (parrylaw1_DomParts.l0 k1 l0 (wrap64 (Int.tmod (IntKind.u64.wrap (a1)) (IntKind.u64.wrap (t193)))) a2 a3 t194 t200 t204 l0 (l0.length : Int) (wrap64 (x118_1 + 1))) else (some false)) else (none)) else (some false)) else (none)) else (none)) = some r := by rw [if_pos rfl] at H; exact H
                   clear H
                   have H := H1
                   clear H1
                   by_cases c57 : x118_1 < (t200.length : Int)
                   ·rw [if_pos c57] at H
                    have c57b0 : decide (x118_1 < (t200.length : Int)) = true := decide_eq_true c57
                    clear c57
                    by_cases c58 : x118_1 < (t194.length : Int)
                    ·rw [if_pos c58] at H
                     have c58b0 : decide (x118_1 < (t194.length : Int)) = true := decide_eq_true c58
                     clear c58
                     by_cases c59 : (rd t200 x118_1) = (rd t194 x118_1)
                     ·rw [if_pos c59] at H
                      have c59b0 : ((rd t200 x118_1) == (rd t194 x118_1)) = true := beq_iff_eq.mpr c59
                      have c59b1 : ((rd t200 x118_1) != (rd t194 x118_1)) = false := bne_eq_false_iff_eq.mpr c59
                      clear c59
                      by_cases c60 : x118_1 < (t204.length : Int)
                      ·rw [if_pos c60] at H
                       have c60b0 : decide (x118_1 < (t204.length : Int)) = true := decide_eq_true c60
                       clear c60
                       by_cases c61 : (rd t204 x118_1) = ((rd_T28 l0 x118_1).f3)
                       ·rw [if_pos c61] at H
                        have c61b0 : ((rd t204 x118_1) == ((rd_T28 l0 x118_1).f3)) = true := beq_iff_eq.mpr c61
                        have c61b1 : ((rd t204 x118_1) != ((rd_T28 l0 x118_1).f3)) = false := bne_eq_false_iff_eq.mpr c61
                        clear c61
                        have H' := Aside0.mk H
                        clear H
                        have p211 : 0 ≤ (x118_1 : Int) := of_decide_eq_true (by first | (with_reducible assumption) | assumption)
                        have q211 : x118_1 < (l0.length : Int) := of_decide_eq_true (by first | (with_reducible assumption) | assumption)
                        obtain ⟨ad211, e211, hx211_0, hx211_1, hx211_2, hx211_3, hx211_4⟩ := at_T28 HR0.out x118_1 p211 q211
                        (try rw [← Nbq55.out] at hx211_1)
                        cases e211
                        replace hx211_0 := (HB.out.cell (World.block_lt_of_cell? w _ hx211_0)).trans hx211_0
                        replace hx211_1 := (HB.out.cell (World.block_lt_of_cell? w _ hx211_1)).trans hx211_1
                        replace hx211_2 := (HB.out.cell (World.block_lt_of_cell? w _ hx211_2)).trans hx211_2
                        replace hx211_3 := (HB.out.cell (World.block_lt_of_cell? w _ hx211_3)).trans hx211_3
                        replace hx211_4 := (HB.out.cell (World.block_lt_of_cell? w _ hx211_4)).trans hx211_4
                        replace p211 := eq_true p211
                        replace q211 := eq_true q211
                        try go_wp2_with (first | ((with_reducible refine gate_dst (N := 18) rfl ?_); (try (refine gate_guard (by rfl) ?_; dsimp only)); refine box_event ?hg (N := 18) ?hd (cs := #[.string (⟨#[]⟩ : ByteArray), .bool false, .int .i64 0, .int .i64 0, .int .i64 0]) (t := 28) ?hr ?_; (case hd => rfl); (case hg => rfl); (case hr => first | (go_simp; done) | (go_simp; rfl)); intro gb212 hg w62 hbox hb; have n0_ := Aside0.mk (Kd.R_below (by (with_reducible repeat (first | apply Kd.R_alloc | apply Kd.R_drewN | apply Kd.R_drew)); exact HO_9.out) hb); have n1_ := Aside0.mk (Kd.R_below (by (with_reducible repeat (first | apply Kd.R_alloc | apply Kd.R_drewN | apply Kd.R_drew)); exact HO_13.out) hb); have n2_ := Aside0.mk (Kd.R_below (by (with_reducible repeat (first | apply Kd.R_alloc | apply Kd.R_drewN | apply Kd.R_drew)); exact HO_15.out) hb); have n3_ := Aside0.mk (below_step (by repeat (first | (with_reducible first | exact HB.out | apply below_alloc | apply pw_below_drewN | apply below_drew1) | exact HB.out)) hb); have n4_ := Aside0.mk (hbox); have n5_ := Aside0.mk ((by rw [hg]; exact (below_size (by repeat (first | (with_reducible first | exact HB.out | apply below_alloc | apply pw_below_drewN | apply below_drew1) | exact HB.out))) : w.heap.size ≤ gb212)); have n6_ := Aside0.mk ((by rw [hg]; exact (below_size (by repeat (first | (with_reducible first | exact HB.out | apply below_alloc | apply pw_below_drewN | apply below_drew1) | exact HB.out))) : w.heap.size ≤ gb212)); clear HO_9; clear HO_13; clear HO_15; clear HB; have HO_9 := n0_; have HO_13 := n1_; have HO_15 := n2_; have HB := n3_; have BK212 := n4_; have GW212 := n5_; have GE212 := n6_; clear n0_ n1_ n2_ n3_ n4_ n5_ n6_; clear hb hbox hg; have hcz63_0 : w62.cell? ⟨gb212, 0, none⟩ = some (.string (⟨#[]⟩ : ByteArray)) := (blk_cell BK212.out 0).trans rfl; have hcz63_1 : w62.cell? ⟨gb212, 1, none⟩ = some (.bool false) := (blk_cell BK212.out 1).trans rfl; have hcz63_2 : w62.cell? ⟨gb212, 2, none⟩ = some (.int .i64 0) := (blk_cell BK212.out 2).trans rfl; have hcz63_3 : w62.cell? ⟨gb212, 3, none⟩ = some (.int .i64 0) := (blk_cell BK212.out 3).trans rfl; have hcz63_4 : w62.cell? ⟨gb212, 4, none⟩ = some (.int .i64 0) := (blk_cell BK212.out 4).trans rfl; have hfz63_0 := blk_frozen BK212.out 0; have hfz63_1 := blk_frozen BK212.out 1; have hfz63_2 := blk_frozen BK212.out 2; have hfz63_3 := blk_frozen BK212.out 3; have hfz63_4 := blk_frozen BK212.out 4))
                        have n0_ : Aside0 (Kd.R (Kd.int .i64) 3 (((((w62.setCell ⟨gb212, 0, none⟩ (.string ((rd_T28 l0 x118_1).f0))).setCell ⟨gb212, 1, none⟩ (.bool true)).setCell ⟨gb212, 2, none⟩ (.int .i64 ((rd_T28 l0 x118_1).f2))).setCell ⟨gb212, 3, none⟩ (.int .i64 ((rd_T28 l0 x118_1).f3))).setCell ⟨gb212, 4, none⟩ (.int .i64 ((rd_T28 l0 x118_1).f4))) w.heap.size (fun k_ => some k_ ≠ (.slice Ao47 t200.length co47 : Value).ownBlock ∧ some k_ ≠ (.slice Ao48 t204.length co48 : Value).ownBlock) (.slice Ao46 t194.length co46) t194) := ⟨by (with_reducible repeat (first | apply Kd.R_alloc | apply Kd.R_drewN | apply Kd.R_drew)); exact Kd.R_mono (Kd.R_far (p := ⟨gb212, 4, none⟩) (Kd.R_far (p := ⟨gb212, 3, none⟩) (Kd.R_far (p := ⟨gb212, 2, none⟩) (Kd.R_far (p := ⟨gb212, 1, none⟩) (Kd.R_far (p := ⟨gb212, 0, none⟩) (Kd.R_types HO_9.out BK212.out (by decide)) (fun _ hk => hk.2) (.string ((rd_T28 l0 x118_1).f0))) (fun _ hk => hk.2) (.bool true)) (fun _ hk => hk.2) (.int .i64 ((rd_T28 l0 x118_1).f2))) (fun _ hk => hk.2) (.int .i64 ((rd_T28 l0 x118_1).f3))) (fun _ hk => hk.2) (.int .i64 ((rd_T28 l0 x118_1).f4))) (fun _ hk => ⟨hk.1.1, hk.1.2⟩)⟩
                        have n1_ : Aside0 (Kd.R (Kd.int .i64) 3 (((((w62.setCell ⟨gb212, 0, none⟩ (.string ((rd_T28 l0 x118_1).f0))).setCell ⟨gb212, 1, none⟩ (.bool true)).setCell ⟨gb212, 2, none⟩ (.int .i64 ((rd_T28 l0 x118_1).f2))).setCell ⟨gb212, 3, none⟩ (.int .i64 ((rd_T28 l0 x118_1).f3))).setCell ⟨gb212, 4, none⟩ (.int .i64 ((rd_T28 l0 x118_1).f4))) w.heap.size (fun k_ => some k_ ≠ (.slice Ao46 t194.length co46 : Value).ownBlock ∧ some k_ ≠ (.slice Ao48 t204.length co48 : Value).ownBlock) (.slice Ao47 t200.length co47) t200) := ⟨by (with_reducible repeat (first | apply Kd.R_alloc | apply Kd.R_drewN | apply Kd.R_drew)); exact Kd.R_mono (Kd.R_far (p := ⟨gb212, 4, none⟩) (Kd.R_far (p := ⟨gb212, 3, none⟩) (Kd.R_far (p := ⟨gb212, 2, none⟩) (Kd.R_far (p := ⟨gb212, 1, none⟩) (Kd.R_far (p := ⟨gb212, 0, none⟩) (Kd.R_types HO_13.out BK212.out (by decide)) (fun _ hk => hk.2) (.string ((rd_T28 l0 x118_1).f0))) (fun _ hk => hk.2) (.bool true)) (fun _ hk => hk.2) (.int .i64 ((rd_T28 l0 x118_1).f2))) (fun _ hk => hk.2) (.int .i64 ((rd_T28 l0 x118_1).f3))) (fun _ hk => hk.2) (.int .i64 ((rd_T28 l0 x118_1).f4))) (fun _ hk => ⟨hk.1.1, hk.1.2⟩)⟩
                        have n2_ : Aside0 (Kd.R (Kd.int .i64) 3 (((((w62.setCell ⟨gb212, 0, none⟩ (.string ((rd_T28 l0 x118_1).f0))).setCell ⟨gb212, 1, none⟩ (.bool true)).setCell ⟨gb212, 2, none⟩ (.int .i64 ((rd_T28 l0 x118_1).f2))).setCell ⟨gb212, 3, none⟩ (.int .i64 ((rd_T28 l0 x118_1).f3))).setCell ⟨gb212, 4, none⟩ (.int .i64 ((rd_T28 l0 x118_1).f4))) w.heap.size (fun k_ => some k_ ≠ (.slice Ao46 t194.length co46 : Value).ownBlock ∧ some k_ ≠ (.slice Ao47 t200.length co47 : Value).ownBlock) (.slice Ao48 t204.length co48) t204) := ⟨by (with_reducible repeat (first | apply Kd.R_alloc | apply Kd.R_drewN | apply Kd.R_drew)); exact Kd.R_mono (Kd.R_far (p := ⟨gb212, 4, none⟩) (Kd.R_far (p := ⟨gb212, 3, none⟩) (Kd.R_far (p := ⟨gb212, 2, none⟩) (Kd.R_far (p := ⟨gb212, 1, none⟩) (Kd.R_far (p := ⟨gb212, 0, none⟩) (Kd.R_types HO_15.out BK212.out (by decide)) (fun _ hk => hk.2) (.string ((rd_T28 l0 x118_1).f0))) (fun _ hk => hk.2) (.bool true)) (fun _ hk => hk.2) (.int .i64 ((rd_T28 l0 x118_1).f2))) (fun _ hk => hk.2) (.int .i64 ((rd_T28 l0 x118_1).f3))) (fun _ hk => hk.2) (.int .i64 ((rd_T28 l0 x118_1).f4))) (fun _ hk => ⟨hk.1.1, hk.1.2⟩)⟩
                        have n3_ : Aside0 ((((((w62.setCell ⟨gb212, 0, none⟩ (.string ((rd_T28 l0 x118_1).f0))).setCell ⟨gb212, 1, none⟩ (.bool true)).setCell ⟨gb212, 2, none⟩ (.int .i64 ((rd_T28 l0 x118_1).f2))).setCell ⟨gb212, 3, none⟩ (.int .i64 ((rd_T28 l0 x118_1).f3))).setCell ⟨gb212, 4, none⟩ (.int .i64 ((rd_T28 l0 x118_1).f4))).heap[gb212]? = some (.cells #[.string ((rd_T28 l0 x118_1).f0), .bool true, .int .i64 ((rd_T28 l0 x118_1).f2), .int .i64 ((rd_T28 l0 x118_1).f3), .int .i64 ((rd_T28 l0 x118_1).f4)] 28 (0, 0))) := ⟨by (with_reducible repeat (first | refine blk_drewN ?_ _ | refine blk_drew ?_ | refine blk_alloc ?_ _)); refine blk_put (cs := #[.string ((rd_T28 l0 x118_1).f0), .bool true, .int .i64 ((rd_T28 l0 x118_1).f2), .int .i64 ((rd_T28 l0 x118_1).f3), .int .i64 0]) ?_ 4 _ rfl; (with_reducible repeat (first | refine blk_drewN ?_ _ | refine blk_drew ?_ | refine blk_alloc ?_ _)); refine blk_put (cs := #[.string ((rd_T28 l0 x118_1).f0), .bool true, .int .i64 ((rd_T28 l0 x118_1).f2), .int .i64 0, .int .i64 0]) ?_ 3 _ rfl; (with_reducible repeat (first | refine blk_drewN ?_ _ | refine blk_drew ?_ | refine blk_alloc ?_ _)); refine blk_put (cs := #[.string ((rd_T28 l0 x118_1).f0), .bool true, .int .i64 0, .int .i64 0, .int .i64 0]) ?_ 2 _ rfl; (with_reducible repeat (first | refine blk_drewN ?_ _ | refine blk_drew ?_ | refine blk_alloc ?_ _)); refine blk_put (cs := #[.string ((rd_T28 l0 x118_1).f0), .bool false, .int .i64 0, .int .i64 0, .int .i64 0]) ?_ 1 _ rfl; (with_reducible repeat (first | refine blk_drewN ?_ _ | refine blk_drew ?_ | refine blk_alloc ?_ _)); refine blk_put (cs := #[.string (⟨#[]⟩ : ByteArray), .bool false, .int .i64 0, .int .i64 0, .int .i64 0]) ?_ 0 _ rfl; (with_reducible repeat (first | refine blk_drewN ?_ _ | refine blk_drew ?_ | refine blk_alloc ?_ _)); exact BK212.out⟩
                        have n4_ : Aside0 (Below w.heap.size w (((((w62.setCell ⟨gb212, 0, none⟩ (.string ((rd_T28 l0 x118_1).f0))).setCell ⟨gb212, 1, none⟩ (.bool true)).setCell ⟨gb212, 2, none⟩ (.int .i64 ((rd_T28 l0 x118_1).f2))).setCell ⟨gb212, 3, none⟩ (.int .i64 ((rd_T28 l0 x118_1).f3))).setCell ⟨gb212, 4, none⟩ (.int .i64 ((rd_T28 l0 x118_1).f4)))) := ⟨by repeat (first | (with_reducible first | exact HB.out | apply below_alloc | apply pw_below_drewN | apply below_drew1 | refine below_set ?_ GE212.out) | exact HB.out)⟩
                        (try clear HO_9)
                        (try clear HO_13)
                        (try clear HO_15)
                        (try clear BK212)
                        (try clear HB)
                        generalize (((((w62.setCell ⟨gb212, 0, none⟩ (.string ((rd_T28 l0 x118_1).f0))).setCell ⟨gb212, 1, none⟩ (.bool true)).setCell ⟨gb212, 2, none⟩ (.int .i64 ((rd_T28 l0 x118_1).f2))).setCell ⟨gb212, 3, none⟩ (.int .i64 ((rd_T28 l0 x118_1).f3))).setCell ⟨gb212, 4, none⟩ (.int .i64 ((rd_T28 l0 x118_1).f4))) = w64 at n0_ n1_ n2_ n3_ n4_ ⊢
                        have HO_9 := n0_
                        have HO_13 := n1_
                        have HO_15 := n2_
                        have BK212 := n3_
                        have HB := n4_
                        clear n0_ n1_ n2_ n3_ n4_
                        have n0_ := Aside0.mk (Kd.R_drew HO_9.out)
                        have n1_ := Aside0.mk (Kd.R_drew HO_13.out)
                        have n2_ := Aside0.mk (Kd.R_drew HO_15.out)
                        have n3_ := Aside0.mk (blk_drew BK212.out)
                        have n4_ := Aside0.mk (below_drew1 HB.out)
                        clear HO_9
                        clear HO_13
                        clear HO_15
                        clear BK212
                        clear HB
                        have HO_9 := n0_
                        have HO_13 := n1_
                        have HO_15 := n2_
                        have BK212 := n3_
                        have HB := n4_
                        clear n0_ n1_ n2_ n3_ n4_
                        have p213 : 0 ≤ (x118_1 : Int) := of_decide_eq_true (by first | (with_reducible assumption) | assumption)
                        have q213 : x118_1 < (t200.length : Int) := of_decide_eq_true (by first | (with_reducible assumption) | assumption)
                        obtain ⟨ad213, e213, hx213_0⟩ := Kd.at_int (Kd.R_reads' HO_13.out).2.2 x118_1 p213 q213
                        cases e213
                        replace p213 := eq_true p213
                        replace q213 := eq_true q213
                        have p214 : 0 ≤ (x118_1 : Int) := of_decide_eq_true (by first | (with_reducible assumption) | assumption)
                        have q214 : x118_1 < (t194.length : Int) := of_decide_eq_true (by first | (with_reducible assumption) | assumption)
                        obtain ⟨ad214, e214, hx214_0⟩ := Kd.at_int (Kd.R_reads' HO_9.out).2.2 x118_1 p214 q214
                        cases e214
                        replace p214 := eq_true p214
                        replace q214 := eq_true q214
                        have p215 : 0 ≤ (x118_1 : Int) := of_decide_eq_true (by first | (with_reducible assumption) | assumption)
                        have q215 : x118_1 < (t204.length : Int) := of_decide_eq_true (by first | (with_reducible assumption) | assumption)
                        obtain ⟨ad215, e215, hx215_0⟩ := Kd.at_int (Kd.R_reads' HO_15.out).2.2 x118_1 p215 q215
                        cases e215
                        replace p215 := eq_true p215
                        replace q215 := eq_true q215
                        refine start_ (n := 47) (S := fun w' => w'.cell? ⟨gb212, 0, none⟩ = some (.string ((rd_T28 l0 x118_1).f0)) ∧ w'.cell? ⟨gb212, 1, none⟩ = some (.bool true) ∧ w'.cell? ⟨gb212, 2, none⟩ = some (.int .i64 ((rd_T28 l0 x118_1).f2)) ∧ w'.cell? ⟨gb212, 3, none⟩ = some (.int .i64 ((rd_T28 l0 x118_1).f3)) ∧ w'.cell? ⟨gb212, 4, none⟩ = some (.int .i64 ((rd_T28 l0 x118_1).f4)) ∧ w'.cell? (ad213.add (x118_1).toNat) = some (.int .i64 (rd t200 x118_1)) ∧ w'.cell? (ad214.add (x118_1).toNat) = some (.int .i64 (rd t194 x118_1)) ∧ w'.cell? (ad215.add (x118_1).toNat) = some (.int .i64 (rd t204 x118_1))) (ds := []) Mk47_0_ (by kernel_rfl) rfl rfl ⟨(blk_cell BK212.out 0).trans rfl, (blk_cell BK212.out 1).trans rfl, (blk_cell BK212.out 2).trans rfl, (blk_cell BK212.out 3).trans rfl, (blk_cell BK212.out 4).trans rfl, hx213_0, hx214_0, hx215_0⟩ (fun hHeld => ?_); refine with_tabW parrylaw1_DomParts.tab13 parrylaw1_DomParts.bits13 (fun HT_ HW_ => ?_)
                        generalize w64.drew = w65 at HO_9 HO_13 HO_15 BK212 HB hx213_0 hx214_0 hx215_0 hHeld ⊢
                        refine pure_ (i := 0) (N := some 123) (v := ?_) (a' := ?_) Mk47_1_ rfl rfl (any_of HT_.out (by kernel_rfl)) (fun _ _ _ h => h) (Or.inl ⟨by rfl, ?_⟩) ?_ ?_; rotate_left; intro w'; go_simp; with_reducible rfl; rotate_left; simp only [Act.put, List.setIfInBounds_toArray, List.set_cons_zero, List.set_cons_succ, i64_w, i32_w]; rfl
                        refine take_ (i := 1) (N := some 124) (v := ?_) (a' := ?_) Mk47_2_ rfl rfl (take_ofW HT_.out HW_.out (by kernel_rfl)) (fun _ _ _ h => h) (Or.inl ⟨by rfl, ?_⟩) hHeld ?_ ?_
                        rotate_left
                        ·rintro w' ⟨s0, s1, s2, s3, s4, s5, s6, s7⟩
                         go_simp
                         with_reducible rfl
                        rotate_left
                        ·simp only [Act.put, List.setIfInBounds_toArray, List.set_cons_zero, List.set_cons_succ, i64_w, i32_w]
                         rfl
                        refine pure_ (i := 2) (N := some 125) (v := ?_) (a' := ?_) Mk47_3_ rfl rfl (any_of HT_.out (by kernel_rfl)) (fun _ _ _ h => h) (Or.inl ⟨by rfl, ?_⟩) ?_ ?_; rotate_left; intro w'; go_simp; with_reducible rfl; rotate_left; simp only [Act.put, List.setIfInBounds_toArray, List.set_cons_zero, List.set_cons_succ, i64_w, i32_w]; rfl
                        refine pure_ (i := 3) (N := some 126) (v := ?_) (a' := ?_) Mk47_4_ rfl rfl (any_of HT_.out (by kernel_rfl)) (fun _ _ _ h => h) (Or.inl ⟨by rfl, ?_⟩) ?_ ?_; rotate_left; intro w'; go_simp; with_reducible rfl; rotate_left; simp only [Act.put, List.setIfInBounds_toArray, List.set_cons_zero, List.set_cons_succ, i64_w, i32_w]; rfl
                        refine pure_ (i := 4) (N := some 127) (v := ?_) (a' := ?_) Mk47_5_ rfl rfl (any_of HT_.out (by kernel_rfl)) (fun _ _ _ h => h) (Or.inl ⟨by rfl, ?_⟩) ?_ ?_; rotate_left; intro w'; go_simp; with_reducible rfl; rotate_left; simp only [Act.put, List.setIfInBounds_toArray, List.set_cons_zero, List.set_cons_succ, i64_w, i32_w]; rfl
                        refine pure_ (i := 5) (N := some 128) (v := ?_) (a' := ?_) Mk47_6_ rfl rfl (any_of HT_.out (by kernel_rfl)) (fun _ _ _ h => h) (Or.inl ⟨by rfl, ?_⟩) ?_ ?_; rotate_left; intro w'; go_simp; with_reducible rfl; rotate_left; simp only [Act.put, List.setIfInBounds_toArray, List.set_cons_zero, List.set_cons_succ, i64_w, i32_w]; rfl
                        refine pure_ (i := 7) (N := some 130) (v := ?_) (a' := ?_) Mk47_7_ rfl rfl (any_of HT_.out (by kernel_rfl)) (fun _ _ _ h => h) (Or.inl ⟨by rfl, ?_⟩) ?_ ?_; rotate_left; intro w'; go_simp; with_reducible rfl; rotate_left; simp only [Act.put, List.setIfInBounds_toArray, List.set_cons_zero, List.set_cons_succ, i64_w, i32_w]; rfl
                        refine pure_ (i := 8) (N := some 131) (v := ?_) (a' := ?_) Mk47_8_ rfl rfl (any_of HT_.out (by kernel_rfl)) (fun _ _ _ h => h) (Or.inl ⟨by rfl, ?_⟩) ?_ ?_; rotate_left; intro w'; go_simp; with_reducible rfl; rotate_left; simp only [Act.put, List.setIfInBounds_toArray, List.set_cons_zero, List.set_cons_succ, i64_w, i32_w]; rfl
                        refine pure_ (i := 9) (N := some 132) (v := ?_) (a' := ?_) Mk47_9_ rfl rfl (any_of HT_.out (by kernel_rfl)) (fun _ _ _ h => h) (Or.inl ⟨by rfl, ?_⟩) ?_ ?_; rotate_left; intro w'; go_simp; with_reducible rfl; rotate_left; simp only [Act.put, List.setIfInBounds_toArray, List.set_cons_zero, List.set_cons_succ, i64_w, i32_w]; rfl
                        refine take_ (i := 6) (N := some 129) (v := ?_) (a' := ?_) Mk47_10_ rfl rfl (take_ofW HT_.out HW_.out (by kernel_rfl)) (fun _ _ _ h => h) (Or.inl ⟨by rfl, ?_⟩) hHeld ?_ ?_
                        rotate_left
                        ·rintro w' ⟨s0, s1, s2, s3, s4, s5, s6, s7⟩
                         go_simp
                         with_reducible rfl
                        rotate_left
                        ·simp only [Act.put, List.setIfInBounds_toArray, List.set_cons_zero, List.set_cons_succ, i64_w, i32_w]
                         rfl
                        refine take_ (i := 10) (N := some 133) (v := ?_) (a' := ?_) Mk47_11_ rfl rfl (take_ofW HT_.out HW_.out (by kernel_rfl)) (fun _ _ _ h => h) (Or.inl ⟨by rfl, ?_⟩) hHeld ?_ ?_
                        rotate_left
                        ·rintro w' ⟨s0, s1, s2, s3, s4, s5, s6, s7⟩
                         go_simp
                         with_reducible rfl
                        rotate_left
                        ·simp only [Act.put, List.setIfInBounds_toArray, List.set_cons_zero, List.set_cons_succ, i64_w, i32_w]
                         rfl
                        refine pure_ (i := 11) (N := some 134) (v := ?_) (a' := ?_) Mk47_12_ rfl rfl (any_of HT_.out (by kernel_rfl)) (fun _ _ _ h => h) (Or.inl ⟨by rfl, ?_⟩) ?_ ?_; rotate_left; intro w'; go_simp; with_reducible rfl; rotate_left; simp only [Act.put, List.setIfInBounds_toArray, List.set_cons_zero, List.set_cons_succ, i64_w, i32_w]; rfl
                        refine pure_ (i := 12) (N := some 135) (v := ?_) (a' := ?_) Mk47_13_ rfl rfl (any_of HT_.out (by kernel_rfl)) (fun _ _ _ h => h) (Or.inl ⟨by rfl, ?_⟩) ?_ ?_; rotate_left; intro w'; go_simp; with_reducible rfl; rotate_left; simp only [Act.put, List.setIfInBounds_toArray, List.set_cons_zero, List.set_cons_succ, i64_w, i32_w]; rfl
                        refine pure_ (i := 13) (N := some 136) (v := ?_) (a' := ?_) Mk47_14_ rfl rfl (any_of HT_.out (by kernel_rfl)) (fun _ _ _ h => h) (Or.inl ⟨by rfl, ?_⟩) ?_ ?_; rotate_left; intro w'; go_simp; with_reducible rfl; rotate_left; simp only [Act.put, List.setIfInBounds_toArray, List.set_cons_zero, List.set_cons_succ, i64_w, i32_w]; rfl
                        refine pure_ (i := 14) (N := some 137) (v := ?_) (a' := ?_) Mk47_15_ rfl rfl (any_of HT_.out (by kernel_rfl)) (fun _ _ _ h => h) (Or.inl ⟨by rfl, ?_⟩) ?_ ?_; rotate_left; intro w'; go_simp; with_reducible rfl; rotate_left; simp only [Act.put, List.setIfInBounds_toArray, List.set_cons_zero, List.set_cons_succ, i64_w, i32_w]; rfl
                        refine pure_ (i := 15) (N := some 138) (v := ?_) (a' := ?_) Mk47_16_ rfl rfl (any_of HT_.out (by kernel_rfl)) (fun _ _ _ h => h) (Or.inl ⟨by rfl, ?_⟩) ?_ ?_; rotate_left; intro w'; go_simp; with_reducible rfl; rotate_left; simp only [Act.put, List.setIfInBounds_toArray, List.set_cons_zero, List.set_cons_succ, i64_w, i32_w]; rfl
                        refine pure_ (i := 17) (N := some 140) (v := ?_) (a' := ?_) Mk47_17_ rfl rfl (any_of HT_.out (by kernel_rfl)) (fun _ _ _ h => h) (Or.inl ⟨by rfl, ?_⟩) ?_ ?_; rotate_left; intro w'; go_simp; with_reducible rfl; rotate_left; simp only [Act.put, List.setIfInBounds_toArray, List.set_cons_zero, List.set_cons_succ, i64_w, i32_w]; rfl
                        refine take_ (i := 16) (N := some 139) (v := ?_) (a' := ?_) Mk47_18_ rfl rfl (take_ofW HT_.out HW_.out (by kernel_rfl)) (fun _ _ _ h => h) (Or.inl ⟨by rfl, ?_⟩) hHeld ?_ ?_
                        rotate_left
                        ·rintro w' ⟨s0, s1, s2, s3, s4, s5, s6, s7⟩
                         go_simp
                         with_reducible rfl
                        rotate_left
                        ·simp only [Act.put, List.setIfInBounds_toArray, List.set_cons_zero, List.set_cons_succ, i64_w, i32_w]
                         rfl
                        refine take_ (i := 18) (N := some 141) (v := ?_) (a' := ?_) Mk47_19_ rfl rfl (take_ofW HT_.out HW_.out (by kernel_rfl)) (fun _ _ _ h => h) (Or.inl ⟨by rfl, ?_⟩) hHeld ?_ ?_
                        rotate_left
                        ·rintro w' ⟨s0, s1, s2, s3, s4, s5, s6, s7⟩
                         go_simp
                         with_reducible rfl
                        rotate_left
                        ·simp only [Act.put, List.setIfInBounds_toArray, List.set_cons_zero, List.set_cons_succ, i64_w, i32_w]
                         rfl
                        refine pure_ (i := 19) (N := some 142) (v := ?_) (a' := ?_) Mk47_20_ rfl rfl (any_of HT_.out (by kernel_rfl)) (fun _ _ _ h => h) (Or.inl ⟨by rfl, ?_⟩) ?_ ?_; rotate_left; intro w'; go_simp; with_reducible rfl; rotate_left; simp only [Act.put, List.setIfInBounds_toArray, List.set_cons_zero, List.set_cons_succ, i64_w, i32_w]; rfl
                        refine pure_ (i := 20) (N := some 143) (v := ?_) (a' := ?_) Mk47_21_ rfl rfl (any_of HT_.out (by kernel_rfl)) (fun _ _ _ h => h) (Or.inl ⟨by rfl, ?_⟩) ?_ ?_; rotate_left; intro w'; go_simp; with_reducible rfl; rotate_left; simp only [Act.put, List.setIfInBounds_toArray, List.set_cons_zero, List.set_cons_succ, i64_w, i32_w]; rfl
                        refine pure_ (i := 21) (N := some 144) (v := ?_) (a' := ?_) Mk47_22_ rfl rfl (any_of HT_.out (by kernel_rfl)) (fun _ _ _ h => h) (Or.inl ⟨by rfl, ?_⟩) ?_ ?_; rotate_left; intro w'; go_simp; with_reducible rfl; rotate_left; simp only [Act.put, List.setIfInBounds_toArray, List.set_cons_zero, List.set_cons_succ, i64_w, i32_w]; rfl
                        refine pure_ (i := 22) (N := some 145) (v := ?_) (a' := ?_) Mk47_23_ rfl rfl (any_of HT_.out (by kernel_rfl)) (fun _ _ _ h => h) (Or.inl ⟨by rfl, ?_⟩) ?_ ?_; rotate_left; intro w'; go_simp; with_reducible rfl; rotate_left; simp only [Act.put, List.setIfInBounds_toArray, List.set_cons_zero, List.set_cons_succ, i64_w, i32_w]; rfl
                        refine pure_ (i := 23) (N := some 146) (v := ?_) (a' := ?_) Mk47_24_ rfl rfl (any_of HT_.out (by kernel_rfl)) (fun _ _ _ h => h) (Or.inl ⟨by rfl, ?_⟩) ?_ ?_; rotate_left; intro w'; go_simp; with_reducible rfl; rotate_left; simp only [Act.put, List.setIfInBounds_toArray, List.set_cons_zero, List.set_cons_succ, i64_w, i32_w]; rfl
                        refine take_ (i := 24) (N := some 147) (v := ?_) (a' := ?_) Mk47_25_ rfl rfl (take_ofW HT_.out HW_.out (by kernel_rfl)) (fun _ _ _ h => h) (Or.inl ⟨by rfl, ?_⟩) hHeld ?_ ?_
                        rotate_left
                        ·rintro w' ⟨s0, s1, s2, s3, s4, s5, s6, s7⟩
                         go_simp
                         with_reducible rfl
                        rotate_left
                        ·simp only [Act.put, List.setIfInBounds_toArray, List.set_cons_zero, List.set_cons_succ, i64_w, i32_w]
                         rfl
                        refine pure_ (i := 25) (N := some 148) (v := ?_) (a' := ?_) Mk47_26_ rfl rfl (any_of HT_.out (by kernel_rfl)) (fun _ _ _ h => h) (Or.inl ⟨by rfl, ?_⟩) ?_ ?_; rotate_left; intro w'; go_simp; with_reducible rfl; rotate_left; simp only [Act.put, List.setIfInBounds_toArray, List.set_cons_zero, List.set_cons_succ, i64_w, i32_w]; rfl
                        refine pure_ (i := 26) (N := some 149) (v := ?_) (a' := ?_) Mk47_27_ rfl rfl (any_of HT_.out (by kernel_rfl)) (fun _ _ _ h => h) (Or.inl ⟨by rfl, ?_⟩) ?_ ?_; rotate_left; intro w'; go_simp; with_reducible rfl; rotate_left; simp only [Act.put, List.setIfInBounds_toArray, List.set_cons_zero, List.set_cons_succ, i64_w, i32_w]; rfl
                        refine pure_ (i := 27) (N := some 150) (v := undef) (a' := ?_) Mk47_28_ rfl rfl (any_of HT_.out (by kernel_rfl)) (fun _ _ _ h => h) (Or.inr ⟨by rfl, rfl⟩) ?_ ?_
                        rotate_left
                        ·simp only [Act.put, List.setIfInBounds_toArray, List.set_cons_zero, List.set_cons_succ, i64_w, i32_w]
                         rfl
                        refine pure_ (i := 28) (N := some 151) (v := undef) (a' := ?_) Mk47_29_ rfl rfl (any_of HT_.out (by kernel_rfl)) (fun _ _ _ h => h) (Or.inr ⟨by rfl, rfl⟩) ?_ ?_
                        rotate_left
                        ·simp only [Act.put, List.setIfInBounds_toArray, List.set_cons_zero, List.set_cons_succ, i64_w, i32_w]
                         rfl
                        refine pure_ (i := 29) (N := some 152) (v := undef) (a' := ?_) Mk47_30_ rfl rfl (any_of HT_.out (by kernel_rfl)) (fun _ _ _ h => h) (Or.inr ⟨by rfl, rfl⟩) ?_ ?_
                        rotate_left
                        ·simp only [Act.put, List.setIfInBounds_toArray, List.set_cons_zero, List.set_cons_succ, i64_w, i32_w]
                         rfl
                        refine pure_ (i := 30) (N := some 153) (v := undef) (a' := ?_) Mk47_31_ rfl rfl (any_of HT_.out (by kernel_rfl)) (fun _ _ _ h => h) (Or.inr ⟨by rfl, rfl⟩) ?_ ?_
                        rotate_left
                        ·simp only [Act.put, List.setIfInBounds_toArray, List.set_cons_zero, List.set_cons_succ, i64_w, i32_w]
                         rfl
                        refine pure_ (i := 31) (N := some 154) (v := undef) (a' := ?_) Mk47_32_ rfl rfl (any_of HT_.out (by kernel_rfl)) (fun _ _ _ h => h) (Or.inr ⟨by rfl, rfl⟩) ?_ ?_
                        rotate_left
                        ·simp only [Act.put, List.setIfInBounds_toArray, List.set_cons_zero, List.set_cons_succ, i64_w, i32_w]
                         rfl
                        refine pure_ (i := 32) (N := some 155) (v := undef) (a' := ?_) Mk47_33_ rfl rfl (any_of HT_.out (by kernel_rfl)) (fun _ _ _ h => h) (Or.inr ⟨by rfl, rfl⟩) ?_ ?_
                        rotate_left
                        ·simp only [Act.put, List.setIfInBounds_toArray, List.set_cons_zero, List.set_cons_succ, i64_w, i32_w]
                         rfl
                        refine pure_ (i := 33) (N := some 156) (v := undef) (a' := ?_) Mk47_34_ rfl rfl (any_of HT_.out (by kernel_rfl)) (fun _ _ _ h => h) (Or.inr ⟨by rfl, rfl⟩) ?_ ?_
                        rotate_left
                        ·simp only [Act.put, List.setIfInBounds_toArray, List.set_cons_zero, List.set_cons_succ, i64_w, i32_w]
                         rfl
                        refine pure_ (i := 34) (N := some 157) (v := undef) (a' := ?_) Mk47_35_ rfl rfl (any_of HT_.out (by kernel_rfl)) (fun _ _ _ h => h) (Or.inr ⟨by rfl, rfl⟩) ?_ ?_
                        rotate_left
                        ·simp only [Act.put, List.setIfInBounds_toArray, List.set_cons_zero, List.set_cons_succ, i64_w, i32_w]
                         rfl
                        refine pure_ (i := 35) (N := some 158) (v := undef) (a' := ?_) Mk47_36_ rfl rfl (any_of HT_.out (by kernel_rfl)) (fun _ _ _ h => h) (Or.inr ⟨by rfl, rfl⟩) ?_ ?_
                        rotate_left
                        ·simp only [Act.put, List.setIfInBounds_toArray, List.set_cons_zero, List.set_cons_succ, i64_w, i32_w]
                         rfl
                        refine pure_ (i := 36) (N := some 159) (v := undef) (a' := ?_) Mk47_37_ rfl rfl (any_of HT_.out (by kernel_rfl)) (fun _ _ _ h => h) (Or.inr ⟨by rfl, rfl⟩) ?_ ?_
                        rotate_left
                        ·simp only [Act.put, List.setIfInBounds_toArray, List.set_cons_zero, List.set_cons_succ, i64_w, i32_w]
                         rfl
                        refine pure_ (i := 37) (N := some 160) (v := undef) (a' := ?_) Mk47_38_ rfl rfl (any_of HT_.out (by kernel_rfl)) (fun _ _ _ h => h) (Or.inr ⟨by rfl, rfl⟩) ?_ ?_
                        rotate_left
                        ·simp only [Act.put, List.setIfInBounds_toArray, List.set_cons_zero, List.set_cons_succ, i64_w, i32_w]
                         rfl
                        refine pure_ (i := 38) (N := some 161) (v := undef) (a' := ?_) Mk47_39_ rfl rfl (any_of HT_.out (by kernel_rfl)) (fun _ _ _ h => h) (Or.inr ⟨by rfl, rfl⟩) ?_ ?_
                        rotate_left
                        ·simp only [Act.put, List.setIfInBounds_toArray, List.set_cons_zero, List.set_cons_succ, i64_w, i32_w]
                         rfl
                        refine pure_ (i := 39) (N := some 162) (v := undef) (a' := ?_) Mk47_40_ rfl rfl (any_of HT_.out (by kernel_rfl)) (fun _ _ _ h => h) (Or.inr ⟨by rfl, rfl⟩) ?_ ?_
                        rotate_left
                        ·simp only [Act.put, List.setIfInBounds_toArray, List.set_cons_zero, List.set_cons_succ, i64_w, i32_w]
                         rfl
                        refine pure_ (i := 40) (N := some 163) (v := undef) (a' := ?_) Mk47_41_ rfl rfl (any_of HT_.out (by kernel_rfl)) (fun _ _ _ h => h) (Or.inr ⟨by rfl, rfl⟩) ?_ ?_
                        rotate_left
                        ·simp only [Act.put, List.setIfInBounds_toArray, List.set_cons_zero, List.set_cons_succ, i64_w, i32_w]
                         rfl
                        refine pure_ (i := 41) (N := some 164) (v := undef) (a' := ?_) Mk47_42_ rfl rfl (any_of HT_.out (by kernel_rfl)) (fun _ _ _ h => h) (Or.inr ⟨by rfl, rfl⟩) ?_ ?_
                        rotate_left
                        ·simp only [Act.put, List.setIfInBounds_toArray, List.set_cons_zero, List.set_cons_succ, i64_w, i32_w]
                         rfl
                        refine pure_ (i := 42) (N := some 165) (v := undef) (a' := ?_) Mk47_43_ rfl rfl (any_of HT_.out (by kernel_rfl)) (fun _ _ _ h => h) (Or.inr ⟨by rfl, rfl⟩) ?_ ?_
                        rotate_left
                        ·simp only [Act.put, List.setIfInBounds_toArray, List.set_cons_zero, List.set_cons_succ, i64_w, i32_w]
                         rfl
                        refine pure_ (i := 43) (N := some 166) (v := undef) (a' := ?_) Mk47_44_ rfl rfl (any_of HT_.out (by kernel_rfl)) (fun _ _ _ h => h) (Or.inr ⟨by rfl, rfl⟩) ?_ ?_
                        rotate_left
                        ·simp only [Act.put, List.setIfInBounds_toArray, List.set_cons_zero, List.set_cons_succ, i64_w, i32_w]
                         rfl
                        refine pure_ (i := 44) (N := some 167) (v := undef) (a' := ?_) Mk47_45_ rfl rfl (any_of HT_.out (by kernel_rfl)) (fun _ _ _ h => h) (Or.inr ⟨by rfl, rfl⟩) ?_ ?_
                        rotate_left
                        ·simp only [Act.put, List.setIfInBounds_toArray, List.set_cons_zero, List.set_cons_succ, i64_w, i32_w]
                         rfl
                        refine pure_ (i := 45) (N := some 168) (v := ?_) (a' := ?_) Mk47_46_ rfl rfl (any_of HT_.out (by kernel_rfl)) (fun _ _ _ h => h) (Or.inl ⟨by rfl, ?_⟩) ?_ ?_; rotate_left; intro w'; go_simp; with_reducible rfl; rotate_left; simp only [Act.put, List.setIfInBounds_toArray, List.set_cons_zero, List.set_cons_succ, i64_w, i32_w]; rfl
                        refine pure_ (i := 46) (N := some 169) (v := ?_) (a' := ?_) Mk47_47_ rfl rfl (any_of HT_.out (by kernel_rfl)) (fun _ _ _ h => h) (Or.inl ⟨by rfl, ?_⟩) ?_ ?_; rotate_left; intro w'; go_simp; with_reducible rfl; rotate_left; simp only [Act.put, List.setIfInBounds_toArray, List.set_cons_zero, List.set_cons_succ, i64_w, i32_w]; rfl
                        refine done_ (done_of HT_.out (by kernel_rfl)) ?_
                        try go_wp2
                        go_roundg k1
                        case measure => have := HK1.out; omega
                        case rel => exact ⟨(wrap64 (x118_1 + 1)), (by first | rfl | (simp; done) | (simp [*]; done)), H', ⟨by have := HK1.out; omega⟩, ⟨by (with_reducible repeat (first | apply Kd.R_alloc | apply Kd.R_drewN | apply Kd.R_drew)); exact HO_9.out⟩, ⟨by (with_reducible repeat (first | apply Kd.R_alloc | apply Kd.R_drewN | apply Kd.R_drew)); exact HO_13.out⟩, ⟨by (with_reducible repeat (first | apply Kd.R_alloc | apply Kd.R_drewN | apply Kd.R_drew)); exact HO_15.out⟩, ⟨by repeat (first | (with_reducible first | exact HB.out | apply below_alloc | apply pw_below_drewN | apply below_drew1 | refine below_set ?_ GE212.out) | exact HB.out)⟩⟩
                       ·rw [if_neg c61] at H
                        have c61b0 : ((rd t204 x118_1) == ((rd_T28 l0 x118_1).f3)) = false := beq_eq_false_iff_ne.mpr c61
                        have c61b1 : ((rd t204 x118_1) != ((rd_T28 l0 x118_1).f3)) = true := bne_iff_ne.mpr c61
                        exact absurd ((Option.some.inj H).trans HRT.out) (by decide)
                      ·rw [if_neg c60] at H
                       exact absurd H (by simp)
                     ·rw [if_neg c59] at H
                      have c59b0 : ((rd t200 x118_1) == (rd t194 x118_1)) = false := beq_eq_false_iff_ne.mpr c59
                      have c59b1 : ((rd t200 x118_1) != (rd t194 x118_1)) = true := bne_iff_ne.mpr c59
                      exact absurd ((Option.some.inj H).trans HRT.out) (by decide)
                    ·rw [if_neg c58] at H
                     exact absurd H (by simp)
                   ·rw [if_neg c57] at H
                    exact absurd H (by simp)
                  ·replace c56 := Bool.eq_false_iff.mpr c56
                   subst c56
                   have H1 : (if x118_1 < (t204.length : Int) then (if x118_1 < (t194.length : Int) then (if (rd t204 x118_1) = (rd t194 x118_1) then (if x118_1 < (t200.length : Int) then (if (rd t200 x118_1) = ((rd_T28 l0 x118_1).f3) then (parrylaw1_DomParts.l0 k1 l0 (wrap64 (Int.tmod (IntKind.u64.wrap (a1)) (IntKind.u64.wrap (t193)))) a2 a3 t194 t200 t204 l0 (l0.length : Int) (wrap64 (x118_1 + 1))) else (some false)) else (none)) else (some false)) else (none)) else (none)) = some r := by rw [if_neg (show ¬ (false = true) by decide)] at H; exact H
                   clear H
                   have H := H1
                   clear H1
                   by_cases c66 : x118_1 < (t204.length : Int)
                   ·rw [if_pos c66] at H
                    have c66b0 : decide (x118_1 < (t204.length : Int)) = true := decide_eq_true c66
                    clear c66
                    by_cases c67 : x118_1 < (t194.length : Int)
                    ·rw [if_pos c67] at H
                     have c67b0 : decide (x118_1 < (t194.length : Int)) = true := decide_eq_true c67
                     clear c67
                     by_cases c68 : (rd t204 x118_1) = (rd t194 x118_1)
                     ·rw [if_pos c68] at H
                      have c68b0 : ((rd t204 x118_1) == (rd t194 x118_1)) = true := beq_iff_eq.mpr c68
                      have c68b1 : ((rd t204 x118_1) != (rd t194 x118_1)) = false := bne_eq_false_iff_eq.mpr c68
                      clear c68
                      by_cases c69 : x118_1 < (t200.length : Int)
                      ·rw [if_pos c69] at H
                       have c69b0 : decide (x118_1 < (t200.length : Int)) = true := decide_eq_true c69
                       clear c69
                       by_cases c70 : (rd t200 x118_1) = ((rd_T28 l0 x118_1).f3)
                       ·rw [if_pos c70] at H
                        have c70b0 : ((rd t200 x118_1) == ((rd_T28 l0 x118_1).f3)) = true := beq_iff_eq.mpr c70
                        have c70b1 : ((rd t200 x118_1) != ((rd_T28 l0 x118_1).f3)) = false := bne_eq_false_iff_eq.mpr c70
                        clear c70
                        have H' := Aside0.mk H
                        clear H
                        have p211 : 0 ≤ (x118_1 : Int) := of_decide_eq_true (by first | (with_reducible assumption) | assumption)
                        have q211 : x118_1 < (l0.length : Int) := of_decide_eq_true (by first | (with_reducible assumption) | assumption)
                        obtain ⟨ad211, e211, hx211_0, hx211_1, hx211_2, hx211_3, hx211_4⟩ := at_T28 HR0.out x118_1 p211 q211
                        (try rw [← Nbq55.out] at hx211_1)
                        cases e211
                        replace hx211_0 := (HB.out.cell (World.block_lt_of_cell? w _ hx211_0)).trans hx211_0
                        replace hx211_1 := (HB.out.cell (World.block_lt_of_cell? w _ hx211_1)).trans hx211_1
                        replace hx211_2 := (HB.out.cell (World.block_lt_of_cell? w _ hx211_2)).trans hx211_2
                        replace hx211_3 := (HB.out.cell (World.block_lt_of_cell? w _ hx211_3)).trans hx211_3
                        replace hx211_4 := (HB.out.cell (World.block_lt_of_cell? w _ hx211_4)).trans hx211_4
                        replace p211 := eq_true p211
                        replace q211 := eq_true q211
                        try go_wp2_with (first | ((with_reducible refine gate_dst (N := 18) rfl ?_); (try (refine gate_guard (by rfl) ?_; dsimp only)); refine box_event ?hg (N := 18) ?hd (cs := #[.string (⟨#[]⟩ : ByteArray), .bool false, .int .i64 0, .int .i64 0, .int .i64 0]) (t := 28) ?hr ?_; (case hd => rfl); (case hg => rfl); (case hr => first | (go_simp; done) | (go_simp; rfl)); intro gb212 hg w71 hbox hb; have n0_ := Aside0.mk (Kd.R_below (by (with_reducible repeat (first | apply Kd.R_alloc | apply Kd.R_drewN | apply Kd.R_drew)); exact HO_9.out) hb); have n1_ := Aside0.mk (Kd.R_below (by (with_reducible repeat (first | apply Kd.R_alloc | apply Kd.R_drewN | apply Kd.R_drew)); exact HO_13.out) hb); have n2_ := Aside0.mk (Kd.R_below (by (with_reducible repeat (first | apply Kd.R_alloc | apply Kd.R_drewN | apply Kd.R_drew)); exact HO_15.out) hb); have n3_ := Aside0.mk (below_step (by repeat (first | (with_reducible first | exact HB.out | apply below_alloc | apply pw_below_drewN | apply below_drew1) | exact HB.out)) hb); have n4_ := Aside0.mk (hbox); have n5_ := Aside0.mk ((by rw [hg]; exact (below_size (by repeat (first | (with_reducible first | exact HB.out | apply below_alloc | apply pw_below_drewN | apply below_drew1) | exact HB.out))) : w.heap.size ≤ gb212)); have n6_ := Aside0.mk ((by rw [hg]; exact (below_size (by repeat (first | (with_reducible first | exact HB.out | apply below_alloc | apply pw_below_drewN | apply below_drew1) | exact HB.out))) : w.heap.size ≤ gb212)); clear HO_9; clear HO_13; clear HO_15; clear HB; have HO_9 := n0_; have HO_13 := n1_; have HO_15 := n2_; have HB := n3_; have BK212 := n4_; have GW212 := n5_; have GE212 := n6_; clear n0_ n1_ n2_ n3_ n4_ n5_ n6_; clear hb hbox hg; have hcz72_0 : w71.cell? ⟨gb212, 0, none⟩ = some (.string (⟨#[]⟩ : ByteArray)) := (blk_cell BK212.out 0).trans rfl; have hcz72_1 : w71.cell? ⟨gb212, 1, none⟩ = some (.bool false) := (blk_cell BK212.out 1).trans rfl; have hcz72_2 : w71.cell? ⟨gb212, 2, none⟩ = some (.int .i64 0) := (blk_cell BK212.out 2).trans rfl; have hcz72_3 : w71.cell? ⟨gb212, 3, none⟩ = some (.int .i64 0) := (blk_cell BK212.out 3).trans rfl; have hcz72_4 : w71.cell? ⟨gb212, 4, none⟩ = some (.int .i64 0) := (blk_cell BK212.out 4).trans rfl; have hfz72_0 := blk_frozen BK212.out 0; have hfz72_1 := blk_frozen BK212.out 1; have hfz72_2 := blk_frozen BK212.out 2; have hfz72_3 := blk_frozen BK212.out 3; have hfz72_4 := blk_frozen BK212.out 4))
                        have n0_ : Aside0 (Kd.R (Kd.int .i64) 3 (((((w71.setCell ⟨gb212, 0, none⟩ (.string ((rd_T28 l0 x118_1).f0))).setCell ⟨gb212, 1, none⟩ (.bool false)).setCell ⟨gb212, 2, none⟩ (.int .i64 ((rd_T28 l0 x118_1).f2))).setCell ⟨gb212, 3, none⟩ (.int .i64 ((rd_T28 l0 x118_1).f3))).setCell ⟨gb212, 4, none⟩ (.int .i64 ((rd_T28 l0 x118_1).f4))) w.heap.size (fun k_ => some k_ ≠ (.slice Ao47 t200.length co47 : Value).ownBlock ∧ some k_ ≠ (.slice Ao48 t204.length co48 : Value).ownBlock) (.slice Ao46 t194.length co46) t194) := ⟨by (with_reducible repeat (first | apply Kd.R_alloc | apply Kd.R_drewN | apply Kd.R_drew)); exact Kd.R_mono (Kd.R_far (p := ⟨gb212, 4, none⟩) (Kd.R_far (p := ⟨gb212, 3, none⟩) (Kd.R_far (p := ⟨gb212, 2, none⟩) (Kd.R_far (p := ⟨gb212, 1, none⟩) (Kd.R_far (p := ⟨gb212, 0, none⟩) (Kd.R_types HO_9.out BK212.out (by decide)) (fun _ hk => hk.2) (.string ((rd_T28 l0 x118_1).f0))) (fun _ hk => hk.2) (.bool false)) (fun _ hk => hk.2) (.int .i64 ((rd_T28 l0 x118_1).f2))) (fun _ hk => hk.2) (.int .i64 ((rd_T28 l0 x118_1).f3))) (fun _ hk => hk.2) (.int .i64 ((rd_T28 l0 x118_1).f4))) (fun _ hk => ⟨hk.1.1, hk.1.2⟩)⟩
                        have n1_ : Aside0 (Kd.R (Kd.int .i64) 3 (((((w71.setCell ⟨gb212, 0, none⟩ (.string ((rd_T28 l0 x118_1).f0))).setCell ⟨gb212, 1, none⟩ (.bool false)).setCell ⟨gb212, 2, none⟩ (.int .i64 ((rd_T28 l0 x118_1).f2))).setCell ⟨gb212, 3, none⟩ (.int .i64 ((rd_T28 l0 x118_1).f3))).setCell ⟨gb212, 4, none⟩ (.int .i64 ((rd_T28 l0 x118_1).f4))) w.heap.size (fun k_ => some k_ ≠ (.slice Ao46 t194.length co46 : Value).ownBlock ∧ some k_ ≠ (.slice Ao48 t204.length co48 : Value).ownBlock) (.slice Ao47 t200.length co47) t200) := ⟨by (with_reducible repeat (first | apply Kd.R_alloc | apply Kd.R_drewN | apply Kd.R_drew)); exact Kd.R_mono (Kd.R_far (p := ⟨gb212, 4, none⟩) (Kd.R_far (p := ⟨gb212, 3, none⟩) (Kd.R_far (p := ⟨gb212, 2, none⟩) (Kd.R_far (p := ⟨gb212, 1, none⟩) (Kd.R_far (p := ⟨gb212, 0, none⟩) (Kd.R_types HO_13.out BK212.out (by decide)) (fun _ hk => hk.2) (.string ((rd_T28 l0 x118_1).f0))) (fun _ hk => hk.2) (.bool false)) (fun _ hk => hk.2) (.int .i64 ((rd_T28 l0 x118_1).f2))) (fun _ hk => hk.2) (.int .i64 ((rd_T28 l0 x118_1).f3))) (fun _ hk => hk.2) (.int .i64 ((rd_T28 l0 x118_1).f4))) (fun _ hk => ⟨hk.1.1, hk.1.2⟩)⟩
                        have n2_ : Aside0 (Kd.R (Kd.int .i64) 3 (((((w71.setCell ⟨gb212, 0, none⟩ (.string ((rd_T28 l0 x118_1).f0))).setCell ⟨gb212, 1, none⟩ (.bool false)).setCell ⟨gb212, 2, none⟩ (.int .i64 ((rd_T28 l0 x118_1).f2))).setCell ⟨gb212, 3, none⟩ (.int .i64 ((rd_T28 l0 x118_1).f3))).setCell ⟨gb212, 4, none⟩ (.int .i64 ((rd_T28 l0 x118_1).f4))) w.heap.size (fun k_ => some k_ ≠ (.slice Ao46 t194.length co46 : Value).ownBlock ∧ some k_ ≠ (.slice Ao47 t200.length co47 : Value).ownBlock) (.slice Ao48 t204.length co48) t204) := ⟨by (with_reducible repeat (first | apply Kd.R_alloc | apply Kd.R_drewN | apply Kd.R_drew)); exact Kd.R_mono (Kd.R_far (p := ⟨gb212, 4, none⟩) (Kd.R_far (p := ⟨gb212, 3, none⟩) (Kd.R_far (p := ⟨gb212, 2, none⟩) (Kd.R_far (p := ⟨gb212, 1, none⟩) (Kd.R_far (p := ⟨gb212, 0, none⟩) (Kd.R_types HO_15.out BK212.out (by decide)) (fun _ hk => hk.2) (.string ((rd_T28 l0 x118_1).f0))) (fun _ hk => hk.2) (.bool false)) (fun _ hk => hk.2) (.int .i64 ((rd_T28 l0 x118_1).f2))) (fun _ hk => hk.2) (.int .i64 ((rd_T28 l0 x118_1).f3))) (fun _ hk => hk.2) (.int .i64 ((rd_T28 l0 x118_1).f4))) (fun _ hk => ⟨hk.1.1, hk.1.2⟩)⟩
                        have n3_ : Aside0 ((((((w71.setCell ⟨gb212, 0, none⟩ (.string ((rd_T28 l0 x118_1).f0))).setCell ⟨gb212, 1, none⟩ (.bool false)).setCell ⟨gb212, 2, none⟩ (.int .i64 ((rd_T28 l0 x118_1).f2))).setCell ⟨gb212, 3, none⟩ (.int .i64 ((rd_T28 l0 x118_1).f3))).setCell ⟨gb212, 4, none⟩ (.int .i64 ((rd_T28 l0 x118_1).f4))).heap[gb212]? = some (.cells #[.string ((rd_T28 l0 x118_1).f0), .bool false, .int .i64 ((rd_T28 l0 x118_1).f2), .int .i64 ((rd_T28 l0 x118_1).f3), .int .i64 ((rd_T28 l0 x118_1).f4)] 28 (0, 0))) := ⟨by (with_reducible repeat (first | refine blk_drewN ?_ _ | refine blk_drew ?_ | refine blk_alloc ?_ _)); refine blk_put (cs := #[.string ((rd_T28 l0 x118_1).f0), .bool false, .int .i64 ((rd_T28 l0 x118_1).f2), .int .i64 ((rd_T28 l0 x118_1).f3), .int .i64 0]) ?_ 4 _ rfl; (with_reducible repeat (first | refine blk_drewN ?_ _ | refine blk_drew ?_ | refine blk_alloc ?_ _)); refine blk_put (cs := #[.string ((rd_T28 l0 x118_1).f0), .bool false, .int .i64 ((rd_T28 l0 x118_1).f2), .int .i64 0, .int .i64 0]) ?_ 3 _ rfl; (with_reducible repeat (first | refine blk_drewN ?_ _ | refine blk_drew ?_ | refine blk_alloc ?_ _)); refine blk_put (cs := #[.string ((rd_T28 l0 x118_1).f0), .bool false, .int .i64 0, .int .i64 0, .int .i64 0]) ?_ 2 _ rfl; (with_reducible repeat (first | refine blk_drewN ?_ _ | refine blk_drew ?_ | refine blk_alloc ?_ _)); refine blk_put (cs := #[.string ((rd_T28 l0 x118_1).f0), .bool false, .int .i64 0, .int .i64 0, .int .i64 0]) ?_ 1 _ rfl; (with_reducible repeat (first | refine blk_drewN ?_ _ | refine blk_drew ?_ | refine blk_alloc ?_ _)); refine blk_put (cs := #[.string (⟨#[]⟩ : ByteArray), .bool false, .int .i64 0, .int .i64 0, .int .i64 0]) ?_ 0 _ rfl; (with_reducible repeat (first | refine blk_drewN ?_ _ | refine blk_drew ?_ | refine blk_alloc ?_ _)); exact BK212.out⟩
                        have n4_ : Aside0 (Below w.heap.size w (((((w71.setCell ⟨gb212, 0, none⟩ (.string ((rd_T28 l0 x118_1).f0))).setCell ⟨gb212, 1, none⟩ (.bool false)).setCell ⟨gb212, 2, none⟩ (.int .i64 ((rd_T28 l0 x118_1).f2))).setCell ⟨gb212, 3, none⟩ (.int .i64 ((rd_T28 l0 x118_1).f3))).setCell ⟨gb212, 4, none⟩ (.int .i64 ((rd_T28 l0 x118_1).f4)))) := ⟨by repeat (first | (with_reducible first | exact HB.out | apply below_alloc | apply pw_below_drewN | apply below_drew1 | refine below_set ?_ GE212.out) | exact HB.out)⟩
                        (try clear HO_9)
                        (try clear HO_13)
                        (try clear HO_15)
                        (try clear BK212)
                        (try clear HB)
                        generalize (((((w71.setCell ⟨gb212, 0, none⟩ (.string ((rd_T28 l0 x118_1).f0))).setCell ⟨gb212, 1, none⟩ (.bool false)).setCell ⟨gb212, 2, none⟩ (.int .i64 ((rd_T28 l0 x118_1).f2))).setCell ⟨gb212, 3, none⟩ (.int .i64 ((rd_T28 l0 x118_1).f3))).setCell ⟨gb212, 4, none⟩ (.int .i64 ((rd_T28 l0 x118_1).f4))) = w73 at n0_ n1_ n2_ n3_ n4_ ⊢
                        have HO_9 := n0_
                        have HO_13 := n1_
                        have HO_15 := n2_
                        have BK212 := n3_
                        have HB := n4_
                        clear n0_ n1_ n2_ n3_ n4_
                        have n0_ := Aside0.mk (Kd.R_drew HO_9.out)
                        have n1_ := Aside0.mk (Kd.R_drew HO_13.out)
                        have n2_ := Aside0.mk (Kd.R_drew HO_15.out)
                        have n3_ := Aside0.mk (blk_drew BK212.out)
                        have n4_ := Aside0.mk (below_drew1 HB.out)
                        clear HO_9
                        clear HO_13
                        clear HO_15
                        clear BK212
                        clear HB
                        have HO_9 := n0_
                        have HO_13 := n1_
                        have HO_15 := n2_
                        have BK212 := n3_
                        have HB := n4_
                        clear n0_ n1_ n2_ n3_ n4_
                        have p216 : 0 ≤ (x118_1 : Int) := of_decide_eq_true (by first | (with_reducible assumption) | assumption)
                        have q216 : x118_1 < (t204.length : Int) := of_decide_eq_true (by first | (with_reducible assumption) | assumption)
                        obtain ⟨ad216, e216, hx216_0⟩ := Kd.at_int (Kd.R_reads' HO_15.out).2.2 x118_1 p216 q216
                        cases e216
                        replace p216 := eq_true p216
                        replace q216 := eq_true q216
                        have p217 : 0 ≤ (x118_1 : Int) := of_decide_eq_true (by first | (with_reducible assumption) | assumption)
                        have q217 : x118_1 < (t194.length : Int) := of_decide_eq_true (by first | (with_reducible assumption) | assumption)
                        obtain ⟨ad217, e217, hx217_0⟩ := Kd.at_int (Kd.R_reads' HO_9.out).2.2 x118_1 p217 q217
                        cases e217
                        replace p217 := eq_true p217
                        replace q217 := eq_true q217
                        have p218 : 0 ≤ (x118_1 : Int) := of_decide_eq_true (by first | (with_reducible assumption) | assumption)
                        have q218 : x118_1 < (t200.length : Int) := of_decide_eq_true (by first | (with_reducible assumption) | assumption)
                        obtain ⟨ad218, e218, hx218_0⟩ := Kd.at_int (Kd.R_reads' HO_13.out).2.2 x118_1 p218 q218
                        cases e218
                        replace p218 := eq_true p218
                        replace q218 := eq_true q218
                        refine start_ (n := 47) (S := fun w' => w'.cell? ⟨gb212, 0, none⟩ = some (.string ((rd_T28 l0 x118_1).f0)) ∧ w'.cell? ⟨gb212, 1, none⟩ = some (.bool false) ∧ w'.cell? ⟨gb212, 2, none⟩ = some (.int .i64 ((rd_T28 l0 x118_1).f2)) ∧ w'.cell? ⟨gb212, 3, none⟩ = some (.int .i64 ((rd_T28 l0 x118_1).f3)) ∧ w'.cell? ⟨gb212, 4, none⟩ = some (.int .i64 ((rd_T28 l0 x118_1).f4)) ∧ w'.cell? (ad216.add (x118_1).toNat) = some (.int .i64 (rd t204 x118_1)) ∧ w'.cell? (ad217.add (x118_1).toNat) = some (.int .i64 (rd t194 x118_1)) ∧ w'.cell? (ad218.add (x118_1).toNat) = some (.int .i64 (rd t200 x118_1))) (ds := []) Mk47_0_ (by kernel_rfl) rfl rfl ⟨(blk_cell BK212.out 0).trans rfl, (blk_cell BK212.out 1).trans rfl, (blk_cell BK212.out 2).trans rfl, (blk_cell BK212.out 3).trans rfl, (blk_cell BK212.out 4).trans rfl, hx216_0, hx217_0, hx218_0⟩ (fun hHeld => ?_); refine with_tabW parrylaw1_DomParts.tab13 parrylaw1_DomParts.bits13 (fun HT_ HW_ => ?_)
                        generalize w73.drew = w74 at HO_9 HO_13 HO_15 BK212 HB hx216_0 hx217_0 hx218_0 hHeld ⊢
                        refine pure_ (i := 0) (N := some 123) (v := ?_) (a' := ?_) Mk47_1_ rfl rfl (any_of HT_.out (by kernel_rfl)) (fun _ _ _ h => h) (Or.inl ⟨by rfl, ?_⟩) ?_ ?_; rotate_left; intro w'; go_simp; with_reducible rfl; rotate_left; simp only [Act.put, List.setIfInBounds_toArray, List.set_cons_zero, List.set_cons_succ, i64_w, i32_w]; rfl
                        refine take_ (i := 1) (N := some 124) (v := ?_) (a' := ?_) Mk47_2_ rfl rfl (take_ofW HT_.out HW_.out (by kernel_rfl)) (fun _ _ _ h => h) (Or.inl ⟨by rfl, ?_⟩) hHeld ?_ ?_
                        rotate_left
                        ·rintro w' ⟨s0, s1, s2, s3, s4, s5, s6, s7⟩
                         go_simp
                         with_reducible rfl
                        rotate_left
                        ·simp only [Act.put, List.setIfInBounds_toArray, List.set_cons_zero, List.set_cons_succ, i64_w, i32_w]
                         rfl
                        refine pure_ (i := 2) (N := some 125) (v := ?_) (a' := ?_) Mk47_3_ rfl rfl (any_of HT_.out (by kernel_rfl)) (fun _ _ _ h => h) (Or.inl ⟨by rfl, ?_⟩) ?_ ?_; rotate_left; intro w'; go_simp; with_reducible rfl; rotate_left; simp only [Act.put, List.setIfInBounds_toArray, List.set_cons_zero, List.set_cons_succ, i64_w, i32_w]; rfl
                        refine pure_ (i := 3) (N := some 126) (v := undef) (a' := ?_) Mk47_4_ rfl rfl (any_of HT_.out (by kernel_rfl)) (fun _ _ _ h => h) (Or.inr ⟨by rfl, rfl⟩) ?_ ?_
                        rotate_left
                        ·simp only [Act.put, List.setIfInBounds_toArray, List.set_cons_zero, List.set_cons_succ, i64_w, i32_w]
                         rfl
                        refine pure_ (i := 4) (N := some 127) (v := undef) (a' := ?_) Mk47_5_ rfl rfl (any_of HT_.out (by kernel_rfl)) (fun _ _ _ h => h) (Or.inr ⟨by rfl, rfl⟩) ?_ ?_
                        rotate_left
                        ·simp only [Act.put, List.setIfInBounds_toArray, List.set_cons_zero, List.set_cons_succ, i64_w, i32_w]
                         rfl
                        refine pure_ (i := 5) (N := some 128) (v := undef) (a' := ?_) Mk47_6_ rfl rfl (any_of HT_.out (by kernel_rfl)) (fun _ _ _ h => h) (Or.inr ⟨by rfl, rfl⟩) ?_ ?_
                        rotate_left
                        ·simp only [Act.put, List.setIfInBounds_toArray, List.set_cons_zero, List.set_cons_succ, i64_w, i32_w]
                         rfl
                        refine pure_ (i := 6) (N := some 129) (v := undef) (a' := ?_) Mk47_48_ rfl rfl (any_of HT_.out (by kernel_rfl)) (fun _ _ _ h => h) (Or.inr ⟨by rfl, rfl⟩) ?_ ?_
                        rotate_left
                        ·simp only [Act.put, List.setIfInBounds_toArray, List.set_cons_zero, List.set_cons_succ, i64_w, i32_w]
                         rfl
                        refine pure_ (i := 7) (N := some 130) (v := undef) (a' := ?_) Mk47_49_ rfl rfl (any_of HT_.out (by kernel_rfl)) (fun _ _ _ h => h) (Or.inr ⟨by rfl, rfl⟩) ?_ ?_
                        rotate_left
                        ·simp only [Act.put, List.setIfInBounds_toArray, List.set_cons_zero, List.set_cons_succ, i64_w, i32_w]
                         rfl
                        refine pure_ (i := 8) (N := some 131) (v := undef) (a' := ?_) Mk47_50_ rfl rfl (any_of HT_.out (by kernel_rfl)) (fun _ _ _ h => h) (Or.inr ⟨by rfl, rfl⟩) ?_ ?_
                        rotate_left
                        ·simp only [Act.put, List.setIfInBounds_toArray, List.set_cons_zero, List.set_cons_succ, i64_w, i32_w]
                         rfl
                        refine pure_ (i := 9) (N := some 132) (v := undef) (a' := ?_) Mk47_10_ rfl rfl (any_of HT_.out (by kernel_rfl)) (fun _ _ _ h => h) (Or.inr ⟨by rfl, rfl⟩) ?_ ?_
                        rotate_left
                        ·simp only [Act.put, List.setIfInBounds_toArray, List.set_cons_zero, List.set_cons_succ, i64_w, i32_w]
                         rfl
                        refine pure_ (i := 10) (N := some 133) (v := undef) (a' := ?_) Mk47_11_ rfl rfl (any_of HT_.out (by kernel_rfl)) (fun _ _ _ h => h) (Or.inr ⟨by rfl, rfl⟩) ?_ ?_
                        rotate_left
                        ·simp only [Act.put, List.setIfInBounds_toArray, List.set_cons_zero, List.set_cons_succ, i64_w, i32_w]
                         rfl
                        refine pure_ (i := 11) (N := some 134) (v := undef) (a' := ?_) Mk47_12_ rfl rfl (any_of HT_.out (by kernel_rfl)) (fun _ _ _ h => h) (Or.inr ⟨by rfl, rfl⟩) ?_ ?_
                        rotate_left
                        ·simp only [Act.put, List.setIfInBounds_toArray, List.set_cons_zero, List.set_cons_succ, i64_w, i32_w]
                         rfl
                        refine pure_ (i := 12) (N := some 135) (v := undef) (a' := ?_) Mk47_13_ rfl rfl (any_of HT_.out (by kernel_rfl)) (fun _ _ _ h => h) (Or.inr ⟨by rfl, rfl⟩) ?_ ?_
                        rotate_left
                        ·simp only [Act.put, List.setIfInBounds_toArray, List.set_cons_zero, List.set_cons_succ, i64_w, i32_w]
                         rfl
                        refine pure_ (i := 13) (N := some 136) (v := undef) (a' := ?_) Mk47_14_ rfl rfl (any_of HT_.out (by kernel_rfl)) (fun _ _ _ h => h) (Or.inr ⟨by rfl, rfl⟩) ?_ ?_
                        rotate_left
                        ·simp only [Act.put, List.setIfInBounds_toArray, List.set_cons_zero, List.set_cons_succ, i64_w, i32_w]
                         rfl
                        refine pure_ (i := 14) (N := some 137) (v := undef) (a' := ?_) Mk47_15_ rfl rfl (any_of HT_.out (by kernel_rfl)) (fun _ _ _ h => h) (Or.inr ⟨by rfl, rfl⟩) ?_ ?_
                        rotate_left
                        ·simp only [Act.put, List.setIfInBounds_toArray, List.set_cons_zero, List.set_cons_succ, i64_w, i32_w]
                         rfl
                        refine pure_ (i := 15) (N := some 138) (v := undef) (a' := ?_) Mk47_16_ rfl rfl (any_of HT_.out (by kernel_rfl)) (fun _ _ _ h => h) (Or.inr ⟨by rfl, rfl⟩) ?_ ?_
                        rotate_left
                        ·simp only [Act.put, List.setIfInBounds_toArray, List.set_cons_zero, List.set_cons_succ, i64_w, i32_w]
                         rfl
                        refine pure_ (i := 16) (N := some 139) (v := undef) (a' := ?_) Mk47_51_ rfl rfl (any_of HT_.out (by kernel_rfl)) (fun _ _ _ h => h) (Or.inr ⟨by rfl, rfl⟩) ?_ ?_
                        rotate_left
                        ·simp only [Act.put, List.setIfInBounds_toArray, List.set_cons_zero, List.set_cons_succ, i64_w, i32_w]
                         rfl
                        refine pure_ (i := 17) (N := some 140) (v := undef) (a' := ?_) Mk47_18_ rfl rfl (any_of HT_.out (by kernel_rfl)) (fun _ _ _ h => h) (Or.inr ⟨by rfl, rfl⟩) ?_ ?_
                        rotate_left
                        ·simp only [Act.put, List.setIfInBounds_toArray, List.set_cons_zero, List.set_cons_succ, i64_w, i32_w]
                         rfl
                        refine pure_ (i := 18) (N := some 141) (v := undef) (a' := ?_) Mk47_19_ rfl rfl (any_of HT_.out (by kernel_rfl)) (fun _ _ _ h => h) (Or.inr ⟨by rfl, rfl⟩) ?_ ?_
                        rotate_left
                        ·simp only [Act.put, List.setIfInBounds_toArray, List.set_cons_zero, List.set_cons_succ, i64_w, i32_w]
                         rfl
                        refine pure_ (i := 19) (N := some 142) (v := undef) (a' := ?_) Mk47_20_ rfl rfl (any_of HT_.out (by kernel_rfl)) (fun _ _ _ h => h) (Or.inr ⟨by rfl, rfl⟩) ?_ ?_
                        rotate_left
                        ·simp only [Act.put, List.setIfInBounds_toArray, List.set_cons_zero, List.set_cons_succ, i64_w, i32_w]
                         rfl
                        refine pure_ (i := 20) (N := some 143) (v := undef) (a' := ?_) Mk47_21_ rfl rfl (any_of HT_.out (by kernel_rfl)) (fun _ _ _ h => h) (Or.inr ⟨by rfl, rfl⟩) ?_ ?_
                        rotate_left
                        ·simp only [Act.put, List.setIfInBounds_toArray, List.set_cons_zero, List.set_cons_succ, i64_w, i32_w]
                         rfl
                        refine pure_ (i := 21) (N := some 144) (v := ?_) (a' := ?_) Mk47_22_ rfl rfl (any_of HT_.out (by kernel_rfl)) (fun _ _ _ h => h) (Or.inl ⟨by rfl, ?_⟩) ?_ ?_; rotate_left; intro w'; go_simp; with_reducible rfl; rotate_left; simp only [Act.put, List.setIfInBounds_toArray, List.set_cons_zero, List.set_cons_succ, i64_w, i32_w]; rfl
                        refine pure_ (i := 22) (N := some 145) (v := ?_) (a' := ?_) Mk47_23_ rfl rfl (any_of HT_.out (by kernel_rfl)) (fun _ _ _ h => h) (Or.inl ⟨by rfl, ?_⟩) ?_ ?_; rotate_left; intro w'; go_simp; with_reducible rfl; rotate_left; simp only [Act.put, List.setIfInBounds_toArray, List.set_cons_zero, List.set_cons_succ, i64_w, i32_w]; rfl
                        refine pure_ (i := 23) (N := some 146) (v := ?_) (a' := ?_) Mk47_24_ rfl rfl (any_of HT_.out (by kernel_rfl)) (fun _ _ _ h => h) (Or.inl ⟨by rfl, ?_⟩) ?_ ?_; rotate_left; intro w'; go_simp; with_reducible rfl; rotate_left; simp only [Act.put, List.setIfInBounds_toArray, List.set_cons_zero, List.set_cons_succ, i64_w, i32_w]; rfl
                        refine take_ (i := 24) (N := some 147) (v := ?_) (a' := ?_) Mk47_25_ rfl rfl (take_ofW HT_.out HW_.out (by kernel_rfl)) (fun _ _ _ h => h) (Or.inl ⟨by rfl, ?_⟩) hHeld ?_ ?_
                        rotate_left
                        ·rintro w' ⟨s0, s1, s2, s3, s4, s5, s6, s7⟩
                         go_simp
                         with_reducible rfl
                        rotate_left
                        ·simp only [Act.put, List.setIfInBounds_toArray, List.set_cons_zero, List.set_cons_succ, i64_w, i32_w]
                         rfl
                        refine pure_ (i := 25) (N := some 148) (v := ?_) (a' := ?_) Mk47_26_ rfl rfl (any_of HT_.out (by kernel_rfl)) (fun _ _ _ h => h) (Or.inl ⟨by rfl, ?_⟩) ?_ ?_; rotate_left; intro w'; go_simp; with_reducible rfl; rotate_left; simp only [Act.put, List.setIfInBounds_toArray, List.set_cons_zero, List.set_cons_succ, i64_w, i32_w]; rfl
                        refine pure_ (i := 26) (N := some 149) (v := ?_) (a' := ?_) Mk47_27_ rfl rfl (any_of HT_.out (by kernel_rfl)) (fun _ _ _ h => h) (Or.inl ⟨by rfl, ?_⟩) ?_ ?_; rotate_left; intro w'; go_simp; with_reducible rfl; rotate_left; simp only [Act.put, List.setIfInBounds_toArray, List.set_cons_zero, List.set_cons_succ, i64_w, i32_w]; rfl
                        refine pure_ (i := 27) (N := some 150) (v := ?_) (a' := ?_) Mk47_28_ rfl rfl (any_of HT_.out (by kernel_rfl)) (fun _ _ _ h => h) (Or.inl ⟨by rfl, ?_⟩) ?_ ?_; rotate_left; intro w'; go_simp; with_reducible rfl; rotate_left; simp only [Act.put, List.setIfInBounds_toArray, List.set_cons_zero, List.set_cons_succ, i64_w, i32_w]; rfl
                        refine pure_ (i := 28) (N := some 151) (v := ?_) (a' := ?_) Mk47_29_ rfl rfl (any_of HT_.out (by kernel_rfl)) (fun _ _ _ h => h) (Or.inl ⟨by rfl, ?_⟩) ?_ ?_; rotate_left; intro w'; go_simp; with_reducible rfl; rotate_left; simp only [Act.put, List.setIfInBounds_toArray, List.set_cons_zero, List.set_cons_succ, i64_w, i32_w]; rfl
                        refine pure_ (i := 29) (N := some 152) (v := ?_) (a' := ?_) Mk47_30_ rfl rfl (any_of HT_.out (by kernel_rfl)) (fun _ _ _ h => h) (Or.inl ⟨by rfl, ?_⟩) ?_ ?_; rotate_left; intro w'; go_simp; with_reducible rfl; rotate_left; simp only [Act.put, List.setIfInBounds_toArray, List.set_cons_zero, List.set_cons_succ, i64_w, i32_w]; rfl
                        refine pure_ (i := 31) (N := some 154) (v := ?_) (a' := ?_) Mk47_52_ rfl rfl (any_of HT_.out (by kernel_rfl)) (fun _ _ _ h => h) (Or.inl ⟨by rfl, ?_⟩) ?_ ?_; rotate_left; intro w'; go_simp; with_reducible rfl; rotate_left; simp only [Act.put, List.setIfInBounds_toArray, List.set_cons_zero, List.set_cons_succ, i64_w, i32_w]; rfl
                        refine pure_ (i := 32) (N := some 155) (v := ?_) (a' := ?_) Mk47_53_ rfl rfl (any_of HT_.out (by kernel_rfl)) (fun _ _ _ h => h) (Or.inl ⟨by rfl, ?_⟩) ?_ ?_; rotate_left; intro w'; go_simp; with_reducible rfl; rotate_left; simp only [Act.put, List.setIfInBounds_toArray, List.set_cons_zero, List.set_cons_succ, i64_w, i32_w]; rfl
                        refine pure_ (i := 33) (N := some 156) (v := ?_) (a' := ?_) Mk47_54_ rfl rfl (any_of HT_.out (by kernel_rfl)) (fun _ _ _ h => h) (Or.inl ⟨by rfl, ?_⟩) ?_ ?_; rotate_left; intro w'; go_simp; with_reducible rfl; rotate_left; simp only [Act.put, List.setIfInBounds_toArray, List.set_cons_zero, List.set_cons_succ, i64_w, i32_w]; rfl
                        refine take_ (i := 30) (N := some 153) (v := ?_) (a' := ?_) Mk47_34_ rfl rfl (take_ofW HT_.out HW_.out (by kernel_rfl)) (fun _ _ _ h => h) (Or.inl ⟨by rfl, ?_⟩) hHeld ?_ ?_
                        rotate_left
                        ·rintro w' ⟨s0, s1, s2, s3, s4, s5, s6, s7⟩
                         go_simp
                         with_reducible rfl
                        rotate_left
                        ·simp only [Act.put, List.setIfInBounds_toArray, List.set_cons_zero, List.set_cons_succ, i64_w, i32_w]
                         rfl
                        refine take_ (i := 34) (N := some 157) (v := ?_) (a' := ?_) Mk47_35_ rfl rfl (take_ofW HT_.out HW_.out (by kernel_rfl)) (fun _ _ _ h => h) (Or.inl ⟨by rfl, ?_⟩) hHeld ?_ ?_
                        rotate_left
                        ·rintro w' ⟨s0, s1, s2, s3, s4, s5, s6, s7⟩
                         go_simp
                         with_reducible rfl
                        rotate_left
                        ·simp only [Act.put, List.setIfInBounds_toArray, List.set_cons_zero, List.set_cons_succ, i64_w, i32_w]
                         rfl
                        refine pure_ (i := 35) (N := some 158) (v := ?_) (a' := ?_) Mk47_36_ rfl rfl (any_of HT_.out (by kernel_rfl)) (fun _ _ _ h => h) (Or.inl ⟨by rfl, ?_⟩) ?_ ?_; rotate_left; intro w'; go_simp; with_reducible rfl; rotate_left; simp only [Act.put, List.setIfInBounds_toArray, List.set_cons_zero, List.set_cons_succ, i64_w, i32_w]; rfl
                        refine pure_ (i := 36) (N := some 159) (v := ?_) (a' := ?_) Mk47_37_ rfl rfl (any_of HT_.out (by kernel_rfl)) (fun _ _ _ h => h) (Or.inl ⟨by rfl, ?_⟩) ?_ ?_; rotate_left; intro w'; go_simp; with_reducible rfl; rotate_left; simp only [Act.put, List.setIfInBounds_toArray, List.set_cons_zero, List.set_cons_succ, i64_w, i32_w]; rfl
                        refine pure_ (i := 37) (N := some 160) (v := ?_) (a' := ?_) Mk47_38_ rfl rfl (any_of HT_.out (by kernel_rfl)) (fun _ _ _ h => h) (Or.inl ⟨by rfl, ?_⟩) ?_ ?_; rotate_left; intro w'; go_simp; with_reducible rfl; rotate_left; simp only [Act.put, List.setIfInBounds_toArray, List.set_cons_zero, List.set_cons_succ, i64_w, i32_w]; rfl
                        refine pure_ (i := 38) (N := some 161) (v := ?_) (a' := ?_) Mk47_39_ rfl rfl (any_of HT_.out (by kernel_rfl)) (fun _ _ _ h => h) (Or.inl ⟨by rfl, ?_⟩) ?_ ?_; rotate_left; intro w'; go_simp; with_reducible rfl; rotate_left; simp only [Act.put, List.setIfInBounds_toArray, List.set_cons_zero, List.set_cons_succ, i64_w, i32_w]; rfl
                        refine pure_ (i := 39) (N := some 162) (v := ?_) (a' := ?_) Mk47_40_ rfl rfl (any_of HT_.out (by kernel_rfl)) (fun _ _ _ h => h) (Or.inl ⟨by rfl, ?_⟩) ?_ ?_; rotate_left; intro w'; go_simp; with_reducible rfl; rotate_left; simp only [Act.put, List.setIfInBounds_toArray, List.set_cons_zero, List.set_cons_succ, i64_w, i32_w]; rfl
                        refine pure_ (i := 41) (N := some 164) (v := ?_) (a' := ?_) Mk47_55_ rfl rfl (any_of HT_.out (by kernel_rfl)) (fun _ _ _ h => h) (Or.inl ⟨by rfl, ?_⟩) ?_ ?_; rotate_left; intro w'; go_simp; with_reducible rfl; rotate_left; simp only [Act.put, List.setIfInBounds_toArray, List.set_cons_zero, List.set_cons_succ, i64_w, i32_w]; rfl
                        refine take_ (i := 40) (N := some 163) (v := ?_) (a' := ?_) Mk47_42_ rfl rfl (take_ofW HT_.out HW_.out (by kernel_rfl)) (fun _ _ _ h => h) (Or.inl ⟨by rfl, ?_⟩) hHeld ?_ ?_
                        rotate_left
                        ·rintro w' ⟨s0, s1, s2, s3, s4, s5, s6, s7⟩
                         go_simp
                         with_reducible rfl
                        rotate_left
                        ·simp only [Act.put, List.setIfInBounds_toArray, List.set_cons_zero, List.set_cons_succ, i64_w, i32_w]
                         rfl
                        refine take_ (i := 42) (N := some 165) (v := ?_) (a' := ?_) Mk47_43_ rfl rfl (take_ofW HT_.out HW_.out (by kernel_rfl)) (fun _ _ _ h => h) (Or.inl ⟨by rfl, ?_⟩) hHeld ?_ ?_
                        rotate_left
                        ·rintro w' ⟨s0, s1, s2, s3, s4, s5, s6, s7⟩
                         go_simp
                         with_reducible rfl
                        rotate_left
                        ·simp only [Act.put, List.setIfInBounds_toArray, List.set_cons_zero, List.set_cons_succ, i64_w, i32_w]
                         rfl
                        refine pure_ (i := 43) (N := some 166) (v := ?_) (a' := ?_) Mk47_44_ rfl rfl (any_of HT_.out (by kernel_rfl)) (fun _ _ _ h => h) (Or.inl ⟨by rfl, ?_⟩) ?_ ?_; rotate_left; intro w'; go_simp; with_reducible rfl; rotate_left; simp only [Act.put, List.setIfInBounds_toArray, List.set_cons_zero, List.set_cons_succ, i64_w, i32_w]; rfl
                        refine pure_ (i := 44) (N := some 167) (v := ?_) (a' := ?_) Mk47_45_ rfl rfl (any_of HT_.out (by kernel_rfl)) (fun _ _ _ h => h) (Or.inl ⟨by rfl, ?_⟩) ?_ ?_; rotate_left; intro w'; go_simp; with_reducible rfl; rotate_left; simp only [Act.put, List.setIfInBounds_toArray, List.set_cons_zero, List.set_cons_succ, i64_w, i32_w]; rfl
                        refine pure_ (i := 45) (N := some 168) (v := ?_) (a' := ?_) Mk47_46_ rfl rfl (any_of HT_.out (by kernel_rfl)) (fun _ _ _ h => h) (Or.inl ⟨by rfl, ?_⟩) ?_ ?_; rotate_left; intro w'; go_simp; with_reducible rfl; rotate_left; simp only [Act.put, List.setIfInBounds_toArray, List.set_cons_zero, List.set_cons_succ, i64_w, i32_w]; rfl
                        refine pure_ (i := 46) (N := some 169) (v := ?_) (a' := ?_) Mk47_47_ rfl rfl (any_of HT_.out (by kernel_rfl)) (fun _ _ _ h => h) (Or.inl ⟨by rfl, ?_⟩) ?_ ?_; rotate_left; intro w'; go_simp; with_reducible rfl; rotate_left; simp only [Act.put, List.setIfInBounds_toArray, List.set_cons_zero, List.set_cons_succ, i64_w, i32_w]; rfl
                        refine done_ (done_of HT_.out (by kernel_rfl)) ?_
                        try go_wp2
                        go_roundg k1
                        case measure => have := HK1.out; omega
                        case rel => exact ⟨(wrap64 (x118_1 + 1)), (by first | rfl | (simp; done) | (simp [*]; done)), H', ⟨by have := HK1.out; omega⟩, ⟨by (with_reducible repeat (first | apply Kd.R_alloc | apply Kd.R_drewN | apply Kd.R_drew)); exact HO_9.out⟩, ⟨by (with_reducible repeat (first | apply Kd.R_alloc | apply Kd.R_drewN | apply Kd.R_drew)); exact HO_13.out⟩, ⟨by (with_reducible repeat (first | apply Kd.R_alloc | apply Kd.R_drewN | apply Kd.R_drew)); exact HO_15.out⟩, ⟨by repeat (first | (with_reducible first | exact HB.out | apply below_alloc | apply pw_below_drewN | apply below_drew1 | refine below_set ?_ GE212.out) | exact HB.out)⟩⟩
                       ·rw [if_neg c70] at H
                        exact absurd ((Option.some.inj H).trans HRT.out) (by decide)
                      ·rw [if_neg c69] at H
                       exact absurd H (by simp)
                     ·rw [if_neg c68] at H
                      have c68b0 : ((rd t204 x118_1) == (rd t194 x118_1)) = false := beq_eq_false_iff_ne.mpr c68
                      have c68b1 : ((rd t204 x118_1) != (rd t194 x118_1)) = true := bne_iff_ne.mpr c68
                      exact absurd ((Option.some.inj H).trans HRT.out) (by decide)
                    ·rw [if_neg c67] at H
                     exact absurd H (by simp)
                   ·rw [if_neg c66] at H
                    exact absurd H (by simp)
                 ·rw [if_neg c54] at H
                  exact absurd H (by simp)
                ·rw [if_neg c53] at H
                 exact absurd H (by simp)
               ·rw [if_neg c52] at H
                have c52b0 : decide (x118_1 < (l0.length : Int)) = false := decide_eq_false c52
                clear c52
                replace H := Option.bind_eq_some_iff.mp H
                obtain ⟨⟨t219, t220⟩, A750, H⟩ := H
                replace H : (if t220 = true then ((dom_Values.f k1 l0 t219).bind fun bt221 => (if bt221.2 = true then (if (bt221.1.length : Int) = (l0.length : Int) then (if a2 < 0 then (some false) else (if a2 ≥ (l0.length : Int) then (some false) else (parrylaw1_DomParts.l1 k1 a2 a3 t194 bt221.1 (bt221.1.length : Int) 0))) else (some false)) else (some false))) else (if t219 = 0 then (if a2 < 0 then ((parrylaw1_awake.f k1).bind fun t229 => (some t229)) else (if a2 ≥ (l0.length : Int) then ((parrylaw1_awake.f k1).bind fun t230 => (some t230)) else (if 0 ≤ a2 then (if a2 < (l0.length : Int) then (if a3 < ((rd_T28 l0 a2).f3) then ((parrylaw1_awake.f k1).bind fun t232 => (some t232)) else ((dom_Size.f ((rd_T28 l0 a2).f0) ((rd_T28 l0 a2).f1) ((rd_T28 l0 a2).f2) ((rd_T28 l0 a2).f3) ((rd_T28 l0 a2).f4)).bind fun t235 => (if a3 ≥ (wrap64 (((rd_T28 l0 a2).f3) + t235)) then ((parrylaw1_awake.f k1).bind fun t236 => (some t236)) else (some false)))) else (none)) else (none)))) else (some false))) = some r := H
                have A75 := Aside0.mk A750
                clear A750
                by_cases c76 : t220 = true
                ·subst c76
                 have H1 : ((dom_Values.f k1 l0 t219).bind fun bt221 => (if bt221.2 = true then (if (bt221.1.length : Int) = (l0.length : Int) then (if a2 < 0 then (some false) else (if a2 ≥ (l0.length : Int) then (some false) else (parrylaw1_DomParts.l1 k1 a2 a3 t194 bt221.1 (bt221.1.length : Int) 0))) else (some false)) else (some false))) = some r := by rw [if_pos rfl] at H; exact H
                 clear H
                 have H := H1
                 clear H1
                 replace H := Option.bind_eq_some_iff.mp H
                 obtain ⟨⟨t221, t222⟩, A770, H⟩ := H
                 replace H : (if t222 = true then (if (t221.length : Int) = (l0.length : Int) then (if a2 < 0 then (some false) else (if a2 ≥ (l0.length : Int) then (some false) else (parrylaw1_DomParts.l1 k1 a2 a3 t194 t221 (t221.length : Int) 0))) else (some false)) else (some false)) = some r := H
                 have A77 := Aside0.mk A770
                 clear A770
                 by_cases c78 : t222 = true
                 ·subst c78
                  have H1 : (if (t221.length : Int) = (l0.length : Int) then (if a2 < 0 then (some false) else (if a2 ≥ (l0.length : Int) then (some false) else (parrylaw1_DomParts.l1 k1 a2 a3 t194 t221 (t221.length : Int) 0))) else (some false)) = some r := by rw [if_pos rfl] at H; exact H
                  clear H
                  have H := H1
                  clear H1
                  by_cases c79 : (t221.length : Int) = (l0.length : Int)
                  ·rw [if_pos c79] at H
                   have c79b0 : ((t221.length : Int) == (l0.length : Int)) = true := beq_iff_eq.mpr c79
                   have c79b1 : ((t221.length : Int) != (l0.length : Int)) = false := bne_eq_false_iff_eq.mpr c79
                   have c79b2 : (t221.length == l0.length) = true := by first | simpa using c79 | (simp at c79 ⊢; omega)
                   clear c79
                   by_cases c80 : a2 < 0
                   ·rw [if_pos c80] at H
                    exact absurd ((Option.some.inj H).trans HRT.out) (by decide)
                   ·rw [if_neg c80] at H
                    have c80b0 : decide (a2 < 0) = false := decide_eq_false c80
                    clear c80
                    by_cases c81 : a2 ≥ (l0.length : Int)
                    ·rw [if_pos c81] at H
                     exact absurd ((Option.some.inj H).trans HRT.out) (by decide)
                    ·rw [if_neg c81] at H
                     have c81b0 : decide ((l0.length : Int) ≤ a2) = false := decide_eq_false c81
                     clear c81
                     have H' := Aside0.mk H
                     clear H
                     go_wp2_with (first | ((with_reducible refine gate_callee (f := 22) rfl ?_); refine goesL_ (some 176) rfl rfl Try.func22 (by kernel_rfl) rfl #[.slice A0 l0.length c0, .int .i64 (wrap64 (Int.tmod (IntKind.u64.wrap (a1)) (IntKind.u64.wrap (t193)))), .int .i64 a2, .int .i64 a3] rfl (by (try simp only [List.map_toArray, List.map_cons, List.map_nil]); first | done | rfl | (simp only [List.length_drop, List.length_take]; rfl)) ?_; (with_reducible refine (dom_With.calls k1 _ _ l0 (wrap64 (Int.tmod (IntKind.u64.wrap (a1)) (IntKind.u64.wrap (t193)))) a2 a3 t219 true _ ?side1 ?side2 A75.out).mono ?_); (case side1 => repeat (first | exact (Kd.C_below HR0.out HB.out) | (with_reducible refine Kd.C_alloc ?_ _) | (with_reducible refine Kd.C_drewN ?_ _) | (with_reducible refine Kd.C_drew ?_))); (case side2 => exact HC0.out); rintro e w82 ⟨rfl, hb⟩; refine ⟨_, rfl, ?_⟩; have n0_ := Aside0.mk (Kd.R_below (by (with_reducible repeat (first | apply Kd.R_alloc | apply Kd.R_drewN | apply Kd.R_drew)); exact HO_9.out) hb); have n1_ := Aside0.mk (Kd.R_below (by (with_reducible repeat (first | apply Kd.R_alloc | apply Kd.R_drewN | apply Kd.R_drew)); exact HO_13.out) hb); have n2_ := Aside0.mk (Kd.R_below (by (with_reducible repeat (first | apply Kd.R_alloc | apply Kd.R_drewN | apply Kd.R_drew)); exact HO_15.out) hb); have n3_ := Aside0.mk (below_step (by repeat (first | (with_reducible first | exact HB.out | apply below_alloc | apply pw_below_drewN | apply below_drew1) | exact HB.out)) hb); clear HO_9; clear HO_13; clear HO_15; clear HB; have HO_9 := n0_; have HO_13 := n1_; have HO_15 := n2_; have HB := n3_; clear n0_ n1_ n2_ n3_; (try clear hb); (try clear hb2); (try clear hk); (try clear hi)) | ((with_reducible refine gate_callee (f := 14) rfl ?_); refine goesL_ (some 223) rfl rfl Try.func14 (by kernel_rfl) rfl #[.slice A0 l0.length c0, .int .i64 t219] rfl (by (try simp only [List.map_toArray, List.map_cons, List.map_nil]); first | done | rfl | (simp only [List.length_drop, List.length_take]; rfl)) ?_; (with_reducible refine (dom_Values.calls k1 _ _ l0 t219 t221 true _ ?side1 ?side2 A77.out).mono ?_); (case side1 => repeat (first | exact (Kd.C_below HR0.out HB.out) | (with_reducible refine Kd.C_alloc ?_ _) | (with_reducible refine Kd.C_drewN ?_ _) | (with_reducible refine Kd.C_drew ?_))); (case side2 => exact HC0.out); rintro e w83 ⟨v223, rfl, ho0, hb⟩; refine ⟨_, rfl, ?_⟩; have n0_ := Aside0.mk (Kd.R_elder' (by (with_reducible repeat (first | apply Kd.R_alloc | apply Kd.R_drewN | apply Kd.R_drew)); exact HO_9.out) (Kd.R_base ho0) hb); have n1_ := Aside0.mk (Kd.R_elder' (by (with_reducible repeat (first | apply Kd.R_alloc | apply Kd.R_drewN | apply Kd.R_drew)); exact HO_13.out) (Kd.R_base ho0) hb); have n2_ := Aside0.mk (Kd.R_elder' (by (with_reducible repeat (first | apply Kd.R_alloc | apply Kd.R_drewN | apply Kd.R_drew)); exact HO_15.out) (Kd.R_base ho0) hb); have n3_ := Aside0.mk (Kd.R_lower (Kd.R_new' (Kd.R_new' (Kd.R_new' ho0 (Kd.R_lt (by (with_reducible repeat (first | apply Kd.R_alloc | apply Kd.R_drewN | apply Kd.R_drew)); exact HO_9.out))) (Kd.R_lt (by (with_reducible repeat (first | apply Kd.R_alloc | apply Kd.R_drewN | apply Kd.R_drew)); exact HO_13.out))) (Kd.R_lt (by (with_reducible repeat (first | apply Kd.R_alloc | apply Kd.R_drewN | apply Kd.R_drew)); exact HO_15.out))) (below_size (by repeat (first | (with_reducible first | exact HB.out | apply below_alloc | apply pw_below_drewN | apply below_drew1) | exact HB.out)))); have n4_ := Aside0.mk (below_step (by repeat (first | (with_reducible first | exact HB.out | apply below_alloc | apply pw_below_drewN | apply below_drew1) | exact HB.out)) hb); clear HO_9; clear HO_13; clear HO_15; clear HB; have HO_9 := n0_; have HO_13 := n1_; have HO_15 := n2_; have HO224 := n3_; have HB := n4_; clear n0_ n1_ n2_ n3_ n4_; (try clear hb); (try clear hb2); (try clear hk); (try clear hi); (try clear ho0); obtain ⟨Ao84, co84, eo84⟩ := Kd.R_slice HO224.out; subst eo84))
                     go_loopg [247] k1 (fun kq v247 w' => ∃ (x247_2 : Int), v247 = .int .i64 x247_2 ∧ Aside0 (parrylaw1_DomParts.l1 kq a2 a3 t194 t221 (t221.length : Int) x247_2 = some r) ∧ Aside0 (kq ≤ k1) ∧ Aside0 (Kd.R (Kd.int .i64) 3 w' w.heap.size (fun k_ => some k_ ≠ ((.slice Ao84 t221.length co84) : Value).ownBlock) (.slice Ao46 t194.length co46) t194) ∧ Aside0 (Kd.R (Kd.int .i64) 3 w' w.heap.size (fun k_ => some k_ ≠ ((.slice Ao46 t194.length co46) : Value).ownBlock) (.slice Ao84 t221.length co84) t221) ∧ Aside0 (Below w.heap.size w w'))
                     case atStart => exact ⟨(0), (by first | rfl | (simp; done) | (simp [*]; done)), H', ⟨Nat.le_refl _⟩, ⟨by (with_reducible repeat (first | apply Kd.R_alloc | apply Kd.R_drewN | apply Kd.R_drew)); exact Kd.R_mono HO_9.out (fun _ hk => hk.2)⟩, ⟨by (with_reducible repeat (first | apply Kd.R_alloc | apply Kd.R_drewN | apply Kd.R_drew)); exact Kd.R_mono HO224.out (fun _ hk => hk.1.1.2)⟩, ⟨by repeat (first | (with_reducible first | exact HB.out | apply below_alloc | apply pw_below_drewN | apply below_drew1) | exact HB.out)⟩⟩
                     case round =>
                      clear H'
                      try clear c1
                      try clear c2
                      try clear p2
                      try clear q2
                      try clear hx2
                      try clear c5
                      try clear q5
                      try clear c6
                      try clear p6
                      try clear c7
                      try clear c8
                      try clear c14
                      try clear p21
                      try clear q21
                      try clear hx21
                      try clear c22
                      try clear c52
                      try clear c52b0
                      try clear c53
                      try clear c54
                      try clear q55
                      try clear c56
                      try clear c57
                      try clear c58
                      try clear c59
                      try clear c59b0
                      try clear c59b1
                      try clear c60
                      try clear c61
                      try clear c61b0
                      try clear c61b1
                      try clear p64
                      try clear c66
                      try clear c66b0
                      try clear c67
                      try clear c67b0
                      try clear c68
                      try clear c68b0
                      try clear c68b1
                      try clear c69
                      try clear c69b0
                      try clear c70
                      try clear c70b0
                      try clear c70b1
                      try clear c76
                      try clear c78
                      try clear c79
                      try clear c79b0
                      try clear c79b1
                      try clear c79b2
                      try clear c80
                      try clear c80b0
                      try clear c81
                      try clear c81b0
                      try clear hcz72_0
                      try clear hcz72_1
                      try clear hcz72_2
                      try clear hcz72_3
                      try clear hcz72_4
                      try clear hfz72_0
                      try clear hfz72_1
                      try clear hfz72_2
                      try clear hfz72_3
                      try clear hfz72_4
                      try clear hx211_0
                      try clear hx211_1
                      try clear hx211_2
                      try clear hx211_3
                      try clear hx211_4
                      try clear hx216_0
                      try clear hx217_0
                      try clear hx218_0
                      try clear p211
                      try clear p216
                      try clear p217
                      try clear p218
                      try clear q211
                      try clear q216
                      try clear q217
                      try clear q218
                      obtain ⟨x247_2, rfl, HA, HK2, HO_9, HO_21, HB⟩ := hrel
                      cases gk with
                      | zero => exact absurd HA.out (by simp [parrylaw1_DomParts.l1])
                      | succ k2 =>
                       have H := HA.out
                       clear HA
                       simp only [parrylaw1_DomParts.l1] at H
                       by_cases c85 : x247_2 < (t221.length : Int)
                       ·rw [if_pos c85] at H
                        have c85b0 : decide (x247_2 < (t221.length : Int)) = true := decide_eq_true c85
                        clear c85
                        by_cases c86 : x247_2 = a2
                        ·rw [if_pos c86] at H
                         have c86b0 : (x247_2 == a2) = true := beq_iff_eq.mpr c86
                         have c86b1 : (x247_2 != a2) = false := bne_eq_false_iff_eq.mpr c86
                         clear c86
                         by_cases c87 : 0 ≤ x247_2
                         ·rw [if_pos c87] at H
                          have c87b0 : decide (0 ≤ x247_2) = true := decide_eq_true c87
                          clear c87
                          by_cases c88 : x247_2 < (t221.length : Int)
                          ·rw [if_pos c88] at H
                           have c88b0 : decide (x247_2 < (t221.length : Int)) = true := decide_eq_true c88
                           clear c88
                           by_cases c89 : (rd t221 x247_2) = a3
                           ·rw [if_pos c89] at H
                            have c89b0 : ((rd t221 x247_2) == a3) = true := beq_iff_eq.mpr c89
                            have c89b1 : ((rd t221 x247_2) != a3) = false := bne_eq_false_iff_eq.mpr c89
                            clear c89
                            have H' := Aside0.mk H
                            clear H
                            try go_wp2
                            have n0_ := Aside0.mk (Kd.R_drew HO_9.out)
                            have n1_ := Aside0.mk (Kd.R_drew HO_21.out)
                            have n2_ := Aside0.mk (below_drew1 HB.out)
                            clear HO_9
                            clear HO_21
                            clear HB
                            have HO_9 := n0_
                            have HO_21 := n1_
                            have HB := n2_
                            clear n0_ n1_ n2_
                            have p225 : 0 ≤ (x247_2 : Int) := of_decide_eq_true (by first | (with_reducible assumption) | assumption)
                            have q225 : x247_2 < (t221.length : Int) := of_decide_eq_true (by first | (with_reducible assumption) | assumption)
                            obtain ⟨ad225, e225, hx225_0⟩ := Kd.at_int (Kd.R_reads' HO_21.out).2.2 x247_2 p225 q225
                            cases e225
                            replace p225 := eq_true p225
                            replace q225 := eq_true q225
                            refine start_ (n := 27) (S := fun w' => w'.cell? (ad225.add (x247_2).toNat) = some (.int .i64 (rd t221 x247_2))) (ds := []) Mk27_56_ (by kernel_rfl) rfl rfl (hx225_0) (fun hHeld => ?_); refine with_tabW parrylaw1_DomParts.tab25 parrylaw1_DomParts.bits25 (fun HT_ HW_ => ?_)
                            generalize wr.drew = w90 at HO_9 HO_21 HB hx225_0 hHeld ⊢
                            refine pure_ (i := 0) (N := some 250) (v := ?_) (a' := ?_) Mk27_57_ rfl rfl (any_of HT_.out (by kernel_rfl)) (fun _ _ _ h => h) (Or.inl ⟨by rfl, ?_⟩) ?_ ?_; rotate_left; intro w'; go_simp; with_reducible rfl; rotate_left; simp only [Act.put, List.setIfInBounds_toArray, List.set_cons_zero, List.set_cons_succ, i64_w, i32_w]; rfl
                            refine pure_ (i := 1) (N := some 251) (v := ?_) (a' := ?_) Mk27_58_ rfl rfl (any_of HT_.out (by kernel_rfl)) (fun _ _ _ h => h) (Or.inl ⟨by rfl, ?_⟩) ?_ ?_; rotate_left; intro w'; go_simp; with_reducible rfl; rotate_left; simp only [Act.put, List.setIfInBounds_toArray, List.set_cons_zero, List.set_cons_succ, i64_w, i32_w]; rfl
                            refine pure_ (i := 2) (N := some 252) (v := ?_) (a' := ?_) Mk27_59_ rfl rfl (any_of HT_.out (by kernel_rfl)) (fun _ _ _ h => h) (Or.inl ⟨by rfl, ?_⟩) ?_ ?_; rotate_left; intro w'; go_simp; with_reducible rfl; rotate_left; simp only [Act.put, List.setIfInBounds_toArray, List.set_cons_zero, List.set_cons_succ, i64_w, i32_w]; rfl
                            refine pure_ (i := 3) (N := some 253) (v := ?_) (a' := ?_) Mk27_60_ rfl rfl (any_of HT_.out (by kernel_rfl)) (fun _ _ _ h => h) (Or.inl ⟨by rfl, ?_⟩) ?_ ?_; rotate_left; intro w'; go_simp; with_reducible rfl; rotate_left; simp only [Act.put, List.setIfInBounds_toArray, List.set_cons_zero, List.set_cons_succ, i64_w, i32_w]; rfl
                            refine pure_ (i := 4) (N := some 254) (v := ?_) (a' := ?_) Mk27_61_ rfl rfl (any_of HT_.out (by kernel_rfl)) (fun _ _ _ h => h) (Or.inl ⟨by rfl, ?_⟩) ?_ ?_; rotate_left; intro w'; go_simp; with_reducible rfl; rotate_left; simp only [Act.put, List.setIfInBounds_toArray, List.set_cons_zero, List.set_cons_succ, i64_w, i32_w]; rfl
                            refine pure_ (i := 5) (N := some 255) (v := ?_) (a' := ?_) Mk27_62_ rfl rfl (any_of HT_.out (by kernel_rfl)) (fun _ _ _ h => h) (Or.inl ⟨by rfl, ?_⟩) ?_ ?_; rotate_left; intro w'; go_simp; with_reducible rfl; rotate_left; simp only [Act.put, List.setIfInBounds_toArray, List.set_cons_zero, List.set_cons_succ, i64_w, i32_w]; rfl
                            refine pure_ (i := 6) (N := some 256) (v := ?_) (a' := ?_) Mk27_63_ rfl rfl (any_of HT_.out (by kernel_rfl)) (fun _ _ _ h => h) (Or.inl ⟨by rfl, ?_⟩) ?_ ?_; rotate_left; intro w'; go_simp; with_reducible rfl; rotate_left; simp only [Act.put, List.setIfInBounds_toArray, List.set_cons_zero, List.set_cons_succ, i64_w, i32_w]; rfl
                            refine pure_ (i := 8) (N := some 258) (v := ?_) (a' := ?_) Mk27_64_ rfl rfl (any_of HT_.out (by kernel_rfl)) (fun _ _ _ h => h) (Or.inl ⟨by rfl, ?_⟩) ?_ ?_; rotate_left; intro w'; go_simp; with_reducible rfl; rotate_left; simp only [Act.put, List.setIfInBounds_toArray, List.set_cons_zero, List.set_cons_succ, i64_w, i32_w]; rfl
                            refine take_ (i := 7) (N := some 257) (v := ?_) (a' := ?_) Mk27_65_ rfl rfl (take_ofW HT_.out HW_.out (by kernel_rfl)) (fun _ _ _ h => h) (Or.inl ⟨by rfl, ?_⟩) hHeld ?_ ?_
                            rotate_left
                            ·intro w' s0
                             go_simp
                             with_reducible rfl
                            rotate_left
                            ·simp only [Act.put, List.setIfInBounds_toArray, List.set_cons_zero, List.set_cons_succ, i64_w, i32_w]
                             rfl
                            refine pure_ (i := 9) (N := some 259) (v := ?_) (a' := ?_) Mk27_66_ rfl rfl (any_of HT_.out (by kernel_rfl)) (fun _ _ _ h => h) (Or.inl ⟨by rfl, ?_⟩) ?_ ?_; rotate_left; intro w'; go_simp; with_reducible rfl; rotate_left; simp only [Act.put, List.setIfInBounds_toArray, List.set_cons_zero, List.set_cons_succ, i64_w, i32_w]; rfl
                            refine pure_ (i := 10) (N := some 260) (v := ?_) (a' := ?_) Mk27_67_ rfl rfl (any_of HT_.out (by kernel_rfl)) (fun _ _ _ h => h) (Or.inl ⟨by rfl, ?_⟩) ?_ ?_; rotate_left; intro w'; go_simp; with_reducible rfl; rotate_left; simp only [Act.put, List.setIfInBounds_toArray, List.set_cons_zero, List.set_cons_succ, i64_w, i32_w]; rfl
                            refine pure_ (i := 11) (N := some 261) (v := ?_) (a' := ?_) Mk27_68_ rfl rfl (any_of HT_.out (by kernel_rfl)) (fun _ _ _ h => h) (Or.inl ⟨by rfl, ?_⟩) ?_ ?_; rotate_left; intro w'; go_simp; with_reducible rfl; rotate_left; simp only [Act.put, List.setIfInBounds_toArray, List.set_cons_zero, List.set_cons_succ, i64_w, i32_w]; rfl
                            refine pure_ (i := 12) (N := some 262) (v := ?_) (a' := ?_) Mk27_69_ rfl rfl (any_of HT_.out (by kernel_rfl)) (fun _ _ _ h => h) (Or.inl ⟨by rfl, ?_⟩) ?_ ?_; rotate_left; intro w'; go_simp; with_reducible rfl; rotate_left; simp only [Act.put, List.setIfInBounds_toArray, List.set_cons_zero, List.set_cons_succ, i64_w, i32_w]; rfl
                            refine pure_ (i := 13) (N := some 263) (v := ?_) (a' := ?_) Mk27_70_ rfl rfl (any_of HT_.out (by kernel_rfl)) (fun _ _ _ h => h) (Or.inl ⟨by rfl, ?_⟩) ?_ ?_; rotate_left; intro w'; go_simp; with_reducible rfl; rotate_left; simp only [Act.put, List.setIfInBounds_toArray, List.set_cons_zero, List.set_cons_succ, i64_w, i32_w]; rfl
                            refine pure_ (i := 14) (N := some 264) (v := ?_) (a' := ?_) Mk27_71_ rfl rfl (any_of HT_.out (by kernel_rfl)) (fun _ _ _ h => h) (Or.inl ⟨by rfl, ?_⟩) ?_ ?_; rotate_left; intro w'; go_simp; with_reducible rfl; rotate_left; simp only [Act.put, List.setIfInBounds_toArray, List.set_cons_zero, List.set_cons_succ, i64_w, i32_w]; rfl
                            refine pure_ (i := 15) (N := some 265) (v := ?_) (a' := ?_) Mk27_72_ rfl rfl (any_of HT_.out (by kernel_rfl)) (fun _ _ _ h => h) (Or.inl ⟨by rfl, ?_⟩) ?_ ?_; rotate_left; intro w'; go_simp; with_reducible rfl; rotate_left; simp only [Act.put, List.setIfInBounds_toArray, List.set_cons_zero, List.set_cons_succ, i64_w, i32_w]; rfl
                            refine pure_ (i := 16) (N := some 266) (v := undef) (a' := ?_) Mk27_73_ rfl rfl (any_of HT_.out (by kernel_rfl)) (fun _ _ _ h => h) (Or.inr ⟨by rfl, rfl⟩) ?_ ?_
                            rotate_left
                            ·simp only [Act.put, List.setIfInBounds_toArray, List.set_cons_zero, List.set_cons_succ, i64_w, i32_w]
                             rfl
                            refine pure_ (i := 17) (N := some 267) (v := undef) (a' := ?_) Mk27_74_ rfl rfl (any_of HT_.out (by kernel_rfl)) (fun _ _ _ h => h) (Or.inr ⟨by rfl, rfl⟩) ?_ ?_
                            rotate_left
                            ·simp only [Act.put, List.setIfInBounds_toArray, List.set_cons_zero, List.set_cons_succ, i64_w, i32_w]
                             rfl
                            refine pure_ (i := 18) (N := some 268) (v := undef) (a' := ?_) Mk27_75_ rfl rfl (any_of HT_.out (by kernel_rfl)) (fun _ _ _ h => h) (Or.inr ⟨by rfl, rfl⟩) ?_ ?_
                            rotate_left
                            ·simp only [Act.put, List.setIfInBounds_toArray, List.set_cons_zero, List.set_cons_succ, i64_w, i32_w]
                             rfl
                            refine pure_ (i := 19) (N := some 269) (v := undef) (a' := ?_) Mk27_76_ rfl rfl (any_of HT_.out (by kernel_rfl)) (fun _ _ _ h => h) (Or.inr ⟨by rfl, rfl⟩) ?_ ?_
                            rotate_left
                            ·simp only [Act.put, List.setIfInBounds_toArray, List.set_cons_zero, List.set_cons_succ, i64_w, i32_w]
                             rfl
                            refine pure_ (i := 20) (N := some 270) (v := undef) (a' := ?_) Mk27_77_ rfl rfl (any_of HT_.out (by kernel_rfl)) (fun _ _ _ h => h) (Or.inr ⟨by rfl, rfl⟩) ?_ ?_
                            rotate_left
                            ·simp only [Act.put, List.setIfInBounds_toArray, List.set_cons_zero, List.set_cons_succ, i64_w, i32_w]
                             rfl
                            refine pure_ (i := 21) (N := some 271) (v := undef) (a' := ?_) Mk27_78_ rfl rfl (any_of HT_.out (by kernel_rfl)) (fun _ _ _ h => h) (Or.inr ⟨by rfl, rfl⟩) ?_ ?_
                            rotate_left
                            ·simp only [Act.put, List.setIfInBounds_toArray, List.set_cons_zero, List.set_cons_succ, i64_w, i32_w]
                             rfl
                            refine pure_ (i := 22) (N := some 272) (v := undef) (a' := ?_) Mk27_79_ rfl rfl (any_of HT_.out (by kernel_rfl)) (fun _ _ _ h => h) (Or.inr ⟨by rfl, rfl⟩) ?_ ?_
                            rotate_left
                            ·simp only [Act.put, List.setIfInBounds_toArray, List.set_cons_zero, List.set_cons_succ, i64_w, i32_w]
                             rfl
                            refine pure_ (i := 23) (N := some 273) (v := undef) (a' := ?_) Mk27_80_ rfl rfl (any_of HT_.out (by kernel_rfl)) (fun _ _ _ h => h) (Or.inr ⟨by rfl, rfl⟩) ?_ ?_
                            rotate_left
                            ·simp only [Act.put, List.setIfInBounds_toArray, List.set_cons_zero, List.set_cons_succ, i64_w, i32_w]
                             rfl
                            refine pure_ (i := 24) (N := some 274) (v := undef) (a' := ?_) Mk27_81_ rfl rfl (any_of HT_.out (by kernel_rfl)) (fun _ _ _ h => h) (Or.inr ⟨by rfl, rfl⟩) ?_ ?_
                            rotate_left
                            ·simp only [Act.put, List.setIfInBounds_toArray, List.set_cons_zero, List.set_cons_succ, i64_w, i32_w]
                             rfl
                            refine pure_ (i := 25) (N := some 275) (v := ?_) (a' := ?_) Mk27_82_ rfl rfl (any_of HT_.out (by kernel_rfl)) (fun _ _ _ h => h) (Or.inl ⟨by rfl, ?_⟩) ?_ ?_; rotate_left; intro w'; go_simp; with_reducible rfl; rotate_left; simp only [Act.put, List.setIfInBounds_toArray, List.set_cons_zero, List.set_cons_succ, i64_w, i32_w]; rfl
                            refine pure_ (i := 26) (N := some 276) (v := ?_) (a' := ?_) Mk27_83_ rfl rfl (any_of HT_.out (by kernel_rfl)) (fun _ _ _ h => h) (Or.inl ⟨by rfl, ?_⟩) ?_ ?_; rotate_left; intro w'; go_simp; with_reducible rfl; rotate_left; simp only [Act.put, List.setIfInBounds_toArray, List.set_cons_zero, List.set_cons_succ, i64_w, i32_w]; rfl
                            refine done_ (done_of HT_.out (by kernel_rfl)) ?_
                            try go_wp2
                            go_roundg k2
                            case measure => have := HK1.out; have := HK2.out; omega
                            case rel => exact ⟨(wrap64 (x247_2 + 1)), (by first | rfl | (simp; done) | (simp [*]; done)), H', ⟨by have := HK1.out; have := HK2.out; omega⟩, ⟨by (with_reducible repeat (first | apply Kd.R_alloc | apply Kd.R_drewN | apply Kd.R_drew)); exact HO_9.out⟩, ⟨by (with_reducible repeat (first | apply Kd.R_alloc | apply Kd.R_drewN | apply Kd.R_drew)); exact HO_21.out⟩, ⟨by repeat (first | (with_reducible first | exact HB.out | apply below_alloc | apply pw_below_drewN | apply below_drew1) | exact HB.out)⟩⟩
                           ·rw [if_neg c89] at H
                            have c89b0 : ((rd t221 x247_2) == a3) = false := beq_eq_false_iff_ne.mpr c89
                            have c89b1 : ((rd t221 x247_2) != a3) = true := bne_iff_ne.mpr c89
                            exact absurd ((Option.some.inj H).trans HRT.out) (by decide)
                          ·rw [if_neg c88] at H
                           exact absurd H (by simp)
                         ·rw [if_neg c87] at H
                          exact absurd H (by simp)
                        ·rw [if_neg c86] at H
                         have c86b0 : (x247_2 == a2) = false := beq_eq_false_iff_ne.mpr c86
                         have c86b1 : (x247_2 != a2) = true := bne_iff_ne.mpr c86
                         by_cases c91 : 0 ≤ x247_2
                         ·rw [if_pos c91] at H
                          have c91b0 : decide (0 ≤ x247_2) = true := decide_eq_true c91
                          clear c91
                          by_cases c92 : x247_2 < (t221.length : Int)
                          ·rw [if_pos c92] at H
                           have c92b0 : decide (x247_2 < (t221.length : Int)) = true := decide_eq_true c92
                           clear c92
                           by_cases c93 : x247_2 < (t194.length : Int)
                           ·rw [if_pos c93] at H
                            have c93b0 : decide (x247_2 < (t194.length : Int)) = true := decide_eq_true c93
                            clear c93
                            by_cases c94 : (rd t221 x247_2) = (rd t194 x247_2)
                            ·rw [if_pos c94] at H
                             have c94b0 : ((rd t221 x247_2) == (rd t194 x247_2)) = true := beq_iff_eq.mpr c94
                             have c94b1 : ((rd t221 x247_2) != (rd t194 x247_2)) = false := bne_eq_false_iff_eq.mpr c94
                             clear c94
                             have H' := Aside0.mk H
                             clear H
                             try go_wp2
                             have n0_ := Aside0.mk (Kd.R_drew HO_9.out)
                             have n1_ := Aside0.mk (Kd.R_drew HO_21.out)
                             have n2_ := Aside0.mk (below_drew1 HB.out)
                             clear HO_9
                             clear HO_21
                             clear HB
                             have HO_9 := n0_
                             have HO_21 := n1_
                             have HB := n2_
                             clear n0_ n1_ n2_
                             have p226 : 0 ≤ (x247_2 : Int) := of_decide_eq_true (by first | (with_reducible assumption) | assumption)
                             have q226 : x247_2 < (t221.length : Int) := of_decide_eq_true (by first | (with_reducible assumption) | assumption)
                             obtain ⟨ad226, e226, hx226_0⟩ := Kd.at_int (Kd.R_reads' HO_21.out).2.2 x247_2 p226 q226
                             cases e226
                             replace p226 := eq_true p226
                             replace q226 := eq_true q226
                             have p227 : 0 ≤ (x247_2 : Int) := of_decide_eq_true (by first | (with_reducible assumption) | assumption)
                             have q227 : x247_2 < (t194.length : Int) := of_decide_eq_true (by first | (with_reducible assumption) | assumption)
                             obtain ⟨ad227, e227, hx227_0⟩ := Kd.at_int (Kd.R_reads' HO_9.out).2.2 x247_2 p227 q227
                             cases e227
                             replace p227 := eq_true p227
                             replace q227 := eq_true q227
                             refine start_ (n := 27) (S := fun w' => w'.cell? (ad226.add (x247_2).toNat) = some (.int .i64 (rd t221 x247_2)) ∧ w'.cell? (ad227.add (x247_2).toNat) = some (.int .i64 (rd t194 x247_2))) (ds := []) Mk27_56_ (by kernel_rfl) rfl rfl ⟨hx226_0, hx227_0⟩ (fun hHeld => ?_); refine with_tabW parrylaw1_DomParts.tab25 parrylaw1_DomParts.bits25 (fun HT_ HW_ => ?_)
                             generalize wr.drew = w95 at HO_9 HO_21 HB hx226_0 hx227_0 hHeld ⊢
                             refine pure_ (i := 0) (N := some 250) (v := ?_) (a' := ?_) Mk27_57_ rfl rfl (any_of HT_.out (by kernel_rfl)) (fun _ _ _ h => h) (Or.inl ⟨by rfl, ?_⟩) ?_ ?_; rotate_left; intro w'; go_simp; with_reducible rfl; rotate_left; simp only [Act.put, List.setIfInBounds_toArray, List.set_cons_zero, List.set_cons_succ, i64_w, i32_w]; rfl
                             refine pure_ (i := 1) (N := some 251) (v := ?_) (a' := ?_) Mk27_58_ rfl rfl (any_of HT_.out (by kernel_rfl)) (fun _ _ _ h => h) (Or.inl ⟨by rfl, ?_⟩) ?_ ?_; rotate_left; intro w'; go_simp; with_reducible rfl; rotate_left; simp only [Act.put, List.setIfInBounds_toArray, List.set_cons_zero, List.set_cons_succ, i64_w, i32_w]; rfl
                             refine pure_ (i := 2) (N := some 252) (v := ?_) (a' := ?_) Mk27_59_ rfl rfl (any_of HT_.out (by kernel_rfl)) (fun _ _ _ h => h) (Or.inl ⟨by rfl, ?_⟩) ?_ ?_; rotate_left; intro w'; go_simp; with_reducible rfl; rotate_left; simp only [Act.put, List.setIfInBounds_toArray, List.set_cons_zero, List.set_cons_succ, i64_w, i32_w]; rfl
                             refine pure_ (i := 3) (N := some 253) (v := ?_) (a' := ?_) Mk27_60_ rfl rfl (any_of HT_.out (by kernel_rfl)) (fun _ _ _ h => h) (Or.inl ⟨by rfl, ?_⟩) ?_ ?_; rotate_left; intro w'; go_simp; with_reducible rfl; rotate_left; simp only [Act.put, List.setIfInBounds_toArray, List.set_cons_zero, List.set_cons_succ, i64_w, i32_w]; rfl
                             refine pure_ (i := 4) (N := some 254) (v := undef) (a' := ?_) Mk27_61_ rfl rfl (any_of HT_.out (by kernel_rfl)) (fun _ _ _ h => h) (Or.inr ⟨by rfl, rfl⟩) ?_ ?_
                             rotate_left
                             ·simp only [Act.put, List.setIfInBounds_toArray, List.set_cons_zero, List.set_cons_succ, i64_w, i32_w]
                              rfl
                             refine pure_ (i := 5) (N := some 255) (v := undef) (a' := ?_) Mk27_62_ rfl rfl (any_of HT_.out (by kernel_rfl)) (fun _ _ _ h => h) (Or.inr ⟨by rfl, rfl⟩) ?_ ?_
                             rotate_left
                             ·simp only [Act.put, List.setIfInBounds_toArray, List.set_cons_zero, List.set_cons_succ, i64_w, i32_w]
                              rfl
                             refine pure_ (i := 6) (N := some 256) (v := undef) (a' := ?_) Mk27_63_ rfl rfl (any_of HT_.out (by kernel_rfl)) (fun _ _ _ h => h) (Or.inr ⟨by rfl, rfl⟩) ?_ ?_
                             rotate_left
                             ·simp only [Act.put, List.setIfInBounds_toArray, List.set_cons_zero, List.set_cons_succ, i64_w, i32_w]
                              rfl
                             refine pure_ (i := 7) (N := some 257) (v := undef) (a' := ?_) Mk27_84_ rfl rfl (any_of HT_.out (by kernel_rfl)) (fun _ _ _ h => h) (Or.inr ⟨by rfl, rfl⟩) ?_ ?_
                             rotate_left
                             ·simp only [Act.put, List.setIfInBounds_toArray, List.set_cons_zero, List.set_cons_succ, i64_w, i32_w]
                              rfl
                             refine pure_ (i := 8) (N := some 258) (v := undef) (a' := ?_) Mk27_65_ rfl rfl (any_of HT_.out (by kernel_rfl)) (fun _ _ _ h => h) (Or.inr ⟨by rfl, rfl⟩) ?_ ?_
                             rotate_left
                             ·simp only [Act.put, List.setIfInBounds_toArray, List.set_cons_zero, List.set_cons_succ, i64_w, i32_w]
                              rfl
                             refine pure_ (i := 9) (N := some 259) (v := undef) (a' := ?_) Mk27_66_ rfl rfl (any_of HT_.out (by kernel_rfl)) (fun _ _ _ h => h) (Or.inr ⟨by rfl, rfl⟩) ?_ ?_
                             rotate_left
                             ·simp only [Act.put, List.setIfInBounds_toArray, List.set_cons_zero, List.set_cons_succ, i64_w, i32_w]
                              rfl
                             refine pure_ (i := 10) (N := some 260) (v := ?_) (a' := ?_) Mk27_67_ rfl rfl (any_of HT_.out (by kernel_rfl)) (fun _ _ _ h => h) (Or.inl ⟨by rfl, ?_⟩) ?_ ?_; rotate_left; intro w'; go_simp; with_reducible rfl; rotate_left; simp only [Act.put, List.setIfInBounds_toArray, List.set_cons_zero, List.set_cons_succ, i64_w, i32_w]; rfl
                             refine pure_ (i := 11) (N := some 261) (v := ?_) (a' := ?_) Mk27_68_ rfl rfl (any_of HT_.out (by kernel_rfl)) (fun _ _ _ h => h) (Or.inl ⟨by rfl, ?_⟩) ?_ ?_; rotate_left; intro w'; go_simp; with_reducible rfl; rotate_left; simp only [Act.put, List.setIfInBounds_toArray, List.set_cons_zero, List.set_cons_succ, i64_w, i32_w]; rfl
                             refine pure_ (i := 12) (N := some 262) (v := ?_) (a' := ?_) Mk27_69_ rfl rfl (any_of HT_.out (by kernel_rfl)) (fun _ _ _ h => h) (Or.inl ⟨by rfl, ?_⟩) ?_ ?_; rotate_left; intro w'; go_simp; with_reducible rfl; rotate_left; simp only [Act.put, List.setIfInBounds_toArray, List.set_cons_zero, List.set_cons_succ, i64_w, i32_w]; rfl
                             refine pure_ (i := 13) (N := some 263) (v := ?_) (a' := ?_) Mk27_70_ rfl rfl (any_of HT_.out (by kernel_rfl)) (fun _ _ _ h => h) (Or.inl ⟨by rfl, ?_⟩) ?_ ?_; rotate_left; intro w'; go_simp; with_reducible rfl; rotate_left; simp only [Act.put, List.setIfInBounds_toArray, List.set_cons_zero, List.set_cons_succ, i64_w, i32_w]; rfl
                             refine pure_ (i := 14) (N := some 264) (v := ?_) (a' := ?_) Mk27_71_ rfl rfl (any_of HT_.out (by kernel_rfl)) (fun _ _ _ h => h) (Or.inl ⟨by rfl, ?_⟩) ?_ ?_; rotate_left; intro w'; go_simp; with_reducible rfl; rotate_left; simp only [Act.put, List.setIfInBounds_toArray, List.set_cons_zero, List.set_cons_succ, i64_w, i32_w]; rfl
                             refine pure_ (i := 15) (N := some 265) (v := ?_) (a' := ?_) Mk27_72_ rfl rfl (any_of HT_.out (by kernel_rfl)) (fun _ _ _ h => h) (Or.inl ⟨by rfl, ?_⟩) ?_ ?_; rotate_left; intro w'; go_simp; with_reducible rfl; rotate_left; simp only [Act.put, List.setIfInBounds_toArray, List.set_cons_zero, List.set_cons_succ, i64_w, i32_w]; rfl
                             refine pure_ (i := 16) (N := some 266) (v := ?_) (a' := ?_) Mk27_73_ rfl rfl (any_of HT_.out (by kernel_rfl)) (fun _ _ _ h => h) (Or.inl ⟨by rfl, ?_⟩) ?_ ?_; rotate_left; intro w'; go_simp; with_reducible rfl; rotate_left; simp only [Act.put, List.setIfInBounds_toArray, List.set_cons_zero, List.set_cons_succ, i64_w, i32_w]; rfl
                             refine pure_ (i := 17) (N := some 267) (v := ?_) (a' := ?_) Mk27_74_ rfl rfl (any_of HT_.out (by kernel_rfl)) (fun _ _ _ h => h) (Or.inl ⟨by rfl, ?_⟩) ?_ ?_; rotate_left; intro w'; go_simp; with_reducible rfl; rotate_left; simp only [Act.put, List.setIfInBounds_toArray, List.set_cons_zero, List.set_cons_succ, i64_w, i32_w]; rfl
                             refine pure_ (i := 18) (N := some 268) (v := ?_) (a' := ?_) Mk27_75_ rfl rfl (any_of HT_.out (by kernel_rfl)) (fun _ _ _ h => h) (Or.inl ⟨by rfl, ?_⟩) ?_ ?_; rotate_left; intro w'; go_simp; with_reducible rfl; rotate_left; simp only [Act.put, List.setIfInBounds_toArray, List.set_cons_zero, List.set_cons_succ, i64_w, i32_w]; rfl
                             refine pure_ (i := 20) (N := some 270) (v := ?_) (a' := ?_) Mk27_85_ rfl rfl (any_of HT_.out (by kernel_rfl)) (fun _ _ _ h => h) (Or.inl ⟨by rfl, ?_⟩) ?_ ?_; rotate_left; intro w'; go_simp; with_reducible rfl; rotate_left; simp only [Act.put, List.setIfInBounds_toArray, List.set_cons_zero, List.set_cons_succ, i64_w, i32_w]; rfl
                             refine pure_ (i := 21) (N := some 271) (v := ?_) (a' := ?_) Mk27_86_ rfl rfl (any_of HT_.out (by kernel_rfl)) (fun _ _ _ h => h) (Or.inl ⟨by rfl, ?_⟩) ?_ ?_; rotate_left; intro w'; go_simp; with_reducible rfl; rotate_left; simp only [Act.put, List.setIfInBounds_toArray, List.set_cons_zero, List.set_cons_succ, i64_w, i32_w]; rfl
                             refine pure_ (i := 22) (N := some 272) (v := ?_) (a' := ?_) Mk27_87_ rfl rfl (any_of HT_.out (by kernel_rfl)) (fun _ _ _ h => h) (Or.inl ⟨by rfl, ?_⟩) ?_ ?_; rotate_left; intro w'; go_simp; with_reducible rfl; rotate_left; simp only [Act.put, List.setIfInBounds_toArray, List.set_cons_zero, List.set_cons_succ, i64_w, i32_w]; rfl
                             refine take_ (i := 19) (N := some 269) (v := ?_) (a' := ?_) Mk27_79_ rfl rfl (take_ofW HT_.out HW_.out (by kernel_rfl)) (fun _ _ _ h => h) (Or.inl ⟨by rfl, ?_⟩) hHeld ?_ ?_
                             rotate_left
                             ·rintro w' ⟨s0, s1⟩
                              go_simp
                              with_reducible rfl
                             rotate_left
                             ·simp only [Act.put, List.setIfInBounds_toArray, List.set_cons_zero, List.set_cons_succ, i64_w, i32_w]
                              rfl
                             refine take_ (i := 23) (N := some 273) (v := ?_) (a' := ?_) Mk27_80_ rfl rfl (take_ofW HT_.out HW_.out (by kernel_rfl)) (fun _ _ _ h => h) (Or.inl ⟨by rfl, ?_⟩) hHeld ?_ ?_
                             rotate_left
                             ·rintro w' ⟨s0, s1⟩
                              go_simp
                              with_reducible rfl
                             rotate_left
                             ·simp only [Act.put, List.setIfInBounds_toArray, List.set_cons_zero, List.set_cons_succ, i64_w, i32_w]
                              rfl
                             refine pure_ (i := 24) (N := some 274) (v := ?_) (a' := ?_) Mk27_81_ rfl rfl (any_of HT_.out (by kernel_rfl)) (fun _ _ _ h => h) (Or.inl ⟨by rfl, ?_⟩) ?_ ?_; rotate_left; intro w'; go_simp; with_reducible rfl; rotate_left; simp only [Act.put, List.setIfInBounds_toArray, List.set_cons_zero, List.set_cons_succ, i64_w, i32_w]; rfl
                             refine pure_ (i := 25) (N := some 275) (v := ?_) (a' := ?_) Mk27_82_ rfl rfl (any_of HT_.out (by kernel_rfl)) (fun _ _ _ h => h) (Or.inl ⟨by rfl, ?_⟩) ?_ ?_; rotate_left; intro w'; go_simp; with_reducible rfl; rotate_left; simp only [Act.put, List.setIfInBounds_toArray, List.set_cons_zero, List.set_cons_succ, i64_w, i32_w]; rfl
                             refine pure_ (i := 26) (N := some 276) (v := ?_) (a' := ?_) Mk27_83_ rfl rfl (any_of HT_.out (by kernel_rfl)) (fun _ _ _ h => h) (Or.inl ⟨by rfl, ?_⟩) ?_ ?_; rotate_left; intro w'; go_simp; with_reducible rfl; rotate_left; simp only [Act.put, List.setIfInBounds_toArray, List.set_cons_zero, List.set_cons_succ, i64_w, i32_w]; rfl
                             refine done_ (done_of HT_.out (by kernel_rfl)) ?_
                             try go_wp2
                             go_roundg k2
                             case measure => have := HK1.out; have := HK2.out; omega
                             case rel => exact ⟨(wrap64 (x247_2 + 1)), (by first | rfl | (simp; done) | (simp [*]; done)), H', ⟨by have := HK1.out; have := HK2.out; omega⟩, ⟨by (with_reducible repeat (first | apply Kd.R_alloc | apply Kd.R_drewN | apply Kd.R_drew)); exact HO_9.out⟩, ⟨by (with_reducible repeat (first | apply Kd.R_alloc | apply Kd.R_drewN | apply Kd.R_drew)); exact HO_21.out⟩, ⟨by repeat (first | (with_reducible first | exact HB.out | apply below_alloc | apply pw_below_drewN | apply below_drew1) | exact HB.out)⟩⟩
                            ·rw [if_neg c94] at H
                             exact absurd ((Option.some.inj H).trans HRT.out) (by decide)
                           ·rw [if_neg c93] at H
                            exact absurd H (by simp)
                          ·rw [if_neg c92] at H
                           exact absurd H (by simp)
                         ·rw [if_neg c91] at H
                          exact absurd H (by simp)
                       ·rw [if_neg c85] at H
                        have c85b0 : decide (x247_2 < (t221.length : Int)) = false := decide_eq_false c85
                        clear c85
                        replace H := Option.bind_eq_some_iff.mp H
                        obtain ⟨t228, A960, H⟩ := H
                        replace H : (some t228) = some r := H
                        have A96 := Aside0.mk A960
                        clear A960
                        obtain rfl := Option.some.inj H
                        go_wp2_with (first | ((with_reducible refine gate_callee (f := 11) rfl ?_); refine goesL_ (some 278) rfl rfl Try.func11 (by kernel_rfl) rfl #[] rfl (by (try simp only [List.map_toArray, List.map_cons, List.map_nil]); first | done | rfl | (simp only [List.length_drop, List.length_take]; rfl)) ?_; (with_reducible refine (parrylaw1_awake.calls k2  t228 _ A96.out).mono ?_); rintro e w97 ⟨rfl, hb⟩; refine ⟨_, rfl, ?_⟩; have n0_ := Aside0.mk (Kd.R_below (by (with_reducible repeat (first | apply Kd.R_alloc | apply Kd.R_drewN | apply Kd.R_drew)); exact HO_9.out) hb); have n1_ := Aside0.mk (Kd.R_below (by (with_reducible repeat (first | apply Kd.R_alloc | apply Kd.R_drewN | apply Kd.R_drew)); exact HO_21.out) hb); have n2_ := Aside0.mk (below_step (by repeat (first | (with_reducible first | exact HB.out | apply below_alloc | apply pw_below_drewN | apply below_drew1) | exact HB.out)) hb); clear HO_9; clear HO_21; clear HB; have HO_9 := n0_; have HO_21 := n1_; have HB := n2_; clear n0_ n1_ n2_; (try clear hb); (try clear hb2); (try clear hk); (try clear hi)))
                        go_ret
                        exact ⟨by first | rfl | (simp [errW_none, errW_some] <;> rfl) | (simp [*, errW_none, errW_some] <;> rfl), by repeat (first | (with_reducible first | exact HB.out | apply below_alloc | apply pw_below_drewN | apply below_drew1) | exact HB.out)⟩
                  ·rw [if_neg c79] at H
                   exact absurd ((Option.some.inj H).trans HRT.out) (by decide)
                 ·replace c78 := Bool.eq_false_iff.mpr c78
                  subst c78
                  have H1 : (some false) = some r := by rw [if_neg (show ¬ (false = true) by decide)] at H; exact H
                  clear H
                  have H := H1
                  clear H1
                  exact absurd ((Option.some.inj H).trans HRT.out) (by decide)
                ·replace c76 := Bool.eq_false_iff.mpr c76
                 subst c76
                 have H1 : (if t219 = 0 then (if a2 < 0 then ((parrylaw1_awake.f k1).bind fun t229 => (some t229)) else (if a2 ≥ (l0.length : Int) then ((parrylaw1_awake.f k1).bind fun t230 => (some t230)) else (if 0 ≤ a2 then (if a2 < (l0.length : Int) then (if a3 < ((rd_T28 l0 a2).f3) then ((parrylaw1_awake.f k1).bind fun t232 => (some t232)) else ((dom_Size.f ((rd_T28 l0 a2).f0) ((rd_T28 l0 a2).f1) ((rd_T28 l0 a2).f2) ((rd_T28 l0 a2).f3) ((rd_T28 l0 a2).f4)).bind fun t235 => (if a3 ≥ (wrap64 (((rd_T28 l0 a2).f3) + t235)) then ((parrylaw1_awake.f k1).bind fun t236 => (some t236)) else (some false)))) else (none)) else (none)))) else (some false)) = some r := by rw [if_neg (show ¬ (false = true) by decide)] at H; exact H
                 clear H
                 have H := H1
                 clear H1
                 by_cases c98 : t219 = 0
                 ·rw [if_pos c98] at H
                  have c98b0 : (t219 == 0) = true := beq_iff_eq.mpr c98
                  have c98b1 : (t219 != 0) = false := bne_eq_false_iff_eq.mpr c98
                  clear c98
                  by_cases c99 : a2 < 0
                  ·rw [if_pos c99] at H
                   have c99b0 : decide (a2 < 0) = true := decide_eq_true c99
                   clear c99
                   replace H := Option.bind_eq_some_iff.mp H
                   obtain ⟨t229, A1000, H⟩ := H
                   replace H : (some t229) = some r := H
                   have A100 := Aside0.mk A1000
                   clear A1000
                   obtain rfl := Option.some.inj H
                   try go_wp2_with (first | ((with_reducible refine gate_callee (f := 22) rfl ?_); refine goesL_ (some 176) rfl rfl Try.func22 (by kernel_rfl) rfl #[.slice A0 l0.length c0, .int .i64 (wrap64 (Int.tmod (IntKind.u64.wrap (a1)) (IntKind.u64.wrap (t193)))), .int .i64 a2, .int .i64 a3] rfl (by (try simp only [List.map_toArray, List.map_cons, List.map_nil]); first | done | rfl | (simp only [List.length_drop, List.length_take]; rfl)) ?_; (with_reducible refine (dom_With.calls k1 _ _ l0 (wrap64 (Int.tmod (IntKind.u64.wrap (a1)) (IntKind.u64.wrap (t193)))) a2 a3 t219 false _ ?side1 ?side2 A75.out).mono ?_); (case side1 => repeat (first | exact (Kd.C_below HR0.out HB.out) | (with_reducible refine Kd.C_alloc ?_ _) | (with_reducible refine Kd.C_drewN ?_ _) | (with_reducible refine Kd.C_drew ?_))); (case side2 => exact HC0.out); rintro e w101 ⟨rfl, hb⟩; refine ⟨_, rfl, ?_⟩; have n0_ := Aside0.mk (Kd.R_below (by (with_reducible repeat (first | apply Kd.R_alloc | apply Kd.R_drewN | apply Kd.R_drew)); exact HO_9.out) hb); have n1_ := Aside0.mk (Kd.R_below (by (with_reducible repeat (first | apply Kd.R_alloc | apply Kd.R_drewN | apply Kd.R_drew)); exact HO_13.out) hb); have n2_ := Aside0.mk (Kd.R_below (by (with_reducible repeat (first | apply Kd.R_alloc | apply Kd.R_drewN | apply Kd.R_drew)); exact HO_15.out) hb); have n3_ := Aside0.mk (below_step (by repeat (first | (with_reducible first | exact HB.out | apply below_alloc | apply pw_below_drewN | apply below_drew1) | exact HB.out)) hb); clear HO_9; clear HO_13; clear HO_15; clear HB; have HO_9 := n0_; have HO_13 := n1_; have HO_15 := n2_; have HB := n3_; clear n0_ n1_ n2_ n3_; (try clear hb); (try clear hb2); (try clear hk); (try clear hi)))
                   have n0_ := Aside0.mk (Kd.R_drew HO_9.out)
                   have n1_ := Aside0.mk (Kd.R_drew HO_13.out)
                   have n2_ := Aside0.mk (Kd.R_drew HO_15.out)
                   have n3_ := Aside0.mk (below_drew1 HB.out)
                   clear HO_9
                   clear HO_13
                   clear HO_15
                   clear HB
                   have HO_9 := n0_
                   have HO_13 := n1_
                   have HO_15 := n2_
                   have HB := n3_
                   clear n0_ n1_ n2_ n3_
                   refine start_ (n := 40) (S := fun w' => True) (ds := []) Mk40_88_ (by kernel_rfl) rfl rfl trivial (fun hHeld => ?_); refine with_tabW parrylaw1_DomParts.tab18 parrylaw1_DomParts.bits18 (fun HT_ HW_ => ?_)
                   generalize w101.drew = w102 at HO_9 HO_13 HO_15 HB hHeld ⊢
                   refine pure_ (i := 0) (N := some 181) (v := ?_) (a' := ?_) Mk40_89_ rfl rfl (any_of HT_.out (by kernel_rfl)) (fun _ _ _ h => h) (Or.inl ⟨by rfl, ?_⟩) ?_ ?_; rotate_left; intro w'; go_simp; with_reducible rfl; rotate_left; simp only [Act.put, List.setIfInBounds_toArray, List.set_cons_zero, List.set_cons_succ, i64_w, i32_w]; rfl
                   refine pure_ (i := 1) (N := some 182) (v := ?_) (a' := ?_) Mk40_90_ rfl rfl (any_of HT_.out (by kernel_rfl)) (fun _ _ _ h => h) (Or.inl ⟨by rfl, ?_⟩) ?_ ?_; rotate_left; intro w'; go_simp; with_reducible rfl; rotate_left; simp only [Act.put, List.setIfInBounds_toArray, List.set_cons_zero, List.set_cons_succ, i64_w, i32_w]; rfl
                   refine pure_ (i := 2) (N := some 183) (v := ?_) (a' := ?_) Mk40_91_ rfl rfl (any_of HT_.out (by kernel_rfl)) (fun _ _ _ h => h) (Or.inl ⟨by rfl, ?_⟩) ?_ ?_; rotate_left; intro w'; go_simp; with_reducible rfl; rotate_left; simp only [Act.put, List.setIfInBounds_toArray, List.set_cons_zero, List.set_cons_succ, i64_w, i32_w]; rfl
                   refine pure_ (i := 3) (N := some 184) (v := ?_) (a' := ?_) Mk40_92_ rfl rfl (any_of HT_.out (by kernel_rfl)) (fun _ _ _ h => h) (Or.inl ⟨by rfl, ?_⟩) ?_ ?_; rotate_left; intro w'; go_simp; with_reducible rfl; rotate_left; simp only [Act.put, List.setIfInBounds_toArray, List.set_cons_zero, List.set_cons_succ, i64_w, i32_w]; rfl
                   refine pure_ (i := 4) (N := some 185) (v := ?_) (a' := ?_) Mk40_93_ rfl rfl (any_of HT_.out (by kernel_rfl)) (fun _ _ _ h => h) (Or.inl ⟨by rfl, ?_⟩) ?_ ?_; rotate_left; intro w'; go_simp; with_reducible rfl; rotate_left; simp only [Act.put, List.setIfInBounds_toArray, List.set_cons_zero, List.set_cons_succ, i64_w, i32_w]; rfl
                   refine pure_ (i := 5) (N := some 186) (v := ?_) (a' := ?_) Mk40_94_ rfl rfl (any_of HT_.out (by kernel_rfl)) (fun _ _ _ h => h) (Or.inl ⟨by rfl, ?_⟩) ?_ ?_; rotate_left; intro w'; go_simp; with_reducible rfl; rotate_left; simp only [Act.put, List.setIfInBounds_toArray, List.set_cons_zero, List.set_cons_succ, i64_w, i32_w]; rfl
                   refine pure_ (i := 6) (N := some 187) (v := undef) (a' := ?_) Mk40_95_ rfl rfl (any_of HT_.out (by kernel_rfl)) (fun _ _ _ h => h) (Or.inr ⟨by rfl, rfl⟩) ?_ ?_
                   rotate_left
                   ·simp only [Act.put, List.setIfInBounds_toArray, List.set_cons_zero, List.set_cons_succ, i64_w, i32_w]
                    rfl
                   refine pure_ (i := 7) (N := some 188) (v := undef) (a' := ?_) Mk40_96_ rfl rfl (any_of HT_.out (by kernel_rfl)) (fun _ _ _ h => h) (Or.inr ⟨by rfl, rfl⟩) ?_ ?_
                   rotate_left
                   ·simp only [Act.put, List.setIfInBounds_toArray, List.set_cons_zero, List.set_cons_succ, i64_w, i32_w]
                    rfl
                   refine pure_ (i := 8) (N := some 189) (v := undef) (a' := ?_) Mk40_97_ rfl rfl (any_of HT_.out (by kernel_rfl)) (fun _ _ _ h => h) (Or.inr ⟨by rfl, rfl⟩) ?_ ?_
                   rotate_left
                   ·simp only [Act.put, List.setIfInBounds_toArray, List.set_cons_zero, List.set_cons_succ, i64_w, i32_w]
                    rfl
                   refine pure_ (i := 9) (N := some 190) (v := undef) (a' := ?_) Mk40_98_ rfl rfl (any_of HT_.out (by kernel_rfl)) (fun _ _ _ h => h) (Or.inr ⟨by rfl, rfl⟩) ?_ ?_
                   rotate_left
                   ·simp only [Act.put, List.setIfInBounds_toArray, List.set_cons_zero, List.set_cons_succ, i64_w, i32_w]
                    rfl
                   refine pure_ (i := 10) (N := some 191) (v := ?_) (a' := ?_) Mk40_99_ rfl rfl (any_of HT_.out (by kernel_rfl)) (fun _ _ _ h => h) (Or.inl ⟨by rfl, ?_⟩) ?_ ?_; rotate_left; intro w'; go_simp; with_reducible rfl; rotate_left; simp only [Act.put, List.setIfInBounds_toArray, List.set_cons_zero, List.set_cons_succ, i64_w, i32_w]; rfl
                   refine pure_ (i := 11) (N := some 192) (v := ?_) (a' := ?_) Mk40_100_ rfl rfl (any_of HT_.out (by kernel_rfl)) (fun _ _ _ h => h) (Or.inl ⟨by rfl, ?_⟩) ?_ ?_; rotate_left; intro w'; go_simp; with_reducible rfl; rotate_left; simp only [Act.put, List.setIfInBounds_toArray, List.set_cons_zero, List.set_cons_succ, i64_w, i32_w]; rfl
                   refine pure_ (i := 12) (N := some 193) (v := undef) (a' := ?_) Mk40_101_ rfl rfl (any_of HT_.out (by kernel_rfl)) (fun _ _ _ h => h) (Or.inr ⟨by rfl, rfl⟩) ?_ ?_
                   rotate_left
                   ·simp only [Act.put, List.setIfInBounds_toArray, List.set_cons_zero, List.set_cons_succ, i64_w, i32_w]
                    rfl
                   refine pure_ (i := 13) (N := some 194) (v := undef) (a' := ?_) Mk40_102_ rfl rfl (any_of HT_.out (by kernel_rfl)) (fun _ _ _ h => h) (Or.inr ⟨by rfl, rfl⟩) ?_ ?_
                   rotate_left
                   ·simp only [Act.put, List.setIfInBounds_toArray, List.set_cons_zero, List.set_cons_succ, i64_w, i32_w]
                    rfl
                   refine pure_ (i := 14) (N := some 195) (v := undef) (a' := ?_) Mk40_103_ rfl rfl (any_of HT_.out (by kernel_rfl)) (fun _ _ _ h => h) (Or.inr ⟨by rfl, rfl⟩) ?_ ?_
                   rotate_left
                   ·simp only [Act.put, List.setIfInBounds_toArray, List.set_cons_zero, List.set_cons_succ, i64_w, i32_w]
                    rfl
                   refine pure_ (i := 15) (N := some 196) (v := undef) (a' := ?_) Mk40_104_ rfl rfl (any_of HT_.out (by kernel_rfl)) (fun _ _ _ h => h) (Or.inr ⟨by rfl, rfl⟩) ?_ ?_
                   rotate_left
                   ·simp only [Act.put, List.setIfInBounds_toArray, List.set_cons_zero, List.set_cons_succ, i64_w, i32_w]
                    rfl
                   refine pure_ (i := 16) (N := some 197) (v := undef) (a' := ?_) Mk40_105_ rfl rfl (any_of HT_.out (by kernel_rfl)) (fun _ _ _ h => h) (Or.inr ⟨by rfl, rfl⟩) ?_ ?_
                   rotate_left
                   ·simp only [Act.put, List.setIfInBounds_toArray, List.set_cons_zero, List.set_cons_succ, i64_w, i32_w]
                    rfl
                   refine pure_ (i := 17) (N := some 198) (v := undef) (a' := ?_) Mk40_106_ rfl rfl (any_of HT_.out (by kernel_rfl)) (fun _ _ _ h => h) (Or.inr ⟨by rfl, rfl⟩) ?_ ?_
                   rotate_left
                   ·simp only [Act.put, List.setIfInBounds_toArray, List.set_cons_zero, List.set_cons_succ, i64_w, i32_w]
                    rfl
                   refine pure_ (i := 18) (N := some 199) (v := undef) (a' := ?_) Mk40_107_ rfl rfl (any_of HT_.out (by kernel_rfl)) (fun _ _ _ h => h) (Or.inr ⟨by rfl, rfl⟩) ?_ ?_
                   rotate_left
                   ·simp only [Act.put, List.setIfInBounds_toArray, List.set_cons_zero, List.set_cons_succ, i64_w, i32_w]
                    rfl
                   refine pure_ (i := 19) (N := some 200) (v := ?_) (a' := ?_) Mk40_108_ rfl rfl (any_of HT_.out (by kernel_rfl)) (fun _ _ _ h => h) (Or.inl ⟨by rfl, ?_⟩) ?_ ?_; rotate_left; intro w'; go_simp; with_reducible rfl; rotate_left; simp only [Act.put, List.setIfInBounds_toArray, List.set_cons_zero, List.set_cons_succ, i64_w, i32_w]; rfl
                   refine pure_ (i := 20) (N := some 201) (v := ?_) (a' := ?_) Mk40_109_ rfl rfl (any_of HT_.out (by kernel_rfl)) (fun _ _ _ h => h) (Or.inl ⟨by rfl, ?_⟩) ?_ ?_; rotate_left; intro w'; go_simp; with_reducible rfl; rotate_left; simp only [Act.put, List.setIfInBounds_toArray, List.set_cons_zero, List.set_cons_succ, i64_w, i32_w]; rfl
                   refine pure_ (i := 21) (N := some 202) (v := undef) (a' := ?_) Mk40_110_ rfl rfl (any_of HT_.out (by kernel_rfl)) (fun _ _ _ h => h) (Or.inr ⟨by rfl, rfl⟩) ?_ ?_
                   rotate_left
                   ·simp only [Act.put, List.setIfInBounds_toArray, List.set_cons_zero, List.set_cons_succ, i64_w, i32_w]
                    rfl
                   refine pure_ (i := 22) (N := some 203) (v := undef) (a' := ?_) Mk40_111_ rfl rfl (any_of HT_.out (by kernel_rfl)) (fun _ _ _ h => h) (Or.inr ⟨by rfl, rfl⟩) ?_ ?_
                   rotate_left
                   ·simp only [Act.put, List.setIfInBounds_toArray, List.set_cons_zero, List.set_cons_succ, i64_w, i32_w]
                    rfl
                   refine pure_ (i := 23) (N := some 204) (v := undef) (a' := ?_) Mk40_112_ rfl rfl (any_of HT_.out (by kernel_rfl)) (fun _ _ _ h => h) (Or.inr ⟨by rfl, rfl⟩) ?_ ?_
                   rotate_left
                   ·simp only [Act.put, List.setIfInBounds_toArray, List.set_cons_zero, List.set_cons_succ, i64_w, i32_w]
                    rfl
                   refine pure_ (i := 24) (N := some 205) (v := undef) (a' := ?_) Mk40_113_ rfl rfl (any_of HT_.out (by kernel_rfl)) (fun _ _ _ h => h) (Or.inr ⟨by rfl, rfl⟩) ?_ ?_
                   rotate_left
                   ·simp only [Act.put, List.setIfInBounds_toArray, List.set_cons_zero, List.set_cons_succ, i64_w, i32_w]
                    rfl
                   refine pure_ (i := 25) (N := some 206) (v := undef) (a' := ?_) Mk40_114_ rfl rfl (any_of HT_.out (by kernel_rfl)) (fun _ _ _ h => h) (Or.inr ⟨by rfl, rfl⟩) ?_ ?_
                   rotate_left
                   ·simp only [Act.put, List.setIfInBounds_toArray, List.set_cons_zero, List.set_cons_succ, i64_w, i32_w]
                    rfl
                   refine pure_ (i := 26) (N := some 207) (v := undef) (a' := ?_) Mk40_115_ rfl rfl (any_of HT_.out (by kernel_rfl)) (fun _ _ _ h => h) (Or.inr ⟨by rfl, rfl⟩) ?_ ?_
                   rotate_left
                   ·simp only [Act.put, List.setIfInBounds_toArray, List.set_cons_zero, List.set_cons_succ, i64_w, i32_w]
                    rfl
                   refine pure_ (i := 27) (N := some 208) (v := undef) (a' := ?_) Mk40_116_ rfl rfl (any_of HT_.out (by kernel_rfl)) (fun _ _ _ h => h) (Or.inr ⟨by rfl, rfl⟩) ?_ ?_
                   rotate_left
                   ·simp only [Act.put, List.setIfInBounds_toArray, List.set_cons_zero, List.set_cons_succ, i64_w, i32_w]
                    rfl
                   refine pure_ (i := 28) (N := some 209) (v := undef) (a' := ?_) Mk40_117_ rfl rfl (any_of HT_.out (by kernel_rfl)) (fun _ _ _ h => h) (Or.inr ⟨by rfl, rfl⟩) ?_ ?_
                   rotate_left
                   ·simp only [Act.put, List.setIfInBounds_toArray, List.set_cons_zero, List.set_cons_succ, i64_w, i32_w]
                    rfl
                   refine pure_ (i := 29) (N := some 210) (v := undef) (a' := ?_) Mk40_118_ rfl rfl (any_of HT_.out (by kernel_rfl)) (fun _ _ _ h => h) (Or.inr ⟨by rfl, rfl⟩) ?_ ?_
                   rotate_left
                   ·simp only [Act.put, List.setIfInBounds_toArray, List.set_cons_zero, List.set_cons_succ, i64_w, i32_w]
                    rfl
                   refine pure_ (i := 30) (N := some 211) (v := undef) (a' := ?_) Mk40_119_ rfl rfl (any_of HT_.out (by kernel_rfl)) (fun _ _ _ h => h) (Or.inr ⟨by rfl, rfl⟩) ?_ ?_
                   rotate_left
                   ·simp only [Act.put, List.setIfInBounds_toArray, List.set_cons_zero, List.set_cons_succ, i64_w, i32_w]
                    rfl
                   refine pure_ (i := 31) (N := some 212) (v := undef) (a' := ?_) Mk40_120_ rfl rfl (any_of HT_.out (by kernel_rfl)) (fun _ _ _ h => h) (Or.inr ⟨by rfl, rfl⟩) ?_ ?_
                   rotate_left
                   ·simp only [Act.put, List.setIfInBounds_toArray, List.set_cons_zero, List.set_cons_succ, i64_w, i32_w]
                    rfl
                   refine pure_ (i := 32) (N := some 213) (v := undef) (a' := ?_) Mk40_121_ rfl rfl (any_of HT_.out (by kernel_rfl)) (fun _ _ _ h => h) (Or.inr ⟨by rfl, rfl⟩) ?_ ?_
                   rotate_left
                   ·simp only [Act.put, List.setIfInBounds_toArray, List.set_cons_zero, List.set_cons_succ, i64_w, i32_w]
                    rfl
                   refine pure_ (i := 33) (N := some 214) (v := undef) (a' := ?_) Mk40_122_ rfl rfl (any_of HT_.out (by kernel_rfl)) (fun _ _ _ h => h) (Or.inr ⟨by rfl, rfl⟩) ?_ ?_
                   rotate_left
                   ·simp only [Act.put, List.setIfInBounds_toArray, List.set_cons_zero, List.set_cons_succ, i64_w, i32_w]
                    rfl
                   refine pure_ (i := 34) (N := some 215) (v := ?_) (a' := ?_) Mk40_123_ rfl rfl (any_of HT_.out (by kernel_rfl)) (fun _ _ _ h => h) (Or.inl ⟨by rfl, ?_⟩) ?_ ?_; rotate_left; intro w'; go_simp; with_reducible rfl; rotate_left; simp only [Act.put, List.setIfInBounds_toArray, List.set_cons_zero, List.set_cons_succ, i64_w, i32_w]; rfl
                   refine pure_ (i := 35) (N := some 216) (v := ?_) (a' := ?_) Mk40_124_ rfl rfl (any_of HT_.out (by kernel_rfl)) (fun _ _ _ h => h) (Or.inl ⟨by rfl, ?_⟩) ?_ ?_; rotate_left; intro w'; go_simp; with_reducible rfl; rotate_left; simp only [Act.put, List.setIfInBounds_toArray, List.set_cons_zero, List.set_cons_succ, i64_w, i32_w]; rfl
                   refine pure_ (i := 36) (N := some 217) (v := ?_) (a' := ?_) Mk40_125_ rfl rfl (any_of HT_.out (by kernel_rfl)) (fun _ _ _ h => h) (Or.inl ⟨by rfl, ?_⟩) ?_ ?_; rotate_left; intro w'; go_simp; with_reducible rfl; rotate_left; simp only [Act.put, List.setIfInBounds_toArray, List.set_cons_zero, List.set_cons_succ, i64_w, i32_w]; rfl
                   refine one_ (i := 37) (N := some 218) Mk40_126_ rfl rfl (one_of HT_.out (by kernel_rfl)) (by decide) (fun K hK => ?_)
                   refine goes_ Try.func11 (by kernel_rfl) rfl #[] (by rfl) rfl rfl (by (try simp only [List.map_toArray, List.map_cons, List.map_nil]); first | done | rfl | (simp only [List.length_drop, List.length_take]; rfl)) ?_
                   with_reducible refine (parrylaw1_awake.calls k1  t229 _ A100.out).mono ?_
                   rintro e w103 ⟨rfl, hb⟩
                   refine ⟨_, rfl, ?_⟩
                   have n0_ := Aside0.mk (Kd.R_below (by (with_reducible repeat (first | apply Kd.R_alloc | apply Kd.R_drewN | apply Kd.R_drew)); exact HO_9.out) hb)
                   have n1_ := Aside0.mk (Kd.R_below (by (with_reducible repeat (first | apply Kd.R_alloc | apply Kd.R_drewN | apply Kd.R_drew)); exact HO_13.out) hb)
                   have n2_ := Aside0.mk (Kd.R_below (by (with_reducible repeat (first | apply Kd.R_alloc | apply Kd.R_drewN | apply Kd.R_drew)); exact HO_15.out) hb)
                   have n3_ := Aside0.mk (below_step (by repeat (first | (with_reducible first | exact HB.out | apply below_alloc | apply pw_below_drewN | apply below_drew1) | exact HB.out)) hb)
                   clear HO_9
                   clear HO_13
                   clear HO_15
                   clear HB
                   have HO_9 := n0_
                   have HO_13 := n1_
                   have HO_15 := n2_
                   have HB := n3_
                   clear n0_ n1_ n2_ n3_
                   (try clear hb)
                   (try clear hb2)
                   (try clear hk)
                   (try clear hi)
                   refine hK.out _ _ trivial (fun hHeld => ?_)
                   clear hK K
                   refine norm_ (a' := ?_) ?_ ?_
                   rotate_left
                   ·show Act.put _ (some 218) _ = _
                    simp only [Act.put, List.setIfInBounds_toArray, List.set_cons_zero, List.set_cons_succ, i64_w, i32_w]
                    rfl
                   refine pure_ (i := 38) (N := some 219) (v := ?_) (a' := ?_) Mk40_127_ rfl rfl (any_of HT_.out (by kernel_rfl)) (fun _ _ _ h => h) (Or.inl ⟨by rfl, ?_⟩) ?_ ?_; rotate_left; intro w'; go_simp; with_reducible rfl; rotate_left; simp only [Act.put, List.setIfInBounds_toArray, List.set_cons_zero, List.set_cons_succ, i64_w, i32_w]; rfl
                   refine pure_ (i := 39) (N := some 8) (v := ?_) (a' := ?_) Mk40_128_ rfl rfl (any_of HT_.out (by kernel_rfl)) (fun _ _ _ h => h) (Or.inl ⟨by rfl, ?_⟩) ?_ ?_; rotate_left; intro w'; go_simp; with_reducible rfl; rotate_left; simp only [Act.put, List.setIfInBounds_toArray, List.set_cons_zero, List.set_cons_succ, i64_w, i32_w]; rfl
                   refine done_ (done_of HT_.out (by kernel_rfl)) ?_
                   try go_wp2
                   go_ret
                   exact ⟨by first | rfl | (simp [errW_none, errW_some] <;> rfl) | (simp [*, errW_none, errW_some] <;> rfl), by repeat (first | (with_reducible first | exact HB.out | apply below_alloc | apply pw_below_drewN | apply below_drew1) | exact HB.out)⟩
                  ·rw [if_neg c99] at H
                   have c99b0 : decide (a2 < 0) = false := decide_eq_false c99
                   clear c99
                   by_cases c104 : a2 ≥ (l0.length : Int)
                   ·rw [if_pos c104] at H
                    have c104b0 : decide ((l0.length : Int) ≤ a2) = true := decide_eq_true c104
                    clear c104
                    replace H := Option.bind_eq_some_iff.mp H
                    obtain ⟨t230, A1050, H⟩ := H
                    replace H : (some t230) = some r := H
                    have A105 := Aside0.mk A1050
                    clear A1050
                    obtain rfl := Option.some.inj H
                    try go_wp2_with (first | ((with_reducible refine gate_callee (f := 22) rfl ?_); refine goesL_ (some 176) rfl rfl Try.func22 (by kernel_rfl) rfl #[.slice A0 l0.length c0, .int .i64 (wrap64 (Int.tmod (IntKind.u64.wrap (a1)) (IntKind.u64.wrap (t193)))), .int .i64 a2, .int .i64 a3] rfl (by (try simp only [List.map_toArray, List.map_cons, List.map_nil]); first | done | rfl | (simp only [List.length_drop, List.length_take]; rfl)) ?_; (with_reducible refine (dom_With.calls k1 _ _ l0 (wrap64 (Int.tmod (IntKind.u64.wrap (a1)) (IntKind.u64.wrap (t193)))) a2 a3 t219 false _ ?side1 ?side2 A75.out).mono ?_); (case side1 => repeat (first | exact (Kd.C_below HR0.out HB.out) | (with_reducible refine Kd.C_alloc ?_ _) | (with_reducible refine Kd.C_drewN ?_ _) | (with_reducible refine Kd.C_drew ?_))); (case side2 => exact HC0.out); rintro e w106 ⟨rfl, hb⟩; refine ⟨_, rfl, ?_⟩; have n0_ := Aside0.mk (Kd.R_below (by (with_reducible repeat (first | apply Kd.R_alloc | apply Kd.R_drewN | apply Kd.R_drew)); exact HO_9.out) hb); have n1_ := Aside0.mk (Kd.R_below (by (with_reducible repeat (first | apply Kd.R_alloc | apply Kd.R_drewN | apply Kd.R_drew)); exact HO_13.out) hb); have n2_ := Aside0.mk (Kd.R_below (by (with_reducible repeat (first | apply Kd.R_alloc | apply Kd.R_drewN | apply Kd.R_drew)); exact HO_15.out) hb); have n3_ := Aside0.mk (below_step (by repeat (first | (with_reducible first | exact HB.out | apply below_alloc | apply pw_below_drewN | apply below_drew1) | exact HB.out)) hb); clear HO_9; clear HO_13; clear HO_15; clear HB; have HO_9 := n0_; have HO_13 := n1_; have HO_15 := n2_; have HB := n3_; clear n0_ n1_ n2_ n3_; (try clear hb); (try clear hb2); (try clear hk); (try clear hi)))
                    have n0_ := Aside0.mk (Kd.R_drew HO_9.out)
                    have n1_ := Aside0.mk (Kd.R_drew HO_13.out)
                    have n2_ := Aside0.mk (Kd.R_drew HO_15.out)
                    have n3_ := Aside0.mk (below_drew1 HB.out)
                    clear HO_9
                    clear HO_13
                    clear HO_15
                    clear HB
                    have HO_9 := n0_
                    have HO_13 := n1_
                    have HO_15 := n2_
                    have HB := n3_
                    clear n0_ n1_ n2_ n3_
                    refine start_ (n := 40) (S := fun w' => True) (ds := []) Mk40_88_ (by kernel_rfl) rfl rfl trivial (fun hHeld => ?_); refine with_tabW parrylaw1_DomParts.tab18 parrylaw1_DomParts.bits18 (fun HT_ HW_ => ?_)
                    generalize w106.drew = w107 at HO_9 HO_13 HO_15 HB hHeld ⊢
                    refine pure_ (i := 0) (N := some 181) (v := ?_) (a' := ?_) Mk40_89_ rfl rfl (any_of HT_.out (by kernel_rfl)) (fun _ _ _ h => h) (Or.inl ⟨by rfl, ?_⟩) ?_ ?_; rotate_left; intro w'; go_simp; with_reducible rfl; rotate_left; simp only [Act.put, List.setIfInBounds_toArray, List.set_cons_zero, List.set_cons_succ, i64_w, i32_w]; rfl
                    refine pure_ (i := 1) (N := some 182) (v := ?_) (a' := ?_) Mk40_90_ rfl rfl (any_of HT_.out (by kernel_rfl)) (fun _ _ _ h => h) (Or.inl ⟨by rfl, ?_⟩) ?_ ?_; rotate_left; intro w'; go_simp; with_reducible rfl; rotate_left; simp only [Act.put, List.setIfInBounds_toArray, List.set_cons_zero, List.set_cons_succ, i64_w, i32_w]; rfl
                    refine pure_ (i := 2) (N := some 183) (v := ?_) (a' := ?_) Mk40_91_ rfl rfl (any_of HT_.out (by kernel_rfl)) (fun _ _ _ h => h) (Or.inl ⟨by rfl, ?_⟩) ?_ ?_; rotate_left; intro w'; go_simp; with_reducible rfl; rotate_left; simp only [Act.put, List.setIfInBounds_toArray, List.set_cons_zero, List.set_cons_succ, i64_w, i32_w]; rfl
                    refine pure_ (i := 3) (N := some 184) (v := ?_) (a' := ?_) Mk40_92_ rfl rfl (any_of HT_.out (by kernel_rfl)) (fun _ _ _ h => h) (Or.inl ⟨by rfl, ?_⟩) ?_ ?_; rotate_left; intro w'; go_simp; with_reducible rfl; rotate_left; simp only [Act.put, List.setIfInBounds_toArray, List.set_cons_zero, List.set_cons_succ, i64_w, i32_w]; rfl
                    refine pure_ (i := 4) (N := some 185) (v := ?_) (a' := ?_) Mk40_93_ rfl rfl (any_of HT_.out (by kernel_rfl)) (fun _ _ _ h => h) (Or.inl ⟨by rfl, ?_⟩) ?_ ?_; rotate_left; intro w'; go_simp; with_reducible rfl; rotate_left; simp only [Act.put, List.setIfInBounds_toArray, List.set_cons_zero, List.set_cons_succ, i64_w, i32_w]; rfl
                    refine pure_ (i := 5) (N := some 186) (v := ?_) (a' := ?_) Mk40_94_ rfl rfl (any_of HT_.out (by kernel_rfl)) (fun _ _ _ h => h) (Or.inl ⟨by rfl, ?_⟩) ?_ ?_; rotate_left; intro w'; go_simp; with_reducible rfl; rotate_left; simp only [Act.put, List.setIfInBounds_toArray, List.set_cons_zero, List.set_cons_succ, i64_w, i32_w]; rfl
                    refine pure_ (i := 6) (N := some 187) (v := ?_) (a' := ?_) Mk40_95_ rfl rfl (any_of HT_.out (by kernel_rfl)) (fun _ _ _ h => h) (Or.inl ⟨by rfl, ?_⟩) ?_ ?_; rotate_left; intro w'; go_simp; with_reducible rfl; rotate_left; simp only [Act.put, List.setIfInBounds_toArray, List.set_cons_zero, List.set_cons_succ, i64_w, i32_w]; rfl
                    refine pure_ (i := 7) (N := some 188) (v := ?_) (a' := ?_) Mk40_96_ rfl rfl (any_of HT_.out (by kernel_rfl)) (fun _ _ _ h => h) (Or.inl ⟨by rfl, ?_⟩) ?_ ?_; rotate_left; intro w'; go_simp; with_reducible rfl; rotate_left; simp only [Act.put, List.setIfInBounds_toArray, List.set_cons_zero, List.set_cons_succ, i64_w, i32_w]; rfl
                    refine pure_ (i := 8) (N := some 189) (v := ?_) (a' := ?_) Mk40_97_ rfl rfl (any_of HT_.out (by kernel_rfl)) (fun _ _ _ h => h) (Or.inl ⟨by rfl, ?_⟩) ?_ ?_; rotate_left; intro w'; go_simp; with_reducible rfl; rotate_left; simp only [Act.put, List.setIfInBounds_toArray, List.set_cons_zero, List.set_cons_succ, i64_w, i32_w]; rfl
                    refine pure_ (i := 9) (N := some 190) (v := ?_) (a' := ?_) Mk40_98_ rfl rfl (any_of HT_.out (by kernel_rfl)) (fun _ _ _ h => h) (Or.inl ⟨by rfl, ?_⟩) ?_ ?_; rotate_left; intro w'; go_simp; with_reducible rfl; rotate_left; simp only [Act.put, List.setIfInBounds_toArray, List.set_cons_zero, List.set_cons_succ, i64_w, i32_w]; rfl
                    refine pure_ (i := 10) (N := some 191) (v := ?_) (a' := ?_) Mk40_99_ rfl rfl (any_of HT_.out (by kernel_rfl)) (fun _ _ _ h => h) (Or.inl ⟨by rfl, ?_⟩) ?_ ?_; rotate_left; intro w'; go_simp; with_reducible rfl; rotate_left; simp only [Act.put, List.setIfInBounds_toArray, List.set_cons_zero, List.set_cons_succ, i64_w, i32_w]; rfl
                    refine pure_ (i := 11) (N := some 192) (v := ?_) (a' := ?_) Mk40_100_ rfl rfl (any_of HT_.out (by kernel_rfl)) (fun _ _ _ h => h) (Or.inl ⟨by rfl, ?_⟩) ?_ ?_; rotate_left; intro w'; go_simp; with_reducible rfl; rotate_left; simp only [Act.put, List.setIfInBounds_toArray, List.set_cons_zero, List.set_cons_succ, i64_w, i32_w]; rfl
                    refine pure_ (i := 12) (N := some 193) (v := undef) (a' := ?_) Mk40_101_ rfl rfl (any_of HT_.out (by kernel_rfl)) (fun _ _ _ h => h) (Or.inr ⟨by rfl, rfl⟩) ?_ ?_
                    rotate_left
                    ·simp only [Act.put, List.setIfInBounds_toArray, List.set_cons_zero, List.set_cons_succ, i64_w, i32_w]
                     rfl
                    refine pure_ (i := 13) (N := some 194) (v := undef) (a' := ?_) Mk40_102_ rfl rfl (any_of HT_.out (by kernel_rfl)) (fun _ _ _ h => h) (Or.inr ⟨by rfl, rfl⟩) ?_ ?_
                    rotate_left
                    ·simp only [Act.put, List.setIfInBounds_toArray, List.set_cons_zero, List.set_cons_succ, i64_w, i32_w]
                     rfl
                    refine pure_ (i := 14) (N := some 195) (v := undef) (a' := ?_) Mk40_103_ rfl rfl (any_of HT_.out (by kernel_rfl)) (fun _ _ _ h => h) (Or.inr ⟨by rfl, rfl⟩) ?_ ?_
                    rotate_left
                    ·simp only [Act.put, List.setIfInBounds_toArray, List.set_cons_zero, List.set_cons_succ, i64_w, i32_w]
                     rfl
                    refine pure_ (i := 15) (N := some 196) (v := undef) (a' := ?_) Mk40_104_ rfl rfl (any_of HT_.out (by kernel_rfl)) (fun _ _ _ h => h) (Or.inr ⟨by rfl, rfl⟩) ?_ ?_
                    rotate_left
                    ·simp only [Act.put, List.setIfInBounds_toArray, List.set_cons_zero, List.set_cons_succ, i64_w, i32_w]
                     rfl
                    refine pure_ (i := 16) (N := some 197) (v := undef) (a' := ?_) Mk40_105_ rfl rfl (any_of HT_.out (by kernel_rfl)) (fun _ _ _ h => h) (Or.inr ⟨by rfl, rfl⟩) ?_ ?_
                    rotate_left
                    ·simp only [Act.put, List.setIfInBounds_toArray, List.set_cons_zero, List.set_cons_succ, i64_w, i32_w]
                     rfl
                    refine pure_ (i := 17) (N := some 198) (v := undef) (a' := ?_) Mk40_106_ rfl rfl (any_of HT_.out (by kernel_rfl)) (fun _ _ _ h => h) (Or.inr ⟨by rfl, rfl⟩) ?_ ?_
                    rotate_left
                    ·simp only [Act.put, List.setIfInBounds_toArray, List.set_cons_zero, List.set_cons_succ, i64_w, i32_w]
                     rfl
                    refine pure_ (i := 18) (N := some 199) (v := undef) (a' := ?_) Mk40_107_ rfl rfl (any_of HT_.out (by kernel_rfl)) (fun _ _ _ h => h) (Or.inr ⟨by rfl, rfl⟩) ?_ ?_
                    rotate_left
                    ·simp only [Act.put, List.setIfInBounds_toArray, List.set_cons_zero, List.set_cons_succ, i64_w, i32_w]
                     rfl
                    refine pure_ (i := 19) (N := some 200) (v := ?_) (a' := ?_) Mk40_108_ rfl rfl (any_of HT_.out (by kernel_rfl)) (fun _ _ _ h => h) (Or.inl ⟨by rfl, ?_⟩) ?_ ?_; rotate_left; intro w'; go_simp; with_reducible rfl; rotate_left; simp only [Act.put, List.setIfInBounds_toArray, List.set_cons_zero, List.set_cons_succ, i64_w, i32_w]; rfl
                    refine pure_ (i := 20) (N := some 201) (v := ?_) (a' := ?_) Mk40_109_ rfl rfl (any_of HT_.out (by kernel_rfl)) (fun _ _ _ h => h) (Or.inl ⟨by rfl, ?_⟩) ?_ ?_; rotate_left; intro w'; go_simp; with_reducible rfl; rotate_left; simp only [Act.put, List.setIfInBounds_toArray, List.set_cons_zero, List.set_cons_succ, i64_w, i32_w]; rfl
                    refine pure_ (i := 21) (N := some 202) (v := undef) (a' := ?_) Mk40_110_ rfl rfl (any_of HT_.out (by kernel_rfl)) (fun _ _ _ h => h) (Or.inr ⟨by rfl, rfl⟩) ?_ ?_
                    rotate_left
                    ·simp only [Act.put, List.setIfInBounds_toArray, List.set_cons_zero, List.set_cons_succ, i64_w, i32_w]
                     rfl
                    refine pure_ (i := 22) (N := some 203) (v := undef) (a' := ?_) Mk40_111_ rfl rfl (any_of HT_.out (by kernel_rfl)) (fun _ _ _ h => h) (Or.inr ⟨by rfl, rfl⟩) ?_ ?_
                    rotate_left
                    ·simp only [Act.put, List.setIfInBounds_toArray, List.set_cons_zero, List.set_cons_succ, i64_w, i32_w]
                     rfl
                    refine pure_ (i := 23) (N := some 204) (v := undef) (a' := ?_) Mk40_112_ rfl rfl (any_of HT_.out (by kernel_rfl)) (fun _ _ _ h => h) (Or.inr ⟨by rfl, rfl⟩) ?_ ?_
                    rotate_left
                    ·simp only [Act.put, List.setIfInBounds_toArray, List.set_cons_zero, List.set_cons_succ, i64_w, i32_w]
                     rfl
                    refine pure_ (i := 24) (N := some 205) (v := undef) (a' := ?_) Mk40_113_ rfl rfl (any_of HT_.out (by kernel_rfl)) (fun _ _ _ h => h) (Or.inr ⟨by rfl, rfl⟩) ?_ ?_
                    rotate_left
                    ·simp only [Act.put, List.setIfInBounds_toArray, List.set_cons_zero, List.set_cons_succ, i64_w, i32_w]
                     rfl
                    refine pure_ (i := 25) (N := some 206) (v := undef) (a' := ?_) Mk40_114_ rfl rfl (any_of HT_.out (by kernel_rfl)) (fun _ _ _ h => h) (Or.inr ⟨by rfl, rfl⟩) ?_ ?_
                    rotate_left
                    ·simp only [Act.put, List.setIfInBounds_toArray, List.set_cons_zero, List.set_cons_succ, i64_w, i32_w]
                     rfl
                    refine pure_ (i := 26) (N := some 207) (v := undef) (a' := ?_) Mk40_115_ rfl rfl (any_of HT_.out (by kernel_rfl)) (fun _ _ _ h => h) (Or.inr ⟨by rfl, rfl⟩) ?_ ?_
                    rotate_left
                    ·simp only [Act.put, List.setIfInBounds_toArray, List.set_cons_zero, List.set_cons_succ, i64_w, i32_w]
                     rfl
                    refine pure_ (i := 27) (N := some 208) (v := undef) (a' := ?_) Mk40_116_ rfl rfl (any_of HT_.out (by kernel_rfl)) (fun _ _ _ h => h) (Or.inr ⟨by rfl, rfl⟩) ?_ ?_
                    rotate_left
                    ·simp only [Act.put, List.setIfInBounds_toArray, List.set_cons_zero, List.set_cons_succ, i64_w, i32_w]
                     rfl
                    refine pure_ (i := 28) (N := some 209) (v := undef) (a' := ?_) Mk40_117_ rfl rfl (any_of HT_.out (by kernel_rfl)) (fun _ _ _ h => h) (Or.inr ⟨by rfl, rfl⟩) ?_ ?_
                    rotate_left
                    ·simp only [Act.put, List.setIfInBounds_toArray, List.set_cons_zero, List.set_cons_succ, i64_w, i32_w]
                     rfl
                    refine pure_ (i := 29) (N := some 210) (v := undef) (a' := ?_) Mk40_118_ rfl rfl (any_of HT_.out (by kernel_rfl)) (fun _ _ _ h => h) (Or.inr ⟨by rfl, rfl⟩) ?_ ?_
                    rotate_left
                    ·simp only [Act.put, List.setIfInBounds_toArray, List.set_cons_zero, List.set_cons_succ, i64_w, i32_w]
                     rfl
                    refine pure_ (i := 30) (N := some 211) (v := undef) (a' := ?_) Mk40_119_ rfl rfl (any_of HT_.out (by kernel_rfl)) (fun _ _ _ h => h) (Or.inr ⟨by rfl, rfl⟩) ?_ ?_
                    rotate_left
                    ·simp only [Act.put, List.setIfInBounds_toArray, List.set_cons_zero, List.set_cons_succ, i64_w, i32_w]
                     rfl
                    refine pure_ (i := 31) (N := some 212) (v := undef) (a' := ?_) Mk40_120_ rfl rfl (any_of HT_.out (by kernel_rfl)) (fun _ _ _ h => h) (Or.inr ⟨by rfl, rfl⟩) ?_ ?_
                    rotate_left
                    ·simp only [Act.put, List.setIfInBounds_toArray, List.set_cons_zero, List.set_cons_succ, i64_w, i32_w]
                     rfl
                    refine pure_ (i := 32) (N := some 213) (v := undef) (a' := ?_) Mk40_121_ rfl rfl (any_of HT_.out (by kernel_rfl)) (fun _ _ _ h => h) (Or.inr ⟨by rfl, rfl⟩) ?_ ?_
                    rotate_left
                    ·simp only [Act.put, List.setIfInBounds_toArray, List.set_cons_zero, List.set_cons_succ, i64_w, i32_w]
                     rfl
                    refine pure_ (i := 33) (N := some 214) (v := undef) (a' := ?_) Mk40_122_ rfl rfl (any_of HT_.out (by kernel_rfl)) (fun _ _ _ h => h) (Or.inr ⟨by rfl, rfl⟩) ?_ ?_
                    rotate_left
                    ·simp only [Act.put, List.setIfInBounds_toArray, List.set_cons_zero, List.set_cons_succ, i64_w, i32_w]
                     rfl
                    refine pure_ (i := 34) (N := some 215) (v := ?_) (a' := ?_) Mk40_123_ rfl rfl (any_of HT_.out (by kernel_rfl)) (fun _ _ _ h => h) (Or.inl ⟨by rfl, ?_⟩) ?_ ?_; rotate_left; intro w'; go_simp; with_reducible rfl; rotate_left; simp only [Act.put, List.setIfInBounds_toArray, List.set_cons_zero, List.set_cons_succ, i64_w, i32_w]; rfl
                    refine pure_ (i := 35) (N := some 216) (v := ?_) (a' := ?_) Mk40_124_ rfl rfl (any_of HT_.out (by kernel_rfl)) (fun _ _ _ h => h) (Or.inl ⟨by rfl, ?_⟩) ?_ ?_; rotate_left; intro w'; go_simp; with_reducible rfl; rotate_left; simp only [Act.put, List.setIfInBounds_toArray, List.set_cons_zero, List.set_cons_succ, i64_w, i32_w]; rfl
                    refine pure_ (i := 36) (N := some 217) (v := ?_) (a' := ?_) Mk40_125_ rfl rfl (any_of HT_.out (by kernel_rfl)) (fun _ _ _ h => h) (Or.inl ⟨by rfl, ?_⟩) ?_ ?_; rotate_left; intro w'; go_simp; with_reducible rfl; rotate_left; simp only [Act.put, List.setIfInBounds_toArray, List.set_cons_zero, List.set_cons_succ, i64_w, i32_w]; rfl
                    refine one_ (i := 37) (N := some 218) Mk40_126_ rfl rfl (one_of HT_.out (by kernel_rfl)) (by decide) (fun K hK => ?_)
                    refine goes_ Try.func11 (by kernel_rfl) rfl #[] (by rfl) rfl rfl (by (try simp only [List.map_toArray, List.map_cons, List.map_nil]); first | done | rfl | (simp only [List.length_drop, List.length_take]; rfl)) ?_
                    with_reducible refine (parrylaw1_awake.calls k1  t230 _ A105.out).mono ?_
                    rintro e w108 ⟨rfl, hb⟩
                    refine ⟨_, rfl, ?_⟩
                    have n0_ := Aside0.mk (Kd.R_below (by (with_reducible repeat (first | apply Kd.R_alloc | apply Kd.R_drewN | apply Kd.R_drew)); exact HO_9.out) hb)
                    have n1_ := Aside0.mk (Kd.R_below (by (with_reducible repeat (first | apply Kd.R_alloc | apply Kd.R_drewN | apply Kd.R_drew)); exact HO_13.out) hb)
                    have n2_ := Aside0.mk (Kd.R_below (by (with_reducible repeat (first | apply Kd.R_alloc | apply Kd.R_drewN | apply Kd.R_drew)); exact HO_15.out) hb)
                    have n3_ := Aside0.mk (below_step (by repeat (first | (with_reducible first | exact HB.out | apply below_alloc | apply pw_below_drewN | apply below_drew1) | exact HB.out)) hb)
                    clear HO_9
                    clear HO_13
                    clear HO_15
                    clear HB
                    have HO_9 := n0_
                    have HO_13 := n1_
                    have HO_15 := n2_
                    have HB := n3_
                    clear n0_ n1_ n2_ n3_
                    (try clear hb)
                    (try clear hb2)
                    (try clear hk)
                    (try clear hi)
                    refine hK.out _ _ trivial (fun hHeld => ?_)
                    clear hK K
                    refine norm_ (a' := ?_) ?_ ?_
                    rotate_left
                    ·show Act.put _ (some 218) _ = _
                     simp only [Act.put, List.setIfInBounds_toArray, List.set_cons_zero, List.set_cons_succ, i64_w, i32_w]
                     rfl
                    refine pure_ (i := 38) (N := some 219) (v := ?_) (a' := ?_) Mk40_127_ rfl rfl (any_of HT_.out (by kernel_rfl)) (fun _ _ _ h => h) (Or.inl ⟨by rfl, ?_⟩) ?_ ?_; rotate_left; intro w'; go_simp; with_reducible rfl; rotate_left; simp only [Act.put, List.setIfInBounds_toArray, List.set_cons_zero, List.set_cons_succ, i64_w, i32_w]; rfl
                    refine pure_ (i := 39) (N := some 8) (v := ?_) (a' := ?_) Mk40_128_ rfl rfl (any_of HT_.out (by kernel_rfl)) (fun _ _ _ h => h) (Or.inl ⟨by rfl, ?_⟩) ?_ ?_; rotate_left; intro w'; go_simp; with_reducible rfl; rotate_left; simp only [Act.put, List.setIfInBounds_toArray, List.set_cons_zero, List.set_cons_succ, i64_w, i32_w]; rfl
                    refine done_ (done_of HT_.out (by kernel_rfl)) ?_
                    try go_wp2
                    go_ret
                    exact ⟨by first | rfl | (simp [errW_none, errW_some] <;> rfl) | (simp [*, errW_none, errW_some] <;> rfl), by repeat (first | (with_reducible first | exact HB.out | apply below_alloc | apply pw_below_drewN | apply below_drew1) | exact HB.out)⟩
                   ·rw [if_neg c104] at H
                    have c104b0 : decide ((l0.length : Int) ≤ a2) = false := decide_eq_false c104
                    clear c104
                    by_cases c109 : 0 ≤ a2
                    ·rw [if_pos c109] at H
                     have c109b0 : decide (0 ≤ a2) = true := decide_eq_true c109
                     clear c109
                     by_cases c110 : a2 < (l0.length : Int)
                     ·rw [if_pos c110] at H
                      have c110b0 : decide (a2 < (l0.length : Int)) = true := decide_eq_true c110
                      clear c110
                      by_cases c111 : a3 < ((rd_T28 l0 a2).f3)
                      ·rw [if_pos c111] at H
                       have c111b0 : decide (a3 < ((rd_T28 l0 a2).f3)) = true := decide_eq_true c111
                       clear c111
                       replace H := Option.bind_eq_some_iff.mp H
                       obtain ⟨t232, A1120, H⟩ := H
                       replace H : (some t232) = some r := H
                       have A112 := Aside0.mk A1120
                       clear A1120
                       obtain rfl := Option.some.inj H
                       try go_wp2_with (first | ((with_reducible refine gate_callee (f := 22) rfl ?_); refine goesL_ (some 176) rfl rfl Try.func22 (by kernel_rfl) rfl #[.slice A0 l0.length c0, .int .i64 (wrap64 (Int.tmod (IntKind.u64.wrap (a1)) (IntKind.u64.wrap (t193)))), .int .i64 a2, .int .i64 a3] rfl (by (try simp only [List.map_toArray, List.map_cons, List.map_nil]); first | done | rfl | (simp only [List.length_drop, List.length_take]; rfl)) ?_; (with_reducible refine (dom_With.calls k1 _ _ l0 (wrap64 (Int.tmod (IntKind.u64.wrap (a1)) (IntKind.u64.wrap (t193)))) a2 a3 t219 false _ ?side1 ?side2 A75.out).mono ?_); (case side1 => repeat (first | exact (Kd.C_below HR0.out HB.out) | (with_reducible refine Kd.C_alloc ?_ _) | (with_reducible refine Kd.C_drewN ?_ _) | (with_reducible refine Kd.C_drew ?_))); (case side2 => exact HC0.out); rintro e w113 ⟨rfl, hb⟩; refine ⟨_, rfl, ?_⟩; have n0_ := Aside0.mk (Kd.R_below (by (with_reducible repeat (first | apply Kd.R_alloc | apply Kd.R_drewN | apply Kd.R_drew)); exact HO_9.out) hb); have n1_ := Aside0.mk (Kd.R_below (by (with_reducible repeat (first | apply Kd.R_alloc | apply Kd.R_drewN | apply Kd.R_drew)); exact HO_13.out) hb); have n2_ := Aside0.mk (Kd.R_below (by (with_reducible repeat (first | apply Kd.R_alloc | apply Kd.R_drewN | apply Kd.R_drew)); exact HO_15.out) hb); have n3_ := Aside0.mk (below_step (by repeat (first | (with_reducible first | exact HB.out | apply below_alloc | apply pw_below_drewN | apply below_drew1) | exact HB.out)) hb); clear HO_9; clear HO_13; clear HO_15; clear HB; have HO_9 := n0_; have HO_13 := n1_; have HO_15 := n2_; have HB := n3_; clear n0_ n1_ n2_ n3_; (try clear hb); (try clear hb2); (try clear hk); (try clear hi)))
                       have n0_ := Aside0.mk (Kd.R_drew HO_9.out)
                       have n1_ := Aside0.mk (Kd.R_drew HO_13.out)
                       have n2_ := Aside0.mk (Kd.R_drew HO_15.out)
                       have n3_ := Aside0.mk (below_drew1 HB.out)
                       clear HO_9
                       clear HO_13
                       clear HO_15
                       clear HB
                       have HO_9 := n0_
                       have HO_13 := n1_
                       have HO_15 := n2_
                       have HB := n3_
                       clear n0_ n1_ n2_ n3_
                       have p231 : 0 ≤ (a2 : Int) := of_decide_eq_true (by first | (with_reducible assumption) | assumption)
                       have q231 : a2 < (l0.length : Int) := of_decide_eq_true (by first | (with_reducible assumption) | assumption)
                       obtain ⟨ad231, e231, hx231_0, hx231_1, hx231_2, hx231_3, hx231_4⟩ := at_T28 HR0.out a2 p231 q231
                       have hw231_4 := hx231_4
                       have hw231_3 := hx231_3
                       have hw231_2 := hx231_2
                       have hw231_1 := hx231_1
                       have hw231_0 := hx231_0
                       cases e231
                       replace hx231_0 := (HB.out.cell (World.block_lt_of_cell? w _ hx231_0)).trans hx231_0
                       replace hx231_1 := (HB.out.cell (World.block_lt_of_cell? w _ hx231_1)).trans hx231_1
                       replace hx231_2 := (HB.out.cell (World.block_lt_of_cell? w _ hx231_2)).trans hx231_2
                       replace hx231_3 := (HB.out.cell (World.block_lt_of_cell? w _ hx231_3)).trans hx231_3
                       replace hx231_4 := (HB.out.cell (World.block_lt_of_cell? w _ hx231_4)).trans hx231_4
                       replace p231 := eq_true p231
                       replace q231 := eq_true q231
                       refine start_ (n := 40) (S := fun w' => w'.cell? (ad231.add ((a2).toNat * 5)) = some (.string ((rd_T28 l0 a2).f0)) ∧ w'.cell? ⟨(ad231.add ((a2).toNat * 5)).block, (ad231.add ((a2).toNat * 5)).off + 1, none⟩ = some (.bool ((rd_T28 l0 a2).f1)) ∧ w'.cell? ⟨(ad231.add ((a2).toNat * 5)).block, (ad231.add ((a2).toNat * 5)).off + 2, none⟩ = some (.int .i64 ((rd_T28 l0 a2).f2)) ∧ w'.cell? ⟨(ad231.add ((a2).toNat * 5)).block, (ad231.add ((a2).toNat * 5)).off + 3, none⟩ = some (.int .i64 ((rd_T28 l0 a2).f3)) ∧ w'.cell? ⟨(ad231.add ((a2).toNat * 5)).block, (ad231.add ((a2).toNat * 5)).off + 4, none⟩ = some (.int .i64 ((rd_T28 l0 a2).f4))) (ds := []) Mk40_88_ (by kernel_rfl) rfl rfl ⟨((HB.out.cell (World.block_lt_of_cell? w _ hw231_0)).trans hw231_0), ((HB.out.cell (World.block_lt_of_cell? w _ hw231_1)).trans hw231_1), ((HB.out.cell (World.block_lt_of_cell? w _ hw231_2)).trans hw231_2), ((HB.out.cell (World.block_lt_of_cell? w _ hw231_3)).trans hw231_3), ((HB.out.cell (World.block_lt_of_cell? w _ hw231_4)).trans hw231_4)⟩ (fun hHeld => ?_); refine with_tabW parrylaw1_DomParts.tab18 parrylaw1_DomParts.bits18 (fun HT_ HW_ => ?_)
                       generalize w113.drew = w114 at HO_9 HO_13 HO_15 HB hx231_0 hx231_1 hx231_2 hx231_3 hx231_4 hHeld ⊢
                       refine pure_ (i := 0) (N := some 181) (v := ?_) (a' := ?_) Mk40_89_ rfl rfl (any_of HT_.out (by kernel_rfl)) (fun _ _ _ h => h) (Or.inl ⟨by rfl, ?_⟩) ?_ ?_; rotate_left; intro w'; go_simp; with_reducible rfl; rotate_left; simp only [Act.put, List.setIfInBounds_toArray, List.set_cons_zero, List.set_cons_succ, i64_w, i32_w]; rfl
                       refine pure_ (i := 1) (N := some 182) (v := ?_) (a' := ?_) Mk40_90_ rfl rfl (any_of HT_.out (by kernel_rfl)) (fun _ _ _ h => h) (Or.inl ⟨by rfl, ?_⟩) ?_ ?_; rotate_left; intro w'; go_simp; with_reducible rfl; rotate_left; simp only [Act.put, List.setIfInBounds_toArray, List.set_cons_zero, List.set_cons_succ, i64_w, i32_w]; rfl
                       refine pure_ (i := 2) (N := some 183) (v := ?_) (a' := ?_) Mk40_91_ rfl rfl (any_of HT_.out (by kernel_rfl)) (fun _ _ _ h => h) (Or.inl ⟨by rfl, ?_⟩) ?_ ?_; rotate_left; intro w'; go_simp; with_reducible rfl; rotate_left; simp only [Act.put, List.setIfInBounds_toArray, List.set_cons_zero, List.set_cons_succ, i64_w, i32_w]; rfl
                       refine pure_ (i := 3) (N := some 184) (v := ?_) (a' := ?_) Mk40_92_ rfl rfl (any_of HT_.out (by kernel_rfl)) (fun _ _ _ h => h) (Or.inl ⟨by rfl, ?_⟩) ?_ ?_; rotate_left; intro w'; go_simp; with_reducible rfl; rotate_left; simp only [Act.put, List.setIfInBounds_toArray, List.set_cons_zero, List.set_cons_succ, i64_w, i32_w]; rfl
                       refine pure_ (i := 4) (N := some 185) (v := ?_) (a' := ?_) Mk40_93_ rfl rfl (any_of HT_.out (by kernel_rfl)) (fun _ _ _ h => h) (Or.inl ⟨by rfl, ?_⟩) ?_ ?_; rotate_left; intro w'; go_simp; with_reducible rfl; rotate_left; simp only [Act.put, List.setIfInBounds_toArray, List.set_cons_zero, List.set_cons_succ, i64_w, i32_w]; rfl
                       refine pure_ (i := 5) (N := some 186) (v := ?_) (a' := ?_) Mk40_94_ rfl rfl (any_of HT_.out (by kernel_rfl)) (fun _ _ _ h => h) (Or.inl ⟨by rfl, ?_⟩) ?_ ?_; rotate_left; intro w'; go_simp; with_reducible rfl; rotate_left; simp only [Act.put, List.setIfInBounds_toArray, List.set_cons_zero, List.set_cons_succ, i64_w, i32_w]; rfl
                       refine pure_ (i := 6) (N := some 187) (v := ?_) (a' := ?_) Mk40_95_ rfl rfl (any_of HT_.out (by kernel_rfl)) (fun _ _ _ h => h) (Or.inl ⟨by rfl, ?_⟩) ?_ ?_; rotate_left; intro w'; go_simp; with_reducible rfl; rotate_left; simp only [Act.put, List.setIfInBounds_toArray, List.set_cons_zero, List.set_cons_succ, i64_w, i32_w]; rfl
                       refine pure_ (i := 7) (N := some 188) (v := ?_) (a' := ?_) Mk40_96_ rfl rfl (any_of HT_.out (by kernel_rfl)) (fun _ _ _ h => h) (Or.inl ⟨by rfl, ?_⟩) ?_ ?_; rotate_left; intro w'; go_simp; with_reducible rfl; rotate_left; simp only [Act.put, List.setIfInBounds_toArray, List.set_cons_zero, List.set_cons_succ, i64_w, i32_w]; rfl
                       refine pure_ (i := 8) (N := some 189) (v := ?_) (a' := ?_) Mk40_97_ rfl rfl (any_of HT_.out (by kernel_rfl)) (fun _ _ _ h => h) (Or.inl ⟨by rfl, ?_⟩) ?_ ?_; rotate_left; intro w'; go_simp; with_reducible rfl; rotate_left; simp only [Act.put, List.setIfInBounds_toArray, List.set_cons_zero, List.set_cons_succ, i64_w, i32_w]; rfl
                       refine pure_ (i := 9) (N := some 190) (v := ?_) (a' := ?_) Mk40_98_ rfl rfl (any_of HT_.out (by kernel_rfl)) (fun _ _ _ h => h) (Or.inl ⟨by rfl, ?_⟩) ?_ ?_; rotate_left; intro w'; go_simp; with_reducible rfl; rotate_left; simp only [Act.put, List.setIfInBounds_toArray, List.set_cons_zero, List.set_cons_succ, i64_w, i32_w]; rfl
                       refine pure_ (i := 10) (N := some 191) (v := ?_) (a' := ?_) Mk40_99_ rfl rfl (any_of HT_.out (by kernel_rfl)) (fun _ _ _ h => h) (Or.inl ⟨by rfl, ?_⟩) ?_ ?_; rotate_left; intro w'; go_simp; with_reducible rfl; rotate_left; simp only [Act.put, List.setIfInBounds_toArray, List.set_cons_zero, List.set_cons_succ, i64_w, i32_w]; rfl
                       refine pure_ (i := 11) (N := some 192) (v := ?_) (a' := ?_) Mk40_100_ rfl rfl (any_of HT_.out (by kernel_rfl)) (fun _ _ _ h => h) (Or.inl ⟨by rfl, ?_⟩) ?_ ?_; rotate_left; intro w'; go_simp; with_reducible rfl; rotate_left; simp only [Act.put, List.setIfInBounds_toArray, List.set_cons_zero, List.set_cons_succ, i64_w, i32_w]; rfl
                       refine pure_ (i := 12) (N := some 193) (v := ?_) (a' := ?_) Mk40_101_ rfl rfl (any_of HT_.out (by kernel_rfl)) (fun _ _ _ h => h) (Or.inl ⟨by rfl, ?_⟩) ?_ ?_; rotate_left; intro w'; go_simp; with_reducible rfl; rotate_left; simp only [Act.put, List.setIfInBounds_toArray, List.set_cons_zero, List.set_cons_succ, i64_w, i32_w]; rfl
                       refine pure_ (i := 13) (N := some 194) (v := ?_) (a' := ?_) Mk40_102_ rfl rfl (any_of HT_.out (by kernel_rfl)) (fun _ _ _ h => h) (Or.inl ⟨by rfl, ?_⟩) ?_ ?_; rotate_left; intro w'; go_simp; with_reducible rfl; rotate_left; simp only [Act.put, List.setIfInBounds_toArray, List.set_cons_zero, List.set_cons_succ, i64_w, i32_w]; rfl
                       refine pure_ (i := 14) (N := some 195) (v := ?_) (a' := ?_) Mk40_103_ rfl rfl (any_of HT_.out (by kernel_rfl)) (fun _ _ _ h => h) (Or.inl ⟨by rfl, ?_⟩) ?_ ?_; rotate_left; intro w'; go_simp; with_reducible rfl; rotate_left; simp only [Act.put, List.setIfInBounds_toArray, List.set_cons_zero, List.set_cons_succ, i64_w, i32_w]; rfl
                       refine pure_ (i := 15) (N := some 196) (v := ?_) (a' := ?_) Mk40_104_ rfl rfl (any_of HT_.out (by kernel_rfl)) (fun _ _ _ h => h) (Or.inl ⟨by rfl, ?_⟩) ?_ ?_; rotate_left; intro w'; go_simp; with_reducible rfl; rotate_left; simp only [Act.put, List.setIfInBounds_toArray, List.set_cons_zero, List.set_cons_succ, i64_w, i32_w]; rfl
                       refine pure_ (i := 16) (N := some 197) (v := ?_) (a' := ?_) Mk40_105_ rfl rfl (any_of HT_.out (by kernel_rfl)) (fun _ _ _ h => h) (Or.inl ⟨by rfl, ?_⟩) ?_ ?_; rotate_left; intro w'; go_simp; with_reducible rfl; rotate_left; simp only [Act.put, List.setIfInBounds_toArray, List.set_cons_zero, List.set_cons_succ, i64_w, i32_w]; rfl
                       refine take_ (i := 17) (N := some 198) (v := ?_) (a' := ?_) Mk40_106_ rfl rfl (take_ofW HT_.out HW_.out (by kernel_rfl)) (fun _ _ _ h => h) (Or.inl ⟨by rfl, ?_⟩) hHeld ?_ ?_
                       rotate_left
                       ·rintro w' ⟨s0, s1, s2, s3, s4⟩
                        go_simp
                        with_reducible rfl
                       rotate_left
                       ·simp only [Act.put, List.setIfInBounds_toArray, List.set_cons_zero, List.set_cons_succ, i64_w, i32_w]
                        rfl
                       refine pure_ (i := 18) (N := some 199) (v := ?_) (a' := ?_) Mk40_107_ rfl rfl (any_of HT_.out (by kernel_rfl)) (fun _ _ _ h => h) (Or.inl ⟨by rfl, ?_⟩) ?_ ?_; rotate_left; intro w'; go_simp; with_reducible rfl; rotate_left; simp only [Act.put, List.setIfInBounds_toArray, List.set_cons_zero, List.set_cons_succ, i64_w, i32_w]; rfl
                       refine pure_ (i := 19) (N := some 200) (v := ?_) (a' := ?_) Mk40_108_ rfl rfl (any_of HT_.out (by kernel_rfl)) (fun _ _ _ h => h) (Or.inl ⟨by rfl, ?_⟩) ?_ ?_; rotate_left; intro w'; go_simp; with_reducible rfl; rotate_left; simp only [Act.put, List.setIfInBounds_toArray, List.set_cons_zero, List.set_cons_succ, i64_w, i32_w]; rfl
                       refine pure_ (i := 20) (N := some 201) (v := ?_) (a' := ?_) Mk40_109_ rfl rfl (any_of HT_.out (by kernel_rfl)) (fun _ _ _ h => h) (Or.inl ⟨by rfl, ?_⟩) ?_ ?_; rotate_left; intro w'; go_simp; with_reducible rfl; rotate_left; simp only [Act.put, List.setIfInBounds_toArray, List.set_cons_zero, List.set_cons_succ, i64_w, i32_w]; rfl
                       refine pure_ (i := 21) (N := some 202) (v := undef) (a' := ?_) Mk40_110_ rfl rfl (any_of HT_.out (by kernel_rfl)) (fun _ _ _ h => h) (Or.inr ⟨by rfl, rfl⟩) ?_ ?_
                       rotate_left
                       ·simp only [Act.put, List.setIfInBounds_toArray, List.set_cons_zero, List.set_cons_succ, i64_w, i32_w]
                        rfl
                       refine pure_ (i := 22) (N := some 203) (v := undef) (a' := ?_) Mk40_111_ rfl rfl (any_of HT_.out (by kernel_rfl)) (fun _ _ _ h => h) (Or.inr ⟨by rfl, rfl⟩) ?_ ?_
                       rotate_left
                       ·simp only [Act.put, List.setIfInBounds_toArray, List.set_cons_zero, List.set_cons_succ, i64_w, i32_w]
                        rfl
                       refine pure_ (i := 23) (N := some 204) (v := undef) (a' := ?_) Mk40_112_ rfl rfl (any_of HT_.out (by kernel_rfl)) (fun _ _ _ h => h) (Or.inr ⟨by rfl, rfl⟩) ?_ ?_
                       rotate_left
                       ·simp only [Act.put, List.setIfInBounds_toArray, List.set_cons_zero, List.set_cons_succ, i64_w, i32_w]
                        rfl
                       refine pure_ (i := 24) (N := some 205) (v := undef) (a' := ?_) Mk40_113_ rfl rfl (any_of HT_.out (by kernel_rfl)) (fun _ _ _ h => h) (Or.inr ⟨by rfl, rfl⟩) ?_ ?_
                       rotate_left
                       ·simp only [Act.put, List.setIfInBounds_toArray, List.set_cons_zero, List.set_cons_succ, i64_w, i32_w]
                        rfl
                       refine pure_ (i := 25) (N := some 206) (v := undef) (a' := ?_) Mk40_114_ rfl rfl (any_of HT_.out (by kernel_rfl)) (fun _ _ _ h => h) (Or.inr ⟨by rfl, rfl⟩) ?_ ?_
                       rotate_left
                       ·simp only [Act.put, List.setIfInBounds_toArray, List.set_cons_zero, List.set_cons_succ, i64_w, i32_w]
                        rfl
                       refine pure_ (i := 26) (N := some 207) (v := undef) (a' := ?_) Mk40_115_ rfl rfl (any_of HT_.out (by kernel_rfl)) (fun _ _ _ h => h) (Or.inr ⟨by rfl, rfl⟩) ?_ ?_
                       rotate_left
                       ·simp only [Act.put, List.setIfInBounds_toArray, List.set_cons_zero, List.set_cons_succ, i64_w, i32_w]
                        rfl
                       refine pure_ (i := 27) (N := some 208) (v := undef) (a' := ?_) Mk40_116_ rfl rfl (any_of HT_.out (by kernel_rfl)) (fun _ _ _ h => h) (Or.inr ⟨by rfl, rfl⟩) ?_ ?_
                       rotate_left
                       ·simp only [Act.put, List.setIfInBounds_toArray, List.set_cons_zero, List.set_cons_succ, i64_w, i32_w]
                        rfl
                       refine pure_ (i := 28) (N := some 209) (v := undef) (a' := ?_) Mk40_117_ rfl rfl (any_of HT_.out (by kernel_rfl)) (fun _ _ _ h => h) (Or.inr ⟨by rfl, rfl⟩) ?_ ?_
                       rotate_left
                       ·simp only [Act.put, List.setIfInBounds_toArray, List.set_cons_zero, List.set_cons_succ, i64_w, i32_w]
                        rfl
                       refine pure_ (i := 29) (N := some 210) (v := undef) (a' := ?_) Mk40_118_ rfl rfl (any_of HT_.out (by kernel_rfl)) (fun _ _ _ h => h) (Or.inr ⟨by rfl, rfl⟩) ?_ ?_
                       rotate_left
                       ·simp only [Act.put, List.setIfInBounds_toArray, List.set_cons_zero, List.set_cons_succ, i64_w, i32_w]
                        rfl
                       refine pure_ (i := 30) (N := some 211) (v := undef) (a' := ?_) Mk40_119_ rfl rfl (any_of HT_.out (by kernel_rfl)) (fun _ _ _ h => h) (Or.inr ⟨by rfl, rfl⟩) ?_ ?_
                       rotate_left
                       ·simp only [Act.put, List.setIfInBounds_toArray, List.set_cons_zero, List.set_cons_succ, i64_w, i32_w]
                        rfl
                       refine pure_ (i := 31) (N := some 212) (v := undef) (a' := ?_) Mk40_120_ rfl rfl (any_of HT_.out (by kernel_rfl)) (fun _ _ _ h => h) (Or.inr ⟨by rfl, rfl⟩) ?_ ?_
                       rotate_left
                       ·simp only [Act.put, List.setIfInBounds_toArray, List.set_cons_zero, List.set_cons_succ, i64_w, i32_w]
                        rfl
                       refine pure_ (i := 32) (N := some 213) (v := undef) (a' := ?_) Mk40_121_ rfl rfl (any_of HT_.out (by kernel_rfl)) (fun _ _ _ h => h) (Or.inr ⟨by rfl, rfl⟩) ?_ ?_
                       rotate_left
                       ·simp only [Act.put, List.setIfInBounds_toArray, List.set_cons_zero, List.set_cons_succ, i64_w, i32_w]
                        rfl
                       refine pure_ (i := 33) (N := some 214) (v := undef) (a' := ?_) Mk40_122_ rfl rfl (any_of HT_.out (by kernel_rfl)) (fun _ _ _ h => h) (Or.inr ⟨by rfl, rfl⟩) ?_ ?_
                       rotate_left
                       ·simp only [Act.put, List.setIfInBounds_toArray, List.set_cons_zero, List.set_cons_succ, i64_w, i32_w]
                        rfl
                       refine pure_ (i := 34) (N := some 215) (v := ?_) (a' := ?_) Mk40_123_ rfl rfl (any_of HT_.out (by kernel_rfl)) (fun _ _ _ h => h) (Or.inl ⟨by rfl, ?_⟩) ?_ ?_; rotate_left; intro w'; go_simp; with_reducible rfl; rotate_left; simp only [Act.put, List.setIfInBounds_toArray, List.set_cons_zero, List.set_cons_succ, i64_w, i32_w]; rfl
                       refine pure_ (i := 35) (N := some 216) (v := ?_) (a' := ?_) Mk40_124_ rfl rfl (any_of HT_.out (by kernel_rfl)) (fun _ _ _ h => h) (Or.inl ⟨by rfl, ?_⟩) ?_ ?_; rotate_left; intro w'; go_simp; with_reducible rfl; rotate_left; simp only [Act.put, List.setIfInBounds_toArray, List.set_cons_zero, List.set_cons_succ, i64_w, i32_w]; rfl
                       refine pure_ (i := 36) (N := some 217) (v := ?_) (a' := ?_) Mk40_125_ rfl rfl (any_of HT_.out (by kernel_rfl)) (fun _ _ _ h => h) (Or.inl ⟨by rfl, ?_⟩) ?_ ?_; rotate_left; intro w'; go_simp; with_reducible rfl; rotate_left; simp only [Act.put, List.setIfInBounds_toArray, List.set_cons_zero, List.set_cons_succ, i64_w, i32_w]; rfl
                       refine one_ (i := 37) (N := some 218) Mk40_126_ rfl rfl (one_of HT_.out (by kernel_rfl)) (by decide) (fun K hK => ?_)
                       refine goes_ Try.func11 (by kernel_rfl) rfl #[] (by rfl) rfl rfl (by (try simp only [List.map_toArray, List.map_cons, List.map_nil]); first | done | rfl | (simp only [List.length_drop, List.length_take]; rfl)) ?_
                       with_reducible refine (parrylaw1_awake.calls k1  t232 _ A112.out).mono ?_
                       rintro e w115 ⟨rfl, hb⟩
                       refine ⟨_, rfl, ?_⟩
                       have n0_ := Aside0.mk (Kd.R_below (by (with_reducible repeat (first | apply Kd.R_alloc | apply Kd.R_drewN | apply Kd.R_drew)); exact HO_9.out) hb)
                       have n1_ := Aside0.mk (Kd.R_below (by (with_reducible repeat (first | apply Kd.R_alloc | apply Kd.R_drewN | apply Kd.R_drew)); exact HO_13.out) hb)
                       have n2_ := Aside0.mk (Kd.R_below (by (with_reducible repeat (first | apply Kd.R_alloc | apply Kd.R_drewN | apply Kd.R_drew)); exact HO_15.out) hb)
                       have n3_ := Aside0.mk (below_step (by repeat (first | (with_reducible first | exact HB.out | apply below_alloc | apply pw_below_drewN | apply below_drew1) | exact HB.out)) hb)
                       clear HO_9
                       clear HO_13
                       clear HO_15
                       clear HB
                       have HO_9 := n0_
                       have HO_13 := n1_
                       have HO_15 := n2_
                       have HB := n3_
                       clear n0_ n1_ n2_ n3_
                       (try clear hb)
                       (try clear hb2)
                       (try clear hk)
                       (try clear hi)
                       refine hK.out _ _ ⟨((HB.out.cell (World.block_lt_of_cell? w _ hw231_0)).trans hw231_0), ((HB.out.cell (World.block_lt_of_cell? w _ hw231_1)).trans hw231_1), ((HB.out.cell (World.block_lt_of_cell? w _ hw231_2)).trans hw231_2), ((HB.out.cell (World.block_lt_of_cell? w _ hw231_3)).trans hw231_3), ((HB.out.cell (World.block_lt_of_cell? w _ hw231_4)).trans hw231_4)⟩ (fun hHeld => ?_)
                       clear hK K
                       refine norm_ (a' := ?_) ?_ ?_
                       rotate_left
                       ·show Act.put _ (some 218) _ = _
                        simp only [Act.put, List.setIfInBounds_toArray, List.set_cons_zero, List.set_cons_succ, i64_w, i32_w]
                        rfl
                       refine pure_ (i := 38) (N := some 219) (v := ?_) (a' := ?_) Mk40_127_ rfl rfl (any_of HT_.out (by kernel_rfl)) (fun _ _ _ h => h) (Or.inl ⟨by rfl, ?_⟩) ?_ ?_; rotate_left; intro w'; go_simp; with_reducible rfl; rotate_left; simp only [Act.put, List.setIfInBounds_toArray, List.set_cons_zero, List.set_cons_succ, i64_w, i32_w]; rfl
                       refine pure_ (i := 39) (N := some 8) (v := ?_) (a' := ?_) Mk40_128_ rfl rfl (any_of HT_.out (by kernel_rfl)) (fun _ _ _ h => h) (Or.inl ⟨by rfl, ?_⟩) ?_ ?_; rotate_left; intro w'; go_simp; with_reducible rfl; rotate_left; simp only [Act.put, List.setIfInBounds_toArray, List.set_cons_zero, List.set_cons_succ, i64_w, i32_w]; rfl
                       refine done_ (done_of HT_.out (by kernel_rfl)) ?_
                       try go_wp2
                       go_ret
                       exact ⟨by first | rfl | (simp [errW_none, errW_some] <;> rfl) | (simp [*, errW_none, errW_some] <;> rfl), by repeat (first | (with_reducible first | exact HB.out | apply below_alloc | apply pw_below_drewN | apply below_drew1) | exact HB.out)⟩
                      ·rw [if_neg c111] at H
                       have c111b0 : decide (a3 < ((rd_T28 l0 a2).f3)) = false := decide_eq_false c111
                       clear c111
                       replace H := Option.bind_eq_some_iff.mp H
                       obtain ⟨t235, A1160, H⟩ := H
                       replace H : (if a3 ≥ (wrap64 (((rd_T28 l0 a2).f3) + t235)) then ((parrylaw1_awake.f k1).bind fun t236 => (some t236)) else (some false)) = some r := H
                       have A116 := Aside0.mk A1160
                       clear A1160
                       by_cases c117 : a3 ≥ (wrap64 (((rd_T28 l0 a2).f3) + t235))
                       ·rw [if_pos c117] at H
                        have c117b0 : decide ((wrap64 (((rd_T28 l0 a2).f3) + t235)) ≤ a3) = true := decide_eq_true c117
                        clear c117
                        replace H := Option.bind_eq_some_iff.mp H
                        obtain ⟨t236, A1180, H⟩ := H
                        replace H : (some t236) = some r := H
                        have A118 := Aside0.mk A1180
                        clear A1180
                        obtain rfl := Option.some.inj H
                        try go_wp2_with (first | ((with_reducible refine gate_callee (f := 22) rfl ?_); refine goesL_ (some 176) rfl rfl Try.func22 (by kernel_rfl) rfl #[.slice A0 l0.length c0, .int .i64 (wrap64 (Int.tmod (IntKind.u64.wrap (a1)) (IntKind.u64.wrap (t193)))), .int .i64 a2, .int .i64 a3] rfl (by (try simp only [List.map_toArray, List.map_cons, List.map_nil]); first | done | rfl | (simp only [List.length_drop, List.length_take]; rfl)) ?_; (with_reducible refine (dom_With.calls k1 _ _ l0 (wrap64 (Int.tmod (IntKind.u64.wrap (a1)) (IntKind.u64.wrap (t193)))) a2 a3 t219 false _ ?side1 ?side2 A75.out).mono ?_); (case side1 => repeat (first | exact (Kd.C_below HR0.out HB.out) | (with_reducible refine Kd.C_alloc ?_ _) | (with_reducible refine Kd.C_drewN ?_ _) | (with_reducible refine Kd.C_drew ?_))); (case side2 => exact HC0.out); rintro e w119 ⟨rfl, hb⟩; refine ⟨_, rfl, ?_⟩; have n0_ := Aside0.mk (Kd.R_below (by (with_reducible repeat (first | apply Kd.R_alloc | apply Kd.R_drewN | apply Kd.R_drew)); exact HO_9.out) hb); have n1_ := Aside0.mk (Kd.R_below (by (with_reducible repeat (first | apply Kd.R_alloc | apply Kd.R_drewN | apply Kd.R_drew)); exact HO_13.out) hb); have n2_ := Aside0.mk (Kd.R_below (by (with_reducible repeat (first | apply Kd.R_alloc | apply Kd.R_drewN | apply Kd.R_drew)); exact HO_15.out) hb); have n3_ := Aside0.mk (below_step (by repeat (first | (with_reducible first | exact HB.out | apply below_alloc | apply pw_below_drewN | apply below_drew1) | exact HB.out)) hb); clear HO_9; clear HO_13; clear HO_15; clear HB; have HO_9 := n0_; have HO_13 := n1_; have HO_15 := n2_; have HB := n3_; clear n0_ n1_ n2_ n3_; (try clear hb); (try clear hb2); (try clear hk); (try clear hi)))
                        have n0_ := Aside0.mk (Kd.R_drew HO_9.out)
                        have n1_ := Aside0.mk (Kd.R_drew HO_13.out)
                        have n2_ := Aside0.mk (Kd.R_drew HO_15.out)
                        have n3_ := Aside0.mk (below_drew1 HB.out)
                        clear HO_9
                        clear HO_13
                        clear HO_15
                        clear HB
                        have HO_9 := n0_
                        have HO_13 := n1_
                        have HO_15 := n2_
                        have HB := n3_
                        clear n0_ n1_ n2_ n3_
                        have p231 : 0 ≤ (a2 : Int) := of_decide_eq_true (by first | (with_reducible assumption) | assumption)
                        have q231 : a2 < (l0.length : Int) := of_decide_eq_true (by first | (with_reducible assumption) | assumption)
                        obtain ⟨ad231, e231, hx231_0, hx231_1, hx231_2, hx231_3, hx231_4⟩ := at_T28 HR0.out a2 p231 q231
                        have hw231_4 := hx231_4
                        have hw231_3 := hx231_3
                        have hw231_2 := hx231_2
                        have hw231_1 := hx231_1
                        have hw231_0 := hx231_0
                        cases e231
                        replace hx231_0 := (HB.out.cell (World.block_lt_of_cell? w _ hx231_0)).trans hx231_0
                        replace hx231_1 := (HB.out.cell (World.block_lt_of_cell? w _ hx231_1)).trans hx231_1
                        replace hx231_2 := (HB.out.cell (World.block_lt_of_cell? w _ hx231_2)).trans hx231_2
                        replace hx231_3 := (HB.out.cell (World.block_lt_of_cell? w _ hx231_3)).trans hx231_3
                        replace hx231_4 := (HB.out.cell (World.block_lt_of_cell? w _ hx231_4)).trans hx231_4
                        replace p231 := eq_true p231
                        replace q231 := eq_true q231
                        have p233 : 0 ≤ (a2 : Int) := of_decide_eq_true (by first | (with_reducible assumption) | assumption)
                        have q233 : a2 < (l0.length : Int) := of_decide_eq_true (by first | (with_reducible assumption) | assumption)
                        obtain ⟨ad233, e233, hx233_0, hx233_1, hx233_2, hx233_3, hx233_4⟩ := at_T28 HR0.out a2 p233 q233
                        have hw233_4 := hx233_4
                        have hw233_3 := hx233_3
                        have hw233_2 := hx233_2
                        have hw233_1 := hx233_1
                        have hw233_0 := hx233_0
                        obtain rfl : ad231 = ad233 := (by injection e233)
                        replace hx233_0 := (HB.out.cell (World.block_lt_of_cell? w _ hx233_0)).trans hx233_0
                        replace hx233_1 := (HB.out.cell (World.block_lt_of_cell? w _ hx233_1)).trans hx233_1
                        replace hx233_2 := (HB.out.cell (World.block_lt_of_cell? w _ hx233_2)).trans hx233_2
                        replace hx233_3 := (HB.out.cell (World.block_lt_of_cell? w _ hx233_3)).trans hx233_3
                        replace hx233_4 := (HB.out.cell (World.block_lt_of_cell? w _ hx233_4)).trans hx233_4
                        replace p233 := eq_true p233
                        replace q233 := eq_true q233
                        have p234 : 0 ≤ (a2 : Int) := of_decide_eq_true (by first | (with_reducible assumption) | assumption)
                        have q234 : a2 < (l0.length : Int) := of_decide_eq_true (by first | (with_reducible assumption) | assumption)
                        obtain ⟨ad234, e234, hx234_0, hx234_1, hx234_2, hx234_3, hx234_4⟩ := at_T28 HR0.out a2 p234 q234
                        have hw234_4 := hx234_4
                        have hw234_3 := hx234_3
                        have hw234_2 := hx234_2
                        have hw234_1 := hx234_1
                        have hw234_0 := hx234_0
                        obtain rfl : ad231 = ad234 := (by injection e234)
                        replace hx234_0 := (HB.out.cell (World.block_lt_of_cell? w _ hx234_0)).trans hx234_0
                        replace hx234_1 := (HB.out.cell (World.block_lt_of_cell? w _ hx234_1)).trans hx234_1
                        replace hx234_2 := (HB.out.cell (World.block_lt_of_cell? w _ hx234_2)).trans hx234_2
                        replace hx234_3 := (HB.out.cell (World.block_lt_of_cell? w _ hx234_3)).trans hx234_3
                        replace hx234_4 := (HB.out.cell (World.block_lt_of_cell? w _ hx234_4)).trans hx234_4
                        replace p234 := eq_true p234
                        replace q234 := eq_true q234
                        refine start_ (n := 40) (S := fun w' => w'.cell? (ad231.add ((a2).toNat * 5)) = some (.string ((rd_T28 l0 a2).f0)) ∧ w'.cell? ⟨(ad231.add ((a2).toNat * 5)).block, (ad231.add ((a2).toNat * 5)).off + 1, none⟩ = some (.bool ((rd_T28 l0 a2).f1)) ∧ w'.cell? ⟨(ad231.add ((a2).toNat * 5)).block, (ad231.add ((a2).toNat * 5)).off + 2, none⟩ = some (.int .i64 ((rd_T28 l0 a2).f2)) ∧ w'.cell? ⟨(ad231.add ((a2).toNat * 5)).block, (ad231.add ((a2).toNat * 5)).off + 3, none⟩ = some (.int .i64 ((rd_T28 l0 a2).f3)) ∧ w'.cell? ⟨(ad231.add ((a2).toNat * 5)).block, (ad231.add ((a2).toNat * 5)).off + 4, none⟩ = some (.int .i64 ((rd_T28 l0 a2).f4)) ∧ w'.cell? (ad231.add ((a2).toNat * 5)) = some (.string ((rd_T28 l0 a2).f0)) ∧ w'.cell? ⟨(ad231.add ((a2).toNat * 5)).block, (ad231.add ((a2).toNat * 5)).off + 1, none⟩ = some (.bool ((rd_T28 l0 a2).f1)) ∧ w'.cell? ⟨(ad231.add ((a2).toNat * 5)).block, (ad231.add ((a2).toNat * 5)).off + 2, none⟩ = some (.int .i64 ((rd_T28 l0 a2).f2)) ∧ w'.cell? ⟨(ad231.add ((a2).toNat * 5)).block, (ad231.add ((a2).toNat * 5)).off + 3, none⟩ = some (.int .i64 ((rd_T28 l0 a2).f3)) ∧ w'.cell? ⟨(ad231.add ((a2).toNat * 5)).block, (ad231.add ((a2).toNat * 5)).off + 4, none⟩ = some (.int .i64 ((rd_T28 l0 a2).f4)) ∧ w'.cell? (ad231.add ((a2).toNat * 5)) = some (.string ((rd_T28 l0 a2).f0)) ∧ w'.cell? ⟨(ad231.add ((a2).toNat * 5)).block, (ad231.add ((a2).toNat * 5)).off + 1, none⟩ = some (.bool ((rd_T28 l0 a2).f1)) ∧ w'.cell? ⟨(ad231.add ((a2).toNat * 5)).block, (ad231.add ((a2).toNat * 5)).off + 2, none⟩ = some (.int .i64 ((rd_T28 l0 a2).f2)) ∧ w'.cell? ⟨(ad231.add ((a2).toNat * 5)).block, (ad231.add ((a2).toNat * 5)).off + 3, none⟩ = some (.int .i64 ((rd_T28 l0 a2).f3)) ∧ w'.cell? ⟨(ad231.add ((a2).toNat * 5)).block, (ad231.add ((a2).toNat * 5)).off + 4, none⟩ = some (.int .i64 ((rd_T28 l0 a2).f4))) (ds := []) Mk40_88_ (by kernel_rfl) rfl rfl ⟨((HB.out.cell (World.block_lt_of_cell? w _ hw231_0)).trans hw231_0), ((HB.out.cell (World.block_lt_of_cell? w _ hw231_1)).trans hw231_1), ((HB.out.cell (World.block_lt_of_cell? w _ hw231_2)).trans hw231_2), ((HB.out.cell (World.block_lt_of_cell? w _ hw231_3)).trans hw231_3), ((HB.out.cell (World.block_lt_of_cell? w _ hw231_4)).trans hw231_4), ((HB.out.cell (World.block_lt_of_cell? w _ hw233_0)).trans hw233_0), ((HB.out.cell (World.block_lt_of_cell? w _ hw233_1)).trans hw233_1), ((HB.out.cell (World.block_lt_of_cell? w _ hw233_2)).trans hw233_2), ((HB.out.cell (World.block_lt_of_cell? w _ hw233_3)).trans hw233_3), ((HB.out.cell (World.block_lt_of_cell? w _ hw233_4)).trans hw233_4), ((HB.out.cell (World.block_lt_of_cell? w _ hw234_0)).trans hw234_0), ((HB.out.cell (World.block_lt_of_cell? w _ hw234_1)).trans hw234_1), ((HB.out.cell (World.block_lt_of_cell? w _ hw234_2)).trans hw234_2), ((HB.out.cell (World.block_lt_of_cell? w _ hw234_3)).trans hw234_3), ((HB.out.cell (World.block_lt_of_cell? w _ hw234_4)).trans hw234_4)⟩ (fun hHeld => ?_); refine with_tabW parrylaw1_DomParts.tab18 parrylaw1_DomParts.bits18 (fun HT_ HW_ => ?_)
                        generalize w119.drew = w120 at HO_9 HO_13 HO_15 HB hx231_0 hx231_1 hx231_2 hx231_3 hx231_4 hx233_0 hx233_1 hx233_2 hx233_3 hx233_4 hx234_0 hx234_1 hx234_2 hx234_3 hx234_4 hHeld ⊢
                        refine pure_ (i := 0) (N := some 181) (v := ?_) (a' := ?_) Mk40_89_ rfl rfl (any_of HT_.out (by kernel_rfl)) (fun _ _ _ h => h) (Or.inl ⟨by rfl, ?_⟩) ?_ ?_; rotate_left; intro w'; go_simp; with_reducible rfl; rotate_left; simp only [Act.put, List.setIfInBounds_toArray, List.set_cons_zero, List.set_cons_succ, i64_w, i32_w]; rfl
                        refine pure_ (i := 1) (N := some 182) (v := ?_) (a' := ?_) Mk40_90_ rfl rfl (any_of HT_.out (by kernel_rfl)) (fun _ _ _ h => h) (Or.inl ⟨by rfl, ?_⟩) ?_ ?_; rotate_left; intro w'; go_simp; with_reducible rfl; rotate_left; simp only [Act.put, List.setIfInBounds_toArray, List.set_cons_zero, List.set_cons_succ, i64_w, i32_w]; rfl
                        refine pure_ (i := 2) (N := some 183) (v := ?_) (a' := ?_) Mk40_91_ rfl rfl (any_of HT_.out (by kernel_rfl)) (fun _ _ _ h => h) (Or.inl ⟨by rfl, ?_⟩) ?_ ?_; rotate_left; intro w'; go_simp; with_reducible rfl; rotate_left; simp only [Act.put, List.setIfInBounds_toArray, List.set_cons_zero, List.set_cons_succ, i64_w, i32_w]; rfl
                        refine pure_ (i := 3) (N := some 184) (v := ?_) (a' := ?_) Mk40_92_ rfl rfl (any_of HT_.out (by kernel_rfl)) (fun _ _ _ h => h) (Or.inl ⟨by rfl, ?_⟩) ?_ ?_; rotate_left; intro w'; go_simp; with_reducible rfl; rotate_left; simp only [Act.put, List.setIfInBounds_toArray, List.set_cons_zero, List.set_cons_succ, i64_w, i32_w]; rfl
                        refine pure_ (i := 4) (N := some 185) (v := ?_) (a' := ?_) Mk40_93_ rfl rfl (any_of HT_.out (by kernel_rfl)) (fun _ _ _ h => h) (Or.inl ⟨by rfl, ?_⟩) ?_ ?_; rotate_left; intro w'; go_simp; with_reducible rfl; rotate_left; simp only [Act.put, List.setIfInBounds_toArray, List.set_cons_zero, List.set_cons_succ, i64_w, i32_w]; rfl
                        refine pure_ (i := 5) (N := some 186) (v := ?_) (a' := ?_) Mk40_94_ rfl rfl (any_of HT_.out (by kernel_rfl)) (fun _ _ _ h => h) (Or.inl ⟨by rfl, ?_⟩) ?_ ?_; rotate_left; intro w'; go_simp; with_reducible rfl; rotate_left; simp only [Act.put, List.setIfInBounds_toArray, List.set_cons_zero, List.set_cons_succ, i64_w, i32_w]; rfl
                        refine pure_ (i := 6) (N := some 187) (v := ?_) (a' := ?_) Mk40_95_ rfl rfl (any_of HT_.out (by kernel_rfl)) (fun _ _ _ h => h) (Or.inl ⟨by rfl, ?_⟩) ?_ ?_; rotate_left; intro w'; go_simp; with_reducible rfl; rotate_left; simp only [Act.put, List.setIfInBounds_toArray, List.set_cons_zero, List.set_cons_succ, i64_w, i32_w]; rfl
                        refine pure_ (i := 7) (N := some 188) (v := ?_) (a' := ?_) Mk40_96_ rfl rfl (any_of HT_.out (by kernel_rfl)) (fun _ _ _ h => h) (Or.inl ⟨by rfl, ?_⟩) ?_ ?_; rotate_left; intro w'; go_simp; with_reducible rfl; rotate_left; simp only [Act.put, List.setIfInBounds_toArray, List.set_cons_zero, List.set_cons_succ, i64_w, i32_w]; rfl
                        refine pure_ (i := 8) (N := some 189) (v := ?_) (a' := ?_) Mk40_97_ rfl rfl (any_of HT_.out (by kernel_rfl)) (fun _ _ _ h => h) (Or.inl ⟨by rfl, ?_⟩) ?_ ?_; rotate_left; intro w'; go_simp; with_reducible rfl; rotate_left; simp only [Act.put, List.setIfInBounds_toArray, List.set_cons_zero, List.set_cons_succ, i64_w, i32_w]; rfl
                        refine pure_ (i := 9) (N := some 190) (v := ?_) (a' := ?_) Mk40_98_ rfl rfl (any_of HT_.out (by kernel_rfl)) (fun _ _ _ h => h) (Or.inl ⟨by rfl, ?_⟩) ?_ ?_; rotate_left; intro w'; go_simp; with_reducible rfl; rotate_left; simp only [Act.put, List.setIfInBounds_toArray, List.set_cons_zero, List.set_cons_succ, i64_w, i32_w]; rfl
                        refine pure_ (i := 10) (N := some 191) (v := ?_) (a' := ?_) Mk40_99_ rfl rfl (any_of HT_.out (by kernel_rfl)) (fun _ _ _ h => h) (Or.inl ⟨by rfl, ?_⟩) ?_ ?_; rotate_left; intro w'; go_simp; with_reducible rfl; rotate_left; simp only [Act.put, List.setIfInBounds_toArray, List.set_cons_zero, List.set_cons_succ, i64_w, i32_w]; rfl
                        refine pure_ (i := 11) (N := some 192) (v := ?_) (a' := ?_) Mk40_100_ rfl rfl (any_of HT_.out (by kernel_rfl)) (fun _ _ _ h => h) (Or.inl ⟨by rfl, ?_⟩) ?_ ?_; rotate_left; intro w'; go_simp; with_reducible rfl; rotate_left; simp only [Act.put, List.setIfInBounds_toArray, List.set_cons_zero, List.set_cons_succ, i64_w, i32_w]; rfl
                        refine pure_ (i := 12) (N := some 193) (v := ?_) (a' := ?_) Mk40_101_ rfl rfl (any_of HT_.out (by kernel_rfl)) (fun _ _ _ h => h) (Or.inl ⟨by rfl, ?_⟩) ?_ ?_; rotate_left; intro w'; go_simp; with_reducible rfl; rotate_left; simp only [Act.put, List.setIfInBounds_toArray, List.set_cons_zero, List.set_cons_succ, i64_w, i32_w]; rfl
                        refine pure_ (i := 13) (N := some 194) (v := ?_) (a' := ?_) Mk40_102_ rfl rfl (any_of HT_.out (by kernel_rfl)) (fun _ _ _ h => h) (Or.inl ⟨by rfl, ?_⟩) ?_ ?_; rotate_left; intro w'; go_simp; with_reducible rfl; rotate_left; simp only [Act.put, List.setIfInBounds_toArray, List.set_cons_zero, List.set_cons_succ, i64_w, i32_w]; rfl
                        refine pure_ (i := 14) (N := some 195) (v := ?_) (a' := ?_) Mk40_103_ rfl rfl (any_of HT_.out (by kernel_rfl)) (fun _ _ _ h => h) (Or.inl ⟨by rfl, ?_⟩) ?_ ?_; rotate_left; intro w'; go_simp; with_reducible rfl; rotate_left; simp only [Act.put, List.setIfInBounds_toArray, List.set_cons_zero, List.set_cons_succ, i64_w, i32_w]; rfl
                        refine pure_ (i := 15) (N := some 196) (v := ?_) (a' := ?_) Mk40_104_ rfl rfl (any_of HT_.out (by kernel_rfl)) (fun _ _ _ h => h) (Or.inl ⟨by rfl, ?_⟩) ?_ ?_; rotate_left; intro w'; go_simp; with_reducible rfl; rotate_left; simp only [Act.put, List.setIfInBounds_toArray, List.set_cons_zero, List.set_cons_succ, i64_w, i32_w]; rfl
                        refine pure_ (i := 16) (N := some 197) (v := ?_) (a' := ?_) Mk40_105_ rfl rfl (any_of HT_.out (by kernel_rfl)) (fun _ _ _ h => h) (Or.inl ⟨by rfl, ?_⟩) ?_ ?_; rotate_left; intro w'; go_simp; with_reducible rfl; rotate_left; simp only [Act.put, List.setIfInBounds_toArray, List.set_cons_zero, List.set_cons_succ, i64_w, i32_w]; rfl
                        refine take_ (i := 17) (N := some 198) (v := ?_) (a' := ?_) Mk40_106_ rfl rfl (take_ofW HT_.out HW_.out (by kernel_rfl)) (fun _ _ _ h => h) (Or.inl ⟨by rfl, ?_⟩) hHeld ?_ ?_
                        rotate_left
                        ·rintro w' ⟨s0, s1, s2, s3, s4, s5, s6, s7, s8, s9, s10, s11, s12, s13, s14⟩
                         go_simp
                         with_reducible rfl
                        rotate_left
                        ·simp only [Act.put, List.setIfInBounds_toArray, List.set_cons_zero, List.set_cons_succ, i64_w, i32_w]
                         rfl
                        refine pure_ (i := 18) (N := some 199) (v := ?_) (a' := ?_) Mk40_107_ rfl rfl (any_of HT_.out (by kernel_rfl)) (fun _ _ _ h => h) (Or.inl ⟨by rfl, ?_⟩) ?_ ?_; rotate_left; intro w'; go_simp; with_reducible rfl; rotate_left; simp only [Act.put, List.setIfInBounds_toArray, List.set_cons_zero, List.set_cons_succ, i64_w, i32_w]; rfl
                        refine pure_ (i := 19) (N := some 200) (v := ?_) (a' := ?_) Mk40_108_ rfl rfl (any_of HT_.out (by kernel_rfl)) (fun _ _ _ h => h) (Or.inl ⟨by rfl, ?_⟩) ?_ ?_; rotate_left; intro w'; go_simp; with_reducible rfl; rotate_left; simp only [Act.put, List.setIfInBounds_toArray, List.set_cons_zero, List.set_cons_succ, i64_w, i32_w]; rfl
                        refine pure_ (i := 20) (N := some 201) (v := ?_) (a' := ?_) Mk40_109_ rfl rfl (any_of HT_.out (by kernel_rfl)) (fun _ _ _ h => h) (Or.inl ⟨by rfl, ?_⟩) ?_ ?_; rotate_left; intro w'; go_simp; with_reducible rfl; rotate_left; simp only [Act.put, List.setIfInBounds_toArray, List.set_cons_zero, List.set_cons_succ, i64_w, i32_w]; rfl
                        refine pure_ (i := 21) (N := some 202) (v := ?_) (a' := ?_) Mk40_110_ rfl rfl (any_of HT_.out (by kernel_rfl)) (fun _ _ _ h => h) (Or.inl ⟨by rfl, ?_⟩) ?_ ?_; rotate_left; intro w'; go_simp; with_reducible rfl; rotate_left; simp only [Act.put, List.setIfInBounds_toArray, List.set_cons_zero, List.set_cons_succ, i64_w, i32_w]; rfl
                        refine pure_ (i := 22) (N := some 203) (v := ?_) (a' := ?_) Mk40_111_ rfl rfl (any_of HT_.out (by kernel_rfl)) (fun _ _ _ h => h) (Or.inl ⟨by rfl, ?_⟩) ?_ ?_; rotate_left; intro w'; go_simp; with_reducible rfl; rotate_left; simp only [Act.put, List.setIfInBounds_toArray, List.set_cons_zero, List.set_cons_succ, i64_w, i32_w]; rfl
                        refine pure_ (i := 23) (N := some 204) (v := ?_) (a' := ?_) Mk40_112_ rfl rfl (any_of HT_.out (by kernel_rfl)) (fun _ _ _ h => h) (Or.inl ⟨by rfl, ?_⟩) ?_ ?_; rotate_left; intro w'; go_simp; with_reducible rfl; rotate_left; simp only [Act.put, List.setIfInBounds_toArray, List.set_cons_zero, List.set_cons_succ, i64_w, i32_w]; rfl
                        refine pure_ (i := 24) (N := some 205) (v := ?_) (a' := ?_) Mk40_113_ rfl rfl (any_of HT_.out (by kernel_rfl)) (fun _ _ _ h => h) (Or.inl ⟨by rfl, ?_⟩) ?_ ?_; rotate_left; intro w'; go_simp; with_reducible rfl; rotate_left; simp only [Act.put, List.setIfInBounds_toArray, List.set_cons_zero, List.set_cons_succ, i64_w, i32_w]; rfl
                        refine pure_ (i := 25) (N := some 206) (v := ?_) (a' := ?_) Mk40_114_ rfl rfl (any_of HT_.out (by kernel_rfl)) (fun _ _ _ h => h) (Or.inl ⟨by rfl, ?_⟩) ?_ ?_; rotate_left; intro w'; go_simp; with_reducible rfl; rotate_left; simp only [Act.put, List.setIfInBounds_toArray, List.set_cons_zero, List.set_cons_succ, i64_w, i32_w]; rfl
                        refine pure_ (i := 27) (N := some 208) (v := ?_) (a' := ?_) Mk40_129_ rfl rfl (any_of HT_.out (by kernel_rfl)) (fun _ _ _ h => h) (Or.inl ⟨by rfl, ?_⟩) ?_ ?_; rotate_left; intro w'; go_simp; with_reducible rfl; rotate_left; simp only [Act.put, List.setIfInBounds_toArray, List.set_cons_zero, List.set_cons_succ, i64_w, i32_w]; rfl
                        refine pure_ (i := 28) (N := some 209) (v := ?_) (a' := ?_) Mk40_130_ rfl rfl (any_of HT_.out (by kernel_rfl)) (fun _ _ _ h => h) (Or.inl ⟨by rfl, ?_⟩) ?_ ?_; rotate_left; intro w'; go_simp; with_reducible rfl; rotate_left; simp only [Act.put, List.setIfInBounds_toArray, List.set_cons_zero, List.set_cons_succ, i64_w, i32_w]; rfl
                        refine pure_ (i := 29) (N := some 210) (v := ?_) (a' := ?_) Mk40_131_ rfl rfl (any_of HT_.out (by kernel_rfl)) (fun _ _ _ h => h) (Or.inl ⟨by rfl, ?_⟩) ?_ ?_; rotate_left; intro w'; go_simp; with_reducible rfl; rotate_left; simp only [Act.put, List.setIfInBounds_toArray, List.set_cons_zero, List.set_cons_succ, i64_w, i32_w]; rfl
                        refine take_ (i := 26) (N := some 207) (v := ?_) (a' := ?_) Mk40_118_ rfl rfl (take_ofW HT_.out HW_.out (by kernel_rfl)) (fun _ _ _ h => h) (Or.inl ⟨by rfl, ?_⟩) hHeld ?_ ?_
                        rotate_left
                        ·rintro w' ⟨s0, s1, s2, s3, s4, s5, s6, s7, s8, s9, s10, s11, s12, s13, s14⟩
                         go_simp
                         with_reducible rfl
                        rotate_left
                        ·simp only [Act.put, List.setIfInBounds_toArray, List.set_cons_zero, List.set_cons_succ, i64_w, i32_w]
                         rfl
                        refine take_ (i := 30) (N := some 211) (v := ?_) (a' := ?_) Mk40_119_ rfl rfl (take_ofW HT_.out HW_.out (by kernel_rfl)) (fun _ _ _ h => h) (Or.inl ⟨by rfl, ?_⟩) hHeld ?_ ?_
                        rotate_left
                        ·rintro w' ⟨s0, s1, s2, s3, s4, s5, s6, s7, s8, s9, s10, s11, s12, s13, s14⟩
                         go_simp
                         with_reducible rfl
                        rotate_left
                        ·simp only [Act.put, List.setIfInBounds_toArray, List.set_cons_zero, List.set_cons_succ, i64_w, i32_w]
                         rfl
                        refine one_ (i := 31) (N := some 212) Mk40_120_ rfl rfl (one_of HT_.out (by kernel_rfl)) (by decide) (fun K hK => ?_)
                        refine goes_ Try.func13 (by kernel_rfl) rfl #[.agg #[.string ((rd_T28 l0 a2).f0), .bool ((rd_T28 l0 a2).f1), .int .i64 ((rd_T28 l0 a2).f2), .int .i64 ((rd_T28 l0 a2).f3), .int .i64 ((rd_T28 l0 a2).f4)]] (by rfl) rfl rfl (by (try simp only [List.map_toArray, List.map_cons, List.map_nil]); first | done | rfl | (simp only [List.length_drop, List.length_take]; rfl)) ?_
                        with_reducible refine (dom_Size.calls ((rd_T28 l0 a2).f0) ((rd_T28 l0 a2).f1) ((rd_T28 l0 a2).f2) ((rd_T28 l0 a2).f3) ((rd_T28 l0 a2).f4) t235 _ A116.out).mono ?_
                        rintro e w121 ⟨rfl, hb⟩
                        refine ⟨_, rfl, ?_⟩
                        have n0_ := Aside0.mk (Kd.R_below (by (with_reducible repeat (first | apply Kd.R_alloc | apply Kd.R_drewN | apply Kd.R_drew)); exact HO_9.out) hb)
                        have n1_ := Aside0.mk (Kd.R_below (by (with_reducible repeat (first | apply Kd.R_alloc | apply Kd.R_drewN | apply Kd.R_drew)); exact HO_13.out) hb)
                        have n2_ := Aside0.mk (Kd.R_below (by (with_reducible repeat (first | apply Kd.R_alloc | apply Kd.R_drewN | apply Kd.R_drew)); exact HO_15.out) hb)
                        have n3_ := Aside0.mk (below_step (by repeat (first | (with_reducible first | exact HB.out | apply below_alloc | apply pw_below_drewN | apply below_drew1) | exact HB.out)) hb)
                        clear HO_9
                        clear HO_13
                        clear HO_15
                        clear HB
                        have HO_9 := n0_
                        have HO_13 := n1_
                        have HO_15 := n2_
                        have HB := n3_
                        clear n0_ n1_ n2_ n3_
                        (try clear hb)
                        (try clear hb2)
                        (try clear hk)
                        (try clear hi)
                        refine hK.out _ _ ⟨((HB.out.cell (World.block_lt_of_cell? w _ hw231_0)).trans hw231_0), ((HB.out.cell (World.block_lt_of_cell? w _ hw231_1)).trans hw231_1), ((HB.out.cell (World.block_lt_of_cell? w _ hw231_2)).trans hw231_2), ((HB.out.cell (World.block_lt_of_cell? w _ hw231_3)).trans hw231_3), ((HB.out.cell (World.block_lt_of_cell? w _ hw231_4)).trans hw231_4), ((HB.out.cell (World.block_lt_of_cell? w _ hw233_0)).trans hw233_0), ((HB.out.cell (World.block_lt_of_cell? w _ hw233_1)).trans hw233_1), ((HB.out.cell (World.block_lt_of_cell? w _ hw233_2)).trans hw233_2), ((HB.out.cell (World.block_lt_of_cell? w _ hw233_3)).trans hw233_3), ((HB.out.cell (World.block_lt_of_cell? w _ hw233_4)).trans hw233_4), ((HB.out.cell (World.block_lt_of_cell? w _ hw234_0)).trans hw234_0), ((HB.out.cell (World.block_lt_of_cell? w _ hw234_1)).trans hw234_1), ((HB.out.cell (World.block_lt_of_cell? w _ hw234_2)).trans hw234_2), ((HB.out.cell (World.block_lt_of_cell? w _ hw234_3)).trans hw234_3), ((HB.out.cell (World.block_lt_of_cell? w _ hw234_4)).trans hw234_4)⟩ (fun hHeld => ?_)
                        clear hK K
                        refine norm_ (a' := ?_) ?_ ?_
                        rotate_left
                        ·show Act.put _ (some 212) _ = _
                         simp only [Act.put, List.setIfInBounds_toArray, List.set_cons_zero, List.set_cons_succ, i64_w, i32_w]
                         rfl
                        refine pure_ (i := 32) (N := some 213) (v := ?_) (a' := ?_) Mk40_121_ rfl rfl (any_of HT_.out (by kernel_rfl)) (fun _ _ _ h => h) (Or.inl ⟨by rfl, ?_⟩) ?_ ?_; rotate_left; intro w'; go_simp; with_reducible rfl; rotate_left; simp only [Act.put, List.setIfInBounds_toArray, List.set_cons_zero, List.set_cons_succ, i64_w, i32_w]; rfl
                        refine pure_ (i := 33) (N := some 214) (v := ?_) (a' := ?_) Mk40_122_ rfl rfl (any_of HT_.out (by kernel_rfl)) (fun _ _ _ h => h) (Or.inl ⟨by rfl, ?_⟩) ?_ ?_; rotate_left; intro w'; go_simp; with_reducible rfl; rotate_left; simp only [Act.put, List.setIfInBounds_toArray, List.set_cons_zero, List.set_cons_succ, i64_w, i32_w]; rfl
                        refine pure_ (i := 34) (N := some 215) (v := ?_) (a' := ?_) Mk40_123_ rfl rfl (any_of HT_.out (by kernel_rfl)) (fun _ _ _ h => h) (Or.inl ⟨by rfl, ?_⟩) ?_ ?_; rotate_left; intro w'; go_simp; with_reducible rfl; rotate_left; simp only [Act.put, List.setIfInBounds_toArray, List.set_cons_zero, List.set_cons_succ, i64_w, i32_w]; rfl
                        refine pure_ (i := 35) (N := some 216) (v := ?_) (a' := ?_) Mk40_124_ rfl rfl (any_of HT_.out (by kernel_rfl)) (fun _ _ _ h => h) (Or.inl ⟨by rfl, ?_⟩) ?_ ?_; rotate_left; intro w'; go_simp; with_reducible rfl; rotate_left; simp only [Act.put, List.setIfInBounds_toArray, List.set_cons_zero, List.set_cons_succ, i64_w, i32_w]; rfl
                        refine pure_ (i := 36) (N := some 217) (v := ?_) (a' := ?_) Mk40_125_ rfl rfl (any_of HT_.out (by kernel_rfl)) (fun _ _ _ h => h) (Or.inl ⟨by rfl, ?_⟩) ?_ ?_; rotate_left; intro w'; go_simp; with_reducible rfl; rotate_left; simp only [Act.put, List.setIfInBounds_toArray, List.set_cons_zero, List.set_cons_succ, i64_w, i32_w]; rfl
                        refine one_ (i := 37) (N := some 218) Mk40_126_ rfl rfl (one_of HT_.out (by kernel_rfl)) (by decide) (fun K hK => ?_)
                        refine goes_ Try.func11 (by kernel_rfl) rfl #[] (by rfl) rfl rfl (by (try simp only [List.map_toArray, List.map_cons, List.map_nil]); first | done | rfl | (simp only [List.length_drop, List.length_take]; rfl)) ?_
                        with_reducible refine (parrylaw1_awake.calls k1  t236 _ A118.out).mono ?_
                        rintro e w122 ⟨rfl, hb⟩
                        refine ⟨_, rfl, ?_⟩
                        have n0_ := Aside0.mk (Kd.R_below (by (with_reducible repeat (first | apply Kd.R_alloc | apply Kd.R_drewN | apply Kd.R_drew)); exact HO_9.out) hb)
                        have n1_ := Aside0.mk (Kd.R_below (by (with_reducible repeat (first | apply Kd.R_alloc | apply Kd.R_drewN | apply Kd.R_drew)); exact HO_13.out) hb)
                        have n2_ := Aside0.mk (Kd.R_below (by (with_reducible repeat (first | apply Kd.R_alloc | apply Kd.R_drewN | apply Kd.R_drew)); exact HO_15.out) hb)
                        have n3_ := Aside0.mk (below_step (by repeat (first | (with_reducible first | exact HB.out | apply below_alloc | apply pw_below_drewN | apply below_drew1) | exact HB.out)) hb)
                        clear HO_9
                        clear HO_13
                        clear HO_15
                        clear HB
                        have HO_9 := n0_
                        have HO_13 := n1_
                        have HO_15 := n2_
                        have HB := n3_
                        clear n0_ n1_ n2_ n3_
                        (try clear hb)
                        (try clear hb2)
                        (try clear hk)
                        (try clear hi)
                        refine hK.out _ _ ⟨((HB.out.cell (World.block_lt_of_cell? w _ hw231_0)).trans hw231_0), ((HB.out.cell (World.block_lt_of_cell? w _ hw231_1)).trans hw231_1), ((HB.out.cell (World.block_lt_of_cell? w _ hw231_2)).trans hw231_2), ((HB.out.cell (World.block_lt_of_cell? w _ hw231_3)).trans hw231_3), ((HB.out.cell (World.block_lt_of_cell? w _ hw231_4)).trans hw231_4), ((HB.out.cell (World.block_lt_of_cell? w _ hw233_0)).trans hw233_0), ((HB.out.cell (World.block_lt_of_cell? w _ hw233_1)).trans hw233_1), ((HB.out.cell (World.block_lt_of_cell? w _ hw233_2)).trans hw233_2), ((HB.out.cell (World.block_lt_of_cell? w _ hw233_3)).trans hw233_3), ((HB.out.cell (World.block_lt_of_cell? w _ hw233_4)).trans hw233_4), ((HB.out.cell (World.block_lt_of_cell? w _ hw234_0)).trans hw234_0), ((HB.out.cell (World.block_lt_of_cell? w _ hw234_1)).trans hw234_1), ((HB.out.cell (World.block_lt_of_cell? w _ hw234_2)).trans hw234_2), ((HB.out.cell (World.block_lt_of_cell? w _ hw234_3)).trans hw234_3), ((HB.out.cell (World.block_lt_of_cell? w _ hw234_4)).trans hw234_4)⟩ (fun hHeld => ?_)
                        clear hK K
                        refine norm_ (a' := ?_) ?_ ?_
                        rotate_left
                        ·show Act.put _ (some 218) _ = _
                         simp only [Act.put, List.setIfInBounds_toArray, List.set_cons_zero, List.set_cons_succ, i64_w, i32_w]
                         rfl
                        refine pure_ (i := 38) (N := some 219) (v := ?_) (a' := ?_) Mk40_127_ rfl rfl (any_of HT_.out (by kernel_rfl)) (fun _ _ _ h => h) (Or.inl ⟨by rfl, ?_⟩) ?_ ?_; rotate_left; intro w'; go_simp; with_reducible rfl; rotate_left; simp only [Act.put, List.setIfInBounds_toArray, List.set_cons_zero, List.set_cons_succ, i64_w, i32_w]; rfl
                        refine pure_ (i := 39) (N := some 8) (v := ?_) (a' := ?_) Mk40_128_ rfl rfl (any_of HT_.out (by kernel_rfl)) (fun _ _ _ h => h) (Or.inl ⟨by rfl, ?_⟩) ?_ ?_; rotate_left; intro w'; go_simp; with_reducible rfl; rotate_left; simp only [Act.put, List.setIfInBounds_toArray, List.set_cons_zero, List.set_cons_succ, i64_w, i32_w]; rfl
                        refine done_ (done_of HT_.out (by kernel_rfl)) ?_
                        try go_wp2
                        go_ret
                        exact ⟨by first | rfl | (simp [errW_none, errW_some] <;> rfl) | (simp [*, errW_none, errW_some] <;> rfl), by repeat (first | (with_reducible first | exact HB.out | apply below_alloc | apply pw_below_drewN | apply below_drew1) | exact HB.out)⟩
                       ·rw [if_neg c117] at H
                        have c117b0 : decide ((wrap64 (((rd_T28 l0 a2).f3) + t235)) ≤ a3) = false := decide_eq_false c117
                        clear c117
                        exact absurd ((Option.some.inj H).trans HRT.out) (by decide)
                     ·rw [if_neg c110] at H
                      exact absurd H (by simp)
                    ·rw [if_neg c109] at H
                     exact absurd H (by simp)
                 ·rw [if_neg c98] at H
                  have c98b0 : (t219 == 0) = false := beq_eq_false_iff_ne.mpr c98
                  have c98b1 : (t219 != 0) = true := bne_iff_ne.mpr c98
                  exact absurd ((Option.some.inj H).trans HRT.out) (by decide)
            ·rw [if_neg c36] at H
             exact absurd ((Option.some.inj H).trans HRT.out) (by decide)
           ·rw [if_neg c33] at H
            exact absurd ((Option.some.inj H).trans HRT.out) (by decide)
          ·rw [if_neg c31] at H
           exact absurd ((Option.some.inj H).trans HRT.out) (by decide)
         ·rw [if_neg c30] at H
          exact absurd ((Option.some.inj H).trans HRT.out) (by decide)
        ·rw [if_neg c29] at H
         exact absurd ((Option.some.inj H).trans HRT.out) (by decide)
       ·replace c28 := Bool.eq_false_iff.mpr c28
        subst c28
        have H1 : (some false) = some r := by rw [if_neg (show ¬ (false = true) by decide)] at H; exact H
        clear H
        have H := H1
        clear H1
        exact absurd ((Option.some.inj H).trans HRT.out) (by decide)
      ·replace c27 := Bool.eq_false_iff.mpr c27
       subst c27
       have H1 : (some false) = some r := by rw [if_neg (show ¬ (false = true) by decide)] at H; exact H
       clear H
       have H := H1
       clear H1
       exact absurd ((Option.some.inj H).trans HRT.out) (by decide)
     ·replace c26 := Bool.eq_false_iff.mpr c26
      subst c26
      have H1 : (some false) = some r := by rw [if_neg (show ¬ (false = true) by decide)] at H; exact H
      clear H
      have H := H1
      clear H1
      exact absurd ((Option.some.inj H).trans HRT.out) (by decide)
  ·rw [if_neg c11] at H
   have c11b0 : (t190 == 0) = false := beq_eq_false_iff_ne.mpr c11
   have c11b1 : (t190 != 0) = true := bne_iff_ne.mpr c11
   replace H := Option.bind_eq_some_iff.mp H
   obtain ⟨t237, A1230, H⟩ := H
   replace H : (some t237) = some r := H
   have A123 := Aside0.mk A1230
   clear A1230
   obtain rfl := Option.some.inj H
   go_enter Try.func8, Try.ntmps8
   go_wp2_with (first | ((with_reducible refine gate_callee (f := 9) rfl ?_); refine goesL_ (some 25) rfl rfl Try.func9 (by kernel_rfl) rfl #[.slice A0 l0.length c0] rfl (by (try simp only [List.map_toArray, List.map_cons, List.map_nil]); first | done | rfl | (simp only [List.length_drop, List.length_take]; rfl)) ?_; (with_reducible refine (parrylaw1_Heavy.calls k _ _ l0 t188 _ ?side1 ?side2 A5.out).mono ?_); (case side1 => repeat (first | exact HR0.out | (with_reducible refine Kd.C_alloc ?_ _) | (with_reducible refine Kd.C_drewN ?_ _) | (with_reducible refine Kd.C_drew ?_))); (case side2 => exact HC0.out); rintro e w124 ⟨rfl, hb⟩; refine ⟨_, rfl, ?_⟩; have n0_ := Aside0.mk (below_step (by repeat (first | (with_reducible first | exact HB.out | apply below_alloc | apply pw_below_drewN | apply below_drew1) | exact HB.out)) hb); clear HB; have HB := n0_; clear n0_; (try clear hb); (try clear hb2); (try clear hk); (try clear hi)) | (go_at_call 10; (with_reducible refine (dom_May.calls k _ _ l0 t190 _ ?side1 ?side2 A10.out).mono ?_); (case side1 => repeat (first | exact (Kd.C_below HR0.out HB.out) | (with_reducible refine Kd.C_alloc ?_ _) | (with_reducible refine Kd.C_drewN ?_ _) | (with_reducible refine Kd.C_drew ?_))); (case side2 => exact HC0.out); rintro e w125 ⟨rfl, hb⟩; have n0_ := Aside0.mk (below_step (by repeat (first | (with_reducible first | exact HB.out | apply below_alloc | apply pw_below_drewN | apply below_drew1) | exact HB.out)) hb); clear HB; have HB := n0_; clear n0_; (try clear hb); (try clear hb2); (try clear hk); (try clear hi)) | ((with_reducible refine gate_callee (f := 11) rfl ?_); refine goesL_ (some 37) rfl rfl Try.func11 (by kernel_rfl) rfl #[] rfl (by (try simp only [List.map_toArray, List.map_cons, List.map_nil]); first | done | rfl | (simp only [List.length_drop, List.length_take]; rfl)) ?_; (with_reducible refine (parrylaw1_awake.calls k  t237 _ A123.out).mono ?_); rintro e w126 ⟨rfl, hb⟩; refine ⟨_, rfl, ?_⟩; have n0_ := Aside0.mk (below_step (by repeat (first | (with_reducible first | exact HB.out | apply below_alloc | apply pw_below_drewN | apply below_drew1) | exact HB.out)) hb); clear HB; have HB := n0_; clear n0_; (try clear hb); (try clear hb2); (try clear hk); (try clear hi)))
   go_ret
   exact ⟨by first | rfl | (simp [errW_none, errW_some] <;> rfl) | (simp [*, errW_none, errW_some] <;> rfl), by repeat (first | (with_reducible first | exact HB.out | apply below_alloc | apply pw_below_drewN | apply below_drew1) | exact HB.out)⟩

end Go.Proofs.Ytofmfnbiondplaa.P

