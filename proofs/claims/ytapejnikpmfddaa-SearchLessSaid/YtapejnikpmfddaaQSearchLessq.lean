/- A part of the claim SearchLess. -/
import Derived.Test.YtapejnikpmfddaaQSearchLessp
namespace Go.Proofs.Ytapejnikpmfddaa.X
open Go.RowKit Go.Proofs.YtapejnikpmfddaaW.PrintWords Go.Proofs.YtapejnikpmfddaaW.PrintLast Go.Proofs.YtapejnikpmfddaaW.PrintMore
open Go.Proofs.Ytapejnikpmfddaa.P Go.Proofs.Ytapejnikpmfddaa.Evx
set_option linter.unusedSimpArgs false
set_option linter.unusedVariables false
theorem word_trueC (A0_0 : Option Addr) (c0_0 : Nat) (l0_0 : List Int) (A0_1 : Option Addr) (c0_1 : Nat) (l0_1 : List Int) (A0_2 : Option Addr) (c0_2 : Nat) (l0_2 : List (List Int)) (A1 : Option Addr) (c1 : Nat) (l1 : List Int) (A2 : Option Addr) (c2 : Nat) (l2 : List Int) (r1 : List Int) (r2 : List Int) (w : World) (hr0_0 : Kd.C (Kd.int .u32) w A0_0 l0_0.length l0_0) (hc0_0 : l0_0.length ≤ c0_0) (hr0_1 : Kd.C (Kd.int .i64) w A0_1 l0_1.length l0_1) (hc0_1 : l0_1.length ≤ c0_1) (hr0_2 : Kd.C (Kd.slice 3 (Kd.int .i64)) w A0_2 l0_2.length l0_2) (hc0_2 : l0_2.length ≤ c0_2) (hr1 : Kd.C (Kd.int .i64) w A1 l1.length l1) (hc1 : l1.length ≤ c1) (hr2 : Kd.C (Kd.int .i64) w A2 l2.length l2) (hc2 : l2.length ≤ c2) (h : search_Word.f l0_0 l0_1 l0_2 l1 l2 = some (r1, r2, true)) :
  Calls Try.prog 13 #[.agg #[.slice A0_0 l0_0.length c0_0, .slice A0_1 l0_1.length c0_1, .slice A0_2 l0_2.length c0_2], .slice A1 l1.length c1, .slice A2 l2.length c2] w fun e w' => ∃ v1_ v2_ : Value, e = .returned (.tuple #[.agg #[v1_, v2_], .bool true]) ∧ Kd.R (Kd.int .u32) 48 w' w.heap.size (fun _ => True) v1_ r1 ∧ Kd.R (Kd.int .u32) 48 w' w.heap.size (fun _ => True) v2_ r2 ∧ Below w.heap.size w w' := by
 unfold search_Word.f at h
 by_cases hl : l1.length + l2.length < 1000000000
 ·rw [if_pos hl] at h
  have h' := Option.some.inj h
  injection h' with h1 h'
  injection h' with h2 h3
  rw [h3] at h1 h2
  have H := Word_true l0_0 l0_1 l0_2 l1 l2 A0_0 A0_1 A0_2 A1 A2 c0_0 c0_1 c0_2 c1 c2 w hr0_0 hc0_0 hr0_1 hc0_1 hr0_2 hc0_2 hr1 hc1 hr2 hc2 hl h3
  rw [← h1, ← h2]
  exact H
 ·rw [if_neg hl] at h; cases h
def atomS (n : Int) : S29 := ⟨2, n, []⟩
set_option maxHeartbeats 800000 in
theorem atom_calls (n : Int) (w : World) : Calls Try.prog 15 #[.int .i64 n] w fun e w' => e = .returned (.agg #[.int .i64 2, .int .i64 n, .slice none 0 0]) ∧ Below w.heap.size w w' := by
 have huF := Try.underlying29
 go_enter Try.func15, Try.ntmps15
 go_wp2
 exact bodyPost_ret (v := .agg #[.int .i64 2, .int .i64 n, .slice none 0 0]) (by simp [results, Try.results15, go_sem]) rfl ⟨rfl, below_alloc (Below.refl _ _) _⟩
theorem find_FA : search_Find.f [0, 1] [0] [[0, 1], [1]] 6 0 [atomS 0] = some ([0], [1], true, 0) := by decide +kernel
theorem all_FA : search_All.f [0, 1] [0] [[0, 1], [1]] 6 0 [atomS 0] = some (false, 0) := by decide +kernel
theorem word_FA : search_Word.f [0, 1] [0] [[0, 1], [1]] [0] [1] = some ([0], [1], true) := by decide +kernel
theorem holds_FA : formula_Holds.f 6 0 [atomS 0] [0] [1] = some true := by decide +kernel
theorem C_sc {α : Type} {enc : α → Value} {h1 : ∀ x, (enc x).oneCell' = true} (d : α) {w : World} {g : Nat} {l : List α} {t : TypeId} (h : w.heap[g]? = some (.cells (l.map enc).toArray t (0, 0))) (hm : l.length < 1000) : Kd.C (Kd.scalar enc h1) w (some ⟨g, 0, none⟩) l.length l := by
 refine Kd.C_of_reads (d := d) ⟨rfl, by omega, fun _ => ⟨_, rfl, fun j hj => ?_⟩⟩
 rw [add_at, bq_ h]
 simp [hj]
theorem C_oneF {w : World} {g : Nat} {a : S29} (ha : a.f2 = []) (h : w.heap[g]? = some (.cells #[.int .i64 a.f0, .int .i64 a.f1, .slice none 0 0] 29 (0, 0))) : Kd.C k29 w (some ⟨g, 0, none⟩) 1 [a] := by
 have hK : ∀ x : S29, x.f2 = [] → k29.K w x [.int .i64 x.f0, .int .i64 x.f1, .slice none 0 0] := by
  intro x hx
  have := k29_mk w x (A2 := none) (c2 := 0) (by rw [hx]; simp) (by rw [hx]; exact Kd.C_nil _ _)
  rwa [hx] at this
 refine ⟨rfl, by omega, fun _ => ⟨_, rfl, fun j p hj => ?_⟩⟩
 have hs : k29.sz = 3 := rfl
 match j, hj with
 | 0, hj =>
  obtain rfl : a = p := by simpa using hj
  refine ⟨_, rfl, hK a ha, fun i u hu => ?_⟩
  rw [hs, add_at, bq_ h]
  match i, hu with
  | 0, hu => exact hu
  | 1, hu => exact hu
  | 2, hu => exact hu
theorem C_rows2 {w : World} {g : Nat} {A1 A2 : Option Addr} {l1 l2 : List Int} (h1 : Kd.C (Kd.int .i64) w A1 l1.length l1) (h2 : Kd.C (Kd.int .i64) w A2 l2.length l2) (h : w.heap[g]? = some (.cells #[.slice A1 l1.length l1.length, .slice A2 l2.length l2.length] 23 (0, 0))) : Kd.C (Kd.slice 3 (Kd.int .i64)) w (some ⟨g, 0, none⟩) 2 [l1, l2] := by
 refine ⟨rfl, by omega, fun _ => ⟨_, rfl, fun j p hj => ?_⟩⟩
 have hs : (Kd.slice 3 (Kd.int .i64)).sz = 1 := rfl
 match j, hj with
 | 0, hj =>
  obtain rfl : l1 = p := by simpa using hj
  refine ⟨[.slice A1 l1.length l1.length], rfl, ⟨A1, _, rfl, Nat.le_refl _, h1⟩, fun i u hu => ?_⟩
  rw [hs, add_at, bq_ h]
  match i, hu with
  | 0, hu => exact hu
 | 1, hj =>
  obtain rfl : l2 = p := by simpa using hj
  refine ⟨[.slice A2 l2.length l2.length], rfl, ⟨A2, _, rfl, Nat.le_refl _, h2⟩, fun i u hu => ?_⟩
  rw [hs, add_at, bq_ h]
  match i, hu with
  | 0, hu => exact hu
set_option maxHeartbeats 3200000 in
set_option maxRecDepth 100000 in
theorem awake_calls (w : World) : Calls Try.prog 10 #[] w fun e w' => e = .returned (.bool true) ∧ Below w.heap.size w w' := by
 have huF := Try.underlying29
 have huW := Try.underlying40
 have huL := Try.underlying27
 have huK := Try.underlying26
 have huu := Try.underlying22
 have hui := Try.underlying23
 have huii := Try.underlying24
 go_enter Try.func10, Try.ntmps10
 go_upto_region 2 with fail
 obtain ⟨n0, hn0⟩ : ∃ k, k = w.heap.size := ⟨_, rfl⟩
 obtain ⟨n1, hn1⟩ : ∃ k, k = n0 + 1 := ⟨_, rfl⟩
 obtain ⟨n2, hn2⟩ : ∃ k, k = n1 + 1 := ⟨_, rfl⟩
 obtain ⟨n3, hn3⟩ : ∃ k, k = n2 + 1 := ⟨_, rfl⟩
 obtain ⟨n4, hn4⟩ : ∃ k, k = n3 + 1 := ⟨_, rfl⟩
 obtain ⟨n5, hn5⟩ : ∃ k, k = n4 + 1 := ⟨_, rfl⟩
 rw [← hn0, ← hn1, ← hn2, ← hn3, ← hn4, ← hn5]
 obtain ⟨V0, hV0⟩ : ∃ W : World, W = w.alloc (.cells #[.int .u32 0, .int .u32 1] 48) := ⟨_, rfl⟩
 obtain ⟨V1, hV1⟩ : ∃ W : World, W = V0.alloc (.cells #[.int .i64 0] 3) := ⟨_, rfl⟩
 obtain ⟨V2, hV2⟩ : ∃ W : World, W = V1.alloc (.cells #[.int .i64 0, .int .i64 1] 3) := ⟨_, rfl⟩
 obtain ⟨V3, hV3⟩ : ∃ W : World, W = V2.alloc (.cells #[.int .i64 1] 3) := ⟨_, rfl⟩
 obtain ⟨V4, hV4⟩ : ∃ W : World, W = V3.alloc (.cells #[.slice (some ⟨n2, 0, none⟩) 2 2, .slice (some ⟨n3, 0, none⟩) 1 1] 23) := ⟨_, rfl⟩
 obtain ⟨V5, hV5⟩ : ∃ W : World, W = V4.alloc (.cells #[.slice (some ⟨n0, 0, none⟩) 2 2, .slice (some ⟨n1, 0, none⟩) 1 1, .slice (some ⟨n4, 0, none⟩) 2 2] 26) := ⟨_, rfl⟩
 rw [← hV0, ← hV1, ← hV2, ← hV3, ← hV4, ← hV5]
 have hz0 : V0.heap.size = n0 + 1 := by rw [hV0]; simp; omega
 have hb0 : V0.heap[n0]? = some (.cells #[.int .u32 0, .int .u32 1] 48 (0, 0)) := by have h := heap_alloc_new w (.cells #[.int .u32 0, .int .u32 1] 48); rw [← hV0, show w.heap.size = n0 by omega] at h; exact h
 have hB0 : Below w.heap.size w V0 := by rw [hV0]; exact below_alloc (Below.refl _ _) _
 have hz1 : V1.heap.size = n1 + 1 := by rw [hV1]; simp; omega
 have hb1 : V1.heap[n1]? = some (.cells #[.int .i64 0] 3 (0, 0)) := by have h := heap_alloc_new V0 (.cells #[.int .i64 0] 3); rw [← hV1, show V0.heap.size = n1 by omega] at h; exact h
 have hB1 : Below V0.heap.size V0 V1 := by rw [hV1]; exact below_alloc (Below.refl _ _) _
 have hz2 : V2.heap.size = n2 + 1 := by rw [hV2]; simp; omega
 have hb2 : V2.heap[n2]? = some (.cells #[.int .i64 0, .int .i64 1] 3 (0, 0)) := by have h := heap_alloc_new V1 (.cells #[.int .i64 0, .int .i64 1] 3); rw [← hV2, show V1.heap.size = n2 by omega] at h; exact h
 have hB2 : Below V1.heap.size V1 V2 := by rw [hV2]; exact below_alloc (Below.refl _ _) _
 have hz3 : V3.heap.size = n3 + 1 := by rw [hV3]; simp; omega
 have hb3 : V3.heap[n3]? = some (.cells #[.int .i64 1] 3 (0, 0)) := by have h := heap_alloc_new V2 (.cells #[.int .i64 1] 3); rw [← hV3, show V2.heap.size = n3 by omega] at h; exact h
 have hB3 : Below V2.heap.size V2 V3 := by rw [hV3]; exact below_alloc (Below.refl _ _) _
 have hz4 : V4.heap.size = n4 + 1 := by rw [hV4]; simp; omega
 have hb4 : V4.heap[n4]? = some (.cells #[.slice (some ⟨n2, 0, none⟩) 2 2, .slice (some ⟨n3, 0, none⟩) 1 1] 23 (0, 0)) := by have h := heap_alloc_new V3 (.cells #[.slice (some ⟨n2, 0, none⟩) 2 2, .slice (some ⟨n3, 0, none⟩) 1 1] 23); rw [← hV4, show V3.heap.size = n4 by omega] at h; exact h
 have hB4 : Below V3.heap.size V3 V4 := by rw [hV4]; exact below_alloc (Below.refl _ _) _
 have hz5 : V5.heap.size = n5 + 1 := by rw [hV5]; simp; omega
 have hb5 : V5.heap[n5]? = some (.cells #[.slice (some ⟨n0, 0, none⟩) 2 2, .slice (some ⟨n1, 0, none⟩) 1 1, .slice (some ⟨n4, 0, none⟩) 2 2] 26 (0, 0)) := by have h := heap_alloc_new V4 (.cells #[.slice (some ⟨n0, 0, none⟩) 2 2, .slice (some ⟨n1, 0, none⟩) 1 1, .slice (some ⟨n4, 0, none⟩) 2 2] 26); rw [← hV5, show V4.heap.size = n5 by omega] at h; exact h
 have hB5 : Below V4.heap.size V4 V5 := by rw [hV5]; exact below_alloc (Below.refl _ _) _
 have hD5 : Below V5.heap.size V5 V5 := Below.refl _ _
 have hD4 : Below V4.heap.size V4 V5 := hB5.trans (hD5.mono hB5.size)
 have hD3 : Below V3.heap.size V3 V5 := hB4.trans (hD4.mono hB4.size)
 have hD2 : Below V2.heap.size V2 V5 := hB3.trans (hD3.mono hB3.size)
 have hD1 : Below V1.heap.size V1 V5 := hB2.trans (hD2.mono hB2.size)
 have hD0 : Below V0.heap.size V0 V5 := hB1.trans (hD1.mono hB1.size)
 have hD : Below w.heap.size w V5 := hB0.trans (hD0.mono hB0.size)
 have hc0 := (hD0.block _ (blk_lt hb0)).trans hb0
 have hc1 := (hD1.block _ (blk_lt hb1)).trans hb1
 have hc2 := (hD2.block _ (blk_lt hb2)).trans hb2
 have hc3 := (hD3.block _ (blk_lt hb3)).trans hb3
 have hc4 := (hD4.block _ (blk_lt hb4)).trans hb4
 have hc5 := hb5
 have HLS := Zd.mk (show Kd.C (Kd.int .u32) V5 (some ⟨n0, 0, none⟩) ([0, 1] : List Int).length [0, 1] from C_sc (enc := Value.int .u32) (h1 := fun _ => rfl) 0 hc0 (by decide))
 have HSS := Zd.mk (show Kd.C (Kd.int .i64) V5 (some ⟨n1, 0, none⟩) ([0] : List Int).length [0] from C_sc (enc := Value.int .i64) (h1 := fun _ => rfl) 0 hc1 (by decide))
 have HNX := Zd.mk (show Kd.C (Kd.slice 3 (Kd.int .i64)) V5 (some ⟨n4, 0, none⟩) ([[0, 1], [1]] : List (List Int)).length [[0, 1], [1]] from C_rows2 (l1 := [0, 1]) (l2 := [1]) (C_sc (enc := Value.int .i64) (h1 := fun _ => rfl) 0 hc2 (by decide)) (C_sc (enc := Value.int .i64) (h1 := fun _ => rfl) 0 hc3 (by decide)) hc4)
 have HBX := Zd.mk hc5
 have HB5 := Zd.mk hD
 clear hD hD0 hD1 hD2 hD3 hD4 hD5 hB0 hB1 hB2 hB3 hB4 hB5 hb0 hb1 hb2 hb3 hb4 hb5 hc0 hc1 hc2 hc3 hc4 hc5 hz0 hz1 hz2 hz3 hz4 hz5 hV0 hV1 hV2 hV3 hV4 hV5 hn0 hn1 hn2 hn3 hn4 hn5
 go_upto_region 3 with (go_at_call 15; refine (atom_calls _ _).mono ?_; rintro e w1 ⟨rfl, hB⟩; have HB1 := Zd.mk hB; clear hB)
 obtain ⟨WF, hWF⟩ : ∃ W3, W3 = (w1.alloc (.cells #[.int .i64 2, .int .i64 0, .slice none 0 0] 29)).alloc (.cells #[.int .i64 6, .int .i64 0, .slice (some ⟨w1.heap.size, 0, none⟩) 1 1] 29) := ⟨_, rfl⟩
 have hBF : Below w1.heap.size w1 WF := by rw [hWF]; exact below_alloc (below_alloc (Below.refl _ _) _) _
 have hbk : WF.heap[w1.heap.size]? = some (.cells #[.int .i64 2, .int .i64 0, .slice none 0 0] 29 (0, 0)) := by rw [hWF]; exact ba_ (heap_alloc_new w1 _) _
 have hbx : WF.heap[w1.heap.size + 1]? = some (.cells #[.int .i64 6, .int .i64 0, .slice (some ⟨w1.heap.size, 0, none⟩) 1 1] 29 (0, 0)) := by
  rw [hWF]
  have := heap_alloc_new (w1.alloc (.cells #[.int .i64 2, .int .i64 0, .slice none 0 0] 29)) (.cells #[.int .i64 6, .int .i64 0, .slice (some ⟨w1.heap.size, 0, none⟩) 1 1] 29)
  simpa using this
 rw [← hWF]
 obtain ⟨m1, hm1⟩ : ∃ k, k = w1.heap.size + 1 := ⟨_, rfl⟩
 obtain ⟨m0, hm0⟩ : ∃ k, k = w1.heap.size := ⟨_, rfl⟩
 rw [← hm1, ← hm0] at hbx
 rw [← hm0] at hbk
 rw [← hm1, ← hm0]
 have HF := Zd.mk (show Kd.C k29 WF (some ⟨m0, 0, none⟩) ([atomS 0] : List S29).length [atomS 0] from C_oneF (a := atomS 0) rfl hbk)
 have hB5F : Below V5.heap.size V5 WF := HB1.out.trans (hBF.mono HB1.out.size)
 have HBF := Zd.mk (HB5.out.trans (hB5F.mono HB5.out.size))
 have HBX2 := Zd.mk ((hB5F.block _ (blk_lt HBX.out)).trans HBX.out)
 have HBY2 := Zd.mk hbx
 have HLS2 := Zd.mk (Kd.C_below HLS.out hB5F)
 have HSS2 := Zd.mk (Kd.C_below HSS.out hB5F)
 have HNX2 := Zd.mk (Kd.C_below HNX.out hB5F)
 have x0 : WF.cell? ⟨n5, 0, none⟩ = some (.slice (some ⟨n0, 0, none⟩) 2 2) := (bq_ HBX2.out 0).trans rfl
 have x1 : WF.cell? ⟨n5, 1, none⟩ = some (.slice (some ⟨n1, 0, none⟩) 1 1) := (bq_ HBX2.out 1).trans rfl
 have x2 : WF.cell? ⟨n5, 2, none⟩ = some (.slice (some ⟨n4, 0, none⟩) 2 2) := (bq_ HBX2.out 2).trans rfl
 have y0 : WF.cell? ⟨m1, 0, none⟩ = some (.int .i64 6) := (bq_ HBY2.out 0).trans rfl
 have y1 : WF.cell? ⟨m1, 1, none⟩ = some (.int .i64 0) := (bq_ HBY2.out 1).trans rfl
 have y2 : WF.cell? ⟨m1, 2, none⟩ = some (.slice (some ⟨m0, 0, none⟩) 1 1) := (bq_ HBY2.out 2).trans rfl
 have HFI := Zd.mk (search_Find.calls (some ⟨n0, 0, none⟩) 2 [0, 1] (some ⟨n1, 0, none⟩) 1 [0] (some ⟨n4, 0, none⟩) 2 [[0, 1], [1]] 6 0 (some ⟨m0, 0, none⟩) 1 [atomS 0] [0] [1] true 0 WF HLS2.out (Nat.le_refl _) HSS2.out (Nat.le_refl _) HNX2.out (Nat.le_refl _) HF.out (Nat.le_refl _) find_FA)
 clear hWF hBF hbk hbx hm1 hm0 hB5F
 go_upto_region 4 with (go_at_call 11; refine HFI.out.mono ?_; rintro e w2 ⟨v1, v2, rfl, hR1, hR2, hB2⟩; obtain ⟨A1, c1, e1, hc1, hC1⟩ := Kd.R_reads hR1; obtain ⟨A2, c2, e2, hc2, hC2⟩ := Kd.R_reads hR2; subst e1; subst e2; have HB2 := Zd.mk hB2; have HC1 := Zd.mk hC1; have HC2 := Zd.mk hC2; clear hR1 hR2 hC1 hC2 hB2)
 obtain ⟨W2, rfl⟩ : ∃ W : World, W = w2 := ⟨_, rfl⟩
 have HWO := Zd.mk (word_trueC (some ⟨n0, 0, none⟩) 2 [0, 1] (some ⟨n1, 0, none⟩) 1 [0] (some ⟨n4, 0, none⟩) 2 [[0, 1], [1]] A1 c1 [0] A2 c2 [1] [0] [1] W2 (Kd.C_below HLS2.out HB2.out) (Nat.le_refl _) (Kd.C_below HSS2.out HB2.out) (Nat.le_refl _) (Kd.C_below HNX2.out HB2.out) (Nat.le_refl _) HC1.out hc1 HC2.out hc2 word_FA)
 have HBX3 := Zd.mk ((HB2.out.block _ (blk_lt HBX2.out)).trans HBX2.out)
 clear x0 x1 x2 y0 y1 y2
 have x0 : W2.cell? ⟨n5, 0, none⟩ = some (.slice (some ⟨n0, 0, none⟩) 2 2) := (bq_ HBX3.out 0).trans rfl
 have x1 : W2.cell? ⟨n5, 1, none⟩ = some (.slice (some ⟨n1, 0, none⟩) 1 1) := (bq_ HBX3.out 1).trans rfl
 have x2 : W2.cell? ⟨n5, 2, none⟩ = some (.slice (some ⟨n4, 0, none⟩) 2 2) := (bq_ HBX3.out 2).trans rfl
 go_upto_region 5 with (go_at_call 13; refine HWO.out.mono ?_; rintro e w3 ⟨v1, v2, rfl, hR1, hR2, hB2⟩; obtain ⟨A3, c3, e1, hc3, hC1⟩ := Kd.R_reads hR1; obtain ⟨A4, c4, e2, hc4, hC2⟩ := Kd.R_reads hR2; subst e1; subst e2; have HB3 := Zd.mk hB2; have HC3 := Zd.mk hC1; have HC4 := Zd.mk hC2; clear hR1 hR2 hC1 hC2 hB2)
 obtain ⟨W4, hW4⟩ : ∃ W : World, W = w3.alloc (.cells #[.slice A3 1 c3, .slice A4 1 c4] 40) := ⟨_, rfl⟩
 have hB4 : Below w3.heap.size w3 W4 := by rw [hW4]; exact below_alloc (Below.refl _ _) _
 have hbw : W4.heap[w3.heap.size]? = some (.cells #[.slice A3 1 c3, .slice A4 1 c4] 40 (0, 0)) := by rw [hW4]; exact heap_alloc_new w3 _
 rw [← hW4]
 obtain ⟨g7, hg7⟩ : ∃ k, k = w3.heap.size := ⟨_, rfl⟩
 rw [← hg7] at hbw ⊢
 have hB24 : Below W2.heap.size W2 W4 := HB3.out.trans (hB4.mono HB3.out.size)
 have hBF4 : Below WF.heap.size WF W4 := HB2.out.trans (hB24.mono HB2.out.size)
 have HBX4 := Zd.mk ((hBF4.block _ (blk_lt HBX2.out)).trans HBX2.out)
 have HBY4 := Zd.mk ((hBF4.block _ (blk_lt HBY2.out)).trans HBY2.out)
 have HBW4 := Zd.mk hbw
 have HBF4 := Zd.mk hBF4
 have HC34 := Zd.mk (Kd.C_below HC3.out hB4)
 have HC44 := Zd.mk (Kd.C_below HC4.out hB4)
 have HAL := Zd.mk (search_All.calls (some ⟨n0, 0, none⟩) 2 [0, 1] (some ⟨n1, 0, none⟩) 1 [0] (some ⟨n4, 0, none⟩) 2 [[0, 1], [1]] 6 0 (some ⟨m0, 0, none⟩) 1 [atomS 0] false 0 W4 (Kd.C_below HLS2.out hBF4) (Nat.le_refl _) (Kd.C_below HSS2.out hBF4) (Nat.le_refl _) (Kd.C_below HNX2.out hBF4) (Nat.le_refl _) (Kd.C_below HF.out hBF4) (Nat.le_refl _) all_FA)
 clear hW4 hB4 hbw hg7 hB24 hBF4 x0 x1 x2
 have x0 : W4.cell? ⟨n5, 0, none⟩ = some (.slice (some ⟨n0, 0, none⟩) 2 2) := (bq_ HBX4.out 0).trans rfl
 have x1 : W4.cell? ⟨n5, 1, none⟩ = some (.slice (some ⟨n1, 0, none⟩) 1 1) := (bq_ HBX4.out 1).trans rfl
 have x2 : W4.cell? ⟨n5, 2, none⟩ = some (.slice (some ⟨n4, 0, none⟩) 2 2) := (bq_ HBX4.out 2).trans rfl
 have y0 : W4.cell? ⟨m1, 0, none⟩ = some (.int .i64 6) := (bq_ HBY4.out 0).trans rfl
 have y1 : W4.cell? ⟨m1, 1, none⟩ = some (.int .i64 0) := (bq_ HBY4.out 1).trans rfl
 have y2 : W4.cell? ⟨m1, 2, none⟩ = some (.slice (some ⟨m0, 0, none⟩) 1 1) := (bq_ HBY4.out 2).trans rfl
 go_upto_region 6 with (go_at_call 12; refine HAL.out.mono ?_; rintro e w5 ⟨rfl, hB⟩; have HB6 := Zd.mk hB; clear hB)
 obtain ⟨W5, rfl⟩ : ∃ W : World, W = w5 := ⟨_, rfl⟩
 have HBY5 := Zd.mk ((HB6.out.block _ (blk_lt HBY4.out)).trans HBY4.out)
 have HBW5 := Zd.mk ((HB6.out.block _ (blk_lt HBW4.out)).trans HBW4.out)
 have hBF5 : Below WF.heap.size WF W5 := HBF4.out.trans (HB6.out.mono HBF4.out.size)
 have HHO := Zd.mk (formula_Holds.calls 6 0 (some ⟨m0, 0, none⟩) 1 [atomS 0] A3 c3 [0] A4 c4 [1] true W5 (Kd.C_below HF.out hBF5) (Nat.le_refl _) (Kd.C_below HC34.out HB6.out) hc3 (Kd.C_below HC44.out HB6.out) hc4 holds_FA)
 have HB7 := Zd.mk (HBF.out.trans (hBF5.mono HBF.out.size))
 clear x0 x1 x2 y0 y1 y2 hBF5
 have y0 : W5.cell? ⟨m1, 0, none⟩ = some (.int .i64 6) := (bq_ HBY5.out 0).trans rfl
 have y1 : W5.cell? ⟨m1, 1, none⟩ = some (.int .i64 0) := (bq_ HBY5.out 1).trans rfl
 have y2 : W5.cell? ⟨m1, 2, none⟩ = some (.slice (some ⟨m0, 0, none⟩) 1 1) := (bq_ HBY5.out 2).trans rfl
 have z0 : W5.cell? ⟨g7, 0, none⟩ = some (.slice A3 1 c3) := (bq_ HBW5.out 0).trans rfl
 have z1 : W5.cell? ⟨g7, 1, none⟩ = some (.slice A4 1 c4) := (bq_ HBW5.out 1).trans rfl
 go_wp2_with (go_at_call 14; refine HHO.out.mono ?_; rintro e w6 ⟨rfl, hB⟩; have HB8 := Zd.mk hB; clear hB)
 go_ret
 exact ⟨rfl, HB7.out.trans (HB8.out.mono HB7.out.size)⟩
end Go.Proofs.Ytapejnikpmfddaa.X
namespace Go.Proofs.Ytapejnikpmfddaa.X
open Go.RowKit Go.Proofs.YtapejnikpmfddaaW.PrintWords Go.Proofs.YtapejnikpmfddaaW.PrintMore
set_option linter.unusedVariables false
set_option linter.unusedSimpArgs false
def pvd (f : Nat → Bool → Bool) (v : Bool) : Nat → Nat → Bool
 | _, 0 => v
 | i, d + 1 => f i (pvd f v (i + 1) d)
theorem getD_set (l : List Bool) (i j : Nat) (x : Bool) (hi : i < l.length) : (l.set i x).getD j false = if j = i then x else l.getD j false := by
 rw [List.getD_eq_getElem?_getD, List.getElem?_set, List.getD_eq_getElem?_getD]
 by_cases h : i = j
 ·subst h
  rw [if_pos rfl, if_pos rfl, if_pos hi]; rfl
 ·rw [if_neg h, if_neg (fun e => h e.symm)]
theorem pass_spec (f : Nat → Bool → Bool) (n b : Nat) (v : Bool) : ∀ (j : Nat) (out : List Bool), j ≤ n → b < n → out.length = n → (∀ i, j ≤ i → i < n → out.getD i false = pvd f v i (n - i)) → (j = n → out.getD b false = v) → ∀ i, i < n → (passD f n b j out).getD i false = pvd f v i (n - i)
 | 0, out, _, _, _, h, _, i, hi => by rw [passD]; exact h i (Nat.zero_le _) hi
 | j + 1, out, hj, hb, hl, h, hv, i, hi => by
  rw [passD]
  have hx : f j (out.getD (nextS n b j) false) = pvd f v j (n - j) := by
   unfold nextS
   by_cases hlt : j + 1 < n
   ·rw [if_pos hlt, h (j + 1) (Nat.le_refl _) hlt, show n - j = (n - (j + 1)) + 1 by omega]; rfl
   ·rw [if_neg hlt, hv (by omega), show n - j = 1 by omega]; rfl
  refine pass_spec f n b v j _ (by omega) hb (by simp [hl]) (fun i' h1 h2 => ?_) (fun e => by omega) i hi
  rw [getD_set _ _ _ _ (by omega)]
  by_cases e : i' = j
  ·subst e; rw [if_pos rfl]; exact hx
  ·rw [if_neg e]; exact h i' (by omega) h2
theorem pass_get (f : Nat → Bool → Bool) (n b : Nat) (out : List Bool) (hb : b < n) (hl : out.length = n) (i : Nat) (hi : i < n) : (passD f n b n out).getD i false = pvd f (out.getD b false) i (n - i) :=
 pass_spec f n b _ n out (Nat.le_refl _) hb hl (fun i h1 h2 => by omega) (fun _ => rfl) i hi
theorem rep_getD (n : Nat) (x : Bool) (b : Nat) (hb : b < n) : (List.replicate n x).getD b false = x := by
 rw [List.getD_eq_getElem?_getD, List.getElem?_replicate, if_pos hb]; rfl
theorem settle_get (f : Nat → Bool → Bool) (n b : Nat) (first : Bool) (hb : b < n) (i : Nat) (hi : i < n) : (settleS f n b first).getD i false = pvd f (pvd f first b (n - b)) i (n - i) := by
 unfold settleS
 rw [pass_get f n b _ hb (by simp [len_pass]) i hi, pass_get f n b _ hb (by simp) b hb, rep_getD n first b hb]
def MonoB (f : Nat → Bool → Bool) : Prop := ∀ i, f i false = true → f i true = true
theorem pvd_mono {f : Nat → Bool → Bool} (h : MonoB f) : ∀ (d i : Nat), pvd f false i d = true → pvd f true i d = true
 | 0, i, h0 => by cases h0
 | d + 1, i, h0 => by
  simp only [pvd] at h0 ⊢
  cases h1 : pvd f false (i + 1) d with
  | true => rw [h1] at h0; rw [pvd_mono h d (i + 1) h1]; exact h0
  | false =>
   rw [h1] at h0
   cases pvd f true (i + 1) d with
   | true => exact h i h0
   | false => exact h0
theorem pvd_idem {f : Nat → Bool → Bool} (h : MonoB f) (d i : Nat) (v : Bool) : pvd f (pvd f v i d) i d = pvd f v i d := by
 have hm := pvd_mono h d i
 cases v <;> cases h1 : pvd f false i d <;> cases h2 : pvd f true i d <;> simp_all
theorem ext_getD {l m : List Bool} {n : Nat} (hl : l.length = n) (hm : m.length = n) (h : ∀ i, i < n → l.getD i false = m.getD i false) : l = m := by
 apply List.ext_getElem (by omega)
 intro i h1 h2
 have := h i (by omega)
 rwa [List.getD_eq_getElem?_getD, List.getD_eq_getElem?_getD, List.getElem?_eq_getElem h1, List.getElem?_eq_getElem h2] at this
theorem settle_fix {f : Nat → Bool → Bool} (h : MonoB f) (n b : Nat) (first : Bool) (hb : b < n) (i : Nat) (hi : i < n) : (settleS f n b first).getD i false = f i ((settleS f n b first).getD (nextS n b i) false) := by
 rw [settle_get f n b first hb i hi, settle_get f n b first hb _ (nextS_lt hb)]
 unfold nextS
 by_cases hlt : i + 1 < n
 ·rw [if_pos hlt, show n - i = (n - (i + 1)) + 1 by omega]; rfl
 ·rw [if_neg hlt, pvd_idem h, show n - i = 1 by omega]; rfl
theorem settle_const (f : Nat → Bool) (n b : Nat) (first : Bool) (hb : b < n) : settleS (fun i _ => f i) n b first = (List.range n).map f := by
 refine ext_getD (len_settle _ _ _ _) (by simp) (fun i hi => ?_)
 rw [settle_get _ n b first hb i hi, show n - i = (n - (i + 1)) + 1 by omega]
 simp [pvd, hi]
theorem mono_const (f : Nat → Bool) : MonoB (fun i _ => f i) := fun _ h => h
theorem mono_until (p q : Nat → Bool) : MonoB (fun i nx => q i || p i && nx) := fun i h => by cases h1 : q i <;> cases h2 : p i <;> simp_all
theorem mono_release (p q : Nat → Bool) : MonoB (fun i nx => q i && (p i || nx)) := fun i h => by cases h1 : q i <;> cases h2 : p i <;> simp_all
end Go.Proofs.Ytapejnikpmfddaa.X
namespace Go.Proofs.Ytapejnikpmfddaa.L
open Go.RowKit Go.Proofs.YtapejnikpmfddaaW.PrintWords Go.Proofs.YtapejnikpmfddaaW.PrintMore
open Go.Proofs.Ytapejnikpmfddaa.P Go.Proofs.Ytapejnikpmfddaa.Evx Go.Proofs.Ytapejnikpmfddaa.X
set_option linter.unusedVariables false
set_option linter.unusedSimpArgs false
theorem movesL_app (sv : Int) : ∀ (L1 L2 : List Bool) (k : Nat), movesL sv (L1 ++ L2) k = (movesL sv L1 k && movesL sv L2 (k + L1.length))
 | [], L2, k => by simp [movesL]
 | x :: r, L2, k => by
  simp only [List.cons_append, movesL, List.length_cons]
  rw [movesL_app sv r L2 (k + 1), Bool.and_assoc, show k + 1 + r.length = k + (r.length + 1) by omega]
theorem getD_map (l : List (List Bool)) (i j : Nat) : (l.map (fun r => r.getD i false)).getD j false = (l.getD j []).getD i false := by
 rw [List.getD_eq_getElem?_getD, List.getElem?_map, List.getD_eq_getElem?_getD (l := l)]
 cases l[j]? <;> simp
theorem val_bit {op m lt : Int} {bit bit' x y : Bool} (h : timedS op = true → bit = bit') : valOp op m lt bit x y = valOp op m lt bit' x y := by
 cases ht : timedS op with
 | true => rw [h ht]
 | false =>
  have h6 : ¬ op = 6 := fun e => by rw [e] at ht; cases ht
  have h7 : ¬ op = 7 := fun e => by rw [e] at ht; cases ht
  have h8 : ¬ op = 8 := fun e => by rw [e] at ht; cases ht
  unfold valOp
  simp only [if_neg h6, if_neg h7, if_neg h8]
theorem timed_cases {op : Int} (h : timedS op = true) : op = 6 ∨ op = 7 ∨ op = 8 := by
 simp only [timedS, Bool.and_eq_true, decide_eq_true_eq] at h
 omega
theorem until_ev {V x y : Nat → Bool} (hs : ∀ i, V i = (y i || x i && V (i + 1))) (hf : ∀ i, ∃ j, i ≤ j ∧ (!V j || y j) = true) : ∀ i, V i = true → ∃ d, y (i + d) = true := by
 intro i hi
 obtain ⟨j, hj, hg⟩ := hf i
 have key : ∀ e i, V i = true → (!V (i + e) || y (i + e)) = true → ∃ d, y (i + d) = true := by
  intro e
  induction e with
  | zero =>
   intro i h1 h2
   rw [Nat.add_zero, h1] at h2
   exact ⟨0, by simpa using h2⟩
  | succ e ih =>
   intro i h1 h2
   cases hy : y i with
   | true => exact ⟨0, hy⟩
   | false =>
    have h3 := hs i
    rw [h1, hy, Bool.false_or] at h3
    have h4 : V (i + 1) = true := by
     have := h3.symm
     rw [Bool.and_eq_true] at this
     exact this.2
    obtain ⟨d, hd⟩ := ih (i + 1) h4 (by rw [show i + 1 + e = i + (e + 1) by omega]; exact h2)
    exact ⟨d + 1, by rw [show i + (d + 1) = i + 1 + d by omega]; exact hd⟩
 exact key (j - i) i hi (by rw [show i + (j - i) = j by omega]; exact hg)
theorem until_up {V W x y : Nat → Bool} (hv : ∀ i, V i = (y i || x i && V (i + 1))) (hw : ∀ i, W i = (y i || x i && W (i + 1))) : ∀ d i, V i = true → y (i + d) = true → W i = true
 | 0, i, _, h2 => by rw [hw i, show y i = true from h2, Bool.true_or]
 | d + 1, i, h1, h2 => by
  rw [hw i]
  cases hy : y i with
  | true => rfl
  | false =>
   have h3 := hv i
   rw [h1, hy, Bool.false_or] at h3
   have h4 := h3.symm
   rw [Bool.and_eq_true] at h4
   rw [h4.1, until_up hv hw d (i + 1) h4.2 (by rw [show i + 1 + d = i + (d + 1) by omega]; exact h2)]; rfl
theorem until_eq {V W x y : Nat → Bool} (hv : ∀ i, V i = (y i || x i && V (i + 1))) (hw : ∀ i, W i = (y i || x i && W (i + 1)))
  (fv : ∀ i, ∃ j, i ≤ j ∧ (!V j || y j) = true) (fw : ∀ i, ∃ j, i ≤ j ∧ (!W j || y j) = true) (i : Nat) : V i = W i := by
 have h1 : V i = true → W i = true := fun h => by
  obtain ⟨d, hd⟩ := until_ev hv fv i h
  exact until_up hv hw d i h hd
 have h2 : W i = true → V i = true := fun h => by
  obtain ⟨d, hd⟩ := until_ev hw fw i h
  exact until_up hw hv d i h hd
 cases a : V i <;> cases b : W i
 ·rfl
 ·exact absurd (h2 b) (by rw [a]; decide)
 ·exact absurd (h1 a) (by rw [b]; decide)
 ·rfl
theorem release_eq {V W x y : Nat → Bool} (hv : ∀ i, V i = (y i && (x i || V (i + 1)))) (hw : ∀ i, W i = (y i && (x i || W (i + 1))))
  (fv : ∀ i, ∃ j, i ≤ j ∧ (V j || !y j) = true) (fw : ∀ i, ∃ j, i ≤ j ∧ (W j || !y j) = true) (i : Nat) : V i = W i := by
 have h := until_eq (V := fun i => !V i) (W := fun i => !W i) (x := fun i => !x i) (y := fun i => !y i) (fun i => by rw [hv i]; cases y i <;> cases x i <;> cases V (i + 1) <;> rfl) (fun i => by rw [hw i]; cases y i <;> cases x i <;> cases W (i + 1) <;> rfl)
  (fun i => by obtain ⟨j, h1, h2⟩ := fv i; exact ⟨j, h1, by simp only [Bool.not_not]; exact h2⟩) (fun i => by obtain ⟨j, h1, h2⟩ := fw i; exact ⟨j, h1, by simp only [Bool.not_not]; exact h2⟩) i
 have := congrArg (fun b => !b) h
 simpa using this
def kid (W : S29 → Nat → Bool) (s : S29) (n i : Nat) : Bool := (s.f2.map (fun g => W g i)).getD n false
structure Truth (σ : Nat → Int) (W : S29 → Nat → Bool) : Prop where
 step : ∀ s, soundS s = true → ∀ i, W s i = valOp s.f0 s.f1 (σ i) (if s.f0 = 6 then kid W s 0 (i + 1) else W s (i + 1)) (kid W s 0 i) (kid W s 1 i)
 fair : ∀ s, soundS s = true → timedS s.f0 = true → ∀ i, ∃ j, i ≤ j ∧ goodOp s.f0 (W s j) (kid W s 1 j) = true
theorem goodL_get (sv lt : Int) (op : Int) (b : Bool) (l : List Bool) (h : timedS op = true) : (ownE op b ++ l).getD 0 false = b := by
 unfold ownE
 rw [if_pos h]; rfl
theorem getD_app_right (A B : List Bool) (i : Nat) : (A ++ B).getD (A.length + i) false = B.getD i false := by
 rw [List.getD_eq_getElem?_getD, List.getElem?_append_right (by omega), List.getD_eq_getElem?_getD, show A.length + i - A.length = i by omega]
theorem getD_app_left (A B : List Bool) (i : Nat) (h : i < A.length) : (A ++ B).getD i false = A.getD i false := by
 rw [List.getD_eq_getElem?_getD, List.getElem?_append_left h, List.getD_eq_getElem?_getD]
section
variable {σ : Nat → Int} {W : S29 → Nat → Bool} {st : Nat → Int}
mutual
theorem val_truth (hT : Truth σ W) : ∀ (s : S29) (k : Nat), soundS s = true → (∀ i, movesL (st i) (saidS (st (i + 1)) (σ (i + 1)) s k) k = true) → (∀ q, q < tnS s → ∀ i, ∃ j, i ≤ j ∧ (goodS (st j) (σ j) s k).getD q false = true) → ∀ i, valS (st i) (σ i) s k = W s i
 | ⟨op, m, kids⟩, k, hs, hm, hg => by
  have hown : ∀ i, movesL (st i) (ownE op (saidOp op ((valL (st (i + 1)) (σ (i + 1)) kids (k + tS op)).getD 0 false) (valS (st (i + 1)) (σ (i + 1)) ⟨op, m, kids⟩ k))) k = true ∧ movesL (st i) (saidL (st (i + 1)) (σ (i + 1)) kids (k + tS op)) (k + tS op) = true := fun i => by
   have h := hm i
   rw [said_eq, movesL_app, len_own, Bool.and_eq_true] at h
   exact h
  have ih := val_truthL hT kids (k + tS op) (sound_kids_all hs) (fun i => (hown i).2) (fun q hq i => by
   obtain ⟨j, h1, h2⟩ := hg (tS op + q) (by rw [tn_eq]; simp only; omega) i
   rw [good_eq] at h2
   have h3 := getD_app_right (ownE op (goodOp op (valS (st j) (σ j) ⟨op, m, kids⟩ k) ((valL (st j) (σ j) kids (k + tS op)).getD 1 false))) (goodL (st j) (σ j) kids (k + tS op)) q
   rw [len_own] at h3
   exact ⟨j, h1, by rw [← h3]; exact h2⟩)
  have hx : ∀ i, (valL (st i) (σ i) kids (k + tS op)).getD 0 false = kid W ⟨op, m, kids⟩ 0 i := fun i => by rw [ih i]; rfl
  have hy : ∀ i, (valL (st i) (σ i) kids (k + tS op)).getD 1 false = kid W ⟨op, m, kids⟩ 1 i := fun i => by rw [ih i]; rfl
  have hv : ∀ i, valS (st i) (σ i) ⟨op, m, kids⟩ k = valOp op m (σ i) (bitK (st i) k) (kid W ⟨op, m, kids⟩ 0 i) (kid W ⟨op, m, kids⟩ 1 i) := fun i => by
   rw [val_eq]
   simp only
   rw [hx i, hy i]
  have hw := hT.step ⟨op, m, kids⟩ hs
  simp only at hw
  cases ht : timedS op with
  | false =>
   intro i
   rw [hv i, hw i]
   exact val_bit (fun h => by rw [ht] at h; cases h)
  | true =>
   have hb : ∀ i, bitK (st i) k = saidOp op (kid W ⟨op, m, kids⟩ 0 (i + 1)) (valS (st (i + 1)) (σ (i + 1)) ⟨op, m, kids⟩ k) := fun i => by
    have h := (hown i).1
    unfold ownE at h
    rw [if_pos ht, hx (i + 1)] at h
    simp only [movesL, Bool.and_true] at h
    exact (beq_iff_eq.1 h).symm
   have hgd : ∀ i, ∃ j, i ≤ j ∧ goodOp op (valS (st j) (σ j) ⟨op, m, kids⟩ k) (kid W ⟨op, m, kids⟩ 1 j) = true := fun i => by
    obtain ⟨j, h1, h2⟩ := hg 0 (by rw [tn_eq]; unfold tS; simp only; rw [if_pos ht]; omega) i
    rw [good_eq, goodL_get (st j) (σ j) _ _ _ ht] at h2
    simp only at h2
    rw [hy j] at h2
    exact ⟨j, h1, h2⟩
   have hfw := hT.fair ⟨op, m, kids⟩ hs ht
   simp only at hfw
   rcases timed_cases ht with h | h | h
   ·subst h
    intro i
    rw [hv i, hw i, hb i]
    rfl
   ·subst h
    refine until_eq (x := fun i => kid W ⟨7, m, kids⟩ 0 i) (y := fun i => kid W ⟨7, m, kids⟩ 1 i) (fun i => ?_) (fun i => ?_) (fun i => ?_) (fun i => ?_)
    ·rw [hv i, hb i]; rfl
    ·rw [hw i]; rfl
    ·obtain ⟨j, h1, h2⟩ := hgd i
     exact ⟨j, h1, h2⟩
    ·obtain ⟨j, h1, h2⟩ := hfw i
     exact ⟨j, h1, h2⟩
   ·subst h
    refine release_eq (x := fun i => kid W ⟨8, m, kids⟩ 0 i) (y := fun i => kid W ⟨8, m, kids⟩ 1 i) (fun i => ?_) (fun i => ?_) (fun i => ?_) (fun i => ?_)
    ·rw [hv i, hb i]; rfl
    ·rw [hw i]; rfl
    ·obtain ⟨j, h1, h2⟩ := hgd i
     exact ⟨j, h1, h2⟩
    ·obtain ⟨j, h1, h2⟩ := hfw i
     exact ⟨j, h1, h2⟩
theorem val_truthL (hT : Truth σ W) : ∀ (l : List S29) (k : Nat), soundL l = true → (∀ i, movesL (st i) (saidL (st (i + 1)) (σ (i + 1)) l k) k = true) → (∀ q, q < tnL l → ∀ i, ∃ j, i ≤ j ∧ (goodL (st j) (σ j) l k).getD q false = true) → ∀ i, valL (st i) (σ i) l k = l.map (fun g => W g i)
 | [], k, _, _, _ => fun i => rfl
 | c :: r, k, hs, hm, hg => by
  simp only [soundL, Bool.and_eq_true] at hs
  have hp : ∀ i, movesL (st i) (saidS (st (i + 1)) (σ (i + 1)) c k) k = true ∧ movesL (st i) (saidL (st (i + 1)) (σ (i + 1)) r (k + tnS c)) (k + tnS c) = true := fun i => by
   have h := hm i
   rw [saidL, movesL_app, len_said, Bool.and_eq_true] at h
   exact h
  have h1 := val_truth hT c k hs.1 (fun i => (hp i).1) (fun q hq i => by
   obtain ⟨j, h1, h2⟩ := hg q (by rw [tnL]; omega) i
   rw [goodL, getD_app_left _ _ _ (by rw [len_good]; exact hq)] at h2
   exact ⟨j, h1, h2⟩)
  have h2 := val_truthL hT r (k + tnS c) hs.2 (fun i => (hp i).2) (fun q hq i => by
   obtain ⟨j, h1, h2⟩ := hg (tnS c + q) (by rw [tnL]; omega) i
   have h3 := getD_app_right (goodS (st j) (σ j) c k) (goodL (st j) (σ j) r (k + tnS c)) q
   rw [len_good] at h3
   rw [goodL, h3] at h2
   exact ⟨j, h1, h2⟩)
  intro i
  rw [valL, h1 i, h2 i, List.map_cons]
end
end
def gdR (ls : List Int) (b i : Nat) (t : S29) : Bool := goodOp t.f0 ((rowS ls b t).getD i false) (((rowL ls b t.f2).getD 1 []).getD i false)
theorem const_get (f : Nat → Bool) (n b : Nat) (first : Bool) (hb : b < n) (i : Nat) (hi : i < n) : (settleS (fun i _ => f i) n b first).getD i false = f i := by
 rw [settle_const f n b first hb, List.getD_eq_getElem?_getD, List.getElem?_map, List.getElem?_range hi]
 rfl
theorem row_step (ls : List Int) (b : Nat) (op m : Int) (x y : List Bool) (hb : b < ls.length) (i : Nat) (hi : i < ls.length) (hop : 0 ≤ kidsS op) :
  (rowOp ls b op m x y).getD i false = valOp op m (ls.getD i 0) (if op = 6 then x.getD (nextS ls.length b i) false else (rowOp ls b op m x y).getD (nextS ls.length b i) false) (x.getD i false) (y.getD i false) := by
 rcases op_cases hop with h | h | h | h | h | h | h | h <;> subst h
 ·exact const_get (fun _ => true) _ _ false hb i hi
 ·exact const_get (fun i => bitS (ls.getD i 0) m) _ _ false hb i hi
 ·exact const_get (fun i => !(x.getD i false)) _ _ false hb i hi
 ·exact const_get (fun i => x.getD i false && y.getD i false) _ _ false hb i hi
 ·exact const_get (fun i => x.getD i false || y.getD i false) _ _ false hb i hi
 ·exact const_get (fun i => x.getD (nextS ls.length b i) false) _ _ false hb i hi
 ·exact settle_fix (mono_until (fun i => x.getD i false) (fun i => y.getD i false)) _ _ false hb i hi
 ·exact settle_fix (mono_release (fun i => x.getD i false) (fun i => y.getD i false)) _ _ true hb i hi
theorem pvd_until (p q : Nat → Bool) : ∀ (d i : Nat), (∀ j, i ≤ j → j < i + d → q j = false) → pvd (fun i nx => q i || p i && nx) false i d = false
 | 0, i, _ => rfl
 | d + 1, i, h => by
  simp only [pvd]
  rw [pvd_until p q d (i + 1) (fun j h1 h2 => h j (by omega) (by omega)), h i (Nat.le_refl _) (by omega)]
  simp
theorem pvd_release (p q : Nat → Bool) : ∀ (d i : Nat), (∀ j, i ≤ j → j < i + d → q j = true) → pvd (fun i nx => q i && (p i || nx)) true i d = true
 | 0, i, _ => rfl
 | d + 1, i, h => by
  simp only [pvd]
  rw [pvd_release p q d (i + 1) (fun j h1 h2 => h j (by omega) (by omega)), h i (Nat.le_refl _) (by omega)]
  simp
theorem settled (ls : List Int) (b : Nat) (hb : b < ls.length) (t : S29) (ht : timedS t.f0 = true) : ∃ i, b ≤ i ∧ i < ls.length ∧ gdR ls b i t = true := by
 have h3 : t.f0 = 6 ∨ t.f0 = 7 ∨ t.f0 = 8 := by
  simp only [timedS, Bool.and_eq_true, decide_eq_true_eq] at ht
  omega
 rcases h3 with h | h | h
 ·exact ⟨b, Nat.le_refl _, hb, by unfold gdR goodOp; rw [if_pos h]⟩
 ·by_cases hq : ∃ j, b ≤ j ∧ j < ls.length ∧ ((rowL ls b t.f2).getD 1 []).getD j false = true
  ·obtain ⟨j, j1, j2, j3⟩ := hq
   refine ⟨j, j1, j2, ?_⟩
   unfold gdR
   rw [h, j3]
   simp [goodOp]
  ·have hall : ∀ j, b ≤ j → j < b + (ls.length - b) → ((rowL ls b t.f2).getD 1 []).getD j false = false := fun j h1 h2 => by
    cases hc : ((rowL ls b t.f2).getD 1 []).getD j false with
    | false => rfl
    | true => exact absurd ⟨j, h1, by omega, hc⟩ hq
   refine ⟨b, Nat.le_refl _, hb, ?_⟩
   have hr : (rowS ls b t).getD b false = false := by
    rw [row_eq, h]
    show (settleS (fun i nx => ((rowL ls b t.f2).getD 1 []).getD i false || ((rowL ls b t.f2).getD 0 []).getD i false && nx) ls.length b false).getD b false = false
    have hx := pvd_until (fun i => ((rowL ls b t.f2).getD 0 []).getD i false) (fun i => ((rowL ls b t.f2).getD 1 []).getD i false) (ls.length - b) b hall
    rw [settle_get _ _ _ _ hb b hb, hx, hx]
   unfold gdR
   rw [h, hr]
   simp [goodOp]
 ·by_cases hq : ∃ j, b ≤ j ∧ j < ls.length ∧ ((rowL ls b t.f2).getD 1 []).getD j false = false
  ·obtain ⟨j, j1, j2, j3⟩ := hq
   refine ⟨j, j1, j2, ?_⟩
   unfold gdR
   rw [h, j3]
   simp [goodOp]
  ·have hall : ∀ j, b ≤ j → j < b + (ls.length - b) → ((rowL ls b t.f2).getD 1 []).getD j false = true := fun j h1 h2 => by
    cases hc : ((rowL ls b t.f2).getD 1 []).getD j false with
    | true => rfl
    | false => exact absurd ⟨j, h1, by omega, hc⟩ hq
   refine ⟨b, Nat.le_refl _, hb, ?_⟩
   have hr : (rowS ls b t).getD b false = true := by
    rw [row_eq, h]
    show (settleS (fun i nx => ((rowL ls b t.f2).getD 1 []).getD i false && (((rowL ls b t.f2).getD 0 []).getD i false || nx)) ls.length b true).getD b false = true
    have hx := pvd_release (fun i => ((rowL ls b t.f2).getD 0 []).getD i false) (fun i => ((rowL ls b t.f2).getD 1 []).getD i false) (ls.length - b) b hall
    rw [settle_get _ _ _ _ hb b hb, hx, hx]
   unfold gdR
   rw [h, hr]
   simp [goodOp]
theorem wraps_i64 (n : Int) (h0 : 0 ≤ n) (h1 : n < 2 ^ 62) : IntKind.i64.wrap n = n := by rw [IntKind.wrap_i64]; omega
theorem div_cast (a k : Nat) : (a : Int) / 2 ^ k = ((a / 2 ^ k : Nat) : Int) := by
 rw [Int.natCast_ediv, Int.natCast_pow]; rfl
theorem bitK_nat (a k : Nat) (h : a < 2 ^ 62) : bitK (a : Int) k = decide (a / 2 ^ k % 2 = 1) := by
 unfold bitK
 rw [div_cast]
 have hlt : a / 2 ^ k < 2 ^ 62 := Nat.lt_of_le_of_lt (Nat.div_le_self _ _) h
 have := Go.bits_mask .i64 62 (by decide) wraps_i64 1 (by decide) ((a / 2 ^ k : Nat) : Int) (Int.natCast_nonneg _) (by exact_mod_cast hlt)
 have e1 : ((2 : Int) ^ 1 - 1) = 1 := by decide
 have e2 : ((2 : Int) ^ 1) = 2 := by decide
 rw [e1, e2] at this
 rw [this]
 generalize a / 2 ^ k = x at *
 by_cases hb : x % 2 = 1
 ·rw [decide_eq_true hb]
  exact beq_iff_eq.2 (by omega)
 ·rw [decide_eq_false hb]
  exact beq_eq_false_iff_ne.2 (by omega)
def numL : List Bool → Nat
 | [] => 0
 | b :: r => b.toNat + 2 * numL r
theorem numL_lt : ∀ l : List Bool, numL l < 2 ^ l.length
 | [] => by simp [numL]
 | b :: r => by
  have := numL_lt r
  have hb : b.toNat ≤ 1 := by cases b <;> decide
  simp only [numL, List.length_cons, Nat.pow_succ]
  omega
theorem moves_num : ∀ (L : List Bool) (k a : Nat), a < 2 ^ 62 → a / 2 ^ k < 2 ^ L.length → movesL (a : Int) L k = decide (a / 2 ^ k = numL L)
 | [], k, a, h1, h2 => by
  have : a / 2 ^ k = 0 := by simpa using h2
  exact (decide_eq_true this).symm
 | b :: r, k, a, h1, h2 => by
  have hc : numL (b :: r) = b.toNat + 2 * numL r := rfl
  show (b == bitK (a : Int) k && movesL (a : Int) r (k + 1)) = _
  have e1 : a / 2 ^ (k + 1) = a / 2 ^ k / 2 := by rw [Nat.pow_succ, Nat.div_div_eq_div_mul]
  simp only [List.length_cons, Nat.pow_succ] at h2
  rw [moves_num r (k + 1) a h1 (by rw [e1]; omega), bitK_nat a k h1, e1]
  generalize a / 2 ^ k = x at *
  generalize numL (b :: r) = y at *
  generalize numL r = z at *
  cases b
  ·have hc : y = 2 * z := by rw [hc]; simp
   by_cases hx : x % 2 = 1
   ·rw [decide_eq_true hx, decide_eq_false (show ¬ x = y by omega)]; rfl
   ·rw [decide_eq_false hx]
    by_cases hy : x / 2 = z
    ·rw [decide_eq_true hy, decide_eq_true (show x = y by omega)]; rfl
    ·rw [decide_eq_false hy, decide_eq_false (show ¬ x = y by omega)]; rfl
  ·have hc : y = 1 + 2 * z := by rw [hc]; simp
   by_cases hx : x % 2 = 1
   ·rw [decide_eq_true hx]
    by_cases hy : x / 2 = z
    ·rw [decide_eq_true hy, decide_eq_true (show x = y by omega)]; rfl
    ·rw [decide_eq_false hy, decide_eq_false (show ¬ x = y by omega)]; rfl
   ·rw [decide_eq_false hx, decide_eq_false (show ¬ x = y by omega)]; rfl
def posn (n b : Nat) : Nat → Nat
 | 0 => 0
 | i + 1 => nextS n b (posn n b i)
theorem posn_lt {n b : Nat} (hb : b < n) : ∀ i, posn n b i < n
 | 0 => by show 0 < n; omega
 | i + 1 => nextS_lt hb
theorem posn_up {n b : Nat} : ∀ (d i : Nat), posn n b i + d < n → posn n b (i + d) = posn n b i + d
 | 0, i, _ => rfl
 | d + 1, i, h => by
  have ih := posn_up (n := n) (b := b) d i (by omega)
  show nextS n b (posn n b (i + d)) = _
  rw [ih]
  unfold nextS
  rw [if_pos (by omega)]; omega
theorem posn_wrap {n b : Nat} (hb : b < n) (i : Nat) : posn n b (i + (n - 1 - posn n b i) + 1) = b := by
 have h := posn_lt hb i
 show nextS n b (posn n b (i + (n - 1 - posn n b i))) = b
 rw [posn_up _ _ (by omega)]
 unfold nextS
 rw [if_neg (by omega)]
theorem posn_hits {n b p : Nat} (hb : b < n) (h1 : b ≤ p) (h2 : p < n) (i : Nat) : ∃ j, i ≤ j ∧ posn n b j = p := by
 have h := posn_wrap hb i
 refine ⟨i + (n - 1 - posn n b i) + 1 + (p - b), by omega, ?_⟩
 rw [posn_up _ _ (by rw [h]; omega), h]; omega
theorem posn_id {n b i : Nat} (h : i < n) : posn n b i = i := by
 have := posn_up (n := n) (b := b) i 0 (by show 0 + i < n; omega)
 rw [Nat.zero_add] at this
 rw [this]
 show 0 + i = i
 omega
theorem posn_per {n b : Nat} (hb : b < n) : ∀ t, posn n b (b + (n - b) + t) = posn n b (b + t)
 | 0 => by
  have h := posn_wrap hb 0
  rw [show posn n b 0 = 0 from rfl, show 0 + (n - 1 - 0) + 1 = b + (n - b) + 0 by omega] at h
  rw [h, Nat.add_zero, posn_id hb]
 | t + 1 => by
  show nextS n b (posn n b (b + (n - b) + t)) = nextS n b (posn n b (b + t))
  rw [posn_per hb t]
theorem rowL_map (ls : List Int) (b : Nat) : ∀ l : List S29, rowL ls b l = l.map (rowS ls b)
 | [] => rfl
 | c :: r => by rw [rowL, rowL_map ls b r, List.map_cons]
def lassoW (ls : List Int) (b : Nat) (s : S29) (i : Nat) : Bool := (rowS ls b s).getD (posn ls.length b i) false
theorem lasso_kid (ls : List Int) (b : Nat) (s : S29) (n i : Nat) : kid (lassoW ls b) s n i = ((rowL ls b s.f2).getD n []).getD (posn ls.length b i) false := by
 unfold kid lassoW
 rw [rowL_map, ← getD_map, List.map_map]; rfl
theorem lasso_truth (ls : List Int) (b : Nat) (hb : b < ls.length) : Truth (fun i => ls.getD (posn ls.length b i) 0) (lassoW ls b) := by
 constructor
 ·intro s hs i
  have h := row_step ls b s.f0 s.f1 ((rowL ls b s.f2).getD 0 []) ((rowL ls b s.f2).getD 1 []) hb (posn ls.length b i) (posn_lt hb i) (sound_parts hs).1
  rw [← row_eq] at h
  rw [lasso_kid, lasso_kid, lasso_kid]
  exact h
 ·intro s hs ht i
  obtain ⟨p, h1, h2, h3⟩ := settled ls b hb s ht
  obtain ⟨j, h4, h5⟩ := posn_hits hb h1 h2 i
  refine ⟨j, h4, ?_⟩
  rw [lasso_kid]
  unfold lassoW
  rw [h5]
  exact h3
theorem aheadN_num (s : Nat) (lt : Int) : ∀ l : List S81, aheadN s lt l = numL (l.map (aheadB s lt))
 | [] => rfl
 | q :: r => by
  rw [aheadN, List.map_cons, numL, aheadN_num s lt r]
  cases aheadB s lt q <;> rfl
theorem bit_shift (a d m k : Nat) (ha : a < 2 ^ 62) (hk : k < m) : bitK (((a / 2 ^ d) % 2 ^ m : Nat) : Int) k = bitK (a : Int) (k + d) := by
 have h1 : (a / 2 ^ d) % 2 ^ m < 2 ^ 62 := Nat.lt_of_le_of_lt (Nat.le_trans (Nat.mod_le _ _) (Nat.div_le_self _ _)) ha
 rw [bitK_nat _ _ h1, bitK_nat _ _ ha, ← Nat.testBit_eq_decide_div_mod_eq, ← Nat.testBit_eq_decide_div_mod_eq, Nat.testBit_mod_two_pow, decide_eq_true hk, Bool.true_and, Nat.testBit_div_two_pow, Nat.add_comm]
mutual
theorem val_shift (a d m : Nat) (lt : Int) (ha : a < 2 ^ 62) : ∀ (s : S29) (k : Nat), k + tnS s ≤ m → valS (((a / 2 ^ d) % 2 ^ m : Nat) : Int) lt s k = valS (a : Int) lt s (k + d)
 | ⟨op, n, kids⟩, k, h => by
  rw [tn_eq] at h
  simp only at h
  rw [val_eq, val_eq]
  simp only
  rw [val_shiftL a d m lt ha kids (k + tS op) (by omega), show k + tS op + d = k + d + tS op by omega]
  refine val_bit (fun ht => bit_shift a d m k ha ?_)
  unfold tS at h
  rw [if_pos ht] at h
  omega
theorem val_shiftL (a d m : Nat) (lt : Int) (ha : a < 2 ^ 62) : ∀ (l : List S29) (k : Nat), k + tnL l ≤ m → valL (((a / 2 ^ d) % 2 ^ m : Nat) : Int) lt l k = valL (a : Int) lt l (k + d)
 | [], k, _ => rfl
 | c :: r, k, h => by
  rw [tnL] at h
  rw [valL, valL, val_shift a d m lt ha c k (by omega), val_shiftL a d m lt ha r (k + tnS c) (by omega), show k + tnS c + d = k + d + tnS c by omega]
end
def ownF (s : S29) : List S29 := if timedS s.f0 = true then [s] else []
theorem times_eq (s : S29) : timesS s = ownF s ++ timesL s.f2 := by cases s; rw [timesS]; rfl
theorem len_ownF (s : S29) : (ownF s).length = tS s.f0 := by unfold ownF tS; split <;> rfl
theorem size_nat {s : S29} (h : mayF s = 0) : sizeS s = ((2 ^ tnS s : Nat) : Int) := by
 unfold sizeS
 rw [if_pos h, Int.natCast_pow]; rfl
theorem part_val (a : Nat) (lt : Int) (ha : a < 2 ^ 62) (t : S29) (i : Nat) (hm : mayF t = 0) (ht : timedS t.f0 = true) : aheadB a lt (secOf t i) = saidOp t.f0 ((valL (a : Int) lt t.f2 (i + tS t.f0)).getD 0 false) (valS (a : Int) lt t i) := by
 have hh := head_may hm
 have key : ∀ f : Nat, valueF (headT t) (((a / 2 ^ f) % 2 ^ tnS (headT t) : Nat) : Int) lt = valS (a : Int) lt (headT t) f := fun f => by
  have hst : stateS (headT t) (((a / 2 ^ f) % 2 ^ tnS (headT t) : Nat) : Int) = true := by
   refine decide_eq_true ?_
   rw [size_nat hh]
   have := Nat.mod_lt (a / 2 ^ f) (Nat.pow_pos (n := tnS (headT t)) (show 0 < 2 by decide))
   omega
  unfold valueF
  rw [if_pos hst, val_shift a f (tnS (headT t)) lt ha (headT t) 0 (by omega), Nat.zero_add]
 have hs := (may_zero hm).2.2.2
 by_cases h6 : t.f0 = 6
 ·have hk : 0 < t.f2.length := by
   have hp := (sound_parts hs).2.1
   rw [h6] at hp
   have h9 : kidsS 6 = 1 := by decide
   omega
  have hsec : aheadB a lt (secOf t i) = valueF (headT t) (((a / 2 ^ (i + 1)) % 2 ^ tnS (headT t) : Nat) : Int) lt := by
   unfold aheadB secOf
   simp only [Int.toNat_natCast, if_pos h6]
  rw [hsec, key (i + 1)]
  have hhd : headT t = t.f2.getD 0 z29 := by unfold headT; rw [if_pos h6]
  rw [hhd, show saidOp t.f0 ((valL (a : Int) lt t.f2 (i + tS t.f0)).getD 0 false) (valS (a : Int) lt t i) = (valL (a : Int) lt t.f2 (i + tS t.f0)).getD 0 false from if_pos h6]
  have hts : tS t.f0 = 1 := by unfold tS; rw [if_pos ht]
  rw [hts]
  match hf : t.f2, hk with
  | c :: r, _ => rfl
 ·have hsec : aheadB a lt (secOf t i) = valueF (headT t) (((a / 2 ^ i) % 2 ^ tnS (headT t) : Nat) : Int) lt := by
   unfold aheadB secOf
   simp only [Int.toNat_natCast, if_neg h6, Nat.add_zero]
  have hhd : headT t = t := by unfold headT; rw [if_neg h6]
  rw [hsec, key i, hhd, show saidOp t.f0 ((valL (a : Int) lt t.f2 (i + tS t.f0)).getD 0 false) (valS (a : Int) lt t i) = valS (a : Int) lt t i from if_neg h6]
mutual
theorem ahead_said (a : Nat) (lt : Int) (ha : a < 2 ^ 62) : ∀ (s : S29) (k : Nat), (∀ t, t ∈ timesS s → mayF t = 0) → (partsOf (timesS s) k).map (aheadB a lt) = saidS (a : Int) lt s k
 | ⟨op, n, kids⟩, k, h => by
  have h' := h
  rw [times_eq] at h' ⊢
  rw [partsOf_app, List.map_append, said_eq, len_ownF]
  have hk := ahead_saidL a lt ha kids (k + tS op) (fun t ht => h' t (List.mem_append_right _ ht))
  simp only at hk ⊢
  rw [hk]
  congr 1
  unfold ownF ownE
  by_cases ht : timedS op = true
  ·rw [if_pos (show timedS (S29.mk op n kids).f0 = true from ht), if_pos ht]
   show [aheadB a lt (secOf ⟨op, n, kids⟩ k)] = _
   have hm : mayF ⟨op, n, kids⟩ = 0 := h' _ (List.mem_append_left _ (by unfold ownF; rw [if_pos (show timedS (S29.mk op n kids).f0 = true from ht)]; exact List.mem_singleton.2 rfl))
   rw [part_val a lt ha ⟨op, n, kids⟩ k hm ht]
  ·rw [if_neg (show ¬ timedS (S29.mk op n kids).f0 = true from ht), if_neg ht]; rfl
theorem ahead_saidL (a : Nat) (lt : Int) (ha : a < 2 ^ 62) : ∀ (l : List S29) (k : Nat), (∀ t, t ∈ timesL l → mayF t = 0) → (partsOf (timesL l) k).map (aheadB a lt) = saidL (a : Int) lt l k
 | [], k, _ => rfl
 | c :: r, k, h => by
  rw [timesL] at h ⊢
  rw [partsOf_app, List.map_append, ahead_said a lt ha c k (fun t ht => h t (List.mem_append_left _ ht)), len_times, ahead_saidL a lt ha r (k + tnS c) (fun t ht => h t (List.mem_append_right _ ht)), saidL]
end
theorem ahead_num {f : S29} (hm : mayF f = 0) (a : Nat) (lt : Int) (ha : a < 2 ^ 62) : aheadN a lt (partsOf (timesS f) 0) = numL (saidS (a : Int) lt f 0) := by
 rw [aheadN_num, ahead_said a lt ha f 0 (fun t ht => (times_sub f t ht).may hm)]
theorem size_pos (f : S29) : 0 < 2 ^ tnS f := Nat.pow_pos (by decide)
theorem size_le {f : S29} (hm : mayF f = 0) : 2 ^ tnS f ≤ 256 := Nat.pow_le_pow_right (n := 2) (by decide) (may_zero hm).2.2.1
section
variable {ls ss : List Int} {nxs : List (List Int)} {f : S29}
theorem divmod {w t n : Nat} (h : t < n) : (w * n + t) / n = w ∧ (w * n + t) % n = t := by
 constructor
 ·rw [Nat.mul_comm, Nat.mul_add_div (by omega), Nat.div_eq_of_lt h, Nat.add_zero]
 ·rw [Nat.mul_comm, Nat.mul_add_mod, Nat.mod_eq_of_lt h]
theorem next_mem (hok : (newPD ls ss nxs f).Ok) {x y : Nat} (hx : x < (newPD ls ss nxs f).N) : y ∈ (newPD ls ss nxs f).next x ↔ ∃ w t, w ∈ (newPD ls ss nxs f).nxs.getD (x / 2 ^ tnS f) [] ∧ t < 2 ^ tnS f ∧ aheadN t (ls.getD w 0) (partsOf (timesS f) 0) = x % 2 ^ tnS f ∧ y = w * 2 ^ tnS f + t := by
 have hd : x / 2 ^ tnS f < ls.length := hok.div hx
 have hmod : x % 2 ^ tnS f < 2 ^ tnS f := Nat.mod_lt _ (size_pos f)
 have hrow : ∀ w, w < ls.length → (newPD ls ss nxs f).after.getD (w * 2 ^ tnS f + x % 2 ^ tnS f) [] = (List.range (2 ^ tnS f)).filter (fun u => aheadN u (ls.getD w 0) (partsOf (timesS f) 0) == x % 2 ^ tnS f) := fun w hw => by
  have hlt : w * 2 ^ tnS f + x % 2 ^ tnS f < 2 ^ tnS f * ls.length := by
   have h1 : (w + 1) * 2 ^ tnS f ≤ ls.length * 2 ^ tnS f := Nat.mul_le_mul_right _ hw
   have h2 : (w + 1) * 2 ^ tnS f = w * 2 ^ tnS f + 2 ^ tnS f := Nat.succ_mul ..
   rw [Nat.mul_comm (2 ^ tnS f) ls.length]
   omega
  show (stageL (partsOf (timesS f) 0) ls (2 ^ tnS f) (2 ^ tnS f * ls.length) ls.length 0).getD _ [] = _
  rw [stage_get hlt]
  unfold stageF
  rw [(divmod hmod).1, (divmod hmod).2, if_pos hw]
 have hE : (newPD ls ss nxs f).next x = ((newPD ls ss nxs f).nxs.getD (x / 2 ^ tnS f) []).flatMap ((newPD ls ss nxs f).nextRow (x % 2 ^ tnS f)) := rfl
 rw [hE, List.mem_flatMap]
 constructor
 ·rintro ⟨w, hw, hy⟩
  have hwl := hok.nx _ hd w hw
  have hR : (newPD ls ss nxs f).nextRow (x % 2 ^ tnS f) w = ((newPD ls ss nxs f).after.getD (w * 2 ^ tnS f + x % 2 ^ tnS f) []).map (fun t => w * 2 ^ tnS f + t) := rfl
  rw [hR, hrow w hwl, List.mem_map] at hy
  obtain ⟨t, ht, rfl⟩ := hy
  rw [List.mem_filter, List.mem_range] at ht
  exact ⟨w, t, hw, ht.1, beq_iff_eq.1 ht.2, rfl⟩
 ·rintro ⟨w, t, hw, ht, ha, rfl⟩
  have hwl := hok.nx _ hd w hw
  refine ⟨w, hw, ?_⟩
  have hR : (newPD ls ss nxs f).nextRow (x % 2 ^ tnS f) w = ((newPD ls ss nxs f).after.getD (w * 2 ^ tnS f + x % 2 ^ tnS f) []).map (fun t => w * 2 ^ tnS f + t) := rfl
  rw [hR, hrow w hwl, List.mem_map]
  exact ⟨t, by rw [List.mem_filter, List.mem_range]; exact ⟨ht, beq_iff_eq.2 ha⟩, rfl⟩
theorem good_eqG (hm : mayF f = 0) {q x : Nat} (hq : q < tnS f) : (newPD ls ss nxs f).good q x = (goodS ((x % 2 ^ tnS f : Nat) : Int) (ls.getD (x / 2 ^ tnS f) 0) f 0).getD q false := by
 have hmod : x % 2 ^ tnS f < 2 ^ tnS f := Nat.mod_lt _ (size_pos f)
 show goodF f (q : Int) ((x % 2 ^ tnS f : Nat) : Int) (ls.getD (x / 2 ^ tnS f) 0) = _
 unfold goodF
 have hst : stateS f ((x % 2 ^ tnS f : Nat) : Int) = true := decide_eq_true (by rw [size_nat hm]; omega)
 rw [hst, decide_eq_true (show (0 : Int) ≤ (q : Int) by omega), decide_eq_true (show (q : Int) < (tnS f : Int) by omega), Int.toNat_natCast]
 rfl
theorem value_eqG (hm : mayF f = 0) {v s : Nat} (hs : s < 2 ^ tnS f) : (newPD ls ss nxs f).value v s = valS ((s : Nat) : Int) (ls.getD v 0) f 0 := by
 show valueF f (s : Int) (ls.getD v 0) = _
 unfold valueF
 rw [if_pos (show stateS f (s : Int) = true from decide_eq_true (by rw [size_nat hm]; omega))]
theorem starts_mem {want : Bool} {x : Nat} : x ∈ (newPD ls ss nxs f).starts want ↔ ∃ v s, v ∈ (newPD ls ss nxs f).ss ∧ s < 2 ^ tnS f ∧ (newPD ls ss nxs f).value v s = want ∧ x = v * 2 ^ tnS f + s := by
 unfold PD.starts PD.startRow
 rw [List.mem_flatMap]
 constructor
 ·rintro ⟨v, hv, hx⟩
  obtain ⟨s, hs, rfl⟩ := List.mem_map.1 hx
  rw [List.mem_filter, List.mem_range] at hs
  exact ⟨v, s, hv, hs.1, beq_iff_eq.1 hs.2, rfl⟩
 ·rintro ⟨v, s, hv, hs, hval, rfl⟩
  exact ⟨v, hv, List.mem_map.2 ⟨s, by rw [List.mem_filter, List.mem_range]; exact ⟨hs, beq_iff_eq.2 hval⟩, rfl⟩⟩
theorem path_truth (hok : (newPD ls ss nxs f).Ok) (hm : mayF f = 0) {x : Nat → Nat} (hN : ∀ i, x i < (newPD ls ss nxs f).N) (hp : ∀ i, x (i + 1) ∈ (newPD ls ss nxs f).next (x i)) (hg : ∀ q, q < tnS f → ∀ i, ∃ j, i ≤ j ∧ (newPD ls ss nxs f).good q (x j) = true)
  {W : S29 → Nat → Bool} (hT : Truth (fun i => ls.getD (x i / 2 ^ tnS f) 0) W) : ∀ i, valS ((x i % 2 ^ tnS f : Nat) : Int) (ls.getD (x i / 2 ^ tnS f) 0) f 0 = W f i := by
 have h256 := size_le hm
 refine val_truth (st := fun i => ((x i % 2 ^ tnS f : Nat) : Int)) hT f 0 (may_zero hm).2.2.2 (fun i => ?_) (fun q hq i => ?_)
 ·obtain ⟨w, t, hw, ht, ha, e⟩ := (next_mem hok (hN i)).1 (hp i)
  have hmod : x i % 2 ^ tnS f < 2 ^ tnS f := Nat.mod_lt _ (size_pos f)
  rw [e, (divmod ht).1, (divmod ht).2, moves_num _ 0 (x i % 2 ^ tnS f) (by omega) (by rw [len_said, Nat.pow_zero, Nat.div_one]; exact hmod), Nat.pow_zero, Nat.div_one]
  rw [ahead_num hm t _ (by omega)] at ha
  exact decide_eq_true ha.symm
 ·obtain ⟨j, h1, h2⟩ := hg q hq i
  exact ⟨j, h1, by rw [good_eqG hm hq] at h2; exact h2⟩
theorem way_step {nx : Nat → List Nat} {inn : Nat → Bool} : ∀ (l : List Nat), Sg.IsWay nx inn l → ∀ i, i + 1 < l.length → l.getD (i + 1) 0 ∈ nx (l.getD i 0)
 | [], _, i, h => by simp at h
 | [a], _, i, h => by simp at h
 | a :: b :: r, hw, 0, _ => hw.1
 | a :: b :: r, hw, i + 1, h => way_step (b :: r) hw.2.2 i (by simpa using h)
theorem found_path (hok : (newPD ls ss nxs f).Ok) (hm : mayF f = 0) {want : Bool} {a c : List Nat} (h : findG ls ss nxs f want = some (a, c)) :
  a.length < (a ++ c).length ∧ (∀ i, (a ++ c).getD (posn (a ++ c).length a.length i) 0 < (newPD ls ss nxs f).N) ∧ (a ++ c).getD 0 0 ∈ (newPD ls ss nxs f).starts want ∧
  (∀ i, (a ++ c).getD (posn (a ++ c).length a.length (i + 1)) 0 ∈ (newPD ls ss nxs f).next ((a ++ c).getD (posn (a ++ c).length a.length i) 0)) ∧
  (∀ q, q < tnS f → ∀ i, ∃ j, i ≤ j ∧ (newPD ls ss nxs f).good q ((a ++ c).getD (posn (a ++ c).length a.length j) 0) = true) := by
 have hs := Sg.find_spec (nx := (newPD ls ss nxs f).next) (good := (newPD ls ss nxs f).good) (N := (newPD ls ss nxs f).N) (P := (newPD ls ss nxs f).P) (frm := (newPD ls ss nxs f).starts want) (fun x hx y hy => hok.next_lt hx hy) (fun x hx => hok.starts_lt want hx)
 have h' : Sg.findF (newPD ls ss nxs f).next (newPD ls ss nxs f).good (newPD ls ss nxs f).N (newPD ls ss nxs f).P ((newPD ls ss nxs f).starts want) = some (a, c) := h
 rw [h'] at hs
 obtain ⟨⟨x0, r, ec, hway⟩, ⟨b0, r0, e0, hst⟩, hgood⟩ := hs
 have hlc : 0 < c.length := by rw [ec]; simp
 have hla : (a ++ c).length = a.length + c.length := List.length_append
 have hb : a.length < (a ++ c).length := by omega
 have h00 : (a ++ c).getD 0 0 = b0 := by rw [e0]; rfl
 have hx0 : (a ++ c).getD a.length 0 = x0 := by rw [List.getD_eq_getElem?_getD, List.getElem?_append_right (Nat.le_refl _), Nat.sub_self, ec]; rfl
 have hpp : (newPD ls ss nxs f).P = tnS f := by
  show (partsOf (timesS f) 0).length = tnS f
  rw [len_partsOf, len_times]
 have hstep : ∀ i, (a ++ c).getD (posn (a ++ c).length a.length (i + 1)) 0 ∈ (newPD ls ss nxs f).next ((a ++ c).getD (posn (a ++ c).length a.length i) 0) := fun i => by
  have hp := posn_lt hb i
  have e1 : posn (a ++ c).length a.length (i + 1) = nextS (a ++ c).length a.length (posn (a ++ c).length a.length i) := rfl
  rw [e1]
  generalize posn (a ++ c).length a.length i = p at hp ⊢
  have hw := way_step _ hway p (by rw [List.length_append, List.length_singleton]; omega)
  have g1 : (a ++ c ++ [x0]).getD p 0 = (a ++ c).getD p 0 := by rw [List.getD_eq_getElem?_getD, List.getElem?_append_left hp, List.getD_eq_getElem?_getD]
  rw [g1] at hw
  unfold nextS
  by_cases hn : p + 1 < (a ++ c).length
  ·rw [if_pos hn]
   have g2 : (a ++ c ++ [x0]).getD (p + 1) 0 = (a ++ c).getD (p + 1) 0 := by rw [List.getD_eq_getElem?_getD, List.getElem?_append_left hn, List.getD_eq_getElem?_getD]
   rw [g2] at hw
   exact hw
  ·rw [if_neg hn, hx0]
   have g2 : (a ++ c ++ [x0]).getD (p + 1) 0 = x0 := by rw [List.getD_eq_getElem?_getD, List.getElem?_append_right (by omega), show p + 1 - (a ++ c).length = 0 by omega]; rfl
   rw [g2] at hw
   exact hw
 have h0 : (a ++ c).getD 0 0 ∈ (newPD ls ss nxs f).starts want := by rw [h00]; exact hst
 have hlt : ∀ i, (a ++ c).getD (posn (a ++ c).length a.length i) 0 < (newPD ls ss nxs f).N := by
  intro i
  induction i with
  | zero => exact hok.starts_lt want h0
  | succ i ih => exact hok.next_lt ih (hstep i)
 refine ⟨hb, hlt, h0, hstep, fun q hq i => ?_⟩
 obtain ⟨y, hy, hgy⟩ := hgood q (by rw [hpp]; exact hq)
 obtain ⟨p, hp, e⟩ := List.getElem_of_mem hy
 obtain ⟨j, h1, h2⟩ := posn_hits hb (show a.length ≤ a.length + p by omega) (by omega) i
 refine ⟨j, h1, ?_⟩
 rw [h2, List.getD_eq_getElem?_getD, List.getElem?_append_right (by omega), Nat.add_sub_cancel_left, List.getElem?_eq_getElem hp]
 show (newPD ls ss nxs f).good q (c[p]'hp) = true
 rw [e]
 exact hgy
theorem found_truth (hok : (newPD ls ss nxs f).Ok) (hm : mayF f = 0) {want : Bool} {a c : List Nat} (h : findG ls ss nxs f want = some (a, c)) {W : S29 → Nat → Bool}
  (hT : Truth (fun i => ls.getD ((a ++ c).getD (posn (a ++ c).length a.length i) 0 / 2 ^ tnS f) 0) W) : W f 0 = want := by
 obtain ⟨hb, hN, h0, hp, hg⟩ := found_path hok hm h
 have hv := path_truth hok hm (x := fun i => (a ++ c).getD (posn (a ++ c).length a.length i) 0) hN hp hg hT 0
 rw [show posn (a ++ c).length a.length 0 = 0 from rfl] at hv
 obtain ⟨v, s, hv0, hs, hval, e⟩ := starts_mem.1 h0
 rw [e, (divmod hs).1, (divmod hs).2] at hv
 rw [← hv, ← value_eqG (ss := ss) (nxs := nxs) hm hs, hval]
theorem found_verts (hok : (newPD ls ss nxs f).Ok) (hm : mayF f = 0) {want : Bool} {a c : List Nat} (h : findG ls ss nxs f want = some (a, c)) :
  (a ++ c).getD 0 0 / 2 ^ tnS f ∈ (newPD ls ss nxs f).ss ∧ (∀ i, (a ++ c).getD (posn (a ++ c).length a.length i) 0 / 2 ^ tnS f < ls.length) ∧ ∀ i, (a ++ c).getD (posn (a ++ c).length a.length (i + 1)) 0 / 2 ^ tnS f ∈ (newPD ls ss nxs f).nxs.getD ((a ++ c).getD (posn (a ++ c).length a.length i) 0 / 2 ^ tnS f) [] := by
 obtain ⟨hb, hN, h0, hp, hg⟩ := found_path hok hm h
 refine ⟨?_, fun i => hok.div (hN i), fun i => ?_⟩
 ·obtain ⟨v, s, hv0, hs, hval, e⟩ := starts_mem.1 h0
  rw [e, (divmod hs).1]; exact hv0
 ·obtain ⟨w, t, hw, ht, ha, e⟩ := (next_mem hok (hN i)).1 (hp i)
  rw [e, (divmod ht).1]; exact hw
def nwW (W : S29 → Nat → Bool) (i : Nat) (t : S29) : Bool := if t.f0 = 6 then kid W t 0 i else W t i
def gdW (W : S29 → Nat → Bool) (i : Nat) (t : S29) : Bool := goodOp t.f0 (W t i) (kid W t 1 i)
end
section
variable {σ : Nat → Int} {W : S29 → Nat → Bool} {sv : Int} {i : Nat}
theorem moves_part {s : S29} {k : Nat} (h : movesL sv ((timesS s).map (nwW W (i + 1))) k = true) : (timedS s.f0 = true → bitK sv k = nwW W (i + 1) s) ∧ movesL sv ((timesL s.f2).map (nwW W (i + 1))) (k + tS s.f0) = true := by
 rw [times_eq, List.map_append, movesL_app, Bool.and_eq_true] at h
 have hl : ((ownF s).map (nwW W (i + 1))).length = tS s.f0 := by rw [List.length_map, len_ownF]
 rw [hl] at h
 refine ⟨fun ht => ?_, h.2⟩
 have h1 := h.1
 unfold ownF at h1
 rw [if_pos ht] at h1
 simp only [List.map_cons, List.map_nil, movesL, Bool.and_true] at h1
 exact (beq_iff_eq.1 h1).symm
mutual
theorem val_of (hT : Truth σ W) : ∀ (s : S29) (k : Nat), soundS s = true → movesL sv ((timesS s).map (nwW W (i + 1))) k = true → valS sv (σ i) s k = W s i
 | ⟨op, m, kids⟩, k, hs, hm => by
  have hp := moves_part hm
  have ih := val_ofL hT kids (k + tS op) (sound_kids_all hs) hp.2
  rw [val_eq, hT.step ⟨op, m, kids⟩ hs i]
  simp only
  rw [ih]
  refine val_bit (fun ht => ?_)
  rw [hp.1 ht]
  rfl
theorem val_ofL (hT : Truth σ W) : ∀ (l : List S29) (k : Nat), soundL l = true → movesL sv ((timesL l).map (nwW W (i + 1))) k = true → valL sv (σ i) l k = l.map (fun g => W g i)
 | [], k, _, _ => rfl
 | c :: r, k, hs, hm => by
  simp only [soundL, Bool.and_eq_true] at hs
  rw [timesL, List.map_append, movesL_app, Bool.and_eq_true, List.length_map, len_times] at hm
  rw [valL, val_of hT c k hs.1 hm.1, val_ofL hT r _ hs.2 hm.2, List.map_cons]
end
mutual
theorem said_of (hT : Truth σ W) : ∀ (s : S29) (k : Nat), soundS s = true → movesL sv ((timesS s).map (nwW W (i + 1))) k = true → saidS sv (σ i) s k = (timesS s).map (nwW W i)
 | ⟨op, m, kids⟩, k, hs, hm => by
  have hp := moves_part hm
  have hv := val_of hT ⟨op, m, kids⟩ k hs hm
  have hk := val_ofL hT kids (k + tS op) (sound_kids_all hs) hp.2
  rw [times_eq, List.map_append, said_eq, said_ofL hT kids _ (sound_kids_all hs) hp.2, hv]
  simp only
  rw [hk]
  congr 1
  unfold ownE ownF
  by_cases ht : timedS op = true
  ·rw [if_pos ht, if_pos (show timedS (S29.mk op m kids).f0 = true from ht)]; rfl
  ·rw [if_neg ht, if_neg (show ¬ timedS (S29.mk op m kids).f0 = true from ht)]; rfl
theorem said_ofL (hT : Truth σ W) : ∀ (l : List S29) (k : Nat), soundL l = true → movesL sv ((timesL l).map (nwW W (i + 1))) k = true → saidL sv (σ i) l k = (timesL l).map (nwW W i)
 | [], k, _, _ => rfl
 | c :: r, k, hs, hm => by
  simp only [soundL, Bool.and_eq_true] at hs
  rw [timesL, List.map_append, movesL_app, Bool.and_eq_true, List.length_map, len_times] at hm
  rw [timesL, List.map_append, saidL, said_of hT c k hs.1 hm.1, said_ofL hT r _ hs.2 hm.2]
end
mutual
theorem good_of (hT : Truth σ W) : ∀ (s : S29) (k : Nat), soundS s = true → movesL sv ((timesS s).map (nwW W (i + 1))) k = true → goodS sv (σ i) s k = (timesS s).map (gdW W i)
 | ⟨op, m, kids⟩, k, hs, hm => by
  have hp := moves_part hm
  have hv := val_of hT ⟨op, m, kids⟩ k hs hm
  have hk := val_ofL hT kids (k + tS op) (sound_kids_all hs) hp.2
  rw [times_eq, List.map_append, good_eq, good_ofL hT kids _ (sound_kids_all hs) hp.2, hv]
  simp only
  rw [hk]
  congr 1
  unfold ownE ownF
  by_cases ht : timedS op = true
  ·rw [if_pos ht, if_pos (show timedS (S29.mk op m kids).f0 = true from ht)]; rfl
  ·rw [if_neg ht, if_neg (show ¬ timedS (S29.mk op m kids).f0 = true from ht)]; rfl
theorem good_ofL (hT : Truth σ W) : ∀ (l : List S29) (k : Nat), soundL l = true → movesL sv ((timesL l).map (nwW W (i + 1))) k = true → goodL sv (σ i) l k = (timesL l).map (gdW W i)
 | [], k, _, _ => rfl
 | c :: r, k, hs, hm => by
  simp only [soundL, Bool.and_eq_true] at hs
  rw [timesL, List.map_append, movesL_app, Bool.and_eq_true, List.length_map, len_times] at hm
  rw [timesL, List.map_append, goodL, good_of hT c k hs.1 hm.1, good_ofL hT r _ hs.2 hm.2]
end
end
mutual
theorem times_own : ∀ (s t : S29), t ∈ timesS s → timedS t.f0 = true
 | ⟨op, m, kids⟩, t, h => by
  rw [times_eq] at h
  rcases List.mem_append.1 h with h | h
  ·unfold ownF at h
   split at h
   ·rename_i ho
    rw [List.mem_singleton.1 h]; exact ho
   ·cases h
  ·exact times_ownL kids t h
theorem times_ownL : ∀ (l : List S29) (t : S29), t ∈ timesL l → timedS t.f0 = true
 | [], t, h => by simp [timesL] at h
 | c :: r, t, h => by
  rw [timesL] at h
  rcases List.mem_append.1 h with h | h
  ·exact times_own c t h
  ·exact times_ownL r t h
end
theorem reach_path {nx : Nat → List Nat} {x : Nat → Nat} (hp : ∀ i, x (i + 1) ∈ nx (x i)) : ∀ d i, Sg.Reach nx (x i) (x (i + d))
 | 0, i => Sg.Reach.refl _
 | d + 1, i => (reach_path hp d i).snoc (hp (i + d))
section
variable {ls ss : List Int} {nxs : List (List Int)} {f : S29}
theorem truth_found (hok : (newPD ls ss nxs f).Ok) (hm : mayF f = 0) {want : Bool} (h : findG ls ss nxs f want = none) {v : Nat → Nat} (hv0 : v 0 ∈ (newPD ls ss nxs f).ss) (hvl : ∀ i, v i < ls.length) (hv : ∀ i, v (i + 1) ∈ (newPD ls ss nxs f).nxs.getD (v i) [])
  {W : S29 → Nat → Bool} (hT : Truth (fun i => ls.getD (v i) 0) W) {b p : Nat} (hp0 : 0 < p) (hper : ∀ i, b ≤ i → v (i + p) = v i) (hperW : ∀ s i, soundS s = true → b ≤ i → W s (i + p) = W s i) : W f 0 ≠ want := by
 intro hw
 have hs := (may_zero hm).2.2.2
 have h256 := size_le hm
 have hspec := Sg.find_spec (nx := (newPD ls ss nxs f).next) (good := (newPD ls ss nxs f).good) (N := (newPD ls ss nxs f).N) (P := (newPD ls ss nxs f).P) (frm := (newPD ls ss nxs f).starts want) (fun x hx y hy => hok.next_lt hx hy) (fun x hx => hok.starts_lt want hx)
 have h' : Sg.findF (newPD ls ss nxs f).next (newPD ls ss nxs f).good (newPD ls ss nxs f).N (newPD ls ss nxs f).P ((newPD ls ss nxs f).starts want) = none := h
 rw [h'] at hspec
 have hpp : (newPD ls ss nxs f).P = tnS f := by
  show (partsOf (timesS f) 0).length = tnS f
  rw [len_partsOf, len_times]
 obtain ⟨t, ht⟩ : ∃ t : Nat → Nat, ∀ i, t i = numL ((timesS f).map (nwW W (i + 1))) := ⟨fun i => numL ((timesS f).map (nwW W (i + 1))), fun _ => rfl⟩
 have htl : ∀ i, t i < 2 ^ tnS f := fun i => by
  rw [ht i]
  have := numL_lt ((timesS f).map (nwW W (i + 1)))
  rwa [List.length_map, len_times] at this
 have hmv : ∀ i, movesL ((t i : Nat) : Int) ((timesS f).map (nwW W (i + 1))) 0 = true := fun i => by
  have := htl i
  rw [moves_num _ 0 (t i) (by omega) (by rw [List.length_map, len_times, Nat.pow_zero, Nat.div_one]; exact htl i), Nat.pow_zero, Nat.div_one, ht i]
  exact decide_eq_true rfl
 have hval : ∀ i, valS ((t i : Nat) : Int) (ls.getD (v i) 0) f 0 = W f i := fun i => val_of hT f 0 hs (hmv i)
 have hsaid : ∀ i, saidS ((t i : Nat) : Int) (ls.getD (v i) 0) f 0 = (timesS f).map (nwW W i) := fun i => said_of hT f 0 hs (hmv i)
 have hgood : ∀ i, goodS ((t i : Nat) : Int) (ls.getD (v i) 0) f 0 = (timesS f).map (gdW W i) := fun i => good_of hT f 0 hs (hmv i)
 obtain ⟨x, hx⟩ : ∃ x : Nat → Nat, ∀ i, x i = v i * 2 ^ tnS f + t i := ⟨fun i => v i * 2 ^ tnS f + t i, fun _ => rfl⟩
 have hxd : ∀ i, x i / 2 ^ tnS f = v i := fun i => by rw [hx i, (divmod (htl i)).1]
 have hxm : ∀ i, x i % 2 ^ tnS f = t i := fun i => by rw [hx i, (divmod (htl i)).2]
 have hxN : ∀ i, x i < (newPD ls ss nxs f).N := fun i => by
  have h1 : (v i + 1) * 2 ^ tnS f ≤ ls.length * 2 ^ tnS f := Nat.mul_le_mul_right _ (hvl i)
  have h2 : (v i + 1) * 2 ^ tnS f = v i * 2 ^ tnS f + 2 ^ tnS f := Nat.succ_mul ..
  have h3 := htl i
  show x i < 2 ^ tnS f * ls.length
  rw [hx i, Nat.mul_comm (2 ^ tnS f) ls.length]
  omega
 have hpath : ∀ i, x (i + 1) ∈ (newPD ls ss nxs f).next (x i) := fun i => by
  refine (next_mem hok (hxN i)).2 ⟨v (i + 1), t (i + 1), by rw [hxd i]; exact hv i, htl (i + 1), ?_, hx (i + 1)⟩
  have := htl (i + 1)
  rw [hxm i, ahead_num hm (t (i + 1)) _ (by omega), hsaid (i + 1), ht i]
 have hst : x 0 ∈ (newPD ls ss nxs f).starts want := by
  refine starts_mem.2 ⟨v 0, t 0, hv0, htl 0, ?_, hx 0⟩
  rw [value_eqG hm (htl 0), hval 0, hw]
 have hkp : ∀ s n i, soundS s = true → b ≤ i → kid W s n (i + p) = kid W s n i := fun s n i hs0 hi => by
  unfold kid
  congr 1
  apply List.map_congr_left
  intro g hg
  refine hperW g i ?_ hi
  exact (SubF.kid hg).ps hs0
 have hsub : ∀ g, g ∈ timesS f → soundS g = true := fun g hg => (times_sub f g hg).ps hs
 have hxp : ∀ i, b ≤ i → x (i + p) = x i := fun i hi => by
  rw [hx, hx, hper i hi, ht, ht]
  congr 2
  apply List.map_congr_left
  intro g hg
  unfold nwW
  rw [show i + p + 1 = i + 1 + p by omega, hkp g 0 (i + 1) (hsub g hg) (by omega), hperW g (i + 1) (hsub g hg) (by omega)]
 have hxk : ∀ k, x (b + k * p) = x b := fun k => by
  induction k with
  | zero => rw [Nat.zero_mul, Nat.add_zero]
  | succ k ih => rw [Nat.succ_mul, ← Nat.add_assoc, hxp _ (by omega), ih]
 have hback : ∀ j, b ≤ j → Sg.Reach (newPD ls ss nxs f).next (x j) (x b) := fun j hj => by
  have h1 : j ≤ b + (j + 1) * p := by
   have : j + 1 ≤ (j + 1) * p := Nat.le_mul_of_pos_right _ hp0
   omega
  have := reach_path hpath (b + (j + 1) * p - j) j
  rwa [show j + (b + (j + 1) * p - j) = b + (j + 1) * p by omega, hxk] at this
 refine hspec (x 0) (x b) hst (by have := reach_path hpath b 0; rwa [Nat.zero_add] at this) ⟨⟨x (b + 1), hpath b, hback (b + 1) (by omega)⟩, fun q hq => ?_⟩
 rw [hpp] at hq
 have hql : q < (timesS f).length := by rw [len_times]; exact hq
 have hti := times_own f _ (List.getElem_mem hql)
 obtain ⟨j, hj1, hj2⟩ := hT.fair _ (hsub _ (List.getElem_mem hql)) hti b
 refine ⟨x j, by have := reach_path hpath (j - b) b; rwa [show b + (j - b) = j by omega] at this, hback j hj1, ?_⟩
 rw [good_eqG hm hq, hxd, hxm, hgood j, List.getD_eq_getElem?_getD, List.getElem?_map, List.getElem?_eq_getElem hql]
 exact hj2
end
theorem per_pos {v : Nat → Nat} {b p : Nat} (hp : 0 < p) (hper : ∀ i, b ≤ i → v (i + p) = v i) : ∀ i, v i = v (posn (b + p) b i) := by
 intro i
 have key : ∀ n i, i < n → v i = v (posn (b + p) b i) := by
  intro n
  induction n with
  | zero => intro i h; omega
  | succ n ih =>
   intro i h
   by_cases hi : i < b + p
   ·rw [posn_id hi]
   ·have h1 := posn_per (n := b + p) (b := b) (by omega) (i - b - p)
    rw [show b + (b + p - b) + (i - b - p) = i by omega, show b + (i - b - p) = i - p by omega] at h1
    rw [h1, ← ih (i - p) (by omega)]
    have := hper (i - p) (by omega)
    rw [show i - p + p = i by omega] at this
    exact this
 exact key (i + 1) i (by omega)
theorem per_truth (ls : List Int) {v : Nat → Nat} {b p : Nat} (hp : 0 < p) (hper : ∀ i, b ≤ i → v (i + p) = v i) : ∃ W, Truth (fun i => ls.getD (v i) 0) W ∧ ∀ s i, b ≤ i → W s (i + p) = W s i := by
 obtain ⟨L, hL⟩ : ∃ L : List Int, L = (List.range (b + p)).map (fun i => ls.getD (v i) 0) := ⟨_, rfl⟩
 have hl : L.length = b + p := by rw [hL, List.length_map, List.length_range]
 have hb : b < L.length := by omega
 have hT := lasso_truth L b hb
 have e : (fun i => L.getD (posn L.length b i) 0) = (fun i => ls.getD (v i) 0) := funext (fun i => by
  have h := posn_lt hb i
  rw [hl] at h ⊢
  rw [hL, List.getD_eq_getElem?_getD, List.getElem?_map, List.getElem?_range h]
  show ls.getD (v (posn (b + p) b i)) 0 = _
  rw [← per_pos hp hper i])
 rw [e] at hT
 refine ⟨_, hT, fun s i hi => ?_⟩
 unfold lassoW
 have := posn_per hb (i - b)
 rw [hl] at this ⊢
 rw [show b + (b + p - b) + (i - b) = i + p by omega, show b + (i - b) = i by omega] at this
 rw [this]
theorem rule_round {N : Nat} {g : Nat → Nat} (hg : ∀ x, x < N → g x < N) {v : Nat → Nat} (h0 : v 0 < N) (hs : ∀ i, v (i + 1) = g (v i)) : ∃ b p, 0 < p ∧ ∀ i, b ≤ i → v (i + p) = v i := by
 have hlt : ∀ i, v i < N := fun i => by
  induction i with
  | zero => exact h0
  | succ i ih => rw [hs]; exact hg _ ih
 have hd : ¬ ((List.range (N + 1)).map v).Nodup := fun h => by
  have := Sg.nodup_le N _ h (fun x hx => by obtain ⟨i, _, rfl⟩ := List.mem_map.1 hx; exact hlt i)
  rw [List.length_map, List.length_range] at this
  omega
 have hex : ∃ i j, i < j ∧ v i = v j := by
  apply Classical.byContradiction
  intro hno
  apply hd
  rw [List.nodup_iff_pairwise_ne, List.pairwise_map]
  refine List.Pairwise.imp (R := (· < ·)) (fun {a b} hab e => hno ⟨a, b, hab, e⟩) ?_
  exact List.pairwise_lt_range
 obtain ⟨i, j, hij, e⟩ := hex
 refine ⟨i, j - i, by omega, fun k hk => ?_⟩
 have key : ∀ d, v (i + d + (j - i)) = v (i + d) := by
  intro d
  induction d with
  | zero => rw [Nat.add_zero, show i + (j - i) = j by omega]; exact e.symm
  | succ d ih => rw [show i + (d + 1) + (j - i) = (i + d + (j - i)) + 1 by omega, hs, ih, ← hs]; rfl
 have := key (k - i)
 rwa [show i + (k - i) = k by omega] at this
section
variable {ls ss : List Int} {nxs : List (List Int)} {f : S29}
theorem nxs_get {v : Nat} (hv : v < nxs.length) : (newPD ls ss nxs f).nxs.getD v [] = (nxs.getD v []).map Int.toNat := by
 show (nxs.map (fun l => l.map Int.toNat)).getD v [] = _
 rw [List.getD_eq_getElem?_getD, List.getElem?_map, List.getElem?_eq_getElem hv, List.getD_eq_getElem?_getD, List.getElem?_eq_getElem hv]; rfl
theorem endless (hg : GraphOk ls ss nxs) (hok : (newPD ls ss nxs f).Ok) {x : Nat} (hx : x < ls.length) : ∃ v : Nat → Nat, v 0 = x ∧ (∀ i, v i < ls.length) ∧ (∀ i, v (i + 1) ∈ (newPD ls ss nxs f).nxs.getD (v i) []) ∧ ∃ b p, 0 < p ∧ ∀ i, b ≤ i → v (i + p) = v i := by
 obtain ⟨g, hgd⟩ : ∃ g : Nat → Nat, g = fun y => ((newPD ls ss nxs f).nxs.getD y []).headD 0 := ⟨_, rfl⟩
 have hmem : ∀ y, y < ls.length → g y ∈ (newPD ls ss nxs f).nxs.getD y [] := fun y hy => by
  have hy' : y < nxs.length := by rw [hg.nn]; exact hy
  have hne := (hg.nx (nxs[y]'hy') (List.getElem_mem hy')).1
  rw [hgd]
  simp only
  rw [nxs_get hy', List.getD_eq_getElem?_getD, List.getElem?_eq_getElem hy']
  show ((nxs[y]'hy').map Int.toNat).headD 0 ∈ (nxs[y]'hy').map Int.toNat
  cases h : nxs[y]'hy' with
  | nil => exact absurd h hne
  | cons a r => simp
 have hlt : ∀ y, y < ls.length → g y < ls.length := fun y hy => hok.nx y hy _ (hmem y hy)
 obtain ⟨v, hv⟩ : ∃ v : Nat → Nat, v 0 = x ∧ ∀ i, v (i + 1) = g (v i) := ⟨fun i => Nat.rec x (fun _ y => g y) i, rfl, fun _ => rfl⟩
 have hl : ∀ i, v i < ls.length := fun i => by
  induction i with
  | zero => rw [hv.1]; exact hx
  | succ i ih => rw [hv.2]; exact hlt _ ih
 exact ⟨v, hv.1, hl, fun i => by rw [hv.2]; exact hmem _ (hl i), rule_round hlt (by rw [hv.1]; exact hx) hv.2⟩
theorem always_found (hg : GraphOk ls ss nxs) (hm : mayF f = 0) {want : Bool} (hw : ∀ σ W, Truth σ W → W f 0 = want) : (findG ls ss nxs f want).isSome = decide (0 < ss.length) := by
 have hok := newPD_ok hg hm
 cases h : findG ls ss nxs f want with
 | some q =>
  obtain ⟨a, c⟩ := q
  have h0 := (found_verts hok hm h).1
  have : 0 < ss.length := by
   obtain ⟨y, hy, _⟩ := List.mem_map.1 (show _ ∈ ss.map Int.toNat from h0)
   exact List.length_pos_of_mem hy
  exact (decide_eq_true this).symm
 | none =>
  refine (decide_eq_false (fun hs => ?_)).symm
  obtain ⟨x, hx⟩ : ∃ x, x ∈ ss := List.exists_mem_of_length_pos hs
  have hxl := hg.st x hx
  obtain ⟨v, h0, h1, h2, b, p, hp, hper⟩ := endless hg hok (x := x.toNat) (by omega)
  obtain ⟨W, hT, hW⟩ := per_truth ls hp hper
  exact truth_found hok hm h (v := v) (by rw [h0]; exact List.mem_map.2 ⟨x, hx, rfl⟩) h1 h2 hT hp hper (fun s i _ hi => hW s i hi) (hw _ _ hT)
theorem less_found {nx2 : List (List Int)} (hg : GraphOk ls ss nxs) (hg2 : GraphOk ls ss nx2) (hm : mayF f = 0) (hsub : ∀ v, v < ls.length → ∀ y, y ∈ nx2.getD v [] → y ∈ nxs.getD v []) {want : Bool} (h : (findG ls ss nx2 f want).isSome = true) : (findG ls ss nxs f want).isSome = true := by
 have hok := newPD_ok hg hm
 have hok2 := newPD_ok hg2 hm
 obtain ⟨⟨a, c⟩, hq⟩ := Option.isSome_iff_exists.1 h
 obtain ⟨h0, h1, h2⟩ := found_verts hok2 hm hq
 have hb := (found_path hok2 hm hq).1
 cases h3 : findG ls ss nxs f want with
 | some q => rfl
 | none =>
  exfalso
  obtain ⟨v, hv⟩ : ∃ v : Nat → Nat, ∀ i, v i = (a ++ c).getD (posn (a ++ c).length a.length i) 0 / 2 ^ tnS f := ⟨fun i => (a ++ c).getD (posn (a ++ c).length a.length i) 0 / 2 ^ tnS f, fun _ => rfl⟩
  have hper : ∀ i, a.length ≤ i → v (i + ((a ++ c).length - a.length)) = v i := fun i hi => by
   have := posn_per hb (i - a.length)
   rw [show a.length + ((a ++ c).length - a.length) + (i - a.length) = i + ((a ++ c).length - a.length) by omega, show a.length + (i - a.length) = i by omega] at this
   rw [hv, hv, this]
  obtain ⟨W, hT, hW⟩ := per_truth ls (v := v) (b := a.length) (p := (a ++ c).length - a.length) (by omega) hper
  have hT2 : Truth (fun i => ls.getD ((a ++ c).getD (posn (a ++ c).length a.length i) 0 / 2 ^ tnS f) 0) W := by
   have e : (fun i => ls.getD ((a ++ c).getD (posn (a ++ c).length a.length i) 0 / 2 ^ tnS f) 0) = (fun i => ls.getD (v i) 0) := funext (fun i => by rw [hv i])
   rw [e]; exact hT
  refine truth_found hok hm h3 (v := v) ?_ (fun i => by rw [hv]; exact h1 i) (fun i => ?_) hT (b := a.length) (p := (a ++ c).length - a.length) (by omega) hper (fun s i _ hi => hW s i hi) (found_truth hok2 hm hq hT2)
  ·rw [hv]; exact h0
  ·have hl := h1 i
   have h4 := h2 i
   rw [nxs_get (by rw [hg2.nn]; exact hl)] at h4
   obtain ⟨y, hy, e⟩ := List.mem_map.1 h4
   rw [hv, hv, nxs_get (by rw [hg.nn]; exact hl)]
   exact List.mem_map.2 ⟨y, hsub _ hl y hy, e⟩
end
theorem rise_weak {n : Int} : ∀ {l : List Int} {a b : Int}, riseG n a l = true → b ≤ a → riseG n b l = true
 | [], _, _, _, _ => rfl
 | v :: r, a, b, h, hb => by
  unfold riseG at h ⊢
  by_cases h1 : v ≤ a
  ·rw [if_pos h1] at h; cases h
  ·rw [if_neg h1] at h
   rw [if_neg (by omega)]
   exact h
theorem rise_erase {n : Int} : ∀ {l : List Int} {a : Int} (i : Nat), riseG n a l = true → riseG n a (l.eraseIdx i) = true
 | [], _, _, _ => rfl
 | v :: r, a, 0, h => by
  have hv := rise_lt h v (List.mem_cons_self ..)
  unfold riseG at h
  rw [if_neg (by omega), if_neg (by omega)] at h
  exact rise_weak h (by omega)
 | v :: r, a, i + 1, h => by
  have hv := rise_lt h v (List.mem_cons_self ..)
  unfold riseG at h
  rw [if_neg (by omega), if_neg (by omega)] at h
  show riseG n a (v :: r.eraseIdx i) = true
  unfold riseG
  rw [if_neg (by omega), if_neg (by omega)]
  exact rise_erase i h
theorem mayG_zero {ls ss : List Int} {nxs : List (List Int)} (h : mayG ls ss nxs = 0) : ¬ (ls.length : Int) > 200 ∧ (nxs.length : Int) = (ls.length : Int) ∧ riseG (ls.length : Int) (-1) ss = true ∧ nxs.all (rowG (ls.length : Int)) = true := by
 unfold mayG at h
 by_cases h1 : (ls.length : Int) > 200
 ·rw [if_pos h1] at h; cases h
 ·rw [if_neg h1] at h
  by_cases h2 : (nxs.length : Int) = (ls.length : Int)
  ·rw [if_pos h2] at h
   by_cases h3 : riseG (ls.length : Int) (-1) ss = true ∧ nxs.all (rowG (ls.length : Int)) = true
   ·exact ⟨h1, h2, h3⟩
   ·rw [if_neg h3] at h; cases h
  ·rw [if_neg h2] at h; cases h
def lessN (nxs : List (List Int)) (v i : Nat) : List (List Int) := nxs.set v ((nxs.getD v []).eraseIdx i)
theorem mem_lessN {nxs : List (List Int)} {v i : Nat} {l : List Int} (h : l ∈ lessN nxs v i) : l ∈ nxs ∨ l = (nxs.getD v []).eraseIdx i := by
 unfold lessN at h
 rcases List.mem_or_eq_of_mem_set h with h | h
 ·exact .inl h
 ·exact .inr h
theorem mayG_less {ls ss : List Int} {nxs : List (List Int)} (h : mayG ls ss nxs = 0) {v i : Nat} (hv : v < nxs.length) : mayG ls ss (lessN nxs v i) = if (nxs.getD v []).eraseIdx i = [] then 1 else 0 := by
 obtain ⟨h1, h2, h3, h4⟩ := mayG_zero h
 have hrow : rowG (ls.length : Int) (nxs.getD v []) = true := by
  refine List.all_eq_true.1 h4 _ ?_
  rw [List.getD_eq_getElem?_getD, List.getElem?_eq_getElem hv]
  exact List.getElem_mem hv
 unfold rowG at hrow
 rw [Bool.and_eq_true] at hrow
 have hl : (lessN nxs v i).length = nxs.length := by unfold lessN; rw [List.length_set]
 unfold mayG
 rw [if_neg h1, hl, if_pos h2]
 by_cases he : (nxs.getD v []).eraseIdx i = []
 ·rw [if_pos he, if_neg]
  rintro ⟨_, h5⟩
  have h6 := List.all_eq_true.1 h5 [] (by
   unfold lessN
   rw [he]
   exact List.mem_iff_getElem.2 ⟨v, by rw [List.length_set]; exact hv, by rw [List.getElem_set_self]⟩)
  unfold rowG at h6
  simp at h6
 ·rw [if_neg he, if_pos]
  refine ⟨h3, List.all_eq_true.2 (fun l hl => ?_)⟩
  rcases mem_lessN hl with h5 | h5
  ·exact List.all_eq_true.1 h4 l h5
  ·rw [h5]
   unfold rowG
   rw [decide_eq_true he, Bool.true_and]
   exact rise_erase i hrow.2
theorem less_sub {nxs : List (List Int)} {v i : Nat} : ∀ u y, y ∈ (lessN nxs v i).getD u [] → y ∈ nxs.getD u [] := by
 intro u y hy
 unfold lessN at hy
 rw [List.getD_eq_getElem?_getD, List.getElem?_set] at hy
 by_cases e : v = u
 ·subst e
  rw [if_pos rfl] at hy
  by_cases hv : v < nxs.length
  ·rw [if_pos hv] at hy
   exact List.mem_of_mem_eraseIdx hy
  ·rw [if_neg hv] at hy; cases hy
 ·rw [if_neg e, ← List.getD_eq_getElem?_getD] at hy
  exact hy
def yesF : S29 := ⟨1, 0, []⟩
def notF : S29 := ⟨3, 0, [yesF]⟩
theorem may_yes : mayF yesF = 0 := by decide +kernel
theorem may_not : mayF notF = 0 := by decide +kernel
theorem tn_yes : tnS yesF = 0 := by decide +kernel
theorem tn_not : tnS notF = 0 := by decide +kernel
theorem yes_true {σ : Nat → Int} {W : S29 → Nat → Bool} (h : Truth σ W) (i : Nat) : W yesF i = true := by
 rw [h.step yesF (may_zero may_yes).2.2.2 i]; rfl
theorem not_false_ {σ : Nat → Int} {W : S29 → Nat → Bool} (h : Truth σ W) : W notF 0 = false := by
 rw [h.step notF (may_zero may_not).2.2.2 0]
 show (!(kid W notF 0 0)) = false
 show (!(W yesF 0)) = false
 rw [yes_true h]; rfl
end Go.Proofs.Ytapejnikpmfddaa.L
