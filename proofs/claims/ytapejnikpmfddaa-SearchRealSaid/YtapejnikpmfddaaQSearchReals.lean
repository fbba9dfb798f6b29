/- A part of the claim SearchReal. -/
import Derived.Test.YtapejnikpmfddaaQSearchRealr
set_option linter.unusedVariables false
set_option linter.unusedSimpArgs false
set_option maxHeartbeats 3200000
set_option maxRecDepth 100000
namespace Go.Proofs.Ytapejnikpmfddaa.X
open Go.RowKit Go.Proofs.YtapejnikpmfddaaW.PrintWords Go.Proofs.YtapejnikpmfddaaW.PrintLast Go.Proofs.YtapejnikpmfddaaW.PrintMore
open Go.Proofs.Ytapejnikpmfddaa.P Go.Proofs.Ytapejnikpmfddaa.Evx
def atomS (n : Int) : S29 := ⟨2, n, []⟩
theorem atom_calls (n : Int) (w : World) : Calls Try.prog 15 #[.int .i64 n] w fun e w' => e = .returned (.agg #[.int .i64 2, .int .i64 n, .slice none 0 0]) ∧ Below w.heap.size w w' := by
 have huF := Try.underlying29
 go_enter Try.func15, Try.ntmps15
 go_wp2
 exact bodyPost_ret (v := .agg #[.int .i64 2, .int .i64 n, .slice none 0 0]) (by simp [results, Try.results15, go_sem]) rfl ⟨rfl, below_alloc (Below.refl _ _) _⟩
theorem find_FA : search_Find.f [0, 1] [0] [[0, 1], [1]] 6 0 [atomS 0] = some ([0], [1], true, 0) := by decide +kernel
theorem all_FA : search_All.f [0, 1] [0] [[0, 1], [1]] 6 0 [atomS 0] = some (false, 0) := by decide +kernel
theorem word_FA : search_Word.f [0, 1] [0] [[0, 1], [1]] [0] [1] = some ([0], [1], true) := by decide +kernel
theorem holds_FA : formula_Holds.f 6 0 [atomS 0] [0] [1] = some true := by decide +kernel
theorem C_sc {α : Type} {enc : α → Value} {h1 : ∀ x, (enc x).oneCell' = true} (d : α) {w : World} {g : Nat} {l : List α} {t : TypeId} (h : w.heap[g]? = some (.cells (l.map enc).toArray t (0, 0))) (hm : l.length < 1000) : Kd.C (Kd.scalar enc h1) w (some ⟨g, 0, none⟩) l.length l := by
 refine Kd.C_of_reads (d := d) ⟨rfl, by omega, fun _ => ⟨_, rfl, fun j hj => ?_⟩⟩
 rw [add_at, bq_ h]
 simp [hj]
theorem C_oneF {w : World} {g : Nat} {a : S29} (ha : a.f2 = []) (h : w.heap[g]? = some (.cells #[.int .i64 a.f0, .int .i64 a.f1, .slice none 0 0] 29 (0, 0))) : Kd.C k29 w (some ⟨g, 0, none⟩) 1 [a] := by
 have hK : ∀ x : S29, x.f2 = [] → k29.K w x [.int .i64 x.f0, .int .i64 x.f1, .slice none 0 0] := by
  intro x hx
  have := k29_mk w x (A2 := none) (c2 := 0) (by rw [hx]; simp) (by rw [hx]; exact Kd.C_nil _ _)
  rwa [hx] at this
 refine ⟨rfl, by omega, fun _ => ⟨_, rfl, fun j p hj => ?_⟩⟩
 have hs : k29.sz = 3 := rfl
 match j, hj with
 | 0, hj =>
  obtain rfl : a = p := by simpa using hj
  refine ⟨_, rfl, hK a ha, fun i u hu => ?_⟩
  rw [hs, add_at, bq_ h]
  match i, hu with
  | 0, hu => exact hu
  | 1, hu => exact hu
  | 2, hu => exact hu
theorem C_rows2 {w : World} {g : Nat} {A1 A2 : Option Addr} {l1 l2 : List Int} (h1 : Kd.C (Kd.int .i64) w A1 l1.length l1) (h2 : Kd.C (Kd.int .i64) w A2 l2.length l2) (h : w.heap[g]? = some (.cells #[.slice A1 l1.length l1.length, .slice A2 l2.length l2.length] 23 (0, 0))) : Kd.C (Kd.slice 3 (Kd.int .i64)) w (some ⟨g, 0, none⟩) 2 [l1, l2] := by
 refine ⟨rfl, by omega, fun _ => ⟨_, rfl, fun j p hj => ?_⟩⟩
 have hs : (Kd.slice 3 (Kd.int .i64)).sz = 1 := rfl
 match j, hj with
 | 0, hj =>
  obtain rfl : l1 = p := by simpa using hj
  refine ⟨[.slice A1 l1.length l1.length], rfl, ⟨A1, _, rfl, Nat.le_refl _, h1⟩, fun i u hu => ?_⟩
  rw [hs, add_at, bq_ h]
  match i, hu with
  | 0, hu => exact hu
 | 1, hj =>
  obtain rfl : l2 = p := by simpa using hj
  refine ⟨[.slice A2 l2.length l2.length], rfl, ⟨A2, _, rfl, Nat.le_refl _, h2⟩, fun i u hu => ?_⟩
  rw [hs, add_at, bq_ h]
  match i, hu with
  | 0, hu => exact hu
theorem awake_calls (w : World) : Calls Try.prog 10 #[] w fun e w' => e = .returned (.bool true) ∧ Below w.heap.size w w' := by
 have huF := Try.underlying29
 have huW := Try.underlying40
 have huL := Try.underlying27
 have huK := Try.underlying26
 have huu := Try.underlying22
 have hui := Try.underlying23
 have huii := Try.underlying24
 go_enter Try.func10, Try.ntmps10
 go_upto_region 2 with fail
 obtain ⟨n0, hn0⟩ : ∃ k, k = w.heap.size := ⟨_, rfl⟩
 obtain ⟨n1, hn1⟩ : ∃ k, k = n0 + 1 := ⟨_, rfl⟩
 obtain ⟨n2, hn2⟩ : ∃ k, k = n1 + 1 := ⟨_, rfl⟩
 obtain ⟨n3, hn3⟩ : ∃ k, k = n2 + 1 := ⟨_, rfl⟩
 obtain ⟨n4, hn4⟩ : ∃ k, k = n3 + 1 := ⟨_, rfl⟩
 obtain ⟨n5, hn5⟩ : ∃ k, k = n4 + 1 := ⟨_, rfl⟩
 rw [← hn0, ← hn1, ← hn2, ← hn3, ← hn4, ← hn5]
 obtain ⟨V0, hV0⟩ : ∃ W : World, W = w.alloc (.cells #[.int .u32 0, .int .u32 1] 48) := ⟨_, rfl⟩
 obtain ⟨V1, hV1⟩ : ∃ W : World, W = V0.alloc (.cells #[.int .i64 0] 3) := ⟨_, rfl⟩
 obtain ⟨V2, hV2⟩ : ∃ W : World, W = V1.alloc (.cells #[.int .i64 0, .int .i64 1] 3) := ⟨_, rfl⟩
 obtain ⟨V3, hV3⟩ : ∃ W : World, W = V2.alloc (.cells #[.int .i64 1] 3) := ⟨_, rfl⟩
 obtain ⟨V4, hV4⟩ : ∃ W : World, W = V3.alloc (.cells #[.slice (some ⟨n2, 0, none⟩) 2 2, .slice (some ⟨n3, 0, none⟩) 1 1] 23) := ⟨_, rfl⟩
 obtain ⟨V5, hV5⟩ : ∃ W : World, W = V4.alloc (.cells #[.slice (some ⟨n0, 0, none⟩) 2 2, .slice (some ⟨n1, 0, none⟩) 1 1, .slice (some ⟨n4, 0, none⟩) 2 2] 26) := ⟨_, rfl⟩
 rw [← hV0, ← hV1, ← hV2, ← hV3, ← hV4, ← hV5]
 have hz0 : V0.heap.size = n0 + 1 := by rw [hV0]; simp; omega
 have hb0 : V0.heap[n0]? = some (.cells #[.int .u32 0, .int .u32 1] 48 (0, 0)) := by have h := heap_alloc_new w (.cells #[.int .u32 0, .int .u32 1] 48); rw [← hV0, show w.heap.size = n0 by omega] at h; exact h
 have hB0 : Below w.heap.size w V0 := by rw [hV0]; exact below_alloc (Below.refl _ _) _
 have hz1 : V1.heap.size = n1 + 1 := by rw [hV1]; simp; omega
 have hb1 : V1.heap[n1]? = some (.cells #[.int .i64 0] 3 (0, 0)) := by have h := heap_alloc_new V0 (.cells #[.int .i64 0] 3); rw [← hV1, show V0.heap.size = n1 by omega] at h; exact h
 have hB1 : Below V0.heap.size V0 V1 := by rw [hV1]; exact below_alloc (Below.refl _ _) _
 have hz2 : V2.heap.size = n2 + 1 := by rw [hV2]; simp; omega
 have hb2 : V2.heap[n2]? = some (.cells #[.int .i64 0, .int .i64 1] 3 (0, 0)) := by have h := heap_alloc_new V1 (.cells #[.int .i64 0, .int .i64 1] 3); rw [← hV2, show V1.heap.size = n2 by omega] at h; exact h
 have hB2 : Below V1.heap.size V1 V2 := by rw [hV2]; exact below_alloc (Below.refl _ _) _
 have hz3 : V3.heap.size = n3 + 1 := by rw [hV3]; simp; omega
 have hb3 : V3.heap[n3]? = some (.cells #[.int .i64 1] 3 (0, 0)) := by have h := heap_alloc_new V2 (.cells #[.int .i64 1] 3); rw [← hV3, show V2.heap.size = n3 by omega] at h; exact h
 have hB3 : Below V2.heap.size V2 V3 := by rw [hV3]; exact below_alloc (Below.refl _ _) _
 have hz4 : V4.heap.size = n4 + 1 := by rw [hV4]; simp; omega
 have hb4 : V4.heap[n4]? = some (.cells #[.slice (some ⟨n2, 0, none⟩) 2 2, .slice (some ⟨n3, 0, none⟩) 1 1] 23 (0, 0)) := by have h := heap_alloc_new V3 (.cells #[.slice (some ⟨n2, 0, none⟩) 2 2, .slice (some ⟨n3, 0, none⟩) 1 1] 23); rw [← hV4, show V3.heap.size = n4 by omega] at h; exact h
 have hB4 : Below V3.heap.size V3 V4 := by rw [hV4]; exact below_alloc (Below.refl _ _) _
 have hz5 : V5.heap.size = n5 + 1 := by rw [hV5]; simp; omega
 have hb5 : V5.heap[n5]? = some (.cells #[.slice (some ⟨n0, 0, none⟩) 2 2, .slice (some ⟨n1, 0, none⟩) 1 1, .slice (some ⟨n4, 0, none⟩) 2 2] 26 (0, 0)) := by have h := heap_alloc_new V4 (.cells #[.slice (some ⟨n0, 0, none⟩) 2 2, .slice (some ⟨n1, 0, none⟩) 1 1, .slice (some ⟨n4, 0, none⟩) 2 2] 26); rw [← hV5, show V4.heap.size = n5 by omega] at h; exact h
 have hB5 : Below V4.heap.size V4 V5 := by rw [hV5]; exact below_alloc (Below.refl _ _) _
 have hD5 : Below V5.heap.size V5 V5 := Below.refl _ _
 have hD4 : Below V4.heap.size V4 V5 := hB5.trans (hD5.mono hB5.size)
 have hD3 : Below V3.heap.size V3 V5 := hB4.trans (hD4.mono hB4.size)
 have hD2 : Below V2.heap.size V2 V5 := hB3.trans (hD3.mono hB3.size)
 have hD1 : Below V1.heap.size V1 V5 := hB2.trans (hD2.mono hB2.size)
 have hD0 : Below V0.heap.size V0 V5 := hB1.trans (hD1.mono hB1.size)
 have hD : Below w.heap.size w V5 := hB0.trans (hD0.mono hB0.size)
 have hc0 := (hD0.block _ (blk_lt hb0)).trans hb0
 have hc1 := (hD1.block _ (blk_lt hb1)).trans hb1
 have hc2 := (hD2.block _ (blk_lt hb2)).trans hb2
 have hc3 := (hD3.block _ (blk_lt hb3)).trans hb3
 have hc4 := (hD4.block _ (blk_lt hb4)).trans hb4
 have hc5 := hb5
 have HLS := Zd.mk (show Kd.C (Kd.int .u32) V5 (some ⟨n0, 0, none⟩) ([0, 1] : List Int).length [0, 1] from C_sc (enc := Value.int .u32) (h1 := fun _ => rfl) 0 hc0 (by decide))
 have HSS := Zd.mk (show Kd.C (Kd.int .i64) V5 (some ⟨n1, 0, none⟩) ([0] : List Int).length [0] from C_sc (enc := Value.int .i64) (h1 := fun _ => rfl) 0 hc1 (by decide))
 have HNX := Zd.mk (show Kd.C (Kd.slice 3 (Kd.int .i64)) V5 (some ⟨n4, 0, none⟩) ([[0, 1], [1]] : List (List Int)).length [[0, 1], [1]] from C_rows2 (l1 := [0, 1]) (l2 := [1]) (C_sc (enc := Value.int .i64) (h1 := fun _ => rfl) 0 hc2 (by decide)) (C_sc (enc := Value.int .i64) (h1 := fun _ => rfl) 0 hc3 (by decide)) hc4)
 have HBX := Zd.mk hc5
 have HB5 := Zd.mk hD
 clear hD hD0 hD1 hD2 hD3 hD4 hD5 hB0 hB1 hB2 hB3 hB4 hB5 hb0 hb1 hb2 hb3 hb4 hb5 hc0 hc1 hc2 hc3 hc4 hc5 hz0 hz1 hz2 hz3 hz4 hz5 hV0 hV1 hV2 hV3 hV4 hV5 hn0 hn1 hn2 hn3 hn4 hn5
 go_upto_region 3 with (go_at_call 15; refine (atom_calls _ _).mono ?_; rintro e w1 ⟨rfl, hB⟩; have HB1 := Zd.mk hB; clear hB)
 obtain ⟨WF, hWF⟩ : ∃ W3, W3 = (w1.alloc (.cells #[.int .i64 2, .int .i64 0, .slice none 0 0] 29)).alloc (.cells #[.int .i64 6, .int .i64 0, .slice (some ⟨w1.heap.size, 0, none⟩) 1 1] 29) := ⟨_, rfl⟩
 have hBF : Below w1.heap.size w1 WF := by rw [hWF]; exact below_alloc (below_alloc (Below.refl _ _) _) _
 have hbk : WF.heap[w1.heap.size]? = some (.cells #[.int .i64 2, .int .i64 0, .slice none 0 0] 29 (0, 0)) := by rw [hWF]; exact ba_ (heap_alloc_new w1 _) _
 have hbx : WF.heap[w1.heap.size + 1]? = some (.cells #[.int .i64 6, .int .i64 0, .slice (some ⟨w1.heap.size, 0, none⟩) 1 1] 29 (0, 0)) := by
  rw [hWF]
  have := heap_alloc_new (w1.alloc (.cells #[.int .i64 2, .int .i64 0, .slice none 0 0] 29)) (.cells #[.int .i64 6, .int .i64 0, .slice (some ⟨w1.heap.size, 0, none⟩) 1 1] 29)
  simpa using this
 rw [← hWF]
 obtain ⟨m1, hm1⟩ : ∃ k, k = w1.heap.size + 1 := ⟨_, rfl⟩
 obtain ⟨m0, hm0⟩ : ∃ k, k = w1.heap.size := ⟨_, rfl⟩
 rw [← hm1, ← hm0] at hbx
 rw [← hm0] at hbk
 rw [← hm1, ← hm0]
 have HF := Zd.mk (show Kd.C k29 WF (some ⟨m0, 0, none⟩) ([atomS 0] : List S29).length [atomS 0] from C_oneF (a := atomS 0) rfl hbk)
 have hB5F : Below V5.heap.size V5 WF := HB1.out.trans (hBF.mono HB1.out.size)
 have HBF := Zd.mk (HB5.out.trans (hB5F.mono HB5.out.size))
 have HBX2 := Zd.mk ((hB5F.block _ (blk_lt HBX.out)).trans HBX.out)
 have HBY2 := Zd.mk hbx
 have HLS2 := Zd.mk (Kd.C_below HLS.out hB5F)
 have HSS2 := Zd.mk (Kd.C_below HSS.out hB5F)
 have HNX2 := Zd.mk (Kd.C_below HNX.out hB5F)
 have x0 : WF.cell? ⟨n5, 0, none⟩ = some (.slice (some ⟨n0, 0, none⟩) 2 2) := (bq_ HBX2.out 0).trans rfl
 have x1 : WF.cell? ⟨n5, 1, none⟩ = some (.slice (some ⟨n1, 0, none⟩) 1 1) := (bq_ HBX2.out 1).trans rfl
 have x2 : WF.cell? ⟨n5, 2, none⟩ = some (.slice (some ⟨n4, 0, none⟩) 2 2) := (bq_ HBX2.out 2).trans rfl
 have y0 : WF.cell? ⟨m1, 0, none⟩ = some (.int .i64 6) := (bq_ HBY2.out 0).trans rfl
 have y1 : WF.cell? ⟨m1, 1, none⟩ = some (.int .i64 0) := (bq_ HBY2.out 1).trans rfl
 have y2 : WF.cell? ⟨m1, 2, none⟩ = some (.slice (some ⟨m0, 0, none⟩) 1 1) := (bq_ HBY2.out 2).trans rfl
 have HFI := Zd.mk (search_Find.calls (some ⟨n0, 0, none⟩) 2 [0, 1] (some ⟨n1, 0, none⟩) 1 [0] (some ⟨n4, 0, none⟩) 2 [[0, 1], [1]] 6 0 (some ⟨m0, 0, none⟩) 1 [atomS 0] [0] [1] true 0 WF HLS2.out (Nat.le_refl _) HSS2.out (Nat.le_refl _) HNX2.out (Nat.le_refl _) HF.out (Nat.le_refl _) find_FA)
 clear hWF hBF hbk hbx hm1 hm0 hB5F
 go_upto_region 4 with (go_at_call 11; refine HFI.out.mono ?_; rintro e w2 ⟨v1, v2, rfl, hR1, hR2, hB2⟩; obtain ⟨A1, c1, e1, hc1, hC1⟩ := Kd.R_reads hR1; obtain ⟨A2, c2, e2, hc2, hC2⟩ := Kd.R_reads hR2; subst e1; subst e2; have HB2 := Zd.mk hB2; have HC1 := Zd.mk hC1; have HC2 := Zd.mk hC2; clear hR1 hR2 hC1 hC2 hB2)
 obtain ⟨W2, rfl⟩ : ∃ W : World, W = w2 := ⟨_, rfl⟩
 have HWO := Zd.mk (word_trueC (some ⟨n0, 0, none⟩) 2 [0, 1] (some ⟨n1, 0, none⟩) 1 [0] (some ⟨n4, 0, none⟩) 2 [[0, 1], [1]] A1 c1 [0] A2 c2 [1] [0] [1] W2 (Kd.C_below HLS2.out HB2.out) (Nat.le_refl _) (Kd.C_below HSS2.out HB2.out) (Nat.le_refl _) (Kd.C_below HNX2.out HB2.out) (Nat.le_refl _) HC1.out hc1 HC2.out hc2 word_FA)
 have HBX3 := Zd.mk ((HB2.out.block _ (blk_lt HBX2.out)).trans HBX2.out)
 clear x0 x1 x2 y0 y1 y2
 have x0 : W2.cell? ⟨n5, 0, none⟩ = some (.slice (some ⟨n0, 0, none⟩) 2 2) := (bq_ HBX3.out 0).trans rfl
 have x1 : W2.cell? ⟨n5, 1, none⟩ = some (.slice (some ⟨n1, 0, none⟩) 1 1) := (bq_ HBX3.out 1).trans rfl
 have x2 : W2.cell? ⟨n5, 2, none⟩ = some (.slice (some ⟨n4, 0, none⟩) 2 2) := (bq_ HBX3.out 2).trans rfl
 go_upto_region 5 with (go_at_call 13; refine HWO.out.mono ?_; rintro e w3 ⟨v1, v2, rfl, hR1, hR2, hB2⟩; obtain ⟨A3, c3, e1, hc3, hC1⟩ := Kd.R_reads hR1; obtain ⟨A4, c4, e2, hc4, hC2⟩ := Kd.R_reads hR2; subst e1; subst e2; have HB3 := Zd.mk hB2; have HC3 := Zd.mk hC1; have HC4 := Zd.mk hC2; clear hR1 hR2 hC1 hC2 hB2)
 obtain ⟨W4, hW4⟩ : ∃ W : World, W = w3.alloc (.cells #[.slice A3 1 c3, .slice A4 1 c4] 40) := ⟨_, rfl⟩
 have hB4 : Below w3.heap.size w3 W4 := by rw [hW4]; exact below_alloc (Below.refl _ _) _
 have hbw : W4.heap[w3.heap.size]? = some (.cells #[.slice A3 1 c3, .slice A4 1 c4] 40 (0, 0)) := by rw [hW4]; exact heap_alloc_new w3 _
 rw [← hW4]
 obtain ⟨g7, hg7⟩ : ∃ k, k = w3.heap.size := ⟨_, rfl⟩
 rw [← hg7] at hbw ⊢
 have hB24 : Below W2.heap.size W2 W4 := HB3.out.trans (hB4.mono HB3.out.size)
 have hBF4 : Below WF.heap.size WF W4 := HB2.out.trans (hB24.mono HB2.out.size)
 have HBX4 := Zd.mk ((hBF4.block _ (blk_lt HBX2.out)).trans HBX2.out)
 have HBY4 := Zd.mk ((hBF4.block _ (blk_lt HBY2.out)).trans HBY2.out)
 have HBW4 := Zd.mk hbw
 have HBF4 := Zd.mk hBF4
 have HC34 := Zd.mk (Kd.C_below HC3.out hB4)
 have HC44 := Zd.mk (Kd.C_below HC4.out hB4)
 have HAL := Zd.mk (search_All.calls (some ⟨n0, 0, none⟩) 2 [0, 1] (some ⟨n1, 0, none⟩) 1 [0] (some ⟨n4, 0, none⟩) 2 [[0, 1], [1]] 6 0 (some ⟨m0, 0, none⟩) 1 [atomS 0] false 0 W4 (Kd.C_below HLS2.out hBF4) (Nat.le_refl _) (Kd.C_below HSS2.out hBF4) (Nat.le_refl _) (Kd.C_below HNX2.out hBF4) (Nat.le_refl _) (Kd.C_below HF.out hBF4) (Nat.le_refl _) all_FA)
 clear hW4 hB4 hbw hg7 hB24 hBF4 x0 x1 x2
 have x0 : W4.cell? ⟨n5, 0, none⟩ = some (.slice (some ⟨n0, 0, none⟩) 2 2) := (bq_ HBX4.out 0).trans rfl
 have x1 : W4.cell? ⟨n5, 1, none⟩ = some (.slice (some ⟨n1, 0, none⟩) 1 1) := (bq_ HBX4.out 1).trans rfl
 have x2 : W4.cell? ⟨n5, 2, none⟩ = some (.slice (some ⟨n4, 0, none⟩) 2 2) := (bq_ HBX4.out 2).trans rfl
 have y0 : W4.cell? ⟨m1, 0, none⟩ = some (.int .i64 6) := (bq_ HBY4.out 0).trans rfl
 have y1 : W4.cell? ⟨m1, 1, none⟩ = some (.int .i64 0) := (bq_ HBY4.out 1).trans rfl
 have y2 : W4.cell? ⟨m1, 2, none⟩ = some (.slice (some ⟨m0, 0, none⟩) 1 1) := (bq_ HBY4.out 2).trans rfl
 go_upto_region 6 with (go_at_call 12; refine HAL.out.mono ?_; rintro e w5 ⟨rfl, hB⟩; have HB6 := Zd.mk hB; clear hB)
 obtain ⟨W5, rfl⟩ : ∃ W : World, W = w5 := ⟨_, rfl⟩
 have HBY5 := Zd.mk ((HB6.out.block _ (blk_lt HBY4.out)).trans HBY4.out)
 have HBW5 := Zd.mk ((HB6.out.block _ (blk_lt HBW4.out)).trans HBW4.out)
 have hBF5 : Below WF.heap.size WF W5 := HBF4.out.trans (HB6.out.mono HBF4.out.size)
 have HHO := Zd.mk (formula_Holds.calls 6 0 (some ⟨m0, 0, none⟩) 1 [atomS 0] A3 c3 [0] A4 c4 [1] true W5 (Kd.C_below HF.out hBF5) (Nat.le_refl _) (Kd.C_below HC34.out HB6.out) hc3 (Kd.C_below HC44.out HB6.out) hc4 holds_FA)
 have HB7 := Zd.mk (HBF.out.trans (hBF5.mono HBF.out.size))
 clear x0 x1 x2 y0 y1 y2 hBF5
 have y0 : W5.cell? ⟨m1, 0, none⟩ = some (.int .i64 6) := (bq_ HBY5.out 0).trans rfl
 have y1 : W5.cell? ⟨m1, 1, none⟩ = some (.int .i64 0) := (bq_ HBY5.out 1).trans rfl
 have y2 : W5.cell? ⟨m1, 2, none⟩ = some (.slice (some ⟨m0, 0, none⟩) 1 1) := (bq_ HBY5.out 2).trans rfl
 have z0 : W5.cell? ⟨g7, 0, none⟩ = some (.slice A3 1 c3) := (bq_ HBW5.out 0).trans rfl
 have z1 : W5.cell? ⟨g7, 1, none⟩ = some (.slice A4 1 c4) := (bq_ HBW5.out 1).trans rfl
 go_wp2_with (go_at_call 14; refine HHO.out.mono ?_; rintro e w6 ⟨rfl, hB⟩; have HB8 := Zd.mk hB; clear hB)
 go_ret
 exact ⟨rfl, HB7.out.trans (HB8.out.mono HB7.out.size)⟩
end Go.Proofs.Ytapejnikpmfddaa.X
