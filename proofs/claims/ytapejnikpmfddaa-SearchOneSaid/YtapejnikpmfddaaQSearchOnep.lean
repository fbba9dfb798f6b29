/- A part of the claim SearchOne. -/
import Derived.Test.YtapejnikpmfddaaQSearchOneo
namespace Go.Proofs.Ytapejnikpmfddaa.X
open Go.RowKit Go.Proofs.YtapejnikpmfddaaW.PrintWords Go.Proofs.YtapejnikpmfddaaW.PrintLast Go.Proofs.YtapejnikpmfddaaW.PrintMore
open Go.Proofs.Ytapejnikpmfddaa.P Go.Proofs.Ytapejnikpmfddaa.Evx
set_option linter.unusedSimpArgs false
set_option linter.unusedVariables false
theorem word_trueC (A0_0 : Option Addr) (c0_0 : Nat) (l0_0 : List Int) (A0_1 : Option Addr) (c0_1 : Nat) (l0_1 : List Int) (A0_2 : Option Addr) (c0_2 : Nat) (l0_2 : List (List Int)) (A1 : Option Addr) (c1 : Nat) (l1 : List Int) (A2 : Option Addr) (c2 : Nat) (l2 : List Int) (r1 : List Int) (r2 : List Int) (w : World) (hr0_0 : Kd.C (Kd.int .u32) w A0_0 l0_0.length l0_0) (hc0_0 : l0_0.length ≤ c0_0) (hr0_1 : Kd.C (Kd.int .i64) w A0_1 l0_1.length l0_1) (hc0_1 : l0_1.length ≤ c0_1) (hr0_2 : Kd.C (Kd.slice 3 (Kd.int .i64)) w A0_2 l0_2.length l0_2) (hc0_2 : l0_2.length ≤ c0_2) (hr1 : Kd.C (Kd.int .i64) w A1 l1.length l1) (hc1 : l1.length ≤ c1) (hr2 : Kd.C (Kd.int .i64) w A2 l2.length l2) (hc2 : l2.length ≤ c2) (h : search_Word.f l0_0 l0_1 l0_2 l1 l2 = some (r1, r2, true)) :
  Calls Try.prog 13 #[.agg #[.slice A0_0 l0_0.length c0_0, .slice A0_1 l0_1.length c0_1, .slice A0_2 l0_2.length c0_2], .slice A1 l1.length c1, .slice A2 l2.length c2] w fun e w' => ∃ v1_ v2_ : Value, e = .returned (.tuple #[.agg #[v1_, v2_], .bool true]) ∧ Kd.R (Kd.int .u32) 48 w' w.heap.size (fun _ => True) v1_ r1 ∧ Kd.R (Kd.int .u32) 48 w' w.heap.size (fun _ => True) v2_ r2 ∧ Below w.heap.size w w' := by
 unfold search_Word.f at h
 by_cases hl : l1.length + l2.length < 1000000000
 ·rw [if_pos hl] at h
  have h' := Option.some.inj h
  injection h' with h1 h'
  injection h' with h2 h3
  rw [h3] at h1 h2
  have H := Word_true l0_0 l0_1 l0_2 l1 l2 A0_0 A0_1 A0_2 A1 A2 c0_0 c0_1 c0_2 c1 c2 w hr0_0 hc0_0 hr0_1 hc0_1 hr0_2 hc0_2 hr1 hc1 hr2 hc2 hl h3
  rw [← h1, ← h2]
  exact H
 ·rw [if_neg hl] at h; cases h
def atomS (n : Int) : S29 := ⟨2, n, []⟩
set_option maxHeartbeats 800000 in
theorem atom_calls (n : Int) (w : World) : Calls Try.prog 15 #[.int .i64 n] w fun e w' => e = .returned (.agg #[.int .i64 2, .int .i64 n, .slice none 0 0]) ∧ Below w.heap.size w w' := by
 have huF := Try.underlying29
 go_enter Try.func15, Try.ntmps15
 go_wp2
 exact bodyPost_ret (v := .agg #[.int .i64 2, .int .i64 n, .slice none 0 0]) (by simp [results, Try.results15, go_sem]) rfl ⟨rfl, below_alloc (Below.refl _ _) _⟩
theorem find_FA : search_Find.f [0, 1] [0] [[0, 1], [1]] 6 0 [atomS 0] = some ([0], [1], true, 0) := by decide +kernel
theorem all_FA : search_All.f [0, 1] [0] [[0, 1], [1]] 6 0 [atomS 0] = some (false, 0) := by decide +kernel
theorem word_FA : search_Word.f [0, 1] [0] [[0, 1], [1]] [0] [1] = some ([0], [1], true) := by decide +kernel
theorem holds_FA : formula_Holds.f 6 0 [atomS 0] [0] [1] = some true := by decide +kernel
theorem C_sc {α : Type} {enc : α → Value} {h1 : ∀ x, (enc x).oneCell' = true} (d : α) {w : World} {g : Nat} {l : List α} {t : TypeId} (h : w.heap[g]? = some (.cells (l.map enc).toArray t (0, 0))) (hm : l.length < 1000) : Kd.C (Kd.scalar enc h1) w (some ⟨g, 0, none⟩) l.length l := by
 refine Kd.C_of_reads (d := d) ⟨rfl, by omega, fun _ => ⟨_, rfl, fun j hj => ?_⟩⟩
 rw [add_at, bq_ h]
 simp [hj]
theorem C_oneF {w : World} {g : Nat} {a : S29} (ha : a.f2 = []) (h : w.heap[g]? = some (.cells #[.int .i64 a.f0, .int .i64 a.f1, .slice none 0 0] 29 (0, 0))) : Kd.C k29 w (some ⟨g, 0, none⟩) 1 [a] := by
 have hK : ∀ x : S29, x.f2 = [] → k29.K w x [.int .i64 x.f0, .int .i64 x.f1, .slice none 0 0] := by
  intro x hx
  have := k29_mk w x (A2 := none) (c2 := 0) (by rw [hx]; simp) (by rw [hx]; exact Kd.C_nil _ _)
  rwa [hx] at this
 refine ⟨rfl, by omega, fun _ => ⟨_, rfl, fun j p hj => ?_⟩⟩
 have hs : k29.sz = 3 := rfl
 match j, hj with
 | 0, hj =>
  obtain rfl : a = p := by simpa using hj
  refine ⟨_, rfl, hK a ha, fun i u hu => ?_⟩
  rw [hs, add_at, bq_ h]
  match i, hu with
  | 0, hu => exact hu
  | 1, hu => exact hu
  | 2, hu => exact hu
theorem C_rows2 {w : World} {g : Nat} {A1 A2 : Option Addr} {l1 l2 : List Int} (h1 : Kd.C (Kd.int .i64) w A1 l1.length l1) (h2 : Kd.C (Kd.int .i64) w A2 l2.length l2) (h : w.heap[g]? = some (.cells #[.slice A1 l1.length l1.length, .slice A2 l2.length l2.length] 23 (0, 0))) : Kd.C (Kd.slice 3 (Kd.int .i64)) w (some ⟨g, 0, none⟩) 2 [l1, l2] := by
 refine ⟨rfl, by omega, fun _ => ⟨_, rfl, fun j p hj => ?_⟩⟩
 have hs : (Kd.slice 3 (Kd.int .i64)).sz = 1 := rfl
 match j, hj with
 | 0, hj =>
  obtain rfl : l1 = p := by simpa using hj
  refine ⟨[.slice A1 l1.length l1.length], rfl, ⟨A1, _, rfl, Nat.le_refl _, h1⟩, fun i u hu => ?_⟩
  rw [hs, add_at, bq_ h]
  match i, hu with
  | 0, hu => exact hu
 | 1, hj =>
  obtain rfl : l2 = p := by simpa using hj
  refine ⟨[.slice A2 l2.length l2.length], rfl, ⟨A2, _, rfl, Nat.le_refl _, h2⟩, fun i u hu => ?_⟩
  rw [hs, add_at, bq_ h]
  match i, hu with
  | 0, hu => exact hu
set_option maxHeartbeats 3200000 in
set_option maxRecDepth 100000 in
theorem awake_calls (w : World) : Calls Try.prog 10 #[] w fun e w' => e = .returned (.bool true) ∧ Below w.heap.size w w' := by
 have huF := Try.underlying29
 have huW := Try.underlying40
 have huL := Try.underlying27
 have huK := Try.underlying26
 have huu := Try.underlying22
 have hui := Try.underlying23
 have huii := Try.underlying24
 go_enter Try.func10, Try.ntmps10
 go_upto_region 2 with fail
 obtain ⟨n0, hn0⟩ : ∃ k, k = w.heap.size := ⟨_, rfl⟩
 obtain ⟨n1, hn1⟩ : ∃ k, k = n0 + 1 := ⟨_, rfl⟩
 obtain ⟨n2, hn2⟩ : ∃ k, k = n1 + 1 := ⟨_, rfl⟩
 obtain ⟨n3, hn3⟩ : ∃ k, k = n2 + 1 := ⟨_, rfl⟩
 obtain ⟨n4, hn4⟩ : ∃ k, k = n3 + 1 := ⟨_, rfl⟩
 obtain ⟨n5, hn5⟩ : ∃ k, k = n4 + 1 := ⟨_, rfl⟩
 rw [← hn0, ← hn1, ← hn2, ← hn3, ← hn4, ← hn5]
 obtain ⟨V0, hV0⟩ : ∃ W : World, W = w.alloc (.cells #[.int .u32 0, .int .u32 1] 48) := ⟨_, rfl⟩
 obtain ⟨V1, hV1⟩ : ∃ W : World, W = V0.alloc (.cells #[.int .i64 0] 3) := ⟨_, rfl⟩
 obtain ⟨V2, hV2⟩ : ∃ W : World, W = V1.alloc (.cells #[.int .i64 0, .int .i64 1] 3) := ⟨_, rfl⟩
 obtain ⟨V3, hV3⟩ : ∃ W : World, W = V2.alloc (.cells #[.int .i64 1] 3) := ⟨_, rfl⟩
 obtain ⟨V4, hV4⟩ : ∃ W : World, W = V3.alloc (.cells #[.slice (some ⟨n2, 0, none⟩) 2 2, .slice (some ⟨n3, 0, none⟩) 1 1] 23) := ⟨_, rfl⟩
 obtain ⟨V5, hV5⟩ : ∃ W : World, W = V4.alloc (.cells #[.slice (some ⟨n0, 0, none⟩) 2 2, .slice (some ⟨n1, 0, none⟩) 1 1, .slice (some ⟨n4, 0, none⟩) 2 2] 26) := ⟨_, rfl⟩
 rw [← hV0, ← hV1, ← hV2, ← hV3, ← hV4, ← hV5]
 have hz0 : V0.heap.size = n0 + 1 := by rw [hV0]; simp; omega
 have hb0 : V0.heap[n0]? = some (.cells #[.int .u32 0, .int .u32 1] 48 (0, 0)) := by have h := heap_alloc_new w (.cells #[.int .u32 0, .int .u32 1] 48); rw [← hV0, show w.heap.size = n0 by omega] at h; exact h
 have hB0 : Below w.heap.size w V0 := by rw [hV0]; exact below_alloc (Below.refl _ _) _
 have hz1 : V1.heap.size = n1 + 1 := by rw [hV1]; simp; omega
 have hb1 : V1.heap[n1]? = some (.cells #[.int .i64 0] 3 (0, 0)) := by have h := heap_alloc_new V0 (.cells #[.int .i64 0] 3); rw [← hV1, show V0.heap.size = n1 by omega] at h; exact h
 have hB1 : Below V0.heap.size V0 V1 := by rw [hV1]; exact below_alloc (Below.refl _ _) _
 have hz2 : V2.heap.size = n2 + 1 := by rw [hV2]; simp; omega
 have hb2 : V2.heap[n2]? = some (.cells #[.int .i64 0, .int .i64 1] 3 (0, 0)) := by have h := heap_alloc_new V1 (.cells #[.int .i64 0, .int .i64 1] 3); rw [← hV2, show V1.heap.size = n2 by omega] at h; exact h
 have hB2 : Below V1.heap.size V1 V2 := by rw [hV2]; exact below_alloc (Below.refl _ _) _
 have hz3 : V3.heap.size = n3 + 1 := by rw [hV3]; simp; omega
 have hb3 : V3.heap[n3]? = some (.cells #[.int .i64 1] 3 (0, 0)) := by have h := heap_alloc_new V2 (.cells #[.int .i64 1] 3); rw [← hV3, show V2.heap.size = n3 by omega] at h; exact h
 have hB3 : Below V2.heap.size V2 V3 := by rw [hV3]; exact below_alloc (Below.refl _ _) _
 have hz4 : V4.heap.size = n4 + 1 := by rw [hV4]; simp; omega
 have hb4 : V4.heap[n4]? = some (.cells #[.slice (some ⟨n2, 0, none⟩) 2 2, .slice (some ⟨n3, 0, none⟩) 1 1] 23 (0, 0)) := by have h := heap_alloc_new V3 (.cells #[.slice (some ⟨n2, 0, none⟩) 2 2, .slice (some ⟨n3, 0, none⟩) 1 1] 23); rw [← hV4, show V3.heap.size = n4 by omega] at h; exact h
 have hB4 : Below V3.heap.size V3 V4 := by rw [hV4]; exact below_alloc (Below.refl _ _) _
 have hz5 : V5.heap.size = n5 + 1 := by rw [hV5]; simp; omega
 have hb5 : V5.heap[n5]? = some (.cells #[.slice (some ⟨n0, 0, none⟩) 2 2, .slice (some ⟨n1, 0, none⟩) 1 1, .slice (some ⟨n4, 0, none⟩) 2 2] 26 (0, 0)) := by have h := heap_alloc_new V4 (.cells #[.slice (some ⟨n0, 0, none⟩) 2 2, .slice (some ⟨n1, 0, none⟩) 1 1, .slice (some ⟨n4, 0, none⟩) 2 2] 26); rw [← hV5, show V4.heap.size = n5 by omega] at h; exact h
 have hB5 : Below V4.heap.size V4 V5 := by rw [hV5]; exact below_alloc (Below.refl _ _) _
 have hD5 : Below V5.heap.size V5 V5 := Below.refl _ _
 have hD4 : Below V4.heap.size V4 V5 := hB5.trans (hD5.mono hB5.size)
 have hD3 : Below V3.heap.size V3 V5 := hB4.trans (hD4.mono hB4.size)
 have hD2 : Below V2.heap.size V2 V5 := hB3.trans (hD3.mono hB3.size)
 have hD1 : Below V1.heap.size V1 V5 := hB2.trans (hD2.mono hB2.size)
 have hD0 : Below V0.heap.size V0 V5 := hB1.trans (hD1.mono hB1.size)
 have hD : Below w.heap.size w V5 := hB0.trans (hD0.mono hB0.size)
 have hc0 := (hD0.block _ (blk_lt hb0)).trans hb0
 have hc1 := (hD1.block _ (blk_lt hb1)).trans hb1
 have hc2 := (hD2.block _ (blk_lt hb2)).trans hb2
 have hc3 := (hD3.block _ (blk_lt hb3)).trans hb3
 have hc4 := (hD4.block _ (blk_lt hb4)).trans hb4
 have hc5 := hb5
 have HLS := Zd.mk (show Kd.C (Kd.int .u32) V5 (some ⟨n0, 0, none⟩) ([0, 1] : List Int).length [0, 1] from C_sc (enc := Value.int .u32) (h1 := fun _ => rfl) 0 hc0 (by decide))
 have HSS := Zd.mk (show Kd.C (Kd.int .i64) V5 (some ⟨n1, 0, none⟩) ([0] : List Int).length [0] from C_sc (enc := Value.int .i64) (h1 := fun _ => rfl) 0 hc1 (by decide))
 have HNX := Zd.mk (show Kd.C (Kd.slice 3 (Kd.int .i64)) V5 (some ⟨n4, 0, none⟩) ([[0, 1], [1]] : List (List Int)).length [[0, 1], [1]] from C_rows2 (l1 := [0, 1]) (l2 := [1]) (C_sc (enc := Value.int .i64) (h1 := fun _ => rfl) 0 hc2 (by decide)) (C_sc (enc := Value.int .i64) (h1 := fun _ => rfl) 0 hc3 (by decide)) hc4)
 have HBX := Zd.mk hc5
 have HB5 := Zd.mk hD
 clear hD hD0 hD1 hD2 hD3 hD4 hD5 hB0 hB1 hB2 hB3 hB4 hB5 hb0 hb1 hb2 hb3 hb4 hb5 hc0 hc1 hc2 hc3 hc4 hc5 hz0 hz1 hz2 hz3 hz4 hz5 hV0 hV1 hV2 hV3 hV4 hV5 hn0 hn1 hn2 hn3 hn4 hn5
 go_upto_region 3 with (go_at_call 15; refine (atom_calls _ _).mono ?_; rintro e w1 ⟨rfl, hB⟩; have HB1 := Zd.mk hB; clear hB)
 obtain ⟨WF, hWF⟩ : ∃ W3, W3 = (w1.alloc (.cells #[.int .i64 2, .int .i64 0, .slice none 0 0] 29)).alloc (.cells #[.int .i64 6, .int .i64 0, .slice (some ⟨w1.heap.size, 0, none⟩) 1 1] 29) := ⟨_, rfl⟩
 have hBF : Below w1.heap.size w1 WF := by rw [hWF]; exact below_alloc (below_alloc (Below.refl _ _) _) _
 have hbk : WF.heap[w1.heap.size]? = some (.cells #[.int .i64 2, .int .i64 0, .slice none 0 0] 29 (0, 0)) := by rw [hWF]; exact ba_ (heap_alloc_new w1 _) _
 have hbx : WF.heap[w1.heap.size + 1]? = some (.cells #[.int .i64 6, .int .i64 0, .slice (some ⟨w1.heap.size, 0, none⟩) 1 1] 29 (0, 0)) := by
  rw [hWF]
  have := heap_alloc_new (w1.alloc (.cells #[.int .i64 2, .int .i64 0, .slice none 0 0] 29)) (.cells #[.int .i64 6, .int .i64 0, .slice (some ⟨w1.heap.size, 0, none⟩) 1 1] 29)
  simpa using this
 rw [← hWF]
 obtain ⟨m1, hm1⟩ : ∃ k, k = w1.heap.size + 1 := ⟨_, rfl⟩
 obtain ⟨m0, hm0⟩ : ∃ k, k = w1.heap.size := ⟨_, rfl⟩
 rw [← hm1, ← hm0] at hbx
 rw [← hm0] at hbk
 rw [← hm1, ← hm0]
 have HF := Zd.mk (show Kd.C k29 WF (some ⟨m0, 0, none⟩) ([atomS 0] : List S29).length [atomS 0] from C_oneF (a := atomS 0) rfl hbk)
 have hB5F : Below V5.heap.size V5 WF := HB1.out.trans (hBF.mono HB1.out.size)
 have HBF := Zd.mk (HB5.out.trans (hB5F.mono HB5.out.size))
 have HBX2 := Zd.mk ((hB5F.block _ (blk_lt HBX.out)).trans HBX.out)
 have HBY2 := Zd.mk hbx
 have HLS2 := Zd.mk (Kd.C_below HLS.out hB5F)
 have HSS2 := Zd.mk (Kd.C_below HSS.out hB5F)
 have HNX2 := Zd.mk (Kd.C_below HNX.out hB5F)
 have x0 : WF.cell? ⟨n5, 0, none⟩ = some (.slice (some ⟨n0, 0, none⟩) 2 2) := (bq_ HBX2.out 0).trans rfl
 have x1 : WF.cell? ⟨n5, 1, none⟩ = some (.slice (some ⟨n1, 0, none⟩) 1 1) := (bq_ HBX2.out 1).trans rfl
 have x2 : WF.cell? ⟨n5, 2, none⟩ = some (.slice (some ⟨n4, 0, none⟩) 2 2) := (bq_ HBX2.out 2).trans rfl
 have y0 : WF.cell? ⟨m1, 0, none⟩ = some (.int .i64 6) := (bq_ HBY2.out 0).trans rfl
 have y1 : WF.cell? ⟨m1, 1, none⟩ = some (.int .i64 0) := (bq_ HBY2.out 1).trans rfl
 have y2 : WF.cell? ⟨m1, 2, none⟩ = some (.slice (some ⟨m0, 0, none⟩) 1 1) := (bq_ HBY2.out 2).trans rfl
 have HFI := Zd.mk (search_Find.calls (some ⟨n0, 0, none⟩) 2 [0, 1] (some ⟨n1, 0, none⟩) 1 [0] (some ⟨n4, 0, none⟩) 2 [[0, 1], [1]] 6 0 (some ⟨m0, 0, none⟩) 1 [atomS 0] [0] [1] true 0 WF HLS2.out (Nat.le_refl _) HSS2.out (Nat.le_refl _) HNX2.out (Nat.le_refl _) HF.out (Nat.le_refl _) find_FA)
 clear hWF hBF hbk hbx hm1 hm0 hB5F
 go_upto_region 4 with (go_at_call 11; refine HFI.out.mono ?_; rintro e w2 ⟨v1, v2, rfl, hR1, hR2, hB2⟩; obtain ⟨A1, c1, e1, hc1, hC1⟩ := Kd.R_reads hR1; obtain ⟨A2, c2, e2, hc2, hC2⟩ := Kd.R_reads hR2; subst e1; subst e2; have HB2 := Zd.mk hB2; have HC1 := Zd.mk hC1; have HC2 := Zd.mk hC2; clear hR1 hR2 hC1 hC2 hB2)
 obtain ⟨W2, rfl⟩ : ∃ W : World, W = w2 := ⟨_, rfl⟩
 have HWO := Zd.mk (word_trueC (some ⟨n0, 0, none⟩) 2 [0, 1] (some ⟨n1, 0, none⟩) 1 [0] (some ⟨n4, 0, none⟩) 2 [[0, 1], [1]] A1 c1 [0] A2 c2 [1] [0] [1] W2 (Kd.C_below HLS2.out HB2.out) (Nat.le_refl _) (Kd.C_below HSS2.out HB2.out) (Nat.le_refl _) (Kd.C_below HNX2.out HB2.out) (Nat.le_refl _) HC1.out hc1 HC2.out hc2 word_FA)
 have HBX3 := Zd.mk ((HB2.out.block _ (blk_lt HBX2.out)).trans HBX2.out)
 clear x0 x1 x2 y0 y1 y2
 have x0 : W2.cell? ⟨n5, 0, none⟩ = some (.slice (some ⟨n0, 0, none⟩) 2 2) := (bq_ HBX3.out 0).trans rfl
 have x1 : W2.cell? ⟨n5, 1, none⟩ = some (.slice (some ⟨n1, 0, none⟩) 1 1) := (bq_ HBX3.out 1).trans rfl
 have x2 : W2.cell? ⟨n5, 2, none⟩ = some (.slice (some ⟨n4, 0, none⟩) 2 2) := (bq_ HBX3.out 2).trans rfl
 go_upto_region 5 with (go_at_call 13; refine HWO.out.mono ?_; rintro e w3 ⟨v1, v2, rfl, hR1, hR2, hB2⟩; obtain ⟨A3, c3, e1, hc3, hC1⟩ := Kd.R_reads hR1; obtain ⟨A4, c4, e2, hc4, hC2⟩ := Kd.R_reads hR2; subst e1; subst e2; have HB3 := Zd.mk hB2; have HC3 := Zd.mk hC1; have HC4 := Zd.mk hC2; clear hR1 hR2 hC1 hC2 hB2)
 obtain ⟨W4, hW4⟩ : ∃ W : World, W = w3.alloc (.cells #[.slice A3 1 c3, .slice A4 1 c4] 40) := ⟨_, rfl⟩
 have hB4 : Below w3.heap.size w3 W4 := by rw [hW4]; exact below_alloc (Below.refl _ _) _
 have hbw : W4.heap[w3.heap.size]? = some (.cells #[.slice A3 1 c3, .slice A4 1 c4] 40 (0, 0)) := by rw [hW4]; exact heap_alloc_new w3 _
 rw [← hW4]
 obtain ⟨g7, hg7⟩ : ∃ k, k = w3.heap.size := ⟨_, rfl⟩
 rw [← hg7] at hbw ⊢
 have hB24 : Below W2.heap.size W2 W4 := HB3.out.trans (hB4.mono HB3.out.size)
 have hBF4 : Below WF.heap.size WF W4 := HB2.out.trans (hB24.mono HB2.out.size)
 have HBX4 := Zd.mk ((hBF4.block _ (blk_lt HBX2.out)).trans HBX2.out)
 have HBY4 := Zd.mk ((hBF4.block _ (blk_lt HBY2.out)).trans HBY2.out)
 have HBW4 := Zd.mk hbw
 have HBF4 := Zd.mk hBF4
 have HC34 := Zd.mk (Kd.C_below HC3.out hB4)
 have HC44 := Zd.mk (Kd.C_below HC4.out hB4)
 have HAL := Zd.mk (search_All.calls (some ⟨n0, 0, none⟩) 2 [0, 1] (some ⟨n1, 0, none⟩) 1 [0] (some ⟨n4, 0, none⟩) 2 [[0, 1], [1]] 6 0 (some ⟨m0, 0, none⟩) 1 [atomS 0] false 0 W4 (Kd.C_below HLS2.out hBF4) (Nat.le_refl _) (Kd.C_below HSS2.out hBF4) (Nat.le_refl _) (Kd.C_below HNX2.out hBF4) (Nat.le_refl _) (Kd.C_below HF.out hBF4) (Nat.le_refl _) all_FA)
 clear hW4 hB4 hbw hg7 hB24 hBF4 x0 x1 x2
 have x0 : W4.cell? ⟨n5, 0, none⟩ = some (.slice (some ⟨n0, 0, none⟩) 2 2) := (bq_ HBX4.out 0).trans rfl
 have x1 : W4.cell? ⟨n5, 1, none⟩ = some (.slice (some ⟨n1, 0, none⟩) 1 1) := (bq_ HBX4.out 1).trans rfl
 have x2 : W4.cell? ⟨n5, 2, none⟩ = some (.slice (some ⟨n4, 0, none⟩) 2 2) := (bq_ HBX4.out 2).trans rfl
 have y0 : W4.cell? ⟨m1, 0, none⟩ = some (.int .i64 6) := (bq_ HBY4.out 0).trans rfl
 have y1 : W4.cell? ⟨m1, 1, none⟩ = some (.int .i64 0) := (bq_ HBY4.out 1).trans rfl
 have y2 : W4.cell? ⟨m1, 2, none⟩ = some (.slice (some ⟨m0, 0, none⟩) 1 1) := (bq_ HBY4.out 2).trans rfl
 go_upto_region 6 with (go_at_call 12; refine HAL.out.mono ?_; rintro e w5 ⟨rfl, hB⟩; have HB6 := Zd.mk hB; clear hB)
 obtain ⟨W5, rfl⟩ : ∃ W : World, W = w5 := ⟨_, rfl⟩
 have HBY5 := Zd.mk ((HB6.out.block _ (blk_lt HBY4.out)).trans HBY4.out)
 have HBW5 := Zd.mk ((HB6.out.block _ (blk_lt HBW4.out)).trans HBW4.out)
 have hBF5 : Below WF.heap.size WF W5 := HBF4.out.trans (HB6.out.mono HBF4.out.size)
 have HHO := Zd.mk (formula_Holds.calls 6 0 (some ⟨m0, 0, none⟩) 1 [atomS 0] A3 c3 [0] A4 c4 [1] true W5 (Kd.C_below HF.out hBF5) (Nat.le_refl _) (Kd.C_below HC34.out HB6.out) hc3 (Kd.C_below HC44.out HB6.out) hc4 holds_FA)
 have HB7 := Zd.mk (HBF.out.trans (hBF5.mono HBF.out.size))
 clear x0 x1 x2 y0 y1 y2 hBF5
 have y0 : W5.cell? ⟨m1, 0, none⟩ = some (.int .i64 6) := (bq_ HBY5.out 0).trans rfl
 have y1 : W5.cell? ⟨m1, 1, none⟩ = some (.int .i64 0) := (bq_ HBY5.out 1).trans rfl
 have y2 : W5.cell? ⟨m1, 2, none⟩ = some (.slice (some ⟨m0, 0, none⟩) 1 1) := (bq_ HBY5.out 2).trans rfl
 have z0 : W5.cell? ⟨g7, 0, none⟩ = some (.slice A3 1 c3) := (bq_ HBW5.out 0).trans rfl
 have z1 : W5.cell? ⟨g7, 1, none⟩ = some (.slice A4 1 c4) := (bq_ HBW5.out 1).trans rfl
 go_wp2_with (go_at_call 14; refine HHO.out.mono ?_; rintro e w6 ⟨rfl, hB⟩; have HB8 := Zd.mk hB; clear hB)
 go_ret
 exact ⟨rfl, HB7.out.trans (HB8.out.mono HB7.out.size)⟩
def parrylaw24_awake.f : Option Bool := some true
theorem parrylaw24_awake.calls (r : Bool) (w : World) (h : parrylaw24_awake.f = some r) : Calls Try.prog 10 #[] w fun e w' => e = .returned (.bool r) ∧ Below w.heap.size w w' := by
 obtain rfl := Option.some.inj h
 exact awake_calls w
end Go.Proofs.Ytapejnikpmfddaa.X
namespace Go.Proofs.Ytapejnikpmfddaa.P
open Go.RowKit Go.Proofs.YtapejnikpmfddaaW.PrintWords Go.Proofs.YtapejnikpmfddaaW.PrintLast Go.Proofs.YtapejnikpmfddaaW.PrintMore
attribute [local go_sem] max2_int min2_int max_two min_two max_three min_three max_four min_four
set_option linter.unusedVariables false
set_option linter.unusedSimpArgs false

open Go.Proofs.Ytapejnikpmfddaa.X
def parrylaw24_SearchOne.l0 : Nat → List Int → List Int → List Int → Int → Int → Int → Int → List (S29) → List (List Int) → Option (Bool)
 | 0, _, _, _, _, _, _, _, _, _ => none
 | k + 1, x1, x2, x8, x38, x39, x266000, x266001, x266002, x270002 => if x39 < x38 then (if (wrap64 (x39 + 1)) = (x8.length : Int) then (if x270002.length < 5864062014805 then (parrylaw24_SearchOne.l0 k x1 x2 x8 x38 (wrap64 (x39 + 1)) x266000 x266001 x266002 (x270002 ++ [(([(x1.length : Int)] : List Int))])) else (none)) else (if x270002.length < 5864062014805 then (parrylaw24_SearchOne.l0 k x1 x2 x8 x38 (wrap64 (x39 + 1)) x266000 x266001 x266002 (x270002 ++ [(([wrap64 (x39 + 1)] : List Int))])) else (none))) else ((some (([0] : List Int) : List Int)).bind fun y291 => ((parrylaw24_Heavy.f k x8 y291 x270002 x266000 x266001 x266002).bind fun t294 => (if t294 > 0 then ((parrylaw24_awake.f).bind fun t295 => (some t295)) else ((parryref22_May.f k x266000 x266001 x266002).bind fun t296 => (if t296 = 0 then ((search_Find.f x8 y291 x270002 x266000 x266001 x266002).bind fun bt297 => ((search_All.f x8 y291 x270002 x266000 x266001 x266002).bind fun bt305 => ((formula_Holds.f x266000 x266001 x266002 x1 x2).bind fun t307 => (if bt297.2.2.2 = 0 then (if bt305.2 = 0 then (if (bt297.2.2.1 == t307) = true then (if (bt305.1 == t307) = true then ((parrylaw24_awake.f).bind fun t308 => (some t308)) else (some false)) else (some false)) else (some false)) else (some false))))) else ((parrylaw24_awake.f).bind fun t309 => (some t309)))))))
def parrylaw24_SearchOne.f (k : Nat) (a0_0 : Int) (a0_1 : Int) (l0_2 : List (S29)) (l1 : List Int) (l2 : List Int) : Option (Bool) := if (l1.length : Int) > 6 then ((parrylaw24_awake.f).bind fun t266 => (some t266)) else (if (l2.length : Int) < 1 then ((parrylaw24_awake.f).bind fun t267 => (some t267)) else (if (l2.length : Int) > 6 then ((parrylaw24_awake.f).bind fun t268 => (some t268)) else ((some (([] : List Int) : List Int)).bind fun y270 => (if y270.length + l1.length < 35184372088832 then ((some (y270 ++ l1 : List Int)).bind fun y273 => (if y273.length + l2.length < 35184372088832 then ((some (y273 ++ l2 : List Int)).bind fun y276 => (parrylaw24_SearchOne.l0 k l1 l2 y276 (y276.length : Int) 0 a0_0 a0_1 l0_2 ([] : List (List Int)))) else (none))) else (none)))))
set_option maxHeartbeats 8000000 in
set_option maxRecDepth 100000 in
theorem parrylaw24_SearchOne.calls (k : Nat) (a0_0 : Int) (a0_1 : Int) (A0_2 : Option Addr) (c0_2 : Nat) (l0_2 : List (S29)) (A1 : Option Addr) (c1 : Nat) (l1 : List Int) (A2 : Option Addr) (c2 : Nat) (l2 : List Int) (r : Bool) (w : World) (hr0_2 : Kd.C k29 w A0_2 l0_2.length l0_2) (hc0_2 : l0_2.length ≤ c0_2) (hr1 : Kd.C (Kd.int .u32) w A1 l1.length l1) (hc1 : l1.length ≤ c1) (hr2 : Kd.C (Kd.int .u32) w A2 l2.length l2) (hc2 : l2.length ≤ c2) (h : parrylaw24_SearchOne.f k a0_0 a0_1 l0_2 l1 l2 = some r) (hrt : r = true) :
  Calls Try.prog 6 #[.agg #[.int .i64 a0_0, .int .i64 a0_1, .slice A0_2 l0_2.length c0_2], .slice A1 l1.length c1, .slice A2 l2.length c2] w fun e w' => e = .returned (.bool r) ∧ Below w.heap.size w w' := by
 have hu29 := Try.underlying29
 have hu26 := Try.underlying26
 have hu40 := Try.underlying40
 have HR0_2 := Zd.mk hr0_2
 have HC0_2 := Zd.mk hc0_2
 clear hr0_2 hc0_2
 have HR1 := Zd.mk hr1
 have HC1 := Zd.mk hc1
 clear hr1 hc1
 have HR2 := Zd.mk hr2
 have HC2 := Zd.mk hc2
 clear hr2 hc2
 have HB := Zd.mk (Below.refl w.heap.size w)
 have HRT := Zd.mk hrt
 clear hrt
 have H : (if (l1.length : Int) > 6 then ((parrylaw24_awake.f).bind fun t266 => (some t266)) else (if (l2.length : Int) < 1 then ((parrylaw24_awake.f).bind fun t267 => (some t267)) else (if (l2.length : Int) > 6 then ((parrylaw24_awake.f).bind fun t268 => (some t268)) else ((some (([] : List Int) : List Int)).bind fun y270 => (if y270.length + l1.length < 35184372088832 then ((some (y270 ++ l1 : List Int)).bind fun y273 => (if y273.length + l2.length < 35184372088832 then ((some (y273 ++ l2 : List Int)).bind fun y276 => (parrylaw24_SearchOne.l0 k l1 l2 y276 (y276.length : Int) 0 a0_0 a0_1 l0_2 ([] : List (List Int)))) else (none))) else (none)))))) = some r := h
 clear h
 by_cases c4 : (l1.length : Int) > 6
 ·rw [if_pos c4] at H
  have c4b0 : decide (6 < (l1.length : Int)) = true := decide_eq_true c4
  have c4b1 : decide (6 < l1.length) = true := decide_eq_true (by omega)
  clear c4
  replace H := Option.bind_eq_some_iff.mp H
  obtain ⟨t266, A50, H⟩ := H
  replace H : (some t266) = some r := H
  have A5 := Zd.mk A50
  clear A50
  obtain rfl := Option.some.inj H
  go_enter Try.func6, Try.ntmps6
  go_wp2_with (first | ((with_reducible refine gate_dst (N := 3) rfl ?_); (try (refine gate_guard (by rfl) ?_; dsimp only)); refine box_event ?hg (N := 3) ?hd (cs := #[.int .i64 a0_0, .int .i64 a0_1, .slice A0_2 l0_2.length c0_2]) (t := 29) ?hr ?_; (case hd => rfl); (case hg => rfl); (case hr => first | (go_simp; done) | (go_simp; rfl)); intro gb265 hg w6 hbox hb; have n0_ := Zd.mk (bt_ B_ hb); have n1_ := Zd.mk (hbox); have n2_ := Zd.mk ((by rw [hg]; exact (bs_ B_) : w.heap.size ≤ gb265)); have n3_ := Zd.mk ((by rw [hg]; exact (bs_ B_) : w.heap.size ≤ gb265)); clear HB; have HB := n0_; have BK265 := n1_; have GW265 := n2_; have GE265 := n3_; clear n0_ n1_ n2_ n3_; clear hb hbox hg) | ((with_reducible refine gate_callee (f := 10) rfl ?_); refine goesL_ (some 31) rfl rfl Try.func10 (by kernel_rfl) rfl #[] rfl (by (try simp only [List.map_toArray, List.map_cons, List.map_nil]); first | done | rfl | (simp only [List.length_drop, List.length_take]; rfl)) ?_; (with_reducible refine (parrylaw24_awake.calls  t266 _ A5.out).mono ?_); rintro e w7 ⟨rfl, hb⟩; refine ⟨_, rfl, ?_⟩; have n0_ := Zd.mk (bb_ (g := gb265) (o := .cells #[.int .i64 a0_0, .int .i64 a0_1, .slice A0_2 l0_2.length c0_2] 29 (0, 0)) K_ hb); have n1_ := Zd.mk (bt_ B_ hb); clear BK265; clear HB; have BK265 := n0_; have HB := n1_; clear n0_ n1_; (try clear hb); (try clear hb2); (try clear hk); (try clear hi)))
  go_ret
  exact ⟨by first | rfl | (simp [errW_none, errW_some] <;> rfl) | (simp [*, errW_none, errW_some] <;> rfl), B_⟩
 ·rw [if_neg c4] at H
  have c4b0 : decide (6 < (l1.length : Int)) = false := decide_eq_false c4
  have c4b1 : decide (6 < l1.length) = false := decide_eq_false (by omega)
  clear c4
  by_cases c8 : (l2.length : Int) < 1
  ·rw [if_pos c8] at H
   have c8b0 : decide ((l2.length : Int) < 1) = true := decide_eq_true c8
   have c8b1 : decide (l2.length < 1) = true := decide_eq_true (by omega)
   clear c8
   replace H := Option.bind_eq_some_iff.mp H
   obtain ⟨t267, A90, H⟩ := H
   replace H : (some t267) = some r := H
   have A9 := Zd.mk A90
   clear A90
   obtain rfl := Option.some.inj H
   go_enter Try.func6, Try.ntmps6
   go_wp2_with (first | ((with_reducible refine gate_dst (N := 3) rfl ?_); (try (refine gate_guard (by rfl) ?_; dsimp only)); refine box_event ?hg (N := 3) ?hd (cs := #[.int .i64 a0_0, .int .i64 a0_1, .slice A0_2 l0_2.length c0_2]) (t := 29) ?hr ?_; (case hd => rfl); (case hg => rfl); (case hr => first | (go_simp; done) | (go_simp; rfl)); intro gb265 hg w10 hbox hb; have n0_ := Zd.mk (bt_ B_ hb); have n1_ := Zd.mk (hbox); have n2_ := Zd.mk ((by rw [hg]; exact (bs_ B_) : w.heap.size ≤ gb265)); have n3_ := Zd.mk ((by rw [hg]; exact (bs_ B_) : w.heap.size ≤ gb265)); clear HB; have HB := n0_; have BK265 := n1_; have GW265 := n2_; have GE265 := n3_; clear n0_ n1_ n2_ n3_; clear hb hbox hg) | ((with_reducible refine gate_callee (f := 10) rfl ?_); refine goesL_ (some 31) rfl rfl Try.func10 (by kernel_rfl) rfl #[] rfl (by (try simp only [List.map_toArray, List.map_cons, List.map_nil]); first | done | rfl | (simp only [List.length_drop, List.length_take]; rfl)) ?_; (with_reducible refine (parrylaw24_awake.calls  t267 _ A9.out).mono ?_); rintro e w11 ⟨rfl, hb⟩; refine ⟨_, rfl, ?_⟩; have n0_ := Zd.mk (bb_ (g := gb265) (o := .cells #[.int .i64 a0_0, .int .i64 a0_1, .slice A0_2 l0_2.length c0_2] 29 (0, 0)) K_ hb); have n1_ := Zd.mk (bt_ B_ hb); clear BK265; clear HB; have BK265 := n0_; have HB := n1_; clear n0_ n1_; (try clear hb); (try clear hb2); (try clear hk); (try clear hi)))
   go_ret
   exact ⟨by first | rfl | (simp [errW_none, errW_some] <;> rfl) | (simp [*, errW_none, errW_some] <;> rfl), B_⟩
  ·rw [if_neg c8] at H
   have c8b0 : decide ((l2.length : Int) < 1) = false := decide_eq_false c8
   have c8b1 : decide (l2.length < 1) = false := decide_eq_false (by omega)
   clear c8
   by_cases c12 : (l2.length : Int) > 6
   ·rw [if_pos c12] at H
    have c12b0 : decide (6 < (l2.length : Int)) = true := decide_eq_true c12
    have c12b1 : decide (6 < l2.length) = true := decide_eq_true (by omega)
    clear c12
    replace H := Option.bind_eq_some_iff.mp H
    obtain ⟨t268, A130, H⟩ := H
    replace H : (some t268) = some r := H
    have A13 := Zd.mk A130
    clear A130
    obtain rfl := Option.some.inj H
    go_enter Try.func6, Try.ntmps6
    go_wp2_with (first | ((with_reducible refine gate_dst (N := 3) rfl ?_); (try (refine gate_guard (by rfl) ?_; dsimp only)); refine box_event ?hg (N := 3) ?hd (cs := #[.int .i64 a0_0, .int .i64 a0_1, .slice A0_2 l0_2.length c0_2]) (t := 29) ?hr ?_; (case hd => rfl); (case hg => rfl); (case hr => first | (go_simp; done) | (go_simp; rfl)); intro gb265 hg w14 hbox hb; have n0_ := Zd.mk (bt_ B_ hb); have n1_ := Zd.mk (hbox); have n2_ := Zd.mk ((by rw [hg]; exact (bs_ B_) : w.heap.size ≤ gb265)); have n3_ := Zd.mk ((by rw [hg]; exact (bs_ B_) : w.heap.size ≤ gb265)); clear HB; have HB := n0_; have BK265 := n1_; have GW265 := n2_; have GE265 := n3_; clear n0_ n1_ n2_ n3_; clear hb hbox hg) | ((with_reducible refine gate_callee (f := 10) rfl ?_); refine goesL_ (some 31) rfl rfl Try.func10 (by kernel_rfl) rfl #[] rfl (by (try simp only [List.map_toArray, List.map_cons, List.map_nil]); first | done | rfl | (simp only [List.length_drop, List.length_take]; rfl)) ?_; (with_reducible refine (parrylaw24_awake.calls  t268 _ A13.out).mono ?_); rintro e w15 ⟨rfl, hb⟩; refine ⟨_, rfl, ?_⟩; have n0_ := Zd.mk (bb_ (g := gb265) (o := .cells #[.int .i64 a0_0, .int .i64 a0_1, .slice A0_2 l0_2.length c0_2] 29 (0, 0)) K_ hb); have n1_ := Zd.mk (bt_ B_ hb); clear BK265; clear HB; have BK265 := n0_; have HB := n1_; clear n0_ n1_; (try clear hb); (try clear hb2); (try clear hk); (try clear hi)))
    go_ret
    exact ⟨by first | rfl | (simp [errW_none, errW_some] <;> rfl) | (simp [*, errW_none, errW_some] <;> rfl), B_⟩
   ·rw [if_neg c12] at H
    have c12b0 : decide (6 < (l2.length : Int)) = false := decide_eq_false c12
    have c12b1 : decide (6 < l2.length) = false := decide_eq_false (by omega)
    clear c12
    obtain ⟨y270, hy270⟩ : ∃ y_ : List Int, y_ = (([] : List Int)) := ⟨_, rfl⟩
    replace H : (if y270.length + l1.length < 35184372088832 then ((some (y270 ++ l1 : List Int)).bind fun y273 => (if y273.length + l2.length < 35184372088832 then ((some (y273 ++ l2 : List Int)).bind fun y276 => (parrylaw24_SearchOne.l0 k l1 l2 y276 (y276.length : Int) 0 a0_0 a0_1 l0_2 ([] : List (List Int)))) else (none))) else (none)) = some r := by first | (rw [hy270]; with_reducible exact H) | (have H2_ := (Option.bind_some _ _).symm.trans H; rw [hy270]; with_reducible exact H2_) | (have H2_ := (Option.bind_some _ _).symm.trans H; with_reducible exact H2_) | with_reducible exact H | (rw [hy270]; exact H) | exact H
    have Ny270 := Zd.mk hy270
    clear hy270
    by_cases c16 : y270.length + l1.length < 35184372088832
    ·rw [if_pos c16] at H
     have LMc16 := Zd.mk c16
     clear c16
     obtain ⟨y273, hy273⟩ : ∃ y_ : List Int, y_ = (y270 ++ l1) := ⟨_, rfl⟩
     replace H : (if y273.length + l2.length < 35184372088832 then ((some (y273 ++ l2 : List Int)).bind fun y276 => (parrylaw24_SearchOne.l0 k l1 l2 y276 (y276.length : Int) 0 a0_0 a0_1 l0_2 ([] : List (List Int)))) else (none)) = some r := by first | (rw [hy273]; with_reducible exact H) | (have H2_ := (Option.bind_some _ _).symm.trans H; rw [hy273]; with_reducible exact H2_) | (have H2_ := (Option.bind_some _ _).symm.trans H; with_reducible exact H2_) | with_reducible exact H | (rw [hy273]; exact H) | exact H
     have Ny273 := Zd.mk hy273
     clear hy273
     by_cases c17 : y273.length + l2.length < 35184372088832
     ·rw [if_pos c17] at H
      have LMc17 := Zd.mk c17
      clear c17
      obtain ⟨y276, hy276⟩ : ∃ y_ : List Int, y_ = (y273 ++ l2) := ⟨_, rfl⟩
      replace H : (parrylaw24_SearchOne.l0 k l1 l2 y276 (y276.length : Int) 0 a0_0 a0_1 l0_2 ([] : List (List Int))) = some r := by first | (rw [hy276]; with_reducible exact H) | (have H2_ := (Option.bind_some _ _).symm.trans H; rw [hy276]; with_reducible exact H2_) | (have H2_ := (Option.bind_some _ _).symm.trans H; with_reducible exact H2_) | with_reducible exact H | (rw [hy276]; exact H) | exact H
      have Ny276 := Zd.mk hy276
      clear hy276
      have H' := Zd.mk H
      clear H
      go_enter Try.func6, Try.ntmps6
      go_wp2_with (first | ((with_reducible refine gate_dst (N := 3) rfl ?_); (try (refine gate_guard (by rfl) ?_; dsimp only)); refine box_event ?hg (N := 3) ?hd (cs := #[.int .i64 a0_0, .int .i64 a0_1, .slice A0_2 l0_2.length c0_2]) (t := 29) ?hr ?_; (case hd => rfl); (case hg => rfl); (case hr => first | (go_simp; done) | (go_simp; rfl)); intro gb265 hg w18 hbox hb; have n0_ := Zd.mk (bt_ B_ hb); have n1_ := Zd.mk (hbox); have n2_ := Zd.mk ((by rw [hg]; exact (bs_ B_) : w.heap.size ≤ gb265)); have n3_ := Zd.mk ((by rw [hg]; exact (bs_ B_) : w.heap.size ≤ gb265)); clear HB; have HB := n0_; have BK265 := n1_; have GW265 := n2_; have GE265 := n3_; clear n0_ n1_ n2_ n3_; clear hb hbox hg) | ((with_reducible refine gate_dst (N := 7) rfl ?_); (try (refine gate_guard (by rfl) ?_; dsimp only)); refine box_event ?hg (N := 7) ?hd (cs := #[.slice none 0 0, .slice none 0 0, .slice none 0 0]) (t := 26) ?hr ?_; (case hd => rfl); (case hg => rfl); (case hr => first | (go_simp; done) | (go_simp; rfl)); intro gb269 hg w19 hbox hb; have n0_ := Zd.mk (bb_ (g := gb265) (o := .cells #[.int .i64 a0_0, .int .i64 a0_1, .slice A0_2 l0_2.length c0_2] 29 (0, 0)) K_ hb); have n1_ := Zd.mk (bt_ B_ hb); have n2_ := Zd.mk (hbox); have n3_ := Zd.mk ((by rw [hg]; exact (bs_ B_) : w.heap.size ≤ gb269)); have n4_ := Zd.mk ((by rw [hg]; exact (bs_ B_) : w.heap.size ≤ gb269)); have n5_ := Zd.mk ((by rw [hg]; exact Nat.ne_of_lt (blk_lt (g := gb265) (o := .cells #[.int .i64 a0_0, .int .i64 a0_1, .slice A0_2 l0_2.length c0_2] 29 (0, 0)) K_) : gb265 ≠ gb269)); have n6_ := Zd.mk ((by rw [hg]; exact Nat.ne_of_gt (blk_lt (g := gb265) (o := .cells #[.int .i64 a0_0, .int .i64 a0_1, .slice A0_2 l0_2.length c0_2] 29 (0, 0)) K_) : gb269 ≠ gb265)); clear BK265; clear HB; have BK265 := n0_; have HB := n1_; have BK269 := n2_; have GW269 := n3_; have GE269 := n4_; have NB265_269 := n5_; have NB269_265 := n6_; clear n0_ n1_ n2_ n3_ n4_ n5_ n6_; clear hb hbox hg) | ((with_reducible refine gate_dst (N := 32) rfl ?_); (try (refine gate_guard (by rfl) ?_; dsimp only)); refine Kd.R_lit (Kd.int .u32) _ 48 ?hg (N := 32) ?hd (xs := ([] : List Int)) (inner := []) (ok := fun _ => True) (okp := fun _ => True) ?hr ?hp (fun _ hk => hk) trivial (Below.refl _ _) (Nat.le_refl _) (by simp) ?_; (case hd => rfl); (case hg => rfl); (case hr => first | (go_simp; done) | (go_simp; rfl)); (case hp => exact (Reps.none _ _)); intro v271 w20 ho21 hb hg_ hnew_; clear hg_ hnew_; (first | rw [← Ny270.out] at ho21 | (simp only [Int.reduceToNat] at ho21; rw [← Ny270.out] at ho21)); have n0_ := Zd.mk (Kd.R_lower ho21 (bs_ B_)); have n1_ := Zd.mk (bb_ (g := gb265) (o := .cells #[.int .i64 a0_0, .int .i64 a0_1, .slice A0_2 l0_2.length c0_2] 29 (0, 0)) K_ hb); have n2_ := Zd.mk (bb_ (g := gb269) (o := .cells #[.slice none 0 0, .slice none 0 0, .slice none 0 0] 26 (0, 0)) K_ hb); have n3_ := Zd.mk (bt_ B_ hb); clear BK265; clear BK269; clear HB; have HO272 := n0_; have BK265 := n1_; have BK269 := n2_; have HB := n3_; clear n0_ n1_ n2_ n3_; clear hb ho21) | ((with_reducible refine gate_builtin (b := .append) (xs := #[.tmp 32, .tmp 33]) rfl ?_); (try (refine gate_guard (by rfl) ?_; dsimp only)); at_builtin; refine Kd.R_append_rows (Kd.int .u32) (w0 := w) w.heap.size rfl (.tmp 32) (.tmp 33) 22 48 (.int .u32 0) 4 rfl Try.underlying22 info48 rfl (by decide) (by omega) v271 y270 l1 _ _ _ (fun _ => True) (fun _ => False) rfl rfl ?aO ?aR (fun _ _ h => h) (fun _ h => h.elim) ?aF ?aB ?aS ?aL ?_; (case aR => repeat (first | exact (Kd.C_below HR1.out HB.out) | (with_reducible refine Kd.C_alloc ?_ _) | (with_reducible refine Kd.C_drewN ?_ _) | (with_reducible refine Kd.C_drew ?_))); (case aB => exact B_); (case aF => exact (fun _ _ => trivial)); (case aO => exact (by (with_reducible repeat (first | apply Kd.R_alloc | apply Kd.R_drewN | apply Kd.R_drew)); exact HO272.out)); (case aS => exact (bs_ B_)); (case aL => have := LMc16.out; omega); intro v274 w22 ho hb hg hat; rw [← Ny273.out] at ho; have n0_ := Zd.mk (bg_ (g := gb265) (o := .cells #[.int .i64 a0_0, .int .i64 a0_1, .slice A0_2 l0_2.length c0_2] 29 (0, 0)) K_ hg (Kd.R_ne HO272.out BK265.out (by decide))); have n1_ := Zd.mk (bg_ (g := gb269) (o := .cells #[.slice none 0 0, .slice none 0 0, .slice none 0 0] 26 (0, 0)) K_ hg (Kd.R_ne HO272.out BK269.out (by decide))); have n2_ := Zd.mk (hb); have n3_ := Zd.mk (ho); clear BK265; clear BK269; clear HB; clear HO272; have BK265 := n0_; have BK269 := n1_; have HB := n2_; have HO275 := n3_; clear n0_ n1_ n2_ n3_; clear ho hb hg hat) | ((with_reducible refine gate_builtin (b := .append) (xs := #[.tmp 34, .tmp 35]) rfl ?_); (try (refine gate_guard (by rfl) ?_; dsimp only)); at_builtin; refine Kd.R_append_rows (Kd.int .u32) (w0 := w) w.heap.size rfl (.tmp 34) (.tmp 35) 22 48 (.int .u32 0) 4 rfl Try.underlying22 info48 rfl (by decide) (by omega) v274 y273 l2 _ _ _ (fun _ => True) (fun _ => False) rfl rfl ?aO ?aR (fun _ _ h => h) (fun _ h => h.elim) ?aF ?aB ?aS ?aL ?_; (case aR => repeat (first | exact (Kd.C_below HR2.out HB.out) | (with_reducible refine Kd.C_alloc ?_ _) | (with_reducible refine Kd.C_drewN ?_ _) | (with_reducible refine Kd.C_drew ?_))); (case aB => exact B_); (case aF => exact (fun _ _ => trivial)); (case aO => exact (by (with_reducible repeat (first | apply Kd.R_alloc | apply Kd.R_drewN | apply Kd.R_drew)); exact HO275.out)); (case aS => exact (bs_ B_)); (case aL => have := LMc17.out; omega); intro v277 w23 ho hb hg hat; rw [← Ny276.out] at ho; have n0_ := Zd.mk (bg_ (g := gb265) (o := .cells #[.int .i64 a0_0, .int .i64 a0_1, .slice A0_2 l0_2.length c0_2] 29 (0, 0)) K_ hg (Kd.R_ne HO275.out BK265.out (by decide))); have n1_ := Zd.mk (bg_ (g := gb269) (o := .cells #[.slice none 0 0, .slice none 0 0, .slice none 0 0] 26 (0, 0)) K_ hg (Kd.R_ne HO275.out BK269.out (by decide))); have n2_ := Zd.mk (hb); have n3_ := Zd.mk (ho); clear BK265; clear BK269; clear HB; clear HO275; have BK265 := n0_; have BK269 := n1_; have HB := n2_; have HO278 := n3_; clear n0_ n1_ n2_ n3_; clear ho hb hg hat; obtain ⟨Ao24, co24, eo24⟩ := Kd.R_slice HO278.out; subst eo24))
      go_loopg [39] k (fun kq v39 w' => ∃ (x39_1 : Int) (x270002_1 : List (List Int)) (u270002 : Value), v39 = .int .i64 x39_1 ∧ Zd (parrylaw24_SearchOne.l0 kq l1 l2 y276 (y276.length : Int) x39_1 a0_0 a0_1 l0_2 x270002_1 = some r) ∧ Zd (kq ≤ k) ∧ Zd (Kd.R (Kd.int .u32) 48 w' w.heap.size (fun _ => True) (.slice Ao24 y276.length co24) y276) ∧ Zd (Kd.S (Kd.slice 3 (Kd.int .i64)) 23 w' w.heap.size (fun _ => True) u270002 x270002_1) ∧ Zd (w'.heap[gb265]? = some (.cells #[.int .i64 a0_0, .int .i64 a0_1, (.slice A0_2 l0_2.length c0_2)] 29 (0, 0))) ∧ Zd (w'.heap[gb269]? = some (.cells #[(.slice none 0 0), (.slice none 0 0), u270002] 26 (0, 0))) ∧ Zd (Below w.heap.size w w'))
      case atStart => exact ⟨(0), (([] : List (List Int))), (.slice none 0 0), (by first | rfl | (simp; done) | (simp [*]; done)), H', ⟨Nat.le_refl _⟩, ⟨by (with_reducible repeat (first | apply Kd.R_alloc | apply Kd.R_drewN | apply Kd.R_drew)); exact HO278.out⟩, ⟨by first | exact Kd.S_nil _ _ _ _ _ | exact Kd.N_nil _ _ _ _ _ | exact Kd.V_nil _ _ _ _ _ | exact Kd.Q_nil _ _ _ _ _ | exact Kd.R_nil _ _ _ _ _⟩, ⟨K_⟩, ⟨K_⟩, ⟨B_⟩⟩
      case round =>
       clear H'
       try clear c1
       try clear c2
       try clear p2
       try clear c4
       try clear c4b0
       try clear c4b1
       try clear c6
       try clear c8
       try clear c8b0
       try clear c8b1
       try clear c10
       try clear c12
       try clear c12b0
       try clear c12b1
       try clear c16
       try clear c17
       obtain ⟨x39_1, x270002_1, u270002, rfl, HA, HK1, HO_8, HO_270002, BK265, BK269, HB⟩ := hrel
       cases gk with
       | zero => exact absurd HA.out (by simp [parrylaw24_SearchOne.l0])
       | succ k1 =>
        have H := HA.out
        clear HA
        simp only [parrylaw24_SearchOne.l0] at H
        by_cases c25 : x39_1 < (y276.length : Int)
        ·rw [if_pos c25] at H
         have c25b0 : decide (x39_1 < (y276.length : Int)) = true := decide_eq_true c25
         clear c25
         by_cases c26 : (wrap64 (x39_1 + 1)) = (y276.length : Int)
         ·rw [if_pos c26] at H
          have c26b0 : ((wrap64 (x39_1 + 1)) == (y276.length : Int)) = true := beq_iff_eq.mpr c26
          have c26b1 : ((wrap64 (x39_1 + 1)) != (y276.length : Int)) = false := bne_eq_false_iff_eq.mpr c26
          clear c26
          obtain ⟨y279, hy279⟩ : ∃ y_ : List Int, y_ = (([(l1.length : Int)] : List Int)) := ⟨_, rfl⟩
          replace H : (if x270002_1.length < 5864062014805 then (parrylaw24_SearchOne.l0 k1 l1 l2 y276 (y276.length : Int) (wrap64 (x39_1 + 1)) a0_0 a0_1 l0_2 (x270002_1 ++ [y279])) else (none)) = some r := by first | (rw [hy279]; with_reducible exact H) | (have H2_ := (Option.bind_some _ _).symm.trans H; rw [hy279]; with_reducible exact H2_) | (have H2_ := (Option.bind_some _ _).symm.trans H; with_reducible exact H2_) | with_reducible exact H | (rw [hy279]; exact H) | exact H
          have Ny279 := Zd.mk hy279
          clear hy279
          by_cases c27 : x270002_1.length < 5864062014805
          ·rw [if_pos c27] at H
           have LMc27 := Zd.mk c27
           clear c27
           obtain ⟨y282, hy282⟩ : ∃ y_ : List (List Int), y_ = (x270002_1 ++ [y279]) := ⟨_, rfl⟩
           replace H : (parrylaw24_SearchOne.l0 k1 l1 l2 y276 (y276.length : Int) (wrap64 (x39_1 + 1)) a0_0 a0_1 l0_2 y282) = some r := by first | (rw [hy282]; with_reducible exact H) | (have H2_ := (Option.bind_some _ _).symm.trans H; rw [hy282]; with_reducible exact H2_) | (have H2_ := (Option.bind_some _ _).symm.trans H; with_reducible exact H2_) | with_reducible exact H | (rw [hy282]; exact H) | exact H
           have Ny282 := Zd.mk hy282
           clear hy282
           have H' := Zd.mk H
           clear H
           have hnb28 := NB269_265.out
           have hnc28 := NB265_269.out
           have hcz29_0 : wr.cell? ⟨gb269, 0, none⟩ = some (.slice none 0 0) := (bq_ BK269.out 0).trans rfl
           have hcz29_1 : wr.cell? ⟨gb269, 1, none⟩ = some (.slice none 0 0) := (bq_ BK269.out 1).trans rfl
           have hcz29_2 : wr.cell? ⟨gb269, 2, none⟩ = some (u270002) := (bq_ BK269.out 2).trans rfl
           have hfz29_0 := bz_ BK269.out 0
           have hfz29_1 := bz_ BK269.out 1
           have hfz29_2 := bz_ BK269.out 2
           go_wp2_with (first | ((with_reducible refine gate_dst (N := 53) rfl ?_); (try (refine gate_guard (by rfl) ?_; dsimp only)); refine Kd.R_lit (Kd.int .i64) _ 3 ?hg (N := 53) ?hd (xs := ([(l1.length : Int)] : List Int)) (inner := [.int .i64 (l1.length : Int)]) (ok := fun _ => True) (okp := fun _ => True) ?hr ?hp (fun _ hk => hk) trivial (Below.refl _ _) (Nat.le_refl _) (by simp) ?_; (case hd => rfl); (case hg => rfl); (case hr => first | (go_simp; done) | (go_simp; rfl)); (case hp => exact (Reps.one (show Kd.M (Kd.int .i64) _ _ _ (l1.length : Int) [.int .i64 (l1.length : Int)] from rfl) (Reps.none _ _))); intro v280 w30 ho31 hb hg_ hnew_; clear hg_ hnew_; (first | rw [← Ny279.out] at ho31 | (simp only [Int.reduceToNat] at ho31; rw [← Ny279.out] at ho31)); have n0_ := Zd.mk (Kd.R_below (by (with_reducible repeat (first | apply Kd.R_alloc | apply Kd.R_drewN | apply Kd.R_drew)); exact HO_8.out) hb); have n1_ := Zd.mk (Kd.S_elder' (by (with_reducible repeat (first | apply Kd.S_alloc | apply Kd.S_drewN | apply Kd.S_drew)); exact HO_270002.out) (Kd.R_base ho31) hb); have n2_ := Zd.mk (Kd.R_lower ho31 (bs_ B_)); have n3_ := Zd.mk (bb_ (g := gb265) (o := .cells #[.int .i64 a0_0, .int .i64 a0_1, .slice A0_2 l0_2.length c0_2] 29 (0, 0)) K_ hb); have n4_ := Zd.mk (bb_ (g := gb269) (o := .cells #[.slice none 0 0, .slice none 0 0, u270002] 26 (0, 0)) K_ hb); have n5_ := Zd.mk (bt_ B_ hb); clear HO_8; clear HO_270002; clear BK265; clear BK269; clear HB; have HO_8 := n0_; have HO_270002 := n1_; have HO281 := n2_; have BK265 := n3_; have BK269 := n4_; have HB := n5_; clear n0_ n1_ n2_ n3_ n4_ n5_; clear hb ho31; obtain ⟨Ao33, co33, eo33⟩ := Kd.R_slice HO281.out; subst eo33) | ((with_reducible refine gate_builtin (b := .append) (xs := #[.tmp 51, .tmp 54]) rfl ?_); (try (refine gate_guard (by rfl) ?_; dsimp only)); at_builtin; refine Kd.S_append (Kd.slice 3 (Kd.int .i64)) (w0 := w) w.heap.size rfl (.tmp 51) (.tmp 54) 24 23 (.slice none 0 0) 24 rfl Try.underlying24 info23 rfl (by decide) (by omega) u270002 x270002_1 y279 [.slice Ao33 y279.length co33] (fun _ => True) (fun k_ => some k_ = (.slice Ao33 y279.length co33 : Value).ownBlock) rfl rfl ?aP (fun k_ hk_ => ((Kd.R_mono (ok' := fun k_ => ((fun _ => True)) k_ ∧ some k_ ≠ (u270002 : Value).ownBlock) (Kd.R_apart' (HO281.out) (Kd.S_typed HO_270002.out) (by decide)) (fun k_ hk => ⟨trivial, hk.2⟩))).1 k_ hk_.symm) ?aF ?aO ?aB ?aS ?aL ?_; (case aP => exact Kd.M_row (Kd.R_mono (Kd.R_tight rfl (Kd.R_mono (ok' := fun k_ => ((fun _ => True)) k_ ∧ some k_ ≠ (u270002 : Value).ownBlock) (Kd.R_apart' (HO281.out) (Kd.S_typed HO_270002.out) (by decide)) (fun k_ hk => ⟨trivial, hk.2⟩))) (fun _ h_ => h_))); (case aB => exact B_); (case aF => exact (fun _ _ => trivial)); (case aO => exact (by (with_reducible repeat (first | apply Kd.S_alloc | apply Kd.S_drewN | apply Kd.S_drew)); exact Kd.S_mono HO_270002.out (fun k_ hk => ⟨trivial, fun e_ => hk.2 e_⟩))); (case aS => exact (bs_ B_)); (case aL => have := LMc27.out; omega); intro v283 w32 ho hb hg hat; rw [← Ny282.out] at ho; have n0_ := Zd.mk (Kd.R_over' (by (with_reducible repeat (first | apply Kd.R_alloc | apply Kd.R_drewN | apply Kd.R_drew)); exact HO_8.out) (Kd.S_typed (by (with_reducible repeat (first | apply Kd.S_alloc | apply Kd.S_drewN | apply Kd.S_drew)); exact HO_270002.out)) (by decide) hg); have n1_ := Zd.mk (bg_ (g := gb265) (o := .cells #[.int .i64 a0_0, .int .i64 a0_1, .slice A0_2 l0_2.length c0_2] 29 (0, 0)) K_ hg (Kd.S_ne HO_270002.out BK265.out (by decide))); have n2_ := Zd.mk (bg_ (g := gb269) (o := .cells #[.slice none 0 0, .slice none 0 0, u270002] 26 (0, 0)) K_ hg (Kd.S_ne HO_270002.out BK269.out (by decide))); have n3_ := Zd.mk (hb); have n4_ := Zd.mk (ho); clear HO_8; clear BK265; clear BK269; clear HB; clear HO_270002; clear HO281; have HO_8 := n0_; have BK265 := n1_; have BK269 := n2_; have HB := n3_; have HO284 := n4_; clear n0_ n1_ n2_ n3_ n4_; clear ho hb hg hat; obtain ⟨Ao34, co34, eo34⟩ := Kd.S_slice HO284.out; subst eo34; have hcz35_0 : w32.cell? ⟨gb269, 0, none⟩ = some (.slice none 0 0) := (bq_ BK269.out 0).trans rfl; have hcz35_1 : w32.cell? ⟨gb269, 1, none⟩ = some (.slice none 0 0) := (bq_ BK269.out 1).trans rfl; have hcz35_2 : w32.cell? ⟨gb269, 2, none⟩ = some (u270002) := (bq_ BK269.out 2).trans rfl; have hfz35_0 := bz_ BK269.out 0; have hfz35_1 := bz_ BK269.out 1; have hfz35_2 := bz_ BK269.out 2))
           go_roundg k1
           case measure => have := HK1.out; omega
           case rel => exact ⟨(wrap64 (x39_1 + 1)), (y282), (.slice Ao34 y282.length co34), (by first | rfl | (simp; done) | (simp [*]; done)), H', ⟨by have := HK1.out; omega⟩, ⟨by (with_reducible repeat (first | apply Kd.R_alloc | apply Kd.R_drewN | apply Kd.R_drew)); exact Kd.R_mono (Kd.R_far (p := ⟨gb269, 2, none⟩) (Kd.R_types HO_8.out BK269.out (by decide)) (fun _ hk => hk.2) (.slice Ao34 y282.length co34)) (fun _ hk => trivial)⟩, ⟨by (with_reducible repeat (first | apply Kd.S_alloc | apply Kd.S_drewN | apply Kd.S_drew)); exact Kd.S_mono (Kd.S_far (p := ⟨gb269, 2, none⟩) (Kd.S_types HO284.out BK269.out (by decide)) (fun _ hk => hk.2) (.slice Ao34 y282.length co34)) (fun _ hk => trivial)⟩, ⟨by (with_reducible repeat (first | refine bd_ ?_ _ | refine blk_drew ?_ | refine ba_ ?_ _)); refine blk_far ?_ NB265_269.out _; (with_reducible repeat (first | refine bd_ ?_ _ | refine blk_drew ?_ | refine ba_ ?_ _)); exact BK265.out⟩, ⟨by (with_reducible repeat (first | refine bd_ ?_ _ | refine blk_drew ?_ | refine ba_ ?_ _)); refine blk_put (cs := #[.slice none 0 0, .slice none 0 0, u270002]) ?_ 2 _ rfl; (with_reducible repeat (first | refine bd_ ?_ _ | refine blk_drew ?_ | refine ba_ ?_ _)); exact BK269.out⟩, ⟨B_⟩⟩
          ·rw [if_neg c27] at H
           exact absurd H (by simp)
         ·rw [if_neg c26] at H
          have c26b0 : ((wrap64 (x39_1 + 1)) == (y276.length : Int)) = false := beq_eq_false_iff_ne.mpr c26
          have c26b1 : ((wrap64 (x39_1 + 1)) != (y276.length : Int)) = true := bne_iff_ne.mpr c26
          obtain ⟨y285, hy285⟩ : ∃ y_ : List Int, y_ = (([wrap64 (x39_1 + 1)] : List Int)) := ⟨_, rfl⟩
          replace H : (if x270002_1.length < 5864062014805 then (parrylaw24_SearchOne.l0 k1 l1 l2 y276 (y276.length : Int) (wrap64 (x39_1 + 1)) a0_0 a0_1 l0_2 (x270002_1 ++ [y285])) else (none)) = some r := by first | (rw [hy285]; with_reducible exact H) | (have H2_ := (Option.bind_some _ _).symm.trans H; rw [hy285]; with_reducible exact H2_) | (have H2_ := (Option.bind_some _ _).symm.trans H; with_reducible exact H2_) | with_reducible exact H | (rw [hy285]; exact H) | exact H
          have Ny285 := Zd.mk hy285
          clear hy285
          by_cases c36 : x270002_1.length < 5864062014805
          ·rw [if_pos c36] at H
           have LMc36 := Zd.mk c36
           clear c36
           obtain ⟨y288, hy288⟩ : ∃ y_ : List (List Int), y_ = (x270002_1 ++ [y285]) := ⟨_, rfl⟩
           replace H : (parrylaw24_SearchOne.l0 k1 l1 l2 y276 (y276.length : Int) (wrap64 (x39_1 + 1)) a0_0 a0_1 l0_2 y288) = some r := by first | (rw [hy288]; with_reducible exact H) | (have H2_ := (Option.bind_some _ _).symm.trans H; rw [hy288]; with_reducible exact H2_) | (have H2_ := (Option.bind_some _ _).symm.trans H; with_reducible exact H2_) | with_reducible exact H | (rw [hy288]; exact H) | exact H
           have Ny288 := Zd.mk hy288
           clear hy288
           have H' := Zd.mk H
           clear H
           have hnb37 := NB269_265.out
           have hnc37 := NB265_269.out
           have hcz38_0 : wr.cell? ⟨gb269, 0, none⟩ = some (.slice none 0 0) := (bq_ BK269.out 0).trans rfl
           have hcz38_1 : wr.cell? ⟨gb269, 1, none⟩ = some (.slice none 0 0) := (bq_ BK269.out 1).trans rfl
           have hcz38_2 : wr.cell? ⟨gb269, 2, none⟩ = some (u270002) := (bq_ BK269.out 2).trans rfl
           have hfz38_0 := bz_ BK269.out 0
           have hfz38_1 := bz_ BK269.out 1
           have hfz38_2 := bz_ BK269.out 2
           go_wp2_with (first | ((with_reducible refine gate_dst (N := 53) rfl ?_); (try (refine gate_guard (by rfl) ?_; dsimp only)); refine Kd.R_lit (Kd.int .i64) _ 3 ?hg (N := 53) ?hd (xs := ([wrap64 (x39_1 + 1)] : List Int)) (inner := [.int .i64 (wrap64 (x39_1 + 1))]) (ok := fun _ => True) (okp := fun _ => True) ?hr ?hp (fun _ hk => hk) trivial (Below.refl _ _) (Nat.le_refl _) (by simp) ?_; (case hd => rfl); (case hg => rfl); (case hr => first | (go_simp; done) | (go_simp; rfl)); (case hp => exact (Reps.one (show Kd.M (Kd.int .i64) _ _ _ (wrap64 (x39_1 + 1)) [.int .i64 (wrap64 (x39_1 + 1))] from rfl) (Reps.none _ _))); intro v286 w39 ho40 hb hg_ hnew_; clear hg_ hnew_; (first | rw [← Ny285.out] at ho40 | (simp only [Int.reduceToNat] at ho40; rw [← Ny285.out] at ho40)); have n0_ := Zd.mk (Kd.R_below (by (with_reducible repeat (first | apply Kd.R_alloc | apply Kd.R_drewN | apply Kd.R_drew)); exact HO_8.out) hb); have n1_ := Zd.mk (Kd.S_elder' (by (with_reducible repeat (first | apply Kd.S_alloc | apply Kd.S_drewN | apply Kd.S_drew)); exact HO_270002.out) (Kd.R_base ho40) hb); have n2_ := Zd.mk (Kd.R_lower ho40 (bs_ B_)); have n3_ := Zd.mk (bb_ (g := gb265) (o := .cells #[.int .i64 a0_0, .int .i64 a0_1, .slice A0_2 l0_2.length c0_2] 29 (0, 0)) K_ hb); have n4_ := Zd.mk (bb_ (g := gb269) (o := .cells #[.slice none 0 0, .slice none 0 0, u270002] 26 (0, 0)) K_ hb); have n5_ := Zd.mk (bt_ B_ hb); clear HO_8; clear HO_270002; clear BK265; clear BK269; clear HB; have HO_8 := n0_; have HO_270002 := n1_; have HO287 := n2_; have BK265 := n3_; have BK269 := n4_; have HB := n5_; clear n0_ n1_ n2_ n3_ n4_ n5_; clear hb ho40; obtain ⟨Ao42, co42, eo42⟩ := Kd.R_slice HO287.out; subst eo42) | ((with_reducible refine gate_builtin (b := .append) (xs := #[.tmp 51, .tmp 54]) rfl ?_); (try (refine gate_guard (by rfl) ?_; dsimp only)); at_builtin; refine Kd.S_append (Kd.slice 3 (Kd.int .i64)) (w0 := w) w.heap.size rfl (.tmp 51) (.tmp 54) 24 23 (.slice none 0 0) 24 rfl Try.underlying24 info23 rfl (by decide) (by omega) u270002 x270002_1 y285 [.slice Ao42 y285.length co42] (fun _ => True) (fun k_ => some k_ = (.slice Ao42 y285.length co42 : Value).ownBlock) rfl rfl ?aP (fun k_ hk_ => ((Kd.R_mono (ok' := fun k_ => ((fun _ => True)) k_ ∧ some k_ ≠ (u270002 : Value).ownBlock) (Kd.R_apart' (HO287.out) (Kd.S_typed HO_270002.out) (by decide)) (fun k_ hk => ⟨trivial, hk.2⟩))).1 k_ hk_.symm) ?aF ?aO ?aB ?aS ?aL ?_; (case aP => exact Kd.M_row (Kd.R_mono (Kd.R_tight rfl (Kd.R_mono (ok' := fun k_ => ((fun _ => True)) k_ ∧ some k_ ≠ (u270002 : Value).ownBlock) (Kd.R_apart' (HO287.out) (Kd.S_typed HO_270002.out) (by decide)) (fun k_ hk => ⟨trivial, hk.2⟩))) (fun _ h_ => h_))); (case aB => exact B_); (case aF => exact (fun _ _ => trivial)); (case aO => exact (by (with_reducible repeat (first | apply Kd.S_alloc | apply Kd.S_drewN | apply Kd.S_drew)); exact Kd.S_mono HO_270002.out (fun k_ hk => ⟨trivial, fun e_ => hk.2 e_⟩))); (case aS => exact (bs_ B_)); (case aL => have := LMc36.out; omega); intro v289 w41 ho hb hg hat; rw [← Ny288.out] at ho; have n0_ := Zd.mk (Kd.R_over' (by (with_reducible repeat (first | apply Kd.R_alloc | apply Kd.R_drewN | apply Kd.R_drew)); exact HO_8.out) (Kd.S_typed (by (with_reducible repeat (first | apply Kd.S_alloc | apply Kd.S_drewN | apply Kd.S_drew)); exact HO_270002.out)) (by decide) hg); have n1_ := Zd.mk (bg_ (g := gb265) (o := .cells #[.int .i64 a0_0, .int .i64 a0_1, .slice A0_2 l0_2.length c0_2] 29 (0, 0)) K_ hg (Kd.S_ne HO_270002.out BK265.out (by decide))); have n2_ := Zd.mk (bg_ (g := gb269) (o := .cells #[.slice none 0 0, .slice none 0 0, u270002] 26 (0, 0)) K_ hg (Kd.S_ne HO_270002.out BK269.out (by decide))); have n3_ := Zd.mk (hb); have n4_ := Zd.mk (ho); clear HO_8; clear BK265; clear BK269; clear HB; clear HO_270002; clear HO287; have HO_8 := n0_; have BK265 := n1_; have BK269 := n2_; have HB := n3_; have HO290 := n4_; clear n0_ n1_ n2_ n3_ n4_; clear ho hb hg hat; obtain ⟨Ao43, co43, eo43⟩ := Kd.S_slice HO290.out; subst eo43; have hcz44_0 : w41.cell? ⟨gb269, 0, none⟩ = some (.slice none 0 0) := (bq_ BK269.out 0).trans rfl; have hcz44_1 : w41.cell? ⟨gb269, 1, none⟩ = some (.slice none 0 0) := (bq_ BK269.out 1).trans rfl; have hcz44_2 : w41.cell? ⟨gb269, 2, none⟩ = some (u270002) := (bq_ BK269.out 2).trans rfl; have hfz44_0 := bz_ BK269.out 0; have hfz44_1 := bz_ BK269.out 1; have hfz44_2 := bz_ BK269.out 2))
           go_roundg k1
           case measure => have := HK1.out; omega
           case rel => exact ⟨(wrap64 (x39_1 + 1)), (y288), (.slice Ao43 y288.length co43), (by first | rfl | (simp; done) | (simp [*]; done)), H', ⟨by have := HK1.out; omega⟩, ⟨by (with_reducible repeat (first | apply Kd.R_alloc | apply Kd.R_drewN | apply Kd.R_drew)); exact Kd.R_mono (Kd.R_far (p := ⟨gb269, 2, none⟩) (Kd.R_types HO_8.out BK269.out (by decide)) (fun _ hk => hk.2) (.slice Ao43 y288.length co43)) (fun _ hk => trivial)⟩, ⟨by (with_reducible repeat (first | apply Kd.S_alloc | apply Kd.S_drewN | apply Kd.S_drew)); exact Kd.S_mono (Kd.S_far (p := ⟨gb269, 2, none⟩) (Kd.S_types HO290.out BK269.out (by decide)) (fun _ hk => hk.2) (.slice Ao43 y288.length co43)) (fun _ hk => trivial)⟩, ⟨by (with_reducible repeat (first | refine bd_ ?_ _ | refine blk_drew ?_ | refine ba_ ?_ _)); refine blk_far ?_ NB265_269.out _; (with_reducible repeat (first | refine bd_ ?_ _ | refine blk_drew ?_ | refine ba_ ?_ _)); exact BK265.out⟩, ⟨by (with_reducible repeat (first | refine bd_ ?_ _ | refine blk_drew ?_ | refine ba_ ?_ _)); refine blk_put (cs := #[.slice none 0 0, .slice none 0 0, u270002]) ?_ 2 _ rfl; (with_reducible repeat (first | refine bd_ ?_ _ | refine blk_drew ?_ | refine ba_ ?_ _)); exact BK269.out⟩, ⟨B_⟩⟩
          ·rw [if_neg c36] at H
           exact absurd H (by simp)
        ·rw [if_neg c25] at H
         have c25b0 : decide (x39_1 < (y276.length : Int)) = false := decide_eq_false c25
         clear c25
         obtain ⟨y291, hy291⟩ : ∃ y_ : List Int, y_ = (([0] : List Int)) := ⟨_, rfl⟩
         replace H : ((parrylaw24_Heavy.f k1 y276 y291 x270002_1 a0_0 a0_1 l0_2).bind fun t294 => (if t294 > 0 then ((parrylaw24_awake.f).bind fun t295 => (some t295)) else ((parryref22_May.f k1 a0_0 a0_1 l0_2).bind fun t296 => (if t296 = 0 then ((search_Find.f y276 y291 x270002_1 a0_0 a0_1 l0_2).bind fun bt297 => ((search_All.f y276 y291 x270002_1 a0_0 a0_1 l0_2).bind fun bt305 => ((formula_Holds.f a0_0 a0_1 l0_2 l1 l2).bind fun t307 => (if bt297.2.2.2 = 0 then (if bt305.2 = 0 then (if (bt297.2.2.1 == t307) = true then (if (bt305.1 == t307) = true then ((parrylaw24_awake.f).bind fun t308 => (some t308)) else (some false)) else (some false)) else (some false)) else (some false))))) else ((parrylaw24_awake.f).bind fun t309 => (some t309)))))) = some r := by first | (rw [hy291]; with_reducible exact H) | (have H2_ := (Option.bind_some _ _).symm.trans H; rw [hy291]; with_reducible exact H2_) | (have H2_ := (Option.bind_some _ _).symm.trans H; with_reducible exact H2_) | with_reducible exact H | (rw [hy291]; exact H) | exact H
         have Ny291 := Zd.mk hy291
         clear hy291
         replace H := Option.bind_eq_some_iff.mp H
         obtain ⟨t294, A450, H⟩ := H
         replace H : (if t294 > 0 then ((parrylaw24_awake.f).bind fun t295 => (some t295)) else ((parryref22_May.f k1 a0_0 a0_1 l0_2).bind fun t296 => (if t296 = 0 then ((search_Find.f y276 y291 x270002_1 a0_0 a0_1 l0_2).bind fun bt297 => ((search_All.f y276 y291 x270002_1 a0_0 a0_1 l0_2).bind fun bt305 => ((formula_Holds.f a0_0 a0_1 l0_2 l1 l2).bind fun t307 => (if bt297.2.2.2 = 0 then (if bt305.2 = 0 then (if (bt297.2.2.1 == t307) = true then (if (bt305.1 == t307) = true then ((parrylaw24_awake.f).bind fun t308 => (some t308)) else (some false)) else (some false)) else (some false)) else (some false))))) else ((parrylaw24_awake.f).bind fun t309 => (some t309))))) = some r := H
         have A45 := Zd.mk A450
         clear A450
         by_cases c46 : t294 > 0
         ·rw [if_pos c46] at H
          have c46b0 : decide (0 < t294) = true := decide_eq_true c46
          clear c46
          replace H := Option.bind_eq_some_iff.mp H
          obtain ⟨t295, A470, H⟩ := H
          replace H : (some t295) = some r := H
          have A47 := Zd.mk A470
          clear A470
          obtain rfl := Option.some.inj H
          go_wp2_with (first | ((with_reducible refine gate_dst (N := 59) rfl ?_); (try (refine gate_guard (by rfl) ?_; dsimp only)); refine Kd.R_lit (Kd.int .i64) _ 3 ?hg (N := 59) ?hd (xs := ([0] : List Int)) (inner := [.int .i64 0]) (ok := fun _ => True) (okp := fun _ => True) ?hr ?hp (fun _ hk => hk) trivial (Below.refl _ _) (Nat.le_refl _) (by simp) ?_; (case hd => rfl); (case hg => rfl); (case hr => first | (go_simp; done) | (go_simp; rfl)); (case hp => exact (Reps.one (show Kd.M (Kd.int .i64) _ _ _ 0 [.int .i64 0] from rfl) (Reps.none _ _))); intro v292 w48 ho49 hb hg_ hnew_; clear hg_ hnew_; (first | rw [← Ny291.out] at ho49 | (simp only [Int.reduceToNat] at ho49; rw [← Ny291.out] at ho49)); have n0_ := Zd.mk (Kd.R_below (by (with_reducible repeat (first | apply Kd.R_alloc | apply Kd.R_drewN | apply Kd.R_drew)); exact HO_8.out) hb); have n1_ := Zd.mk (Kd.S_elder' (by (with_reducible repeat (first | apply Kd.S_alloc | apply Kd.S_drewN | apply Kd.S_drew)); exact HO_270002.out) (Kd.R_base ho49) hb); have n2_ := Zd.mk (Kd.R_lower ho49 (bs_ B_)); have n3_ := Zd.mk (bb_ (g := gb265) (o := .cells #[.int .i64 a0_0, .int .i64 a0_1, .slice A0_2 l0_2.length c0_2] 29 (0, 0)) K_ hb); have n4_ := Zd.mk (bb_ (g := gb269) (o := .cells #[.slice none 0 0, .slice none 0 0, u270002] 26 (0, 0)) K_ hb); have n5_ := Zd.mk (bt_ B_ hb); clear HO_8; clear HO_270002; clear BK265; clear BK269; clear HB; have HO_8 := n0_; have HO_270002 := n1_; have HO293 := n2_; have BK265 := n3_; have BK269 := n4_; have HB := n5_; clear n0_ n1_ n2_ n3_ n4_ n5_; clear hb ho49; have hnb50 := NB269_265.out; have hnc50 := NB265_269.out; have hcz51_0 : w48.cell? ⟨gb269, 0, none⟩ = some (.slice none 0 0) := (bq_ BK269.out 0).trans rfl; have hcz51_1 : w48.cell? ⟨gb269, 1, none⟩ = some (.slice none 0 0) := (bq_ BK269.out 1).trans rfl; have hcz51_2 : w48.cell? ⟨gb269, 2, none⟩ = some (u270002) := (bq_ BK269.out 2).trans rfl; have hfz51_0 := bz_ BK269.out 0; have hfz51_1 := bz_ BK269.out 1; have hfz51_2 := bz_ BK269.out 2; obtain ⟨Ao52, co52, eo52⟩ := Kd.R_slice HO293.out; subst eo52; have hcz53_0 : w48.cell? ⟨gb265, 0, none⟩ = some (.int .i64 a0_0) := (bq_ BK265.out 0).trans rfl; have hcz53_1 : w48.cell? ⟨gb265, 1, none⟩ = some (.int .i64 a0_1) := (bq_ BK265.out 1).trans rfl; have hcz53_2 : w48.cell? ⟨gb265, 2, none⟩ = some (.slice A0_2 l0_2.length c0_2) := (bq_ BK265.out 2).trans rfl; have hfz53_0 := bz_ BK265.out 0; have hfz53_1 := bz_ BK265.out 1; have hfz53_2 := bz_ BK265.out 2; obtain ⟨Ao54, co54, eo54⟩ := Kd.S_slice HO_270002.out; subst eo54) | ((with_reducible refine gate_callee (f := 7) rfl ?_); refine goesL_ (some 64) rfl rfl Try.func7 (by kernel_rfl) rfl #[.agg #[.slice Ao24 y276.length co24, .slice Ao52 y291.length co52, .slice Ao54 x270002_1.length co54], .agg #[.int .i64 a0_0, .int .i64 a0_1, .slice A0_2 l0_2.length c0_2]] rfl (by (try simp only [List.map_toArray, List.map_cons, List.map_nil]); first | done | rfl | (simp only [List.length_drop, List.length_take]; rfl)) ?_; (with_reducible refine (parrylaw24_Heavy.calls k1 _ _ y276 _ _ y291 _ _ x270002_1 a0_0 a0_1 _ _ l0_2 t294 _ ?side1 ?side2 ?side3 ?side4 ?side5 ?side6 ?side7 ?side8 A45.out).mono ?_); (case side1 => refine (Kd.R_reads' (e := 48) (base := w.heap.size) (ok := fun k_ => True) (n := y276.length) (c := co24) ?_).2.2; exact (by (with_reducible repeat (first | apply Kd.R_alloc | apply Kd.R_drewN | apply Kd.R_drew)); exact (Kd.R_mono (Kd.R_far (p := ⟨gb269, 1, none⟩) (Kd.R_far (p := ⟨gb269, 0, none⟩) (Kd.R_types HO_8.out BK269.out (by decide)) (fun _ hk => hk.2) (.slice Ao24 y276.length co24)) (fun _ hk => hk.2) (.slice Ao52 y291.length co52)) (fun _ h_ => h_.1)))); (case side2 => exact (Kd.R_reads' HO_8.out).2.1); (case side3 => refine (Kd.R_reads' (e := 3) (base := w.heap.size) (ok := fun k_ => True) (n := y291.length) (c := co52) ?_).2.2; exact (by (with_reducible repeat (first | apply Kd.R_alloc | apply Kd.R_drewN | apply Kd.R_drew)); exact (Kd.R_mono (Kd.R_far (p := ⟨gb269, 1, none⟩) (Kd.R_far (p := ⟨gb269, 0, none⟩) (Kd.R_types HO293.out BK269.out (by decide)) (fun _ hk => hk.2) (.slice Ao24 y276.length co24)) (fun _ hk => hk.2) (.slice Ao52 y291.length co52)) (fun _ h_ => h_.1)))); (case side4 => exact (Kd.R_reads' HO293.out).2.1); (case side5 => refine (Kd.S_reads' (e := 23) (base := w.heap.size) (ok := fun k_ => (True ∧ some k_ ≠ (.slice Ao52 y291.length co52 : Value).ownBlock)) (n := x270002_1.length) (c := co54) ?_).2.2; exact (by (with_reducible repeat (first | apply Kd.S_alloc | apply Kd.S_drewN | apply Kd.S_drew)); exact (Kd.S_mono (Kd.S_far (p := ⟨gb269, 1, none⟩) (Kd.S_far (p := ⟨gb269, 0, none⟩) (Kd.S_types HO_270002.out BK269.out (by decide)) (fun _ hk => hk.2) (.slice Ao24 y276.length co24)) (fun _ hk => hk.2) (.slice Ao52 y291.length co52)) (fun _ h_ => h_.1)))); (case side6 => exact (Kd.S_reads' HO_270002.out).2.1); (case side7 => exact Kd.C_below HR0_2.out B_); (case side8 => exact HC0_2.out); rintro e w55 ⟨rfl, hb⟩; refine ⟨_, rfl, ?_⟩; have n0_ := Zd.mk (Kd.R_below (by (with_reducible repeat (first | apply Kd.R_alloc | apply Kd.R_drewN | apply Kd.R_drew)); exact (Kd.R_mono (Kd.R_far (p := ⟨gb269, 1, none⟩) (Kd.R_far (p := ⟨gb269, 0, none⟩) (Kd.R_types HO_8.out BK269.out (by decide)) (fun _ hk => hk.2) (.slice Ao24 y276.length co24)) (fun _ hk => hk.2) (.slice Ao52 y291.length co52)) (fun _ h_ => h_.1))) hb); have n1_ := Zd.mk (Kd.S_below (by (with_reducible repeat (first | apply Kd.S_alloc | apply Kd.S_drewN | apply Kd.S_drew)); exact (Kd.S_mono (Kd.S_far (p := ⟨gb269, 1, none⟩) (Kd.S_far (p := ⟨gb269, 0, none⟩) (Kd.S_types HO_270002.out BK269.out (by decide)) (fun _ hk => hk.2) (.slice Ao24 y276.length co24)) (fun _ hk => hk.2) (.slice Ao52 y291.length co52)) (fun _ h_ => h_.1))) hb); have n2_ := Zd.mk (Kd.R_below (by (with_reducible repeat (first | apply Kd.R_alloc | apply Kd.R_drewN | apply Kd.R_drew)); exact (Kd.R_mono (Kd.R_far (p := ⟨gb269, 1, none⟩) (Kd.R_far (p := ⟨gb269, 0, none⟩) (Kd.R_types HO293.out BK269.out (by decide)) (fun _ hk => hk.2) (.slice Ao24 y276.length co24)) (fun _ hk => hk.2) (.slice Ao52 y291.length co52)) (fun _ h_ => h_.1))) hb); have n3_ := Zd.mk (bb_ (g := gb265) (o := .cells #[.int .i64 a0_0, .int .i64 a0_1, .slice A0_2 l0_2.length c0_2] 29 (0, 0)) (by (with_reducible repeat (first | refine bd_ ?_ _ | refine blk_drew ?_ | refine ba_ ?_ _)); refine blk_far ?_ NB265_269.out _; (with_reducible repeat (first | refine bd_ ?_ _ | refine blk_drew ?_ | refine ba_ ?_ _)); refine blk_far ?_ NB265_269.out _; (with_reducible repeat (first | refine bd_ ?_ _ | refine blk_drew ?_ | refine ba_ ?_ _)); exact BK265.out) hb); have n4_ := Zd.mk (bb_ (g := gb269) (o := .cells #[.slice Ao24 y276.length co24, .slice Ao52 y291.length co52, .slice Ao54 x270002_1.length co54] 26 (0, 0)) (by (with_reducible repeat (first | refine bd_ ?_ _ | refine blk_drew ?_ | refine ba_ ?_ _)); refine blk_put (cs := #[.slice Ao24 y276.length co24, .slice none 0 0, .slice Ao54 x270002_1.length co54]) ?_ 1 _ rfl; (with_reducible repeat (first | refine bd_ ?_ _ | refine blk_drew ?_ | refine ba_ ?_ _)); refine blk_put (cs := #[.slice none 0 0, .slice none 0 0, .slice Ao54 x270002_1.length co54]) ?_ 0 _ rfl; (with_reducible repeat (first | refine bd_ ?_ _ | refine blk_drew ?_ | refine ba_ ?_ _)); exact BK269.out) hb); have n5_ := Zd.mk (bt_ B_ hb); clear HO_8; clear HO_270002; clear HO293; clear BK265; clear BK269; clear HB; have HO_8 := n0_; have HO_270002 := n1_; have HO293 := n2_; have BK265 := n3_; have BK269 := n4_; have HB := n5_; clear n0_ n1_ n2_ n3_ n4_ n5_; (try clear hb); (try clear hb2); (try clear hk); (try clear hi)) | ((with_reducible refine gate_callee (f := 10) rfl ?_); refine goesL_ (some 71) rfl rfl Try.func10 (by kernel_rfl) rfl #[] rfl (by (try simp only [List.map_toArray, List.map_cons, List.map_nil]); first | done | rfl | (simp only [List.length_drop, List.length_take]; rfl)) ?_; (with_reducible refine (parrylaw24_awake.calls  t295 _ A47.out).mono ?_); rintro e w56 ⟨rfl, hb⟩; refine ⟨_, rfl, ?_⟩; have n0_ := Zd.mk (Kd.R_below (by (with_reducible repeat (first | apply Kd.R_alloc | apply Kd.R_drewN | apply Kd.R_drew)); exact HO_8.out) hb); have n1_ := Zd.mk (Kd.S_below (by (with_reducible repeat (first | apply Kd.S_alloc | apply Kd.S_drewN | apply Kd.S_drew)); exact HO_270002.out) hb); have n2_ := Zd.mk (Kd.R_below (by (with_reducible repeat (first | apply Kd.R_alloc | apply Kd.R_drewN | apply Kd.R_drew)); exact HO293.out) hb); have n3_ := Zd.mk (bb_ (g := gb265) (o := .cells #[.int .i64 a0_0, .int .i64 a0_1, .slice A0_2 l0_2.length c0_2] 29 (0, 0)) K_ hb); have n4_ := Zd.mk (bb_ (g := gb269) (o := .cells #[.slice Ao24 y276.length co24, .slice Ao52 y291.length co52, .slice Ao54 x270002_1.length co54] 26 (0, 0)) K_ hb); have n5_ := Zd.mk (bt_ B_ hb); clear HO_8; clear HO_270002; clear HO293; clear BK265; clear BK269; clear HB; have HO_8 := n0_; have HO_270002 := n1_; have HO293 := n2_; have BK265 := n3_; have BK269 := n4_; have HB := n5_; clear n0_ n1_ n2_ n3_ n4_ n5_; (try clear hb); (try clear hb2); (try clear hk); (try clear hi)))
          go_ret
          exact ⟨by first | rfl | (simp [errW_none, errW_some] <;> rfl) | (simp [*, errW_none, errW_some] <;> rfl), B_⟩
         ·rw [if_neg c46] at H
          have c46b0 : decide (0 < t294) = false := decide_eq_false c46
          clear c46
          replace H := Option.bind_eq_some_iff.mp H
          obtain ⟨t296, A570, H⟩ := H
          replace H : (if t296 = 0 then ((search_Find.f y276 y291 x270002_1 a0_0 a0_1 l0_2).bind fun bt297 => ((search_All.f y276 y291 x270002_1 a0_0 a0_1 l0_2).bind fun bt305 => ((formula_Holds.f a0_0 a0_1 l0_2 l1 l2).bind fun t307 => (if bt297.2.2.2 = 0 then (if bt305.2 = 0 then (if (bt297.2.2.1 == t307) = true then (if (bt305.1 == t307) = true then ((parrylaw24_awake.f).bind fun t308 => (some t308)) else (some false)) else (some false)) else (some false)) else (some false))))) else ((parrylaw24_awake.f).bind fun t309 => (some t309))) = some r := H
          have A57 := Zd.mk A570
          clear A570
          by_cases c58 : t296 = 0
          ·rw [if_pos c58] at H
           have c58b0 : (t296 == 0) = true := beq_iff_eq.mpr c58
           have c58b1 : (t296 != 0) = false := bne_eq_false_iff_eq.mpr c58
           clear c58
           replace H := Option.bind_eq_some_iff.mp H
           obtain ⟨⟨t297, t300, t303, t304⟩, A590, H⟩ := H
           replace H : ((search_All.f y276 y291 x270002_1 a0_0 a0_1 l0_2).bind fun bt305 => ((formula_Holds.f a0_0 a0_1 l0_2 l1 l2).bind fun t307 => (if t304 = 0 then (if bt305.2 = 0 then (if (t303 == t307) = true then (if (bt305.1 == t307) = true then ((parrylaw24_awake.f).bind fun t308 => (some t308)) else (some false)) else (some false)) else (some false)) else (some false)))) = some r := H
           have A59 := Zd.mk A590
           clear A590
           replace H := Option.bind_eq_some_iff.mp H
           obtain ⟨⟨t305, t306⟩, A600, H⟩ := H
           replace H : ((formula_Holds.f a0_0 a0_1 l0_2 l1 l2).bind fun t307 => (if t304 = 0 then (if t306 = 0 then (if (t303 == t307) = true then (if (t305 == t307) = true then ((parrylaw24_awake.f).bind fun t308 => (some t308)) else (some false)) else (some false)) else (some false)) else (some false))) = some r := H
           have A60 := Zd.mk A600
           clear A600
           replace H := Option.bind_eq_some_iff.mp H
           obtain ⟨t307, A610, H⟩ := H
           replace H : (if t304 = 0 then (if t306 = 0 then (if (t303 == t307) = true then (if (t305 == t307) = true then ((parrylaw24_awake.f).bind fun t308 => (some t308)) else (some false)) else (some false)) else (some false)) else (some false)) = some r := H
           have A61 := Zd.mk A610
           clear A610
           by_cases c62 : t304 = 0
           ·rw [if_pos c62] at H
            have c62b0 : (t304 == 0) = true := beq_iff_eq.mpr c62
            have c62b1 : (t304 != 0) = false := bne_eq_false_iff_eq.mpr c62
            clear c62
            by_cases c63 : t306 = 0
            ·rw [if_pos c63] at H
             have c63b0 : (t306 == 0) = true := beq_iff_eq.mpr c63
             have c63b1 : (t306 != 0) = false := bne_eq_false_iff_eq.mpr c63
             clear c63
             by_cases c64 : (t303 == t307) = true
             ·rw [if_pos c64] at H
              have c64b0 : (t303 == t307) = true := c64
              (try (have c64b1 : decide (t303 = t307) = true := by simpa using c64))
              (try (have c64b2 : (t303 == t307) = true := by simpa using c64))
              clear c64
              by_cases c65 : (t305 == t307) = true
              ·rw [if_pos c65] at H
               have c65b0 : (t305 == t307) = true := c65
               (try (have c65b1 : decide (t305 = t307) = true := by simpa using c65))
               (try (have c65b2 : (t305 == t307) = true := by simpa using c65))
               clear c65
               replace H := Option.bind_eq_some_iff.mp H
               obtain ⟨t308, A660, H⟩ := H
               replace H : (some t308) = some r := H
               have A66 := Zd.mk A660
               clear A660
               obtain rfl := Option.some.inj H
               go_wp2_with (first | ((with_reducible refine gate_dst (N := 59) rfl ?_); (try (refine gate_guard (by rfl) ?_; dsimp only)); refine Kd.R_lit (Kd.int .i64) _ 3 ?hg (N := 59) ?hd (xs := ([0] : List Int)) (inner := [.int .i64 0]) (ok := fun _ => True) (okp := fun _ => True) ?hr ?hp (fun _ hk => hk) trivial (Below.refl _ _) (Nat.le_refl _) (by simp) ?_; (case hd => rfl); (case hg => rfl); (case hr => first | (go_simp; done) | (go_simp; rfl)); (case hp => exact (Reps.one (show Kd.M (Kd.int .i64) _ _ _ 0 [.int .i64 0] from rfl) (Reps.none _ _))); intro v292 w67 ho68 hb hg_ hnew_; clear hg_ hnew_; (first | rw [← Ny291.out] at ho68 | (simp only [Int.reduceToNat] at ho68; rw [← Ny291.out] at ho68)); have n0_ := Zd.mk (Kd.R_below (by (with_reducible repeat (first | apply Kd.R_alloc | apply Kd.R_drewN | apply Kd.R_drew)); exact HO_8.out) hb); have n1_ := Zd.mk (Kd.S_elder' (by (with_reducible repeat (first | apply Kd.S_alloc | apply Kd.S_drewN | apply Kd.S_drew)); exact HO_270002.out) (Kd.R_base ho68) hb); have n2_ := Zd.mk (Kd.R_lower ho68 (bs_ B_)); have n3_ := Zd.mk (bb_ (g := gb265) (o := .cells #[.int .i64 a0_0, .int .i64 a0_1, .slice A0_2 l0_2.length c0_2] 29 (0, 0)) K_ hb); have n4_ := Zd.mk (bb_ (g := gb269) (o := .cells #[.slice none 0 0, .slice none 0 0, u270002] 26 (0, 0)) K_ hb); have n5_ := Zd.mk (bt_ B_ hb); clear HO_8; clear HO_270002; clear BK265; clear BK269; clear HB; have HO_8 := n0_; have HO_270002 := n1_; have HO293 := n2_; have BK265 := n3_; have BK269 := n4_; have HB := n5_; clear n0_ n1_ n2_ n3_ n4_ n5_; clear hb ho68; have hnb69 := NB269_265.out; have hnc69 := NB265_269.out; have hcz70_0 : w67.cell? ⟨gb269, 0, none⟩ = some (.slice none 0 0) := (bq_ BK269.out 0).trans rfl; have hcz70_1 : w67.cell? ⟨gb269, 1, none⟩ = some (.slice none 0 0) := (bq_ BK269.out 1).trans rfl; have hcz70_2 : w67.cell? ⟨gb269, 2, none⟩ = some (u270002) := (bq_ BK269.out 2).trans rfl; have hfz70_0 := bz_ BK269.out 0; have hfz70_1 := bz_ BK269.out 1; have hfz70_2 := bz_ BK269.out 2; obtain ⟨Ao71, co71, eo71⟩ := Kd.R_slice HO293.out; subst eo71; have hcz72_0 : w67.cell? ⟨gb265, 0, none⟩ = some (.int .i64 a0_0) := (bq_ BK265.out 0).trans rfl; have hcz72_1 : w67.cell? ⟨gb265, 1, none⟩ = some (.int .i64 a0_1) := (bq_ BK265.out 1).trans rfl; have hcz72_2 : w67.cell? ⟨gb265, 2, none⟩ = some (.slice A0_2 l0_2.length c0_2) := (bq_ BK265.out 2).trans rfl; have hfz72_0 := bz_ BK265.out 0; have hfz72_1 := bz_ BK265.out 1; have hfz72_2 := bz_ BK265.out 2; obtain ⟨Ao73, co73, eo73⟩ := Kd.S_slice HO_270002.out; subst eo73) | ((with_reducible refine gate_callee (f := 7) rfl ?_); refine goesL_ (some 64) rfl rfl Try.func7 (by kernel_rfl) rfl #[.agg #[.slice Ao24 y276.length co24, .slice Ao71 y291.length co71, .slice Ao73 x270002_1.length co73], .agg #[.int .i64 a0_0, .int .i64 a0_1, .slice A0_2 l0_2.length c0_2]] rfl (by (try simp only [List.map_toArray, List.map_cons, List.map_nil]); first | done | rfl | (simp only [List.length_drop, List.length_take]; rfl)) ?_; (with_reducible refine (parrylaw24_Heavy.calls k1 _ _ y276 _ _ y291 _ _ x270002_1 a0_0 a0_1 _ _ l0_2 t294 _ ?side1 ?side2 ?side3 ?side4 ?side5 ?side6 ?side7 ?side8 A45.out).mono ?_); (case side1 => refine (Kd.R_reads' (e := 48) (base := w.heap.size) (ok := fun k_ => True) (n := y276.length) (c := co24) ?_).2.2; exact (by (with_reducible repeat (first | apply Kd.R_alloc | apply Kd.R_drewN | apply Kd.R_drew)); exact (Kd.R_mono (Kd.R_far (p := ⟨gb269, 1, none⟩) (Kd.R_far (p := ⟨gb269, 0, none⟩) (Kd.R_types HO_8.out BK269.out (by decide)) (fun _ hk => hk.2) (.slice Ao24 y276.length co24)) (fun _ hk => hk.2) (.slice Ao71 y291.length co71)) (fun _ h_ => h_.1)))); (case side2 => exact (Kd.R_reads' HO_8.out).2.1); (case side3 => refine (Kd.R_reads' (e := 3) (base := w.heap.size) (ok := fun k_ => True) (n := y291.length) (c := co71) ?_).2.2; exact (by (with_reducible repeat (first | apply Kd.R_alloc | apply Kd.R_drewN | apply Kd.R_drew)); exact (Kd.R_mono (Kd.R_far (p := ⟨gb269, 1, none⟩) (Kd.R_far (p := ⟨gb269, 0, none⟩) (Kd.R_types HO293.out BK269.out (by decide)) (fun _ hk => hk.2) (.slice Ao24 y276.length co24)) (fun _ hk => hk.2) (.slice Ao71 y291.length co71)) (fun _ h_ => h_.1)))); (case side4 => exact (Kd.R_reads' HO293.out).2.1); (case side5 => refine (Kd.S_reads' (e := 23) (base := w.heap.size) (ok := fun k_ => (True ∧ some k_ ≠ (.slice Ao71 y291.length co71 : Value).ownBlock)) (n := x270002_1.length) (c := co73) ?_).2.2; exact (by (with_reducible repeat (first | apply Kd.S_alloc | apply Kd.S_drewN | apply Kd.S_drew)); exact (Kd.S_mono (Kd.S_far (p := ⟨gb269, 1, none⟩) (Kd.S_far (p := ⟨gb269, 0, none⟩) (Kd.S_types HO_270002.out BK269.out (by decide)) (fun _ hk => hk.2) (.slice Ao24 y276.length co24)) (fun _ hk => hk.2) (.slice Ao71 y291.length co71)) (fun _ h_ => h_.1)))); (case side6 => exact (Kd.S_reads' HO_270002.out).2.1); (case side7 => exact Kd.C_below HR0_2.out B_); (case side8 => exact HC0_2.out); rintro e w74 ⟨rfl, hb⟩; refine ⟨_, rfl, ?_⟩; have n0_ := Zd.mk (Kd.R_below (by (with_reducible repeat (first | apply Kd.R_alloc | apply Kd.R_drewN | apply Kd.R_drew)); exact (Kd.R_mono (Kd.R_far (p := ⟨gb269, 1, none⟩) (Kd.R_far (p := ⟨gb269, 0, none⟩) (Kd.R_types HO_8.out BK269.out (by decide)) (fun _ hk => hk.2) (.slice Ao24 y276.length co24)) (fun _ hk => hk.2) (.slice Ao71 y291.length co71)) (fun _ h_ => h_.1))) hb); have n1_ := Zd.mk (Kd.S_below (by (with_reducible repeat (first | apply Kd.S_alloc | apply Kd.S_drewN | apply Kd.S_drew)); exact (Kd.S_mono (Kd.S_far (p := ⟨gb269, 1, none⟩) (Kd.S_far (p := ⟨gb269, 0, none⟩) (Kd.S_types HO_270002.out BK269.out (by decide)) (fun _ hk => hk.2) (.slice Ao24 y276.length co24)) (fun _ hk => hk.2) (.slice Ao71 y291.length co71)) (fun _ h_ => h_.1))) hb); have n2_ := Zd.mk (Kd.R_below (by (with_reducible repeat (first | apply Kd.R_alloc | apply Kd.R_drewN | apply Kd.R_drew)); exact (Kd.R_mono (Kd.R_far (p := ⟨gb269, 1, none⟩) (Kd.R_far (p := ⟨gb269, 0, none⟩) (Kd.R_types HO293.out BK269.out (by decide)) (fun _ hk => hk.2) (.slice Ao24 y276.length co24)) (fun _ hk => hk.2) (.slice Ao71 y291.length co71)) (fun _ h_ => h_.1))) hb); have n3_ := Zd.mk (bb_ (g := gb265) (o := .cells #[.int .i64 a0_0, .int .i64 a0_1, .slice A0_2 l0_2.length c0_2] 29 (0, 0)) (by (with_reducible repeat (first | refine bd_ ?_ _ | refine blk_drew ?_ | refine ba_ ?_ _)); refine blk_far ?_ NB265_269.out _; (with_reducible repeat (first | refine bd_ ?_ _ | refine blk_drew ?_ | refine ba_ ?_ _)); refine blk_far ?_ NB265_269.out _; (with_reducible repeat (first | refine bd_ ?_ _ | refine blk_drew ?_ | refine ba_ ?_ _)); exact BK265.out) hb); have n4_ := Zd.mk (bb_ (g := gb269) (o := .cells #[.slice Ao24 y276.length co24, .slice Ao71 y291.length co71, .slice Ao73 x270002_1.length co73] 26 (0, 0)) (by (with_reducible repeat (first | refine bd_ ?_ _ | refine blk_drew ?_ | refine ba_ ?_ _)); refine blk_put (cs := #[.slice Ao24 y276.length co24, .slice none 0 0, .slice Ao73 x270002_1.length co73]) ?_ 1 _ rfl; (with_reducible repeat (first | refine bd_ ?_ _ | refine blk_drew ?_ | refine ba_ ?_ _)); refine blk_put (cs := #[.slice none 0 0, .slice none 0 0, .slice Ao73 x270002_1.length co73]) ?_ 0 _ rfl; (with_reducible repeat (first | refine bd_ ?_ _ | refine blk_drew ?_ | refine ba_ ?_ _)); exact BK269.out) hb); have n5_ := Zd.mk (bt_ B_ hb); clear HO_8; clear HO_270002; clear HO293; clear BK265; clear BK269; clear HB; have HO_8 := n0_; have HO_270002 := n1_; have HO293 := n2_; have BK265 := n3_; have BK269 := n4_; have HB := n5_; clear n0_ n1_ n2_ n3_ n4_ n5_; (try clear hb); (try clear hb2); (try clear hk); (try clear hi); have hcz75_0 : w74.cell? ⟨gb265, 0, none⟩ = some (.int .i64 a0_0) := (bq_ BK265.out 0).trans rfl; have hcz75_1 : w74.cell? ⟨gb265, 1, none⟩ = some (.int .i64 a0_1) := (bq_ BK265.out 1).trans rfl; have hcz75_2 : w74.cell? ⟨gb265, 2, none⟩ = some (.slice A0_2 l0_2.length c0_2) := (bq_ BK265.out 2).trans rfl; have hfz75_0 := bz_ BK265.out 0; have hfz75_1 := bz_ BK265.out 1; have hfz75_2 := bz_ BK265.out 2) | (go_at_call 17; (with_reducible refine (parryref22_May.calls k1 a0_0 a0_1 _ _ l0_2 t296 _ ?side1 ?side2 A57.out).mono ?_); (case side1 => exact Kd.C_below HR0_2.out B_); (case side2 => exact HC0_2.out); rintro e w76 ⟨rfl, hb⟩; have n0_ := Zd.mk (Kd.R_below (by (with_reducible repeat (first | apply Kd.R_alloc | apply Kd.R_drewN | apply Kd.R_drew)); exact HO_8.out) hb); have n1_ := Zd.mk (Kd.S_below (by (with_reducible repeat (first | apply Kd.S_alloc | apply Kd.S_drewN | apply Kd.S_drew)); exact HO_270002.out) hb); have n2_ := Zd.mk (Kd.R_below (by (with_reducible repeat (first | apply Kd.R_alloc | apply Kd.R_drewN | apply Kd.R_drew)); exact HO293.out) hb); have n3_ := Zd.mk (bb_ (g := gb265) (o := .cells #[.int .i64 a0_0, .int .i64 a0_1, .slice A0_2 l0_2.length c0_2] 29 (0, 0)) K_ hb); have n4_ := Zd.mk (bb_ (g := gb269) (o := .cells #[.slice Ao24 y276.length co24, .slice Ao71 y291.length co71, .slice Ao73 x270002_1.length co73] 26 (0, 0)) K_ hb); have n5_ := Zd.mk (bt_ B_ hb); clear HO_8; clear HO_270002; clear HO293; clear BK265; clear BK269; clear HB; have HO_8 := n0_; have HO_270002 := n1_; have HO293 := n2_; have BK265 := n3_; have BK269 := n4_; have HB := n5_; clear n0_ n1_ n2_ n3_ n4_ n5_; (try clear hb); (try clear hb2); (try clear hk); (try clear hi); have hcz77_0 : w76.cell? ⟨gb269, 0, none⟩ = some (.slice Ao24 y276.length co24) := (bq_ BK269.out 0).trans rfl; have hcz77_1 : w76.cell? ⟨gb269, 1, none⟩ = some (.slice Ao71 y291.length co71) := (bq_ BK269.out 1).trans rfl; have hcz77_2 : w76.cell? ⟨gb269, 2, none⟩ = some (.slice Ao73 x270002_1.length co73) := (bq_ BK269.out 2).trans rfl; have hfz77_0 := bz_ BK269.out 0; have hfz77_1 := bz_ BK269.out 1; have hfz77_2 := bz_ BK269.out 2; have hcz78_0 : w76.cell? ⟨gb265, 0, none⟩ = some (.int .i64 a0_0) := (bq_ BK265.out 0).trans rfl; have hcz78_1 : w76.cell? ⟨gb265, 1, none⟩ = some (.int .i64 a0_1) := (bq_ BK265.out 1).trans rfl; have hcz78_2 : w76.cell? ⟨gb265, 2, none⟩ = some (.slice A0_2 l0_2.length c0_2) := (bq_ BK265.out 2).trans rfl; have hfz78_0 := bz_ BK265.out 0; have hfz78_1 := bz_ BK265.out 1; have hfz78_2 := bz_ BK265.out 2) | ((with_reducible refine gate_callee (f := 11) rfl ?_); refine goesL_ (some 75) rfl rfl Try.func11 (by kernel_rfl) rfl #[.agg #[.slice Ao24 y276.length co24, .slice Ao71 y291.length co71, .slice Ao73 x270002_1.length co73], .agg #[.int .i64 a0_0, .int .i64 a0_1, .slice A0_2 l0_2.length c0_2]] rfl (by (try simp only [List.map_toArray, List.map_cons, List.map_nil]); first | done | rfl | (simp only [List.length_drop, List.length_take]; rfl)) ?_; (with_reducible refine (search_Find.calls _ _ y276 _ _ y291 _ _ x270002_1 a0_0 a0_1 _ _ l0_2 t297 t300 t303 t304 _ ?side1 ?side2 ?side3 ?side4 ?side5 ?side6 ?side7 ?side8 A59.out).mono ?_); (case side1 => repeat (first | exact (Kd.R_reads' HO_8.out).2.2 | (with_reducible refine Kd.C_alloc ?_ _) | (with_reducible refine Kd.C_drewN ?_ _) | (with_reducible refine Kd.C_drew ?_))); (case side2 => exact (Kd.R_reads' HO_8.out).2.1); (case side3 => repeat (first | exact (Kd.R_reads' HO293.out).2.2 | (with_reducible refine Kd.C_alloc ?_ _) | (with_reducible refine Kd.C_drewN ?_ _) | (with_reducible refine Kd.C_drew ?_))); (case side4 => exact (Kd.R_reads' HO293.out).2.1); (case side5 => repeat (first | exact (Kd.S_reads' HO_270002.out).2.2 | (with_reducible refine Kd.C_alloc ?_ _) | (with_reducible refine Kd.C_drewN ?_ _) | (with_reducible refine Kd.C_drew ?_))); (case side6 => exact (Kd.S_reads' HO_270002.out).2.1); (case side7 => exact Kd.C_below HR0_2.out B_); (case side8 => exact HC0_2.out); rintro e w79 ⟨v298, v301, rfl, ho0, ho1, hb⟩; refine ⟨_, rfl, ?_⟩; have n0_ := Zd.mk (Kd.R_below (by (with_reducible repeat (first | apply Kd.R_alloc | apply Kd.R_drewN | apply Kd.R_drew)); exact HO_8.out) hb); have n1_ := Zd.mk (Kd.S_mono (Kd.S_told (Kd.S_told (Kd.S_old (by (with_reducible repeat (first | apply Kd.S_alloc | apply Kd.S_drewN | apply Kd.S_drew)); exact HO_270002.out) hb) (Kd.R_base ho0)) (Kd.R_base ho1)) (fun _ h_ => h_.1)); have n2_ := Zd.mk (Kd.R_mono (Kd.R_told (Kd.R_told (Kd.R_old (by (with_reducible repeat (first | apply Kd.R_alloc | apply Kd.R_drewN | apply Kd.R_drew)); exact HO293.out) hb) (Kd.R_base ho0)) (Kd.R_base ho1)) (fun _ h_ => h_.1)); have n3_ := Zd.mk (Kd.R_lower (Kd.R_new' ho0 (Kd.R_lt (by (with_reducible repeat (first | apply Kd.R_alloc | apply Kd.R_drewN | apply Kd.R_drew)); exact HO293.out))) (bs_ B_)); have n4_ := Zd.mk (Kd.R_lower (Kd.R_new' ho1 (Kd.R_lt (by (with_reducible repeat (first | apply Kd.R_alloc | apply Kd.R_drewN | apply Kd.R_drew)); exact HO293.out))) (bs_ B_)); have n5_ := Zd.mk (bb_ (g := gb265) (o := .cells #[.int .i64 a0_0, .int .i64 a0_1, .slice A0_2 l0_2.length c0_2] 29 (0, 0)) K_ hb); have n6_ := Zd.mk (bb_ (g := gb269) (o := .cells #[.slice Ao24 y276.length co24, .slice Ao71 y291.length co71, .slice Ao73 x270002_1.length co73] 26 (0, 0)) K_ hb); have n7_ := Zd.mk (bt_ B_ hb); clear HO_8; clear HO_270002; clear HO293; clear BK265; clear BK269; clear HB; have HO_8 := n0_; have HO_270002 := n1_; have HO293 := n2_; have HO299 := n3_; have HO302 := n4_; have BK265 := n5_; have BK269 := n6_; have HB := n7_; clear n0_ n1_ n2_ n3_ n4_ n5_ n6_ n7_; (try clear hb); (try clear hb2); (try clear hk); (try clear hi); (try clear ho0); (try clear ho1); have hcz80_0 : w79.cell? ⟨gb269, 0, none⟩ = some (.slice Ao24 y276.length co24) := (bq_ BK269.out 0).trans rfl; have hcz80_1 : w79.cell? ⟨gb269, 1, none⟩ = some (.slice Ao71 y291.length co71) := (bq_ BK269.out 1).trans rfl; have hcz80_2 : w79.cell? ⟨gb269, 2, none⟩ = some (.slice Ao73 x270002_1.length co73) := (bq_ BK269.out 2).trans rfl; have hfz80_0 := bz_ BK269.out 0; have hfz80_1 := bz_ BK269.out 1; have hfz80_2 := bz_ BK269.out 2; have hcz81_0 : w79.cell? ⟨gb265, 0, none⟩ = some (.int .i64 a0_0) := (bq_ BK265.out 0).trans rfl; have hcz81_1 : w79.cell? ⟨gb265, 1, none⟩ = some (.int .i64 a0_1) := (bq_ BK265.out 1).trans rfl; have hcz81_2 : w79.cell? ⟨gb265, 2, none⟩ = some (.slice A0_2 l0_2.length c0_2) := (bq_ BK265.out 2).trans rfl; have hfz81_0 := bz_ BK265.out 0; have hfz81_1 := bz_ BK265.out 1; have hfz81_2 := bz_ BK265.out 2) | ((with_reducible refine gate_callee (f := 12) rfl ?_); refine goesL_ (some 83) rfl rfl Try.func12 (by kernel_rfl) rfl #[.agg #[.slice Ao24 y276.length co24, .slice Ao71 y291.length co71, .slice Ao73 x270002_1.length co73], .agg #[.int .i64 a0_0, .int .i64 a0_1, .slice A0_2 l0_2.length c0_2]] rfl (by (try simp only [List.map_toArray, List.map_cons, List.map_nil]); first | done | rfl | (simp only [List.length_drop, List.length_take]; rfl)) ?_; (with_reducible refine (search_All.calls _ _ y276 _ _ y291 _ _ x270002_1 a0_0 a0_1 _ _ l0_2 t305 t306 _ ?side1 ?side2 ?side3 ?side4 ?side5 ?side6 ?side7 ?side8 A60.out).mono ?_); (case side1 => repeat (first | exact (Kd.R_reads' HO_8.out).2.2 | (with_reducible refine Kd.C_alloc ?_ _) | (with_reducible refine Kd.C_drewN ?_ _) | (with_reducible refine Kd.C_drew ?_))); (case side2 => exact (Kd.R_reads' HO_8.out).2.1); (case side3 => repeat (first | exact (Kd.R_reads' HO293.out).2.2 | (with_reducible refine Kd.C_alloc ?_ _) | (with_reducible refine Kd.C_drewN ?_ _) | (with_reducible refine Kd.C_drew ?_))); (case side4 => exact (Kd.R_reads' HO293.out).2.1); (case side5 => repeat (first | exact (Kd.S_reads' HO_270002.out).2.2 | (with_reducible refine Kd.C_alloc ?_ _) | (with_reducible refine Kd.C_drewN ?_ _) | (with_reducible refine Kd.C_drew ?_))); (case side6 => exact (Kd.S_reads' HO_270002.out).2.1); (case side7 => exact Kd.C_below HR0_2.out B_); (case side8 => exact HC0_2.out); rintro e w82 ⟨rfl, hb⟩; refine ⟨_, rfl, ?_⟩; have n0_ := Zd.mk (Kd.R_below (by (with_reducible repeat (first | apply Kd.R_alloc | apply Kd.R_drewN | apply Kd.R_drew)); exact HO_8.out) hb); have n1_ := Zd.mk (Kd.S_below (by (with_reducible repeat (first | apply Kd.S_alloc | apply Kd.S_drewN | apply Kd.S_drew)); exact HO_270002.out) hb); have n2_ := Zd.mk (Kd.R_below (by (with_reducible repeat (first | apply Kd.R_alloc | apply Kd.R_drewN | apply Kd.R_drew)); exact HO293.out) hb); have n3_ := Zd.mk (Kd.R_below (by (with_reducible repeat (first | apply Kd.R_alloc | apply Kd.R_drewN | apply Kd.R_drew)); exact HO299.out) hb); have n4_ := Zd.mk (Kd.R_below (by (with_reducible repeat (first | apply Kd.R_alloc | apply Kd.R_drewN | apply Kd.R_drew)); exact HO302.out) hb); have n5_ := Zd.mk (bb_ (g := gb265) (o := .cells #[.int .i64 a0_0, .int .i64 a0_1, .slice A0_2 l0_2.length c0_2] 29 (0, 0)) K_ hb); have n6_ := Zd.mk (bb_ (g := gb269) (o := .cells #[.slice Ao24 y276.length co24, .slice Ao71 y291.length co71, .slice Ao73 x270002_1.length co73] 26 (0, 0)) K_ hb); have n7_ := Zd.mk (bt_ B_ hb); clear HO_8; clear HO_270002; clear HO293; clear HO299; clear HO302; clear BK265; clear BK269; clear HB; have HO_8 := n0_; have HO_270002 := n1_; have HO293 := n2_; have HO299 := n3_; have HO302 := n4_; have BK265 := n5_; have BK269 := n6_; have HB := n7_; clear n0_ n1_ n2_ n3_ n4_ n5_ n6_ n7_; (try clear hb); (try clear hb2); (try clear hk); (try clear hi); have hcz83_0 : w82.cell? ⟨gb265, 0, none⟩ = some (.int .i64 a0_0) := (bq_ BK265.out 0).trans rfl; have hcz83_1 : w82.cell? ⟨gb265, 1, none⟩ = some (.int .i64 a0_1) := (bq_ BK265.out 1).trans rfl; have hcz83_2 : w82.cell? ⟨gb265, 2, none⟩ = some (.slice A0_2 l0_2.length c0_2) := (bq_ BK265.out 2).trans rfl; have hfz83_0 := bz_ BK265.out 0; have hfz83_1 := bz_ BK265.out 1; have hfz83_2 := bz_ BK265.out 2) | ((with_reducible refine gate_callee (f := 14) rfl ?_); refine goesL_ (some 90) rfl rfl Try.func14 (by kernel_rfl) rfl #[.agg #[.int .i64 a0_0, .int .i64 a0_1, .slice A0_2 l0_2.length c0_2], .agg #[.slice A1 l1.length c1, .slice A2 l2.length c2]] rfl (by (try simp only [List.map_toArray, List.map_cons, List.map_nil]); first | done | rfl | (simp only [List.length_drop, List.length_take]; rfl)) ?_; (with_reducible refine (formula_Holds.calls a0_0 a0_1 _ _ l0_2 _ _ l1 _ _ l2 t307 _ ?side1 ?side2 ?side3 ?side4 ?side5 ?side6 A61.out).mono ?_); (case side1 => exact Kd.C_below HR0_2.out B_); (case side2 => exact HC0_2.out); (case side3 => repeat (first | exact (Kd.C_below HR1.out HB.out) | (with_reducible refine Kd.C_alloc ?_ _) | (with_reducible refine Kd.C_drewN ?_ _) | (with_reducible refine Kd.C_drew ?_))); (case side4 => exact HC1.out); (case side5 => repeat (first | exact (Kd.C_below HR2.out HB.out) | (with_reducible refine Kd.C_alloc ?_ _) | (with_reducible refine Kd.C_drewN ?_ _) | (with_reducible refine Kd.C_drew ?_))); (case side6 => exact HC2.out); rintro e w84 ⟨rfl, hb⟩; refine ⟨_, rfl, ?_⟩; have n0_ := Zd.mk (Kd.R_below (by (with_reducible repeat (first | apply Kd.R_alloc | apply Kd.R_drewN | apply Kd.R_drew)); exact HO_8.out) hb); have n1_ := Zd.mk (Kd.S_below (by (with_reducible repeat (first | apply Kd.S_alloc | apply Kd.S_drewN | apply Kd.S_drew)); exact HO_270002.out) hb); have n2_ := Zd.mk (Kd.R_below (by (with_reducible repeat (first | apply Kd.R_alloc | apply Kd.R_drewN | apply Kd.R_drew)); exact HO293.out) hb); have n3_ := Zd.mk (Kd.R_below (by (with_reducible repeat (first | apply Kd.R_alloc | apply Kd.R_drewN | apply Kd.R_drew)); exact HO299.out) hb); have n4_ := Zd.mk (Kd.R_below (by (with_reducible repeat (first | apply Kd.R_alloc | apply Kd.R_drewN | apply Kd.R_drew)); exact HO302.out) hb); have n5_ := Zd.mk (bb_ (g := gb265) (o := .cells #[.int .i64 a0_0, .int .i64 a0_1, .slice A0_2 l0_2.length c0_2] 29 (0, 0)) K_ hb); have n6_ := Zd.mk (bb_ (g := gb269) (o := .cells #[.slice Ao24 y276.length co24, .slice Ao71 y291.length co71, .slice Ao73 x270002_1.length co73] 26 (0, 0)) K_ hb); have n7_ := Zd.mk (bt_ B_ hb); clear HO_8; clear HO_270002; clear HO293; clear HO299; clear HO302; clear BK265; clear BK269; clear HB; have HO_8 := n0_; have HO_270002 := n1_; have HO293 := n2_; have HO299 := n3_; have HO302 := n4_; have BK265 := n5_; have BK269 := n6_; have HB := n7_; clear n0_ n1_ n2_ n3_ n4_ n5_ n6_ n7_; (try clear hb); (try clear hb2); (try clear hk); (try clear hi)) | (go_at_call 10; (with_reducible refine (parrylaw24_awake.calls  t308 _ A66.out).mono ?_); rintro e w85 ⟨rfl, hb⟩; have n0_ := Zd.mk (Kd.R_below (by (with_reducible repeat (first | apply Kd.R_alloc | apply Kd.R_drewN | apply Kd.R_drew)); exact HO_8.out) hb); have n1_ := Zd.mk (Kd.S_below (by (with_reducible repeat (first | apply Kd.S_alloc | apply Kd.S_drewN | apply Kd.S_drew)); exact HO_270002.out) hb); have n2_ := Zd.mk (Kd.R_below (by (with_reducible repeat (first | apply Kd.R_alloc | apply Kd.R_drewN | apply Kd.R_drew)); exact HO293.out) hb); have n3_ := Zd.mk (Kd.R_below (by (with_reducible repeat (first | apply Kd.R_alloc | apply Kd.R_drewN | apply Kd.R_drew)); exact HO299.out) hb); have n4_ := Zd.mk (Kd.R_below (by (with_reducible repeat (first | apply Kd.R_alloc | apply Kd.R_drewN | apply Kd.R_drew)); exact HO302.out) hb); have n5_ := Zd.mk (bb_ (g := gb265) (o := .cells #[.int .i64 a0_0, .int .i64 a0_1, .slice A0_2 l0_2.length c0_2] 29 (0, 0)) K_ hb); have n6_ := Zd.mk (bb_ (g := gb269) (o := .cells #[.slice Ao24 y276.length co24, .slice Ao71 y291.length co71, .slice Ao73 x270002_1.length co73] 26 (0, 0)) K_ hb); have n7_ := Zd.mk (bt_ B_ hb); clear HO_8; clear HO_270002; clear HO293; clear HO299; clear HO302; clear BK265; clear BK269; clear HB; have HO_8 := n0_; have HO_270002 := n1_; have HO293 := n2_; have HO299 := n3_; have HO302 := n4_; have BK265 := n5_; have BK269 := n6_; have HB := n7_; clear n0_ n1_ n2_ n3_ n4_ n5_ n6_ n7_; (try clear hb); (try clear hb2); (try clear hk); (try clear hi)))
               go_ret
               exact ⟨by first | rfl | (simp [errW_none, errW_some] <;> rfl) | (simp [*, errW_none, errW_some] <;> rfl), B_⟩
              ·rw [if_neg c65] at H
               exact absurd ((Option.some.inj H).trans HRT.out) (by decide)
             ·rw [if_neg c64] at H
              exact absurd ((Option.some.inj H).trans HRT.out) (by decide)
            ·rw [if_neg c63] at H
             exact absurd ((Option.some.inj H).trans HRT.out) (by decide)
           ·rw [if_neg c62] at H
            exact absurd ((Option.some.inj H).trans HRT.out) (by decide)
          ·rw [if_neg c58] at H
           have c58b0 : (t296 == 0) = false := beq_eq_false_iff_ne.mpr c58
           have c58b1 : (t296 != 0) = true := bne_iff_ne.mpr c58
           replace H := Option.bind_eq_some_iff.mp H
           obtain ⟨t309, A860, H⟩ := H
           replace H : (some t309) = some r := H
           have A86 := Zd.mk A860
           clear A860
           obtain rfl := Option.some.inj H
           go_wp2_with (first | ((with_reducible refine gate_dst (N := 59) rfl ?_); (try (refine gate_guard (by rfl) ?_; dsimp only)); refine Kd.R_lit (Kd.int .i64) _ 3 ?hg (N := 59) ?hd (xs := ([0] : List Int)) (inner := [.int .i64 0]) (ok := fun _ => True) (okp := fun _ => True) ?hr ?hp (fun _ hk => hk) trivial (Below.refl _ _) (Nat.le_refl _) (by simp) ?_; (case hd => rfl); (case hg => rfl); (case hr => first | (go_simp; done) | (go_simp; rfl)); (case hp => exact (Reps.one (show Kd.M (Kd.int .i64) _ _ _ 0 [.int .i64 0] from rfl) (Reps.none _ _))); intro v292 w87 ho88 hb hg_ hnew_; clear hg_ hnew_; (first | rw [← Ny291.out] at ho88 | (simp only [Int.reduceToNat] at ho88; rw [← Ny291.out] at ho88)); have n0_ := Zd.mk (Kd.R_below (by (with_reducible repeat (first | apply Kd.R_alloc | apply Kd.R_drewN | apply Kd.R_drew)); exact HO_8.out) hb); have n1_ := Zd.mk (Kd.S_elder' (by (with_reducible repeat (first | apply Kd.S_alloc | apply Kd.S_drewN | apply Kd.S_drew)); exact HO_270002.out) (Kd.R_base ho88) hb); have n2_ := Zd.mk (Kd.R_lower ho88 (bs_ B_)); have n3_ := Zd.mk (bb_ (g := gb265) (o := .cells #[.int .i64 a0_0, .int .i64 a0_1, .slice A0_2 l0_2.length c0_2] 29 (0, 0)) K_ hb); have n4_ := Zd.mk (bb_ (g := gb269) (o := .cells #[.slice none 0 0, .slice none 0 0, u270002] 26 (0, 0)) K_ hb); have n5_ := Zd.mk (bt_ B_ hb); clear HO_8; clear HO_270002; clear BK265; clear BK269; clear HB; have HO_8 := n0_; have HO_270002 := n1_; have HO293 := n2_; have BK265 := n3_; have BK269 := n4_; have HB := n5_; clear n0_ n1_ n2_ n3_ n4_ n5_; clear hb ho88; have hnb89 := NB269_265.out; have hnc89 := NB265_269.out; have hcz90_0 : w87.cell? ⟨gb269, 0, none⟩ = some (.slice none 0 0) := (bq_ BK269.out 0).trans rfl; have hcz90_1 : w87.cell? ⟨gb269, 1, none⟩ = some (.slice none 0 0) := (bq_ BK269.out 1).trans rfl; have hcz90_2 : w87.cell? ⟨gb269, 2, none⟩ = some (u270002) := (bq_ BK269.out 2).trans rfl; have hfz90_0 := bz_ BK269.out 0; have hfz90_1 := bz_ BK269.out 1; have hfz90_2 := bz_ BK269.out 2; obtain ⟨Ao91, co91, eo91⟩ := Kd.R_slice HO293.out; subst eo91; have hcz92_0 : w87.cell? ⟨gb265, 0, none⟩ = some (.int .i64 a0_0) := (bq_ BK265.out 0).trans rfl; have hcz92_1 : w87.cell? ⟨gb265, 1, none⟩ = some (.int .i64 a0_1) := (bq_ BK265.out 1).trans rfl; have hcz92_2 : w87.cell? ⟨gb265, 2, none⟩ = some (.slice A0_2 l0_2.length c0_2) := (bq_ BK265.out 2).trans rfl; have hfz92_0 := bz_ BK265.out 0; have hfz92_1 := bz_ BK265.out 1; have hfz92_2 := bz_ BK265.out 2; obtain ⟨Ao93, co93, eo93⟩ := Kd.S_slice HO_270002.out; subst eo93) | ((with_reducible refine gate_callee (f := 7) rfl ?_); refine goesL_ (some 64) rfl rfl Try.func7 (by kernel_rfl) rfl #[.agg #[.slice Ao24 y276.length co24, .slice Ao91 y291.length co91, .slice Ao93 x270002_1.length co93], .agg #[.int .i64 a0_0, .int .i64 a0_1, .slice A0_2 l0_2.length c0_2]] rfl (by (try simp only [List.map_toArray, List.map_cons, List.map_nil]); first | done | rfl | (simp only [List.length_drop, List.length_take]; rfl)) ?_; (with_reducible refine (parrylaw24_Heavy.calls k1 _ _ y276 _ _ y291 _ _ x270002_1 a0_0 a0_1 _ _ l0_2 t294 _ ?side1 ?side2 ?side3 ?side4 ?side5 ?side6 ?side7 ?side8 A45.out).mono ?_); (case side1 => refine (Kd.R_reads' (e := 48) (base := w.heap.size) (ok := fun k_ => True) (n := y276.length) (c := co24) ?_).2.2; exact (by (with_reducible repeat (first | apply Kd.R_alloc | apply Kd.R_drewN | apply Kd.R_drew)); exact (Kd.R_mono (Kd.R_far (p := ⟨gb269, 1, none⟩) (Kd.R_far (p := ⟨gb269, 0, none⟩) (Kd.R_types HO_8.out BK269.out (by decide)) (fun _ hk => hk.2) (.slice Ao24 y276.length co24)) (fun _ hk => hk.2) (.slice Ao91 y291.length co91)) (fun _ h_ => h_.1)))); (case side2 => exact (Kd.R_reads' HO_8.out).2.1); (case side3 => refine (Kd.R_reads' (e := 3) (base := w.heap.size) (ok := fun k_ => True) (n := y291.length) (c := co91) ?_).2.2; exact (by (with_reducible repeat (first | apply Kd.R_alloc | apply Kd.R_drewN | apply Kd.R_drew)); exact (Kd.R_mono (Kd.R_far (p := ⟨gb269, 1, none⟩) (Kd.R_far (p := ⟨gb269, 0, none⟩) (Kd.R_types HO293.out BK269.out (by decide)) (fun _ hk => hk.2) (.slice Ao24 y276.length co24)) (fun _ hk => hk.2) (.slice Ao91 y291.length co91)) (fun _ h_ => h_.1)))); (case side4 => exact (Kd.R_reads' HO293.out).2.1); (case side5 => refine (Kd.S_reads' (e := 23) (base := w.heap.size) (ok := fun k_ => (True ∧ some k_ ≠ (.slice Ao91 y291.length co91 : Value).ownBlock)) (n := x270002_1.length) (c := co93) ?_).2.2; exact (by (with_reducible repeat (first | apply Kd.S_alloc | apply Kd.S_drewN | apply Kd.S_drew)); exact (Kd.S_mono (Kd.S_far (p := ⟨gb269, 1, none⟩) (Kd.S_far (p := ⟨gb269, 0, none⟩) (Kd.S_types HO_270002.out BK269.out (by decide)) (fun _ hk => hk.2) (.slice Ao24 y276.length co24)) (fun _ hk => hk.2) (.slice Ao91 y291.length co91)) (fun _ h_ => h_.1)))); (case side6 => exact (Kd.S_reads' HO_270002.out).2.1); (case side7 => exact Kd.C_below HR0_2.out B_); (case side8 => exact HC0_2.out); rintro e w94 ⟨rfl, hb⟩; refine ⟨_, rfl, ?_⟩; have n0_ := Zd.mk (Kd.R_below (by (with_reducible repeat (first | apply Kd.R_alloc | apply Kd.R_drewN | apply Kd.R_drew)); exact (Kd.R_mono (Kd.R_far (p := ⟨gb269, 1, none⟩) (Kd.R_far (p := ⟨gb269, 0, none⟩) (Kd.R_types HO_8.out BK269.out (by decide)) (fun _ hk => hk.2) (.slice Ao24 y276.length co24)) (fun _ hk => hk.2) (.slice Ao91 y291.length co91)) (fun _ h_ => h_.1))) hb); have n1_ := Zd.mk (Kd.S_below (by (with_reducible repeat (first | apply Kd.S_alloc | apply Kd.S_drewN | apply Kd.S_drew)); exact (Kd.S_mono (Kd.S_far (p := ⟨gb269, 1, none⟩) (Kd.S_far (p := ⟨gb269, 0, none⟩) (Kd.S_types HO_270002.out BK269.out (by decide)) (fun _ hk => hk.2) (.slice Ao24 y276.length co24)) (fun _ hk => hk.2) (.slice Ao91 y291.length co91)) (fun _ h_ => h_.1))) hb); have n2_ := Zd.mk (Kd.R_below (by (with_reducible repeat (first | apply Kd.R_alloc | apply Kd.R_drewN | apply Kd.R_drew)); exact (Kd.R_mono (Kd.R_far (p := ⟨gb269, 1, none⟩) (Kd.R_far (p := ⟨gb269, 0, none⟩) (Kd.R_types HO293.out BK269.out (by decide)) (fun _ hk => hk.2) (.slice Ao24 y276.length co24)) (fun _ hk => hk.2) (.slice Ao91 y291.length co91)) (fun _ h_ => h_.1))) hb); have n3_ := Zd.mk (bb_ (g := gb265) (o := .cells #[.int .i64 a0_0, .int .i64 a0_1, .slice A0_2 l0_2.length c0_2] 29 (0, 0)) (by (with_reducible repeat (first | refine bd_ ?_ _ | refine blk_drew ?_ | refine ba_ ?_ _)); refine blk_far ?_ NB265_269.out _; (with_reducible repeat (first | refine bd_ ?_ _ | refine blk_drew ?_ | refine ba_ ?_ _)); refine blk_far ?_ NB265_269.out _; (with_reducible repeat (first | refine bd_ ?_ _ | refine blk_drew ?_ | refine ba_ ?_ _)); exact BK265.out) hb); have n4_ := Zd.mk (bb_ (g := gb269) (o := .cells #[.slice Ao24 y276.length co24, .slice Ao91 y291.length co91, .slice Ao93 x270002_1.length co93] 26 (0, 0)) (by (with_reducible repeat (first | refine bd_ ?_ _ | refine blk_drew ?_ | refine ba_ ?_ _)); refine blk_put (cs := #[.slice Ao24 y276.length co24, .slice none 0 0, .slice Ao93 x270002_1.length co93]) ?_ 1 _ rfl; (with_reducible repeat (first | refine bd_ ?_ _ | refine blk_drew ?_ | refine ba_ ?_ _)); refine blk_put (cs := #[.slice none 0 0, .slice none 0 0, .slice Ao93 x270002_1.length co93]) ?_ 0 _ rfl; (with_reducible repeat (first | refine bd_ ?_ _ | refine blk_drew ?_ | refine ba_ ?_ _)); exact BK269.out) hb); have n5_ := Zd.mk (bt_ B_ hb); clear HO_8; clear HO_270002; clear HO293; clear BK265; clear BK269; clear HB; have HO_8 := n0_; have HO_270002 := n1_; have HO293 := n2_; have BK265 := n3_; have BK269 := n4_; have HB := n5_; clear n0_ n1_ n2_ n3_ n4_ n5_; (try clear hb); (try clear hb2); (try clear hk); (try clear hi); have hcz95_0 : w94.cell? ⟨gb265, 0, none⟩ = some (.int .i64 a0_0) := (bq_ BK265.out 0).trans rfl; have hcz95_1 : w94.cell? ⟨gb265, 1, none⟩ = some (.int .i64 a0_1) := (bq_ BK265.out 1).trans rfl; have hcz95_2 : w94.cell? ⟨gb265, 2, none⟩ = some (.slice A0_2 l0_2.length c0_2) := (bq_ BK265.out 2).trans rfl; have hfz95_0 := bz_ BK265.out 0; have hfz95_1 := bz_ BK265.out 1; have hfz95_2 := bz_ BK265.out 2) | (go_at_call 17; (with_reducible refine (parryref22_May.calls k1 a0_0 a0_1 _ _ l0_2 t296 _ ?side1 ?side2 A57.out).mono ?_); (case side1 => exact Kd.C_below HR0_2.out B_); (case side2 => exact HC0_2.out); rintro e w96 ⟨rfl, hb⟩; have n0_ := Zd.mk (Kd.R_below (by (with_reducible repeat (first | apply Kd.R_alloc | apply Kd.R_drewN | apply Kd.R_drew)); exact HO_8.out) hb); have n1_ := Zd.mk (Kd.S_below (by (with_reducible repeat (first | apply Kd.S_alloc | apply Kd.S_drewN | apply Kd.S_drew)); exact HO_270002.out) hb); have n2_ := Zd.mk (Kd.R_below (by (with_reducible repeat (first | apply Kd.R_alloc | apply Kd.R_drewN | apply Kd.R_drew)); exact HO293.out) hb); have n3_ := Zd.mk (bb_ (g := gb265) (o := .cells #[.int .i64 a0_0, .int .i64 a0_1, .slice A0_2 l0_2.length c0_2] 29 (0, 0)) K_ hb); have n4_ := Zd.mk (bb_ (g := gb269) (o := .cells #[.slice Ao24 y276.length co24, .slice Ao91 y291.length co91, .slice Ao93 x270002_1.length co93] 26 (0, 0)) K_ hb); have n5_ := Zd.mk (bt_ B_ hb); clear HO_8; clear HO_270002; clear HO293; clear BK265; clear BK269; clear HB; have HO_8 := n0_; have HO_270002 := n1_; have HO293 := n2_; have BK265 := n3_; have BK269 := n4_; have HB := n5_; clear n0_ n1_ n2_ n3_ n4_ n5_; (try clear hb); (try clear hb2); (try clear hk); (try clear hi)) | ((with_reducible refine gate_callee (f := 10) rfl ?_); refine goesL_ (some 71) rfl rfl Try.func10 (by kernel_rfl) rfl #[] rfl (by (try simp only [List.map_toArray, List.map_cons, List.map_nil]); first | done | rfl | (simp only [List.length_drop, List.length_take]; rfl)) ?_; (with_reducible refine (parrylaw24_awake.calls  t309 _ A86.out).mono ?_); rintro e w97 ⟨rfl, hb⟩; refine ⟨_, rfl, ?_⟩; have n0_ := Zd.mk (Kd.R_below (by (with_reducible repeat (first | apply Kd.R_alloc | apply Kd.R_drewN | apply Kd.R_drew)); exact HO_8.out) hb); have n1_ := Zd.mk (Kd.S_below (by (with_reducible repeat (first | apply Kd.S_alloc | apply Kd.S_drewN | apply Kd.S_drew)); exact HO_270002.out) hb); have n2_ := Zd.mk (Kd.R_below (by (with_reducible repeat (first | apply Kd.R_alloc | apply Kd.R_drewN | apply Kd.R_drew)); exact HO293.out) hb); have n3_ := Zd.mk (bb_ (g := gb265) (o := .cells #[.int .i64 a0_0, .int .i64 a0_1, .slice A0_2 l0_2.length c0_2] 29 (0, 0)) K_ hb); have n4_ := Zd.mk (bb_ (g := gb269) (o := .cells #[.slice Ao24 y276.length co24, .slice Ao91 y291.length co91, .slice Ao93 x270002_1.length co93] 26 (0, 0)) K_ hb); have n5_ := Zd.mk (bt_ B_ hb); clear HO_8; clear HO_270002; clear HO293; clear BK265; clear BK269; clear HB; have HO_8 := n0_; have HO_270002 := n1_; have HO293 := n2_; have BK265 := n3_; have BK269 := n4_; have HB := n5_; clear n0_ n1_ n2_ n3_ n4_ n5_; (try clear hb); (try clear hb2); (try clear hk); (try clear hi)))
           go_ret
           exact ⟨by first | rfl | (simp [errW_none, errW_some] <;> rfl) | (simp [*, errW_none, errW_some] <;> rfl), B_⟩
     ·rw [if_neg c17] at H
      exact absurd H (by simp)
    ·rw [if_neg c16] at H
     exact absurd H (by simp)

end Go.Proofs.Ytapejnikpmfddaa.P
