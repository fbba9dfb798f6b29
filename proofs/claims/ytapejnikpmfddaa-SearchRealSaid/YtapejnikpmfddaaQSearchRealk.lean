/- A part of the claim SearchReal. -/
import Derived.Test.YtapejnikpmfddaaQSearchRealj
set_option linter.unusedVariables false
set_option linter.unusedSimpArgs false
set_option maxHeartbeats 8000000
set_option maxRecDepth 100000
namespace Go.Proofs.Ytapejnikpmfddaa.X
open Go.RowKit Go.Proofs.YtapejnikpmfddaaW.PrintWords Go.Proofs.YtapejnikpmfddaaW.PrintLast Go.Proofs.YtapejnikpmfddaaW.PrintMore
open Go.Proofs.Ytapejnikpmfddaa.P Go.Proofs.Ytapejnikpmfddaa.Evx
mutual
theorem row_all (ls : List Int) (b : Nat) : ∀ s : S29, RowAt ls b s
 | ⟨op, m, kids⟩ => row_calls ls b ⟨op, m, kids⟩ (row_kids ls b kids)
theorem row_kids (ls : List Int) (b : Nat) : ∀ (l : List S29) (k : S29), k ∈ l → RowAt ls b k
 | [], k, hk => by simp at hk
 | a :: r, k, hk => by
  rcases List.mem_cons.1 hk with h | h
  ·rw [h]
   exact row_all ls b a
  ·exact row_kids ls b r k h
end
def wordS (st lp : List Int) : Bool := decide (st.length ≤ 3000 ∧ 1 ≤ lp.length ∧ lp.length ≤ 27000)
theorem mayWord_some (st lp : List Int) : formula_MayWord.f st lp = some (wordS st lp) := by
 unfold formula_MayWord.f wordS
 split
 ·split
  ·congr 1
   rw [decide_eq_decide]
   omega
  ·rw [decide_eq_false]
   omega
 ·rw [decide_eq_false]
  omega
theorem brow_R {w w' : World} {g n : Nat} {l : List Bool} (h : BRow w' g l) (hl : l.length = n) (hg : w.heap.size ≤ g) (hn : n < 1000000000) : Kd.R Kd.bool 4 w' w.heap.size (fun _ => True) (.slice (some ⟨g, 0, none⟩) n n) l := by
 refine Kd.R_of_own ?_ (fun _ _ => trivial)
 rw [hl]
 refine ⟨by simp [encs, hl], .inr ⟨g, n, (boolsOf l).toArray, rfl, hg, h, Nat.le_refl _, by simp [maxLen]; omega, by simp [boolsOf, hl], ?_⟩⟩
 simp [boolsOf, encs, hl]
 rw [List.take_of_length_le (by simp [hl])]
theorem rower_new (w : World) (A : Option Addr) (n c b : Nat) : IsRower (w.alloc (.cells #[.slice A n c, .int .i64 (b : Int)] 95)) w.heap.size A n c b := heap_alloc_new _ _
def rowF (s : S29) (st lp : List Int) : List Bool := if mayF s = 0 ∧ wordS st lp = true then rowS (st ++ lp) st.length s else []
theorem may_sound {s : S29} (h : mayF s = 0) : soundS s = true := by
 unfold mayF at h
 split at h
 ·split at h
  ·assumption
  ·simp at h
 ·simp at h
theorem Row_calls (s : S29) (st lp : List Int) (A : Option Addr) (cp : Nat) (A1 A2 : Option Addr) (c1 c2 : Nat) (w : World) (hr : Kd.C k29 w A s.f2.length s.f2) (hc : s.f2.length ≤ cp) (hr1 : Kd.C (Kd.int .u32) w A1 st.length st) (hc1 : st.length ≤ c1) (hr2 : Kd.C (Kd.int .u32) w A2 lp.length lp) (hc2 : lp.length ≤ c2) :
  Calls Try.prog 31 #[.agg #[.int .i64 s.f0, .int .i64 s.f1, .slice A s.f2.length cp], .agg #[.slice A1 st.length c1, .slice A2 lp.length c2]] w fun e w' => ∃ v0_ : Value, e = .returned v0_ ∧ Kd.R Kd.bool 4 w' w.heap.size (fun _ => True) v0_ (rowF s st lp) ∧ Below w.heap.size w w' := by
 have huF := Try.underlying29
 have huL := Try.underlying27
 have huW := Try.underlying40
 have huR := Try.underlying95
 have hus := Try.underlying67
 have huu := Try.underlying22
 have huuu := Try.underlying111
 obtain ⟨W2, hW2⟩ : ∃ W2, W2 = (w.alloc (.cells #[.int .i64 s.f0, .int .i64 s.f1, .slice A s.f2.length cp] 29)).alloc (.cells #[.slice A1 st.length c1, .slice A2 lp.length c2] 40) := ⟨_, rfl⟩
 have hB2 : Below w.heap.size w W2 := by rw [hW2]; exact below_alloc (below_alloc (Below.refl _ _) _) _
 have hb1 : W2.heap[w.heap.size]? = some (.cells #[.int .i64 s.f0, .int .i64 s.f1, .slice A s.f2.length cp] 29 (0, 0)) := by rw [hW2]; exact ba_ (heap_alloc_new w _) _
 have hb2 : W2.heap[w.heap.size + 1]? = some (.cells #[.slice A1 st.length c1, .slice A2 lp.length c2] 40 (0, 0)) := by
  rw [hW2]
  have := heap_alloc_new (w.alloc (.cells #[.int .i64 s.f0, .int .i64 s.f1, .slice A s.f2.length cp] 29)) (.cells #[.slice A1 st.length c1, .slice A2 lp.length c2] 40)
  simpa using this
 have HMAY := Zd.mk (May_calls s A cp W2 (Kd.C_below hr hB2) hc)
 have HW2 := Zd.mk hW2
 have x0 : W2.cell? ⟨w.heap.size, 0, none⟩ = some (.int .i64 s.f0) := (bq_ hb1 0).trans rfl
 have x1 : W2.cell? ⟨w.heap.size, 1, none⟩ = some (.int .i64 s.f1) := (bq_ hb1 1).trans rfl
 have x2 : W2.cell? ⟨w.heap.size, 2, none⟩ = some (.slice A s.f2.length cp) := (bq_ hb1 2).trans rfl
 have HB2 := Zd.mk hB2
 have HBX1 := Zd.mk hb1
 have HBX2 := Zd.mk hb2
 have HRR := Zd.mk hr
 have HRF := Zd.mk (show rowF s st lp = if mayF s = 0 ∧ wordS st lp = true then rowS (st ++ lp) st.length s else [] from rfl)
 have HC1 := Zd.mk (Kd.C_below hr1 hB2)
 have HC2 := Zd.mk (Kd.C_below hr2 hB2)
 have HMS := Zd.mk (@may_sound s)
 clear hb1 hb2 hr hr1 hr2
 generalize mayF s = mv at *
 by_cases hm : mv = 0
 ·have em : (mv != 0) = false := by rw [hm]; rfl
  cases hw : wordS st lp with
  | false =>
   have HX := Zd.mk (show rowF s st lp = [] from by rw [HRF.out, hw, if_neg (by simp)])
   have HWD := Zd.mk ((mayWord_some st lp).trans (by rw [hw]))
   clear hw
   go_enter Try.func31, Try.ntmps31
   go_upto_region 1 with fail
   rw [← hW2]
   clear hW2 hB2
   go_wp2_with (first | (go_at_call 9; refine HMAY.out.mono ?_; rintro e w3 ⟨rfl, hB3⟩; have HB3 := Zd.mk hB3; have HBX3 := Zd.mk ((hB3.block _ (blk_lt HBX2.out)).trans HBX2.out); have y0 := (bq_ HBX3.out 0).trans rfl; have y1 := (bq_ HBX3.out 1).trans rfl; clear hB3) | (go_at_call 30; refine (formula_MayWord.calls A1 c1 st A2 c2 lp false _ (Kd.C_below HC1.out HB3.out) hc1 (Kd.C_below HC2.out HB3.out) hc2 HWD.out).mono ?_; rintro e w4 ⟨rfl, hB4⟩; have HB4 := Zd.mk hB4; clear hB4))
   go_ret
   exact ⟨_, rfl, by rw [HX.out]; exact Kd.R_nil _ _ _ _ _, (HB2.out.trans (HB3.out.mono HB2.out.size)).trans (HB4.out.mono (Nat.le_trans HB2.out.size HB3.out.size))⟩
  | true =>
   have hwp : st.length ≤ 3000 ∧ 1 ≤ lp.length ∧ lp.length ≤ 27000 := of_decide_eq_true hw
   have HX := Zd.mk (show rowF s st lp = rowS (st ++ lp) st.length s from by rw [HRF.out, hw, if_pos ⟨hm, rfl⟩])
   have HWD := Zd.mk ((mayWord_some st lp).trans (by rw [hw]))
   have HSO := Zd.mk (HMS.out hm)
   clear hw
   go_enter Try.func31, Try.ntmps31
   go_upto_region 1 with fail
   rw [← hW2]
   clear hW2 hB2
   go_upto_region 3 with (first | (go_at_call 9; refine HMAY.out.mono ?_; rintro e w3 ⟨rfl, hB3⟩; have HB3 := Zd.mk hB3; have HBX3 := Zd.mk ((hB3.block _ (blk_lt HBX2.out)).trans HBX2.out); have HBY3 := Zd.mk ((hB3.block _ (blk_lt HBX1.out)).trans HBX1.out); have y0 := (bq_ HBX3.out 0).trans rfl; have y1 := (bq_ HBX3.out 1).trans rfl; clear hB3) | (go_at_call 30; refine (formula_MayWord.calls A1 c1 st A2 c2 lp true _ (Kd.C_below HC1.out HB3.out) hc1 (Kd.C_below HC2.out HB3.out) hc2 HWD.out).mono ?_; rintro e w4 ⟨rfl, hB4⟩; have HB4 := Zd.mk hB4; have HBX4 := Zd.mk ((hB4.block _ (blk_lt HBX3.out)).trans HBX3.out); have HBY4 := Zd.mk ((hB4.block _ (blk_lt HBY3.out)).trans HBY3.out); have z0 := (bq_ HBX4.out 0).trans rfl; have z1 := (bq_ HBX4.out 1).trans rfl; clear hB4))
   have HCA := Zd.mk (Kd.C_below HC1.out (HB3.out.trans (HB4.out.mono HB3.out.size)))
   have HCB := Zd.mk (Kd.C_below HC2.out (HB3.out.trans (HB4.out.mono HB3.out.size)))
   have HCAT := Zd.mk (Concat_calls w4.heap.size A1 A2 c1 c2 st lp (w4.drew.alloc (.cells #[.slice A1 st.length c1, .slice A2 lp.length c2] 22)) (heap_alloc_new w4.drew _) (Kd.C_alloc (Kd.C_drew HCA.out) _) (Kd.C_alloc (Kd.C_drew HCB.out) _) (by omega) (by omega))
   have hb4 : Below w4.heap.size w4 (w4.drew.alloc (.cells #[.slice A1 st.length c1, .slice A2 lp.length c2] 22)) := below_alloc (below_drew1 (Below.refl _ _)) _
   have HB44 := Zd.mk hb4
   have z0a : w4.cell? ⟨w.heap.size + 1, 0, none⟩ = some (.slice A1 st.length c1) := (bq_ HBX4.out 0).trans rfl
   have z1a : w4.cell? ⟨w.heap.size + 1, 1, none⟩ = some (.slice A2 lp.length c2) := (bq_ HBX4.out 1).trans rfl
   have z0b : (w4.drew.alloc (.cells #[.slice A1 st.length c1, .slice A2 lp.length c2] 22)).cell? ⟨w.heap.size + 1, 0, none⟩ = some (.slice A1 st.length c1) := (HB44.out.cell (World.block_lt_of_cell? _ _ z0a)).trans z0a
   have z0c : (w4.alloc (.cells #[.slice A1 st.length c1, .slice A2 lp.length c2] 22)).cell? ⟨w.heap.size + 1, 0, none⟩ = some (.slice A1 st.length c1) := ((below_alloc (Below.refl _ _) _ : Below w4.heap.size w4 _).cell (World.block_lt_of_cell? _ _ z0a)).trans z0a
   clear hb4
   go_cut [5] from 14 to 24 (fun v5 wx => ∃ rb A5 c5, v5 = .pointer (some ⟨rb, 0, none⟩) ∧ Zd (IsRower wx rb A5 (st.length + lp.length) c5 st.length) ∧ Zd (Kd.C (Kd.int .u32) wx A5 (st.length + lp.length) (st ++ lp)) ∧ Zd (Below w4.heap.size w4 wx))
   case first =>
    go_region_with (go_at_call 54; refine HCAT.out.mono ?_; rintro e w5 ⟨v5, rfl, hR5, hB5⟩; obtain ⟨A5, c5, e5⟩ := Kd.R_slice hR5; subst e5; have HR5 := Zd.mk hR5; have HB5 := Zd.mk (HB44.out.trans (hB5.mono HB44.out.size)); have HBX5 := Zd.mk ((HB5.out.block _ (blk_lt HBX4.out)).trans HBX4.out); have q0 : w5.cell? ⟨w.heap.size + 1, 0, none⟩ = some (.slice A1 st.length c1) := (bq_ HBX5.out 0).trans rfl; clear hR5 hB5)
    all_goals (
     go_wp2_with fail
     go_meet
     exact ⟨_, A5, c5, rfl, ⟨rower_new w5 A5 (st.length + lp.length) c5 st.length⟩, ⟨Kd.C_alloc (by have := (Kd.R_reads' HR5.out).2.2; rwa [List.length_append] at this) _⟩, ⟨HB5.out.trans (below_alloc (Below.refl _ _) _ |>.mono HB5.out.size)⟩⟩)
   case rest =>
    obtain ⟨rb, A5, c5, rfl, HIR, HCC, HB5⟩ := hcut
    have HB5w : Below w.heap.size w wc := HB2.out.trans ((HB3.out.trans ((HB4.out.trans (HB5.out.mono HB4.out.size)).mono HB3.out.size)).mono HB2.out.size)
    have HBY5 := Zd.mk ((HB5.out.block _ (blk_lt HBY4.out)).trans HBY4.out)
    have t0 : wc.cell? ⟨w.heap.size, 0, none⟩ = some (.int .i64 s.f0) := (bq_ HBY5.out 0).trans rfl
    have t1 : wc.cell? ⟨w.heap.size, 1, none⟩ = some (.int .i64 s.f1) := (bq_ HBY5.out 1).trans rfl
    have t2 : wc.cell? ⟨w.heap.size, 2, none⟩ = some (.slice A s.f2.length cp) := (bq_ HBY5.out 2).trans rfl
    have HROW := Zd.mk (row_all (st ++ lp) st.length s rb A5 c5 (st.length + lp.length) A cp wc (by simp) HIR.out HCC.out (by omega) (by omega) (by omega) (Kd.C_below HRR.out HB5w) hc HSO.out)
    have HBW := Zd.mk HB5w
    clear HB5w
    go_wp2_with (go_at_call 55; refine HROW.out.mono ?_; rintro e w6 ⟨g, rfl, hg, hG, hB6⟩; have HG6 := Zd.mk hG; have HGS := Zd.mk hg; have HB6 := Zd.mk hB6; clear hG hg hB6)
    go_ret
    exact ⟨_, rfl, by rw [HX.out]; exact brow_R HG6.out ((len_row _ _ _).trans (by first | rfl | simp)) (Nat.le_trans HBW.out.size HGS.out) (by first | omega | (simp; omega)), HBW.out.trans (HB6.out.mono HBW.out.size)⟩
 ·have em : (mv != 0) = true := by simpa using hm
  have HX := Zd.mk (show rowF s st lp = [] from by rw [HRF.out, if_neg (fun h => hm h.1)])
  go_enter Try.func31, Try.ntmps31
  go_upto_region 1 with fail
  rw [← hW2]
  clear hW2 hB2
  go_wp2_with (go_at_call 9; refine HMAY.out.mono ?_; rintro e w3 ⟨rfl, hB3⟩; have HB3 := Zd.mk hB3; clear hB3)
  go_ret
  exact ⟨_, rfl, by rw [HX.out]; exact Kd.R_nil _ _ _ _ _, HB2.out.trans (HB3.out.mono HB2.out.size)⟩
def formula_Row.f (a0_0 : Int) (a0_1 : Int) (l0_2 : List S29) (l1_0 : List Int) (l1_1 : List Int) : Option (List Bool) := some (rowF ⟨a0_0, a0_1, l0_2⟩ l1_0 l1_1)
theorem formula_Row.calls (a0_0 : Int) (a0_1 : Int) (A0_2 : Option Addr) (c0_2 : Nat) (l0_2 : List S29) (A1_0 : Option Addr) (c1_0 : Nat) (l1_0 : List Int) (A1_1 : Option Addr) (c1_1 : Nat) (l1_1 : List Int) (r : List Bool) (w : World) (hr0_2 : Kd.C k29 w A0_2 l0_2.length l0_2) (hc0_2 : l0_2.length ≤ c0_2) (hr1_0 : Kd.C (Kd.int .u32) w A1_0 l1_0.length l1_0) (hc1_0 : l1_0.length ≤ c1_0) (hr1_1 : Kd.C (Kd.int .u32) w A1_1 l1_1.length l1_1) (hc1_1 : l1_1.length ≤ c1_1) (h : formula_Row.f a0_0 a0_1 l0_2 l1_0 l1_1 = some r) :
  Calls Try.prog 31 #[.agg #[.int .i64 a0_0, .int .i64 a0_1, .slice A0_2 l0_2.length c0_2], .agg #[.slice A1_0 l1_0.length c1_0, .slice A1_1 l1_1.length c1_1]] w fun e w' => ∃ v0_ : Value, e = .returned v0_ ∧ Kd.R Kd.bool 4 w' w.heap.size (fun _ => True) v0_ r ∧ Below w.heap.size w w' := by
 obtain rfl := Option.some.inj h
 exact Row_calls ⟨a0_0, a0_1, l0_2⟩ l1_0 l1_1 A0_2 c0_2 A1_0 A1_1 c1_0 c1_1 w hr0_2 hc0_2 hr1_0 hc1_0 hr1_1 hc1_1
end Go.Proofs.Ytapejnikpmfddaa.X
