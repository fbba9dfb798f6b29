/- A part of the claim SearchOne. -/
import Derived.Test.YtapejnikpmfddaaQSearchOnef
namespace Go.Proofs.Ytapejnikpmfddaa.P
open Go.RowKit Go.Proofs.YtapejnikpmfddaaW.PrintWords Go.Proofs.YtapejnikpmfddaaW.PrintLast Go.Proofs.YtapejnikpmfddaaW.PrintMore
attribute [local go_sem] max2_int min2_int max_two min_two max_three min_three max_four min_four
set_option linter.unusedVariables false
set_option linter.unusedSimpArgs false

open Go.Proofs.Ytapejnikpmfddaa.X
def formula_Holds.f (a0_0 : Int) (a0_1 : Int) (l0_2 : List (S29)) (l1_0 : List Int) (l1_1 : List Int) : Option (Bool) := (formula_Row.f a0_0 a0_1 l0_2 l1_0 l1_1).bind fun t223 => (if (t223.length : Int) > 0 then (if 0 < (t223.length : Int) then (some (rdOf false t223 0)) else (none)) else (some false))
set_option maxHeartbeats 8000000 in
set_option maxRecDepth 100000 in
theorem formula_Holds.calls (a0_0 : Int) (a0_1 : Int) (A0_2 : Option Addr) (c0_2 : Nat) (l0_2 : List (S29)) (A1_0 : Option Addr) (c1_0 : Nat) (l1_0 : List Int) (A1_1 : Option Addr) (c1_1 : Nat) (l1_1 : List Int) (r : Bool) (w : World) (hr0_2 : Kd.C k29 w A0_2 l0_2.length l0_2) (hc0_2 : l0_2.length ≤ c0_2) (hr1_0 : Kd.C (Kd.int .u32) w A1_0 l1_0.length l1_0) (hc1_0 : l1_0.length ≤ c1_0) (hr1_1 : Kd.C (Kd.int .u32) w A1_1 l1_1.length l1_1) (hc1_1 : l1_1.length ≤ c1_1) (h : formula_Holds.f a0_0 a0_1 l0_2 l1_0 l1_1 = some r) :
  Calls Try.prog 14 #[.agg #[.int .i64 a0_0, .int .i64 a0_1, .slice A0_2 l0_2.length c0_2], .agg #[.slice A1_0 l1_0.length c1_0, .slice A1_1 l1_1.length c1_1]] w fun e w' => e = .returned (.bool r) ∧ Below w.heap.size w w' := by
 have hu29 := Try.underlying29
 have hu40 := Try.underlying40
 have HR0_2 := Zd.mk hr0_2
 have HC0_2 := Zd.mk hc0_2
 clear hr0_2 hc0_2
 have HR1_0 := Zd.mk hr1_0
 have HC1_0 := Zd.mk hc1_0
 clear hr1_0 hc1_0
 have HR1_1 := Zd.mk hr1_1
 have HC1_1 := Zd.mk hc1_1
 clear hr1_1 hc1_1
 have HB := Zd.mk (Below.refl w.heap.size w)
 have H : ((formula_Row.f a0_0 a0_1 l0_2 l1_0 l1_1).bind fun t223 => (if (t223.length : Int) > 0 then (if 0 < (t223.length : Int) then (some (rdOf false t223 0)) else (none)) else (some false))) = some r := h
 clear h
 replace H := Option.bind_eq_some_iff.mp H
 obtain ⟨t223, A30, H⟩ := H
 replace H : (if (t223.length : Int) > 0 then (if 0 < (t223.length : Int) then (some (rdOf false t223 0)) else (none)) else (some false)) = some r := H
 have A3 := Zd.mk A30
 clear A30
 by_cases c4 : (t223.length : Int) > 0
 ·rw [if_pos c4] at H
  have c4b0 : decide (0 < (t223.length : Int)) = true := decide_eq_true c4
  have c4b1 : decide (0 < t223.length) = true := decide_eq_true (by omega)
  clear c4
  by_cases c5 : 0 < (t223.length : Int)
  ·rw [if_pos c5] at H
   have c5b0 : decide (0 < (t223.length : Int)) = true := decide_eq_true c5
   have c5b1 : decide (0 < t223.length) = true := decide_eq_true (by omega)
   clear c5
   obtain rfl := Option.some.inj H
   go_enter Try.func14, Try.ntmps14
   go_wp2_with (first | ((with_reducible refine gate_dst (N := 2) rfl ?_); refine box_event ?hg (N := 2) ?hd (cs := #[.int .i64 a0_0, .int .i64 a0_1, .slice A0_2 l0_2.length c0_2]) (t := 29) ?hr ?_; (case hd => rfl); (case hg => rfl); (case hr => first | (go_simp; done) | (go_simp; rfl)); intro gb221 hg w6 hbox hb; have n0_ := Zd.mk (bt_ B_ hb); have n1_ := Zd.mk (hbox); have n2_ := Zd.mk ((by rw [hg]; exact (bs_ B_) : w.heap.size ≤ gb221)); have n3_ := Zd.mk ((by rw [hg]; exact (bs_ B_) : w.heap.size ≤ gb221)); clear HB; have HB := n0_; have BK221 := n1_; have GW221 := n2_; have GE221 := n3_; clear n0_ n1_ n2_ n3_; clear hb hbox hg) | ((with_reducible refine gate_dst (N := 3) rfl ?_); refine box_event ?hg (N := 3) ?hd (cs := #[.slice A1_0 l1_0.length c1_0, .slice A1_1 l1_1.length c1_1]) (t := 40) ?hr ?_; (case hd => rfl); (case hg => rfl); (case hr => first | (go_simp; done) | (go_simp; rfl)); intro gb222 hg w7 hbox hb; have n0_ := Zd.mk (bb_ (g := gb221) (o := .cells #[.int .i64 a0_0, .int .i64 a0_1, .slice A0_2 l0_2.length c0_2] 29 (0, 0)) K_ hb); have n1_ := Zd.mk (bt_ B_ hb); have n2_ := Zd.mk (hbox); have n3_ := Zd.mk ((by rw [hg]; exact (bs_ B_) : w.heap.size ≤ gb222)); have n4_ := Zd.mk ((by rw [hg]; exact (bs_ B_) : w.heap.size ≤ gb222)); have n5_ := Zd.mk ((by rw [hg]; exact Nat.ne_of_lt (blk_lt (g := gb221) (o := .cells #[.int .i64 a0_0, .int .i64 a0_1, .slice A0_2 l0_2.length c0_2] 29 (0, 0)) K_) : gb221 ≠ gb222)); have n6_ := Zd.mk ((by rw [hg]; exact Nat.ne_of_gt (blk_lt (g := gb221) (o := .cells #[.int .i64 a0_0, .int .i64 a0_1, .slice A0_2 l0_2.length c0_2] 29 (0, 0)) K_) : gb222 ≠ gb221)); clear BK221; clear HB; have BK221 := n0_; have HB := n1_; have BK222 := n2_; have GW222 := n3_; have GE222 := n4_; have NB221_222 := n5_; have NB222_221 := n6_; clear n0_ n1_ n2_ n3_ n4_ n5_ n6_; clear hb hbox hg; have hnb8 := NB221_222.out; have hnc8 := NB222_221.out; have hcz9_0 : w7.cell? ⟨gb221, 0, none⟩ = some (.int .i64 a0_0) := (bq_ BK221.out 0).trans rfl; have hcz9_1 : w7.cell? ⟨gb221, 1, none⟩ = some (.int .i64 a0_1) := (bq_ BK221.out 1).trans rfl; have hcz9_2 : w7.cell? ⟨gb221, 2, none⟩ = some (.slice A0_2 l0_2.length c0_2) := (bq_ BK221.out 2).trans rfl; have hfz9_0 := bz_ BK221.out 0; have hfz9_1 := bz_ BK221.out 1; have hfz9_2 := bz_ BK221.out 2; have hcz10_0 : w7.cell? ⟨gb222, 0, none⟩ = some (.slice A1_0 l1_0.length c1_0) := (bq_ BK222.out 0).trans rfl; have hcz10_1 : w7.cell? ⟨gb222, 1, none⟩ = some (.slice A1_1 l1_1.length c1_1) := (bq_ BK222.out 1).trans rfl; have hfz10_0 := bz_ BK222.out 0; have hfz10_1 := bz_ BK222.out 1) | ((with_reducible refine gate_callee (f := 31) rfl ?_); refine goesL_ (some 8) rfl rfl Try.func31 (by kernel_rfl) rfl #[.agg #[.int .i64 a0_0, .int .i64 a0_1, .slice A0_2 l0_2.length c0_2], .agg #[.slice A1_0 l1_0.length c1_0, .slice A1_1 l1_1.length c1_1]] rfl (by (try simp only [List.map_toArray, List.map_cons, List.map_nil]); first | done | rfl | (simp only [List.length_drop, List.length_take]; rfl)) ?_; (with_reducible refine (formula_Row.calls a0_0 a0_1 _ _ l0_2 _ _ l1_0 _ _ l1_1 t223 _ ?side1 ?side2 ?side3 ?side4 ?side5 ?side6 A3.out).mono ?_); (case side1 => exact Kd.C_below HR0_2.out B_); (case side2 => exact HC0_2.out); (case side3 => exact Kd.C_below HR1_0.out B_); (case side4 => exact HC1_0.out); (case side5 => exact Kd.C_below HR1_1.out B_); (case side6 => exact HC1_1.out); rintro e w11 ⟨v224, rfl, ho0, hb⟩; refine ⟨_, rfl, ?_⟩; have n0_ := Zd.mk (Kd.R_lower ho0 (bs_ B_)); have n1_ := Zd.mk (bb_ (g := gb221) (o := .cells #[.int .i64 a0_0, .int .i64 a0_1, .slice A0_2 l0_2.length c0_2] 29 (0, 0)) K_ hb); have n2_ := Zd.mk (bb_ (g := gb222) (o := .cells #[.slice A1_0 l1_0.length c1_0, .slice A1_1 l1_1.length c1_1] 40 (0, 0)) K_ hb); have n3_ := Zd.mk (bt_ B_ hb); clear BK221; clear BK222; clear HB; have HO225 := n0_; have BK221 := n1_; have BK222 := n2_; have HB := n3_; clear n0_ n1_ n2_ n3_; (try clear hb); (try clear hb2); (try clear hk); (try clear hi); (try clear ho0); obtain ⟨Ao12, co12, eo12⟩ := Kd.R_slice HO225.out; subst eo12; have p226 : 0 ≤ (0 : Int) := (by omega); have q226 : 0 < (t223.length : Int) := of_decide_eq_true (by first | (with_reducible assumption) | assumption); obtain ⟨ad226, e226, hx226_0⟩ := Kd.at_bool (Kd.R_reads' HO225.out).2.2 0 p226 q226; cases e226; have qi226 : (0 < t223.length) = True := eq_true (by omega); (try rw [show ((0 : Int)).toNat = 0 from rfl] at hx226_0); (try rw [Addr.add_zero'] at hx226_0); replace p226 := eq_true p226; replace q226 := eq_true q226))
   go_ret
   exact ⟨by first | rfl | (simp [errW_none, errW_some] <;> rfl) | (simp [*, errW_none, errW_some] <;> rfl), B_⟩
  ·rw [if_neg c5] at H
   exact absurd H (by simp)
 ·rw [if_neg c4] at H
  have c4b0 : decide (0 < (t223.length : Int)) = false := decide_eq_false c4
  have c4b1 : decide (0 < t223.length) = false := decide_eq_false (by omega)
  clear c4
  obtain rfl := Option.some.inj H
  go_enter Try.func14, Try.ntmps14
  go_wp2_with (first | ((with_reducible refine gate_dst (N := 2) rfl ?_); refine box_event ?hg (N := 2) ?hd (cs := #[.int .i64 a0_0, .int .i64 a0_1, .slice A0_2 l0_2.length c0_2]) (t := 29) ?hr ?_; (case hd => rfl); (case hg => rfl); (case hr => first | (go_simp; done) | (go_simp; rfl)); intro gb221 hg w13 hbox hb; have n0_ := Zd.mk (bt_ B_ hb); have n1_ := Zd.mk (hbox); have n2_ := Zd.mk ((by rw [hg]; exact (bs_ B_) : w.heap.size ≤ gb221)); have n3_ := Zd.mk ((by rw [hg]; exact (bs_ B_) : w.heap.size ≤ gb221)); clear HB; have HB := n0_; have BK221 := n1_; have GW221 := n2_; have GE221 := n3_; clear n0_ n1_ n2_ n3_; clear hb hbox hg) | ((with_reducible refine gate_dst (N := 3) rfl ?_); refine box_event ?hg (N := 3) ?hd (cs := #[.slice A1_0 l1_0.length c1_0, .slice A1_1 l1_1.length c1_1]) (t := 40) ?hr ?_; (case hd => rfl); (case hg => rfl); (case hr => first | (go_simp; done) | (go_simp; rfl)); intro gb222 hg w14 hbox hb; have n0_ := Zd.mk (bb_ (g := gb221) (o := .cells #[.int .i64 a0_0, .int .i64 a0_1, .slice A0_2 l0_2.length c0_2] 29 (0, 0)) K_ hb); have n1_ := Zd.mk (bt_ B_ hb); have n2_ := Zd.mk (hbox); have n3_ := Zd.mk ((by rw [hg]; exact (bs_ B_) : w.heap.size ≤ gb222)); have n4_ := Zd.mk ((by rw [hg]; exact (bs_ B_) : w.heap.size ≤ gb222)); have n5_ := Zd.mk ((by rw [hg]; exact Nat.ne_of_lt (blk_lt (g := gb221) (o := .cells #[.int .i64 a0_0, .int .i64 a0_1, .slice A0_2 l0_2.length c0_2] 29 (0, 0)) K_) : gb221 ≠ gb222)); have n6_ := Zd.mk ((by rw [hg]; exact Nat.ne_of_gt (blk_lt (g := gb221) (o := .cells #[.int .i64 a0_0, .int .i64 a0_1, .slice A0_2 l0_2.length c0_2] 29 (0, 0)) K_) : gb222 ≠ gb221)); clear BK221; clear HB; have BK221 := n0_; have HB := n1_; have BK222 := n2_; have GW222 := n3_; have GE222 := n4_; have NB221_222 := n5_; have NB222_221 := n6_; clear n0_ n1_ n2_ n3_ n4_ n5_ n6_; clear hb hbox hg; have hnb15 := NB221_222.out; have hnc15 := NB222_221.out; have hcz16_0 : w14.cell? ⟨gb221, 0, none⟩ = some (.int .i64 a0_0) := (bq_ BK221.out 0).trans rfl; have hcz16_1 : w14.cell? ⟨gb221, 1, none⟩ = some (.int .i64 a0_1) := (bq_ BK221.out 1).trans rfl; have hcz16_2 : w14.cell? ⟨gb221, 2, none⟩ = some (.slice A0_2 l0_2.length c0_2) := (bq_ BK221.out 2).trans rfl; have hfz16_0 := bz_ BK221.out 0; have hfz16_1 := bz_ BK221.out 1; have hfz16_2 := bz_ BK221.out 2; have hcz17_0 : w14.cell? ⟨gb222, 0, none⟩ = some (.slice A1_0 l1_0.length c1_0) := (bq_ BK222.out 0).trans rfl; have hcz17_1 : w14.cell? ⟨gb222, 1, none⟩ = some (.slice A1_1 l1_1.length c1_1) := (bq_ BK222.out 1).trans rfl; have hfz17_0 := bz_ BK222.out 0; have hfz17_1 := bz_ BK222.out 1) | ((with_reducible refine gate_callee (f := 31) rfl ?_); refine goesL_ (some 8) rfl rfl Try.func31 (by kernel_rfl) rfl #[.agg #[.int .i64 a0_0, .int .i64 a0_1, .slice A0_2 l0_2.length c0_2], .agg #[.slice A1_0 l1_0.length c1_0, .slice A1_1 l1_1.length c1_1]] rfl (by (try simp only [List.map_toArray, List.map_cons, List.map_nil]); first | done | rfl | (simp only [List.length_drop, List.length_take]; rfl)) ?_; (with_reducible refine (formula_Row.calls a0_0 a0_1 _ _ l0_2 _ _ l1_0 _ _ l1_1 t223 _ ?side1 ?side2 ?side3 ?side4 ?side5 ?side6 A3.out).mono ?_); (case side1 => exact Kd.C_below HR0_2.out B_); (case side2 => exact HC0_2.out); (case side3 => exact Kd.C_below HR1_0.out B_); (case side4 => exact HC1_0.out); (case side5 => exact Kd.C_below HR1_1.out B_); (case side6 => exact HC1_1.out); rintro e w18 ⟨v224, rfl, ho0, hb⟩; refine ⟨_, rfl, ?_⟩; have n0_ := Zd.mk (Kd.R_lower ho0 (bs_ B_)); have n1_ := Zd.mk (bb_ (g := gb221) (o := .cells #[.int .i64 a0_0, .int .i64 a0_1, .slice A0_2 l0_2.length c0_2] 29 (0, 0)) K_ hb); have n2_ := Zd.mk (bb_ (g := gb222) (o := .cells #[.slice A1_0 l1_0.length c1_0, .slice A1_1 l1_1.length c1_1] 40 (0, 0)) K_ hb); have n3_ := Zd.mk (bt_ B_ hb); clear BK221; clear BK222; clear HB; have HO225 := n0_; have BK221 := n1_; have BK222 := n2_; have HB := n3_; clear n0_ n1_ n2_ n3_; (try clear hb); (try clear hb2); (try clear hk); (try clear hi); (try clear ho0); obtain ⟨Ao19, co19, eo19⟩ := Kd.R_slice HO225.out; subst eo19))
  go_ret
  exact ⟨by first | rfl | (simp [errW_none, errW_some] <;> rfl) | (simp [*, errW_none, errW_some] <;> rfl), B_⟩

end Go.Proofs.Ytapejnikpmfddaa.P
namespace Go.Proofs.Ytapejnikpmfddaa.X
open Go.RowKit Go.Proofs.YtapejnikpmfddaaW.PrintWords Go.Proofs.YtapejnikpmfddaaW.PrintLast Go.Proofs.YtapejnikpmfddaaW.PrintMore
open Go.Proofs.Ytapejnikpmfddaa.P Go.Proofs.Ytapejnikpmfddaa.Evx
set_option linter.unusedSimpArgs false
set_option linter.unusedVariables false
def RdrB (w : World) (rb : Nat) (sv lt : Int) (vs vg : Value) : Prop := w.heap[rb]? = some (.cells #[.int .i64 sv, .int .u32 lt, vs, vg] 129 (0, 0))
def BK (W w : World) (g : Nat) : Prop := W.heap.size ≤ g ∧ w.heap[g]? = some (.cells #[.bool false] 4 (0, 0))
section
variable {w w1 W : World} {rb : Nat} {sv lt : Int} {vs vg v : Value}
theorem rdrB_0 (h : RdrB w rb sv lt vs vg) : w.cell? ⟨rb, 0, none⟩ = some (.int .i64 sv) := (bq_ h 0).trans rfl
theorem rdrB_1 (h : RdrB w rb sv lt vs vg) : w.cell? ⟨rb, 1, none⟩ = some (.int .u32 lt) := (bq_ h 1).trans rfl
theorem rdrB_2 (h : RdrB w rb sv lt vs vg) : w.cell? ⟨rb, 2, none⟩ = some vs := (bq_ h 2).trans rfl
theorem rdrB_3 (h : RdrB w rb sv lt vs vg) : w.cell? ⟨rb, 3, none⟩ = some vg := (bq_ h 3).trans rfl
theorem rdrB_set2 (h : RdrB w rb sv lt vs vg) (v : Value) : RdrB (w.setCell ⟨rb, 2, none⟩ v) rb sv lt v vg := (blk_set h 2 v).trans rfl
theorem rdrB_set3 (h : RdrB w rb sv lt vs vg) (v : Value) : RdrB (w.setCell ⟨rb, 3, none⟩ v) rb sv lt vs v := (blk_set h 3 v).trans rfl
theorem le_alloc {n : Nat} (h : n ≤ w.heap.size) (o : Obj) : n ≤ (w.alloc o).heap.size := by simp; omega
theorem le_set {n : Nat} (h : n ≤ w.heap.size) (p : Addr) (v : Value) : n ≤ (w.setCell p v).heap.size := by simpa using h
end
def RS (rb : Nat) (vs vg : Value) : Nat → Prop := fun k => some k = vs.ownBlock ∨ some k = vg.ownBlock ∨ k = rb
structure Two (w0 W0 : World) (rb : Nat) (vs vg : Value) (w : World) (v1 : Value) (l1 : List Bool) (v2 : Value) (l2 : List Bool) : Prop where
 o1 : w.ownsRow w0.heap.size 4 1 v1 l1.length (encs Value.bool l1)
 o2 : w.ownsRow w0.heap.size 4 1 v2 l2.length (encs Value.bool l2)
 ne : v1.ownBlock = none ∨ v1.ownBlock ≠ v2.ownBlock
 kp : Kept W0 w (RS rb vs vg)
 n1 : ∀ k, v1.ownBlock = some k → some k = vs.ownBlock ∨ W0.heap.size ≤ k
 n2 : ∀ k, v2.ownBlock = some k → some k = vg.ownBlock ∨ W0.heap.size ≤ k
 lt1 : ∀ k, vs.ownBlock = some k → k < W0.heap.size
 lt2 : ∀ k, vg.ownBlock = some k → k < W0.heap.size
 rl : rb < W0.heap.size
 r1 : some rb ≠ vs.ownBlock
 r2 : some rb ≠ vg.ownBlock
 bl : Below w0.heap.size w0 w
 rb0 : w0.heap.size ≤ rb
section
variable {w0 W0 w w1 : World} {rb g cap : Nat} {sv lt : Int} {vs vg v1 v2 x y v : Value} {l1 l2 : List Bool}
theorem Two.le (h : Two w0 W0 rb vs vg w v1 l1 v2 l2) : W0.heap.size ≤ w.heap.size := h.kp.1
theorem Two.rb1 (h : Two w0 W0 rb vs vg w v1 l1 v2 l2) : some rb ≠ v1.ownBlock := fun e => by
 rcases h.n1 rb e.symm with h1 | h1
 ·exact h.r1 h1
 ·have := h.rl; omega
theorem Two.rb2 (h : Two w0 W0 rb vs vg w v1 l1 v2 l2) : some rb ≠ v2.ownBlock := fun e => by
 rcases h.n2 rb e.symm with h1 | h1
 ·exact h.r2 h1
 ·have := h.rl; omega
theorem Two.step (h : Two w0 W0 rb vs vg w v1 l1 v2 l2) (hk : Kept w w1 (fun k => k = rb)) (hb : Below w0.heap.size w0 w1) : Two w0 W0 rb vs vg w1 v1 l1 v2 l2 :=
 { h with
  o1 := own_move h.o1 (fun k hk1 => hk.2 k (own_lt h.o1 k hk1) (fun e => h.rb1 (by rw [hk1, e])))
  o2 := own_move h.o2 (fun k hk1 => hk.2 k (own_lt h.o2 k hk1) (fun e => h.rb2 (by rw [hk1, e])))
  kp := h.kp.then_ hk (fun k e => .inl (.inr (.inr e)))
  bl := hb }
theorem Two.alloc (h : Two w0 W0 rb vs vg w v1 l1 v2 l2) (o : Obj) : Two w0 W0 rb vs vg (w.alloc o) v1 l1 v2 l2 :=
 h.step ((Kept.refl w _).alloc o) (below_alloc h.bl _)
theorem Two.drew (h : Two w0 W0 rb vs vg w v1 l1 v2 l2) : Two w0 W0 rb vs vg w.drew v1 l1 v2 l2 := h.step ((Kept.refl w _).drew) (below_drew1 h.bl)
theorem Two.setR (h : Two w0 W0 rb vs vg w v1 l1 v2 l2) (j : Nat) (v : Value) : Two w0 W0 rb vs vg (w.setCell ⟨rb, j, none⟩ v) v1 l1 v2 l2 :=
 h.step (Kept.setCell (p := ⟨rb, j, none⟩) (Kept.refl w (fun k => k = rb)) (.inl rfl) v) (h.bl.setCell h.rb0 v)
theorem encs_snoc (l : List Bool) (b : Bool) : encs Value.bool (l ++ [b]) = encs Value.bool l ++ [.bool b] := by simp [encs]
theorem Two.app1 (h : Two w0 W0 rb vs vg w vs l1 v2 l2) (ho : w1.ownsRow w0.heap.size 4 1 (.slice (some ⟨g, 0, none⟩) (l1.length + 1) cap) (l1.length + 1) (encs Value.bool l1 ++ [.bool false])) (hg : w.grownBy w1 vs.ownBlock) (hat : vs.ownBlock = some g ∨ g = w.heap.size) :
  Two w0 W0 rb vs vg w1 (.slice (some ⟨g, 0, none⟩) (l1.length + 1) cap) (l1 ++ [false]) v2 l2 := by
 have hob : (Value.slice (some ⟨g, 0, none⟩) (l1.length + 1) cap).ownBlock = some g := rfl
 refine { h with o1 := ?_, o2 := ?_, ne := ?_, kp := ?_, n1 := ?_, bl := ?_ }
 ·rw [encs_snoc, List.length_append]; exact ho
 ·refine own_move h.o2 (fun k hk => hg.block k (own_lt h.o2 k hk) (fun e => ?_))
  rcases h.ne with h1 | h1
  ·rw [h1] at e; cases e
  ·exact h1 (by rw [← e, hk])
 ·refine .inr (fun e => ?_)
  rw [hob] at e
  have h2 := own_lt h.o2 g e.symm
  rcases hat with h1 | h1
  ·rcases h.ne with h3 | h3
   ·rw [h3] at h1; cases h1
   ·exact h3 (by rw [h1, e])
  ·omega
 ·exact Kept.of_grown hg h.kp (fun k hk => .inl (.inl hk.symm))
 ·intro k hk
  rw [hob] at hk
  injection hk with hk
  subst hk
  rcases hat with h1 | h1
  ·exact .inl h1.symm
  ·right; have := h.le; omega
 ·exact pw_below_grown h.bl _ h.bl.size hg (own_base h.o1)
theorem Two.app2 (h : Two w0 W0 rb vs vg w v1 l1 vg l2) (ho : w1.ownsRow w0.heap.size 4 1 (.slice (some ⟨g, 0, none⟩) (l2.length + 1) cap) (l2.length + 1) (encs Value.bool l2 ++ [.bool false])) (hg : w.grownBy w1 vg.ownBlock) (hat : vg.ownBlock = some g ∨ g = w.heap.size) :
  Two w0 W0 rb vs vg w1 v1 l1 (.slice (some ⟨g, 0, none⟩) (l2.length + 1) cap) (l2 ++ [false]) := by
 have hob : (Value.slice (some ⟨g, 0, none⟩) (l2.length + 1) cap).ownBlock = some g := rfl
 refine { h with o1 := ?_, o2 := ?_, ne := ?_, kp := ?_, n2 := ?_, bl := ?_ }
 ·refine own_move h.o1 (fun k hk => hg.block k (own_lt h.o1 k hk) (fun e => ?_))
  rcases h.ne with h1 | h1
  ·rw [h1] at hk; cases hk
  ·exact h1 (by rw [hk, e])
 ·rw [encs_snoc, List.length_append]; exact ho
 ·rcases h.ne with h1 | h1
  ·exact .inl h1
  ·refine .inr (fun e => ?_)
   rw [hob] at e
   have h2 := own_lt h.o1 g e
   rcases hat with h3 | h3
   ·exact h1 (by rw [e, h3])
   ·omega
 ·exact Kept.of_grown hg h.kp (fun k hk => .inl (.inr (.inl hk.symm)))
 ·intro k hk
  rw [hob] at hk
  injection hk with hk
  subst hk
  rcases hat with h1 | h1
  ·exact .inl h1.symm
  ·right; have := h.le; omega
 ·exact pw_below_grown h.bl _ h.bl.size hg (own_base h.o2)
theorem Two.keepB1 (h : Two w0 W0 rb vs vg w vs l1 v2 l2) (hb : BK W0 w g) (hg : w.grownBy w1 vs.ownBlock) : BK W0 w1 g :=
 ⟨hb.1, bg_ hb.2 hg (fun e => by have := h.lt1 g e.symm; have := hb.1; omega)⟩
theorem Two.keepR1 (h : Two w0 W0 rb vs vg w vs l1 v2 l2) (hb : RdrB w rb sv lt x y) (hg : w.grownBy w1 vs.ownBlock) : RdrB w1 rb sv lt x y := bg_ hb hg h.r1
theorem Two.keepR2 (h : Two w0 W0 rb vs vg w v1 l1 vg l2) (hb : RdrB w rb sv lt x y) (hg : w.grownBy w1 vg.ownBlock) : RdrB w1 rb sv lt x y := bg_ hb hg h.r2
end
structure Rdr (w0 w : World) (rb : Nat) (sv lt : Int) (said good : List Bool) (vs vg : Value) : Prop where
 blk : RdrB w rb sv lt vs vg
 o1 : w.ownsRow w0.heap.size 4 1 vs said.length (encs Value.bool said)
 o2 : w.ownsRow w0.heap.size 4 1 vg good.length (encs Value.bool good)
 ne : vs.ownBlock = none ∨ vs.ownBlock ≠ vg.ownBlock
 bl : Below w0.heap.size w0 w
 rb0 : w0.heap.size ≤ rb
structure Fr (w : World) (rb : Nat) (vs vg : Value) (w' : World) (v1 v2 : Value) : Prop where
 kp : Kept w w' (RS rb vs vg)
 n1 : ∀ k, v1.ownBlock = some k → some k = vs.ownBlock ∨ w.heap.size ≤ k
 n2 : ∀ k, v2.ownBlock = some k → some k = vg.ownBlock ∨ w.heap.size ≤ k
section
variable {w0 w w1 w2 : World} {rb g : Nat} {sv lt : Int} {vs vg v1 v2 x y v : Value} {l1 l2 said good : List Bool}
theorem Fr.refl (w : World) (rb : Nat) (vs vg : Value) : Fr w rb vs vg w vs vg := ⟨Kept.refl _ _, fun _ h => .inl h.symm, fun _ h => .inl h.symm⟩
theorem Fr.trans (h : Fr w rb vs vg w1 v1 v2) (k : Fr w1 rb v1 v2 w2 x y) : Fr w rb vs vg w2 x y := by
 have hle := h.kp.1
 refine ⟨h.kp.then_ k.kp ?_, ?_, ?_⟩
 ·rintro j (e | e | e)
  ·rcases h.n1 j e.symm with h1 | h1
   ·exact .inl (.inl h1)
   ·exact .inr h1
  ·rcases h.n2 j e.symm with h1 | h1
   ·exact .inl (.inr (.inl h1))
   ·exact .inr h1
  ·exact .inl (.inr (.inr e))
 ·intro j e
  rcases k.n1 j e with h1 | h1
  ·exact h.n1 j h1.symm
  ·exact .inr (by omega)
 ·intro j e
  rcases k.n2 j e with h1 | h1
  ·exact h.n2 j h1.symm
  ·exact .inr (by omega)
theorem Fr.alloc (h : Fr w rb vs vg w1 v1 v2) (o : Obj) : Fr w rb vs vg (w1.alloc o) v1 v2 := ⟨h.kp.alloc o, h.n1, h.n2⟩
theorem Fr.drewN (h : Fr w rb vs vg w1 v1 v2) (m : Nat) : Fr w rb vs vg (w1.drewN m) v1 v2 := ⟨h.kp.drewN m, h.n1, h.n2⟩
theorem Rdr.rne1 (h : Rdr w0 w rb sv lt said good vs vg) : some rb ≠ vs.ownBlock := fun e => by
 obtain ⟨cs, hc⟩ := own_typed h.o1 rb e.symm
 exact blk_ne h.blk hc (by decide) rfl
theorem Rdr.rne2 (h : Rdr w0 w rb sv lt said good vs vg) : some rb ≠ vg.ownBlock := fun e => by
 obtain ⟨cs, hc⟩ := own_typed h.o2 rb e.symm
 exact blk_ne h.blk hc (by decide) rfl
theorem Rdr.below (h : Rdr w0 w rb sv lt said good vs vg) (hb : Below w.heap.size w w1) : Rdr w0 w1 rb sv lt said good vs vg :=
 { h with
  blk := (hb.block _ (blk_lt h.blk)).trans h.blk
  o1 := own_move h.o1 (fun k hk => hb.block k (own_lt h.o1 k hk))
  o2 := own_move h.o2 (fun k hk => hb.block k (own_lt h.o2 k hk))
  bl := h.bl.trans (hb.mono h.bl.size) }
theorem Rdr.alloc (h : Rdr w0 w rb sv lt said good vs vg) (o : Obj) : Rdr w0 (w.alloc o) rb sv lt said good vs vg := h.below (below_alloc (Below.refl _ _) _)
theorem Rdr.drewN (h : Rdr w0 w rb sv lt said good vs vg) (m : Nat) : Rdr w0 (w.drewN m) rb sv lt said good vs vg := h.below (pd_ (Below.refl _ _) _)
theorem Rdr.two (h : Rdr w0 w rb sv lt said good vs vg) : Two w0 w rb vs vg w vs said vg good :=
 { o1 := h.o1, o2 := h.o2, ne := h.ne, kp := Kept.refl _ _, n1 := fun _ e => .inl e.symm, n2 := fun _ e => .inl e.symm, lt1 := own_lt h.o1, lt2 := own_lt h.o2, rl := blk_lt h.blk, r1 := h.rne1, r2 := h.rne2, bl := h.bl, rb0 := h.rb0 }
theorem Two.rdr (h : Two w0 w rb vs vg w1 v1 l1 v2 l2) (hb : RdrB w1 rb sv lt v1 v2) : Rdr w0 w1 rb sv lt l1 l2 v1 v2 ∧ Fr w rb vs vg w1 v1 v2 :=
 ⟨{ blk := hb, o1 := h.o1, o2 := h.o2, ne := h.ne, bl := h.bl, rb0 := h.rb0 }, ⟨h.kp, h.n1, h.n2⟩⟩
theorem Fr.box (h : Fr w rb vs vg w1 v1 v2) (hR : Rdr w0 w rb sv lt said good vs vg) {o : Obj} (hb : w.heap[g]? = some o) (h1 : some g ≠ vs.ownBlock) (h2 : some g ≠ vg.ownBlock) (h3 : g ≠ rb) : w1.heap[g]? = some o :=
 blk_kept hb h.kp (by rintro (e | e | e) <;> contradiction)
end
theorem own_form {w : World} {base : Nat} {v : Value} {l : List Bool} (h : w.ownsRow base 4 1 v l.length (encs Value.bool l)) : ∃ A c, v = .slice A l.length c ∧ l.length ≤ c := by
 rcases h.2 with ⟨rfl, h0⟩ | ⟨g, cap, cur, rfl, _, _, hc, _⟩
 ·exact ⟨none, 0, by rw [h0], by omega⟩
 ·exact ⟨_, _, rfl, hc⟩
theorem own_put {w : World} {base k : Nat} {v : Value} {l : List Bool} (h : w.ownsRow base 4 1 v l.length (encs Value.bool l)) (hk : k < l.length) :
  ∃ g c, v = .slice (some ⟨g, 0, none⟩) l.length c ∧ base ≤ g ∧ l.length ≤ c ∧ w.cell? ⟨g, k, none⟩ = some (.bool (l.getD k false)) ∧ w.frozen? ⟨g, k, none⟩ = false ∧ ∀ b, (w.setCell ⟨g, k, none⟩ (.bool b)).ownsRow base 4 1 v (l.set k b).length (encs Value.bool (l.set k b)) := by
 rcases h.2 with ⟨_, h0⟩ | ⟨g, cap, cur, rfl, hb, hh, hc, hm, hs, ht⟩
 ·omega
 ·have hkc : k < cur.size := by omega
  have hcell : cur[k]? = some (.bool (l.getD k false)) := by
   have h1 : (cur.toList.take (l.length * 1))[k]? = some (.bool (l.getD k false)) := by rw [ht]; simp [encs, hk]
   rw [List.getElem?_take_of_lt (by omega)] at h1
   simpa using h1
  refine ⟨g, cap, rfl, hb, hc, (bq_ hh k).trans hcell, bz_ hh k, fun b => ⟨by simp [encs], .inr ⟨g, cap, cur.setIfInBounds k (.bool b), by simp, hb, blk_set hh k _, by simpa using hc, hm, by simpa using hs, ?_⟩⟩⟩
  rw [Array.toList_setIfInBounds, List.length_set, List.take_set, ht]
  simp [encs, List.map_set]
theorem Rdr.put {w0 w : World} {rb k : Nat} {sv lt : Int} {sd gd : List Bool} {x1 x2 : Value} (h : Rdr w0 w rb sv lt sd gd x1 x2) (h1 : k < sd.length) (h2 : k < gd.length) :
  ∃ g1 c1 g2 c2, x1 = .slice (some ⟨g1, 0, none⟩) sd.length c1 ∧ x2 = .slice (some ⟨g2, 0, none⟩) gd.length c2 ∧ g1 ≠ g2 ∧ w.cell? ⟨g1, k, none⟩ = some (.bool (sd.getD k false)) ∧ w.frozen? ⟨g1, k, none⟩ = false ∧ w.cell? ⟨g2, k, none⟩ = some (.bool (gd.getD k false)) ∧ w.frozen? ⟨g2, k, none⟩ = false ∧
   ∀ a b, Rdr w0 ((w.setCell ⟨g1, k, none⟩ (.bool a)).setCell ⟨g2, k, none⟩ (.bool b)) rb sv lt (sd.set k a) (gd.set k b) x1 x2 ∧ Fr w rb x1 x2 ((w.setCell ⟨g1, k, none⟩ (.bool a)).setCell ⟨g2, k, none⟩ (.bool b)) x1 x2 := by
 obtain ⟨g1, c1, e1, b1, l1, p1, q1, s1⟩ := own_put h.o1 h1
 obtain ⟨g2, c2, e2, b2, l2, p2, q2, s2⟩ := own_put h.o2 h2
 have hb1 : x1.ownBlock = some g1 := by rw [e1]; rfl
 have hb2 : x2.ownBlock = some g2 := by rw [e2]; rfl
 have hne : g1 ≠ g2 := by
  rcases h.ne with h3 | h3
  ·rw [hb1] at h3; cases h3
  ·rw [hb1, hb2] at h3
   exact fun e => h3 (by rw [e])
 refine ⟨g1, c1, g2, c2, e1, e2, hne, p1, q1, p2, q2, fun a b => ⟨?_, ?_⟩⟩
 ·have r1 := h.rne1
  have r2 := h.rne2
  rw [hb1] at r1
  rw [hb2] at r2
  refine ⟨?_, ?_, ?_, h.ne, (h.bl.setCell b1 _).setCell b2 _, h.rb0⟩
  ·exact blk_far (p := ⟨g2, k, none⟩) (blk_far (p := ⟨g1, k, none⟩) h.blk (fun e => r1 (by rw [e])) _) (fun e => r2 (by rw [e])) _
  ·exact own_setCell (p := ⟨g2, k, none⟩) (s1 a) (by rw [hb1]; exact fun e => hne (by injection e with e; exact e.symm)) _
  ·have h3 : (w.setCell ⟨g1, k, none⟩ (.bool a)).ownsRow w0.heap.size 4 1 x2 gd.length (encs Value.bool gd) := own_setCell (p := ⟨g1, k, none⟩) h.o2 (by rw [hb2]; exact fun e => hne (by injection e)) _
   obtain ⟨g3, c3, e3, _, _, _, _, s3⟩ := own_put h3 h2
   rw [e2] at e3
   injection e3 with e3 _ _
   injection e3 with e3
   injection e3 with e3
   subst e3
   exact s3 b
 ·exact ⟨((Kept.refl w _).setCell (p := ⟨g1, k, none⟩) (.inl (.inl hb1.symm)) _).setCell (p := ⟨g2, k, none⟩) (.inl (.inr (.inl hb2.symm))) _, fun _ e => .inl e.symm, fun _ e => .inl e.symm⟩
theorem Rdr.putL {w0 w : World} {rb k : Nat} {sv lt : Int} {sd gd : List Bool} {x1 x2 : Value} (h : Rdr w0 w rb sv lt sd gd x1 x2) (h1 : k < sd.length) (h2 : k < gd.length) :
  ∃ g1 c1 g2 c2, x1 = .slice (some ⟨g1, 0, none⟩) sd.length c1 ∧ x2 = .slice (some ⟨g2, 0, none⟩) gd.length c2 ∧ g1 ≠ g2 ∧ w.cell? ⟨g1, k, none⟩ = some (.bool (sd.getD k false)) ∧ w.frozen? ⟨g1, k, none⟩ = false ∧ w.cell? ⟨g2, k, none⟩ = some (.bool (gd.getD k false)) ∧ w.frozen? ⟨g2, k, none⟩ = false ∧
   ∀ W, Below w.heap.size w W → ∀ a b, Rdr w0 ((W.setCell ⟨g1, k, none⟩ (.bool a)).setCell ⟨g2, k, none⟩ (.bool b)) rb sv lt (sd.set k a) (gd.set k b) x1 x2 ∧ Fr w rb x1 x2 ((W.setCell ⟨g1, k, none⟩ (.bool a)).setCell ⟨g2, k, none⟩ (.bool b)) x1 x2 := by
 obtain ⟨g1, c1, g2, c2, e1, e2, r⟩ := h.put h1 h2
 refine ⟨g1, c1, g2, c2, e1, e2, r.1, r.2.1, r.2.2.1, r.2.2.2.1, r.2.2.2.2.1, fun W hW a b => ?_⟩
 obtain ⟨g3, c3, g4, c4, e3, e4, s⟩ := (h.below hW).put h1 h2
 have q1 : g3 = g1 := by rw [e1] at e3; injection e3 with e3 _ _; injection e3 with e3; injection e3 with e3; exact e3.symm
 have q2 : g4 = g2 := by rw [e2] at e4; injection e4 with e4 _ _; injection e4 with e4; injection e4 with e4; exact e4.symm
 subst q1 q2
 have s2 := s.2.2.2.2.2 a b
 refine ⟨s2.1, ?_⟩
 have hF : Fr w rb x1 x2 W x1 x2 := ⟨Kept.of_below hW _, fun _ e => .inl e.symm, fun _ e => .inl e.symm⟩
 exact hF.trans s2.2
theorem set_mid (a b : List Bool) (x y : Bool) : (a ++ [x] ++ b).set a.length y = a ++ [y] ++ b := by
 rw [List.append_assoc, List.set_append_right _ _ (Nat.le_refl _), Nat.sub_self]
 simp
end Go.Proofs.Ytapejnikpmfddaa.X
