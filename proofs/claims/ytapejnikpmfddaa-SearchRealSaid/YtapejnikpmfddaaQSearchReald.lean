/- A part of the claim SearchReal. -/
import Derived.Test.YtapejnikpmfddaaQSearchRealc
set_option linter.unusedVariables false
set_option linter.unusedSimpArgs false
set_option maxHeartbeats 8000000
set_option maxRecDepth 100000
namespace Go.Proofs.Ytapejnikpmfddaa.P
open Go.RowKit Go.Proofs.YtapejnikpmfddaaW.PrintWords Go.Proofs.YtapejnikpmfddaaW.PrintLast Go.Proofs.YtapejnikpmfddaaW.PrintMore
attribute [local go_sem] max2_int min2_int max_two min_two max_three min_three max_four min_four

open Go.Proofs.Ytapejnikpmfddaa.X
def formula_Times.f (k : Nat) (a0_0 : Int) (a0_1 : Int) (l0_2 : List (S29)) : Option ((List (S29))) := (formula_May.f a0_0 a0_1 l0_2).bind fun t172 => (if t172 = 0 then ((formula_times.f k a0_0 a0_1 l0_2).bind fun t173 => (some t173)) else (some ([] : List (S29))))
theorem formula_Times.calls (k : Nat) (a0_0 : Int) (a0_1 : Int) (A0_2 : Option Addr) (c0_2 : Nat) (l0_2 : List (S29)) (r : List (S29)) (w : World) (hr0_2 : Kd.C k29 w A0_2 l0_2.length l0_2) (hc0_2 : l0_2.length ≤ c0_2) (h : formula_Times.f k a0_0 a0_1 l0_2 = some r) :
  Calls Try.prog 43 #[.agg #[.int .i64 a0_0, .int .i64 a0_1, .slice A0_2 l0_2.length c0_2]] w fun e w' => ∃ v0_ : Value, e = .returned (v0_) ∧ Kd.N k29 29 w' w.heap.size (fun k_ => (w.heap.size ≤ k_)) v0_ r ∧ Below w.heap.size w w' := by
 have hu29 := Try.underlying29
 have HR0_2 := Zd.mk hr0_2
 have HC0_2 := Zd.mk hc0_2
 clear hr0_2 hc0_2
 have HB := Zd.mk (Below.refl w.heap.size w)
 have H : ((formula_May.f a0_0 a0_1 l0_2).bind fun t172 => (if t172 = 0 then ((formula_times.f k a0_0 a0_1 l0_2).bind fun t173 => (some t173)) else (some ([] : List (S29))))) = some r := h
 clear h
 replace H := Option.bind_eq_some_iff.mp H
 obtain ⟨t172, A20, H⟩ := H
 replace H : (if t172 = 0 then ((formula_times.f k a0_0 a0_1 l0_2).bind fun t173 => (some t173)) else (some ([] : List (S29)))) = some r := H
 have A2 := Zd.mk A20
 clear A20
 by_cases c3 : t172 = 0
 ·rw [if_pos c3] at H
  have c3b0 : (t172 == 0) = true := beq_iff_eq.mpr c3
  have c3b1 : (t172 != 0) = false := bne_eq_false_iff_eq.mpr c3
  clear c3
  replace H := Option.bind_eq_some_iff.mp H
  obtain ⟨t173, A40, H⟩ := H
  replace H : (some t173) = some r := H
  have A4 := Zd.mk A40
  clear A40
  obtain rfl := Option.some.inj H
  go_enter Try.func43, Try.ntmps43
  go_wp2_with (first | ((with_reducible refine gate_dst (N := 1) rfl ?_); refine box_event ?hg (N := 1) ?hd (cs := #[.int .i64 a0_0, .int .i64 a0_1, .slice A0_2 l0_2.length c0_2]) (t := 29) ?hr ?_; (case hd => rfl); (case hg => rfl); (case hr => first | (go_simp; done) | (go_simp; rfl)); intro gb171 hg w5 hbox hb; have n0_ := Zd.mk (bt_ B_ hb); have n1_ := Zd.mk (hbox); have n2_ := Zd.mk ((by rw [hg]; exact (bs_ B_) : w.heap.size ≤ gb171)); have n3_ := Zd.mk ((by rw [hg]; exact (bs_ B_) : w.heap.size ≤ gb171)); clear HB; have HB := n0_; have BK171 := n1_; have GW171 := n2_; have GE171 := n3_; clear n0_ n1_ n2_ n3_; clear hb hbox hg; have hcz6_0 : w5.cell? ⟨gb171, 0, none⟩ = some (.int .i64 a0_0) := (bq_ BK171.out 0).trans rfl; have hcz6_1 : w5.cell? ⟨gb171, 1, none⟩ = some (.int .i64 a0_1) := (bq_ BK171.out 1).trans rfl; have hcz6_2 : w5.cell? ⟨gb171, 2, none⟩ = some (.slice A0_2 l0_2.length c0_2) := (bq_ BK171.out 2).trans rfl; have hfz6_0 := bz_ BK171.out 0; have hfz6_1 := bz_ BK171.out 1; have hfz6_2 := bz_ BK171.out 2) | ((with_reducible refine gate_callee (f := 9) rfl ?_); refine goesL_ (some 4) rfl rfl Try.func9 (by kernel_rfl) rfl #[.agg #[.int .i64 a0_0, .int .i64 a0_1, .slice A0_2 l0_2.length c0_2]] rfl (by (try simp only [List.map_toArray, List.map_cons, List.map_nil]); first | done | rfl | (simp only [List.length_drop, List.length_take]; rfl)) ?_; (with_reducible refine (formula_May.calls a0_0 a0_1 _ _ l0_2 t172 _ ?side1 ?side2 A2.out).mono ?_); (case side1 => exact Kd.C_below HR0_2.out B_); (case side2 => exact HC0_2.out); rintro e w7 ⟨rfl, hb⟩; refine ⟨_, rfl, ?_⟩; have n0_ := Zd.mk (bb_ (g := gb171) (o := .cells #[.int .i64 a0_0, .int .i64 a0_1, .slice A0_2 l0_2.length c0_2] 29 (0, 0)) K_ hb); have n1_ := Zd.mk (bt_ B_ hb); clear BK171; clear HB; have BK171 := n0_; have HB := n1_; clear n0_ n1_; (try clear hb); (try clear hb2); (try clear hk); (try clear hi); have hcz8_0 : w7.cell? ⟨gb171, 0, none⟩ = some (.int .i64 a0_0) := (bq_ BK171.out 0).trans rfl; have hcz8_1 : w7.cell? ⟨gb171, 1, none⟩ = some (.int .i64 a0_1) := (bq_ BK171.out 1).trans rfl; have hcz8_2 : w7.cell? ⟨gb171, 2, none⟩ = some (.slice A0_2 l0_2.length c0_2) := (bq_ BK171.out 2).trans rfl; have hfz8_0 := bz_ BK171.out 0; have hfz8_1 := bz_ BK171.out 1; have hfz8_2 := bz_ BK171.out 2) | ((with_reducible refine gate_callee (f := 61) rfl ?_); refine goesL_ (some 7) rfl rfl Try.func61 (by kernel_rfl) rfl #[.agg #[.int .i64 a0_0, .int .i64 a0_1, .slice A0_2 l0_2.length c0_2]] rfl (by (try simp only [List.map_toArray, List.map_cons, List.map_nil]); first | done | rfl | (simp only [List.length_drop, List.length_take]; rfl)) ?_; (with_reducible refine (formula_times.calls k a0_0 a0_1 _ _ l0_2 t173 _ ?side1 ?side2 A4.out).mono ?_); (case side1 => exact Kd.C_below HR0_2.out B_); (case side2 => exact HC0_2.out); rintro e w9 ⟨v174, rfl, ho0, hb⟩; refine ⟨_, rfl, ?_⟩; have n0_ := Zd.mk (Kd.N_lower (Kd.N_mono (ok' := fun k_ => (w.heap.size ≤ k_) ∧ k_ ≠ gb171) ho0 (fun k_ hk_ => ⟨(Nat.le_trans (bs_ B_) hk_), (Kd.freshB (g := gb171) (o := .cells #[.int .i64 a0_0, .int .i64 a0_1, .slice A0_2 l0_2.length c0_2] 29 (0, 0)) K_ k_ hk_)⟩)) (bs_ B_)); have n1_ := Zd.mk (bb_ (g := gb171) (o := .cells #[.int .i64 a0_0, .int .i64 a0_1, .slice A0_2 l0_2.length c0_2] 29 (0, 0)) K_ hb); have n2_ := Zd.mk (bt_ B_ hb); clear BK171; clear HB; have HO175 := n0_; have BK171 := n1_; have HB := n2_; clear n0_ n1_ n2_; (try clear hb); (try clear hb2); (try clear hk); (try clear hi); (try clear ho0)))
  go_ret
  exact ⟨_, by first | rfl | (simp [errW_none, errW_some] <;> rfl) | (simp [*, errW_none, errW_some] <;> rfl), by (with_reducible repeat (first | apply Kd.N_alloc | apply Kd.N_drewN | apply Kd.N_drew)); exact Kd.N_mono HO175.out (fun _ hk => hk.1), B_⟩
 ·rw [if_neg c3] at H
  have c3b0 : (t172 == 0) = false := beq_eq_false_iff_ne.mpr c3
  have c3b1 : (t172 != 0) = true := bne_iff_ne.mpr c3
  obtain rfl := Option.some.inj H
  go_enter Try.func43, Try.ntmps43
  go_wp2_with (first | ((with_reducible refine gate_dst (N := 1) rfl ?_); refine box_event ?hg (N := 1) ?hd (cs := #[.int .i64 a0_0, .int .i64 a0_1, .slice A0_2 l0_2.length c0_2]) (t := 29) ?hr ?_; (case hd => rfl); (case hg => rfl); (case hr => first | (go_simp; done) | (go_simp; rfl)); intro gb171 hg w10 hbox hb; have n0_ := Zd.mk (bt_ B_ hb); have n1_ := Zd.mk (hbox); have n2_ := Zd.mk ((by rw [hg]; exact (bs_ B_) : w.heap.size ≤ gb171)); have n3_ := Zd.mk ((by rw [hg]; exact (bs_ B_) : w.heap.size ≤ gb171)); clear HB; have HB := n0_; have BK171 := n1_; have GW171 := n2_; have GE171 := n3_; clear n0_ n1_ n2_ n3_; clear hb hbox hg; have hcz11_0 : w10.cell? ⟨gb171, 0, none⟩ = some (.int .i64 a0_0) := (bq_ BK171.out 0).trans rfl; have hcz11_1 : w10.cell? ⟨gb171, 1, none⟩ = some (.int .i64 a0_1) := (bq_ BK171.out 1).trans rfl; have hcz11_2 : w10.cell? ⟨gb171, 2, none⟩ = some (.slice A0_2 l0_2.length c0_2) := (bq_ BK171.out 2).trans rfl; have hfz11_0 := bz_ BK171.out 0; have hfz11_1 := bz_ BK171.out 1; have hfz11_2 := bz_ BK171.out 2) | ((with_reducible refine gate_callee (f := 9) rfl ?_); refine goesL_ (some 4) rfl rfl Try.func9 (by kernel_rfl) rfl #[.agg #[.int .i64 a0_0, .int .i64 a0_1, .slice A0_2 l0_2.length c0_2]] rfl (by (try simp only [List.map_toArray, List.map_cons, List.map_nil]); first | done | rfl | (simp only [List.length_drop, List.length_take]; rfl)) ?_; (with_reducible refine (formula_May.calls a0_0 a0_1 _ _ l0_2 t172 _ ?side1 ?side2 A2.out).mono ?_); (case side1 => exact Kd.C_below HR0_2.out B_); (case side2 => exact HC0_2.out); rintro e w12 ⟨rfl, hb⟩; refine ⟨_, rfl, ?_⟩; have n0_ := Zd.mk (bb_ (g := gb171) (o := .cells #[.int .i64 a0_0, .int .i64 a0_1, .slice A0_2 l0_2.length c0_2] 29 (0, 0)) K_ hb); have n1_ := Zd.mk (bt_ B_ hb); clear BK171; clear HB; have BK171 := n0_; have HB := n1_; clear n0_ n1_; (try clear hb); (try clear hb2); (try clear hk); (try clear hi)))
  go_ret
  exact ⟨_, by first | rfl | (simp [errW_none, errW_some] <;> rfl) | (simp [*, errW_none, errW_some] <;> rfl), by first | exact Kd.R_nil _ _ _ _ _ | exact Kd.N_nil _ _ _ _ _ | exact Kd.V_nil _ _ _ _ _ | exact Kd.Q_nil _ _ _ _ _ | exact Kd.S_nil _ _ _ _ _, B_⟩

def tableau_Size.f (k : Nat) (a0_0 : Int) (a0_1 : Int) (l0_2 : List (S29)) : Option (Int) := (formula_May.f a0_0 a0_1 l0_2).bind fun t177 => (if t177 = 0 then ((formula_Times.f k a0_0 a0_1 l0_2).bind fun t178 => (some (shl .i64 1 (t178.length : Int)))) else (some 0))
theorem tableau_Size.calls (k : Nat) (a0_0 : Int) (a0_1 : Int) (A0_2 : Option Addr) (c0_2 : Nat) (l0_2 : List (S29)) (r : Int) (w : World) (hr0_2 : Kd.C k29 w A0_2 l0_2.length l0_2) (hc0_2 : l0_2.length ≤ c0_2) (h : tableau_Size.f k a0_0 a0_1 l0_2 = some r) :
  Calls Try.prog 42 #[.agg #[.int .i64 a0_0, .int .i64 a0_1, .slice A0_2 l0_2.length c0_2]] w fun e w' => e = .returned (.int .i64 r) ∧ Below w.heap.size w w' := by
 have hu29 := Try.underlying29
 have HR0_2 := Zd.mk hr0_2
 have HC0_2 := Zd.mk hc0_2
 clear hr0_2 hc0_2
 have HB := Zd.mk (Below.refl w.heap.size w)
 have H : ((formula_May.f a0_0 a0_1 l0_2).bind fun t177 => (if t177 = 0 then ((formula_Times.f k a0_0 a0_1 l0_2).bind fun t178 => (some (shl .i64 1 (t178.length : Int)))) else (some 0))) = some r := h
 clear h
 replace H := Option.bind_eq_some_iff.mp H
 obtain ⟨t177, A20, H⟩ := H
 replace H : (if t177 = 0 then ((formula_Times.f k a0_0 a0_1 l0_2).bind fun t178 => (some (shl .i64 1 (t178.length : Int)))) else (some 0)) = some r := H
 have A2 := Zd.mk A20
 clear A20
 by_cases c3 : t177 = 0
 ·rw [if_pos c3] at H
  have c3b0 : (t177 == 0) = true := beq_iff_eq.mpr c3
  have c3b1 : (t177 != 0) = false := bne_eq_false_iff_eq.mpr c3
  clear c3
  replace H := Option.bind_eq_some_iff.mp H
  obtain ⟨t178, A40, H⟩ := H
  replace H : (some (shl .i64 1 (t178.length : Int))) = some r := H
  have A4 := Zd.mk A40
  clear A40
  obtain ⟨ji5, hji5⟩ : ∃ j_ : Int, (shl .i64 1 (t178.length : Int)) = j_ := ⟨_, rfl⟩
  replace H : (some ji5) = some r := by first | (rw [hji5] at H; exact H) | (simp only [hji5] at H ⊢; exact H)
  (try rw [hji5] at A2)
  (try rw [hji5] at A4)
  have hji5_ : (IntKind.i64.wrap (1 * 2 ^ min (t178.length : Int).toNat 64)) = ji5 := hji5
  have hji5z : (t178.length : Int) ≤ 64 → (IntKind.i64.wrap (1 * 2 ^ (t178.length : Int).toNat)) = ji5 := shl_small hji5
  have hji5p : (IntKind.i64.wrap (1 * 2 ^ min t178.length 64)) = ji5 := hji5_
  have hji5q : (t178.length : Int) ≤ 64 → (IntKind.i64.wrap (1 * 2 ^ t178.length)) = ji5 := hji5z
  have hji5r : (IntKind.i64.wrap (2 ^ min t178.length 64)) = ji5 := by have h_ := hji5p; rw [Int.one_mul] at h_; exact h_
  have hji5s : (t178.length : Int) ≤ 64 → (IntKind.i64.wrap (2 ^ t178.length)) = ji5 := fun hle_ => by have h_ := hji5q hle_; rw [Int.one_mul] at h_; exact h_
  have hji5u : (IntKind.i64.wrap (2 ^ min (t178.length : Int).toNat 64)) = ji5 := by have h_ := hji5_; rw [Int.one_mul] at h_; exact h_
  have hji5v : (t178.length : Int) ≤ 64 → (IntKind.i64.wrap (2 ^ (t178.length : Int).toNat)) = ji5 := fun hle_ => by have h_ := hji5z hle_; rw [Int.one_mul] at h_; exact h_
  have hji5y : (wrap64 (1 * 2 ^ min (t178.length : Int).toNat 64)) = ji5 := (i64_w _).symm.trans hji5_
  have hji5x : (t178.length : Int) ≤ 64 → (wrap64 (1 * 2 ^ (t178.length : Int).toNat)) = ji5 := fun h_ => (i64_w _).symm.trans (hji5z h_)
  obtain rfl := Option.some.inj H
  go_enter Try.func42, Try.ntmps42
  go_wp2_with (first | ((with_reducible refine gate_dst (N := 1) rfl ?_); refine box_event ?hg (N := 1) ?hd (cs := #[.int .i64 a0_0, .int .i64 a0_1, .slice A0_2 l0_2.length c0_2]) (t := 29) ?hr ?_; (case hd => rfl); (case hg => rfl); (case hr => first | (go_simp; done) | (go_simp; rfl)); intro gb176 hg w6 hbox hb; have n0_ := Zd.mk (bt_ B_ hb); have n1_ := Zd.mk (hbox); have n2_ := Zd.mk ((by rw [hg]; exact (bs_ B_) : w.heap.size ≤ gb176)); have n3_ := Zd.mk ((by rw [hg]; exact (bs_ B_) : w.heap.size ≤ gb176)); clear HB; have HB := n0_; have BK176 := n1_; have GW176 := n2_; have GE176 := n3_; clear n0_ n1_ n2_ n3_; clear hb hbox hg; have hcz7_0 : w6.cell? ⟨gb176, 0, none⟩ = some (.int .i64 a0_0) := (bq_ BK176.out 0).trans rfl; have hcz7_1 : w6.cell? ⟨gb176, 1, none⟩ = some (.int .i64 a0_1) := (bq_ BK176.out 1).trans rfl; have hcz7_2 : w6.cell? ⟨gb176, 2, none⟩ = some (.slice A0_2 l0_2.length c0_2) := (bq_ BK176.out 2).trans rfl; have hfz7_0 := bz_ BK176.out 0; have hfz7_1 := bz_ BK176.out 1; have hfz7_2 := bz_ BK176.out 2) | ((with_reducible refine gate_callee (f := 9) rfl ?_); refine goesL_ (some 4) rfl rfl Try.func9 (by kernel_rfl) rfl #[.agg #[.int .i64 a0_0, .int .i64 a0_1, .slice A0_2 l0_2.length c0_2]] rfl (by (try simp only [List.map_toArray, List.map_cons, List.map_nil]); first | done | rfl | (simp only [List.length_drop, List.length_take]; rfl)) ?_; (with_reducible refine (formula_May.calls a0_0 a0_1 _ _ l0_2 t177 _ ?side1 ?side2 A2.out).mono ?_); (case side1 => exact Kd.C_below HR0_2.out B_); (case side2 => exact HC0_2.out); rintro e w8 ⟨rfl, hb⟩; refine ⟨_, rfl, ?_⟩; have n0_ := Zd.mk (bb_ (g := gb176) (o := .cells #[.int .i64 a0_0, .int .i64 a0_1, .slice A0_2 l0_2.length c0_2] 29 (0, 0)) K_ hb); have n1_ := Zd.mk (bt_ B_ hb); clear BK176; clear HB; have BK176 := n0_; have HB := n1_; clear n0_ n1_; (try clear hb); (try clear hb2); (try clear hk); (try clear hi); have hcz9_0 : w8.cell? ⟨gb176, 0, none⟩ = some (.int .i64 a0_0) := (bq_ BK176.out 0).trans rfl; have hcz9_1 : w8.cell? ⟨gb176, 1, none⟩ = some (.int .i64 a0_1) := (bq_ BK176.out 1).trans rfl; have hcz9_2 : w8.cell? ⟨gb176, 2, none⟩ = some (.slice A0_2 l0_2.length c0_2) := (bq_ BK176.out 2).trans rfl; have hfz9_0 := bz_ BK176.out 0; have hfz9_1 := bz_ BK176.out 1; have hfz9_2 := bz_ BK176.out 2) | ((with_reducible refine gate_callee (f := 43) rfl ?_); refine goesL_ (some 7) rfl rfl Try.func43 (by kernel_rfl) rfl #[.agg #[.int .i64 a0_0, .int .i64 a0_1, .slice A0_2 l0_2.length c0_2]] rfl (by (try simp only [List.map_toArray, List.map_cons, List.map_nil]); first | done | rfl | (simp only [List.length_drop, List.length_take]; rfl)) ?_; (with_reducible refine (formula_Times.calls k a0_0 a0_1 _ _ l0_2 t178 _ ?side1 ?side2 A4.out).mono ?_); (case side1 => exact Kd.C_below HR0_2.out B_); (case side2 => exact HC0_2.out); rintro e w10 ⟨v179, rfl, ho0, hb⟩; refine ⟨_, rfl, ?_⟩; have n0_ := Zd.mk (Kd.N_lower (Kd.N_mono (ok' := fun k_ => k_ ≠ gb176) ho0 (fun k_ hk_ => (Kd.freshB (g := gb176) (o := .cells #[.int .i64 a0_0, .int .i64 a0_1, .slice A0_2 l0_2.length c0_2] 29 (0, 0)) K_ k_ hk_))) (bs_ B_)); have n1_ := Zd.mk (bb_ (g := gb176) (o := .cells #[.int .i64 a0_0, .int .i64 a0_1, .slice A0_2 l0_2.length c0_2] 29 (0, 0)) K_ hb); have n2_ := Zd.mk (bt_ B_ hb); clear BK176; clear HB; have HO180 := n0_; have BK176 := n1_; have HB := n2_; clear n0_ n1_ n2_; (try clear hb); (try clear hb2); (try clear hk); (try clear hi); (try clear ho0); obtain ⟨Ao11, co11, eo11⟩ := Kd.N_slice HO180.out; subst eo11))
  go_ret
  exact ⟨by first | rfl | (simp [errW_none, errW_some] <;> rfl) | (simp only [← hji5]; first | rfl | (simp [errW_none, errW_some] <;> rfl)) | (simp [*, errW_none, errW_some] <;> rfl), B_⟩
 ·rw [if_neg c3] at H
  have c3b0 : (t177 == 0) = false := beq_eq_false_iff_ne.mpr c3
  have c3b1 : (t177 != 0) = true := bne_iff_ne.mpr c3
  obtain rfl := Option.some.inj H
  go_enter Try.func42, Try.ntmps42
  go_wp2_with (first | ((with_reducible refine gate_dst (N := 1) rfl ?_); refine box_event ?hg (N := 1) ?hd (cs := #[.int .i64 a0_0, .int .i64 a0_1, .slice A0_2 l0_2.length c0_2]) (t := 29) ?hr ?_; (case hd => rfl); (case hg => rfl); (case hr => first | (go_simp; done) | (go_simp; rfl)); intro gb176 hg w12 hbox hb; have n0_ := Zd.mk (bt_ B_ hb); have n1_ := Zd.mk (hbox); have n2_ := Zd.mk ((by rw [hg]; exact (bs_ B_) : w.heap.size ≤ gb176)); have n3_ := Zd.mk ((by rw [hg]; exact (bs_ B_) : w.heap.size ≤ gb176)); clear HB; have HB := n0_; have BK176 := n1_; have GW176 := n2_; have GE176 := n3_; clear n0_ n1_ n2_ n3_; clear hb hbox hg; have hcz13_0 : w12.cell? ⟨gb176, 0, none⟩ = some (.int .i64 a0_0) := (bq_ BK176.out 0).trans rfl; have hcz13_1 : w12.cell? ⟨gb176, 1, none⟩ = some (.int .i64 a0_1) := (bq_ BK176.out 1).trans rfl; have hcz13_2 : w12.cell? ⟨gb176, 2, none⟩ = some (.slice A0_2 l0_2.length c0_2) := (bq_ BK176.out 2).trans rfl; have hfz13_0 := bz_ BK176.out 0; have hfz13_1 := bz_ BK176.out 1; have hfz13_2 := bz_ BK176.out 2) | ((with_reducible refine gate_callee (f := 9) rfl ?_); refine goesL_ (some 4) rfl rfl Try.func9 (by kernel_rfl) rfl #[.agg #[.int .i64 a0_0, .int .i64 a0_1, .slice A0_2 l0_2.length c0_2]] rfl (by (try simp only [List.map_toArray, List.map_cons, List.map_nil]); first | done | rfl | (simp only [List.length_drop, List.length_take]; rfl)) ?_; (with_reducible refine (formula_May.calls a0_0 a0_1 _ _ l0_2 t177 _ ?side1 ?side2 A2.out).mono ?_); (case side1 => exact Kd.C_below HR0_2.out B_); (case side2 => exact HC0_2.out); rintro e w14 ⟨rfl, hb⟩; refine ⟨_, rfl, ?_⟩; have n0_ := Zd.mk (bb_ (g := gb176) (o := .cells #[.int .i64 a0_0, .int .i64 a0_1, .slice A0_2 l0_2.length c0_2] 29 (0, 0)) K_ hb); have n1_ := Zd.mk (bt_ B_ hb); clear BK176; clear HB; have BK176 := n0_; have HB := n1_; clear n0_ n1_; (try clear hb); (try clear hb2); (try clear hk); (try clear hi)))
  go_ret
  exact ⟨by first | rfl | (simp [errW_none, errW_some] <;> rfl) | (simp [*, errW_none, errW_some] <;> rfl), B_⟩

attribute [local go_sem] max2_int min2_int max_two min_two max_three min_three max_four min_four

def tableau_state.f (k : Nat) (a0_0 : Int) (a0_1 : Int) (l0_2 : List (S29)) (a1 : Int) : Option (Bool) := if a1 ≥ 0 then ((tableau_Size.f k a0_0 a0_1 l0_2).bind fun t182 => (some (decide (a1 < t182)))) else (some false)
theorem tableau_state.calls (k : Nat) (a0_0 : Int) (a0_1 : Int) (A0_2 : Option Addr) (c0_2 : Nat) (l0_2 : List (S29)) (a1 : Int) (r : Bool) (w : World) (hr0_2 : Kd.C k29 w A0_2 l0_2.length l0_2) (hc0_2 : l0_2.length ≤ c0_2) (h : tableau_state.f k a0_0 a0_1 l0_2 a1 = some r) :
  Calls Try.prog 86 #[.agg #[.int .i64 a0_0, .int .i64 a0_1, .slice A0_2 l0_2.length c0_2], .int .i64 a1] w fun e w' => e = .returned (.bool r) ∧ Below w.heap.size w w' := by
 have hu29 := Try.underlying29
 have HR0_2 := Zd.mk hr0_2
 have HC0_2 := Zd.mk hc0_2
 clear hr0_2 hc0_2
 have HB := Zd.mk (Below.refl w.heap.size w)
 have H : (if a1 ≥ 0 then ((tableau_Size.f k a0_0 a0_1 l0_2).bind fun t182 => (some (decide (a1 < t182)))) else (some false)) = some r := h
 clear h
 by_cases c3 : a1 ≥ 0
 ·rw [if_pos c3] at H
  have c3b0 : decide (0 ≤ a1) = true := decide_eq_true c3
  clear c3
  replace H := Option.bind_eq_some_iff.mp H
  obtain ⟨t182, A40, H⟩ := H
  replace H : (some (decide (a1 < t182))) = some r := H
  have A4 := Zd.mk A40
  clear A40
  obtain rfl := Option.some.inj H
  go_enter Try.func86, Try.ntmps86
  go_wp2_with (first | ((with_reducible refine gate_dst (N := 2) rfl ?_); refine box_event ?hg (N := 2) ?hd (cs := #[.int .i64 a0_0, .int .i64 a0_1, .slice A0_2 l0_2.length c0_2]) (t := 29) ?hr ?_; (case hd => rfl); (case hg => rfl); (case hr => first | (go_simp; done) | (go_simp; rfl)); intro gb181 hg w5 hbox hb; have n0_ := Zd.mk (bt_ B_ hb); have n1_ := Zd.mk (hbox); have n2_ := Zd.mk ((by rw [hg]; exact (bs_ B_) : w.heap.size ≤ gb181)); have n3_ := Zd.mk ((by rw [hg]; exact (bs_ B_) : w.heap.size ≤ gb181)); clear HB; have HB := n0_; have BK181 := n1_; have GW181 := n2_; have GE181 := n3_; clear n0_ n1_ n2_ n3_; clear hb hbox hg; have hcz6_0 : w5.cell? ⟨gb181, 0, none⟩ = some (.int .i64 a0_0) := (bq_ BK181.out 0).trans rfl; have hcz6_1 : w5.cell? ⟨gb181, 1, none⟩ = some (.int .i64 a0_1) := (bq_ BK181.out 1).trans rfl; have hcz6_2 : w5.cell? ⟨gb181, 2, none⟩ = some (.slice A0_2 l0_2.length c0_2) := (bq_ BK181.out 2).trans rfl; have hfz6_0 := bz_ BK181.out 0; have hfz6_1 := bz_ BK181.out 1; have hfz6_2 := bz_ BK181.out 2) | (go_at_call 42; (with_reducible refine (tableau_Size.calls k a0_0 a0_1 _ _ l0_2 t182 _ ?side1 ?side2 A4.out).mono ?_); (case side1 => exact Kd.C_below HR0_2.out B_); (case side2 => exact HC0_2.out); rintro e w7 ⟨rfl, hb⟩; have n0_ := Zd.mk (bb_ (g := gb181) (o := .cells #[.int .i64 a0_0, .int .i64 a0_1, .slice A0_2 l0_2.length c0_2] 29 (0, 0)) K_ hb); have n1_ := Zd.mk (bt_ B_ hb); clear BK181; clear HB; have BK181 := n0_; have HB := n1_; clear n0_ n1_; (try clear hb); (try clear hb2); (try clear hk); (try clear hi)))
  go_ret
  exact ⟨by first | rfl | (simp [errW_none, errW_some] <;> rfl) | (simp [*, errW_none, errW_some] <;> rfl), B_⟩
 ·rw [if_neg c3] at H
  have c3b0 : decide (0 ≤ a1) = false := decide_eq_false c3
  clear c3
  obtain rfl := Option.some.inj H
  go_enter Try.func86, Try.ntmps86
  go_wp2_with (first | ((with_reducible refine gate_dst (N := 2) rfl ?_); refine box_event ?hg (N := 2) ?hd (cs := #[.int .i64 a0_0, .int .i64 a0_1, .slice A0_2 l0_2.length c0_2]) (t := 29) ?hr ?_; (case hd => rfl); (case hg => rfl); (case hr => first | (go_simp; done) | (go_simp; rfl)); intro gb181 hg w8 hbox hb; have n0_ := Zd.mk (bt_ B_ hb); have n1_ := Zd.mk (hbox); have n2_ := Zd.mk ((by rw [hg]; exact (bs_ B_) : w.heap.size ≤ gb181)); have n3_ := Zd.mk ((by rw [hg]; exact (bs_ B_) : w.heap.size ≤ gb181)); clear HB; have HB := n0_; have BK181 := n1_; have GW181 := n2_; have GE181 := n3_; clear n0_ n1_ n2_ n3_; clear hb hbox hg))
  go_ret
  exact ⟨by first | rfl | (simp [errW_none, errW_some] <;> rfl) | (simp [*, errW_none, errW_some] <;> rfl), B_⟩

end Go.Proofs.Ytapejnikpmfddaa.P
namespace Go.Proofs.Ytapejnikpmfddaa.X
open Go.RowKit Go.Proofs.YtapejnikpmfddaaW.PrintWords Go.Proofs.YtapejnikpmfddaaW.PrintMore
open Go.Proofs.Ytapejnikpmfddaa.P Go.Proofs.Ytapejnikpmfddaa.Evx
theorem eta_f (s : S29) : (⟨s.f0, s.f1, s.f2⟩ : S29) = s := by cases s; rfl
theorem may_some (s : S29) : formula_May.f s.f0 s.f1 s.f2 = some (mayF s) := by cases s; rfl
theorem copied_l (kids : List S29) (op m : Int) (hl : kids.length ≤ 60) (ih : ∀ k ∈ kids, Ev (fun n => formula_copied.f n k.f0 k.f1 k.f2) (k.f0, k.f1, k.f2)) :
  ∀ (d j : Nat) (acc : List S29), j + d = kids.length → acc = kids.take j → Ev (fun n => formula_copied.l0 n kids (kids.length : Int) j op m acc) (op, m, kids)
 | 0, j, acc, hj, ha => by
  refine ev_step (fun k => rfl) (ev_neg (by omega) ?_)
  refine ev_eq (ev_some _) ?_
  rw [ha, List.take_of_length_le (by omega)]
 | d + 1, j, acc, hj, ha => by
  have hlt : j < kids.length := by omega
  refine ev_step (fun k => rfl) (ev_pos (by omega) (ev_pos (by omega) (ev_pos (by omega) ?_)))
  rw [rdT_nat kids j hlt]
  refine ev_bind (ih _ (List.getElem_mem hlt)) ?_
  refine ev_pos (by rw [ha, List.length_take]; omega) ?_
  rw [w64 (by omega) (by omega)]
  have := copied_l kids op m hl ih d (j + 1) (acc ++ [⟨(kids[j]'hlt).f0, (kids[j]'hlt).f1, (kids[j]'hlt).f2⟩]) (by omega) (by rw [ha, List.take_succ_eq_append_getElem hlt, eta_f])
  exact_mod_cast this
mutual
theorem copied_ev : ∀ s : S29, soundS s = true → Ev (fun n => formula_copied.f n s.f0 s.f1 s.f2) (s.f0, s.f1, s.f2)
 | ⟨op, m, kids⟩, h => by
  refine ev_step (fun k => rfl) ?_
  exact copied_l kids op m (by have := sound_len h; simp only at this; omega) (copied_evL kids (sound_kids_all h)) kids.length 0 [] (by omega) rfl
theorem copied_evL : ∀ l : List S29, soundL l = true → ∀ k ∈ l, Ev (fun n => formula_copied.f n k.f0 k.f1 k.f2) (k.f0, k.f1, k.f2)
 | [], _, k, hk => by cases hk
 | a :: r, h, k, hk => by
  simp only [soundL, Bool.and_eq_true] at h
  rcases List.mem_cons.1 hk with e | e
  ·rw [e]; exact copied_ev a h.1
  ·exact copied_evL r h.2 k e
end
theorem times_l (kids : List S29) (T : List S29) (hT : T.length ≤ 1000) (hb : kids.length ≤ 60) (ih : ∀ k ∈ kids, Ev (fun n => formula_times.f n k.f0 k.f1 k.f2) (timesS k)) :
  ∀ (d j : Nat) (acc : List S29), j + d = kids.length → acc ++ timesL (kids.drop j) = T → Ev (fun n => formula_times.l0 n acc kids (kids.length : Int) j) T
 | 0, j, acc, hj, ha => by
  refine ev_step (fun k => rfl) (ev_neg (by omega) ?_)
  refine ev_eq (ev_some _) ?_
  rw [← ha, List.drop_eq_nil_of_le (by omega), timesL, List.append_nil]
 | d + 1, j, acc, hj, ha => by
  have hlt : j < kids.length := by omega
  have hd := List.drop_eq_getElem_cons hlt
  rw [hd, timesL, ← List.append_assoc] at ha
  refine ev_step (fun k => rfl) (ev_pos (by omega) (ev_pos (by omega) (ev_pos (by omega) ?_)))
  rw [rdT_nat kids j hlt]
  refine ev_bind (ih _ (List.getElem_mem hlt)) ?_
  refine ev_pos (by rw [← ha] at hT; simp only [List.length_append] at hT; omega) ?_
  rw [w64 (by omega) (by omega)]
  have := times_l kids T hT hb ih d (j + 1) (acc ++ timesS (kids[j]'hlt)) (by omega) ha
  exact_mod_cast this
mutual
theorem times_ev : ∀ s : S29, soundS s = true → tnS s ≤ 1000 → Ev (fun n => formula_times.f n s.f0 s.f1 s.f2) (timesS s)
 | ⟨op, m, kids⟩, h, ht => by
  have hk : kids.length ≤ 60 := by have := sound_len h; simp only at this; omega
  have hL : (timesS (⟨op, m, kids⟩ : S29)).length ≤ 1000 := by rw [len_times]; exact ht
  have h0 : ∀ (acc : List S29) (x y : Int), acc = (if timedS op = true then [(⟨op, m, kids⟩ : S29)] else []) → Ev (fun n => formula_times.j0 n acc x y kids) (timesS (⟨op, m, kids⟩ : S29)) := by
   intro acc x y ha
   refine ev_step (fun k => rfl) ?_
   exact times_l kids _ hL hk (times_evL kids (sound_kids_all h) (by simp only [tnS] at ht; omega)) kids.length 0 acc (by omega) (by rw [ha, timesS]; rfl)
  refine ev_step (fun k => rfl) ?_
  refine ev_bindv (timed_some op) (ev_bool (fun c => ?_) (fun c => ?_))
  ·refine ev_bind (copied_ev _ h) (ev_pos (by simp) ?_)
   exact h0 _ _ _ (by rw [if_pos c]; rfl)
  ·exact h0 _ _ _ (by rw [if_neg (by rw [c]; simp)])
theorem times_evL : ∀ l : List S29, soundL l = true → tnL l ≤ 1000 → ∀ k ∈ l, Ev (fun n => formula_times.f n k.f0 k.f1 k.f2) (timesS k)
 | [], _, _, k, hk => by cases hk
 | a :: r, h, ht, k, hk => by
  simp only [soundL, Bool.and_eq_true] at h
  simp only [tnL] at ht
  rcases List.mem_cons.1 hk with e | e
  ·rw [e]; exact times_ev a h.1 (by omega)
  ·exact times_evL r h.2 (by omega) k e
end
def TimesS (s : S29) : List S29 := if mayF s = 0 then timesS s else []
theorem Times_ev (s : S29) : Ev (fun n => formula_Times.f n s.f0 s.f1 s.f2) (TimesS s) := by
 unfold formula_Times.f
 refine ev_bindv (may_some s) (ev_ite (fun c => ?_) (fun c => ?_))
 ·have hz := may_zero c
  refine ev_bind (times_ev s hz.2.2.2 (by omega)) (ev_eq (ev_some _) ?_)
  unfold TimesS
  rw [if_pos c]
 ·exact ev_eq (ev_some _) (by unfold TimesS; rw [if_neg c])
theorem shl_one (n : Nat) (h : n ≤ 8) : shl .i64 1 (n : Int) = 2 ^ n := by
 have : n = 0 ∨ n = 1 ∨ n = 2 ∨ n = 3 ∨ n = 4 ∨ n = 5 ∨ n = 6 ∨ n = 7 ∨ n = 8 := by omega
 rcases this with h | h | h | h | h | h | h | h | h <;> subst h <;> decide
theorem Size_ev (s : S29) : Ev (fun n => tableau_Size.f n s.f0 s.f1 s.f2) (sizeS s) := by
 unfold tableau_Size.f
 refine ev_bindv (may_some s) (ev_ite (fun c => ?_) (fun c => ?_))
 ·have hz := may_zero c
  refine ev_bind (Times_ev s) (ev_eq (ev_some _) ?_)
  unfold TimesS sizeS
  rw [if_pos c, if_pos c, len_times, shl_one _ hz.2.2.1]
 ·exact ev_eq (ev_some _) (by unfold sizeS; rw [if_neg c])
theorem state_ev (s : S29) (sv : Int) : Ev (fun n => tableau_state.f n s.f0 s.f1 s.f2 sv) (stateS s sv) := by
 unfold tableau_state.f
 refine ev_ite (fun c => ?_) (fun c => ?_)
 ·refine ev_bind (Size_ev s) (ev_eq (ev_some _) ?_)
  unfold stateS
  rw [decide_eq_decide]
  omega
 ·refine ev_eq (ev_some _) ?_
  unfold stateS
  rw [decide_eq_false]
  omega
end Go.Proofs.Ytapejnikpmfddaa.X
namespace Go.Proofs.Ytapejnikpmfddaa.P
open Go.RowKit Go.Proofs.YtapejnikpmfddaaW.PrintWords Go.Proofs.YtapejnikpmfddaaW.PrintLast Go.Proofs.YtapejnikpmfddaaW.PrintMore
attribute [local go_sem] max2_int min2_int max_two min_two max_three min_three max_four min_four

mutual
def parrylaw22_weigh.j0 : Nat → Int → Int → Bool → Int → Int → List (S29) → Option (Int)
 | 0, _, _, _, _, _, _ => none
 | k + 1, x1, x2, x15, x102000, x102001, x102002 => if x15 = true then (some 1000) else (parrylaw22_weigh.l0 k x1 x2 1 x102002 (x102002.length : Int) 0)
def parrylaw22_weigh.l0 : Nat → Int → Int → Int → List (S29) → Int → Int → Option (Int)
 | 0, _, _, _, _, _, _ => none
 | k + 1, x1, x2, x7, x17, x18, x19 => if x19 < x18 then (if 0 ≤ x19 then (if x19 < (x17.length : Int) then ((parrylaw22_weigh.f k ((rd_T29 x17 x19).f0) ((rd_T29 x17 x19).f1) ((rd_T29 x17 x19).f2) (wrap64 (x1 + 1)) (wrap64 (x2 - x7))).bind fun t104 => (if (wrap64 (x7 + t104)) > x2 then (some 1000) else (parrylaw22_weigh.l0 k x1 x2 (wrap64 (x7 + t104)) x17 x18 (wrap64 (x19 + 1))))) else (none)) else (none)) else (some x7)
def parrylaw22_weigh.f : Nat → Int → Int → List (S29) → Int → Int → Option (Int)
 | 0, _, _, _, _, _ => none
 | k + 1, a0_0, a0_1, l0_2, a1, a2 => if a1 > 40 then (parrylaw22_weigh.j0 k a1 a2 true a0_0 a0_1 l0_2) else (parrylaw22_weigh.j0 k a1 a2 (decide (a2 < 1)) a0_0 a0_1 l0_2)
end
theorem parrylaw22_weigh.calls (k : Nat) : ∀ (a0_0 : Int) (a0_1 : Int) (A0_2 : Option Addr) (c0_2 : Nat) (l0_2 : List (S29)) (a1 : Int) (a2 : Int) (r : Int) (w : World) (hr0_2 : Kd.C k29 w A0_2 l0_2.length l0_2) (hc0_2 : l0_2.length ≤ c0_2) (h : parrylaw22_weigh.f k a0_0 a0_1 l0_2 a1 a2 = some r),
  Calls Try.prog 36 #[.agg #[.int .i64 a0_0, .int .i64 a0_1, .slice A0_2 l0_2.length c0_2], .int .i64 a1, .int .i64 a2] w fun e w' => e = .returned (.int .i64 r) ∧ Below w.heap.size w w' := by
 induction k using Nat.strongRecOn with
 | _ k ih =>
 intro a0_0 a0_1 A0_2 c0_2 l0_2 a1 a2 r w hr0_2 hc0_2 h
 cases k with
 | zero => exact absurd h (by simp [parrylaw22_weigh.f])
 | succ k =>
 simp only [parrylaw22_weigh.f] at h
 have hu29 := Try.underlying29
 have HR0_2 := Zd.mk hr0_2
 have HC0_2 := Zd.mk hc0_2
 clear hr0_2 hc0_2
 have HB := Zd.mk (Below.refl w.heap.size w)
 have H : (if a1 > 40 then (parrylaw22_weigh.j0 k a1 a2 true a0_0 a0_1 l0_2) else (parrylaw22_weigh.j0 k a1 a2 (decide (a2 < 1)) a0_0 a0_1 l0_2)) = some r := h
 clear h
 have HC4 := Zd.mk H
 clear H
 go_enter Try.func36, Try.ntmps36
 go_upto_region 1 with (first | ((with_reducible refine gate_dst (N := 3) rfl ?_); refine box_event ?hg (N := 3) ?hd (cs := #[.int .i64 a0_0, .int .i64 a0_1, .slice A0_2 l0_2.length c0_2]) (t := 29) ?hr ?_; (case hd => rfl); (case hg => rfl); (case hr => first | (go_simp; done) | (go_simp; rfl)); intro gb101 hg w5 hbox hb; have n0_ := Zd.mk (bt_ B_ hb); have n1_ := Zd.mk (hbox); have n2_ := Zd.mk ((by rw [hg]; exact (bs_ B_) : w.heap.size ≤ gb101)); have n3_ := Zd.mk ((by rw [hg]; exact (bs_ B_) : w.heap.size ≤ gb101)); clear HB; have HB := n0_; have BK101 := n1_; have GW101 := n2_; have GE101 := n3_; clear n0_ n1_ n2_ n3_; clear hb hbox hg))
 (try simp only [Act.put, List.setIfInBounds_toArray, List.set_cons_zero, List.set_cons_succ])
 go_cut [15] (fun v15 wc => ∃ (kq : Nat) (x15_3 : Bool), v15 = .bool x15_3 ∧ Zd (parrylaw22_weigh.j0 kq a1 a2 x15_3 a0_0 a0_1 l0_2 = some r) ∧ Zd (kq ≤ k) ∧ Zd (wc.heap[gb101]? = some (.cells #[.int .i64 a0_0, .int .i64 a0_1, (.slice A0_2 l0_2.length c0_2)] 29 (0, 0))) ∧ Zd (Below w.heap.size w wc))
 case first =>
  have H := HC4.out
  clear HC4
  by_cases c6 : a1 > 40
  ·rw [if_pos c6] at H
   have c6b0 : decide (40 < a1) = true := decide_eq_true c6
   clear c6
   (first | rw [c6b0] | (simp only [i64_w, i32_w]; rw [c6b0]) | skip)
   have H' := Zd.mk H
   clear H
   go_wp2
   go_meet
   case rel => exact ⟨_, (true), (by first | rfl | (simp; done) | (simp [*]; done)), H', ⟨by first | omega | exact Nat.le_refl _⟩, ⟨K_⟩, ⟨B_⟩⟩
  ·rw [if_neg c6] at H
   have c6b0 : decide (40 < a1) = false := decide_eq_false c6
   clear c6
   (first | rw [c6b0] | (simp only [i64_w, i32_w]; rw [c6b0]) | skip)
   have H' := Zd.mk H
   clear H
   go_wp2
   go_meet
   case rel => exact ⟨_, (decide (a2 < 1)), (by first | rfl | (simp; done) | (simp [*]; done)), H', ⟨by first | omega | exact Nat.le_refl _⟩, ⟨K_⟩, ⟨B_⟩⟩
 case rest =>
  clear HC4
  try clear p2
  try clear c3
  try clear c6
  try clear c6b0
  obtain ⟨kq, x15_3, rfl, HA, HJ3, BK101, HB⟩ := hcut
  cases kq with
  | zero => exact absurd HA.out (by simp [parrylaw22_weigh.j0])
  | succ kj3 =>
   have H := HA.out
   clear HA
   simp only [parrylaw22_weigh.j0] at H
   by_cases c7 : x15_3 = true
   ·subst c7
    have H1 : (some 1000) = some r := by rw [if_pos rfl] at H; exact H
    clear H
    have H := H1
    clear H1
    obtain rfl := Option.some.inj H
    go_wp2
    go_ret
    exact ⟨by first | rfl | (simp [errW_none, errW_some] <;> rfl) | (simp [*, errW_none, errW_some] <;> rfl), B_⟩
   ·replace c7 := Bool.eq_false_iff.mpr c7
    subst c7
    have H1 : (parrylaw22_weigh.l0 kj3 a1 a2 1 l0_2 (l0_2.length : Int) 0) = some r := by rw [if_neg (show ¬ (false = true) by decide)] at H; exact H
    clear H
    have H := H1
    clear H1
    have H' := Zd.mk H
    clear H
    have hcz8_0 : wc.cell? ⟨gb101, 0, none⟩ = some (.int .i64 a0_0) := (bq_ BK101.out 0).trans rfl
    have hcz8_1 : wc.cell? ⟨gb101, 1, none⟩ = some (.int .i64 a0_1) := (bq_ BK101.out 1).trans rfl
    have hcz8_2 : wc.cell? ⟨gb101, 2, none⟩ = some (.slice A0_2 l0_2.length c0_2) := (bq_ BK101.out 2).trans rfl
    have hfz8_0 := bz_ BK101.out 0
    have hfz8_1 := bz_ BK101.out 1
    have hfz8_2 := bz_ BK101.out 2
    go_wp2
    go_loopg [7, 19] kj3 (fun kq v7 v19 w' => ∃ (x7_2 : Int) (x19_2 : Int), v7 = .int .i64 x7_2 ∧ v19 = .int .i64 x19_2 ∧ Zd (parrylaw22_weigh.l0 kq a1 a2 x7_2 l0_2 (l0_2.length : Int) x19_2 = some r) ∧ Zd (kq ≤ kj3) ∧ Zd (w'.heap[gb101]? = some (.cells #[.int .i64 a0_0, .int .i64 a0_1, (.slice A0_2 l0_2.length c0_2)] 29 (0, 0))) ∧ Zd (Below w.heap.size w w'))
    case atStart => exact ⟨(1), (0), (by first | rfl | (simp; done) | (simp [*]; done)), (by first | rfl | (simp; done) | (simp [*]; done)), H', ⟨Nat.le_refl _⟩, ⟨K_⟩, ⟨B_⟩⟩
    case round =>
     clear H'
     try clear p2
     try clear c3
     try clear c6
     try clear c6b0
     try clear c7
     try clear hcz8_0
     try clear hcz8_1
     try clear hcz8_2
     try clear hfz8_0
     try clear hfz8_1
     try clear hfz8_2
     try clear p2
     obtain ⟨x7_2, x19_2, rfl, rfl, HA, HK2, BK101, HB⟩ := hrel
     cases gk with
     | zero => exact absurd HA.out (by simp [parrylaw22_weigh.l0])
     | succ k2 =>
      have H := HA.out
      clear HA
      simp only [parrylaw22_weigh.l0] at H
      by_cases c9 : x19_2 < (l0_2.length : Int)
      ·rw [if_pos c9] at H
       have c9b0 : decide (x19_2 < (l0_2.length : Int)) = true := decide_eq_true c9
       clear c9
       by_cases c10 : 0 ≤ x19_2
       ·rw [if_pos c10] at H
        have c10b0 : decide (0 ≤ x19_2) = true := decide_eq_true c10
        clear c10
        by_cases c11 : x19_2 < (l0_2.length : Int)
        ·rw [if_pos c11] at H
         have c11b0 : decide (x19_2 < (l0_2.length : Int)) = true := decide_eq_true c11
         clear c11
         replace H := Option.bind_eq_some_iff.mp H
         obtain ⟨t104, A120, H⟩ := H
         replace H : (if (wrap64 (x7_2 + t104)) > a2 then (some 1000) else (parrylaw22_weigh.l0 k2 a1 a2 (wrap64 (x7_2 + t104)) l0_2 (l0_2.length : Int) (wrap64 (x19_2 + 1)))) = some r := H
         have A12 := Zd.mk A120
         clear A120
         by_cases c13 : (wrap64 (x7_2 + t104)) > a2
         ·rw [if_pos c13] at H
          have c13b0 : decide (a2 < (wrap64 (x7_2 + t104))) = true := decide_eq_true c13
          clear c13
          obtain rfl := Option.some.inj H
          have p102 : 0 ≤ (x19_2 : Int) := of_decide_eq_true (by first | (with_reducible assumption) | assumption)
          have q102 : x19_2 < (l0_2.length : Int) := of_decide_eq_true (by first | (with_reducible assumption) | assumption)
          obtain ⟨ad102, A102_2, c102_2, e102, hx102_0, hx102_1, hx102_2, hl102_2, hi102_2⟩ := at_T29 HR0_2.out x19_2 p102 q102
          cases e102
          replace hx102_0 := (HB.out.cell (World.block_lt_of_cell? w _ hx102_0)).trans hx102_0
          replace hx102_1 := (HB.out.cell (World.block_lt_of_cell? w _ hx102_1)).trans hx102_1
          replace hx102_2 := (HB.out.cell (World.block_lt_of_cell? w _ hx102_2)).trans hx102_2
          have HR102_2 := Zd.mk hi102_2
          have HC102_2 := Zd.mk hl102_2
          clear hi102_2 hl102_2
          replace p102 := eq_true p102
          replace q102 := eq_true q102
          go_wp2_with (first | ((with_reducible refine gate_dst (N := 9) rfl ?_); refine box_event ?hg (N := 9) ?hd (cs := #[.int .i64 0, .int .i64 0, .slice none 0 0]) (t := 29) ?hr ?_; (case hd => rfl); (case hg => rfl); (case hr => first | (go_simp; done) | (go_simp; rfl)); intro gb103 hg w14 hbox hb; have n0_ := Zd.mk (bb_ (g := gb101) (o := .cells #[.int .i64 a0_0, .int .i64 a0_1, .slice (some ad102) l0_2.length c0_2] 29 (0, 0)) K_ hb); have n1_ := Zd.mk (bt_ B_ hb); have n2_ := Zd.mk (hbox); have n3_ := Zd.mk ((by rw [hg]; exact (bs_ B_) : w.heap.size ≤ gb103)); have n4_ := Zd.mk ((by rw [hg]; exact (bs_ B_) : w.heap.size ≤ gb103)); have n5_ := Zd.mk ((by rw [hg]; exact Nat.ne_of_lt (blk_lt (g := gb101) (o := .cells #[.int .i64 a0_0, .int .i64 a0_1, .slice (some ad102) l0_2.length c0_2] 29 (0, 0)) K_) : gb101 ≠ gb103)); have n6_ := Zd.mk ((by rw [hg]; exact Nat.ne_of_gt (blk_lt (g := gb101) (o := .cells #[.int .i64 a0_0, .int .i64 a0_1, .slice (some ad102) l0_2.length c0_2] 29 (0, 0)) K_) : gb103 ≠ gb101)); clear BK101; clear HB; have BK101 := n0_; have HB := n1_; have BK103 := n2_; have GW103 := n3_; have GE103 := n4_; have NB101_103 := n5_; have NB103_101 := n6_; clear n0_ n1_ n2_ n3_ n4_ n5_ n6_; clear hb hbox hg; have hnb15 := NB103_101.out; have hnc15 := NB101_103.out; have hcz16_0 : w14.cell? ⟨gb103, 0, none⟩ = some (.int .i64 0) := (bq_ BK103.out 0).trans rfl; have hcz16_1 : w14.cell? ⟨gb103, 1, none⟩ = some (.int .i64 0) := (bq_ BK103.out 1).trans rfl; have hcz16_2 : w14.cell? ⟨gb103, 2, none⟩ = some (.slice none 0 0) := (bq_ BK103.out 2).trans rfl; have hfz16_0 := bz_ BK103.out 0; have hfz16_1 := bz_ BK103.out 1; have hfz16_2 := bz_ BK103.out 2) | ((with_reducible refine gate_callee (f := 36) rfl ?_); refine goesL_ (some 30) rfl rfl Try.func36 (by kernel_rfl) rfl #[.agg #[.int .i64 ((rd_T29 l0_2 x19_2).f0), .int .i64 ((rd_T29 l0_2 x19_2).f1), .slice A102_2 ((rd_T29 l0_2 x19_2).f2).length c102_2], .int .i64 (wrap64 (a1 + 1)), .int .i64 (wrap64 (a2 - x7_2))] rfl (by (try simp only [List.map_toArray, List.map_cons, List.map_nil]); first | done | rfl | (simp only [List.length_drop, List.length_take]; rfl)) ?_; (with_reducible refine (ih k2 (by have := HJ3.out; have := HK2.out; omega) ((rd_T29 l0_2 x19_2).f0) ((rd_T29 l0_2 x19_2).f1) _ _ ((rd_T29 l0_2 x19_2).f2) (wrap64 (a1 + 1)) (wrap64 (a2 - x7_2)) t104 _ ?side1 ?side2 A12.out).mono ?_); (case side1 => exact Kd.C_below HR102_2.out B_); (case side2 => exact HC102_2.out); rintro e w17 ⟨rfl, hb⟩; refine ⟨_, rfl, ?_⟩; have n0_ := Zd.mk (bb_ (g := gb101) (o := .cells #[.int .i64 a0_0, .int .i64 a0_1, .slice (some ad102) l0_2.length c0_2] 29 (0, 0)) (by (with_reducible repeat (first | refine bd_ ?_ _ | refine blk_drew ?_ | refine ba_ ?_ _)); refine blk_far ?_ NB101_103.out _; (with_reducible repeat (first | refine bd_ ?_ _ | refine blk_drew ?_ | refine ba_ ?_ _)); refine blk_far ?_ NB101_103.out _; (with_reducible repeat (first | refine bd_ ?_ _ | refine blk_drew ?_ | refine ba_ ?_ _)); refine blk_far ?_ NB101_103.out _; (with_reducible repeat (first | refine bd_ ?_ _ | refine blk_drew ?_ | refine ba_ ?_ _)); exact BK101.out) hb); have n1_ := Zd.mk (bb_ (g := gb103) (o := .cells #[.int .i64 ((rd_T29 l0_2 x19_2).f0), .int .i64 ((rd_T29 l0_2 x19_2).f1), .slice A102_2 ((rd_T29 l0_2 x19_2).f2).length c102_2] 29 (0, 0)) (by (with_reducible repeat (first | refine bd_ ?_ _ | refine blk_drew ?_ | refine ba_ ?_ _)); refine blk_put (cs := #[.int .i64 ((rd_T29 l0_2 x19_2).f0), .int .i64 ((rd_T29 l0_2 x19_2).f1), .slice none 0 0]) ?_ 2 _ rfl; (with_reducible repeat (first | refine bd_ ?_ _ | refine blk_drew ?_ | refine ba_ ?_ _)); refine blk_put (cs := #[.int .i64 ((rd_T29 l0_2 x19_2).f0), .int .i64 0, .slice none 0 0]) ?_ 1 _ rfl; (with_reducible repeat (first | refine bd_ ?_ _ | refine blk_drew ?_ | refine ba_ ?_ _)); refine blk_put (cs := #[.int .i64 0, .int .i64 0, .slice none 0 0]) ?_ 0 _ rfl; (with_reducible repeat (first | refine bd_ ?_ _ | refine blk_drew ?_ | refine ba_ ?_ _)); exact BK103.out) hb); have n2_ := Zd.mk (bt_ B_ hb); clear BK101; clear BK103; clear HB; have BK101 := n0_; have BK103 := n1_; have HB := n2_; clear n0_ n1_ n2_; (try clear hb); (try clear hb2); (try clear hk); (try clear hi)))
          go_ret
          exact ⟨by first | rfl | (simp [errW_none, errW_some] <;> rfl) | (simp [*, errW_none, errW_some] <;> rfl), B_⟩
         ·rw [if_neg c13] at H
          have c13b0 : decide (a2 < (wrap64 (x7_2 + t104))) = false := decide_eq_false c13
          clear c13
          have H' := Zd.mk H
          clear H
          have p102 : 0 ≤ (x19_2 : Int) := of_decide_eq_true (by first | (with_reducible assumption) | assumption)
          have q102 : x19_2 < (l0_2.length : Int) := of_decide_eq_true (by first | (with_reducible assumption) | assumption)
          obtain ⟨ad102, A102_2, c102_2, e102, hx102_0, hx102_1, hx102_2, hl102_2, hi102_2⟩ := at_T29 HR0_2.out x19_2 p102 q102
          cases e102
          replace hx102_0 := (HB.out.cell (World.block_lt_of_cell? w _ hx102_0)).trans hx102_0
          replace hx102_1 := (HB.out.cell (World.block_lt_of_cell? w _ hx102_1)).trans hx102_1
          replace hx102_2 := (HB.out.cell (World.block_lt_of_cell? w _ hx102_2)).trans hx102_2
          have HR102_2 := Zd.mk hi102_2
          have HC102_2 := Zd.mk hl102_2
          clear hi102_2 hl102_2
          replace p102 := eq_true p102
          replace q102 := eq_true q102
          go_wp2_with (first | ((with_reducible refine gate_dst (N := 9) rfl ?_); refine box_event ?hg (N := 9) ?hd (cs := #[.int .i64 0, .int .i64 0, .slice none 0 0]) (t := 29) ?hr ?_; (case hd => rfl); (case hg => rfl); (case hr => first | (go_simp; done) | (go_simp; rfl)); intro gb103 hg w18 hbox hb; have n0_ := Zd.mk (bb_ (g := gb101) (o := .cells #[.int .i64 a0_0, .int .i64 a0_1, .slice (some ad102) l0_2.length c0_2] 29 (0, 0)) K_ hb); have n1_ := Zd.mk (bt_ B_ hb); have n2_ := Zd.mk (hbox); have n3_ := Zd.mk ((by rw [hg]; exact (bs_ B_) : w.heap.size ≤ gb103)); have n4_ := Zd.mk ((by rw [hg]; exact (bs_ B_) : w.heap.size ≤ gb103)); have n5_ := Zd.mk ((by rw [hg]; exact Nat.ne_of_lt (blk_lt (g := gb101) (o := .cells #[.int .i64 a0_0, .int .i64 a0_1, .slice (some ad102) l0_2.length c0_2] 29 (0, 0)) K_) : gb101 ≠ gb103)); have n6_ := Zd.mk ((by rw [hg]; exact Nat.ne_of_gt (blk_lt (g := gb101) (o := .cells #[.int .i64 a0_0, .int .i64 a0_1, .slice (some ad102) l0_2.length c0_2] 29 (0, 0)) K_) : gb103 ≠ gb101)); clear BK101; clear HB; have BK101 := n0_; have HB := n1_; have BK103 := n2_; have GW103 := n3_; have GE103 := n4_; have NB101_103 := n5_; have NB103_101 := n6_; clear n0_ n1_ n2_ n3_ n4_ n5_ n6_; clear hb hbox hg; have hnb19 := NB103_101.out; have hnc19 := NB101_103.out; have hcz20_0 : w18.cell? ⟨gb103, 0, none⟩ = some (.int .i64 0) := (bq_ BK103.out 0).trans rfl; have hcz20_1 : w18.cell? ⟨gb103, 1, none⟩ = some (.int .i64 0) := (bq_ BK103.out 1).trans rfl; have hcz20_2 : w18.cell? ⟨gb103, 2, none⟩ = some (.slice none 0 0) := (bq_ BK103.out 2).trans rfl; have hfz20_0 := bz_ BK103.out 0; have hfz20_1 := bz_ BK103.out 1; have hfz20_2 := bz_ BK103.out 2) | ((with_reducible refine gate_callee (f := 36) rfl ?_); refine goesL_ (some 30) rfl rfl Try.func36 (by kernel_rfl) rfl #[.agg #[.int .i64 ((rd_T29 l0_2 x19_2).f0), .int .i64 ((rd_T29 l0_2 x19_2).f1), .slice A102_2 ((rd_T29 l0_2 x19_2).f2).length c102_2], .int .i64 (wrap64 (a1 + 1)), .int .i64 (wrap64 (a2 - x7_2))] rfl (by (try simp only [List.map_toArray, List.map_cons, List.map_nil]); first | done | rfl | (simp only [List.length_drop, List.length_take]; rfl)) ?_; (with_reducible refine (ih k2 (by have := HJ3.out; have := HK2.out; omega) ((rd_T29 l0_2 x19_2).f0) ((rd_T29 l0_2 x19_2).f1) _ _ ((rd_T29 l0_2 x19_2).f2) (wrap64 (a1 + 1)) (wrap64 (a2 - x7_2)) t104 _ ?side1 ?side2 A12.out).mono ?_); (case side1 => exact Kd.C_below HR102_2.out B_); (case side2 => exact HC102_2.out); rintro e w21 ⟨rfl, hb⟩; refine ⟨_, rfl, ?_⟩; have n0_ := Zd.mk (bb_ (g := gb101) (o := .cells #[.int .i64 a0_0, .int .i64 a0_1, .slice (some ad102) l0_2.length c0_2] 29 (0, 0)) (by (with_reducible repeat (first | refine bd_ ?_ _ | refine blk_drew ?_ | refine ba_ ?_ _)); refine blk_far ?_ NB101_103.out _; (with_reducible repeat (first | refine bd_ ?_ _ | refine blk_drew ?_ | refine ba_ ?_ _)); refine blk_far ?_ NB101_103.out _; (with_reducible repeat (first | refine bd_ ?_ _ | refine blk_drew ?_ | refine ba_ ?_ _)); refine blk_far ?_ NB101_103.out _; (with_reducible repeat (first | refine bd_ ?_ _ | refine blk_drew ?_ | refine ba_ ?_ _)); exact BK101.out) hb); have n1_ := Zd.mk (bb_ (g := gb103) (o := .cells #[.int .i64 ((rd_T29 l0_2 x19_2).f0), .int .i64 ((rd_T29 l0_2 x19_2).f1), .slice A102_2 ((rd_T29 l0_2 x19_2).f2).length c102_2] 29 (0, 0)) (by (with_reducible repeat (first | refine bd_ ?_ _ | refine blk_drew ?_ | refine ba_ ?_ _)); refine blk_put (cs := #[.int .i64 ((rd_T29 l0_2 x19_2).f0), .int .i64 ((rd_T29 l0_2 x19_2).f1), .slice none 0 0]) ?_ 2 _ rfl; (with_reducible repeat (first | refine bd_ ?_ _ | refine blk_drew ?_ | refine ba_ ?_ _)); refine blk_put (cs := #[.int .i64 ((rd_T29 l0_2 x19_2).f0), .int .i64 0, .slice none 0 0]) ?_ 1 _ rfl; (with_reducible repeat (first | refine bd_ ?_ _ | refine blk_drew ?_ | refine ba_ ?_ _)); refine blk_put (cs := #[.int .i64 0, .int .i64 0, .slice none 0 0]) ?_ 0 _ rfl; (with_reducible repeat (first | refine bd_ ?_ _ | refine blk_drew ?_ | refine ba_ ?_ _)); exact BK103.out) hb); have n2_ := Zd.mk (bt_ B_ hb); clear BK101; clear BK103; clear HB; have BK101 := n0_; have BK103 := n1_; have HB := n2_; clear n0_ n1_ n2_; (try clear hb); (try clear hb2); (try clear hk); (try clear hi)))
          go_roundg k2
          case measure => have := HJ3.out; have := HK2.out; omega
          case rel => exact ⟨(wrap64 (x7_2 + t104)), (wrap64 (x19_2 + 1)), (by first | rfl | (simp; done) | (simp [*]; done)), (by first | rfl | (simp; done) | (simp [*]; done)), H', ⟨by have := HJ3.out; have := HK2.out; omega⟩, ⟨K_⟩, ⟨B_⟩⟩
        ·rw [if_neg c11] at H
         exact absurd H (by simp)
       ·rw [if_neg c10] at H
        exact absurd H (by simp)
      ·rw [if_neg c9] at H
       have c9b0 : decide (x19_2 < (l0_2.length : Int)) = false := decide_eq_false c9
       clear c9
       obtain rfl := Option.some.inj H
       go_wp2
       go_ret
       exact ⟨by first | rfl | (simp [errW_none, errW_some] <;> rfl) | (simp [*, errW_none, errW_some] <;> rfl), B_⟩

def parrylaw22_Heavy.f (k : Nat) (a0_0 : Int) (a0_1 : Int) (l0_2 : List (S29)) : Option (Int) := (parrylaw22_weigh.f k a0_0 a0_1 l0_2 0 500).bind fun t106 => (if t106 > 300 then (some t106) else (some 0))
theorem parrylaw22_Heavy.calls (k : Nat) (a0_0 : Int) (a0_1 : Int) (A0_2 : Option Addr) (c0_2 : Nat) (l0_2 : List (S29)) (r : Int) (w : World) (hr0_2 : Kd.C k29 w A0_2 l0_2.length l0_2) (hc0_2 : l0_2.length ≤ c0_2) (h : parrylaw22_Heavy.f k a0_0 a0_1 l0_2 = some r) :
  Calls Try.prog 19 #[.agg #[.int .i64 a0_0, .int .i64 a0_1, .slice A0_2 l0_2.length c0_2]] w fun e w' => e = .returned (.int .i64 r) ∧ Below w.heap.size w w' := by
 have hu29 := Try.underlying29
 have HR0_2 := Zd.mk hr0_2
 have HC0_2 := Zd.mk hc0_2
 clear hr0_2 hc0_2
 have HB := Zd.mk (Below.refl w.heap.size w)
 have H : ((parrylaw22_weigh.f k a0_0 a0_1 l0_2 0 500).bind fun t106 => (if t106 > 300 then (some t106) else (some 0))) = some r := h
 clear h
 replace H := Option.bind_eq_some_iff.mp H
 obtain ⟨t106, A20, H⟩ := H
 replace H : (if t106 > 300 then (some t106) else (some 0)) = some r := H
 have A2 := Zd.mk A20
 clear A20
 by_cases c3 : t106 > 300
 ·rw [if_pos c3] at H
  have c3b0 : decide (300 < t106) = true := decide_eq_true c3
  clear c3
  obtain rfl := Option.some.inj H
  go_enter Try.func19, Try.ntmps19
  go_wp2_with (first | ((with_reducible refine gate_dst (N := 1) rfl ?_); refine box_event ?hg (N := 1) ?hd (cs := #[.int .i64 a0_0, .int .i64 a0_1, .slice A0_2 l0_2.length c0_2]) (t := 29) ?hr ?_; (case hd => rfl); (case hg => rfl); (case hr => first | (go_simp; done) | (go_simp; rfl)); intro gb105 hg w4 hbox hb; have n0_ := Zd.mk (bt_ B_ hb); have n1_ := Zd.mk (hbox); have n2_ := Zd.mk ((by rw [hg]; exact (bs_ B_) : w.heap.size ≤ gb105)); have n3_ := Zd.mk ((by rw [hg]; exact (bs_ B_) : w.heap.size ≤ gb105)); clear HB; have HB := n0_; have BK105 := n1_; have GW105 := n2_; have GE105 := n3_; clear n0_ n1_ n2_ n3_; clear hb hbox hg; have hcz5_0 : w4.cell? ⟨gb105, 0, none⟩ = some (.int .i64 a0_0) := (bq_ BK105.out 0).trans rfl; have hcz5_1 : w4.cell? ⟨gb105, 1, none⟩ = some (.int .i64 a0_1) := (bq_ BK105.out 1).trans rfl; have hcz5_2 : w4.cell? ⟨gb105, 2, none⟩ = some (.slice A0_2 l0_2.length c0_2) := (bq_ BK105.out 2).trans rfl; have hfz5_0 := bz_ BK105.out 0; have hfz5_1 := bz_ BK105.out 1; have hfz5_2 := bz_ BK105.out 2) | ((with_reducible refine gate_callee (f := 36) rfl ?_); refine goesL_ (some 5) rfl rfl Try.func36 (by kernel_rfl) rfl #[.agg #[.int .i64 a0_0, .int .i64 a0_1, .slice A0_2 l0_2.length c0_2], .int .i64 0, .int .i64 500] rfl (by (try simp only [List.map_toArray, List.map_cons, List.map_nil]); first | done | rfl | (simp only [List.length_drop, List.length_take]; rfl)) ?_; (with_reducible refine (parrylaw22_weigh.calls k a0_0 a0_1 _ _ l0_2 0 500 t106 _ ?side1 ?side2 A2.out).mono ?_); (case side1 => exact Kd.C_below HR0_2.out B_); (case side2 => exact HC0_2.out); rintro e w6 ⟨rfl, hb⟩; refine ⟨_, rfl, ?_⟩; have n0_ := Zd.mk (bb_ (g := gb105) (o := .cells #[.int .i64 a0_0, .int .i64 a0_1, .slice A0_2 l0_2.length c0_2] 29 (0, 0)) K_ hb); have n1_ := Zd.mk (bt_ B_ hb); clear BK105; clear HB; have BK105 := n0_; have HB := n1_; clear n0_ n1_; (try clear hb); (try clear hb2); (try clear hk); (try clear hi)))
  go_ret
  exact ⟨by first | rfl | (simp [errW_none, errW_some] <;> rfl) | (simp [*, errW_none, errW_some] <;> rfl), B_⟩
 ·rw [if_neg c3] at H
  have c3b0 : decide (300 < t106) = false := decide_eq_false c3
  clear c3
  obtain rfl := Option.some.inj H
  go_enter Try.func19, Try.ntmps19
  go_wp2_with (first | ((with_reducible refine gate_dst (N := 1) rfl ?_); refine box_event ?hg (N := 1) ?hd (cs := #[.int .i64 a0_0, .int .i64 a0_1, .slice A0_2 l0_2.length c0_2]) (t := 29) ?hr ?_; (case hd => rfl); (case hg => rfl); (case hr => first | (go_simp; done) | (go_simp; rfl)); intro gb105 hg w7 hbox hb; have n0_ := Zd.mk (bt_ B_ hb); have n1_ := Zd.mk (hbox); have n2_ := Zd.mk ((by rw [hg]; exact (bs_ B_) : w.heap.size ≤ gb105)); have n3_ := Zd.mk ((by rw [hg]; exact (bs_ B_) : w.heap.size ≤ gb105)); clear HB; have HB := n0_; have BK105 := n1_; have GW105 := n2_; have GE105 := n3_; clear n0_ n1_ n2_ n3_; clear hb hbox hg; have hcz8_0 : w7.cell? ⟨gb105, 0, none⟩ = some (.int .i64 a0_0) := (bq_ BK105.out 0).trans rfl; have hcz8_1 : w7.cell? ⟨gb105, 1, none⟩ = some (.int .i64 a0_1) := (bq_ BK105.out 1).trans rfl; have hcz8_2 : w7.cell? ⟨gb105, 2, none⟩ = some (.slice A0_2 l0_2.length c0_2) := (bq_ BK105.out 2).trans rfl; have hfz8_0 := bz_ BK105.out 0; have hfz8_1 := bz_ BK105.out 1; have hfz8_2 := bz_ BK105.out 2) | ((with_reducible refine gate_callee (f := 36) rfl ?_); refine goesL_ (some 5) rfl rfl Try.func36 (by kernel_rfl) rfl #[.agg #[.int .i64 a0_0, .int .i64 a0_1, .slice A0_2 l0_2.length c0_2], .int .i64 0, .int .i64 500] rfl (by (try simp only [List.map_toArray, List.map_cons, List.map_nil]); first | done | rfl | (simp only [List.length_drop, List.length_take]; rfl)) ?_; (with_reducible refine (parrylaw22_weigh.calls k a0_0 a0_1 _ _ l0_2 0 500 t106 _ ?side1 ?side2 A2.out).mono ?_); (case side1 => exact Kd.C_below HR0_2.out B_); (case side2 => exact HC0_2.out); rintro e w9 ⟨rfl, hb⟩; refine ⟨_, rfl, ?_⟩; have n0_ := Zd.mk (bb_ (g := gb105) (o := .cells #[.int .i64 a0_0, .int .i64 a0_1, .slice A0_2 l0_2.length c0_2] 29 (0, 0)) K_ hb); have n1_ := Zd.mk (bt_ B_ hb); clear BK105; clear HB; have BK105 := n0_; have HB := n1_; clear n0_ n1_; (try clear hb); (try clear hb2); (try clear hk); (try clear hi)))
  go_ret
  exact ⟨by first | rfl | (simp [errW_none, errW_some] <;> rfl) | (simp [*, errW_none, errW_some] <;> rfl), B_⟩

attribute [local go_sem] max2_int min2_int max_two min_two max_three min_three max_four min_four

def parryref22_Timed.f (a0 : Int) : Option (Bool) := if a0 = 6 then (some true) else (if a0 = 7 then (some true) else (some (a0 == 8)))
theorem parryref22_Timed.calls (a0 : Int) (r : Bool) (w : World) (h : parryref22_Timed.f a0 = some r) :
  Calls Try.prog 56 #[.int .i64 a0] w fun e w' => e = .returned (.bool r) ∧ Drawn0 w w' := by
 have H : (if a0 = 6 then (some true) else (if a0 = 7 then (some true) else (some (a0 == 8)))) = some r := h
 clear h
 by_cases c2 : a0 = 6
 ·rw [if_pos c2] at H
  have c2b0 : (a0 == 6) = true := beq_iff_eq.mpr c2
  have c2b1 : (a0 != 6) = false := bne_eq_false_iff_eq.mpr c2
  clear c2
  obtain rfl := Option.some.inj H
  go_enter Try.func56, Try.ntmps56
  go_wp2
  go_ret
  exact ⟨by first | rfl | (simp; done) | (simp [*]; done), by repeat (first | exact Drawn0.refl _ | apply Drawn0.step)⟩
 ·rw [if_neg c2] at H
  have c2b0 : (a0 == 6) = false := beq_eq_false_iff_ne.mpr c2
  have c2b1 : (a0 != 6) = true := bne_iff_ne.mpr c2
  by_cases c3 : a0 = 7
  ·rw [if_pos c3] at H
   have c3b0 : (a0 == 7) = true := beq_iff_eq.mpr c3
   have c3b1 : (a0 != 7) = false := bne_eq_false_iff_eq.mpr c3
   clear c3
   obtain rfl := Option.some.inj H
   go_enter Try.func56, Try.ntmps56
   go_wp2
   go_ret
   exact ⟨by first | rfl | (simp; done) | (simp [*]; done), by repeat (first | exact Drawn0.refl _ | apply Drawn0.step)⟩
  ·rw [if_neg c3] at H
   have c3b0 : (a0 == 7) = false := beq_eq_false_iff_ne.mpr c3
   have c3b1 : (a0 != 7) = true := bne_iff_ne.mpr c3
   obtain rfl := Option.some.inj H
   go_enter Try.func56, Try.ntmps56
   go_wp2
   go_ret
   exact ⟨by first | rfl | (simp; done) | (simp [*]; done), by repeat (first | exact Drawn0.refl _ | apply Drawn0.step)⟩

attribute [local go_sem] max2_int min2_int max_two min_two max_three min_three max_four min_four

mutual
def parryref22_count.j0 : Nat → Int → Int → Bool → Int → Int → List (S29) → Option (Int × Int)
 | 0, _, _, _, _, _, _ => none
 | k + 1, x1, x2, x19, x108000, x108001, x108002 => if x19 = true then (some (61, 0)) else ((parryref22_Timed.f x108000).bind fun t108 => (if t108 = true then (parryref22_count.j1 k x1 x2 1 1 x108000 x108001 x108002) else (parryref22_count.j1 k x1 x2 1 0 x108000 x108001 x108002)))
def parryref22_count.j1 : Nat → Int → Int → Int → Int → Int → Int → List (S29) → Option (Int × Int)
 | 0, _, _, _, _, _, _, _ => none
 | k + 1, x1, x2, x8, x9, x108000, x108001, x108002 => parryref22_count.l0 k x1 x2 x8 x9 x108002 (x108002.length : Int) 0
def parryref22_count.l0 : Nat → Int → Int → Int → Int → List (S29) → Int → Int → Option (Int × Int)
 | 0, _, _, _, _, _, _, _ => none
 | k + 1, x1, x2, x8, x9, x24, x25, x26 => if x26 < x25 then (if 0 ≤ x26 then (if x26 < (x24.length : Int) then ((parryref22_count.f k ((rd_T29 x24 x26).f0) ((rd_T29 x24 x26).f1) ((rd_T29 x24 x26).f2) (wrap64 (x1 + 1)) (wrap64 (x2 - x8))).bind fun bt111 => (if (wrap64 (x8 + bt111.1)) > 60 then (some (wrap64 (x8 + bt111.1), wrap64 (x9 + bt111.2))) else (parryref22_count.l0 k x1 x2 (wrap64 (x8 + bt111.1)) (wrap64 (x9 + bt111.2)) x24 x25 (wrap64 (x26 + 1))))) else (none)) else (none)) else (some (x8, x9))
def parryref22_count.f : Nat → Int → Int → List (S29) → Int → Int → Option (Int × Int)
 | 0, _, _, _, _, _ => none
 | k + 1, a0_0, a0_1, l0_2, a1, a2 => if a1 > 12 then (parryref22_count.j0 k a1 a2 true a0_0 a0_1 l0_2) else (parryref22_count.j0 k a1 a2 (decide (a2 < 1)) a0_0 a0_1 l0_2)
end
theorem parryref22_count.calls (k : Nat) : ∀ (a0_0 : Int) (a0_1 : Int) (A0_2 : Option Addr) (c0_2 : Nat) (l0_2 : List (S29)) (a1 : Int) (a2 : Int) (r1 : Int) (r2 : Int) (w : World) (hr0_2 : Kd.C k29 w A0_2 l0_2.length l0_2) (hc0_2 : l0_2.length ≤ c0_2) (h : parryref22_count.f k a0_0 a0_1 l0_2 a1 a2 = some (r1, r2)),
  Calls Try.prog 33 #[.agg #[.int .i64 a0_0, .int .i64 a0_1, .slice A0_2 l0_2.length c0_2], .int .i64 a1, .int .i64 a2] w fun e w' => e = .returned (.tuple #[.int .i64 r1, .int .i64 r2]) ∧ Below w.heap.size w w' := by
 induction k using Nat.strongRecOn with
 | _ k ih =>
 intro a0_0 a0_1 A0_2 c0_2 l0_2 a1 a2 r1 r2 w hr0_2 hc0_2 h
 cases k with
 | zero => exact absurd h (by simp [parryref22_count.f])
 | succ k =>
 simp only [parryref22_count.f] at h
 have hu29 := Try.underlying29
 have HR0_2 := Zd.mk hr0_2
 have HC0_2 := Zd.mk hc0_2
 clear hr0_2 hc0_2
 have HB := Zd.mk (Below.refl w.heap.size w)
 have H : (if a1 > 12 then (parryref22_count.j0 k a1 a2 true a0_0 a0_1 l0_2) else (parryref22_count.j0 k a1 a2 (decide (a2 < 1)) a0_0 a0_1 l0_2)) = some (r1, r2) := h
 clear h
 have HC4 := Zd.mk H
 clear H
 go_enter Try.func33, Try.ntmps33
 go_upto_region 1 with (first | ((with_reducible refine gate_dst (N := 3) rfl ?_); refine box_event ?hg (N := 3) ?hd (cs := #[.int .i64 a0_0, .int .i64 a0_1, .slice A0_2 l0_2.length c0_2]) (t := 29) ?hr ?_; (case hd => rfl); (case hg => rfl); (case hr => first | (go_simp; done) | (go_simp; rfl)); intro gb107 hg w5 hbox hb; have n0_ := Zd.mk (bt_ B_ hb); have n1_ := Zd.mk (hbox); have n2_ := Zd.mk ((by rw [hg]; exact (bs_ B_) : w.heap.size ≤ gb107)); have n3_ := Zd.mk ((by rw [hg]; exact (bs_ B_) : w.heap.size ≤ gb107)); clear HB; have HB := n0_; have BK107 := n1_; have GW107 := n2_; have GE107 := n3_; clear n0_ n1_ n2_ n3_; clear hb hbox hg))
 (try simp only [Act.put, List.setIfInBounds_toArray, List.set_cons_zero, List.set_cons_succ])
 go_cut [19] (fun v19 wc => ∃ (kq : Nat) (x19_3 : Bool), v19 = .bool x19_3 ∧ Zd (parryref22_count.j0 kq a1 a2 x19_3 a0_0 a0_1 l0_2 = some (r1, r2)) ∧ Zd (kq ≤ k) ∧ Zd (wc.heap[gb107]? = some (.cells #[.int .i64 a0_0, .int .i64 a0_1, (.slice A0_2 l0_2.length c0_2)] 29 (0, 0))) ∧ Zd (Below w.heap.size w wc))
 case first =>
  have H := HC4.out
  clear HC4
  by_cases c6 : a1 > 12
  ·rw [if_pos c6] at H
   have c6b0 : decide (12 < a1) = true := decide_eq_true c6
   clear c6
   (first | rw [c6b0] | (simp only [i64_w, i32_w]; rw [c6b0]) | skip)
   have H' := Zd.mk H
   clear H
   go_wp2
   go_meet
   case rel => exact ⟨_, (true), (by first | rfl | (simp; done) | (simp [*]; done)), H', ⟨by first | omega | exact Nat.le_refl _⟩, ⟨K_⟩, ⟨B_⟩⟩
  ·rw [if_neg c6] at H
   have c6b0 : decide (12 < a1) = false := decide_eq_false c6
   clear c6
   (first | rw [c6b0] | (simp only [i64_w, i32_w]; rw [c6b0]) | skip)
   have H' := Zd.mk H
   clear H
   go_wp2
   go_meet
   case rel => exact ⟨_, (decide (a2 < 1)), (by first | rfl | (simp; done) | (simp [*]; done)), H', ⟨by first | omega | exact Nat.le_refl _⟩, ⟨K_⟩, ⟨B_⟩⟩
 case rest =>
  clear HC4
  try clear p2
  try clear c3
  try clear c6
  try clear c6b0
  obtain ⟨kq, x19_3, rfl, HA, HJ3, BK107, HB⟩ := hcut
  cases kq with
  | zero => exact absurd HA.out (by simp [parryref22_count.j0])
  | succ kj3 =>
   have H := HA.out
   clear HA
   simp only [parryref22_count.j0] at H
   by_cases c7 : x19_3 = true
   ·subst c7
    have H1 : (some (61, 0)) = some (r1, r2) := by rw [if_pos rfl] at H; exact H
    clear H
    have H := H1
    clear H1
    simp only [Option.some.injEq, Prod.mk.injEq] at H
    obtain ⟨rfl, rfl⟩ := H
    go_wp2
    go_ret2
    exact ⟨by first | rfl | (simp [errW_none, errW_some] <;> rfl) | (simp [*, errW_none, errW_some] <;> rfl), B_⟩
   ·replace c7 := Bool.eq_false_iff.mpr c7
    subst c7
    have H1 : ((parryref22_Timed.f a0_0).bind fun t108 => (if t108 = true then (parryref22_count.j1 kj3 a1 a2 1 1 a0_0 a0_1 l0_2) else (parryref22_count.j1 kj3 a1 a2 1 0 a0_0 a0_1 l0_2))) = some (r1, r2) := by rw [if_neg (show ¬ (false = true) by decide)] at H; exact H
    clear H
    have H := H1
    clear H1
    replace H := Option.bind_eq_some_iff.mp H
    obtain ⟨t108, A80, H⟩ := H
    replace H : (if t108 = true then (parryref22_count.j1 kj3 a1 a2 1 1 a0_0 a0_1 l0_2) else (parryref22_count.j1 kj3 a1 a2 1 0 a0_0 a0_1 l0_2)) = some (r1, r2) := H
    have A8 := Zd.mk A80
    clear A80
    have HC9 := Zd.mk H
    clear H
    have hcz10_0 : wc.cell? ⟨gb107, 0, none⟩ = some (.int .i64 a0_0) := (bq_ BK107.out 0).trans rfl
    have hcz10_1 : wc.cell? ⟨gb107, 1, none⟩ = some (.int .i64 a0_1) := (bq_ BK107.out 1).trans rfl
    have hcz10_2 : wc.cell? ⟨gb107, 2, none⟩ = some (.slice A0_2 l0_2.length c0_2) := (bq_ BK107.out 2).trans rfl
    have hfz10_0 := bz_ BK107.out 0
    have hfz10_1 := bz_ BK107.out 1
    have hfz10_2 := bz_ BK107.out 2
    go_upto_if 22 with (first | ((with_reducible refine gate_callee (f := 56) rfl ?_); refine goesL_ (some 22) rfl rfl Try.func56 (by kernel_rfl) rfl #[.int .i64 a0_0] rfl (by (try simp only [List.map_toArray, List.map_cons, List.map_nil]); first | done | rfl | (simp only [List.length_drop, List.length_take]; rfl)) ?_; (with_reducible refine (parryref22_Timed.calls a0_0 t108 _ A8.out).mono ?_); rintro e w' ⟨rfl, ⟨nd, rfl⟩⟩; refine ⟨_, rfl, ?_⟩))
    (try simp only [Act.put, List.setIfInBounds_toArray, List.set_cons_zero, List.set_cons_succ])
    go_cut [9] (fun v9 wc => ∃ (kq : Nat) (x9_8 : Int), v9 = .int .i64 x9_8 ∧ Zd (parryref22_count.j1 kq a1 a2 1 x9_8 a0_0 a0_1 l0_2 = some (r1, r2)) ∧ Zd (kq ≤ kj3) ∧ Zd (wc.heap[gb107]? = some (.cells #[.int .i64 a0_0, .int .i64 a0_1, (.slice A0_2 l0_2.length c0_2)] 29 (0, 0))) ∧ Zd (Below w.heap.size w wc))
    case first =>
     have H := HC9.out
     clear HC9
     by_cases c11 : t108 = true
     ·subst c11
      have H1 : (parryref22_count.j1 kj3 a1 a2 1 1 a0_0 a0_1 l0_2) = some (r1, r2) := by rw [if_pos rfl] at H; exact H
      clear H
      have H := H1
      clear H1
      have H' := Zd.mk H
      clear H
      go_wp2
      go_meet
      case rel => exact ⟨_, (1), (by first | rfl | (simp; done) | (simp [*]; done)), H', ⟨by have := HJ3.out; first | omega | exact Nat.le_refl _⟩, ⟨K_⟩, ⟨B_⟩⟩
     ·replace c11 := Bool.eq_false_iff.mpr c11
      subst c11
      have H1 : (parryref22_count.j1 kj3 a1 a2 1 0 a0_0 a0_1 l0_2) = some (r1, r2) := by rw [if_neg (show ¬ (false = true) by decide)] at H; exact H
      clear H
      have H := H1
      clear H1
      have H' := Zd.mk H
      clear H
      go_wp2
      go_meet
      case rel => exact ⟨_, (0), (by first | rfl | (simp; done) | (simp [*]; done)), H', ⟨by have := HJ3.out; first | omega | exact Nat.le_refl _⟩, ⟨K_⟩, ⟨B_⟩⟩
    case rest =>
     clear HC9
     try clear c1
     try clear p2
     try clear c3
     try clear c5
     try clear c6
     try clear c6b0
     try clear c7
     try clear c11
     try clear hcz10_0
     try clear hcz10_1
     try clear hcz10_2
     try clear hfz10_0
     try clear hfz10_1
     try clear hfz10_2
     try clear p2
     obtain ⟨kq, x9_8, rfl, HA, HJ8, BK107, HB⟩ := hcut
     cases kq with
     | zero => exact absurd HA.out (by simp [parryref22_count.j1])
     | succ kj8 =>
      have H := HA.out
      clear HA
      simp only [parryref22_count.j1] at H
      have H' := Zd.mk H
      clear H
      have hcz12_0 : wc.cell? ⟨gb107, 0, none⟩ = some (.int .i64 a0_0) := (bq_ BK107.out 0).trans rfl
      have hcz12_1 : wc.cell? ⟨gb107, 1, none⟩ = some (.int .i64 a0_1) := (bq_ BK107.out 1).trans rfl
      have hcz12_2 : wc.cell? ⟨gb107, 2, none⟩ = some (.slice A0_2 l0_2.length c0_2) := (bq_ BK107.out 2).trans rfl
      have hfz12_0 := bz_ BK107.out 0
      have hfz12_1 := bz_ BK107.out 1
      have hfz12_2 := bz_ BK107.out 2
      go_wp2
      go_loopg [8, 9, 26] kj8 (fun kq v8 v9 v26 w' => ∃ (x8_3 : Int) (x9_3 : Int) (x26_3 : Int), v8 = .int .i64 x8_3 ∧ v9 = .int .i64 x9_3 ∧ v26 = .int .i64 x26_3 ∧ Zd (parryref22_count.l0 kq a1 a2 x8_3 x9_3 l0_2 (l0_2.length : Int) x26_3 = some (r1, r2)) ∧ Zd (kq ≤ kj8) ∧ Zd (w'.heap[gb107]? = some (.cells #[.int .i64 a0_0, .int .i64 a0_1, (.slice A0_2 l0_2.length c0_2)] 29 (0, 0))) ∧ Zd (Below w.heap.size w w'))
      case atStart => exact ⟨(1), (x9_8), (0), (by first | rfl | (simp; done) | (simp [*]; done)), (by first | rfl | (simp; done) | (simp [*]; done)), (by first | rfl | (simp; done) | (simp [*]; done)), H', ⟨Nat.le_refl _⟩, ⟨K_⟩, ⟨B_⟩⟩
      case round =>
       clear H'
       try clear c1
       try clear p2
       try clear c3
       try clear c5
       try clear c6
       try clear c6b0
       try clear c7
       try clear c11
       try clear hcz10_0
       try clear hcz10_1
       try clear hcz10_2
       try clear hcz12_0
       try clear hcz12_1
       try clear hcz12_2
       try clear hfz10_0
       try clear hfz10_1
       try clear hfz10_2
       try clear hfz12_0
       try clear hfz12_1
       try clear hfz12_2
       try clear p2
       obtain ⟨x8_3, x9_3, x26_3, rfl, rfl, rfl, HA, HK3, BK107, HB⟩ := hrel
       cases gk with
       | zero => exact absurd HA.out (by simp [parryref22_count.l0])
       | succ k3 =>
        have H := HA.out
        clear HA
        simp only [parryref22_count.l0] at H
        by_cases c13 : x26_3 < (l0_2.length : Int)
        ·rw [if_pos c13] at H
         have c13b0 : decide (x26_3 < (l0_2.length : Int)) = true := decide_eq_true c13
         clear c13
         by_cases c14 : 0 ≤ x26_3
         ·rw [if_pos c14] at H
          have c14b0 : decide (0 ≤ x26_3) = true := decide_eq_true c14
          clear c14
          by_cases c15 : x26_3 < (l0_2.length : Int)
          ·rw [if_pos c15] at H
           have c15b0 : decide (x26_3 < (l0_2.length : Int)) = true := decide_eq_true c15
           clear c15
           replace H := Option.bind_eq_some_iff.mp H
           obtain ⟨⟨t111, t112⟩, A160, H⟩ := H
           replace H : (if (wrap64 (x8_3 + t111)) > 60 then (some (wrap64 (x8_3 + t111), wrap64 (x9_3 + t112))) else (parryref22_count.l0 k3 a1 a2 (wrap64 (x8_3 + t111)) (wrap64 (x9_3 + t112)) l0_2 (l0_2.length : Int) (wrap64 (x26_3 + 1)))) = some (r1, r2) := H
           have A16 := Zd.mk A160
           clear A160
           by_cases c17 : (wrap64 (x8_3 + t111)) > 60
           ·rw [if_pos c17] at H
            have c17b0 : decide (60 < (wrap64 (x8_3 + t111))) = true := decide_eq_true c17
            clear c17
            simp only [Option.some.injEq, Prod.mk.injEq] at H
            obtain ⟨rfl, rfl⟩ := H
            have p109 : 0 ≤ (x26_3 : Int) := of_decide_eq_true (by first | (with_reducible assumption) | assumption)
            have q109 : x26_3 < (l0_2.length : Int) := of_decide_eq_true (by first | (with_reducible assumption) | assumption)
            obtain ⟨ad109, A109_2, c109_2, e109, hx109_0, hx109_1, hx109_2, hl109_2, hi109_2⟩ := at_T29 HR0_2.out x26_3 p109 q109
            cases e109
            replace hx109_0 := (HB.out.cell (World.block_lt_of_cell? w _ hx109_0)).trans hx109_0
            replace hx109_1 := (HB.out.cell (World.block_lt_of_cell? w _ hx109_1)).trans hx109_1
            replace hx109_2 := (HB.out.cell (World.block_lt_of_cell? w _ hx109_2)).trans hx109_2
            have HR109_2 := Zd.mk hi109_2
            have HC109_2 := Zd.mk hl109_2
            clear hi109_2 hl109_2
            replace p109 := eq_true p109
            replace q109 := eq_true q109
            go_wp2_with (first | ((with_reducible refine gate_dst (N := 11) rfl ?_); refine box_event ?hg (N := 11) ?hd (cs := #[.int .i64 0, .int .i64 0, .slice none 0 0]) (t := 29) ?hr ?_; (case hd => rfl); (case hg => rfl); (case hr => first | (go_simp; done) | (go_simp; rfl)); intro gb110 hg w18 hbox hb; have n0_ := Zd.mk (bb_ (g := gb107) (o := .cells #[.int .i64 a0_0, .int .i64 a0_1, .slice (some ad109) l0_2.length c0_2] 29 (0, 0)) K_ hb); have n1_ := Zd.mk (bt_ B_ hb); have n2_ := Zd.mk (hbox); have n3_ := Zd.mk ((by rw [hg]; exact (bs_ B_) : w.heap.size ≤ gb110)); have n4_ := Zd.mk ((by rw [hg]; exact (bs_ B_) : w.heap.size ≤ gb110)); have n5_ := Zd.mk ((by rw [hg]; exact Nat.ne_of_lt (blk_lt (g := gb107) (o := .cells #[.int .i64 a0_0, .int .i64 a0_1, .slice (some ad109) l0_2.length c0_2] 29 (0, 0)) K_) : gb107 ≠ gb110)); have n6_ := Zd.mk ((by rw [hg]; exact Nat.ne_of_gt (blk_lt (g := gb107) (o := .cells #[.int .i64 a0_0, .int .i64 a0_1, .slice (some ad109) l0_2.length c0_2] 29 (0, 0)) K_) : gb110 ≠ gb107)); clear BK107; clear HB; have BK107 := n0_; have HB := n1_; have BK110 := n2_; have GW110 := n3_; have GE110 := n4_; have NB107_110 := n5_; have NB110_107 := n6_; clear n0_ n1_ n2_ n3_ n4_ n5_ n6_; clear hb hbox hg; have hnb19 := NB110_107.out; have hnc19 := NB107_110.out; have hcz20_0 : w18.cell? ⟨gb110, 0, none⟩ = some (.int .i64 0) := (bq_ BK110.out 0).trans rfl; have hcz20_1 : w18.cell? ⟨gb110, 1, none⟩ = some (.int .i64 0) := (bq_ BK110.out 1).trans rfl; have hcz20_2 : w18.cell? ⟨gb110, 2, none⟩ = some (.slice none 0 0) := (bq_ BK110.out 2).trans rfl; have hfz20_0 := bz_ BK110.out 0; have hfz20_1 := bz_ BK110.out 1; have hfz20_2 := bz_ BK110.out 2) | ((with_reducible refine gate_callee (f := 33) rfl ?_); refine goesL_ (some 37) rfl rfl Try.func33 (by kernel_rfl) rfl #[.agg #[.int .i64 ((rd_T29 l0_2 x26_3).f0), .int .i64 ((rd_T29 l0_2 x26_3).f1), .slice A109_2 ((rd_T29 l0_2 x26_3).f2).length c109_2], .int .i64 (wrap64 (a1 + 1)), .int .i64 (wrap64 (a2 - x8_3))] rfl (by (try simp only [List.map_toArray, List.map_cons, List.map_nil]); first | done | rfl | (simp only [List.length_drop, List.length_take]; rfl)) ?_; (with_reducible refine (ih k3 (by have := HJ3.out; have := HJ8.out; have := HK3.out; omega) ((rd_T29 l0_2 x26_3).f0) ((rd_T29 l0_2 x26_3).f1) _ _ ((rd_T29 l0_2 x26_3).f2) (wrap64 (a1 + 1)) (wrap64 (a2 - x8_3)) t111 t112 _ ?side1 ?side2 A16.out).mono ?_); (case side1 => exact Kd.C_below HR109_2.out B_); (case side2 => exact HC109_2.out); rintro e w21 ⟨rfl, hb⟩; refine ⟨_, rfl, ?_⟩; have n0_ := Zd.mk (bb_ (g := gb107) (o := .cells #[.int .i64 a0_0, .int .i64 a0_1, .slice (some ad109) l0_2.length c0_2] 29 (0, 0)) (by (with_reducible repeat (first | refine bd_ ?_ _ | refine blk_drew ?_ | refine ba_ ?_ _)); refine blk_far ?_ NB107_110.out _; (with_reducible repeat (first | refine bd_ ?_ _ | refine blk_drew ?_ | refine ba_ ?_ _)); refine blk_far ?_ NB107_110.out _; (with_reducible repeat (first | refine bd_ ?_ _ | refine blk_drew ?_ | refine ba_ ?_ _)); refine blk_far ?_ NB107_110.out _; (with_reducible repeat (first | refine bd_ ?_ _ | refine blk_drew ?_ | refine ba_ ?_ _)); exact BK107.out) hb); have n1_ := Zd.mk (bb_ (g := gb110) (o := .cells #[.int .i64 ((rd_T29 l0_2 x26_3).f0), .int .i64 ((rd_T29 l0_2 x26_3).f1), .slice A109_2 ((rd_T29 l0_2 x26_3).f2).length c109_2] 29 (0, 0)) (by (with_reducible repeat (first | refine bd_ ?_ _ | refine blk_drew ?_ | refine ba_ ?_ _)); refine blk_put (cs := #[.int .i64 ((rd_T29 l0_2 x26_3).f0), .int .i64 ((rd_T29 l0_2 x26_3).f1), .slice none 0 0]) ?_ 2 _ rfl; (with_reducible repeat (first | refine bd_ ?_ _ | refine blk_drew ?_ | refine ba_ ?_ _)); refine blk_put (cs := #[.int .i64 ((rd_T29 l0_2 x26_3).f0), .int .i64 0, .slice none 0 0]) ?_ 1 _ rfl; (with_reducible repeat (first | refine bd_ ?_ _ | refine blk_drew ?_ | refine ba_ ?_ _)); refine blk_put (cs := #[.int .i64 0, .int .i64 0, .slice none 0 0]) ?_ 0 _ rfl; (with_reducible repeat (first | refine bd_ ?_ _ | refine blk_drew ?_ | refine ba_ ?_ _)); exact BK110.out) hb); have n2_ := Zd.mk (bt_ B_ hb); clear BK107; clear BK110; clear HB; have BK107 := n0_; have BK110 := n1_; have HB := n2_; clear n0_ n1_ n2_; (try clear hb); (try clear hb2); (try clear hk); (try clear hi)))
            go_ret2
            exact ⟨by first | rfl | (simp [errW_none, errW_some] <;> rfl) | (simp [*, errW_none, errW_some] <;> rfl), B_⟩
           ·rw [if_neg c17] at H
            have c17b0 : decide (60 < (wrap64 (x8_3 + t111))) = false := decide_eq_false c17
            clear c17
            have H' := Zd.mk H
            clear H
            have p109 : 0 ≤ (x26_3 : Int) := of_decide_eq_true (by first | (with_reducible assumption) | assumption)
            have q109 : x26_3 < (l0_2.length : Int) := of_decide_eq_true (by first | (with_reducible assumption) | assumption)
            obtain ⟨ad109, A109_2, c109_2, e109, hx109_0, hx109_1, hx109_2, hl109_2, hi109_2⟩ := at_T29 HR0_2.out x26_3 p109 q109
            cases e109
            replace hx109_0 := (HB.out.cell (World.block_lt_of_cell? w _ hx109_0)).trans hx109_0
            replace hx109_1 := (HB.out.cell (World.block_lt_of_cell? w _ hx109_1)).trans hx109_1
            replace hx109_2 := (HB.out.cell (World.block_lt_of_cell? w _ hx109_2)).trans hx109_2
            have HR109_2 := Zd.mk hi109_2
            have HC109_2 := Zd.mk hl109_2
            clear hi109_2 hl109_2
            replace p109 := eq_true p109
            replace q109 := eq_true q109
            go_wp2_with (first | ((with_reducible refine gate_dst (N := 11) rfl ?_); refine box_event ?hg (N := 11) ?hd (cs := #[.int .i64 0, .int .i64 0, .slice none 0 0]) (t := 29) ?hr ?_; (case hd => rfl); (case hg => rfl); (case hr => first | (go_simp; done) | (go_simp; rfl)); intro gb110 hg w22 hbox hb; have n0_ := Zd.mk (bb_ (g := gb107) (o := .cells #[.int .i64 a0_0, .int .i64 a0_1, .slice (some ad109) l0_2.length c0_2] 29 (0, 0)) K_ hb); have n1_ := Zd.mk (bt_ B_ hb); have n2_ := Zd.mk (hbox); have n3_ := Zd.mk ((by rw [hg]; exact (bs_ B_) : w.heap.size ≤ gb110)); have n4_ := Zd.mk ((by rw [hg]; exact (bs_ B_) : w.heap.size ≤ gb110)); have n5_ := Zd.mk ((by rw [hg]; exact Nat.ne_of_lt (blk_lt (g := gb107) (o := .cells #[.int .i64 a0_0, .int .i64 a0_1, .slice (some ad109) l0_2.length c0_2] 29 (0, 0)) K_) : gb107 ≠ gb110)); have n6_ := Zd.mk ((by rw [hg]; exact Nat.ne_of_gt (blk_lt (g := gb107) (o := .cells #[.int .i64 a0_0, .int .i64 a0_1, .slice (some ad109) l0_2.length c0_2] 29 (0, 0)) K_) : gb110 ≠ gb107)); clear BK107; clear HB; have BK107 := n0_; have HB := n1_; have BK110 := n2_; have GW110 := n3_; have GE110 := n4_; have NB107_110 := n5_; have NB110_107 := n6_; clear n0_ n1_ n2_ n3_ n4_ n5_ n6_; clear hb hbox hg; have hnb23 := NB110_107.out; have hnc23 := NB107_110.out; have hcz24_0 : w22.cell? ⟨gb110, 0, none⟩ = some (.int .i64 0) := (bq_ BK110.out 0).trans rfl; have hcz24_1 : w22.cell? ⟨gb110, 1, none⟩ = some (.int .i64 0) := (bq_ BK110.out 1).trans rfl; have hcz24_2 : w22.cell? ⟨gb110, 2, none⟩ = some (.slice none 0 0) := (bq_ BK110.out 2).trans rfl; have hfz24_0 := bz_ BK110.out 0; have hfz24_1 := bz_ BK110.out 1; have hfz24_2 := bz_ BK110.out 2) | ((with_reducible refine gate_callee (f := 33) rfl ?_); refine goesL_ (some 37) rfl rfl Try.func33 (by kernel_rfl) rfl #[.agg #[.int .i64 ((rd_T29 l0_2 x26_3).f0), .int .i64 ((rd_T29 l0_2 x26_3).f1), .slice A109_2 ((rd_T29 l0_2 x26_3).f2).length c109_2], .int .i64 (wrap64 (a1 + 1)), .int .i64 (wrap64 (a2 - x8_3))] rfl (by (try simp only [List.map_toArray, List.map_cons, List.map_nil]); first | done | rfl | (simp only [List.length_drop, List.length_take]; rfl)) ?_; (with_reducible refine (ih k3 (by have := HJ3.out; have := HJ8.out; have := HK3.out; omega) ((rd_T29 l0_2 x26_3).f0) ((rd_T29 l0_2 x26_3).f1) _ _ ((rd_T29 l0_2 x26_3).f2) (wrap64 (a1 + 1)) (wrap64 (a2 - x8_3)) t111 t112 _ ?side1 ?side2 A16.out).mono ?_); (case side1 => exact Kd.C_below HR109_2.out B_); (case side2 => exact HC109_2.out); rintro e w25 ⟨rfl, hb⟩; refine ⟨_, rfl, ?_⟩; have n0_ := Zd.mk (bb_ (g := gb107) (o := .cells #[.int .i64 a0_0, .int .i64 a0_1, .slice (some ad109) l0_2.length c0_2] 29 (0, 0)) (by (with_reducible repeat (first | refine bd_ ?_ _ | refine blk_drew ?_ | refine ba_ ?_ _)); refine blk_far ?_ NB107_110.out _; (with_reducible repeat (first | refine bd_ ?_ _ | refine blk_drew ?_ | refine ba_ ?_ _)); refine blk_far ?_ NB107_110.out _; (with_reducible repeat (first | refine bd_ ?_ _ | refine blk_drew ?_ | refine ba_ ?_ _)); refine blk_far ?_ NB107_110.out _; (with_reducible repeat (first | refine bd_ ?_ _ | refine blk_drew ?_ | refine ba_ ?_ _)); exact BK107.out) hb); have n1_ := Zd.mk (bb_ (g := gb110) (o := .cells #[.int .i64 ((rd_T29 l0_2 x26_3).f0), .int .i64 ((rd_T29 l0_2 x26_3).f1), .slice A109_2 ((rd_T29 l0_2 x26_3).f2).length c109_2] 29 (0, 0)) (by (with_reducible repeat (first | refine bd_ ?_ _ | refine blk_drew ?_ | refine ba_ ?_ _)); refine blk_put (cs := #[.int .i64 ((rd_T29 l0_2 x26_3).f0), .int .i64 ((rd_T29 l0_2 x26_3).f1), .slice none 0 0]) ?_ 2 _ rfl; (with_reducible repeat (first | refine bd_ ?_ _ | refine blk_drew ?_ | refine ba_ ?_ _)); refine blk_put (cs := #[.int .i64 ((rd_T29 l0_2 x26_3).f0), .int .i64 0, .slice none 0 0]) ?_ 1 _ rfl; (with_reducible repeat (first | refine bd_ ?_ _ | refine blk_drew ?_ | refine ba_ ?_ _)); refine blk_put (cs := #[.int .i64 0, .int .i64 0, .slice none 0 0]) ?_ 0 _ rfl; (with_reducible repeat (first | refine bd_ ?_ _ | refine blk_drew ?_ | refine ba_ ?_ _)); exact BK110.out) hb); have n2_ := Zd.mk (bt_ B_ hb); clear BK107; clear BK110; clear HB; have BK107 := n0_; have BK110 := n1_; have HB := n2_; clear n0_ n1_ n2_; (try clear hb); (try clear hb2); (try clear hk); (try clear hi)))
            go_roundg k3
            case measure => have := HJ3.out; have := HJ8.out; have := HK3.out; omega
            case rel => exact ⟨(wrap64 (x8_3 + t111)), (wrap64 (x9_3 + t112)), (wrap64 (x26_3 + 1)), (by first | rfl | (simp; done) | (simp [*]; done)), (by first | rfl | (simp; done) | (simp [*]; done)), (by first | rfl | (simp; done) | (simp [*]; done)), H', ⟨by have := HJ3.out; have := HJ8.out; have := HK3.out; omega⟩, ⟨K_⟩, ⟨B_⟩⟩
          ·rw [if_neg c15] at H
           exact absurd H (by simp)
         ·rw [if_neg c14] at H
          exact absurd H (by simp)
        ·rw [if_neg c13] at H
         have c13b0 : decide (x26_3 < (l0_2.length : Int)) = false := decide_eq_false c13
         clear c13
         simp only [Option.some.injEq, Prod.mk.injEq] at H
         obtain ⟨rfl, rfl⟩ := H
         go_wp2
         go_ret2
         exact ⟨by first | rfl | (simp [errW_none, errW_some] <;> rfl) | (simp [*, errW_none, errW_some] <;> rfl), B_⟩

attribute [local go_sem] max2_int min2_int max_two min_two max_three min_three max_four min_four

mutual
def parryref22_Kids.j0 : Nat → Int → Bool → Option (Int)
 | 0, _, _ => none
 | k + 1, x3, x4 => if x4 = true then (some 0) else (if x3 = 3 then (parryref22_Kids.j1 k x3 (x3 == 3)) else (parryref22_Kids.j1 k x3 (x3 == 6)))
def parryref22_Kids.j1 : Nat → Int → Bool → Option (Int)
 | 0, _, _ => none
 | k + 1, x3, x7 => if x7 = true then (some 1) else (if x3 = 4 then (some 2) else (if x3 = 5 then (some 2) else (if x3 = 7 then (some 2) else (if x3 = 8 then (some 2) else (some (-1))))))
end
def parryref22_Kids.f (k : Nat) (a0 : Int) : Option (Int) := if a0 = 1 then (parryref22_Kids.j0 k a0 (a0 == 1)) else (parryref22_Kids.j0 k a0 (a0 == 2))
theorem parryref22_Kids.calls (k : Nat) (a0 : Int) (r : Int) (w : World) (h : parryref22_Kids.f k a0 = some r) :
  Calls Try.prog 57 #[.int .i64 a0] w fun e w' => e = .returned (.int .i64 r) ∧ Drawn0 w w' := by
 have H : (if a0 = 1 then (parryref22_Kids.j0 k a0 (a0 == 1)) else (parryref22_Kids.j0 k a0 (a0 == 2))) = some r := h
 clear h
 have HC2 := Zd.mk H
 clear H
 go_enter Try.func57, Try.ntmps57
 go_upto_if 4 with (fail)
 go_cut [4] (fun v4 wc => ∃ (kq : Nat) (x4_1 : Bool), v4 = .bool x4_1 ∧ Zd (parryref22_Kids.j0 kq a0 x4_1 = some r) ∧ Zd (kq ≤ k) ∧ Drawn0 w wc)
 case first =>
  have H := HC2.out
  clear HC2
  by_cases c3 : a0 = 1
  ·rw [if_pos c3] at H
   have c3b0 : (a0 == 1) = true := beq_iff_eq.mpr c3
   have c3b1 : (a0 != 1) = false := bne_eq_false_iff_eq.mpr c3
   clear c3
   (first | rw [c3b0] | (simp only [i64_w, i32_w]; rw [c3b0]) | skip)
   have H' := Zd.mk H
   clear H
   go_wp2
   go_meet
   case rel => exact ⟨_, ((a0 == 1)), (by first | rfl | (simp; done) | (simp [*]; done)), H', ⟨by first | omega | exact Nat.le_refl _⟩, by repeat (first | exact Drawn0.refl _ | apply Drawn0.step)⟩
  ·rw [if_neg c3] at H
   have c3b0 : (a0 == 1) = false := beq_eq_false_iff_ne.mpr c3
   have c3b1 : (a0 != 1) = true := bne_iff_ne.mpr c3
   (first | rw [c3b0] | (simp only [i64_w, i32_w]; rw [c3b0]) | skip)
   have H' := Zd.mk H
   clear H
   go_wp2
   go_meet
   case rel => exact ⟨_, ((a0 == 2)), (by first | rfl | (simp; done) | (simp [*]; done)), H', ⟨by first | omega | exact Nat.le_refl _⟩, by repeat (first | exact Drawn0.refl _ | apply Drawn0.step)⟩
 case rest =>
  clear HC2
  try clear p2
  try clear c3
  try clear c3b0
  try clear c3b1
  obtain ⟨kq, x4_1, rfl, HA, HJ1, ⟨mc1, rfl⟩⟩ := hcut
  cases kq with
  | zero => exact absurd HA.out (by simp [parryref22_Kids.j0])
  | succ kj1 =>
   have H := HA.out
   clear HA
   simp only [parryref22_Kids.j0] at H
   by_cases c4 : x4_1 = true
   ·subst c4
    have H1 : (some 0) = some r := by rw [if_pos rfl] at H; exact H
    clear H
    have H := H1
    clear H1
    obtain rfl := Option.some.inj H
    go_wp2
    go_ret
    exact ⟨by first | rfl | (simp; done) | (simp [*]; done), by repeat (first | exact Drawn0.refl _ | apply Drawn0.step)⟩
   ·replace c4 := Bool.eq_false_iff.mpr c4
    subst c4
    have H1 : (if a0 = 3 then (parryref22_Kids.j1 kj1 a0 (a0 == 3)) else (parryref22_Kids.j1 kj1 a0 (a0 == 6))) = some r := by rw [if_neg (show ¬ (false = true) by decide)] at H; exact H
    clear H
    have H := H1
    clear H1
    have HC5 := Zd.mk H
    clear H
    go_upto_if 7 with (fail)
    go_cut [7] (fun v7 wc => ∃ (kq : Nat) (x7_4 : Bool), v7 = .bool x7_4 ∧ Zd (parryref22_Kids.j1 kq a0 x7_4 = some r) ∧ Zd (kq ≤ kj1) ∧ Drawn0 w wc)
    case first =>
     have H := HC5.out
     clear HC5
     by_cases c6 : a0 = 3
     ·rw [if_pos c6] at H
      have c6b0 : (a0 == 3) = true := beq_iff_eq.mpr c6
      have c6b1 : (a0 != 3) = false := bne_eq_false_iff_eq.mpr c6
      clear c6
      (first | rw [c6b0] | (simp only [i64_w, i32_w]; rw [c6b0]) | skip)
      have H' := Zd.mk H
      clear H
      go_wp2
      go_meet
      case rel => exact ⟨_, ((a0 == 3)), (by first | rfl | (simp; done) | (simp [*]; done)), H', ⟨by have := HJ1.out; first | omega | exact Nat.le_refl _⟩, by repeat (first | exact Drawn0.refl _ | apply Drawn0.step)⟩
     ·rw [if_neg c6] at H
      have c6b0 : (a0 == 3) = false := beq_eq_false_iff_ne.mpr c6
      have c6b1 : (a0 != 3) = true := bne_iff_ne.mpr c6
      (first | rw [c6b0] | (simp only [i64_w, i32_w]; rw [c6b0]) | skip)
      have H' := Zd.mk H
      clear H
      go_wp2
      go_meet
      case rel => exact ⟨_, ((a0 == 6)), (by first | rfl | (simp; done) | (simp [*]; done)), H', ⟨by have := HJ1.out; first | omega | exact Nat.le_refl _⟩, by repeat (first | exact Drawn0.refl _ | apply Drawn0.step)⟩
    case rest =>
     clear HC5
     try clear c1
     try clear p2
     try clear c3
     try clear c3b0
     try clear c3b1
     try clear c4
     try clear c5
     try clear c6
     try clear c6b0
     try clear c6b1
     try clear p2
     obtain ⟨kq, x7_4, rfl, HA, HJ4, ⟨mc4, rfl⟩⟩ := hcut
     cases kq with
     | zero => exact absurd HA.out (by simp [parryref22_Kids.j1])
     | succ kj4 =>
      have H := HA.out
      clear HA
      simp only [parryref22_Kids.j1] at H
      by_cases c7 : x7_4 = true
      ·subst c7
       have H1 : (some 1) = some r := by rw [if_pos rfl] at H; exact H
       clear H
       have H := H1
       clear H1
       obtain rfl := Option.some.inj H
       go_wp2
       go_ret
       exact ⟨by first | rfl | (simp; done) | (simp [*]; done), by repeat (first | exact Drawn0.refl _ | apply Drawn0.step)⟩
      ·replace c7 := Bool.eq_false_iff.mpr c7
       subst c7
       have H1 : (if a0 = 4 then (some 2) else (if a0 = 5 then (some 2) else (if a0 = 7 then (some 2) else (if a0 = 8 then (some 2) else (some (-1)))))) = some r := by rw [if_neg (show ¬ (false = true) by decide)] at H; exact H
       clear H
       have H := H1
       clear H1
       by_cases c8 : a0 = 4
       ·rw [if_pos c8] at H
        have c8b0 : (a0 == 4) = true := beq_iff_eq.mpr c8
        have c8b1 : (a0 != 4) = false := bne_eq_false_iff_eq.mpr c8
        clear c8
        obtain rfl := Option.some.inj H
        go_wp2
        go_ret
        exact ⟨by first | rfl | (simp; done) | (simp [*]; done), by repeat (first | exact Drawn0.refl _ | apply Drawn0.step)⟩
       ·rw [if_neg c8] at H
        have c8b0 : (a0 == 4) = false := beq_eq_false_iff_ne.mpr c8
        have c8b1 : (a0 != 4) = true := bne_iff_ne.mpr c8
        by_cases c9 : a0 = 5
        ·rw [if_pos c9] at H
         have c9b0 : (a0 == 5) = true := beq_iff_eq.mpr c9
         have c9b1 : (a0 != 5) = false := bne_eq_false_iff_eq.mpr c9
         clear c9
         obtain rfl := Option.some.inj H
         go_wp2
         go_ret
         exact ⟨by first | rfl | (simp; done) | (simp [*]; done), by repeat (first | exact Drawn0.refl _ | apply Drawn0.step)⟩
        ·rw [if_neg c9] at H
         have c9b0 : (a0 == 5) = false := beq_eq_false_iff_ne.mpr c9
         have c9b1 : (a0 != 5) = true := bne_iff_ne.mpr c9
         by_cases c10 : a0 = 7
         ·rw [if_pos c10] at H
          have c10b0 : (a0 == 7) = true := beq_iff_eq.mpr c10
          have c10b1 : (a0 != 7) = false := bne_eq_false_iff_eq.mpr c10
          clear c10
          obtain rfl := Option.some.inj H
          go_wp2
          go_ret
          exact ⟨by first | rfl | (simp; done) | (simp [*]; done), by repeat (first | exact Drawn0.refl _ | apply Drawn0.step)⟩
         ·rw [if_neg c10] at H
          have c10b0 : (a0 == 7) = false := beq_eq_false_iff_ne.mpr c10
          have c10b1 : (a0 != 7) = true := bne_iff_ne.mpr c10
          by_cases c11 : a0 = 8
          ·rw [if_pos c11] at H
           have c11b0 : (a0 == 8) = true := beq_iff_eq.mpr c11
           have c11b1 : (a0 != 8) = false := bne_eq_false_iff_eq.mpr c11
           clear c11
           obtain rfl := Option.some.inj H
           go_wp2
           go_ret
           exact ⟨by first | rfl | (simp; done) | (simp [*]; done), by repeat (first | exact Drawn0.refl _ | apply Drawn0.step)⟩
          ·rw [if_neg c11] at H
           have c11b0 : (a0 == 8) = false := beq_eq_false_iff_ne.mpr c11
           have c11b1 : (a0 != 8) = true := bne_iff_ne.mpr c11
           obtain rfl := Option.some.inj H
           go_wp2
           go_ret
           exact ⟨by first | rfl | (simp; done) | (simp [*]; done), by repeat (first | exact Drawn0.refl _ | apply Drawn0.step)⟩

end Go.Proofs.Ytapejnikpmfddaa.P
namespace Go.Proofs.Ytapejnikpmfddaa.X
open Go.RowKit Go.Proofs.YtapejnikpmfddaaW.PrintWords Go.Proofs.YtapejnikpmfddaaW.PrintLast Go.Proofs.YtapejnikpmfddaaW.PrintMore
open Go.Proofs.Ytapejnikpmfddaa.P Go.Proofs.Ytapejnikpmfddaa.Evx
theorem Kids_ev (op : Int) : Ev (fun k => parryref22_Kids.f k op) (kidsS op) := by
 have h1 : ∀ b : Bool, b = decide (op = 3 ∨ op = 6) → ¬ (op = 1 ∨ op = 2) → Ev (fun k => parryref22_Kids.j1 k op b) (kidsS op) := by
  intro b hb h0
  refine ev_step (fun k => rfl) (ev_bool (fun h => ?_) (fun h => ?_))
  ·rw [h] at hb
   have := of_decide_eq_true hb.symm
   exact ev_eq (ev_some _) (by unfold kidsS; rw [if_neg h0, if_pos this])
  ·rw [h] at hb
   have := of_decide_eq_false hb.symm
   have e : kidsS op = if op = 4 ∨ op = 5 ∨ op = 7 ∨ op = 8 then 2 else -1 := by unfold kidsS; rw [if_neg h0, if_neg this]
   rw [e]
   refine ev_ite (fun c => ev_eq (ev_some _) ?_) (fun c4 => ev_ite (fun c => ev_eq (ev_some _) ?_) (fun c5 => ev_ite (fun c => ev_eq (ev_some _) ?_) (fun c7 => ev_ite (fun c => ev_eq (ev_some _) ?_) (fun c8 => ev_eq (ev_some _) ?_))))
   ·rw [if_pos (by omega)]
   ·rw [if_pos (by omega)]
   ·rw [if_pos (by omega)]
   ·rw [if_pos (by omega)]
   ·rw [if_neg (by omega)]
 have h0 : ∀ b : Bool, b = decide (op = 1 ∨ op = 2) → Ev (fun k => parryref22_Kids.j0 k op b) (kidsS op) := by
  intro b hb
  refine ev_step (fun k => rfl) (ev_bool (fun h => ?_) (fun h => ?_))
  ·rw [h] at hb
   have := of_decide_eq_true hb.symm
   exact ev_eq (ev_some _) (by unfold kidsS; rw [if_pos this])
  ·rw [h] at hb
   have h2 := of_decide_eq_false hb.symm
   refine ev_ite (fun c => h1 _ ?_ h2) (fun c => h1 _ ?_ h2)
   ·simp [c]
   ·simp [c, show (op == 6) = decide (op = 6) from rfl]
 unfold parryref22_Kids.f
 refine ev_ite (fun c => h0 _ ?_) (fun c => h0 _ ?_)
 ·simp [c]
 ·simp [c, show (op == 2) = decide (op = 2) from rfl]
def rsd.T1 : Bool × List (List Nat × List Nat) := (true, [([], []), ([0], [0]), ([1], [1]), ([2], [2]), ([3, 2], [3]), ([4], [4]), ([5, 4], [4, 5]), ([6, 4], [4, 6]), ([4], [4]), ([8, 4], [4, 8]), ([9, 4, 4], [4, 9]), ([7, 10, 4], [4, 7, 10]), ([4, 11], [4, 11])])
def rsd.B1 : List Nat := [0, 1, 3, 7, 15, 31, 63, 127, 31, 287, 799, 2047, 4095]
theorem rsd.tab1 : rtab .any (opsOf Try.f34 1) = rsd.T1 := by kernel_rfl
theorem rsd.bits1 : waitsOk rsd.T1.2 rsd.B1 = true := by kernel_rfl
theorem bnot {b : Bool} (h : (!b) = true) : b = false := by simpa using h
def RsAt (s : S29) : Prop := ∀ (A : Option Addr) (cp : Nat) (w : World), Kd.C k29 w A s.f2.length s.f2 → s.f2.length ≤ cp →
  Calls Try.prog 34 #[.agg #[.int .i64 s.f0, .int .i64 s.f1, .slice A s.f2.length cp]] w fun e w' => e = .returned (.bool (soundS s)) ∧ Below w.heap.size w w'
theorem rsound_calls (s : S29) (ih : ∀ k ∈ s.f2, RsAt k) : RsAt s := by
 intro A cp w hk hc
 have huF := Try.underlying29
 have huL := Try.underlying27
 obtain ⟨W1, hW1⟩ : ∃ W1, W1 = w.alloc (.cells #[.int .i64 s.f0, .int .i64 s.f1, .slice A s.f2.length cp] 29) := ⟨_, rfl⟩
 have hB1 : Below w.heap.size w W1 := by rw [hW1]; exact below_alloc (Below.refl _ _) _
 have hbx : W1.heap[w.heap.size]? = some (.cells #[.int .i64 s.f0, .int .i64 s.f1, .slice A s.f2.length cp] 29 (0, 0)) := by rw [hW1]; exact heap_alloc_new w _
 have HBX := Zd.mk hbx
 have HB1 := Zd.mk hB1
 have HK := Zd.mk hk
 have HIH := Zd.mk ih
 obtain ⟨kk, hkk⟩ := (Kids_ev s.f0).rounds
 have hkr := kids_range s.f0
 have HKK := Zd.mk hkk
 have HD := Zd.mk (show soundS s = (decide (0 ≤ kidsS s.f0) && (decide ((s.f2.length : Int) = kidsS s.f0) && (decide (0 ≤ s.f1) && (decide (s.f1 ≤ mostS s.f0) && soundL s.f2)))) from by cases s; rfl)
 have HMO := Zd.mk (show mostS s.f0 = if s.f0 = 2 then 19 else 0 from rfl)
 have x0 : W1.cell? ⟨w.heap.size, 0, none⟩ = some (.int .i64 s.f0) := (bq_ hbx 0).trans rfl
 have x1 : W1.cell? ⟨w.heap.size, 1, none⟩ = some (.int .i64 s.f1) := (bq_ hbx 1).trans rfl
 have x2 : W1.cell? ⟨w.heap.size, 2, none⟩ = some (.slice A s.f2.length cp) := (bq_ hbx 2).trans rfl
 have hlen := Kd.C_max HK.out
 clear hbx hB1 hk ih hkk
 generalize kidsS s.f0 = Kq at *
 generalize mostS s.f0 = M at *
 generalize soundS s = R at *
 go_enter Try.func34, Try.ntmps34
 go_upto_region 1 with fail
 rw [← hW1]
 clear hW1
 go_cut [17] (fun v17 wx => ∃ (t : Bool) (m : Nat), v17 = .bool t ∧ Zd ((!(decide (0 ≤ Kq) && decide ((s.f2.length : Int) = Kq))) = t) ∧ wx = W1.drewN m)
 case first =>
  by_cases c1 : 0 ≤ Kq
  ·have d1 : decide (Kq < 0) = false := decide_eq_false (by omega)
   have HC1 := Zd.mk c1
   clear c1
   go_region_with (go_at_call 57; refine (parryref22_Kids.calls kk s.f0 Kq _ HKK.out).mono ?_; rintro e w1 ⟨rfl, hd0⟩; obtain ⟨m, rfl⟩ := hd0.out)
   all_goals (
    go_wp2_with fail
    go_meet
    exact ⟨_, _, rfl, ⟨by rw [decide_eq_true HC1.out, Bool.true_and]; rfl⟩, rfl⟩)
  ·have d1 : decide (Kq < 0) = true := decide_eq_true (by omega)
   have HC1 := Zd.mk c1
   clear c1
   refine start_ (n := 13) (S := fun w' => w'.cell? ⟨w.heap.size, 0, none⟩ = some (.int .i64 s.f0) ∧ w'.cell? ⟨w.heap.size, 2, none⟩ = some (.slice A s.f2.length cp)) (ds := []) Mk9_ (by kernel_rfl) rfl rfl ⟨x0, x2⟩ (fun hHeld => ?_)
   refine with_tabW rsd.tab1 rsd.bits1 (fun HT_ HW_ => ?_)
   refine pz HT_.out 0 (some 5) Mk10_ rfl rfl ?_
   refine tz HT_.out HW_.out 1 (some 6) Mk11_ rfl rfl hHeld ?_
   refine one_ (i := 2) (N := some 7) Mk12_ rfl rfl (one_of HT_.out (by kernel_rfl)) (by decide) (fun K hK => ?_)
   refine goes_ Try.func57 (by kernel_rfl) rfl #[.int .i64 s.f0] (by rfl) rfl rfl (by simp only [List.map_toArray, List.map_cons, List.map_nil]; rfl) ?_
   with_reducible refine (parryref22_Kids.calls kk s.f0 Kq _ HKK.out).mono ?_
   rintro e w1 ⟨rfl, hd0⟩
   obtain ⟨m, rfl⟩ := hd0.out
   refine ⟨_, rfl, ?_⟩
   refine hK.out _ _ ⟨x0, x2⟩ (fun hHeld => ?_)
   clear hK K
   refine norm_ (a' := ?_) ?_ ?_
   rotate_left
   ·show Act.put _ (some 7) _ = _
    simp only [Act.put, List.setIfInBounds_toArray, List.set_cons_zero, List.set_cons_succ, i64_w, i32_w]
    rfl
   refine pz HT_.out 3 (some 8) Mk13_ rfl rfl ?_
   refine pz HT_.out 4 (some 9) Mk14_ rfl rfl ?_
   refine pu HT_.out 5 (some 10) Mk15_ rfl rfl ?_
   refine pu HT_.out 6 (some 11) Mk16_ rfl rfl ?_
   refine pu HT_.out 7 (some 12) Mk17_ rfl rfl ?_
   refine pu HT_.out 8 (some 13) Mk18_ rfl rfl ?_
   refine pu HT_.out 9 (some 14) Mk19_ rfl rfl ?_
   refine pu HT_.out 10 (some 15) Mk20_ rfl rfl ?_
   refine pu HT_.out 11 (some 16) Mk21_ rfl rfl ?_
   refine pz HT_.out 12 (some 17) Mk22_ rfl rfl ?_
   refine done_ (done_of HT_.out (by kernel_rfl)) ?_
   go_wp2_with fail
   go_meet
   exact ⟨_, _, rfl, ⟨by rw [decide_eq_false (show ¬ 0 ≤ Kq by have := HC1.out; omega)]; rfl⟩, rfl⟩
 case rest =>
  obtain ⟨t, m, rfl, HT, hwc⟩ := hcut
  rw [hwc]
  clear hwc wc
  cases t with
  | true =>
   have HX := Zd.mk (show R = false from by rw [HD.out, ← Bool.and_assoc, bnot HT.out]; rfl)
   go_wp2
   go_ret
   exact ⟨by rw [HX.out]; rfl, pd_ HB1.out _⟩
  | false =>
   have hT : (decide (0 ≤ Kq) && decide ((s.f2.length : Int) = Kq)) = true := by simpa using HT.out
   have HD2 := Zd.mk (show R = (decide (0 ≤ s.f1) && (decide (s.f1 ≤ M) && soundL s.f2)) from by rw [HD.out, ← Bool.and_assoc, hT, Bool.true_and])
   clear hT
   go_upto_region 3 with fail
   go_cut [40] (fun v40 wx => ∃ (t : Bool), v40 = .bool t ∧ Zd ((!(decide (0 ≤ s.f1) && decide (s.f1 ≤ M))) = t) ∧ wx = W1.drewN m)
   case first =>
    by_cases h2 : s.f0 = 2
    ·have hm : M = 19 := by rw [HMO.out, if_pos h2]
     have e2 : (s.f0 == 2) = true := beq_iff_eq.mpr h2
     have e3 : (s.f0 != 2) = false := bne_eq_false_iff_eq.mpr h2
     have HMM := Zd.mk hm
     clear h2 hm
     by_cases c3 : s.f1 < 0
     ·go_wp2
      go_meet
      exact ⟨_, rfl, ⟨by rw [decide_eq_false (show ¬ 0 ≤ s.f1 by omega)]; rfl⟩, rfl⟩
     ·by_cases c4 : 20 ≤ s.f1
      ·go_wp2
       go_meet
       exact ⟨_, rfl, ⟨by rw [HMM.out, decide_eq_false (show ¬ s.f1 ≤ 19 by omega), Bool.and_false]; rfl⟩, rfl⟩
      ·go_wp2
       go_meet
       exact ⟨_, rfl, ⟨by rw [HMM.out, decide_eq_true (show s.f1 ≤ 19 by omega), decide_eq_true (show 0 ≤ s.f1 by omega)]; rfl⟩, rfl⟩
    ·have hm : M = 0 := by rw [HMO.out, if_neg h2]
     have e2 : (s.f0 == 2) = false := beq_eq_false_iff_ne.mpr h2
     have e3 : (s.f0 != 2) = true := bne_iff_ne.mpr h2
     have HMM := Zd.mk hm
     clear h2 hm
     go_wp2
     go_meet
     refine ⟨_, rfl, ⟨?_⟩, rfl⟩
     rw [HMM.out]
     by_cases c : s.f1 = 0
     ·rw [c]; rfl
     ·have h9 : (s.f1 != 0) = true := by simpa using c
      rw [h9]
      by_cases c4 : 0 ≤ s.f1
      ·rw [decide_eq_false (show ¬ s.f1 ≤ 0 by omega), Bool.and_false]; rfl
      ·rw [decide_eq_false c4]; rfl
   case rest =>
    obtain ⟨t, rfl, HT2, hwc⟩ := hcut
    rw [hwc]
    clear hwc wc
    cases t with
    | true =>
     have HX := Zd.mk (show R = false from by rw [HD2.out, ← Bool.and_assoc, bnot HT2.out]; rfl)
     go_wp2
     go_ret
     exact ⟨by rw [HX.out]; rfl, pd_ HB1.out _⟩
    | false =>
     have hT : (decide (0 ≤ s.f1) && decide (s.f1 ≤ M)) = true := by simpa using HT2.out
     have HD3 := Zd.mk (show R = soundL s.f2 from by rw [HD2.out, ← Bool.and_assoc, hT, Bool.true_and])
     clear hT
     go_wp2
     go_loopg [44] s.f2.length (fun kq v44 w' => ∃ j : Nat, j + kq = s.f2.length ∧ v44 = .int .i64 j ∧ Zd (soundL (s.f2.drop j) = soundL s.f2) ∧ Zd (Below w.heap.size w w'))
     case atStart => exact ⟨0, by omega, rfl, ⟨rfl⟩, ⟨pd_ HB1.out _⟩⟩
     case round =>
      obtain ⟨j, hj, rfl, HSL, HBj⟩ := hrel
      have HJ := Zd.mk hj
      clear hj
      by_cases hlt : j < s.f2.length
      ·obtain ⟨ad, A3, c3, e0, hx0, hx1, hx2, hl3, hk3⟩ := kid_at HK.out HBj.out j hlt hlt
       cases e0
       have HCALL := Zd.mk (HIH.out (s.f2[j]'hlt) (List.getElem_mem hlt) A3 c3 _ (Kd.C_below (Kd.C_below hk3 HBj.out) (below_alloc (Below.refl _ _) (.cells #[.int .i64 (s.f2[j]'hlt).f0, .int .i64 (s.f2[j]'hlt).f1, .slice A3 (s.f2[j]'hlt).f2.length c3] 29))) hl3)
       have HST := Zd.mk (show soundL s.f2 = (soundS (s.f2[j]'hlt) && soundL (s.f2.drop (j + 1))) from by rw [← HSL.out, List.drop_eq_getElem_cons hlt, soundL])
       generalize soundS (s.f2[j]'hlt) = b at *
       clear hk3 hl3
       cases b with
       | true =>
        have HS2 := Zd.mk (show soundL (s.f2.drop (j + 1)) = soundL s.f2 from by rw [HST.out, Bool.true_and])
        go_wp2_with (go_at_call 34; refine HCALL.out.mono ?_; rintro e w2 ⟨rfl, hB⟩; have HB2 := Zd.mk (HBj.out.trans (((below_alloc (Below.refl _ _) _ : Below wr.heap.size wr _).trans (hB.mono (by simp))).mono HBj.out.size)); clear hB)
        go_roundg (gk - 1)
        case measure => have := HJ.out; omega
        case rel => exact ⟨j + 1, by have := HJ.out; omega, by go_num, HS2, HB2⟩
       | false =>
        have HX := Zd.mk (show R = false from by rw [HD3.out, HST.out, Bool.false_and])
        go_wp2_with (go_at_call 34; refine HCALL.out.mono ?_; rintro e w2 ⟨rfl, hB⟩; have HB2 := Zd.mk (HBj.out.trans (((below_alloc (Below.refl _ _) _ : Below wr.heap.size wr _).trans (hB.mono (by simp))).mono HBj.out.size)); clear hB)
        go_ret
        exact ⟨by rw [HX.out]; rfl, HB2.out⟩
      ·have HX := Zd.mk (show R = true from by rw [HD3.out, ← HSL.out, List.drop_eq_nil_of_le (by omega)]; rfl)
       go_wp2
       go_ret
       exact ⟨by rw [HX.out]; rfl, HBj.out⟩
mutual
theorem rsound_all : ∀ s : S29, RsAt s
 | ⟨op, m, kids⟩ => rsound_calls ⟨op, m, kids⟩ (rsound_kids kids)
theorem rsound_kids : ∀ (l : List S29) (k : S29), k ∈ l → RsAt k
 | [], k, hk => by simp at hk
 | a :: r, k, hk => by
  rcases List.mem_cons.1 hk with h | h
  ·rw [h]
   exact rsound_all a
  ·exact rsound_kids r k h
end
def parryref22_sound.f (a0_0 : Int) (a0_1 : Int) (l0_2 : List S29) : Option Bool := some (soundS ⟨a0_0, a0_1, l0_2⟩)
theorem parryref22_sound.calls (a0_0 : Int) (a0_1 : Int) (A0_2 : Option Addr) (c0_2 : Nat) (l0_2 : List S29) (r : Bool) (w : World) (hr0_2 : Kd.C k29 w A0_2 l0_2.length l0_2) (hc0_2 : l0_2.length ≤ c0_2) (h : parryref22_sound.f a0_0 a0_1 l0_2 = some r) :
  Calls Try.prog 34 #[.agg #[.int .i64 a0_0, .int .i64 a0_1, .slice A0_2 l0_2.length c0_2]] w fun e w' => e = .returned (.bool r) ∧ Below w.heap.size w w' := by
 obtain rfl := Option.some.inj h
 exact rsound_all ⟨a0_0, a0_1, l0_2⟩ A0_2 c0_2 w hr0_2 hc0_2
end Go.Proofs.Ytapejnikpmfddaa.X
namespace Go.Proofs.Ytapejnikpmfddaa.P
open Go.RowKit Go.Proofs.YtapejnikpmfddaaW.PrintWords Go.Proofs.YtapejnikpmfddaaW.PrintLast Go.Proofs.YtapejnikpmfddaaW.PrintMore
attribute [local go_sem] max2_int min2_int max_two min_two max_three min_three max_four min_four

open Go.Proofs.Ytapejnikpmfddaa.X
def parryref22_May.j0 : Nat → Bool → Int → Int → List (S29) → Option (Int)
 | 0, _, _, _, _ => none
 | k + 1, x10, x114000, x114001, x114002 => if x10 = true then (some 7) else ((parryref22_sound.f x114000 x114001 x114002).bind fun t116 => (if t116 = true then (some 0) else (some 1)))
def parryref22_May.f (k : Nat) (a0_0 : Int) (a0_1 : Int) (l0_2 : List (S29)) : Option (Int) := (parryref22_count.f k a0_0 a0_1 l0_2 1 60).bind fun bt114 => (if bt114.1 > 60 then (parryref22_May.j0 k true a0_0 a0_1 l0_2) else (parryref22_May.j0 k (decide (bt114.2 > 8)) a0_0 a0_1 l0_2))
theorem parryref22_May.calls (k : Nat) (a0_0 : Int) (a0_1 : Int) (A0_2 : Option Addr) (c0_2 : Nat) (l0_2 : List (S29)) (r : Int) (w : World) (hr0_2 : Kd.C k29 w A0_2 l0_2.length l0_2) (hc0_2 : l0_2.length ≤ c0_2) (h : parryref22_May.f k a0_0 a0_1 l0_2 = some r) :
  Calls Try.prog 17 #[.agg #[.int .i64 a0_0, .int .i64 a0_1, .slice A0_2 l0_2.length c0_2]] w fun e w' => e = .returned (.int .i64 r) ∧ Below w.heap.size w w' := by
 have hu29 := Try.underlying29
 have HR0_2 := Zd.mk hr0_2
 have HC0_2 := Zd.mk hc0_2
 clear hr0_2 hc0_2
 have HB := Zd.mk (Below.refl w.heap.size w)
 have H : ((parryref22_count.f k a0_0 a0_1 l0_2 1 60).bind fun bt114 => (if bt114.1 > 60 then (parryref22_May.j0 k true a0_0 a0_1 l0_2) else (parryref22_May.j0 k (decide (bt114.2 > 8)) a0_0 a0_1 l0_2))) = some r := h
 clear h
 replace H := Option.bind_eq_some_iff.mp H
 obtain ⟨⟨t114, t115⟩, A20, H⟩ := H
 replace H : (if t114 > 60 then (parryref22_May.j0 k true a0_0 a0_1 l0_2) else (parryref22_May.j0 k (decide (t115 > 8)) a0_0 a0_1 l0_2)) = some r := H
 have A2 := Zd.mk A20
 clear A20
 have HC3 := Zd.mk H
 clear H
 go_enter Try.func17, Try.ntmps17
 go_upto_region 2 with (first | ((with_reducible refine gate_dst (N := 1) rfl ?_); refine box_event ?hg (N := 1) ?hd (cs := #[.int .i64 a0_0, .int .i64 a0_1, .slice A0_2 l0_2.length c0_2]) (t := 29) ?hr ?_; (case hd => rfl); (case hg => rfl); (case hr => first | (go_simp; done) | (go_simp; rfl)); intro gb113 hg w4 hbox hb; have n0_ := Zd.mk (bt_ B_ hb); have n1_ := Zd.mk (hbox); have n2_ := Zd.mk ((by rw [hg]; exact (bs_ B_) : w.heap.size ≤ gb113)); have n3_ := Zd.mk ((by rw [hg]; exact (bs_ B_) : w.heap.size ≤ gb113)); clear HB; have HB := n0_; have BK113 := n1_; have GW113 := n2_; have GE113 := n3_; clear n0_ n1_ n2_ n3_; clear hb hbox hg; have hcz5_0 : w4.cell? ⟨gb113, 0, none⟩ = some (.int .i64 a0_0) := (bq_ BK113.out 0).trans rfl; have hcz5_1 : w4.cell? ⟨gb113, 1, none⟩ = some (.int .i64 a0_1) := (bq_ BK113.out 1).trans rfl; have hcz5_2 : w4.cell? ⟨gb113, 2, none⟩ = some (.slice A0_2 l0_2.length c0_2) := (bq_ BK113.out 2).trans rfl; have hfz5_0 := bz_ BK113.out 0; have hfz5_1 := bz_ BK113.out 1; have hfz5_2 := bz_ BK113.out 2) | ((with_reducible refine gate_callee (f := 33) rfl ?_); refine goesL_ (some 7) rfl rfl Try.func33 (by kernel_rfl) rfl #[.agg #[.int .i64 a0_0, .int .i64 a0_1, .slice A0_2 l0_2.length c0_2], .int .i64 1, .int .i64 60] rfl (by (try simp only [List.map_toArray, List.map_cons, List.map_nil]); first | done | rfl | (simp only [List.length_drop, List.length_take]; rfl)) ?_; (with_reducible refine (parryref22_count.calls k a0_0 a0_1 _ _ l0_2 1 60 t114 t115 _ ?side1 ?side2 A2.out).mono ?_); (case side1 => exact Kd.C_below HR0_2.out B_); (case side2 => exact HC0_2.out); rintro e w6 ⟨rfl, hb⟩; refine ⟨_, rfl, ?_⟩; have n0_ := Zd.mk (bb_ (g := gb113) (o := .cells #[.int .i64 a0_0, .int .i64 a0_1, .slice A0_2 l0_2.length c0_2] 29 (0, 0)) K_ hb); have n1_ := Zd.mk (bt_ B_ hb); clear BK113; clear HB; have BK113 := n0_; have HB := n1_; clear n0_ n1_; (try clear hb); (try clear hb2); (try clear hk); (try clear hi)))
 (try simp only [Act.put, List.setIfInBounds_toArray, List.set_cons_zero, List.set_cons_succ])
 go_cut [10] (fun v10 wc => ∃ (kq : Nat) (x10_2 : Bool), v10 = .bool x10_2 ∧ Zd (parryref22_May.j0 kq x10_2 a0_0 a0_1 l0_2 = some r) ∧ Zd (kq ≤ k) ∧ Zd (wc.heap[gb113]? = some (.cells #[.int .i64 a0_0, .int .i64 a0_1, (.slice A0_2 l0_2.length c0_2)] 29 (0, 0))) ∧ Zd (Below w.heap.size w wc))
 case first =>
  have H := HC3.out
  clear HC3
  by_cases c7 : t114 > 60
  ·rw [if_pos c7] at H
   have c7b0 : decide (60 < t114) = true := decide_eq_true c7
   clear c7
   (first | rw [c7b0] | (simp only [i64_w, i32_w]; rw [c7b0]) | skip)
   have H' := Zd.mk H
   clear H
   go_wp2
   go_meet
   case rel => exact ⟨_, (true), (by first | rfl | (simp; done) | (simp [*]; done)), H', ⟨by first | omega | exact Nat.le_refl _⟩, ⟨K_⟩, ⟨B_⟩⟩
  ·rw [if_neg c7] at H
   have c7b0 : decide (60 < t114) = false := decide_eq_false c7
   clear c7
   (first | rw [c7b0] | (simp only [i64_w, i32_w]; rw [c7b0]) | skip)
   have H' := Zd.mk H
   clear H
   go_wp2
   go_meet
   case rel => exact ⟨_, (decide (t115 > 8)), (by first | rfl | (simp; done) | (simp [*]; done)), H', ⟨by first | omega | exact Nat.le_refl _⟩, ⟨K_⟩, ⟨B_⟩⟩
 case rest =>
  clear HC3
  try clear c1
  try clear p2
  try clear c3
  try clear c7
  try clear c7b0
  try clear hcz5_0
  try clear hcz5_1
  try clear hcz5_2
  try clear hfz5_0
  try clear hfz5_1
  try clear hfz5_2
  obtain ⟨kq, x10_2, rfl, HA, HJ2, BK113, HB⟩ := hcut
  cases kq with
  | zero => exact absurd HA.out (by simp [parryref22_May.j0])
  | succ kj2 =>
   have H := HA.out
   clear HA
   simp only [parryref22_May.j0] at H
   by_cases c8 : x10_2 = true
   ·subst c8
    have H1 : (some 7) = some r := by rw [if_pos rfl] at H; exact H
    clear H
    have H := H1
    clear H1
    obtain rfl := Option.some.inj H
    go_wp2
    go_ret
    exact ⟨by first | rfl | (simp [errW_none, errW_some] <;> rfl) | (simp [*, errW_none, errW_some] <;> rfl), B_⟩
   ·replace c8 := Bool.eq_false_iff.mpr c8
    subst c8
    have H1 : ((parryref22_sound.f a0_0 a0_1 l0_2).bind fun t116 => (if t116 = true then (some 0) else (some 1))) = some r := by rw [if_neg (show ¬ (false = true) by decide)] at H; exact H
    clear H
    have H := H1
    clear H1
    replace H := Option.bind_eq_some_iff.mp H
    obtain ⟨t116, A90, H⟩ := H
    replace H : (if t116 = true then (some 0) else (some 1)) = some r := H
    have A9 := Zd.mk A90
    clear A90
    by_cases c10 : t116 = true
    ·subst c10
     have H1 : (some 0) = some r := by rw [if_pos rfl] at H; exact H
     clear H
     have H := H1
     clear H1
     obtain rfl := Option.some.inj H
     have hcz11_0 : wc.cell? ⟨gb113, 0, none⟩ = some (.int .i64 a0_0) := (bq_ BK113.out 0).trans rfl
     have hcz11_1 : wc.cell? ⟨gb113, 1, none⟩ = some (.int .i64 a0_1) := (bq_ BK113.out 1).trans rfl
     have hcz11_2 : wc.cell? ⟨gb113, 2, none⟩ = some (.slice A0_2 l0_2.length c0_2) := (bq_ BK113.out 2).trans rfl
     have hfz11_0 := bz_ BK113.out 0
     have hfz11_1 := bz_ BK113.out 1
     have hfz11_2 := bz_ BK113.out 2
     go_wp2_with (first | ((with_reducible refine gate_callee (f := 34) rfl ?_); refine goesL_ (some 19) rfl rfl Try.func34 (by kernel_rfl) rfl #[.agg #[.int .i64 a0_0, .int .i64 a0_1, .slice A0_2 l0_2.length c0_2]] rfl (by (try simp only [List.map_toArray, List.map_cons, List.map_nil]); first | done | rfl | (simp only [List.length_drop, List.length_take]; rfl)) ?_; (with_reducible refine (parryref22_sound.calls a0_0 a0_1 _ _ l0_2 true _ ?side1 ?side2 A9.out).mono ?_); (case side1 => exact Kd.C_below HR0_2.out B_); (case side2 => exact HC0_2.out); rintro e w12 ⟨rfl, hb⟩; refine ⟨_, rfl, ?_⟩; have n0_ := Zd.mk (bb_ (g := gb113) (o := .cells #[.int .i64 a0_0, .int .i64 a0_1, .slice A0_2 l0_2.length c0_2] 29 (0, 0)) K_ hb); have n1_ := Zd.mk (bt_ B_ hb); clear BK113; clear HB; have BK113 := n0_; have HB := n1_; clear n0_ n1_; (try clear hb); (try clear hb2); (try clear hk); (try clear hi)))
     go_ret
     exact ⟨by first | rfl | (simp [errW_none, errW_some] <;> rfl) | (simp [*, errW_none, errW_some] <;> rfl), B_⟩
    ·replace c10 := Bool.eq_false_iff.mpr c10
     subst c10
     have H1 : (some 1) = some r := by rw [if_neg (show ¬ (false = true) by decide)] at H; exact H
     clear H
     have H := H1
     clear H1
     obtain rfl := Option.some.inj H
     have hcz13_0 : wc.cell? ⟨gb113, 0, none⟩ = some (.int .i64 a0_0) := (bq_ BK113.out 0).trans rfl
     have hcz13_1 : wc.cell? ⟨gb113, 1, none⟩ = some (.int .i64 a0_1) := (bq_ BK113.out 1).trans rfl
     have hcz13_2 : wc.cell? ⟨gb113, 2, none⟩ = some (.slice A0_2 l0_2.length c0_2) := (bq_ BK113.out 2).trans rfl
     have hfz13_0 := bz_ BK113.out 0
     have hfz13_1 := bz_ BK113.out 1
     have hfz13_2 := bz_ BK113.out 2
     go_wp2_with (first | ((with_reducible refine gate_callee (f := 34) rfl ?_); refine goesL_ (some 19) rfl rfl Try.func34 (by kernel_rfl) rfl #[.agg #[.int .i64 a0_0, .int .i64 a0_1, .slice A0_2 l0_2.length c0_2]] rfl (by (try simp only [List.map_toArray, List.map_cons, List.map_nil]); first | done | rfl | (simp only [List.length_drop, List.length_take]; rfl)) ?_; (with_reducible refine (parryref22_sound.calls a0_0 a0_1 _ _ l0_2 false _ ?side1 ?side2 A9.out).mono ?_); (case side1 => exact Kd.C_below HR0_2.out B_); (case side2 => exact HC0_2.out); rintro e w14 ⟨rfl, hb⟩; refine ⟨_, rfl, ?_⟩; have n0_ := Zd.mk (bb_ (g := gb113) (o := .cells #[.int .i64 a0_0, .int .i64 a0_1, .slice A0_2 l0_2.length c0_2] 29 (0, 0)) K_ hb); have n1_ := Zd.mk (bt_ B_ hb); clear BK113; clear HB; have BK113 := n0_; have HB := n1_; clear n0_ n1_; (try clear hb); (try clear hb2); (try clear hk); (try clear hi)))
     go_ret
     exact ⟨by first | rfl | (simp [errW_none, errW_some] <;> rfl) | (simp [*, errW_none, errW_some] <;> rfl), B_⟩

end Go.Proofs.Ytapejnikpmfddaa.P
namespace Go.Proofs.Ytapejnikpmfddaa.X
open Go.RowKit Go.Proofs.YtapejnikpmfddaaW.PrintWords Go.Proofs.YtapejnikpmfddaaW.PrintMore
open Go.Proofs.Ytapejnikpmfddaa.P Go.Proofs.Ytapejnikpmfddaa.Evx
theorem Timed_some (op : Int) : parryref22_Timed.f op = some (timedS op) := by
 unfold parryref22_Timed.f timedS
 repeat' split
 all_goals (congr 1; rw [Bool.eq_iff_iff]; simp; omega)
def CntAt (s : S29) : Prop := ∀ (d r : Int), 1 ≤ d → d ≤ 13 → r ≤ 60 → 60 ≤ r + 60 * d → ∃ n t : Int, Ev (fun k => parryref22_count.f k s.f0 s.f1 s.f2 d r) (n, t) ∧ 1 ≤ n ∧ n ≤ 61 + 60 * (13 - d) ∧ 0 ≤ t ∧ t ≤ n ∧
 ((nS s : Int) ≤ r ∧ d + hS s ≤ 13 → n = nS s ∧ t = tnS s) ∧ (¬ ((nS s : Int) ≤ r ∧ d + hS s ≤ 13) → r < n)
theorem nS_pos (s : S29) : 1 ≤ nS s := by cases s; simp only [nS]; omega
theorem count_l (kids : List S29) (d r : Int) (hd1 : 1 ≤ d) (hd : d ≤ 12) (hr : r ≤ 60) (hr2 : 60 ≤ r + 60 * d) (ih : ∀ k ∈ kids, CntAt k) :
  ∀ (e j : Nat) (n t : Int), j + e = kids.length → (j : Int) < n → n ≤ 60 → 0 ≤ t → t ≤ n → ∃ n' t' : Int, Ev (fun k => parryref22_count.l0 k d r n t kids (kids.length : Int) j) (n', t') ∧ 1 ≤ n' ∧ n' ≤ 61 + 60 * (13 - d) ∧ 0 ≤ t' ∧ t' ≤ n' ∧
   (n + nL (kids.drop j) ≤ r ∧ d + 1 + hL (kids.drop j) ≤ 13 → n' = n + nL (kids.drop j) ∧ t' = t + tnL (kids.drop j)) ∧ (¬ (n + nL (kids.drop j) ≤ r ∧ d + 1 + hL (kids.drop j) ≤ 13) → r < n')
 | 0, j, n, t, hj, h1, h2, h3, h4 => by
  refine ⟨n, t, ev_step (fun k => rfl) (ev_neg (by omega) (ev_some _)), by omega, by omega, h3, h4, ?_, ?_⟩
  ·rw [List.drop_eq_nil_of_le (by omega)]; simp [nL, tnL]
  ·rw [List.drop_eq_nil_of_le (by omega)]; simp only [nL, hL]; omega
 | e + 1, j, n, t, hj, h1, h2, h3, h4 => by
  have hlt : j < kids.length := by omega
  obtain ⟨x, y, hx, x1, x2, y1, y2, q1, q2⟩ := ih _ (List.getElem_mem hlt) (d + 1) (r - n) (by omega) (by omega) (by omega) (by omega)
  have hdr := List.drop_eq_getElem_cons hlt
  rw [hdr]
  simp only [nL, tnL, hL]
  have hk1 : 1 ≤ nS (kids[j]'hlt) := by cases (kids[j]'hlt); simp only [nS]; omega
  by_cases hc : n + x > 60
  ·refine ⟨n + x, t + y, ev_step (fun k => rfl) (ev_pos (by omega) (ev_pos (by omega) (ev_pos (by omega) ?_))), by omega, by omega, by omega, by omega, ?_, ?_⟩
   ·rw [rdT_nat kids j hlt, w64 (by omega) (by omega), w64 (by omega) (by omega)]
    refine ev_bind hx ?_
    simp only
    rw [w64 (by omega) (by omega), w64 (by omega) (by omega)]
    exact ev_pos hc (ev_some _)
   ·intro hq
    have := q1 (by omega)
    omega
   ·intro _
    omega
  ·obtain ⟨n', t', hn', a1, a2, a3, a4, b1, b2⟩ := count_l kids d r hd1 hd hr hr2 ih e (j + 1) (n + x) (t + y) (by omega) (by omega) (by omega) (by omega) (by omega)
   refine ⟨n', t', ev_step (fun k => rfl) (ev_pos (by omega) (ev_pos (by omega) (ev_pos (by omega) ?_))), a1, a2, a3, a4, ?_, ?_⟩
   ·rw [rdT_nat kids j hlt, w64 (by omega) (by omega), w64 (by omega) (by omega)]
    refine ev_bind hx ?_
    simp only
    rw [w64 (by omega) (by omega), w64 (by omega) (by omega), w64 (by omega) (by omega)]
    refine ev_neg hc ?_
    exact_mod_cast hn'
   ·intro hq
    have := q1 (by omega)
    have := b1 (by omega)
    omega
   ·intro hq
    by_cases hq2 : (nS (kids[j]'hlt) : Int) ≤ r - n ∧ d + 1 + hS (kids[j]'hlt) ≤ 13
    ·have := q1 hq2
     exact b2 (by omega)
    ·have := q2 hq2
     exact b2 (by omega)
mutual
theorem count_ev : ∀ s : S29, CntAt s
 | ⟨op, m, kids⟩ => by
  intro d r h1 h2 h3 h4
  have ih := count_evL kids
  by_cases hd : d > 12
  ·refine ⟨61, 0, ev_step (fun k => rfl) (ev_pos hd (ev_step (f := fun _ => some (61, 0)) (fun k => rfl) (ev_some _))), by omega, by omega, by omega, by omega, ?_, fun _ => by omega⟩
   intro hq
   simp only [hS] at hq
   omega
  ·by_cases hr : r < 1
   ·refine ⟨61, 0, ev_step (fun k => rfl) (ev_neg hd (ev_step (fun k => rfl) (ev_pos (decide_eq_true hr) (ev_some _)))), by omega, by omega, by omega, by omega, ?_, fun _ => by omega⟩
    intro hq
    have := nS_pos ⟨op, m, kids⟩
    omega
   ·have hts : 0 ≤ (tS op : Int) ∧ (tS op : Int) ≤ 1 := by unfold tS; split <;> simp
    obtain ⟨n', t', hn', a1, a2, a3, a4, b1, b2⟩ := count_l kids d r h1 (by omega) h3 h4 ih kids.length 0 1 (tS op) (by omega) (by omega) (by omega) hts.1 hts.2
    refine ⟨n', t', ev_step (fun k => rfl) (ev_neg hd (ev_step (fun k => rfl) (ev_neg (by rw [decide_eq_false hr]; simp) ?_))), a1, a2, a3, a4, ?_, ?_⟩
    ·refine ev_bindv (Timed_some op) (ev_bool (fun c => ?_) (fun c => ?_))
     ·have e1 : (tS op : Int) = 1 := by unfold tS; rw [if_pos c]; rfl
      rw [e1] at hn'
      exact ev_step (fun k => rfl) hn'
     ·have e1 : (tS op : Int) = 0 := by unfold tS; rw [if_neg (by rw [c]; simp)]; rfl
      rw [e1] at hn'
      exact ev_step (fun k => rfl) hn'
    ·intro hq
     simp only [nS, hS, tnS] at hq ⊢
     have := b1 (by rw [List.drop_zero]; omega)
     rw [List.drop_zero] at this
     omega
    ·intro hq
     simp only [nS, hS] at hq
     exact b2 (by rw [List.drop_zero]; omega)
theorem count_evL : ∀ l : List S29, ∀ k ∈ l, CntAt k
 | [], k, hk => by cases hk
 | a :: r, k, hk => by
  rcases List.mem_cons.1 hk with e | e
  ·rw [e]; exact count_ev a
  ·exact count_evL r k e
end
theorem rMay_ev (s : S29) : Ev (fun n => parryref22_May.f n s.f0 s.f1 s.f2) (mayF s) := by
 obtain ⟨n, t, hx, a1, a2, a3, a4, q1, q2⟩ := count_ev s 1 60 (by omega) (by omega) (by omega) (by omega)
 rw [may_eq]
 unfold parryref22_May.f
 refine ev_bind hx ?_
 have h0 : ∀ b : Bool, b = !decide (nS s ≤ 60 ∧ hS s ≤ 12 ∧ tnS s ≤ 8) → Ev (fun n => parryref22_May.j0 n b s.f0 s.f1 s.f2) (if nS s ≤ 60 ∧ hS s ≤ 12 ∧ tnS s ≤ 8 then (if soundS s = true then 0 else 1) else 7) := by
  intro b hb
  refine ev_step (fun k => rfl) (ev_bool (fun h => ?_) (fun h => ?_))
  ·rw [h] at hb
   have hq : ¬ (nS s ≤ 60 ∧ hS s ≤ 12 ∧ tnS s ≤ 8) := of_decide_eq_false (bnot hb.symm)
   exact ev_eq (ev_some _) (by rw [if_neg hq])
  ·rw [h] at hb
   have hq : nS s ≤ 60 ∧ hS s ≤ 12 ∧ tnS s ≤ 8 := by simpa using hb.symm
   rw [if_pos hq]
   have hso : parryref22_sound.f s.f0 s.f1 s.f2 = some (soundS s) := by cases s; rfl
   exact ev_bindv hso (ev_ite (fun c => by rw [if_pos c]; exact ev_some _) (fun c => by rw [if_neg c]; exact ev_some _))
 refine ev_ite (fun c => h0 _ ?_) (fun c => h0 _ ?_)
 ·have hq : ¬ (nS s ≤ 60 ∧ hS s ≤ 12 ∧ tnS s ≤ 8) := fun h => by have := q1 (by omega); simp only at c; omega
  rw [decide_eq_false hq]; rfl
 ·have hq : (nS s : Int) ≤ 60 ∧ 1 + (hS s : Int) ≤ 13 := by
   apply Classical.byContradiction
   intro h
   have := q2 h
   simp only at c
   omega
  have := q1 hq
  simp only
  by_cases ht : t > 8
  ·rw [decide_eq_true ht, decide_eq_false (by omega)]; rfl
  ·rw [decide_eq_false ht, decide_eq_true (by omega)]; rfl
open Go.Proofs.YtapejnikpmfddaaW.PrintLast
def TRowB (wk w0 w : World) (v : Value) (l : List S29) : Prop := OwnRow (k29.K wk) 29 3 w w0.heap.size v l
def TRow (w0 w : World) (v : Value) (l : List S29) : Prop := OwnRow (k29.K w0) 29 3 w w0.heap.size v l
theorem trow_read {w0 w : World} {v : Value} {l : List S29} (h : TRow w0 w v l) (hb : Below w0.heap.size w0 w) : ∃ A c, v = .slice A l.length c ∧ l.length ≤ c ∧ Kd.C k29 w A l.length l := by
 obtain ⟨A, c, e, hl, hr⟩ := OwnRow.reads h
 exact ⟨A, c, e, hl, hr.imp_ (Below.refl _ _) (fun _ _ hp => k29.K_below hb hp)⟩
def TmAt (wk w0 : World) (s : S29) : Prop := Below wk.heap.size wk w0 → ∀ (l : List S29) (v : Value) (A : Option Addr) (cp : Nat) (w : World), TRowB wk w0 w v l → Below w0.heap.size w0 w → Kd.C k29 wk A s.f2.length s.f2 → s.f2.length ≤ cp → l.length + tnS s ≤ 1000 →
  Calls Try.prog 58 #[.agg #[.int .i64 s.f0, .int .i64 s.f1, .slice A s.f2.length cp], v] w fun e w' => ∃ v1, e = .returned v1 ∧ TRowB wk w0 w' v1 (l ++ timesS s) ∧ Below w0.heap.size w0 w'
def ownF (s : S29) : List S29 := if timedS s.f0 = true then [s] else []
theorem times_eq (s : S29) : timesS s = ownF s ++ timesL s.f2 := by cases s; rw [timesS]; rfl
theorem info29x : (Try.prog.info? 29).map (fun i => (i.zero, i.size, i.bytes)) = some (some (.agg #[(.int .i64 0), (.int .i64 0), (.slice none 0 0)]), 3, 40) := by kernel_rfl
theorem times_calls (wk w0 : World) (s : S29) (ih : ∀ k ∈ s.f2, TmAt wk w0 k) : TmAt wk w0 s := by
 intro hBk l v A cp w hT hB hk hc hbd
 have HBK := Zd.mk hBk
 have huF := Try.underlying29
 have huL := Try.underlying27
 obtain ⟨W1, hW1⟩ : ∃ W1, W1 = w.alloc (.cells #[.int .i64 s.f0, .int .i64 s.f1, .slice A s.f2.length cp] 29) := ⟨_, rfl⟩
 have hB1 : Below w.heap.size w W1 := by rw [hW1]; exact below_alloc (Below.refl _ _) _
 have hbx : W1.heap[w.heap.size]? = some (.cells #[.int .i64 s.f0, .int .i64 s.f1, .slice A s.f2.length cp] 29 (0, 0)) := by rw [hW1]; exact heap_alloc_new w _
 have HBX := Zd.mk hbx
 have HB1 := Zd.mk (hB.trans (hB1.mono hB.size))
 have HK := Zd.mk hk
 have HIH := Zd.mk ih
 have HT1 := Zd.mk (show TRowB wk w0 W1 v l from OwnRow.below hT hB1)
 have hvlt : ∀ k, v.ownBlock = some k → k < w.heap.size := by obtain ⟨inner, ho, _⟩ := hT; exact own_lt ho
 have HVL := Zd.mk hvlt
 have HBD := Zd.mk hbd
 have HTN := Zd.mk (tn_eq s)
 have HTE := Zd.mk (times_eq s)
 have HTD := Zd.mk (Timed_some s.f0)
 have HKM := Zd.mk (k29_mk wk s hc hk)
 have x0 : W1.cell? ⟨w.heap.size, 0, none⟩ = some (.int .i64 s.f0) := (bq_ hbx 0).trans rfl
 have x1 : W1.cell? ⟨w.heap.size, 1, none⟩ = some (.int .i64 s.f1) := (bq_ hbx 1).trans rfl
 have x2 : W1.cell? ⟨w.heap.size, 2, none⟩ = some (.slice A s.f2.length cp) := (bq_ hbx 2).trans rfl
 have hlen := Kd.C_max HK.out
 have hlb : l.length ≤ 1000 := by omega
 have HSZ := Zd.mk hB.size
 have HRES := Zd.mk (show l ++ timesS s = l ++ ownF s ++ timesL s.f2 from by rw [times_eq, List.append_assoc])
 generalize l ++ timesS s = R at *
 clear hBk hT hB hk hbx hB1 ih hvlt hbd
 go_enter Try.func58, Try.ntmps58
 go_upto_region 1 with fail
 rw [← hW1]
 clear hW1
 go_upto_if 9 with (go_at_call 56; refine (parryref22_Timed.calls _ (timedS s.f0) _ HTD.out).mono ?_; rintro e w1 ⟨rfl, hd0⟩; obtain ⟨m, rfl⟩ := hd0.out)
 go_cut [1] (fun v1 wx => Zd (TRowB wk w0 wx v1 (l ++ ownF s)) ∧ Zd (Below w0.heap.size w0 wx) ∧ Zd (wx.heap[w.heap.size]? = some (.cells #[.int .i64 s.f0, .int .i64 s.f1, .slice A s.f2.length cp] 29 (0, 0))))
 case first =>
  cases htm : timedS s.f0 with
  | false =>
   have HE := Zd.mk (show ownF s = [] from by unfold ownF; rw [htm]; rfl)
   go_wp2
   go_meet
   exact ⟨⟨by rw [HE.out, List.append_nil]; exact OwnRow.below HT1.out (pd_ (Below.refl _ _) _)⟩, ⟨pd_ HB1.out _⟩, HBX⟩
  | true =>
   have HE := Zd.mk (show ownF s = [s] from by unfold ownF; rw [htm]; rfl)
   obtain ⟨inner, hown, hreps⟩ := OwnRow.below HT1.out (pd_ (Below.refl _ W1) m)
   have HOWN := Zd.mk hown
   have HREP := Zd.mk hreps
   clear hown hreps
   go_wp2_with ((with_reducible refine gate_builtin (b := .append) (xs := #[.tmp 10, .tmp 12]) rfl ?_); at_builtin; refine print_append_cells (w0 := w0) w0.heap.size rfl (.tmp 10) (.tmp 12) 27 29 _ 3 40 rfl huL info29x rfl (by decide) (by decide) v l.length inner [.int .i64 s.f0, .int .i64 s.f1, .slice A s.f2.length cp] rfl rfl rfl (by intro u hu; simp at hu; rcases hu with rfl | rfl | rfl <;> rfl) HOWN.out (pd_ HB1.out _) (Nat.le_trans HSZ.out (by have := blk_lt HBX.out; show w.heap.size ≤ W1.heap.size; omega)) (by omega) ?_; intro v1 w1 hown1 hb1 hg1 hat1; have HO1 := Zd.mk hown1; have HB2 := Zd.mk hb1; have HG1 := Zd.mk hg1; clear hown1 hb1 hg1 hat1)
   go_meet
   refine ⟨⟨?_⟩, HB2, ⟨bg_ (bd_ HBX.out m) HG1.out (fun e => Nat.lt_irrefl _ (HVL.out _ e.symm))⟩⟩
   rw [HE.out]
   exact ⟨_, by rw [List.length_append]; exact HO1.out, HREP.out.snoc HKM.out rfl⟩
 case rest =>
  obtain ⟨HTa, HBa, HBXa⟩ := hcut
  have z2 : wc.cell? ⟨w.heap.size, 2, none⟩ = some (.slice A s.f2.length cp) := (bq_ HBXa.out 2).trans rfl
  have hlo : (l ++ ownF s).length + tnL s.f2 ≤ 1000 := by
   have h1 := HBD.out
   have h2 := HTN.out
   have h3 : (ownF s).length = tS s.f0 := by unfold ownF tS; split <;> rfl
   rw [List.length_append]
   omega
  have HLO := Zd.mk hlo
  generalize l ++ ownF s = L1 at *
  clear hlo x0 x1 x2
  go_wp2
  go_loopg [17, 1] s.f2.length (fun kq v17 v1 w' => ∃ (j : Nat) (l2 : List S29), j + kq = s.f2.length ∧ v17 = .int .i64 j ∧ Zd (l2 ++ timesL (s.f2.drop j) = L1 ++ timesL s.f2) ∧ Zd (TRowB wk w0 w' v1 l2) ∧ Zd (Below w0.heap.size w0 w'))
  case atStart => exact ⟨0, L1, by omega, rfl, ⟨rfl⟩, HTa, HBa⟩
  case round =>
   obtain ⟨j, l2, hj, rfl, HL2, HT2, HB2⟩ := hrel
   have HJ := Zd.mk hj
   clear hj
   by_cases hlt : j < s.f2.length
   ·obtain ⟨ad, A3, c3, e0, hx0, hx1, hx2, hl3, hk3⟩ := kid_at HK.out (HBK.out.trans (HB2.out.mono HBK.out.size)) j hlt hlt
    cases e0
    have hd := List.drop_eq_getElem_cons hlt
    have hL3 : (l2 ++ timesS (s.f2[j]'hlt)) ++ timesL (s.f2.drop (j + 1)) = L1 ++ timesL s.f2 := by rw [← HL2.out, hd, timesL, List.append_assoc]
    have hbd3 : l2.length + tnS (s.f2[j]'hlt) ≤ 1000 := by
     have h1 := congrArg List.length hL3
     simp only [List.length_append, len_times, len_timesL] at h1
     have h2 := HLO.out
     omega
    have HL3 := Zd.mk hL3
    have HCALL := Zd.mk (fun W u (h : TRowB wk w0 W u l2) (hb : Below w0.heap.size w0 W) => HIH.out (s.f2[j]'hlt) (List.getElem_mem hlt) HBK.out l2 u A3 c3 W h hb hk3 hl3 hbd3)
    clear hd hL3 hbd3 hk3 hl3
    go_wp2_with (go_at_call 58; refine (HCALL.out _ _ (OwnRow.below HT2.out (below_alloc (Below.refl _ _) _)) (below_alloc HB2.out _)).mono ?_; rintro e w2 ⟨v2, rfl, hT, hB⟩; have HT3 := Zd.mk hT; have HB3 := Zd.mk hB; clear hT hB)
    go_roundg (gk - 1)
    case measure => have := HJ.out; omega
    case rel => exact ⟨j + 1, l2 ++ timesS (s.f2[j]'hlt), by have := HJ.out; omega, by go_num, HL3, HT3, HB3⟩
   ·have HX := Zd.mk (show l2 = R from by have := HL2.out; rw [List.drop_eq_nil_of_le (by omega), timesL, List.append_nil] at this; rw [this, HRES.out])
    go_wp2
    go_ret
    exact ⟨_, rfl, by rw [← HX.out]; exact HT2.out, HB2.out⟩
mutual
theorem tm_all (wk w0 : World) : ∀ s : S29, TmAt wk w0 s
 | ⟨op, m, kids⟩ => times_calls wk w0 ⟨op, m, kids⟩ (tm_kids wk w0 kids)
theorem tm_kids (wk w0 : World) : ∀ (l : List S29) (k : S29), k ∈ l → TmAt wk w0 k
 | [], k, hk => by simp at hk
 | a :: r, k, hk => by
  rcases List.mem_cons.1 hk with h | h
  ·rw [h]
   exact tm_all wk w0 a
  ·exact tm_kids wk w0 r k h
end
theorem rTimes_callsB (wk : World) (s : S29) (A : Option Addr) (cp : Nat) (w : World) (hBk : Below wk.heap.size wk w) (hrk : Kd.C k29 wk A s.f2.length s.f2) (hc : s.f2.length ≤ cp) :
  Calls Try.prog 37 #[.agg #[.int .i64 s.f0, .int .i64 s.f1, .slice A s.f2.length cp]] w fun e w' => ∃ v1, e = .returned v1 ∧ TRowB wk w w' v1 (TimesS s) ∧ Below w.heap.size w w' := by
 have hr : Kd.C k29 w A s.f2.length s.f2 := Kd.C_below hrk hBk
 have HBK := Zd.mk hBk
 have HRK := Zd.mk hrk
 clear hBk hrk
 have huF := Try.underlying29
 obtain ⟨W1, hW1⟩ : ∃ W1, W1 = w.alloc (.cells #[.int .i64 s.f0, .int .i64 s.f1, .slice A s.f2.length cp] 29) := ⟨_, rfl⟩
 have hB1 : Below w.heap.size w W1 := by rw [hW1]; exact below_alloc (Below.refl _ _) _
 have hbx : W1.heap[w.heap.size]? = some (.cells #[.int .i64 s.f0, .int .i64 s.f1, .slice A s.f2.length cp] 29 (0, 0)) := by rw [hW1]; exact heap_alloc_new w _
 have HBX := Zd.mk hbx
 have HB1 := Zd.mk hB1
 have HR := Zd.mk hr
 have x0 : W1.cell? ⟨w.heap.size, 0, none⟩ = some (.int .i64 s.f0) := (bq_ hbx 0).trans rfl
 have x1 : W1.cell? ⟨w.heap.size, 1, none⟩ = some (.int .i64 s.f1) := (bq_ hbx 1).trans rfl
 have x2 : W1.cell? ⟨w.heap.size, 2, none⟩ = some (.slice A s.f2.length cp) := (bq_ hbx 2).trans rfl
 obtain ⟨k1, hk1⟩ := (rMay_ev s).rounds
 have HK1 := Zd.mk hk1
 have HM := Zd.mk (@may_zero s)
 have HTS := Zd.mk (show TimesS s = if mayF s = 0 then timesS s else [] from rfl)
 generalize TimesS s = R at *
 generalize mayF s = mv at *
 clear hbx hB1 hr hk1
 by_cases hm : mv = 0
 ·have hX : R = [] ++ timesS s := by rw [HTS.out, if_pos hm]; rfl
  have HX := Zd.mk hX
  have HZ := Zd.mk (HM.out hm)
  have em : (mv != 0) = false := by rw [hm]; rfl
  clear hX hm
  go_enter Try.func37, Try.ntmps37
  go_upto_region 1 with fail
  rw [← hW1]
  clear hW1
  go_wp2_with (first | (go_at_call 17; refine (parryref22_May.calls k1 s.f0 s.f1 A cp s.f2 mv _ (Kd.C_below HR.out HB1.out) hc HK1.out).mono ?_; rintro e w1 ⟨rfl, hB⟩; have HB := Zd.mk (HB1.out.trans (hB.mono HB1.out.size)); have HBX1 := Zd.mk ((hB.block _ (blk_lt HBX.out)).trans HBX.out); have y0 := (bq_ HBX1.out 0).trans rfl; have y1 := (bq_ HBX1.out 1).trans rfl; have y2 := (bq_ HBX1.out 2).trans rfl; clear hB) | (go_at_call 58; refine (tm_all wk w s HBK.out [] (.slice none 0 0) A cp _ (OwnRow.none_ _ _ _ _ _) HB.out HRK.out hc (by have := HZ.out; simp; omega)).mono ?_; rintro e w2 ⟨v2, rfl, hT, hB2⟩; have HT := Zd.mk hT; have HB2 := Zd.mk hB2; clear hT hB2))
  go_ret
  exact ⟨_, rfl, by rw [HX.out]; exact HT.out, HB2.out⟩
 ·have hX : R = [] := by rw [HTS.out, if_neg hm]
  have HX := Zd.mk hX
  have em : (mv != 0) = true := by simpa using hm
  clear hX hm
  go_enter Try.func37, Try.ntmps37
  go_upto_region 1 with fail
  rw [← hW1]
  clear hW1
  go_wp2_with (go_at_call 17; refine (parryref22_May.calls k1 s.f0 s.f1 A cp s.f2 mv _ (Kd.C_below HR.out HB1.out) hc HK1.out).mono ?_; rintro e w1 ⟨rfl, hB⟩; have HB := Zd.mk (HB1.out.trans (hB.mono HB1.out.size)); clear hB)
  go_ret
  exact ⟨_, rfl, by rw [HX.out]; exact OwnRow.none_ _ _ _ _ _, HB.out⟩
theorem rTimes_calls (s : S29) (A : Option Addr) (cp : Nat) (w : World) (hr : Kd.C k29 w A s.f2.length s.f2) (hc : s.f2.length ≤ cp) :
  Calls Try.prog 37 #[.agg #[.int .i64 s.f0, .int .i64 s.f1, .slice A s.f2.length cp]] w fun e w' => ∃ v1, e = .returned v1 ∧ TRow w w' v1 (TimesS s) ∧ Below w.heap.size w w' :=
 rTimes_callsB w s A cp w (Below.refl _ _) hr hc
theorem pow_w (n : Nat) (h : n ≤ 8) : wrap64 (2 ^ n) = 2 ^ n := by
 have : n = 0 ∨ n = 1 ∨ n = 2 ∨ n = 3 ∨ n = 4 ∨ n = 5 ∨ n = 6 ∨ n = 7 ∨ n = 8 := by omega
 rcases this with h | h | h | h | h | h | h | h | h <;> subst h <;> decide +kernel
theorem rSize_calls (s : S29) (A : Option Addr) (cp : Nat) (w : World) (hr : Kd.C k29 w A s.f2.length s.f2) (hc : s.f2.length ≤ cp) :
  Calls Try.prog 20 #[.agg #[.int .i64 s.f0, .int .i64 s.f1, .slice A s.f2.length cp]] w fun e w' => e = .returned (.int .i64 (sizeS s)) ∧ Below w.heap.size w w' := by
 have huF := Try.underlying29
 have huL := Try.underlying27
 obtain ⟨W1, hW1⟩ : ∃ W1, W1 = w.alloc (.cells #[.int .i64 s.f0, .int .i64 s.f1, .slice A s.f2.length cp] 29) := ⟨_, rfl⟩
 have hB1 : Below w.heap.size w W1 := by rw [hW1]; exact below_alloc (Below.refl _ _) _
 have hbx : W1.heap[w.heap.size]? = some (.cells #[.int .i64 s.f0, .int .i64 s.f1, .slice A s.f2.length cp] 29 (0, 0)) := by rw [hW1]; exact heap_alloc_new w _
 have HBX := Zd.mk hbx
 have HB1 := Zd.mk hB1
 have HR := Zd.mk hr
 have x0 : W1.cell? ⟨w.heap.size, 0, none⟩ = some (.int .i64 s.f0) := (bq_ hbx 0).trans rfl
 have x1 : W1.cell? ⟨w.heap.size, 1, none⟩ = some (.int .i64 s.f1) := (bq_ hbx 1).trans rfl
 have x2 : W1.cell? ⟨w.heap.size, 2, none⟩ = some (.slice A s.f2.length cp) := (bq_ hbx 2).trans rfl
 obtain ⟨k1, hk1⟩ := (rMay_ev s).rounds
 have HK1 := Zd.mk hk1
 have HM := Zd.mk (@may_zero s)
 have HSI := Zd.mk (show sizeS s = if mayF s = 0 then 2 ^ tnS s else 0 from rfl)
 have HTS := Zd.mk (show TimesS s = if mayF s = 0 then timesS s else [] from rfl)
 have HTC := Zd.mk (fun W (h : Below w.heap.size w W) => rTimes_calls s A cp W (Kd.C_below hr h) hc)
 have HLT := Zd.mk (len_times s)
 generalize TimesS s = T at *
 generalize sizeS s = R at *
 generalize mayF s = mv at *
 clear hbx hB1 hr hk1
 by_cases hm : mv = 0
 ·have hX : R = 2 ^ tnS s := by rw [HSI.out, if_pos hm]
  have hTl : T.length = tnS s := by rw [HTS.out, if_pos hm, HLT.out]
  have hz := HM.out hm
  have HX := Zd.mk (hX.trans (pow_w (tnS s) hz.2.2.1).symm)
  have HTL := Zd.mk hTl
  have em : (mv != 0) = false := by rw [hm]; rfl
  have ht8 : tnS s ≤ 8 := hz.2.2.1
  have hw64 : IntKind.u64.wrap (tnS s : Int) = (tnS s : Int) := u64_id (by omega) (by omega)
  clear hX hm hz hTl
  go_enter Try.func20, Try.ntmps20
  go_upto_region 1 with fail
  rw [← hW1]
  clear hW1
  go_wp2_with (first | (go_at_call 17; refine (parryref22_May.calls k1 s.f0 s.f1 A cp s.f2 mv _ (Kd.C_below HR.out HB1.out) hc HK1.out).mono ?_; rintro e w1 ⟨rfl, hB⟩; have HB := Zd.mk (HB1.out.trans (hB.mono HB1.out.size)); have HBX1 := Zd.mk ((hB.block _ (blk_lt HBX.out)).trans HBX.out); have y0 := (bq_ HBX1.out 0).trans rfl; have y1 := (bq_ HBX1.out 1).trans rfl; have y2 := (bq_ HBX1.out 2).trans rfl; clear hB) | (go_at_call 37; refine (HTC.out _ HB.out).mono ?_; rintro e w2 ⟨v2, rfl, hT, hB2⟩; obtain ⟨A2, c2, e2, hl2, _⟩ := trow_read hT hB2; subst e2; have HB2 := Zd.mk (HB.out.trans (hB2.mono HB.out.size)); clear hT hB2; rw [HTL.out]))
  go_ret
  exact ⟨by rw [HX.out]; rfl, HB2.out⟩
 ·have HX := Zd.mk (show R = 0 from by rw [HSI.out, if_neg hm])
  have em : (mv != 0) = true := by simpa using hm
  clear hm
  go_enter Try.func20, Try.ntmps20
  go_upto_region 1 with fail
  rw [← hW1]
  clear hW1
  go_wp2_with (go_at_call 17; refine (parryref22_May.calls k1 s.f0 s.f1 A cp s.f2 mv _ (Kd.C_below HR.out HB1.out) hc HK1.out).mono ?_; rintro e w1 ⟨rfl, hB⟩; have HB := Zd.mk (HB1.out.trans (hB.mono HB1.out.size)); clear hB)
  go_ret
  exact ⟨by rw [HX.out]; rfl, HB.out⟩
def parryref22_Size.f (a0_0 : Int) (a0_1 : Int) (l0_2 : List S29) : Option Int := some (sizeS ⟨a0_0, a0_1, l0_2⟩)
theorem parryref22_Size.calls (a0_0 : Int) (a0_1 : Int) (A0_2 : Option Addr) (c0_2 : Nat) (l0_2 : List S29) (r : Int) (w : World) (hr0_2 : Kd.C k29 w A0_2 l0_2.length l0_2) (hc0_2 : l0_2.length ≤ c0_2) (h : parryref22_Size.f a0_0 a0_1 l0_2 = some r) :
  Calls Try.prog 20 #[.agg #[.int .i64 a0_0, .int .i64 a0_1, .slice A0_2 l0_2.length c0_2]] w fun e w' => e = .returned (.int .i64 r) ∧ Below w.heap.size w w' := by
 obtain rfl := Option.some.inj h
 exact rSize_calls ⟨a0_0, a0_1, l0_2⟩ A0_2 c0_2 w hr0_2 hc0_2
end Go.Proofs.Ytapejnikpmfddaa.X
namespace Go.Proofs.Ytapejnikpmfddaa.P
open Go.RowKit Go.Proofs.YtapejnikpmfddaaW.PrintWords Go.Proofs.YtapejnikpmfddaaW.PrintLast Go.Proofs.YtapejnikpmfddaaW.PrintMore
attribute [local go_sem] max2_int min2_int max_two min_two max_three min_three max_four min_four

open Go.Proofs.Ytapejnikpmfddaa.X
mutual
def parrylaw24_Heavy.l0 : Nat → Int → List (List Int) → Int → Int → List Int → List Int → List (List Int) → Int → Int → List (S29) → Option (Int)
 | 0, _, _, _, _, _, _, _, _, _, _ => none
 | k + 1, x5, x17, x18, x19, x122000, x122001, x122002, x123000, x123001, x123002 => if x19 < x18 then (if 0 ≤ x19 then (if x19 < (x17.length : Int) then (parrylaw24_Heavy.l0 k (wrap64 (x5 + ((rd_L3 x17 x19).length : Int))) x17 x18 (wrap64 (x19 + 1)) x122000 x122001 x122002 x123000 x123001 x123002) else (none)) else (none)) else (if x5 > 300 then (parrylaw24_Heavy.j1 k x5 true x122000 x122001 x122002 x123000 x123001 x123002) else (parrylaw24_Heavy.j1 k x5 (decide ((x122002.length : Int) > 100)) x122000 x122001 x122002 x123000 x123001 x123002))
def parrylaw24_Heavy.j1 : Nat → Int → Bool → List Int → List Int → List (List Int) → Int → Int → List (S29) → Option (Int)
 | 0, _, _, _, _, _, _, _, _ => none
 | k + 1, x5, x35, x122000, x122001, x122002, x123000, x123001, x123002 => if x35 = true then (some x5) else ((parrylaw22_Heavy.f k x123000 x123001 x123002).bind fun t124 => (if t124 > 0 then (some t124) else ((parryref22_Size.f x123000 x123001 x123002).bind fun t125 => (if (wrap64 (t125 * (x122000.length : Int))) > 200 then (some 1) else (some 0)))))
end
def parrylaw24_Heavy.f (k : Nat) (l0_0 : List Int) (l0_1 : List Int) (l0_2 : List (List Int)) (a1_0 : Int) (a1_1 : Int) (l1_2 : List (S29)) : Option (Int) := parrylaw24_Heavy.l0 k (wrap64 ((l0_0.length : Int) + (l0_1.length : Int))) l0_2 (l0_2.length : Int) 0 l0_0 l0_1 l0_2 a1_0 a1_1 l1_2
theorem parrylaw24_Heavy.calls (k : Nat) (A0_0 : Option Addr) (c0_0 : Nat) (l0_0 : List Int) (A0_1 : Option Addr) (c0_1 : Nat) (l0_1 : List Int) (A0_2 : Option Addr) (c0_2 : Nat) (l0_2 : List (List Int)) (a1_0 : Int) (a1_1 : Int) (A1_2 : Option Addr) (c1_2 : Nat) (l1_2 : List (S29)) (r : Int) (w : World) (hr0_0 : Kd.C (Kd.int .u32) w A0_0 l0_0.length l0_0) (hc0_0 : l0_0.length ≤ c0_0) (hr0_1 : Kd.C (Kd.int .i64) w A0_1 l0_1.length l0_1) (hc0_1 : l0_1.length ≤ c0_1) (hr0_2 : Kd.C (Kd.slice 3 (Kd.int .i64)) w A0_2 l0_2.length l0_2) (hc0_2 : l0_2.length ≤ c0_2) (hr1_2 : Kd.C k29 w A1_2 l1_2.length l1_2) (hc1_2 : l1_2.length ≤ c1_2) (h : parrylaw24_Heavy.f k l0_0 l0_1 l0_2 a1_0 a1_1 l1_2 = some r) :
  Calls Try.prog 7 #[.agg #[.slice A0_0 l0_0.length c0_0, .slice A0_1 l0_1.length c0_1, .slice A0_2 l0_2.length c0_2], .agg #[.int .i64 a1_0, .int .i64 a1_1, .slice A1_2 l1_2.length c1_2]] w fun e w' => e = .returned (.int .i64 r) ∧ Below w.heap.size w w' := by
 have hu26 := Try.underlying26
 have hu29 := Try.underlying29
 have HR0_0 := Zd.mk hr0_0
 have HC0_0 := Zd.mk hc0_0
 clear hr0_0 hc0_0
 have HR0_1 := Zd.mk hr0_1
 have HC0_1 := Zd.mk hc0_1
 clear hr0_1 hc0_1
 have HR0_2 := Zd.mk hr0_2
 have HC0_2 := Zd.mk hc0_2
 clear hr0_2 hc0_2
 have HR1_2 := Zd.mk hr1_2
 have HC1_2 := Zd.mk hc1_2
 clear hr1_2 hc1_2
 have HB := Zd.mk (Below.refl w.heap.size w)
 have H : (parrylaw24_Heavy.l0 k (wrap64 ((l0_0.length : Int) + (l0_1.length : Int))) l0_2 (l0_2.length : Int) 0 l0_0 l0_1 l0_2 a1_0 a1_1 l1_2) = some r := h
 clear h
 have H' := Zd.mk H
 clear H
 go_enter Try.func7, Try.ntmps7
 go_wp2_with (first | ((with_reducible refine gate_dst (N := 2) rfl ?_); (try (refine gate_guard (by rfl) ?_; dsimp only)); refine box_event ?hg (N := 2) ?hd (cs := #[.slice A0_0 l0_0.length c0_0, .slice A0_1 l0_1.length c0_1, .slice A0_2 l0_2.length c0_2]) (t := 26) ?hr ?_; (case hd => rfl); (case hg => rfl); (case hr => first | (go_simp; done) | (go_simp; rfl)); intro gb121 hg w3 hbox hb; have n0_ := Zd.mk (bt_ B_ hb); have n1_ := Zd.mk (hbox); have n2_ := Zd.mk ((by rw [hg]; exact (bs_ B_) : w.heap.size ≤ gb121)); have n3_ := Zd.mk ((by rw [hg]; exact (bs_ B_) : w.heap.size ≤ gb121)); clear HB; have HB := n0_; have BK121 := n1_; have GW121 := n2_; have GE121 := n3_; clear n0_ n1_ n2_ n3_; clear hb hbox hg) | ((with_reducible refine gate_dst (N := 3) rfl ?_); (try (refine gate_guard (by rfl) ?_; dsimp only)); refine box_event ?hg (N := 3) ?hd (cs := #[.int .i64 a1_0, .int .i64 a1_1, .slice A1_2 l1_2.length c1_2]) (t := 29) ?hr ?_; (case hd => rfl); (case hg => rfl); (case hr => first | (go_simp; done) | (go_simp; rfl)); intro gb122 hg w4 hbox hb; have n0_ := Zd.mk (bb_ (g := gb121) (o := .cells #[.slice A0_0 l0_0.length c0_0, .slice A0_1 l0_1.length c0_1, .slice A0_2 l0_2.length c0_2] 26 (0, 0)) K_ hb); have n1_ := Zd.mk (bt_ B_ hb); have n2_ := Zd.mk (hbox); have n3_ := Zd.mk ((by rw [hg]; exact (bs_ B_) : w.heap.size ≤ gb122)); have n4_ := Zd.mk ((by rw [hg]; exact (bs_ B_) : w.heap.size ≤ gb122)); have n5_ := Zd.mk ((by rw [hg]; exact Nat.ne_of_lt (blk_lt (g := gb121) (o := .cells #[.slice A0_0 l0_0.length c0_0, .slice A0_1 l0_1.length c0_1, .slice A0_2 l0_2.length c0_2] 26 (0, 0)) K_) : gb121 ≠ gb122)); have n6_ := Zd.mk ((by rw [hg]; exact Nat.ne_of_gt (blk_lt (g := gb121) (o := .cells #[.slice A0_0 l0_0.length c0_0, .slice A0_1 l0_1.length c0_1, .slice A0_2 l0_2.length c0_2] 26 (0, 0)) K_) : gb122 ≠ gb121)); clear BK121; clear HB; have BK121 := n0_; have HB := n1_; have BK122 := n2_; have GW122 := n3_; have GE122 := n4_; have NB121_122 := n5_; have NB122_121 := n6_; clear n0_ n1_ n2_ n3_ n4_ n5_ n6_; clear hb hbox hg; have hnb5 := NB121_122.out; have hnc5 := NB122_121.out; have hcz6_0 : w4.cell? ⟨gb121, 0, none⟩ = some (.slice A0_0 l0_0.length c0_0) := (bq_ BK121.out 0).trans rfl; have hcz6_1 : w4.cell? ⟨gb121, 1, none⟩ = some (.slice A0_1 l0_1.length c0_1) := (bq_ BK121.out 1).trans rfl; have hcz6_2 : w4.cell? ⟨gb121, 2, none⟩ = some (.slice A0_2 l0_2.length c0_2) := (bq_ BK121.out 2).trans rfl; have hfz6_0 := bz_ BK121.out 0; have hfz6_1 := bz_ BK121.out 1; have hfz6_2 := bz_ BK121.out 2))
 go_loopg [5, 19] k (fun kq v5 v19 w' => ∃ (x5_1 : Int) (x19_1 : Int), v5 = .int .i64 x5_1 ∧ v19 = .int .i64 x19_1 ∧ Zd (parrylaw24_Heavy.l0 kq x5_1 l0_2 (l0_2.length : Int) x19_1 l0_0 l0_1 l0_2 a1_0 a1_1 l1_2 = some r) ∧ Zd (kq ≤ k) ∧ Zd (w'.heap[gb121]? = some (.cells #[(.slice A0_0 l0_0.length c0_0), (.slice A0_1 l0_1.length c0_1), (.slice A0_2 l0_2.length c0_2)] 26 (0, 0))) ∧ Zd (w'.heap[gb122]? = some (.cells #[.int .i64 a1_0, .int .i64 a1_1, (.slice A1_2 l1_2.length c1_2)] 29 (0, 0))) ∧ Zd (Below w.heap.size w w'))
 case atStart => exact ⟨(wrap64 ((l0_0.length : Int) + (l0_1.length : Int))), (0), (by first | rfl | (simp; done) | (simp [*]; done)), (by first | rfl | (simp; done) | (simp [*]; done)), H', ⟨Nat.le_refl _⟩, ⟨K_⟩, ⟨K_⟩, ⟨B_⟩⟩
 case round =>
  clear H'
  try clear c1
  try clear p2
  try clear c5
  try clear p6
  try clear hcz6_0
  try clear hcz6_1
  try clear hcz6_2
  try clear hfz6_0
  try clear hfz6_1
  try clear hfz6_2
  obtain ⟨x5_1, x19_1, rfl, rfl, HA, HK1, BK121, BK122, HB⟩ := hrel
  cases gk with
  | zero => exact absurd HA.out (by simp [parrylaw24_Heavy.l0])
  | succ k1 =>
   have H := HA.out
   clear HA
   simp only [parrylaw24_Heavy.l0] at H
   by_cases c7 : x19_1 < (l0_2.length : Int)
   ·rw [if_pos c7] at H
    have c7b0 : decide (x19_1 < (l0_2.length : Int)) = true := decide_eq_true c7
    clear c7
    by_cases c8 : 0 ≤ x19_1
    ·rw [if_pos c8] at H
     have c8b0 : decide (0 ≤ x19_1) = true := decide_eq_true c8
     clear c8
     by_cases c9 : x19_1 < (l0_2.length : Int)
     ·rw [if_pos c9] at H
      have c9b0 : decide (x19_1 < (l0_2.length : Int)) = true := decide_eq_true c9
      clear c9
      have H' := Zd.mk H
      clear H
      have p123 : 0 ≤ (x19_1 : Int) := of_decide_eq_true (by first | (with_reducible assumption) | assumption)
      have q123 : x19_1 < (l0_2.length : Int) := of_decide_eq_true (by first | (with_reducible assumption) | assumption)
      obtain ⟨ad123, A123_0, c123_0, e123, hx123_0, hl123_0, hi123_0⟩ := at_L3 HR0_2.out x19_1 p123 q123
      cases e123
      replace hx123_0 := (HB.out.cell (World.block_lt_of_cell? w _ hx123_0)).trans hx123_0
      have HR123_0 := Zd.mk hi123_0
      have HC123_0 := Zd.mk hl123_0
      clear hi123_0 hl123_0
      replace p123 := eq_true p123
      replace q123 := eq_true q123
      go_wp2
      go_roundg k1
      case measure => have := HK1.out; omega
      case rel => exact ⟨(wrap64 (x5_1 + ((rd_L3 l0_2 x19_1).length : Int))), (wrap64 (x19_1 + 1)), (by first | rfl | (simp; done) | (simp [*]; done)), (by first | rfl | (simp; done) | (simp [*]; done)), H', ⟨by have := HK1.out; omega⟩, ⟨K_⟩, ⟨K_⟩, ⟨B_⟩⟩
     ·rw [if_neg c9] at H
      exact absurd H (by simp)
    ·rw [if_neg c8] at H
     exact absurd H (by simp)
   ·rw [if_neg c7] at H
    have c7b0 : decide (x19_1 < (l0_2.length : Int)) = false := decide_eq_false c7
    clear c7
    have HC10 := Zd.mk H
    clear H
    go_upto_region 7 with (fail)
    go_cut [35] (fun v35 wc => ∃ (kq : Nat) (x35_9 : Bool), v35 = .bool x35_9 ∧ Zd (parrylaw24_Heavy.j1 kq x5_1 x35_9 l0_0 l0_1 l0_2 a1_0 a1_1 l1_2 = some r) ∧ Zd (kq ≤ k1) ∧ Zd (wc.heap[gb121]? = some (.cells #[(.slice A0_0 l0_0.length c0_0), (.slice A0_1 l0_1.length c0_1), (.slice A0_2 l0_2.length c0_2)] 26 (0, 0))) ∧ Zd (wc.heap[gb122]? = some (.cells #[.int .i64 a1_0, .int .i64 a1_1, (.slice A1_2 l1_2.length c1_2)] 29 (0, 0))) ∧ Zd (Below w.heap.size w wc))
    case first =>
     have H := HC10.out
     clear HC10
     by_cases c11 : x5_1 > 300
     ·rw [if_pos c11] at H
      have c11b0 : decide (300 < x5_1) = true := decide_eq_true c11
      clear c11
      (first | rw [c11b0] | (simp only [i64_w, i32_w]; rw [c11b0]) | skip)
      have H' := Zd.mk H
      clear H
      go_wp2
      go_meet
      case rel => exact ⟨_, (true), (by first | rfl | (simp; done) | (simp [*]; done)), H', ⟨by have := HK1.out; first | omega | exact Nat.le_refl _⟩, ⟨K_⟩, ⟨K_⟩, ⟨B_⟩⟩
     ·rw [if_neg c11] at H
      have c11b0 : decide (300 < x5_1) = false := decide_eq_false c11
      clear c11
      (first | rw [c11b0] | (simp only [i64_w, i32_w]; rw [c11b0]) | skip)
      have H' := Zd.mk H
      clear H
      have hnb12 := NB121_122.out
      have hnc12 := NB122_121.out
      have hcz13_0 : wr.cell? ⟨gb121, 0, none⟩ = some (.slice A0_0 l0_0.length c0_0) := (bq_ BK121.out 0).trans rfl
      have hcz13_1 : wr.cell? ⟨gb121, 1, none⟩ = some (.slice A0_1 l0_1.length c0_1) := (bq_ BK121.out 1).trans rfl
      have hcz13_2 : wr.cell? ⟨gb121, 2, none⟩ = some (.slice A0_2 l0_2.length c0_2) := (bq_ BK121.out 2).trans rfl
      have hfz13_0 := bz_ BK121.out 0
      have hfz13_1 := bz_ BK121.out 1
      have hfz13_2 := bz_ BK121.out 2
      go_wp2
      go_meet
      case rel => exact ⟨_, (decide ((l0_2.length : Int) > 100)), (by first | rfl | (simp; done) | (simp [*]; done)), H', ⟨by have := HK1.out; first | omega | exact Nat.le_refl _⟩, ⟨K_⟩, ⟨K_⟩, ⟨B_⟩⟩
    case rest =>
     clear HC10
     try clear c1
     try clear p1
     try clear q1
     try clear hx1
     try clear p2
     try clear c5
     try clear p6
     try clear c7
     try clear c7b0
     try clear c8
     try clear c8b0
     try clear c9
     try clear c9b0
     try clear c11
     try clear c11b0
     try clear c12
     try clear p12
     try clear q12
     try clear hx12
     try clear hcz13_0
     try clear hcz13_1
     try clear hcz13_2
     try clear hcz6_0
     try clear hcz6_1
     try clear hcz6_2
     try clear hfz13_0
     try clear hfz13_1
     try clear hfz13_2
     try clear hfz6_0
     try clear hfz6_1
     try clear hfz6_2
     try clear hx123_0
     try clear p123
     try clear p2
     try clear p6
     try clear q123
     obtain ⟨kq, x35_9, rfl, HA, HJ9, BK121, BK122, HB⟩ := hcut
     cases kq with
     | zero => exact absurd HA.out (by simp [parrylaw24_Heavy.j1])
     | succ kj9 =>
      have H := HA.out
      clear HA
      simp only [parrylaw24_Heavy.j1] at H
      by_cases c14 : x35_9 = true
      ·subst c14
       have H1 : (some x5_1) = some r := by rw [if_pos rfl] at H; exact H
       clear H
       have H := H1
       clear H1
       obtain rfl := Option.some.inj H
       go_wp2
       go_ret
       exact ⟨by first | rfl | (simp [errW_none, errW_some] <;> rfl) | (simp [*, errW_none, errW_some] <;> rfl), B_⟩
      ·replace c14 := Bool.eq_false_iff.mpr c14
       subst c14
       have H1 : ((parrylaw22_Heavy.f kj9 a1_0 a1_1 l1_2).bind fun t124 => (if t124 > 0 then (some t124) else ((parryref22_Size.f a1_0 a1_1 l1_2).bind fun t125 => (if (wrap64 (t125 * (l0_0.length : Int))) > 200 then (some 1) else (some 0))))) = some r := by rw [if_neg (show ¬ (false = true) by decide)] at H; exact H
       clear H
       have H := H1
       clear H1
       replace H := Option.bind_eq_some_iff.mp H
       obtain ⟨t124, A150, H⟩ := H
       replace H : (if t124 > 0 then (some t124) else ((parryref22_Size.f a1_0 a1_1 l1_2).bind fun t125 => (if (wrap64 (t125 * (l0_0.length : Int))) > 200 then (some 1) else (some 0)))) = some r := H
       have A15 := Zd.mk A150
       clear A150
       by_cases c16 : t124 > 0
       ·rw [if_pos c16] at H
        have c16b0 : decide (0 < t124) = true := decide_eq_true c16
        clear c16
        obtain rfl := Option.some.inj H
        have hnb17 := NB122_121.out
        have hnc17 := NB121_122.out
        have hcz18_0 : wc.cell? ⟨gb122, 0, none⟩ = some (.int .i64 a1_0) := (bq_ BK122.out 0).trans rfl
        have hcz18_1 : wc.cell? ⟨gb122, 1, none⟩ = some (.int .i64 a1_1) := (bq_ BK122.out 1).trans rfl
        have hcz18_2 : wc.cell? ⟨gb122, 2, none⟩ = some (.slice A1_2 l1_2.length c1_2) := (bq_ BK122.out 2).trans rfl
        have hfz18_0 := bz_ BK122.out 0
        have hfz18_1 := bz_ BK122.out 1
        have hfz18_2 := bz_ BK122.out 2
        go_wp2_with (first | ((with_reducible refine gate_callee (f := 19) rfl ?_); refine goesL_ (some 38) rfl rfl Try.func19 (by kernel_rfl) rfl #[.agg #[.int .i64 a1_0, .int .i64 a1_1, .slice A1_2 l1_2.length c1_2]] rfl (by (try simp only [List.map_toArray, List.map_cons, List.map_nil]); first | done | rfl | (simp only [List.length_drop, List.length_take]; rfl)) ?_; (with_reducible refine (parrylaw22_Heavy.calls kj9 a1_0 a1_1 _ _ l1_2 t124 _ ?side1 ?side2 A15.out).mono ?_); (case side1 => exact Kd.C_below HR1_2.out B_); (case side2 => exact HC1_2.out); rintro e w19 ⟨rfl, hb⟩; refine ⟨_, rfl, ?_⟩; have n0_ := Zd.mk (bb_ (g := gb121) (o := .cells #[.slice A0_0 l0_0.length c0_0, .slice A0_1 l0_1.length c0_1, .slice A0_2 l0_2.length c0_2] 26 (0, 0)) K_ hb); have n1_ := Zd.mk (bb_ (g := gb122) (o := .cells #[.int .i64 a1_0, .int .i64 a1_1, .slice A1_2 l1_2.length c1_2] 29 (0, 0)) K_ hb); have n2_ := Zd.mk (bt_ B_ hb); clear BK121; clear BK122; clear HB; have BK121 := n0_; have BK122 := n1_; have HB := n2_; clear n0_ n1_ n2_; (try clear hb); (try clear hb2); (try clear hk); (try clear hi)))
        go_ret
        exact ⟨by first | rfl | (simp [errW_none, errW_some] <;> rfl) | (simp [*, errW_none, errW_some] <;> rfl), B_⟩
       ·rw [if_neg c16] at H
        have c16b0 : decide (0 < t124) = false := decide_eq_false c16
        clear c16
        replace H := Option.bind_eq_some_iff.mp H
        obtain ⟨t125, A200, H⟩ := H
        replace H : (if (wrap64 (t125 * (l0_0.length : Int))) > 200 then (some 1) else (some 0)) = some r := H
        have A20 := Zd.mk A200
        clear A200
        by_cases c21 : (wrap64 (t125 * (l0_0.length : Int))) > 200
        ·rw [if_pos c21] at H
         have c21b0 : decide (200 < (wrap64 (t125 * (l0_0.length : Int)))) = true := decide_eq_true c21
         clear c21
         obtain rfl := Option.some.inj H
         have hnb22 := NB122_121.out
         have hnc22 := NB121_122.out
         have hcz23_0 : wc.cell? ⟨gb122, 0, none⟩ = some (.int .i64 a1_0) := (bq_ BK122.out 0).trans rfl
         have hcz23_1 : wc.cell? ⟨gb122, 1, none⟩ = some (.int .i64 a1_1) := (bq_ BK122.out 1).trans rfl
         have hcz23_2 : wc.cell? ⟨gb122, 2, none⟩ = some (.slice A1_2 l1_2.length c1_2) := (bq_ BK122.out 2).trans rfl
         have hfz23_0 := bz_ BK122.out 0
         have hfz23_1 := bz_ BK122.out 1
         have hfz23_2 := bz_ BK122.out 2
         try go_wp2_with (first | ((with_reducible refine gate_callee (f := 19) rfl ?_); refine goesL_ (some 38) rfl rfl Try.func19 (by kernel_rfl) rfl #[.agg #[.int .i64 a1_0, .int .i64 a1_1, .slice A1_2 l1_2.length c1_2]] rfl (by (try simp only [List.map_toArray, List.map_cons, List.map_nil]); first | done | rfl | (simp only [List.length_drop, List.length_take]; rfl)) ?_; (with_reducible refine (parrylaw22_Heavy.calls kj9 a1_0 a1_1 _ _ l1_2 t124 _ ?side1 ?side2 A15.out).mono ?_); (case side1 => exact Kd.C_below HR1_2.out B_); (case side2 => exact HC1_2.out); rintro e w24 ⟨rfl, hb⟩; refine ⟨_, rfl, ?_⟩; have n0_ := Zd.mk (bb_ (g := gb121) (o := .cells #[.slice A0_0 l0_0.length c0_0, .slice A0_1 l0_1.length c0_1, .slice A0_2 l0_2.length c0_2] 26 (0, 0)) K_ hb); have n1_ := Zd.mk (bb_ (g := gb122) (o := .cells #[.int .i64 a1_0, .int .i64 a1_1, .slice A1_2 l1_2.length c1_2] 29 (0, 0)) K_ hb); have n2_ := Zd.mk (bt_ B_ hb); clear BK121; clear BK122; clear HB; have BK121 := n0_; have BK122 := n1_; have HB := n2_; clear n0_ n1_ n2_; (try clear hb); (try clear hb2); (try clear hk); (try clear hi)))
         have n0_ := Zd.mk (blk_drew BK121.out)
         have n1_ := Zd.mk (blk_drew BK122.out)
         have n2_ := Zd.mk (below_drew1 HB.out)
         clear BK121
         clear BK122
         clear HB
         have BK121 := n0_
         have BK122 := n1_
         have HB := n2_
         clear n0_ n1_ n2_
         refine start_ (n := 7) (S := fun w' => w'.cell? ⟨gb122, 0, none⟩ = some (.int .i64 a1_0) ∧ w'.cell? ⟨gb122, 1, none⟩ = some (.int .i64 a1_1) ∧ w'.cell? ⟨gb122, 2, none⟩ = some (.slice A1_2 l1_2.length c1_2) ∧ w'.cell? ⟨gb121, 0, none⟩ = some (.slice A0_0 l0_0.length c0_0) ∧ w'.cell? ⟨gb121, 1, none⟩ = some (.slice A0_1 l0_1.length c0_1) ∧ w'.cell? ⟨gb121, 2, none⟩ = some (.slice A0_2 l0_2.length c0_2)) (ds := []) #[false, false, false, false, false, false, false] (by kernel_rfl) rfl rfl ⟨(bq_ BK122.out 0).trans rfl, (bq_ BK122.out 1).trans rfl, (bq_ BK122.out 2).trans rfl, (bq_ BK121.out 0).trans rfl, (bq_ BK121.out 1).trans rfl, (bq_ BK121.out 2).trans rfl⟩ (fun hHeld => ?_)
         generalize w24.drew = w25 at BK121 BK122 HB hHeld ⊢
         refine pure_ (i := 2) (N := some 44) (v := ?_) (a' := ?_) #[false, false, true, false, false, false, false] rfl rfl (by kernel_rfl) (fun _ _ _ h => h) (Or.inl ⟨by rfl, ?_⟩) ?_ ?_
         rotate_left
         ·intro w'
          go_simp
          with_reducible rfl
         rotate_left
         ·simp only [Act.put, List.setIfInBounds_toArray, List.set_cons_zero, List.set_cons_succ, i64_w, i32_w]
          rfl
         refine take_ (i := 0) (N := some 42) (v := ?_) (a' := ?_) #[true, false, true, false, false, false, false] rfl rfl (by kernel_rfl) (fun _ _ _ h => h) (Or.inl ⟨by rfl, ?_⟩) hHeld ?_ ?_
         rotate_left
         ·rintro w' ⟨s0, s1, s2, s3, s4, s5⟩
          go_simp
          with_reducible rfl
         rotate_left
         ·simp only [Act.put, List.setIfInBounds_toArray, List.set_cons_zero, List.set_cons_succ, i64_w, i32_w]
          rfl
         refine take_ (i := 3) (N := some 45) (v := ?_) (a' := ?_) #[true, false, true, true, false, false, false] rfl rfl (by kernel_rfl) (fun _ _ _ h => h) (Or.inl ⟨by rfl, ?_⟩) hHeld ?_ ?_
         rotate_left
         ·rintro w' ⟨s0, s1, s2, s3, s4, s5⟩
          go_simp
          with_reducible rfl
         rotate_left
         ·simp only [Act.put, List.setIfInBounds_toArray, List.set_cons_zero, List.set_cons_succ, i64_w, i32_w]
          rfl
         refine pure_ (i := 4) (N := some 46) (v := ?_) (a' := ?_) #[true, false, true, true, true, false, false] rfl rfl (by kernel_rfl) (fun _ _ _ h => h) (Or.inl ⟨by rfl, ?_⟩) ?_ ?_
         rotate_left
         ·intro w'
          go_simp
          with_reducible rfl
         rotate_left
         ·simp only [Act.put, List.setIfInBounds_toArray, List.set_cons_zero, List.set_cons_succ, i64_w, i32_w]
          rfl
         refine one_ (i := 1) (N := some 43) #[true, true, true, true, true, false, false] rfl rfl (by kernel_rfl) (by decide) (fun K hK => ?_)
         refine goes_ Try.func20 (by kernel_rfl) rfl #[.agg #[.int .i64 a1_0, .int .i64 a1_1, .slice A1_2 l1_2.length c1_2]] (by rfl) rfl rfl (by (try simp only [List.map_toArray, List.map_cons, List.map_nil]); first | done | rfl | (simp only [List.length_drop, List.length_take]; rfl)) ?_
         with_reducible refine (parryref22_Size.calls a1_0 a1_1 _ _ l1_2 t125 _ ?side1 ?side2 A20.out).mono ?_
         (case side1 => exact Kd.C_below HR1_2.out B_)
         (case side2 => exact HC1_2.out)
         rintro e w26 ⟨rfl, hb⟩
         refine ⟨_, rfl, ?_⟩
         have n0_ := Zd.mk (bb_ (g := gb121) (o := .cells #[.slice A0_0 l0_0.length c0_0, .slice A0_1 l0_1.length c0_1, .slice A0_2 l0_2.length c0_2] 26 (0, 0)) K_ hb)
         have n1_ := Zd.mk (bb_ (g := gb122) (o := .cells #[.int .i64 a1_0, .int .i64 a1_1, .slice A1_2 l1_2.length c1_2] 29 (0, 0)) K_ hb)
         have n2_ := Zd.mk (bt_ B_ hb)
         clear BK121
         clear BK122
         clear HB
         have BK121 := n0_
         have BK122 := n1_
         have HB := n2_
         clear n0_ n1_ n2_
         (try clear hb)
         (try clear hb2)
         (try clear hk)
         (try clear hi)
         refine hK.out _ _ ⟨(bq_ BK122.out 0).trans rfl, (bq_ BK122.out 1).trans rfl, (bq_ BK122.out 2).trans rfl, (bq_ BK121.out 0).trans rfl, (bq_ BK121.out 1).trans rfl, (bq_ BK121.out 2).trans rfl⟩ (fun hHeld => ?_)
         clear hK K
         refine norm_ (a' := ?_) ?_ ?_
         rotate_left
         ·show Act.put _ (some 43) _ = _
          simp only [Act.put, List.setIfInBounds_toArray, List.set_cons_zero, List.set_cons_succ, i64_w, i32_w]
          rfl
         refine pure_ (i := 5) (N := some 47) (v := ?_) (a' := ?_) #[true, true, true, true, true, true, false] rfl rfl (by kernel_rfl) (fun _ _ _ h => h) (Or.inl ⟨by rfl, ?_⟩) ?_ ?_
         rotate_left
         ·intro w'
          go_simp
          with_reducible rfl
         rotate_left
         ·simp only [Act.put, List.setIfInBounds_toArray, List.set_cons_zero, List.set_cons_succ, i64_w, i32_w]
          rfl
         refine pure_ (i := 6) (N := some 48) (v := ?_) (a' := ?_) #[true, true, true, true, true, true, true] rfl rfl (by kernel_rfl) (fun _ _ _ h => h) (Or.inl ⟨by rfl, ?_⟩) ?_ ?_
         rotate_left
         ·intro w'
          go_simp
          with_reducible rfl
         rotate_left
         ·simp only [Act.put, List.setIfInBounds_toArray, List.set_cons_zero, List.set_cons_succ, i64_w, i32_w]
          rfl
         refine done_ (by kernel_rfl) ?_
         try go_wp2
         go_ret
         exact ⟨by first | rfl | (simp [errW_none, errW_some] <;> rfl) | (simp [*, errW_none, errW_some] <;> rfl), B_⟩
        ·rw [if_neg c21] at H
         have c21b0 : decide (200 < (wrap64 (t125 * (l0_0.length : Int)))) = false := decide_eq_false c21
         clear c21
         obtain rfl := Option.some.inj H
         have hnb27 := NB122_121.out
         have hnc27 := NB121_122.out
         have hcz28_0 : wc.cell? ⟨gb122, 0, none⟩ = some (.int .i64 a1_0) := (bq_ BK122.out 0).trans rfl
         have hcz28_1 : wc.cell? ⟨gb122, 1, none⟩ = some (.int .i64 a1_1) := (bq_ BK122.out 1).trans rfl
         have hcz28_2 : wc.cell? ⟨gb122, 2, none⟩ = some (.slice A1_2 l1_2.length c1_2) := (bq_ BK122.out 2).trans rfl
         have hfz28_0 := bz_ BK122.out 0
         have hfz28_1 := bz_ BK122.out 1
         have hfz28_2 := bz_ BK122.out 2
         try go_wp2_with (first | ((with_reducible refine gate_callee (f := 19) rfl ?_); refine goesL_ (some 38) rfl rfl Try.func19 (by kernel_rfl) rfl #[.agg #[.int .i64 a1_0, .int .i64 a1_1, .slice A1_2 l1_2.length c1_2]] rfl (by (try simp only [List.map_toArray, List.map_cons, List.map_nil]); first | done | rfl | (simp only [List.length_drop, List.length_take]; rfl)) ?_; (with_reducible refine (parrylaw22_Heavy.calls kj9 a1_0 a1_1 _ _ l1_2 t124 _ ?side1 ?side2 A15.out).mono ?_); (case side1 => exact Kd.C_below HR1_2.out B_); (case side2 => exact HC1_2.out); rintro e w29 ⟨rfl, hb⟩; refine ⟨_, rfl, ?_⟩; have n0_ := Zd.mk (bb_ (g := gb121) (o := .cells #[.slice A0_0 l0_0.length c0_0, .slice A0_1 l0_1.length c0_1, .slice A0_2 l0_2.length c0_2] 26 (0, 0)) K_ hb); have n1_ := Zd.mk (bb_ (g := gb122) (o := .cells #[.int .i64 a1_0, .int .i64 a1_1, .slice A1_2 l1_2.length c1_2] 29 (0, 0)) K_ hb); have n2_ := Zd.mk (bt_ B_ hb); clear BK121; clear BK122; clear HB; have BK121 := n0_; have BK122 := n1_; have HB := n2_; clear n0_ n1_ n2_; (try clear hb); (try clear hb2); (try clear hk); (try clear hi)))
         have n0_ := Zd.mk (blk_drew BK121.out)
         have n1_ := Zd.mk (blk_drew BK122.out)
         have n2_ := Zd.mk (below_drew1 HB.out)
         clear BK121
         clear BK122
         clear HB
         have BK121 := n0_
         have BK122 := n1_
         have HB := n2_
         clear n0_ n1_ n2_
         refine start_ (n := 7) (S := fun w' => w'.cell? ⟨gb122, 0, none⟩ = some (.int .i64 a1_0) ∧ w'.cell? ⟨gb122, 1, none⟩ = some (.int .i64 a1_1) ∧ w'.cell? ⟨gb122, 2, none⟩ = some (.slice A1_2 l1_2.length c1_2) ∧ w'.cell? ⟨gb121, 0, none⟩ = some (.slice A0_0 l0_0.length c0_0) ∧ w'.cell? ⟨gb121, 1, none⟩ = some (.slice A0_1 l0_1.length c0_1) ∧ w'.cell? ⟨gb121, 2, none⟩ = some (.slice A0_2 l0_2.length c0_2)) (ds := []) #[false, false, false, false, false, false, false] (by kernel_rfl) rfl rfl ⟨(bq_ BK122.out 0).trans rfl, (bq_ BK122.out 1).trans rfl, (bq_ BK122.out 2).trans rfl, (bq_ BK121.out 0).trans rfl, (bq_ BK121.out 1).trans rfl, (bq_ BK121.out 2).trans rfl⟩ (fun hHeld => ?_)
         generalize w29.drew = w30 at BK121 BK122 HB hHeld ⊢
         refine pure_ (i := 2) (N := some 44) (v := ?_) (a' := ?_) #[false, false, true, false, false, false, false] rfl rfl (by kernel_rfl) (fun _ _ _ h => h) (Or.inl ⟨by rfl, ?_⟩) ?_ ?_
         rotate_left
         ·intro w'
          go_simp
          with_reducible rfl
         rotate_left
         ·simp only [Act.put, List.setIfInBounds_toArray, List.set_cons_zero, List.set_cons_succ, i64_w, i32_w]
          rfl
         refine take_ (i := 0) (N := some 42) (v := ?_) (a' := ?_) #[true, false, true, false, false, false, false] rfl rfl (by kernel_rfl) (fun _ _ _ h => h) (Or.inl ⟨by rfl, ?_⟩) hHeld ?_ ?_
         rotate_left
         ·rintro w' ⟨s0, s1, s2, s3, s4, s5⟩
          go_simp
          with_reducible rfl
         rotate_left
         ·simp only [Act.put, List.setIfInBounds_toArray, List.set_cons_zero, List.set_cons_succ, i64_w, i32_w]
          rfl
         refine take_ (i := 3) (N := some 45) (v := ?_) (a' := ?_) #[true, false, true, true, false, false, false] rfl rfl (by kernel_rfl) (fun _ _ _ h => h) (Or.inl ⟨by rfl, ?_⟩) hHeld ?_ ?_
         rotate_left
         ·rintro w' ⟨s0, s1, s2, s3, s4, s5⟩
          go_simp
          with_reducible rfl
         rotate_left
         ·simp only [Act.put, List.setIfInBounds_toArray, List.set_cons_zero, List.set_cons_succ, i64_w, i32_w]
          rfl
         refine pure_ (i := 4) (N := some 46) (v := ?_) (a' := ?_) #[true, false, true, true, true, false, false] rfl rfl (by kernel_rfl) (fun _ _ _ h => h) (Or.inl ⟨by rfl, ?_⟩) ?_ ?_
         rotate_left
         ·intro w'
          go_simp
          with_reducible rfl
         rotate_left
         ·simp only [Act.put, List.setIfInBounds_toArray, List.set_cons_zero, List.set_cons_succ, i64_w, i32_w]
          rfl
         refine one_ (i := 1) (N := some 43) #[true, true, true, true, true, false, false] rfl rfl (by kernel_rfl) (by decide) (fun K hK => ?_)
         refine goes_ Try.func20 (by kernel_rfl) rfl #[.agg #[.int .i64 a1_0, .int .i64 a1_1, .slice A1_2 l1_2.length c1_2]] (by rfl) rfl rfl (by (try simp only [List.map_toArray, List.map_cons, List.map_nil]); first | done | rfl | (simp only [List.length_drop, List.length_take]; rfl)) ?_
         with_reducible refine (parryref22_Size.calls a1_0 a1_1 _ _ l1_2 t125 _ ?side1 ?side2 A20.out).mono ?_
         (case side1 => exact Kd.C_below HR1_2.out B_)
         (case side2 => exact HC1_2.out)
         rintro e w31 ⟨rfl, hb⟩
         refine ⟨_, rfl, ?_⟩
         have n0_ := Zd.mk (bb_ (g := gb121) (o := .cells #[.slice A0_0 l0_0.length c0_0, .slice A0_1 l0_1.length c0_1, .slice A0_2 l0_2.length c0_2] 26 (0, 0)) K_ hb)
         have n1_ := Zd.mk (bb_ (g := gb122) (o := .cells #[.int .i64 a1_0, .int .i64 a1_1, .slice A1_2 l1_2.length c1_2] 29 (0, 0)) K_ hb)
         have n2_ := Zd.mk (bt_ B_ hb)
         clear BK121
         clear BK122
         clear HB
         have BK121 := n0_
         have BK122 := n1_
         have HB := n2_
         clear n0_ n1_ n2_
         (try clear hb)
         (try clear hb2)
         (try clear hk)
         (try clear hi)
         refine hK.out _ _ ⟨(bq_ BK122.out 0).trans rfl, (bq_ BK122.out 1).trans rfl, (bq_ BK122.out 2).trans rfl, (bq_ BK121.out 0).trans rfl, (bq_ BK121.out 1).trans rfl, (bq_ BK121.out 2).trans rfl⟩ (fun hHeld => ?_)
         clear hK K
         refine norm_ (a' := ?_) ?_ ?_
         rotate_left
         ·show Act.put _ (some 43) _ = _
          simp only [Act.put, List.setIfInBounds_toArray, List.set_cons_zero, List.set_cons_succ, i64_w, i32_w]
          rfl
         refine pure_ (i := 5) (N := some 47) (v := ?_) (a' := ?_) #[true, true, true, true, true, true, false] rfl rfl (by kernel_rfl) (fun _ _ _ h => h) (Or.inl ⟨by rfl, ?_⟩) ?_ ?_
         rotate_left
         ·intro w'
          go_simp
          with_reducible rfl
         rotate_left
         ·simp only [Act.put, List.setIfInBounds_toArray, List.set_cons_zero, List.set_cons_succ, i64_w, i32_w]
          rfl
         refine pure_ (i := 6) (N := some 48) (v := ?_) (a' := ?_) #[true, true, true, true, true, true, true] rfl rfl (by kernel_rfl) (fun _ _ _ h => h) (Or.inl ⟨by rfl, ?_⟩) ?_ ?_
         rotate_left
         ·intro w'
          go_simp
          with_reducible rfl
         rotate_left
         ·simp only [Act.put, List.setIfInBounds_toArray, List.set_cons_zero, List.set_cons_succ, i64_w, i32_w]
          rfl
         refine done_ (by kernel_rfl) ?_
         try go_wp2
         go_ret
         exact ⟨by first | rfl | (simp [errW_none, errW_some] <;> rfl) | (simp [*, errW_none, errW_some] <;> rfl), B_⟩

end Go.Proofs.Ytapejnikpmfddaa.P
