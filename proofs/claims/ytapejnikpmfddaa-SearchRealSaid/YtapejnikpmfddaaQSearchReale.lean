/- A part of the claim SearchReal. -/
import Derived.Test.YtapejnikpmfddaaQSearchReald
set_option linter.unusedVariables false
set_option linter.unusedSimpArgs false
set_option maxHeartbeats 8000000
set_option maxRecDepth 100000
namespace Go.Proofs.Ytapejnikpmfddaa.P
open Go.RowKit Go.Proofs.YtapejnikpmfddaaW.PrintWords Go.Proofs.YtapejnikpmfddaaW.PrintLast Go.Proofs.YtapejnikpmfddaaW.PrintMore
attribute [local go_sem] max2_int min2_int max_two min_two max_three min_three max_four min_four

def search_row.l0 : Nat → Int → Int → List Int → Int → Int → Option (Bool)
 | 0, _, _, _, _, _ => none
 | k + 1, x1, x5, x8, x9, x10 => if x10 < x9 then (if 0 ≤ x10 then (if x10 < (x8.length : Int) then (if (rd x8 x10) ≤ x5 then (some false) else (if (rd x8 x10) ≥ x1 then (some false) else (search_row.l0 k x1 (rd x8 x10) x8 x9 (wrap64 (x10 + 1))))) else (none)) else (none)) else (some true)
def search_row.f (k : Nat) (l0 : List Int) (a1 : Int) : Option (Bool) := search_row.l0 k a1 (-1) l0 (l0.length : Int) 0
theorem search_row.calls (k : Nat) (A0 : Option Addr) (c0 : Nat) (l0 : List Int) (a1 : Int) (r : Bool) (w : World) (hr0 : Kd.C (Kd.int .i64) w A0 l0.length l0) (hc0 : l0.length ≤ c0) (h : search_row.f k l0 a1 = some r) :
  Calls Try.prog 35 #[.slice A0 l0.length c0, .int .i64 a1] w fun e w' => e = .returned (.bool r) ∧ Drawn0 w w' := by
 have HR0 := Zd.mk hr0
 have HC0 := Zd.mk hc0
 clear hr0 hc0
 have H : (search_row.l0 k a1 (-1) l0 (l0.length : Int) 0) = some r := h
 clear h
 have H' := Zd.mk H
 clear H
 go_enter Try.func35, Try.ntmps35
 go_wp2
 go_loopg [5, 10] k (fun kq v5 v10 w' => ∃ (x5_1 : Int) (x10_1 : Int), v5 = .int .i64 x5_1 ∧ v10 = .int .i64 x10_1 ∧ Zd (search_row.l0 kq a1 x5_1 l0 (l0.length : Int) x10_1 = some r) ∧ Zd (kq ≤ k) ∧ Drawn0 w w')
 case atStart => exact ⟨((-1)), (0), (by first | rfl | (simp; done) | (simp [*]; done)), (by first | rfl | (simp; done) | (simp [*]; done)), H', ⟨Nat.le_refl _⟩, by repeat (first | exact Drawn0.refl _ | apply Drawn0.step)⟩
 case round =>
  clear H'
  try clear p2
  obtain ⟨x5_1, x10_1, rfl, rfl, HA, HK1, ⟨m1, rfl⟩⟩ := hrel
  cases gk with
  | zero => exact absurd HA.out (by simp [search_row.l0])
  | succ k1 =>
   have H := HA.out
   clear HA
   simp only [search_row.l0] at H
   by_cases c3 : x10_1 < (l0.length : Int)
   ·rw [if_pos c3] at H
    have c3b0 : decide (x10_1 < (l0.length : Int)) = true := decide_eq_true c3
    clear c3
    by_cases c4 : 0 ≤ x10_1
    ·rw [if_pos c4] at H
     have c4b0 : decide (0 ≤ x10_1) = true := decide_eq_true c4
     clear c4
     by_cases c5 : x10_1 < (l0.length : Int)
     ·rw [if_pos c5] at H
      have c5b0 : decide (x10_1 < (l0.length : Int)) = true := decide_eq_true c5
      clear c5
      by_cases c6 : (rd l0 x10_1) ≤ x5_1
      ·rw [if_pos c6] at H
       have c6b0 : decide ((rd l0 x10_1) ≤ x5_1) = true := decide_eq_true c6
       clear c6
       obtain rfl := Option.some.inj H
       have p135 : 0 ≤ (x10_1 : Int) := of_decide_eq_true (by first | (with_reducible assumption) | assumption)
       have q135 : x10_1 < (l0.length : Int) := of_decide_eq_true (by first | (with_reducible assumption) | assumption)
       obtain ⟨ad135, e135, hx135_0⟩ := Kd.at_int HR0.out x10_1 p135 q135
       cases e135
       replace p135 := eq_true p135
       replace q135 := eq_true q135
       go_wp2
       go_ret
       exact ⟨by first | rfl | (simp; done) | (simp [*]; done), by repeat (first | exact Drawn0.refl _ | apply Drawn0.step)⟩
      ·rw [if_neg c6] at H
       have c6b0 : decide ((rd l0 x10_1) ≤ x5_1) = false := decide_eq_false c6
       clear c6
       by_cases c7 : (rd l0 x10_1) ≥ a1
       ·rw [if_pos c7] at H
        have c7b0 : decide (a1 ≤ (rd l0 x10_1)) = true := decide_eq_true c7
        clear c7
        obtain rfl := Option.some.inj H
        have p135 : 0 ≤ (x10_1 : Int) := of_decide_eq_true (by first | (with_reducible assumption) | assumption)
        have q135 : x10_1 < (l0.length : Int) := of_decide_eq_true (by first | (with_reducible assumption) | assumption)
        obtain ⟨ad135, e135, hx135_0⟩ := Kd.at_int HR0.out x10_1 p135 q135
        cases e135
        replace p135 := eq_true p135
        replace q135 := eq_true q135
        go_wp2
        go_ret
        exact ⟨by first | rfl | (simp; done) | (simp [*]; done), by repeat (first | exact Drawn0.refl _ | apply Drawn0.step)⟩
       ·rw [if_neg c7] at H
        have c7b0 : decide (a1 ≤ (rd l0 x10_1)) = false := decide_eq_false c7
        clear c7
        have H' := Zd.mk H
        clear H
        have p135 : 0 ≤ (x10_1 : Int) := of_decide_eq_true (by first | (with_reducible assumption) | assumption)
        have q135 : x10_1 < (l0.length : Int) := of_decide_eq_true (by first | (with_reducible assumption) | assumption)
        obtain ⟨ad135, e135, hx135_0⟩ := Kd.at_int HR0.out x10_1 p135 q135
        cases e135
        replace p135 := eq_true p135
        replace q135 := eq_true q135
        go_wp2
        go_roundg k1
        case measure => have := HK1.out; omega
        case rel => exact ⟨(rd l0 x10_1), (wrap64 (x10_1 + 1)), (by first | rfl | (simp; done) | (simp [*]; done)), (by first | rfl | (simp; done) | (simp [*]; done)), H', ⟨by have := HK1.out; omega⟩, by repeat (first | exact Drawn0.refl _ | apply Drawn0.step)⟩
     ·rw [if_neg c5] at H
      exact absurd H (by simp)
    ·rw [if_neg c4] at H
     exact absurd H (by simp)
   ·rw [if_neg c3] at H
    have c3b0 : decide (x10_1 < (l0.length : Int)) = false := decide_eq_false c3
    clear c3
    obtain rfl := Option.some.inj H
    go_wp2
    go_ret
    exact ⟨by first | rfl | (simp; done) | (simp [*]; done), by repeat (first | exact Drawn0.refl _ | apply Drawn0.step)⟩

attribute [local go_sem] max2_int min2_int max_two min_two max_three min_three max_four min_four

def search_May.l0 : Nat → Int → List (List Int) → Int → Int → Option (Int)
 | 0, _, _, _, _ => none
 | k + 1, x3, x26, x27, x28 => if x28 < x27 then (if 0 ≤ x28 then (if x28 < (x26.length : Int) then (if ((rd_L3 x26 x28).length : Int) = 0 then (some 1) else ((search_row.f k (rd_L3 x26 x28) x3).bind fun t139 => (if t139 = true then (search_May.l0 k x3 x26 x27 (wrap64 (x28 + 1))) else (some 1)))) else (none)) else (none)) else (some 0)
def search_May.f (k : Nat) (l0_0 : List Int) (l0_1 : List Int) (l0_2 : List (List Int)) : Option (Int) := if (l0_0.length : Int) > 200 then (some 7) else (if (l0_2.length : Int) = (l0_0.length : Int) then ((search_row.f k l0_1 (l0_0.length : Int)).bind fun t137 => (if t137 = true then (search_May.l0 k (l0_0.length : Int) l0_2 (l0_2.length : Int) 0) else (some 1))) else (some 1))
theorem search_May.calls (k : Nat) (A0_0 : Option Addr) (c0_0 : Nat) (l0_0 : List Int) (A0_1 : Option Addr) (c0_1 : Nat) (l0_1 : List Int) (A0_2 : Option Addr) (c0_2 : Nat) (l0_2 : List (List Int)) (r : Int) (w : World) (hr0_0 : Kd.C (Kd.int .u32) w A0_0 l0_0.length l0_0) (hc0_0 : l0_0.length ≤ c0_0) (hr0_1 : Kd.C (Kd.int .i64) w A0_1 l0_1.length l0_1) (hc0_1 : l0_1.length ≤ c0_1) (hr0_2 : Kd.C (Kd.slice 3 (Kd.int .i64)) w A0_2 l0_2.length l0_2) (hc0_2 : l0_2.length ≤ c0_2) (h : search_May.f k l0_0 l0_1 l0_2 = some r) :
  Calls Try.prog 18 #[.agg #[.slice A0_0 l0_0.length c0_0, .slice A0_1 l0_1.length c0_1, .slice A0_2 l0_2.length c0_2]] w fun e w' => e = .returned (.int .i64 r) ∧ Below w.heap.size w w' := by
 have hu26 := Try.underlying26
 have HR0_0 := Zd.mk hr0_0
 have HC0_0 := Zd.mk hc0_0
 clear hr0_0 hc0_0
 have HR0_1 := Zd.mk hr0_1
 have HC0_1 := Zd.mk hc0_1
 clear hr0_1 hc0_1
 have HR0_2 := Zd.mk hr0_2
 have HC0_2 := Zd.mk hc0_2
 clear hr0_2 hc0_2
 have HB := Zd.mk (Below.refl w.heap.size w)
 have H : (if (l0_0.length : Int) > 200 then (some 7) else (if (l0_2.length : Int) = (l0_0.length : Int) then ((search_row.f k l0_1 (l0_0.length : Int)).bind fun t137 => (if t137 = true then (search_May.l0 k (l0_0.length : Int) l0_2 (l0_2.length : Int) 0) else (some 1))) else (some 1))) = some r := h
 clear h
 by_cases c2 : (l0_0.length : Int) > 200
 ·rw [if_pos c2] at H
  have c2b0 : decide (200 < (l0_0.length : Int)) = true := decide_eq_true c2
  have c2b1 : decide (200 < l0_0.length) = true := decide_eq_true (by omega)
  clear c2
  obtain rfl := Option.some.inj H
  go_enter Try.func18, Try.ntmps18
  go_wp2_with (first | ((with_reducible refine gate_dst (N := 1) rfl ?_); refine box_event ?hg (N := 1) ?hd (cs := #[.slice A0_0 l0_0.length c0_0, .slice A0_1 l0_1.length c0_1, .slice A0_2 l0_2.length c0_2]) (t := 26) ?hr ?_; (case hd => rfl); (case hg => rfl); (case hr => first | (go_simp; done) | (go_simp; rfl)); intro gb136 hg w3 hbox hb; have n0_ := Zd.mk (bt_ B_ hb); have n1_ := Zd.mk (hbox); have n2_ := Zd.mk ((by rw [hg]; exact (bs_ B_) : w.heap.size ≤ gb136)); have n3_ := Zd.mk ((by rw [hg]; exact (bs_ B_) : w.heap.size ≤ gb136)); clear HB; have HB := n0_; have BK136 := n1_; have GW136 := n2_; have GE136 := n3_; clear n0_ n1_ n2_ n3_; clear hb hbox hg; have hcz4_0 : w3.cell? ⟨gb136, 0, none⟩ = some (.slice A0_0 l0_0.length c0_0) := (bq_ BK136.out 0).trans rfl; have hcz4_1 : w3.cell? ⟨gb136, 1, none⟩ = some (.slice A0_1 l0_1.length c0_1) := (bq_ BK136.out 1).trans rfl; have hcz4_2 : w3.cell? ⟨gb136, 2, none⟩ = some (.slice A0_2 l0_2.length c0_2) := (bq_ BK136.out 2).trans rfl; have hfz4_0 := bz_ BK136.out 0; have hfz4_1 := bz_ BK136.out 1; have hfz4_2 := bz_ BK136.out 2))
  go_ret
  exact ⟨by first | rfl | (simp [errW_none, errW_some] <;> rfl) | (simp [*, errW_none, errW_some] <;> rfl), B_⟩
 ·rw [if_neg c2] at H
  have c2b0 : decide (200 < (l0_0.length : Int)) = false := decide_eq_false c2
  have c2b1 : decide (200 < l0_0.length) = false := decide_eq_false (by omega)
  clear c2
  by_cases c5 : (l0_2.length : Int) = (l0_0.length : Int)
  ·rw [if_pos c5] at H
   have c5b0 : ((l0_2.length : Int) == (l0_0.length : Int)) = true := beq_iff_eq.mpr c5
   have c5b1 : ((l0_2.length : Int) != (l0_0.length : Int)) = false := bne_eq_false_iff_eq.mpr c5
   have c5b2 : (l0_2.length == l0_0.length) = true := by first | simpa using c5 | (simp at c5 ⊢; omega)
   clear c5
   replace H := Option.bind_eq_some_iff.mp H
   obtain ⟨t137, A60, H⟩ := H
   replace H : (if t137 = true then (search_May.l0 k (l0_0.length : Int) l0_2 (l0_2.length : Int) 0) else (some 1)) = some r := H
   have A6 := Zd.mk A60
   clear A60
   by_cases c7 : t137 = true
   ·subst c7
    have H1 : (search_May.l0 k (l0_0.length : Int) l0_2 (l0_2.length : Int) 0) = some r := by rw [if_pos rfl] at H; exact H
    clear H
    have H := H1
    clear H1
    have H' := Zd.mk H
    clear H
    go_enter Try.func18, Try.ntmps18
    go_wp2_with (first | ((with_reducible refine gate_dst (N := 1) rfl ?_); refine box_event ?hg (N := 1) ?hd (cs := #[.slice A0_0 l0_0.length c0_0, .slice A0_1 l0_1.length c0_1, .slice A0_2 l0_2.length c0_2]) (t := 26) ?hr ?_; (case hd => rfl); (case hg => rfl); (case hr => first | (go_simp; done) | (go_simp; rfl)); intro gb136 hg w8 hbox hb; have n0_ := Zd.mk (bt_ B_ hb); have n1_ := Zd.mk (hbox); have n2_ := Zd.mk ((by rw [hg]; exact (bs_ B_) : w.heap.size ≤ gb136)); have n3_ := Zd.mk ((by rw [hg]; exact (bs_ B_) : w.heap.size ≤ gb136)); clear HB; have HB := n0_; have BK136 := n1_; have GW136 := n2_; have GE136 := n3_; clear n0_ n1_ n2_ n3_; clear hb hbox hg; have hcz9_0 : w8.cell? ⟨gb136, 0, none⟩ = some (.slice A0_0 l0_0.length c0_0) := (bq_ BK136.out 0).trans rfl; have hcz9_1 : w8.cell? ⟨gb136, 1, none⟩ = some (.slice A0_1 l0_1.length c0_1) := (bq_ BK136.out 1).trans rfl; have hcz9_2 : w8.cell? ⟨gb136, 2, none⟩ = some (.slice A0_2 l0_2.length c0_2) := (bq_ BK136.out 2).trans rfl; have hfz9_0 := bz_ BK136.out 0; have hfz9_1 := bz_ BK136.out 1; have hfz9_2 := bz_ BK136.out 2) | (go_at_call 35; (with_reducible refine (search_row.calls k _ _ l0_1 (l0_0.length : Int) true _ ?side1 ?side2 A6.out).mono ?_); (case side1 => exact Kd.C_below HR0_1.out B_); (case side2 => exact HC0_1.out); rintro e w' ⟨rfl, ⟨nd, rfl⟩⟩))
    go_loopg [28] k (fun kq v28 w' => ∃ (x28_1 : Int), v28 = .int .i64 x28_1 ∧ Zd (search_May.l0 kq (l0_0.length : Int) l0_2 (l0_2.length : Int) x28_1 = some r) ∧ Zd (kq ≤ k) ∧ Zd (w'.heap[gb136]? = some (.cells #[(.slice A0_0 l0_0.length c0_0), (.slice A0_1 l0_1.length c0_1), (.slice A0_2 l0_2.length c0_2)] 26 (0, 0))) ∧ Zd (Below w.heap.size w w'))
    case atStart => exact ⟨(0), (by first | rfl | (simp; done) | (simp [*]; done)), H', ⟨Nat.le_refl _⟩, ⟨K_⟩, ⟨B_⟩⟩
    case round =>
     clear H'
     try clear c1
     try clear c2
     try clear c2b0
     try clear c2b1
     try clear p2
     try clear c5
     try clear c5b0
     try clear c5b1
     try clear c5b2
     try clear c7
     try clear hcz4_0
     try clear hcz4_1
     try clear hcz4_2
     try clear hcz9_0
     try clear hcz9_1
     try clear hcz9_2
     try clear hfz4_0
     try clear hfz4_1
     try clear hfz4_2
     try clear hfz9_0
     try clear hfz9_1
     try clear hfz9_2
     obtain ⟨x28_1, rfl, HA, HK1, BK136, HB⟩ := hrel
     cases gk with
     | zero => exact absurd HA.out (by simp [search_May.l0])
     | succ k1 =>
      have H := HA.out
      clear HA
      simp only [search_May.l0] at H
      by_cases c10 : x28_1 < (l0_2.length : Int)
      ·rw [if_pos c10] at H
       have c10b0 : decide (x28_1 < (l0_2.length : Int)) = true := decide_eq_true c10
       clear c10
       by_cases c11 : 0 ≤ x28_1
       ·rw [if_pos c11] at H
        have c11b0 : decide (0 ≤ x28_1) = true := decide_eq_true c11
        clear c11
        by_cases c12 : x28_1 < (l0_2.length : Int)
        ·rw [if_pos c12] at H
         have c12b0 : decide (x28_1 < (l0_2.length : Int)) = true := decide_eq_true c12
         clear c12
         by_cases c13 : ((rd_L3 l0_2 x28_1).length : Int) = 0
         ·rw [if_pos c13] at H
          have c13b0 : (((rd_L3 l0_2 x28_1).length : Int) == 0) = true := beq_iff_eq.mpr c13
          have c13b1 : (((rd_L3 l0_2 x28_1).length : Int) != 0) = false := bne_eq_false_iff_eq.mpr c13
          clear c13
          obtain rfl := Option.some.inj H
          have p138 : 0 ≤ (x28_1 : Int) := of_decide_eq_true (by first | (with_reducible assumption) | assumption)
          have q138 : x28_1 < (l0_2.length : Int) := of_decide_eq_true (by first | (with_reducible assumption) | assumption)
          obtain ⟨ad138, A138_0, c138_0, e138, hx138_0, hl138_0, hi138_0⟩ := at_L3 HR0_2.out x28_1 p138 q138
          cases e138
          replace hx138_0 := (HB.out.cell (World.block_lt_of_cell? w _ hx138_0)).trans hx138_0
          have HR138_0 := Zd.mk hi138_0
          have HC138_0 := Zd.mk hl138_0
          clear hi138_0 hl138_0
          replace p138 := eq_true p138
          replace q138 := eq_true q138
          go_wp2
          go_ret
          exact ⟨by first | rfl | (simp [errW_none, errW_some] <;> rfl) | (simp [*, errW_none, errW_some] <;> rfl), B_⟩
         ·rw [if_neg c13] at H
          have c13b0 : (((rd_L3 l0_2 x28_1).length : Int) == 0) = false := beq_eq_false_iff_ne.mpr c13
          have c13b1 : (((rd_L3 l0_2 x28_1).length : Int) != 0) = true := bne_iff_ne.mpr c13
          have c13b2 : ¬ ((rd_L3 l0_2 x28_1) = []) := fun h_ => c13 (by rw [h_]; rfl)
          replace H := Option.bind_eq_some_iff.mp H
          obtain ⟨t139, A140, H⟩ := H
          replace H : (if t139 = true then (search_May.l0 k1 (l0_0.length : Int) l0_2 (l0_2.length : Int) (wrap64 (x28_1 + 1))) else (some 1)) = some r := H
          have A14 := Zd.mk A140
          clear A140
          by_cases c15 : t139 = true
          ·subst c15
           have H1 : (search_May.l0 k1 (l0_0.length : Int) l0_2 (l0_2.length : Int) (wrap64 (x28_1 + 1))) = some r := by rw [if_pos rfl] at H; exact H
           clear H
           have H := H1
           clear H1
           have H' := Zd.mk H
           clear H
           have p138 : 0 ≤ (x28_1 : Int) := of_decide_eq_true (by first | (with_reducible assumption) | assumption)
           have q138 : x28_1 < (l0_2.length : Int) := of_decide_eq_true (by first | (with_reducible assumption) | assumption)
           obtain ⟨ad138, A138_0, c138_0, e138, hx138_0, hl138_0, hi138_0⟩ := at_L3 HR0_2.out x28_1 p138 q138
           cases e138
           replace hx138_0 := (HB.out.cell (World.block_lt_of_cell? w _ hx138_0)).trans hx138_0
           have HR138_0 := Zd.mk hi138_0
           have HC138_0 := Zd.mk hl138_0
           clear hi138_0 hl138_0
           replace p138 := eq_true p138
           replace q138 := eq_true q138
           go_wp2_with (first | (go_at_call 35; (with_reducible refine (search_row.calls k1 _ _ (rd_L3 l0_2 x28_1) (l0_0.length : Int) true _ ?side1 ?side2 A14.out).mono ?_); (case side1 => exact Kd.C_below HR138_0.out B_); (case side2 => exact HC138_0.out); rintro e w' ⟨rfl, ⟨nd, rfl⟩⟩))
           go_roundg k1
           case measure => have := HK1.out; omega
           case rel => exact ⟨(wrap64 (x28_1 + 1)), (by first | rfl | (simp; done) | (simp [*]; done)), H', ⟨by have := HK1.out; omega⟩, ⟨K_⟩, ⟨B_⟩⟩
          ·replace c15 := Bool.eq_false_iff.mpr c15
           subst c15
           have H1 : (some 1) = some r := by rw [if_neg (show ¬ (false = true) by decide)] at H; exact H
           clear H
           have H := H1
           clear H1
           obtain rfl := Option.some.inj H
           have p138 : 0 ≤ (x28_1 : Int) := of_decide_eq_true (by first | (with_reducible assumption) | assumption)
           have q138 : x28_1 < (l0_2.length : Int) := of_decide_eq_true (by first | (with_reducible assumption) | assumption)
           obtain ⟨ad138, A138_0, c138_0, e138, hx138_0, hl138_0, hi138_0⟩ := at_L3 HR0_2.out x28_1 p138 q138
           cases e138
           replace hx138_0 := (HB.out.cell (World.block_lt_of_cell? w _ hx138_0)).trans hx138_0
           have HR138_0 := Zd.mk hi138_0
           have HC138_0 := Zd.mk hl138_0
           clear hi138_0 hl138_0
           replace p138 := eq_true p138
           replace q138 := eq_true q138
           go_wp2_with (first | (go_at_call 35; (with_reducible refine (search_row.calls k1 _ _ (rd_L3 l0_2 x28_1) (l0_0.length : Int) false _ ?side1 ?side2 A14.out).mono ?_); (case side1 => exact Kd.C_below HR138_0.out B_); (case side2 => exact HC138_0.out); rintro e w' ⟨rfl, ⟨nd, rfl⟩⟩))
           go_ret
           exact ⟨by first | rfl | (simp [errW_none, errW_some] <;> rfl) | (simp [*, errW_none, errW_some] <;> rfl), B_⟩
        ·rw [if_neg c12] at H
         exact absurd H (by simp)
       ·rw [if_neg c11] at H
        exact absurd H (by simp)
      ·rw [if_neg c10] at H
       have c10b0 : decide (x28_1 < (l0_2.length : Int)) = false := decide_eq_false c10
       clear c10
       obtain rfl := Option.some.inj H
       go_wp2
       go_ret
       exact ⟨by first | rfl | (simp [errW_none, errW_some] <;> rfl) | (simp [*, errW_none, errW_some] <;> rfl), B_⟩
   ·replace c7 := Bool.eq_false_iff.mpr c7
    subst c7
    have H1 : (some 1) = some r := by rw [if_neg (show ¬ (false = true) by decide)] at H; exact H
    clear H
    have H := H1
    clear H1
    obtain rfl := Option.some.inj H
    go_enter Try.func18, Try.ntmps18
    go_wp2_with (first | ((with_reducible refine gate_dst (N := 1) rfl ?_); refine box_event ?hg (N := 1) ?hd (cs := #[.slice A0_0 l0_0.length c0_0, .slice A0_1 l0_1.length c0_1, .slice A0_2 l0_2.length c0_2]) (t := 26) ?hr ?_; (case hd => rfl); (case hg => rfl); (case hr => first | (go_simp; done) | (go_simp; rfl)); intro gb136 hg w16 hbox hb; have n0_ := Zd.mk (bt_ B_ hb); have n1_ := Zd.mk (hbox); have n2_ := Zd.mk ((by rw [hg]; exact (bs_ B_) : w.heap.size ≤ gb136)); have n3_ := Zd.mk ((by rw [hg]; exact (bs_ B_) : w.heap.size ≤ gb136)); clear HB; have HB := n0_; have BK136 := n1_; have GW136 := n2_; have GE136 := n3_; clear n0_ n1_ n2_ n3_; clear hb hbox hg; have hcz17_0 : w16.cell? ⟨gb136, 0, none⟩ = some (.slice A0_0 l0_0.length c0_0) := (bq_ BK136.out 0).trans rfl; have hcz17_1 : w16.cell? ⟨gb136, 1, none⟩ = some (.slice A0_1 l0_1.length c0_1) := (bq_ BK136.out 1).trans rfl; have hcz17_2 : w16.cell? ⟨gb136, 2, none⟩ = some (.slice A0_2 l0_2.length c0_2) := (bq_ BK136.out 2).trans rfl; have hfz17_0 := bz_ BK136.out 0; have hfz17_1 := bz_ BK136.out 1; have hfz17_2 := bz_ BK136.out 2) | (go_at_call 35; (with_reducible refine (search_row.calls k _ _ l0_1 (l0_0.length : Int) false _ ?side1 ?side2 A6.out).mono ?_); (case side1 => exact Kd.C_below HR0_1.out B_); (case side2 => exact HC0_1.out); rintro e w' ⟨rfl, ⟨nd, rfl⟩⟩))
    go_ret
    exact ⟨by first | rfl | (simp [errW_none, errW_some] <;> rfl) | (simp [*, errW_none, errW_some] <;> rfl), B_⟩
  ·rw [if_neg c5] at H
   have c5b0 : ((l0_2.length : Int) == (l0_0.length : Int)) = false := beq_eq_false_iff_ne.mpr c5
   have c5b1 : ((l0_2.length : Int) != (l0_0.length : Int)) = true := bne_iff_ne.mpr c5
   have c5b2 : (l0_2.length == l0_0.length) = false := by first | simpa using c5 | (simp at c5 ⊢; omega)
   obtain rfl := Option.some.inj H
   go_enter Try.func18, Try.ntmps18
   go_wp2_with (first | ((with_reducible refine gate_dst (N := 1) rfl ?_); refine box_event ?hg (N := 1) ?hd (cs := #[.slice A0_0 l0_0.length c0_0, .slice A0_1 l0_1.length c0_1, .slice A0_2 l0_2.length c0_2]) (t := 26) ?hr ?_; (case hd => rfl); (case hg => rfl); (case hr => first | (go_simp; done) | (go_simp; rfl)); intro gb136 hg w18 hbox hb; have n0_ := Zd.mk (bt_ B_ hb); have n1_ := Zd.mk (hbox); have n2_ := Zd.mk ((by rw [hg]; exact (bs_ B_) : w.heap.size ≤ gb136)); have n3_ := Zd.mk ((by rw [hg]; exact (bs_ B_) : w.heap.size ≤ gb136)); clear HB; have HB := n0_; have BK136 := n1_; have GW136 := n2_; have GE136 := n3_; clear n0_ n1_ n2_ n3_; clear hb hbox hg; have hcz19_0 : w18.cell? ⟨gb136, 0, none⟩ = some (.slice A0_0 l0_0.length c0_0) := (bq_ BK136.out 0).trans rfl; have hcz19_1 : w18.cell? ⟨gb136, 1, none⟩ = some (.slice A0_1 l0_1.length c0_1) := (bq_ BK136.out 1).trans rfl; have hcz19_2 : w18.cell? ⟨gb136, 2, none⟩ = some (.slice A0_2 l0_2.length c0_2) := (bq_ BK136.out 2).trans rfl; have hfz19_0 := bz_ BK136.out 0; have hfz19_1 := bz_ BK136.out 1; have hfz19_2 := bz_ BK136.out 2))
   go_ret
   exact ⟨by first | rfl | (simp [errW_none, errW_some] <;> rfl) | (simp [*, errW_none, errW_some] <;> rfl), B_⟩

attribute [local go_sem] max2_int min2_int max_two min_two max_three min_three max_four min_four

def parryref22_rising.l0 : Nat → Int → Int → List Int → Int → Int → Option (Bool)
 | 0, _, _, _, _, _ => none
 | k + 1, x1, x5, x8, x9, x10 => if x10 < x9 then (if 0 ≤ x10 then (if x10 < (x8.length : Int) then (if (rd x8 x10) ≤ x5 then (some false) else (if (rd x8 x10) ≥ x1 then (some false) else (parryref22_rising.l0 k x1 (rd x8 x10) x8 x9 (wrap64 (x10 + 1))))) else (none)) else (none)) else (some true)
def parryref22_rising.f (k : Nat) (l0 : List Int) (a1 : Int) : Option (Bool) := parryref22_rising.l0 k a1 (-1) l0 (l0.length : Int) 0
theorem parryref22_rising.calls (k : Nat) (A0 : Option Addr) (c0 : Nat) (l0 : List Int) (a1 : Int) (r : Bool) (w : World) (hr0 : Kd.C (Kd.int .i64) w A0 l0.length l0) (hc0 : l0.length ≤ c0) (h : parryref22_rising.f k l0 a1 = some r) :
  Calls Try.prog 21 #[.slice A0 l0.length c0, .int .i64 a1] w fun e w' => e = .returned (.bool r) ∧ Drawn0 w w' := by
 have HR0 := Zd.mk hr0
 have HC0 := Zd.mk hc0
 clear hr0 hc0
 have H : (parryref22_rising.l0 k a1 (-1) l0 (l0.length : Int) 0) = some r := h
 clear h
 have H' := Zd.mk H
 clear H
 go_enter Try.func21, Try.ntmps21
 go_wp2
 go_loopg [5, 10] k (fun kq v5 v10 w' => ∃ (x5_1 : Int) (x10_1 : Int), v5 = .int .i64 x5_1 ∧ v10 = .int .i64 x10_1 ∧ Zd (parryref22_rising.l0 kq a1 x5_1 l0 (l0.length : Int) x10_1 = some r) ∧ Zd (kq ≤ k) ∧ Drawn0 w w')
 case atStart => exact ⟨((-1)), (0), (by first | rfl | (simp; done) | (simp [*]; done)), (by first | rfl | (simp; done) | (simp [*]; done)), H', ⟨Nat.le_refl _⟩, by repeat (first | exact Drawn0.refl _ | apply Drawn0.step)⟩
 case round =>
  clear H'
  try clear c2
  try clear p2
  obtain ⟨x5_1, x10_1, rfl, rfl, HA, HK1, ⟨m1, rfl⟩⟩ := hrel
  cases gk with
  | zero => exact absurd HA.out (by simp [parryref22_rising.l0])
  | succ k1 =>
   have H := HA.out
   clear HA
   simp only [parryref22_rising.l0] at H
   by_cases c3 : x10_1 < (l0.length : Int)
   ·rw [if_pos c3] at H
    have c3b0 : decide (x10_1 < (l0.length : Int)) = true := decide_eq_true c3
    clear c3
    by_cases c4 : 0 ≤ x10_1
    ·rw [if_pos c4] at H
     have c4b0 : decide (0 ≤ x10_1) = true := decide_eq_true c4
     clear c4
     by_cases c5 : x10_1 < (l0.length : Int)
     ·rw [if_pos c5] at H
      have c5b0 : decide (x10_1 < (l0.length : Int)) = true := decide_eq_true c5
      clear c5
      by_cases c6 : (rd l0 x10_1) ≤ x5_1
      ·rw [if_pos c6] at H
       have c6b0 : decide ((rd l0 x10_1) ≤ x5_1) = true := decide_eq_true c6
       clear c6
       obtain rfl := Option.some.inj H
       have p228 : 0 ≤ (x10_1 : Int) := of_decide_eq_true (by first | (with_reducible assumption) | assumption)
       have q228 : x10_1 < (l0.length : Int) := of_decide_eq_true (by first | (with_reducible assumption) | assumption)
       obtain ⟨ad228, e228, hx228_0⟩ := Kd.at_int HR0.out x10_1 p228 q228
       cases e228
       replace p228 := eq_true p228
       replace q228 := eq_true q228
       go_wp2
       go_ret
       exact ⟨by first | rfl | (simp; done) | (simp [*]; done), by repeat (first | exact Drawn0.refl _ | apply Drawn0.step)⟩
      ·rw [if_neg c6] at H
       have c6b0 : decide ((rd l0 x10_1) ≤ x5_1) = false := decide_eq_false c6
       clear c6
       by_cases c7 : (rd l0 x10_1) ≥ a1
       ·rw [if_pos c7] at H
        have c7b0 : decide (a1 ≤ (rd l0 x10_1)) = true := decide_eq_true c7
        clear c7
        obtain rfl := Option.some.inj H
        have p228 : 0 ≤ (x10_1 : Int) := of_decide_eq_true (by first | (with_reducible assumption) | assumption)
        have q228 : x10_1 < (l0.length : Int) := of_decide_eq_true (by first | (with_reducible assumption) | assumption)
        obtain ⟨ad228, e228, hx228_0⟩ := Kd.at_int HR0.out x10_1 p228 q228
        cases e228
        replace p228 := eq_true p228
        replace q228 := eq_true q228
        go_wp2
        go_ret
        exact ⟨by first | rfl | (simp; done) | (simp [*]; done), by repeat (first | exact Drawn0.refl _ | apply Drawn0.step)⟩
       ·rw [if_neg c7] at H
        have c7b0 : decide (a1 ≤ (rd l0 x10_1)) = false := decide_eq_false c7
        clear c7
        have H' := Zd.mk H
        clear H
        have p228 : 0 ≤ (x10_1 : Int) := of_decide_eq_true (by first | (with_reducible assumption) | assumption)
        have q228 : x10_1 < (l0.length : Int) := of_decide_eq_true (by first | (with_reducible assumption) | assumption)
        obtain ⟨ad228, e228, hx228_0⟩ := Kd.at_int HR0.out x10_1 p228 q228
        cases e228
        replace p228 := eq_true p228
        replace q228 := eq_true q228
        go_wp2
        go_roundg k1
        case measure => have := HK1.out; omega
        case rel => exact ⟨(rd l0 x10_1), (wrap64 (x10_1 + 1)), (by first | rfl | (simp; done) | (simp [*]; done)), (by first | rfl | (simp; done) | (simp [*]; done)), H', ⟨by have := HK1.out; omega⟩, by repeat (first | exact Drawn0.refl _ | apply Drawn0.step)⟩
     ·rw [if_neg c5] at H
      exact absurd H (by simp)
    ·rw [if_neg c4] at H
     exact absurd H (by simp)
   ·rw [if_neg c3] at H
    have c3b0 : decide (x10_1 < (l0.length : Int)) = false := decide_eq_false c3
    clear c3
    obtain rfl := Option.some.inj H
    go_wp2
    go_ret
    exact ⟨by first | rfl | (simp; done) | (simp [*]; done), by repeat (first | exact Drawn0.refl _ | apply Drawn0.step)⟩

attribute [local go_sem] max2_int min2_int max_two min_two max_three min_three max_four min_four

def parryref22_MayGraph.l0 : Nat → Int → List (List Int) → Int → Int → List Int → List Int → List (List Int) → Option (Int)
 | 0, _, _, _, _, _, _, _ => none
 | k + 1, x3, x17, x18, x19, x230000, x230001, x230002 => if x19 < x18 then (if 0 ≤ x19 then (if x19 < (x17.length : Int) then (if ((rd_L3 x17 x19).length : Int) = 0 then (some 1) else ((parryref22_rising.f k (rd_L3 x17 x19) x3).bind fun t231 => (if t231 = true then (parryref22_MayGraph.l0 k x3 x17 x18 (wrap64 (x19 + 1)) x230000 x230001 x230002) else (some 1)))) else (none)) else (none)) else ((parryref22_rising.f k x230001 x3).bind fun t232 => (if t232 = true then (some 0) else (some 1)))
def parryref22_MayGraph.f (k : Nat) (l0_0 : List Int) (l0_1 : List Int) (l0_2 : List (List Int)) : Option (Int) := if (l0_0.length : Int) > 200 then (some 7) else (if (l0_2.length : Int) = (l0_0.length : Int) then (parryref22_MayGraph.l0 k (l0_0.length : Int) l0_2 (l0_2.length : Int) 0 l0_0 l0_1 l0_2) else (some 1))
theorem parryref22_MayGraph.calls (k : Nat) (A0_0 : Option Addr) (c0_0 : Nat) (l0_0 : List Int) (A0_1 : Option Addr) (c0_1 : Nat) (l0_1 : List Int) (A0_2 : Option Addr) (c0_2 : Nat) (l0_2 : List (List Int)) (r : Int) (w : World) (hr0_0 : Kd.C (Kd.int .u32) w A0_0 l0_0.length l0_0) (hc0_0 : l0_0.length ≤ c0_0) (hr0_1 : Kd.C (Kd.int .i64) w A0_1 l0_1.length l0_1) (hc0_1 : l0_1.length ≤ c0_1) (hr0_2 : Kd.C (Kd.slice 3 (Kd.int .i64)) w A0_2 l0_2.length l0_2) (hc0_2 : l0_2.length ≤ c0_2) (h : parryref22_MayGraph.f k l0_0 l0_1 l0_2 = some r) :
  Calls Try.prog 8 #[.agg #[.slice A0_0 l0_0.length c0_0, .slice A0_1 l0_1.length c0_1, .slice A0_2 l0_2.length c0_2]] w fun e w' => e = .returned (.int .i64 r) ∧ Below w.heap.size w w' := by
 have hu26 := Try.underlying26
 have HR0_0 := Zd.mk hr0_0
 have HC0_0 := Zd.mk hc0_0
 clear hr0_0 hc0_0
 have HR0_1 := Zd.mk hr0_1
 have HC0_1 := Zd.mk hc0_1
 clear hr0_1 hc0_1
 have HR0_2 := Zd.mk hr0_2
 have HC0_2 := Zd.mk hc0_2
 clear hr0_2 hc0_2
 have HB := Zd.mk (Below.refl w.heap.size w)
 have H : (if (l0_0.length : Int) > 200 then (some 7) else (if (l0_2.length : Int) = (l0_0.length : Int) then (parryref22_MayGraph.l0 k (l0_0.length : Int) l0_2 (l0_2.length : Int) 0 l0_0 l0_1 l0_2) else (some 1))) = some r := h
 clear h
 by_cases c2 : (l0_0.length : Int) > 200
 ·rw [if_pos c2] at H
  have c2b0 : decide (200 < (l0_0.length : Int)) = true := decide_eq_true c2
  have c2b1 : decide (200 < l0_0.length) = true := decide_eq_true (by omega)
  clear c2
  obtain rfl := Option.some.inj H
  go_enter Try.func8, Try.ntmps8
  go_wp2_with (first | ((with_reducible refine gate_dst (N := 1) rfl ?_); refine box_event ?hg (N := 1) ?hd (cs := #[.slice A0_0 l0_0.length c0_0, .slice A0_1 l0_1.length c0_1, .slice A0_2 l0_2.length c0_2]) (t := 26) ?hr ?_; (case hd => rfl); (case hg => rfl); (case hr => first | (go_simp; done) | (go_simp; rfl)); intro gb229 hg w3 hbox hb; have n0_ := Zd.mk (bt_ B_ hb); have n1_ := Zd.mk (hbox); have n2_ := Zd.mk ((by rw [hg]; exact (bs_ B_) : w.heap.size ≤ gb229)); have n3_ := Zd.mk ((by rw [hg]; exact (bs_ B_) : w.heap.size ≤ gb229)); clear HB; have HB := n0_; have BK229 := n1_; have GW229 := n2_; have GE229 := n3_; clear n0_ n1_ n2_ n3_; clear hb hbox hg; have hcz4_0 : w3.cell? ⟨gb229, 0, none⟩ = some (.slice A0_0 l0_0.length c0_0) := (bq_ BK229.out 0).trans rfl; have hcz4_1 : w3.cell? ⟨gb229, 1, none⟩ = some (.slice A0_1 l0_1.length c0_1) := (bq_ BK229.out 1).trans rfl; have hcz4_2 : w3.cell? ⟨gb229, 2, none⟩ = some (.slice A0_2 l0_2.length c0_2) := (bq_ BK229.out 2).trans rfl; have hfz4_0 := bz_ BK229.out 0; have hfz4_1 := bz_ BK229.out 1; have hfz4_2 := bz_ BK229.out 2))
  go_ret
  exact ⟨by first | rfl | (simp [errW_none, errW_some] <;> rfl) | (simp [*, errW_none, errW_some] <;> rfl), B_⟩
 ·rw [if_neg c2] at H
  have c2b0 : decide (200 < (l0_0.length : Int)) = false := decide_eq_false c2
  have c2b1 : decide (200 < l0_0.length) = false := decide_eq_false (by omega)
  clear c2
  by_cases c5 : (l0_2.length : Int) = (l0_0.length : Int)
  ·rw [if_pos c5] at H
   have c5b0 : ((l0_2.length : Int) == (l0_0.length : Int)) = true := beq_iff_eq.mpr c5
   have c5b1 : ((l0_2.length : Int) != (l0_0.length : Int)) = false := bne_eq_false_iff_eq.mpr c5
   have c5b2 : (l0_2.length == l0_0.length) = true := by first | simpa using c5 | (simp at c5 ⊢; omega)
   clear c5
   have H' := Zd.mk H
   clear H
   go_enter Try.func8, Try.ntmps8
   go_wp2_with (first | ((with_reducible refine gate_dst (N := 1) rfl ?_); refine box_event ?hg (N := 1) ?hd (cs := #[.slice A0_0 l0_0.length c0_0, .slice A0_1 l0_1.length c0_1, .slice A0_2 l0_2.length c0_2]) (t := 26) ?hr ?_; (case hd => rfl); (case hg => rfl); (case hr => first | (go_simp; done) | (go_simp; rfl)); intro gb229 hg w6 hbox hb; have n0_ := Zd.mk (bt_ B_ hb); have n1_ := Zd.mk (hbox); have n2_ := Zd.mk ((by rw [hg]; exact (bs_ B_) : w.heap.size ≤ gb229)); have n3_ := Zd.mk ((by rw [hg]; exact (bs_ B_) : w.heap.size ≤ gb229)); clear HB; have HB := n0_; have BK229 := n1_; have GW229 := n2_; have GE229 := n3_; clear n0_ n1_ n2_ n3_; clear hb hbox hg; have hcz7_0 : w6.cell? ⟨gb229, 0, none⟩ = some (.slice A0_0 l0_0.length c0_0) := (bq_ BK229.out 0).trans rfl; have hcz7_1 : w6.cell? ⟨gb229, 1, none⟩ = some (.slice A0_1 l0_1.length c0_1) := (bq_ BK229.out 1).trans rfl; have hcz7_2 : w6.cell? ⟨gb229, 2, none⟩ = some (.slice A0_2 l0_2.length c0_2) := (bq_ BK229.out 2).trans rfl; have hfz7_0 := bz_ BK229.out 0; have hfz7_1 := bz_ BK229.out 1; have hfz7_2 := bz_ BK229.out 2))
   go_loopg [19] k (fun kq v19 w' => ∃ (x19_1 : Int), v19 = .int .i64 x19_1 ∧ Zd (parryref22_MayGraph.l0 kq (l0_0.length : Int) l0_2 (l0_2.length : Int) x19_1 l0_0 l0_1 l0_2 = some r) ∧ Zd (kq ≤ k) ∧ Zd (w'.heap[gb229]? = some (.cells #[(.slice A0_0 l0_0.length c0_0), (.slice A0_1 l0_1.length c0_1), (.slice A0_2 l0_2.length c0_2)] 26 (0, 0))) ∧ Zd (Below w.heap.size w w'))
   case atStart => exact ⟨(0), (by first | rfl | (simp; done) | (simp [*]; done)), H', ⟨Nat.le_refl _⟩, ⟨K_⟩, ⟨B_⟩⟩
   case round =>
    clear H'
    try clear c2
    try clear c2b0
    try clear c2b1
    try clear p2
    try clear c5
    try clear c5b0
    try clear c5b1
    try clear c5b2
    try clear hcz4_0
    try clear hcz4_1
    try clear hcz4_2
    try clear hcz7_0
    try clear hcz7_1
    try clear hcz7_2
    try clear hfz4_0
    try clear hfz4_1
    try clear hfz4_2
    try clear hfz7_0
    try clear hfz7_1
    try clear hfz7_2
    obtain ⟨x19_1, rfl, HA, HK1, BK229, HB⟩ := hrel
    cases gk with
    | zero => exact absurd HA.out (by simp [parryref22_MayGraph.l0])
    | succ k1 =>
     have H := HA.out
     clear HA
     simp only [parryref22_MayGraph.l0] at H
     by_cases c8 : x19_1 < (l0_2.length : Int)
     ·rw [if_pos c8] at H
      have c8b0 : decide (x19_1 < (l0_2.length : Int)) = true := decide_eq_true c8
      clear c8
      by_cases c9 : 0 ≤ x19_1
      ·rw [if_pos c9] at H
       have c9b0 : decide (0 ≤ x19_1) = true := decide_eq_true c9
       clear c9
       by_cases c10 : x19_1 < (l0_2.length : Int)
       ·rw [if_pos c10] at H
        have c10b0 : decide (x19_1 < (l0_2.length : Int)) = true := decide_eq_true c10
        clear c10
        by_cases c11 : ((rd_L3 l0_2 x19_1).length : Int) = 0
        ·rw [if_pos c11] at H
         have c11b0 : (((rd_L3 l0_2 x19_1).length : Int) == 0) = true := beq_iff_eq.mpr c11
         have c11b1 : (((rd_L3 l0_2 x19_1).length : Int) != 0) = false := bne_eq_false_iff_eq.mpr c11
         clear c11
         obtain rfl := Option.some.inj H
         have p230 : 0 ≤ (x19_1 : Int) := of_decide_eq_true (by first | (with_reducible assumption) | assumption)
         have q230 : x19_1 < (l0_2.length : Int) := of_decide_eq_true (by first | (with_reducible assumption) | assumption)
         obtain ⟨ad230, A230_0, c230_0, e230, hx230_0, hl230_0, hi230_0⟩ := at_L3 HR0_2.out x19_1 p230 q230
         cases e230
         replace hx230_0 := (HB.out.cell (World.block_lt_of_cell? w _ hx230_0)).trans hx230_0
         have HR230_0 := Zd.mk hi230_0
         have HC230_0 := Zd.mk hl230_0
         clear hi230_0 hl230_0
         replace p230 := eq_true p230
         replace q230 := eq_true q230
         go_wp2
         go_ret
         exact ⟨by first | rfl | (simp [errW_none, errW_some] <;> rfl) | (simp [*, errW_none, errW_some] <;> rfl), B_⟩
        ·rw [if_neg c11] at H
         have c11b0 : (((rd_L3 l0_2 x19_1).length : Int) == 0) = false := beq_eq_false_iff_ne.mpr c11
         have c11b1 : (((rd_L3 l0_2 x19_1).length : Int) != 0) = true := bne_iff_ne.mpr c11
         have c11b2 : ¬ ((rd_L3 l0_2 x19_1) = []) := fun h_ => c11 (by rw [h_]; rfl)
         replace H := Option.bind_eq_some_iff.mp H
         obtain ⟨t231, A120, H⟩ := H
         replace H : (if t231 = true then (parryref22_MayGraph.l0 k1 (l0_0.length : Int) l0_2 (l0_2.length : Int) (wrap64 (x19_1 + 1)) l0_0 l0_1 l0_2) else (some 1)) = some r := H
         have A12 := Zd.mk A120
         clear A120
         by_cases c13 : t231 = true
         ·subst c13
          have H1 : (parryref22_MayGraph.l0 k1 (l0_0.length : Int) l0_2 (l0_2.length : Int) (wrap64 (x19_1 + 1)) l0_0 l0_1 l0_2) = some r := by rw [if_pos rfl] at H; exact H
          clear H
          have H := H1
          clear H1
          have H' := Zd.mk H
          clear H
          have p230 : 0 ≤ (x19_1 : Int) := of_decide_eq_true (by first | (with_reducible assumption) | assumption)
          have q230 : x19_1 < (l0_2.length : Int) := of_decide_eq_true (by first | (with_reducible assumption) | assumption)
          obtain ⟨ad230, A230_0, c230_0, e230, hx230_0, hl230_0, hi230_0⟩ := at_L3 HR0_2.out x19_1 p230 q230
          cases e230
          replace hx230_0 := (HB.out.cell (World.block_lt_of_cell? w _ hx230_0)).trans hx230_0
          have HR230_0 := Zd.mk hi230_0
          have HC230_0 := Zd.mk hl230_0
          clear hi230_0 hl230_0
          replace p230 := eq_true p230
          replace q230 := eq_true q230
          go_wp2_with (first | (go_at_call 21; (with_reducible refine (parryref22_rising.calls k1 _ _ (rd_L3 l0_2 x19_1) (l0_0.length : Int) true _ ?side1 ?side2 A12.out).mono ?_); (case side1 => exact Kd.C_below HR230_0.out B_); (case side2 => exact HC230_0.out); rintro e w' ⟨rfl, ⟨nd, rfl⟩⟩))
          go_roundg k1
          case measure => have := HK1.out; omega
          case rel => exact ⟨(wrap64 (x19_1 + 1)), (by first | rfl | (simp; done) | (simp [*]; done)), H', ⟨by have := HK1.out; omega⟩, ⟨K_⟩, ⟨B_⟩⟩
         ·replace c13 := Bool.eq_false_iff.mpr c13
          subst c13
          have H1 : (some 1) = some r := by rw [if_neg (show ¬ (false = true) by decide)] at H; exact H
          clear H
          have H := H1
          clear H1
          obtain rfl := Option.some.inj H
          have p230 : 0 ≤ (x19_1 : Int) := of_decide_eq_true (by first | (with_reducible assumption) | assumption)
          have q230 : x19_1 < (l0_2.length : Int) := of_decide_eq_true (by first | (with_reducible assumption) | assumption)
          obtain ⟨ad230, A230_0, c230_0, e230, hx230_0, hl230_0, hi230_0⟩ := at_L3 HR0_2.out x19_1 p230 q230
          cases e230
          replace hx230_0 := (HB.out.cell (World.block_lt_of_cell? w _ hx230_0)).trans hx230_0
          have HR230_0 := Zd.mk hi230_0
          have HC230_0 := Zd.mk hl230_0
          clear hi230_0 hl230_0
          replace p230 := eq_true p230
          replace q230 := eq_true q230
          go_wp2_with (first | (go_at_call 21; (with_reducible refine (parryref22_rising.calls k1 _ _ (rd_L3 l0_2 x19_1) (l0_0.length : Int) false _ ?side1 ?side2 A12.out).mono ?_); (case side1 => exact Kd.C_below HR230_0.out B_); (case side2 => exact HC230_0.out); rintro e w' ⟨rfl, ⟨nd, rfl⟩⟩))
          go_ret
          exact ⟨by first | rfl | (simp [errW_none, errW_some] <;> rfl) | (simp [*, errW_none, errW_some] <;> rfl), B_⟩
       ·rw [if_neg c10] at H
        exact absurd H (by simp)
      ·rw [if_neg c9] at H
       exact absurd H (by simp)
     ·rw [if_neg c8] at H
      have c8b0 : decide (x19_1 < (l0_2.length : Int)) = false := decide_eq_false c8
      clear c8
      replace H := Option.bind_eq_some_iff.mp H
      obtain ⟨t232, A140, H⟩ := H
      replace H : (if t232 = true then (some 0) else (some 1)) = some r := H
      have A14 := Zd.mk A140
      clear A140
      by_cases c15 : t232 = true
      ·subst c15
       have H1 : (some 0) = some r := by rw [if_pos rfl] at H; exact H
       clear H
       have H := H1
       clear H1
       obtain rfl := Option.some.inj H
       have hcz16_0 : wr.cell? ⟨gb229, 0, none⟩ = some (.slice A0_0 l0_0.length c0_0) := (bq_ BK229.out 0).trans rfl
       have hcz16_1 : wr.cell? ⟨gb229, 1, none⟩ = some (.slice A0_1 l0_1.length c0_1) := (bq_ BK229.out 1).trans rfl
       have hcz16_2 : wr.cell? ⟨gb229, 2, none⟩ = some (.slice A0_2 l0_2.length c0_2) := (bq_ BK229.out 2).trans rfl
       have hfz16_0 := bz_ BK229.out 0
       have hfz16_1 := bz_ BK229.out 1
       have hfz16_2 := bz_ BK229.out 2
       go_wp2_with (first | ((with_reducible refine gate_callee (f := 21) rfl ?_); refine goesL_ (some 36) rfl rfl Try.func21 (by kernel_rfl) rfl #[.slice A0_1 l0_1.length c0_1, .int .i64 (l0_0.length : Int)] rfl (by (try simp only [List.map_toArray, List.map_cons, List.map_nil]); first | done | rfl | (simp only [List.length_drop, List.length_take]; rfl)) ?_; (with_reducible refine (parryref22_rising.calls k1 _ _ l0_1 (l0_0.length : Int) true _ ?side1 ?side2 A14.out).mono ?_); (case side1 => exact Kd.C_below HR0_1.out B_); (case side2 => exact HC0_1.out); rintro e w' ⟨rfl, ⟨nd, rfl⟩⟩; refine ⟨_, rfl, ?_⟩))
       go_ret
       exact ⟨by first | rfl | (simp [errW_none, errW_some] <;> rfl) | (simp [*, errW_none, errW_some] <;> rfl), B_⟩
      ·replace c15 := Bool.eq_false_iff.mpr c15
       subst c15
       have H1 : (some 1) = some r := by rw [if_neg (show ¬ (false = true) by decide)] at H; exact H
       clear H
       have H := H1
       clear H1
       obtain rfl := Option.some.inj H
       have hcz17_0 : wr.cell? ⟨gb229, 0, none⟩ = some (.slice A0_0 l0_0.length c0_0) := (bq_ BK229.out 0).trans rfl
       have hcz17_1 : wr.cell? ⟨gb229, 1, none⟩ = some (.slice A0_1 l0_1.length c0_1) := (bq_ BK229.out 1).trans rfl
       have hcz17_2 : wr.cell? ⟨gb229, 2, none⟩ = some (.slice A0_2 l0_2.length c0_2) := (bq_ BK229.out 2).trans rfl
       have hfz17_0 := bz_ BK229.out 0
       have hfz17_1 := bz_ BK229.out 1
       have hfz17_2 := bz_ BK229.out 2
       go_wp2_with (first | ((with_reducible refine gate_callee (f := 21) rfl ?_); refine goesL_ (some 36) rfl rfl Try.func21 (by kernel_rfl) rfl #[.slice A0_1 l0_1.length c0_1, .int .i64 (l0_0.length : Int)] rfl (by (try simp only [List.map_toArray, List.map_cons, List.map_nil]); first | done | rfl | (simp only [List.length_drop, List.length_take]; rfl)) ?_; (with_reducible refine (parryref22_rising.calls k1 _ _ l0_1 (l0_0.length : Int) false _ ?side1 ?side2 A14.out).mono ?_); (case side1 => exact Kd.C_below HR0_1.out B_); (case side2 => exact HC0_1.out); rintro e w' ⟨rfl, ⟨nd, rfl⟩⟩; refine ⟨_, rfl, ?_⟩))
       go_ret
       exact ⟨by first | rfl | (simp [errW_none, errW_some] <;> rfl) | (simp [*, errW_none, errW_some] <;> rfl), B_⟩
  ·rw [if_neg c5] at H
   have c5b0 : ((l0_2.length : Int) == (l0_0.length : Int)) = false := beq_eq_false_iff_ne.mpr c5
   have c5b1 : ((l0_2.length : Int) != (l0_0.length : Int)) = true := bne_iff_ne.mpr c5
   have c5b2 : (l0_2.length == l0_0.length) = false := by first | simpa using c5 | (simp at c5 ⊢; omega)
   obtain rfl := Option.some.inj H
   go_enter Try.func8, Try.ntmps8
   go_wp2_with (first | ((with_reducible refine gate_dst (N := 1) rfl ?_); refine box_event ?hg (N := 1) ?hd (cs := #[.slice A0_0 l0_0.length c0_0, .slice A0_1 l0_1.length c0_1, .slice A0_2 l0_2.length c0_2]) (t := 26) ?hr ?_; (case hd => rfl); (case hg => rfl); (case hr => first | (go_simp; done) | (go_simp; rfl)); intro gb229 hg w18 hbox hb; have n0_ := Zd.mk (bt_ B_ hb); have n1_ := Zd.mk (hbox); have n2_ := Zd.mk ((by rw [hg]; exact (bs_ B_) : w.heap.size ≤ gb229)); have n3_ := Zd.mk ((by rw [hg]; exact (bs_ B_) : w.heap.size ≤ gb229)); clear HB; have HB := n0_; have BK229 := n1_; have GW229 := n2_; have GE229 := n3_; clear n0_ n1_ n2_ n3_; clear hb hbox hg; have hcz19_0 : w18.cell? ⟨gb229, 0, none⟩ = some (.slice A0_0 l0_0.length c0_0) := (bq_ BK229.out 0).trans rfl; have hcz19_1 : w18.cell? ⟨gb229, 1, none⟩ = some (.slice A0_1 l0_1.length c0_1) := (bq_ BK229.out 1).trans rfl; have hcz19_2 : w18.cell? ⟨gb229, 2, none⟩ = some (.slice A0_2 l0_2.length c0_2) := (bq_ BK229.out 2).trans rfl; have hfz19_0 := bz_ BK229.out 0; have hfz19_1 := bz_ BK229.out 1; have hfz19_2 := bz_ BK229.out 2))
   go_ret
   exact ⟨by first | rfl | (simp [errW_none, errW_some] <;> rfl) | (simp [*, errW_none, errW_some] <;> rfl), B_⟩

end Go.Proofs.Ytapejnikpmfddaa.P
namespace Go.Proofs.Ytapejnikpmfddaa.X
open Go.RowKit Go.Proofs.YtapejnikpmfddaaW.PrintWords Go.Proofs.YtapejnikpmfddaaW.PrintMore
open Go.Proofs.Ytapejnikpmfddaa.P Go.Proofs.Ytapejnikpmfddaa.Evx
def riseG (n : Int) : Int → List Int → Bool
 | _, [] => true
 | was, v :: r => if v ≤ was then false else if v ≥ n then false else riseG n v r
def rowG (n : Int) (l : List Int) : Bool := decide (l ≠ []) && riseG n (-1) l
def mayG (ls ss : List Int) (nxs : List (List Int)) : Int := if (ls.length : Int) > 200 then 7 else if (nxs.length : Int) = (ls.length : Int) then (if riseG (ls.length : Int) (-1) ss = true ∧ nxs.all (rowG (ls.length : Int)) = true then 0 else 1) else 1
theorem rise_lt {n : Int} : ∀ {l : List Int} {was : Int}, riseG n was l = true → ∀ x, x ∈ l → was < x ∧ x < n
 | [], _, _, x, hx => by cases hx
 | v :: r, was, h, x, hx => by
  unfold riseG at h
  by_cases h1 : v ≤ was
  ·rw [if_pos h1] at h; cases h
  ·rw [if_neg h1] at h
   by_cases h2 : v ≥ n
   ·rw [if_pos h2] at h; cases h
   ·rw [if_neg h2] at h
    rcases List.mem_cons.1 hx with e | hx
    ·subst e; omega
    ·have := rise_lt h x hx
     omega
theorem rise_len {n : Int} : ∀ {l : List Int} {was : Int}, riseG n was l = true → l = [] ∨ (l.length : Int) + was < n
 | [], _, _ => .inl rfl
 | v :: r, was, h => by
  right
  have hv := rise_lt h v (List.mem_cons_self ..)
  unfold riseG at h
  rw [if_neg (by omega), if_neg (by omega)] at h
  rcases rise_len h with e | e
  ·subst e; simp; omega
  ·rw [List.length_cons]; omega
theorem rise_le {n : Int} {l : List Int} (h : riseG n (-1) l = true) : (l.length : Int) ≤ max n 0 := by
 rcases rise_len h with e | e
 ·subst e; simp; omega
 ·omega
theorem srow_loop (n : Int) (l : List Int) (hb : l.length ≤ 9223372036854775807) : ∀ (r p : List Int) (was : Int), p ++ r = l → Ev (fun k => search_row.l0 k n was l (l.length : Int) (p.length : Int)) (riseG n was r)
 | [], p, was, h => by
  subst h
  exact ev_step (fun k => rfl) (ev_neg (by simp) (ev_some _))
 | v :: r, p, was, h => by
  have hlen : l.length = p.length + (r.length + 1) := by rw [← h]; simp
  have hrd : rd l (p.length : Int) = v := by rw [← h]; exact rd_app p v r
  refine ev_step (fun k => rfl) (ev_pos (by omega) (ev_pos (by omega) (ev_pos (by omega) ?_)))
  rw [hrd]
  unfold riseG
  refine ev_ite (fun c => ev_eq (ev_some _) (if_pos c).symm) (fun c => ?_)
  rw [if_neg c]
  refine ev_ite (fun c => ev_eq (ev_some _) (if_pos c).symm) (fun c => ?_)
  rw [if_neg c, w64 (by omega) (by omega), show ((p.length : Int) + 1) = ((p ++ [v]).length : Int) by simp]
  exact srow_loop n l hb r (p ++ [v]) v (by rw [← h]; simp)
theorem srow_ev (n : Int) (l : List Int) (hb : l.length ≤ 9223372036854775807) : Ev (fun k => search_row.f k l n) (riseG n (-1) l) := srow_loop n l hb l [] (-1) rfl
theorem rrow_loop (n : Int) (l : List Int) (hb : l.length ≤ 9223372036854775807) : ∀ (r p : List Int) (was : Int), p ++ r = l → Ev (fun k => parryref22_rising.l0 k n was l (l.length : Int) (p.length : Int)) (riseG n was r)
 | [], p, was, h => by
  subst h
  exact ev_step (fun k => rfl) (ev_neg (by simp) (ev_some _))
 | v :: r, p, was, h => by
  have hlen : l.length = p.length + (r.length + 1) := by rw [← h]; simp
  have hrd : rd l (p.length : Int) = v := by rw [← h]; exact rd_app p v r
  refine ev_step (fun k => rfl) (ev_pos (by omega) (ev_pos (by omega) (ev_pos (by omega) ?_)))
  rw [hrd]
  unfold riseG
  refine ev_ite (fun c => ev_eq (ev_some _) (if_pos c).symm) (fun c => ?_)
  rw [if_neg c]
  refine ev_ite (fun c => ev_eq (ev_some _) (if_pos c).symm) (fun c => ?_)
  rw [if_neg c, w64 (by omega) (by omega), show ((p.length : Int) + 1) = ((p ++ [v]).length : Int) by simp]
  exact rrow_loop n l hb r (p ++ [v]) v (by rw [← h]; simp)
theorem rrow_ev (n : Int) (l : List Int) (hb : l.length ≤ 9223372036854775807) : Ev (fun k => parryref22_rising.f k l n) (riseG n (-1) l) := rrow_loop n l hb l [] (-1) rfl
theorem rdL_app (p : List (List Int)) (x : List Int) (r : List (List Int)) : rd_L3 (p ++ x :: r) (p.length : Int) = x := by
 unfold rd_L3
 simp
theorem smay_loop (n : Int) (l : List (List Int)) (hb : l.length ≤ 9223372036854775807) : ∀ (r p : List (List Int)), (∀ x, x ∈ r → x.length ≤ 9223372036854775807) → p ++ r = l → Ev (fun k => search_May.l0 k n l (l.length : Int) (p.length : Int)) (if r.all (rowG n) = true then 0 else 1)
 | [], p, hx, h => by
  subst h
  exact ev_step (fun k => rfl) (ev_neg (by simp) (ev_some _))
 | v :: r, p, hx, h => by
  have hlen : l.length = p.length + (r.length + 1) := by rw [← h]; simp
  have hrd : rd_L3 l (p.length : Int) = v := by rw [← h]; exact rdL_app p v r
  refine ev_step (fun k => rfl) (ev_pos (by omega) (ev_pos (by omega) (ev_pos (by omega) ?_)))
  rw [hrd]
  rw [List.all_cons]
  unfold rowG
  refine ev_ite (fun c => ev_eq (ev_some _) ?_) (fun c => ?_)
  ·have e : v = [] := List.length_eq_zero_iff.1 (by omega)
   subst e
   simp
  ·have e : v ≠ [] := fun e => c (by rw [e]; rfl)
   refine ev_bind (srow_ev n v (hx v (List.mem_cons_self ..))) (ev_bool (fun hq => ?_) (fun hq => ev_eq (ev_some _) ?_))
   ·rw [hq, decide_eq_true e, Bool.true_and, Bool.true_and, w64 (by omega) (by omega), show ((p.length : Int) + 1) = ((p ++ [v]).length : Int) by simp]
    exact smay_loop n l hb r (p ++ [v]) (fun x k => hx x (List.mem_cons_of_mem _ k)) (by rw [← h]; simp)
   ·rw [hq]; simp
theorem smay_ev (ls ss : List Int) (nxs : List (List Int)) (h1 : ss.length ≤ 9223372036854775807) (h2 : nxs.length ≤ 9223372036854775807) (h3 : ∀ x, x ∈ nxs → x.length ≤ 9223372036854775807) : Ev (fun k => search_May.f k ls ss nxs) (mayG ls ss nxs) := by
 unfold search_May.f mayG
 refine ev_ite (fun c => ev_eq (ev_some _) (if_pos c).symm) (fun c => ?_)
 rw [if_neg c]
 refine ev_ite (fun c => ?_) (fun c => ev_eq (ev_some _) (if_neg c).symm)
 rw [if_pos c]
 refine ev_bind (srow_ev _ ss h1) (ev_bool (fun hq => ?_) (fun hq => ev_eq (ev_some _) ?_))
 ·refine ev_eq (smay_loop _ nxs h2 nxs [] h3 rfl) ?_
  rw [hq]
  simp
 ·rw [hq]; simp
theorem rmay_loop (n : Int) (ls ss : List Int) (nxs : List (List Int)) (l : List (List Int)) (hs : ss.length ≤ 9223372036854775807) (hb : l.length ≤ 9223372036854775807) : ∀ (r p : List (List Int)), (∀ x, x ∈ r → x.length ≤ 9223372036854775807) → p ++ r = l → Ev (fun k => parryref22_MayGraph.l0 k n l (l.length : Int) (p.length : Int) ls ss nxs) (if riseG n (-1) ss = true ∧ r.all (rowG n) = true then 0 else 1)
 | [], p, hx, h => by
  subst h
  refine ev_step (fun k => rfl) (ev_neg (by simp) (ev_bind (rrow_ev n ss hs) (ev_bool (fun hq => ev_eq (ev_some _) ?_) (fun hq => ev_eq (ev_some _) ?_))))
  ·rw [hq]; simp
  ·rw [hq]; simp
 | v :: r, p, hx, h => by
  have hlen : l.length = p.length + (r.length + 1) := by rw [← h]; simp
  have hrd : rd_L3 l (p.length : Int) = v := by rw [← h]; exact rdL_app p v r
  refine ev_step (fun k => rfl) (ev_pos (by omega) (ev_pos (by omega) (ev_pos (by omega) ?_)))
  rw [hrd]
  rw [List.all_cons]
  unfold rowG
  refine ev_ite (fun c => ev_eq (ev_some _) ?_) (fun c => ?_)
  ·have e : v = [] := List.length_eq_zero_iff.1 (by omega)
   subst e
   simp
  ·have e : v ≠ [] := fun e => c (by rw [e]; rfl)
   refine ev_bind (rrow_ev n v (hx v (List.mem_cons_self ..))) (ev_bool (fun hq => ?_) (fun hq => ev_eq (ev_some _) ?_))
   ·rw [hq, decide_eq_true e, Bool.true_and, Bool.true_and, w64 (by omega) (by omega), show ((p.length : Int) + 1) = ((p ++ [v]).length : Int) by simp]
    exact rmay_loop n ls ss nxs l hs hb r (p ++ [v]) (fun x k => hx x (List.mem_cons_of_mem _ k)) (by rw [← h]; simp)
   ·rw [hq]; simp
theorem rmay_ev (ls ss : List Int) (nxs : List (List Int)) (h1 : ss.length ≤ 9223372036854775807) (h2 : nxs.length ≤ 9223372036854775807) (h3 : ∀ x, x ∈ nxs → x.length ≤ 9223372036854775807) : Ev (fun k => parryref22_MayGraph.f k ls ss nxs) (mayG ls ss nxs) := by
 unfold parryref22_MayGraph.f mayG
 refine ev_ite (fun c => ev_eq (ev_some _) (if_pos c).symm) (fun c => ?_)
 rw [if_neg c]
 refine ev_ite (fun c => ?_) (fun c => ev_eq (ev_some _) (if_neg c).symm)
 rw [if_pos c]
 exact rmay_loop _ ls ss nxs nxs h1 h2 nxs [] h3 rfl
structure GraphOk (ls ss : List Int) (nxs : List (List Int)) : Prop where
 n : ls.length ≤ 200
 nn : nxs.length = ls.length
 st : ∀ x, x ∈ ss → 0 ≤ x ∧ x < (ls.length : Int)
 sl : ss.length ≤ 200
 nx : ∀ l, l ∈ nxs → l ≠ [] ∧ l.length ≤ 200 ∧ ∀ x, x ∈ l → 0 ≤ x ∧ x < (ls.length : Int)
theorem mayG_ok {ls ss : List Int} {nxs : List (List Int)} (h : mayG ls ss nxs = 0) : GraphOk ls ss nxs := by
 unfold mayG at h
 by_cases h1 : (ls.length : Int) > 200
 ·rw [if_pos h1] at h; cases h
 ·rw [if_neg h1] at h
  by_cases h2 : (nxs.length : Int) = (ls.length : Int)
  ·rw [if_pos h2] at h
   by_cases h3 : riseG (ls.length : Int) (-1) ss = true ∧ nxs.all (rowG (ls.length : Int)) = true
   ·refine ⟨by omega, by omega, fun x hx => by have := rise_lt h3.1 x hx; omega, by have := rise_le h3.1; omega, fun l hl => ?_⟩
    have := List.all_eq_true.1 h3.2 l hl
    unfold rowG at this
    rw [Bool.and_eq_true, decide_eq_true_eq] at this
    exact ⟨this.1, by have := rise_le this.2; omega, fun x hx => by have := rise_lt this.2 x hx; omega⟩
   ·rw [if_neg h3] at h; cases h
  ·rw [if_neg h2] at h; cases h
open Go.Proofs.YtapejnikpmfddaaW.PrintLast
def RdrB (w : World) (rb : Nat) (sv lt : Int) (vs vg : Value) : Prop := w.heap[rb]? = some (.cells #[.int .i64 sv, .int .u32 lt, vs, vg] 129 (0, 0))
def BK (W w : World) (g : Nat) : Prop := W.heap.size ≤ g ∧ w.heap[g]? = some (.cells #[.bool false] 4 (0, 0))
section
variable {w w1 W : World} {rb : Nat} {sv lt : Int} {vs vg v : Value}
theorem rdrB_0 (h : RdrB w rb sv lt vs vg) : w.cell? ⟨rb, 0, none⟩ = some (.int .i64 sv) := (bq_ h 0).trans rfl
theorem rdrB_1 (h : RdrB w rb sv lt vs vg) : w.cell? ⟨rb, 1, none⟩ = some (.int .u32 lt) := (bq_ h 1).trans rfl
theorem rdrB_2 (h : RdrB w rb sv lt vs vg) : w.cell? ⟨rb, 2, none⟩ = some vs := (bq_ h 2).trans rfl
theorem rdrB_3 (h : RdrB w rb sv lt vs vg) : w.cell? ⟨rb, 3, none⟩ = some vg := (bq_ h 3).trans rfl
theorem rdrB_set2 (h : RdrB w rb sv lt vs vg) (v : Value) : RdrB (w.setCell ⟨rb, 2, none⟩ v) rb sv lt v vg := (blk_set h 2 v).trans rfl
theorem rdrB_set3 (h : RdrB w rb sv lt vs vg) (v : Value) : RdrB (w.setCell ⟨rb, 3, none⟩ v) rb sv lt vs v := (blk_set h 3 v).trans rfl
theorem le_alloc {n : Nat} (h : n ≤ w.heap.size) (o : Obj) : n ≤ (w.alloc o).heap.size := by simp; omega
theorem le_set {n : Nat} (h : n ≤ w.heap.size) (p : Addr) (v : Value) : n ≤ (w.setCell p v).heap.size := by simpa using h
end
def RS (rb : Nat) (vs vg : Value) : Nat → Prop := fun k => some k = vs.ownBlock ∨ some k = vg.ownBlock ∨ k = rb
structure Two (w0 W0 : World) (rb : Nat) (vs vg : Value) (w : World) (v1 : Value) (l1 : List Bool) (v2 : Value) (l2 : List Bool) : Prop where
 o1 : w.ownsRow w0.heap.size 4 1 v1 l1.length (encs Value.bool l1)
 o2 : w.ownsRow w0.heap.size 4 1 v2 l2.length (encs Value.bool l2)
 ne : v1.ownBlock = none ∨ v1.ownBlock ≠ v2.ownBlock
 kp : Kept W0 w (RS rb vs vg)
 n1 : ∀ k, v1.ownBlock = some k → some k = vs.ownBlock ∨ W0.heap.size ≤ k
 n2 : ∀ k, v2.ownBlock = some k → some k = vg.ownBlock ∨ W0.heap.size ≤ k
 lt1 : ∀ k, vs.ownBlock = some k → k < W0.heap.size
 lt2 : ∀ k, vg.ownBlock = some k → k < W0.heap.size
 rl : rb < W0.heap.size
 r1 : some rb ≠ vs.ownBlock
 r2 : some rb ≠ vg.ownBlock
 bl : Below w0.heap.size w0 w
 rb0 : w0.heap.size ≤ rb
section
variable {w0 W0 w w1 : World} {rb g cap : Nat} {sv lt : Int} {vs vg v1 v2 x y v : Value} {l1 l2 : List Bool}
theorem Two.le (h : Two w0 W0 rb vs vg w v1 l1 v2 l2) : W0.heap.size ≤ w.heap.size := h.kp.1
theorem Two.rb1 (h : Two w0 W0 rb vs vg w v1 l1 v2 l2) : some rb ≠ v1.ownBlock := fun e => by
 rcases h.n1 rb e.symm with h1 | h1
 ·exact h.r1 h1
 ·have := h.rl; omega
theorem Two.rb2 (h : Two w0 W0 rb vs vg w v1 l1 v2 l2) : some rb ≠ v2.ownBlock := fun e => by
 rcases h.n2 rb e.symm with h1 | h1
 ·exact h.r2 h1
 ·have := h.rl; omega
theorem Two.step (h : Two w0 W0 rb vs vg w v1 l1 v2 l2) (hk : Kept w w1 (fun k => k = rb)) (hb : Below w0.heap.size w0 w1) : Two w0 W0 rb vs vg w1 v1 l1 v2 l2 :=
 { h with
  o1 := own_move h.o1 (fun k hk1 => hk.2 k (own_lt h.o1 k hk1) (fun e => h.rb1 (by rw [hk1, e])))
  o2 := own_move h.o2 (fun k hk1 => hk.2 k (own_lt h.o2 k hk1) (fun e => h.rb2 (by rw [hk1, e])))
  kp := h.kp.then_ hk (fun k e => .inl (.inr (.inr e)))
  bl := hb }
theorem Two.alloc (h : Two w0 W0 rb vs vg w v1 l1 v2 l2) (o : Obj) : Two w0 W0 rb vs vg (w.alloc o) v1 l1 v2 l2 :=
 h.step ((Kept.refl w _).alloc o) (below_alloc h.bl _)
theorem Two.drew (h : Two w0 W0 rb vs vg w v1 l1 v2 l2) : Two w0 W0 rb vs vg w.drew v1 l1 v2 l2 := h.step ((Kept.refl w _).drew) (below_drew1 h.bl)
theorem Two.setR (h : Two w0 W0 rb vs vg w v1 l1 v2 l2) (j : Nat) (v : Value) : Two w0 W0 rb vs vg (w.setCell ⟨rb, j, none⟩ v) v1 l1 v2 l2 :=
 h.step (Kept.setCell (p := ⟨rb, j, none⟩) (Kept.refl w (fun k => k = rb)) (.inl rfl) v) (h.bl.setCell h.rb0 v)
theorem encs_snoc (l : List Bool) (b : Bool) : encs Value.bool (l ++ [b]) = encs Value.bool l ++ [.bool b] := by simp [encs]
theorem Two.app1 (h : Two w0 W0 rb vs vg w vs l1 v2 l2) (ho : w1.ownsRow w0.heap.size 4 1 (.slice (some ⟨g, 0, none⟩) (l1.length + 1) cap) (l1.length + 1) (encs Value.bool l1 ++ [.bool false])) (hg : w.grownBy w1 vs.ownBlock) (hat : vs.ownBlock = some g ∨ g = w.heap.size) :
  Two w0 W0 rb vs vg w1 (.slice (some ⟨g, 0, none⟩) (l1.length + 1) cap) (l1 ++ [false]) v2 l2 := by
 have hob : (Value.slice (some ⟨g, 0, none⟩) (l1.length + 1) cap).ownBlock = some g := rfl
 refine { h with o1 := ?_, o2 := ?_, ne := ?_, kp := ?_, n1 := ?_, bl := ?_ }
 ·rw [encs_snoc, List.length_append]; exact ho
 ·refine own_move h.o2 (fun k hk => hg.block k (own_lt h.o2 k hk) (fun e => ?_))
  rcases h.ne with h1 | h1
  ·rw [h1] at e; cases e
  ·exact h1 (by rw [← e, hk])
 ·refine .inr (fun e => ?_)
  rw [hob] at e
  have h2 := own_lt h.o2 g e.symm
  rcases hat with h1 | h1
  ·rcases h.ne with h3 | h3
   ·rw [h3] at h1; cases h1
   ·exact h3 (by rw [h1, e])
  ·omega
 ·exact Kept.of_grown hg h.kp (fun k hk => .inl (.inl hk.symm))
 ·intro k hk
  rw [hob] at hk
  injection hk with hk
  subst hk
  rcases hat with h1 | h1
  ·exact .inl h1.symm
  ·right; have := h.le; omega
 ·exact pw_below_grown h.bl _ h.bl.size hg (own_base h.o1)
theorem Two.app2 (h : Two w0 W0 rb vs vg w v1 l1 vg l2) (ho : w1.ownsRow w0.heap.size 4 1 (.slice (some ⟨g, 0, none⟩) (l2.length + 1) cap) (l2.length + 1) (encs Value.bool l2 ++ [.bool false])) (hg : w.grownBy w1 vg.ownBlock) (hat : vg.ownBlock = some g ∨ g = w.heap.size) :
  Two w0 W0 rb vs vg w1 v1 l1 (.slice (some ⟨g, 0, none⟩) (l2.length + 1) cap) (l2 ++ [false]) := by
 have hob : (Value.slice (some ⟨g, 0, none⟩) (l2.length + 1) cap).ownBlock = some g := rfl
 refine { h with o1 := ?_, o2 := ?_, ne := ?_, kp := ?_, n2 := ?_, bl := ?_ }
 ·refine own_move h.o1 (fun k hk => hg.block k (own_lt h.o1 k hk) (fun e => ?_))
  rcases h.ne with h1 | h1
  ·rw [h1] at hk; cases hk
  ·exact h1 (by rw [hk, e])
 ·rw [encs_snoc, List.length_append]; exact ho
 ·rcases h.ne with h1 | h1
  ·exact .inl h1
  ·refine .inr (fun e => ?_)
   rw [hob] at e
   have h2 := own_lt h.o1 g e
   rcases hat with h3 | h3
   ·exact h1 (by rw [e, h3])
   ·omega
 ·exact Kept.of_grown hg h.kp (fun k hk => .inl (.inr (.inl hk.symm)))
 ·intro k hk
  rw [hob] at hk
  injection hk with hk
  subst hk
  rcases hat with h1 | h1
  ·exact .inl h1.symm
  ·right; have := h.le; omega
 ·exact pw_below_grown h.bl _ h.bl.size hg (own_base h.o2)
theorem Two.keepB1 (h : Two w0 W0 rb vs vg w vs l1 v2 l2) (hb : BK W0 w g) (hg : w.grownBy w1 vs.ownBlock) : BK W0 w1 g :=
 ⟨hb.1, bg_ hb.2 hg (fun e => by have := h.lt1 g e.symm; have := hb.1; omega)⟩
theorem Two.keepR1 (h : Two w0 W0 rb vs vg w vs l1 v2 l2) (hb : RdrB w rb sv lt x y) (hg : w.grownBy w1 vs.ownBlock) : RdrB w1 rb sv lt x y := bg_ hb hg h.r1
theorem Two.keepR2 (h : Two w0 W0 rb vs vg w v1 l1 vg l2) (hb : RdrB w rb sv lt x y) (hg : w.grownBy w1 vg.ownBlock) : RdrB w1 rb sv lt x y := bg_ hb hg h.r2
end
structure Rdr (w0 w : World) (rb : Nat) (sv lt : Int) (said good : List Bool) (vs vg : Value) : Prop where
 blk : RdrB w rb sv lt vs vg
 o1 : w.ownsRow w0.heap.size 4 1 vs said.length (encs Value.bool said)
 o2 : w.ownsRow w0.heap.size 4 1 vg good.length (encs Value.bool good)
 ne : vs.ownBlock = none ∨ vs.ownBlock ≠ vg.ownBlock
 bl : Below w0.heap.size w0 w
 rb0 : w0.heap.size ≤ rb
structure Fr (w : World) (rb : Nat) (vs vg : Value) (w' : World) (v1 v2 : Value) : Prop where
 kp : Kept w w' (RS rb vs vg)
 n1 : ∀ k, v1.ownBlock = some k → some k = vs.ownBlock ∨ w.heap.size ≤ k
 n2 : ∀ k, v2.ownBlock = some k → some k = vg.ownBlock ∨ w.heap.size ≤ k
section
variable {w0 w w1 w2 : World} {rb g : Nat} {sv lt : Int} {vs vg v1 v2 x y v : Value} {l1 l2 said good : List Bool}
theorem Fr.refl (w : World) (rb : Nat) (vs vg : Value) : Fr w rb vs vg w vs vg := ⟨Kept.refl _ _, fun _ h => .inl h.symm, fun _ h => .inl h.symm⟩
theorem Fr.trans (h : Fr w rb vs vg w1 v1 v2) (k : Fr w1 rb v1 v2 w2 x y) : Fr w rb vs vg w2 x y := by
 have hle := h.kp.1
 refine ⟨h.kp.then_ k.kp ?_, ?_, ?_⟩
 ·rintro j (e | e | e)
  ·rcases h.n1 j e.symm with h1 | h1
   ·exact .inl (.inl h1)
   ·exact .inr h1
  ·rcases h.n2 j e.symm with h1 | h1
   ·exact .inl (.inr (.inl h1))
   ·exact .inr h1
  ·exact .inl (.inr (.inr e))
 ·intro j e
  rcases k.n1 j e with h1 | h1
  ·exact h.n1 j h1.symm
  ·exact .inr (by omega)
 ·intro j e
  rcases k.n2 j e with h1 | h1
  ·exact h.n2 j h1.symm
  ·exact .inr (by omega)
theorem Fr.alloc (h : Fr w rb vs vg w1 v1 v2) (o : Obj) : Fr w rb vs vg (w1.alloc o) v1 v2 := ⟨h.kp.alloc o, h.n1, h.n2⟩
theorem Fr.drewN (h : Fr w rb vs vg w1 v1 v2) (m : Nat) : Fr w rb vs vg (w1.drewN m) v1 v2 := ⟨h.kp.drewN m, h.n1, h.n2⟩
theorem Rdr.rne1 (h : Rdr w0 w rb sv lt said good vs vg) : some rb ≠ vs.ownBlock := fun e => by
 obtain ⟨cs, hc⟩ := own_typed h.o1 rb e.symm
 exact blk_ne h.blk hc (by decide) rfl
theorem Rdr.rne2 (h : Rdr w0 w rb sv lt said good vs vg) : some rb ≠ vg.ownBlock := fun e => by
 obtain ⟨cs, hc⟩ := own_typed h.o2 rb e.symm
 exact blk_ne h.blk hc (by decide) rfl
theorem Rdr.below (h : Rdr w0 w rb sv lt said good vs vg) (hb : Below w.heap.size w w1) : Rdr w0 w1 rb sv lt said good vs vg :=
 { h with
  blk := (hb.block _ (blk_lt h.blk)).trans h.blk
  o1 := own_move h.o1 (fun k hk => hb.block k (own_lt h.o1 k hk))
  o2 := own_move h.o2 (fun k hk => hb.block k (own_lt h.o2 k hk))
  bl := h.bl.trans (hb.mono h.bl.size) }
theorem Rdr.alloc (h : Rdr w0 w rb sv lt said good vs vg) (o : Obj) : Rdr w0 (w.alloc o) rb sv lt said good vs vg := h.below (below_alloc (Below.refl _ _) _)
theorem Rdr.drewN (h : Rdr w0 w rb sv lt said good vs vg) (m : Nat) : Rdr w0 (w.drewN m) rb sv lt said good vs vg := h.below (pd_ (Below.refl _ _) _)
theorem Rdr.two (h : Rdr w0 w rb sv lt said good vs vg) : Two w0 w rb vs vg w vs said vg good :=
 { o1 := h.o1, o2 := h.o2, ne := h.ne, kp := Kept.refl _ _, n1 := fun _ e => .inl e.symm, n2 := fun _ e => .inl e.symm, lt1 := own_lt h.o1, lt2 := own_lt h.o2, rl := blk_lt h.blk, r1 := h.rne1, r2 := h.rne2, bl := h.bl, rb0 := h.rb0 }
theorem Two.rdr (h : Two w0 w rb vs vg w1 v1 l1 v2 l2) (hb : RdrB w1 rb sv lt v1 v2) : Rdr w0 w1 rb sv lt l1 l2 v1 v2 ∧ Fr w rb vs vg w1 v1 v2 :=
 ⟨{ blk := hb, o1 := h.o1, o2 := h.o2, ne := h.ne, bl := h.bl, rb0 := h.rb0 }, ⟨h.kp, h.n1, h.n2⟩⟩
theorem Fr.box (h : Fr w rb vs vg w1 v1 v2) (hR : Rdr w0 w rb sv lt said good vs vg) {o : Obj} (hb : w.heap[g]? = some o) (h1 : some g ≠ vs.ownBlock) (h2 : some g ≠ vg.ownBlock) (h3 : g ≠ rb) : w1.heap[g]? = some o :=
 blk_kept hb h.kp (by rintro (e | e | e) <;> contradiction)
end
theorem own_form {w : World} {base : Nat} {v : Value} {l : List Bool} (h : w.ownsRow base 4 1 v l.length (encs Value.bool l)) : ∃ A c, v = .slice A l.length c ∧ l.length ≤ c := by
 rcases h.2 with ⟨rfl, h0⟩ | ⟨g, cap, cur, rfl, _, _, hc, _⟩
 ·exact ⟨none, 0, by rw [h0], by omega⟩
 ·exact ⟨_, _, rfl, hc⟩
theorem own_put {w : World} {base k : Nat} {v : Value} {l : List Bool} (h : w.ownsRow base 4 1 v l.length (encs Value.bool l)) (hk : k < l.length) :
  ∃ g c, v = .slice (some ⟨g, 0, none⟩) l.length c ∧ base ≤ g ∧ l.length ≤ c ∧ w.cell? ⟨g, k, none⟩ = some (.bool (l.getD k false)) ∧ w.frozen? ⟨g, k, none⟩ = false ∧ ∀ b, (w.setCell ⟨g, k, none⟩ (.bool b)).ownsRow base 4 1 v (l.set k b).length (encs Value.bool (l.set k b)) := by
 rcases h.2 with ⟨_, h0⟩ | ⟨g, cap, cur, rfl, hb, hh, hc, hm, hs, ht⟩
 ·omega
 ·have hkc : k < cur.size := by omega
  have hcell : cur[k]? = some (.bool (l.getD k false)) := by
   have h1 : (cur.toList.take (l.length * 1))[k]? = some (.bool (l.getD k false)) := by rw [ht]; simp [encs, hk]
   rw [List.getElem?_take_of_lt (by omega)] at h1
   simpa using h1
  refine ⟨g, cap, rfl, hb, hc, (bq_ hh k).trans hcell, bz_ hh k, fun b => ⟨by simp [encs], .inr ⟨g, cap, cur.setIfInBounds k (.bool b), by simp, hb, blk_set hh k _, by simpa using hc, hm, by simpa using hs, ?_⟩⟩⟩
  rw [Array.toList_setIfInBounds, List.length_set, List.take_set, ht]
  simp [encs, List.map_set]
theorem Rdr.put {w0 w : World} {rb k : Nat} {sv lt : Int} {sd gd : List Bool} {x1 x2 : Value} (h : Rdr w0 w rb sv lt sd gd x1 x2) (h1 : k < sd.length) (h2 : k < gd.length) :
  ∃ g1 c1 g2 c2, x1 = .slice (some ⟨g1, 0, none⟩) sd.length c1 ∧ x2 = .slice (some ⟨g2, 0, none⟩) gd.length c2 ∧ g1 ≠ g2 ∧ w.cell? ⟨g1, k, none⟩ = some (.bool (sd.getD k false)) ∧ w.frozen? ⟨g1, k, none⟩ = false ∧ w.cell? ⟨g2, k, none⟩ = some (.bool (gd.getD k false)) ∧ w.frozen? ⟨g2, k, none⟩ = false ∧
   ∀ a b, Rdr w0 ((w.setCell ⟨g1, k, none⟩ (.bool a)).setCell ⟨g2, k, none⟩ (.bool b)) rb sv lt (sd.set k a) (gd.set k b) x1 x2 ∧ Fr w rb x1 x2 ((w.setCell ⟨g1, k, none⟩ (.bool a)).setCell ⟨g2, k, none⟩ (.bool b)) x1 x2 := by
 obtain ⟨g1, c1, e1, b1, l1, p1, q1, s1⟩ := own_put h.o1 h1
 obtain ⟨g2, c2, e2, b2, l2, p2, q2, s2⟩ := own_put h.o2 h2
 have hb1 : x1.ownBlock = some g1 := by rw [e1]; rfl
 have hb2 : x2.ownBlock = some g2 := by rw [e2]; rfl
 have hne : g1 ≠ g2 := by
  rcases h.ne with h3 | h3
  ·rw [hb1] at h3; cases h3
  ·rw [hb1, hb2] at h3
   exact fun e => h3 (by rw [e])
 refine ⟨g1, c1, g2, c2, e1, e2, hne, p1, q1, p2, q2, fun a b => ⟨?_, ?_⟩⟩
 ·have r1 := h.rne1
  have r2 := h.rne2
  rw [hb1] at r1
  rw [hb2] at r2
  refine ⟨?_, ?_, ?_, h.ne, (h.bl.setCell b1 _).setCell b2 _, h.rb0⟩
  ·exact blk_far (p := ⟨g2, k, none⟩) (blk_far (p := ⟨g1, k, none⟩) h.blk (fun e => r1 (by rw [e])) _) (fun e => r2 (by rw [e])) _
  ·exact own_setCell (p := ⟨g2, k, none⟩) (s1 a) (by rw [hb1]; exact fun e => hne (by injection e with e; exact e.symm)) _
  ·have h3 : (w.setCell ⟨g1, k, none⟩ (.bool a)).ownsRow w0.heap.size 4 1 x2 gd.length (encs Value.bool gd) := own_setCell (p := ⟨g1, k, none⟩) h.o2 (by rw [hb2]; exact fun e => hne (by injection e)) _
   obtain ⟨g3, c3, e3, _, _, _, _, s3⟩ := own_put h3 h2
   rw [e2] at e3
   injection e3 with e3 _ _
   injection e3 with e3
   injection e3 with e3
   subst e3
   exact s3 b
 ·exact ⟨((Kept.refl w _).setCell (p := ⟨g1, k, none⟩) (.inl (.inl hb1.symm)) _).setCell (p := ⟨g2, k, none⟩) (.inl (.inr (.inl hb2.symm))) _, fun _ e => .inl e.symm, fun _ e => .inl e.symm⟩
theorem Rdr.putL {w0 w : World} {rb k : Nat} {sv lt : Int} {sd gd : List Bool} {x1 x2 : Value} (h : Rdr w0 w rb sv lt sd gd x1 x2) (h1 : k < sd.length) (h2 : k < gd.length) :
  ∃ g1 c1 g2 c2, x1 = .slice (some ⟨g1, 0, none⟩) sd.length c1 ∧ x2 = .slice (some ⟨g2, 0, none⟩) gd.length c2 ∧ g1 ≠ g2 ∧ w.cell? ⟨g1, k, none⟩ = some (.bool (sd.getD k false)) ∧ w.frozen? ⟨g1, k, none⟩ = false ∧ w.cell? ⟨g2, k, none⟩ = some (.bool (gd.getD k false)) ∧ w.frozen? ⟨g2, k, none⟩ = false ∧
   ∀ W, Below w.heap.size w W → ∀ a b, Rdr w0 ((W.setCell ⟨g1, k, none⟩ (.bool a)).setCell ⟨g2, k, none⟩ (.bool b)) rb sv lt (sd.set k a) (gd.set k b) x1 x2 ∧ Fr w rb x1 x2 ((W.setCell ⟨g1, k, none⟩ (.bool a)).setCell ⟨g2, k, none⟩ (.bool b)) x1 x2 := by
 obtain ⟨g1, c1, g2, c2, e1, e2, r⟩ := h.put h1 h2
 refine ⟨g1, c1, g2, c2, e1, e2, r.1, r.2.1, r.2.2.1, r.2.2.2.1, r.2.2.2.2.1, fun W hW a b => ?_⟩
 obtain ⟨g3, c3, g4, c4, e3, e4, s⟩ := (h.below hW).put h1 h2
 have q1 : g3 = g1 := by rw [e1] at e3; injection e3 with e3 _ _; injection e3 with e3; injection e3 with e3; exact e3.symm
 have q2 : g4 = g2 := by rw [e2] at e4; injection e4 with e4 _ _; injection e4 with e4; injection e4 with e4; exact e4.symm
 subst q1 q2
 have s2 := s.2.2.2.2.2 a b
 refine ⟨s2.1, ?_⟩
 have hF : Fr w rb x1 x2 W x1 x2 := ⟨Kept.of_below hW _, fun _ e => .inl e.symm, fun _ e => .inl e.symm⟩
 exact hF.trans s2.2
theorem set_mid (a b : List Bool) (x y : Bool) : (a ++ [x] ++ b).set a.length y = a ++ [y] ++ b := by
 rw [List.append_assoc, List.set_append_right _ _ (Nat.le_refl _), Nat.sub_self]
 simp
def rowOp (ls : List Int) (b : Nat) (op m : Int) (x y : List Bool) : List Bool :=
 if op = 2 then settleS (fun i _ => bitS (ls.getD i 0) m) ls.length b false
 else if op = 3 then settleS (fun i _ => !(x.getD i false)) ls.length b false
 else if op = 4 then settleS (fun i _ => x.getD i false && y.getD i false) ls.length b false
 else if op = 5 then settleS (fun i _ => x.getD i false || y.getD i false) ls.length b false
 else if op = 6 then settleS (fun i _ => x.getD (nextS ls.length b i) false) ls.length b false
 else if op = 7 then settleS (fun i nx => y.getD i false || x.getD i false && nx) ls.length b false
 else if op = 8 then settleS (fun i nx => y.getD i false && (x.getD i false || nx)) ls.length b true
 else settleS (fun _ _ => true) ls.length b false
mutual
def rowS (ls : List Int) (b : Nat) : S29 → List Bool
 | ⟨op, m, kids⟩ => rowOp ls b op m ((rowL ls b kids).getD 0 []) ((rowL ls b kids).getD 1 [])
def rowL (ls : List Int) (b : Nat) : List S29 → List (List Bool)
 | [] => []
 | k :: r => rowS ls b k :: rowL ls b r
end
theorem rowL_get (ls : List Int) (b : Nat) : ∀ (l : List S29) (i : Nat) (h : i < l.length), (rowL ls b l).getD i [] = rowS ls b (l[i]'h)
 | k :: r, 0, h => by simp [rowL]
 | k :: r, i + 1, h => by
  have := rowL_get ls b r i (by simpa using h)
  simpa [rowL] using this
theorem len_settle (f : Nat → Bool → Bool) (n b : Nat) (first : Bool) : (settleS f n b first).length = n := by simp [settleS, len_pass]
theorem len_rowOp (ls : List Int) (b : Nat) (op m : Int) (x y : List Bool) : (rowOp ls b op m x y).length = ls.length := by
 unfold rowOp
 repeat' split
 all_goals exact len_settle _ _ _ _
theorem len_row (ls : List Int) (b : Nat) (s : S29) : (rowS ls b s).length = ls.length := by
 obtain ⟨op, m, kids⟩ := s
 rw [rowS]
 exact len_rowOp _ _ _ _ _ _
theorem sound_mem : ∀ {l : List S29}, soundL l = true → ∀ (i : Nat) (h : i < l.length), soundS (l[i]'h) = true
 | k :: r, h, 0, _ => by simp only [soundL, Bool.and_eq_true] at h; exact h.1
 | k :: r, h, i + 1, hi => by simp only [soundL, Bool.and_eq_true] at h; exact sound_mem h.2 i (by simpa using hi)
theorem sound_kid {s : S29} (h : soundS s = true) (i : Nat) (hi : i < s.f2.length) : soundS (s.f2[i]'hi) = true := by
 obtain ⟨op, m, kids⟩ := s
 simp only [soundS, Bool.and_eq_true] at h
 exact sound_mem h.2.2.2.2 i hi
theorem sound_parts {s : S29} (h : soundS s = true) : 0 ≤ kidsS s.f0 ∧ (s.f2.length : Int) = kidsS s.f0 ∧ 0 ≤ s.f1 ∧ s.f1 ≤ mostS s.f0 := by
 obtain ⟨op, m, kids⟩ := s
 simp only [soundS, Bool.and_eq_true, decide_eq_true_eq] at h
 exact ⟨h.1, h.2.1, h.2.2.1, h.2.2.2.1⟩
theorem row_eq (ls : List Int) (b : Nat) (s : S29) : rowS ls b s = rowOp ls b s.f0 s.f1 ((rowL ls b s.f2).getD 0 []) ((rowL ls b s.f2).getD 1 []) := by cases s; rfl
theorem op_cases {op : Int} (h : 0 ≤ kidsS op) : op = 1 ∨ op = 2 ∨ op = 3 ∨ op = 4 ∨ op = 5 ∨ op = 6 ∨ op = 7 ∨ op = 8 := by
 unfold kidsS at h
 split at h
 ·omega
 ·split at h
  ·omega
  ·split at h
   ·omega
   ·omega
def RowAt (ls : List Int) (b : Nat) (s : S29) : Prop := ∀ (rb : Nat) (A : Option Addr) (c n : Nat) (A2 : Option Addr) (cp : Nat) (w : World), ls.length = n → IsRower w rb A n c b → Kd.C (Kd.int .u32) w A n ls → 0 < n → n < 1000000000 → b < n → Kd.C k29 w A2 s.f2.length s.f2 → s.f2.length ≤ cp → soundS s = true →
 Calls Try.prog 55 #[.pointer (some ⟨rb, 0, none⟩), .agg #[.int .i64 s.f0, .int .i64 s.f1, .slice A2 s.f2.length cp]] w fun e w' => ∃ g, e = .returned (.slice (some ⟨g, 0, none⟩) n n) ∧ w.heap.size ≤ g ∧ BRow w' g (rowS ls b s) ∧ Below w.heap.size w w'
def rowBoxes (w : World) (rb : Nat) (op m : Int) (A2 : Option Addr) (len cp : Nat) : World :=
 (((w.alloc (.cells #[.pointer (some ⟨rb, 0, none⟩)] 92)).alloc (.cells #[.int .i64 op, .int .i64 m, .slice A2 len cp] 29)).alloc (.cells #[.slice none 0 0] 67)).alloc (.cells #[.slice none 0 0] 67)
structure RowSt (w wx : World) (rb : Nat) (op m : Int) (A2 : Option Addr) (len cp : Nat) (va vb : Value) : Prop where
 c0 : Cell1 wx w.heap.size (.pointer (some ⟨rb, 0, none⟩)) 92
 c1 : wx.heap[w.heap.size + 1]? = some (.cells #[.int .i64 op, .int .i64 m, .slice A2 len cp] 29 (0, 0))
 c2 : Cell1 wx (w.heap.size + 1 + 1) va 67
 c3 : Cell1 wx (w.heap.size + 1 + 1 + 1) vb 67
 bl : Below w.heap.size w wx
 sz : w.heap.size + 1 + 1 + 1 + 1 ≤ wx.heap.size
theorem RowSt.start (w : World) (rb : Nat) (op m : Int) (A2 : Option Addr) (len cp : Nat) : RowSt w (rowBoxes w rb op m A2 len cp) rb op m A2 len cp (.slice none 0 0) (.slice none 0 0) := by
 refine ⟨?_, ?_, ?_, ?_, ?_, ?_⟩
 ·exact ba_ (ba_ (ba_ (heap_alloc_new w _) _) _) _
 ·refine ba_ (ba_ ?_ _) _
  have := heap_alloc_new (w.alloc (.cells #[.pointer (some ⟨rb, 0, none⟩)] 92)) (.cells #[.int .i64 op, .int .i64 m, .slice A2 len cp] 29)
  simpa using this
 ·refine ba_ ?_ _
  have := heap_alloc_new ((w.alloc (.cells #[.pointer (some ⟨rb, 0, none⟩)] 92)).alloc (.cells #[.int .i64 op, .int .i64 m, .slice A2 len cp] 29)) (.cells #[.slice none 0 0] 67)
  simpa using this
 ·have := heap_alloc_new (((w.alloc (.cells #[.pointer (some ⟨rb, 0, none⟩)] 92)).alloc (.cells #[.int .i64 op, .int .i64 m, .slice A2 len cp] 29)).alloc (.cells #[.slice none 0 0] 67)) (.cells #[.slice none 0 0] 67)
  simpa [Cell1, rowBoxes] using this
 ·exact below_alloc (below_alloc (below_alloc (below_alloc (Below.refl _ _) _) _) _) _
 ·simp [rowBoxes]
theorem RowSt.next {w wx w' : World} {rb : Nat} {op m : Int} {A2 : Option Addr} {len cp : Nat} {va vb : Value} (h : RowSt w wx rb op m A2 len cp va vb) (hB : Below wx.heap.size wx w') : RowSt w w' rb op m A2 len cp va vb :=
 ⟨(hB.block _ (blk_lt h.c0)).trans h.c0, (hB.block _ (blk_lt h.c1)).trans h.c1, (hB.block _ (blk_lt h.c2)).trans h.c2, (hB.block _ (blk_lt h.c3)).trans h.c3, h.bl.trans (hB.mono h.bl.size), Nat.le_trans h.sz hB.size⟩
theorem RowSt.setA {w wx : World} {rb : Nat} {op m : Int} {A2 : Option Addr} {len cp : Nat} {va vb : Value} (h : RowSt w wx rb op m A2 len cp va vb) (v : Value) : RowSt w (wx.setCell ⟨w.heap.size + 1 + 1, 0, none⟩ v) rb op m A2 len cp v vb :=
 ⟨blk_far h.c0 (by first | (simp; done) | (simp; omega) | omega) v, blk_far h.c1 (by first | (simp; done) | (simp; omega) | omega) v, (blk_set h.c2 0 v).trans (by simp), blk_far h.c3 (by first | (simp; done) | (simp; omega) | omega) v, h.bl.setCell (by first | (simp; done) | (simp; omega) | omega) v, by simpa using h.sz⟩
theorem RowSt.setB {w wx : World} {rb : Nat} {op m : Int} {A2 : Option Addr} {len cp : Nat} {va vb : Value} (h : RowSt w wx rb op m A2 len cp va vb) (v : Value) : RowSt w (wx.setCell ⟨w.heap.size + 1 + 1 + 1, 0, none⟩ v) rb op m A2 len cp va v :=
 ⟨blk_far h.c0 (by first | (simp; done) | (simp; omega) | omega) v, blk_far h.c1 (by first | (simp; done) | (simp; omega) | omega) v, blk_far h.c2 (by first | (simp; done) | (simp; omega) | omega) v, (blk_set h.c3 0 v).trans (by simp), h.bl.setCell (by first | (simp; done) | (simp; omega) | omega) v, by simpa using h.sz⟩
def RowIs (w wx : World) (n : Nat) (v : Value) (x : List Bool) : Prop := ∃ ga, v = .slice (some ⟨ga, 0, none⟩) n n ∧ w.heap.size + 1 + 1 + 1 + 1 ≤ ga ∧ BRow wx ga x ∧ x.length = n
theorem RowIs.next {w wx w' : World} {n : Nat} {v : Value} {x : List Bool} (h : RowIs w wx n v x) (hB : Below wx.heap.size wx w') : RowIs w w' n v x := by
 obtain ⟨ga, h1, h2, h3, h4⟩ := h
 exact ⟨ga, h1, h2, (hB.block _ (blk_lt h3)).trans h3, h4⟩
theorem RowIs.set_ {w wx : World} {n : Nat} {v : Value} {x : List Bool} (h : RowIs w wx n v x) {p : Addr} (hp : p.block < w.heap.size + 1 + 1 + 1 + 1) (u : Value) : RowIs w (wx.setCell p u) n v x := by
 obtain ⟨ga, h1, h2, h3, h4⟩ := h
 exact ⟨ga, h1, h2, blk_far h3 (by omega) u, h4⟩
theorem row_calls (ls : List Int) (b : Nat) (s : S29) (ih : ∀ k ∈ s.f2, RowAt ls b k) : RowAt ls b s := by
 intro rb A c n A2 cp w hn hR hC h0 h1 hb hk hc hs
 have huF := Try.underlying29
 have huL := Try.underlying27
 have huR := Try.underlying95
 have hus := Try.underlying67
 have hmf : ∀ fn first cap w, (Instr.makeFunc fn first cap).run Try.prog w = .ok (.func fn first cap) w := fun _ _ _ _ => rfl
 have hst := RowSt.start w rb s.f0 s.f1 A2 s.f2.length cp
 have HR := Zd.mk hR
 have HK := Zd.mk hk
 have HC := Zd.mk hC
 have HS := Zd.mk hs
 have HIH := Zd.mk (fun (i : Nat) (hi : i < s.f2.length) W (hB : Below w.heap.size w W) => fun A3 c3 hk3 hc3 => ih (s.f2[i]'hi) (List.getElem_mem hi) rb A c n A3 c3 W hn ((hB.block _ (blk_lt hR)).trans hR) (Kd.C_below hC hB) h0 h1 hb hk3 hc3 (sound_kid hs i hi))
 have hlen := Kd.C_max hk
 clear hR hC hk hs ih
 go_enter Try.func55, Try.ntmps55
 go_upto_if 10 with fail
 change Code.wp _ _ _ _ (rowBoxes w rb s.f0 s.f1 A2 s.f2.length cp)
 generalize rowBoxes w rb s.f0 s.f1 A2 s.f2.length cp = W4 at *
 have HST := Zd.mk hst
 go_cut [] (fun wx => ∃ va x, Zd (RowSt w wx rb s.f0 s.f1 A2 s.f2.length cp va (.slice none 0 0)) ∧ Zd (0 < s.f2.length → RowIs w wx n va x ∧ x = (rowL ls b s.f2).getD 0 []))
 case first =>
  by_cases hl : 0 < s.f2.length
  ·obtain ⟨ad, A3, c3, hA, hx0, hx1, hx2, hl2, hk2⟩ := kid_at HK.out hst.bl 0 hl hl
   subst hA
   have e0 : ad.add (0 * 3) = ad := by cases ad; simp [Addr.add]
   rw [e0] at hx0 hx1 hx2
   have HK2 := Zd.mk (Kd.C_below hk2 hst.bl)
   have HL2 := Zd.mk hl2
   have xp0 := cell1 hst.c0
   have xp1 : W4.cell? ⟨w.heap.size + 1, 2, none⟩ = some (.slice (some ad) s.f2.length cp) := (bq_ hst.c1 2).trans rfl
   have fp2 := bz_ hst.c2 0
   have xp2 := cell1 hst.c2
   clear hst hk2 hl2
   go_upto_region 3 with fail
   have HCALL := Zd.mk (HIH.out 0 hl W4.drew (below_drew1 HST.out.bl) A3 c3 (Kd.C_drew HK2.out) HL2.out)
   have HD := Zd.mk (HST.out.next (below_drew1 (Below.refl _ _)))
   have HDZ := Zd.mk HST.out.sz
   go_region_with (go_at_call 55; refine HCALL.out.mono ?_; rintro e w5 ⟨g, rfl, hg, hG, hB⟩; have HS5 := Zd.mk (HD.out.next hB); have HG := Zd.mk hG; have HGG := Zd.mk (show W4.heap.size ≤ g from hg); have xq2 := cell1 HS5.out.c2; have fq2 := bz_ HS5.out.c2 0; clear hG hB hg)
   all_goals (
    go_wp2_with fail
    go_meet
    exact ⟨_, rowS ls b (s.f2[0]'hl), ⟨HS5.out.setA _⟩, ⟨fun _ => ⟨RowIs.set_ ⟨g, rfl, Nat.le_trans HDZ.out HGG.out, HG.out, (len_row _ _ _).trans hn⟩ (by simp) _, (rowL_get ls b s.f2 0 hl).symm⟩⟩⟩)
  ·have hd : decide (0 < s.f2.length) = false := decide_eq_false hl
   go_wp2
   go_meet
   exact ⟨_, [], HST, ⟨fun h => absurd h hl⟩⟩
 case rest =>
  obtain ⟨va, x, HST2, HX⟩ := hcut
  have x1l : wc.cell? ⟨w.heap.size + 1, 2, none⟩ = some (.slice A2 s.f2.length cp) := (bq_ HST2.out.c1 2).trans rfl
  clear hst HST
  go_upto_if 20 with fail
  go_cut [] (fun wx => ∃ vb y, Zd (RowSt w wx rb s.f0 s.f1 A2 s.f2.length cp va vb) ∧ Zd (0 < s.f2.length → RowIs w wx n va x ∧ x = (rowL ls b s.f2).getD 0 []) ∧ Zd (1 < s.f2.length → RowIs w wx n vb y ∧ y = (rowL ls b s.f2).getD 1 []))
  case first =>
   by_cases hl : 1 < s.f2.length
   ·obtain ⟨ad, A3, c3, hA, hx0, hx1, hx2, hl2, hk2⟩ := kid_at HK.out HST2.out.bl 1 hl hl
    subst hA
    simp only [Nat.one_mul] at hx0 hx1 hx2
    have hx1a : wc.cell? ⟨ad.block, ad.off + 3 + 1, none⟩ = some (.int .i64 (s.f2[1]'hl).f1) := hx1
    have hx2a : wc.cell? ⟨ad.block, ad.off + 3 + 2, none⟩ = some (.slice A3 (s.f2[1]'hl).f2.length c3) := hx2
    have hx0a : wc.cell? ⟨ad.block, ad.off + 3, none⟩ = some (.int .i64 (s.f2[1]'hl).f0) := hx0
    have HK2 := Zd.mk (Kd.C_below hk2 HST2.out.bl)
    have HL2 := Zd.mk hl2
    have xp0 := cell1 HST2.out.c0
    have fp3 := bz_ HST2.out.c3 0
    have xp3 := cell1 HST2.out.c3
    clear hk2 hl2
    have HCALL := Zd.mk (HIH.out 1 hl wc.drew (below_drew1 HST2.out.bl) A3 c3 (Kd.C_drew HK2.out) HL2.out)
    have HD := Zd.mk (HST2.out.next (below_drew1 (Below.refl _ _)))
    have HDZ := Zd.mk HST2.out.sz
    go_upto_region 5 with fail
    go_region_with (go_at_call 55; refine HCALL.out.mono ?_; rintro e w5 ⟨g, rfl, hg, hG, hB⟩; have HS5 := Zd.mk (HD.out.next hB); have HX5 := Zd.mk (fun h => And.intro ((HX.out h).1.next ((below_drew1 (Below.refl _ _)).trans hB)) (HX.out h).2); have HG := Zd.mk hG; have HGG := Zd.mk (show wc.heap.size ≤ g from hg); have xq2 := cell1 HS5.out.c3; have fq2 := bz_ HS5.out.c3 0; clear hG hB hg)
    all_goals (
     go_wp2_with fail
     go_meet
     exact ⟨_, rowS ls b (s.f2[1]'hl), ⟨HS5.out.setB _⟩, ⟨fun h => ⟨(HX5.out h).1.set_ (by simp) _, (HX5.out h).2⟩⟩, ⟨fun _ => ⟨RowIs.set_ ⟨g, rfl, Nat.le_trans HDZ.out HGG.out, HG.out, (len_row _ _ _).trans hn⟩ (by simp) _, (rowL_get ls b s.f2 1 hl).symm⟩⟩⟩)
   ·have hd : decide (1 < s.f2.length) = false := decide_eq_false hl
    go_wp2
    go_meet
    exact ⟨_, [], HST2, HX, ⟨fun h => absurd h hl⟩⟩
  case rest =>
   obtain ⟨vb, y, HST3, HXX, HYY⟩ := hcut
   have hpart := sound_parts HS.out
   have hRw : IsRower wc rb A n c b := (HST3.out.bl.block _ (blk_lt HR.out)).trans HR.out
   have hCw := Kd.C_below HC.out HST3.out.bl
   have hc1 := HST3.out.c1
   have x00 := cell1 HST3.out.c0
   have x0 : wc.cell? ⟨w.heap.size + 1, 0, none⟩ = some (.int .i64 s.f0) := (bq_ HST3.out.c1 0).trans rfl
   clear HST2 HX x1l HIH HK
   rcases op_cases hpart.1 with hop | hop | hop | hop | hop | hop | hop | hop
   ·-- op 1
    have hkk := hpart.2.1
    have hmm := hpart.2.2.2
    rw [hop] at hkk hmm x0
    have hrow : rowS ls b s = settleS (fun _ _ => true) n b false := by
     rw [row_eq, hop]
     unfold rowOp
     rw [if_neg (by decide), if_neg (by decide), if_neg (by decide), if_neg (by decide), if_neg (by decide), if_neg (by decide), if_neg (by decide)]
     rw [hn]
    have HE := Zd.mk (each_calls 84 #[] (enters_f Try.func84 (by kernel_rfl) rfl) (fun _ => true) rb A n c b wc hRw h0 h1 hb (fun W hW i hi => row8_calls i W))
    have HO := Zd.mk hrow
    clear hrow
    go_wp2_with (go_at_call 74; refine HE.out.mono ?_; rintro e w6 ⟨g, rfl, hg, hG, hB⟩; have HG := Zd.mk hG; have HB := Zd.mk hB; have HGS := Zd.mk hg; clear hG hB hg)
    go_ret
    exact ⟨g, rfl, Nat.le_trans HST3.out.bl.size HGS.out, by rw [HO.out]; exact HG.out, HST3.out.bl.trans (HB.out.mono HST3.out.bl.size)⟩
   ·-- op 2
    have hkk := hpart.2.1
    have hmm := hpart.2.2.2
    rw [hop] at hkk hmm x0
    have hrow : rowS ls b s = settleS (fun i _ => bitS (ls.getD i 0) s.f1) n b false := by
     rw [row_eq, hop]
     unfold rowOp
     rw [if_pos rfl]
     rw [hn]
    have hm2 : mostS 2 = 19 := by decide
    have HE := Zd.mk (each_calls 75 #[.pointer (some ⟨w.heap.size, 0, none⟩), .pointer (some ⟨(w.heap.size + 1), 0, none⟩)] (enters_f Try.func75 (by kernel_rfl) rfl) (fun i => bitS (ls.getD i 0) s.f1) rb A n c b wc hRw h0 h1 hb (fun W hW i hi => row1_calls w.heap.size (w.heap.size + 1) rb n c b i A A2 ls s.f0 s.f1 s.f2.length cp W ((hW.block _ (blk_lt HST3.out.c0)).trans HST3.out.c0) ((hW.block _ (blk_lt hRw)).trans hRw) (Kd.C_below hCw hW) ((hW.block _ (blk_lt hc1)).trans hc1) hi hpart.2.2.1 (by omega)))
    have HO := Zd.mk hrow
    clear hrow
    go_wp2_with (go_at_call 74; refine HE.out.mono ?_; rintro e w6 ⟨g, rfl, hg, hG, hB⟩; have HG := Zd.mk hG; have HB := Zd.mk hB; have HGS := Zd.mk hg; clear hG hB hg)
    go_ret
    exact ⟨g, rfl, Nat.le_trans HST3.out.bl.size HGS.out, by rw [HO.out]; exact HG.out, HST3.out.bl.trans (HB.out.mono HST3.out.bl.size)⟩
   ·-- op 3
    have hkk := hpart.2.1
    have hmm := hpart.2.2.2
    rw [hop] at hkk hmm x0
    have hrow : rowS ls b s = settleS (fun i _ => !(((rowL ls b s.f2).getD 0 []).getD i false)) n b false := by
     rw [row_eq, hop]
     unfold rowOp
     rw [if_neg (by decide), if_pos rfl]
     rw [hn]
    obtain ⟨⟨ga, rfl, hga, hA, hAl⟩, hxe⟩ := HXX.out (by have h9 : kidsS 3 = 1 := (by decide); omega)
    rw [← hxe] at hrow
    have HE := Zd.mk (each_calls 76 #[.pointer (some ⟨(w.heap.size + 1 + 1), 0, none⟩)] (enters_f Try.func76 (by kernel_rfl) rfl) (fun i => !(x.getD i false)) rb A n c b wc hRw h0 h1 hb (fun W hW i hi => row2_calls (w.heap.size + 1 + 1) ga n i x W ((hW.block _ (blk_lt HST3.out.c2)).trans HST3.out.c2) ((hW.block _ (blk_lt hA)).trans hA) hAl hi))
    have HO := Zd.mk hrow
    clear hrow
    go_wp2_with (go_at_call 74; refine HE.out.mono ?_; rintro e w6 ⟨g, rfl, hg, hG, hB⟩; have HG := Zd.mk hG; have HB := Zd.mk hB; have HGS := Zd.mk hg; clear hG hB hg)
    go_ret
    exact ⟨g, rfl, Nat.le_trans HST3.out.bl.size HGS.out, by rw [HO.out]; exact HG.out, HST3.out.bl.trans (HB.out.mono HST3.out.bl.size)⟩
   ·-- op 4
    have hkk := hpart.2.1
    have hmm := hpart.2.2.2
    rw [hop] at hkk hmm x0
    have hrow : rowS ls b s = settleS (fun i _ => ((rowL ls b s.f2).getD 0 []).getD i false && ((rowL ls b s.f2).getD 1 []).getD i false) n b false := by
     rw [row_eq, hop]
     unfold rowOp
     rw [if_neg (by decide), if_neg (by decide), if_pos rfl]
     rw [hn]
    obtain ⟨⟨ga, rfl, hga, hA, hAl⟩, hxe⟩ := HXX.out (by have h9 : kidsS 4 = 2 := (by decide); omega)
    rw [← hxe] at hrow
    obtain ⟨⟨gb, rfl, hgb, hBB, hBl⟩, hye⟩ := HYY.out (by have h9 : kidsS 4 = 2 := (by decide); omega)
    rw [← hye] at hrow
    have HE := Zd.mk (each_calls 77 #[.pointer (some ⟨(w.heap.size + 1 + 1), 0, none⟩), .pointer (some ⟨(w.heap.size + 1 + 1 + 1), 0, none⟩)] (enters_f Try.func77 (by kernel_rfl) rfl) (fun i => x.getD i false && y.getD i false) rb A n c b wc hRw h0 h1 hb (fun W hW i hi => row3_calls (w.heap.size + 1 + 1) (w.heap.size + 1 + 1 + 1) ga gb n i x y W ((hW.block _ (blk_lt HST3.out.c2)).trans HST3.out.c2) ((hW.block _ (blk_lt hA)).trans hA) hAl ((hW.block _ (blk_lt HST3.out.c3)).trans HST3.out.c3) ((hW.block _ (blk_lt hBB)).trans hBB) hBl hi))
    have HO := Zd.mk hrow
    clear hrow
    go_wp2_with (go_at_call 74; refine HE.out.mono ?_; rintro e w6 ⟨g, rfl, hg, hG, hB⟩; have HG := Zd.mk hG; have HB := Zd.mk hB; have HGS := Zd.mk hg; clear hG hB hg)
    go_ret
    exact ⟨g, rfl, Nat.le_trans HST3.out.bl.size HGS.out, by rw [HO.out]; exact HG.out, HST3.out.bl.trans (HB.out.mono HST3.out.bl.size)⟩
   ·-- op 5
    have hkk := hpart.2.1
    have hmm := hpart.2.2.2
    rw [hop] at hkk hmm x0
    have hrow : rowS ls b s = settleS (fun i _ => ((rowL ls b s.f2).getD 0 []).getD i false || ((rowL ls b s.f2).getD 1 []).getD i false) n b false := by
     rw [row_eq, hop]
     unfold rowOp
     rw [if_neg (by decide), if_neg (by decide), if_neg (by decide), if_pos rfl]
     rw [hn]
    obtain ⟨⟨ga, rfl, hga, hA, hAl⟩, hxe⟩ := HXX.out (by have h9 : kidsS 5 = 2 := (by decide); omega)
    rw [← hxe] at hrow
    obtain ⟨⟨gb, rfl, hgb, hBB, hBl⟩, hye⟩ := HYY.out (by have h9 : kidsS 5 = 2 := (by decide); omega)
    rw [← hye] at hrow
    have HE := Zd.mk (each_calls 78 #[.pointer (some ⟨(w.heap.size + 1 + 1), 0, none⟩), .pointer (some ⟨(w.heap.size + 1 + 1 + 1), 0, none⟩)] (enters_f Try.func78 (by kernel_rfl) rfl) (fun i => x.getD i false || y.getD i false) rb A n c b wc hRw h0 h1 hb (fun W hW i hi => row4_calls (w.heap.size + 1 + 1) (w.heap.size + 1 + 1 + 1) ga gb n i x y W ((hW.block _ (blk_lt HST3.out.c2)).trans HST3.out.c2) ((hW.block _ (blk_lt hA)).trans hA) hAl ((hW.block _ (blk_lt HST3.out.c3)).trans HST3.out.c3) ((hW.block _ (blk_lt hBB)).trans hBB) hBl hi))
    have HO := Zd.mk hrow
    clear hrow
    go_wp2_with (go_at_call 74; refine HE.out.mono ?_; rintro e w6 ⟨g, rfl, hg, hG, hB⟩; have HG := Zd.mk hG; have HB := Zd.mk hB; have HGS := Zd.mk hg; clear hG hB hg)
    go_ret
    exact ⟨g, rfl, Nat.le_trans HST3.out.bl.size HGS.out, by rw [HO.out]; exact HG.out, HST3.out.bl.trans (HB.out.mono HST3.out.bl.size)⟩
   ·-- op 6
    have hkk := hpart.2.1
    have hmm := hpart.2.2.2
    rw [hop] at hkk hmm x0
    have hrow : rowS ls b s = settleS (fun i _ => ((rowL ls b s.f2).getD 0 []).getD (nextS n b i) false) n b false := by
     rw [row_eq, hop]
     unfold rowOp
     rw [if_neg (by decide), if_neg (by decide), if_neg (by decide), if_neg (by decide), if_pos rfl]
     rw [hn]
    obtain ⟨⟨ga, rfl, hga, hA, hAl⟩, hxe⟩ := HXX.out (by have h9 : kidsS 6 = 1 := (by decide); omega)
    rw [← hxe] at hrow
    have HE := Zd.mk (each_calls 79 #[.pointer (some ⟨(w.heap.size + 1 + 1), 0, none⟩), .pointer (some ⟨w.heap.size, 0, none⟩)] (enters_f Try.func79 (by kernel_rfl) rfl) (fun i => x.getD (nextS n b i) false) rb A n c b wc hRw h0 h1 hb (fun W hW i hi => row5_calls (w.heap.size + 1 + 1) w.heap.size ga rb n c b i A x W ((hW.block _ (blk_lt HST3.out.c2)).trans HST3.out.c2) ((hW.block _ (blk_lt hA)).trans hA) hAl ((hW.block _ (blk_lt HST3.out.c0)).trans HST3.out.c0) ((hW.block _ (blk_lt hRw)).trans hRw) hb hi h1))
    have HO := Zd.mk hrow
    clear hrow
    go_wp2_with (go_at_call 74; refine HE.out.mono ?_; rintro e w6 ⟨g, rfl, hg, hG, hB⟩; have HG := Zd.mk hG; have HB := Zd.mk hB; have HGS := Zd.mk hg; clear hG hB hg)
    go_ret
    exact ⟨g, rfl, Nat.le_trans HST3.out.bl.size HGS.out, by rw [HO.out]; exact HG.out, HST3.out.bl.trans (HB.out.mono HST3.out.bl.size)⟩
   ·-- op 7
    have hkk := hpart.2.1
    have hmm := hpart.2.2.2
    rw [hop] at hkk hmm x0
    have hrow : rowS ls b s = settleS (fun i nx => ((rowL ls b s.f2).getD 1 []).getD i false || ((rowL ls b s.f2).getD 0 []).getD i false && nx) n b false := by
     rw [row_eq, hop]
     unfold rowOp
     rw [if_neg (by decide), if_neg (by decide), if_neg (by decide), if_neg (by decide), if_neg (by decide), if_pos rfl]
     rw [hn]
    obtain ⟨⟨ga, rfl, hga, hA, hAl⟩, hxe⟩ := HXX.out (by have h9 : kidsS 7 = 2 := (by decide); omega)
    rw [← hxe] at hrow
    obtain ⟨⟨gb, rfl, hgb, hBB, hBl⟩, hye⟩ := HYY.out (by have h9 : kidsS 7 = 2 := (by decide); omega)
    rw [← hye] at hrow
    have HE := Zd.mk (settle_calls 82 #[.pointer (some ⟨(w.heap.size + 1 + 1 + 1), 0, none⟩), .pointer (some ⟨(w.heap.size + 1 + 1), 0, none⟩)] (enters_f Try.func82 (by kernel_rfl) rfl) (fun i nx => y.getD i false || x.getD i false && nx) rb A n c b false wc hRw h0 h1 hb (fun W hW i nx hi => row6_calls (w.heap.size + 1 + 1) (w.heap.size + 1 + 1 + 1) ga gb n i nx x y W ((hW.block _ (blk_lt HST3.out.c2)).trans HST3.out.c2) ((hW.block _ (blk_lt hA)).trans hA) hAl ((hW.block _ (blk_lt HST3.out.c3)).trans HST3.out.c3) ((hW.block _ (blk_lt hBB)).trans hBB) hBl hi))
    have HO := Zd.mk hrow
    clear hrow
    go_wp2_with (go_at_call 81; refine HE.out.mono ?_; rintro e w6 ⟨g, rfl, hg, hG, hB⟩; have HG := Zd.mk hG; have HB := Zd.mk hB; have HGS := Zd.mk hg; clear hG hB hg)
    go_ret
    exact ⟨g, rfl, Nat.le_trans HST3.out.bl.size HGS.out, by rw [HO.out]; exact HG.out, HST3.out.bl.trans (HB.out.mono HST3.out.bl.size)⟩
   ·-- op 8
    have hkk := hpart.2.1
    have hmm := hpart.2.2.2
    rw [hop] at hkk hmm x0
    have hrow : rowS ls b s = settleS (fun i nx => ((rowL ls b s.f2).getD 1 []).getD i false && (((rowL ls b s.f2).getD 0 []).getD i false || nx)) n b true := by
     rw [row_eq, hop]
     unfold rowOp
     rw [if_neg (by decide), if_neg (by decide), if_neg (by decide), if_neg (by decide), if_neg (by decide), if_neg (by decide), if_pos rfl]
     rw [hn]
    obtain ⟨⟨ga, rfl, hga, hA, hAl⟩, hxe⟩ := HXX.out (by have h9 : kidsS 8 = 2 := (by decide); omega)
    rw [← hxe] at hrow
    obtain ⟨⟨gb, rfl, hgb, hBB, hBl⟩, hye⟩ := HYY.out (by have h9 : kidsS 8 = 2 := (by decide); omega)
    rw [← hye] at hrow
    have HE := Zd.mk (settle_calls 83 #[.pointer (some ⟨(w.heap.size + 1 + 1 + 1), 0, none⟩), .pointer (some ⟨(w.heap.size + 1 + 1), 0, none⟩)] (enters_f Try.func83 (by kernel_rfl) rfl) (fun i nx => y.getD i false && (x.getD i false || nx)) rb A n c b true wc hRw h0 h1 hb (fun W hW i nx hi => row7_calls (w.heap.size + 1 + 1) (w.heap.size + 1 + 1 + 1) ga gb n i nx x y W ((hW.block _ (blk_lt HST3.out.c2)).trans HST3.out.c2) ((hW.block _ (blk_lt hA)).trans hA) hAl ((hW.block _ (blk_lt HST3.out.c3)).trans HST3.out.c3) ((hW.block _ (blk_lt hBB)).trans hBB) hBl hi))
    have HO := Zd.mk hrow
    clear hrow
    go_wp2_with (go_at_call 81; refine HE.out.mono ?_; rintro e w6 ⟨g, rfl, hg, hG, hB⟩; have HG := Zd.mk hG; have HB := Zd.mk hB; have HGS := Zd.mk hg; clear hG hB hg)
    go_ret
    exact ⟨g, rfl, Nat.le_trans HST3.out.bl.size HGS.out, by rw [HO.out]; exact HG.out, HST3.out.bl.trans (HB.out.mono HST3.out.bl.size)⟩
end Go.Proofs.Ytapejnikpmfddaa.X
