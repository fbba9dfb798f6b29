/- A part of the claim TableauRuns. -/
import Derived.Test.YtegaicoddnmemaaProg
import Derived.Below
import Derived.Deep.Draws
import Derived.Deep.AppendLies
import Derived.Maps.AppendAt
import Derived.OwnWalk
import Derived.Laws.BytesArg
import Derived.Laws.MakeOwn
import Derived.Laws.OwnMore
import Derived.Deep.OwnRows
import Derived.Tactics
import Derived.Lib.ConvBytes
import Derived.Laws.Slices
import Derived.WalkKit
import Derived.KernelRfl
import Derived.RowKit3
import Derived.Deep.LoopGhost
import Derived.Deep.QuietTactic
import Derived.BigQuiet
import Derived.WideLaws
import Derived.Deep.DeepCutAuto
import Derived.Deep.CutBlock
import Derived.Deep.RegionHeld3
import Derived.Laws.Rows
import Derived.Lib.AppendStr
import Derived.ArgAppend
import Derived.Laws.IdiomCopy
import Derived.OrdersHeld
import Derived.Laws.BitsLemmas
import Derived.RowKit
import Derived.Laws.MathBits
import Derived.Laws.CopyOwn
import Derived.Test.YtegaicoddnmemaaQTableauRunsa
namespace Go.Proofs.Ytegaicoddnmemaa.P
open Go.RowKit Go.Proofs.YtegaicoddnmemaaW.PrintWords Go.Proofs.YtegaicoddnmemaaW.PrintLast Go.Proofs.YtegaicoddnmemaaW.PrintMore
attribute [local go_sem] max2_int min2_int max_two min_two max_three min_three max_four min_four   -- for this text's walks alone
set_option linter.unusedVariables false
set_option linter.unusedSimpArgs false



def errW : Option Int → Value
  | none => .nilIface
  | some c => .iface 0 (.int .i64 c)
theorem errW_none : errW none = .nilIface := rfl
theorem errW_some (c : Int) : errW (some c) = .iface 0 (.int .i64 c) := rfl

theorem info24 : (Try.prog.info? 24).map (fun i => (i.zero, i.size, i.bytes)) = some (some (.agg #[(.int .i64 0), (.int .i64 0), (.slice none 0 0)]), 3, 40) := by kernel_rfl
structure S24 where
  f0 : Int
  f1 : Int
  f2 : (List S24)
def z24 : S24 := ⟨(0 : Int), (0 : Int), ([] : List S24)⟩
def F24 (d : Kd S24) : Kd S24 := Kd.iso (Kd.pair (Kd.int .i64) (Kd.pair (Kd.int .i64) (Kd.slice 24 d))) (fun x : S24 => (x.f0, x.f1, x.f2))
theorem mono24 : Kd.Mono F24 := Kd.mono_iso _ (Kd.mono_pair (Kd.mono_const _) (Kd.mono_pair (Kd.mono_const _) (Kd.mono_slice 24 Kd.mono_id)))
theorem sub24 : Kd.Sub F24 [24] := Kd.sub_iso _ (Kd.sub_pair (Kd.sub_const _ (by decide)) (Kd.sub_pair (Kd.sub_const _ (by decide)) (Kd.sub_slice 24 (by decide) Kd.sub_id)))
theorem sz24 : ∀ n, (Kd.upto F24 3 [24] n).sz = 3 := Kd.upto_sz (fun _ => rfl)
def k24 : Kd S24 := Kd.fix F24 3 [24] sz24 (Kd.upto_E sub24)
theorem k24_open {w : World} {x : S24} {cs : List Value} (h : k24.K w x cs) : ∃ A2 c2, cs = [.int .i64 x.f0, .int .i64 x.f1, .slice A2 x.f2.length c2] ∧ x.f2.length ≤ c2 ∧ k24.C w A2 x.f2.length x.f2 := by
  obtain ⟨n, h⟩ := h
  cases n with
  | zero => exact h.elim
  | succ n =>
    obtain ⟨_, _, rfl, rfl, ⟨_, _, rfl, rfl, ⟨A2, c2, rfl, l2, g2⟩⟩⟩ := h
    exact ⟨A2, c2, rfl, l2, Kd.fix_C g2⟩
theorem k24_mk (w : World) (x : S24) {A2 : Option Addr} {c2 : Nat} (l2 : x.f2.length ≤ c2) (g2 : k24.C w A2 x.f2.length x.f2) : k24.K w x [.int .i64 x.f0, .int .i64 x.f1, .slice A2 x.f2.length c2] := by
  obtain ⟨n2, q2⟩ := Kd.fix_C_back mono24 g2
  have r2 := Kd.upto_C_le mono24 sz24 (show n2 ≤ n2 by omega) q2
  exact ⟨n2 + 1, ⟨[.int .i64 x.f0], [.int .i64 x.f1, .slice A2 x.f2.length c2], rfl, rfl, ⟨[.int .i64 x.f1], [.slice A2 x.f2.length c2], rfl, rfl, ⟨A2, c2, rfl, l2, r2⟩⟩⟩⟩
theorem k24_mkM (w : World) (base : Nat) (ok : Nat → Prop) (x : S24) {v2 : Value} (g2 : k24.R 24 w base ok v2 x.f2) : k24.M w base ok x [.int .i64 x.f0, .int .i64 x.f1, v2] := by
  obtain ⟨n2, q2⟩ := Kd.fix_R_back mono24 g2
  have r2 := Kd.upto_R_le mono24 sz24 (show n2 ≤ n2 by omega) q2
  exact ⟨n2 + 1, ⟨[.int .i64 x.f0], [.int .i64 x.f1, v2], rfl, rfl, ⟨[.int .i64 x.f1], [v2], rfl, rfl, ⟨v2, rfl, r2⟩⟩⟩⟩
theorem k24_mkF (W : World) (ok : Nat → Prop) (x : S24) {A2 : Option Addr} {c2 : Nat} (l2 : x.f2.length ≤ c2) (g2 : Kd.F k24 W ok A2 x.f2.length x.f2) : Kd.FK k24 W ok x [.int .i64 x.f0, .int .i64 x.f1, .slice A2 x.f2.length c2] := fun W2 hW => k24_mk W2 x l2 (g2 W2 hW)
def rd_T24 (xs : List S24) (i : Int) : S24 := xs.getD i.toNat z24
theorem at_T24 {w : World} {A : Option Addr} {n : Nat} {xs : List S24} (h : Kd.C k24 w A n xs) (i : Int) (h0 : 0 ≤ i) (h1 : i < n) : ∃ ad A2 c2, A = some ad ∧ w.cell? (ad.add (i.toNat * 3)) = some (.int .i64 (rd_T24 xs i).f0) ∧ w.cell? ⟨(ad.add (i.toNat * 3)).block, (ad.add (i.toNat * 3)).off + 1, none⟩ = some (.int .i64 (rd_T24 xs i).f1) ∧ w.cell? ⟨(ad.add (i.toNat * 3)).block, (ad.add (i.toNat * 3)).off + 2, none⟩ = some (.slice A2 (rd_T24 xs i).f2.length c2) ∧ (rd_T24 xs i).f2.length ≤ c2 ∧ k24.C w A2 (rd_T24 xs i).f2.length (rd_T24 xs i).f2 := by
  obtain ⟨ad, c, e, _, hK, hc0⟩ := Kd.C_get h z24 i h0 h1
  have hc : ∀ j u, c[j]? = some u → w.cell? (ad.add (i.toNat * 3 + j)) = some u := hc0
  obtain ⟨A2, c2, rfl, l2, g2⟩ := k24_open hK
  exact ⟨ad, A2, c2, e, hc 0 _ rfl, by rw [← add_field _ _ 1 (by omega)]; exact hc 1 _ rfl, by rw [← add_field _ _ 2 (by omega)]; exact hc 2 _ rfl, l2, g2⟩

structure S27 where
  f0 : (List Int)
  f1 : (List Int)
def k27 : Kd S27 := Kd.iso (Kd.pair (Kd.slice 36 (Kd.int .u32)) (Kd.slice 36 (Kd.int .u32))) (fun x : S27 => (x.f0, x.f1))
theorem k27_open {w : World} {x : S27} {cs : List Value} (h : k27.K w x cs) : ∃ A0 c0 A1 c1, cs = [.slice A0 x.f0.length c0, .slice A1 x.f1.length c1] ∧ x.f0.length ≤ c0 ∧ (Kd.int .u32).C w A0 x.f0.length x.f0 ∧ x.f1.length ≤ c1 ∧ (Kd.int .u32).C w A1 x.f1.length x.f1 := by
  obtain ⟨_, _, rfl, ⟨A0, c0, rfl, l0, g0⟩, ⟨A1, c1, rfl, l1, g1⟩⟩ := h
  exact ⟨A0, c0, A1, c1, rfl, l0, g0, l1, g1⟩
end Go.Proofs.Ytegaicoddnmemaa.P

namespace Go.Proofs.Ytegaicoddnmemaa.P
open Go.RowKit Go.Proofs.YtegaicoddnmemaaW.PrintWords Go.Proofs.YtegaicoddnmemaaW.PrintLast Go.Proofs.YtegaicoddnmemaaW.PrintMore
attribute [local go_sem] max2_int min2_int max_two min_two max_three min_three max_four min_four   -- for this text's walks alone
set_option linter.unusedVariables false
set_option linter.unusedSimpArgs false

mutual
def parrylaw22_weigh.j0 : Nat → Int → Int → Bool → Int → Int → List (S24) → Option (Int)
  | 0, _, _, _, _, _, _ => none
  | k + 1, x1, x2, x15, x102000, x102001, x102002 => if x15 = true then (some 1000) else (parrylaw22_weigh.l0 k x1 x2 1 x102002 (x102002.length : Int) 0)
def parrylaw22_weigh.l0 : Nat → Int → Int → Int → List (S24) → Int → Int → Option (Int)
  | 0, _, _, _, _, _, _ => none
  | k + 1, x1, x2, x7, x17, x18, x19 => if x19 < x18 then (if 0 ≤ x19 then (if x19 < (x17.length : Int) then ((parrylaw22_weigh.f k ((rd_T24 x17 x19).f0) ((rd_T24 x17 x19).f1) ((rd_T24 x17 x19).f2) (wrap64 (x1 + 1)) (wrap64 (x2 - x7))).bind fun t104 => (if (wrap64 (x7 + t104)) > x2 then (some 1000) else (parrylaw22_weigh.l0 k x1 x2 (wrap64 (x7 + t104)) x17 x18 (wrap64 (x19 + 1))))) else (none)) else (none)) else (some x7)
def parrylaw22_weigh.f : Nat → Int → Int → List (S24) → Int → Int → Option (Int)
  | 0, _, _, _, _, _ => none
  | k + 1, a0_0, a0_1, l0_2, a1, a2 => if a1 > 40 then (parrylaw22_weigh.j0 k a1 a2 true a0_0 a0_1 l0_2) else (parrylaw22_weigh.j0 k a1 a2 (decide (a2 < 1)) a0_0 a0_1 l0_2)
end
theorem parrylaw22_weigh.mono_l : ∀ k, (∀ y0 y1 y2 y3 y4, LeO (parrylaw22_weigh.f k y0 y1 y2 y3 y4) (parrylaw22_weigh.f (k + 1) y0 y1 y2 y3 y4)) ∧ (∀ y0 y1 y2 y3 y4 y5, LeO (parrylaw22_weigh.j0 k y0 y1 y2 y3 y4 y5) (parrylaw22_weigh.j0 (k + 1) y0 y1 y2 y3 y4 y5)) ∧ (∀ y0 y1 y2 y3 y4 y5, LeO (parrylaw22_weigh.l0 k y0 y1 y2 y3 y4 y5) (parrylaw22_weigh.l0 (k + 1) y0 y1 y2 y3 y4 y5))
  | 0 => ⟨fun _ _ _ _ _ r h => by simp [parrylaw22_weigh.f] at h, fun _ _ _ _ _ _ r h => by simp [parrylaw22_weigh.j0] at h, fun _ _ _ _ _ _ r h => by simp [parrylaw22_weigh.l0] at h⟩
  | k + 1 => by
    obtain ⟨ih0, ih1, ih2⟩ := parrylaw22_weigh.mono_l k
    refine ⟨?_, ?_, ?_⟩
    · intro y0 y1 y2 y3 y4
      unfold parrylaw22_weigh.f
      repeat' first
      | (with_reducible exact ih0 _ _ _ _ _)
      | (with_reducible exact ih1 _ _ _ _ _ _)
      | (with_reducible exact ih2 _ _ _ _ _ _)
      | (with_reducible exact LeO.refl _)
      | (with_reducible exact LeO.none _)
      | (with_reducible refine LeO.ite ?_ ?_)
      | (with_reducible refine LeO.bind ?_ (fun _ => ?_))
      | exact ih0 _ _ _ _ _
      | exact ih1 _ _ _ _ _ _
      | exact ih2 _ _ _ _ _ _
      | exact LeO.none _
      | refine LeO.ite ?_ ?_
      | refine LeO.bind ?_ (fun _ => ?_)
    · intro y0 y1 y2 y3 y4 y5
      unfold parrylaw22_weigh.j0
      repeat' first
      | (with_reducible exact ih0 _ _ _ _ _)
      | (with_reducible exact ih1 _ _ _ _ _ _)
      | (with_reducible exact ih2 _ _ _ _ _ _)
      | (with_reducible exact LeO.refl _)
      | (with_reducible exact LeO.none _)
      | (with_reducible refine LeO.ite ?_ ?_)
      | (with_reducible refine LeO.bind ?_ (fun _ => ?_))
      | exact ih0 _ _ _ _ _
      | exact ih1 _ _ _ _ _ _
      | exact ih2 _ _ _ _ _ _
      | exact LeO.none _
      | refine LeO.ite ?_ ?_
      | refine LeO.bind ?_ (fun _ => ?_)
    · intro y0 y1 y2 y3 y4 y5
      unfold parrylaw22_weigh.l0
      repeat' first
      | (with_reducible exact ih0 _ _ _ _ _)
      | (with_reducible exact ih1 _ _ _ _ _ _)
      | (with_reducible exact ih2 _ _ _ _ _ _)
      | (with_reducible exact LeO.refl _)
      | (with_reducible exact LeO.none _)
      | (with_reducible refine LeO.ite ?_ ?_)
      | (with_reducible refine LeO.bind ?_ (fun _ => ?_))
      | exact ih0 _ _ _ _ _
      | exact ih1 _ _ _ _ _ _
      | exact ih2 _ _ _ _ _ _
      | exact LeO.none _
      | refine LeO.ite ?_ ?_
      | refine LeO.bind ?_ (fun _ => ?_)
theorem parrylaw22_weigh.mono : ∀ a0 a1 a2 a3 a4 k, LeO (parrylaw22_weigh.f k a0 a1 a2 a3 a4) (parrylaw22_weigh.f (k + 1) a0 a1 a2 a3 a4) := by
  intro a0 a1 a2 a3 a4 k
  obtain ⟨ih0, ih1, ih2⟩ := parrylaw22_weigh.mono_l k
  exact ih0 a0 a1 a2 a3 a4
set_option maxHeartbeats 8000000 in
set_option maxRecDepth 100000 in
theorem parrylaw22_weigh.calls (k : Nat) : ∀ (a0_0 : Int) (a0_1 : Int) (A0_2 : Option Addr) (c0_2 : Nat) (l0_2 : List (S24)) (a1 : Int) (a2 : Int) (r : Int) (w : World) (hr0_2 : Kd.C k24 w A0_2 l0_2.length l0_2) (hc0_2 : l0_2.length ≤ c0_2) (h : parrylaw22_weigh.f k a0_0 a0_1 l0_2 a1 a2 = some r),
    Calls Try.prog 26 #[.agg #[.int .i64 a0_0, .int .i64 a0_1, .slice A0_2 l0_2.length c0_2], .int .i64 a1, .int .i64 a2] w fun e w' => e = .returned (.int .i64 r) ∧ Below w.heap.size w w' := by
  induction k using Nat.strongRecOn with
  | _ k ih =>
  intro a0_0 a0_1 A0_2 c0_2 l0_2 a1 a2 r w hr0_2 hc0_2 h
  cases k with
  | zero => exact absurd h (by simp [parrylaw22_weigh.f])
  | succ k =>
  simp only [parrylaw22_weigh.f] at h
  have hu24 := Try.underlying24
  have HR0_2 := Aside0.mk hr0_2
  have HC0_2 := Aside0.mk hc0_2
  clear hr0_2 hc0_2
  have HB := Aside0.mk (Below.refl w.heap.size w)
  have H : (if a1 > 40 then (parrylaw22_weigh.j0 k a1 a2 true a0_0 a0_1 l0_2) else (parrylaw22_weigh.j0 k a1 a2 (decide (a2 < 1)) a0_0 a0_1 l0_2)) = some r := h
  clear h
  have HC4 := Aside0.mk H
  clear H
  go_enter Try.func26, Try.ntmps26
  go_upto_region 1 with (first | ((with_reducible refine gate_dst (N := 3) rfl ?_); refine box_event ?hg (N := 3) ?hd (cs := #[.int .i64 a0_0, .int .i64 a0_1, .slice A0_2 l0_2.length c0_2]) (t := 24) ?hr ?_; (case hd => rfl); (case hg => rfl); (case hr => first | (go_simp; done) | (go_simp; rfl)); intro gb101 hg w5 hbox hb; have n0_ := Aside0.mk (below_step (by repeat (first | (with_reducible first | exact HB.out | apply below_alloc | apply pw_below_drewN | apply below_drew1) | exact HB.out)) hb); have n1_ := Aside0.mk (hbox); have n2_ := Aside0.mk ((by rw [hg]; exact (below_size (by repeat (first | (with_reducible first | exact HB.out | apply below_alloc | apply pw_below_drewN | apply below_drew1) | exact HB.out))) : w.heap.size ≤ gb101)); have n3_ := Aside0.mk ((by rw [hg]; exact (below_size (by repeat (first | (with_reducible first | exact HB.out | apply below_alloc | apply pw_below_drewN | apply below_drew1) | exact HB.out))) : w.heap.size ≤ gb101)); clear HB; have HB := n0_; have BK101 := n1_; have GW101 := n2_; have GE101 := n3_; clear n0_ n1_ n2_ n3_; clear hb hbox hg))
  (try simp only [Act.put, List.setIfInBounds_toArray, List.set_cons_zero, List.set_cons_succ])
  go_cut [15] (fun v15 wc => ∃ (kq : Nat) (x15_3 : Bool), v15 = .bool x15_3 ∧ Aside0 (parrylaw22_weigh.j0 kq a1 a2 x15_3 a0_0 a0_1 l0_2 = some r) ∧ Aside0 (kq ≤ k) ∧ Aside0 (wc.heap[gb101]? = some (.cells #[.int .i64 a0_0, .int .i64 a0_1, (.slice A0_2 l0_2.length c0_2)] 24 (0, 0))) ∧ Aside0 (Below w.heap.size w wc))
  case first =>
    have H := HC4.out
    clear HC4
    by_cases c6 : a1 > 40
    · rw [if_pos c6] at H
      have c6b0 : decide (40 < a1) = true := decide_eq_true c6
      clear c6
      (first | rw [c6b0] | (simp only [i64_w, i32_w]; rw [c6b0]) | skip)
      have H' := Aside0.mk H
      clear H
      go_wp2
      go_meet
      case rel => exact ⟨_, (true), (by first | rfl | (simp; done) | (simp [*]; done)), H', ⟨by first | omega | exact Nat.le_refl _⟩, ⟨by (with_reducible repeat (first | refine blk_drewN ?_ _ | refine blk_drew ?_ | refine blk_alloc ?_ _)); exact BK101.out⟩, ⟨by repeat (first | (with_reducible first | exact HB.out | apply below_alloc | apply pw_below_drewN | apply below_drew1 | refine below_set ?_ GE101.out) | exact HB.out)⟩⟩
    · rw [if_neg c6] at H
      have c6b0 : decide (40 < a1) = false := decide_eq_false c6
      clear c6
      (first | rw [c6b0] | (simp only [i64_w, i32_w]; rw [c6b0]) | skip)
      have H' := Aside0.mk H
      clear H
      go_wp2
      go_meet
      case rel => exact ⟨_, (decide (a2 < 1)), (by first | rfl | (simp; done) | (simp [*]; done)), H', ⟨by first | omega | exact Nat.le_refl _⟩, ⟨by (with_reducible repeat (first | refine blk_drewN ?_ _ | refine blk_drew ?_ | refine blk_alloc ?_ _)); exact BK101.out⟩, ⟨by repeat (first | (with_reducible first | exact HB.out | apply below_alloc | apply pw_below_drewN | apply below_drew1 | refine below_set ?_ GE101.out) | exact HB.out)⟩⟩
  case rest =>
    clear HC4
    try clear c2
    try clear p2
    try clear c6
    try clear c6b0
    obtain ⟨kq, x15_3, rfl, HA, HJ3, BK101, HB⟩ := hcut
    cases kq with
    | zero => exact absurd HA.out (by simp [parrylaw22_weigh.j0])
    | succ kj3 =>
      have H := HA.out
      clear HA
      simp only [parrylaw22_weigh.j0] at H
      by_cases c7 : x15_3 = true
      · subst c7
        have H1 : (some 1000) = some r := by rw [if_pos rfl] at H; exact H
        clear H
        have H := H1
        clear H1
        obtain rfl := Option.some.inj H
        go_wp2
        go_ret
        exact ⟨by first | rfl | (simp [errW_none, errW_some] <;> rfl) | (simp [*, errW_none, errW_some] <;> rfl), by repeat (first | (with_reducible first | exact HB.out | apply below_alloc | apply pw_below_drewN | apply below_drew1 | refine below_set ?_ GE101.out) | exact HB.out)⟩
      · replace c7 := Bool.eq_false_iff.mpr c7
        subst c7
        have H1 : (parrylaw22_weigh.l0 kj3 a1 a2 1 l0_2 (l0_2.length : Int) 0) = some r := by rw [if_neg (show ¬ (false = true) by decide)] at H; exact H
        clear H
        have H := H1
        clear H1
        have H' := Aside0.mk H
        clear H
        have hcz8_0 : wc.cell? ⟨gb101, 0, none⟩ = some (.int .i64 a0_0) := (blk_cell BK101.out 0).trans rfl
        have hcz8_1 : wc.cell? ⟨gb101, 1, none⟩ = some (.int .i64 a0_1) := (blk_cell BK101.out 1).trans rfl
        have hcz8_2 : wc.cell? ⟨gb101, 2, none⟩ = some (.slice A0_2 l0_2.length c0_2) := (blk_cell BK101.out 2).trans rfl
        have hfz8_0 := blk_frozen BK101.out 0
        have hfz8_1 := blk_frozen BK101.out 1
        have hfz8_2 := blk_frozen BK101.out 2
        go_wp2
        go_loopg [7, 19] kj3 (fun kq v7 v19 w' => ∃ (x7_2 : Int) (x19_2 : Int), v7 = .int .i64 x7_2 ∧ v19 = .int .i64 x19_2 ∧ Aside0 (parrylaw22_weigh.l0 kq a1 a2 x7_2 l0_2 (l0_2.length : Int) x19_2 = some r) ∧ Aside0 (kq ≤ kj3) ∧ Aside0 (w'.heap[gb101]? = some (.cells #[.int .i64 a0_0, .int .i64 a0_1, (.slice A0_2 l0_2.length c0_2)] 24 (0, 0))) ∧ Aside0 (Below w.heap.size w w'))
        case atStart => exact ⟨(1), (0), (by first | rfl | (simp; done) | (simp [*]; done)), (by first | rfl | (simp; done) | (simp [*]; done)), H', ⟨Nat.le_refl _⟩, ⟨by (with_reducible repeat (first | refine blk_drewN ?_ _ | refine blk_drew ?_ | refine blk_alloc ?_ _)); exact BK101.out⟩, ⟨by repeat (first | (with_reducible first | exact HB.out | apply below_alloc | apply pw_below_drewN | apply below_drew1 | refine below_set ?_ GE101.out) | exact HB.out)⟩⟩
        case round =>
          clear H'
          try clear c2
          try clear p2
          try clear c6
          try clear c6b0
          try clear c7
          try clear hcz8_0
          try clear hcz8_1
          try clear hcz8_2
          try clear hfz8_0
          try clear hfz8_1
          try clear hfz8_2
          try clear p2
          obtain ⟨x7_2, x19_2, rfl, rfl, HA, HK2, BK101, HB⟩ := hrel
          cases gk with
          | zero => exact absurd HA.out (by simp [parrylaw22_weigh.l0])
          | succ k2 =>
            have H := HA.out
            clear HA
            simp only [parrylaw22_weigh.l0] at H
            by_cases c9 : x19_2 < (l0_2.length : Int)
            · rw [if_pos c9] at H
              have c9b0 : decide (x19_2 < (l0_2.length : Int)) = true := decide_eq_true c9
              clear c9
              by_cases c10 : 0 ≤ x19_2
              · rw [if_pos c10] at H
                have c10b0 : decide (0 ≤ x19_2) = true := decide_eq_true c10
                clear c10
                by_cases c11 : x19_2 < (l0_2.length : Int)
                · rw [if_pos c11] at H
                  have c11b0 : decide (x19_2 < (l0_2.length : Int)) = true := decide_eq_true c11
                  clear c11
                  replace H := Option.bind_eq_some_iff.mp H
                  obtain ⟨t104, A120, H⟩ := H
                  replace H : (if (wrap64 (x7_2 + t104)) > a2 then (some 1000) else (parrylaw22_weigh.l0 k2 a1 a2 (wrap64 (x7_2 + t104)) l0_2 (l0_2.length : Int) (wrap64 (x19_2 + 1)))) = some r := H
                  have A12 := Aside0.mk A120
                  clear A120
                  by_cases c13 : (wrap64 (x7_2 + t104)) > a2
                  · rw [if_pos c13] at H
                    have c13b0 : decide (a2 < (wrap64 (x7_2 + t104))) = true := decide_eq_true c13
                    clear c13
                    obtain rfl := Option.some.inj H
                    have p102 : 0 ≤ (x19_2 : Int) := of_decide_eq_true (by first | (with_reducible assumption) | assumption)
                    have q102 : x19_2 < (l0_2.length : Int) := of_decide_eq_true (by first | (with_reducible assumption) | assumption)
                    obtain ⟨ad102, A102_2, c102_2, e102, hx102_0, hx102_1, hx102_2, hl102_2, hi102_2⟩ := at_T24 HR0_2.out x19_2 p102 q102
                    cases e102
                    replace hx102_0 := (HB.out.cell (World.block_lt_of_cell? w _ hx102_0)).trans hx102_0
                    replace hx102_1 := (HB.out.cell (World.block_lt_of_cell? w _ hx102_1)).trans hx102_1
                    replace hx102_2 := (HB.out.cell (World.block_lt_of_cell? w _ hx102_2)).trans hx102_2
                    have HR102_2 := Aside0.mk hi102_2
                    have HC102_2 := Aside0.mk hl102_2
                    clear hi102_2 hl102_2
                    replace p102 := eq_true p102
                    replace q102 := eq_true q102
                    go_wp2_with (first | ((with_reducible refine gate_dst (N := 9) rfl ?_); refine box_event ?hg (N := 9) ?hd (cs := #[.int .i64 0, .int .i64 0, .slice none 0 0]) (t := 24) ?hr ?_; (case hd => rfl); (case hg => rfl); (case hr => first | (go_simp; done) | (go_simp; rfl)); intro gb103 hg w14 hbox hb; have n0_ := Aside0.mk (blk_below (g := gb101) (o := .cells #[.int .i64 a0_0, .int .i64 a0_1, .slice (some ad102) l0_2.length c0_2] 24 (0, 0)) (by (with_reducible repeat (first | refine blk_drewN ?_ _ | refine blk_drew ?_ | refine blk_alloc ?_ _)); exact BK101.out) hb); have n1_ := Aside0.mk (below_step (by repeat (first | (with_reducible first | exact HB.out | apply below_alloc | apply pw_below_drewN | apply below_drew1 | refine below_set ?_ GE101.out) | exact HB.out)) hb); have n2_ := Aside0.mk (hbox); have n3_ := Aside0.mk ((by rw [hg]; exact (below_size (by repeat (first | (with_reducible first | exact HB.out | apply below_alloc | apply pw_below_drewN | apply below_drew1 | refine below_set ?_ GE101.out) | exact HB.out))) : w.heap.size ≤ gb103)); have n4_ := Aside0.mk ((by rw [hg]; exact (below_size (by repeat (first | (with_reducible first | exact HB.out | apply below_alloc | apply pw_below_drewN | apply below_drew1 | refine below_set ?_ GE101.out) | exact HB.out))) : w.heap.size ≤ gb103)); have n5_ := Aside0.mk ((by rw [hg]; exact Nat.ne_of_lt (blk_lt (g := gb101) (o := .cells #[.int .i64 a0_0, .int .i64 a0_1, .slice (some ad102) l0_2.length c0_2] 24 (0, 0)) (by (with_reducible repeat (first | refine blk_drewN ?_ _ | refine blk_drew ?_ | refine blk_alloc ?_ _)); exact BK101.out)) : gb101 ≠ gb103)); have n6_ := Aside0.mk ((by rw [hg]; exact Nat.ne_of_gt (blk_lt (g := gb101) (o := .cells #[.int .i64 a0_0, .int .i64 a0_1, .slice (some ad102) l0_2.length c0_2] 24 (0, 0)) (by (with_reducible repeat (first | refine blk_drewN ?_ _ | refine blk_drew ?_ | refine blk_alloc ?_ _)); exact BK101.out)) : gb103 ≠ gb101)); clear BK101; clear HB; have BK101 := n0_; have HB := n1_; have BK103 := n2_; have GW103 := n3_; have GE103 := n4_; have NB101_103 := n5_; have NB103_101 := n6_; clear n0_ n1_ n2_ n3_ n4_ n5_ n6_; clear hb hbox hg; have hnb15 := NB103_101.out; have hnc15 := NB101_103.out; have hcz16_0 : w14.cell? ⟨gb103, 0, none⟩ = some (.int .i64 0) := (blk_cell BK103.out 0).trans rfl; have hcz16_1 : w14.cell? ⟨gb103, 1, none⟩ = some (.int .i64 0) := (blk_cell BK103.out 1).trans rfl; have hcz16_2 : w14.cell? ⟨gb103, 2, none⟩ = some (.slice none 0 0) := (blk_cell BK103.out 2).trans rfl; have hfz16_0 := blk_frozen BK103.out 0; have hfz16_1 := blk_frozen BK103.out 1; have hfz16_2 := blk_frozen BK103.out 2) | ((with_reducible refine gate_callee (f := 26) rfl ?_); refine goesL_ (some 30) rfl rfl Try.func26 (by kernel_rfl) rfl #[.agg #[.int .i64 ((rd_T24 l0_2 x19_2).f0), .int .i64 ((rd_T24 l0_2 x19_2).f1), .slice A102_2 ((rd_T24 l0_2 x19_2).f2).length c102_2], .int .i64 (wrap64 (a1 + 1)), .int .i64 (wrap64 (a2 - x7_2))] rfl (by (try simp only [List.map_toArray, List.map_cons, List.map_nil]); first | done | rfl | (simp only [List.length_drop, List.length_take]; rfl)) ?_; (with_reducible refine (ih k2 (by have := HJ3.out; have := HK2.out; omega) ((rd_T24 l0_2 x19_2).f0) ((rd_T24 l0_2 x19_2).f1) _ _ ((rd_T24 l0_2 x19_2).f2) (wrap64 (a1 + 1)) (wrap64 (a2 - x7_2)) t104 _ ?side1 ?side2 A12.out).mono ?_); (case side1 => exact Kd.C_below HR102_2.out (by repeat (first | (with_reducible first | exact HB.out | apply below_alloc | apply pw_below_drewN | apply below_drew1 | refine below_set ?_ GE101.out | refine below_set ?_ GE103.out) | exact HB.out))); (case side2 => exact HC102_2.out); rintro e w17 ⟨rfl, hb⟩; refine ⟨_, rfl, ?_⟩; have n0_ := Aside0.mk (blk_below (g := gb101) (o := .cells #[.int .i64 a0_0, .int .i64 a0_1, .slice (some ad102) l0_2.length c0_2] 24 (0, 0)) (by (with_reducible repeat (first | refine blk_drewN ?_ _ | refine blk_drew ?_ | refine blk_alloc ?_ _)); refine blk_far ?_ NB101_103.out _; (with_reducible repeat (first | refine blk_drewN ?_ _ | refine blk_drew ?_ | refine blk_alloc ?_ _)); refine blk_far ?_ NB101_103.out _; (with_reducible repeat (first | refine blk_drewN ?_ _ | refine blk_drew ?_ | refine blk_alloc ?_ _)); refine blk_far ?_ NB101_103.out _; (with_reducible repeat (first | refine blk_drewN ?_ _ | refine blk_drew ?_ | refine blk_alloc ?_ _)); exact BK101.out) hb); have n1_ := Aside0.mk (blk_below (g := gb103) (o := .cells #[.int .i64 ((rd_T24 l0_2 x19_2).f0), .int .i64 ((rd_T24 l0_2 x19_2).f1), .slice A102_2 ((rd_T24 l0_2 x19_2).f2).length c102_2] 24 (0, 0)) (by (with_reducible repeat (first | refine blk_drewN ?_ _ | refine blk_drew ?_ | refine blk_alloc ?_ _)); refine blk_put (cs := #[.int .i64 ((rd_T24 l0_2 x19_2).f0), .int .i64 ((rd_T24 l0_2 x19_2).f1), .slice none 0 0]) ?_ 2 _ rfl; (with_reducible repeat (first | refine blk_drewN ?_ _ | refine blk_drew ?_ | refine blk_alloc ?_ _)); refine blk_put (cs := #[.int .i64 ((rd_T24 l0_2 x19_2).f0), .int .i64 0, .slice none 0 0]) ?_ 1 _ rfl; (with_reducible repeat (first | refine blk_drewN ?_ _ | refine blk_drew ?_ | refine blk_alloc ?_ _)); refine blk_put (cs := #[.int .i64 0, .int .i64 0, .slice none 0 0]) ?_ 0 _ rfl; (with_reducible repeat (first | refine blk_drewN ?_ _ | refine blk_drew ?_ | refine blk_alloc ?_ _)); exact BK103.out) hb); have n2_ := Aside0.mk (below_step (by repeat (first | (with_reducible first | exact HB.out | apply below_alloc | apply pw_below_drewN | apply below_drew1 | refine below_set ?_ GE101.out | refine below_set ?_ GE103.out) | exact HB.out)) hb); clear BK101; clear BK103; clear HB; have BK101 := n0_; have BK103 := n1_; have HB := n2_; clear n0_ n1_ n2_; (try clear hb); (try clear hb2); (try clear hk); (try clear hi)))
                    go_ret
                    exact ⟨by first | rfl | (simp [errW_none, errW_some] <;> rfl) | (simp [*, errW_none, errW_some] <;> rfl), by repeat (first | (with_reducible first | exact HB.out | apply below_alloc | apply pw_below_drewN | apply below_drew1 | refine below_set ?_ GE101.out | refine below_set ?_ GE103.out) | exact HB.out)⟩
                  · rw [if_neg c13] at H
                    have c13b0 : decide (a2 < (wrap64 (x7_2 + t104))) = false := decide_eq_false c13
                    clear c13
                    have H' := Aside0.mk H
                    clear H
                    have p102 : 0 ≤ (x19_2 : Int) := of_decide_eq_true (by first | (with_reducible assumption) | assumption)
                    have q102 : x19_2 < (l0_2.length : Int) := of_decide_eq_true (by first | (with_reducible assumption) | assumption)
                    obtain ⟨ad102, A102_2, c102_2, e102, hx102_0, hx102_1, hx102_2, hl102_2, hi102_2⟩ := at_T24 HR0_2.out x19_2 p102 q102
                    cases e102
                    replace hx102_0 := (HB.out.cell (World.block_lt_of_cell? w _ hx102_0)).trans hx102_0
                    replace hx102_1 := (HB.out.cell (World.block_lt_of_cell? w _ hx102_1)).trans hx102_1
                    replace hx102_2 := (HB.out.cell (World.block_lt_of_cell? w _ hx102_2)).trans hx102_2
                    have HR102_2 := Aside0.mk hi102_2
                    have HC102_2 := Aside0.mk hl102_2
                    clear hi102_2 hl102_2
                    replace p102 := eq_true p102
                    replace q102 := eq_true q102
                    go_wp2_with (first | ((with_reducible refine gate_dst (N := 9) rfl ?_); refine box_event ?hg (N := 9) ?hd (cs := #[.int .i64 0, .int .i64 0, .slice none 0 0]) (t := 24) ?hr ?_; (case hd => rfl); (case hg => rfl); (case hr => first | (go_simp; done) | (go_simp; rfl)); intro gb103 hg w18 hbox hb; have n0_ := Aside0.mk (blk_below (g := gb101) (o := .cells #[.int .i64 a0_0, .int .i64 a0_1, .slice (some ad102) l0_2.length c0_2] 24 (0, 0)) (by (with_reducible repeat (first | refine blk_drewN ?_ _ | refine blk_drew ?_ | refine blk_alloc ?_ _)); exact BK101.out) hb); have n1_ := Aside0.mk (below_step (by repeat (first | (with_reducible first | exact HB.out | apply below_alloc | apply pw_below_drewN | apply below_drew1 | refine below_set ?_ GE101.out) | exact HB.out)) hb); have n2_ := Aside0.mk (hbox); have n3_ := Aside0.mk ((by rw [hg]; exact (below_size (by repeat (first | (with_reducible first | exact HB.out | apply below_alloc | apply pw_below_drewN | apply below_drew1 | refine below_set ?_ GE101.out) | exact HB.out))) : w.heap.size ≤ gb103)); have n4_ := Aside0.mk ((by rw [hg]; exact (below_size (by repeat (first | (with_reducible first | exact HB.out | apply below_alloc | apply pw_below_drewN | apply below_drew1 | refine below_set ?_ GE101.out) | exact HB.out))) : w.heap.size ≤ gb103)); have n5_ := Aside0.mk ((by rw [hg]; exact Nat.ne_of_lt (blk_lt (g := gb101) (o := .cells #[.int .i64 a0_0, .int .i64 a0_1, .slice (some ad102) l0_2.length c0_2] 24 (0, 0)) (by (with_reducible repeat (first | refine blk_drewN ?_ _ | refine blk_drew ?_ | refine blk_alloc ?_ _)); exact BK101.out)) : gb101 ≠ gb103)); have n6_ := Aside0.mk ((by rw [hg]; exact Nat.ne_of_gt (blk_lt (g := gb101) (o := .cells #[.int .i64 a0_0, .int .i64 a0_1, .slice (some ad102) l0_2.length c0_2] 24 (0, 0)) (by (with_reducible repeat (first | refine blk_drewN ?_ _ | refine blk_drew ?_ | refine blk_alloc ?_ _)); exact BK101.out)) : gb103 ≠ gb101)); clear BK101; clear HB; have BK101 := n0_; have HB := n1_; have BK103 := n2_; have GW103 := n3_; have GE103 := n4_; have NB101_103 := n5_; have NB103_101 := n6_; clear n0_ n1_ n2_ n3_ n4_ n5_ n6_; clear hb hbox hg; have hnb19 := NB103_101.out; have hnc19 := NB101_103.out; have hcz20_0 : w18.cell? ⟨gb103, 0, none⟩ = some (.int .i64 0) := (blk_cell BK103.out 0).trans rfl; have hcz20_1 : w18.cell? ⟨gb103, 1, none⟩ = some (.int .i64 0) := (blk_cell BK103.out 1).trans rfl; have hcz20_2 : w18.cell? ⟨gb103, 2, none⟩ = some (.slice none 0 0) := (blk_cell BK103.out 2).trans rfl; have hfz20_0 := blk_frozen BK103.out 0; have hfz20_1 := blk_frozen BK103.out 1; have hfz20_2 := blk_frozen BK103.out 2) | ((with_reducible refine gate_callee (f := 26) rfl ?_); refine goesL_ (some 30) rfl rfl Try.func26 (by kernel_rfl) rfl #[.agg #[.int .i64 ((rd_T24 l0_2 x19_2).f0), .int .i64 ((rd_T24 l0_2 x19_2).f1), .slice A102_2 ((rd_T24 l0_2 x19_2).f2).length c102_2], .int .i64 (wrap64 (a1 + 1)), .int .i64 (wrap64 (a2 - x7_2))] rfl (by (try simp only [List.map_toArray, List.map_cons, List.map_nil]); first | done | rfl | (simp only [List.length_drop, List.length_take]; rfl)) ?_; (with_reducible refine (ih k2 (by have := HJ3.out; have := HK2.out; omega) ((rd_T24 l0_2 x19_2).f0) ((rd_T24 l0_2 x19_2).f1) _ _ ((rd_T24 l0_2 x19_2).f2) (wrap64 (a1 + 1)) (wrap64 (a2 - x7_2)) t104 _ ?side1 ?side2 A12.out).mono ?_); (case side1 => exact Kd.C_below HR102_2.out (by repeat (first | (with_reducible first | exact HB.out | apply below_alloc | apply pw_below_drewN | apply below_drew1 | refine below_set ?_ GE101.out | refine below_set ?_ GE103.out) | exact HB.out))); (case side2 => exact HC102_2.out); rintro e w21 ⟨rfl, hb⟩; refine ⟨_, rfl, ?_⟩; have n0_ := Aside0.mk (blk_below (g := gb101) (o := .cells #[.int .i64 a0_0, .int .i64 a0_1, .slice (some ad102) l0_2.length c0_2] 24 (0, 0)) (by (with_reducible repeat (first | refine blk_drewN ?_ _ | refine blk_drew ?_ | refine blk_alloc ?_ _)); refine blk_far ?_ NB101_103.out _; (with_reducible repeat (first | refine blk_drewN ?_ _ | refine blk_drew ?_ | refine blk_alloc ?_ _)); refine blk_far ?_ NB101_103.out _; (with_reducible repeat (first | refine blk_drewN ?_ _ | refine blk_drew ?_ | refine blk_alloc ?_ _)); refine blk_far ?_ NB101_103.out _; (with_reducible repeat (first | refine blk_drewN ?_ _ | refine blk_drew ?_ | refine blk_alloc ?_ _)); exact BK101.out) hb); have n1_ := Aside0.mk (blk_below (g := gb103) (o := .cells #[.int .i64 ((rd_T24 l0_2 x19_2).f0), .int .i64 ((rd_T24 l0_2 x19_2).f1), .slice A102_2 ((rd_T24 l0_2 x19_2).f2).length c102_2] 24 (0, 0)) (by (with_reducible repeat (first | refine blk_drewN ?_ _ | refine blk_drew ?_ | refine blk_alloc ?_ _)); refine blk_put (cs := #[.int .i64 ((rd_T24 l0_2 x19_2).f0), .int .i64 ((rd_T24 l0_2 x19_2).f1), .slice none 0 0]) ?_ 2 _ rfl; (with_reducible repeat (first | refine blk_drewN ?_ _ | refine blk_drew ?_ | refine blk_alloc ?_ _)); refine blk_put (cs := #[.int .i64 ((rd_T24 l0_2 x19_2).f0), .int .i64 0, .slice none 0 0]) ?_ 1 _ rfl; (with_reducible repeat (first | refine blk_drewN ?_ _ | refine blk_drew ?_ | refine blk_alloc ?_ _)); refine blk_put (cs := #[.int .i64 0, .int .i64 0, .slice none 0 0]) ?_ 0 _ rfl; (with_reducible repeat (first | refine blk_drewN ?_ _ | refine blk_drew ?_ | refine blk_alloc ?_ _)); exact BK103.out) hb); have n2_ := Aside0.mk (below_step (by repeat (first | (with_reducible first | exact HB.out | apply below_alloc | apply pw_below_drewN | apply below_drew1 | refine below_set ?_ GE101.out | refine below_set ?_ GE103.out) | exact HB.out)) hb); clear BK101; clear BK103; clear HB; have BK101 := n0_; have BK103 := n1_; have HB := n2_; clear n0_ n1_ n2_; (try clear hb); (try clear hb2); (try clear hk); (try clear hi)))
                    go_roundg k2
                    case measure => have := HJ3.out; have := HK2.out; omega
                    case rel => exact ⟨(wrap64 (x7_2 + t104)), (wrap64 (x19_2 + 1)), (by first | rfl | (simp; done) | (simp [*]; done)), (by first | rfl | (simp; done) | (simp [*]; done)), H', ⟨by have := HJ3.out; have := HK2.out; omega⟩, ⟨by (with_reducible repeat (first | refine blk_drewN ?_ _ | refine blk_drew ?_ | refine blk_alloc ?_ _)); exact BK101.out⟩, ⟨by repeat (first | (with_reducible first | exact HB.out | apply below_alloc | apply pw_below_drewN | apply below_drew1 | refine below_set ?_ GE101.out | refine below_set ?_ GE103.out) | exact HB.out)⟩⟩
                · rw [if_neg c11] at H
                  exact absurd H (by simp)
              · rw [if_neg c10] at H
                exact absurd H (by simp)
            · rw [if_neg c9] at H
              have c9b0 : decide (x19_2 < (l0_2.length : Int)) = false := decide_eq_false c9
              clear c9
              obtain rfl := Option.some.inj H
              go_wp2
              go_ret
              exact ⟨by first | rfl | (simp [errW_none, errW_some] <;> rfl) | (simp [*, errW_none, errW_some] <;> rfl), by repeat (first | (with_reducible first | exact HB.out | apply below_alloc | apply pw_below_drewN | apply below_drew1 | refine below_set ?_ GE101.out) | exact HB.out)⟩

def parrylaw22_Heavy.f (k : Nat) (a0_0 : Int) (a0_1 : Int) (l0_2 : List (S24)) : Option (Int) := (parrylaw22_weigh.f k a0_0 a0_1 l0_2 0 500).bind fun t106 => (if t106 > 300 then (some t106) else (some 0))
theorem parrylaw22_Heavy.mono : ∀ a0 a1 a2 k, LeO (parrylaw22_Heavy.f k a0 a1 a2) (parrylaw22_Heavy.f (k + 1) a0 a1 a2) := by
  intro a0 a1 a2 k
  unfold parrylaw22_Heavy.f
  repeat' first
      | (with_reducible exact parrylaw22_weigh.mono _ _ _ _ _ _)
      | (with_reducible exact LeO.refl _)
      | (with_reducible exact LeO.none _)
      | (with_reducible refine LeO.ite ?_ ?_)
      | (with_reducible refine LeO.bind ?_ (fun _ => ?_))
      | exact parrylaw22_weigh.mono _ _ _ _ _ _
      | exact LeO.none _
      | refine LeO.ite ?_ ?_
      | refine LeO.bind ?_ (fun _ => ?_)
set_option maxHeartbeats 8000000 in
set_option maxRecDepth 100000 in
theorem parrylaw22_Heavy.calls (k : Nat) (a0_0 : Int) (a0_1 : Int) (A0_2 : Option Addr) (c0_2 : Nat) (l0_2 : List (S24)) (r : Int) (w : World) (hr0_2 : Kd.C k24 w A0_2 l0_2.length l0_2) (hc0_2 : l0_2.length ≤ c0_2) (h : parrylaw22_Heavy.f k a0_0 a0_1 l0_2 = some r) :
    Calls Try.prog 8 #[.agg #[.int .i64 a0_0, .int .i64 a0_1, .slice A0_2 l0_2.length c0_2]] w fun e w' => e = .returned (.int .i64 r) ∧ Below w.heap.size w w' := by
  have hu24 := Try.underlying24
  have HR0_2 := Aside0.mk hr0_2
  have HC0_2 := Aside0.mk hc0_2
  clear hr0_2 hc0_2
  have HB := Aside0.mk (Below.refl w.heap.size w)
  have H : ((parrylaw22_weigh.f k a0_0 a0_1 l0_2 0 500).bind fun t106 => (if t106 > 300 then (some t106) else (some 0))) = some r := h
  clear h
  replace H := Option.bind_eq_some_iff.mp H
  obtain ⟨t106, A20, H⟩ := H
  replace H : (if t106 > 300 then (some t106) else (some 0)) = some r := H
  have A2 := Aside0.mk A20
  clear A20
  by_cases c3 : t106 > 300
  · rw [if_pos c3] at H
    have c3b0 : decide (300 < t106) = true := decide_eq_true c3
    clear c3
    obtain rfl := Option.some.inj H
    go_enter Try.func8, Try.ntmps8
    go_wp2_with (first | ((with_reducible refine gate_dst (N := 1) rfl ?_); refine box_event ?hg (N := 1) ?hd (cs := #[.int .i64 a0_0, .int .i64 a0_1, .slice A0_2 l0_2.length c0_2]) (t := 24) ?hr ?_; (case hd => rfl); (case hg => rfl); (case hr => first | (go_simp; done) | (go_simp; rfl)); intro gb105 hg w4 hbox hb; have n0_ := Aside0.mk (below_step (by repeat (first | (with_reducible first | exact HB.out | apply below_alloc | apply pw_below_drewN | apply below_drew1) | exact HB.out)) hb); have n1_ := Aside0.mk (hbox); have n2_ := Aside0.mk ((by rw [hg]; exact (below_size (by repeat (first | (with_reducible first | exact HB.out | apply below_alloc | apply pw_below_drewN | apply below_drew1) | exact HB.out))) : w.heap.size ≤ gb105)); have n3_ := Aside0.mk ((by rw [hg]; exact (below_size (by repeat (first | (with_reducible first | exact HB.out | apply below_alloc | apply pw_below_drewN | apply below_drew1) | exact HB.out))) : w.heap.size ≤ gb105)); clear HB; have HB := n0_; have BK105 := n1_; have GW105 := n2_; have GE105 := n3_; clear n0_ n1_ n2_ n3_; clear hb hbox hg; have hcz5_0 : w4.cell? ⟨gb105, 0, none⟩ = some (.int .i64 a0_0) := (blk_cell BK105.out 0).trans rfl; have hcz5_1 : w4.cell? ⟨gb105, 1, none⟩ = some (.int .i64 a0_1) := (blk_cell BK105.out 1).trans rfl; have hcz5_2 : w4.cell? ⟨gb105, 2, none⟩ = some (.slice A0_2 l0_2.length c0_2) := (blk_cell BK105.out 2).trans rfl; have hfz5_0 := blk_frozen BK105.out 0; have hfz5_1 := blk_frozen BK105.out 1; have hfz5_2 := blk_frozen BK105.out 2) | ((with_reducible refine gate_callee (f := 26) rfl ?_); refine goesL_ (some 5) rfl rfl Try.func26 (by kernel_rfl) rfl #[.agg #[.int .i64 a0_0, .int .i64 a0_1, .slice A0_2 l0_2.length c0_2], .int .i64 0, .int .i64 500] rfl (by (try simp only [List.map_toArray, List.map_cons, List.map_nil]); first | done | rfl | (simp only [List.length_drop, List.length_take]; rfl)) ?_; (with_reducible refine (parrylaw22_weigh.calls k a0_0 a0_1 _ _ l0_2 0 500 t106 _ ?side1 ?side2 A2.out).mono ?_); (case side1 => repeat (first | exact (Kd.C_below HR0_2.out HB.out) | (with_reducible refine Kd.C_alloc ?_ _) | (with_reducible refine Kd.C_drewN ?_ _) | (with_reducible refine Kd.C_drew ?_))); (case side2 => exact HC0_2.out); rintro e w6 ⟨rfl, hb⟩; refine ⟨_, rfl, ?_⟩; have n0_ := Aside0.mk (blk_below (g := gb105) (o := .cells #[.int .i64 a0_0, .int .i64 a0_1, .slice A0_2 l0_2.length c0_2] 24 (0, 0)) (by (with_reducible repeat (first | refine blk_drewN ?_ _ | refine blk_drew ?_ | refine blk_alloc ?_ _)); exact BK105.out) hb); have n1_ := Aside0.mk (below_step (by repeat (first | (with_reducible first | exact HB.out | apply below_alloc | apply pw_below_drewN | apply below_drew1 | refine below_set ?_ GE105.out) | exact HB.out)) hb); clear BK105; clear HB; have BK105 := n0_; have HB := n1_; clear n0_ n1_; (try clear hb); (try clear hb2); (try clear hk); (try clear hi)))
    go_ret
    exact ⟨by first | rfl | (simp [errW_none, errW_some] <;> rfl) | (simp [*, errW_none, errW_some] <;> rfl), by repeat (first | (with_reducible first | exact HB.out | apply below_alloc | apply pw_below_drewN | apply below_drew1 | refine below_set ?_ GE105.out) | exact HB.out)⟩
  · rw [if_neg c3] at H
    have c3b0 : decide (300 < t106) = false := decide_eq_false c3
    clear c3
    obtain rfl := Option.some.inj H
    go_enter Try.func8, Try.ntmps8
    go_wp2_with (first | ((with_reducible refine gate_dst (N := 1) rfl ?_); refine box_event ?hg (N := 1) ?hd (cs := #[.int .i64 a0_0, .int .i64 a0_1, .slice A0_2 l0_2.length c0_2]) (t := 24) ?hr ?_; (case hd => rfl); (case hg => rfl); (case hr => first | (go_simp; done) | (go_simp; rfl)); intro gb105 hg w7 hbox hb; have n0_ := Aside0.mk (below_step (by repeat (first | (with_reducible first | exact HB.out | apply below_alloc | apply pw_below_drewN | apply below_drew1) | exact HB.out)) hb); have n1_ := Aside0.mk (hbox); have n2_ := Aside0.mk ((by rw [hg]; exact (below_size (by repeat (first | (with_reducible first | exact HB.out | apply below_alloc | apply pw_below_drewN | apply below_drew1) | exact HB.out))) : w.heap.size ≤ gb105)); have n3_ := Aside0.mk ((by rw [hg]; exact (below_size (by repeat (first | (with_reducible first | exact HB.out | apply below_alloc | apply pw_below_drewN | apply below_drew1) | exact HB.out))) : w.heap.size ≤ gb105)); clear HB; have HB := n0_; have BK105 := n1_; have GW105 := n2_; have GE105 := n3_; clear n0_ n1_ n2_ n3_; clear hb hbox hg; have hcz8_0 : w7.cell? ⟨gb105, 0, none⟩ = some (.int .i64 a0_0) := (blk_cell BK105.out 0).trans rfl; have hcz8_1 : w7.cell? ⟨gb105, 1, none⟩ = some (.int .i64 a0_1) := (blk_cell BK105.out 1).trans rfl; have hcz8_2 : w7.cell? ⟨gb105, 2, none⟩ = some (.slice A0_2 l0_2.length c0_2) := (blk_cell BK105.out 2).trans rfl; have hfz8_0 := blk_frozen BK105.out 0; have hfz8_1 := blk_frozen BK105.out 1; have hfz8_2 := blk_frozen BK105.out 2) | ((with_reducible refine gate_callee (f := 26) rfl ?_); refine goesL_ (some 5) rfl rfl Try.func26 (by kernel_rfl) rfl #[.agg #[.int .i64 a0_0, .int .i64 a0_1, .slice A0_2 l0_2.length c0_2], .int .i64 0, .int .i64 500] rfl (by (try simp only [List.map_toArray, List.map_cons, List.map_nil]); first | done | rfl | (simp only [List.length_drop, List.length_take]; rfl)) ?_; (with_reducible refine (parrylaw22_weigh.calls k a0_0 a0_1 _ _ l0_2 0 500 t106 _ ?side1 ?side2 A2.out).mono ?_); (case side1 => repeat (first | exact (Kd.C_below HR0_2.out HB.out) | (with_reducible refine Kd.C_alloc ?_ _) | (with_reducible refine Kd.C_drewN ?_ _) | (with_reducible refine Kd.C_drew ?_))); (case side2 => exact HC0_2.out); rintro e w9 ⟨rfl, hb⟩; refine ⟨_, rfl, ?_⟩; have n0_ := Aside0.mk (blk_below (g := gb105) (o := .cells #[.int .i64 a0_0, .int .i64 a0_1, .slice A0_2 l0_2.length c0_2] 24 (0, 0)) (by (with_reducible repeat (first | refine blk_drewN ?_ _ | refine blk_drew ?_ | refine blk_alloc ?_ _)); exact BK105.out) hb); have n1_ := Aside0.mk (below_step (by repeat (first | (with_reducible first | exact HB.out | apply below_alloc | apply pw_below_drewN | apply below_drew1 | refine below_set ?_ GE105.out) | exact HB.out)) hb); clear BK105; clear HB; have BK105 := n0_; have HB := n1_; clear n0_ n1_; (try clear hb); (try clear hb2); (try clear hk); (try clear hi)))
    go_ret
    exact ⟨by first | rfl | (simp [errW_none, errW_some] <;> rfl) | (simp [*, errW_none, errW_some] <;> rfl), by repeat (first | (with_reducible first | exact HB.out | apply below_alloc | apply pw_below_drewN | apply below_drew1 | refine below_set ?_ GE105.out) | exact HB.out)⟩

end Go.Proofs.Ytegaicoddnmemaa.P

namespace Go.Proofs.Ytegaicoddnmemaa.P
open Go.RowKit Go.Proofs.YtegaicoddnmemaaW.PrintWords Go.Proofs.YtegaicoddnmemaaW.PrintLast Go.Proofs.YtegaicoddnmemaaW.PrintMore
attribute [local go_sem] max2_int min2_int max_two min_two max_three min_three max_four min_four   -- for this text's walks alone
set_option linter.unusedVariables false
set_option linter.unusedSimpArgs false

def parrylaw22_Long.f (l0_0 : List Int) (l0_1 : List Int) : Option (Int) := if (l0_0.length : Int) > 60 then (some 1) else (if (l0_1.length : Int) > 60 then (some 1) else (some 0))
set_option maxHeartbeats 8000000 in
set_option maxRecDepth 100000 in
theorem parrylaw22_Long.calls (A0_0 : Option Addr) (c0_0 : Nat) (l0_0 : List Int) (A0_1 : Option Addr) (c0_1 : Nat) (l0_1 : List Int) (r : Int) (w : World) (hr0_0 : Kd.C (Kd.int .u32) w A0_0 l0_0.length l0_0) (hc0_0 : l0_0.length ≤ c0_0) (hr0_1 : Kd.C (Kd.int .u32) w A0_1 l0_1.length l0_1) (hc0_1 : l0_1.length ≤ c0_1) (h : parrylaw22_Long.f l0_0 l0_1 = some r) :
    Calls Try.prog 9 #[.agg #[.slice A0_0 l0_0.length c0_0, .slice A0_1 l0_1.length c0_1]] w fun e w' => e = .returned (.int .i64 r) ∧ Below w.heap.size w w' := by
  have hu27 := Try.underlying27
  have HR0_0 := Aside0.mk hr0_0
  have HC0_0 := Aside0.mk hc0_0
  clear hr0_0 hc0_0
  have HR0_1 := Aside0.mk hr0_1
  have HC0_1 := Aside0.mk hc0_1
  clear hr0_1 hc0_1
  have HB := Aside0.mk (Below.refl w.heap.size w)
  have H : (if (l0_0.length : Int) > 60 then (some 1) else (if (l0_1.length : Int) > 60 then (some 1) else (some 0))) = some r := h
  clear h
  by_cases c2 : (l0_0.length : Int) > 60
  · rw [if_pos c2] at H
    have c2b0 : decide (60 < (l0_0.length : Int)) = true := decide_eq_true c2
    have c2b1 : decide (60 < l0_0.length) = true := decide_eq_true (by omega)
    clear c2
    obtain rfl := Option.some.inj H
    go_enter Try.func9, Try.ntmps9
    go_wp2_with (first | ((with_reducible refine gate_dst (N := 1) rfl ?_); (try (refine gate_guard (by rfl) ?_; dsimp only)); refine box_event ?hg (N := 1) ?hd (cs := #[.slice A0_0 l0_0.length c0_0, .slice A0_1 l0_1.length c0_1]) (t := 27) ?hr ?_; (case hd => rfl); (case hg => rfl); (case hr => first | (go_simp; done) | (go_simp; rfl)); intro gb107 hg w3 hbox hb; have n0_ := Aside0.mk (below_step (by repeat (first | (with_reducible first | exact HB.out | apply below_alloc | apply pw_below_drewN | apply below_drew1) | exact HB.out)) hb); have n1_ := Aside0.mk (hbox); have n2_ := Aside0.mk ((by rw [hg]; exact (below_size (by repeat (first | (with_reducible first | exact HB.out | apply below_alloc | apply pw_below_drewN | apply below_drew1) | exact HB.out))) : w.heap.size ≤ gb107)); have n3_ := Aside0.mk ((by rw [hg]; exact (below_size (by repeat (first | (with_reducible first | exact HB.out | apply below_alloc | apply pw_below_drewN | apply below_drew1) | exact HB.out))) : w.heap.size ≤ gb107)); clear HB; have HB := n0_; have BK107 := n1_; have GW107 := n2_; have GE107 := n3_; clear n0_ n1_ n2_ n3_; clear hb hbox hg; have hcz4_0 : w3.cell? ⟨gb107, 0, none⟩ = some (.slice A0_0 l0_0.length c0_0) := (blk_cell BK107.out 0).trans rfl; have hcz4_1 : w3.cell? ⟨gb107, 1, none⟩ = some (.slice A0_1 l0_1.length c0_1) := (blk_cell BK107.out 1).trans rfl; have hfz4_0 := blk_frozen BK107.out 0; have hfz4_1 := blk_frozen BK107.out 1))
    go_ret
    exact ⟨by first | rfl | (simp [errW_none, errW_some] <;> rfl) | (simp [*, errW_none, errW_some] <;> rfl), by repeat (first | (with_reducible first | exact HB.out | apply below_alloc | apply pw_below_drewN | apply below_drew1 | refine below_set ?_ GE107.out) | exact HB.out)⟩
  · rw [if_neg c2] at H
    have c2b0 : decide (60 < (l0_0.length : Int)) = false := decide_eq_false c2
    have c2b1 : decide (60 < l0_0.length) = false := decide_eq_false (by omega)
    clear c2
    by_cases c5 : (l0_1.length : Int) > 60
    · rw [if_pos c5] at H
      have c5b0 : decide (60 < (l0_1.length : Int)) = true := decide_eq_true c5
      have c5b1 : decide (60 < l0_1.length) = true := decide_eq_true (by omega)
      clear c5
      obtain rfl := Option.some.inj H
      go_enter Try.func9, Try.ntmps9
      go_wp2_with (first | ((with_reducible refine gate_dst (N := 1) rfl ?_); (try (refine gate_guard (by rfl) ?_; dsimp only)); refine box_event ?hg (N := 1) ?hd (cs := #[.slice A0_0 l0_0.length c0_0, .slice A0_1 l0_1.length c0_1]) (t := 27) ?hr ?_; (case hd => rfl); (case hg => rfl); (case hr => first | (go_simp; done) | (go_simp; rfl)); intro gb107 hg w6 hbox hb; have n0_ := Aside0.mk (below_step (by repeat (first | (with_reducible first | exact HB.out | apply below_alloc | apply pw_below_drewN | apply below_drew1) | exact HB.out)) hb); have n1_ := Aside0.mk (hbox); have n2_ := Aside0.mk ((by rw [hg]; exact (below_size (by repeat (first | (with_reducible first | exact HB.out | apply below_alloc | apply pw_below_drewN | apply below_drew1) | exact HB.out))) : w.heap.size ≤ gb107)); have n3_ := Aside0.mk ((by rw [hg]; exact (below_size (by repeat (first | (with_reducible first | exact HB.out | apply below_alloc | apply pw_below_drewN | apply below_drew1) | exact HB.out))) : w.heap.size ≤ gb107)); clear HB; have HB := n0_; have BK107 := n1_; have GW107 := n2_; have GE107 := n3_; clear n0_ n1_ n2_ n3_; clear hb hbox hg; have hcz7_0 : w6.cell? ⟨gb107, 0, none⟩ = some (.slice A0_0 l0_0.length c0_0) := (blk_cell BK107.out 0).trans rfl; have hcz7_1 : w6.cell? ⟨gb107, 1, none⟩ = some (.slice A0_1 l0_1.length c0_1) := (blk_cell BK107.out 1).trans rfl; have hfz7_0 := blk_frozen BK107.out 0; have hfz7_1 := blk_frozen BK107.out 1))
      go_ret
      exact ⟨by first | rfl | (simp [errW_none, errW_some] <;> rfl) | (simp [*, errW_none, errW_some] <;> rfl), by repeat (first | (with_reducible first | exact HB.out | apply below_alloc | apply pw_below_drewN | apply below_drew1 | refine below_set ?_ GE107.out) | exact HB.out)⟩
    · rw [if_neg c5] at H
      have c5b0 : decide (60 < (l0_1.length : Int)) = false := decide_eq_false c5
      have c5b1 : decide (60 < l0_1.length) = false := decide_eq_false (by omega)
      clear c5
      obtain rfl := Option.some.inj H
      go_enter Try.func9, Try.ntmps9
      go_wp2_with (first | ((with_reducible refine gate_dst (N := 1) rfl ?_); (try (refine gate_guard (by rfl) ?_; dsimp only)); refine box_event ?hg (N := 1) ?hd (cs := #[.slice A0_0 l0_0.length c0_0, .slice A0_1 l0_1.length c0_1]) (t := 27) ?hr ?_; (case hd => rfl); (case hg => rfl); (case hr => first | (go_simp; done) | (go_simp; rfl)); intro gb107 hg w8 hbox hb; have n0_ := Aside0.mk (below_step (by repeat (first | (with_reducible first | exact HB.out | apply below_alloc | apply pw_below_drewN | apply below_drew1) | exact HB.out)) hb); have n1_ := Aside0.mk (hbox); have n2_ := Aside0.mk ((by rw [hg]; exact (below_size (by repeat (first | (with_reducible first | exact HB.out | apply below_alloc | apply pw_below_drewN | apply below_drew1) | exact HB.out))) : w.heap.size ≤ gb107)); have n3_ := Aside0.mk ((by rw [hg]; exact (below_size (by repeat (first | (with_reducible first | exact HB.out | apply below_alloc | apply pw_below_drewN | apply below_drew1) | exact HB.out))) : w.heap.size ≤ gb107)); clear HB; have HB := n0_; have BK107 := n1_; have GW107 := n2_; have GE107 := n3_; clear n0_ n1_ n2_ n3_; clear hb hbox hg; have hcz9_0 : w8.cell? ⟨gb107, 0, none⟩ = some (.slice A0_0 l0_0.length c0_0) := (blk_cell BK107.out 0).trans rfl; have hcz9_1 : w8.cell? ⟨gb107, 1, none⟩ = some (.slice A0_1 l0_1.length c0_1) := (blk_cell BK107.out 1).trans rfl; have hfz9_0 := blk_frozen BK107.out 0; have hfz9_1 := blk_frozen BK107.out 1))
      go_ret
      exact ⟨by first | rfl | (simp [errW_none, errW_some] <;> rfl) | (simp [*, errW_none, errW_some] <;> rfl), by repeat (first | (with_reducible first | exact HB.out | apply below_alloc | apply pw_below_drewN | apply below_drew1 | refine below_set ?_ GE107.out) | exact HB.out)⟩

def formula_timed.f (a0 : Int) : Option (Bool) := if a0 ≥ 6 then (some (decide (a0 ≤ 8))) else (some false)
set_option maxHeartbeats 8000000 in
set_option maxRecDepth 100000 in
theorem formula_timed.calls (a0 : Int) (r : Bool) (w : World) (h : formula_timed.f a0 = some r) :
    Calls Try.prog 66 #[.int .i64 a0] w fun e w' => e = .returned (.bool r) ∧ Drawn0 w w' := by
  have H : (if a0 ≥ 6 then (some (decide (a0 ≤ 8))) else (some false)) = some r := h
  clear h
  by_cases c2 : a0 ≥ 6
  · rw [if_pos c2] at H
    have c2b0 : decide (6 ≤ a0) = true := decide_eq_true c2
    clear c2
    obtain rfl := Option.some.inj H
    go_enter Try.func66, Try.ntmps66
    go_wp2
    go_ret
    exact ⟨by first | rfl | (simp; done) | (simp [*]; done), by repeat (first | exact Drawn0.refl _ | apply Drawn0.step)⟩
  · rw [if_neg c2] at H
    have c2b0 : decide (6 ≤ a0) = false := decide_eq_false c2
    clear c2
    obtain rfl := Option.some.inj H
    go_enter Try.func66, Try.ntmps66
    go_wp2
    go_ret
    exact ⟨by first | rfl | (simp; done) | (simp [*]; done), by repeat (first | exact Drawn0.refl _ | apply Drawn0.step)⟩

end Go.Proofs.Ytegaicoddnmemaa.P

namespace Go.Proofs.Ytegaicoddnmemaa.P
open Go.RowKit Go.Proofs.YtegaicoddnmemaaW.PrintWords Go.Proofs.YtegaicoddnmemaaW.PrintLast Go.Proofs.YtegaicoddnmemaaW.PrintMore
attribute [local go_sem] max2_int min2_int max_two min_two max_three min_three max_four min_four   -- for this text's walks alone
set_option linter.unusedVariables false
set_option linter.unusedSimpArgs false

def parryref22_MayWord.f (l0_0 : List Int) (l0_1 : List Int) : Option (Bool) := if (l0_0.length : Int) ≤ 3000 then (if (l0_1.length : Int) ≥ 1 then (some (decide ((l0_1.length : Int) ≤ 27000))) else (some false)) else (some false)
set_option maxHeartbeats 8000000 in
set_option maxRecDepth 100000 in
theorem parryref22_MayWord.calls (A0_0 : Option Addr) (c0_0 : Nat) (l0_0 : List Int) (A0_1 : Option Addr) (c0_1 : Nat) (l0_1 : List Int) (r : Bool) (w : World) (hr0_0 : Kd.C (Kd.int .u32) w A0_0 l0_0.length l0_0) (hc0_0 : l0_0.length ≤ c0_0) (hr0_1 : Kd.C (Kd.int .u32) w A0_1 l0_1.length l0_1) (hc0_1 : l0_1.length ≤ c0_1) (h : parryref22_MayWord.f l0_0 l0_1 = some r) :
    Calls Try.prog 29 #[.agg #[.slice A0_0 l0_0.length c0_0, .slice A0_1 l0_1.length c0_1]] w fun e w' => e = .returned (.bool r) ∧ Below w.heap.size w w' := by
  have hu27 := Try.underlying27
  have HR0_0 := Aside0.mk hr0_0
  have HC0_0 := Aside0.mk hc0_0
  clear hr0_0 hc0_0
  have HR0_1 := Aside0.mk hr0_1
  have HC0_1 := Aside0.mk hc0_1
  clear hr0_1 hc0_1
  have HB := Aside0.mk (Below.refl w.heap.size w)
  have H : (if (l0_0.length : Int) ≤ 3000 then (if (l0_1.length : Int) ≥ 1 then (some (decide ((l0_1.length : Int) ≤ 27000))) else (some false)) else (some false)) = some r := h
  clear h
  by_cases c2 : (l0_0.length : Int) ≤ 3000
  · rw [if_pos c2] at H
    have c2b0 : decide ((l0_0.length : Int) ≤ 3000) = true := decide_eq_true c2
    have c2b1 : decide (l0_0.length ≤ 3000) = true := decide_eq_true (by omega)
    clear c2
    by_cases c3 : (l0_1.length : Int) ≥ 1
    · rw [if_pos c3] at H
      have c3b0 : decide (1 ≤ (l0_1.length : Int)) = true := decide_eq_true c3
      have c3b1 : decide (1 ≤ l0_1.length) = true := decide_eq_true (by omega)
      clear c3
      obtain rfl := Option.some.inj H
      go_enter Try.func29, Try.ntmps29
      go_wp2_with (first | ((with_reducible refine gate_dst (N := 1) rfl ?_); (try (refine gate_guard (by rfl) ?_; dsimp only)); refine box_event ?hg (N := 1) ?hd (cs := #[.slice A0_0 l0_0.length c0_0, .slice A0_1 l0_1.length c0_1]) (t := 27) ?hr ?_; (case hd => rfl); (case hg => rfl); (case hr => first | (go_simp; done) | (go_simp; rfl)); intro gb181 hg w4 hbox hb; have n0_ := Aside0.mk (below_step (by repeat (first | (with_reducible first | exact HB.out | apply below_alloc | apply pw_below_drewN | apply below_drew1) | exact HB.out)) hb); have n1_ := Aside0.mk (hbox); have n2_ := Aside0.mk ((by rw [hg]; exact (below_size (by repeat (first | (with_reducible first | exact HB.out | apply below_alloc | apply pw_below_drewN | apply below_drew1) | exact HB.out))) : w.heap.size ≤ gb181)); have n3_ := Aside0.mk ((by rw [hg]; exact (below_size (by repeat (first | (with_reducible first | exact HB.out | apply below_alloc | apply pw_below_drewN | apply below_drew1) | exact HB.out))) : w.heap.size ≤ gb181)); clear HB; have HB := n0_; have BK181 := n1_; have GW181 := n2_; have GE181 := n3_; clear n0_ n1_ n2_ n3_; clear hb hbox hg; have hcz5_0 : w4.cell? ⟨gb181, 0, none⟩ = some (.slice A0_0 l0_0.length c0_0) := (blk_cell BK181.out 0).trans rfl; have hcz5_1 : w4.cell? ⟨gb181, 1, none⟩ = some (.slice A0_1 l0_1.length c0_1) := (blk_cell BK181.out 1).trans rfl; have hfz5_0 := blk_frozen BK181.out 0; have hfz5_1 := blk_frozen BK181.out 1))
      go_ret
      exact ⟨by first | rfl | (simp [errW_none, errW_some] <;> rfl) | (simp [*, errW_none, errW_some] <;> rfl), by repeat (first | (with_reducible first | exact HB.out | apply below_alloc | apply pw_below_drewN | apply below_drew1 | refine below_set ?_ GE181.out) | exact HB.out)⟩
    · rw [if_neg c3] at H
      have c3b0 : decide (1 ≤ (l0_1.length : Int)) = false := decide_eq_false c3
      have c3b1 : decide (1 ≤ l0_1.length) = false := decide_eq_false (by omega)
      clear c3
      obtain rfl := Option.some.inj H
      go_enter Try.func29, Try.ntmps29
      go_wp2_with (first | ((with_reducible refine gate_dst (N := 1) rfl ?_); (try (refine gate_guard (by rfl) ?_; dsimp only)); refine box_event ?hg (N := 1) ?hd (cs := #[.slice A0_0 l0_0.length c0_0, .slice A0_1 l0_1.length c0_1]) (t := 27) ?hr ?_; (case hd => rfl); (case hg => rfl); (case hr => first | (go_simp; done) | (go_simp; rfl)); intro gb181 hg w6 hbox hb; have n0_ := Aside0.mk (below_step (by repeat (first | (with_reducible first | exact HB.out | apply below_alloc | apply pw_below_drewN | apply below_drew1) | exact HB.out)) hb); have n1_ := Aside0.mk (hbox); have n2_ := Aside0.mk ((by rw [hg]; exact (below_size (by repeat (first | (with_reducible first | exact HB.out | apply below_alloc | apply pw_below_drewN | apply below_drew1) | exact HB.out))) : w.heap.size ≤ gb181)); have n3_ := Aside0.mk ((by rw [hg]; exact (below_size (by repeat (first | (with_reducible first | exact HB.out | apply below_alloc | apply pw_below_drewN | apply below_drew1) | exact HB.out))) : w.heap.size ≤ gb181)); clear HB; have HB := n0_; have BK181 := n1_; have GW181 := n2_; have GE181 := n3_; clear n0_ n1_ n2_ n3_; clear hb hbox hg; have hcz7_0 : w6.cell? ⟨gb181, 0, none⟩ = some (.slice A0_0 l0_0.length c0_0) := (blk_cell BK181.out 0).trans rfl; have hcz7_1 : w6.cell? ⟨gb181, 1, none⟩ = some (.slice A0_1 l0_1.length c0_1) := (blk_cell BK181.out 1).trans rfl; have hfz7_0 := blk_frozen BK181.out 0; have hfz7_1 := blk_frozen BK181.out 1))
      go_ret
      exact ⟨by first | rfl | (simp [errW_none, errW_some] <;> rfl) | (simp [*, errW_none, errW_some] <;> rfl), by repeat (first | (with_reducible first | exact HB.out | apply below_alloc | apply pw_below_drewN | apply below_drew1 | refine below_set ?_ GE181.out) | exact HB.out)⟩
  · rw [if_neg c2] at H
    have c2b0 : decide ((l0_0.length : Int) ≤ 3000) = false := decide_eq_false c2
    have c2b1 : decide (l0_0.length ≤ 3000) = false := decide_eq_false (by omega)
    clear c2
    obtain rfl := Option.some.inj H
    go_enter Try.func29, Try.ntmps29
    go_wp2_with (first | ((with_reducible refine gate_dst (N := 1) rfl ?_); (try (refine gate_guard (by rfl) ?_; dsimp only)); refine box_event ?hg (N := 1) ?hd (cs := #[.slice A0_0 l0_0.length c0_0, .slice A0_1 l0_1.length c0_1]) (t := 27) ?hr ?_; (case hd => rfl); (case hg => rfl); (case hr => first | (go_simp; done) | (go_simp; rfl)); intro gb181 hg w8 hbox hb; have n0_ := Aside0.mk (below_step (by repeat (first | (with_reducible first | exact HB.out | apply below_alloc | apply pw_below_drewN | apply below_drew1) | exact HB.out)) hb); have n1_ := Aside0.mk (hbox); have n2_ := Aside0.mk ((by rw [hg]; exact (below_size (by repeat (first | (with_reducible first | exact HB.out | apply below_alloc | apply pw_below_drewN | apply below_drew1) | exact HB.out))) : w.heap.size ≤ gb181)); have n3_ := Aside0.mk ((by rw [hg]; exact (below_size (by repeat (first | (with_reducible first | exact HB.out | apply below_alloc | apply pw_below_drewN | apply below_drew1) | exact HB.out))) : w.heap.size ≤ gb181)); clear HB; have HB := n0_; have BK181 := n1_; have GW181 := n2_; have GE181 := n3_; clear n0_ n1_ n2_ n3_; clear hb hbox hg; have hcz9_0 : w8.cell? ⟨gb181, 0, none⟩ = some (.slice A0_0 l0_0.length c0_0) := (blk_cell BK181.out 0).trans rfl; have hcz9_1 : w8.cell? ⟨gb181, 1, none⟩ = some (.slice A0_1 l0_1.length c0_1) := (blk_cell BK181.out 1).trans rfl; have hfz9_0 := blk_frozen BK181.out 0; have hfz9_1 := blk_frozen BK181.out 1))
    go_ret
    exact ⟨by first | rfl | (simp [errW_none, errW_some] <;> rfl) | (simp [*, errW_none, errW_some] <;> rfl), by repeat (first | (with_reducible first | exact HB.out | apply below_alloc | apply pw_below_drewN | apply below_drew1 | refine below_set ?_ GE181.out) | exact HB.out)⟩

def parryref22_letter.f (l0_0 : List Int) (l0_1 : List Int) (a1 : Int) : Option (Int) := if a1 < (l0_0.length : Int) then (if 0 ≤ a1 then (some (rd l0_0 a1)) else (none)) else (if 0 ≤ (wrap64 (a1 - (l0_0.length : Int))) then (if (wrap64 (a1 - (l0_0.length : Int))) < (l0_1.length : Int) then (some (rd l0_1 (wrap64 (a1 - (l0_0.length : Int))))) else (none)) else (none))
set_option maxHeartbeats 8000000 in
set_option maxRecDepth 100000 in
theorem parryref22_letter.calls (A0_0 : Option Addr) (c0_0 : Nat) (l0_0 : List Int) (A0_1 : Option Addr) (c0_1 : Nat) (l0_1 : List Int) (a1 : Int) (r : Int) (w : World) (hr0_0 : Kd.C (Kd.int .u32) w A0_0 l0_0.length l0_0) (hc0_0 : l0_0.length ≤ c0_0) (hr0_1 : Kd.C (Kd.int .u32) w A0_1 l0_1.length l0_1) (hc0_1 : l0_1.length ≤ c0_1) (h : parryref22_letter.f l0_0 l0_1 a1 = some r) :
    Calls Try.prog 45 #[.agg #[.slice A0_0 l0_0.length c0_0, .slice A0_1 l0_1.length c0_1], .int .i64 a1] w fun e w' => e = .returned (.int .u32 r) ∧ Below w.heap.size w w' := by
  have hu27 := Try.underlying27
  have HR0_0 := Aside0.mk hr0_0
  have HC0_0 := Aside0.mk hc0_0
  clear hr0_0 hc0_0
  have HR0_1 := Aside0.mk hr0_1
  have HC0_1 := Aside0.mk hc0_1
  clear hr0_1 hc0_1
  have HB := Aside0.mk (Below.refl w.heap.size w)
  have H : (if a1 < (l0_0.length : Int) then (if 0 ≤ a1 then (some (rd l0_0 a1)) else (none)) else (if 0 ≤ (wrap64 (a1 - (l0_0.length : Int))) then (if (wrap64 (a1 - (l0_0.length : Int))) < (l0_1.length : Int) then (some (rd l0_1 (wrap64 (a1 - (l0_0.length : Int))))) else (none)) else (none))) = some r := h
  clear h
  by_cases c3 : a1 < (l0_0.length : Int)
  · rw [if_pos c3] at H
    have c3b0 : decide (a1 < (l0_0.length : Int)) = true := decide_eq_true c3
    clear c3
    by_cases c4 : 0 ≤ a1
    · rw [if_pos c4] at H
      have c4b0 : decide (0 ≤ a1) = true := decide_eq_true c4
      clear c4
      obtain rfl := Option.some.inj H
      go_enter Try.func45, Try.ntmps45
      go_wp2_with (first | ((with_reducible refine gate_dst (N := 2) rfl ?_); refine box_event ?hg (N := 2) ?hd (cs := #[.slice A0_0 l0_0.length c0_0, .slice A0_1 l0_1.length c0_1]) (t := 27) ?hr ?_; (case hd => rfl); (case hg => rfl); (case hr => first | (go_simp; done) | (go_simp; rfl)); intro gb186 hg w5 hbox hb; have n0_ := Aside0.mk (below_step (by repeat (first | (with_reducible first | exact HB.out | apply below_alloc | apply pw_below_drewN | apply below_drew1) | exact HB.out)) hb); have n1_ := Aside0.mk (hbox); have n2_ := Aside0.mk ((by rw [hg]; exact (below_size (by repeat (first | (with_reducible first | exact HB.out | apply below_alloc | apply pw_below_drewN | apply below_drew1) | exact HB.out))) : w.heap.size ≤ gb186)); have n3_ := Aside0.mk ((by rw [hg]; exact (below_size (by repeat (first | (with_reducible first | exact HB.out | apply below_alloc | apply pw_below_drewN | apply below_drew1) | exact HB.out))) : w.heap.size ≤ gb186)); clear HB; have HB := n0_; have BK186 := n1_; have GW186 := n2_; have GE186 := n3_; clear n0_ n1_ n2_ n3_; clear hb hbox hg; have hcz6_0 : w5.cell? ⟨gb186, 0, none⟩ = some (.slice A0_0 l0_0.length c0_0) := (blk_cell BK186.out 0).trans rfl; have hcz6_1 : w5.cell? ⟨gb186, 1, none⟩ = some (.slice A0_1 l0_1.length c0_1) := (blk_cell BK186.out 1).trans rfl; have hfz6_0 := blk_frozen BK186.out 0; have hfz6_1 := blk_frozen BK186.out 1; have p187 : 0 ≤ (a1 : Int) := of_decide_eq_true (by first | (with_reducible assumption) | assumption); have q187 : a1 < (l0_0.length : Int) := of_decide_eq_true (by first | (with_reducible assumption) | assumption); obtain ⟨ad187, e187, hx187_0⟩ := Kd.at_int HR0_0.out a1 p187 q187; cases e187; replace hx187_0 := (HB.out.cell (World.block_lt_of_cell? w _ hx187_0)).trans hx187_0; replace p187 := eq_true p187; replace q187 := eq_true q187))
      go_ret
      exact ⟨by first | rfl | (simp [errW_none, errW_some] <;> rfl) | (simp [*, errW_none, errW_some] <;> rfl), by repeat (first | (with_reducible first | exact HB.out | apply below_alloc | apply pw_below_drewN | apply below_drew1 | refine below_set ?_ GE186.out) | exact HB.out)⟩
    · rw [if_neg c4] at H
      exact absurd H (by simp)
  · rw [if_neg c3] at H
    have c3b0 : decide (a1 < (l0_0.length : Int)) = false := decide_eq_false c3
    clear c3
    obtain ⟨ji7, hji7⟩ : ∃ j_ : Int, (wrap64 (a1 - (l0_0.length : Int))) = j_ := ⟨_, rfl⟩
    replace H : (if 0 ≤ (ji7) then (if (ji7) < (l0_1.length : Int) then (some (rd l0_1 (ji7))) else (none)) else (none)) = some r := by first | (rw [hji7] at H; exact H) | (simp only [hji7] at H ⊢; exact H)
    have hji7w : (IntKind.i64.wrap (a1 - (l0_0.length : Int))) = ji7 := (i64_w _).trans hji7
    by_cases c8 : 0 ≤ (ji7)
    · rw [if_pos c8] at H
      have c8b0 : decide (0 ≤ (ji7)) = true := decide_eq_true c8
      clear c8
      by_cases c9 : (ji7) < (l0_1.length : Int)
      · rw [if_pos c9] at H
        have c9b0 : decide ((ji7) < (l0_1.length : Int)) = true := decide_eq_true c9
        clear c9
        obtain rfl := Option.some.inj H
        go_enter Try.func45, Try.ntmps45
        go_wp2_with (first | ((with_reducible refine gate_dst (N := 2) rfl ?_); refine box_event ?hg (N := 2) ?hd (cs := #[.slice A0_0 l0_0.length c0_0, .slice A0_1 l0_1.length c0_1]) (t := 27) ?hr ?_; (case hd => rfl); (case hg => rfl); (case hr => first | (go_simp; done) | (go_simp; rfl)); intro gb186 hg w10 hbox hb; have n0_ := Aside0.mk (below_step (by repeat (first | (with_reducible first | exact HB.out | apply below_alloc | apply pw_below_drewN | apply below_drew1) | exact HB.out)) hb); have n1_ := Aside0.mk (hbox); have n2_ := Aside0.mk ((by rw [hg]; exact (below_size (by repeat (first | (with_reducible first | exact HB.out | apply below_alloc | apply pw_below_drewN | apply below_drew1) | exact HB.out))) : w.heap.size ≤ gb186)); have n3_ := Aside0.mk ((by rw [hg]; exact (below_size (by repeat (first | (with_reducible first | exact HB.out | apply below_alloc | apply pw_below_drewN | apply below_drew1) | exact HB.out))) : w.heap.size ≤ gb186)); clear HB; have HB := n0_; have BK186 := n1_; have GW186 := n2_; have GE186 := n3_; clear n0_ n1_ n2_ n3_; clear hb hbox hg; have hcz11_0 : w10.cell? ⟨gb186, 0, none⟩ = some (.slice A0_0 l0_0.length c0_0) := (blk_cell BK186.out 0).trans rfl; have hcz11_1 : w10.cell? ⟨gb186, 1, none⟩ = some (.slice A0_1 l0_1.length c0_1) := (blk_cell BK186.out 1).trans rfl; have hfz11_0 := blk_frozen BK186.out 0; have hfz11_1 := blk_frozen BK186.out 1; have p188 : 0 ≤ ((ji7) : Int) := of_decide_eq_true (by first | (with_reducible assumption) | assumption); have q188 : (ji7) < (l0_1.length : Int) := of_decide_eq_true (by first | (with_reducible assumption) | assumption); obtain ⟨ad188, e188, hx188_0⟩ := Kd.at_int HR0_1.out (ji7) p188 q188; cases e188; replace hx188_0 := (HB.out.cell (World.block_lt_of_cell? w _ hx188_0)).trans hx188_0; replace p188 := eq_true p188; replace q188 := eq_true q188))
        go_ret
        exact ⟨by first | rfl | (simp [errW_none, errW_some] <;> rfl) | (simp only [← hji7]; first | rfl | (simp [errW_none, errW_some] <;> rfl)) | (simp [*, errW_none, errW_some] <;> rfl), by repeat (first | (with_reducible first | exact HB.out | apply below_alloc | apply pw_below_drewN | apply below_drew1 | refine below_set ?_ GE186.out) | exact HB.out)⟩
      · rw [if_neg c9] at H
        exact absurd H (by simp)
    · rw [if_neg c8] at H
      exact absurd H (by simp)

def parryref9_SameInts.l0 : Nat → List Int → List Int → Int → Int → Option (Bool)
  | 0, _, _, _, _ => none
  | k + 1, x0, x1, x12, x13 => if x13 < x12 then (if 0 ≤ x13 then (if x13 < (x0.length : Int) then (if x13 < (x1.length : Int) then (if (rd x0 x13) = (rd x1 x13) then (parryref9_SameInts.l0 k x0 x1 x12 (wrap64 (x13 + 1))) else (some false)) else (none)) else (none)) else (none)) else (some true)
def parryref9_SameInts.f (k : Nat) (l0 : List Int) (l1 : List Int) : Option (Bool) := if (l0.length : Int) = (l1.length : Int) then (parryref9_SameInts.l0 k l0 l1 (l0.length : Int) 0) else (some false)
theorem parryref9_SameInts.mono_l : ∀ k, (∀ y0 y1 y2 y3, LeO (parryref9_SameInts.l0 k y0 y1 y2 y3) (parryref9_SameInts.l0 (k + 1) y0 y1 y2 y3))
  | 0 => fun _ _ _ _ r h => by simp [parryref9_SameInts.l0] at h
  | k + 1 => by
    have ih0 := parryref9_SameInts.mono_l k
    · intro y0 y1 y2 y3
      unfold parryref9_SameInts.l0
      repeat' first
      | (with_reducible exact ih0 _ _ _ _)
      | (with_reducible exact LeO.refl _)
      | (with_reducible exact LeO.none _)
      | (with_reducible refine LeO.ite ?_ ?_)
      | (with_reducible refine LeO.bind ?_ (fun _ => ?_))
      | exact ih0 _ _ _ _
      | exact LeO.none _
      | refine LeO.ite ?_ ?_
      | refine LeO.bind ?_ (fun _ => ?_)
theorem parryref9_SameInts.mono : ∀ a0 a1 k, LeO (parryref9_SameInts.f k a0 a1) (parryref9_SameInts.f (k + 1) a0 a1) := by
  intro a0 a1 k
  have ih0 := parryref9_SameInts.mono_l k
  unfold parryref9_SameInts.f
  repeat' first
      | (with_reducible exact ih0 _ _ _ _)
      | (with_reducible exact LeO.refl _)
      | (with_reducible exact LeO.none _)
      | (with_reducible refine LeO.ite ?_ ?_)
      | (with_reducible refine LeO.bind ?_ (fun _ => ?_))
      | exact ih0 _ _ _ _
      | exact LeO.none _
      | refine LeO.ite ?_ ?_
      | refine LeO.bind ?_ (fun _ => ?_)
set_option maxHeartbeats 8000000 in
set_option maxRecDepth 100000 in
theorem parryref9_SameInts.calls (k : Nat) (A0 : Option Addr) (c0 : Nat) (l0 : List Int) (A1 : Option Addr) (c1 : Nat) (l1 : List Int) (r : Bool) (w : World) (hr0 : Kd.C (Kd.int .i64) w A0 l0.length l0) (hc0 : l0.length ≤ c0) (hr1 : Kd.C (Kd.int .i64) w A1 l1.length l1) (hc1 : l1.length ≤ c1) (h : parryref9_SameInts.f k l0 l1 = some r) :
    Calls Try.prog 13 #[.slice A0 l0.length c0, .slice A1 l1.length c1] w fun e w' => e = .returned (.bool r) ∧ Drawn0 w w' := by
  have HR0 := Aside0.mk hr0
  have HC0 := Aside0.mk hc0
  clear hr0 hc0
  have HR1 := Aside0.mk hr1
  have HC1 := Aside0.mk hc1
  clear hr1 hc1
  have H : (if (l0.length : Int) = (l1.length : Int) then (parryref9_SameInts.l0 k l0 l1 (l0.length : Int) 0) else (some false)) = some r := h
  clear h
  by_cases c3 : (l0.length : Int) = (l1.length : Int)
  · rw [if_pos c3] at H
    have c3b0 : ((l0.length : Int) == (l1.length : Int)) = true := beq_iff_eq.mpr c3
    have c3b1 : ((l0.length : Int) != (l1.length : Int)) = false := bne_eq_false_iff_eq.mpr c3
    have c3b2 : (l0.length == l1.length) = true := by first | simpa using c3 | (simp at c3 ⊢; omega)
    clear c3
    have H' := Aside0.mk H
    clear H
    go_enter Try.func13, Try.ntmps13
    go_wp2
    repeat (go_quiet (fail); try go_wp2)
    go_loopg [13] k (fun kq v13 w' => ∃ (x13_1 : Int), v13 = .int .i64 x13_1 ∧ Aside0 (parryref9_SameInts.l0 kq l0 l1 (l0.length : Int) x13_1 = some r) ∧ Aside0 (kq ≤ k) ∧ Drawn0 w w')
    case atStart => exact ⟨(0), (by first | rfl | (simp; done) | (simp [*]; done)), H', ⟨Nat.le_refl _⟩, by repeat (first | exact Drawn0.refl _ | apply Drawn0.step)⟩
    case round =>
      clear H'
      try clear c1
      try clear p2
      try clear c3
      try clear c3b0
      try clear c3b1
      try clear c3b2
      obtain ⟨x13_1, rfl, HA, HK1, ⟨m1, rfl⟩⟩ := hrel
      cases gk with
      | zero => exact absurd HA.out (by simp [parryref9_SameInts.l0])
      | succ k1 =>
        have H := HA.out
        clear HA
        simp only [parryref9_SameInts.l0] at H
        by_cases c4 : x13_1 < (l0.length : Int)
        · rw [if_pos c4] at H
          have c4b0 : decide (x13_1 < (l0.length : Int)) = true := decide_eq_true c4
          clear c4
          by_cases c5 : 0 ≤ x13_1
          · rw [if_pos c5] at H
            have c5b0 : decide (0 ≤ x13_1) = true := decide_eq_true c5
            clear c5
            by_cases c6 : x13_1 < (l0.length : Int)
            · rw [if_pos c6] at H
              have c6b0 : decide (x13_1 < (l0.length : Int)) = true := decide_eq_true c6
              clear c6
              by_cases c7 : x13_1 < (l1.length : Int)
              · rw [if_pos c7] at H
                have c7b0 : decide (x13_1 < (l1.length : Int)) = true := decide_eq_true c7
                clear c7
                by_cases c8 : (rd l0 x13_1) = (rd l1 x13_1)
                · rw [if_pos c8] at H
                  have c8b0 : ((rd l0 x13_1) == (rd l1 x13_1)) = true := beq_iff_eq.mpr c8
                  have c8b1 : ((rd l0 x13_1) != (rd l1 x13_1)) = false := bne_eq_false_iff_eq.mpr c8
                  clear c8
                  have H' := Aside0.mk H
                  clear H
                  have p189 : 0 ≤ (x13_1 : Int) := of_decide_eq_true (by first | (with_reducible assumption) | assumption)
                  have q189 : x13_1 < (l0.length : Int) := of_decide_eq_true (by first | (with_reducible assumption) | assumption)
                  obtain ⟨ad189, e189, hx189_0⟩ := Kd.at_int HR0.out x13_1 p189 q189
                  cases e189
                  replace p189 := eq_true p189
                  replace q189 := eq_true q189
                  have p190 : 0 ≤ (x13_1 : Int) := of_decide_eq_true (by first | (with_reducible assumption) | assumption)
                  have q190 : x13_1 < (l1.length : Int) := of_decide_eq_true (by first | (with_reducible assumption) | assumption)
                  obtain ⟨ad190, e190, hx190_0⟩ := Kd.at_int HR1.out x13_1 p190 q190
                  cases e190
                  replace p190 := eq_true p190
                  replace q190 := eq_true q190
                  go_wp2
                  repeat (go_quiet (fail); try go_wp2)
                  go_roundg k1
                  case measure => have := HK1.out; omega
                  case rel => exact ⟨(wrap64 (x13_1 + 1)), (by first | rfl | (simp; done) | (simp [*]; done)), H', ⟨by have := HK1.out; omega⟩, by repeat (first | exact Drawn0.refl _ | apply Drawn0.step)⟩
                · rw [if_neg c8] at H
                  have c8b0 : ((rd l0 x13_1) == (rd l1 x13_1)) = false := beq_eq_false_iff_ne.mpr c8
                  have c8b1 : ((rd l0 x13_1) != (rd l1 x13_1)) = true := bne_iff_ne.mpr c8
                  obtain rfl := Option.some.inj H
                  have p189 : 0 ≤ (x13_1 : Int) := of_decide_eq_true (by first | (with_reducible assumption) | assumption)
                  have q189 : x13_1 < (l0.length : Int) := of_decide_eq_true (by first | (with_reducible assumption) | assumption)
                  obtain ⟨ad189, e189, hx189_0⟩ := Kd.at_int HR0.out x13_1 p189 q189
                  cases e189
                  replace p189 := eq_true p189
                  replace q189 := eq_true q189
                  have p190 : 0 ≤ (x13_1 : Int) := of_decide_eq_true (by first | (with_reducible assumption) | assumption)
                  have q190 : x13_1 < (l1.length : Int) := of_decide_eq_true (by first | (with_reducible assumption) | assumption)
                  obtain ⟨ad190, e190, hx190_0⟩ := Kd.at_int HR1.out x13_1 p190 q190
                  cases e190
                  replace p190 := eq_true p190
                  replace q190 := eq_true q190
                  go_wp2
                  repeat (go_quiet (fail); try go_wp2)
                  go_ret
                  exact ⟨by first | rfl | (simp; done) | (simp [*]; done), by repeat (first | exact Drawn0.refl _ | apply Drawn0.step)⟩
              · rw [if_neg c7] at H
                exact absurd H (by simp)
            · rw [if_neg c6] at H
              exact absurd H (by simp)
          · rw [if_neg c5] at H
            exact absurd H (by simp)
        · rw [if_neg c4] at H
          have c4b0 : decide (x13_1 < (l0.length : Int)) = false := decide_eq_false c4
          clear c4
          obtain rfl := Option.some.inj H
          go_wp2
          repeat (go_quiet (fail); try go_wp2)
          go_ret
          exact ⟨by first | rfl | (simp; done) | (simp [*]; done), by repeat (first | exact Drawn0.refl _ | apply Drawn0.step)⟩
  · rw [if_neg c3] at H
    have c3b0 : ((l0.length : Int) == (l1.length : Int)) = false := beq_eq_false_iff_ne.mpr c3
    have c3b1 : ((l0.length : Int) != (l1.length : Int)) = true := bne_iff_ne.mpr c3
    have c3b2 : (l0.length == l1.length) = false := by first | simpa using c3 | (simp at c3 ⊢; omega)
    obtain rfl := Option.some.inj H
    go_enter Try.func13, Try.ntmps13
    go_wp2
    repeat (go_quiet (fail); try go_wp2)
    go_ret
    exact ⟨by first | rfl | (simp; done) | (simp [*]; done), by repeat (first | exact Drawn0.refl _ | apply Drawn0.step)⟩

end Go.Proofs.Ytegaicoddnmemaa.P

namespace Go.Proofs.Ytegaicoddnmemaa.X
open Go.RowKit Go.Proofs.YtegaicoddnmemaaW.PrintWords
open Go.Proofs.Ytegaicoddnmemaa.P
set_option linter.unusedVariables false
set_option linter.unusedSimpArgs false
/-- What 'goes' counts. -/
structure Cnt where
  n : Int
  t : Int
  deep : Bool
def timedS (op : Int) : Bool := decide (6 ≤ op) && decide (op ≤ 8)
mutual
def goesS : S24 → Int → Cnt → Cnt
  | ⟨op, _, kids⟩, d, c => if d > 12 then ⟨c.n, c.t, true⟩ else goesL kids (d + 1) ⟨c.n + 1, if timedS op = true then c.t + 1 else c.t, c.deep⟩
def goesL : List S24 → Int → Cnt → Cnt
  | [], _, c => c
  | k :: r, d, c => if c.n > 60 then c else goesL r d (goesS k d c)
end
mutual
theorem goesS_le : ∀ (s : S24) (d : Int) (c : Cnt), 0 ≤ c.n → c.n ≤ 60 → 0 ≤ c.t → c.t ≤ c.n → c.n ≤ (goesS s d c).n ∧ (goesS s d c).n ≤ 61 ∧ 0 ≤ (goesS s d c).t ∧ (goesS s d c).t ≤ (goesS s d c).n
  | ⟨op, m, kids⟩, d, c, h0, h1, h2, h3 => by
    simp only [goesS]
    split
    · exact ⟨Int.le_refl _, by show c.n ≤ 61; omega, h2, h3⟩
    · have := goesL_le kids (d + 1) ⟨c.n + 1, if timedS op = true then c.t + 1 else c.t, c.deep⟩ (by show 0 ≤ c.n + 1; omega) (by show c.n + 1 ≤ 61; omega) (by show 0 ≤ (if timedS op = true then c.t + 1 else c.t); split <;> omega) (by show (if timedS op = true then c.t + 1 else c.t) ≤ c.n + 1; split <;> omega)
      exact ⟨by have := this.1; show c.n ≤ _; simp only at this; omega, this.2⟩
theorem goesL_le : ∀ (l : List S24) (d : Int) (c : Cnt), 0 ≤ c.n → c.n ≤ 61 → 0 ≤ c.t → c.t ≤ c.n → c.n ≤ (goesL l d c).n ∧ (goesL l d c).n ≤ 61 ∧ 0 ≤ (goesL l d c).t ∧ (goesL l d c).t ≤ (goesL l d c).n
  | [], d, c, h0, h1, h2, h3 => by simp only [goesL]; exact ⟨Int.le_refl _, h1, h2, h3⟩
  | k :: r, d, c, h0, h1, h2, h3 => by
    simp only [goesL]
    split
    · exact ⟨Int.le_refl _, h1, h2, h3⟩
    · have a := goesS_le k d c h0 (by omega) h2 h3
      have b := goesL_le r d (goesS k d c) (by omega) a.2.1 a.2.2.1 a.2.2.2
      exact ⟨by omega, b.2⟩
end
end Go.Proofs.Ytegaicoddnmemaa.X

namespace Go.Proofs.Ytegaicoddnmemaa.X
open Go.RowKit Go.Proofs.YtegaicoddnmemaaW.PrintWords Go.Proofs.YtegaicoddnmemaaW.PrintLast Go.Proofs.YtegaicoddnmemaaW.PrintMore
open Go.Proofs.Ytegaicoddnmemaa.P
set_option linter.unusedSimpArgs false
set_option linter.unusedVariables false
theorem timed_some (op : Int) : formula_timed.f op = some (timedS op) := by
  unfold formula_timed.f timedS
  split
  · rename_i h; rw [decide_eq_true (p := 6 ≤ op) h]; rfl
  · rename_i h; rw [decide_eq_false (p := 6 ≤ op) (by omega)]; rfl
/-- The count's block. -/
def IsCnt (w : World) (g : Nat) (c : Cnt) : Prop := w.heap[g]? = some (.cells #[.int .i64 c.n, .int .i64 c.t, .bool c.deep] 54 (0, 0))
set_option maxHeartbeats 1600000 in
theorem goes_deep (s : S24) (d : Int) (c : Cnt) (g : Nat) (A : Option Addr) (cp : Nat) (w0 w : World) (hd : 12 < d) (hI : IsCnt w g c) (hB : Below w0.heap.size w0 w) (hg0 : w0.heap.size ≤ g) :
    Calls Try.prog 47 #[.pointer (some ⟨g, 0, none⟩), .agg #[.int .i64 s.f0, .int .i64 s.f1, .slice A s.f2.length cp], .int .i64 d] w fun e w' => e = .returned (.tuple #[]) ∧ IsCnt w' g ⟨c.n, c.t, true⟩ ∧ Below w0.heap.size w0 w' ∧ KeepBut w w' g none := by
  have hg : g < w.heap.size := (Array.getElem?_eq_some_iff.1 hI).1
  have hu := Try.underlying24
  have huc := Try.underlying54
  have c0 : w.cell? ⟨g, 0, none⟩ = some (.int .i64 c.n) := (blk_cell hI 0).trans rfl
  have c1 : w.cell? ⟨g, 1, none⟩ = some (.int .i64 c.t) := (blk_cell hI 1).trans rfl
  have c2 : w.cell? ⟨g, 2, none⟩ = some (.bool c.deep) := (blk_cell hI 2).trans rfl
  have f2 : w.frozen? ⟨g, 2, none⟩ = false := blk_frozen hI 2
  have HI := Aside0.mk hI
  clear hI
  go_enter Try.func47, Try.ntmps47
  go_wp2
  first | go_end0 | ((try simp only [Exit.inBlock, Exit.then]); refine bodyPost_ret (results_none rfl _ _ _) rfl ?_)
  exact ⟨rfl, (blk_alloc (blk_set HI.out 2 _) _).trans rfl, below_alloc (hB.setCell hg0 _) _, keep_alloc (KeepBut.set_ (KeepBut.refl _ _ _) 2 _) _⟩
/-- One kid of a row that came in, in a later world. -/
theorem kid_at {w0 w : World} {A : Option Addr} {n : Nat} {xs : List S24} (h : Kd.C k24 w0 A n xs) (hb : Below w0.heap.size w0 w) (j : Nat) (hj : j < n) (hx : j < xs.length) :
    ∃ ad A2 c2, A = some ad ∧ w.cell? (ad.add (j * 3)) = some (.int .i64 (xs[j]'hx).f0) ∧ w.cell? ⟨(ad.add (j * 3)).block, (ad.add (j * 3)).off + 1, none⟩ = some (.int .i64 (xs[j]'hx).f1) ∧ w.cell? ⟨(ad.add (j * 3)).block, (ad.add (j * 3)).off + 2, none⟩ = some (.slice A2 (xs[j]'hx).f2.length c2) ∧ (xs[j]'hx).f2.length ≤ c2 ∧ Kd.C k24 w0 A2 (xs[j]'hx).f2.length (xs[j]'hx).f2 := by
  obtain ⟨ad, A2, c2, e, h0, h1, h2, hl, hk⟩ := at_T24 h (j : Int) (by omega) (by omega)
  have er : rd_T24 xs (j : Int) = xs[j]'hx := by
    unfold rd_T24
    rw [Int.toNat_natCast, List.getD_eq_getElem?_getD, List.getElem?_eq_getElem hx]; rfl
  rw [Int.toNat_natCast, er] at h0 h1 h2
  rw [er] at hl hk
  exact ⟨ad, A2, c2, e, (hb.cell (World.block_lt_of_cell? w0 _ h0)).trans h0, (hb.cell (World.block_lt_of_cell? w0 _ h1)).trans h1, (hb.cell (World.block_lt_of_cell? w0 _ h2)).trans h2, hl, hk⟩
def GoesAt (g : Nat) (w0 : World) (s : S24) : Prop := ∀ (d : Int) (c : Cnt) (A : Option Addr) (cp : Nat) (w : World), 1 ≤ d → d ≤ 13 → 0 ≤ c.n → c.n ≤ 60 → 0 ≤ c.t → c.t ≤ c.n → IsCnt w g c → Below w0.heap.size w0 w → w0.heap.size ≤ g → Kd.C k24 w0 A s.f2.length s.f2 → s.f2.length ≤ cp →
    Calls Try.prog 47 #[.pointer (some ⟨g, 0, none⟩), .agg #[.int .i64 s.f0, .int .i64 s.f1, .slice A s.f2.length cp], .int .i64 d] w fun e w' => e = .returned (.tuple #[]) ∧ IsCnt w' g (goesS s d c) ∧ Below w0.heap.size w0 w' ∧ KeepBut w w' g none
set_option maxHeartbeats 4000000 in
set_option maxRecDepth 100000 in
theorem goes_calls (g : Nat) (w0 : World) (s : S24) (ih : ∀ k ∈ s.f2, GoesAt g w0 k) : GoesAt g w0 s := by
  intro d c A cp w hd1 hd2 hn0 hn1 ht0 ht1 hI hB hg0 hr hc
  by_cases hd : 12 < d
  · refine (goes_deep s d c g A cp w0 w hd hI hB hg0).mono ?_
    rintro e w' ⟨rfl, h1, h2, h3⟩
    refine ⟨rfl, ?_, h2, h3⟩
    · cases s
      simp only [goesS]
      rw [if_pos hd]
      exact h1
  have hg : g < w.heap.size := (Array.getElem?_eq_some_iff.1 hI).1
  have hu := Try.underlying24
  have huc := Try.underlying54
  have c0 : w.cell? ⟨g, 0, none⟩ = some (.int .i64 c.n) := (blk_cell hI 0).trans rfl
  have c1 : w.cell? ⟨g, 1, none⟩ = some (.int .i64 c.t) := (blk_cell hI 1).trans rfl
  have c2 : w.cell? ⟨g, 2, none⟩ = some (.bool c.deep) := (blk_cell hI 2).trans rfl
  have f0 : w.frozen? ⟨g, 0, none⟩ = false := blk_frozen hI 0
  have f1 : w.frozen? ⟨g, 1, none⟩ = false := blk_frozen hI 1
  have HI := Aside0.mk hI
  have HR := Aside0.mk hr
  have HC := Aside0.mk hc
  have HB := Aside0.mk hB
  clear hI hr hc hB
  have hng : ¬ w.heap.size = g := by omega
  have hgo : goesS s d c = goesL s.f2 (d + 1) ⟨c.n + 1, if timedS s.f0 = true then c.t + 1 else c.t, c.deep⟩ := by
    cases s
    simp only [goesS]
    rw [if_neg hd]
  have HG := Aside0.mk hgo
  have hlen := Kd.C_max HR.out
  clear hgo
  have IH := Aside0.mk ih
  clear ih
  have hdd : ¬ 12 < d := hd
  by_cases ht : timedS s.f0 = true
  all_goals
    go_enter Try.func47, Try.ntmps47
    go_wp2_with (go_at_call 66; refine (formula_timed.calls _ (timedS s.f0) _ (timed_some _)).mono ?_; rintro e w1 ⟨rfl, hd0⟩; obtain ⟨m, rfl⟩ := hd0.out)
    go_loopg [33] s.f2.length (fun kq v33 w' => ∃ (j : Nat) (c' : Cnt), j + kq = s.f2.length ∧ v33 = .int .i64 j ∧ IsCnt w' g c' ∧ Aside0 (goesS s d c = goesL (s.f2.drop j) (d + 1) c') ∧ 0 ≤ c'.n ∧ c'.n ≤ 61 ∧ 0 ≤ c'.t ∧ c'.t ≤ c'.n ∧ Aside0 (Below w0.heap.size w0 w') ∧ Aside0 (KeepBut w w' g none))
    case atStart =>
      first
        | exact ⟨0, ⟨c.n + 1, c.t + 1, c.deep⟩, by omega, rfl, (blk_set (blk_drewN (blk_alloc (blk_set HI.out 0 _) _) m) 1 _).trans rfl, ⟨by rw [HG.out, if_pos ht]; rfl⟩, by show 0 ≤ c.n + 1; omega, by show c.n + 1 ≤ 61; omega, by show 0 ≤ c.t + 1; omega, by show c.t + 1 ≤ c.n + 1; omega, ⟨(pw_below_drewN (below_alloc (HB.out.setCell hg0 _) _) m).setCell hg0 _⟩, ⟨KeepBut.set_ (keep_drewN (keep_alloc (KeepBut.set_ (KeepBut.refl _ _ _) 0 _) _) m) 1 _⟩⟩
        | exact ⟨0, ⟨c.n + 1, c.t, c.deep⟩, by omega, rfl, (blk_drewN (blk_alloc (blk_set HI.out 0 _) _) m).trans rfl, ⟨by rw [HG.out, if_neg ht]; rfl⟩, by show 0 ≤ c.n + 1; omega, by show c.n + 1 ≤ 61; omega, ht0, by show c.t ≤ c.n + 1; omega, ⟨pw_below_drewN (below_alloc (HB.out.setCell hg0 _) _) m⟩, ⟨keep_drewN (keep_alloc (KeepBut.set_ (KeepBut.refl _ _ _) 0 _) _) m⟩⟩
    case round =>
      obtain ⟨j, c', hj, rfl, hI, HA, hn0', hn1', ht0', ht1', HB, HK⟩ := hrel
      have HJ := Aside0.mk hj
      clear hj
      have c0 : wr.cell? ⟨g, 0, none⟩ = some (.int .i64 c'.n) := (blk_cell hI 0).trans rfl
      have HI := Aside0.mk hI
      have hgr : g < wr.heap.size := (Array.getElem?_eq_some_iff.1 hI).1
      clear hI
      by_cases hlt : j < s.f2.length
      · obtain ⟨ad, A2, cp2, e0, hx0, hx1, hx2, hl2, hk2⟩ := kid_at HR.out HB.out j hlt hlt
        cases e0
        have HK2 := Aside0.mk hk2
        have HL2 := Aside0.mk hl2
        clear hk2 hl2
        have hnw : ¬ wr.heap.size = g := by omega
        have hstep : goesL (s.f2.drop j) (d + 1) c' = if c'.n > 60 then c' else goesL (s.f2.drop (j + 1)) (d + 1) (goesS s.f2[j] (d + 1) c') := by
          rw [List.drop_eq_getElem_cons hlt]
          simp only [goesL]
        have HS := Aside0.mk hstep
        clear hstep
        have hmem : s.f2[j] ∈ s.f2 := List.getElem_mem hlt
        by_cases h60 : 60 < c'.n
        · go_wp2
          first | go_end0 | ((try simp only [Exit.inBlock, Exit.then]); refine bodyPost_ret (results_none rfl _ _ _) rfl ?_)
          refine ⟨rfl, ?_, ?_, ?_⟩
          · rw [HA.out, HS.out, if_pos h60]
            exact blk_alloc HI.out _
          · exact below_alloc HB.out _
          · exact keep_alloc HK.out _
        · have hk := IH.out s.f2[j] hmem (d + 1) c' A2 cp2
          have HKK := Aside0.mk hk
          clear hk
          have hle := goesS_le s.f2[j] (d + 1) c' hn0' (by omega) ht0' ht1'
          have HLE := Aside0.mk hle
          clear hle
          go_wp2_with (go_at_call 47; refine (HKK.out _ (by omega) (by omega) hn0' (by omega) ht0' ht1' (blk_alloc HI.out _) (below_alloc HB.out _) hg0 HK2.out HL2.out).mono ?_; rintro e w2 ⟨rfl, hI2, hB2, hK2⟩; have HI2 := Aside0.mk hI2; have HB2 := Aside0.mk hB2; have HKB2 := Aside0.mk hK2; clear hI2 hB2 hK2)
          go_roundg (gk - 1)
          case measure => have := HJ.out; omega
          case rel => exact ⟨j + 1, goesS s.f2[j] (d + 1) c', by have := HJ.out; omega, by go_num, HI2.out, ⟨by rw [HA.out, HS.out, if_neg (by omega)]⟩, by have := HLE.out; omega, HLE.out.2.1, HLE.out.2.2.1, HLE.out.2.2.2, ⟨HB2.out⟩, ⟨(keep_alloc HK.out _).trans HKB2.out (.inl rfl)⟩⟩
      · go_wp2
        first | go_end0 | ((try simp only [Exit.inBlock, Exit.then]); refine bodyPost_ret (results_none rfl _ _ _) rfl ?_)
        refine ⟨rfl, ?_, HB.out, HK.out⟩
        rw [HA.out, List.drop_eq_nil_of_le (by omega)]
        exact HI.out
mutual
theorem goes_all (g : Nat) (w0 : World) : ∀ s : S24, GoesAt g w0 s
  | ⟨op, m, kids⟩ => goes_calls g w0 ⟨op, m, kids⟩ (goes_kids g w0 kids)
theorem goes_kids (g : Nat) (w0 : World) : ∀ (l : List S24) (k : S24), k ∈ l → GoesAt g w0 k
  | [], k, hk => by simp at hk
  | a :: r, k, hk => by
    rcases List.mem_cons.1 hk with h | h
    · rw [h]
      exact goes_all g w0 a
    · exact goes_kids g w0 r k h
end
/-- The count of a formula. -/
def cntS (s : S24) : Cnt := goesS s 1 ⟨0, 0, false⟩
set_option maxHeartbeats 1600000 in
theorem counted_calls (s : S24) (A : Option Addr) (cp : Nat) (w : World) (hr : Kd.C k24 w A s.f2.length s.f2) (hc : s.f2.length ≤ cp) :
    Calls Try.prog 33 #[.agg #[.int .i64 s.f0, .int .i64 s.f1, .slice A s.f2.length cp]] w fun e w' => ∃ g, e = .returned (.pointer (some ⟨g, 0, none⟩)) ∧ IsCnt w' g (cntS s) ∧ Below w.heap.size w w' ∧ w.heap.size ≤ g := by
  have hu := Try.underlying24
  have huc := Try.underlying54
  have HR := Aside0.mk hr
  have HC := Aside0.mk hc
  clear hr hc
  go_enter Try.func33, Try.ntmps33
  go_wp2_with fail
  have hI0 : IsCnt ((w.alloc (.cells #[.int .i64 s.f0, .int .i64 s.f1, .slice A s.f2.length cp] 24)).alloc (.cells #[.int .i64 0, .int .i64 0, .bool false] 54)) (w.heap.size + 1) ⟨0, 0, false⟩ := by
    have := heap_alloc_new (w.alloc (.cells #[.int .i64 s.f0, .int .i64 s.f1, .slice A s.f2.length cp] 24)) (.cells #[.int .i64 0, .int .i64 0, .bool false] 54)
    have e0 : (w.alloc (.cells #[.int .i64 s.f0, .int .i64 s.f1, .slice A s.f2.length cp] 24)).heap.size = w.heap.size + 1 := by simp
    rw [e0] at this
    exact this
  refine (goes_all (w.heap.size + 1) w s 1 ⟨0, 0, false⟩ A cp _ (by omega) (by omega) (by simp) (by simp) (by simp) (by simp) hI0 (below_alloc (below_alloc (Below.refl _ _) _) _) (by omega) HR.out HC.out).mono ?_
  rintro e w' ⟨rfl, hI, hB, hK⟩
  have HI := Aside0.mk hI
  have HB := Aside0.mk hB
  clear hI hB hK hI0
  go_wp2
  go_ret
  exact ⟨w.heap.size + 1, rfl, HI.out, HB.out, by omega⟩
def lightS (s : S24) : Bool := decide ((cntS s).n ≤ 60) && !(cntS s).deep
set_option maxHeartbeats 1600000 in
set_option maxRecDepth 100000 in
theorem formula_light.all (s : S24) (A : Option Addr) (cp : Nat) (w : World) (hr : Kd.C k24 w A s.f2.length s.f2) (hc : s.f2.length ≤ cp) :
    Calls Try.prog 32 #[.agg #[.int .i64 s.f0, .int .i64 s.f1, .slice A s.f2.length cp]] w fun e w' => e = .returned (.bool (lightS s)) ∧ Below w.heap.size w w' := by
  have hu := Try.underlying24
  have huc := Try.underlying54
  have HR := Aside0.mk hr
  have HC := Aside0.mk hc
  have hls : lightS s = (decide ((cntS s).n ≤ 60) && !(cntS s).deep) := rfl
  have HL := Aside0.mk hls
  clear hr hc hls
  generalize lightS s = L at HL ⊢
  have hcnt := counted_calls s A cp (w.alloc (.cells #[.int .i64 s.f0, .int .i64 s.f1, .slice A s.f2.length cp] 24)) (Kd.C_alloc HR.out _) HC.out
  have HCN := Aside0.mk hcnt
  clear hcnt
  generalize cntS s = c at HL HCN
  by_cases h : c.n ≤ 60
  all_goals
    go_enter Try.func32, Try.ntmps32
    go_wp2_with (go_at_call 33; refine HCN.out.mono ?_; rintro e w1 ⟨g, rfl, hI, hB, hg⟩; have c0 : w1.cell? ⟨g, 0, none⟩ = some (.int .i64 c.n) := (blk_cell hI 0).trans rfl; have c2 : w1.cell? ⟨g, 2, none⟩ = some (.bool c.deep) := (blk_cell hI 2).trans rfl; have HB := Aside0.mk hB; clear hB hI hg)
    go_ret
    refine ⟨?_, (below_alloc (Below.refl _ _) _).trans (HB.out.mono (by simp))⟩
    rw [HL.out]
    first | (simp [h]; done) | (simp; omega)
def formula_light.f (a0_0 : Int) (a0_1 : Int) (l0_2 : List S24) : Option Bool := some (lightS ⟨a0_0, a0_1, l0_2⟩)
theorem formula_light.calls (a0_0 : Int) (a0_1 : Int) (A0_2 : Option Addr) (c0_2 : Nat) (l0_2 : List S24) (r : Bool) (w : World) (hr0_2 : Kd.C k24 w A0_2 l0_2.length l0_2) (hc0_2 : l0_2.length ≤ c0_2) (h : formula_light.f a0_0 a0_1 l0_2 = some r) :
    Calls Try.prog 32 #[.agg #[.int .i64 a0_0, .int .i64 a0_1, .slice A0_2 l0_2.length c0_2]] w fun e w' => e = .returned (.bool r) ∧ Below w.heap.size w w' := by
  obtain rfl := Option.some.inj h
  exact formula_light.all ⟨a0_0, a0_1, l0_2⟩ A0_2 c0_2 w hr0_2 hc0_2
end Go.Proofs.Ytegaicoddnmemaa.X

namespace Go.Proofs.Ytegaicoddnmemaa.Evx
open Go.RowKit Go.Proofs.YtegaicoddnmemaaW.PrintWords
set_option linter.unusedVariables false
set_option linter.unusedSimpArgs false
theorem w64 {x : Int} (h0 : -9223372036854775808 ≤ x) (h1 : x < 9223372036854775808) : wrap64 x = x := by unfold wrap64; omega
section
variable {α β : Type} {r : α}
theorem ev_pos {c : Prop} [Decidable c] {f g : Nat → Option α} (h : c) (k : Ev f r) : Ev (fun n => if c then f n else g n) r := Ev.congr (fun _ => if_pos h) k
theorem ev_neg {c : Prop} [Decidable c] {f g : Nat → Option α} (h : ¬ c) (k : Ev g r) : Ev (fun n => if c then f n else g n) r := Ev.congr (fun _ => if_neg h) k
theorem ev_bindv {g : Option β} {f : Nat → β → Option α} {a : β} (h : g = some a) (k : Ev (fun n => f n a) r) : Ev (fun n => g.bind (f n)) r := by subst h; exact k
theorem ev_bind {g : Nat → Option β} {f : Nat → β → Option α} {a : β} (h : Ev g a) (k : Ev (fun n => f n a) r) : Ev (fun n => (g n).bind (f n)) r := Ev.bind h k
theorem ev_some (r : α) : Ev (fun _ => some r) r := Ev.now r
theorem ev_tt {f g : Nat → Option α} (k : Ev f r) : Ev (fun n => if true = true then f n else g n) r := ev_pos rfl k
theorem ev_ff {f g : Nat → Option α} (k : Ev g r) : Ev (fun n => if false = true then f n else g n) r := ev_neg (by simp) k
/-- A test of a Bool either way. -/
theorem ev_bool {b : Bool} {f g : Nat → Option α} (h1 : b = true → Ev f r) (h2 : b = false → Ev g r) : Ev (fun n => if b = true then f n else g n) r := by
  cases b with
  | true => exact ev_tt (h1 rfl)
  | false => exact ev_ff (h2 rfl)
/-- A test either way. -/
theorem ev_ite {c : Prop} [Decidable c] {f g : Nat → Option α} (h1 : c → Ev f r) (h2 : ¬ c → Ev g r) : Ev (fun n => if c then f n else g n) r := by
  by_cases h : c
  · exact ev_pos h (h1 h)
  · exact ev_neg h (h2 h)
theorem ev_eq {f : Nat → Option α} {r' : α} (h : Ev f r') (e : r' = r) : Ev f r := e ▸ h
theorem ev_step {g f : Nat → Option α} (h : ∀ k, g (k + 1) = f k) (k : Ev f r) : Ev g r := Ev.step h k
end
theorem u64_id {x : Int} (h : 0 ≤ x) (h2 : x < 18446744073709551616) : IntKind.u64.wrap x = x := by
  simp [IntKind.wrap, IntKind.bits, IntKind.signed]
  omega
end Go.Proofs.Ytegaicoddnmemaa.Evx

namespace Go.Proofs.Ytegaicoddnmemaa.P
open Go.RowKit Go.Proofs.YtegaicoddnmemaaW.PrintWords Go.Proofs.YtegaicoddnmemaaW.PrintLast Go.Proofs.YtegaicoddnmemaaW.PrintMore
attribute [local go_sem] max2_int min2_int max_two min_two max_three min_three max_four min_four   -- for this text's walks alone
set_option linter.unusedVariables false
set_option linter.unusedSimpArgs false

mutual
def formula_kids.j0 : Nat → Int → Bool → Option (Int)
  | 0, _, _ => none
  | k + 1, x0, x3 => if x3 = true then (some 0) else (if x0 = 3 then (formula_kids.j1 k x0 true) else (formula_kids.j1 k x0 (x0 == 6)))
def formula_kids.j1 : Nat → Int → Bool → Option (Int)
  | 0, _, _ => none
  | k + 1, x0, x10 => if x10 = true then (some 1) else (if x0 = 4 then (some 2) else (if x0 = 5 then (some 2) else (if x0 = 7 then (some 2) else (if x0 = 8 then (some 2) else (some (-1))))))
end
def formula_kids.f (k : Nat) (a0 : Int) : Option (Int) := if a0 = 1 then (formula_kids.j0 k a0 true) else (formula_kids.j0 k a0 (a0 == 2))
theorem formula_kids.mono_l : ∀ k, (∀ y0 y1, LeO (formula_kids.j0 k y0 y1) (formula_kids.j0 (k + 1) y0 y1)) ∧ (∀ y0 y1, LeO (formula_kids.j1 k y0 y1) (formula_kids.j1 (k + 1) y0 y1))
  | 0 => ⟨fun _ _ r h => by simp [formula_kids.j0] at h, fun _ _ r h => by simp [formula_kids.j1] at h⟩
  | k + 1 => by
    obtain ⟨ih0, ih1⟩ := formula_kids.mono_l k
    refine ⟨?_, ?_⟩
    · intro y0 y1
      unfold formula_kids.j0
      repeat' first
      | (with_reducible exact ih0 _ _)
      | (with_reducible exact ih1 _ _)
      | (with_reducible exact LeO.refl _)
      | (with_reducible exact LeO.none _)
      | (with_reducible refine LeO.ite ?_ ?_)
      | (with_reducible refine LeO.bind ?_ (fun _ => ?_))
      | exact ih0 _ _
      | exact ih1 _ _
      | exact LeO.none _
      | refine LeO.ite ?_ ?_
      | refine LeO.bind ?_ (fun _ => ?_)
    · intro y0 y1
      unfold formula_kids.j1
      repeat' first
      | (with_reducible exact ih0 _ _)
      | (with_reducible exact ih1 _ _)
      | (with_reducible exact LeO.refl _)
      | (with_reducible exact LeO.none _)
      | (with_reducible refine LeO.ite ?_ ?_)
      | (with_reducible refine LeO.bind ?_ (fun _ => ?_))
      | exact ih0 _ _
      | exact ih1 _ _
      | exact LeO.none _
      | refine LeO.ite ?_ ?_
      | refine LeO.bind ?_ (fun _ => ?_)
theorem formula_kids.mono : ∀ a0 k, LeO (formula_kids.f k a0) (formula_kids.f (k + 1) a0) := by
  intro a0 k
  obtain ⟨ih0, ih1⟩ := formula_kids.mono_l k
  unfold formula_kids.f
  repeat' first
      | (with_reducible exact ih0 _ _)
      | (with_reducible exact ih1 _ _)
      | (with_reducible exact LeO.refl _)
      | (with_reducible exact LeO.none _)
      | (with_reducible refine LeO.ite ?_ ?_)
      | (with_reducible refine LeO.bind ?_ (fun _ => ?_))
      | exact ih0 _ _
      | exact ih1 _ _
      | exact LeO.none _
      | refine LeO.ite ?_ ?_
      | refine LeO.bind ?_ (fun _ => ?_)
set_option maxHeartbeats 8000000 in
set_option maxRecDepth 100000 in
theorem formula_kids.calls (k : Nat) (a0 : Int) (r : Int) (w : World) (h : formula_kids.f k a0 = some r) :
    Calls Try.prog 48 #[.int .i64 a0] w fun e w' => e = .returned (.int .i64 r) ∧ Drawn0 w w' := by
  have H : (if a0 = 1 then (formula_kids.j0 k a0 true) else (formula_kids.j0 k a0 (a0 == 2))) = some r := h
  clear h
  have HC2 := Aside0.mk H
  clear H
  go_enter Try.func48, Try.ntmps48
  go_upto_region 1 with (fail)
  go_cut [3] (fun v3 wc => ∃ (kq : Nat) (x3_1 : Bool), v3 = .bool x3_1 ∧ Aside0 (formula_kids.j0 kq a0 x3_1 = some r) ∧ Aside0 (kq ≤ k) ∧ Drawn0 w wc)
  case first =>
    have H := HC2.out
    clear HC2
    by_cases c3 : a0 = 1
    · rw [if_pos c3] at H
      have c3b0 : (a0 == 1) = true := beq_iff_eq.mpr c3
      have c3b1 : (a0 != 1) = false := bne_eq_false_iff_eq.mpr c3
      clear c3
      (first | rw [c3b0] | (simp only [i64_w, i32_w]; rw [c3b0]) | skip)
      have H' := Aside0.mk H
      clear H
      go_wp2
      go_meet
      case rel => exact ⟨_, (true), (by first | rfl | (simp; done) | (simp [*]; done)), H', ⟨by first | omega | exact Nat.le_refl _⟩, by repeat (first | exact Drawn0.refl _ | apply Drawn0.step)⟩
    · rw [if_neg c3] at H
      have c3b0 : (a0 == 1) = false := beq_eq_false_iff_ne.mpr c3
      have c3b1 : (a0 != 1) = true := bne_iff_ne.mpr c3
      (first | rw [c3b0] | (simp only [i64_w, i32_w]; rw [c3b0]) | skip)
      have H' := Aside0.mk H
      clear H
      go_wp2
      go_meet
      case rel => exact ⟨_, ((a0 == 2)), (by first | rfl | (simp; done) | (simp [*]; done)), H', ⟨by first | omega | exact Nat.le_refl _⟩, by repeat (first | exact Drawn0.refl _ | apply Drawn0.step)⟩
  case rest =>
    clear HC2
    try clear p2
    try clear c3
    try clear c3b0
    try clear c3b1
    obtain ⟨kq, x3_1, rfl, HA, HJ1, ⟨mc1, rfl⟩⟩ := hcut
    cases kq with
    | zero => exact absurd HA.out (by simp [formula_kids.j0])
    | succ kj1 =>
      have H := HA.out
      clear HA
      simp only [formula_kids.j0] at H
      by_cases c4 : x3_1 = true
      · subst c4
        have H1 : (some 0) = some r := by rw [if_pos rfl] at H; exact H
        clear H
        have H := H1
        clear H1
        obtain rfl := Option.some.inj H
        go_wp2
        go_ret
        exact ⟨by first | rfl | (simp; done) | (simp [*]; done), by repeat (first | exact Drawn0.refl _ | apply Drawn0.step)⟩
      · replace c4 := Bool.eq_false_iff.mpr c4
        subst c4
        have H1 : (if a0 = 3 then (formula_kids.j1 kj1 a0 true) else (formula_kids.j1 kj1 a0 (a0 == 6))) = some r := by rw [if_neg (show ¬ (false = true) by decide)] at H; exact H
        clear H
        have H := H1
        clear H1
        have HC5 := Aside0.mk H
        clear H
        go_upto_region 3 with (fail)
        go_cut [10] (fun v10 wc => ∃ (kq : Nat) (x10_4 : Bool), v10 = .bool x10_4 ∧ Aside0 (formula_kids.j1 kq a0 x10_4 = some r) ∧ Aside0 (kq ≤ kj1) ∧ Drawn0 w wc)
        case first =>
          have H := HC5.out
          clear HC5
          by_cases c6 : a0 = 3
          · rw [if_pos c6] at H
            have c6b0 : (a0 == 3) = true := beq_iff_eq.mpr c6
            have c6b1 : (a0 != 3) = false := bne_eq_false_iff_eq.mpr c6
            clear c6
            (first | rw [c6b0] | (simp only [i64_w, i32_w]; rw [c6b0]) | skip)
            have H' := Aside0.mk H
            clear H
            go_wp2
            go_meet
            case rel => exact ⟨_, (true), (by first | rfl | (simp; done) | (simp [*]; done)), H', ⟨by have := HJ1.out; first | omega | exact Nat.le_refl _⟩, by repeat (first | exact Drawn0.refl _ | apply Drawn0.step)⟩
          · rw [if_neg c6] at H
            have c6b0 : (a0 == 3) = false := beq_eq_false_iff_ne.mpr c6
            have c6b1 : (a0 != 3) = true := bne_iff_ne.mpr c6
            (first | rw [c6b0] | (simp only [i64_w, i32_w]; rw [c6b0]) | skip)
            have H' := Aside0.mk H
            clear H
            go_wp2
            go_meet
            case rel => exact ⟨_, ((a0 == 6)), (by first | rfl | (simp; done) | (simp [*]; done)), H', ⟨by have := HJ1.out; first | omega | exact Nat.le_refl _⟩, by repeat (first | exact Drawn0.refl _ | apply Drawn0.step)⟩
        case rest =>
          clear HC5
          try clear c1
          try clear p2
          try clear c3
          try clear c3b0
          try clear c3b1
          try clear c4
          try clear c6
          try clear c6b0
          try clear c6b1
          try clear p2
          obtain ⟨kq, x10_4, rfl, HA, HJ4, ⟨mc4, rfl⟩⟩ := hcut
          cases kq with
          | zero => exact absurd HA.out (by simp [formula_kids.j1])
          | succ kj4 =>
            have H := HA.out
            clear HA
            simp only [formula_kids.j1] at H
            by_cases c7 : x10_4 = true
            · subst c7
              have H1 : (some 1) = some r := by rw [if_pos rfl] at H; exact H
              clear H
              have H := H1
              clear H1
              obtain rfl := Option.some.inj H
              go_wp2
              go_ret
              exact ⟨by first | rfl | (simp; done) | (simp [*]; done), by repeat (first | exact Drawn0.refl _ | apply Drawn0.step)⟩
            · replace c7 := Bool.eq_false_iff.mpr c7
              subst c7
              have H1 : (if a0 = 4 then (some 2) else (if a0 = 5 then (some 2) else (if a0 = 7 then (some 2) else (if a0 = 8 then (some 2) else (some (-1)))))) = some r := by rw [if_neg (show ¬ (false = true) by decide)] at H; exact H
              clear H
              have H := H1
              clear H1
              by_cases c8 : a0 = 4
              · rw [if_pos c8] at H
                have c8b0 : (a0 == 4) = true := beq_iff_eq.mpr c8
                have c8b1 : (a0 != 4) = false := bne_eq_false_iff_eq.mpr c8
                clear c8
                obtain rfl := Option.some.inj H
                go_wp2
                go_ret
                exact ⟨by first | rfl | (simp; done) | (simp [*]; done), by repeat (first | exact Drawn0.refl _ | apply Drawn0.step)⟩
              · rw [if_neg c8] at H
                have c8b0 : (a0 == 4) = false := beq_eq_false_iff_ne.mpr c8
                have c8b1 : (a0 != 4) = true := bne_iff_ne.mpr c8
                by_cases c9 : a0 = 5
                · rw [if_pos c9] at H
                  have c9b0 : (a0 == 5) = true := beq_iff_eq.mpr c9
                  have c9b1 : (a0 != 5) = false := bne_eq_false_iff_eq.mpr c9
                  clear c9
                  obtain rfl := Option.some.inj H
                  go_wp2
                  go_ret
                  exact ⟨by first | rfl | (simp; done) | (simp [*]; done), by repeat (first | exact Drawn0.refl _ | apply Drawn0.step)⟩
                · rw [if_neg c9] at H
                  have c9b0 : (a0 == 5) = false := beq_eq_false_iff_ne.mpr c9
                  have c9b1 : (a0 != 5) = true := bne_iff_ne.mpr c9
                  by_cases c10 : a0 = 7
                  · rw [if_pos c10] at H
                    have c10b0 : (a0 == 7) = true := beq_iff_eq.mpr c10
                    have c10b1 : (a0 != 7) = false := bne_eq_false_iff_eq.mpr c10
                    clear c10
                    obtain rfl := Option.some.inj H
                    go_wp2
                    go_ret
                    exact ⟨by first | rfl | (simp; done) | (simp [*]; done), by repeat (first | exact Drawn0.refl _ | apply Drawn0.step)⟩
                  · rw [if_neg c10] at H
                    have c10b0 : (a0 == 7) = false := beq_eq_false_iff_ne.mpr c10
                    have c10b1 : (a0 != 7) = true := bne_iff_ne.mpr c10
                    by_cases c11 : a0 = 8
                    · rw [if_pos c11] at H
                      have c11b0 : (a0 == 8) = true := beq_iff_eq.mpr c11
                      have c11b1 : (a0 != 8) = false := bne_eq_false_iff_eq.mpr c11
                      clear c11
                      obtain rfl := Option.some.inj H
                      go_wp2
                      go_ret
                      exact ⟨by first | rfl | (simp; done) | (simp [*]; done), by repeat (first | exact Drawn0.refl _ | apply Drawn0.step)⟩
                    · rw [if_neg c11] at H
                      have c11b0 : (a0 == 8) = false := beq_eq_false_iff_ne.mpr c11
                      have c11b1 : (a0 != 8) = true := bne_iff_ne.mpr c11
                      obtain rfl := Option.some.inj H
                      go_wp2
                      go_ret
                      exact ⟨by first | rfl | (simp; done) | (simp [*]; done), by repeat (first | exact Drawn0.refl _ | apply Drawn0.step)⟩

def formula_MayWord.f (l0_0 : List Int) (l0_1 : List Int) : Option (Bool) := if (l0_0.length : Int) ≤ 3000 then (if (l0_1.length : Int) ≥ 1 then (some (decide ((l0_1.length : Int) ≤ 27000))) else (some false)) else (some false)
set_option maxHeartbeats 8000000 in
set_option maxRecDepth 100000 in
theorem formula_MayWord.calls (A0_0 : Option Addr) (c0_0 : Nat) (l0_0 : List Int) (A0_1 : Option Addr) (c0_1 : Nat) (l0_1 : List Int) (r : Bool) (w : World) (hr0_0 : Kd.C (Kd.int .u32) w A0_0 l0_0.length l0_0) (hc0_0 : l0_0.length ≤ c0_0) (hr0_1 : Kd.C (Kd.int .u32) w A0_1 l0_1.length l0_1) (hc0_1 : l0_1.length ≤ c0_1) (h : formula_MayWord.f l0_0 l0_1 = some r) :
    Calls Try.prog 28 #[.agg #[.slice A0_0 l0_0.length c0_0, .slice A0_1 l0_1.length c0_1]] w fun e w' => e = .returned (.bool r) ∧ Below w.heap.size w w' := by
  have hu27 := Try.underlying27
  have HR0_0 := Aside0.mk hr0_0
  have HC0_0 := Aside0.mk hc0_0
  clear hr0_0 hc0_0
  have HR0_1 := Aside0.mk hr0_1
  have HC0_1 := Aside0.mk hc0_1
  clear hr0_1 hc0_1
  have HB := Aside0.mk (Below.refl w.heap.size w)
  have H : (if (l0_0.length : Int) ≤ 3000 then (if (l0_1.length : Int) ≥ 1 then (some (decide ((l0_1.length : Int) ≤ 27000))) else (some false)) else (some false)) = some r := h
  clear h
  by_cases c2 : (l0_0.length : Int) ≤ 3000
  · rw [if_pos c2] at H
    have c2b0 : decide ((l0_0.length : Int) ≤ 3000) = true := decide_eq_true c2
    have c2b1 : decide (l0_0.length ≤ 3000) = true := decide_eq_true (by omega)
    clear c2
    by_cases c3 : (l0_1.length : Int) ≥ 1
    · rw [if_pos c3] at H
      have c3b0 : decide (1 ≤ (l0_1.length : Int)) = true := decide_eq_true c3
      have c3b1 : decide (1 ≤ l0_1.length) = true := decide_eq_true (by omega)
      clear c3
      obtain rfl := Option.some.inj H
      go_enter Try.func28, Try.ntmps28
      go_wp2_with (first | ((with_reducible refine gate_dst (N := 1) rfl ?_); (try (refine gate_guard (by rfl) ?_; dsimp only)); refine box_event ?hg (N := 1) ?hd (cs := #[.slice A0_0 l0_0.length c0_0, .slice A0_1 l0_1.length c0_1]) (t := 27) ?hr ?_; (case hd => rfl); (case hg => rfl); (case hr => first | (go_simp; done) | (go_simp; rfl)); intro gb117 hg w4 hbox hb; have n0_ := Aside0.mk (below_step (by repeat (first | (with_reducible first | exact HB.out | apply below_alloc | apply pw_below_drewN | apply below_drew1) | exact HB.out)) hb); have n1_ := Aside0.mk (hbox); have n2_ := Aside0.mk ((by rw [hg]; exact (below_size (by repeat (first | (with_reducible first | exact HB.out | apply below_alloc | apply pw_below_drewN | apply below_drew1) | exact HB.out))) : w.heap.size ≤ gb117)); have n3_ := Aside0.mk ((by rw [hg]; exact (below_size (by repeat (first | (with_reducible first | exact HB.out | apply below_alloc | apply pw_below_drewN | apply below_drew1) | exact HB.out))) : w.heap.size ≤ gb117)); clear HB; have HB := n0_; have BK117 := n1_; have GW117 := n2_; have GE117 := n3_; clear n0_ n1_ n2_ n3_; clear hb hbox hg; have hcz5_0 : w4.cell? ⟨gb117, 0, none⟩ = some (.slice A0_0 l0_0.length c0_0) := (blk_cell BK117.out 0).trans rfl; have hcz5_1 : w4.cell? ⟨gb117, 1, none⟩ = some (.slice A0_1 l0_1.length c0_1) := (blk_cell BK117.out 1).trans rfl; have hfz5_0 := blk_frozen BK117.out 0; have hfz5_1 := blk_frozen BK117.out 1))
      go_ret
      exact ⟨by first | rfl | (simp [errW_none, errW_some] <;> rfl) | (simp [*, errW_none, errW_some] <;> rfl), by repeat (first | (with_reducible first | exact HB.out | apply below_alloc | apply pw_below_drewN | apply below_drew1 | refine below_set ?_ GE117.out) | exact HB.out)⟩
    · rw [if_neg c3] at H
      have c3b0 : decide (1 ≤ (l0_1.length : Int)) = false := decide_eq_false c3
      have c3b1 : decide (1 ≤ l0_1.length) = false := decide_eq_false (by omega)
      clear c3
      obtain rfl := Option.some.inj H
      go_enter Try.func28, Try.ntmps28
      go_wp2_with (first | ((with_reducible refine gate_dst (N := 1) rfl ?_); (try (refine gate_guard (by rfl) ?_; dsimp only)); refine box_event ?hg (N := 1) ?hd (cs := #[.slice A0_0 l0_0.length c0_0, .slice A0_1 l0_1.length c0_1]) (t := 27) ?hr ?_; (case hd => rfl); (case hg => rfl); (case hr => first | (go_simp; done) | (go_simp; rfl)); intro gb117 hg w6 hbox hb; have n0_ := Aside0.mk (below_step (by repeat (first | (with_reducible first | exact HB.out | apply below_alloc | apply pw_below_drewN | apply below_drew1) | exact HB.out)) hb); have n1_ := Aside0.mk (hbox); have n2_ := Aside0.mk ((by rw [hg]; exact (below_size (by repeat (first | (with_reducible first | exact HB.out | apply below_alloc | apply pw_below_drewN | apply below_drew1) | exact HB.out))) : w.heap.size ≤ gb117)); have n3_ := Aside0.mk ((by rw [hg]; exact (below_size (by repeat (first | (with_reducible first | exact HB.out | apply below_alloc | apply pw_below_drewN | apply below_drew1) | exact HB.out))) : w.heap.size ≤ gb117)); clear HB; have HB := n0_; have BK117 := n1_; have GW117 := n2_; have GE117 := n3_; clear n0_ n1_ n2_ n3_; clear hb hbox hg; have hcz7_0 : w6.cell? ⟨gb117, 0, none⟩ = some (.slice A0_0 l0_0.length c0_0) := (blk_cell BK117.out 0).trans rfl; have hcz7_1 : w6.cell? ⟨gb117, 1, none⟩ = some (.slice A0_1 l0_1.length c0_1) := (blk_cell BK117.out 1).trans rfl; have hfz7_0 := blk_frozen BK117.out 0; have hfz7_1 := blk_frozen BK117.out 1))
      go_ret
      exact ⟨by first | rfl | (simp [errW_none, errW_some] <;> rfl) | (simp [*, errW_none, errW_some] <;> rfl), by repeat (first | (with_reducible first | exact HB.out | apply below_alloc | apply pw_below_drewN | apply below_drew1 | refine below_set ?_ GE117.out) | exact HB.out)⟩
  · rw [if_neg c2] at H
    have c2b0 : decide ((l0_0.length : Int) ≤ 3000) = false := decide_eq_false c2
    have c2b1 : decide (l0_0.length ≤ 3000) = false := decide_eq_false (by omega)
    clear c2
    obtain rfl := Option.some.inj H
    go_enter Try.func28, Try.ntmps28
    go_wp2_with (first | ((with_reducible refine gate_dst (N := 1) rfl ?_); (try (refine gate_guard (by rfl) ?_; dsimp only)); refine box_event ?hg (N := 1) ?hd (cs := #[.slice A0_0 l0_0.length c0_0, .slice A0_1 l0_1.length c0_1]) (t := 27) ?hr ?_; (case hd => rfl); (case hg => rfl); (case hr => first | (go_simp; done) | (go_simp; rfl)); intro gb117 hg w8 hbox hb; have n0_ := Aside0.mk (below_step (by repeat (first | (with_reducible first | exact HB.out | apply below_alloc | apply pw_below_drewN | apply below_drew1) | exact HB.out)) hb); have n1_ := Aside0.mk (hbox); have n2_ := Aside0.mk ((by rw [hg]; exact (below_size (by repeat (first | (with_reducible first | exact HB.out | apply below_alloc | apply pw_below_drewN | apply below_drew1) | exact HB.out))) : w.heap.size ≤ gb117)); have n3_ := Aside0.mk ((by rw [hg]; exact (below_size (by repeat (first | (with_reducible first | exact HB.out | apply below_alloc | apply pw_below_drewN | apply below_drew1) | exact HB.out))) : w.heap.size ≤ gb117)); clear HB; have HB := n0_; have BK117 := n1_; have GW117 := n2_; have GE117 := n3_; clear n0_ n1_ n2_ n3_; clear hb hbox hg; have hcz9_0 : w8.cell? ⟨gb117, 0, none⟩ = some (.slice A0_0 l0_0.length c0_0) := (blk_cell BK117.out 0).trans rfl; have hcz9_1 : w8.cell? ⟨gb117, 1, none⟩ = some (.slice A0_1 l0_1.length c0_1) := (blk_cell BK117.out 1).trans rfl; have hfz9_0 := blk_frozen BK117.out 0; have hfz9_1 := blk_frozen BK117.out 1))
    go_ret
    exact ⟨by first | rfl | (simp [errW_none, errW_some] <;> rfl) | (simp [*, errW_none, errW_some] <;> rfl), by repeat (first | (with_reducible first | exact HB.out | apply below_alloc | apply pw_below_drewN | apply below_drew1 | refine below_set ?_ GE117.out) | exact HB.out)⟩

end Go.Proofs.Ytegaicoddnmemaa.P

namespace Go.Proofs.Ytegaicoddnmemaa.X
open Go.RowKit Go.Proofs.YtegaicoddnmemaaW.PrintWords Go.Proofs.YtegaicoddnmemaaW.PrintLast Go.Proofs.YtegaicoddnmemaaW.PrintMore
open Go.Proofs.Ytegaicoddnmemaa.P Go.Proofs.Ytegaicoddnmemaa.Evx
set_option linter.unusedSimpArgs false
set_option linter.unusedVariables false
def kidsS (op : Int) : Int := if op = 1 ∨ op = 2 then 0 else if op = 3 ∨ op = 6 then 1 else if op = 4 ∨ op = 5 ∨ op = 7 ∨ op = 8 then 2 else -1
theorem kids_ev (op : Int) : Ev (fun k => formula_kids.f k op) (kidsS op) := by
  have h1 : ∀ b : Bool, b = decide (op = 3 ∨ op = 6) → ¬ (op = 1 ∨ op = 2) → Ev (fun k => formula_kids.j1 k op b) (kidsS op) := by
    intro b hb h0
    refine ev_step (fun k => rfl) (ev_bool (fun h => ?_) (fun h => ?_))
    · rw [h] at hb
      have := of_decide_eq_true hb.symm
      exact ev_eq (ev_some _) (by unfold kidsS; rw [if_neg h0, if_pos this])
    · rw [h] at hb
      have := of_decide_eq_false hb.symm
      have e : kidsS op = if op = 4 ∨ op = 5 ∨ op = 7 ∨ op = 8 then 2 else -1 := by unfold kidsS; rw [if_neg h0, if_neg this]
      rw [e]
      refine ev_ite (fun c => ev_eq (ev_some _) ?_) (fun c4 => ev_ite (fun c => ev_eq (ev_some _) ?_) (fun c5 => ev_ite (fun c => ev_eq (ev_some _) ?_) (fun c7 => ev_ite (fun c => ev_eq (ev_some _) ?_) (fun c8 => ev_eq (ev_some _) ?_))))
      · rw [if_pos (by omega)]
      · rw [if_pos (by omega)]
      · rw [if_pos (by omega)]
      · rw [if_pos (by omega)]
      · rw [if_neg (by omega)]
  have h0 : ∀ b : Bool, b = decide (op = 1 ∨ op = 2) → Ev (fun k => formula_kids.j0 k op b) (kidsS op) := by
    intro b hb
    refine ev_step (fun k => rfl) (ev_bool (fun h => ?_) (fun h => ?_))
    · rw [h] at hb
      have := of_decide_eq_true hb.symm
      exact ev_eq (ev_some _) (by unfold kidsS; rw [if_pos this])
    · rw [h] at hb
      have h2 := of_decide_eq_false hb.symm
      refine ev_ite (fun c => h1 _ ?_ h2) (fun c => h1 _ ?_ h2)
      · simp [c]
      · simp [c, show (op == 6) = decide (op = 6) from rfl]
  unfold formula_kids.f
  refine ev_ite (fun c => h0 _ ?_) (fun c => h0 _ ?_)
  · simp [c]
  · simp [c, show (op == 2) = decide (op = 2) from rfl]
def mostS (op : Int) : Int := if op = 2 then 19 else 0
mutual
def soundS : S24 → Bool
  | ⟨op, n, kids⟩ => decide (0 ≤ kidsS op) && (decide ((kids.length : Int) = kidsS op) && (decide (0 ≤ n) && (decide (n ≤ mostS op) && soundL kids)))
def soundL : List S24 → Bool
  | [] => true
  | k :: r => soundS k && soundL r
end
def idxS : List S24 → Int → Int
  | [], _ => -1
  | k :: r, i => if soundS k = true then idxS r (i + 1) else i
theorem idx_sound : ∀ (l : List S24) (i : Int), 0 ≤ i → (0 ≤ idxS l i ↔ soundL l = false)
  | [], i, h => by simp [idxS, soundL]
  | k :: r, i, h => by
    simp only [idxS, soundL]
    by_cases c : soundS k = true
    · rw [if_pos c, idx_sound r (i + 1) (by omega), c]; simp
    · rw [if_neg c]
      have : soundS k = false := by simpa using c
      rw [this]; simp [h]
def SoundAt (s : S24) : Prop := ∀ (A : Option Addr) (cp : Nat) (w : World), Kd.C k24 w A s.f2.length s.f2 → s.f2.length ≤ cp →
    Calls Try.prog 34 #[.agg #[.int .i64 s.f0, .int .i64 s.f1, .slice A s.f2.length cp]] w fun e w' => e = .returned (.bool (soundS s)) ∧ Below w.heap.size w w'
set_option maxHeartbeats 800000 in
theorem sound1 (s : S24) (hs : SoundAt s) (b : Bool) (hb : soundS s = b) (A : Option Addr) (cp : Nat) (w : World) (hr : Kd.C k24 w A s.f2.length s.f2) (hc : s.f2.length ≤ cp) :
    Calls Try.prog 50 #[.agg #[.int .i64 s.f0, .int .i64 s.f1, .slice A s.f2.length cp]] w fun e w' => e = .returned (.bool (!b)) ∧ Below w.heap.size w w' := by
  have hu := Try.underlying24
  have HS := Aside0.mk hs
  have HR := Aside0.mk hr
  have HC := Aside0.mk hc
  have HBB := Aside0.mk hb
  clear hs hr hc hb
  go_enter Try.func50, Try.ntmps50
  go_wp2_with (go_at_call 34; refine (HS.out _ _ _ (Kd.C_alloc HR.out _) HC.out).mono ?_; rintro e w1 ⟨rfl, hB⟩; have HB := Aside0.mk hB; clear hB)
  go_ret
  exact ⟨by rw [HBB.out]; cases b <;> rfl, (below_alloc (Below.refl _ _) _).trans (HB.out.mono (by simp))⟩
set_option maxHeartbeats 1600000 in
theorem soundIdx (l : List S24) (hs : ∀ k ∈ l, SoundAt k) (A : Option Addr) (cp : Nat) (w : World) (hr : Kd.C k24 w A l.length l) (hc : l.length ≤ cp) :
    Calls Try.prog 68 #[.slice A l.length cp, .func (.func 50) #[] #[]] w fun e w' => e = .returned (.int .i64 (idxS l 0)) ∧ Below w.heap.size w w' := by
  have hu := Try.underlying24
  have hlen := Kd.C_max hr
  have HS := Aside0.mk hs
  have HR := Aside0.mk hr
  have HC := Aside0.mk hc
  clear hs hr hc
  go_enter Try.func68, Try.ntmps68
  go_wp2
  go_loopg [8] l.length (fun kq v8 w' => ∃ j : Nat, j + kq = l.length ∧ v8 = .int .i64 j ∧ Aside0 (idxS l 0 = idxS (l.drop j) j) ∧ Aside0 (Below w.heap.size w w'))
  case atStart => exact ⟨0, by simp, rfl, ⟨by simp⟩, ⟨Below.refl _ _⟩⟩
  case round =>
    obtain ⟨j, hj, rfl, HA, HB⟩ := hrel
    have HJ := Aside0.mk hj
    clear hj
    by_cases hlt : j < l.length
    · obtain ⟨ad, A2, cp2, e0, hx0, hx1, hx2, hl2, hk2⟩ := kid_at HR.out HB.out j hlt hlt
      cases e0
      have HK2 := Aside0.mk (Kd.C_below hk2 HB.out)
      have HL2 := Aside0.mk hl2
      clear hk2 hl2
      have hstep : idxS (l.drop j) j = if soundS l[j] = true then idxS (l.drop (j + 1)) (j + 1) else j := by
        rw [List.drop_eq_getElem_cons hlt]
        rfl
      have HSS := Aside0.mk hstep
      clear hstep
      have hk := HS.out l[j] (List.getElem_mem hlt)
      have HKK := Aside0.mk hk
      clear hk
      by_cases hp : soundS l[j] = true
      · have HP := Aside0.mk hp
        clear hp
        go_wp2_with (go_at_call 50; refine (sound1 l[j] HKK.out true HP.out A2 cp2 _ HK2.out HL2.out).mono ?_; rintro e w1 ⟨rfl, hB⟩; have HB1 := Aside0.mk hB; clear hB)
        go_roundg (gk - 1)
        case measure => have := HJ.out; omega
        case rel => exact ⟨j + 1, by have := HJ.out; omega, by go_num, ⟨by rw [HA.out, HSS.out, if_pos HP.out]; simp⟩, ⟨HB.out.trans (HB1.out.mono HB.out.size)⟩⟩
      · have hp' : soundS l[j] = false := by simpa using hp
        have HP := Aside0.mk hp'
        clear hp hp'
        go_wp2_with (go_at_call 50; refine (sound1 l[j] HKK.out false HP.out A2 cp2 _ HK2.out HL2.out).mono ?_; rintro e w1 ⟨rfl, hB⟩; have HB1 := Aside0.mk hB; clear hB)
        go_ret
        refine ⟨show Ending.returned (.int .i64 (j : Int)) = _ from ?_, HB.out.trans (HB1.out.mono HB.out.size)⟩
        rw [HA.out, HSS.out, if_neg (by rw [HP.out]; simp)]
    · go_wp2
      go_ret
      refine ⟨?_, HB.out⟩
      rw [HA.out, List.drop_eq_nil_of_le (by omega)]
      rfl
set_option maxHeartbeats 800000 in
theorem soundAny (l : List S24) (hs : ∀ k ∈ l, SoundAt k) (b : Bool) (hb : soundL l = b) (A : Option Addr) (cp : Nat) (w : World) (hr : Kd.C k24 w A l.length l) (hc : l.length ≤ cp) :
    Calls Try.prog 49 #[.slice A l.length cp, .func (.func 50) #[] #[]] w fun e w' => e = .returned (.bool (!b)) ∧ Below w.heap.size w w' := by
  have hi := idx_sound l 0 (by omega)
  have HI := Aside0.mk hi
  clear hi
  have HBB := Aside0.mk hb
  have hcall := soundIdx l hs A cp w hr hc
  have HCL := Aside0.mk hcall
  clear hs hr hc hb hcall
  generalize idxS l 0 = x at HI HCL
  go_enter Try.func49, Try.ntmps49
  go_wp2_with (go_at_call 68; refine HCL.out.mono ?_; rintro e w1 ⟨rfl, hB⟩; have HB := Aside0.mk hB; clear hB)
  go_ret
  refine ⟨show Ending.returned (.bool (decide (0 ≤ x))) = _ from ?_, HB.out⟩
  rw [← HBB.out]
  congr 2
  have := HI.out
  cases h : soundL l with
  | true => rw [h] at this; simp at this; simp; omega
  | false => rw [h] at this; simp at this; simp; omega
theorem kids_range (op : Int) : -1 ≤ kidsS op ∧ kidsS op ≤ 2 := by unfold kidsS; split; omega; split; omega; split <;> omega
set_option maxHeartbeats 4000000 in
set_option maxRecDepth 100000 in
theorem sound_calls (s : S24) (hs : ∀ k ∈ s.f2, SoundAt k) : SoundAt s := by
  intro A cp w hr hc
  have hu := Try.underlying24
  obtain ⟨kk, hkk⟩ := (kids_ev s.f0).rounds
  have hkr := kids_range s.f0
  have hdef : soundS s = (decide (0 ≤ kidsS s.f0) && (decide ((s.f2.length : Int) = kidsS s.f0) && (decide (0 ≤ s.f1) && (decide (s.f1 ≤ mostS s.f0) && soundL s.f2)))) := by cases s; rfl
  have HD := Aside0.mk hdef
  have HKS := Aside0.mk hkk
  have hany := fun b hb W (hB : Below w.heap.size w W) => soundAny s.f2 hs b hb A cp W (Kd.C_below hr hB) hc
  have HANY := Aside0.mk hany
  have hlen := Kd.C_max hr
  clear hs hr hc hdef hkk hany
  generalize kidsS s.f0 = K at *
  have HX0 : ∀ b : Bool, b = false → b = false := fun _ h => h
  clear HX0
  by_cases c1 : 0 ≤ K
  · by_cases c2 : (s.f2.length : Int) = K
    · have d2 : ((s.f2.length : Int) == K) = true := beq_iff_eq.mpr c2
      have D2 := Aside0.mk (show decide ((s.f2.length : Int) = K) = true from decide_eq_true c2)
      clear c2
      by_cases c3 : 0 ≤ s.f1
      · by_cases h2 : s.f0 = 2
        · have e2 : (s.f0 == 2) = true := beq_iff_eq.mpr h2
          have HM := Aside0.mk (show mostS s.f0 = 19 from by unfold mostS; rw [if_pos h2])
          clear h2
          by_cases c4 : s.f1 ≤ 19
          · obtain ⟨b, hb⟩ : ∃ b, soundL s.f2 = b := ⟨_, rfl⟩
            rw [hb] at HD
            have HBB := Aside0.mk hb
            clear hb
            have HX := Aside0.mk (show soundS s = b from by rw [HD.out, HM.out, D2.out, decide_eq_true c1, decide_eq_true c3, decide_eq_true c4]; simp)
            clear HD HM D2
            go_enter Try.func34, Try.ntmps34
            go_wp2_with (first | (go_at_call 48; refine (formula_kids.calls kk s.f0 K _ HKS.out).mono ?_; rintro e w1 ⟨rfl, hd0⟩; obtain ⟨m, rfl⟩ := hd0.out) | (go_at_call 49; refine (HANY.out b HBB.out _ (pw_below_drewN (below_alloc (Below.refl _ _) _) _)).mono ?_; rintro e w1 ⟨rfl, hB⟩; have HB := Aside0.mk hB; clear hB))
            go_ret
            exact ⟨show Ending.returned (.bool b) = _ from by rw [HX.out], (pw_below_drewN (below_alloc (Below.refl _ _) _) _).trans (HB.out.mono (by simp))⟩
          · have HX := Aside0.mk (show soundS s = false from by rw [HD.out, HM.out, decide_eq_false c4]; simp)
            clear HD HM D2
            go_enter Try.func34, Try.ntmps34
            go_wp2_with (go_at_call 48; refine (formula_kids.calls kk s.f0 K _ HKS.out).mono ?_; rintro e w1 ⟨rfl, hd0⟩; obtain ⟨m, rfl⟩ := hd0.out)
            go_ret
            exact ⟨show Ending.returned (.bool false) = _ from by rw [HX.out], pw_below_drewN (below_alloc (Below.refl _ _) _) _⟩
        · have e2 : (s.f0 == 2) = false := beq_eq_false_iff_ne.mpr h2
          have HM := Aside0.mk (show mostS s.f0 = 0 from by unfold mostS; rw [if_neg h2])
          clear h2
          by_cases c4 : s.f1 ≤ 0
          · obtain ⟨b, hb⟩ : ∃ b, soundL s.f2 = b := ⟨_, rfl⟩
            rw [hb] at HD
            have HBB := Aside0.mk hb
            clear hb
            have HX := Aside0.mk (show soundS s = b from by rw [HD.out, HM.out, D2.out, decide_eq_true c1, decide_eq_true c3, decide_eq_true c4]; simp)
            clear HD HM D2
            go_enter Try.func34, Try.ntmps34
            go_wp2_with (first | (go_at_call 48; refine (formula_kids.calls kk s.f0 K _ HKS.out).mono ?_; rintro e w1 ⟨rfl, hd0⟩; obtain ⟨m, rfl⟩ := hd0.out) | (go_at_call 49; refine (HANY.out b HBB.out _ (pw_below_drewN (below_alloc (Below.refl _ _) _) _)).mono ?_; rintro e w1 ⟨rfl, hB⟩; have HB := Aside0.mk hB; clear hB))
            go_ret
            exact ⟨show Ending.returned (.bool b) = _ from by rw [HX.out], (pw_below_drewN (below_alloc (Below.refl _ _) _) _).trans (HB.out.mono (by simp))⟩
          · have HX := Aside0.mk (show soundS s = false from by rw [HD.out, HM.out, decide_eq_false c4]; simp)
            clear HD HM D2
            go_enter Try.func34, Try.ntmps34
            go_wp2_with (go_at_call 48; refine (formula_kids.calls kk s.f0 K _ HKS.out).mono ?_; rintro e w1 ⟨rfl, hd0⟩; obtain ⟨m, rfl⟩ := hd0.out)
            go_ret
            exact ⟨show Ending.returned (.bool false) = _ from by rw [HX.out], pw_below_drewN (below_alloc (Below.refl _ _) _) _⟩
      · by_cases h2 : s.f0 = 2
        · have e2 : (s.f0 == 2) = true := beq_iff_eq.mpr h2
          have HM := Aside0.mk (show mostS s.f0 = 19 from by unfold mostS; rw [if_pos h2])
          clear h2
          have HX := Aside0.mk (show soundS s = false from by rw [HD.out, decide_eq_false c3]; simp)
          clear HD HM
          go_enter Try.func34, Try.ntmps34
          go_wp2_with (go_at_call 48; refine (formula_kids.calls kk s.f0 K _ HKS.out).mono ?_; rintro e w1 ⟨rfl, hd0⟩; obtain ⟨m, rfl⟩ := hd0.out)
          go_ret
          exact ⟨show Ending.returned (.bool false) = _ from by rw [HX.out], pw_below_drewN (below_alloc (Below.refl _ _) _) _⟩
        · have e2 : (s.f0 == 2) = false := beq_eq_false_iff_ne.mpr h2
          have HM := Aside0.mk (show mostS s.f0 = 0 from by unfold mostS; rw [if_neg h2])
          clear h2
          have HX := Aside0.mk (show soundS s = false from by rw [HD.out, decide_eq_false c3]; simp)
          clear HD HM
          go_enter Try.func34, Try.ntmps34
          go_wp2_with (go_at_call 48; refine (formula_kids.calls kk s.f0 K _ HKS.out).mono ?_; rintro e w1 ⟨rfl, hd0⟩; obtain ⟨m, rfl⟩ := hd0.out)
          go_ret
          exact ⟨show Ending.returned (.bool false) = _ from by rw [HX.out], pw_below_drewN (below_alloc (Below.refl _ _) _) _⟩
    · have d2 : ((s.f2.length : Int) == K) = false := beq_eq_false_iff_ne.mpr c2
      by_cases h2 : s.f0 = 2
      · have e2 : (s.f0 == 2) = true := beq_iff_eq.mpr h2
        have HM := Aside0.mk (show mostS s.f0 = 19 from by unfold mostS; rw [if_pos h2])
        clear h2
        have HX := Aside0.mk (show soundS s = false from by rw [HD.out, decide_eq_false c2]; simp)
        clear HD HM
        go_enter Try.func34, Try.ntmps34
        go_wp2_with (go_at_call 48; refine (formula_kids.calls kk s.f0 K _ HKS.out).mono ?_; rintro e w1 ⟨rfl, hd0⟩; obtain ⟨m, rfl⟩ := hd0.out)
        go_ret
        exact ⟨show Ending.returned (.bool false) = _ from by rw [HX.out], pw_below_drewN (below_alloc (Below.refl _ _) _) _⟩
      · have e2 : (s.f0 == 2) = false := beq_eq_false_iff_ne.mpr h2
        have HM := Aside0.mk (show mostS s.f0 = 0 from by unfold mostS; rw [if_neg h2])
        clear h2
        have HX := Aside0.mk (show soundS s = false from by rw [HD.out, decide_eq_false c2]; simp)
        clear HD HM
        go_enter Try.func34, Try.ntmps34
        go_wp2_with (go_at_call 48; refine (formula_kids.calls kk s.f0 K _ HKS.out).mono ?_; rintro e w1 ⟨rfl, hd0⟩; obtain ⟨m, rfl⟩ := hd0.out)
        go_ret
        exact ⟨show Ending.returned (.bool false) = _ from by rw [HX.out], pw_below_drewN (below_alloc (Below.refl _ _) _) _⟩
  · by_cases h2 : s.f0 = 2
    · have e2 : (s.f0 == 2) = true := beq_iff_eq.mpr h2
      have HM := Aside0.mk (show mostS s.f0 = 19 from by unfold mostS; rw [if_pos h2])
      clear h2
      have HX := Aside0.mk (show soundS s = false from by rw [HD.out, decide_eq_false c1]; simp)
      clear HD HM
      go_enter Try.func34, Try.ntmps34
      go_wp2_with (go_at_call 48; refine (formula_kids.calls kk s.f0 K _ HKS.out).mono ?_; rintro e w1 ⟨rfl, hd0⟩; obtain ⟨m, rfl⟩ := hd0.out)
      go_ret
      exact ⟨show Ending.returned (.bool false) = _ from by rw [HX.out], pw_below_drewN (below_alloc (Below.refl _ _) _) _⟩
    · have e2 : (s.f0 == 2) = false := beq_eq_false_iff_ne.mpr h2
      have HM := Aside0.mk (show mostS s.f0 = 0 from by unfold mostS; rw [if_neg h2])
      clear h2
      have HX := Aside0.mk (show soundS s = false from by rw [HD.out, decide_eq_false c1]; simp)
      clear HD HM
      go_enter Try.func34, Try.ntmps34
      go_wp2_with (go_at_call 48; refine (formula_kids.calls kk s.f0 K _ HKS.out).mono ?_; rintro e w1 ⟨rfl, hd0⟩; obtain ⟨m, rfl⟩ := hd0.out)
      go_ret
      exact ⟨show Ending.returned (.bool false) = _ from by rw [HX.out], pw_below_drewN (below_alloc (Below.refl _ _) _) _⟩
mutual
theorem sound_all : ∀ s : S24, SoundAt s
  | ⟨op, m, kids⟩ => sound_calls ⟨op, m, kids⟩ (sound_kids kids)
theorem sound_kids : ∀ (l : List S24) (k : S24), k ∈ l → SoundAt k
  | [], k, hk => by simp at hk
  | a :: r, k, hk => by
    rcases List.mem_cons.1 hk with h | h
    · rw [h]
      exact sound_all a
    · exact sound_kids r k h
end
/-- May. -/
def mayF (s : S24) : Int := if lightS s = true ∧ (cntS s).t ≤ 8 then (if soundS s = true then 0 else 1) else 7
end Go.Proofs.Ytegaicoddnmemaa.X

namespace Go.Proofs.Ytegaicoddnmemaa.X
open Go.RowKit Go.Proofs.YtegaicoddnmemaaW.PrintWords Go.Proofs.YtegaicoddnmemaaW.PrintLast Go.Proofs.YtegaicoddnmemaaW.PrintMore
open Go.Proofs.Ytegaicoddnmemaa.P Go.Proofs.Ytegaicoddnmemaa.Evx
set_option linter.unusedSimpArgs false
set_option linter.unusedVariables false
theorem box_in {w w1 : World} {o : Obj} (hB : Below (w.alloc o).heap.size (w.alloc o) w1) : w1.heap[w.heap.size]? = some o := (hB.block _ (by simp)).trans (heap_alloc_new w o)
set_option maxHeartbeats 1600000 in
set_option maxRecDepth 100000 in
theorem May_calls (s : S24) (A : Option Addr) (cp : Nat) (w : World) (hr : Kd.C k24 w A s.f2.length s.f2) (hc : s.f2.length ≤ cp) :
    Calls Try.prog 14 #[.agg #[.int .i64 s.f0, .int .i64 s.f1, .slice A s.f2.length cp]] w fun e w' => e = .returned (.int .i64 (mayF s)) ∧ Below w.heap.size w w' := by
  have hu := Try.underlying24
  have huc := Try.underlying54
  have hlight := formula_light.all s A cp (w.alloc (.cells #[.int .i64 s.f0, .int .i64 s.f1, .slice A s.f2.length cp] 24)) (Kd.C_alloc hr _) hc
  have HL := Aside0.mk hlight
  have hcnt := fun W (hB : Below w.heap.size w W) => counted_calls s A cp W (Kd.C_below hr hB) hc
  have HCN := Aside0.mk hcnt
  have hsnd := fun W (hB : Below w.heap.size w W) => sound_all s A cp W (Kd.C_below hr hB) hc
  have HSN := Aside0.mk hsnd
  have HM := Aside0.mk (show mayF s = if lightS s = true ∧ (cntS s).t ≤ 8 then (if soundS s = true then 0 else 1) else 7 from rfl)
  clear hlight hcnt hsnd hr hc
  generalize mayF s = r at *
  generalize cntS s = c at *
  cases h1 : lightS s with
  | false =>
    rw [h1] at HL HM
    clear h1
    go_enter Try.func14, Try.ntmps14
    go_wp2_with (go_at_call 32; refine HL.out.mono ?_; rintro e w1 ⟨rfl, hB⟩; have HB := Aside0.mk hB; clear hB)
    go_ret
    exact ⟨show Ending.returned (.int .i64 7) = _ from by rw [HM.out]; rfl, (below_alloc (Below.refl _ _) _).trans (HB.out.mono (by simp))⟩
  | true =>
    rw [h1] at HL HM
    clear h1
    by_cases h2 : c.t ≤ 8
    · cases h3 : soundS s with
      | false =>
        rw [h3] at HSN HM
        clear h3
        have HMM := Aside0.mk (show r = 1 from by rw [HM.out, if_pos ⟨rfl, h2⟩]; rfl)
        go_enter Try.func14, Try.ntmps14
        go_wp2_with (first | (go_at_call 32; refine HL.out.mono ?_; rintro e w1 ⟨rfl, hB⟩; have HB := Aside0.mk hB; have HBK := Aside0.mk (box_in hB); have x0 := (blk_cell HBK.out 0).trans rfl; have x1 := (blk_cell HBK.out 1).trans rfl; have x2 := (blk_cell HBK.out 2).trans rfl; clear hB) | (go_at_call 33; refine (HCN.out _ ((below_alloc (Below.refl _ _) _).trans (HB.out.mono (by simp)))).mono ?_; rintro e w2 ⟨g, rfl, hI, hB2, hg⟩; have ct : w2.cell? ⟨g, 1, none⟩ = some (.int .i64 c.t) := (blk_cell hI 1).trans rfl; have y0 := (hB2.cell (World.block_lt_of_cell? _ _ x0)).trans x0; have y1 := (hB2.cell (World.block_lt_of_cell? _ _ x1)).trans x1; have y2 := (hB2.cell (World.block_lt_of_cell? _ _ x2)).trans x2; have HB2 := Aside0.mk (((below_alloc (Below.refl _ _) _).trans (HB.out.mono (by simp))).trans (hB2.mono (by have := HB.out.size; simp at this; omega)) : Below w.heap.size w w2); clear hB2 hI hg) | (go_at_call 34; refine (HSN.out _ HB2.out).mono ?_; rintro e w3 ⟨rfl, hB3⟩; have HB3 := Aside0.mk (HB2.out.trans (hB3.mono HB2.out.size)); clear hB3))
        go_ret
        exact ⟨show Ending.returned (.int .i64 1) = _ from by rw [HMM.out], HB3.out⟩
      | true =>
        rw [h3] at HSN HM
        clear h3
        have HMM := Aside0.mk (show r = 0 from by rw [HM.out, if_pos ⟨rfl, h2⟩]; rfl)
        go_enter Try.func14, Try.ntmps14
        go_wp2_with (first | (go_at_call 32; refine HL.out.mono ?_; rintro e w1 ⟨rfl, hB⟩; have HB := Aside0.mk hB; have HBK := Aside0.mk (box_in hB); have x0 := (blk_cell HBK.out 0).trans rfl; have x1 := (blk_cell HBK.out 1).trans rfl; have x2 := (blk_cell HBK.out 2).trans rfl; clear hB) | (go_at_call 33; refine (HCN.out _ ((below_alloc (Below.refl _ _) _).trans (HB.out.mono (by simp)))).mono ?_; rintro e w2 ⟨g, rfl, hI, hB2, hg⟩; have ct : w2.cell? ⟨g, 1, none⟩ = some (.int .i64 c.t) := (blk_cell hI 1).trans rfl; have y0 := (hB2.cell (World.block_lt_of_cell? _ _ x0)).trans x0; have y1 := (hB2.cell (World.block_lt_of_cell? _ _ x1)).trans x1; have y2 := (hB2.cell (World.block_lt_of_cell? _ _ x2)).trans x2; have HB2 := Aside0.mk (((below_alloc (Below.refl _ _) _).trans (HB.out.mono (by simp))).trans (hB2.mono (by have := HB.out.size; simp at this; omega)) : Below w.heap.size w w2); clear hB2 hI hg) | (go_at_call 34; refine (HSN.out _ HB2.out).mono ?_; rintro e w3 ⟨rfl, hB3⟩; have HB3 := Aside0.mk (HB2.out.trans (hB3.mono HB2.out.size)); clear hB3))
        go_ret
        exact ⟨show Ending.returned (.int .i64 0) = _ from by rw [HMM.out], HB3.out⟩
    · have HMM := Aside0.mk (show r = 7 from by rw [HM.out, if_neg (fun h => h2 h.2)])
      go_enter Try.func14, Try.ntmps14
      go_wp2_with (first | (go_at_call 32; refine HL.out.mono ?_; rintro e w1 ⟨rfl, hB⟩; have HB := Aside0.mk hB; have HBK := Aside0.mk (box_in hB); have x0 := (blk_cell HBK.out 0).trans rfl; have x1 := (blk_cell HBK.out 1).trans rfl; have x2 := (blk_cell HBK.out 2).trans rfl; clear hB) | (go_at_call 33; refine (HCN.out _ ((below_alloc (Below.refl _ _) _).trans (HB.out.mono (by simp)))).mono ?_; rintro e w2 ⟨g, rfl, hI, hB2, hg⟩; have ct : w2.cell? ⟨g, 1, none⟩ = some (.int .i64 c.t) := (blk_cell hI 1).trans rfl; have y0 := (hB2.cell (World.block_lt_of_cell? _ _ x0)).trans x0; have y1 := (hB2.cell (World.block_lt_of_cell? _ _ x1)).trans x1; have y2 := (hB2.cell (World.block_lt_of_cell? _ _ x2)).trans x2; have HB2 := Aside0.mk (((below_alloc (Below.refl _ _) _).trans (HB.out.mono (by simp))).trans (hB2.mono (by have := HB.out.size; simp at this; omega)) : Below w.heap.size w w2); clear hB2 hI hg))
      go_ret
      exact ⟨show Ending.returned (.int .i64 7) = _ from by rw [HMM.out], HB2.out⟩
def formula_May.f (a0_0 : Int) (a0_1 : Int) (l0_2 : List S24) : Option Int := some (mayF ⟨a0_0, a0_1, l0_2⟩)
theorem formula_May.calls (a0_0 : Int) (a0_1 : Int) (A0_2 : Option Addr) (c0_2 : Nat) (l0_2 : List S24) (r : Int) (w : World) (hr0_2 : Kd.C k24 w A0_2 l0_2.length l0_2) (hc0_2 : l0_2.length ≤ c0_2) (h : formula_May.f a0_0 a0_1 l0_2 = some r) :
    Calls Try.prog 14 #[.agg #[.int .i64 a0_0, .int .i64 a0_1, .slice A0_2 l0_2.length c0_2]] w fun e w' => e = .returned (.int .i64 r) ∧ Below w.heap.size w w' := by
  obtain rfl := Option.some.inj h
  exact May_calls ⟨a0_0, a0_1, l0_2⟩ A0_2 c0_2 w hr0_2 hc0_2
end Go.Proofs.Ytegaicoddnmemaa.X

namespace Go.Proofs.Ytegaicoddnmemaa.P
open Go.RowKit Go.Proofs.YtegaicoddnmemaaW.PrintWords Go.Proofs.YtegaicoddnmemaaW.PrintLast Go.Proofs.YtegaicoddnmemaaW.PrintMore
attribute [local go_sem] max2_int min2_int max_two min_two max_three min_three max_four min_four   -- for this text's walks alone
set_option linter.unusedVariables false
set_option linter.unusedSimpArgs false

/-- A state of type 73 at block g of W; what its slices lead to came in by w0. -/
def IsS73 (w0 W : World) (g : Nat) (f0 : List Int) (f1 : Int) : Prop := ∃ A0 c0, W.heap[g]? = some (.cells #[.slice A0 f0.length c0, .int .i64 f1] 73 (0, 0)) ∧ w0.heap.size ≤ g ∧ Kd.C (Kd.int .u32) w0 A0 f0.length f0
theorem IsS73.grown {w0 W : World} {g : Nat} {f0 : List Int} {f1 : Int} {W1 : World} {row : Option Nat} (h : IsS73 w0 W g f0 f1) (hw : W.grownBy W1 row) (hne : some g ≠ row) : IsS73 w0 W1 g f0 f1 := by
  obtain ⟨A0, c0, hb, hg, hr0⟩ := h
  exact ⟨A0, c0, blk_grown hb hw hne, hg, hr0⟩
theorem IsS73.kept {w0 W : World} {g : Nat} {f0 : List Int} {f1 : Int} {W1 : World} {S : Nat → Prop} (h : IsS73 w0 W g f0 f1) (hk : Kept W W1 S) (hne : ¬ S g) : IsS73 w0 W1 g f0 f1 := by
  obtain ⟨A0, c0, hb, hg, hr0⟩ := h
  exact ⟨A0, c0, blk_kept hb hk hne, hg, hr0⟩
theorem IsS73.below {w0 W : World} {g : Nat} {f0 : List Int} {f1 : Int} {W1 : World} (h : IsS73 w0 W g f0 f1) (hw : Below W.heap.size W W1) : IsS73 w0 W1 g f0 f1 := h.grown (grown_of_below hw none) (by simp)
theorem IsS73.alloc {w0 W : World} {g : Nat} {f0 : List Int} {f1 : Int} (h : IsS73 w0 W g f0 f1) (o : Obj) : IsS73 w0 (W.alloc o) g f0 f1 := h.below (below_alloc (Below.refl _ _) o)
theorem IsS73.drewN {w0 W : World} {g : Nat} {f0 : List Int} {f1 : Int} (h : IsS73 w0 W g f0 f1) (m : Nat) : IsS73 w0 (W.drewN m) g f0 f1 := h
theorem IsS73.drew {w0 W : World} {g : Nat} {f0 : List Int} {f1 : Int} (h : IsS73 w0 W g f0 f1) : IsS73 w0 W.drew g f0 f1 := h
theorem IsS73.at_ {w0 W : World} {g : Nat} {f0 : List Int} {f1 : Int} {w' : World} {m : Nat} (hq : W.drewN m = w') (h : IsS73 w0 W g f0 f1) : IsS73 w0 w' g f0 f1 := by subst hq; exact IsS73.drewN h m
theorem IsS73.apart {w0 W : World} {g : Nat} {f0 : List Int} {f1 : Int} {α : Type} {d : Kd α} {e : Nat} {base : Nat} {ok : Nat → Prop} {v : Value} {xs : List α} (h : IsS73 w0 W g f0 f1) (ho : d.R e W base ok v xs) (ht : ∀ q, q ∈ e :: d.E → q ≠ 73) : d.R e W base (fun k => ok k ∧ k ≠ g) v xs := by
  obtain ⟨A0, c0, hb, hg, hr0⟩ := h
  exact Kd.R_types ho hb ht
theorem IsS73.own_ne {w0 W : World} {g : Nat} {f0 : List Int} {f1 : Int} {α : Type} {d : Kd α} {e : Nat} {base : Nat} {ok : Nat → Prop} {v : Value} {xs : List α} (h : IsS73 w0 W g f0 f1) (ho : d.R e W base ok v xs) (ht : e ≠ 73) : some g ≠ v.ownBlock := by
  obtain ⟨A0, c0, hb, hg, hr0⟩ := h
  exact Kd.R_ne ho hb ht
theorem IsS73.lt {w0 W : World} {g : Nat} {f0 : List Int} {f1 : Int} (h : IsS73 w0 W g f0 f1) : g < W.heap.size := by
  obtain ⟨A0, c0, hb, hg, hr0⟩ := h
  exact blk_lt hb
def bits_Mul64.f (a0 : Int) (a1 : Int) : Option (Int × Int) := some (IntKind.u64.wrap ((IntKind.u64.wrap ((IntKind.u64.wrap ((a0 / 4294967296) * (a1 / 4294967296))) + ((IntKind.u64.wrap ((IntKind.u64.wrap ((a0 / 4294967296) * (Go.bits .and .u64 a1 4294967295))) + ((IntKind.u64.wrap ((Go.bits .and .u64 a0 4294967295) * (Go.bits .and .u64 a1 4294967295))) / 4294967296))) / 4294967296))) + ((IntKind.u64.wrap ((Go.bits .and .u64 (IntKind.u64.wrap ((IntKind.u64.wrap ((a0 / 4294967296) * (Go.bits .and .u64 a1 4294967295))) + ((IntKind.u64.wrap ((Go.bits .and .u64 a0 4294967295) * (Go.bits .and .u64 a1 4294967295))) / 4294967296))) 4294967295) + (IntKind.u64.wrap ((Go.bits .and .u64 a0 4294967295) * (a1 / 4294967296))))) / 4294967296)), IntKind.u64.wrap (a0 * a1))
set_option maxHeartbeats 8000000 in
set_option maxRecDepth 100000 in
theorem bits_Mul64.calls (a0 : Int) (a1 : Int) (r1 : Int) (r2 : Int) (w : World) (h : bits_Mul64.f a0 a1 = some (r1, r2)) :
    Calls Try.prog 73 #[.int .u64 a0, .int .u64 a1] w fun e w' => e = .returned (.tuple #[.int .u64 r1, .int .u64 r2]) ∧ Drawn0 w w' := by
  have H : (some (IntKind.u64.wrap ((IntKind.u64.wrap ((IntKind.u64.wrap ((a0 / 4294967296) * (a1 / 4294967296))) + ((IntKind.u64.wrap ((IntKind.u64.wrap ((a0 / 4294967296) * (Go.bits .and .u64 a1 4294967295))) + ((IntKind.u64.wrap ((Go.bits .and .u64 a0 4294967295) * (Go.bits .and .u64 a1 4294967295))) / 4294967296))) / 4294967296))) + ((IntKind.u64.wrap ((Go.bits .and .u64 (IntKind.u64.wrap ((IntKind.u64.wrap ((a0 / 4294967296) * (Go.bits .and .u64 a1 4294967295))) + ((IntKind.u64.wrap ((Go.bits .and .u64 a0 4294967295) * (Go.bits .and .u64 a1 4294967295))) / 4294967296))) 4294967295) + (IntKind.u64.wrap ((Go.bits .and .u64 a0 4294967295) * (a1 / 4294967296))))) / 4294967296)), IntKind.u64.wrap (a0 * a1))) = some (r1, r2) := h
  clear h
  simp only [Option.some.injEq, Prod.mk.injEq] at H
  obtain ⟨rfl, rfl⟩ := H
  go_enter Try.func73, Try.ntmps73
  go_wp2
  go_ret2
  exact ⟨by first | rfl | (simp; done) | (simp [*]; done), by repeat (first | exact Drawn0.refl _ | apply Drawn0.step)⟩

def bits_Mul.f (a0 : Int) (a1 : Int) : Option (Int × Int) := (bits_Mul64.f a0 a1).bind fun bt119 => (some (bt119.1, bt119.2))
set_option maxHeartbeats 8000000 in
set_option maxRecDepth 100000 in
theorem bits_Mul.calls (a0 : Int) (a1 : Int) (r1 : Int) (r2 : Int) (w : World) (h : bits_Mul.f a0 a1 = some (r1, r2)) :
    Calls Try.prog 71 #[.int .u64 a0, .int .u64 a1] w fun e w' => e = .returned (.tuple #[.int .u64 r1, .int .u64 r2]) ∧ Drawn0 w w' := by
  have H : ((bits_Mul64.f a0 a1).bind fun bt119 => (some (bt119.1, bt119.2))) = some (r1, r2) := h
  clear h
  replace H := Option.bind_eq_some_iff.mp H
  obtain ⟨⟨t119, t120⟩, A30, H⟩ := H
  replace H : (some (t119, t120)) = some (r1, r2) := H
  have A3 := Aside0.mk A30
  clear A30
  simp only [Option.some.injEq, Prod.mk.injEq] at H
  obtain ⟨rfl, rfl⟩ := H
  go_enter Try.func71, Try.ntmps71
  go_wp2_with (first | ((with_reducible refine gate_callee (f := 73) rfl ?_); refine goesL_ (some 25) rfl rfl Try.func73 (by kernel_rfl) rfl #[.int .u64 a0, .int .u64 a1] rfl (by (try simp only [List.map_toArray, List.map_cons, List.map_nil]); first | done | rfl | (simp only [List.length_drop, List.length_take]; rfl)) ?_; (with_reducible refine (bits_Mul64.calls a0 a1 t119 t120 _ A3.out).mono ?_); rintro e w' ⟨rfl, ⟨nd, rfl⟩⟩; refine ⟨_, rfl, ?_⟩))
  go_ret2
  exact ⟨by first | rfl | (simp; done) | (simp [*]; done), by repeat (first | exact Drawn0.refl _ | apply Drawn0.step)⟩

end Go.Proofs.Ytegaicoddnmemaa.P

namespace Go.Proofs.Ytegaicoddnmemaa.X
open Go.RowKit Go.Proofs.YtegaicoddnmemaaW.PrintWords Go.Proofs.YtegaicoddnmemaaW.PrintLast Go.Proofs.YtegaicoddnmemaaW.PrintMore
open Go.Proofs.Ytegaicoddnmemaa.P Go.Proofs.Ytegaicoddnmemaa.Evx
set_option linter.unusedSimpArgs false
set_option linter.unusedVariables false
theorem infoBool : (Try.prog.info? 4).map (fun i => (i.zero, i.size, i.bytes)) = some (some (.bool false), 1, 1) := by kernel_rfl
theorem u64w (x : Int) (h0 : 0 ≤ x) (h : x < 18446744073709551616) : IntKind.u64.wrap x = x := u64_id h0 h
theorem mul_one_n (n : Int) (h0 : 0 ≤ n) (h1 : n < 1000000000) : bits_Mul.f 1 n = some (0, n) := by
  unfold bits_Mul.f bits_Mul64.f
  simp only [Option.bind_some]
  have e1 : Go.bits .and .u64 1 4294967295 = 1 := (and_low32 1 (by omega) (by omega)).trans (by omega)
  have e2 : Go.bits .and .u64 n 4294967295 = n := (and_low32 n (by omega) (by omega)).trans (by omega)
  have e3 : (1 : Int) / 4294967296 = 0 := by omega
  have e4 : n / 4294967296 = 0 := by omega
  rw [e1, e2, e3, e4]
  have e5 : Go.bits .and .u64 0 4294967295 = 0 := (and_low32 0 (by omega) (by omega)).trans (by omega)
  simp only [Int.zero_mul, Int.one_mul, Int.mul_zero, Int.mul_one, u64w 0 (by omega) (by omega), u64w n (by omega) (by omega), Int.zero_add, e4, e5]
  simp [u64w 0 (by omega) (by omega), u64w n (by omega) (by omega)]
theorem splice_rep (n m c : Nat) (F f : Value) (h : m + c ≤ n) : splice (List.replicate m F ++ List.replicate (n - m) f) m (List.replicate c F) = List.replicate (m + c) F ++ List.replicate (n - (m + c)) f := by
  unfold splice
  rw [List.take_append_of_le_length (by simp), List.take_of_length_le (by simp), List.length_replicate, List.drop_append, List.drop_of_length_le (by simp), List.nil_append, List.length_replicate, List.drop_replicate, ← List.append_assoc, List.replicate_append_replicate]
  congr 2
  omega
theorem rep_get (n m : Nat) (F f : Value) (j : Nat) (h : j < m) : (List.replicate m F ++ List.replicate (n - m) f)[j]? = some F := by
  rw [List.getElem?_append_left (by simpa using h)]
  simp [h]
theorem cut_lo (g n m : Nat) (hm : m < n) (hn : n < 1000000000) (W : World) : (Instr.slice 45 (.slice (some ⟨g, 0, none⟩) n n) (some (.int .i64 (m : Int))) none none).run Try.prog W = .ok (.slice (some ⟨g, m, none⟩) (n - m) (n - m)) W := by
  obtain ⟨i, hi, hz, hs, hb⟩ := info_parts infoBool
  have h := cut_from (P := Try.prog) 45 4 .i64 Try.underlying45 hi 1 hs (some ⟨g, 0, none⟩) n n (m : Int) (by omega) (by omega) W
  rw [h]
  simp only [Int.toNat_natCast]
  rw [if_neg (by omega)]
  simp [Addr.add]
  omega
theorem cut_hi (g n m : Nat) (hm : m < n) (hn : n < 1000000000) (W : World) : (Instr.slice 45 (.slice (some ⟨g, 0, none⟩) n n) none (some (.int .i64 (m : Int))) none).run Try.prog W = .ok (.slice (some ⟨g, 0, none⟩) m n) W := by
  obtain ⟨i, hi, hz, hs, hb⟩ := info_parts infoBool
  have h := cut_to (P := Try.prog) 45 4 .i64 Try.underlying45 hi (some ⟨g, 0, none⟩) n n (m : Int) (by omega) (by omega) (by omega) W
  rw [h]
  simp only [Int.toNat_natCast]
theorem made_rep (n : Nat) : madeCells #[Value.bool false] n = (List.replicate n (Value.bool false)).toArray := by
  apply Array.ext
  · simp [madeCells]
  · intro i h1 h2
    simp [madeCells, Nat.mod_one]
/-- A row of one value, as one word. -/
def repRow (n : Nat) (b : Bool) : List Value := List.replicate n (Value.bool b)
theorem len_rep (n : Nat) (b : Bool) : (repRow n b).length = n := by simp [repRow]
theorem one_src {w : World} {gb : Nat} {v : Value} {t : TypeId} (h : w.heap[gb]? = some (.cells #[v] t (0, 0))) : ∀ j u, [v][j]? = some u → w.cell? ((⟨gb, 0, none⟩ : Addr).add j) = some u := by
  intro j u hu
  cases j with
  | zero => rw [← hu]; exact (blk_cell h 0).trans rfl
  | succ j => simp at hu
def fillRow (n m : Nat) (b : Bool) : List Value := List.replicate m (Value.bool b) ++ List.replicate (n - m) (Value.bool false)
theorem len_fill (n m : Nat) (b : Bool) (h : m ≤ n) : (fillRow n m b).length = n := by simp [fillRow]; omega
theorem fill_one (n : Nat) (b : Bool) (h : 0 < n) : splice (repRow n false) 0 [.bool b] = fillRow n 1 b := by
  have := splice_rep n 0 1 (.bool b) (.bool false) (by omega)
  simpa [repRow, fillRow] using this
theorem fill_src {w : World} {g n m c : Nat} {b : Bool} {t : TypeId} (h : w.heap[g]? = some (.cells (fillRow n m b).toArray t (0, 0))) : ∀ j u, (List.replicate (min m c) (Value.bool b))[j]? = some u → w.cell? ((⟨g, 0, none⟩ : Addr).add j) = some u := by
  intro j u hu
  obtain ⟨hj, hu'⟩ := List.getElem?_eq_some_iff.1 hu
  have hj' : j < m := by simp at hj; omega
  simp at hu'
  rw [← hu']
  have := rep_get n m (Value.bool b) (Value.bool false) j hj'
  have h2 := blk_cell h j
  rw [show (⟨g, 0, none⟩ : Addr).add j = ⟨g, j, none⟩ by simp [Addr.add] <;> omega]
  rw [h2]
  simpa [fillRow] using this
theorem i64w_small (q n : Nat) (h : q ≤ n) (hq : q < n) (h1 : n < 1000000000) : IntKind.i64.wrap ((q : Int) + ((min q (n - q) : Nat) : Int)) = ((q + min q (n - q) : Nat) : Int) := by
  rw [IntKind.wrap_i64]; omega
theorem make_rep (n : Nat) (h : n < 1000000000) (W : World) : (Instr.makeSlice 45 (.int .i64 (n : Int)) (.int .i64 (n : Int))).run Try.prog W = .ok (.slice (some ⟨W.heap.size, 0, none⟩) n n) (W.alloc (.cells ⟨repRow n false⟩ 4)) := by
  have := print_make_of (P := Try.prog) 45 4 (.bool false) 1 Try.underlying45 infoBool rfl (by decide) n (by omega) W
  rwa [made_rep] at this
set_option maxHeartbeats 4000000 in
set_option maxRecDepth 100000 in
theorem Repeat_calls (gb : Nat) (F : Bool) (n : Nat) (w : World) (hb : w.heap[gb]? = some (.cells #[.bool F] 4 (0, 0))) (h0 : 0 < n) (h1 : n < 1000000000) :
    Calls Try.prog 70 #[.slice (some ⟨gb, 0, none⟩) 1 1, .int .i64 n] w fun e w' => ∃ g, e = .returned (.slice (some ⟨g, 0, none⟩) n n) ∧ w.heap.size ≤ g ∧ w'.heap[g]? = some (.cells (repRow n F).toArray 4 (0, 0)) ∧ Below w.heap.size w w' := by
  have hus := Try.underlying45
  have hui := Try.underlying3
  have huu := Try.underlying51
  have hmk := make_rep n h1
  have HX := Aside0.mk (mul_one_n n (by omega) (by omega))
  have HGB := Aside0.mk (blk_lt hb)
  have HMB := Aside0.mk hb
  have h9 : ¬ (9223372036854775807 < (n : Int)) := by omega
  clear hb
  go_enter Try.func70, Try.ntmps70
  go_wp2_with (first | (go_at_call 71; refine (bits_Mul.calls 1 n 0 n _ HX.out).mono ?_; rintro e w1 ⟨rfl, hd0⟩; obtain ⟨m, rfl⟩ := hd0.out) | ((with_reducible refine gate_builtin (b := .copy) (xs := #[.tmp 31, .tmp 32]) rfl ?_); refine wpList_copy_splice rfl (.tmp 31) (.tmp 32) 45 45 rfl 4 hus (by kernel_rfl) (some ⟨w.heap.size, 0, none⟩) (some ⟨gb, 0, none⟩) n n 1 1 rfl rfl w.heap.size 0 (repRow n false) 4 (heap_alloc_new (w.drewN m) _) [.bool F] (show 1 = min 1 n by omega) (fun _ => ⟨rfl, _, rfl, one_src (blk_alloc (blk_drewN HMB.out m) _)⟩) (show 0 + 1 ≤ (repRow n false).length by rw [len_rep]; omega) (by intro v hv; rw [List.mem_singleton.1 hv]; rfl) w.heap.size w (below_alloc (pw_below_drewN (Below.refl _ _) m) _) (Nat.le_refl _) ?_; intro w2 hG hB; have HG := Aside0.mk hG.out; have HB := Aside0.mk hB; clear hG hB))
  have HG1 := Aside0.mk (show w2.heap[w.heap.size]? = some (.cells (fillRow n 1 F).toArray 4 (0, 0)) from by rw [HG.out]; congr 3; exact fill_one n F h0)
  go_loopg [8] (n - 1) (fun kq v8 w' => ∃ q : Nat, 1 ≤ q ∧ q ≤ n ∧ kq = n - q ∧ v8 = .int .i64 q ∧ Aside0 (w'.heap[w.heap.size]? = some (.cells (fillRow n q F).toArray 4 (0, 0))) ∧ Aside0 (Below w.heap.size w w'))
  case atStart => exact ⟨1, Nat.le_refl _, h0, rfl, rfl, HG1, HB⟩
  case round =>
    obtain ⟨q, hq1, hq2, hqk, rfl, HGV, HBV⟩ := hrel
    have HQ := Aside0.mk hqk
    clear hqk
    by_cases hlt : q < n
    · obtain ⟨WW, rfl⟩ : ∃ W : World, W = wr := ⟨_, rfl⟩
      have hl := cut_lo w.heap.size n q hlt h1
      have hh := cut_hi w.heap.size n q hlt h1
      have hmin : ((min q (n - q) : Nat) : Int) + (q : Int) ≤ n := by omega
      go_wp2
      go_region_law (refine step_copy_splice rfl (.tmp 41) (.tmp 44) 45 45 rfl 4 hus (by kernel_rfl) (some ⟨w.heap.size, q, none⟩) (some ⟨w.heap.size, 0, none⟩) (n - q) (n - q) q n (by simp [Act.eval, Act.put]) (by simp [Act.eval, Act.put]) w.heap.size q (fillRow n q F) 4 HGV.out (List.replicate (min q (n - q)) (Value.bool F)) (show _ = min q (n - q) by simp) (fun _ => ⟨rfl, _, rfl, fill_src HGV.out⟩) (by rw [len_fill _ _ _ hq2, List.length_replicate]; omega) (by intro v hv; rw [List.eq_of_mem_replicate hv]; rfl) w.heap.size w (below_drew1 HBV.out) (Nat.le_refl _) ?_; intro w4 hG hB; have HG4 := Aside0.mk hG.out; have HB4 := Aside0.mk hB; clear hG hB)
      all_goals (
        go_wp2
        go_roundg (n - (q + min q (n - q)))
        case measure => have := HQ.out; omega
        case rel => exact ⟨q + min q (n - q), by omega, by omega, rfl, by first | (go_num; done) | (congr 1; go_num; done) | (simp only [i64w_small q n hq2 hlt h1]; done) | (simp only [i64w_small q n hq2 hlt h1]; rfl), ⟨by rw [HG4.out]; exact congrArg some (congrArg (fun z : List Value => Obj.cells z.toArray 4 (0, 0)) (splice_rep n q _ _ _ (by omega)))⟩, HB4⟩)
    · have e : q = n := by omega
      subst e
      go_wp2
      go_ret
      exact ⟨_, rfl, Nat.le_refl _, by rw [HGV.out]; congr 3; simp [fillRow, repRow], HBV.out⟩
end Go.Proofs.Ytegaicoddnmemaa.X

namespace Go.Proofs.Ytegaicoddnmemaa.X
open Go.RowKit Go.Proofs.YtegaicoddnmemaaW.PrintWords Go.Proofs.YtegaicoddnmemaaW.PrintLast Go.Proofs.YtegaicoddnmemaaW.PrintMore
open Go.Proofs.Ytegaicoddnmemaa.P Go.Proofs.Ytegaicoddnmemaa.Evx
set_option linter.unusedSimpArgs false
set_option linter.unusedVariables false
/-- The moment after i. -/
def nextS (n b i : Nat) : Nat := if i + 1 < n then i + 1 else b
theorem nextS_lt {n b i : Nat} (hb : b < n) : nextS n b i < n := by unfold nextS; split <;> omega
/-- A rower in its block. -/
def IsRower (w : World) (rb : Nat) (A : Option Addr) (n c b : Nat) : Prop := w.heap[rb]? = some (.cells #[.slice A n c, .int .i64 (b : Int)] 73 (0, 0))
set_option maxHeartbeats 1600000 in
theorem next_calls (rb : Nat) (A : Option Addr) (n c b i : Nat) (w : World) (h : IsRower w rb A n c b) (hi : i < n) (hn : n < 1000000000) :
    Calls Try.prog 61 #[.pointer (some ⟨rb, 0, none⟩), .int .i64 i] w fun e w' => e = .returned (.int .i64 (nextS n b i : Nat)) ∧ w' = w := by
  have hu := Try.underlying73
  have x0 : w.cell? ⟨rb, 0, none⟩ = some (.slice A n c) := (blk_cell h 0).trans rfl
  have x1 : w.cell? ⟨rb, 1, none⟩ = some (.int .i64 (b : Int)) := (blk_cell h 1).trans rfl
  clear h
  by_cases hlt : i + 1 < n
  · have hlt' : (i : Int) + 1 < n := by omega
    go_enter Try.func61, Try.ntmps61
    go_wp2
    go_ret
    exact ⟨by unfold nextS; rw [if_pos hlt]; rfl, rfl⟩
  · have hlt' : ¬ (i : Int) + 1 < n := by omega
    go_enter Try.func61, Try.ntmps61
    go_wp2
    go_ret
    exact ⟨by unfold nextS; rw [if_neg hlt]; rfl, rfl⟩
/-- One pass from behind over the places below i. -/
def passD (f : Nat → Bool → Bool) (n b : Nat) : Nat → List Bool → List Bool
  | 0, out => out
  | i + 1, out => passD f n b i (out.set i (f i (out.getD (nextS n b i) false)))
def settleS (f : Nat → Bool → Bool) (n b : Nat) (first : Bool) : List Bool := passD f n b n (passD f n b n (List.replicate n first))
theorem len_pass (f : Nat → Bool → Bool) (n b : Nat) : ∀ (i : Nat) (out : List Bool), (passD f n b i out).length = out.length
  | 0, out => rfl
  | i + 1, out => by rw [passD, len_pass f n b i]; simp
def passes (f : Nat → Bool → Bool) (n b : Nat) : Nat → List Bool → List Bool
  | 0, out => out
  | t + 1, out => passes f n b t (passD f n b n out)
def boolsOf (l : List Bool) : List Value := l.map Value.bool
theorem bools_get {l : List Bool} {i : Nat} (h : i < l.length) : (boolsOf l).toArray[i]? = some (.bool (l.getD i false)) := by
  simp [boolsOf, h]
theorem bools_set (l : List Bool) (i : Nat) (x : Bool) : (boolsOf l).toArray.setIfInBounds i (.bool x) = (boolsOf (l.set i x)).toArray := by
  simp [boolsOf, List.map_set]
set_option maxHeartbeats 8000000 in
set_option maxRecDepth 100000 in
theorem settle_calls (k : FuncId) (cap : Array Value) (he : ∀ args w, (callFunc k args).run Try.prog w = .ok (.enter k args) w) (f : Nat → Bool → Bool)
    (rb : Nat) (A : Option Addr) (n c b : Nat) (first : Bool) (w : World) (h : IsRower w rb A n c b) (h0 : 0 < n) (hn : n < 1000000000) (hb : b < n)
    (hF : ∀ W, Below w.heap.size w W → ∀ (i : Nat) (x : Bool), i < n → Calls Try.prog k (#[.int .i64 i, .bool x] ++ cap) W fun e W' => e = .returned (.bool (f i x)) ∧ Below W.heap.size W W') :
    Calls Try.prog 62 #[.pointer (some ⟨rb, 0, none⟩), .bool first, .func (.func k) #[] cap] w fun e w' => ∃ g, e = .returned (.slice (some ⟨g, 0, none⟩) n n) ∧ w.heap.size ≤ g ∧ w'.heap[g]? = some (.cells (boolsOf (settleS f n b first)).toArray 4 (0, 0)) ∧ Below w.heap.size w w' := by
  have hus := Try.underlying45
  have hu := Try.underlying73
  have x0 : w.cell? ⟨rb, 0, none⟩ = some (.slice A n c) := (blk_cell h 0).trans rfl
  have y0 : (w.alloc (.cells #[.bool first] 4)).cell? ⟨rb, 0, none⟩ = some (.slice A n c) := (blk_cell (blk_alloc h _) 0).trans rfl
  have HR := Aside0.mk h
  have HF := Aside0.mk hF
  clear h hF
  go_enter Try.func62, Try.ntmps62
  go_wp2_with (go_at_call 70; refine (Repeat_calls w.heap.size first n _ (heap_alloc_new w _) h0 hn).mono ?_; rintro e w1 ⟨g, rfl, hg, hG, hB⟩; have HGS := Aside0.mk (show w.heap.size ≤ g from by simp at hg; omega); have HG := Aside0.mk hG; have HB := Aside0.mk ((below_alloc (Below.refl _ _) _).trans (hB.mono (by simp)) : Below w.heap.size w w1); clear hg hG hB)
  go_loopg [17] 2 (fun kq v17 w' => ∃ (t : Nat) (out : List Bool), t ≤ 2 ∧ kq = 2 - t ∧ v17 = .int .i64 t ∧ out.length = n ∧ Aside0 (passes f n b (2 - t) out = settleS f n b first) ∧ Aside0 (w'.heap[g]? = some (.cells (boolsOf out).toArray 4 (0, 0))) ∧ Aside0 (Below w.heap.size w w'))
  case atStart => exact ⟨0, List.replicate n first, by omega, rfl, rfl, by simp, ⟨rfl⟩, ⟨by rw [HG.out]; congr 3; simp [repRow, boolsOf]⟩, HB⟩
  case round =>
    obtain ⟨t, out, ht, hkq, rfl, hlo, HP, HGV, HBV⟩ := hrel
    have HT := Aside0.mk ht
    have HKQ := Aside0.mk hkq
    have HLO := Aside0.mk hlo
    clear ht hkq hlo
    obtain ⟨WW, rfl⟩ : ∃ W : World, W = wr := ⟨_, rfl⟩
    by_cases hlt : (t : Int) < 2
    · have hpp : passes f n b (2 - t) out = passes f n b (2 - (t + 1)) (passD f n b n out) := by rw [show 2 - t = (2 - (t + 1)) + 1 by have := HT.out; omega]; rfl
      have HPP := Aside0.mk hpp
      clear hpp
      go_wp2
      go_loopg [8] n (fun kq v8 w' => ∃ (o2 : List Bool), kq ≤ n ∧ v8 = .int .i64 ((kq : Int) - 1) ∧ o2.length = n ∧ Aside0 (passD f n b kq o2 = passD f n b n out) ∧ Aside0 (w'.heap[g]? = some (.cells (boolsOf o2).toArray 4 (0, 0))) ∧ Aside0 (Below w.heap.size w w'))
      case atStart => exact ⟨out, Nat.le_refl _, rfl, HLO.out, ⟨rfl⟩, HGV, HBV⟩
      case round =>
        obtain ⟨o2, hkn, rfl, hl2, HQ, HG2, HB2⟩ := hrel
        obtain _ | j := gk
        · have e0 : ((0 : Nat) : Int) - 1 = -1 := rfl
          rw [e0]
          have HPD := Aside0.mk (show passes f n b (2 - (t + 1)) o2 = settleS f n b first from by rw [← HP.out, HPP.out, ← HQ.out]; rfl)
          have HLL := Aside0.mk hl2
          clear hl2
          go_wp2
          go_roundg (2 - (t + 1))
          case measure => have := HKQ.out; have := HT.out; omega
          case rel => exact ⟨t + 1, o2, by omega, rfl, by first | rfl | (congr 1; go_num; done) | go_num, HLL.out, HPD, HG2, HB2⟩
        · have e1 : ((j + 1 : Nat) : Int) - 1 = (j : Int) := by omega
          rw [e1]
          have hjn : j < n := by omega
          have hj0 : ¬ ((j : Int) < 0) := by omega
          have hIR : IsRower wr rb A n c b := (HB2.out.block _ (blk_lt HR.out)).trans HR.out
          have HN := Aside0.mk (next_calls rb A n c b j wr hIR hjn hn)
          have HS := Aside0.mk (show passD f n b j (o2.set j (f j (o2.getD (nextS n b j) false))) = passD f n b n out from HQ.out)
          have hq : nextS n b j < n := nextS_lt hb
          generalize nextS n b j = q at HN HS hq
          obtain ⟨x, hx⟩ : ∃ x, x = o2.getD q false := ⟨_, rfl⟩
          rw [← hx] at HS
          have xq : wr.cell? ⟨g, q, none⟩ = some (.bool x) := by rw [blk_cell HG2.out, bools_get (by omega), hx]
          have HLL := Aside0.mk hl2
          have HCL := Aside0.mk (HF.out wr HB2.out j x hjn)
          clear hl2 hIR hx
          go_wp2_with (first | (go_at_call 61; refine HN.out.mono ?_; rintro e w4 ⟨rfl, rfl⟩) | ((with_reducible refine HCL.out.mono ?_); rintro e w4 ⟨rfl, hB4⟩; have HG4 := Aside0.mk ((hB4.block _ (blk_lt HG2.out)).trans HG2.out); have HB4 := Aside0.mk (HB2.out.trans (hB4.mono HB2.out.size)); have xj : w4.cell? ⟨g, j, none⟩ = some (.bool (o2.getD j false)) := (by rw [blk_cell HG4.out, bools_get (by rw [HLL.out]; exact hjn)]); have fj := blk_frozen HG4.out j; clear hB4))
          go_roundg j
          case measure => omega
          case rel => exact ⟨o2.set j (f j x), by omega, by first | rfl | (congr 1; go_num; done) | go_num, by simp [HLL.out], HS, ⟨(blk_set HG4.out j _).trans (by rw [bools_set])⟩, ⟨below_set HB4.out HGS.out⟩⟩
    · have e2 : t = 2 := by have := HT.out; omega
      subst e2
      have HE := Aside0.mk (show out = settleS f n b first from HP.out)
      go_wp2
      go_ret
      exact ⟨g, rfl, HGS.out, by rw [← HE.out]; exact HGV.out, HBV.out⟩
end Go.Proofs.Ytegaicoddnmemaa.X

namespace Go.Proofs.Ytegaicoddnmemaa.X
open Go.RowKit Go.Proofs.YtegaicoddnmemaaW.PrintWords Go.Proofs.YtegaicoddnmemaaW.PrintLast Go.Proofs.YtegaicoddnmemaaW.PrintMore
open Go.Proofs.Ytegaicoddnmemaa.P Go.Proofs.Ytegaicoddnmemaa.Evx
set_option linter.unusedSimpArgs false
set_option linter.unusedVariables false
/-- A function with a body is entered. -/
theorem enters_f {P : Program} {f : FuncId} {fn : Func} {c : Code} (hf : P.funcs[f]? = some fn) (hname : (fn.name == "runtime.NumGoroutine") = false) (hb : fn.body = some c) (args : Array Value) (w : World) : (callFunc f args).run P w = .ok (.enter f args) w := by
  have h1 : fn.name ≠ "runtime.NumGoroutine" := fun h => by rw [h] at hname; exact absurd hname (by decide)
  simp [callFunc, hf, h1, hb, mark]
/-- A row of bools in its block. -/
def BRow (w : World) (g : Nat) (l : List Bool) : Prop := w.heap[g]? = some (.cells (boolsOf l).toArray 4 (0, 0))
/-- A variable in its block. -/
def Cell1 (w : World) (p : Nat) (v : Value) (t : TypeId) : Prop := w.heap[p]? = some (.cells #[v] t (0, 0))
theorem brow_cell {w : World} {g : Nat} {l : List Bool} (h : BRow w g l) {i : Nat} (hi : i < l.length) : w.cell? ⟨g, i, none⟩ = some (.bool (l.getD i false)) := by rw [blk_cell h, bools_get hi]
theorem cell1 {w : World} {p : Nat} {v : Value} {t : TypeId} (h : Cell1 w p v t) : w.cell? ⟨p, 0, none⟩ = some v := (blk_cell h 0).trans rfl
set_option maxHeartbeats 1600000 in
theorem row2_calls (p ga n i : Nat) (a : List Bool) (W : World) (hp : Cell1 W p (.slice (some ⟨ga, 0, none⟩) n n) 45) (ha : BRow W ga a) (hl : a.length = n) (hi : i < n) :
    Calls Try.prog 57 #[.int .i64 i, .pointer (some ⟨p, 0, none⟩)] W fun e W' => e = .returned (.bool (!(a.getD i false))) ∧ Below W.heap.size W W' := by
  have hus := Try.underlying45
  have hx := cell1 hp
  have hy := brow_cell ha (i := i) (by omega)
  generalize a.getD i false = x at *
  clear hp ha
  go_enter Try.func57, Try.ntmps57
  go_wp2
  go_ret
  exact ⟨rfl, Below.refl _ _⟩
set_option maxHeartbeats 1600000 in
theorem row3_calls (p q ga gb n i : Nat) (a b : List Bool) (W : World) (hp : Cell1 W p (.slice (some ⟨ga, 0, none⟩) n n) 45) (ha : BRow W ga a) (hl : a.length = n) (hq : Cell1 W q (.slice (some ⟨gb, 0, none⟩) n n) 45) (hb : BRow W gb b) (hm : b.length = n) (hi : i < n) :
    Calls Try.prog 58 #[.int .i64 i, .pointer (some ⟨p, 0, none⟩), .pointer (some ⟨q, 0, none⟩)] W fun e W' => e = .returned (.bool (a.getD i false && b.getD i false)) ∧ Below W.heap.size W W' := by
  have hus := Try.underlying45
  have hx := cell1 hp
  have hx2 := cell1 hq
  have hy := brow_cell ha (i := i) (by omega)
  have hy2 := brow_cell hb (i := i) (by omega)
  generalize a.getD i false = x at *
  generalize b.getD i false = y at *
  clear hp ha hq hb
  cases x with
  | false =>
    go_enter Try.func58, Try.ntmps58
    go_wp2
    go_ret
    exact ⟨rfl, Below.refl _ _⟩
  | true =>
    go_enter Try.func58, Try.ntmps58
    go_wp2
    go_ret
    exact ⟨rfl, Below.refl _ _⟩
set_option maxHeartbeats 1600000 in
theorem row4_calls (p q ga gb n i : Nat) (a b : List Bool) (W : World) (hp : Cell1 W p (.slice (some ⟨ga, 0, none⟩) n n) 45) (ha : BRow W ga a) (hl : a.length = n) (hq : Cell1 W q (.slice (some ⟨gb, 0, none⟩) n n) 45) (hb : BRow W gb b) (hm : b.length = n) (hi : i < n) :
    Calls Try.prog 59 #[.int .i64 i, .pointer (some ⟨p, 0, none⟩), .pointer (some ⟨q, 0, none⟩)] W fun e W' => e = .returned (.bool (a.getD i false || b.getD i false)) ∧ Below W.heap.size W W' := by
  have hus := Try.underlying45
  have hx := cell1 hp
  have hx2 := cell1 hq
  have hy := brow_cell ha (i := i) (by omega)
  have hy2 := brow_cell hb (i := i) (by omega)
  generalize a.getD i false = x at *
  generalize b.getD i false = y at *
  clear hp ha hq hb
  cases x with
  | false =>
    go_enter Try.func59, Try.ntmps59
    go_wp2
    go_ret
    exact ⟨rfl, Below.refl _ _⟩
  | true =>
    go_enter Try.func59, Try.ntmps59
    go_wp2
    go_ret
    exact ⟨rfl, Below.refl _ _⟩
set_option maxHeartbeats 1600000 in
theorem row5_calls (p q ga rb n c b i : Nat) (A : Option Addr) (a : List Bool) (W : World) (hp : Cell1 W p (.slice (some ⟨ga, 0, none⟩) n n) 45) (ha : BRow W ga a) (hl : a.length = n) (hq : Cell1 W q (.pointer (some ⟨rb, 0, none⟩)) 70) (hr : IsRower W rb A n c b) (hb : b < n) (hi : i < n) (hn : n < 1000000000) :
    Calls Try.prog 60 #[.int .i64 i, .pointer (some ⟨p, 0, none⟩), .pointer (some ⟨q, 0, none⟩)] W fun e W' => e = .returned (.bool (a.getD (nextS n b i) false)) ∧ Below W.heap.size W W' := by
  have hus := Try.underlying45
  have hx := cell1 hp
  have hx2 := cell1 hq
  have hlt := nextS_lt (n := n) (i := i) hb
  have hy := brow_cell ha (i := nextS n b i) (by omega)
  have HN := Aside0.mk (fun m => next_calls rb A n c b i (W.drewN m) (blk_drewN hr m) hi hn)
  generalize nextS n b i = j at *
  generalize a.getD j false = x at *
  clear hp ha hq hr
  go_enter Try.func60, Try.ntmps60
  go_wp2
  go_quiet (first | (go_at_call 61; refine Calls.quiet_of_same (HN.out _)))
  go_wp2
  go_ret
  exact ⟨rfl, pw_below_drewN (Below.refl _ _) _⟩
set_option maxHeartbeats 1600000 in
theorem row6_calls (p q ga gb n i : Nat) (nx : Bool) (a b : List Bool) (W : World) (hp : Cell1 W p (.slice (some ⟨ga, 0, none⟩) n n) 45) (ha : BRow W ga a) (hl : a.length = n) (hq : Cell1 W q (.slice (some ⟨gb, 0, none⟩) n n) 45) (hb : BRow W gb b) (hm : b.length = n) (hi : i < n) :
    Calls Try.prog 63 #[.int .i64 i, .bool nx, .pointer (some ⟨q, 0, none⟩), .pointer (some ⟨p, 0, none⟩)] W fun e W' => e = .returned (.bool (b.getD i false || a.getD i false && nx)) ∧ Below W.heap.size W W' := by
  have hus := Try.underlying45
  have hx := cell1 hp
  have hx2 := cell1 hq
  have hy := brow_cell ha (i := i) (by omega)
  have hy2 := brow_cell hb (i := i) (by omega)
  generalize a.getD i false = x at *
  generalize b.getD i false = y at *
  clear hp ha hq hb
  cases y <;> cases x <;> (
    go_enter Try.func63, Try.ntmps63
    go_wp2
    go_ret
    exact ⟨by first | rfl | (cases nx <;> rfl), Below.refl _ _⟩)
set_option maxHeartbeats 1600000 in
theorem row7_calls (p q ga gb n i : Nat) (nx : Bool) (a b : List Bool) (W : World) (hp : Cell1 W p (.slice (some ⟨ga, 0, none⟩) n n) 45) (ha : BRow W ga a) (hl : a.length = n) (hq : Cell1 W q (.slice (some ⟨gb, 0, none⟩) n n) 45) (hb : BRow W gb b) (hm : b.length = n) (hi : i < n) :
    Calls Try.prog 64 #[.int .i64 i, .bool nx, .pointer (some ⟨q, 0, none⟩), .pointer (some ⟨p, 0, none⟩)] W fun e W' => e = .returned (.bool (b.getD i false && (a.getD i false || nx))) ∧ Below W.heap.size W W' := by
  have hus := Try.underlying45
  have hx := cell1 hp
  have hx2 := cell1 hq
  have hy := brow_cell ha (i := i) (by omega)
  have hy2 := brow_cell hb (i := i) (by omega)
  generalize a.getD i false = x at *
  generalize b.getD i false = y at *
  clear hp ha hq hb
  cases y <;> cases x <;> (
    go_enter Try.func64, Try.ntmps64
    go_wp2
    go_ret
    exact ⟨by first | rfl | (cases nx <;> rfl), Below.refl _ _⟩)
theorem row8_calls (i : Int) (W : World) : Calls Try.prog 65 #[.int .i64 i] W fun e W' => e = .returned (.bool true) ∧ Below W.heap.size W W' := by
  go_enter Try.func65, Try.ntmps65
  go_wp2
  go_ret
  exact ⟨rfl, Below.refl _ _⟩
/-- The bit of a letter. -/
def bitS (l m : Int) : Bool := (Go.bits .and .u32 (shr .u32 l (IntKind.u64.wrap m)) 1) == 1
set_option maxHeartbeats 1600000 in
theorem row1_calls (p q rb n c b i : Nat) (A A2 : Option Addr) (ls : List Int) (op m : Int) (kn kc : Nat) (W : World) (hp : Cell1 W p (.pointer (some ⟨rb, 0, none⟩)) 70) (hr : IsRower W rb A n c b) (hC : Kd.C (Kd.int .u32) W A n ls) (hq : W.heap[q]? = some (.cells #[.int .i64 op, .int .i64 m, .slice A2 kn kc] 24 (0, 0))) (hi : i < n) (hm0 : 0 ≤ m) (hm1 : m < 32) :
    Calls Try.prog 56 #[.int .i64 i, .pointer (some ⟨p, 0, none⟩), .pointer (some ⟨q, 0, none⟩)] W fun e W' => e = .returned (.bool (bitS (ls.getD i 0) m)) ∧ Below W.heap.size W W' := by
  have hus := Try.underlying25
  have huF := Try.underlying24
  have huR := Try.underlying73
  have hx := cell1 hp
  have hx2 : W.cell? ⟨q, 1, none⟩ = some (.int .i64 m) := (blk_cell hq 1).trans rfl
  have hR := Kd.reads_of_C (d := 0) hC
  obtain ⟨ad, rfl, hc⟩ := hR.2.2 (by omega)
  have hy := hc i hi
  have hz : W.cell? ⟨rb, 0, none⟩ = some (.slice (some ad) n c) := (blk_cell hr 0).trans rfl
  generalize ls.getD i 0 = x at *
  have hw : IntKind.u64.wrap m = m := u64_id hm0 (by omega)
  have HBT := Aside0.mk (show bitS x m = ((Go.bits .and .u32 (x / 2 ^ m.toNat) 1) == 1) from by unfold bitS; rw [hw, ← shr_small (k := .u32) (x := x) (y := m) rfl (by show m ≤ 32; omega)])
  clear hp hr hC hq hR hc hw
  go_enter Try.func56, Try.ntmps56
  go_wp2
  go_quiet (fail)
  go_wp2
  go_ret
  exact ⟨by rw [HBT.out]; rfl, pw_below_drewN (Below.refl _ _) _⟩
set_option maxHeartbeats 1600000 in
theorem each1_calls (k : FuncId) (cap : Array Value) (he : ∀ args w, (callFunc k args).run Try.prog w = .ok (.enter k args) w) (p i : Nat) (x r : Bool) (W : World) (hp : Cell1 W p (.func (.func k) #[] cap) 77)
    (hF : Calls Try.prog k (#[.int .i64 i] ++ cap) W fun e W' => e = .returned (.bool r) ∧ Below W.heap.size W W') :
    Calls Try.prog 69 #[.int .i64 i, .bool x, .pointer (some ⟨p, 0, none⟩)] W fun e W' => e = .returned (.bool r) ∧ Below W.heap.size W W' := by
  have hx := cell1 hp
  have HF := Aside0.mk hF
  clear hp hF
  go_enter Try.func69, Try.ntmps69
  go_wp2_with ((with_reducible refine HF.out.mono ?_); rintro e w4 ⟨rfl, hB4⟩; have HB4 := Aside0.mk hB4; clear hB4)
  go_ret
  exact ⟨rfl, HB4.out⟩
set_option maxHeartbeats 1600000 in
theorem each_calls (k : FuncId) (cap : Array Value) (he : ∀ args w, (callFunc k args).run Try.prog w = .ok (.enter k args) w) (f : Nat → Bool)
    (rb : Nat) (A : Option Addr) (n c b : Nat) (w : World) (h : IsRower w rb A n c b) (h0 : 0 < n) (hn : n < 1000000000) (hb : b < n)
    (hF : ∀ W, Below w.heap.size w W → ∀ (i : Nat), i < n → Calls Try.prog k (#[.int .i64 i] ++ cap) W fun e W' => e = .returned (.bool (f i)) ∧ Below W.heap.size W W') :
    Calls Try.prog 55 #[.pointer (some ⟨rb, 0, none⟩), .func (.func k) #[] cap] w fun e w' => ∃ g, e = .returned (.slice (some ⟨g, 0, none⟩) n n) ∧ w.heap.size ≤ g ∧ BRow w' g (settleS (fun i _ => f i) n b false) ∧ Below w.heap.size w w' := by
  have hmf : ∀ fn first cap w, (Instr.makeFunc fn first cap).run Try.prog w = .ok (.func fn first cap) w := fun _ _ _ _ => rfl
  obtain ⟨W1, hW1⟩ : ∃ W1, W1 = w.alloc (.cells #[.func (.func k) #[] cap] 77) := ⟨_, rfl⟩
  have hB1 : Below w.heap.size w W1 := by rw [hW1]; exact below_alloc (Below.refl _ _) _
  have hc1 : Cell1 W1 w.heap.size (.func (.func k) #[] cap) 77 := by rw [hW1]; exact heap_alloc_new w _
  have he1 : ∀ args w, (callFunc 69 args).run Try.prog w = .ok (.enter 69 args) w := enters_f Try.func69 (by kernel_rfl) rfl
  have hS := settle_calls 69 #[.pointer (some ⟨w.heap.size, 0, none⟩)] he1 (fun i _ => f i) rb A n c b false W1 (by rw [hW1]; exact blk_alloc h _) h0 hn hb
    (fun W hW i x hi => each1_calls k cap he w.heap.size i x (f i) W ((hW.block _ (blk_lt hc1)).trans hc1) (hF W (hB1.trans (hW.mono hB1.size)) i hi))
  have HS := Aside0.mk hS
  have HB1 := Aside0.mk hB1
  have HW1 := Aside0.mk hW1
  clear hS hB1 hc1 hF h
  go_enter Try.func55, Try.ntmps55
  go_wp2_with (go_at_call 62; rw [← HW1.out]; refine HS.out.mono ?_; rintro e w4 ⟨g, rfl, hg, hG, hB4⟩; have HG := Aside0.mk hG; have HB4 := Aside0.mk (HB1.out.trans (hB4.mono HB1.out.size)); have HGS := Aside0.mk (Nat.le_trans HB1.out.size hg); clear hB4 hG hg)
  go_ret
  exact ⟨g, rfl, HGS.out, HG.out, HB4.out⟩
end Go.Proofs.Ytegaicoddnmemaa.X

namespace Go.Proofs.Ytegaicoddnmemaa.X
open Go.RowKit Go.Proofs.YtegaicoddnmemaaW.PrintWords Go.Proofs.YtegaicoddnmemaaW.PrintMore
open Go.Proofs.Ytegaicoddnmemaa.P
set_option linter.unusedVariables false
set_option linter.unusedSimpArgs false
/-- Bit k of a state. -/
def bitK (sv : Int) (k : Nat) : Bool := (Go.bits .and .i64 (sv / 2 ^ k) 1) == 1
/-- A node's value out of its kids' values and its bit. -/
def valOp (op m lt : Int) (bit x y : Bool) : Bool :=
  if op = 2 then bitS lt m else if op = 3 then !x else if op = 4 then x && y else if op = 5 then x || y else if op = 6 then bit else if op = 7 then y || x && bit else if op = 8 then y && (x || bit) else true
/-- What a timed node says of the state ahead. -/
def saidOp (op : Int) (x v : Bool) : Bool := if op = 6 then x else v
/-- Is a timed node settled. -/
def goodOp (op : Int) (v y : Bool) : Bool := if op = 6 then true else if op = 7 then !v || y else v || !y
def tS (op : Int) : Nat := if timedS op = true then 1 else 0
mutual
/-- How many timed nodes. -/
def tnS : S24 → Nat
  | ⟨op, _, kids⟩ => tS op + tnL kids
def tnL : List S24 → Nat
  | [] => 0
  | k :: r => tnS k + tnL r
end
mutual
/-- A formula's value at a state and a letter; k: the number of its first timed node. -/
def valS (sv lt : Int) : S24 → Nat → Bool
  | ⟨op, m, kids⟩, k => valOp op m lt (bitK sv k) ((valL sv lt kids (k + tS op)).getD 0 false) ((valL sv lt kids (k + tS op)).getD 1 false)
def valL (sv lt : Int) : List S24 → Nat → List Bool
  | [], _ => []
  | c :: r, k => valS sv lt c k :: valL sv lt r (k + tnS c)
end
/-- A node's own entry, if it is timed. -/
def ownE (op : Int) (b : Bool) : List Bool := if timedS op = true then [b] else []
mutual
def saidS (sv lt : Int) : S24 → Nat → List Bool
  | ⟨op, m, kids⟩, k => ownE op (saidOp op ((valL sv lt kids (k + tS op)).getD 0 false) (valS sv lt ⟨op, m, kids⟩ k)) ++ saidL sv lt kids (k + tS op)
def saidL (sv lt : Int) : List S24 → Nat → List Bool
  | [], _ => []
  | c :: r, k => saidS sv lt c k ++ saidL sv lt r (k + tnS c)
end
mutual
def goodS (sv lt : Int) : S24 → Nat → List Bool
  | ⟨op, m, kids⟩, k => ownE op (goodOp op (valS sv lt ⟨op, m, kids⟩ k) ((valL sv lt kids (k + tS op)).getD 1 false)) ++ goodL sv lt kids (k + tS op)
def goodL (sv lt : Int) : List S24 → Nat → List Bool
  | [], _ => []
  | c :: r, k => goodS sv lt c k ++ goodL sv lt r (k + tnS c)
end
theorem len_own (op : Int) (b : Bool) : (ownE op b).length = tS op := by unfold ownE tS; split <;> rfl
mutual
theorem len_said (sv lt : Int) : ∀ (s : S24) (k : Nat), (saidS sv lt s k).length = tnS s
  | ⟨op, m, kids⟩, k => by simp only [saidS, List.length_append, len_own, len_saidL sv lt kids, tnS]
theorem len_saidL (sv lt : Int) : ∀ (l : List S24) (k : Nat), (saidL sv lt l k).length = tnL l
  | [], _ => rfl
  | c :: r, k => by simp only [saidL, List.length_append, len_said sv lt c, len_saidL sv lt r, tnL]
end
mutual
theorem len_good (sv lt : Int) : ∀ (s : S24) (k : Nat), (goodS sv lt s k).length = tnS s
  | ⟨op, m, kids⟩, k => by simp only [goodS, List.length_append, len_own, len_goodL sv lt kids, tnS]
theorem len_goodL (sv lt : Int) : ∀ (l : List S24) (k : Nat), (goodL sv lt l k).length = tnL l
  | [], _ => rfl
  | c :: r, k => by simp only [goodL, List.length_append, len_good sv lt c, len_goodL sv lt r, tnL]
end
theorem val_eq (sv lt : Int) (s : S24) (k : Nat) : valS sv lt s k = valOp s.f0 s.f1 lt (bitK sv k) ((valL sv lt s.f2 (k + tS s.f0)).getD 0 false) ((valL sv lt s.f2 (k + tS s.f0)).getD 1 false) := by cases s; rw [valS]
theorem said_eq (sv lt : Int) (s : S24) (k : Nat) : saidS sv lt s k = ownE s.f0 (saidOp s.f0 ((valL sv lt s.f2 (k + tS s.f0)).getD 0 false) (valS sv lt s k)) ++ saidL sv lt s.f2 (k + tS s.f0) := by cases s; rw [saidS]
theorem good_eq (sv lt : Int) (s : S24) (k : Nat) : goodS sv lt s k = ownE s.f0 (goodOp s.f0 (valS sv lt s k) ((valL sv lt s.f2 (k + tS s.f0)).getD 1 false)) ++ goodL sv lt s.f2 (k + tS s.f0) := by cases s; rw [goodS]
theorem tn_eq (s : S24) : tnS s = tS s.f0 + tnL s.f2 := by cases s; rw [tnS]
end Go.Proofs.Ytegaicoddnmemaa.X

namespace Go.Proofs.Ytegaicoddnmemaa.X
open Go.RowKit Go.Proofs.YtegaicoddnmemaaW.PrintWords Go.Proofs.YtegaicoddnmemaaW.PrintLast Go.Proofs.YtegaicoddnmemaaW.PrintMore
open Go.Proofs.Ytegaicoddnmemaa.P Go.Proofs.Ytegaicoddnmemaa.Evx
set_option linter.unusedSimpArgs false
set_option linter.unusedVariables false
/-- The reader's block. -/
def RdrB (w : World) (rb : Nat) (sv lt : Int) (vs vg : Value) : Prop := w.heap[rb]? = some (.cells #[.int .i64 sv, .int .u32 lt, vs, vg] 64 (0, 0))
/-- A block of one bool, made since W. -/
def BK (W w : World) (g : Nat) : Prop := W.heap.size ≤ g ∧ w.heap[g]? = some (.cells #[.bool false] 4 (0, 0))
section
variable {w w1 W : World} {rb : Nat} {sv lt : Int} {vs vg v : Value}
theorem rdrB_0 (h : RdrB w rb sv lt vs vg) : w.cell? ⟨rb, 0, none⟩ = some (.int .i64 sv) := (blk_cell h 0).trans rfl
theorem rdrB_1 (h : RdrB w rb sv lt vs vg) : w.cell? ⟨rb, 1, none⟩ = some (.int .u32 lt) := (blk_cell h 1).trans rfl
theorem rdrB_2 (h : RdrB w rb sv lt vs vg) : w.cell? ⟨rb, 2, none⟩ = some vs := (blk_cell h 2).trans rfl
theorem rdrB_3 (h : RdrB w rb sv lt vs vg) : w.cell? ⟨rb, 3, none⟩ = some vg := (blk_cell h 3).trans rfl
theorem rdrB_set2 (h : RdrB w rb sv lt vs vg) (v : Value) : RdrB (w.setCell ⟨rb, 2, none⟩ v) rb sv lt v vg := (blk_set h 2 v).trans rfl
theorem rdrB_set3 (h : RdrB w rb sv lt vs vg) (v : Value) : RdrB (w.setCell ⟨rb, 3, none⟩ v) rb sv lt vs v := (blk_set h 3 v).trans rfl
theorem le_alloc {n : Nat} (h : n ≤ w.heap.size) (o : Obj) : n ≤ (w.alloc o).heap.size := by simp; omega
theorem le_set {n : Nat} (h : n ≤ w.heap.size) (p : Addr) (v : Value) : n ≤ (w.setCell p v).heap.size := by simpa using h
end
/-- What a reader's work may write. -/
def RS (rb : Nat) (vs vg : Value) : Nat → Prop := fun k => some k = vs.ownBlock ∨ some k = vg.ownBlock ∨ k = rb
/-- Two rows of bools, grown out of vs and vg since W0. -/
structure Two (w0 W0 : World) (rb : Nat) (vs vg : Value) (w : World) (v1 : Value) (l1 : List Bool) (v2 : Value) (l2 : List Bool) : Prop where
  o1 : w.ownsRow w0.heap.size 4 1 v1 l1.length (encs Value.bool l1)
  o2 : w.ownsRow w0.heap.size 4 1 v2 l2.length (encs Value.bool l2)
  ne : v1.ownBlock = none ∨ v1.ownBlock ≠ v2.ownBlock
  kp : Kept W0 w (RS rb vs vg)
  n1 : ∀ k, v1.ownBlock = some k → some k = vs.ownBlock ∨ W0.heap.size ≤ k
  n2 : ∀ k, v2.ownBlock = some k → some k = vg.ownBlock ∨ W0.heap.size ≤ k
  lt1 : ∀ k, vs.ownBlock = some k → k < W0.heap.size
  lt2 : ∀ k, vg.ownBlock = some k → k < W0.heap.size
  rl : rb < W0.heap.size
  r1 : some rb ≠ vs.ownBlock
  r2 : some rb ≠ vg.ownBlock
  bl : Below w0.heap.size w0 w
  rb0 : w0.heap.size ≤ rb
section
variable {w0 W0 w w1 : World} {rb g cap : Nat} {sv lt : Int} {vs vg v1 v2 x y v : Value} {l1 l2 : List Bool}
theorem Two.le (h : Two w0 W0 rb vs vg w v1 l1 v2 l2) : W0.heap.size ≤ w.heap.size := h.kp.1
theorem Two.rb1 (h : Two w0 W0 rb vs vg w v1 l1 v2 l2) : some rb ≠ v1.ownBlock := fun e => by
  rcases h.n1 rb e.symm with h1 | h1
  · exact h.r1 h1
  · have := h.rl; omega
theorem Two.rb2 (h : Two w0 W0 rb vs vg w v1 l1 v2 l2) : some rb ≠ v2.ownBlock := fun e => by
  rcases h.n2 rb e.symm with h1 | h1
  · exact h.r2 h1
  · have := h.rl; omega
/-- Behind an event that keeps both rows. -/
theorem Two.step (h : Two w0 W0 rb vs vg w v1 l1 v2 l2) (hk : Kept w w1 (fun k => k = rb)) (hb : Below w0.heap.size w0 w1) : Two w0 W0 rb vs vg w1 v1 l1 v2 l2 :=
  { h with
    o1 := own_move h.o1 (fun k hk1 => hk.2 k (own_lt h.o1 k hk1) (fun e => h.rb1 (by rw [hk1, e])))
    o2 := own_move h.o2 (fun k hk1 => hk.2 k (own_lt h.o2 k hk1) (fun e => h.rb2 (by rw [hk1, e])))
    kp := h.kp.then_ hk (fun k e => .inl (.inr (.inr e)))
    bl := hb }
theorem Two.alloc (h : Two w0 W0 rb vs vg w v1 l1 v2 l2) (o : Obj) : Two w0 W0 rb vs vg (w.alloc o) v1 l1 v2 l2 :=
  h.step ((Kept.refl w _).alloc o) (below_alloc h.bl _)
theorem Two.drew (h : Two w0 W0 rb vs vg w v1 l1 v2 l2) : Two w0 W0 rb vs vg w.drew v1 l1 v2 l2 := h.step ((Kept.refl w _).drew) (below_drew1 h.bl)
theorem Two.setR (h : Two w0 W0 rb vs vg w v1 l1 v2 l2) (j : Nat) (v : Value) : Two w0 W0 rb vs vg (w.setCell ⟨rb, j, none⟩ v) v1 l1 v2 l2 :=
  h.step (Kept.setCell (p := ⟨rb, j, none⟩) (Kept.refl w (fun k => k = rb)) (.inl rfl) v) (h.bl.setCell h.rb0 v)
theorem encs_snoc (l : List Bool) (b : Bool) : encs Value.bool (l ++ [b]) = encs Value.bool l ++ [.bool b] := by simp [encs]
theorem Two.app1 (h : Two w0 W0 rb vs vg w vs l1 v2 l2) (ho : w1.ownsRow w0.heap.size 4 1 (.slice (some ⟨g, 0, none⟩) (l1.length + 1) cap) (l1.length + 1) (encs Value.bool l1 ++ [.bool false])) (hg : w.grownBy w1 vs.ownBlock) (hat : vs.ownBlock = some g ∨ g = w.heap.size) :
    Two w0 W0 rb vs vg w1 (.slice (some ⟨g, 0, none⟩) (l1.length + 1) cap) (l1 ++ [false]) v2 l2 := by
  have hob : (Value.slice (some ⟨g, 0, none⟩) (l1.length + 1) cap).ownBlock = some g := rfl
  refine { h with o1 := ?_, o2 := ?_, ne := ?_, kp := ?_, n1 := ?_, bl := ?_ }
  · rw [encs_snoc, List.length_append]; exact ho
  · refine own_move h.o2 (fun k hk => hg.block k (own_lt h.o2 k hk) (fun e => ?_))
    rcases h.ne with h1 | h1
    · rw [h1] at e; cases e
    · exact h1 (by rw [← e, hk])
  · refine .inr (fun e => ?_)
    rw [hob] at e
    have h2 := own_lt h.o2 g e.symm
    rcases hat with h1 | h1
    · rcases h.ne with h3 | h3
      · rw [h3] at h1; cases h1
      · exact h3 (by rw [h1, e])
    · omega
  · exact Kept.of_grown hg h.kp (fun k hk => .inl (.inl hk.symm))
  · intro k hk
    rw [hob] at hk
    injection hk with hk
    subst hk
    rcases hat with h1 | h1
    · exact .inl h1.symm
    · right; have := h.le; omega
  · exact pw_below_grown h.bl _ h.bl.size hg (own_base h.o1)
theorem Two.app2 (h : Two w0 W0 rb vs vg w v1 l1 vg l2) (ho : w1.ownsRow w0.heap.size 4 1 (.slice (some ⟨g, 0, none⟩) (l2.length + 1) cap) (l2.length + 1) (encs Value.bool l2 ++ [.bool false])) (hg : w.grownBy w1 vg.ownBlock) (hat : vg.ownBlock = some g ∨ g = w.heap.size) :
    Two w0 W0 rb vs vg w1 v1 l1 (.slice (some ⟨g, 0, none⟩) (l2.length + 1) cap) (l2 ++ [false]) := by
  have hob : (Value.slice (some ⟨g, 0, none⟩) (l2.length + 1) cap).ownBlock = some g := rfl
  refine { h with o1 := ?_, o2 := ?_, ne := ?_, kp := ?_, n2 := ?_, bl := ?_ }
  · refine own_move h.o1 (fun k hk => hg.block k (own_lt h.o1 k hk) (fun e => ?_))
    rcases h.ne with h1 | h1
    · rw [h1] at hk; cases hk
    · exact h1 (by rw [hk, e])
  · rw [encs_snoc, List.length_append]; exact ho
  · rcases h.ne with h1 | h1
    · exact .inl h1
    · refine .inr (fun e => ?_)
      rw [hob] at e
      have h2 := own_lt h.o1 g e
      rcases hat with h3 | h3
      · exact h1 (by rw [e, h3])
      · omega
  · exact Kept.of_grown hg h.kp (fun k hk => .inl (.inr (.inl hk.symm)))
  · intro k hk
    rw [hob] at hk
    injection hk with hk
    subst hk
    rcases hat with h1 | h1
    · exact .inl h1.symm
    · right; have := h.le; omega
  · exact pw_below_grown h.bl _ h.bl.size hg (own_base h.o2)
theorem Two.keepB1 (h : Two w0 W0 rb vs vg w vs l1 v2 l2) (hb : BK W0 w g) (hg : w.grownBy w1 vs.ownBlock) : BK W0 w1 g :=
  ⟨hb.1, blk_grown hb.2 hg (fun e => by have := h.lt1 g e.symm; have := hb.1; omega)⟩
theorem Two.keepR1 (h : Two w0 W0 rb vs vg w vs l1 v2 l2) (hb : RdrB w rb sv lt x y) (hg : w.grownBy w1 vs.ownBlock) : RdrB w1 rb sv lt x y := blk_grown hb hg h.r1
theorem Two.keepR2 (h : Two w0 W0 rb vs vg w v1 l1 vg l2) (hb : RdrB w rb sv lt x y) (hg : w.grownBy w1 vg.ownBlock) : RdrB w1 rb sv lt x y := blk_grown hb hg h.r2
end
/-- A reader with its rows. -/
structure Rdr (w0 w : World) (rb : Nat) (sv lt : Int) (said good : List Bool) (vs vg : Value) : Prop where
  blk : RdrB w rb sv lt vs vg
  o1 : w.ownsRow w0.heap.size 4 1 vs said.length (encs Value.bool said)
  o2 : w.ownsRow w0.heap.size 4 1 vg good.length (encs Value.bool good)
  ne : vs.ownBlock = none ∨ vs.ownBlock ≠ vg.ownBlock
  bl : Below w0.heap.size w0 w
  rb0 : w0.heap.size ≤ rb
/-- What a reader's work from w to w' leaves. -/
structure Fr (w : World) (rb : Nat) (vs vg : Value) (w' : World) (v1 v2 : Value) : Prop where
  kp : Kept w w' (RS rb vs vg)
  n1 : ∀ k, v1.ownBlock = some k → some k = vs.ownBlock ∨ w.heap.size ≤ k
  n2 : ∀ k, v2.ownBlock = some k → some k = vg.ownBlock ∨ w.heap.size ≤ k
section
variable {w0 w w1 w2 : World} {rb g : Nat} {sv lt : Int} {vs vg v1 v2 x y v : Value} {l1 l2 said good : List Bool}
theorem Fr.refl (w : World) (rb : Nat) (vs vg : Value) : Fr w rb vs vg w vs vg := ⟨Kept.refl _ _, fun _ h => .inl h.symm, fun _ h => .inl h.symm⟩
theorem Fr.trans (h : Fr w rb vs vg w1 v1 v2) (k : Fr w1 rb v1 v2 w2 x y) : Fr w rb vs vg w2 x y := by
  have hle := h.kp.1
  refine ⟨h.kp.then_ k.kp ?_, ?_, ?_⟩
  · rintro j (e | e | e)
    · rcases h.n1 j e.symm with h1 | h1
      · exact .inl (.inl h1)
      · exact .inr h1
    · rcases h.n2 j e.symm with h1 | h1
      · exact .inl (.inr (.inl h1))
      · exact .inr h1
    · exact .inl (.inr (.inr e))
  · intro j e
    rcases k.n1 j e with h1 | h1
    · exact h.n1 j h1.symm
    · exact .inr (by omega)
  · intro j e
    rcases k.n2 j e with h1 | h1
    · exact h.n2 j h1.symm
    · exact .inr (by omega)
theorem Fr.alloc (h : Fr w rb vs vg w1 v1 v2) (o : Obj) : Fr w rb vs vg (w1.alloc o) v1 v2 := ⟨h.kp.alloc o, h.n1, h.n2⟩
theorem Fr.drewN (h : Fr w rb vs vg w1 v1 v2) (m : Nat) : Fr w rb vs vg (w1.drewN m) v1 v2 := ⟨h.kp.drewN m, h.n1, h.n2⟩
theorem Rdr.rne1 (h : Rdr w0 w rb sv lt said good vs vg) : some rb ≠ vs.ownBlock := fun e => by
  obtain ⟨cs, hc⟩ := own_typed h.o1 rb e.symm
  exact blk_ne h.blk hc (by decide) rfl
theorem Rdr.rne2 (h : Rdr w0 w rb sv lt said good vs vg) : some rb ≠ vg.ownBlock := fun e => by
  obtain ⟨cs, hc⟩ := own_typed h.o2 rb e.symm
  exact blk_ne h.blk hc (by decide) rfl
theorem Rdr.below (h : Rdr w0 w rb sv lt said good vs vg) (hb : Below w.heap.size w w1) : Rdr w0 w1 rb sv lt said good vs vg :=
  { h with
    blk := (hb.block _ (blk_lt h.blk)).trans h.blk
    o1 := own_move h.o1 (fun k hk => hb.block k (own_lt h.o1 k hk))
    o2 := own_move h.o2 (fun k hk => hb.block k (own_lt h.o2 k hk))
    bl := h.bl.trans (hb.mono h.bl.size) }
theorem Rdr.alloc (h : Rdr w0 w rb sv lt said good vs vg) (o : Obj) : Rdr w0 (w.alloc o) rb sv lt said good vs vg := h.below (below_alloc (Below.refl _ _) _)
theorem Rdr.drewN (h : Rdr w0 w rb sv lt said good vs vg) (m : Nat) : Rdr w0 (w.drewN m) rb sv lt said good vs vg := h.below (pw_below_drewN (Below.refl _ _) _)
theorem Rdr.two (h : Rdr w0 w rb sv lt said good vs vg) : Two w0 w rb vs vg w vs said vg good :=
  { o1 := h.o1, o2 := h.o2, ne := h.ne, kp := Kept.refl _ _, n1 := fun _ e => .inl e.symm, n2 := fun _ e => .inl e.symm, lt1 := own_lt h.o1, lt2 := own_lt h.o2, rl := blk_lt h.blk, r1 := h.rne1, r2 := h.rne2, bl := h.bl, rb0 := h.rb0 }
theorem Two.rdr (h : Two w0 w rb vs vg w1 v1 l1 v2 l2) (hb : RdrB w1 rb sv lt v1 v2) : Rdr w0 w1 rb sv lt l1 l2 v1 v2 ∧ Fr w rb vs vg w1 v1 v2 :=
  ⟨{ blk := hb, o1 := h.o1, o2 := h.o2, ne := h.ne, bl := h.bl, rb0 := h.rb0 }, ⟨h.kp, h.n1, h.n2⟩⟩
/-- A block that is not the reader's stays. -/
theorem Fr.box (h : Fr w rb vs vg w1 v1 v2) (hR : Rdr w0 w rb sv lt said good vs vg) {o : Obj} (hb : w.heap[g]? = some o) (h1 : some g ≠ vs.ownBlock) (h2 : some g ≠ vg.ownBlock) (h3 : g ≠ rb) : w1.heap[g]? = some o :=
  blk_kept hb h.kp (by rintro (e | e | e) <;> contradiction)
end
theorem own_form {w : World} {base : Nat} {v : Value} {l : List Bool} (h : w.ownsRow base 4 1 v l.length (encs Value.bool l)) : ∃ A c, v = .slice A l.length c ∧ l.length ≤ c := by
  rcases h.2 with ⟨rfl, h0⟩ | ⟨g, cap, cur, rfl, _, _, hc, _⟩
  · exact ⟨none, 0, by rw [h0], by omega⟩
  · exact ⟨_, _, rfl, hc⟩
/-- A cell of a row of one's own: it is there, and may be written. -/
theorem own_put {w : World} {base k : Nat} {v : Value} {l : List Bool} (h : w.ownsRow base 4 1 v l.length (encs Value.bool l)) (hk : k < l.length) :
    ∃ g c, v = .slice (some ⟨g, 0, none⟩) l.length c ∧ base ≤ g ∧ l.length ≤ c ∧ w.cell? ⟨g, k, none⟩ = some (.bool (l.getD k false)) ∧ w.frozen? ⟨g, k, none⟩ = false ∧ ∀ b, (w.setCell ⟨g, k, none⟩ (.bool b)).ownsRow base 4 1 v (l.set k b).length (encs Value.bool (l.set k b)) := by
  rcases h.2 with ⟨_, h0⟩ | ⟨g, cap, cur, rfl, hb, hh, hc, hm, hs, ht⟩
  · omega
  · have hkc : k < cur.size := by omega
    have hcell : cur[k]? = some (.bool (l.getD k false)) := by
      have h1 : (cur.toList.take (l.length * 1))[k]? = some (.bool (l.getD k false)) := by rw [ht]; simp [encs, hk]
      rw [List.getElem?_take_of_lt (by omega)] at h1
      simpa using h1
    refine ⟨g, cap, rfl, hb, hc, (blk_cell hh k).trans hcell, blk_frozen hh k, fun b => ⟨by simp [encs], .inr ⟨g, cap, cur.setIfInBounds k (.bool b), by simp, hb, blk_set hh k _, by simpa using hc, hm, by simpa using hs, ?_⟩⟩⟩
    rw [Array.toList_setIfInBounds, List.length_set, List.take_set, ht]
    simp [encs, List.map_set]
theorem Rdr.put {w0 w : World} {rb k : Nat} {sv lt : Int} {sd gd : List Bool} {x1 x2 : Value} (h : Rdr w0 w rb sv lt sd gd x1 x2) (h1 : k < sd.length) (h2 : k < gd.length) :
    ∃ g1 c1 g2 c2, x1 = .slice (some ⟨g1, 0, none⟩) sd.length c1 ∧ x2 = .slice (some ⟨g2, 0, none⟩) gd.length c2 ∧ g1 ≠ g2 ∧ w.cell? ⟨g1, k, none⟩ = some (.bool (sd.getD k false)) ∧ w.frozen? ⟨g1, k, none⟩ = false ∧ w.cell? ⟨g2, k, none⟩ = some (.bool (gd.getD k false)) ∧ w.frozen? ⟨g2, k, none⟩ = false ∧
      ∀ a b, Rdr w0 ((w.setCell ⟨g1, k, none⟩ (.bool a)).setCell ⟨g2, k, none⟩ (.bool b)) rb sv lt (sd.set k a) (gd.set k b) x1 x2 ∧ Fr w rb x1 x2 ((w.setCell ⟨g1, k, none⟩ (.bool a)).setCell ⟨g2, k, none⟩ (.bool b)) x1 x2 := by
  obtain ⟨g1, c1, e1, b1, l1, p1, q1, s1⟩ := own_put h.o1 h1
  obtain ⟨g2, c2, e2, b2, l2, p2, q2, s2⟩ := own_put h.o2 h2
  have hb1 : x1.ownBlock = some g1 := by rw [e1]; rfl
  have hb2 : x2.ownBlock = some g2 := by rw [e2]; rfl
  have hne : g1 ≠ g2 := by
    rcases h.ne with h3 | h3
    · rw [hb1] at h3; cases h3
    · rw [hb1, hb2] at h3
      exact fun e => h3 (by rw [e])
  refine ⟨g1, c1, g2, c2, e1, e2, hne, p1, q1, p2, q2, fun a b => ⟨?_, ?_⟩⟩
  · have r1 := h.rne1
    have r2 := h.rne2
    rw [hb1] at r1
    rw [hb2] at r2
    refine ⟨?_, ?_, ?_, h.ne, (h.bl.setCell b1 _).setCell b2 _, h.rb0⟩
    · exact blk_far (p := ⟨g2, k, none⟩) (blk_far (p := ⟨g1, k, none⟩) h.blk (fun e => r1 (by rw [e])) _) (fun e => r2 (by rw [e])) _
    · exact own_setCell (p := ⟨g2, k, none⟩) (s1 a) (by rw [hb1]; exact fun e => hne (by injection e with e; exact e.symm)) _
    · have h3 : (w.setCell ⟨g1, k, none⟩ (.bool a)).ownsRow w0.heap.size 4 1 x2 gd.length (encs Value.bool gd) := own_setCell (p := ⟨g1, k, none⟩) h.o2 (by rw [hb2]; exact fun e => hne (by injection e)) _
      obtain ⟨g3, c3, e3, _, _, _, _, s3⟩ := own_put h3 h2
      rw [e2] at e3
      injection e3 with e3 _ _
      injection e3 with e3
      injection e3 with e3
      subst e3
      exact s3 b
  · exact ⟨((Kept.refl w _).setCell (p := ⟨g1, k, none⟩) (.inl (.inl hb1.symm)) _).setCell (p := ⟨g2, k, none⟩) (.inl (.inr (.inl hb2.symm))) _, fun _ e => .inl e.symm, fun _ e => .inl e.symm⟩
/-- The same in any later world that keeps all. -/
theorem Rdr.putL {w0 w : World} {rb k : Nat} {sv lt : Int} {sd gd : List Bool} {x1 x2 : Value} (h : Rdr w0 w rb sv lt sd gd x1 x2) (h1 : k < sd.length) (h2 : k < gd.length) :
    ∃ g1 c1 g2 c2, x1 = .slice (some ⟨g1, 0, none⟩) sd.length c1 ∧ x2 = .slice (some ⟨g2, 0, none⟩) gd.length c2 ∧ g1 ≠ g2 ∧ w.cell? ⟨g1, k, none⟩ = some (.bool (sd.getD k false)) ∧ w.frozen? ⟨g1, k, none⟩ = false ∧ w.cell? ⟨g2, k, none⟩ = some (.bool (gd.getD k false)) ∧ w.frozen? ⟨g2, k, none⟩ = false ∧
      ∀ W, Below w.heap.size w W → ∀ a b, Rdr w0 ((W.setCell ⟨g1, k, none⟩ (.bool a)).setCell ⟨g2, k, none⟩ (.bool b)) rb sv lt (sd.set k a) (gd.set k b) x1 x2 ∧ Fr w rb x1 x2 ((W.setCell ⟨g1, k, none⟩ (.bool a)).setCell ⟨g2, k, none⟩ (.bool b)) x1 x2 := by
  obtain ⟨g1, c1, g2, c2, e1, e2, r⟩ := h.put h1 h2
  refine ⟨g1, c1, g2, c2, e1, e2, r.1, r.2.1, r.2.2.1, r.2.2.2.1, r.2.2.2.2.1, fun W hW a b => ?_⟩
  obtain ⟨g3, c3, g4, c4, e3, e4, s⟩ := (h.below hW).put h1 h2
  have q1 : g3 = g1 := by rw [e1] at e3; injection e3 with e3 _ _; injection e3 with e3; injection e3 with e3; exact e3.symm
  have q2 : g4 = g2 := by rw [e2] at e4; injection e4 with e4 _ _; injection e4 with e4; injection e4 with e4; exact e4.symm
  subst q1 q2
  have s2 := s.2.2.2.2.2 a b
  refine ⟨s2.1, ?_⟩
  have hF : Fr w rb x1 x2 W x1 x2 := ⟨Kept.of_below hW _, fun _ e => .inl e.symm, fun _ e => .inl e.symm⟩
  exact hF.trans s2.2
theorem set_mid (a b : List Bool) (x y : Bool) : (a ++ [x] ++ b).set a.length y = a ++ [y] ++ b := by
  rw [List.append_assoc, List.set_append_right _ _ (Nat.le_refl _), Nat.sub_self]
  simp
end Go.Proofs.Ytegaicoddnmemaa.X

namespace Go.Proofs.Ytegaicoddnmemaa.X
open Go.RowKit Go.Proofs.YtegaicoddnmemaaW.PrintWords Go.Proofs.YtegaicoddnmemaaW.PrintLast Go.Proofs.YtegaicoddnmemaaW.PrintMore
open Go.Proofs.Ytegaicoddnmemaa.P Go.Proofs.Ytegaicoddnmemaa.Evx
set_option linter.unusedSimpArgs false
set_option linter.unusedVariables false
/-- A node's row out of its kids' rows. -/
def rowOp (ls : List Int) (b : Nat) (op m : Int) (x y : List Bool) : List Bool :=
  if op = 2 then settleS (fun i _ => bitS (ls.getD i 0) m) ls.length b false
  else if op = 3 then settleS (fun i _ => !(x.getD i false)) ls.length b false
  else if op = 4 then settleS (fun i _ => x.getD i false && y.getD i false) ls.length b false
  else if op = 5 then settleS (fun i _ => x.getD i false || y.getD i false) ls.length b false
  else if op = 6 then settleS (fun i _ => x.getD (nextS ls.length b i) false) ls.length b false
  else if op = 7 then settleS (fun i nx => y.getD i false || x.getD i false && nx) ls.length b false
  else if op = 8 then settleS (fun i nx => y.getD i false && (x.getD i false || nx)) ls.length b true
  else settleS (fun _ _ => true) ls.length b false
mutual
def rowS (ls : List Int) (b : Nat) : S24 → List Bool
  | ⟨op, m, kids⟩ => rowOp ls b op m ((rowL ls b kids).getD 0 []) ((rowL ls b kids).getD 1 [])
def rowL (ls : List Int) (b : Nat) : List S24 → List (List Bool)
  | [] => []
  | k :: r => rowS ls b k :: rowL ls b r
end
theorem rowL_get (ls : List Int) (b : Nat) : ∀ (l : List S24) (i : Nat) (h : i < l.length), (rowL ls b l).getD i [] = rowS ls b (l[i]'h)
  | k :: r, 0, h => by simp [rowL]
  | k :: r, i + 1, h => by
    have := rowL_get ls b r i (by simpa using h)
    simpa [rowL] using this
theorem len_settle (f : Nat → Bool → Bool) (n b : Nat) (first : Bool) : (settleS f n b first).length = n := by simp [settleS, len_pass]
theorem len_rowOp (ls : List Int) (b : Nat) (op m : Int) (x y : List Bool) : (rowOp ls b op m x y).length = ls.length := by
  unfold rowOp
  repeat' split
  all_goals exact len_settle _ _ _ _
theorem len_row (ls : List Int) (b : Nat) (s : S24) : (rowS ls b s).length = ls.length := by
  obtain ⟨op, m, kids⟩ := s
  rw [rowS]
  exact len_rowOp _ _ _ _ _ _
theorem sound_mem : ∀ {l : List S24}, soundL l = true → ∀ (i : Nat) (h : i < l.length), soundS (l[i]'h) = true
  | k :: r, h, 0, _ => by simp only [soundL, Bool.and_eq_true] at h; exact h.1
  | k :: r, h, i + 1, hi => by simp only [soundL, Bool.and_eq_true] at h; exact sound_mem h.2 i (by simpa using hi)
theorem sound_kid {s : S24} (h : soundS s = true) (i : Nat) (hi : i < s.f2.length) : soundS (s.f2[i]'hi) = true := by
  obtain ⟨op, m, kids⟩ := s
  simp only [soundS, Bool.and_eq_true] at h
  exact sound_mem h.2.2.2.2 i hi
theorem sound_parts {s : S24} (h : soundS s = true) : 0 ≤ kidsS s.f0 ∧ (s.f2.length : Int) = kidsS s.f0 ∧ 0 ≤ s.f1 ∧ s.f1 ≤ mostS s.f0 := by
  obtain ⟨op, m, kids⟩ := s
  simp only [soundS, Bool.and_eq_true, decide_eq_true_eq] at h
  exact ⟨h.1, h.2.1, h.2.2.1, h.2.2.2.1⟩
theorem row_eq (ls : List Int) (b : Nat) (s : S24) : rowS ls b s = rowOp ls b s.f0 s.f1 ((rowL ls b s.f2).getD 0 []) ((rowL ls b s.f2).getD 1 []) := by cases s; rfl
theorem op_cases {op : Int} (h : 0 ≤ kidsS op) : op = 1 ∨ op = 2 ∨ op = 3 ∨ op = 4 ∨ op = 5 ∨ op = 6 ∨ op = 7 ∨ op = 8 := by
  unfold kidsS at h
  split at h
  · omega
  · split at h
    · omega
    · split at h
      · omega
      · omega
def RowAt (ls : List Int) (b : Nat) (s : S24) : Prop := ∀ (rb : Nat) (A : Option Addr) (c n : Nat) (A2 : Option Addr) (cp : Nat) (w : World), ls.length = n → IsRower w rb A n c b → Kd.C (Kd.int .u32) w A n ls → 0 < n → n < 1000000000 → b < n → Kd.C k24 w A2 s.f2.length s.f2 → s.f2.length ≤ cp → soundS s = true →
  Calls Try.prog 42 #[.pointer (some ⟨rb, 0, none⟩), .agg #[.int .i64 s.f0, .int .i64 s.f1, .slice A2 s.f2.length cp]] w fun e w' => ∃ g, e = .returned (.slice (some ⟨g, 0, none⟩) n n) ∧ w.heap.size ≤ g ∧ BRow w' g (rowS ls b s) ∧ Below w.heap.size w w'
/-- The four boxes of a call of row. -/
def rowBoxes (w : World) (rb : Nat) (op m : Int) (A2 : Option Addr) (len cp : Nat) : World :=
  (((w.alloc (.cells #[.pointer (some ⟨rb, 0, none⟩)] 70)).alloc (.cells #[.int .i64 op, .int .i64 m, .slice A2 len cp] 24)).alloc (.cells #[.slice none 0 0] 45)).alloc (.cells #[.slice none 0 0] 45)
structure RowSt (w wx : World) (rb : Nat) (op m : Int) (A2 : Option Addr) (len cp : Nat) (va vb : Value) : Prop where
  c0 : Cell1 wx w.heap.size (.pointer (some ⟨rb, 0, none⟩)) 70
  c1 : wx.heap[w.heap.size + 1]? = some (.cells #[.int .i64 op, .int .i64 m, .slice A2 len cp] 24 (0, 0))
  c2 : Cell1 wx (w.heap.size + 1 + 1) va 45
  c3 : Cell1 wx (w.heap.size + 1 + 1 + 1) vb 45
  bl : Below w.heap.size w wx
  sz : w.heap.size + 1 + 1 + 1 + 1 ≤ wx.heap.size
theorem RowSt.start (w : World) (rb : Nat) (op m : Int) (A2 : Option Addr) (len cp : Nat) : RowSt w (rowBoxes w rb op m A2 len cp) rb op m A2 len cp (.slice none 0 0) (.slice none 0 0) := by
  refine ⟨?_, ?_, ?_, ?_, ?_, ?_⟩
  · exact blk_alloc (blk_alloc (blk_alloc (heap_alloc_new w _) _) _) _
  · refine blk_alloc (blk_alloc ?_ _) _
    have := heap_alloc_new (w.alloc (.cells #[.pointer (some ⟨rb, 0, none⟩)] 70)) (.cells #[.int .i64 op, .int .i64 m, .slice A2 len cp] 24)
    simpa using this
  · refine blk_alloc ?_ _
    have := heap_alloc_new ((w.alloc (.cells #[.pointer (some ⟨rb, 0, none⟩)] 70)).alloc (.cells #[.int .i64 op, .int .i64 m, .slice A2 len cp] 24)) (.cells #[.slice none 0 0] 45)
    simpa using this
  · have := heap_alloc_new (((w.alloc (.cells #[.pointer (some ⟨rb, 0, none⟩)] 70)).alloc (.cells #[.int .i64 op, .int .i64 m, .slice A2 len cp] 24)).alloc (.cells #[.slice none 0 0] 45)) (.cells #[.slice none 0 0] 45)
    simpa [Cell1, rowBoxes] using this
  · exact below_alloc (below_alloc (below_alloc (below_alloc (Below.refl _ _) _) _) _) _
  · simp [rowBoxes]
/-- Behind a call that keeps all blocks. -/
theorem RowSt.next {w wx w' : World} {rb : Nat} {op m : Int} {A2 : Option Addr} {len cp : Nat} {va vb : Value} (h : RowSt w wx rb op m A2 len cp va vb) (hB : Below wx.heap.size wx w') : RowSt w w' rb op m A2 len cp va vb :=
  ⟨(hB.block _ (blk_lt h.c0)).trans h.c0, (hB.block _ (blk_lt h.c1)).trans h.c1, (hB.block _ (blk_lt h.c2)).trans h.c2, (hB.block _ (blk_lt h.c3)).trans h.c3, h.bl.trans (hB.mono h.bl.size), Nat.le_trans h.sz hB.size⟩
theorem RowSt.drewN {w wx : World} {rb : Nat} {op m : Int} {A2 : Option Addr} {len cp : Nat} {va vb : Value} (h : RowSt w wx rb op m A2 len cp va vb) (k : Nat) : RowSt w (wx.drewN k) rb op m A2 len cp va vb :=
  h.next (pw_below_drewN (Below.refl _ _) k)
theorem RowSt.setA {w wx : World} {rb : Nat} {op m : Int} {A2 : Option Addr} {len cp : Nat} {va vb : Value} (h : RowSt w wx rb op m A2 len cp va vb) (v : Value) : RowSt w (wx.setCell ⟨w.heap.size + 1 + 1, 0, none⟩ v) rb op m A2 len cp v vb :=
  ⟨blk_far h.c0 (by first | (simp; done) | (simp; omega) | omega) v, blk_far h.c1 (by first | (simp; done) | (simp; omega) | omega) v, (blk_set h.c2 0 v).trans (by simp), blk_far h.c3 (by first | (simp; done) | (simp; omega) | omega) v, h.bl.setCell (by first | (simp; done) | (simp; omega) | omega) v, by simpa using h.sz⟩
theorem RowSt.setB {w wx : World} {rb : Nat} {op m : Int} {A2 : Option Addr} {len cp : Nat} {va vb : Value} (h : RowSt w wx rb op m A2 len cp va vb) (v : Value) : RowSt w (wx.setCell ⟨w.heap.size + 1 + 1 + 1, 0, none⟩ v) rb op m A2 len cp va v :=
  ⟨blk_far h.c0 (by first | (simp; done) | (simp; omega) | omega) v, blk_far h.c1 (by first | (simp; done) | (simp; omega) | omega) v, blk_far h.c2 (by first | (simp; done) | (simp; omega) | omega) v, (blk_set h.c3 0 v).trans (by simp), h.bl.setCell (by first | (simp; done) | (simp; omega) | omega) v, by simpa using h.sz⟩
/-- A kid's row lies there. -/
def RowIs (w wx : World) (n : Nat) (v : Value) (x : List Bool) : Prop := ∃ ga, v = .slice (some ⟨ga, 0, none⟩) n n ∧ w.heap.size + 1 + 1 + 1 + 1 ≤ ga ∧ BRow wx ga x ∧ x.length = n
theorem RowIs.next {w wx w' : World} {n : Nat} {v : Value} {x : List Bool} (h : RowIs w wx n v x) (hB : Below wx.heap.size wx w') : RowIs w w' n v x := by
  obtain ⟨ga, h1, h2, h3, h4⟩ := h
  exact ⟨ga, h1, h2, (hB.block _ (blk_lt h3)).trans h3, h4⟩
theorem RowIs.set_ {w wx : World} {n : Nat} {v : Value} {x : List Bool} (h : RowIs w wx n v x) {p : Addr} (hp : p.block < w.heap.size + 1 + 1 + 1 + 1) (u : Value) : RowIs w (wx.setCell p u) n v x := by
  obtain ⟨ga, h1, h2, h3, h4⟩ := h
  exact ⟨ga, h1, h2, blk_far h3 (by omega) u, h4⟩
set_option maxHeartbeats 8000000 in
set_option maxRecDepth 100000 in
theorem row_calls (ls : List Int) (b : Nat) (s : S24) (ih : ∀ k ∈ s.f2, RowAt ls b k) : RowAt ls b s := by
  intro rb A c n A2 cp w hn hR hC h0 h1 hb hk hc hs
  have huF := Try.underlying24
  have huL := Try.underlying22
  have huR := Try.underlying73
  have hus := Try.underlying45
  have hmf : ∀ fn first cap w, (Instr.makeFunc fn first cap).run Try.prog w = .ok (.func fn first cap) w := fun _ _ _ _ => rfl
  have hst := RowSt.start w rb s.f0 s.f1 A2 s.f2.length cp
  have HR := Aside0.mk hR
  have HK := Aside0.mk hk
  have HC := Aside0.mk hC
  have HS := Aside0.mk hs
  have HIH := Aside0.mk (fun (i : Nat) (hi : i < s.f2.length) W (hB : Below w.heap.size w W) => fun A3 c3 hk3 hc3 => ih (s.f2[i]'hi) (List.getElem_mem hi) rb A c n A3 c3 W hn ((hB.block _ (blk_lt hR)).trans hR) (Kd.C_below hC hB) h0 h1 hb hk3 hc3 (sound_kid hs i hi))
  have hlen := Kd.C_max hk
  clear hR hC hk hs ih
  go_enter Try.func42, Try.ntmps42
  go_upto_if 10 with fail
  change Code.wp _ _ _ _ (rowBoxes w rb s.f0 s.f1 A2 s.f2.length cp)
  generalize rowBoxes w rb s.f0 s.f1 A2 s.f2.length cp = W4 at *
  have HST := Aside0.mk hst
  go_cut [] (fun wx => ∃ va x, Aside0 (RowSt w wx rb s.f0 s.f1 A2 s.f2.length cp va (.slice none 0 0)) ∧ Aside0 (0 < s.f2.length → RowIs w wx n va x ∧ x = (rowL ls b s.f2).getD 0 []))
  case first =>
    by_cases hl : 0 < s.f2.length
    · obtain ⟨ad, A3, c3, hA, hx0, hx1, hx2, hl2, hk2⟩ := kid_at HK.out hst.bl 0 hl hl
      subst hA
      have e0 : ad.add (0 * 3) = ad := by cases ad; simp [Addr.add]
      rw [e0] at hx0 hx1 hx2
      have HK2 := Aside0.mk (Kd.C_below hk2 hst.bl)
      have HL2 := Aside0.mk hl2
      have xp0 := cell1 hst.c0
      have xp1 : W4.cell? ⟨w.heap.size + 1, 2, none⟩ = some (.slice (some ad) s.f2.length cp) := (blk_cell hst.c1 2).trans rfl
      have fp2 := blk_frozen hst.c2 0
      have xp2 := cell1 hst.c2
      clear hst hk2 hl2
      go_upto_region 3 with fail
      have HCALL := Aside0.mk (HIH.out 0 hl W4.drew (below_drew1 HST.out.bl) A3 c3 (Kd.C_drew HK2.out) HL2.out)
      have HD := Aside0.mk (HST.out.next (below_drew1 (Below.refl _ _)))
      have HDZ := Aside0.mk HST.out.sz
      go_region_with (go_at_call 42; refine HCALL.out.mono ?_; rintro e w5 ⟨g, rfl, hg, hG, hB⟩; have HS5 := Aside0.mk (HD.out.next hB); have HG := Aside0.mk hG; have HGG := Aside0.mk (show W4.heap.size ≤ g from hg); have xq2 := cell1 HS5.out.c2; have fq2 := blk_frozen HS5.out.c2 0; clear hG hB hg)
      all_goals (
        go_wp2_with fail
        go_meet
        exact ⟨_, rowS ls b (s.f2[0]'hl), ⟨HS5.out.setA _⟩, ⟨fun _ => ⟨RowIs.set_ ⟨g, rfl, Nat.le_trans HDZ.out HGG.out, HG.out, (len_row _ _ _).trans hn⟩ (by simp) _, (rowL_get ls b s.f2 0 hl).symm⟩⟩⟩)
    · have hd : decide (0 < s.f2.length) = false := decide_eq_false hl
      go_wp2
      go_meet
      exact ⟨_, [], HST, ⟨fun h => absurd h hl⟩⟩
  case rest =>
    obtain ⟨va, x, HST2, HX⟩ := hcut
    have x1l : wc.cell? ⟨w.heap.size + 1, 2, none⟩ = some (.slice A2 s.f2.length cp) := (blk_cell HST2.out.c1 2).trans rfl
    clear hst HST
    go_upto_if 20 with fail
    go_cut [] (fun wx => ∃ vb y, Aside0 (RowSt w wx rb s.f0 s.f1 A2 s.f2.length cp va vb) ∧ Aside0 (0 < s.f2.length → RowIs w wx n va x ∧ x = (rowL ls b s.f2).getD 0 []) ∧ Aside0 (1 < s.f2.length → RowIs w wx n vb y ∧ y = (rowL ls b s.f2).getD 1 []))
    case first =>
      by_cases hl : 1 < s.f2.length
      · obtain ⟨ad, A3, c3, hA, hx0, hx1, hx2, hl2, hk2⟩ := kid_at HK.out HST2.out.bl 1 hl hl
        subst hA
        simp only [Nat.one_mul] at hx0 hx1 hx2
        have hx1a : wc.cell? ⟨ad.block, ad.off + 3 + 1, none⟩ = some (.int .i64 (s.f2[1]'hl).f1) := hx1
        have hx2a : wc.cell? ⟨ad.block, ad.off + 3 + 2, none⟩ = some (.slice A3 (s.f2[1]'hl).f2.length c3) := hx2
        have hx0a : wc.cell? ⟨ad.block, ad.off + 3, none⟩ = some (.int .i64 (s.f2[1]'hl).f0) := hx0
        have HK2 := Aside0.mk (Kd.C_below hk2 HST2.out.bl)
        have HL2 := Aside0.mk hl2
        have xp0 := cell1 HST2.out.c0
        have fp3 := blk_frozen HST2.out.c3 0
        have xp3 := cell1 HST2.out.c3
        clear hk2 hl2
        have HCALL := Aside0.mk (HIH.out 1 hl wc.drew (below_drew1 HST2.out.bl) A3 c3 (Kd.C_drew HK2.out) HL2.out)
        have HD := Aside0.mk (HST2.out.next (below_drew1 (Below.refl _ _)))
        have HDZ := Aside0.mk HST2.out.sz
        go_upto_region 5 with fail
        go_region_with (go_at_call 42; refine HCALL.out.mono ?_; rintro e w5 ⟨g, rfl, hg, hG, hB⟩; have HS5 := Aside0.mk (HD.out.next hB); have HX5 := Aside0.mk (fun h => And.intro ((HX.out h).1.next ((below_drew1 (Below.refl _ _)).trans hB)) (HX.out h).2); have HG := Aside0.mk hG; have HGG := Aside0.mk (show wc.heap.size ≤ g from hg); have xq2 := cell1 HS5.out.c3; have fq2 := blk_frozen HS5.out.c3 0; clear hG hB hg)
        all_goals (
          go_wp2_with fail
          go_meet
          exact ⟨_, rowS ls b (s.f2[1]'hl), ⟨HS5.out.setB _⟩, ⟨fun h => ⟨(HX5.out h).1.set_ (by simp) _, (HX5.out h).2⟩⟩, ⟨fun _ => ⟨RowIs.set_ ⟨g, rfl, Nat.le_trans HDZ.out HGG.out, HG.out, (len_row _ _ _).trans hn⟩ (by simp) _, (rowL_get ls b s.f2 1 hl).symm⟩⟩⟩)
      · have hd : decide (1 < s.f2.length) = false := decide_eq_false hl
        go_wp2
        go_meet
        exact ⟨_, [], HST2, HX, ⟨fun h => absurd h hl⟩⟩
    case rest =>
      obtain ⟨vb, y, HST3, HXX, HYY⟩ := hcut
      have hpart := sound_parts HS.out
      have hRw : IsRower wc rb A n c b := (HST3.out.bl.block _ (blk_lt HR.out)).trans HR.out
      have hCw := Kd.C_below HC.out HST3.out.bl
      have hc1 := HST3.out.c1
      have x00 := cell1 HST3.out.c0
      have x0 : wc.cell? ⟨w.heap.size + 1, 0, none⟩ = some (.int .i64 s.f0) := (blk_cell HST3.out.c1 0).trans rfl
      clear HST2 HX x1l HIH HK
      rcases op_cases hpart.1 with hop | hop | hop | hop | hop | hop | hop | hop
      · -- op 1
        have hkk := hpart.2.1
        have hmm := hpart.2.2.2
        rw [hop] at hkk hmm x0
        have hrow : rowS ls b s = settleS (fun _ _ => true) n b false := by
          rw [row_eq, hop]
          unfold rowOp
          rw [if_neg (by decide), if_neg (by decide), if_neg (by decide), if_neg (by decide), if_neg (by decide), if_neg (by decide), if_neg (by decide)]
          rw [hn]
        have HE := Aside0.mk (each_calls 65 #[] (enters_f Try.func65 (by kernel_rfl) rfl) (fun _ => true) rb A n c b wc hRw h0 h1 hb (fun W hW i hi => row8_calls i W))
        have HO := Aside0.mk hrow
        clear hrow
        go_wp2_with (go_at_call 55; refine HE.out.mono ?_; rintro e w6 ⟨g, rfl, hg, hG, hB⟩; have HG := Aside0.mk hG; have HB := Aside0.mk hB; have HGS := Aside0.mk hg; clear hG hB hg)
        go_ret
        exact ⟨g, rfl, Nat.le_trans HST3.out.bl.size HGS.out, by rw [HO.out]; exact HG.out, HST3.out.bl.trans (HB.out.mono HST3.out.bl.size)⟩
      · -- op 2
        have hkk := hpart.2.1
        have hmm := hpart.2.2.2
        rw [hop] at hkk hmm x0
        have hrow : rowS ls b s = settleS (fun i _ => bitS (ls.getD i 0) s.f1) n b false := by
          rw [row_eq, hop]
          unfold rowOp
          rw [if_pos rfl]
          rw [hn]
        have hm2 : mostS 2 = 19 := by decide
        have HE := Aside0.mk (each_calls 56 #[.pointer (some ⟨w.heap.size, 0, none⟩), .pointer (some ⟨(w.heap.size + 1), 0, none⟩)] (enters_f Try.func56 (by kernel_rfl) rfl) (fun i => bitS (ls.getD i 0) s.f1) rb A n c b wc hRw h0 h1 hb (fun W hW i hi => row1_calls w.heap.size (w.heap.size + 1) rb n c b i A A2 ls s.f0 s.f1 s.f2.length cp W ((hW.block _ (blk_lt HST3.out.c0)).trans HST3.out.c0) ((hW.block _ (blk_lt hRw)).trans hRw) (Kd.C_below hCw hW) ((hW.block _ (blk_lt hc1)).trans hc1) hi hpart.2.2.1 (by omega)))
        have HO := Aside0.mk hrow
        clear hrow
        go_wp2_with (go_at_call 55; refine HE.out.mono ?_; rintro e w6 ⟨g, rfl, hg, hG, hB⟩; have HG := Aside0.mk hG; have HB := Aside0.mk hB; have HGS := Aside0.mk hg; clear hG hB hg)
        go_ret
        exact ⟨g, rfl, Nat.le_trans HST3.out.bl.size HGS.out, by rw [HO.out]; exact HG.out, HST3.out.bl.trans (HB.out.mono HST3.out.bl.size)⟩
      · -- op 3
        have hkk := hpart.2.1
        have hmm := hpart.2.2.2
        rw [hop] at hkk hmm x0
        have hrow : rowS ls b s = settleS (fun i _ => !(((rowL ls b s.f2).getD 0 []).getD i false)) n b false := by
          rw [row_eq, hop]
          unfold rowOp
          rw [if_neg (by decide), if_pos rfl]
          rw [hn]
        obtain ⟨⟨ga, rfl, hga, hA, hAl⟩, hxe⟩ := HXX.out (by have h9 : kidsS 3 = 1 := (by decide); omega)
        rw [← hxe] at hrow
        have HE := Aside0.mk (each_calls 57 #[.pointer (some ⟨(w.heap.size + 1 + 1), 0, none⟩)] (enters_f Try.func57 (by kernel_rfl) rfl) (fun i => !(x.getD i false)) rb A n c b wc hRw h0 h1 hb (fun W hW i hi => row2_calls (w.heap.size + 1 + 1) ga n i x W ((hW.block _ (blk_lt HST3.out.c2)).trans HST3.out.c2) ((hW.block _ (blk_lt hA)).trans hA) hAl hi))
        have HO := Aside0.mk hrow
        clear hrow
        go_wp2_with (go_at_call 55; refine HE.out.mono ?_; rintro e w6 ⟨g, rfl, hg, hG, hB⟩; have HG := Aside0.mk hG; have HB := Aside0.mk hB; have HGS := Aside0.mk hg; clear hG hB hg)
        go_ret
        exact ⟨g, rfl, Nat.le_trans HST3.out.bl.size HGS.out, by rw [HO.out]; exact HG.out, HST3.out.bl.trans (HB.out.mono HST3.out.bl.size)⟩
      · -- op 4
        have hkk := hpart.2.1
        have hmm := hpart.2.2.2
        rw [hop] at hkk hmm x0
        have hrow : rowS ls b s = settleS (fun i _ => ((rowL ls b s.f2).getD 0 []).getD i false && ((rowL ls b s.f2).getD 1 []).getD i false) n b false := by
          rw [row_eq, hop]
          unfold rowOp
          rw [if_neg (by decide), if_neg (by decide), if_pos rfl]
          rw [hn]
        obtain ⟨⟨ga, rfl, hga, hA, hAl⟩, hxe⟩ := HXX.out (by have h9 : kidsS 4 = 2 := (by decide); omega)
        rw [← hxe] at hrow
        obtain ⟨⟨gb, rfl, hgb, hBB, hBl⟩, hye⟩ := HYY.out (by have h9 : kidsS 4 = 2 := (by decide); omega)
        rw [← hye] at hrow
        have HE := Aside0.mk (each_calls 58 #[.pointer (some ⟨(w.heap.size + 1 + 1), 0, none⟩), .pointer (some ⟨(w.heap.size + 1 + 1 + 1), 0, none⟩)] (enters_f Try.func58 (by kernel_rfl) rfl) (fun i => x.getD i false && y.getD i false) rb A n c b wc hRw h0 h1 hb (fun W hW i hi => row3_calls (w.heap.size + 1 + 1) (w.heap.size + 1 + 1 + 1) ga gb n i x y W ((hW.block _ (blk_lt HST3.out.c2)).trans HST3.out.c2) ((hW.block _ (blk_lt hA)).trans hA) hAl ((hW.block _ (blk_lt HST3.out.c3)).trans HST3.out.c3) ((hW.block _ (blk_lt hBB)).trans hBB) hBl hi))
        have HO := Aside0.mk hrow
        clear hrow
        go_wp2_with (go_at_call 55; refine HE.out.mono ?_; rintro e w6 ⟨g, rfl, hg, hG, hB⟩; have HG := Aside0.mk hG; have HB := Aside0.mk hB; have HGS := Aside0.mk hg; clear hG hB hg)
        go_ret
        exact ⟨g, rfl, Nat.le_trans HST3.out.bl.size HGS.out, by rw [HO.out]; exact HG.out, HST3.out.bl.trans (HB.out.mono HST3.out.bl.size)⟩
      · -- op 5
        have hkk := hpart.2.1
        have hmm := hpart.2.2.2
        rw [hop] at hkk hmm x0
        have hrow : rowS ls b s = settleS (fun i _ => ((rowL ls b s.f2).getD 0 []).getD i false || ((rowL ls b s.f2).getD 1 []).getD i false) n b false := by
          rw [row_eq, hop]
          unfold rowOp
          rw [if_neg (by decide), if_neg (by decide), if_neg (by decide), if_pos rfl]
          rw [hn]
        obtain ⟨⟨ga, rfl, hga, hA, hAl⟩, hxe⟩ := HXX.out (by have h9 : kidsS 5 = 2 := (by decide); omega)
        rw [← hxe] at hrow
        obtain ⟨⟨gb, rfl, hgb, hBB, hBl⟩, hye⟩ := HYY.out (by have h9 : kidsS 5 = 2 := (by decide); omega)
        rw [← hye] at hrow
        have HE := Aside0.mk (each_calls 59 #[.pointer (some ⟨(w.heap.size + 1 + 1), 0, none⟩), .pointer (some ⟨(w.heap.size + 1 + 1 + 1), 0, none⟩)] (enters_f Try.func59 (by kernel_rfl) rfl) (fun i => x.getD i false || y.getD i false) rb A n c b wc hRw h0 h1 hb (fun W hW i hi => row4_calls (w.heap.size + 1 + 1) (w.heap.size + 1 + 1 + 1) ga gb n i x y W ((hW.block _ (blk_lt HST3.out.c2)).trans HST3.out.c2) ((hW.block _ (blk_lt hA)).trans hA) hAl ((hW.block _ (blk_lt HST3.out.c3)).trans HST3.out.c3) ((hW.block _ (blk_lt hBB)).trans hBB) hBl hi))
        have HO := Aside0.mk hrow
        clear hrow
        go_wp2_with (go_at_call 55; refine HE.out.mono ?_; rintro e w6 ⟨g, rfl, hg, hG, hB⟩; have HG := Aside0.mk hG; have HB := Aside0.mk hB; have HGS := Aside0.mk hg; clear hG hB hg)
        go_ret
        exact ⟨g, rfl, Nat.le_trans HST3.out.bl.size HGS.out, by rw [HO.out]; exact HG.out, HST3.out.bl.trans (HB.out.mono HST3.out.bl.size)⟩
      · -- op 6
        have hkk := hpart.2.1
        have hmm := hpart.2.2.2
        rw [hop] at hkk hmm x0
        have hrow : rowS ls b s = settleS (fun i _ => ((rowL ls b s.f2).getD 0 []).getD (nextS n b i) false) n b false := by
          rw [row_eq, hop]
          unfold rowOp
          rw [if_neg (by decide), if_neg (by decide), if_neg (by decide), if_neg (by decide), if_pos rfl]
          rw [hn]
        obtain ⟨⟨ga, rfl, hga, hA, hAl⟩, hxe⟩ := HXX.out (by have h9 : kidsS 6 = 1 := (by decide); omega)
        rw [← hxe] at hrow
        have HE := Aside0.mk (each_calls 60 #[.pointer (some ⟨(w.heap.size + 1 + 1), 0, none⟩), .pointer (some ⟨w.heap.size, 0, none⟩)] (enters_f Try.func60 (by kernel_rfl) rfl) (fun i => x.getD (nextS n b i) false) rb A n c b wc hRw h0 h1 hb (fun W hW i hi => row5_calls (w.heap.size + 1 + 1) w.heap.size ga rb n c b i A x W ((hW.block _ (blk_lt HST3.out.c2)).trans HST3.out.c2) ((hW.block _ (blk_lt hA)).trans hA) hAl ((hW.block _ (blk_lt HST3.out.c0)).trans HST3.out.c0) ((hW.block _ (blk_lt hRw)).trans hRw) hb hi h1))
        have HO := Aside0.mk hrow
        clear hrow
        go_wp2_with (go_at_call 55; refine HE.out.mono ?_; rintro e w6 ⟨g, rfl, hg, hG, hB⟩; have HG := Aside0.mk hG; have HB := Aside0.mk hB; have HGS := Aside0.mk hg; clear hG hB hg)
        go_ret
        exact ⟨g, rfl, Nat.le_trans HST3.out.bl.size HGS.out, by rw [HO.out]; exact HG.out, HST3.out.bl.trans (HB.out.mono HST3.out.bl.size)⟩
      · -- op 7
        have hkk := hpart.2.1
        have hmm := hpart.2.2.2
        rw [hop] at hkk hmm x0
        have hrow : rowS ls b s = settleS (fun i nx => ((rowL ls b s.f2).getD 1 []).getD i false || ((rowL ls b s.f2).getD 0 []).getD i false && nx) n b false := by
          rw [row_eq, hop]
          unfold rowOp
          rw [if_neg (by decide), if_neg (by decide), if_neg (by decide), if_neg (by decide), if_neg (by decide), if_pos rfl]
          rw [hn]
        obtain ⟨⟨ga, rfl, hga, hA, hAl⟩, hxe⟩ := HXX.out (by have h9 : kidsS 7 = 2 := (by decide); omega)
        rw [← hxe] at hrow
        obtain ⟨⟨gb, rfl, hgb, hBB, hBl⟩, hye⟩ := HYY.out (by have h9 : kidsS 7 = 2 := (by decide); omega)
        rw [← hye] at hrow
        have HE := Aside0.mk (settle_calls 63 #[.pointer (some ⟨(w.heap.size + 1 + 1 + 1), 0, none⟩), .pointer (some ⟨(w.heap.size + 1 + 1), 0, none⟩)] (enters_f Try.func63 (by kernel_rfl) rfl) (fun i nx => y.getD i false || x.getD i false && nx) rb A n c b false wc hRw h0 h1 hb (fun W hW i nx hi => row6_calls (w.heap.size + 1 + 1) (w.heap.size + 1 + 1 + 1) ga gb n i nx x y W ((hW.block _ (blk_lt HST3.out.c2)).trans HST3.out.c2) ((hW.block _ (blk_lt hA)).trans hA) hAl ((hW.block _ (blk_lt HST3.out.c3)).trans HST3.out.c3) ((hW.block _ (blk_lt hBB)).trans hBB) hBl hi))
        have HO := Aside0.mk hrow
        clear hrow
        go_wp2_with (go_at_call 62; refine HE.out.mono ?_; rintro e w6 ⟨g, rfl, hg, hG, hB⟩; have HG := Aside0.mk hG; have HB := Aside0.mk hB; have HGS := Aside0.mk hg; clear hG hB hg)
        go_ret
        exact ⟨g, rfl, Nat.le_trans HST3.out.bl.size HGS.out, by rw [HO.out]; exact HG.out, HST3.out.bl.trans (HB.out.mono HST3.out.bl.size)⟩
      · -- op 8
        have hkk := hpart.2.1
        have hmm := hpart.2.2.2
        rw [hop] at hkk hmm x0
        have hrow : rowS ls b s = settleS (fun i nx => ((rowL ls b s.f2).getD 1 []).getD i false && (((rowL ls b s.f2).getD 0 []).getD i false || nx)) n b true := by
          rw [row_eq, hop]
          unfold rowOp
          rw [if_neg (by decide), if_neg (by decide), if_neg (by decide), if_neg (by decide), if_neg (by decide), if_neg (by decide), if_pos rfl]
          rw [hn]
        obtain ⟨⟨ga, rfl, hga, hA, hAl⟩, hxe⟩ := HXX.out (by have h9 : kidsS 8 = 2 := (by decide); omega)
        rw [← hxe] at hrow
        obtain ⟨⟨gb, rfl, hgb, hBB, hBl⟩, hye⟩ := HYY.out (by have h9 : kidsS 8 = 2 := (by decide); omega)
        rw [← hye] at hrow
        have HE := Aside0.mk (settle_calls 64 #[.pointer (some ⟨(w.heap.size + 1 + 1 + 1), 0, none⟩), .pointer (some ⟨(w.heap.size + 1 + 1), 0, none⟩)] (enters_f Try.func64 (by kernel_rfl) rfl) (fun i nx => y.getD i false && (x.getD i false || nx)) rb A n c b true wc hRw h0 h1 hb (fun W hW i nx hi => row7_calls (w.heap.size + 1 + 1) (w.heap.size + 1 + 1 + 1) ga gb n i nx x y W ((hW.block _ (blk_lt HST3.out.c2)).trans HST3.out.c2) ((hW.block _ (blk_lt hA)).trans hA) hAl ((hW.block _ (blk_lt HST3.out.c3)).trans HST3.out.c3) ((hW.block _ (blk_lt hBB)).trans hBB) hBl hi))
        have HO := Aside0.mk hrow
        clear hrow
        go_wp2_with (go_at_call 62; refine HE.out.mono ?_; rintro e w6 ⟨g, rfl, hg, hG, hB⟩; have HG := Aside0.mk hG; have HB := Aside0.mk hB; have HGS := Aside0.mk hg; clear hG hB hg)
        go_ret
        exact ⟨g, rfl, Nat.le_trans HST3.out.bl.size HGS.out, by rw [HO.out]; exact HG.out, HST3.out.bl.trans (HB.out.mono HST3.out.bl.size)⟩
end Go.Proofs.Ytegaicoddnmemaa.X

