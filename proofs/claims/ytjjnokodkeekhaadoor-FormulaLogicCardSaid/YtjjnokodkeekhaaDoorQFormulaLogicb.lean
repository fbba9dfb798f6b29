/- A part of the claim FormulaLogic. -/
import Derived.Test.YtjjnokodkeekhaaDoorProg
import Derived.Below
import Derived.Deep.Draws
import Derived.Deep.AppendLies
import Derived.Maps.AppendAt
import Derived.OwnWalk
import Derived.Laws.BytesArg
import Derived.Laws.MakeOwn
import Derived.Laws.OwnMore
import Derived.Deep.OwnRows
import Derived.Tactics
import Derived.Lib.ConvBytes
import Derived.Laws.Slices
import Derived.WalkKit
import Derived.KernelRfl
import Derived.RowKit3
import Derived.Deep.LoopGhost
import Derived.Deep.QuietTactic
import Derived.BigQuiet
import Derived.WideLaws
import Derived.Deep.DeepCutAuto
import Derived.Deep.CutBlock
import Derived.Deep.RegionHeld3
import Derived.Laws.Rows
import Derived.Lib.AppendStr
import Derived.ArgAppend
import Derived.Laws.IdiomCopy
import Derived.OrdersHeld
import Derived.Laws.BitsLemmas
import Derived.RowKit
import Derived.Laws.MathBits
import Derived.Laws.CopyOwn
import Derived.Lib.ItoaWalk
import Derived.Outline
import Derived.Test.YtjjnokodkeekhaaDoorQFormulaLogica
namespace Go.Proofs.YtjjnokodkeekhaaDoor.P
open Go.RowKit Go.Proofs.YtjjnokodkeekhaaDoorW.PrintWords Go.Proofs.YtjjnokodkeekhaaDoorW.PrintLast Go.Proofs.YtjjnokodkeekhaaDoorW.PrintMore
attribute [local go_sem] max2_int min2_int max_two min_two max_three min_three max_four min_four   -- for this text's walks alone
set_option linter.unusedVariables false
set_option linter.unusedSimpArgs false



def errW : Option Int → Value
  | none => .nilIface
  | some c => .iface 0 (.int .i64 c)
theorem errW_none : errW none = .nilIface := rfl
theorem errW_some (c : Int) : errW (some c) = .iface 0 (.int .i64 c) := rfl

theorem info24 : (Tryd.prog.info? 24).map (fun i => (i.zero, i.size, i.bytes)) = some (some (.agg #[(.int .i64 0), (.int .i64 0), (.slice none 0 0)]), 3, 40) := by kernel_rfl
structure S24 where
  f0 : Int
  f1 : Int
  f2 : (List S24)
def z24 : S24 := ⟨(0 : Int), (0 : Int), ([] : List S24)⟩
def F24 (d : Kd S24) : Kd S24 := Kd.iso (Kd.pair (Kd.int .i64) (Kd.pair (Kd.int .i64) (Kd.slice 24 d))) (fun x : S24 => (x.f0, x.f1, x.f2))
theorem mono24 : Kd.Mono F24 := Kd.mono_iso _ (Kd.mono_pair (Kd.mono_const _) (Kd.mono_pair (Kd.mono_const _) (Kd.mono_slice 24 Kd.mono_id)))
theorem sub24 : Kd.Sub F24 [24] := Kd.sub_iso _ (Kd.sub_pair (Kd.sub_const _ (by decide)) (Kd.sub_pair (Kd.sub_const _ (by decide)) (Kd.sub_slice 24 (by decide) Kd.sub_id)))
theorem sz24 : ∀ n, (Kd.upto F24 3 [24] n).sz = 3 := Kd.upto_sz (fun _ => rfl)
def k24 : Kd S24 := Kd.fix F24 3 [24] sz24 (Kd.upto_E sub24)
theorem k24_open {w : World} {x : S24} {cs : List Value} (h : k24.K w x cs) : ∃ A2 c2, cs = [.int .i64 x.f0, .int .i64 x.f1, .slice A2 x.f2.length c2] ∧ x.f2.length ≤ c2 ∧ k24.C w A2 x.f2.length x.f2 := by
  obtain ⟨n, h⟩ := h
  cases n with
  | zero => exact h.elim
  | succ n =>
    obtain ⟨_, _, rfl, rfl, ⟨_, _, rfl, rfl, ⟨A2, c2, rfl, l2, g2⟩⟩⟩ := h
    exact ⟨A2, c2, rfl, l2, Kd.fix_C g2⟩
theorem k24_mk (w : World) (x : S24) {A2 : Option Addr} {c2 : Nat} (l2 : x.f2.length ≤ c2) (g2 : k24.C w A2 x.f2.length x.f2) : k24.K w x [.int .i64 x.f0, .int .i64 x.f1, .slice A2 x.f2.length c2] := by
  obtain ⟨n2, q2⟩ := Kd.fix_C_back mono24 g2
  have r2 := Kd.upto_C_le mono24 sz24 (show n2 ≤ n2 by omega) q2
  exact ⟨n2 + 1, ⟨[.int .i64 x.f0], [.int .i64 x.f1, .slice A2 x.f2.length c2], rfl, rfl, ⟨[.int .i64 x.f1], [.slice A2 x.f2.length c2], rfl, rfl, ⟨A2, c2, rfl, l2, r2⟩⟩⟩⟩
theorem k24_mkM (w : World) (base : Nat) (ok : Nat → Prop) (x : S24) {v2 : Value} (g2 : k24.R 24 w base ok v2 x.f2) : k24.M w base ok x [.int .i64 x.f0, .int .i64 x.f1, v2] := by
  obtain ⟨n2, q2⟩ := Kd.fix_R_back mono24 g2
  have r2 := Kd.upto_R_le mono24 sz24 (show n2 ≤ n2 by omega) q2
  exact ⟨n2 + 1, ⟨[.int .i64 x.f0], [.int .i64 x.f1, v2], rfl, rfl, ⟨[.int .i64 x.f1], [v2], rfl, rfl, ⟨v2, rfl, r2⟩⟩⟩⟩
theorem k24_mkF (W : World) (ok : Nat → Prop) (x : S24) {A2 : Option Addr} {c2 : Nat} (l2 : x.f2.length ≤ c2) (g2 : Kd.F k24 W ok A2 x.f2.length x.f2) : Kd.FK k24 W ok x [.int .i64 x.f0, .int .i64 x.f1, .slice A2 x.f2.length c2] := fun W2 hW => k24_mk W2 x l2 (g2 W2 hW)
def rd_T24 (xs : List S24) (i : Int) : S24 := xs.getD i.toNat z24
theorem at_T24 {w : World} {A : Option Addr} {n : Nat} {xs : List S24} (h : Kd.C k24 w A n xs) (i : Int) (h0 : 0 ≤ i) (h1 : i < n) : ∃ ad A2 c2, A = some ad ∧ w.cell? (ad.add (i.toNat * 3)) = some (.int .i64 (rd_T24 xs i).f0) ∧ w.cell? ⟨(ad.add (i.toNat * 3)).block, (ad.add (i.toNat * 3)).off + 1, none⟩ = some (.int .i64 (rd_T24 xs i).f1) ∧ w.cell? ⟨(ad.add (i.toNat * 3)).block, (ad.add (i.toNat * 3)).off + 2, none⟩ = some (.slice A2 (rd_T24 xs i).f2.length c2) ∧ (rd_T24 xs i).f2.length ≤ c2 ∧ k24.C w A2 (rd_T24 xs i).f2.length (rd_T24 xs i).f2 := by
  obtain ⟨ad, c, e, _, hK, hc0⟩ := Kd.C_get h z24 i h0 h1
  have hc : ∀ j u, c[j]? = some u → w.cell? (ad.add (i.toNat * 3 + j)) = some u := hc0
  obtain ⟨A2, c2, rfl, l2, g2⟩ := k24_open hK
  exact ⟨ad, A2, c2, e, hc 0 _ rfl, by rw [← add_field _ _ 1 (by omega)]; exact hc 1 _ rfl, by rw [← add_field _ _ 2 (by omega)]; exact hc 2 _ rfl, l2, g2⟩

structure S27 where
  f0 : (List Int)
  f1 : (List Int)
def k27 : Kd S27 := Kd.iso (Kd.pair (Kd.slice 49 (Kd.int .u32)) (Kd.slice 49 (Kd.int .u32))) (fun x : S27 => (x.f0, x.f1))
theorem k27_open {w : World} {x : S27} {cs : List Value} (h : k27.K w x cs) : ∃ A0 c0 A1 c1, cs = [.slice A0 x.f0.length c0, .slice A1 x.f1.length c1] ∧ x.f0.length ≤ c0 ∧ (Kd.int .u32).C w A0 x.f0.length x.f0 ∧ x.f1.length ≤ c1 ∧ (Kd.int .u32).C w A1 x.f1.length x.f1 := by
  obtain ⟨_, _, rfl, ⟨A0, c0, rfl, l0, g0⟩, ⟨A1, c1, rfl, l1, g1⟩⟩ := h
  exact ⟨A0, c0, A1, c1, rfl, l0, g0, l1, g1⟩
end Go.Proofs.YtjjnokodkeekhaaDoor.P

namespace Go.Proofs.YtjjnokodkeekhaaDoor.X
open Go.RowKit Go.Proofs.YtjjnokodkeekhaaDoorW.PrintWords
open Go.Proofs.YtjjnokodkeekhaaDoor.P
set_option linter.unusedVariables false
set_option linter.unusedSimpArgs false
/-- What 'goes' counts. -/
structure Cnt where
  n : Int
  t : Int
  deep : Bool
def timedS (op : Int) : Bool := decide (6 ≤ op) && decide (op ≤ 8)
mutual
def goesS : S24 → Int → Cnt → Cnt
  | ⟨op, _, kids⟩, d, c => if d > 12 then ⟨c.n, c.t, true⟩ else goesL kids (d + 1) ⟨c.n + 1, if timedS op = true then c.t + 1 else c.t, c.deep⟩
def goesL : List S24 → Int → Cnt → Cnt
  | [], _, c => c
  | k :: r, d, c => if c.n > 60 then c else goesL r d (goesS k d c)
end
mutual
theorem goesS_le : ∀ (s : S24) (d : Int) (c : Cnt), 0 ≤ c.n → c.n ≤ 60 → 0 ≤ c.t → c.t ≤ c.n → c.n ≤ (goesS s d c).n ∧ (goesS s d c).n ≤ 61 ∧ 0 ≤ (goesS s d c).t ∧ (goesS s d c).t ≤ (goesS s d c).n
  | ⟨op, m, kids⟩, d, c, h0, h1, h2, h3 => by
    simp only [goesS]
    split
    · exact ⟨Int.le_refl _, by show c.n ≤ 61; omega, h2, h3⟩
    · have := goesL_le kids (d + 1) ⟨c.n + 1, if timedS op = true then c.t + 1 else c.t, c.deep⟩ (by show 0 ≤ c.n + 1; omega) (by show c.n + 1 ≤ 61; omega) (by show 0 ≤ (if timedS op = true then c.t + 1 else c.t); split <;> omega) (by show (if timedS op = true then c.t + 1 else c.t) ≤ c.n + 1; split <;> omega)
      exact ⟨by have := this.1; show c.n ≤ _; simp only at this; omega, this.2⟩
theorem goesL_le : ∀ (l : List S24) (d : Int) (c : Cnt), 0 ≤ c.n → c.n ≤ 61 → 0 ≤ c.t → c.t ≤ c.n → c.n ≤ (goesL l d c).n ∧ (goesL l d c).n ≤ 61 ∧ 0 ≤ (goesL l d c).t ∧ (goesL l d c).t ≤ (goesL l d c).n
  | [], d, c, h0, h1, h2, h3 => by simp only [goesL]; exact ⟨Int.le_refl _, h1, h2, h3⟩
  | k :: r, d, c, h0, h1, h2, h3 => by
    simp only [goesL]
    split
    · exact ⟨Int.le_refl _, h1, h2, h3⟩
    · have a := goesS_le k d c h0 (by omega) h2 h3
      have b := goesL_le r d (goesS k d c) (by omega) a.2.1 a.2.2.1 a.2.2.2
      exact ⟨by omega, b.2⟩
end
end Go.Proofs.YtjjnokodkeekhaaDoor.X

namespace Go.Proofs.YtjjnokodkeekhaaDoor.P
open Go.RowKit Go.Proofs.YtjjnokodkeekhaaDoorW.PrintWords Go.Proofs.YtjjnokodkeekhaaDoorW.PrintLast Go.Proofs.YtjjnokodkeekhaaDoorW.PrintMore
attribute [local go_sem] max2_int min2_int max_two min_two max_three min_three max_four min_four   -- for this text's walks alone
set_option linter.unusedVariables false
set_option linter.unusedSimpArgs false

def parrylaw22_Long.f (l0_0 : List Int) (l0_1 : List Int) : Option (Int) := if (l0_0.length : Int) > 60 then (some 1) else (if (l0_1.length : Int) > 60 then (some 1) else (some 0))
set_option maxHeartbeats 8000000 in
set_option maxRecDepth 100000 in
theorem parrylaw22_Long.calls (A0_0 : Option Addr) (c0_0 : Nat) (l0_0 : List Int) (A0_1 : Option Addr) (c0_1 : Nat) (l0_1 : List Int) (r : Int) (w : World) (hr0_0 : Kd.C (Kd.int .u32) w A0_0 l0_0.length l0_0) (hc0_0 : l0_0.length ≤ c0_0) (hr0_1 : Kd.C (Kd.int .u32) w A0_1 l0_1.length l0_1) (hc0_1 : l0_1.length ≤ c0_1) (h : parrylaw22_Long.f l0_0 l0_1 = some r) :
    Calls Tryd.prog 10 #[.agg #[.slice A0_0 l0_0.length c0_0, .slice A0_1 l0_1.length c0_1]] w fun e w' => e = .returned (.int .i64 r) ∧ Below w.heap.size w w' := by
  have hu27 := Tryd.underlying27
  have HR0_0 := Aside0.mk hr0_0
  have HC0_0 := Aside0.mk hc0_0
  clear hr0_0 hc0_0
  have HR0_1 := Aside0.mk hr0_1
  have HC0_1 := Aside0.mk hc0_1
  clear hr0_1 hc0_1
  have HB := Aside0.mk (Below.refl w.heap.size w)
  have H : (if (l0_0.length : Int) > 60 then (some 1) else (if (l0_1.length : Int) > 60 then (some 1) else (some 0))) = some r := h
  clear h
  by_cases c2 : (l0_0.length : Int) > 60
  · rw [if_pos c2] at H
    have c2b0 : decide (60 < (l0_0.length : Int)) = true := decide_eq_true c2
    have c2b1 : decide (60 < l0_0.length) = true := decide_eq_true (by omega)
    clear c2
    obtain rfl := Option.some.inj H
    go_enter Tryd.func10, Tryd.ntmps10
    go_wp2_with (first | ((with_reducible refine gate_dst (N := 1) rfl ?_); (try (refine gate_guard (by rfl) ?_; dsimp only)); refine box_event ?hg (N := 1) ?hd (cs := #[.slice A0_0 l0_0.length c0_0, .slice A0_1 l0_1.length c0_1]) (t := 27) ?hr ?_; (case hd => rfl); (case hg => rfl); (case hr => first | (go_simp; done) | (go_simp; rfl)); intro gb107 hg w3 hbox hb; have n0_ := Aside0.mk (below_step (by repeat (first | (with_reducible first | exact HB.out | apply below_alloc | apply pw_below_drewN | apply below_drew1) | exact HB.out)) hb); have n1_ := Aside0.mk (hbox); have n2_ := Aside0.mk ((by rw [hg]; exact (below_size (by repeat (first | (with_reducible first | exact HB.out | apply below_alloc | apply pw_below_drewN | apply below_drew1) | exact HB.out))) : w.heap.size ≤ gb107)); have n3_ := Aside0.mk ((by rw [hg]; exact (below_size (by repeat (first | (with_reducible first | exact HB.out | apply below_alloc | apply pw_below_drewN | apply below_drew1) | exact HB.out))) : w.heap.size ≤ gb107)); clear HB; have HB := n0_; have BK107 := n1_; have GW107 := n2_; have GE107 := n3_; clear n0_ n1_ n2_ n3_; clear hb hbox hg; have hcz4_0 : w3.cell? ⟨gb107, 0, none⟩ = some (.slice A0_0 l0_0.length c0_0) := (blk_cell BK107.out 0).trans rfl; have hcz4_1 : w3.cell? ⟨gb107, 1, none⟩ = some (.slice A0_1 l0_1.length c0_1) := (blk_cell BK107.out 1).trans rfl; have hfz4_0 := blk_frozen BK107.out 0; have hfz4_1 := blk_frozen BK107.out 1))
    go_ret
    exact ⟨by first | rfl | (simp [errW_none, errW_some] <;> rfl) | (simp [*, errW_none, errW_some] <;> rfl), by repeat (first | (with_reducible first | exact HB.out | apply below_alloc | apply pw_below_drewN | apply below_drew1 | refine below_set ?_ GE107.out) | exact HB.out)⟩
  · rw [if_neg c2] at H
    have c2b0 : decide (60 < (l0_0.length : Int)) = false := decide_eq_false c2
    have c2b1 : decide (60 < l0_0.length) = false := decide_eq_false (by omega)
    clear c2
    by_cases c5 : (l0_1.length : Int) > 60
    · rw [if_pos c5] at H
      have c5b0 : decide (60 < (l0_1.length : Int)) = true := decide_eq_true c5
      have c5b1 : decide (60 < l0_1.length) = true := decide_eq_true (by omega)
      clear c5
      obtain rfl := Option.some.inj H
      go_enter Tryd.func10, Tryd.ntmps10
      go_wp2_with (first | ((with_reducible refine gate_dst (N := 1) rfl ?_); (try (refine gate_guard (by rfl) ?_; dsimp only)); refine box_event ?hg (N := 1) ?hd (cs := #[.slice A0_0 l0_0.length c0_0, .slice A0_1 l0_1.length c0_1]) (t := 27) ?hr ?_; (case hd => rfl); (case hg => rfl); (case hr => first | (go_simp; done) | (go_simp; rfl)); intro gb107 hg w6 hbox hb; have n0_ := Aside0.mk (below_step (by repeat (first | (with_reducible first | exact HB.out | apply below_alloc | apply pw_below_drewN | apply below_drew1) | exact HB.out)) hb); have n1_ := Aside0.mk (hbox); have n2_ := Aside0.mk ((by rw [hg]; exact (below_size (by repeat (first | (with_reducible first | exact HB.out | apply below_alloc | apply pw_below_drewN | apply below_drew1) | exact HB.out))) : w.heap.size ≤ gb107)); have n3_ := Aside0.mk ((by rw [hg]; exact (below_size (by repeat (first | (with_reducible first | exact HB.out | apply below_alloc | apply pw_below_drewN | apply below_drew1) | exact HB.out))) : w.heap.size ≤ gb107)); clear HB; have HB := n0_; have BK107 := n1_; have GW107 := n2_; have GE107 := n3_; clear n0_ n1_ n2_ n3_; clear hb hbox hg; have hcz7_0 : w6.cell? ⟨gb107, 0, none⟩ = some (.slice A0_0 l0_0.length c0_0) := (blk_cell BK107.out 0).trans rfl; have hcz7_1 : w6.cell? ⟨gb107, 1, none⟩ = some (.slice A0_1 l0_1.length c0_1) := (blk_cell BK107.out 1).trans rfl; have hfz7_0 := blk_frozen BK107.out 0; have hfz7_1 := blk_frozen BK107.out 1))
      go_ret
      exact ⟨by first | rfl | (simp [errW_none, errW_some] <;> rfl) | (simp [*, errW_none, errW_some] <;> rfl), by repeat (first | (with_reducible first | exact HB.out | apply below_alloc | apply pw_below_drewN | apply below_drew1 | refine below_set ?_ GE107.out) | exact HB.out)⟩
    · rw [if_neg c5] at H
      have c5b0 : decide (60 < (l0_1.length : Int)) = false := decide_eq_false c5
      have c5b1 : decide (60 < l0_1.length) = false := decide_eq_false (by omega)
      clear c5
      obtain rfl := Option.some.inj H
      go_enter Tryd.func10, Tryd.ntmps10
      go_wp2_with (first | ((with_reducible refine gate_dst (N := 1) rfl ?_); (try (refine gate_guard (by rfl) ?_; dsimp only)); refine box_event ?hg (N := 1) ?hd (cs := #[.slice A0_0 l0_0.length c0_0, .slice A0_1 l0_1.length c0_1]) (t := 27) ?hr ?_; (case hd => rfl); (case hg => rfl); (case hr => first | (go_simp; done) | (go_simp; rfl)); intro gb107 hg w8 hbox hb; have n0_ := Aside0.mk (below_step (by repeat (first | (with_reducible first | exact HB.out | apply below_alloc | apply pw_below_drewN | apply below_drew1) | exact HB.out)) hb); have n1_ := Aside0.mk (hbox); have n2_ := Aside0.mk ((by rw [hg]; exact (below_size (by repeat (first | (with_reducible first | exact HB.out | apply below_alloc | apply pw_below_drewN | apply below_drew1) | exact HB.out))) : w.heap.size ≤ gb107)); have n3_ := Aside0.mk ((by rw [hg]; exact (below_size (by repeat (first | (with_reducible first | exact HB.out | apply below_alloc | apply pw_below_drewN | apply below_drew1) | exact HB.out))) : w.heap.size ≤ gb107)); clear HB; have HB := n0_; have BK107 := n1_; have GW107 := n2_; have GE107 := n3_; clear n0_ n1_ n2_ n3_; clear hb hbox hg; have hcz9_0 : w8.cell? ⟨gb107, 0, none⟩ = some (.slice A0_0 l0_0.length c0_0) := (blk_cell BK107.out 0).trans rfl; have hcz9_1 : w8.cell? ⟨gb107, 1, none⟩ = some (.slice A0_1 l0_1.length c0_1) := (blk_cell BK107.out 1).trans rfl; have hfz9_0 := blk_frozen BK107.out 0; have hfz9_1 := blk_frozen BK107.out 1))
      go_ret
      exact ⟨by first | rfl | (simp [errW_none, errW_some] <;> rfl) | (simp [*, errW_none, errW_some] <;> rfl), by repeat (first | (with_reducible first | exact HB.out | apply below_alloc | apply pw_below_drewN | apply below_drew1 | refine below_set ?_ GE107.out) | exact HB.out)⟩

def formula_timed.f (a0 : Int) : Option (Bool) := if a0 ≥ 6 then (some (decide (a0 ≤ 8))) else (some false)
set_option maxHeartbeats 8000000 in
set_option maxRecDepth 100000 in
theorem formula_timed.calls (a0 : Int) (r : Bool) (w : World) (h : formula_timed.f a0 = some r) :
    Calls Tryd.prog 64 #[.int .i64 a0] w fun e w' => e = .returned (.bool r) ∧ Drawn0 w w' := by
  have H : (if a0 ≥ 6 then (some (decide (a0 ≤ 8))) else (some false)) = some r := h
  clear h
  by_cases c2 : a0 ≥ 6
  · rw [if_pos c2] at H
    have c2b0 : decide (6 ≤ a0) = true := decide_eq_true c2
    clear c2
    obtain rfl := Option.some.inj H
    go_enter Tryd.func64, Tryd.ntmps64
    go_wp2
    go_ret
    exact ⟨by first | rfl | (simp; done) | (simp [*]; done), by repeat (first | exact Drawn0.refl _ | apply Drawn0.step)⟩
  · rw [if_neg c2] at H
    have c2b0 : decide (6 ≤ a0) = false := decide_eq_false c2
    clear c2
    obtain rfl := Option.some.inj H
    go_enter Tryd.func64, Tryd.ntmps64
    go_wp2
    go_ret
    exact ⟨by first | rfl | (simp; done) | (simp [*]; done), by repeat (first | exact Drawn0.refl _ | apply Drawn0.step)⟩

end Go.Proofs.YtjjnokodkeekhaaDoor.P

namespace Go.Proofs.YtjjnokodkeekhaaDoor.X
open Go.RowKit Go.Proofs.YtjjnokodkeekhaaDoorW.PrintWords Go.Proofs.YtjjnokodkeekhaaDoorW.PrintLast Go.Proofs.YtjjnokodkeekhaaDoorW.PrintMore
open Go.Proofs.YtjjnokodkeekhaaDoor.P
set_option linter.unusedSimpArgs false
set_option linter.unusedVariables false
theorem timed_some (op : Int) : formula_timed.f op = some (timedS op) := by
  unfold formula_timed.f timedS
  split
  · rename_i h; rw [decide_eq_true (p := 6 ≤ op) h]; rfl
  · rename_i h; rw [decide_eq_false (p := 6 ≤ op) (by omega)]; rfl
/-- The count's block. -/
def IsCnt (w : World) (g : Nat) (c : Cnt) : Prop := w.heap[g]? = some (.cells #[.int .i64 c.n, .int .i64 c.t, .bool c.deep] 52 (0, 0))
set_option maxHeartbeats 1600000 in
theorem goes_deep (s : S24) (d : Int) (c : Cnt) (g : Nat) (A : Option Addr) (cp : Nat) (w0 w : World) (hd : 12 < d) (hI : IsCnt w g c) (hB : Below w0.heap.size w0 w) (hg0 : w0.heap.size ≤ g) :
    Calls Tryd.prog 48 #[.pointer (some ⟨g, 0, none⟩), .agg #[.int .i64 s.f0, .int .i64 s.f1, .slice A s.f2.length cp], .int .i64 d] w fun e w' => e = .returned (.tuple #[]) ∧ IsCnt w' g ⟨c.n, c.t, true⟩ ∧ Below w0.heap.size w0 w' ∧ KeepBut w w' g none := by
  have hg : g < w.heap.size := (Array.getElem?_eq_some_iff.1 hI).1
  have hu := Tryd.underlying24
  have huc := Tryd.underlying52
  have c0 : w.cell? ⟨g, 0, none⟩ = some (.int .i64 c.n) := (blk_cell hI 0).trans rfl
  have c1 : w.cell? ⟨g, 1, none⟩ = some (.int .i64 c.t) := (blk_cell hI 1).trans rfl
  have c2 : w.cell? ⟨g, 2, none⟩ = some (.bool c.deep) := (blk_cell hI 2).trans rfl
  have f2 : w.frozen? ⟨g, 2, none⟩ = false := blk_frozen hI 2
  have HI := Aside0.mk hI
  clear hI
  go_enter Tryd.func48, Tryd.ntmps48
  go_wp2
  first | go_end0 | ((try simp only [Exit.inBlock, Exit.then]); refine bodyPost_ret (results_none rfl _ _ _) rfl ?_)
  exact ⟨rfl, (blk_alloc (blk_set HI.out 2 _) _).trans rfl, below_alloc (hB.setCell hg0 _) _, keep_alloc (KeepBut.set_ (KeepBut.refl _ _ _) 2 _) _⟩
/-- One kid of a row that came in, in a later world. -/
theorem kid_at {w0 w : World} {A : Option Addr} {n : Nat} {xs : List S24} (h : Kd.C k24 w0 A n xs) (hb : Below w0.heap.size w0 w) (j : Nat) (hj : j < n) (hx : j < xs.length) :
    ∃ ad A2 c2, A = some ad ∧ w.cell? (ad.add (j * 3)) = some (.int .i64 (xs[j]'hx).f0) ∧ w.cell? ⟨(ad.add (j * 3)).block, (ad.add (j * 3)).off + 1, none⟩ = some (.int .i64 (xs[j]'hx).f1) ∧ w.cell? ⟨(ad.add (j * 3)).block, (ad.add (j * 3)).off + 2, none⟩ = some (.slice A2 (xs[j]'hx).f2.length c2) ∧ (xs[j]'hx).f2.length ≤ c2 ∧ Kd.C k24 w0 A2 (xs[j]'hx).f2.length (xs[j]'hx).f2 := by
  obtain ⟨ad, A2, c2, e, h0, h1, h2, hl, hk⟩ := at_T24 h (j : Int) (by omega) (by omega)
  have er : rd_T24 xs (j : Int) = xs[j]'hx := by
    unfold rd_T24
    rw [Int.toNat_natCast, List.getD_eq_getElem?_getD, List.getElem?_eq_getElem hx]; rfl
  rw [Int.toNat_natCast, er] at h0 h1 h2
  rw [er] at hl hk
  exact ⟨ad, A2, c2, e, (hb.cell (World.block_lt_of_cell? w0 _ h0)).trans h0, (hb.cell (World.block_lt_of_cell? w0 _ h1)).trans h1, (hb.cell (World.block_lt_of_cell? w0 _ h2)).trans h2, hl, hk⟩
def GoesAt (g : Nat) (w0 : World) (s : S24) : Prop := ∀ (d : Int) (c : Cnt) (A : Option Addr) (cp : Nat) (w : World), 1 ≤ d → d ≤ 13 → 0 ≤ c.n → c.n ≤ 60 → 0 ≤ c.t → c.t ≤ c.n → IsCnt w g c → Below w0.heap.size w0 w → w0.heap.size ≤ g → Kd.C k24 w0 A s.f2.length s.f2 → s.f2.length ≤ cp →
    Calls Tryd.prog 48 #[.pointer (some ⟨g, 0, none⟩), .agg #[.int .i64 s.f0, .int .i64 s.f1, .slice A s.f2.length cp], .int .i64 d] w fun e w' => e = .returned (.tuple #[]) ∧ IsCnt w' g (goesS s d c) ∧ Below w0.heap.size w0 w' ∧ KeepBut w w' g none
set_option maxHeartbeats 4000000 in
set_option maxRecDepth 100000 in
theorem goes_calls (g : Nat) (w0 : World) (s : S24) (ih : ∀ k ∈ s.f2, GoesAt g w0 k) : GoesAt g w0 s := by
  intro d c A cp w hd1 hd2 hn0 hn1 ht0 ht1 hI hB hg0 hr hc
  by_cases hd : 12 < d
  · refine (goes_deep s d c g A cp w0 w hd hI hB hg0).mono ?_
    rintro e w' ⟨rfl, h1, h2, h3⟩
    refine ⟨rfl, ?_, h2, h3⟩
    · cases s
      simp only [goesS]
      rw [if_pos hd]
      exact h1
  have hg : g < w.heap.size := (Array.getElem?_eq_some_iff.1 hI).1
  have hu := Tryd.underlying24
  have huc := Tryd.underlying52
  have c0 : w.cell? ⟨g, 0, none⟩ = some (.int .i64 c.n) := (blk_cell hI 0).trans rfl
  have c1 : w.cell? ⟨g, 1, none⟩ = some (.int .i64 c.t) := (blk_cell hI 1).trans rfl
  have c2 : w.cell? ⟨g, 2, none⟩ = some (.bool c.deep) := (blk_cell hI 2).trans rfl
  have f0 : w.frozen? ⟨g, 0, none⟩ = false := blk_frozen hI 0
  have f1 : w.frozen? ⟨g, 1, none⟩ = false := blk_frozen hI 1
  have HI := Aside0.mk hI
  have HR := Aside0.mk hr
  have HC := Aside0.mk hc
  have HB := Aside0.mk hB
  clear hI hr hc hB
  have hng : ¬ w.heap.size = g := by omega
  have hgo : goesS s d c = goesL s.f2 (d + 1) ⟨c.n + 1, if timedS s.f0 = true then c.t + 1 else c.t, c.deep⟩ := by
    cases s
    simp only [goesS]
    rw [if_neg hd]
  have HG := Aside0.mk hgo
  have hlen := Kd.C_max HR.out
  clear hgo
  have IH := Aside0.mk ih
  clear ih
  have hdd : ¬ 12 < d := hd
  by_cases ht : timedS s.f0 = true
  all_goals
    go_enter Tryd.func48, Tryd.ntmps48
    go_wp2_with (go_at_call 64; refine (formula_timed.calls _ (timedS s.f0) _ (timed_some _)).mono ?_; rintro e w1 ⟨rfl, hd0⟩; obtain ⟨m, rfl⟩ := hd0.out)
    go_loopg [33] s.f2.length (fun kq v33 w' => ∃ (j : Nat) (c' : Cnt), j + kq = s.f2.length ∧ v33 = .int .i64 j ∧ IsCnt w' g c' ∧ Aside0 (goesS s d c = goesL (s.f2.drop j) (d + 1) c') ∧ 0 ≤ c'.n ∧ c'.n ≤ 61 ∧ 0 ≤ c'.t ∧ c'.t ≤ c'.n ∧ Aside0 (Below w0.heap.size w0 w') ∧ Aside0 (KeepBut w w' g none))
    case atStart =>
      first
        | exact ⟨0, ⟨c.n + 1, c.t + 1, c.deep⟩, by omega, rfl, (blk_set (blk_drewN (blk_alloc (blk_set HI.out 0 _) _) m) 1 _).trans rfl, ⟨by rw [HG.out, if_pos ht]; rfl⟩, by show 0 ≤ c.n + 1; omega, by show c.n + 1 ≤ 61; omega, by show 0 ≤ c.t + 1; omega, by show c.t + 1 ≤ c.n + 1; omega, ⟨(pw_below_drewN (below_alloc (HB.out.setCell hg0 _) _) m).setCell hg0 _⟩, ⟨KeepBut.set_ (keep_drewN (keep_alloc (KeepBut.set_ (KeepBut.refl _ _ _) 0 _) _) m) 1 _⟩⟩
        | exact ⟨0, ⟨c.n + 1, c.t, c.deep⟩, by omega, rfl, (blk_drewN (blk_alloc (blk_set HI.out 0 _) _) m).trans rfl, ⟨by rw [HG.out, if_neg ht]; rfl⟩, by show 0 ≤ c.n + 1; omega, by show c.n + 1 ≤ 61; omega, ht0, by show c.t ≤ c.n + 1; omega, ⟨pw_below_drewN (below_alloc (HB.out.setCell hg0 _) _) m⟩, ⟨keep_drewN (keep_alloc (KeepBut.set_ (KeepBut.refl _ _ _) 0 _) _) m⟩⟩
    case round =>
      obtain ⟨j, c', hj, rfl, hI, HA, hn0', hn1', ht0', ht1', HB, HK⟩ := hrel
      have HJ := Aside0.mk hj
      clear hj
      have c0 : wr.cell? ⟨g, 0, none⟩ = some (.int .i64 c'.n) := (blk_cell hI 0).trans rfl
      have HI := Aside0.mk hI
      have hgr : g < wr.heap.size := (Array.getElem?_eq_some_iff.1 hI).1
      clear hI
      by_cases hlt : j < s.f2.length
      · obtain ⟨ad, A2, cp2, e0, hx0, hx1, hx2, hl2, hk2⟩ := kid_at HR.out HB.out j hlt hlt
        cases e0
        have HK2 := Aside0.mk hk2
        have HL2 := Aside0.mk hl2
        clear hk2 hl2
        have hnw : ¬ wr.heap.size = g := by omega
        have hstep : goesL (s.f2.drop j) (d + 1) c' = if c'.n > 60 then c' else goesL (s.f2.drop (j + 1)) (d + 1) (goesS s.f2[j] (d + 1) c') := by
          rw [List.drop_eq_getElem_cons hlt]
          simp only [goesL]
        have HS := Aside0.mk hstep
        clear hstep
        have hmem : s.f2[j] ∈ s.f2 := List.getElem_mem hlt
        by_cases h60 : 60 < c'.n
        · go_wp2
          first | go_end0 | ((try simp only [Exit.inBlock, Exit.then]); refine bodyPost_ret (results_none rfl _ _ _) rfl ?_)
          refine ⟨rfl, ?_, ?_, ?_⟩
          · rw [HA.out, HS.out, if_pos h60]
            exact blk_alloc HI.out _
          · exact below_alloc HB.out _
          · exact keep_alloc HK.out _
        · have hk := IH.out s.f2[j] hmem (d + 1) c' A2 cp2
          have HKK := Aside0.mk hk
          clear hk
          have hle := goesS_le s.f2[j] (d + 1) c' hn0' (by omega) ht0' ht1'
          have HLE := Aside0.mk hle
          clear hle
          go_wp2_with (go_at_call 48; refine (HKK.out _ (by omega) (by omega) hn0' (by omega) ht0' ht1' (blk_alloc HI.out _) (below_alloc HB.out _) hg0 HK2.out HL2.out).mono ?_; rintro e w2 ⟨rfl, hI2, hB2, hK2⟩; have HI2 := Aside0.mk hI2; have HB2 := Aside0.mk hB2; have HKB2 := Aside0.mk hK2; clear hI2 hB2 hK2)
          go_roundg (gk - 1)
          case measure => have := HJ.out; omega
          case rel => exact ⟨j + 1, goesS s.f2[j] (d + 1) c', by have := HJ.out; omega, by go_num, HI2.out, ⟨by rw [HA.out, HS.out, if_neg (by omega)]⟩, by have := HLE.out; omega, HLE.out.2.1, HLE.out.2.2.1, HLE.out.2.2.2, ⟨HB2.out⟩, ⟨(keep_alloc HK.out _).trans HKB2.out (.inl rfl)⟩⟩
      · go_wp2
        first | go_end0 | ((try simp only [Exit.inBlock, Exit.then]); refine bodyPost_ret (results_none rfl _ _ _) rfl ?_)
        refine ⟨rfl, ?_, HB.out, HK.out⟩
        rw [HA.out, List.drop_eq_nil_of_le (by omega)]
        exact HI.out
mutual
theorem goes_all (g : Nat) (w0 : World) : ∀ s : S24, GoesAt g w0 s
  | ⟨op, m, kids⟩ => goes_calls g w0 ⟨op, m, kids⟩ (goes_kids g w0 kids)
theorem goes_kids (g : Nat) (w0 : World) : ∀ (l : List S24) (k : S24), k ∈ l → GoesAt g w0 k
  | [], k, hk => by simp at hk
  | a :: r, k, hk => by
    rcases List.mem_cons.1 hk with h | h
    · rw [h]
      exact goes_all g w0 a
    · exact goes_kids g w0 r k h
end
/-- The count of a formula. -/
def cntS (s : S24) : Cnt := goesS s 1 ⟨0, 0, false⟩
set_option maxHeartbeats 1600000 in
theorem counted_calls (s : S24) (A : Option Addr) (cp : Nat) (w : World) (hr : Kd.C k24 w A s.f2.length s.f2) (hc : s.f2.length ≤ cp) :
    Calls Tryd.prog 33 #[.agg #[.int .i64 s.f0, .int .i64 s.f1, .slice A s.f2.length cp]] w fun e w' => ∃ g, e = .returned (.pointer (some ⟨g, 0, none⟩)) ∧ IsCnt w' g (cntS s) ∧ Below w.heap.size w w' ∧ w.heap.size ≤ g := by
  have hu := Tryd.underlying24
  have huc := Tryd.underlying52
  have HR := Aside0.mk hr
  have HC := Aside0.mk hc
  clear hr hc
  go_enter Tryd.func33, Tryd.ntmps33
  go_wp2_with fail
  have hI0 : IsCnt ((w.alloc (.cells #[.int .i64 s.f0, .int .i64 s.f1, .slice A s.f2.length cp] 24)).alloc (.cells #[.int .i64 0, .int .i64 0, .bool false] 52)) (w.heap.size + 1) ⟨0, 0, false⟩ := by
    have := heap_alloc_new (w.alloc (.cells #[.int .i64 s.f0, .int .i64 s.f1, .slice A s.f2.length cp] 24)) (.cells #[.int .i64 0, .int .i64 0, .bool false] 52)
    have e0 : (w.alloc (.cells #[.int .i64 s.f0, .int .i64 s.f1, .slice A s.f2.length cp] 24)).heap.size = w.heap.size + 1 := by simp
    rw [e0] at this
    exact this
  refine (goes_all (w.heap.size + 1) w s 1 ⟨0, 0, false⟩ A cp _ (by omega) (by omega) (by simp) (by simp) (by simp) (by simp) hI0 (below_alloc (below_alloc (Below.refl _ _) _) _) (by omega) HR.out HC.out).mono ?_
  rintro e w' ⟨rfl, hI, hB, hK⟩
  have HI := Aside0.mk hI
  have HB := Aside0.mk hB
  clear hI hB hK hI0
  go_wp2
  go_ret
  exact ⟨w.heap.size + 1, rfl, HI.out, HB.out, by omega⟩
def lightS (s : S24) : Bool := decide ((cntS s).n ≤ 60) && !(cntS s).deep
set_option maxHeartbeats 1600000 in
set_option maxRecDepth 100000 in
theorem formula_light.all (s : S24) (A : Option Addr) (cp : Nat) (w : World) (hr : Kd.C k24 w A s.f2.length s.f2) (hc : s.f2.length ≤ cp) :
    Calls Tryd.prog 32 #[.agg #[.int .i64 s.f0, .int .i64 s.f1, .slice A s.f2.length cp]] w fun e w' => e = .returned (.bool (lightS s)) ∧ Below w.heap.size w w' := by
  have hu := Tryd.underlying24
  have huc := Tryd.underlying52
  have HR := Aside0.mk hr
  have HC := Aside0.mk hc
  have hls : lightS s = (decide ((cntS s).n ≤ 60) && !(cntS s).deep) := rfl
  have HL := Aside0.mk hls
  clear hr hc hls
  generalize lightS s = L at HL ⊢
  have hcnt := counted_calls s A cp (w.alloc (.cells #[.int .i64 s.f0, .int .i64 s.f1, .slice A s.f2.length cp] 24)) (Kd.C_alloc HR.out _) HC.out
  have HCN := Aside0.mk hcnt
  clear hcnt
  generalize cntS s = c at HL HCN
  by_cases h : c.n ≤ 60
  all_goals
    go_enter Tryd.func32, Tryd.ntmps32
    go_wp2_with (go_at_call 33; refine HCN.out.mono ?_; rintro e w1 ⟨g, rfl, hI, hB, hg⟩; have c0 : w1.cell? ⟨g, 0, none⟩ = some (.int .i64 c.n) := (blk_cell hI 0).trans rfl; have c2 : w1.cell? ⟨g, 2, none⟩ = some (.bool c.deep) := (blk_cell hI 2).trans rfl; have HB := Aside0.mk hB; clear hB hI hg)
    go_ret
    refine ⟨?_, (below_alloc (Below.refl _ _) _).trans (HB.out.mono (by simp))⟩
    rw [HL.out]
    first | (simp [h]; done) | (simp; omega)
def formula_light.f (a0_0 : Int) (a0_1 : Int) (l0_2 : List S24) : Option Bool := some (lightS ⟨a0_0, a0_1, l0_2⟩)
theorem formula_light.calls (a0_0 : Int) (a0_1 : Int) (A0_2 : Option Addr) (c0_2 : Nat) (l0_2 : List S24) (r : Bool) (w : World) (hr0_2 : Kd.C k24 w A0_2 l0_2.length l0_2) (hc0_2 : l0_2.length ≤ c0_2) (h : formula_light.f a0_0 a0_1 l0_2 = some r) :
    Calls Tryd.prog 32 #[.agg #[.int .i64 a0_0, .int .i64 a0_1, .slice A0_2 l0_2.length c0_2]] w fun e w' => e = .returned (.bool r) ∧ Below w.heap.size w w' := by
  obtain rfl := Option.some.inj h
  exact formula_light.all ⟨a0_0, a0_1, l0_2⟩ A0_2 c0_2 w hr0_2 hc0_2
end Go.Proofs.YtjjnokodkeekhaaDoor.X

namespace Go.Proofs.YtjjnokodkeekhaaDoor.Evx
open Go.RowKit Go.Proofs.YtjjnokodkeekhaaDoorW.PrintWords
set_option linter.unusedVariables false
set_option linter.unusedSimpArgs false
theorem w64 {x : Int} (h0 : -9223372036854775808 ≤ x) (h1 : x < 9223372036854775808) : wrap64 x = x := by unfold wrap64; omega
section
variable {α β : Type} {r : α}
theorem ev_pos {c : Prop} [Decidable c] {f g : Nat → Option α} (h : c) (k : Ev f r) : Ev (fun n => if c then f n else g n) r := Ev.congr (fun _ => if_pos h) k
theorem ev_neg {c : Prop} [Decidable c] {f g : Nat → Option α} (h : ¬ c) (k : Ev g r) : Ev (fun n => if c then f n else g n) r := Ev.congr (fun _ => if_neg h) k
theorem ev_bindv {g : Option β} {f : Nat → β → Option α} {a : β} (h : g = some a) (k : Ev (fun n => f n a) r) : Ev (fun n => g.bind (f n)) r := by subst h; exact k
theorem ev_bind {g : Nat → Option β} {f : Nat → β → Option α} {a : β} (h : Ev g a) (k : Ev (fun n => f n a) r) : Ev (fun n => (g n).bind (f n)) r := Ev.bind h k
theorem ev_some (r : α) : Ev (fun _ => some r) r := Ev.now r
theorem ev_tt {f g : Nat → Option α} (k : Ev f r) : Ev (fun n => if true = true then f n else g n) r := ev_pos rfl k
theorem ev_ff {f g : Nat → Option α} (k : Ev g r) : Ev (fun n => if false = true then f n else g n) r := ev_neg (by simp) k
/-- A test of a Bool either way. -/
theorem ev_bool {b : Bool} {f g : Nat → Option α} (h1 : b = true → Ev f r) (h2 : b = false → Ev g r) : Ev (fun n => if b = true then f n else g n) r := by
  cases b with
  | true => exact ev_tt (h1 rfl)
  | false => exact ev_ff (h2 rfl)
/-- A test either way. -/
theorem ev_ite {c : Prop} [Decidable c] {f g : Nat → Option α} (h1 : c → Ev f r) (h2 : ¬ c → Ev g r) : Ev (fun n => if c then f n else g n) r := by
  by_cases h : c
  · exact ev_pos h (h1 h)
  · exact ev_neg h (h2 h)
theorem ev_eq {f : Nat → Option α} {r' : α} (h : Ev f r') (e : r' = r) : Ev f r := e ▸ h
theorem ev_step {g f : Nat → Option α} (h : ∀ k, g (k + 1) = f k) (k : Ev f r) : Ev g r := Ev.step h k
end
theorem u64_id {x : Int} (h : 0 ≤ x) (h2 : x < 18446744073709551616) : IntKind.u64.wrap x = x := by
  simp [IntKind.wrap, IntKind.bits, IntKind.signed]
  omega
end Go.Proofs.YtjjnokodkeekhaaDoor.Evx

namespace Go.Proofs.YtjjnokodkeekhaaDoor.P
open Go.RowKit Go.Proofs.YtjjnokodkeekhaaDoorW.PrintWords Go.Proofs.YtjjnokodkeekhaaDoorW.PrintLast Go.Proofs.YtjjnokodkeekhaaDoorW.PrintMore
attribute [local go_sem] max2_int min2_int max_two min_two max_three min_three max_four min_four   -- for this text's walks alone
set_option linter.unusedVariables false
set_option linter.unusedSimpArgs false

mutual
def formula_kids.j0 : Nat → Int → Bool → Option (Int)
  | 0, _, _ => none
  | k + 1, x0, x3 => if x3 = true then (some 0) else (if x0 = 3 then (formula_kids.j1 k x0 true) else (formula_kids.j1 k x0 (x0 == 6)))
def formula_kids.j1 : Nat → Int → Bool → Option (Int)
  | 0, _, _ => none
  | k + 1, x0, x10 => if x10 = true then (some 1) else (if x0 = 4 then (some 2) else (if x0 = 5 then (some 2) else (if x0 = 7 then (some 2) else (if x0 = 8 then (some 2) else (some (-1))))))
end
def formula_kids.f (k : Nat) (a0 : Int) : Option (Int) := if a0 = 1 then (formula_kids.j0 k a0 true) else (formula_kids.j0 k a0 (a0 == 2))
theorem formula_kids.mono_l : ∀ k, (∀ y0 y1, LeO (formula_kids.j0 k y0 y1) (formula_kids.j0 (k + 1) y0 y1)) ∧ (∀ y0 y1, LeO (formula_kids.j1 k y0 y1) (formula_kids.j1 (k + 1) y0 y1))
  | 0 => ⟨fun _ _ r h => by simp [formula_kids.j0] at h, fun _ _ r h => by simp [formula_kids.j1] at h⟩
  | k + 1 => by
    obtain ⟨ih0, ih1⟩ := formula_kids.mono_l k
    refine ⟨?_, ?_⟩
    · intro y0 y1
      unfold formula_kids.j0
      repeat' first
      | (with_reducible exact ih0 _ _)
      | (with_reducible exact ih1 _ _)
      | (with_reducible exact LeO.refl _)
      | (with_reducible exact LeO.none _)
      | (with_reducible refine LeO.ite ?_ ?_)
      | (with_reducible refine LeO.bind ?_ (fun _ => ?_))
      | exact ih0 _ _
      | exact ih1 _ _
      | exact LeO.none _
      | refine LeO.ite ?_ ?_
      | refine LeO.bind ?_ (fun _ => ?_)
    · intro y0 y1
      unfold formula_kids.j1
      repeat' first
      | (with_reducible exact ih0 _ _)
      | (with_reducible exact ih1 _ _)
      | (with_reducible exact LeO.refl _)
      | (with_reducible exact LeO.none _)
      | (with_reducible refine LeO.ite ?_ ?_)
      | (with_reducible refine LeO.bind ?_ (fun _ => ?_))
      | exact ih0 _ _
      | exact ih1 _ _
      | exact LeO.none _
      | refine LeO.ite ?_ ?_
      | refine LeO.bind ?_ (fun _ => ?_)
theorem formula_kids.mono : ∀ a0 k, LeO (formula_kids.f k a0) (formula_kids.f (k + 1) a0) := by
  intro a0 k
  obtain ⟨ih0, ih1⟩ := formula_kids.mono_l k
  unfold formula_kids.f
  repeat' first
      | (with_reducible exact ih0 _ _)
      | (with_reducible exact ih1 _ _)
      | (with_reducible exact LeO.refl _)
      | (with_reducible exact LeO.none _)
      | (with_reducible refine LeO.ite ?_ ?_)
      | (with_reducible refine LeO.bind ?_ (fun _ => ?_))
      | exact ih0 _ _
      | exact ih1 _ _
      | exact LeO.none _
      | refine LeO.ite ?_ ?_
      | refine LeO.bind ?_ (fun _ => ?_)
set_option maxHeartbeats 8000000 in
set_option maxRecDepth 100000 in
theorem formula_kids.calls (k : Nat) (a0 : Int) (r : Int) (w : World) (h : formula_kids.f k a0 = some r) :
    Calls Tryd.prog 49 #[.int .i64 a0] w fun e w' => e = .returned (.int .i64 r) ∧ Drawn0 w w' := by
  have H : (if a0 = 1 then (formula_kids.j0 k a0 true) else (formula_kids.j0 k a0 (a0 == 2))) = some r := h
  clear h
  have HC2 := Aside0.mk H
  clear H
  go_enter Tryd.func49, Tryd.ntmps49
  go_upto_region 1 with (fail)
  go_cut [3] (fun v3 wc => ∃ (kq : Nat) (x3_1 : Bool), v3 = .bool x3_1 ∧ Aside0 (formula_kids.j0 kq a0 x3_1 = some r) ∧ Aside0 (kq ≤ k) ∧ Drawn0 w wc)
  case first =>
    have H := HC2.out
    clear HC2
    by_cases c3 : a0 = 1
    · rw [if_pos c3] at H
      have c3b0 : (a0 == 1) = true := beq_iff_eq.mpr c3
      have c3b1 : (a0 != 1) = false := bne_eq_false_iff_eq.mpr c3
      clear c3
      (first | rw [c3b0] | (simp only [i64_w, i32_w]; rw [c3b0]) | skip)
      have H' := Aside0.mk H
      clear H
      go_wp2
      go_meet
      case rel => exact ⟨_, (true), (by first | rfl | (simp; done) | (simp [*]; done)), H', ⟨by first | omega | exact Nat.le_refl _⟩, by repeat (first | exact Drawn0.refl _ | apply Drawn0.step)⟩
    · rw [if_neg c3] at H
      have c3b0 : (a0 == 1) = false := beq_eq_false_iff_ne.mpr c3
      have c3b1 : (a0 != 1) = true := bne_iff_ne.mpr c3
      (first | rw [c3b0] | (simp only [i64_w, i32_w]; rw [c3b0]) | skip)
      have H' := Aside0.mk H
      clear H
      go_wp2
      go_meet
      case rel => exact ⟨_, ((a0 == 2)), (by first | rfl | (simp; done) | (simp [*]; done)), H', ⟨by first | omega | exact Nat.le_refl _⟩, by repeat (first | exact Drawn0.refl _ | apply Drawn0.step)⟩
  case rest =>
    clear HC2
    try clear p2
    try clear c3
    try clear c3b0
    try clear c3b1
    obtain ⟨kq, x3_1, rfl, HA, HJ1, ⟨mc1, rfl⟩⟩ := hcut
    cases kq with
    | zero => exact absurd HA.out (by simp [formula_kids.j0])
    | succ kj1 =>
      have H := HA.out
      clear HA
      simp only [formula_kids.j0] at H
      by_cases c4 : x3_1 = true
      · subst c4
        have H1 : (some 0) = some r := by rw [if_pos rfl] at H; exact H
        clear H
        have H := H1
        clear H1
        obtain rfl := Option.some.inj H
        go_wp2
        go_ret
        exact ⟨by first | rfl | (simp; done) | (simp [*]; done), by repeat (first | exact Drawn0.refl _ | apply Drawn0.step)⟩
      · replace c4 := Bool.eq_false_iff.mpr c4
        subst c4
        have H1 : (if a0 = 3 then (formula_kids.j1 kj1 a0 true) else (formula_kids.j1 kj1 a0 (a0 == 6))) = some r := by rw [if_neg (show ¬ (false = true) by decide)] at H; exact H
        clear H
        have H := H1
        clear H1
        have HC5 := Aside0.mk H
        clear H
        go_upto_region 3 with (fail)
        go_cut [10] (fun v10 wc => ∃ (kq : Nat) (x10_4 : Bool), v10 = .bool x10_4 ∧ Aside0 (formula_kids.j1 kq a0 x10_4 = some r) ∧ Aside0 (kq ≤ kj1) ∧ Drawn0 w wc)
        case first =>
          have H := HC5.out
          clear HC5
          by_cases c6 : a0 = 3
          · rw [if_pos c6] at H
            have c6b0 : (a0 == 3) = true := beq_iff_eq.mpr c6
            have c6b1 : (a0 != 3) = false := bne_eq_false_iff_eq.mpr c6
            clear c6
            (first | rw [c6b0] | (simp only [i64_w, i32_w]; rw [c6b0]) | skip)
            have H' := Aside0.mk H
            clear H
            go_wp2
            go_meet
            case rel => exact ⟨_, (true), (by first | rfl | (simp; done) | (simp [*]; done)), H', ⟨by have := HJ1.out; first | omega | exact Nat.le_refl _⟩, by repeat (first | exact Drawn0.refl _ | apply Drawn0.step)⟩
          · rw [if_neg c6] at H
            have c6b0 : (a0 == 3) = false := beq_eq_false_iff_ne.mpr c6
            have c6b1 : (a0 != 3) = true := bne_iff_ne.mpr c6
            (first | rw [c6b0] | (simp only [i64_w, i32_w]; rw [c6b0]) | skip)
            have H' := Aside0.mk H
            clear H
            go_wp2
            go_meet
            case rel => exact ⟨_, ((a0 == 6)), (by first | rfl | (simp; done) | (simp [*]; done)), H', ⟨by have := HJ1.out; first | omega | exact Nat.le_refl _⟩, by repeat (first | exact Drawn0.refl _ | apply Drawn0.step)⟩
        case rest =>
          clear HC5
          try clear c1
          try clear p2
          try clear c3
          try clear c3b0
          try clear c3b1
          try clear c4
          try clear c6
          try clear c6b0
          try clear c6b1
          try clear p2
          obtain ⟨kq, x10_4, rfl, HA, HJ4, ⟨mc4, rfl⟩⟩ := hcut
          cases kq with
          | zero => exact absurd HA.out (by simp [formula_kids.j1])
          | succ kj4 =>
            have H := HA.out
            clear HA
            simp only [formula_kids.j1] at H
            by_cases c7 : x10_4 = true
            · subst c7
              have H1 : (some 1) = some r := by rw [if_pos rfl] at H; exact H
              clear H
              have H := H1
              clear H1
              obtain rfl := Option.some.inj H
              go_wp2
              go_ret
              exact ⟨by first | rfl | (simp; done) | (simp [*]; done), by repeat (first | exact Drawn0.refl _ | apply Drawn0.step)⟩
            · replace c7 := Bool.eq_false_iff.mpr c7
              subst c7
              have H1 : (if a0 = 4 then (some 2) else (if a0 = 5 then (some 2) else (if a0 = 7 then (some 2) else (if a0 = 8 then (some 2) else (some (-1)))))) = some r := by rw [if_neg (show ¬ (false = true) by decide)] at H; exact H
              clear H
              have H := H1
              clear H1
              by_cases c8 : a0 = 4
              · rw [if_pos c8] at H
                have c8b0 : (a0 == 4) = true := beq_iff_eq.mpr c8
                have c8b1 : (a0 != 4) = false := bne_eq_false_iff_eq.mpr c8
                clear c8
                obtain rfl := Option.some.inj H
                go_wp2
                go_ret
                exact ⟨by first | rfl | (simp; done) | (simp [*]; done), by repeat (first | exact Drawn0.refl _ | apply Drawn0.step)⟩
              · rw [if_neg c8] at H
                have c8b0 : (a0 == 4) = false := beq_eq_false_iff_ne.mpr c8
                have c8b1 : (a0 != 4) = true := bne_iff_ne.mpr c8
                by_cases c9 : a0 = 5
                · rw [if_pos c9] at H
                  have c9b0 : (a0 == 5) = true := beq_iff_eq.mpr c9
                  have c9b1 : (a0 != 5) = false := bne_eq_false_iff_eq.mpr c9
                  clear c9
                  obtain rfl := Option.some.inj H
                  go_wp2
                  go_ret
                  exact ⟨by first | rfl | (simp; done) | (simp [*]; done), by repeat (first | exact Drawn0.refl _ | apply Drawn0.step)⟩
                · rw [if_neg c9] at H
                  have c9b0 : (a0 == 5) = false := beq_eq_false_iff_ne.mpr c9
                  have c9b1 : (a0 != 5) = true := bne_iff_ne.mpr c9
                  by_cases c10 : a0 = 7
                  · rw [if_pos c10] at H
                    have c10b0 : (a0 == 7) = true := beq_iff_eq.mpr c10
                    have c10b1 : (a0 != 7) = false := bne_eq_false_iff_eq.mpr c10
                    clear c10
                    obtain rfl := Option.some.inj H
                    go_wp2
                    go_ret
                    exact ⟨by first | rfl | (simp; done) | (simp [*]; done), by repeat (first | exact Drawn0.refl _ | apply Drawn0.step)⟩
                  · rw [if_neg c10] at H
                    have c10b0 : (a0 == 7) = false := beq_eq_false_iff_ne.mpr c10
                    have c10b1 : (a0 != 7) = true := bne_iff_ne.mpr c10
                    by_cases c11 : a0 = 8
                    · rw [if_pos c11] at H
                      have c11b0 : (a0 == 8) = true := beq_iff_eq.mpr c11
                      have c11b1 : (a0 != 8) = false := bne_eq_false_iff_eq.mpr c11
                      clear c11
                      obtain rfl := Option.some.inj H
                      go_wp2
                      go_ret
                      exact ⟨by first | rfl | (simp; done) | (simp [*]; done), by repeat (first | exact Drawn0.refl _ | apply Drawn0.step)⟩
                    · rw [if_neg c11] at H
                      have c11b0 : (a0 == 8) = false := beq_eq_false_iff_ne.mpr c11
                      have c11b1 : (a0 != 8) = true := bne_iff_ne.mpr c11
                      obtain rfl := Option.some.inj H
                      go_wp2
                      go_ret
                      exact ⟨by first | rfl | (simp; done) | (simp [*]; done), by repeat (first | exact Drawn0.refl _ | apply Drawn0.step)⟩

def formula_MayWord.f (l0_0 : List Int) (l0_1 : List Int) : Option (Bool) := if (l0_0.length : Int) ≤ 3000 then (if (l0_1.length : Int) ≥ 1 then (some (decide ((l0_1.length : Int) ≤ 27000))) else (some false)) else (some false)
set_option maxHeartbeats 8000000 in
set_option maxRecDepth 100000 in
theorem formula_MayWord.calls (A0_0 : Option Addr) (c0_0 : Nat) (l0_0 : List Int) (A0_1 : Option Addr) (c0_1 : Nat) (l0_1 : List Int) (r : Bool) (w : World) (hr0_0 : Kd.C (Kd.int .u32) w A0_0 l0_0.length l0_0) (hc0_0 : l0_0.length ≤ c0_0) (hr0_1 : Kd.C (Kd.int .u32) w A0_1 l0_1.length l0_1) (hc0_1 : l0_1.length ≤ c0_1) (h : formula_MayWord.f l0_0 l0_1 = some r) :
    Calls Tryd.prog 14 #[.agg #[.slice A0_0 l0_0.length c0_0, .slice A0_1 l0_1.length c0_1]] w fun e w' => e = .returned (.bool r) ∧ Below w.heap.size w w' := by
  have hu27 := Tryd.underlying27
  have HR0_0 := Aside0.mk hr0_0
  have HC0_0 := Aside0.mk hc0_0
  clear hr0_0 hc0_0
  have HR0_1 := Aside0.mk hr0_1
  have HC0_1 := Aside0.mk hc0_1
  clear hr0_1 hc0_1
  have HB := Aside0.mk (Below.refl w.heap.size w)
  have H : (if (l0_0.length : Int) ≤ 3000 then (if (l0_1.length : Int) ≥ 1 then (some (decide ((l0_1.length : Int) ≤ 27000))) else (some false)) else (some false)) = some r := h
  clear h
  by_cases c2 : (l0_0.length : Int) ≤ 3000
  · rw [if_pos c2] at H
    have c2b0 : decide ((l0_0.length : Int) ≤ 3000) = true := decide_eq_true c2
    have c2b1 : decide (l0_0.length ≤ 3000) = true := decide_eq_true (by omega)
    clear c2
    by_cases c3 : (l0_1.length : Int) ≥ 1
    · rw [if_pos c3] at H
      have c3b0 : decide (1 ≤ (l0_1.length : Int)) = true := decide_eq_true c3
      have c3b1 : decide (1 ≤ l0_1.length) = true := decide_eq_true (by omega)
      clear c3
      obtain rfl := Option.some.inj H
      go_enter Tryd.func14, Tryd.ntmps14
      go_wp2_with (first | ((with_reducible refine gate_dst (N := 1) rfl ?_); (try (refine gate_guard (by rfl) ?_; dsimp only)); refine box_event ?hg (N := 1) ?hd (cs := #[.slice A0_0 l0_0.length c0_0, .slice A0_1 l0_1.length c0_1]) (t := 27) ?hr ?_; (case hd => rfl); (case hg => rfl); (case hr => first | (go_simp; done) | (go_simp; rfl)); intro gb118 hg w4 hbox hb; have n0_ := Aside0.mk (below_step (by repeat (first | (with_reducible first | exact HB.out | apply below_alloc | apply pw_below_drewN | apply below_drew1) | exact HB.out)) hb); have n1_ := Aside0.mk (hbox); have n2_ := Aside0.mk ((by rw [hg]; exact (below_size (by repeat (first | (with_reducible first | exact HB.out | apply below_alloc | apply pw_below_drewN | apply below_drew1) | exact HB.out))) : w.heap.size ≤ gb118)); have n3_ := Aside0.mk ((by rw [hg]; exact (below_size (by repeat (first | (with_reducible first | exact HB.out | apply below_alloc | apply pw_below_drewN | apply below_drew1) | exact HB.out))) : w.heap.size ≤ gb118)); clear HB; have HB := n0_; have BK118 := n1_; have GW118 := n2_; have GE118 := n3_; clear n0_ n1_ n2_ n3_; clear hb hbox hg; have hcz5_0 : w4.cell? ⟨gb118, 0, none⟩ = some (.slice A0_0 l0_0.length c0_0) := (blk_cell BK118.out 0).trans rfl; have hcz5_1 : w4.cell? ⟨gb118, 1, none⟩ = some (.slice A0_1 l0_1.length c0_1) := (blk_cell BK118.out 1).trans rfl; have hfz5_0 := blk_frozen BK118.out 0; have hfz5_1 := blk_frozen BK118.out 1))
      go_ret
      exact ⟨by first | rfl | (simp [errW_none, errW_some] <;> rfl) | (simp [*, errW_none, errW_some] <;> rfl), by repeat (first | (with_reducible first | exact HB.out | apply below_alloc | apply pw_below_drewN | apply below_drew1 | refine below_set ?_ GE118.out) | exact HB.out)⟩
    · rw [if_neg c3] at H
      have c3b0 : decide (1 ≤ (l0_1.length : Int)) = false := decide_eq_false c3
      have c3b1 : decide (1 ≤ l0_1.length) = false := decide_eq_false (by omega)
      clear c3
      obtain rfl := Option.some.inj H
      go_enter Tryd.func14, Tryd.ntmps14
      go_wp2_with (first | ((with_reducible refine gate_dst (N := 1) rfl ?_); (try (refine gate_guard (by rfl) ?_; dsimp only)); refine box_event ?hg (N := 1) ?hd (cs := #[.slice A0_0 l0_0.length c0_0, .slice A0_1 l0_1.length c0_1]) (t := 27) ?hr ?_; (case hd => rfl); (case hg => rfl); (case hr => first | (go_simp; done) | (go_simp; rfl)); intro gb118 hg w6 hbox hb; have n0_ := Aside0.mk (below_step (by repeat (first | (with_reducible first | exact HB.out | apply below_alloc | apply pw_below_drewN | apply below_drew1) | exact HB.out)) hb); have n1_ := Aside0.mk (hbox); have n2_ := Aside0.mk ((by rw [hg]; exact (below_size (by repeat (first | (with_reducible first | exact HB.out | apply below_alloc | apply pw_below_drewN | apply below_drew1) | exact HB.out))) : w.heap.size ≤ gb118)); have n3_ := Aside0.mk ((by rw [hg]; exact (below_size (by repeat (first | (with_reducible first | exact HB.out | apply below_alloc | apply pw_below_drewN | apply below_drew1) | exact HB.out))) : w.heap.size ≤ gb118)); clear HB; have HB := n0_; have BK118 := n1_; have GW118 := n2_; have GE118 := n3_; clear n0_ n1_ n2_ n3_; clear hb hbox hg; have hcz7_0 : w6.cell? ⟨gb118, 0, none⟩ = some (.slice A0_0 l0_0.length c0_0) := (blk_cell BK118.out 0).trans rfl; have hcz7_1 : w6.cell? ⟨gb118, 1, none⟩ = some (.slice A0_1 l0_1.length c0_1) := (blk_cell BK118.out 1).trans rfl; have hfz7_0 := blk_frozen BK118.out 0; have hfz7_1 := blk_frozen BK118.out 1))
      go_ret
      exact ⟨by first | rfl | (simp [errW_none, errW_some] <;> rfl) | (simp [*, errW_none, errW_some] <;> rfl), by repeat (first | (with_reducible first | exact HB.out | apply below_alloc | apply pw_below_drewN | apply below_drew1 | refine below_set ?_ GE118.out) | exact HB.out)⟩
  · rw [if_neg c2] at H
    have c2b0 : decide ((l0_0.length : Int) ≤ 3000) = false := decide_eq_false c2
    have c2b1 : decide (l0_0.length ≤ 3000) = false := decide_eq_false (by omega)
    clear c2
    obtain rfl := Option.some.inj H
    go_enter Tryd.func14, Tryd.ntmps14
    go_wp2_with (first | ((with_reducible refine gate_dst (N := 1) rfl ?_); (try (refine gate_guard (by rfl) ?_; dsimp only)); refine box_event ?hg (N := 1) ?hd (cs := #[.slice A0_0 l0_0.length c0_0, .slice A0_1 l0_1.length c0_1]) (t := 27) ?hr ?_; (case hd => rfl); (case hg => rfl); (case hr => first | (go_simp; done) | (go_simp; rfl)); intro gb118 hg w8 hbox hb; have n0_ := Aside0.mk (below_step (by repeat (first | (with_reducible first | exact HB.out | apply below_alloc | apply pw_below_drewN | apply below_drew1) | exact HB.out)) hb); have n1_ := Aside0.mk (hbox); have n2_ := Aside0.mk ((by rw [hg]; exact (below_size (by repeat (first | (with_reducible first | exact HB.out | apply below_alloc | apply pw_below_drewN | apply below_drew1) | exact HB.out))) : w.heap.size ≤ gb118)); have n3_ := Aside0.mk ((by rw [hg]; exact (below_size (by repeat (first | (with_reducible first | exact HB.out | apply below_alloc | apply pw_below_drewN | apply below_drew1) | exact HB.out))) : w.heap.size ≤ gb118)); clear HB; have HB := n0_; have BK118 := n1_; have GW118 := n2_; have GE118 := n3_; clear n0_ n1_ n2_ n3_; clear hb hbox hg; have hcz9_0 : w8.cell? ⟨gb118, 0, none⟩ = some (.slice A0_0 l0_0.length c0_0) := (blk_cell BK118.out 0).trans rfl; have hcz9_1 : w8.cell? ⟨gb118, 1, none⟩ = some (.slice A0_1 l0_1.length c0_1) := (blk_cell BK118.out 1).trans rfl; have hfz9_0 := blk_frozen BK118.out 0; have hfz9_1 := blk_frozen BK118.out 1))
    go_ret
    exact ⟨by first | rfl | (simp [errW_none, errW_some] <;> rfl) | (simp [*, errW_none, errW_some] <;> rfl), by repeat (first | (with_reducible first | exact HB.out | apply below_alloc | apply pw_below_drewN | apply below_drew1 | refine below_set ?_ GE118.out) | exact HB.out)⟩

end Go.Proofs.YtjjnokodkeekhaaDoor.P

namespace Go.Proofs.YtjjnokodkeekhaaDoor.X
open Go.RowKit Go.Proofs.YtjjnokodkeekhaaDoorW.PrintWords Go.Proofs.YtjjnokodkeekhaaDoorW.PrintLast Go.Proofs.YtjjnokodkeekhaaDoorW.PrintMore
open Go.Proofs.YtjjnokodkeekhaaDoor.P Go.Proofs.YtjjnokodkeekhaaDoor.Evx
set_option linter.unusedSimpArgs false
set_option linter.unusedVariables false
def kidsS (op : Int) : Int := if op = 1 ∨ op = 2 then 0 else if op = 3 ∨ op = 6 then 1 else if op = 4 ∨ op = 5 ∨ op = 7 ∨ op = 8 then 2 else -1
theorem kids_ev (op : Int) : Ev (fun k => formula_kids.f k op) (kidsS op) := by
  have h1 : ∀ b : Bool, b = decide (op = 3 ∨ op = 6) → ¬ (op = 1 ∨ op = 2) → Ev (fun k => formula_kids.j1 k op b) (kidsS op) := by
    intro b hb h0
    refine ev_step (fun k => rfl) (ev_bool (fun h => ?_) (fun h => ?_))
    · rw [h] at hb
      have := of_decide_eq_true hb.symm
      exact ev_eq (ev_some _) (by unfold kidsS; rw [if_neg h0, if_pos this])
    · rw [h] at hb
      have := of_decide_eq_false hb.symm
      have e : kidsS op = if op = 4 ∨ op = 5 ∨ op = 7 ∨ op = 8 then 2 else -1 := by unfold kidsS; rw [if_neg h0, if_neg this]
      rw [e]
      refine ev_ite (fun c => ev_eq (ev_some _) ?_) (fun c4 => ev_ite (fun c => ev_eq (ev_some _) ?_) (fun c5 => ev_ite (fun c => ev_eq (ev_some _) ?_) (fun c7 => ev_ite (fun c => ev_eq (ev_some _) ?_) (fun c8 => ev_eq (ev_some _) ?_))))
      · rw [if_pos (by omega)]
      · rw [if_pos (by omega)]
      · rw [if_pos (by omega)]
      · rw [if_pos (by omega)]
      · rw [if_neg (by omega)]
  have h0 : ∀ b : Bool, b = decide (op = 1 ∨ op = 2) → Ev (fun k => formula_kids.j0 k op b) (kidsS op) := by
    intro b hb
    refine ev_step (fun k => rfl) (ev_bool (fun h => ?_) (fun h => ?_))
    · rw [h] at hb
      have := of_decide_eq_true hb.symm
      exact ev_eq (ev_some _) (by unfold kidsS; rw [if_pos this])
    · rw [h] at hb
      have h2 := of_decide_eq_false hb.symm
      refine ev_ite (fun c => h1 _ ?_ h2) (fun c => h1 _ ?_ h2)
      · simp [c]
      · simp [c, show (op == 6) = decide (op = 6) from rfl]
  unfold formula_kids.f
  refine ev_ite (fun c => h0 _ ?_) (fun c => h0 _ ?_)
  · simp [c]
  · simp [c, show (op == 2) = decide (op = 2) from rfl]
def mostS (op : Int) : Int := if op = 2 then 19 else 0
mutual
def soundS : S24 → Bool
  | ⟨op, n, kids⟩ => decide (0 ≤ kidsS op) && (decide ((kids.length : Int) = kidsS op) && (decide (0 ≤ n) && (decide (n ≤ mostS op) && soundL kids)))
def soundL : List S24 → Bool
  | [] => true
  | k :: r => soundS k && soundL r
end
def idxS : List S24 → Int → Int
  | [], _ => -1
  | k :: r, i => if soundS k = true then idxS r (i + 1) else i
theorem idx_sound : ∀ (l : List S24) (i : Int), 0 ≤ i → (0 ≤ idxS l i ↔ soundL l = false)
  | [], i, h => by simp [idxS, soundL]
  | k :: r, i, h => by
    simp only [idxS, soundL]
    by_cases c : soundS k = true
    · rw [if_pos c, idx_sound r (i + 1) (by omega), c]; simp
    · rw [if_neg c]
      have : soundS k = false := by simpa using c
      rw [this]; simp [h]
def SoundAt (s : S24) : Prop := ∀ (A : Option Addr) (cp : Nat) (w : World), Kd.C k24 w A s.f2.length s.f2 → s.f2.length ≤ cp →
    Calls Tryd.prog 34 #[.agg #[.int .i64 s.f0, .int .i64 s.f1, .slice A s.f2.length cp]] w fun e w' => e = .returned (.bool (soundS s)) ∧ Below w.heap.size w w'
set_option maxHeartbeats 800000 in
theorem sound1 (s : S24) (hs : SoundAt s) (b : Bool) (hb : soundS s = b) (A : Option Addr) (cp : Nat) (w : World) (hr : Kd.C k24 w A s.f2.length s.f2) (hc : s.f2.length ≤ cp) :
    Calls Tryd.prog 51 #[.agg #[.int .i64 s.f0, .int .i64 s.f1, .slice A s.f2.length cp]] w fun e w' => e = .returned (.bool (!b)) ∧ Below w.heap.size w w' := by
  have hu := Tryd.underlying24
  have HS := Aside0.mk hs
  have HR := Aside0.mk hr
  have HC := Aside0.mk hc
  have HBB := Aside0.mk hb
  clear hs hr hc hb
  go_enter Tryd.func51, Tryd.ntmps51
  go_wp2_with (go_at_call 34; refine (HS.out _ _ _ (Kd.C_alloc HR.out _) HC.out).mono ?_; rintro e w1 ⟨rfl, hB⟩; have HB := Aside0.mk hB; clear hB)
  go_ret
  exact ⟨by rw [HBB.out]; cases b <;> rfl, (below_alloc (Below.refl _ _) _).trans (HB.out.mono (by simp))⟩
set_option maxHeartbeats 1600000 in
theorem soundIdx (l : List S24) (hs : ∀ k ∈ l, SoundAt k) (A : Option Addr) (cp : Nat) (w : World) (hr : Kd.C k24 w A l.length l) (hc : l.length ≤ cp) :
    Calls Tryd.prog 71 #[.slice A l.length cp, .func (.func 51) #[] #[]] w fun e w' => e = .returned (.int .i64 (idxS l 0)) ∧ Below w.heap.size w w' := by
  have hu := Tryd.underlying24
  have hlen := Kd.C_max hr
  have HS := Aside0.mk hs
  have HR := Aside0.mk hr
  have HC := Aside0.mk hc
  clear hs hr hc
  go_enter Tryd.func71, Tryd.ntmps71
  go_wp2
  go_loopg [8] l.length (fun kq v8 w' => ∃ j : Nat, j + kq = l.length ∧ v8 = .int .i64 j ∧ Aside0 (idxS l 0 = idxS (l.drop j) j) ∧ Aside0 (Below w.heap.size w w'))
  case atStart => exact ⟨0, by simp, rfl, ⟨by simp⟩, ⟨Below.refl _ _⟩⟩
  case round =>
    obtain ⟨j, hj, rfl, HA, HB⟩ := hrel
    have HJ := Aside0.mk hj
    clear hj
    by_cases hlt : j < l.length
    · obtain ⟨ad, A2, cp2, e0, hx0, hx1, hx2, hl2, hk2⟩ := kid_at HR.out HB.out j hlt hlt
      cases e0
      have HK2 := Aside0.mk (Kd.C_below hk2 HB.out)
      have HL2 := Aside0.mk hl2
      clear hk2 hl2
      have hstep : idxS (l.drop j) j = if soundS l[j] = true then idxS (l.drop (j + 1)) (j + 1) else j := by
        rw [List.drop_eq_getElem_cons hlt]
        rfl
      have HSS := Aside0.mk hstep
      clear hstep
      have hk := HS.out l[j] (List.getElem_mem hlt)
      have HKK := Aside0.mk hk
      clear hk
      by_cases hp : soundS l[j] = true
      · have HP := Aside0.mk hp
        clear hp
        go_wp2_with (go_at_call 51; refine (sound1 l[j] HKK.out true HP.out A2 cp2 _ HK2.out HL2.out).mono ?_; rintro e w1 ⟨rfl, hB⟩; have HB1 := Aside0.mk hB; clear hB)
        go_roundg (gk - 1)
        case measure => have := HJ.out; omega
        case rel => exact ⟨j + 1, by have := HJ.out; omega, by go_num, ⟨by rw [HA.out, HSS.out, if_pos HP.out]; simp⟩, ⟨HB.out.trans (HB1.out.mono HB.out.size)⟩⟩
      · have hp' : soundS l[j] = false := by simpa using hp
        have HP := Aside0.mk hp'
        clear hp hp'
        go_wp2_with (go_at_call 51; refine (sound1 l[j] HKK.out false HP.out A2 cp2 _ HK2.out HL2.out).mono ?_; rintro e w1 ⟨rfl, hB⟩; have HB1 := Aside0.mk hB; clear hB)
        go_ret
        refine ⟨show Ending.returned (.int .i64 (j : Int)) = _ from ?_, HB.out.trans (HB1.out.mono HB.out.size)⟩
        rw [HA.out, HSS.out, if_neg (by rw [HP.out]; simp)]
    · go_wp2
      go_ret
      refine ⟨?_, HB.out⟩
      rw [HA.out, List.drop_eq_nil_of_le (by omega)]
      rfl
set_option maxHeartbeats 800000 in
theorem soundAny (l : List S24) (hs : ∀ k ∈ l, SoundAt k) (b : Bool) (hb : soundL l = b) (A : Option Addr) (cp : Nat) (w : World) (hr : Kd.C k24 w A l.length l) (hc : l.length ≤ cp) :
    Calls Tryd.prog 50 #[.slice A l.length cp, .func (.func 51) #[] #[]] w fun e w' => e = .returned (.bool (!b)) ∧ Below w.heap.size w w' := by
  have hi := idx_sound l 0 (by omega)
  have HI := Aside0.mk hi
  clear hi
  have HBB := Aside0.mk hb
  have hcall := soundIdx l hs A cp w hr hc
  have HCL := Aside0.mk hcall
  clear hs hr hc hb hcall
  generalize idxS l 0 = x at HI HCL
  go_enter Tryd.func50, Tryd.ntmps50
  go_wp2_with (go_at_call 71; refine HCL.out.mono ?_; rintro e w1 ⟨rfl, hB⟩; have HB := Aside0.mk hB; clear hB)
  go_ret
  refine ⟨show Ending.returned (.bool (decide (0 ≤ x))) = _ from ?_, HB.out⟩
  rw [← HBB.out]
  congr 2
  have := HI.out
  cases h : soundL l with
  | true => rw [h] at this; simp at this; simp; omega
  | false => rw [h] at this; simp at this; simp; omega
theorem kids_range (op : Int) : -1 ≤ kidsS op ∧ kidsS op ≤ 2 := by unfold kidsS; split; omega; split; omega; split <;> omega
set_option maxHeartbeats 4000000 in
set_option maxRecDepth 100000 in
theorem sound_calls (s : S24) (hs : ∀ k ∈ s.f2, SoundAt k) : SoundAt s := by
  intro A cp w hr hc
  have hu := Tryd.underlying24
  obtain ⟨kk, hkk⟩ := (kids_ev s.f0).rounds
  have hkr := kids_range s.f0
  have hdef : soundS s = (decide (0 ≤ kidsS s.f0) && (decide ((s.f2.length : Int) = kidsS s.f0) && (decide (0 ≤ s.f1) && (decide (s.f1 ≤ mostS s.f0) && soundL s.f2)))) := by cases s; rfl
  have HD := Aside0.mk hdef
  have HKS := Aside0.mk hkk
  have hany := fun b hb W (hB : Below w.heap.size w W) => soundAny s.f2 hs b hb A cp W (Kd.C_below hr hB) hc
  have HANY := Aside0.mk hany
  have hlen := Kd.C_max hr
  clear hs hr hc hdef hkk hany
  generalize kidsS s.f0 = K at *
  have HX0 : ∀ b : Bool, b = false → b = false := fun _ h => h
  clear HX0
  by_cases c1 : 0 ≤ K
  · by_cases c2 : (s.f2.length : Int) = K
    · have d2 : ((s.f2.length : Int) == K) = true := beq_iff_eq.mpr c2
      have D2 := Aside0.mk (show decide ((s.f2.length : Int) = K) = true from decide_eq_true c2)
      clear c2
      by_cases c3 : 0 ≤ s.f1
      · by_cases h2 : s.f0 = 2
        · have e2 : (s.f0 == 2) = true := beq_iff_eq.mpr h2
          have HM := Aside0.mk (show mostS s.f0 = 19 from by unfold mostS; rw [if_pos h2])
          clear h2
          by_cases c4 : s.f1 ≤ 19
          · obtain ⟨b, hb⟩ : ∃ b, soundL s.f2 = b := ⟨_, rfl⟩
            rw [hb] at HD
            have HBB := Aside0.mk hb
            clear hb
            have HX := Aside0.mk (show soundS s = b from by rw [HD.out, HM.out, D2.out, decide_eq_true c1, decide_eq_true c3, decide_eq_true c4]; simp)
            clear HD HM D2
            go_enter Tryd.func34, Tryd.ntmps34
            go_wp2_with (first | (go_at_call 49; refine (formula_kids.calls kk s.f0 K _ HKS.out).mono ?_; rintro e w1 ⟨rfl, hd0⟩; obtain ⟨m, rfl⟩ := hd0.out) | (go_at_call 50; refine (HANY.out b HBB.out _ (pw_below_drewN (below_alloc (Below.refl _ _) _) _)).mono ?_; rintro e w1 ⟨rfl, hB⟩; have HB := Aside0.mk hB; clear hB))
            go_ret
            exact ⟨show Ending.returned (.bool b) = _ from by rw [HX.out], (pw_below_drewN (below_alloc (Below.refl _ _) _) _).trans (HB.out.mono (by simp))⟩
          · have HX := Aside0.mk (show soundS s = false from by rw [HD.out, HM.out, decide_eq_false c4]; simp)
            clear HD HM D2
            go_enter Tryd.func34, Tryd.ntmps34
            go_wp2_with (go_at_call 49; refine (formula_kids.calls kk s.f0 K _ HKS.out).mono ?_; rintro e w1 ⟨rfl, hd0⟩; obtain ⟨m, rfl⟩ := hd0.out)
            go_ret
            exact ⟨show Ending.returned (.bool false) = _ from by rw [HX.out], pw_below_drewN (below_alloc (Below.refl _ _) _) _⟩
        · have e2 : (s.f0 == 2) = false := beq_eq_false_iff_ne.mpr h2
          have HM := Aside0.mk (show mostS s.f0 = 0 from by unfold mostS; rw [if_neg h2])
          clear h2
          by_cases c4 : s.f1 ≤ 0
          · obtain ⟨b, hb⟩ : ∃ b, soundL s.f2 = b := ⟨_, rfl⟩
            rw [hb] at HD
            have HBB := Aside0.mk hb
            clear hb
            have HX := Aside0.mk (show soundS s = b from by rw [HD.out, HM.out, D2.out, decide_eq_true c1, decide_eq_true c3, decide_eq_true c4]; simp)
            clear HD HM D2
            go_enter Tryd.func34, Tryd.ntmps34
            go_wp2_with (first | (go_at_call 49; refine (formula_kids.calls kk s.f0 K _ HKS.out).mono ?_; rintro e w1 ⟨rfl, hd0⟩; obtain ⟨m, rfl⟩ := hd0.out) | (go_at_call 50; refine (HANY.out b HBB.out _ (pw_below_drewN (below_alloc (Below.refl _ _) _) _)).mono ?_; rintro e w1 ⟨rfl, hB⟩; have HB := Aside0.mk hB; clear hB))
            go_ret
            exact ⟨show Ending.returned (.bool b) = _ from by rw [HX.out], (pw_below_drewN (below_alloc (Below.refl _ _) _) _).trans (HB.out.mono (by simp))⟩
          · have HX := Aside0.mk (show soundS s = false from by rw [HD.out, HM.out, decide_eq_false c4]; simp)
            clear HD HM D2
            go_enter Tryd.func34, Tryd.ntmps34
            go_wp2_with (go_at_call 49; refine (formula_kids.calls kk s.f0 K _ HKS.out).mono ?_; rintro e w1 ⟨rfl, hd0⟩; obtain ⟨m, rfl⟩ := hd0.out)
            go_ret
            exact ⟨show Ending.returned (.bool false) = _ from by rw [HX.out], pw_below_drewN (below_alloc (Below.refl _ _) _) _⟩
      · by_cases h2 : s.f0 = 2
        · have e2 : (s.f0 == 2) = true := beq_iff_eq.mpr h2
          have HM := Aside0.mk (show mostS s.f0 = 19 from by unfold mostS; rw [if_pos h2])
          clear h2
          have HX := Aside0.mk (show soundS s = false from by rw [HD.out, decide_eq_false c3]; simp)
          clear HD HM
          go_enter Tryd.func34, Tryd.ntmps34
          go_wp2_with (go_at_call 49; refine (formula_kids.calls kk s.f0 K _ HKS.out).mono ?_; rintro e w1 ⟨rfl, hd0⟩; obtain ⟨m, rfl⟩ := hd0.out)
          go_ret
          exact ⟨show Ending.returned (.bool false) = _ from by rw [HX.out], pw_below_drewN (below_alloc (Below.refl _ _) _) _⟩
        · have e2 : (s.f0 == 2) = false := beq_eq_false_iff_ne.mpr h2
          have HM := Aside0.mk (show mostS s.f0 = 0 from by unfold mostS; rw [if_neg h2])
          clear h2
          have HX := Aside0.mk (show soundS s = false from by rw [HD.out, decide_eq_false c3]; simp)
          clear HD HM
          go_enter Tryd.func34, Tryd.ntmps34
          go_wp2_with (go_at_call 49; refine (formula_kids.calls kk s.f0 K _ HKS.out).mono ?_; rintro e w1 ⟨rfl, hd0⟩; obtain ⟨m, rfl⟩ := hd0.out)
          go_ret
          exact ⟨show Ending.returned (.bool false) = _ from by rw [HX.out], pw_below_drewN (below_alloc (Below.refl _ _) _) _⟩
    · have d2 : ((s.f2.length : Int) == K) = false := beq_eq_false_iff_ne.mpr c2
      by_cases h2 : s.f0 = 2
      · have e2 : (s.f0 == 2) = true := beq_iff_eq.mpr h2
        have HM := Aside0.mk (show mostS s.f0 = 19 from by unfold mostS; rw [if_pos h2])
        clear h2
        have HX := Aside0.mk (show soundS s = false from by rw [HD.out, decide_eq_false c2]; simp)
        clear HD HM
        go_enter Tryd.func34, Tryd.ntmps34
        go_wp2_with (go_at_call 49; refine (formula_kids.calls kk s.f0 K _ HKS.out).mono ?_; rintro e w1 ⟨rfl, hd0⟩; obtain ⟨m, rfl⟩ := hd0.out)
        go_ret
        exact ⟨show Ending.returned (.bool false) = _ from by rw [HX.out], pw_below_drewN (below_alloc (Below.refl _ _) _) _⟩
      · have e2 : (s.f0 == 2) = false := beq_eq_false_iff_ne.mpr h2
        have HM := Aside0.mk (show mostS s.f0 = 0 from by unfold mostS; rw [if_neg h2])
        clear h2
        have HX := Aside0.mk (show soundS s = false from by rw [HD.out, decide_eq_false c2]; simp)
        clear HD HM
        go_enter Tryd.func34, Tryd.ntmps34
        go_wp2_with (go_at_call 49; refine (formula_kids.calls kk s.f0 K _ HKS.out).mono ?_; rintro e w1 ⟨rfl, hd0⟩; obtain ⟨m, rfl⟩ := hd0.out)
        go_ret
        exact ⟨show Ending.returned (.bool false) = _ from by rw [HX.out], pw_below_drewN (below_alloc (Below.refl _ _) _) _⟩
  · by_cases h2 : s.f0 = 2
    · have e2 : (s.f0 == 2) = true := beq_iff_eq.mpr h2
      have HM := Aside0.mk (show mostS s.f0 = 19 from by unfold mostS; rw [if_pos h2])
      clear h2
      have HX := Aside0.mk (show soundS s = false from by rw [HD.out, decide_eq_false c1]; simp)
      clear HD HM
      go_enter Tryd.func34, Tryd.ntmps34
      go_wp2_with (go_at_call 49; refine (formula_kids.calls kk s.f0 K _ HKS.out).mono ?_; rintro e w1 ⟨rfl, hd0⟩; obtain ⟨m, rfl⟩ := hd0.out)
      go_ret
      exact ⟨show Ending.returned (.bool false) = _ from by rw [HX.out], pw_below_drewN (below_alloc (Below.refl _ _) _) _⟩
    · have e2 : (s.f0 == 2) = false := beq_eq_false_iff_ne.mpr h2
      have HM := Aside0.mk (show mostS s.f0 = 0 from by unfold mostS; rw [if_neg h2])
      clear h2
      have HX := Aside0.mk (show soundS s = false from by rw [HD.out, decide_eq_false c1]; simp)
      clear HD HM
      go_enter Tryd.func34, Tryd.ntmps34
      go_wp2_with (go_at_call 49; refine (formula_kids.calls kk s.f0 K _ HKS.out).mono ?_; rintro e w1 ⟨rfl, hd0⟩; obtain ⟨m, rfl⟩ := hd0.out)
      go_ret
      exact ⟨show Ending.returned (.bool false) = _ from by rw [HX.out], pw_below_drewN (below_alloc (Below.refl _ _) _) _⟩
mutual
theorem sound_all : ∀ s : S24, SoundAt s
  | ⟨op, m, kids⟩ => sound_calls ⟨op, m, kids⟩ (sound_kids kids)
theorem sound_kids : ∀ (l : List S24) (k : S24), k ∈ l → SoundAt k
  | [], k, hk => by simp at hk
  | a :: r, k, hk => by
    rcases List.mem_cons.1 hk with h | h
    · rw [h]
      exact sound_all a
    · exact sound_kids r k h
end
/-- May. -/
def mayF (s : S24) : Int := if lightS s = true ∧ (cntS s).t ≤ 8 then (if soundS s = true then 0 else 1) else 7
end Go.Proofs.YtjjnokodkeekhaaDoor.X

namespace Go.Proofs.YtjjnokodkeekhaaDoor.X
open Go.RowKit Go.Proofs.YtjjnokodkeekhaaDoorW.PrintWords Go.Proofs.YtjjnokodkeekhaaDoorW.PrintLast Go.Proofs.YtjjnokodkeekhaaDoorW.PrintMore
open Go.Proofs.YtjjnokodkeekhaaDoor.P Go.Proofs.YtjjnokodkeekhaaDoor.Evx
set_option linter.unusedSimpArgs false
set_option linter.unusedVariables false
theorem box_in {w w1 : World} {o : Obj} (hB : Below (w.alloc o).heap.size (w.alloc o) w1) : w1.heap[w.heap.size]? = some o := (hB.block _ (by simp)).trans (heap_alloc_new w o)
set_option maxHeartbeats 1600000 in
set_option maxRecDepth 100000 in
theorem May_calls (s : S24) (A : Option Addr) (cp : Nat) (w : World) (hr : Kd.C k24 w A s.f2.length s.f2) (hc : s.f2.length ≤ cp) :
    Calls Tryd.prog 13 #[.agg #[.int .i64 s.f0, .int .i64 s.f1, .slice A s.f2.length cp]] w fun e w' => e = .returned (.int .i64 (mayF s)) ∧ Below w.heap.size w w' := by
  have hu := Tryd.underlying24
  have huc := Tryd.underlying52
  have hlight := formula_light.all s A cp (w.alloc (.cells #[.int .i64 s.f0, .int .i64 s.f1, .slice A s.f2.length cp] 24)) (Kd.C_alloc hr _) hc
  have HL := Aside0.mk hlight
  have hcnt := fun W (hB : Below w.heap.size w W) => counted_calls s A cp W (Kd.C_below hr hB) hc
  have HCN := Aside0.mk hcnt
  have hsnd := fun W (hB : Below w.heap.size w W) => sound_all s A cp W (Kd.C_below hr hB) hc
  have HSN := Aside0.mk hsnd
  have HM := Aside0.mk (show mayF s = if lightS s = true ∧ (cntS s).t ≤ 8 then (if soundS s = true then 0 else 1) else 7 from rfl)
  clear hlight hcnt hsnd hr hc
  generalize mayF s = r at *
  generalize cntS s = c at *
  cases h1 : lightS s with
  | false =>
    rw [h1] at HL HM
    clear h1
    go_enter Tryd.func13, Tryd.ntmps13
    go_wp2_with (go_at_call 32; refine HL.out.mono ?_; rintro e w1 ⟨rfl, hB⟩; have HB := Aside0.mk hB; clear hB)
    go_ret
    exact ⟨show Ending.returned (.int .i64 7) = _ from by rw [HM.out]; rfl, (below_alloc (Below.refl _ _) _).trans (HB.out.mono (by simp))⟩
  | true =>
    rw [h1] at HL HM
    clear h1
    by_cases h2 : c.t ≤ 8
    · cases h3 : soundS s with
      | false =>
        rw [h3] at HSN HM
        clear h3
        have HMM := Aside0.mk (show r = 1 from by rw [HM.out, if_pos ⟨rfl, h2⟩]; rfl)
        go_enter Tryd.func13, Tryd.ntmps13
        go_wp2_with (first | (go_at_call 32; refine HL.out.mono ?_; rintro e w1 ⟨rfl, hB⟩; have HB := Aside0.mk hB; have HBK := Aside0.mk (box_in hB); have x0 := (blk_cell HBK.out 0).trans rfl; have x1 := (blk_cell HBK.out 1).trans rfl; have x2 := (blk_cell HBK.out 2).trans rfl; clear hB) | (go_at_call 33; refine (HCN.out _ ((below_alloc (Below.refl _ _) _).trans (HB.out.mono (by simp)))).mono ?_; rintro e w2 ⟨g, rfl, hI, hB2, hg⟩; have ct : w2.cell? ⟨g, 1, none⟩ = some (.int .i64 c.t) := (blk_cell hI 1).trans rfl; have y0 := (hB2.cell (World.block_lt_of_cell? _ _ x0)).trans x0; have y1 := (hB2.cell (World.block_lt_of_cell? _ _ x1)).trans x1; have y2 := (hB2.cell (World.block_lt_of_cell? _ _ x2)).trans x2; have HB2 := Aside0.mk (((below_alloc (Below.refl _ _) _).trans (HB.out.mono (by simp))).trans (hB2.mono (by have := HB.out.size; simp at this; omega)) : Below w.heap.size w w2); clear hB2 hI hg) | (go_at_call 34; refine (HSN.out _ HB2.out).mono ?_; rintro e w3 ⟨rfl, hB3⟩; have HB3 := Aside0.mk (HB2.out.trans (hB3.mono HB2.out.size)); clear hB3))
        go_ret
        exact ⟨show Ending.returned (.int .i64 1) = _ from by rw [HMM.out], HB3.out⟩
      | true =>
        rw [h3] at HSN HM
        clear h3
        have HMM := Aside0.mk (show r = 0 from by rw [HM.out, if_pos ⟨rfl, h2⟩]; rfl)
        go_enter Tryd.func13, Tryd.ntmps13
        go_wp2_with (first | (go_at_call 32; refine HL.out.mono ?_; rintro e w1 ⟨rfl, hB⟩; have HB := Aside0.mk hB; have HBK := Aside0.mk (box_in hB); have x0 := (blk_cell HBK.out 0).trans rfl; have x1 := (blk_cell HBK.out 1).trans rfl; have x2 := (blk_cell HBK.out 2).trans rfl; clear hB) | (go_at_call 33; refine (HCN.out _ ((below_alloc (Below.refl _ _) _).trans (HB.out.mono (by simp)))).mono ?_; rintro e w2 ⟨g, rfl, hI, hB2, hg⟩; have ct : w2.cell? ⟨g, 1, none⟩ = some (.int .i64 c.t) := (blk_cell hI 1).trans rfl; have y0 := (hB2.cell (World.block_lt_of_cell? _ _ x0)).trans x0; have y1 := (hB2.cell (World.block_lt_of_cell? _ _ x1)).trans x1; have y2 := (hB2.cell (World.block_lt_of_cell? _ _ x2)).trans x2; have HB2 := Aside0.mk (((below_alloc (Below.refl _ _) _).trans (HB.out.mono (by simp))).trans (hB2.mono (by have := HB.out.size; simp at this; omega)) : Below w.heap.size w w2); clear hB2 hI hg) | (go_at_call 34; refine (HSN.out _ HB2.out).mono ?_; rintro e w3 ⟨rfl, hB3⟩; have HB3 := Aside0.mk (HB2.out.trans (hB3.mono HB2.out.size)); clear hB3))
        go_ret
        exact ⟨show Ending.returned (.int .i64 0) = _ from by rw [HMM.out], HB3.out⟩
    · have HMM := Aside0.mk (show r = 7 from by rw [HM.out, if_neg (fun h => h2 h.2)])
      go_enter Tryd.func13, Tryd.ntmps13
      go_wp2_with (first | (go_at_call 32; refine HL.out.mono ?_; rintro e w1 ⟨rfl, hB⟩; have HB := Aside0.mk hB; have HBK := Aside0.mk (box_in hB); have x0 := (blk_cell HBK.out 0).trans rfl; have x1 := (blk_cell HBK.out 1).trans rfl; have x2 := (blk_cell HBK.out 2).trans rfl; clear hB) | (go_at_call 33; refine (HCN.out _ ((below_alloc (Below.refl _ _) _).trans (HB.out.mono (by simp)))).mono ?_; rintro e w2 ⟨g, rfl, hI, hB2, hg⟩; have ct : w2.cell? ⟨g, 1, none⟩ = some (.int .i64 c.t) := (blk_cell hI 1).trans rfl; have y0 := (hB2.cell (World.block_lt_of_cell? _ _ x0)).trans x0; have y1 := (hB2.cell (World.block_lt_of_cell? _ _ x1)).trans x1; have y2 := (hB2.cell (World.block_lt_of_cell? _ _ x2)).trans x2; have HB2 := Aside0.mk (((below_alloc (Below.refl _ _) _).trans (HB.out.mono (by simp))).trans (hB2.mono (by have := HB.out.size; simp at this; omega)) : Below w.heap.size w w2); clear hB2 hI hg))
      go_ret
      exact ⟨show Ending.returned (.int .i64 7) = _ from by rw [HMM.out], HB2.out⟩
def formula_May.f (a0_0 : Int) (a0_1 : Int) (l0_2 : List S24) : Option Int := some (mayF ⟨a0_0, a0_1, l0_2⟩)
theorem formula_May.calls (a0_0 : Int) (a0_1 : Int) (A0_2 : Option Addr) (c0_2 : Nat) (l0_2 : List S24) (r : Int) (w : World) (hr0_2 : Kd.C k24 w A0_2 l0_2.length l0_2) (hc0_2 : l0_2.length ≤ c0_2) (h : formula_May.f a0_0 a0_1 l0_2 = some r) :
    Calls Tryd.prog 13 #[.agg #[.int .i64 a0_0, .int .i64 a0_1, .slice A0_2 l0_2.length c0_2]] w fun e w' => e = .returned (.int .i64 r) ∧ Below w.heap.size w w' := by
  obtain rfl := Option.some.inj h
  exact May_calls ⟨a0_0, a0_1, l0_2⟩ A0_2 c0_2 w hr0_2 hc0_2
end Go.Proofs.YtjjnokodkeekhaaDoor.X

namespace Go.Proofs.YtjjnokodkeekhaaDoor.P
open Go.RowKit Go.Proofs.YtjjnokodkeekhaaDoorW.PrintWords Go.Proofs.YtjjnokodkeekhaaDoorW.PrintLast Go.Proofs.YtjjnokodkeekhaaDoorW.PrintMore
attribute [local go_sem] max2_int min2_int max_two min_two max_three min_three max_four min_four   -- for this text's walks alone
set_option linter.unusedVariables false
set_option linter.unusedSimpArgs false

/-- A state of type 58 at block g of W; what its slices lead to came in by w0. -/
def IsS58 (w0 W : World) (g : Nat) (f0 : List Int) (f1 : Int) : Prop := ∃ A0 c0, W.heap[g]? = some (.cells #[.slice A0 f0.length c0, .int .i64 f1] 58 (0, 0)) ∧ w0.heap.size ≤ g ∧ Kd.C (Kd.int .u32) w0 A0 f0.length f0
theorem IsS58.grown {w0 W : World} {g : Nat} {f0 : List Int} {f1 : Int} {W1 : World} {row : Option Nat} (h : IsS58 w0 W g f0 f1) (hw : W.grownBy W1 row) (hne : some g ≠ row) : IsS58 w0 W1 g f0 f1 := by
  obtain ⟨A0, c0, hb, hg, hr0⟩ := h
  exact ⟨A0, c0, blk_grown hb hw hne, hg, hr0⟩
theorem IsS58.kept {w0 W : World} {g : Nat} {f0 : List Int} {f1 : Int} {W1 : World} {S : Nat → Prop} (h : IsS58 w0 W g f0 f1) (hk : Kept W W1 S) (hne : ¬ S g) : IsS58 w0 W1 g f0 f1 := by
  obtain ⟨A0, c0, hb, hg, hr0⟩ := h
  exact ⟨A0, c0, blk_kept hb hk hne, hg, hr0⟩
theorem IsS58.below {w0 W : World} {g : Nat} {f0 : List Int} {f1 : Int} {W1 : World} (h : IsS58 w0 W g f0 f1) (hw : Below W.heap.size W W1) : IsS58 w0 W1 g f0 f1 := h.grown (grown_of_below hw none) (by simp)
theorem IsS58.alloc {w0 W : World} {g : Nat} {f0 : List Int} {f1 : Int} (h : IsS58 w0 W g f0 f1) (o : Obj) : IsS58 w0 (W.alloc o) g f0 f1 := h.below (below_alloc (Below.refl _ _) o)
theorem IsS58.drewN {w0 W : World} {g : Nat} {f0 : List Int} {f1 : Int} (h : IsS58 w0 W g f0 f1) (m : Nat) : IsS58 w0 (W.drewN m) g f0 f1 := h
theorem IsS58.drew {w0 W : World} {g : Nat} {f0 : List Int} {f1 : Int} (h : IsS58 w0 W g f0 f1) : IsS58 w0 W.drew g f0 f1 := h
theorem IsS58.at_ {w0 W : World} {g : Nat} {f0 : List Int} {f1 : Int} {w' : World} {m : Nat} (hq : W.drewN m = w') (h : IsS58 w0 W g f0 f1) : IsS58 w0 w' g f0 f1 := by subst hq; exact IsS58.drewN h m
theorem IsS58.apart {w0 W : World} {g : Nat} {f0 : List Int} {f1 : Int} {α : Type} {d : Kd α} {e : Nat} {base : Nat} {ok : Nat → Prop} {v : Value} {xs : List α} (h : IsS58 w0 W g f0 f1) (ho : d.R e W base ok v xs) (ht : ∀ q, q ∈ e :: d.E → q ≠ 58) : d.R e W base (fun k => ok k ∧ k ≠ g) v xs := by
  obtain ⟨A0, c0, hb, hg, hr0⟩ := h
  exact Kd.R_types ho hb ht
theorem IsS58.own_ne {w0 W : World} {g : Nat} {f0 : List Int} {f1 : Int} {α : Type} {d : Kd α} {e : Nat} {base : Nat} {ok : Nat → Prop} {v : Value} {xs : List α} (h : IsS58 w0 W g f0 f1) (ho : d.R e W base ok v xs) (ht : e ≠ 58) : some g ≠ v.ownBlock := by
  obtain ⟨A0, c0, hb, hg, hr0⟩ := h
  exact Kd.R_ne ho hb ht
theorem IsS58.new (w0 W : World) (A0 : Option Addr) (c0 : Nat) (f0 : List Int) (f1 : Int) (hB : Below w0.heap.size w0 W) (hr0 : Kd.C (Kd.int .u32) w0 A0 f0.length f0) : IsS58 w0 (W.alloc (.cells #[.slice A0 f0.length c0, .int .i64 f1] 58)) W.heap.size f0 f1 := ⟨A0, c0, by simpa using heap_alloc_new W _, hB.size, hr0⟩

def bits_Mul64.f (a0 : Int) (a1 : Int) : Option (Int × Int) := some (IntKind.u64.wrap ((IntKind.u64.wrap ((IntKind.u64.wrap ((a0 / 4294967296) * (a1 / 4294967296))) + ((IntKind.u64.wrap ((IntKind.u64.wrap ((a0 / 4294967296) * (Go.bits .and .u64 a1 4294967295))) + ((IntKind.u64.wrap ((Go.bits .and .u64 a0 4294967295) * (Go.bits .and .u64 a1 4294967295))) / 4294967296))) / 4294967296))) + ((IntKind.u64.wrap ((Go.bits .and .u64 (IntKind.u64.wrap ((IntKind.u64.wrap ((a0 / 4294967296) * (Go.bits .and .u64 a1 4294967295))) + ((IntKind.u64.wrap ((Go.bits .and .u64 a0 4294967295) * (Go.bits .and .u64 a1 4294967295))) / 4294967296))) 4294967295) + (IntKind.u64.wrap ((Go.bits .and .u64 a0 4294967295) * (a1 / 4294967296))))) / 4294967296)), IntKind.u64.wrap (a0 * a1))
set_option maxHeartbeats 8000000 in
set_option maxRecDepth 100000 in
theorem bits_Mul64.calls (a0 : Int) (a1 : Int) (r1 : Int) (r2 : Int) (w : World) (h : bits_Mul64.f a0 a1 = some (r1, r2)) :
    Calls Tryd.prog 78 #[.int .u64 a0, .int .u64 a1] w fun e w' => e = .returned (.tuple #[.int .u64 r1, .int .u64 r2]) ∧ Drawn0 w w' := by
  have H : (some (IntKind.u64.wrap ((IntKind.u64.wrap ((IntKind.u64.wrap ((a0 / 4294967296) * (a1 / 4294967296))) + ((IntKind.u64.wrap ((IntKind.u64.wrap ((a0 / 4294967296) * (Go.bits .and .u64 a1 4294967295))) + ((IntKind.u64.wrap ((Go.bits .and .u64 a0 4294967295) * (Go.bits .and .u64 a1 4294967295))) / 4294967296))) / 4294967296))) + ((IntKind.u64.wrap ((Go.bits .and .u64 (IntKind.u64.wrap ((IntKind.u64.wrap ((a0 / 4294967296) * (Go.bits .and .u64 a1 4294967295))) + ((IntKind.u64.wrap ((Go.bits .and .u64 a0 4294967295) * (Go.bits .and .u64 a1 4294967295))) / 4294967296))) 4294967295) + (IntKind.u64.wrap ((Go.bits .and .u64 a0 4294967295) * (a1 / 4294967296))))) / 4294967296)), IntKind.u64.wrap (a0 * a1))) = some (r1, r2) := h
  clear h
  simp only [Option.some.injEq, Prod.mk.injEq] at H
  obtain ⟨rfl, rfl⟩ := H
  go_enter Tryd.func78, Tryd.ntmps78
  go_wp2
  go_ret2
  exact ⟨by first | rfl | (simp; done) | (simp [*]; done), by repeat (first | exact Drawn0.refl _ | apply Drawn0.step)⟩

def bits_Mul.f (a0 : Int) (a1 : Int) : Option (Int × Int) := (bits_Mul64.f a0 a1).bind fun bt120 => (some (bt120.1, bt120.2))
set_option maxHeartbeats 8000000 in
set_option maxRecDepth 100000 in
theorem bits_Mul.calls (a0 : Int) (a1 : Int) (r1 : Int) (r2 : Int) (w : World) (h : bits_Mul.f a0 a1 = some (r1, r2)) :
    Calls Tryd.prog 75 #[.int .u64 a0, .int .u64 a1] w fun e w' => e = .returned (.tuple #[.int .u64 r1, .int .u64 r2]) ∧ Drawn0 w w' := by
  have H : ((bits_Mul64.f a0 a1).bind fun bt120 => (some (bt120.1, bt120.2))) = some (r1, r2) := h
  clear h
  replace H := Option.bind_eq_some_iff.mp H
  obtain ⟨⟨t120, t121⟩, A30, H⟩ := H
  replace H : (some (t120, t121)) = some (r1, r2) := H
  have A3 := Aside0.mk A30
  clear A30
  simp only [Option.some.injEq, Prod.mk.injEq] at H
  obtain ⟨rfl, rfl⟩ := H
  go_enter Tryd.func75, Tryd.ntmps75
  go_wp2_with (first | ((with_reducible refine gate_callee (f := 78) rfl ?_); refine goesL_ (some 25) rfl rfl Tryd.func78 (by kernel_rfl) rfl #[.int .u64 a0, .int .u64 a1] rfl (by (try simp only [List.map_toArray, List.map_cons, List.map_nil]); first | done | rfl | (simp only [List.length_drop, List.length_take]; rfl)) ?_; (with_reducible refine (bits_Mul64.calls a0 a1 t120 t121 _ A3.out).mono ?_); rintro e w' ⟨rfl, ⟨nd, rfl⟩⟩; refine ⟨_, rfl, ?_⟩))
  go_ret2
  exact ⟨by first | rfl | (simp; done) | (simp [*]; done), by repeat (first | exact Drawn0.refl _ | apply Drawn0.step)⟩

end Go.Proofs.YtjjnokodkeekhaaDoor.P

namespace Go.Proofs.YtjjnokodkeekhaaDoor.X
open Go.RowKit Go.Proofs.YtjjnokodkeekhaaDoorW.PrintWords Go.Proofs.YtjjnokodkeekhaaDoorW.PrintLast Go.Proofs.YtjjnokodkeekhaaDoorW.PrintMore
open Go.Proofs.YtjjnokodkeekhaaDoor.P Go.Proofs.YtjjnokodkeekhaaDoor.Evx
set_option linter.unusedSimpArgs false
set_option linter.unusedVariables false
theorem infoBool : (Tryd.prog.info? 4).map (fun i => (i.zero, i.size, i.bytes)) = some (some (.bool false), 1, 1) := by kernel_rfl
theorem u64w (x : Int) (h0 : 0 ≤ x) (h : x < 18446744073709551616) : IntKind.u64.wrap x = x := u64_id h0 h
theorem mul_one_n (n : Int) (h0 : 0 ≤ n) (h1 : n < 1000000000) : bits_Mul.f 1 n = some (0, n) := by
  unfold bits_Mul.f bits_Mul64.f
  simp only [Option.bind_some]
  have e1 : Go.bits .and .u64 1 4294967295 = 1 := (and_low32 1 (by omega) (by omega)).trans (by omega)
  have e2 : Go.bits .and .u64 n 4294967295 = n := (and_low32 n (by omega) (by omega)).trans (by omega)
  have e3 : (1 : Int) / 4294967296 = 0 := by omega
  have e4 : n / 4294967296 = 0 := by omega
  rw [e1, e2, e3, e4]
  have e5 : Go.bits .and .u64 0 4294967295 = 0 := (and_low32 0 (by omega) (by omega)).trans (by omega)
  simp only [Int.zero_mul, Int.one_mul, Int.mul_zero, Int.mul_one, u64w 0 (by omega) (by omega), u64w n (by omega) (by omega), Int.zero_add, e4, e5]
  simp [u64w 0 (by omega) (by omega), u64w n (by omega) (by omega)]
theorem splice_rep (n m c : Nat) (F f : Value) (h : m + c ≤ n) : splice (List.replicate m F ++ List.replicate (n - m) f) m (List.replicate c F) = List.replicate (m + c) F ++ List.replicate (n - (m + c)) f := by
  unfold splice
  rw [List.take_append_of_le_length (by simp), List.take_of_length_le (by simp), List.length_replicate, List.drop_append, List.drop_of_length_le (by simp), List.nil_append, List.length_replicate, List.drop_replicate, ← List.append_assoc, List.replicate_append_replicate]
  congr 2
  omega
theorem rep_get (n m : Nat) (F f : Value) (j : Nat) (h : j < m) : (List.replicate m F ++ List.replicate (n - m) f)[j]? = some F := by
  rw [List.getElem?_append_left (by simpa using h)]
  simp [h]
theorem cut_lo (g n m : Nat) (hm : m < n) (hn : n < 1000000000) (W : World) : (Instr.slice 35 (.slice (some ⟨g, 0, none⟩) n n) (some (.int .i64 (m : Int))) none none).run Tryd.prog W = .ok (.slice (some ⟨g, m, none⟩) (n - m) (n - m)) W := by
  obtain ⟨i, hi, hz, hs, hb⟩ := info_parts infoBool
  have h := cut_from (P := Tryd.prog) 35 4 .i64 Tryd.underlying35 hi 1 hs (some ⟨g, 0, none⟩) n n (m : Int) (by omega) (by omega) W
  rw [h]
  simp only [Int.toNat_natCast]
  rw [if_neg (by omega)]
  simp [Addr.add]
  omega
theorem cut_hi (g n m : Nat) (hm : m < n) (hn : n < 1000000000) (W : World) : (Instr.slice 35 (.slice (some ⟨g, 0, none⟩) n n) none (some (.int .i64 (m : Int))) none).run Tryd.prog W = .ok (.slice (some ⟨g, 0, none⟩) m n) W := by
  obtain ⟨i, hi, hz, hs, hb⟩ := info_parts infoBool
  have h := cut_to (P := Tryd.prog) 35 4 .i64 Tryd.underlying35 hi (some ⟨g, 0, none⟩) n n (m : Int) (by omega) (by omega) (by omega) W
  rw [h]
  simp only [Int.toNat_natCast]
theorem made_rep (n : Nat) : madeCells #[Value.bool false] n = (List.replicate n (Value.bool false)).toArray := by
  apply Array.ext
  · simp [madeCells]
  · intro i h1 h2
    simp [madeCells, Nat.mod_one]
/-- A row of one value, as one word. -/
def repRow (n : Nat) (b : Bool) : List Value := List.replicate n (Value.bool b)
theorem len_rep (n : Nat) (b : Bool) : (repRow n b).length = n := by simp [repRow]
theorem one_src {w : World} {gb : Nat} {v : Value} {t : TypeId} (h : w.heap[gb]? = some (.cells #[v] t (0, 0))) : ∀ j u, [v][j]? = some u → w.cell? ((⟨gb, 0, none⟩ : Addr).add j) = some u := by
  intro j u hu
  cases j with
  | zero => rw [← hu]; exact (blk_cell h 0).trans rfl
  | succ j => simp at hu
def fillRow (n m : Nat) (b : Bool) : List Value := List.replicate m (Value.bool b) ++ List.replicate (n - m) (Value.bool false)
theorem len_fill (n m : Nat) (b : Bool) (h : m ≤ n) : (fillRow n m b).length = n := by simp [fillRow]; omega
theorem fill_one (n : Nat) (b : Bool) (h : 0 < n) : splice (repRow n false) 0 [.bool b] = fillRow n 1 b := by
  have := splice_rep n 0 1 (.bool b) (.bool false) (by omega)
  simpa [repRow, fillRow] using this
theorem fill_src {w : World} {g n m c : Nat} {b : Bool} {t : TypeId} (h : w.heap[g]? = some (.cells (fillRow n m b).toArray t (0, 0))) : ∀ j u, (List.replicate (min m c) (Value.bool b))[j]? = some u → w.cell? ((⟨g, 0, none⟩ : Addr).add j) = some u := by
  intro j u hu
  obtain ⟨hj, hu'⟩ := List.getElem?_eq_some_iff.1 hu
  have hj' : j < m := by simp at hj; omega
  simp at hu'
  rw [← hu']
  have := rep_get n m (Value.bool b) (Value.bool false) j hj'
  have h2 := blk_cell h j
  rw [show (⟨g, 0, none⟩ : Addr).add j = ⟨g, j, none⟩ by simp [Addr.add] <;> omega]
  rw [h2]
  simpa [fillRow] using this
theorem i64w_small (q n : Nat) (h : q ≤ n) (hq : q < n) (h1 : n < 1000000000) : IntKind.i64.wrap ((q : Int) + ((min q (n - q) : Nat) : Int)) = ((q + min q (n - q) : Nat) : Int) := by
  rw [IntKind.wrap_i64]; omega
theorem make_rep (n : Nat) (h : n < 1000000000) (W : World) : (Instr.makeSlice 35 (.int .i64 (n : Int)) (.int .i64 (n : Int))).run Tryd.prog W = .ok (.slice (some ⟨W.heap.size, 0, none⟩) n n) (W.alloc (.cells ⟨repRow n false⟩ 4)) := by
  have := print_make_of (P := Tryd.prog) 35 4 (.bool false) 1 Tryd.underlying35 infoBool rfl (by decide) n (by omega) W
  rwa [made_rep] at this
set_option maxHeartbeats 4000000 in
set_option maxRecDepth 100000 in
theorem Repeat_calls (gb : Nat) (F : Bool) (n : Nat) (w : World) (hb : w.heap[gb]? = some (.cells #[.bool F] 4 (0, 0))) (h0 : 0 < n) (h1 : n < 1000000000) :
    Calls Tryd.prog 73 #[.slice (some ⟨gb, 0, none⟩) 1 1, .int .i64 n] w fun e w' => ∃ g, e = .returned (.slice (some ⟨g, 0, none⟩) n n) ∧ w.heap.size ≤ g ∧ w'.heap[g]? = some (.cells (repRow n F).toArray 4 (0, 0)) ∧ Below w.heap.size w w' := by
  have hus := Tryd.underlying35
  have hui := Tryd.underlying3
  have huu := Tryd.underlying69
  have hmk := make_rep n h1
  have HX := Aside0.mk (mul_one_n n (by omega) (by omega))
  have HGB := Aside0.mk (blk_lt hb)
  have HMB := Aside0.mk hb
  have h9 : ¬ (9223372036854775807 < (n : Int)) := by omega
  clear hb
  go_enter Tryd.func73, Tryd.ntmps73
  go_wp2_with (first | (go_at_call 75; refine (bits_Mul.calls 1 n 0 n _ HX.out).mono ?_; rintro e w1 ⟨rfl, hd0⟩; obtain ⟨m, rfl⟩ := hd0.out) | ((with_reducible refine gate_builtin (b := .copy) (xs := #[.tmp 31, .tmp 32]) rfl ?_); refine wpList_copy_splice rfl (.tmp 31) (.tmp 32) 35 35 rfl 4 hus (by kernel_rfl) (some ⟨w.heap.size, 0, none⟩) (some ⟨gb, 0, none⟩) n n 1 1 rfl rfl w.heap.size 0 (repRow n false) 4 (heap_alloc_new (w.drewN m) _) [.bool F] (show 1 = min 1 n by omega) (fun _ => ⟨rfl, _, rfl, one_src (blk_alloc (blk_drewN HMB.out m) _)⟩) (show 0 + 1 ≤ (repRow n false).length by rw [len_rep]; omega) (by intro v hv; rw [List.mem_singleton.1 hv]; rfl) w.heap.size w (below_alloc (pw_below_drewN (Below.refl _ _) m) _) (Nat.le_refl _) ?_; intro w2 hG hB; have HG := Aside0.mk hG.out; have HB := Aside0.mk hB; clear hG hB))
  have HG1 := Aside0.mk (show w2.heap[w.heap.size]? = some (.cells (fillRow n 1 F).toArray 4 (0, 0)) from by rw [HG.out]; congr 3; exact fill_one n F h0)
  go_loopg [8] (n - 1) (fun kq v8 w' => ∃ q : Nat, 1 ≤ q ∧ q ≤ n ∧ kq = n - q ∧ v8 = .int .i64 q ∧ Aside0 (w'.heap[w.heap.size]? = some (.cells (fillRow n q F).toArray 4 (0, 0))) ∧ Aside0 (Below w.heap.size w w'))
  case atStart => exact ⟨1, Nat.le_refl _, h0, rfl, rfl, HG1, HB⟩
  case round =>
    obtain ⟨q, hq1, hq2, hqk, rfl, HGV, HBV⟩ := hrel
    have HQ := Aside0.mk hqk
    clear hqk
    by_cases hlt : q < n
    · obtain ⟨WW, rfl⟩ : ∃ W : World, W = wr := ⟨_, rfl⟩
      have hl := cut_lo w.heap.size n q hlt h1
      have hh := cut_hi w.heap.size n q hlt h1
      have hmin : ((min q (n - q) : Nat) : Int) + (q : Int) ≤ n := by omega
      go_wp2
      go_region_law (refine step_copy_splice rfl (.tmp 41) (.tmp 44) 35 35 rfl 4 hus (by kernel_rfl) (some ⟨w.heap.size, q, none⟩) (some ⟨w.heap.size, 0, none⟩) (n - q) (n - q) q n (by simp [Act.eval, Act.put]) (by simp [Act.eval, Act.put]) w.heap.size q (fillRow n q F) 4 HGV.out (List.replicate (min q (n - q)) (Value.bool F)) (show _ = min q (n - q) by simp) (fun _ => ⟨rfl, _, rfl, fill_src HGV.out⟩) (by rw [len_fill _ _ _ hq2, List.length_replicate]; omega) (by intro v hv; rw [List.eq_of_mem_replicate hv]; rfl) w.heap.size w (below_drew1 HBV.out) (Nat.le_refl _) ?_; intro w4 hG hB; have HG4 := Aside0.mk hG.out; have HB4 := Aside0.mk hB; clear hG hB)
      all_goals (
        go_wp2
        go_roundg (n - (q + min q (n - q)))
        case measure => have := HQ.out; omega
        case rel => exact ⟨q + min q (n - q), by omega, by omega, rfl, by first | (go_num; done) | (congr 1; go_num; done) | (simp only [i64w_small q n hq2 hlt h1]; done) | (simp only [i64w_small q n hq2 hlt h1]; rfl), ⟨by rw [HG4.out]; exact congrArg some (congrArg (fun z : List Value => Obj.cells z.toArray 4 (0, 0)) (splice_rep n q _ _ _ (by omega)))⟩, HB4⟩)
    · have e : q = n := by omega
      subst e
      go_wp2
      go_ret
      exact ⟨_, rfl, Nat.le_refl _, by rw [HGV.out]; congr 3; simp [fillRow, repRow], HBV.out⟩
end Go.Proofs.YtjjnokodkeekhaaDoor.X

namespace Go.Proofs.YtjjnokodkeekhaaDoor.X
open Go.RowKit Go.Proofs.YtjjnokodkeekhaaDoorW.PrintWords Go.Proofs.YtjjnokodkeekhaaDoorW.PrintLast Go.Proofs.YtjjnokodkeekhaaDoorW.PrintMore
open Go.Proofs.YtjjnokodkeekhaaDoor.P Go.Proofs.YtjjnokodkeekhaaDoor.Evx
set_option linter.unusedSimpArgs false
set_option linter.unusedVariables false
/-- The moment after i. -/
def nextS (n b i : Nat) : Nat := if i + 1 < n then i + 1 else b
theorem nextS_lt {n b i : Nat} (hb : b < n) : nextS n b i < n := by unfold nextS; split <;> omega
/-- A rower in its block. -/
def IsRower (w : World) (rb : Nat) (A : Option Addr) (n c b : Nat) : Prop := w.heap[rb]? = some (.cells #[.slice A n c, .int .i64 (b : Int)] 58 (0, 0))
set_option maxHeartbeats 1600000 in
theorem next_calls (rb : Nat) (A : Option Addr) (n c b i : Nat) (w : World) (h : IsRower w rb A n c b) (hi : i < n) (hn : n < 1000000000) :
    Calls Tryd.prog 59 #[.pointer (some ⟨rb, 0, none⟩), .int .i64 i] w fun e w' => e = .returned (.int .i64 (nextS n b i : Nat)) ∧ w' = w := by
  have hu := Tryd.underlying58
  have x0 : w.cell? ⟨rb, 0, none⟩ = some (.slice A n c) := (blk_cell h 0).trans rfl
  have x1 : w.cell? ⟨rb, 1, none⟩ = some (.int .i64 (b : Int)) := (blk_cell h 1).trans rfl
  clear h
  by_cases hlt : i + 1 < n
  · have hlt' : (i : Int) + 1 < n := by omega
    go_enter Tryd.func59, Tryd.ntmps59
    go_wp2
    go_ret
    exact ⟨by unfold nextS; rw [if_pos hlt]; rfl, rfl⟩
  · have hlt' : ¬ (i : Int) + 1 < n := by omega
    go_enter Tryd.func59, Tryd.ntmps59
    go_wp2
    go_ret
    exact ⟨by unfold nextS; rw [if_neg hlt]; rfl, rfl⟩
/-- One pass from behind over the places below i. -/
def passD (f : Nat → Bool → Bool) (n b : Nat) : Nat → List Bool → List Bool
  | 0, out => out
  | i + 1, out => passD f n b i (out.set i (f i (out.getD (nextS n b i) false)))
def settleS (f : Nat → Bool → Bool) (n b : Nat) (first : Bool) : List Bool := passD f n b n (passD f n b n (List.replicate n first))
theorem len_pass (f : Nat → Bool → Bool) (n b : Nat) : ∀ (i : Nat) (out : List Bool), (passD f n b i out).length = out.length
  | 0, out => rfl
  | i + 1, out => by rw [passD, len_pass f n b i]; simp
def passes (f : Nat → Bool → Bool) (n b : Nat) : Nat → List Bool → List Bool
  | 0, out => out
  | t + 1, out => passes f n b t (passD f n b n out)
def boolsOf (l : List Bool) : List Value := l.map Value.bool
theorem bools_get {l : List Bool} {i : Nat} (h : i < l.length) : (boolsOf l).toArray[i]? = some (.bool (l.getD i false)) := by
  simp [boolsOf, h]
theorem bools_set (l : List Bool) (i : Nat) (x : Bool) : (boolsOf l).toArray.setIfInBounds i (.bool x) = (boolsOf (l.set i x)).toArray := by
  simp [boolsOf, List.map_set]
set_option maxHeartbeats 8000000 in
set_option maxRecDepth 100000 in
theorem settle_calls (k : FuncId) (cap : Array Value) (he : ∀ args w, (callFunc k args).run Tryd.prog w = .ok (.enter k args) w) (f : Nat → Bool → Bool)
    (rb : Nat) (A : Option Addr) (n c b : Nat) (first : Bool) (w : World) (h : IsRower w rb A n c b) (h0 : 0 < n) (hn : n < 1000000000) (hb : b < n)
    (hF : ∀ W, Below w.heap.size w W → ∀ (i : Nat) (x : Bool), i < n → Calls Tryd.prog k (#[.int .i64 i, .bool x] ++ cap) W fun e W' => e = .returned (.bool (f i x)) ∧ Below W.heap.size W W') :
    Calls Tryd.prog 60 #[.pointer (some ⟨rb, 0, none⟩), .bool first, .func (.func k) #[] cap] w fun e w' => ∃ g, e = .returned (.slice (some ⟨g, 0, none⟩) n n) ∧ w.heap.size ≤ g ∧ w'.heap[g]? = some (.cells (boolsOf (settleS f n b first)).toArray 4 (0, 0)) ∧ Below w.heap.size w w' := by
  have hus := Tryd.underlying35
  have hu := Tryd.underlying58
  have x0 : w.cell? ⟨rb, 0, none⟩ = some (.slice A n c) := (blk_cell h 0).trans rfl
  have y0 : (w.alloc (.cells #[.bool first] 4)).cell? ⟨rb, 0, none⟩ = some (.slice A n c) := (blk_cell (blk_alloc h _) 0).trans rfl
  have HR := Aside0.mk h
  have HF := Aside0.mk hF
  clear h hF
  go_enter Tryd.func60, Tryd.ntmps60
  go_wp2_with (go_at_call 73; refine (Repeat_calls w.heap.size first n _ (heap_alloc_new w _) h0 hn).mono ?_; rintro e w1 ⟨g, rfl, hg, hG, hB⟩; have HGS := Aside0.mk (show w.heap.size ≤ g from by simp at hg; omega); have HG := Aside0.mk hG; have HB := Aside0.mk ((below_alloc (Below.refl _ _) _).trans (hB.mono (by simp)) : Below w.heap.size w w1); clear hg hG hB)
  go_loopg [17] 2 (fun kq v17 w' => ∃ (t : Nat) (out : List Bool), t ≤ 2 ∧ kq = 2 - t ∧ v17 = .int .i64 t ∧ out.length = n ∧ Aside0 (passes f n b (2 - t) out = settleS f n b first) ∧ Aside0 (w'.heap[g]? = some (.cells (boolsOf out).toArray 4 (0, 0))) ∧ Aside0 (Below w.heap.size w w'))
  case atStart => exact ⟨0, List.replicate n first, by omega, rfl, rfl, by simp, ⟨rfl⟩, ⟨by rw [HG.out]; congr 3; simp [repRow, boolsOf]⟩, HB⟩
  case round =>
    obtain ⟨t, out, ht, hkq, rfl, hlo, HP, HGV, HBV⟩ := hrel
    have HT := Aside0.mk ht
    have HKQ := Aside0.mk hkq
    have HLO := Aside0.mk hlo
    clear ht hkq hlo
    obtain ⟨WW, rfl⟩ : ∃ W : World, W = wr := ⟨_, rfl⟩
    by_cases hlt : (t : Int) < 2
    · have hpp : passes f n b (2 - t) out = passes f n b (2 - (t + 1)) (passD f n b n out) := by rw [show 2 - t = (2 - (t + 1)) + 1 by have := HT.out; omega]; rfl
      have HPP := Aside0.mk hpp
      clear hpp
      go_wp2
      go_loopg [8] n (fun kq v8 w' => ∃ (o2 : List Bool), kq ≤ n ∧ v8 = .int .i64 ((kq : Int) - 1) ∧ o2.length = n ∧ Aside0 (passD f n b kq o2 = passD f n b n out) ∧ Aside0 (w'.heap[g]? = some (.cells (boolsOf o2).toArray 4 (0, 0))) ∧ Aside0 (Below w.heap.size w w'))
      case atStart => exact ⟨out, Nat.le_refl _, rfl, HLO.out, ⟨rfl⟩, HGV, HBV⟩
      case round =>
        obtain ⟨o2, hkn, rfl, hl2, HQ, HG2, HB2⟩ := hrel
        obtain _ | j := gk
        · have e0 : ((0 : Nat) : Int) - 1 = -1 := rfl
          rw [e0]
          have HPD := Aside0.mk (show passes f n b (2 - (t + 1)) o2 = settleS f n b first from by rw [← HP.out, HPP.out, ← HQ.out]; rfl)
          have HLL := Aside0.mk hl2
          clear hl2
          go_wp2
          go_roundg (2 - (t + 1))
          case measure => have := HKQ.out; have := HT.out; omega
          case rel => exact ⟨t + 1, o2, by omega, rfl, by first | rfl | (congr 1; go_num; done) | go_num, HLL.out, HPD, HG2, HB2⟩
        · have e1 : ((j + 1 : Nat) : Int) - 1 = (j : Int) := by omega
          rw [e1]
          have hjn : j < n := by omega
          have hj0 : ¬ ((j : Int) < 0) := by omega
          have hIR : IsRower wr rb A n c b := (HB2.out.block _ (blk_lt HR.out)).trans HR.out
          have HN := Aside0.mk (next_calls rb A n c b j wr hIR hjn hn)
          have HS := Aside0.mk (show passD f n b j (o2.set j (f j (o2.getD (nextS n b j) false))) = passD f n b n out from HQ.out)
          have hq : nextS n b j < n := nextS_lt hb
          generalize nextS n b j = q at HN HS hq
          obtain ⟨x, hx⟩ : ∃ x, x = o2.getD q false := ⟨_, rfl⟩
          rw [← hx] at HS
          have xq : wr.cell? ⟨g, q, none⟩ = some (.bool x) := by rw [blk_cell HG2.out, bools_get (by omega), hx]
          have HLL := Aside0.mk hl2
          have HCL := Aside0.mk (HF.out wr HB2.out j x hjn)
          clear hl2 hIR hx
          go_wp2_with (first | (go_at_call 59; refine HN.out.mono ?_; rintro e w4 ⟨rfl, rfl⟩) | ((with_reducible refine HCL.out.mono ?_); rintro e w4 ⟨rfl, hB4⟩; have HG4 := Aside0.mk ((hB4.block _ (blk_lt HG2.out)).trans HG2.out); have HB4 := Aside0.mk (HB2.out.trans (hB4.mono HB2.out.size)); have xj : w4.cell? ⟨g, j, none⟩ = some (.bool (o2.getD j false)) := (by rw [blk_cell HG4.out, bools_get (by rw [HLL.out]; exact hjn)]); have fj := blk_frozen HG4.out j; clear hB4))
          go_roundg j
          case measure => omega
          case rel => exact ⟨o2.set j (f j x), by omega, by first | rfl | (congr 1; go_num; done) | go_num, by simp [HLL.out], HS, ⟨(blk_set HG4.out j _).trans (by rw [bools_set])⟩, ⟨below_set HB4.out HGS.out⟩⟩
    · have e2 : t = 2 := by have := HT.out; omega
      subst e2
      have HE := Aside0.mk (show out = settleS f n b first from HP.out)
      go_wp2
      go_ret
      exact ⟨g, rfl, HGS.out, by rw [← HE.out]; exact HGV.out, HBV.out⟩
end Go.Proofs.YtjjnokodkeekhaaDoor.X

namespace Go.Proofs.YtjjnokodkeekhaaDoor.X
open Go.RowKit Go.Proofs.YtjjnokodkeekhaaDoorW.PrintWords Go.Proofs.YtjjnokodkeekhaaDoorW.PrintLast Go.Proofs.YtjjnokodkeekhaaDoorW.PrintMore
open Go.Proofs.YtjjnokodkeekhaaDoor.P Go.Proofs.YtjjnokodkeekhaaDoor.Evx
set_option linter.unusedSimpArgs false
set_option linter.unusedVariables false
/-- A function with a body is entered. -/
theorem enters_f {P : Program} {f : FuncId} {fn : Func} {c : Code} (hf : P.funcs[f]? = some fn) (hname : (fn.name == "runtime.NumGoroutine") = false) (hb : fn.body = some c) (args : Array Value) (w : World) : (callFunc f args).run P w = .ok (.enter f args) w := by
  have h1 : fn.name ≠ "runtime.NumGoroutine" := fun h => by rw [h] at hname; exact absurd hname (by decide)
  simp [callFunc, hf, h1, hb, mark]
/-- A row of bools in its block. -/
def BRow (w : World) (g : Nat) (l : List Bool) : Prop := w.heap[g]? = some (.cells (boolsOf l).toArray 4 (0, 0))
/-- A variable in its block. -/
def Cell1 (w : World) (p : Nat) (v : Value) (t : TypeId) : Prop := w.heap[p]? = some (.cells #[v] t (0, 0))
theorem brow_cell {w : World} {g : Nat} {l : List Bool} (h : BRow w g l) {i : Nat} (hi : i < l.length) : w.cell? ⟨g, i, none⟩ = some (.bool (l.getD i false)) := by rw [blk_cell h, bools_get hi]
theorem cell1 {w : World} {p : Nat} {v : Value} {t : TypeId} (h : Cell1 w p v t) : w.cell? ⟨p, 0, none⟩ = some v := (blk_cell h 0).trans rfl
set_option maxHeartbeats 1600000 in
theorem row2_calls (p ga n i : Nat) (a : List Bool) (W : World) (hp : Cell1 W p (.slice (some ⟨ga, 0, none⟩) n n) 35) (ha : BRow W ga a) (hl : a.length = n) (hi : i < n) :
    Calls Tryd.prog 55 #[.int .i64 i, .pointer (some ⟨p, 0, none⟩)] W fun e W' => e = .returned (.bool (!(a.getD i false))) ∧ Below W.heap.size W W' := by
  have hus := Tryd.underlying35
  have hx := cell1 hp
  have hy := brow_cell ha (i := i) (by omega)
  generalize a.getD i false = x at *
  clear hp ha
  go_enter Tryd.func55, Tryd.ntmps55
  go_wp2
  go_ret
  exact ⟨rfl, Below.refl _ _⟩
set_option maxHeartbeats 1600000 in
theorem row3_calls (p q ga gb n i : Nat) (a b : List Bool) (W : World) (hp : Cell1 W p (.slice (some ⟨ga, 0, none⟩) n n) 35) (ha : BRow W ga a) (hl : a.length = n) (hq : Cell1 W q (.slice (some ⟨gb, 0, none⟩) n n) 35) (hb : BRow W gb b) (hm : b.length = n) (hi : i < n) :
    Calls Tryd.prog 56 #[.int .i64 i, .pointer (some ⟨p, 0, none⟩), .pointer (some ⟨q, 0, none⟩)] W fun e W' => e = .returned (.bool (a.getD i false && b.getD i false)) ∧ Below W.heap.size W W' := by
  have hus := Tryd.underlying35
  have hx := cell1 hp
  have hx2 := cell1 hq
  have hy := brow_cell ha (i := i) (by omega)
  have hy2 := brow_cell hb (i := i) (by omega)
  generalize a.getD i false = x at *
  generalize b.getD i false = y at *
  clear hp ha hq hb
  cases x with
  | false =>
    go_enter Tryd.func56, Tryd.ntmps56
    go_wp2
    go_ret
    exact ⟨rfl, Below.refl _ _⟩
  | true =>
    go_enter Tryd.func56, Tryd.ntmps56
    go_wp2
    go_ret
    exact ⟨rfl, Below.refl _ _⟩
set_option maxHeartbeats 1600000 in
theorem row4_calls (p q ga gb n i : Nat) (a b : List Bool) (W : World) (hp : Cell1 W p (.slice (some ⟨ga, 0, none⟩) n n) 35) (ha : BRow W ga a) (hl : a.length = n) (hq : Cell1 W q (.slice (some ⟨gb, 0, none⟩) n n) 35) (hb : BRow W gb b) (hm : b.length = n) (hi : i < n) :
    Calls Tryd.prog 57 #[.int .i64 i, .pointer (some ⟨p, 0, none⟩), .pointer (some ⟨q, 0, none⟩)] W fun e W' => e = .returned (.bool (a.getD i false || b.getD i false)) ∧ Below W.heap.size W W' := by
  have hus := Tryd.underlying35
  have hx := cell1 hp
  have hx2 := cell1 hq
  have hy := brow_cell ha (i := i) (by omega)
  have hy2 := brow_cell hb (i := i) (by omega)
  generalize a.getD i false = x at *
  generalize b.getD i false = y at *
  clear hp ha hq hb
  cases x with
  | false =>
    go_enter Tryd.func57, Tryd.ntmps57
    go_wp2
    go_ret
    exact ⟨rfl, Below.refl _ _⟩
  | true =>
    go_enter Tryd.func57, Tryd.ntmps57
    go_wp2
    go_ret
    exact ⟨rfl, Below.refl _ _⟩
set_option maxHeartbeats 1600000 in
theorem row5_calls (p q ga rb n c b i : Nat) (A : Option Addr) (a : List Bool) (W : World) (hp : Cell1 W p (.slice (some ⟨ga, 0, none⟩) n n) 35) (ha : BRow W ga a) (hl : a.length = n) (hq : Cell1 W q (.pointer (some ⟨rb, 0, none⟩)) 55) (hr : IsRower W rb A n c b) (hb : b < n) (hi : i < n) (hn : n < 1000000000) :
    Calls Tryd.prog 58 #[.int .i64 i, .pointer (some ⟨p, 0, none⟩), .pointer (some ⟨q, 0, none⟩)] W fun e W' => e = .returned (.bool (a.getD (nextS n b i) false)) ∧ Below W.heap.size W W' := by
  have hus := Tryd.underlying35
  have hx := cell1 hp
  have hx2 := cell1 hq
  have hlt := nextS_lt (n := n) (i := i) hb
  have hy := brow_cell ha (i := nextS n b i) (by omega)
  have HN := Aside0.mk (fun m => next_calls rb A n c b i (W.drewN m) (blk_drewN hr m) hi hn)
  generalize nextS n b i = j at *
  generalize a.getD j false = x at *
  clear hp ha hq hr
  go_enter Tryd.func58, Tryd.ntmps58
  go_wp2
  go_quiet (first | (go_at_call 59; refine Calls.quiet_of_same (HN.out _)))
  go_wp2
  go_ret
  exact ⟨rfl, pw_below_drewN (Below.refl _ _) _⟩
set_option maxHeartbeats 1600000 in
theorem row6_calls (p q ga gb n i : Nat) (nx : Bool) (a b : List Bool) (W : World) (hp : Cell1 W p (.slice (some ⟨ga, 0, none⟩) n n) 35) (ha : BRow W ga a) (hl : a.length = n) (hq : Cell1 W q (.slice (some ⟨gb, 0, none⟩) n n) 35) (hb : BRow W gb b) (hm : b.length = n) (hi : i < n) :
    Calls Tryd.prog 61 #[.int .i64 i, .bool nx, .pointer (some ⟨q, 0, none⟩), .pointer (some ⟨p, 0, none⟩)] W fun e W' => e = .returned (.bool (b.getD i false || a.getD i false && nx)) ∧ Below W.heap.size W W' := by
  have hus := Tryd.underlying35
  have hx := cell1 hp
  have hx2 := cell1 hq
  have hy := brow_cell ha (i := i) (by omega)
  have hy2 := brow_cell hb (i := i) (by omega)
  generalize a.getD i false = x at *
  generalize b.getD i false = y at *
  clear hp ha hq hb
  cases y <;> cases x <;> (
    go_enter Tryd.func61, Tryd.ntmps61
    go_wp2
    go_ret
    exact ⟨by first | rfl | (cases nx <;> rfl), Below.refl _ _⟩)
set_option maxHeartbeats 1600000 in
theorem row7_calls (p q ga gb n i : Nat) (nx : Bool) (a b : List Bool) (W : World) (hp : Cell1 W p (.slice (some ⟨ga, 0, none⟩) n n) 35) (ha : BRow W ga a) (hl : a.length = n) (hq : Cell1 W q (.slice (some ⟨gb, 0, none⟩) n n) 35) (hb : BRow W gb b) (hm : b.length = n) (hi : i < n) :
    Calls Tryd.prog 62 #[.int .i64 i, .bool nx, .pointer (some ⟨q, 0, none⟩), .pointer (some ⟨p, 0, none⟩)] W fun e W' => e = .returned (.bool (b.getD i false && (a.getD i false || nx))) ∧ Below W.heap.size W W' := by
  have hus := Tryd.underlying35
  have hx := cell1 hp
  have hx2 := cell1 hq
  have hy := brow_cell ha (i := i) (by omega)
  have hy2 := brow_cell hb (i := i) (by omega)
  generalize a.getD i false = x at *
  generalize b.getD i false = y at *
  clear hp ha hq hb
  cases y <;> cases x <;> (
    go_enter Tryd.func62, Tryd.ntmps62
    go_wp2
    go_ret
    exact ⟨by first | rfl | (cases nx <;> rfl), Below.refl _ _⟩)
theorem row8_calls (i : Int) (W : World) : Calls Tryd.prog 63 #[.int .i64 i] W fun e W' => e = .returned (.bool true) ∧ Below W.heap.size W W' := by
  go_enter Tryd.func63, Tryd.ntmps63
  go_wp2
  go_ret
  exact ⟨rfl, Below.refl _ _⟩
/-- The bit of a letter. -/
def bitS (l m : Int) : Bool := (Go.bits .and .u32 (shr .u32 l (IntKind.u64.wrap m)) 1) == 1
set_option maxHeartbeats 1600000 in
theorem row1_calls (p q rb n c b i : Nat) (A A2 : Option Addr) (ls : List Int) (op m : Int) (kn kc : Nat) (W : World) (hp : Cell1 W p (.pointer (some ⟨rb, 0, none⟩)) 55) (hr : IsRower W rb A n c b) (hC : Kd.C (Kd.int .u32) W A n ls) (hq : W.heap[q]? = some (.cells #[.int .i64 op, .int .i64 m, .slice A2 kn kc] 24 (0, 0))) (hi : i < n) (hm0 : 0 ≤ m) (hm1 : m < 32) :
    Calls Tryd.prog 54 #[.int .i64 i, .pointer (some ⟨p, 0, none⟩), .pointer (some ⟨q, 0, none⟩)] W fun e W' => e = .returned (.bool (bitS (ls.getD i 0) m)) ∧ Below W.heap.size W W' := by
  have hus := Tryd.underlying25
  have huF := Tryd.underlying24
  have huR := Tryd.underlying58
  have hx := cell1 hp
  have hx2 : W.cell? ⟨q, 1, none⟩ = some (.int .i64 m) := (blk_cell hq 1).trans rfl
  have hR := Kd.reads_of_C (d := 0) hC
  obtain ⟨ad, rfl, hc⟩ := hR.2.2 (by omega)
  have hy := hc i hi
  have hz : W.cell? ⟨rb, 0, none⟩ = some (.slice (some ad) n c) := (blk_cell hr 0).trans rfl
  generalize ls.getD i 0 = x at *
  have hw : IntKind.u64.wrap m = m := u64_id hm0 (by omega)
  have HBT := Aside0.mk (show bitS x m = ((Go.bits .and .u32 (x / 2 ^ m.toNat) 1) == 1) from by unfold bitS; rw [hw, ← shr_small (k := .u32) (x := x) (y := m) rfl (by show m ≤ 32; omega)])
  clear hp hr hC hq hR hc hw
  go_enter Tryd.func54, Tryd.ntmps54
  go_wp2
  go_quiet (fail)
  go_wp2
  go_ret
  exact ⟨by rw [HBT.out]; rfl, pw_below_drewN (Below.refl _ _) _⟩
set_option maxHeartbeats 1600000 in
theorem each1_calls (k : FuncId) (cap : Array Value) (he : ∀ args w, (callFunc k args).run Tryd.prog w = .ok (.enter k args) w) (p i : Nat) (x r : Bool) (W : World) (hp : Cell1 W p (.func (.func k) #[] cap) 70)
    (hF : Calls Tryd.prog k (#[.int .i64 i] ++ cap) W fun e W' => e = .returned (.bool r) ∧ Below W.heap.size W W') :
    Calls Tryd.prog 72 #[.int .i64 i, .bool x, .pointer (some ⟨p, 0, none⟩)] W fun e W' => e = .returned (.bool r) ∧ Below W.heap.size W W' := by
  have hx := cell1 hp
  have HF := Aside0.mk hF
  clear hp hF
  go_enter Tryd.func72, Tryd.ntmps72
  go_wp2_with ((with_reducible refine HF.out.mono ?_); rintro e w4 ⟨rfl, hB4⟩; have HB4 := Aside0.mk hB4; clear hB4)
  go_ret
  exact ⟨rfl, HB4.out⟩
set_option maxHeartbeats 1600000 in
theorem each_calls (k : FuncId) (cap : Array Value) (he : ∀ args w, (callFunc k args).run Tryd.prog w = .ok (.enter k args) w) (f : Nat → Bool)
    (rb : Nat) (A : Option Addr) (n c b : Nat) (w : World) (h : IsRower w rb A n c b) (h0 : 0 < n) (hn : n < 1000000000) (hb : b < n)
    (hF : ∀ W, Below w.heap.size w W → ∀ (i : Nat), i < n → Calls Tryd.prog k (#[.int .i64 i] ++ cap) W fun e W' => e = .returned (.bool (f i)) ∧ Below W.heap.size W W') :
    Calls Tryd.prog 53 #[.pointer (some ⟨rb, 0, none⟩), .func (.func k) #[] cap] w fun e w' => ∃ g, e = .returned (.slice (some ⟨g, 0, none⟩) n n) ∧ w.heap.size ≤ g ∧ BRow w' g (settleS (fun i _ => f i) n b false) ∧ Below w.heap.size w w' := by
  have hmf : ∀ fn first cap w, (Instr.makeFunc fn first cap).run Tryd.prog w = .ok (.func fn first cap) w := fun _ _ _ _ => rfl
  obtain ⟨W1, hW1⟩ : ∃ W1, W1 = w.alloc (.cells #[.func (.func k) #[] cap] 70) := ⟨_, rfl⟩
  have hB1 : Below w.heap.size w W1 := by rw [hW1]; exact below_alloc (Below.refl _ _) _
  have hc1 : Cell1 W1 w.heap.size (.func (.func k) #[] cap) 70 := by rw [hW1]; exact heap_alloc_new w _
  have he1 : ∀ args w, (callFunc 72 args).run Tryd.prog w = .ok (.enter 72 args) w := enters_f Tryd.func72 (by kernel_rfl) rfl
  have hS := settle_calls 72 #[.pointer (some ⟨w.heap.size, 0, none⟩)] he1 (fun i _ => f i) rb A n c b false W1 (by rw [hW1]; exact blk_alloc h _) h0 hn hb
    (fun W hW i x hi => each1_calls k cap he w.heap.size i x (f i) W ((hW.block _ (blk_lt hc1)).trans hc1) (hF W (hB1.trans (hW.mono hB1.size)) i hi))
  have HS := Aside0.mk hS
  have HB1 := Aside0.mk hB1
  have HW1 := Aside0.mk hW1
  clear hS hB1 hc1 hF h
  go_enter Tryd.func53, Tryd.ntmps53
  go_wp2_with (go_at_call 60; rw [← HW1.out]; refine HS.out.mono ?_; rintro e w4 ⟨g, rfl, hg, hG, hB4⟩; have HG := Aside0.mk hG; have HB4 := Aside0.mk (HB1.out.trans (hB4.mono HB1.out.size)); have HGS := Aside0.mk (Nat.le_trans HB1.out.size hg); clear hB4 hG hg)
  go_ret
  exact ⟨g, rfl, HGS.out, HG.out, HB4.out⟩
end Go.Proofs.YtjjnokodkeekhaaDoor.X

namespace Go.Proofs.YtjjnokodkeekhaaDoor.X
open Go.RowKit Go.Proofs.YtjjnokodkeekhaaDoorW.PrintWords Go.Proofs.YtjjnokodkeekhaaDoorW.PrintLast Go.Proofs.YtjjnokodkeekhaaDoorW.PrintMore
open Go.Proofs.YtjjnokodkeekhaaDoor.P Go.Proofs.YtjjnokodkeekhaaDoor.Evx
set_option linter.unusedSimpArgs false
set_option linter.unusedVariables false
/-- A node's row out of its kids' rows. -/
def rowOp (ls : List Int) (b : Nat) (op m : Int) (x y : List Bool) : List Bool :=
  if op = 2 then settleS (fun i _ => bitS (ls.getD i 0) m) ls.length b false
  else if op = 3 then settleS (fun i _ => !(x.getD i false)) ls.length b false
  else if op = 4 then settleS (fun i _ => x.getD i false && y.getD i false) ls.length b false
  else if op = 5 then settleS (fun i _ => x.getD i false || y.getD i false) ls.length b false
  else if op = 6 then settleS (fun i _ => x.getD (nextS ls.length b i) false) ls.length b false
  else if op = 7 then settleS (fun i nx => y.getD i false || x.getD i false && nx) ls.length b false
  else if op = 8 then settleS (fun i nx => y.getD i false && (x.getD i false || nx)) ls.length b true
  else settleS (fun _ _ => true) ls.length b false
mutual
def rowS (ls : List Int) (b : Nat) : S24 → List Bool
  | ⟨op, m, kids⟩ => rowOp ls b op m ((rowL ls b kids).getD 0 []) ((rowL ls b kids).getD 1 [])
def rowL (ls : List Int) (b : Nat) : List S24 → List (List Bool)
  | [] => []
  | k :: r => rowS ls b k :: rowL ls b r
end
theorem rowL_get (ls : List Int) (b : Nat) : ∀ (l : List S24) (i : Nat) (h : i < l.length), (rowL ls b l).getD i [] = rowS ls b (l[i]'h)
  | k :: r, 0, h => by simp [rowL]
  | k :: r, i + 1, h => by
    have := rowL_get ls b r i (by simpa using h)
    simpa [rowL] using this
theorem len_settle (f : Nat → Bool → Bool) (n b : Nat) (first : Bool) : (settleS f n b first).length = n := by simp [settleS, len_pass]
theorem len_rowOp (ls : List Int) (b : Nat) (op m : Int) (x y : List Bool) : (rowOp ls b op m x y).length = ls.length := by
  unfold rowOp
  repeat' split
  all_goals exact len_settle _ _ _ _
theorem len_row (ls : List Int) (b : Nat) (s : S24) : (rowS ls b s).length = ls.length := by
  obtain ⟨op, m, kids⟩ := s
  rw [rowS]
  exact len_rowOp _ _ _ _ _ _
theorem sound_mem : ∀ {l : List S24}, soundL l = true → ∀ (i : Nat) (h : i < l.length), soundS (l[i]'h) = true
  | k :: r, h, 0, _ => by simp only [soundL, Bool.and_eq_true] at h; exact h.1
  | k :: r, h, i + 1, hi => by simp only [soundL, Bool.and_eq_true] at h; exact sound_mem h.2 i (by simpa using hi)
theorem sound_kid {s : S24} (h : soundS s = true) (i : Nat) (hi : i < s.f2.length) : soundS (s.f2[i]'hi) = true := by
  obtain ⟨op, m, kids⟩ := s
  simp only [soundS, Bool.and_eq_true] at h
  exact sound_mem h.2.2.2.2 i hi
theorem sound_parts {s : S24} (h : soundS s = true) : 0 ≤ kidsS s.f0 ∧ (s.f2.length : Int) = kidsS s.f0 ∧ 0 ≤ s.f1 ∧ s.f1 ≤ mostS s.f0 := by
  obtain ⟨op, m, kids⟩ := s
  simp only [soundS, Bool.and_eq_true, decide_eq_true_eq] at h
  exact ⟨h.1, h.2.1, h.2.2.1, h.2.2.2.1⟩
theorem row_eq (ls : List Int) (b : Nat) (s : S24) : rowS ls b s = rowOp ls b s.f0 s.f1 ((rowL ls b s.f2).getD 0 []) ((rowL ls b s.f2).getD 1 []) := by cases s; rfl
theorem op_cases {op : Int} (h : 0 ≤ kidsS op) : op = 1 ∨ op = 2 ∨ op = 3 ∨ op = 4 ∨ op = 5 ∨ op = 6 ∨ op = 7 ∨ op = 8 := by
  unfold kidsS at h
  split at h
  · omega
  · split at h
    · omega
    · split at h
      · omega
      · omega
def RowAt (ls : List Int) (b : Nat) (s : S24) : Prop := ∀ (rb : Nat) (A : Option Addr) (c n : Nat) (A2 : Option Addr) (cp : Nat) (w : World), ls.length = n → IsRower w rb A n c b → Kd.C (Kd.int .u32) w A n ls → 0 < n → n < 1000000000 → b < n → Kd.C k24 w A2 s.f2.length s.f2 → s.f2.length ≤ cp → soundS s = true →
  Calls Tryd.prog 36 #[.pointer (some ⟨rb, 0, none⟩), .agg #[.int .i64 s.f0, .int .i64 s.f1, .slice A2 s.f2.length cp]] w fun e w' => ∃ g, e = .returned (.slice (some ⟨g, 0, none⟩) n n) ∧ w.heap.size ≤ g ∧ BRow w' g (rowS ls b s) ∧ Below w.heap.size w w'
/-- The four boxes of a call of row. -/
def rowBoxes (w : World) (rb : Nat) (op m : Int) (A2 : Option Addr) (len cp : Nat) : World :=
  (((w.alloc (.cells #[.pointer (some ⟨rb, 0, none⟩)] 55)).alloc (.cells #[.int .i64 op, .int .i64 m, .slice A2 len cp] 24)).alloc (.cells #[.slice none 0 0] 35)).alloc (.cells #[.slice none 0 0] 35)
structure RowSt (w wx : World) (rb : Nat) (op m : Int) (A2 : Option Addr) (len cp : Nat) (va vb : Value) : Prop where
  c0 : Cell1 wx w.heap.size (.pointer (some ⟨rb, 0, none⟩)) 55
  c1 : wx.heap[w.heap.size + 1]? = some (.cells #[.int .i64 op, .int .i64 m, .slice A2 len cp] 24 (0, 0))
  c2 : Cell1 wx (w.heap.size + 1 + 1) va 35
  c3 : Cell1 wx (w.heap.size + 1 + 1 + 1) vb 35
  bl : Below w.heap.size w wx
  sz : w.heap.size + 1 + 1 + 1 + 1 ≤ wx.heap.size
theorem RowSt.start (w : World) (rb : Nat) (op m : Int) (A2 : Option Addr) (len cp : Nat) : RowSt w (rowBoxes w rb op m A2 len cp) rb op m A2 len cp (.slice none 0 0) (.slice none 0 0) := by
  refine ⟨?_, ?_, ?_, ?_, ?_, ?_⟩
  · exact blk_alloc (blk_alloc (blk_alloc (heap_alloc_new w _) _) _) _
  · refine blk_alloc (blk_alloc ?_ _) _
    have := heap_alloc_new (w.alloc (.cells #[.pointer (some ⟨rb, 0, none⟩)] 55)) (.cells #[.int .i64 op, .int .i64 m, .slice A2 len cp] 24)
    simpa using this
  · refine blk_alloc ?_ _
    have := heap_alloc_new ((w.alloc (.cells #[.pointer (some ⟨rb, 0, none⟩)] 55)).alloc (.cells #[.int .i64 op, .int .i64 m, .slice A2 len cp] 24)) (.cells #[.slice none 0 0] 35)
    simpa using this
  · have := heap_alloc_new (((w.alloc (.cells #[.pointer (some ⟨rb, 0, none⟩)] 55)).alloc (.cells #[.int .i64 op, .int .i64 m, .slice A2 len cp] 24)).alloc (.cells #[.slice none 0 0] 35)) (.cells #[.slice none 0 0] 35)
    simpa [Cell1, rowBoxes] using this
  · exact below_alloc (below_alloc (below_alloc (below_alloc (Below.refl _ _) _) _) _) _
  · simp [rowBoxes]
/-- Behind a call that keeps all blocks. -/
theorem RowSt.next {w wx w' : World} {rb : Nat} {op m : Int} {A2 : Option Addr} {len cp : Nat} {va vb : Value} (h : RowSt w wx rb op m A2 len cp va vb) (hB : Below wx.heap.size wx w') : RowSt w w' rb op m A2 len cp va vb :=
  ⟨(hB.block _ (blk_lt h.c0)).trans h.c0, (hB.block _ (blk_lt h.c1)).trans h.c1, (hB.block _ (blk_lt h.c2)).trans h.c2, (hB.block _ (blk_lt h.c3)).trans h.c3, h.bl.trans (hB.mono h.bl.size), Nat.le_trans h.sz hB.size⟩
theorem RowSt.drewN {w wx : World} {rb : Nat} {op m : Int} {A2 : Option Addr} {len cp : Nat} {va vb : Value} (h : RowSt w wx rb op m A2 len cp va vb) (k : Nat) : RowSt w (wx.drewN k) rb op m A2 len cp va vb :=
  h.next (pw_below_drewN (Below.refl _ _) k)
theorem RowSt.setA {w wx : World} {rb : Nat} {op m : Int} {A2 : Option Addr} {len cp : Nat} {va vb : Value} (h : RowSt w wx rb op m A2 len cp va vb) (v : Value) : RowSt w (wx.setCell ⟨w.heap.size + 1 + 1, 0, none⟩ v) rb op m A2 len cp v vb :=
  ⟨blk_far h.c0 (by first | (simp; done) | (simp; omega) | omega) v, blk_far h.c1 (by first | (simp; done) | (simp; omega) | omega) v, (blk_set h.c2 0 v).trans (by simp), blk_far h.c3 (by first | (simp; done) | (simp; omega) | omega) v, h.bl.setCell (by first | (simp; done) | (simp; omega) | omega) v, by simpa using h.sz⟩
theorem RowSt.setB {w wx : World} {rb : Nat} {op m : Int} {A2 : Option Addr} {len cp : Nat} {va vb : Value} (h : RowSt w wx rb op m A2 len cp va vb) (v : Value) : RowSt w (wx.setCell ⟨w.heap.size + 1 + 1 + 1, 0, none⟩ v) rb op m A2 len cp va v :=
  ⟨blk_far h.c0 (by first | (simp; done) | (simp; omega) | omega) v, blk_far h.c1 (by first | (simp; done) | (simp; omega) | omega) v, blk_far h.c2 (by first | (simp; done) | (simp; omega) | omega) v, (blk_set h.c3 0 v).trans (by simp), h.bl.setCell (by first | (simp; done) | (simp; omega) | omega) v, by simpa using h.sz⟩
/-- A kid's row lies there. -/
def RowIs (w wx : World) (n : Nat) (v : Value) (x : List Bool) : Prop := ∃ ga, v = .slice (some ⟨ga, 0, none⟩) n n ∧ w.heap.size + 1 + 1 + 1 + 1 ≤ ga ∧ BRow wx ga x ∧ x.length = n
theorem RowIs.next {w wx w' : World} {n : Nat} {v : Value} {x : List Bool} (h : RowIs w wx n v x) (hB : Below wx.heap.size wx w') : RowIs w w' n v x := by
  obtain ⟨ga, h1, h2, h3, h4⟩ := h
  exact ⟨ga, h1, h2, (hB.block _ (blk_lt h3)).trans h3, h4⟩
theorem RowIs.set_ {w wx : World} {n : Nat} {v : Value} {x : List Bool} (h : RowIs w wx n v x) {p : Addr} (hp : p.block < w.heap.size + 1 + 1 + 1 + 1) (u : Value) : RowIs w (wx.setCell p u) n v x := by
  obtain ⟨ga, h1, h2, h3, h4⟩ := h
  exact ⟨ga, h1, h2, blk_far h3 (by omega) u, h4⟩
set_option maxHeartbeats 8000000 in
set_option maxRecDepth 100000 in
theorem row_calls (ls : List Int) (b : Nat) (s : S24) (ih : ∀ k ∈ s.f2, RowAt ls b k) : RowAt ls b s := by
  intro rb A c n A2 cp w hn hR hC h0 h1 hb hk hc hs
  have huF := Tryd.underlying24
  have huL := Tryd.underlying22
  have huR := Tryd.underlying58
  have hus := Tryd.underlying35
  have hmf : ∀ fn first cap w, (Instr.makeFunc fn first cap).run Tryd.prog w = .ok (.func fn first cap) w := fun _ _ _ _ => rfl
  have hst := RowSt.start w rb s.f0 s.f1 A2 s.f2.length cp
  have HR := Aside0.mk hR
  have HK := Aside0.mk hk
  have HC := Aside0.mk hC
  have HS := Aside0.mk hs
  have HIH := Aside0.mk (fun (i : Nat) (hi : i < s.f2.length) W (hB : Below w.heap.size w W) => fun A3 c3 hk3 hc3 => ih (s.f2[i]'hi) (List.getElem_mem hi) rb A c n A3 c3 W hn ((hB.block _ (blk_lt hR)).trans hR) (Kd.C_below hC hB) h0 h1 hb hk3 hc3 (sound_kid hs i hi))
  have hlen := Kd.C_max hk
  clear hR hC hk hs ih
  go_enter Tryd.func36, Tryd.ntmps36
  go_upto_if 10 with fail
  change Code.wp _ _ _ _ (rowBoxes w rb s.f0 s.f1 A2 s.f2.length cp)
  generalize rowBoxes w rb s.f0 s.f1 A2 s.f2.length cp = W4 at *
  have HST := Aside0.mk hst
  go_cut [] (fun wx => ∃ va x, Aside0 (RowSt w wx rb s.f0 s.f1 A2 s.f2.length cp va (.slice none 0 0)) ∧ Aside0 (0 < s.f2.length → RowIs w wx n va x ∧ x = (rowL ls b s.f2).getD 0 []))
  case first =>
    by_cases hl : 0 < s.f2.length
    · obtain ⟨ad, A3, c3, hA, hx0, hx1, hx2, hl2, hk2⟩ := kid_at HK.out hst.bl 0 hl hl
      subst hA
      have e0 : ad.add (0 * 3) = ad := by cases ad; simp [Addr.add]
      rw [e0] at hx0 hx1 hx2
      have HK2 := Aside0.mk (Kd.C_below hk2 hst.bl)
      have HL2 := Aside0.mk hl2
      have xp0 := cell1 hst.c0
      have xp1 : W4.cell? ⟨w.heap.size + 1, 2, none⟩ = some (.slice (some ad) s.f2.length cp) := (blk_cell hst.c1 2).trans rfl
      have fp2 := blk_frozen hst.c2 0
      have xp2 := cell1 hst.c2
      clear hst hk2 hl2
      go_upto_region 3 with fail
      have HCALL := Aside0.mk (HIH.out 0 hl W4.drew (below_drew1 HST.out.bl) A3 c3 (Kd.C_drew HK2.out) HL2.out)
      have HD := Aside0.mk (HST.out.next (below_drew1 (Below.refl _ _)))
      have HDZ := Aside0.mk HST.out.sz
      go_region_with (go_at_call 36; refine HCALL.out.mono ?_; rintro e w5 ⟨g, rfl, hg, hG, hB⟩; have HS5 := Aside0.mk (HD.out.next hB); have HG := Aside0.mk hG; have HGG := Aside0.mk (show W4.heap.size ≤ g from hg); have xq2 := cell1 HS5.out.c2; have fq2 := blk_frozen HS5.out.c2 0; clear hG hB hg)
      all_goals (
        go_wp2_with fail
        go_meet
        exact ⟨_, rowS ls b (s.f2[0]'hl), ⟨HS5.out.setA _⟩, ⟨fun _ => ⟨RowIs.set_ ⟨g, rfl, Nat.le_trans HDZ.out HGG.out, HG.out, (len_row _ _ _).trans hn⟩ (by simp) _, (rowL_get ls b s.f2 0 hl).symm⟩⟩⟩)
    · have hd : decide (0 < s.f2.length) = false := decide_eq_false hl
      go_wp2
      go_meet
      exact ⟨_, [], HST, ⟨fun h => absurd h hl⟩⟩
  case rest =>
    obtain ⟨va, x, HST2, HX⟩ := hcut
    have x1l : wc.cell? ⟨w.heap.size + 1, 2, none⟩ = some (.slice A2 s.f2.length cp) := (blk_cell HST2.out.c1 2).trans rfl
    clear hst HST
    go_upto_if 20 with fail
    go_cut [] (fun wx => ∃ vb y, Aside0 (RowSt w wx rb s.f0 s.f1 A2 s.f2.length cp va vb) ∧ Aside0 (0 < s.f2.length → RowIs w wx n va x ∧ x = (rowL ls b s.f2).getD 0 []) ∧ Aside0 (1 < s.f2.length → RowIs w wx n vb y ∧ y = (rowL ls b s.f2).getD 1 []))
    case first =>
      by_cases hl : 1 < s.f2.length
      · obtain ⟨ad, A3, c3, hA, hx0, hx1, hx2, hl2, hk2⟩ := kid_at HK.out HST2.out.bl 1 hl hl
        subst hA
        simp only [Nat.one_mul] at hx0 hx1 hx2
        have hx1a : wc.cell? ⟨ad.block, ad.off + 3 + 1, none⟩ = some (.int .i64 (s.f2[1]'hl).f1) := hx1
        have hx2a : wc.cell? ⟨ad.block, ad.off + 3 + 2, none⟩ = some (.slice A3 (s.f2[1]'hl).f2.length c3) := hx2
        have hx0a : wc.cell? ⟨ad.block, ad.off + 3, none⟩ = some (.int .i64 (s.f2[1]'hl).f0) := hx0
        have HK2 := Aside0.mk (Kd.C_below hk2 HST2.out.bl)
        have HL2 := Aside0.mk hl2
        have xp0 := cell1 HST2.out.c0
        have fp3 := blk_frozen HST2.out.c3 0
        have xp3 := cell1 HST2.out.c3
        clear hk2 hl2
        have HCALL := Aside0.mk (HIH.out 1 hl wc.drew (below_drew1 HST2.out.bl) A3 c3 (Kd.C_drew HK2.out) HL2.out)
        have HD := Aside0.mk (HST2.out.next (below_drew1 (Below.refl _ _)))
        have HDZ := Aside0.mk HST2.out.sz
        go_upto_region 5 with fail
        go_region_with (go_at_call 36; refine HCALL.out.mono ?_; rintro e w5 ⟨g, rfl, hg, hG, hB⟩; have HS5 := Aside0.mk (HD.out.next hB); have HX5 := Aside0.mk (fun h => And.intro ((HX.out h).1.next ((below_drew1 (Below.refl _ _)).trans hB)) (HX.out h).2); have HG := Aside0.mk hG; have HGG := Aside0.mk (show wc.heap.size ≤ g from hg); have xq2 := cell1 HS5.out.c3; have fq2 := blk_frozen HS5.out.c3 0; clear hG hB hg)
        all_goals (
          go_wp2_with fail
          go_meet
          exact ⟨_, rowS ls b (s.f2[1]'hl), ⟨HS5.out.setB _⟩, ⟨fun h => ⟨(HX5.out h).1.set_ (by simp) _, (HX5.out h).2⟩⟩, ⟨fun _ => ⟨RowIs.set_ ⟨g, rfl, Nat.le_trans HDZ.out HGG.out, HG.out, (len_row _ _ _).trans hn⟩ (by simp) _, (rowL_get ls b s.f2 1 hl).symm⟩⟩⟩)
      · have hd : decide (1 < s.f2.length) = false := decide_eq_false hl
        go_wp2
        go_meet
        exact ⟨_, [], HST2, HX, ⟨fun h => absurd h hl⟩⟩
    case rest =>
      obtain ⟨vb, y, HST3, HXX, HYY⟩ := hcut
      have hpart := sound_parts HS.out
      have hRw : IsRower wc rb A n c b := (HST3.out.bl.block _ (blk_lt HR.out)).trans HR.out
      have hCw := Kd.C_below HC.out HST3.out.bl
      have hc1 := HST3.out.c1
      have x00 := cell1 HST3.out.c0
      have x0 : wc.cell? ⟨w.heap.size + 1, 0, none⟩ = some (.int .i64 s.f0) := (blk_cell HST3.out.c1 0).trans rfl
      clear HST2 HX x1l HIH HK
      rcases op_cases hpart.1 with hop | hop | hop | hop | hop | hop | hop | hop
      · -- op 1
        have hkk := hpart.2.1
        have hmm := hpart.2.2.2
        rw [hop] at hkk hmm x0
        have hrow : rowS ls b s = settleS (fun _ _ => true) n b false := by
          rw [row_eq, hop]
          unfold rowOp
          rw [if_neg (by decide), if_neg (by decide), if_neg (by decide), if_neg (by decide), if_neg (by decide), if_neg (by decide), if_neg (by decide)]
          rw [hn]
        have HE := Aside0.mk (each_calls 63 #[] (enters_f Tryd.func63 (by kernel_rfl) rfl) (fun _ => true) rb A n c b wc hRw h0 h1 hb (fun W hW i hi => row8_calls i W))
        have HO := Aside0.mk hrow
        clear hrow
        go_wp2_with (go_at_call 53; refine HE.out.mono ?_; rintro e w6 ⟨g, rfl, hg, hG, hB⟩; have HG := Aside0.mk hG; have HB := Aside0.mk hB; have HGS := Aside0.mk hg; clear hG hB hg)
        go_ret
        exact ⟨g, rfl, Nat.le_trans HST3.out.bl.size HGS.out, by rw [HO.out]; exact HG.out, HST3.out.bl.trans (HB.out.mono HST3.out.bl.size)⟩
      · -- op 2
        have hkk := hpart.2.1
        have hmm := hpart.2.2.2
        rw [hop] at hkk hmm x0
        have hrow : rowS ls b s = settleS (fun i _ => bitS (ls.getD i 0) s.f1) n b false := by
          rw [row_eq, hop]
          unfold rowOp
          rw [if_pos rfl]
          rw [hn]
        have hm2 : mostS 2 = 19 := by decide
        have HE := Aside0.mk (each_calls 54 #[.pointer (some ⟨w.heap.size, 0, none⟩), .pointer (some ⟨(w.heap.size + 1), 0, none⟩)] (enters_f Tryd.func54 (by kernel_rfl) rfl) (fun i => bitS (ls.getD i 0) s.f1) rb A n c b wc hRw h0 h1 hb (fun W hW i hi => row1_calls w.heap.size (w.heap.size + 1) rb n c b i A A2 ls s.f0 s.f1 s.f2.length cp W ((hW.block _ (blk_lt HST3.out.c0)).trans HST3.out.c0) ((hW.block _ (blk_lt hRw)).trans hRw) (Kd.C_below hCw hW) ((hW.block _ (blk_lt hc1)).trans hc1) hi hpart.2.2.1 (by omega)))
        have HO := Aside0.mk hrow
        clear hrow
        go_wp2_with (go_at_call 53; refine HE.out.mono ?_; rintro e w6 ⟨g, rfl, hg, hG, hB⟩; have HG := Aside0.mk hG; have HB := Aside0.mk hB; have HGS := Aside0.mk hg; clear hG hB hg)
        go_ret
        exact ⟨g, rfl, Nat.le_trans HST3.out.bl.size HGS.out, by rw [HO.out]; exact HG.out, HST3.out.bl.trans (HB.out.mono HST3.out.bl.size)⟩
      · -- op 3
        have hkk := hpart.2.1
        have hmm := hpart.2.2.2
        rw [hop] at hkk hmm x0
        have hrow : rowS ls b s = settleS (fun i _ => !(((rowL ls b s.f2).getD 0 []).getD i false)) n b false := by
          rw [row_eq, hop]
          unfold rowOp
          rw [if_neg (by decide), if_pos rfl]
          rw [hn]
        obtain ⟨⟨ga, rfl, hga, hA, hAl⟩, hxe⟩ := HXX.out (by have h9 : kidsS 3 = 1 := (by decide); omega)
        rw [← hxe] at hrow
        have HE := Aside0.mk (each_calls 55 #[.pointer (some ⟨(w.heap.size + 1 + 1), 0, none⟩)] (enters_f Tryd.func55 (by kernel_rfl) rfl) (fun i => !(x.getD i false)) rb A n c b wc hRw h0 h1 hb (fun W hW i hi => row2_calls (w.heap.size + 1 + 1) ga n i x W ((hW.block _ (blk_lt HST3.out.c2)).trans HST3.out.c2) ((hW.block _ (blk_lt hA)).trans hA) hAl hi))
        have HO := Aside0.mk hrow
        clear hrow
        go_wp2_with (go_at_call 53; refine HE.out.mono ?_; rintro e w6 ⟨g, rfl, hg, hG, hB⟩; have HG := Aside0.mk hG; have HB := Aside0.mk hB; have HGS := Aside0.mk hg; clear hG hB hg)
        go_ret
        exact ⟨g, rfl, Nat.le_trans HST3.out.bl.size HGS.out, by rw [HO.out]; exact HG.out, HST3.out.bl.trans (HB.out.mono HST3.out.bl.size)⟩
      · -- op 4
        have hkk := hpart.2.1
        have hmm := hpart.2.2.2
        rw [hop] at hkk hmm x0
        have hrow : rowS ls b s = settleS (fun i _ => ((rowL ls b s.f2).getD 0 []).getD i false && ((rowL ls b s.f2).getD 1 []).getD i false) n b false := by
          rw [row_eq, hop]
          unfold rowOp
          rw [if_neg (by decide), if_neg (by decide), if_pos rfl]
          rw [hn]
        obtain ⟨⟨ga, rfl, hga, hA, hAl⟩, hxe⟩ := HXX.out (by have h9 : kidsS 4 = 2 := (by decide); omega)
        rw [← hxe] at hrow
        obtain ⟨⟨gb, rfl, hgb, hBB, hBl⟩, hye⟩ := HYY.out (by have h9 : kidsS 4 = 2 := (by decide); omega)
        rw [← hye] at hrow
        have HE := Aside0.mk (each_calls 56 #[.pointer (some ⟨(w.heap.size + 1 + 1), 0, none⟩), .pointer (some ⟨(w.heap.size + 1 + 1 + 1), 0, none⟩)] (enters_f Tryd.func56 (by kernel_rfl) rfl) (fun i => x.getD i false && y.getD i false) rb A n c b wc hRw h0 h1 hb (fun W hW i hi => row3_calls (w.heap.size + 1 + 1) (w.heap.size + 1 + 1 + 1) ga gb n i x y W ((hW.block _ (blk_lt HST3.out.c2)).trans HST3.out.c2) ((hW.block _ (blk_lt hA)).trans hA) hAl ((hW.block _ (blk_lt HST3.out.c3)).trans HST3.out.c3) ((hW.block _ (blk_lt hBB)).trans hBB) hBl hi))
        have HO := Aside0.mk hrow
        clear hrow
        go_wp2_with (go_at_call 53; refine HE.out.mono ?_; rintro e w6 ⟨g, rfl, hg, hG, hB⟩; have HG := Aside0.mk hG; have HB := Aside0.mk hB; have HGS := Aside0.mk hg; clear hG hB hg)
        go_ret
        exact ⟨g, rfl, Nat.le_trans HST3.out.bl.size HGS.out, by rw [HO.out]; exact HG.out, HST3.out.bl.trans (HB.out.mono HST3.out.bl.size)⟩
      · -- op 5
        have hkk := hpart.2.1
        have hmm := hpart.2.2.2
        rw [hop] at hkk hmm x0
        have hrow : rowS ls b s = settleS (fun i _ => ((rowL ls b s.f2).getD 0 []).getD i false || ((rowL ls b s.f2).getD 1 []).getD i false) n b false := by
          rw [row_eq, hop]
          unfold rowOp
          rw [if_neg (by decide), if_neg (by decide), if_neg (by decide), if_pos rfl]
          rw [hn]
        obtain ⟨⟨ga, rfl, hga, hA, hAl⟩, hxe⟩ := HXX.out (by have h9 : kidsS 5 = 2 := (by decide); omega)
        rw [← hxe] at hrow
        obtain ⟨⟨gb, rfl, hgb, hBB, hBl⟩, hye⟩ := HYY.out (by have h9 : kidsS 5 = 2 := (by decide); omega)
        rw [← hye] at hrow
        have HE := Aside0.mk (each_calls 57 #[.pointer (some ⟨(w.heap.size + 1 + 1), 0, none⟩), .pointer (some ⟨(w.heap.size + 1 + 1 + 1), 0, none⟩)] (enters_f Tryd.func57 (by kernel_rfl) rfl) (fun i => x.getD i false || y.getD i false) rb A n c b wc hRw h0 h1 hb (fun W hW i hi => row4_calls (w.heap.size + 1 + 1) (w.heap.size + 1 + 1 + 1) ga gb n i x y W ((hW.block _ (blk_lt HST3.out.c2)).trans HST3.out.c2) ((hW.block _ (blk_lt hA)).trans hA) hAl ((hW.block _ (blk_lt HST3.out.c3)).trans HST3.out.c3) ((hW.block _ (blk_lt hBB)).trans hBB) hBl hi))
        have HO := Aside0.mk hrow
        clear hrow
        go_wp2_with (go_at_call 53; refine HE.out.mono ?_; rintro e w6 ⟨g, rfl, hg, hG, hB⟩; have HG := Aside0.mk hG; have HB := Aside0.mk hB; have HGS := Aside0.mk hg; clear hG hB hg)
        go_ret
        exact ⟨g, rfl, Nat.le_trans HST3.out.bl.size HGS.out, by rw [HO.out]; exact HG.out, HST3.out.bl.trans (HB.out.mono HST3.out.bl.size)⟩
      · -- op 6
        have hkk := hpart.2.1
        have hmm := hpart.2.2.2
        rw [hop] at hkk hmm x0
        have hrow : rowS ls b s = settleS (fun i _ => ((rowL ls b s.f2).getD 0 []).getD (nextS n b i) false) n b false := by
          rw [row_eq, hop]
          unfold rowOp
          rw [if_neg (by decide), if_neg (by decide), if_neg (by decide), if_neg (by decide), if_pos rfl]
          rw [hn]
        obtain ⟨⟨ga, rfl, hga, hA, hAl⟩, hxe⟩ := HXX.out (by have h9 : kidsS 6 = 1 := (by decide); omega)
        rw [← hxe] at hrow
        have HE := Aside0.mk (each_calls 58 #[.pointer (some ⟨(w.heap.size + 1 + 1), 0, none⟩), .pointer (some ⟨w.heap.size, 0, none⟩)] (enters_f Tryd.func58 (by kernel_rfl) rfl) (fun i => x.getD (nextS n b i) false) rb A n c b wc hRw h0 h1 hb (fun W hW i hi => row5_calls (w.heap.size + 1 + 1) w.heap.size ga rb n c b i A x W ((hW.block _ (blk_lt HST3.out.c2)).trans HST3.out.c2) ((hW.block _ (blk_lt hA)).trans hA) hAl ((hW.block _ (blk_lt HST3.out.c0)).trans HST3.out.c0) ((hW.block _ (blk_lt hRw)).trans hRw) hb hi h1))
        have HO := Aside0.mk hrow
        clear hrow
        go_wp2_with (go_at_call 53; refine HE.out.mono ?_; rintro e w6 ⟨g, rfl, hg, hG, hB⟩; have HG := Aside0.mk hG; have HB := Aside0.mk hB; have HGS := Aside0.mk hg; clear hG hB hg)
        go_ret
        exact ⟨g, rfl, Nat.le_trans HST3.out.bl.size HGS.out, by rw [HO.out]; exact HG.out, HST3.out.bl.trans (HB.out.mono HST3.out.bl.size)⟩
      · -- op 7
        have hkk := hpart.2.1
        have hmm := hpart.2.2.2
        rw [hop] at hkk hmm x0
        have hrow : rowS ls b s = settleS (fun i nx => ((rowL ls b s.f2).getD 1 []).getD i false || ((rowL ls b s.f2).getD 0 []).getD i false && nx) n b false := by
          rw [row_eq, hop]
          unfold rowOp
          rw [if_neg (by decide), if_neg (by decide), if_neg (by decide), if_neg (by decide), if_neg (by decide), if_pos rfl]
          rw [hn]
        obtain ⟨⟨ga, rfl, hga, hA, hAl⟩, hxe⟩ := HXX.out (by have h9 : kidsS 7 = 2 := (by decide); omega)
        rw [← hxe] at hrow
        obtain ⟨⟨gb, rfl, hgb, hBB, hBl⟩, hye⟩ := HYY.out (by have h9 : kidsS 7 = 2 := (by decide); omega)
        rw [← hye] at hrow
        have HE := Aside0.mk (settle_calls 61 #[.pointer (some ⟨(w.heap.size + 1 + 1 + 1), 0, none⟩), .pointer (some ⟨(w.heap.size + 1 + 1), 0, none⟩)] (enters_f Tryd.func61 (by kernel_rfl) rfl) (fun i nx => y.getD i false || x.getD i false && nx) rb A n c b false wc hRw h0 h1 hb (fun W hW i nx hi => row6_calls (w.heap.size + 1 + 1) (w.heap.size + 1 + 1 + 1) ga gb n i nx x y W ((hW.block _ (blk_lt HST3.out.c2)).trans HST3.out.c2) ((hW.block _ (blk_lt hA)).trans hA) hAl ((hW.block _ (blk_lt HST3.out.c3)).trans HST3.out.c3) ((hW.block _ (blk_lt hBB)).trans hBB) hBl hi))
        have HO := Aside0.mk hrow
        clear hrow
        go_wp2_with (go_at_call 60; refine HE.out.mono ?_; rintro e w6 ⟨g, rfl, hg, hG, hB⟩; have HG := Aside0.mk hG; have HB := Aside0.mk hB; have HGS := Aside0.mk hg; clear hG hB hg)
        go_ret
        exact ⟨g, rfl, Nat.le_trans HST3.out.bl.size HGS.out, by rw [HO.out]; exact HG.out, HST3.out.bl.trans (HB.out.mono HST3.out.bl.size)⟩
      · -- op 8
        have hkk := hpart.2.1
        have hmm := hpart.2.2.2
        rw [hop] at hkk hmm x0
        have hrow : rowS ls b s = settleS (fun i nx => ((rowL ls b s.f2).getD 1 []).getD i false && (((rowL ls b s.f2).getD 0 []).getD i false || nx)) n b true := by
          rw [row_eq, hop]
          unfold rowOp
          rw [if_neg (by decide), if_neg (by decide), if_neg (by decide), if_neg (by decide), if_neg (by decide), if_neg (by decide), if_pos rfl]
          rw [hn]
        obtain ⟨⟨ga, rfl, hga, hA, hAl⟩, hxe⟩ := HXX.out (by have h9 : kidsS 8 = 2 := (by decide); omega)
        rw [← hxe] at hrow
        obtain ⟨⟨gb, rfl, hgb, hBB, hBl⟩, hye⟩ := HYY.out (by have h9 : kidsS 8 = 2 := (by decide); omega)
        rw [← hye] at hrow
        have HE := Aside0.mk (settle_calls 62 #[.pointer (some ⟨(w.heap.size + 1 + 1 + 1), 0, none⟩), .pointer (some ⟨(w.heap.size + 1 + 1), 0, none⟩)] (enters_f Tryd.func62 (by kernel_rfl) rfl) (fun i nx => y.getD i false && (x.getD i false || nx)) rb A n c b true wc hRw h0 h1 hb (fun W hW i nx hi => row7_calls (w.heap.size + 1 + 1) (w.heap.size + 1 + 1 + 1) ga gb n i nx x y W ((hW.block _ (blk_lt HST3.out.c2)).trans HST3.out.c2) ((hW.block _ (blk_lt hA)).trans hA) hAl ((hW.block _ (blk_lt HST3.out.c3)).trans HST3.out.c3) ((hW.block _ (blk_lt hBB)).trans hBB) hBl hi))
        have HO := Aside0.mk hrow
        clear hrow
        go_wp2_with (go_at_call 60; refine HE.out.mono ?_; rintro e w6 ⟨g, rfl, hg, hG, hB⟩; have HG := Aside0.mk hG; have HB := Aside0.mk hB; have HGS := Aside0.mk hg; clear hG hB hg)
        go_ret
        exact ⟨g, rfl, Nat.le_trans HST3.out.bl.size HGS.out, by rw [HO.out]; exact HG.out, HST3.out.bl.trans (HB.out.mono HST3.out.bl.size)⟩
end Go.Proofs.YtjjnokodkeekhaaDoor.X

namespace Go.Proofs.YtjjnokodkeekhaaDoor.X
open Go.RowKit Go.Proofs.YtjjnokodkeekhaaDoorW.PrintWords Go.Proofs.YtjjnokodkeekhaaDoorW.PrintMore
open Go.Proofs.YtjjnokodkeekhaaDoor.P
set_option linter.unusedVariables false
set_option linter.unusedSimpArgs false
def tS (op : Int) : Nat := if timedS op = true then 1 else 0
mutual
/-- How many timed nodes. -/
def tnS : S24 → Nat
  | ⟨op, _, kids⟩ => tS op + tnL kids
def tnL : List S24 → Nat
  | [] => 0
  | k :: r => tnS k + tnL r
end
end Go.Proofs.YtjjnokodkeekhaaDoor.X

namespace Go.Proofs.YtjjnokodkeekhaaDoor.X
open Go.RowKit Go.Proofs.YtjjnokodkeekhaaDoorW.PrintWords Go.Proofs.YtjjnokodkeekhaaDoorW.PrintMore
open Go.Proofs.YtjjnokodkeekhaaDoor.P Go.Proofs.YtjjnokodkeekhaaDoor.Evx
set_option linter.unusedVariables false
set_option linter.unusedSimpArgs false
mutual
/-- How many nodes. -/
def nS : S24 → Nat
  | ⟨_, _, kids⟩ => 1 + nL kids
def nL : List S24 → Nat
  | [] => 0
  | k :: r => nS k + nL r
end
mutual
/-- How deep. -/
def hS : S24 → Nat
  | ⟨_, _, kids⟩ => 1 + hL kids
def hL : List S24 → Nat
  | [] => 0
  | k :: r => max (hS k) (hL r)
end
theorem cnt_t (c : Cnt) (op : Int) : (if timedS op = true then c.t + 1 else c.t) = c.t + (tS op : Int) := by unfold tS; split <;> simp
mutual
theorem goesS_back : ∀ (s : S24) (d : Int) (c : Cnt), (goesS s d c).n ≤ 60 → (goesS s d c).deep = false → goesS s d c = ⟨c.n + nS s, c.t + tnS s, false⟩ ∧ c.deep = false ∧ d + hS s ≤ 13
  | ⟨op, m, kids⟩, d, c, h1, h2 => by
    simp only [goesS] at h1 h2 ⊢
    by_cases hd : d > 12
    · rw [if_pos hd] at h2; cases h2
    · rw [if_neg hd] at h1 h2 ⊢
      obtain ⟨e1, e2, e3⟩ := goesL_back kids (d + 1) _ h1 h2
      rw [e1]
      simp only at e2
      refine ⟨?_, e2, ?_⟩
      · simp only [nS, tnS, Cnt.mk.injEq, cnt_t]
        refine ⟨by omega, by omega, trivial⟩
      · simp only [hS]
        rcases e3 with e3 | e3
        · omega
        · subst e3; simp only [hL]; omega
theorem goesL_back : ∀ (l : List S24) (d : Int) (c : Cnt), (goesL l d c).n ≤ 60 → (goesL l d c).deep = false → goesL l d c = ⟨c.n + nL l, c.t + tnL l, false⟩ ∧ c.deep = false ∧ (d + hL l ≤ 13 ∨ l = [])
  | [], d, c, h1, h2 => by
    simp only [goesL] at h1 h2 ⊢
    refine ⟨?_, h2, .inr trivial⟩
    cases c
    simp only at h2
    subst h2
    simp [nL, tnL]
  | k :: r, d, c, h1, h2 => by
    simp only [goesL] at h1 h2 ⊢
    by_cases hc : c.n > 60
    · rw [if_pos hc] at h1; omega
    · rw [if_neg hc] at h1 h2 ⊢
      obtain ⟨e1, e2, e3⟩ := goesL_back r d _ h1 h2
      have h3 : (goesS k d c).n ≤ 60 := by rw [e1] at h1; simp only at h1; omega
      obtain ⟨f1, f2, f3⟩ := goesS_back k d c h3 e2
      rw [e1, f1]
      refine ⟨?_, f2, .inl ?_⟩
      · simp only [nL, tnL, Cnt.mk.injEq]
        refine ⟨by omega, by omega, trivial⟩
      · simp only [hL]
        rcases e3 with e3 | e3
        · omega
        · subst e3; simp only [hL]; omega
end
mutual
theorem goesS_forth : ∀ (s : S24) (d : Int) (c : Cnt), c.n + nS s ≤ 60 → d + hS s ≤ 13 → c.deep = false → goesS s d c = ⟨c.n + nS s, c.t + tnS s, false⟩
  | ⟨op, m, kids⟩, d, c, h1, h2, h3 => by
    simp only [nS, hS] at h1 h2
    simp only [goesS]
    rw [if_neg (by omega), goesL_forth kids (d + 1) ⟨c.n + 1, if timedS op = true then c.t + 1 else c.t, c.deep⟩ (by simp only; omega) (by omega) h3]
    simp only [nS, tnS, Cnt.mk.injEq, cnt_t]
    refine ⟨by omega, by omega, trivial⟩
theorem goesL_forth : ∀ (l : List S24) (d : Int) (c : Cnt), c.n + nL l ≤ 60 → d + hL l ≤ 13 → c.deep = false → goesL l d c = ⟨c.n + nL l, c.t + tnL l, false⟩
  | [], d, c, h1, h2, h3 => by
    simp only [goesL]
    cases c
    simp only at h3
    subst h3
    simp [nL, tnL]
  | k :: r, d, c, h1, h2, h3 => by
    simp only [nL, hL] at h1 h2
    simp only [goesL]
    rw [if_neg (by omega), goesS_forth k d c (by omega) (by omega) h3, goesL_forth r d _ (by simp only; omega) (by omega) rfl]
    simp only [nL, tnL, Cnt.mk.injEq]
    refine ⟨by omega, by omega, trivial⟩
end
theorem light_iff (s : S24) : lightS s = true ↔ nS s ≤ 60 ∧ hS s ≤ 12 := by
  unfold lightS
  rw [Bool.and_eq_true, decide_eq_true_eq, Bool.not_eq_true']
  constructor
  · rintro ⟨h1, h2⟩
    obtain ⟨e1, _, e3⟩ := goesS_back s 1 ⟨0, 0, false⟩ h1 h2
    unfold cntS at h1
    rw [e1] at h1
    simp only at h1
    exact ⟨by omega, by omega⟩
  · rintro ⟨h1, h2⟩
    have e := goesS_forth s 1 ⟨0, 0, false⟩ (by simp only; omega) (by omega) rfl
    unfold cntS
    rw [e]
    exact ⟨by simp only; omega, rfl⟩
theorem light_t {s : S24} (h : lightS s = true) : (cntS s).t = tnS s := by
  obtain ⟨h1, h2⟩ := (light_iff s).1 h
  unfold cntS
  rw [goesS_forth s 1 ⟨0, 0, false⟩ (by simp only; omega) (by omega) rfl]
  simp
/-- May, by counts without bounds. -/
theorem may_eq (s : S24) : mayF s = if nS s ≤ 60 ∧ hS s ≤ 12 ∧ tnS s ≤ 8 then (if soundS s = true then 0 else 1) else 7 := by
  unfold mayF
  by_cases hl : lightS s = true
  · have h1 := (light_iff s).1 hl
    have h2 := light_t hl
    by_cases ht : tnS s ≤ 8
    · rw [if_pos (show lightS s = true ∧ (cntS s).t ≤ 8 from ⟨hl, by omega⟩), if_pos (show nS s ≤ 60 ∧ hS s ≤ 12 ∧ tnS s ≤ 8 from ⟨h1.1, h1.2, ht⟩)]
    · rw [if_neg (fun h => ht (by omega)), if_neg (fun h => ht h.2.2)]
  · rw [if_neg (fun h => hl h.1), if_neg (fun h => hl ((light_iff s).2 ⟨h.1, h.2.1⟩))]
theorem may_zero {s : S24} (h : mayF s = 0) : nS s ≤ 60 ∧ hS s ≤ 12 ∧ tnS s ≤ 8 ∧ soundS s = true := by
  rw [may_eq] at h
  split at h
  · split at h
    · exact ⟨by omega, by omega, by omega, by assumption⟩
    · cases h
  · cases h
mutual
/-- The nodes that look at other moments. -/
def timesS : S24 → List S24
  | ⟨op, m, kids⟩ => (if timedS op = true then [⟨op, m, kids⟩] else []) ++ timesL kids
def timesL : List S24 → List S24
  | [] => []
  | k :: r => timesS k ++ timesL r
end
mutual
theorem len_times : ∀ s : S24, (timesS s).length = tnS s
  | ⟨op, m, kids⟩ => by
    simp only [timesS, List.length_append, len_timesL kids, tnS, tS]
    split <;> simp
theorem len_timesL : ∀ l : List S24, (timesL l).length = tnL l
  | [] => rfl
  | k :: r => by simp only [timesL, List.length_append, len_times k, len_timesL r, tnL]
end
theorem rdT_nat (l : List S24) (i : Nat) (h : i < l.length) : rd_T24 l (i : Int) = l[i]'h := by
  unfold rd_T24
  rw [Int.toNat_natCast, List.getD_eq_getElem?_getD, List.getElem?_eq_getElem h]; rfl
theorem sound_len {s : S24} (h : soundS s = true) : s.f2.length ≤ 2 := by
  obtain ⟨op, m, kids⟩ := s
  simp only [soundS, Bool.and_eq_true, decide_eq_true_eq] at h
  have := (kids_range op).2
  have := h.2.1
  show kids.length ≤ 2
  omega
theorem sound_in : ∀ {l : List S24}, soundL l = true → ∀ k ∈ l, soundS k = true
  | a :: r, h, k, hk => by
    simp only [soundL, Bool.and_eq_true] at h
    rcases List.mem_cons.1 hk with e | e
    · rw [e]; exact h.1
    · exact sound_in h.2 k e
theorem sound_kids_all {s : S24} (h : soundS s = true) : soundL s.f2 = true := by
  obtain ⟨op, m, kids⟩ := s
  simp only [soundS, Bool.and_eq_true] at h
  exact h.2.2.2.2
end Go.Proofs.YtjjnokodkeekhaaDoor.X

namespace Go.Proofs.YtjjnokodkeekhaaDoor.X
open Go.RowKit Go.Proofs.YtjjnokodkeekhaaDoorW.PrintWords Go.Proofs.YtjjnokodkeekhaaDoorW.PrintMore
open Go.Proofs.YtjjnokodkeekhaaDoor.P
set_option linter.unusedVariables false
set_option linter.unusedSimpArgs false
/-- A small number's decimal text. -/
def decS (m : Int) : List UInt8 := if m < 10 then [UInt8.ofNat (48 + m.toNat)] else [49, UInt8.ofNat (38 + m.toNat)]
def signS (op : Int) : List UInt8 := if op = 4 then [97, 110, 100] else if op = 5 then [111, 114] else if op = 7 then [117, 110, 116, 105, 108] else [114, 101, 108, 101, 97, 115, 101]
def textOp (op m : Int) (x y : List UInt8) : List UInt8 :=
  if op = 1 then [116, 114, 117, 101] else if op = 2 then 97 :: decS m else if op = 3 then [40, 110, 111, 116, 32] ++ (x ++ [41]) else if op = 6 then [40, 110, 101, 120, 116, 32] ++ (x ++ [41])
  else 40 :: (x ++ (32 :: (signS op ++ (32 :: (y ++ [41])))))
mutual
def textS : S24 → List UInt8
  | ⟨op, m, kids⟩ => textOp op m ((textL kids).getD 0 []) ((textL kids).getD 1 [])
def textL : List S24 → List (List UInt8)
  | [] => []
  | k :: r => textS k :: textL r
end
/-- The five shapes of a sound formula. -/
inductive Shape : S24 → Prop
  | yes : Shape ⟨1, 0, []⟩
  | atom (m : Int) : 0 ≤ m → m ≤ 19 → Shape ⟨2, m, []⟩
  | no (a : S24) : soundS a = true → Shape ⟨3, 0, [a]⟩
  | next (a : S24) : soundS a = true → Shape ⟨6, 0, [a]⟩
  | two (op : Int) (a b : S24) : (op = 4 ∨ op = 5 ∨ op = 7 ∨ op = 8) → soundS a = true → soundS b = true → Shape ⟨op, 0, [a, b]⟩
theorem shape {s : S24} (h : soundS s = true) : Shape s := by
  obtain ⟨op, m, kids⟩ := s
  simp only [soundS, Bool.and_eq_true, decide_eq_true_eq] at h
  obtain ⟨h1, h2, h3, h4, h5⟩ := h
  rcases op_cases h1 with e | e | e | e | e | e | e | e <;> subst e
  · have hk : kidsS 1 = 0 := by decide
    have hm : mostS 1 = 0 := by decide
    rw [hk] at h2; rw [hm] at h4
    obtain rfl : m = 0 := by omega
    match kids, h2 with
    | [], _ => exact .yes
  · have hk : kidsS 2 = 0 := by decide
    have hm : mostS 2 = 19 := by decide
    rw [hk] at h2; rw [hm] at h4
    match kids, h2 with
    | [], _ => exact .atom m h3 h4
  · have hk : kidsS 3 = 1 := by decide
    have hm : mostS 3 = 0 := by decide
    rw [hk] at h2; rw [hm] at h4
    obtain rfl : m = 0 := by omega
    match kids, h2, h5 with
    | [a], _, h5 => simp only [soundL, Bool.and_true] at h5; exact .no a h5
    | _ :: _ :: _, h2, _ => exact absurd h2 (by simp only [List.length_cons]; omega)
  · have hk : kidsS 4 = 2 := by decide
    have hm : mostS 4 = 0 := by decide
    rw [hk] at h2; rw [hm] at h4
    obtain rfl : m = 0 := by omega
    match kids, h2, h5 with
    | [a, b], _, h5 => simp only [soundL, Bool.and_true, Bool.and_eq_true] at h5; exact .two 4 a b (by simp) h5.1 h5.2
    | [_], h2, _ => exact absurd h2 (by simp)
    | _ :: _ :: _ :: _, h2, _ => exact absurd h2 (by simp only [List.length_cons]; omega)
  · have hk : kidsS 5 = 2 := by decide
    have hm : mostS 5 = 0 := by decide
    rw [hk] at h2; rw [hm] at h4
    obtain rfl : m = 0 := by omega
    match kids, h2, h5 with
    | [a, b], _, h5 => simp only [soundL, Bool.and_true, Bool.and_eq_true] at h5; exact .two 5 a b (by simp) h5.1 h5.2
    | [_], h2, _ => exact absurd h2 (by simp)
    | _ :: _ :: _ :: _, h2, _ => exact absurd h2 (by simp only [List.length_cons]; omega)
  · have hk : kidsS 6 = 1 := by decide
    have hm : mostS 6 = 0 := by decide
    rw [hk] at h2; rw [hm] at h4
    obtain rfl : m = 0 := by omega
    match kids, h2, h5 with
    | [a], _, h5 => simp only [soundL, Bool.and_true] at h5; exact .next a h5
    | _ :: _ :: _, h2, _ => exact absurd h2 (by simp only [List.length_cons]; omega)
  · have hk : kidsS 7 = 2 := by decide
    have hm : mostS 7 = 0 := by decide
    rw [hk] at h2; rw [hm] at h4
    obtain rfl : m = 0 := by omega
    match kids, h2, h5 with
    | [a, b], _, h5 => simp only [soundL, Bool.and_true, Bool.and_eq_true] at h5; exact .two 7 a b (by simp) h5.1 h5.2
    | [_], h2, _ => exact absurd h2 (by simp)
    | _ :: _ :: _ :: _, h2, _ => exact absurd h2 (by simp only [List.length_cons]; omega)
  · have hk : kidsS 8 = 2 := by decide
    have hm : mostS 8 = 0 := by decide
    rw [hk] at h2; rw [hm] at h4
    obtain rfl : m = 0 := by omega
    match kids, h2, h5 with
    | [a, b], _, h5 => simp only [soundL, Bool.and_true, Bool.and_eq_true] at h5; exact .two 8 a b (by simp) h5.1 h5.2
    | [_], h2, _ => exact absurd h2 (by simp)
    | _ :: _ :: _ :: _, h2, _ => exact absurd h2 (by simp only [List.length_cons]; omega)
theorem text_no (a : S24) : textS ⟨3, 0, [a]⟩ = [40, 110, 111, 116, 32] ++ (textS a ++ [41]) := rfl
theorem text_next (a : S24) : textS ⟨6, 0, [a]⟩ = [40, 110, 101, 120, 116, 32] ++ (textS a ++ [41]) := rfl
theorem text_two {op : Int} (h : op = 4 ∨ op = 5 ∨ op = 7 ∨ op = 8) (a b : S24) : textS ⟨op, 0, [a, b]⟩ = 40 :: (textS a ++ (32 :: (signS op ++ (32 :: (textS b ++ [41]))))) := by
  rcases h with h | h | h | h <;> subst h <;> rfl
end Go.Proofs.YtjjnokodkeekhaaDoor.X

namespace Go.Proofs.YtjjnokodkeekhaaDoor.X
open Go.RowKit Go.Proofs.YtjjnokodkeekhaaDoorW.PrintWords Go.Proofs.YtjjnokodkeekhaaDoorW.PrintLast Go.Proofs.YtjjnokodkeekhaaDoorW.PrintMore
open Go.Proofs.YtjjnokodkeekhaaDoor.P
set_option linter.unusedVariables false
set_option linter.unusedSimpArgs false
set_option maxHeartbeats 4000000 in
set_option maxRecDepth 100000 in
theorem small_calls (i : Nat) (h : i < 20) (w : World) : Calls Tryd.prog 79 #[.int .i64 i] w fun e w' => e = .returned (.string ⟨(decS i).toArray⟩) ∧ w' = w := by
  go_enter Tryd.func79, Tryd.ntmps79
  go_name_bytes_deep 45 SM hSM
  go_name_bytes_deep 30 DG hDG
  have sD : DG.size = 36 := by rw [← hDG]; decide +kernel
  have sS : SM.size = 200 := by rw [← hSM]; decide +kernel
  have eD : ∀ j : Fin 10, (DG.extract j.val (j.val + 1)).data = (decS (j.val : Int)).toArray := by rw [← hDG]; decide +kernel
  have eS : ∀ j : Fin 10, (SM.extract ((j.val + 10) * 2) ((j.val + 10) * 2 + 2)).data = (decS ((j.val + 10 : Nat) : Int)).toArray := by rw [← hSM]; decide +kernel
  have HD := Aside0.mk eD
  have HS := Aside0.mk eS
  clear hDG hSM eD eS
  by_cases h10 : i < 10
  · have hsl : ∀ w, (Instr.slice 9 (.string DG) (some (.int .i64 (i : Int))) (some (.int .i64 ((i : Int) + 1))) none).run Tryd.prog w = .ok (.string (DG.extract i (i + 1))) w := fun w => by
      rw [run_slice_string w 9 DG .i64 .i64 _ _ Tryd.underlying9 (by omega) (by omega) (by rw [sD]; omega), show ((i : Int)).toNat = i by omega, show ((i : Int) + 1).toNat = i + 1 by omega]
    go_wp2
    go_ret
    exact ⟨congrArg (fun z => Ending.returned (Value.string z)) (show DG.extract i (i + 1) = ⟨(decS (i : Int)).toArray⟩ from by rw [← HD.out ⟨i, h10⟩]), rfl⟩
  · have hsl : ∀ w, (Instr.slice 9 (.string SM) (some (.int .i64 ((i : Int) * 2))) (some (.int .i64 ((i : Int) * 2 + 2))) none).run Tryd.prog w = .ok (.string (SM.extract (i * 2) (i * 2 + 2))) w := fun w => by
      rw [run_slice_string w 9 SM .i64 .i64 _ _ Tryd.underlying9 (by omega) (by omega) (by rw [sS]; omega), show ((i : Int) * 2).toNat = i * 2 by omega, show ((i : Int) * 2 + 2).toNat = i * 2 + 2 by omega]
    go_wp2
    go_ret
    obtain ⟨j, rfl⟩ : ∃ j, i = j + 10 := ⟨i - 10, by omega⟩
    exact ⟨congrArg (fun z => Ending.returned (Value.string z)) (show SM.extract ((j + 10) * 2) ((j + 10) * 2 + 2) = ⟨(decS ((j + 10 : Nat) : Int)).toArray⟩ from by rw [← HS.out ⟨j, by omega⟩]), rfl⟩
set_option maxHeartbeats 4000000 in
theorem formatInt_calls (i : Nat) (h : i < 20) (w : World) : Calls Tryd.prog 76 #[.int .i64 i, .int .i64 10] w fun e w' => e = .returned (.string ⟨(decS i).toArray⟩) ∧ w' = w := by
  have HS := Aside0.mk (small_calls i h w)
  generalize (⟨(decS (i : Int)).toArray⟩ : ByteArray) = R at *
  have h1 : (0 : Int) ≤ (i : Int) := by omega
  have h2 : (i : Int) < 100 := by omega
  go_enter Tryd.func76, Tryd.ntmps76
  go_wp2_with (go_at_call 79; refine HS.out.mono ?_; rintro e w1 ⟨rfl, rfl⟩)
  go_ret
  exact ⟨rfl, rfl⟩
theorem itoa0_calls (i : Nat) (h : i < 20) (w : World) : Calls Tryd.prog 74 #[.int .i64 i] w fun e w' => e = .returned (.string ⟨(decS i).toArray⟩) ∧ w' = w := by
  have HS := Aside0.mk (formatInt_calls i h w)
  generalize (⟨(decS (i : Int)).toArray⟩ : ByteArray) = R at *
  go_enter Tryd.func74, Tryd.ntmps74
  go_wp2_with (go_at_call 76; refine HS.out.mono ?_; rintro e w1 ⟨rfl, rfl⟩)
  go_ret
  exact ⟨rfl, rfl⟩
theorem itoa_calls (i : Nat) (h : i < 20) (w : World) : Calls Tryd.prog 70 #[.int .i64 i] w fun e w' => e = .returned (.string ⟨(decS i).toArray⟩) ∧ w' = w := by
  have HS := Aside0.mk (itoa0_calls i h w)
  generalize (⟨(decS (i : Int)).toArray⟩ : ByteArray) = R at *
  go_enter Tryd.func70, Tryd.ntmps70
  go_wp2_with (go_at_call 74; refine HS.out.mono ?_; rintro e w1 ⟨rfl, rfl⟩)
  go_ret
  exact ⟨rfl, rfl⟩
end Go.Proofs.YtjjnokodkeekhaaDoor.X

namespace Go.Proofs.YtjjnokodkeekhaaDoor.X
open Go.RowKit Go.Proofs.YtjjnokodkeekhaaDoorW.PrintWords Go.Proofs.YtjjnokodkeekhaaDoorW.PrintLast Go.Proofs.YtjjnokodkeekhaaDoorW.PrintMore
open Go.Proofs.YtjjnokodkeekhaaDoor.P
set_option linter.unusedVariables false
set_option linter.unusedSimpArgs false
/-- A formula's text. -/
def textB (s : S24) : ByteArray := ⟨(textS s).toArray⟩
theorem ba_app (a b : List UInt8) : (⟨a.toArray⟩ : ByteArray) ++ ⟨b.toArray⟩ = ⟨(a ++ b).toArray⟩ := by
  apply ByteArray.ext
  rw [ByteArray.data_append]
  simp
def TextAt (s : S24) : Prop := ∀ (A : Option Addr) (cp : Nat) (w : World), Kd.C k24 w A s.f2.length s.f2 → s.f2.length ≤ cp → soundS s = true → nS s ≤ 60 →
  Calls Tryd.prog 45 #[.agg #[.int .i64 s.f0, .int .i64 s.f1, .slice A s.f2.length cp]] w fun e w' => e = .returned (.string (textB s)) ∧ Below w.heap.size w w'
theorem nS_in : ∀ {l : List S24} {k : S24}, k ∈ l → nS k ≤ nL l
  | a :: r, k, h => by
    simp only [nL]
    rcases List.mem_cons.1 h with e | e
    · rw [e]; omega
    · have := nS_in e; omega
theorem nS_kid {s k : S24} (h : k ∈ s.f2) : nS k ≤ nS s := by
  have := nS_in h
  obtain ⟨op, m, kids⟩ := s
  simp only [nS] at *
  omega
theorem op_len (op m : Int) (x y : List UInt8) : (textOp op m x y).length ≤ 12 + (x.length + y.length) := by
  have hd : (decS m).length ≤ 2 := by unfold decS; split <;> simp
  have hg : (signS op).length ≤ 7 := by unfold signS; repeat' split
                                        all_goals simp
  unfold textOp
  repeat' split
  all_goals simp only [List.length_cons, List.length_append, List.length_nil]
  all_goals omega
mutual
theorem text_len : ∀ s : S24, (textS s).length ≤ 12 * nS s
  | ⟨op, m, kids⟩ => by
    have h := text_lenL kids
    have h2 := op_len op m ((textL kids).getD 0 []) ((textL kids).getD 1 [])
    simp only [textS, nS]
    omega
theorem text_lenL : ∀ l : List S24, ((textL l).getD 0 []).length + ((textL l).getD 1 []).length ≤ 12 * nL l
  | [] => by simp [textL]
  | [a] => by
    have := text_len a
    simp only [textL, nL]
    simpa using this
  | a :: b :: r => by
    have h1 := text_len a
    have h2 := text_len b
    simp only [textL, nL]
    show (textS a).length + (textS b).length ≤ _
    omega
end
theorem textB_size (s : S24) : (textB s).size ≤ 12 * nS s := by
  have h := text_len s
  have : (textB s).size = (textS s).length := by simp [textB, ByteArray.size]
  omega
/-- The closure that tells a kid's text. -/
theorem kid_calls (s : S24) (ih : ∀ k ∈ s.f2, TextAt k) (p : Nat) (A : Option Addr) (cp : Nat) (W : World) (i : Nat) (hi : i < s.f2.length) (hp : W.heap[p]? = some (.cells #[.int .i64 s.f0, .int .i64 s.f1, .slice A s.f2.length cp] 24 (0, 0))) (hk : Kd.C k24 W A s.f2.length s.f2) (hs : soundS s = true) (hn : nS s ≤ 60) :
    Calls Tryd.prog 69 #[.int .i64 i, .pointer (some ⟨p, 0, none⟩)] W fun e W' => e = .returned (.string (textB (s.f2[i]'hi))) ∧ Below W.heap.size W W' := by
  have huF := Tryd.underlying24
  have huL := Tryd.underlying22
  obtain ⟨ad, A3, c3, e0, hx0, hx1, hx2, hl3, hk3⟩ := kid_at hk (Below.refl _ _) i hi hi
  subst e0
  have hx : W.cell? ⟨p, 2, none⟩ = some (.slice (some ad) s.f2.length cp) := (blk_cell hp 2).trans rfl
  have hn3 : nS (s.f2[i]'hi) ≤ 60 := Nat.le_trans (nS_kid (s := s) (List.getElem_mem hi)) hn
  have HC := Aside0.mk (ih _ (List.getElem_mem hi) A3 c3 W hk3 hl3 (sound_kid hs i hi) hn3)
  generalize textB (s.f2[i]'hi) = R at *
  clear hp hk3
  go_enter Tryd.func69, Tryd.ntmps69
  go_wp2_with (go_at_call 45; refine HC.out.mono ?_; rintro e w1 ⟨rfl, hB⟩; have HB := Aside0.mk hB; clear hB)
  go_ret
  exact ⟨rfl, HB.out⟩
def signA : Value := (.agg #[.string ⟨#[]⟩, .string ⟨#[]⟩, .string ⟨#[]⟩, .string ⟨#[]⟩, .string ⟨#[97, 110, 100]⟩, .string ⟨#[111, 114]⟩, .string ⟨#[]⟩, .string ⟨#[117, 110, 116, 105, 108]⟩, .string ⟨#[114, 101, 108, 101, 97, 115, 101]⟩])
theorem sign_4 (w : World) : (Instr.index 76 signA (.int .i64 4)).run Tryd.prog w = .ok (.string ⟨#[97, 110, 100]⟩) w := by kernel_rfl
theorem sign_5 (w : World) : (Instr.index 76 signA (.int .i64 5)).run Tryd.prog w = .ok (.string ⟨#[111, 114]⟩) w := by kernel_rfl
theorem sign_7 (w : World) : (Instr.index 76 signA (.int .i64 7)).run Tryd.prog w = .ok (.string ⟨#[117, 110, 116, 105, 108]⟩) w := by kernel_rfl
theorem sign_8 (w : World) : (Instr.index 76 signA (.int .i64 8)).run Tryd.prog w = .ok (.string ⟨#[114, 101, 108, 101, 97, 115, 101]⟩) w := by kernel_rfl
set_option maxHeartbeats 4000000 in
set_option maxRecDepth 100000 in
theorem text_calls (s : S24) (ih : ∀ k ∈ s.f2, TextAt k) : TextAt s := by
  intro A cp w hk hc hs hn
  have huF := Tryd.underlying24
  have huL := Tryd.underlying22
  have hua := Tryd.underlying76
  have hmf : ∀ fn first cap w, (Instr.makeFunc fn first cap).run Tryd.prog w = .ok (.func fn first cap) w := fun _ _ _ _ => rfl
  have he : ∀ args w, (callFunc 69 args).run Tryd.prog w = .ok (.enter 69 args) w := enters_f Tryd.func69 (by kernel_rfl) rfl
  obtain ⟨W1, hW1⟩ : ∃ W1, W1 = w.alloc (.cells #[.int .i64 s.f0, .int .i64 s.f1, .slice A s.f2.length cp] 24) := ⟨_, rfl⟩
  have hB1 : Below w.heap.size w W1 := by rw [hW1]; exact below_alloc (Below.refl _ _) _
  have hbx : W1.heap[w.heap.size]? = some (.cells #[.int .i64 s.f0, .int .i64 s.f1, .slice A s.f2.length cp] 24 (0, 0)) := by rw [hW1]; exact heap_alloc_new w _
  have HB1 := Aside0.mk hB1
  have HKID := Aside0.mk (fun (i : Nat) (hi : i < s.f2.length) W (hB : Below W1.heap.size W1 W) => show Calls Tryd.prog 69 (#[.int .i64 i] ++ #[.pointer (some ⟨w.heap.size, 0, none⟩)]) W _ from kid_calls s ih w.heap.size A cp W i hi ((hB.block _ (blk_lt hbx)).trans hbx) (Kd.C_below (Kd.C_below hk hB1) hB) hs hn)
  have x0 : W1.cell? ⟨w.heap.size, 0, none⟩ = some (.int .i64 s.f0) := (blk_cell hbx 0).trans rfl
  have x1 : W1.cell? ⟨w.heap.size, 1, none⟩ = some (.int .i64 s.f1) := (blk_cell hbx 1).trans rfl
  have HT := Aside0.mk (show textB s = ⟨(textS s).toArray⟩ from rfl)
  have HBX := Aside0.mk hbx
  have HSH := Aside0.mk (shape hs)
  clear hbx hB1 hk ih hs
  go_enter Tryd.func45, Tryd.ntmps45
  go_upto_region 1 with fail
  rw [← hW1]
  clear hW1
  cases HSH.out with
  | yes =>
    go_wp2
    go_ret
    exact ⟨rfl, HB1.out⟩
  | atom m h0 h1 =>
    obtain ⟨i, rfl⟩ := Int.eq_ofNat_of_zero_le h0
    have HI := Aside0.mk (fun W => itoa_calls i (by omega) W)
    have hsz : ¬ 9223372036854775807 < 1 + (⟨(decS (i : Int)).toArray⟩ : ByteArray).size := by
      have : (⟨(decS (i : Int)).toArray⟩ : ByteArray).size = (decS (i : Int)).length := by simp [ByteArray.size]
      rw [this]; unfold decS; split <;> simp
    have HR := Aside0.mk (show (⟨#[97]⟩ : ByteArray) ++ ⟨(decS (i : Int)).toArray⟩ = textB ⟨2, (i : Int), []⟩ from ba_app [97] (decS (i : Int)))
    generalize (⟨(decS (i : Int)).toArray⟩ : ByteArray) = R at *
    go_wp2_with (go_at_call 70; refine (HI.out _).mono ?_; rintro e w2 ⟨rfl, rfl⟩)
    go_ret
    exact ⟨by rw [← HR.out]; rfl, HB1.out⟩
  | no a ha =>
    have hza := Nat.le_trans (textB_size a) (Nat.mul_le_mul_left 12 (Nat.le_trans (nS_kid (s := ⟨3, 0, [a]⟩) (k := a) (by simp)) hn))
    have HR := Aside0.mk (show ((⟨#[40, 110, 111, 116, 32]⟩ : ByteArray) ++ textB a) ++ ⟨#[41]⟩ = textB ⟨3, 0, [a]⟩ from by unfold textB; rw [text_no, show (⟨#[40, 110, 111, 116, 32]⟩ : ByteArray) = ⟨([40, 110, 111, 116, 32] : List UInt8).toArray⟩ from rfl, show (⟨#[41]⟩ : ByteArray) = ⟨([41] : List UInt8).toArray⟩ from rfl, ba_app, ba_app, List.append_assoc])
    have HK := Aside0.mk (show Calls Tryd.prog 69 #[.int .i64 0, .pointer (some ⟨w.heap.size, 0, none⟩)] W1 (fun e W' => e = .returned (.string (textB a)) ∧ Below W1.heap.size W1 W') from HKID.out 0 (by simp) W1 (Below.refl _ _))
    have h1 : ¬ 9223372036854775807 < 5 + (textB a).size := by omega
    have h2 : ¬ 9223372036854775807 < 5 + (textB a).size + 1 := by omega
    generalize hX : textB a = X at *
    have HX := Aside0.mk hX
    clear hX
    go_wp2_with (go_at_call 69; refine HK.out.mono ?_; rintro e w2 ⟨rfl, hB⟩; have HB := Aside0.mk hB; clear hB)
    go_ret
    exact ⟨by rw [← HR.out]; rfl, HB1.out.trans (HB.out.mono HB1.out.size)⟩
  | next a ha =>
    have hza := Nat.le_trans (textB_size a) (Nat.mul_le_mul_left 12 (Nat.le_trans (nS_kid (s := ⟨6, 0, [a]⟩) (k := a) (by simp)) hn))
    have HR := Aside0.mk (show ((⟨#[40, 110, 101, 120, 116, 32]⟩ : ByteArray) ++ textB a) ++ ⟨#[41]⟩ = textB ⟨6, 0, [a]⟩ from by unfold textB; rw [text_next, show (⟨#[40, 110, 101, 120, 116, 32]⟩ : ByteArray) = ⟨([40, 110, 101, 120, 116, 32] : List UInt8).toArray⟩ from rfl, show (⟨#[41]⟩ : ByteArray) = ⟨([41] : List UInt8).toArray⟩ from rfl, ba_app, ba_app, List.append_assoc])
    have HK := Aside0.mk (show Calls Tryd.prog 69 #[.int .i64 0, .pointer (some ⟨w.heap.size, 0, none⟩)] W1 (fun e W' => e = .returned (.string (textB a)) ∧ Below W1.heap.size W1 W') from HKID.out 0 (by simp) W1 (Below.refl _ _))
    have h1 : ¬ 9223372036854775807 < 6 + (textB a).size := by omega
    have h2 : ¬ 9223372036854775807 < 6 + (textB a).size + 1 := by omega
    generalize hX : textB a = X at *
    have HX := Aside0.mk hX
    clear hX
    go_wp2_with (go_at_call 69; refine HK.out.mono ?_; rintro e w2 ⟨rfl, hB⟩; have HB := Aside0.mk hB; clear hB)
    go_ret
    exact ⟨by rw [← HR.out]; rfl, HB1.out.trans (HB.out.mono HB1.out.size)⟩
  | two op a b ho ha hb =>
    have hza := Nat.le_trans (textB_size a) (Nat.mul_le_mul_left 12 (Nat.le_trans (nS_kid (s := ⟨op, 0, [a, b]⟩) (k := a) (by simp)) hn))
    have hzb := Nat.le_trans (textB_size b) (Nat.mul_le_mul_left 12 (Nat.le_trans (nS_kid (s := ⟨op, 0, [a, b]⟩) (k := b) (by simp)) hn))
    have HR0 := Aside0.mk (fun (g : List UInt8) (hg : signS op = g) => show ((((((⟨#[40]⟩ : ByteArray) ++ textB a) ++ ⟨#[32]⟩) ++ ⟨g.toArray⟩) ++ ⟨#[32]⟩) ++ textB b) ++ ⟨#[41]⟩ = textB ⟨op, 0, [a, b]⟩ from by
      unfold textB; rw [text_two ho, ← hg, show (⟨#[40]⟩ : ByteArray) = ⟨([40] : List UInt8).toArray⟩ from rfl, show (⟨#[41]⟩ : ByteArray) = ⟨([41] : List UInt8).toArray⟩ from rfl, show (⟨#[32]⟩ : ByteArray) = ⟨([32] : List UInt8).toArray⟩ from rfl, ba_app, ba_app, ba_app, ba_app, ba_app, ba_app]; simp)
    have HK0 := Aside0.mk (show Calls Tryd.prog 69 #[.int .i64 0, .pointer (some ⟨w.heap.size, 0, none⟩)] W1 (fun e W' => e = .returned (.string (textB a)) ∧ Below W1.heap.size W1 W') from HKID.out 0 (by simp) W1 (Below.refl _ _))
    have HK1 := Aside0.mk (fun W (hB : Below W1.heap.size W1 W) => show Calls Tryd.prog 69 #[.int .i64 1, .pointer (some ⟨w.heap.size, 0, none⟩)] W (fun e W' => e = .returned (.string (textB b)) ∧ Below W.heap.size W W') from HKID.out 1 (by simp) W hB)
    generalize hX : textB a = X at *
    generalize hY : textB b = Y at *
    have HX := Aside0.mk hX
    have HY := Aside0.mk hY
    clear hX hY
    have h1 : ¬ 9223372036854775807 < 1 + X.size := by omega
    have h2 : ¬ 9223372036854775807 < 1 + X.size + 1 := by omega
    rcases ho with e | e | e | e
    · have hix := sign_4
      unfold signA at hix
      have HR := Aside0.mk (HR0.out [97, 110, 100] (by rw [e]; rfl))
      subst e
      have h3 : ¬ 9223372036854775807 < 1 + X.size + 1 + 3 := by omega
      have h4 : ¬ 9223372036854775807 < 1 + X.size + 1 + 3 + 1 := by omega
      have h5 : ¬ 9223372036854775807 < 1 + X.size + 1 + 3 + 1 + Y.size := by omega
      have h6 : ¬ 9223372036854775807 < 1 + X.size + 1 + 3 + 1 + Y.size + 1 := by omega
      go_wp2_with (first | (go_at_call 69; with_reducible refine HK0.out.mono ?_; rintro e w2 ⟨rfl, hB⟩; have HB := Aside0.mk hB; clear hB) | (go_at_call 69; with_reducible refine (HK1.out _ HB.out).mono ?_; rintro e w3 ⟨rfl, hB3⟩; have HB3 := Aside0.mk (HB.out.trans (hB3.mono HB.out.size)); clear hB3))
      go_ret
      exact ⟨by rw [← HR.out]; rfl, HB1.out.trans (HB3.out.mono HB1.out.size)⟩
    · have hix := sign_5
      unfold signA at hix
      have HR := Aside0.mk (HR0.out [111, 114] (by rw [e]; rfl))
      subst e
      have h3 : ¬ 9223372036854775807 < 1 + X.size + 1 + 2 := by omega
      have h4 : ¬ 9223372036854775807 < 1 + X.size + 1 + 2 + 1 := by omega
      have h5 : ¬ 9223372036854775807 < 1 + X.size + 1 + 2 + 1 + Y.size := by omega
      have h6 : ¬ 9223372036854775807 < 1 + X.size + 1 + 2 + 1 + Y.size + 1 := by omega
      go_wp2_with (first | (go_at_call 69; with_reducible refine HK0.out.mono ?_; rintro e w2 ⟨rfl, hB⟩; have HB := Aside0.mk hB; clear hB) | (go_at_call 69; with_reducible refine (HK1.out _ HB.out).mono ?_; rintro e w3 ⟨rfl, hB3⟩; have HB3 := Aside0.mk (HB.out.trans (hB3.mono HB.out.size)); clear hB3))
      go_ret
      exact ⟨by rw [← HR.out]; rfl, HB1.out.trans (HB3.out.mono HB1.out.size)⟩
    · have hix := sign_7
      unfold signA at hix
      have HR := Aside0.mk (HR0.out [117, 110, 116, 105, 108] (by rw [e]; rfl))
      subst e
      have h3 : ¬ 9223372036854775807 < 1 + X.size + 1 + 5 := by omega
      have h4 : ¬ 9223372036854775807 < 1 + X.size + 1 + 5 + 1 := by omega
      have h5 : ¬ 9223372036854775807 < 1 + X.size + 1 + 5 + 1 + Y.size := by omega
      have h6 : ¬ 9223372036854775807 < 1 + X.size + 1 + 5 + 1 + Y.size + 1 := by omega
      go_wp2_with (first | (go_at_call 69; with_reducible refine HK0.out.mono ?_; rintro e w2 ⟨rfl, hB⟩; have HB := Aside0.mk hB; clear hB) | (go_at_call 69; with_reducible refine (HK1.out _ HB.out).mono ?_; rintro e w3 ⟨rfl, hB3⟩; have HB3 := Aside0.mk (HB.out.trans (hB3.mono HB.out.size)); clear hB3))
      go_ret
      exact ⟨by rw [← HR.out]; rfl, HB1.out.trans (HB3.out.mono HB1.out.size)⟩
    · have hix := sign_8
      unfold signA at hix
      have HR := Aside0.mk (HR0.out [114, 101, 108, 101, 97, 115, 101] (by rw [e]; rfl))
      subst e
      have h3 : ¬ 9223372036854775807 < 1 + X.size + 1 + 7 := by omega
      have h4 : ¬ 9223372036854775807 < 1 + X.size + 1 + 7 + 1 := by omega
      have h5 : ¬ 9223372036854775807 < 1 + X.size + 1 + 7 + 1 + Y.size := by omega
      have h6 : ¬ 9223372036854775807 < 1 + X.size + 1 + 7 + 1 + Y.size + 1 := by omega
      go_wp2_with (first | (go_at_call 69; with_reducible refine HK0.out.mono ?_; rintro e w2 ⟨rfl, hB⟩; have HB := Aside0.mk hB; clear hB) | (go_at_call 69; with_reducible refine (HK1.out _ HB.out).mono ?_; rintro e w3 ⟨rfl, hB3⟩; have HB3 := Aside0.mk (HB.out.trans (hB3.mono HB.out.size)); clear hB3))
      go_ret
      exact ⟨by rw [← HR.out]; rfl, HB1.out.trans (HB3.out.mono HB1.out.size)⟩
mutual
theorem text_all : ∀ s : S24, TextAt s
  | ⟨op, m, kids⟩ => text_calls ⟨op, m, kids⟩ (text_kids kids)
theorem text_kids : ∀ (l : List S24) (k : S24), k ∈ l → TextAt k
  | [], k, hk => by simp at hk
  | a :: r, k, hk => by
    rcases List.mem_cons.1 hk with h | h
    · rw [h]
      exact text_all a
    · exact text_kids r k h
end
def formula_text.f (a0_0 : Int) (a0_1 : Int) (l0_2 : List S24) : Option ByteArray := if soundS ⟨a0_0, a0_1, l0_2⟩ = true ∧ nS (⟨a0_0, a0_1, l0_2⟩ : S24) ≤ 60 then some (textB ⟨a0_0, a0_1, l0_2⟩) else none
theorem formula_text.calls (a0_0 : Int) (a0_1 : Int) (A0_2 : Option Addr) (c0_2 : Nat) (l0_2 : List S24) (r : ByteArray) (w : World) (hr0_2 : Kd.C k24 w A0_2 l0_2.length l0_2) (hc0_2 : l0_2.length ≤ c0_2) (h : formula_text.f a0_0 a0_1 l0_2 = some r) :
    Calls Tryd.prog 45 #[.agg #[.int .i64 a0_0, .int .i64 a0_1, .slice A0_2 l0_2.length c0_2]] w fun e w' => e = .returned (.string r) ∧ Below w.heap.size w w' := by
  unfold formula_text.f at h
  split at h
  · rename_i hb
    obtain rfl := Option.some.inj h
    exact text_all ⟨a0_0, a0_1, l0_2⟩ A0_2 c0_2 w hr0_2 hc0_2 hb.1 hb.2
  · cases h
end Go.Proofs.YtjjnokodkeekhaaDoor.X

namespace Go.Proofs.YtjjnokodkeekhaaDoor.P
open Go.RowKit Go.Proofs.YtjjnokodkeekhaaDoorW.PrintWords Go.Proofs.YtjjnokodkeekhaaDoorW.PrintLast Go.Proofs.YtjjnokodkeekhaaDoorW.PrintMore
attribute [local go_sem] max2_int min2_int max_two min_two max_three min_three max_four min_four   -- for this text's walks alone
set_option linter.unusedVariables false
set_option linter.unusedSimpArgs false

mutual
def formula_copied.l0 : Nat → List (S24) → Int → Int → Int → Int → List (S24) → Option (Int × Int × (List (S24)))
  | 0, _, _, _, _, _, _ => none
  | k + 1, x12, x13, x14, x136000, x136001, x136002 => if x14 < x13 then (if 0 ≤ x14 then (if x14 < (x12.length : Int) then ((formula_copied.f k ((rd_T24 x12 x14).f0) ((rd_T24 x12 x14).f1) ((rd_T24 x12 x14).f2)).bind fun bt138 => (if x136002.length < 3518437208883 then (formula_copied.l0 k x12 x13 (wrap64 (x14 + 1)) x136000 x136001 (x136002 ++ [(⟨bt138.1, bt138.2.1, bt138.2.2⟩ : S24)])) else (none))) else (none)) else (none)) else (some (x136000, x136001, x136002))
def formula_copied.f : Nat → Int → Int → List (S24) → Option (Int × Int × (List (S24)))
  | 0, _, _, _ => none
  | k + 1, a0_0, a0_1, l0_2 => formula_copied.l0 k l0_2 (l0_2.length : Int) 0 a0_0 a0_1 ([] : List (S24))
end
theorem formula_copied.mono_l : ∀ k, (∀ y0 y1 y2, LeO (formula_copied.f k y0 y1 y2) (formula_copied.f (k + 1) y0 y1 y2)) ∧ (∀ y0 y1 y2 y3 y4 y5, LeO (formula_copied.l0 k y0 y1 y2 y3 y4 y5) (formula_copied.l0 (k + 1) y0 y1 y2 y3 y4 y5))
  | 0 => ⟨fun _ _ _ r h => by simp [formula_copied.f] at h, fun _ _ _ _ _ _ r h => by simp [formula_copied.l0] at h⟩
  | k + 1 => by
    obtain ⟨ih0, ih1⟩ := formula_copied.mono_l k
    refine ⟨?_, ?_⟩
    · intro y0 y1 y2
      unfold formula_copied.f
      repeat' first
      | (with_reducible exact ih0 _ _ _)
      | (with_reducible exact ih1 _ _ _ _ _ _)
      | (with_reducible exact LeO.refl _)
      | (with_reducible exact LeO.none _)
      | (with_reducible refine LeO.ite ?_ ?_)
      | (with_reducible refine LeO.bind ?_ (fun _ => ?_))
      | exact ih0 _ _ _
      | exact ih1 _ _ _ _ _ _
      | exact LeO.none _
      | refine LeO.ite ?_ ?_
      | refine LeO.bind ?_ (fun _ => ?_)
    · intro y0 y1 y2 y3 y4 y5
      unfold formula_copied.l0
      repeat' first
      | (with_reducible exact ih0 _ _ _)
      | (with_reducible exact ih1 _ _ _ _ _ _)
      | (with_reducible exact LeO.refl _)
      | (with_reducible exact LeO.none _)
      | (with_reducible refine LeO.ite ?_ ?_)
      | (with_reducible refine LeO.bind ?_ (fun _ => ?_))
      | exact ih0 _ _ _
      | exact ih1 _ _ _ _ _ _
      | exact LeO.none _
      | refine LeO.ite ?_ ?_
      | refine LeO.bind ?_ (fun _ => ?_)
theorem formula_copied.mono : ∀ a0 a1 a2 k, LeO (formula_copied.f k a0 a1 a2) (formula_copied.f (k + 1) a0 a1 a2) := by
  intro a0 a1 a2 k
  obtain ⟨ih0, ih1⟩ := formula_copied.mono_l k
  exact ih0 a0 a1 a2
def formula_copied.T5 : Bool × List (List Nat × List Nat) := (true, [([], []), ([0], [0]), ([], []), ([2], [2]), ([3], [3]), ([1, 4, 3], [1, 4]), ([0, 1, 2, 3, 4, 5], []), ([6, 5, 5, 0, 1, 2, 3, 4, 5], [5, 6])])
def formula_copied.B5 : List Nat := [0, 1, 0, 4, 12, 31, 63, 127]
theorem formula_copied.tab5 : rtab .any (opsOf Tryd.f47 5) = formula_copied.T5 := by kernel_rfl
theorem formula_copied.bits5 : waitsOk formula_copied.T5.2 formula_copied.B5 = true := by kernel_rfl
set_option maxHeartbeats 8000000 in
set_option maxRecDepth 100000 in
theorem formula_copied.calls (k : Nat) : ∀ (a0_0 : Int) (a0_1 : Int) (A0_2 : Option Addr) (c0_2 : Nat) (l0_2 : List (S24)) (r1 : Int) (r2 : Int) (r3 : List (S24)) (w : World) (hr0_2 : Kd.C k24 w A0_2 l0_2.length l0_2) (hc0_2 : l0_2.length ≤ c0_2) (h : formula_copied.f k a0_0 a0_1 l0_2 = some (r1, r2, r3)),
    Calls Tryd.prog 47 #[.agg #[.int .i64 a0_0, .int .i64 a0_1, .slice A0_2 l0_2.length c0_2]] w fun e w' => ∃ v2_ : Value, e = .returned (.agg #[.int .i64 r1, .int .i64 r2, v2_]) ∧ Kd.R k24 24 w' w.heap.size (fun _ => True) v2_ r3 ∧ Below w.heap.size w w' := by
  induction k using Nat.strongRecOn with
  | _ k ih =>
  intro a0_0 a0_1 A0_2 c0_2 l0_2 r1 r2 r3 w hr0_2 hc0_2 h
  cases k with
  | zero => exact absurd h (by simp [formula_copied.f])
  | succ k =>
  simp only [formula_copied.f] at h
  have hu24 := Tryd.underlying24
  have HR0_2 := Aside0.mk hr0_2
  have HC0_2 := Aside0.mk hc0_2
  clear hr0_2 hc0_2
  have HB := Aside0.mk (Below.refl w.heap.size w)
  have H : (formula_copied.l0 k l0_2 (l0_2.length : Int) 0 a0_0 a0_1 ([] : List (S24))) = some (r1, r2, r3) := h
  clear h
  have H' := Aside0.mk H
  clear H
  go_enter Tryd.func47, Tryd.ntmps47
  go_wp2_with (first | ((with_reducible refine gate_dst (N := 1) rfl ?_); refine box_event ?hg (N := 1) ?hd (cs := #[.int .i64 a0_0, .int .i64 a0_1, .slice A0_2 l0_2.length c0_2]) (t := 24) ?hr ?_; (case hd => rfl); (case hg => rfl); (case hr => first | (go_simp; done) | (go_simp; rfl)); intro gb133 hg w2 hbox hb; have n0_ := Aside0.mk (below_step (by repeat (first | (with_reducible first | exact HB.out | apply below_alloc | apply pw_below_drewN | apply below_drew1) | exact HB.out)) hb); have n1_ := Aside0.mk (hbox); have n2_ := Aside0.mk ((by rw [hg]; exact (below_size (by repeat (first | (with_reducible first | exact HB.out | apply below_alloc | apply pw_below_drewN | apply below_drew1) | exact HB.out))) : w.heap.size ≤ gb133)); have n3_ := Aside0.mk ((by rw [hg]; exact (below_size (by repeat (first | (with_reducible first | exact HB.out | apply below_alloc | apply pw_below_drewN | apply below_drew1) | exact HB.out))) : w.heap.size ≤ gb133)); clear HB; have HB := n0_; have BK133 := n1_; have GW133 := n2_; have GE133 := n3_; clear n0_ n1_ n2_ n3_; clear hb hbox hg) | ((with_reducible refine gate_dst (N := 2) rfl ?_); refine box_event ?hg (N := 2) ?hd (cs := #[.int .i64 0, .int .i64 0, .slice none 0 0]) (t := 24) ?hr ?_; (case hd => rfl); (case hg => rfl); (case hr => first | (go_simp; done) | (go_simp; rfl)); intro gb134 hg w3 hbox hb; have n0_ := Aside0.mk (blk_below (g := gb133) (o := .cells #[.int .i64 a0_0, .int .i64 a0_1, .slice A0_2 l0_2.length c0_2] 24 (0, 0)) (by (with_reducible repeat (first | refine blk_drewN ?_ _ | refine blk_drew ?_ | refine blk_alloc ?_ _)); exact BK133.out) hb); have n1_ := Aside0.mk (below_step (by repeat (first | (with_reducible first | exact HB.out | apply below_alloc | apply pw_below_drewN | apply below_drew1 | refine below_set ?_ GE133.out) | exact HB.out)) hb); have n2_ := Aside0.mk (hbox); have n3_ := Aside0.mk ((by rw [hg]; exact (below_size (by repeat (first | (with_reducible first | exact HB.out | apply below_alloc | apply pw_below_drewN | apply below_drew1 | refine below_set ?_ GE133.out) | exact HB.out))) : w.heap.size ≤ gb134)); have n4_ := Aside0.mk ((by rw [hg]; exact (below_size (by repeat (first | (with_reducible first | exact HB.out | apply below_alloc | apply pw_below_drewN | apply below_drew1 | refine below_set ?_ GE133.out) | exact HB.out))) : w.heap.size ≤ gb134)); have n5_ := Aside0.mk ((by rw [hg]; exact Nat.ne_of_lt (blk_lt (g := gb133) (o := .cells #[.int .i64 a0_0, .int .i64 a0_1, .slice A0_2 l0_2.length c0_2] 24 (0, 0)) (by (with_reducible repeat (first | refine blk_drewN ?_ _ | refine blk_drew ?_ | refine blk_alloc ?_ _)); exact BK133.out)) : gb133 ≠ gb134)); have n6_ := Aside0.mk ((by rw [hg]; exact Nat.ne_of_gt (blk_lt (g := gb133) (o := .cells #[.int .i64 a0_0, .int .i64 a0_1, .slice A0_2 l0_2.length c0_2] 24 (0, 0)) (by (with_reducible repeat (first | refine blk_drewN ?_ _ | refine blk_drew ?_ | refine blk_alloc ?_ _)); exact BK133.out)) : gb134 ≠ gb133)); clear BK133; clear HB; have BK133 := n0_; have HB := n1_; have BK134 := n2_; have GW134 := n3_; have GE134 := n4_; have NB133_134 := n5_; have NB134_133 := n6_; clear n0_ n1_ n2_ n3_ n4_ n5_ n6_; clear hb hbox hg; have hnb4 := NB133_134.out; have hnc4 := NB134_133.out; have hcz5_0 : w3.cell? ⟨gb133, 0, none⟩ = some (.int .i64 a0_0) := (blk_cell BK133.out 0).trans rfl; have hcz5_1 : w3.cell? ⟨gb133, 1, none⟩ = some (.int .i64 a0_1) := (blk_cell BK133.out 1).trans rfl; have hcz5_2 : w3.cell? ⟨gb133, 2, none⟩ = some (.slice A0_2 l0_2.length c0_2) := (blk_cell BK133.out 2).trans rfl; have hfz5_0 := blk_frozen BK133.out 0; have hfz5_1 := blk_frozen BK133.out 1; have hfz5_2 := blk_frozen BK133.out 2) | ((with_reducible refine gate_dst (N := 3) rfl ?_); refine box_event ?hg (N := 3) ?hd (cs := #[.int .i64 0, .int .i64 0, .slice none 0 0]) (t := 24) ?hr ?_; (case hd => rfl); (case hg => rfl); (case hr => first | (go_simp; done) | (go_simp; rfl)); intro gb135 hg w6 hbox hb; have n0_ := Aside0.mk (blk_below (g := gb133) (o := .cells #[.int .i64 a0_0, .int .i64 a0_1, .slice A0_2 l0_2.length c0_2] 24 (0, 0)) (by (with_reducible repeat (first | refine blk_drewN ?_ _ | refine blk_drew ?_ | refine blk_alloc ?_ _)); exact BK133.out) hb); have n1_ := Aside0.mk (blk_below (g := gb134) (o := .cells #[.int .i64 0, .int .i64 0, .slice none 0 0] 24 (0, 0)) (by (with_reducible repeat (first | refine blk_drewN ?_ _ | refine blk_drew ?_ | refine blk_alloc ?_ _)); exact BK134.out) hb); have n2_ := Aside0.mk (below_step (by repeat (first | (with_reducible first | exact HB.out | apply below_alloc | apply pw_below_drewN | apply below_drew1 | refine below_set ?_ GE133.out | refine below_set ?_ GE134.out) | exact HB.out)) hb); have n3_ := Aside0.mk (hbox); have n4_ := Aside0.mk ((by rw [hg]; exact (below_size (by repeat (first | (with_reducible first | exact HB.out | apply below_alloc | apply pw_below_drewN | apply below_drew1 | refine below_set ?_ GE133.out | refine below_set ?_ GE134.out) | exact HB.out))) : w.heap.size ≤ gb135)); have n5_ := Aside0.mk ((by rw [hg]; exact (below_size (by repeat (first | (with_reducible first | exact HB.out | apply below_alloc | apply pw_below_drewN | apply below_drew1 | refine below_set ?_ GE133.out | refine below_set ?_ GE134.out) | exact HB.out))) : w.heap.size ≤ gb135)); have n6_ := Aside0.mk ((by rw [hg]; exact Nat.ne_of_lt (blk_lt (g := gb133) (o := .cells #[.int .i64 a0_0, .int .i64 a0_1, .slice A0_2 l0_2.length c0_2] 24 (0, 0)) (by (with_reducible repeat (first | refine blk_drewN ?_ _ | refine blk_drew ?_ | refine blk_alloc ?_ _)); exact BK133.out)) : gb133 ≠ gb135)); have n7_ := Aside0.mk ((by rw [hg]; exact Nat.ne_of_gt (blk_lt (g := gb133) (o := .cells #[.int .i64 a0_0, .int .i64 a0_1, .slice A0_2 l0_2.length c0_2] 24 (0, 0)) (by (with_reducible repeat (first | refine blk_drewN ?_ _ | refine blk_drew ?_ | refine blk_alloc ?_ _)); exact BK133.out)) : gb135 ≠ gb133)); have n8_ := Aside0.mk ((by rw [hg]; exact Nat.ne_of_lt (blk_lt (g := gb134) (o := .cells #[.int .i64 0, .int .i64 0, .slice none 0 0] 24 (0, 0)) (by (with_reducible repeat (first | refine blk_drewN ?_ _ | refine blk_drew ?_ | refine blk_alloc ?_ _)); exact BK134.out)) : gb134 ≠ gb135)); have n9_ := Aside0.mk ((by rw [hg]; exact Nat.ne_of_gt (blk_lt (g := gb134) (o := .cells #[.int .i64 0, .int .i64 0, .slice none 0 0] 24 (0, 0)) (by (with_reducible repeat (first | refine blk_drewN ?_ _ | refine blk_drew ?_ | refine blk_alloc ?_ _)); exact BK134.out)) : gb135 ≠ gb134)); clear BK133; clear BK134; clear HB; have BK133 := n0_; have BK134 := n1_; have HB := n2_; have BK135 := n3_; have GW135 := n4_; have GE135 := n5_; have NB133_135 := n6_; have NB135_133 := n7_; have NB134_135 := n8_; have NB135_134 := n9_; clear n0_ n1_ n2_ n3_ n4_ n5_ n6_ n7_ n8_ n9_; clear hb hbox hg; have hnb7 := NB135_133.out; have hnc7 := NB133_135.out; have hnb8 := NB135_134.out; have hnc8 := NB134_135.out; have hcz9_0 : w6.cell? ⟨gb135, 0, none⟩ = some (.int .i64 0) := (blk_cell BK135.out 0).trans rfl; have hcz9_1 : w6.cell? ⟨gb135, 1, none⟩ = some (.int .i64 0) := (blk_cell BK135.out 1).trans rfl; have hcz9_2 : w6.cell? ⟨gb135, 2, none⟩ = some (.slice none 0 0) := (blk_cell BK135.out 2).trans rfl; have hfz9_0 := blk_frozen BK135.out 0; have hfz9_1 := blk_frozen BK135.out 1; have hfz9_2 := blk_frozen BK135.out 2; have hcz10_0 : w6.cell? ⟨gb133, 0, none⟩ = some (.int .i64 a0_0) := (blk_cell BK133.out 0).trans rfl; have hcz10_1 : w6.cell? ⟨gb133, 1, none⟩ = some (.int .i64 a0_1) := (blk_cell BK133.out 1).trans rfl; have hcz10_2 : w6.cell? ⟨gb133, 2, none⟩ = some (.slice A0_2 l0_2.length c0_2) := (blk_cell BK133.out 2).trans rfl; have hfz10_0 := blk_frozen BK133.out 0; have hfz10_1 := blk_frozen BK133.out 1; have hfz10_2 := blk_frozen BK133.out 2))
  go_loopg [14] k (fun kq v14 w' => ∃ (x14_1 : Int) (x136002_1 : List (S24)) (u136002 : Value), v14 = .int .i64 x14_1 ∧ Aside0 (formula_copied.l0 kq l0_2 (l0_2.length : Int) x14_1 a0_0 a0_1 x136002_1 = some (r1, r2, r3)) ∧ Aside0 (kq ≤ k) ∧ Aside0 (Kd.R k24 24 w' w.heap.size (fun k_ => k_ ≠ gb133 ∧ k_ ≠ gb134 ∧ k_ ≠ gb135) u136002 x136002_1) ∧ Aside0 (w'.heap[gb133]? = some (.cells #[.int .i64 a0_0, .int .i64 a0_1, (.slice A0_2 l0_2.length c0_2)] 24 (0, 0))) ∧ Aside0 (w'.heap[gb134]? = some (.cells #[.int .i64 0, .int .i64 0, (.slice none 0 0)] 24 (0, 0))) ∧ Aside0 (w'.heap[gb135]? = some (.cells #[.int .i64 a0_0, .int .i64 a0_1, u136002] 24 (0, 0))) ∧ Aside0 (Below w.heap.size w w'))
  case atStart => exact ⟨(0), (([] : List (S24))), (.slice none 0 0), (by first | rfl | (simp; done) | (simp [*]; done)), H', ⟨Nat.le_refl _⟩, ⟨by first | exact Kd.R_nil _ _ _ _ _ | exact Kd.N_nil _ _ _ _ _ | exact Kd.V_nil _ _ _ _ _ | exact Kd.Q_nil _ _ _ _ _ | exact Kd.S_nil _ _ _ _ _⟩, ⟨by (with_reducible repeat (first | refine blk_drewN ?_ _ | refine blk_drew ?_ | refine blk_alloc ?_ _)); refine blk_far ?_ NB133_135.out _; (with_reducible repeat (first | refine blk_drewN ?_ _ | refine blk_drew ?_ | refine blk_alloc ?_ _)); refine blk_far ?_ NB133_135.out _; (with_reducible repeat (first | refine blk_drewN ?_ _ | refine blk_drew ?_ | refine blk_alloc ?_ _)); refine blk_far ?_ NB133_135.out _; (with_reducible repeat (first | refine blk_drewN ?_ _ | refine blk_drew ?_ | refine blk_alloc ?_ _)); exact BK133.out⟩, ⟨by (with_reducible repeat (first | refine blk_drewN ?_ _ | refine blk_drew ?_ | refine blk_alloc ?_ _)); refine blk_far ?_ NB134_135.out _; (with_reducible repeat (first | refine blk_drewN ?_ _ | refine blk_drew ?_ | refine blk_alloc ?_ _)); refine blk_far ?_ NB134_135.out _; (with_reducible repeat (first | refine blk_drewN ?_ _ | refine blk_drew ?_ | refine blk_alloc ?_ _)); refine blk_far ?_ NB134_135.out _; (with_reducible repeat (first | refine blk_drewN ?_ _ | refine blk_drew ?_ | refine blk_alloc ?_ _)); exact BK134.out⟩, ⟨by (with_reducible repeat (first | refine blk_drewN ?_ _ | refine blk_drew ?_ | refine blk_alloc ?_ _)); refine blk_put (cs := #[.int .i64 a0_0, .int .i64 a0_1, .slice none 0 0]) ?_ 2 _ rfl; (with_reducible repeat (first | refine blk_drewN ?_ _ | refine blk_drew ?_ | refine blk_alloc ?_ _)); refine blk_put (cs := #[.int .i64 a0_0, .int .i64 0, .slice none 0 0]) ?_ 1 _ rfl; (with_reducible repeat (first | refine blk_drewN ?_ _ | refine blk_drew ?_ | refine blk_alloc ?_ _)); refine blk_put (cs := #[.int .i64 0, .int .i64 0, .slice none 0 0]) ?_ 0 _ rfl; (with_reducible repeat (first | refine blk_drewN ?_ _ | refine blk_drew ?_ | refine blk_alloc ?_ _)); exact BK135.out⟩, ⟨by repeat (first | (with_reducible first | exact HB.out | apply below_alloc | apply pw_below_drewN | apply below_drew1 | refine below_set ?_ GE133.out | refine below_set ?_ GE134.out | refine below_set ?_ GE135.out) | exact HB.out)⟩⟩
  case round =>
    clear H'
    try clear p2
    try clear c4
    try clear c7
    try clear c8
    try clear hcz10_0
    try clear hcz10_1
    try clear hcz10_2
    try clear hcz5_0
    try clear hcz5_1
    try clear hcz5_2
    try clear hcz9_0
    try clear hcz9_1
    try clear hcz9_2
    try clear hfz10_0
    try clear hfz10_1
    try clear hfz10_2
    try clear hfz5_0
    try clear hfz5_1
    try clear hfz5_2
    try clear hfz9_0
    try clear hfz9_1
    try clear hfz9_2
    obtain ⟨x14_1, x136002_1, u136002, rfl, HA, HK1, HO_136002, BK133, BK134, BK135, HB⟩ := hrel
    cases gk with
    | zero => exact absurd HA.out (by simp [formula_copied.l0])
    | succ k1 =>
      have H := HA.out
      clear HA
      simp only [formula_copied.l0] at H
      by_cases c11 : x14_1 < (l0_2.length : Int)
      · rw [if_pos c11] at H
        have c11b0 : decide (x14_1 < (l0_2.length : Int)) = true := decide_eq_true c11
        clear c11
        by_cases c12 : 0 ≤ x14_1
        · rw [if_pos c12] at H
          have c12b0 : decide (0 ≤ x14_1) = true := decide_eq_true c12
          clear c12
          by_cases c13 : x14_1 < (l0_2.length : Int)
          · rw [if_pos c13] at H
            have c13b0 : decide (x14_1 < (l0_2.length : Int)) = true := decide_eq_true c13
            clear c13
            replace H := Option.bind_eq_some_iff.mp H
            obtain ⟨⟨t138, t139, t140⟩, A140, H⟩ := H
            replace H : (if x136002_1.length < 3518437208883 then (formula_copied.l0 k1 l0_2 (l0_2.length : Int) (wrap64 (x14_1 + 1)) a0_0 a0_1 (x136002_1 ++ [(⟨t138, t139, t140⟩ : S24)])) else (none)) = some (r1, r2, r3) := H
            have A14 := Aside0.mk A140
            clear A140
            by_cases c15 : x136002_1.length < 3518437208883
            · rw [if_pos c15] at H
              have LMc15 := Aside0.mk c15
              clear c15
              obtain ⟨y143, hy143⟩ : ∃ y_ : List (S24), y_ = (x136002_1 ++ [(⟨t138, t139, t140⟩ : S24)]) := ⟨_, rfl⟩
              replace H : (formula_copied.l0 k1 l0_2 (l0_2.length : Int) (wrap64 (x14_1 + 1)) a0_0 a0_1 y143) = some (r1, r2, r3) := by first | (rw [hy143]; with_reducible exact H) | (have H2_ := (Option.bind_some _ _).symm.trans H; rw [hy143]; with_reducible exact H2_) | (have H2_ := (Option.bind_some _ _).symm.trans H; with_reducible exact H2_) | with_reducible exact H | (rw [hy143]; exact H) | exact H
              have Ny143 := Aside0.mk hy143
              clear hy143
              have H' := Aside0.mk H
              clear H
              have p136 : 0 ≤ (x14_1 : Int) := of_decide_eq_true (by first | (with_reducible assumption) | assumption)
              have q136 : x14_1 < (l0_2.length : Int) := of_decide_eq_true (by first | (with_reducible assumption) | assumption)
              obtain ⟨ad136, A136_2, c136_2, e136, hx136_0, hx136_1, hx136_2, hl136_2, hi136_2⟩ := at_T24 HR0_2.out x14_1 p136 q136
              cases e136
              replace hx136_0 := (HB.out.cell (World.block_lt_of_cell? w _ hx136_0)).trans hx136_0
              replace hx136_1 := (HB.out.cell (World.block_lt_of_cell? w _ hx136_1)).trans hx136_1
              replace hx136_2 := (HB.out.cell (World.block_lt_of_cell? w _ hx136_2)).trans hx136_2
              have HR136_2 := Aside0.mk hi136_2
              have HC136_2 := Aside0.mk hl136_2
              clear hi136_2 hl136_2
              replace p136 := eq_true p136
              replace q136 := eq_true q136
              try go_wp2_with (first | ((with_reducible refine gate_dst (N := 5) rfl ?_); refine box_event ?hg (N := 5) ?hd (cs := #[.int .i64 0, .int .i64 0, .slice none 0 0]) (t := 24) ?hr ?_; (case hd => rfl); (case hg => rfl); (case hr => first | (go_simp; done) | (go_simp; rfl)); intro gb137 hg w16 hbox hb; have n0_ := Aside0.mk (Kd.R_below (Kd.R_elderB (by (with_reducible repeat (first | apply Kd.R_alloc | apply Kd.R_drewN | apply Kd.R_drew)); exact HO_136002.out) gb137 (Nat.le_of_eq hg.symm)) hb); have n1_ := Aside0.mk (blk_below (g := gb133) (o := .cells #[.int .i64 a0_0, .int .i64 a0_1, .slice (some ad136) l0_2.length c0_2] 24 (0, 0)) (by (with_reducible repeat (first | refine blk_drewN ?_ _ | refine blk_drew ?_ | refine blk_alloc ?_ _)); exact BK133.out) hb); have n2_ := Aside0.mk (blk_below (g := gb134) (o := .cells #[.int .i64 0, .int .i64 0, .slice none 0 0] 24 (0, 0)) (by (with_reducible repeat (first | refine blk_drewN ?_ _ | refine blk_drew ?_ | refine blk_alloc ?_ _)); exact BK134.out) hb); have n3_ := Aside0.mk (blk_below (g := gb135) (o := .cells #[.int .i64 a0_0, .int .i64 a0_1, u136002] 24 (0, 0)) (by (with_reducible repeat (first | refine blk_drewN ?_ _ | refine blk_drew ?_ | refine blk_alloc ?_ _)); exact BK135.out) hb); have n4_ := Aside0.mk (below_step (by repeat (first | (with_reducible first | exact HB.out | apply below_alloc | apply pw_below_drewN | apply below_drew1 | refine below_set ?_ GE133.out | refine below_set ?_ GE134.out | refine below_set ?_ GE135.out) | exact HB.out)) hb); have n5_ := Aside0.mk (hbox); have n6_ := Aside0.mk ((by rw [hg]; exact (below_size (by repeat (first | (with_reducible first | exact HB.out | apply below_alloc | apply pw_below_drewN | apply below_drew1 | refine below_set ?_ GE133.out | refine below_set ?_ GE134.out | refine below_set ?_ GE135.out) | exact HB.out))) : w.heap.size ≤ gb137)); have n7_ := Aside0.mk ((by rw [hg]; exact (below_size (by repeat (first | (with_reducible first | exact HB.out | apply below_alloc | apply pw_below_drewN | apply below_drew1 | refine below_set ?_ GE133.out | refine below_set ?_ GE134.out | refine below_set ?_ GE135.out) | exact HB.out))) : w.heap.size ≤ gb137)); have n8_ := Aside0.mk ((by rw [hg]; exact Nat.ne_of_lt (blk_lt (g := gb133) (o := .cells #[.int .i64 a0_0, .int .i64 a0_1, .slice (some ad136) l0_2.length c0_2] 24 (0, 0)) (by (with_reducible repeat (first | refine blk_drewN ?_ _ | refine blk_drew ?_ | refine blk_alloc ?_ _)); exact BK133.out)) : gb133 ≠ gb137)); have n9_ := Aside0.mk ((by rw [hg]; exact Nat.ne_of_gt (blk_lt (g := gb133) (o := .cells #[.int .i64 a0_0, .int .i64 a0_1, .slice (some ad136) l0_2.length c0_2] 24 (0, 0)) (by (with_reducible repeat (first | refine blk_drewN ?_ _ | refine blk_drew ?_ | refine blk_alloc ?_ _)); exact BK133.out)) : gb137 ≠ gb133)); have n10_ := Aside0.mk ((by rw [hg]; exact Nat.ne_of_lt (blk_lt (g := gb134) (o := .cells #[.int .i64 0, .int .i64 0, .slice none 0 0] 24 (0, 0)) (by (with_reducible repeat (first | refine blk_drewN ?_ _ | refine blk_drew ?_ | refine blk_alloc ?_ _)); exact BK134.out)) : gb134 ≠ gb137)); have n11_ := Aside0.mk ((by rw [hg]; exact Nat.ne_of_gt (blk_lt (g := gb134) (o := .cells #[.int .i64 0, .int .i64 0, .slice none 0 0] 24 (0, 0)) (by (with_reducible repeat (first | refine blk_drewN ?_ _ | refine blk_drew ?_ | refine blk_alloc ?_ _)); exact BK134.out)) : gb137 ≠ gb134)); have n12_ := Aside0.mk ((by rw [hg]; exact Nat.ne_of_lt (blk_lt (g := gb135) (o := .cells #[.int .i64 a0_0, .int .i64 a0_1, u136002] 24 (0, 0)) (by (with_reducible repeat (first | refine blk_drewN ?_ _ | refine blk_drew ?_ | refine blk_alloc ?_ _)); exact BK135.out)) : gb135 ≠ gb137)); have n13_ := Aside0.mk ((by rw [hg]; exact Nat.ne_of_gt (blk_lt (g := gb135) (o := .cells #[.int .i64 a0_0, .int .i64 a0_1, u136002] 24 (0, 0)) (by (with_reducible repeat (first | refine blk_drewN ?_ _ | refine blk_drew ?_ | refine blk_alloc ?_ _)); exact BK135.out)) : gb137 ≠ gb135)); clear HO_136002; clear BK133; clear BK134; clear BK135; clear HB; have HO_136002 := n0_; have BK133 := n1_; have BK134 := n2_; have BK135 := n3_; have HB := n4_; have BK137 := n5_; have GW137 := n6_; have GE137 := n7_; have NB133_137 := n8_; have NB137_133 := n9_; have NB134_137 := n10_; have NB137_134 := n11_; have NB135_137 := n12_; have NB137_135 := n13_; clear n0_ n1_ n2_ n3_ n4_ n5_ n6_ n7_ n8_ n9_ n10_ n11_ n12_ n13_; clear hb hbox hg; have hnb17 := NB137_133.out; have hnc17 := NB133_137.out; have hnb18 := NB137_134.out; have hnc18 := NB134_137.out; have hnb19 := NB137_135.out; have hnc19 := NB135_137.out; have hcz20_0 : w16.cell? ⟨gb137, 0, none⟩ = some (.int .i64 0) := (blk_cell BK137.out 0).trans rfl; have hcz20_1 : w16.cell? ⟨gb137, 1, none⟩ = some (.int .i64 0) := (blk_cell BK137.out 1).trans rfl; have hcz20_2 : w16.cell? ⟨gb137, 2, none⟩ = some (.slice none 0 0) := (blk_cell BK137.out 2).trans rfl; have hfz20_0 := blk_frozen BK137.out 0; have hfz20_1 := blk_frozen BK137.out 1; have hfz20_2 := blk_frozen BK137.out 2))
              have n0_ : Aside0 (Kd.R k24 24 (((w16.setCell ⟨gb137, 0, none⟩ (.int .i64 ((rd_T24 l0_2 x14_1).f0))).setCell ⟨gb137, 1, none⟩ (.int .i64 ((rd_T24 l0_2 x14_1).f1))).setCell ⟨gb137, 2, none⟩ (.slice A136_2 ((rd_T24 l0_2 x14_1).f2).length c136_2)) w.heap.size (fun k_ => k_ ≠ gb133 ∧ k_ ≠ gb134 ∧ k_ ≠ gb135 ∧ k_ ≠ gb137) u136002 x136002_1) := ⟨by (with_reducible repeat (first | apply Kd.R_alloc | apply Kd.R_drewN | apply Kd.R_drew)); exact Kd.R_mono (Kd.R_far (p := ⟨gb137, 2, none⟩) (Kd.R_far (p := ⟨gb137, 1, none⟩) (Kd.R_far (p := ⟨gb137, 0, none⟩) (Kd.R_mono HO_136002.out (fun k_ hk => (⟨hk, hk.2⟩ : _ ∧ k_ ≠ gb137))) (fun _ hk => hk.2) (.int .i64 ((rd_T24 l0_2 x14_1).f0))) (fun _ hk => hk.2) (.int .i64 ((rd_T24 l0_2 x14_1).f1))) (fun _ hk => hk.2) (.slice A136_2 ((rd_T24 l0_2 x14_1).f2).length c136_2)) (fun _ hk => ⟨hk.1.1.1, ⟨hk.1.1.2.1, ⟨hk.1.1.2.2, hk.1.2⟩⟩⟩)⟩
              have n1_ : Aside0 ((((w16.setCell ⟨gb137, 0, none⟩ (.int .i64 ((rd_T24 l0_2 x14_1).f0))).setCell ⟨gb137, 1, none⟩ (.int .i64 ((rd_T24 l0_2 x14_1).f1))).setCell ⟨gb137, 2, none⟩ (.slice A136_2 ((rd_T24 l0_2 x14_1).f2).length c136_2)).heap[gb133]? = some (.cells #[.int .i64 a0_0, .int .i64 a0_1, .slice (some ad136) l0_2.length c0_2] 24 (0, 0))) := ⟨by (with_reducible repeat (first | refine blk_drewN ?_ _ | refine blk_drew ?_ | refine blk_alloc ?_ _)); refine blk_far ?_ NB133_137.out _; (with_reducible repeat (first | refine blk_drewN ?_ _ | refine blk_drew ?_ | refine blk_alloc ?_ _)); refine blk_far ?_ NB133_137.out _; (with_reducible repeat (first | refine blk_drewN ?_ _ | refine blk_drew ?_ | refine blk_alloc ?_ _)); refine blk_far ?_ NB133_137.out _; (with_reducible repeat (first | refine blk_drewN ?_ _ | refine blk_drew ?_ | refine blk_alloc ?_ _)); exact BK133.out⟩
              have n2_ : Aside0 ((((w16.setCell ⟨gb137, 0, none⟩ (.int .i64 ((rd_T24 l0_2 x14_1).f0))).setCell ⟨gb137, 1, none⟩ (.int .i64 ((rd_T24 l0_2 x14_1).f1))).setCell ⟨gb137, 2, none⟩ (.slice A136_2 ((rd_T24 l0_2 x14_1).f2).length c136_2)).heap[gb134]? = some (.cells #[.int .i64 0, .int .i64 0, .slice none 0 0] 24 (0, 0))) := ⟨by (with_reducible repeat (first | refine blk_drewN ?_ _ | refine blk_drew ?_ | refine blk_alloc ?_ _)); refine blk_far ?_ NB134_137.out _; (with_reducible repeat (first | refine blk_drewN ?_ _ | refine blk_drew ?_ | refine blk_alloc ?_ _)); refine blk_far ?_ NB134_137.out _; (with_reducible repeat (first | refine blk_drewN ?_ _ | refine blk_drew ?_ | refine blk_alloc ?_ _)); refine blk_far ?_ NB134_137.out _; (with_reducible repeat (first | refine blk_drewN ?_ _ | refine blk_drew ?_ | refine blk_alloc ?_ _)); exact BK134.out⟩
              have n3_ : Aside0 ((((w16.setCell ⟨gb137, 0, none⟩ (.int .i64 ((rd_T24 l0_2 x14_1).f0))).setCell ⟨gb137, 1, none⟩ (.int .i64 ((rd_T24 l0_2 x14_1).f1))).setCell ⟨gb137, 2, none⟩ (.slice A136_2 ((rd_T24 l0_2 x14_1).f2).length c136_2)).heap[gb135]? = some (.cells #[.int .i64 a0_0, .int .i64 a0_1, u136002] 24 (0, 0))) := ⟨by (with_reducible repeat (first | refine blk_drewN ?_ _ | refine blk_drew ?_ | refine blk_alloc ?_ _)); refine blk_far ?_ NB135_137.out _; (with_reducible repeat (first | refine blk_drewN ?_ _ | refine blk_drew ?_ | refine blk_alloc ?_ _)); refine blk_far ?_ NB135_137.out _; (with_reducible repeat (first | refine blk_drewN ?_ _ | refine blk_drew ?_ | refine blk_alloc ?_ _)); refine blk_far ?_ NB135_137.out _; (with_reducible repeat (first | refine blk_drewN ?_ _ | refine blk_drew ?_ | refine blk_alloc ?_ _)); exact BK135.out⟩
              have n4_ : Aside0 ((((w16.setCell ⟨gb137, 0, none⟩ (.int .i64 ((rd_T24 l0_2 x14_1).f0))).setCell ⟨gb137, 1, none⟩ (.int .i64 ((rd_T24 l0_2 x14_1).f1))).setCell ⟨gb137, 2, none⟩ (.slice A136_2 ((rd_T24 l0_2 x14_1).f2).length c136_2)).heap[gb137]? = some (.cells #[.int .i64 ((rd_T24 l0_2 x14_1).f0), .int .i64 ((rd_T24 l0_2 x14_1).f1), .slice A136_2 ((rd_T24 l0_2 x14_1).f2).length c136_2] 24 (0, 0))) := ⟨by (with_reducible repeat (first | refine blk_drewN ?_ _ | refine blk_drew ?_ | refine blk_alloc ?_ _)); refine blk_put (cs := #[.int .i64 ((rd_T24 l0_2 x14_1).f0), .int .i64 ((rd_T24 l0_2 x14_1).f1), .slice none 0 0]) ?_ 2 _ rfl; (with_reducible repeat (first | refine blk_drewN ?_ _ | refine blk_drew ?_ | refine blk_alloc ?_ _)); refine blk_put (cs := #[.int .i64 ((rd_T24 l0_2 x14_1).f0), .int .i64 0, .slice none 0 0]) ?_ 1 _ rfl; (with_reducible repeat (first | refine blk_drewN ?_ _ | refine blk_drew ?_ | refine blk_alloc ?_ _)); refine blk_put (cs := #[.int .i64 0, .int .i64 0, .slice none 0 0]) ?_ 0 _ rfl; (with_reducible repeat (first | refine blk_drewN ?_ _ | refine blk_drew ?_ | refine blk_alloc ?_ _)); exact BK137.out⟩
              have n5_ : Aside0 (Below w.heap.size w (((w16.setCell ⟨gb137, 0, none⟩ (.int .i64 ((rd_T24 l0_2 x14_1).f0))).setCell ⟨gb137, 1, none⟩ (.int .i64 ((rd_T24 l0_2 x14_1).f1))).setCell ⟨gb137, 2, none⟩ (.slice A136_2 ((rd_T24 l0_2 x14_1).f2).length c136_2))) := ⟨by repeat (first | (with_reducible first | exact HB.out | apply below_alloc | apply pw_below_drewN | apply below_drew1 | refine below_set ?_ GE133.out | refine below_set ?_ GE134.out | refine below_set ?_ GE135.out | refine below_set ?_ GE137.out) | exact HB.out)⟩
              (try clear HO_136002)
              (try clear BK133)
              (try clear BK134)
              (try clear BK135)
              (try clear BK137)
              (try clear HB)
              generalize (((w16.setCell ⟨gb137, 0, none⟩ (.int .i64 ((rd_T24 l0_2 x14_1).f0))).setCell ⟨gb137, 1, none⟩ (.int .i64 ((rd_T24 l0_2 x14_1).f1))).setCell ⟨gb137, 2, none⟩ (.slice A136_2 ((rd_T24 l0_2 x14_1).f2).length c136_2)) = w21 at n0_ n1_ n2_ n3_ n4_ n5_ ⊢
              have HO_136002 := n0_
              have BK133 := n1_
              have BK134 := n2_
              have BK135 := n3_
              have BK137 := n4_
              have HB := n5_
              clear n0_ n1_ n2_ n3_ n4_ n5_
              have n0_ := Aside0.mk (Kd.R_drew HO_136002.out)
              have n1_ := Aside0.mk (blk_drew BK133.out)
              have n2_ := Aside0.mk (blk_drew BK134.out)
              have n3_ := Aside0.mk (blk_drew BK135.out)
              have n4_ := Aside0.mk (blk_drew BK137.out)
              have n5_ := Aside0.mk (below_drew1 HB.out)
              clear HO_136002
              clear BK133
              clear BK134
              clear BK135
              clear BK137
              clear HB
              have HO_136002 := n0_
              have BK133 := n1_
              have BK134 := n2_
              have BK135 := n3_
              have BK137 := n4_
              have HB := n5_
              clear n0_ n1_ n2_ n3_ n4_ n5_
              refine start_ (n := 8) (S := fun w' => w'.cell? ⟨gb135, 0, none⟩ = some (.int .i64 a0_0) ∧ w'.cell? ⟨gb135, 1, none⟩ = some (.int .i64 a0_1) ∧ w'.cell? ⟨gb135, 2, none⟩ = some (u136002) ∧ w'.cell? ⟨gb137, 0, none⟩ = some (.int .i64 ((rd_T24 l0_2 x14_1).f0)) ∧ w'.cell? ⟨gb137, 1, none⟩ = some (.int .i64 ((rd_T24 l0_2 x14_1).f1)) ∧ w'.cell? ⟨gb137, 2, none⟩ = some (.slice A136_2 ((rd_T24 l0_2 x14_1).f2).length c136_2)) (ds := [7]) #[false, false, false, false, false, false, false, false] (by kernel_rfl) rfl rfl ⟨(blk_cell BK135.out 0).trans rfl, (blk_cell BK135.out 1).trans rfl, (blk_cell BK135.out 2).trans rfl, (blk_cell BK137.out 0).trans rfl, (blk_cell BK137.out 1).trans rfl, (blk_cell BK137.out 2).trans rfl⟩ (fun hHeld => ?_); refine with_tabW formula_copied.tab5 formula_copied.bits5 (fun HT_ HW_ => ?_)
              generalize w21.drew = w22 at HO_136002 BK133 BK134 BK135 BK137 HB hHeld ⊢
              refine pure_ (i := 0) (N := some 18) (v := ?_) (a' := ?_) #[true, false, false, false, false, false, false, false] rfl rfl (any_of HT_.out (by kernel_rfl)) (fun _ _ _ h => h) (Or.inl ⟨by rfl, ?_⟩) ?_ ?_
              rotate_left
              · intro w'
                go_simp
                with_reducible rfl
              rotate_left
              · simp only [Act.put, List.setIfInBounds_toArray, List.set_cons_zero, List.set_cons_succ, i64_w, i32_w]
                rfl
              refine take_ (i := 1) (N := some 19) (v := ?_) (a' := ?_) #[true, true, false, false, false, false, false, false] rfl rfl (take_ofW HT_.out HW_.out (by kernel_rfl)) (fun _ _ _ h => h) (Or.inl ⟨by rfl, ?_⟩) hHeld ?_ ?_
              rotate_left
              · rintro w' ⟨s0, s1, s2, s3, s4, s5⟩
                go_simp
                with_reducible rfl
              rotate_left
              · simp only [Act.put, List.setIfInBounds_toArray, List.set_cons_zero, List.set_cons_succ, i64_w, i32_w]
                rfl
              refine take_ (i := 2) (N := some 20) (v := ?_) (a' := ?_) #[true, true, true, false, false, false, false, false] rfl rfl (take_ofW HT_.out HW_.out (by kernel_rfl)) (fun _ _ _ h => h) (Or.inl ⟨by rfl, ?_⟩) hHeld ?_ ?_
              rotate_left
              · rintro w' ⟨s0, s1, s2, s3, s4, s5⟩
                go_simp
                with_reducible rfl
              rotate_left
              · simp only [Act.put, List.setIfInBounds_toArray, List.set_cons_zero, List.set_cons_succ, i64_w, i32_w]
                rfl
              refine one_ (i := 3) (N := some 21) #[true, true, true, true, false, false, false, false] rfl rfl (one_of HT_.out (by kernel_rfl)) (by decide) (fun K hK => ?_)
              refine goes_ Tryd.func47 (by kernel_rfl) rfl #[.agg #[.int .i64 ((rd_T24 l0_2 x14_1).f0), .int .i64 ((rd_T24 l0_2 x14_1).f1), .slice A136_2 ((rd_T24 l0_2 x14_1).f2).length c136_2]] (by rfl) rfl rfl (by (try simp only [List.map_toArray, List.map_cons, List.map_nil]); first | done | rfl | (simp only [List.length_drop, List.length_take]; rfl)) ?_
              with_reducible refine (ih k1 (by have := HK1.out; omega) ((rd_T24 l0_2 x14_1).f0) ((rd_T24 l0_2 x14_1).f1) _ _ ((rd_T24 l0_2 x14_1).f2) t138 t139 t140 _ ?side1 ?side2 A14.out).mono ?_
              (case side1 => repeat (first | exact (Kd.C_below HR136_2.out HB.out) | (with_reducible refine Kd.C_alloc ?_ _) | (with_reducible refine Kd.C_drewN ?_ _) | (with_reducible refine Kd.C_drew ?_)))
              (case side2 => exact HC136_2.out)
              rintro e w23 ⟨v141, rfl, ho0, hb⟩
              refine ⟨_, rfl, ?_⟩
              have n0_ := Aside0.mk (Kd.R_elder' (by (with_reducible repeat (first | apply Kd.R_alloc | apply Kd.R_drewN | apply Kd.R_drew)); exact HO_136002.out) (Kd.R_base ho0) hb)
              have n1_ := Aside0.mk (Kd.R_lower (Kd.R_newB (Kd.R_newB (Kd.R_newB (Kd.R_newB (Kd.R_new' ho0 (Kd.R_lt (by (with_reducible repeat (first | apply Kd.R_alloc | apply Kd.R_drewN | apply Kd.R_drew)); exact HO_136002.out))) (g := gb133) (o := .cells #[.int .i64 a0_0, .int .i64 a0_1, .slice (some ad136) l0_2.length c0_2] 24 (0, 0)) (by (with_reducible repeat (first | refine blk_drewN ?_ _ | refine blk_drew ?_ | refine blk_alloc ?_ _)); exact BK133.out)) (g := gb134) (o := .cells #[.int .i64 0, .int .i64 0, .slice none 0 0] 24 (0, 0)) (by (with_reducible repeat (first | refine blk_drewN ?_ _ | refine blk_drew ?_ | refine blk_alloc ?_ _)); exact BK134.out)) (g := gb135) (o := .cells #[.int .i64 a0_0, .int .i64 a0_1, u136002] 24 (0, 0)) (by (with_reducible repeat (first | refine blk_drewN ?_ _ | refine blk_drew ?_ | refine blk_alloc ?_ _)); exact BK135.out)) (g := gb137) (o := .cells #[.int .i64 ((rd_T24 l0_2 x14_1).f0), .int .i64 ((rd_T24 l0_2 x14_1).f1), .slice A136_2 ((rd_T24 l0_2 x14_1).f2).length c136_2] 24 (0, 0)) (by (with_reducible repeat (first | refine blk_drewN ?_ _ | refine blk_drew ?_ | refine blk_alloc ?_ _)); exact BK137.out)) (below_size (by repeat (first | (with_reducible first | exact HB.out | apply below_alloc | apply pw_below_drewN | apply below_drew1 | refine below_set ?_ GE133.out | refine below_set ?_ GE134.out | refine below_set ?_ GE135.out | refine below_set ?_ GE137.out) | exact HB.out))))
              have n2_ := Aside0.mk (blk_below (g := gb133) (o := .cells #[.int .i64 a0_0, .int .i64 a0_1, .slice (some ad136) l0_2.length c0_2] 24 (0, 0)) (by (with_reducible repeat (first | refine blk_drewN ?_ _ | refine blk_drew ?_ | refine blk_alloc ?_ _)); exact BK133.out) hb)
              have n3_ := Aside0.mk (blk_below (g := gb134) (o := .cells #[.int .i64 0, .int .i64 0, .slice none 0 0] 24 (0, 0)) (by (with_reducible repeat (first | refine blk_drewN ?_ _ | refine blk_drew ?_ | refine blk_alloc ?_ _)); exact BK134.out) hb)
              have n4_ := Aside0.mk (blk_below (g := gb135) (o := .cells #[.int .i64 a0_0, .int .i64 a0_1, u136002] 24 (0, 0)) (by (with_reducible repeat (first | refine blk_drewN ?_ _ | refine blk_drew ?_ | refine blk_alloc ?_ _)); exact BK135.out) hb)
              have n5_ := Aside0.mk (blk_below (g := gb137) (o := .cells #[.int .i64 ((rd_T24 l0_2 x14_1).f0), .int .i64 ((rd_T24 l0_2 x14_1).f1), .slice A136_2 ((rd_T24 l0_2 x14_1).f2).length c136_2] 24 (0, 0)) (by (with_reducible repeat (first | refine blk_drewN ?_ _ | refine blk_drew ?_ | refine blk_alloc ?_ _)); exact BK137.out) hb)
              have n6_ := Aside0.mk (below_step (by repeat (first | (with_reducible first | exact HB.out | apply below_alloc | apply pw_below_drewN | apply below_drew1 | refine below_set ?_ GE133.out | refine below_set ?_ GE134.out | refine below_set ?_ GE135.out | refine below_set ?_ GE137.out) | exact HB.out)) hb)
              clear HO_136002
              clear BK133
              clear BK134
              clear BK135
              clear BK137
              clear HB
              have HO_136002 := n0_
              have HO142 := n1_
              have BK133 := n2_
              have BK134 := n3_
              have BK135 := n4_
              have BK137 := n5_
              have HB := n6_
              clear n0_ n1_ n2_ n3_ n4_ n5_ n6_
              (try clear hb)
              (try clear hb2)
              (try clear hk)
              (try clear hi)
              (try clear ho0)
              obtain ⟨Ao25, co25, eo25⟩ := Kd.R_slice HO142.out
              (first | subst eo25 | (injection eo25 with f1_ f2_ f3_; have f4_ := f1_.symm; have f5_ := f3_.symm; clear f1_ f2_ f3_; subst f4_; subst f5_))
              refine hK.out _ _ ⟨(blk_cell BK135.out 0).trans rfl, (blk_cell BK135.out 1).trans rfl, (blk_cell BK135.out 2).trans rfl, (blk_cell BK137.out 0).trans rfl, (blk_cell BK137.out 1).trans rfl, (blk_cell BK137.out 2).trans rfl⟩ (fun hHeld => ?_)
              clear hK K
              refine norm_ (a' := ?_) ?_ ?_
              rotate_left
              · show Act.put _ (some 21) _ = _
                simp only [Act.put, List.setIfInBounds_toArray, List.set_cons_zero, List.set_cons_succ, i64_w, i32_w]
                rfl
              refine one_ (i := 4) (N := some 22) #[true, true, true, true, true, false, false, false] rfl rfl (one_of HT_.out (by kernel_rfl)) (by decide) (fun K hK => ?_)
              refine value_ (w1 := ?_) (v := ?_) (by rfl) rfl ?_ ?_
              rotate_left 2
              · go_simp
                constructor
                · rfl
                · rfl
              refine hK.out _ _ ⟨(blk_cell (blk_alloc BK135.out _) 0).trans rfl, (blk_cell (blk_alloc BK135.out _) 1).trans rfl, (blk_cell (blk_alloc BK135.out _) 2).trans rfl, (blk_cell (blk_alloc BK137.out _) 0).trans rfl, (blk_cell (blk_alloc BK137.out _) 1).trans rfl, (blk_cell (blk_alloc BK137.out _) 2).trans rfl⟩ (fun hHeld => ?_)
              clear hK K
              refine norm_ (a' := ?_) ?_ ?_
              rotate_left
              · show Act.put _ (some 22) _ = _
                simp only [Act.put, List.setIfInBounds_toArray, List.set_cons_zero, List.set_cons_succ, i64_w, i32_w]
                rfl
              refine one_ (i := 5) (N := some 23) #[true, true, true, true, true, true, false, false] rfl rfl (one_of HT_.out (by kernel_rfl)) (by decide) (fun K hK => ?_)
              refine Kd.R_append_step k24 (w0 := w) w.heap.size (by rfl) (.tmp 19) (.tmp 22) 22 24 (.agg #[(.int .i64 0), (.int .i64 0), (.slice none 0 0)]) 40 rfl Tryd.underlying22 info24 rfl (by decide) (by omega) u136002 x136002_1 (⟨t138, t139, t140⟩ : S24) [.int .i64 t138, .int .i64 t139, .slice Ao25 t140.length co25] (fun k_ => k_ ≠ gb133 ∧ k_ ≠ gb134 ∧ k_ ≠ gb135 ∧ k_ ≠ gb137) (fun k_ => ((fun k_ => k_ ≠ gb133 ∧ k_ ≠ gb134 ∧ k_ ≠ gb135 ∧ k_ ≠ gb137)) k_ ∧ some k_ ≠ (u136002 : Value).ownBlock) rfl rfl ?aP (fun _ hk => hk) ?aF ?aO ?aB ?aS ?aL ?_
              (case aP => exact k24_mkM _ _ _ (⟨t138, t139, t140⟩ : S24) (Kd.R_mono (HO142.out) (fun k_ hk => ⟨⟨hk.1.1.1.2, ⟨hk.1.1.2, ⟨hk.1.2, hk.2⟩⟩⟩, hk.1.1.1.1.2⟩)))
              (case aB => exact (by repeat (first | (with_reducible first | exact HB.out | apply below_alloc | apply pw_below_drewN | apply below_drew1 | refine below_set ?_ GE133.out | refine below_set ?_ GE134.out | refine below_set ?_ GE135.out | refine below_set ?_ GE137.out) | exact HB.out)))
              (case aF => exact (fun k_ hk => ⟨Kd.freshB (g := gb133) (o := .cells #[.int .i64 a0_0, .int .i64 a0_1, .slice (some ad136) l0_2.length c0_2] 24 (0, 0)) (by (with_reducible repeat (first | refine blk_drewN ?_ _ | refine blk_drew ?_ | refine blk_alloc ?_ _)); exact BK133.out) k_ hk, Kd.freshB (g := gb134) (o := .cells #[.int .i64 0, .int .i64 0, .slice none 0 0] 24 (0, 0)) (by (with_reducible repeat (first | refine blk_drewN ?_ _ | refine blk_drew ?_ | refine blk_alloc ?_ _)); exact BK134.out) k_ hk, Kd.freshB (g := gb135) (o := .cells #[.int .i64 a0_0, .int .i64 a0_1, u136002] 24 (0, 0)) (by (with_reducible repeat (first | refine blk_drewN ?_ _ | refine blk_drew ?_ | refine blk_alloc ?_ _)); exact BK135.out) k_ hk, Kd.freshB (g := gb137) (o := .cells #[.int .i64 ((rd_T24 l0_2 x14_1).f0), .int .i64 ((rd_T24 l0_2 x14_1).f1), .slice A136_2 ((rd_T24 l0_2 x14_1).f2).length c136_2] 24 (0, 0)) (by (with_reducible repeat (first | refine blk_drewN ?_ _ | refine blk_drew ?_ | refine blk_alloc ?_ _)); exact BK137.out) k_ hk⟩))
              (case aO => exact (by (with_reducible repeat (first | apply Kd.R_alloc | apply Kd.R_drewN | apply Kd.R_drew)); exact Kd.R_mono HO_136002.out (fun _ hk => ⟨hk.1.1, ⟨hk.1.2.1, ⟨hk.1.2.2.1, hk.1.2.2.2⟩⟩⟩)))
              (case aS => exact (below_size (by repeat (first | (with_reducible first | exact HB.out | apply below_alloc | apply pw_below_drewN | apply below_drew1 | refine below_set ?_ GE133.out | refine below_set ?_ GE134.out | refine below_set ?_ GE135.out | refine below_set ?_ GE137.out) | exact HB.out))))
              (case aL => have := LMc15.out; omega)
              intro v144 w24 ho hb hg hat
              rw [← Ny143.out] at ho
              have n0_ := Aside0.mk (blk_grown (g := gb133) (o := .cells #[.int .i64 a0_0, .int .i64 a0_1, .slice (some ad136) l0_2.length c0_2] 24 (0, 0)) (by (with_reducible repeat (first | refine blk_drewN ?_ _ | refine blk_drew ?_ | refine blk_alloc ?_ _)); exact BK133.out) hg (Kd.R_away HO_136002.out (fun _ hk => hk.1.1)))
              have n1_ := Aside0.mk (blk_grown (g := gb134) (o := .cells #[.int .i64 0, .int .i64 0, .slice none 0 0] 24 (0, 0)) (by (with_reducible repeat (first | refine blk_drewN ?_ _ | refine blk_drew ?_ | refine blk_alloc ?_ _)); exact BK134.out) hg (Kd.R_away HO_136002.out (fun _ hk => hk.1.2.1)))
              have n2_ := Aside0.mk (blk_grown (g := gb135) (o := .cells #[.int .i64 a0_0, .int .i64 a0_1, u136002] 24 (0, 0)) (by (with_reducible repeat (first | refine blk_drewN ?_ _ | refine blk_drew ?_ | refine blk_alloc ?_ _)); exact BK135.out) hg (Kd.R_away HO_136002.out (fun _ hk => hk.1.2.2.1)))
              have n3_ := Aside0.mk (blk_grown (g := gb137) (o := .cells #[.int .i64 ((rd_T24 l0_2 x14_1).f0), .int .i64 ((rd_T24 l0_2 x14_1).f1), .slice A136_2 ((rd_T24 l0_2 x14_1).f2).length c136_2] 24 (0, 0)) (by (with_reducible repeat (first | refine blk_drewN ?_ _ | refine blk_drew ?_ | refine blk_alloc ?_ _)); exact BK137.out) hg (Kd.R_away HO_136002.out (fun _ hk => hk.1.2.2.2)))
              have n4_ := Aside0.mk (hb)
              have n5_ := Aside0.mk (ho)
              clear BK133
              clear BK134
              clear BK135
              clear BK137
              clear HB
              clear HO_136002
              clear HO142
              have BK133 := n0_
              have BK134 := n1_
              have BK135 := n2_
              have BK137 := n3_
              have HB := n4_
              have HO145 := n5_
              clear n0_ n1_ n2_ n3_ n4_ n5_
              clear ho hb hg hat
              obtain ⟨Ao26, co26, eo26⟩ := Kd.R_slice HO145.out
              (first | subst eo26 | (injection eo26 with f1_ f2_ f3_; have f4_ := f1_.symm; have f5_ := f3_.symm; clear f1_ f2_ f3_; subst f4_; subst f5_))
              refine hK.out _ _ ⟨(blk_cell BK135.out 0).trans rfl, (blk_cell BK135.out 1).trans rfl, (blk_cell BK135.out 2).trans rfl, (blk_cell BK137.out 0).trans rfl, (blk_cell BK137.out 1).trans rfl, (blk_cell BK137.out 2).trans rfl⟩ (fun hHeld => ?_)
              clear hK K
              refine norm_ (a' := ?_) ?_ ?_
              rotate_left
              · show Act.put _ (some 23) _ = _
                simp only [Act.put, List.setIfInBounds_toArray, List.set_cons_zero, List.set_cons_succ, i64_w, i32_w]
                rfl
              refine pure_ (i := 6) (N := some 24) (v := ?_) (a' := ?_) #[true, true, true, true, true, true, true, false] rfl rfl (any_of HT_.out (by kernel_rfl)) (fun _ _ _ h => h) (Or.inl ⟨by rfl, ?_⟩) ?_ ?_
              rotate_left
              · intro w'
                go_simp
                with_reducible rfl
              rotate_left
              · simp only [Act.put, List.setIfInBounds_toArray, List.set_cons_zero, List.set_cons_succ, i64_w, i32_w]
                rfl
              refine last_ (i := 7) (N := none) #[true, true, true, true, true, true, true, true] rfl rfl (one_of HT_.out (by kernel_rfl)) (by decide) (fun K hK => ?_)
              have hs27 : w24.cell? ⟨gb135, 2, none⟩ = some (u136002) := (blk_cell BK135.out 2).trans rfl
              have hfs27 := blk_frozen BK135.out 2
              have hns27_0 := NB133_135.out
              have hns27_1 := NB134_135.out
              have hns27_3 := NB137_135.out
              have hms27_0 := NB135_133.out
              have hms27_1 := NB135_134.out
              have hms27_3 := NB135_137.out
              refine skip_ (w1 := ?_) (by rfl) rfl ?_ ?_
              rotate_left
              · go_simp
                rfl
              refine hK.out _ _ ?_
              clear hK K
              refine done_ (done_of HT_.out (by kernel_rfl)) ?_
              try go_wp2
              go_roundg k1
              case measure => have := HK1.out; omega
              case rel => exact ⟨(wrap64 (x14_1 + 1)), (y143), (.slice Ao26 y143.length co26), (by first | rfl | (simp; done) | (simp [*]; done)), H', ⟨by have := HK1.out; omega⟩, ⟨by (with_reducible repeat (first | apply Kd.R_alloc | apply Kd.R_drewN | apply Kd.R_drew)); exact Kd.R_mono (Kd.R_far (p := ⟨gb135, 2, none⟩) (Kd.R_mono HO145.out (fun k_ hk => (⟨hk, hk.2.2.1⟩ : _ ∧ k_ ≠ gb135))) (fun _ hk => hk.2) (.slice Ao26 y143.length co26)) (fun _ hk => ⟨hk.1.1, ⟨hk.1.2.1, hk.1.2.2.1⟩⟩)⟩, ⟨by (with_reducible repeat (first | refine blk_drewN ?_ _ | refine blk_drew ?_ | refine blk_alloc ?_ _)); refine blk_far ?_ NB133_135.out _; (with_reducible repeat (first | refine blk_drewN ?_ _ | refine blk_drew ?_ | refine blk_alloc ?_ _)); exact BK133.out⟩, ⟨by (with_reducible repeat (first | refine blk_drewN ?_ _ | refine blk_drew ?_ | refine blk_alloc ?_ _)); refine blk_far ?_ NB134_135.out _; (with_reducible repeat (first | refine blk_drewN ?_ _ | refine blk_drew ?_ | refine blk_alloc ?_ _)); exact BK134.out⟩, ⟨by (with_reducible repeat (first | refine blk_drewN ?_ _ | refine blk_drew ?_ | refine blk_alloc ?_ _)); refine blk_put (cs := #[.int .i64 a0_0, .int .i64 a0_1, u136002]) ?_ 2 _ rfl; (with_reducible repeat (first | refine blk_drewN ?_ _ | refine blk_drew ?_ | refine blk_alloc ?_ _)); exact BK135.out⟩, ⟨by repeat (first | (with_reducible first | exact HB.out | apply below_alloc | apply pw_below_drewN | apply below_drew1 | refine below_set ?_ GE133.out | refine below_set ?_ GE134.out | refine below_set ?_ GE135.out | refine below_set ?_ GE137.out) | exact HB.out)⟩⟩
            · rw [if_neg c15] at H
              exact absurd H (by simp)
          · rw [if_neg c13] at H
            exact absurd H (by simp)
        · rw [if_neg c12] at H
          exact absurd H (by simp)
      · rw [if_neg c11] at H
        have c11b0 : decide (x14_1 < (l0_2.length : Int)) = false := decide_eq_false c11
        clear c11
        simp only [Option.some.injEq, Prod.mk.injEq] at H
        obtain ⟨rfl, rfl, rfl⟩ := H
        have hnb28 := NB135_133.out
        have hnc28 := NB133_135.out
        have hnb29 := NB135_134.out
        have hnc29 := NB134_135.out
        have hcz30_0 : wr.cell? ⟨gb135, 0, none⟩ = some (.int .i64 a0_0) := (blk_cell BK135.out 0).trans rfl
        have hcz30_1 : wr.cell? ⟨gb135, 1, none⟩ = some (.int .i64 a0_1) := (blk_cell BK135.out 1).trans rfl
        have hcz30_2 : wr.cell? ⟨gb135, 2, none⟩ = some (u136002) := (blk_cell BK135.out 2).trans rfl
        have hfz30_0 := blk_frozen BK135.out 0
        have hfz30_1 := blk_frozen BK135.out 1
        have hfz30_2 := blk_frozen BK135.out 2
        have hnb31 := NB134_133.out
        have hnc31 := NB133_134.out
        have hcz32_0 : wr.cell? ⟨gb134, 0, none⟩ = some (.int .i64 0) := (blk_cell BK134.out 0).trans rfl
        have hcz32_1 : wr.cell? ⟨gb134, 1, none⟩ = some (.int .i64 0) := (blk_cell BK134.out 1).trans rfl
        have hcz32_2 : wr.cell? ⟨gb134, 2, none⟩ = some (.slice none 0 0) := (blk_cell BK134.out 2).trans rfl
        have hfz32_0 := blk_frozen BK134.out 0
        have hfz32_1 := blk_frozen BK134.out 1
        have hfz32_2 := blk_frozen BK134.out 2
        obtain ⟨Ao33, co33, eo33⟩ := Kd.R_slice HO_136002.out
        subst eo33
        go_wp2
        refine bodyPost_ret (results_cell_row rfl _ _ gb134 24 #[.int .i64 a0_0, .int .i64 a0_1, .slice Ao33 x136002_1.length co33] (0, 0) _ rfl (by (with_reducible repeat (first | refine blk_drewN ?_ _ | refine blk_drew ?_ | refine blk_alloc ?_ _)); refine blk_put (cs := #[.int .i64 a0_0, .int .i64 a0_1, .slice none 0 0]) ?_ 2 _ rfl; (with_reducible repeat (first | refine blk_drewN ?_ _ | refine blk_drew ?_ | refine blk_alloc ?_ _)); refine blk_put (cs := #[.int .i64 a0_0, .int .i64 0, .slice none 0 0]) ?_ 1 _ rfl; (with_reducible repeat (first | refine blk_drewN ?_ _ | refine blk_drew ?_ | refine blk_alloc ?_ _)); refine blk_put (cs := #[.int .i64 0, .int .i64 0, .slice none 0 0]) ?_ 0 _ rfl; (with_reducible repeat (first | refine blk_drewN ?_ _ | refine blk_drew ?_ | refine blk_alloc ?_ _)); exact BK134.out) Tryd.underlying24 rfl (by kernel_rfl)) rfl ?_
        exact ⟨_, by first | rfl | (simp [errW_none, errW_some] <;> rfl) | (simp [*, errW_none, errW_some] <;> rfl), by (with_reducible repeat (first | apply Kd.R_alloc | apply Kd.R_drewN | apply Kd.R_drew)); exact Kd.R_mono (Kd.R_far (p := ⟨gb134, 2, none⟩) (Kd.R_far (p := ⟨gb134, 1, none⟩) (Kd.R_far (p := ⟨gb134, 0, none⟩) (Kd.R_mono HO_136002.out (fun k_ hk => (⟨hk, hk.2.1⟩ : _ ∧ k_ ≠ gb134))) (fun _ hk => hk.2) (.int .i64 a0_0)) (fun _ hk => hk.2) (.int .i64 a0_1)) (fun _ hk => hk.2) (.slice Ao33 x136002_1.length co33)) (fun _ hk => trivial), by repeat (first | (with_reducible first | exact HB.out | apply below_alloc | apply pw_below_drewN | apply below_drew1 | refine below_set ?_ GE133.out | refine below_set ?_ GE134.out | refine below_set ?_ GE135.out) | exact HB.out)⟩

end Go.Proofs.YtjjnokodkeekhaaDoor.P

namespace Go.Proofs.YtjjnokodkeekhaaDoor.P
open Go.RowKit Go.Proofs.YtjjnokodkeekhaaDoorW.PrintWords Go.Proofs.YtjjnokodkeekhaaDoorW.PrintLast Go.Proofs.YtjjnokodkeekhaaDoorW.PrintMore
attribute [local go_sem] max2_int min2_int max_two min_two max_three min_three max_four min_four   -- for this text's walks alone
set_option linter.unusedVariables false
set_option linter.unusedSimpArgs false

mutual
def formula_times.j0 : Nat → List (S24) → Int → Int → List (S24) → Option ((List (S24)))
  | 0, _, _, _, _ => none
  | k + 1, x3, x147000, x147001, x147002 => formula_times.l0 k x3 x147002 (x147002.length : Int) 0
def formula_times.l0 : Nat → List (S24) → List (S24) → Int → Int → Option ((List (S24)))
  | 0, _, _, _, _ => none
  | k + 1, x3, x15, x16, x17 => if x17 < x16 then (if 0 ≤ x17 then (if x17 < (x15.length : Int) then ((formula_times.f k ((rd_T24 x15 x17).f0) ((rd_T24 x15 x17).f1) ((rd_T24 x15 x17).f2)).bind fun t158 => (if x3.length + t158.length < 3518437208883 then (formula_times.l0 k (x3 ++ t158) x15 x16 (wrap64 (x17 + 1))) else (none))) else (none)) else (none)) else (some x3)
def formula_times.f : Nat → Int → Int → List (S24) → Option ((List (S24)))
  | 0, _, _, _ => none
  | k + 1, a0_0, a0_1, l0_2 => (formula_timed.f a0_0).bind fun t147 => (if t147 = true then ((formula_copied.f k a0_0 a0_1 l0_2).bind fun bt148 => (if ([] : List (S24)).length < 3518437208883 then (formula_times.j0 k (([] : List (S24)) ++ [(⟨bt148.1, bt148.2.1, bt148.2.2⟩ : S24)]) a0_0 a0_1 l0_2) else (none))) else (formula_times.j0 k ([] : List (S24)) a0_0 a0_1 l0_2))
end
theorem formula_times.mono_l : ∀ k, (∀ y0 y1 y2, LeO (formula_times.f k y0 y1 y2) (formula_times.f (k + 1) y0 y1 y2)) ∧ (∀ y0 y1 y2 y3, LeO (formula_times.j0 k y0 y1 y2 y3) (formula_times.j0 (k + 1) y0 y1 y2 y3)) ∧ (∀ y0 y1 y2 y3, LeO (formula_times.l0 k y0 y1 y2 y3) (formula_times.l0 (k + 1) y0 y1 y2 y3))
  | 0 => ⟨fun _ _ _ r h => by simp [formula_times.f] at h, fun _ _ _ _ r h => by simp [formula_times.j0] at h, fun _ _ _ _ r h => by simp [formula_times.l0] at h⟩
  | k + 1 => by
    obtain ⟨ih0, ih1, ih2⟩ := formula_times.mono_l k
    refine ⟨?_, ?_, ?_⟩
    · intro y0 y1 y2
      unfold formula_times.f
      repeat' first
      | (with_reducible exact ih0 _ _ _)
      | (with_reducible exact ih1 _ _ _ _)
      | (with_reducible exact ih2 _ _ _ _)
      | (with_reducible exact formula_copied.mono _ _ _ _)
      | (with_reducible exact LeO.refl _)
      | (with_reducible exact LeO.none _)
      | (with_reducible refine LeO.ite ?_ ?_)
      | (with_reducible refine LeO.bind ?_ (fun _ => ?_))
      | exact ih0 _ _ _
      | exact ih1 _ _ _ _
      | exact ih2 _ _ _ _
      | exact formula_copied.mono _ _ _ _
      | exact LeO.none _
      | refine LeO.ite ?_ ?_
      | refine LeO.bind ?_ (fun _ => ?_)
    · intro y0 y1 y2 y3
      unfold formula_times.j0
      repeat' first
      | (with_reducible exact ih0 _ _ _)
      | (with_reducible exact ih1 _ _ _ _)
      | (with_reducible exact ih2 _ _ _ _)
      | (with_reducible exact formula_copied.mono _ _ _ _)
      | (with_reducible exact LeO.refl _)
      | (with_reducible exact LeO.none _)
      | (with_reducible refine LeO.ite ?_ ?_)
      | (with_reducible refine LeO.bind ?_ (fun _ => ?_))
      | exact ih0 _ _ _
      | exact ih1 _ _ _ _
      | exact ih2 _ _ _ _
      | exact formula_copied.mono _ _ _ _
      | exact LeO.none _
      | refine LeO.ite ?_ ?_
      | refine LeO.bind ?_ (fun _ => ?_)
    · intro y0 y1 y2 y3
      unfold formula_times.l0
      repeat' first
      | (with_reducible exact ih0 _ _ _)
      | (with_reducible exact ih1 _ _ _ _)
      | (with_reducible exact ih2 _ _ _ _)
      | (with_reducible exact formula_copied.mono _ _ _ _)
      | (with_reducible exact LeO.refl _)
      | (with_reducible exact LeO.none _)
      | (with_reducible refine LeO.ite ?_ ?_)
      | (with_reducible refine LeO.bind ?_ (fun _ => ?_))
      | exact ih0 _ _ _
      | exact ih1 _ _ _ _
      | exact ih2 _ _ _ _
      | exact formula_copied.mono _ _ _ _
      | exact LeO.none _
      | refine LeO.ite ?_ ?_
      | refine LeO.bind ?_ (fun _ => ?_)
theorem formula_times.mono : ∀ a0 a1 a2 k, LeO (formula_times.f k a0 a1 a2) (formula_times.f (k + 1) a0 a1 a2) := by
  intro a0 a1 a2 k
  obtain ⟨ih0, ih1, ih2⟩ := formula_times.mono_l k
  exact ih0 a0 a1 a2
set_option maxHeartbeats 8000000 in
set_option maxRecDepth 100000 in
theorem formula_times.calls (k : Nat) : ∀ (a0_0 : Int) (a0_1 : Int) (A0_2 : Option Addr) (c0_2 : Nat) (l0_2 : List (S24)) (r : List (S24)) (w : World) (hr0_2 : Kd.C k24 w A0_2 l0_2.length l0_2) (hc0_2 : l0_2.length ≤ c0_2) (h : formula_times.f k a0_0 a0_1 l0_2 = some r),
    Calls Tryd.prog 37 #[.agg #[.int .i64 a0_0, .int .i64 a0_1, .slice A0_2 l0_2.length c0_2]] w fun e w' => ∃ v0_ : Value, e = .returned (v0_) ∧ Kd.N k24 24 w' w.heap.size (fun k_ => (w.heap.size ≤ k_)) v0_ r ∧ Below w.heap.size w w' := by
  induction k using Nat.strongRecOn with
  | _ k ih =>
  intro a0_0 a0_1 A0_2 c0_2 l0_2 r w hr0_2 hc0_2 h
  cases k with
  | zero => exact absurd h (by simp [formula_times.f])
  | succ k =>
  simp only [formula_times.f] at h
  have hu24 := Tryd.underlying24
  have HR0_2 := Aside0.mk hr0_2
  have HC0_2 := Aside0.mk hc0_2
  clear hr0_2 hc0_2
  have HB := Aside0.mk (Below.refl w.heap.size w)
  have H : ((formula_timed.f a0_0).bind fun t147 => (if t147 = true then ((formula_copied.f k a0_0 a0_1 l0_2).bind fun bt148 => (if ([] : List (S24)).length < 3518437208883 then (formula_times.j0 k (([] : List (S24)) ++ [(⟨bt148.1, bt148.2.1, bt148.2.2⟩ : S24)]) a0_0 a0_1 l0_2) else (none))) else (formula_times.j0 k ([] : List (S24)) a0_0 a0_1 l0_2))) = some r := h
  clear h
  replace H := Option.bind_eq_some_iff.mp H
  obtain ⟨t147, A20, H⟩ := H
  replace H : (if t147 = true then ((formula_copied.f k a0_0 a0_1 l0_2).bind fun bt148 => (if ([] : List (S24)).length < 3518437208883 then (formula_times.j0 k (([] : List (S24)) ++ [(⟨bt148.1, bt148.2.1, bt148.2.2⟩ : S24)]) a0_0 a0_1 l0_2) else (none))) else (formula_times.j0 k ([] : List (S24)) a0_0 a0_1 l0_2)) = some r := H
  have A2 := Aside0.mk A20
  clear A20
  have HC3 := Aside0.mk H
  clear H
  go_enter Tryd.func37, Tryd.ntmps37
  go_upto_if 8 with (first | ((with_reducible refine gate_dst (N := 1) rfl ?_); refine box_event ?hg (N := 1) ?hd (cs := #[.int .i64 a0_0, .int .i64 a0_1, .slice A0_2 l0_2.length c0_2]) (t := 24) ?hr ?_; (case hd => rfl); (case hg => rfl); (case hr => first | (go_simp; done) | (go_simp; rfl)); intro gb146 hg w4 hbox hb; have n0_ := Aside0.mk (below_step (by repeat (first | (with_reducible first | exact HB.out | apply below_alloc | apply pw_below_drewN | apply below_drew1) | exact HB.out)) hb); have n1_ := Aside0.mk (hbox); have n2_ := Aside0.mk ((by rw [hg]; exact (below_size (by repeat (first | (with_reducible first | exact HB.out | apply below_alloc | apply pw_below_drewN | apply below_drew1) | exact HB.out))) : w.heap.size ≤ gb146)); have n3_ := Aside0.mk ((by rw [hg]; exact (below_size (by repeat (first | (with_reducible first | exact HB.out | apply below_alloc | apply pw_below_drewN | apply below_drew1) | exact HB.out))) : w.heap.size ≤ gb146)); clear HB; have HB := n0_; have BK146 := n1_; have GW146 := n2_; have GE146 := n3_; clear n0_ n1_ n2_ n3_; clear hb hbox hg; have hcz5_0 : w4.cell? ⟨gb146, 0, none⟩ = some (.int .i64 a0_0) := (blk_cell BK146.out 0).trans rfl; have hcz5_1 : w4.cell? ⟨gb146, 1, none⟩ = some (.int .i64 a0_1) := (blk_cell BK146.out 1).trans rfl; have hcz5_2 : w4.cell? ⟨gb146, 2, none⟩ = some (.slice A0_2 l0_2.length c0_2) := (blk_cell BK146.out 2).trans rfl; have hfz5_0 := blk_frozen BK146.out 0; have hfz5_1 := blk_frozen BK146.out 1; have hfz5_2 := blk_frozen BK146.out 2) | ((with_reducible refine gate_callee (f := 64) rfl ?_); refine goesL_ (some 8) rfl rfl Tryd.func64 (by kernel_rfl) rfl #[.int .i64 a0_0] rfl (by (try simp only [List.map_toArray, List.map_cons, List.map_nil]); first | done | rfl | (simp only [List.length_drop, List.length_take]; rfl)) ?_; (with_reducible refine (formula_timed.calls a0_0 t147 _ A2.out).mono ?_); rintro e w' ⟨rfl, ⟨nd, rfl⟩⟩; refine ⟨_, rfl, ?_⟩))
  (try simp only [Act.put, List.setIfInBounds_toArray, List.set_cons_zero, List.set_cons_succ])
  go_cut [3] (fun v3 wc => ∃ (kq : Nat) (x3_2 : List (S24)), Aside0 (formula_times.j0 kq x3_2 a0_0 a0_1 l0_2 = some r) ∧ Aside0 (kq ≤ k) ∧ Aside0 (Kd.N k24 24 wc w.heap.size (fun k_ => (w.heap.size ≤ k_) ∧ k_ ≠ gb146) v3 x3_2) ∧ Aside0 (wc.heap[gb146]? = some (.cells #[.int .i64 a0_0, .int .i64 a0_1, (.slice A0_2 l0_2.length c0_2)] 24 (0, 0))) ∧ Aside0 (Below w.heap.size w wc))
  case first =>
    have H := HC3.out
    clear HC3
    by_cases c6 : t147 = true
    · subst c6
      have H1 : ((formula_copied.f k a0_0 a0_1 l0_2).bind fun bt148 => (if ([] : List (S24)).length < 3518437208883 then (formula_times.j0 k (([] : List (S24)) ++ [(⟨bt148.1, bt148.2.1, bt148.2.2⟩ : S24)]) a0_0 a0_1 l0_2) else (none))) = some r := by rw [if_pos rfl] at H; exact H
      clear H
      have H := H1
      clear H1
      replace H := Option.bind_eq_some_iff.mp H
      obtain ⟨⟨t148, t149, t150⟩, A70, H⟩ := H
      replace H : (if ([] : List (S24)).length < 3518437208883 then (formula_times.j0 k (([] : List (S24)) ++ [(⟨t148, t149, t150⟩ : S24)]) a0_0 a0_1 l0_2) else (none)) = some r := H
      have A7 := Aside0.mk A70
      clear A70
      by_cases c8 : ([] : List (S24)).length < 3518437208883
      · rw [if_pos c8] at H
        have LMc8 := Aside0.mk c8
        clear c8
        obtain ⟨y153, hy153⟩ : ∃ y_ : List (S24), y_ = (([] : List (S24)) ++ [(⟨t148, t149, t150⟩ : S24)]) := ⟨_, rfl⟩
        replace H : (formula_times.j0 k y153 a0_0 a0_1 l0_2) = some r := by first | (rw [hy153]; with_reducible exact H) | (have H2_ := (Option.bind_some _ _).symm.trans H; rw [hy153]; with_reducible exact H2_) | (have H2_ := (Option.bind_some _ _).symm.trans H; with_reducible exact H2_) | with_reducible exact H | (rw [hy153]; exact H) | exact H
        have Ny153 := Aside0.mk hy153
        clear hy153
        have H' := Aside0.mk H
        clear H
        have hcz9_0 : w4.cell? ⟨gb146, 0, none⟩ = some (.int .i64 a0_0) := (blk_cell BK146.out 0).trans rfl
        have hcz9_1 : w4.cell? ⟨gb146, 1, none⟩ = some (.int .i64 a0_1) := (blk_cell BK146.out 1).trans rfl
        have hcz9_2 : w4.cell? ⟨gb146, 2, none⟩ = some (.slice A0_2 l0_2.length c0_2) := (blk_cell BK146.out 2).trans rfl
        have hfz9_0 := blk_frozen BK146.out 0
        have hfz9_1 := blk_frozen BK146.out 1
        have hfz9_2 := blk_frozen BK146.out 2
        go_wp2_with (first | ((with_reducible refine gate_callee (f := 47) rfl ?_); refine goesL_ (some 11) rfl rfl Tryd.func47 (by kernel_rfl) rfl #[.agg #[.int .i64 a0_0, .int .i64 a0_1, .slice A0_2 l0_2.length c0_2]] rfl (by (try simp only [List.map_toArray, List.map_cons, List.map_nil]); first | done | rfl | (simp only [List.length_drop, List.length_take]; rfl)) ?_; (with_reducible refine (formula_copied.calls k a0_0 a0_1 _ _ l0_2 t148 t149 t150 _ ?side1 ?side2 A7.out).mono ?_); (case side1 => repeat (first | exact (Kd.C_below HR0_2.out HB.out) | (with_reducible refine Kd.C_alloc ?_ _) | (with_reducible refine Kd.C_drewN ?_ _) | (with_reducible refine Kd.C_drew ?_))); (case side2 => exact HC0_2.out); rintro e w10 ⟨v151, rfl, ho0, hb⟩; refine ⟨_, rfl, ?_⟩; have n0_ := Aside0.mk (Kd.N_lower (Kd.N_mono (ok' := fun k_ => (w.heap.size ≤ k_) ∧ k_ ≠ gb146) (Kd.R_N (Kd.R_bound ho0)) (fun k_ hk_ => ⟨(Nat.le_trans (below_size (by repeat (first | (with_reducible first | exact HB.out | apply below_alloc | apply pw_below_drewN | apply below_drew1 | refine below_set ?_ GE146.out) | exact HB.out))) hk_.2.1), (Kd.freshB (g := gb146) (o := .cells #[.int .i64 a0_0, .int .i64 a0_1, .slice A0_2 l0_2.length c0_2] 24 (0, 0)) (by (with_reducible repeat (first | refine blk_drewN ?_ _ | refine blk_drew ?_ | refine blk_alloc ?_ _)); exact BK146.out) k_ hk_.2.1)⟩)) (below_size (by repeat (first | (with_reducible first | exact HB.out | apply below_alloc | apply pw_below_drewN | apply below_drew1 | refine below_set ?_ GE146.out) | exact HB.out)))); have n1_ := Aside0.mk (blk_below (g := gb146) (o := .cells #[.int .i64 a0_0, .int .i64 a0_1, .slice A0_2 l0_2.length c0_2] 24 (0, 0)) (by (with_reducible repeat (first | refine blk_drewN ?_ _ | refine blk_drew ?_ | refine blk_alloc ?_ _)); exact BK146.out) hb); have n2_ := Aside0.mk (below_step (by repeat (first | (with_reducible first | exact HB.out | apply below_alloc | apply pw_below_drewN | apply below_drew1 | refine below_set ?_ GE146.out) | exact HB.out)) hb); clear BK146; clear HB; have HO152 := n0_; have BK146 := n1_; have HB := n2_; clear n0_ n1_ n2_; (try clear hb); (try clear hb2); (try clear hk); (try clear hi); (try clear ho0); obtain ⟨Ao12, co12, eo12⟩ := Kd.N_slice HO152.out; subst eo12) | ((with_reducible refine gate_builtin (b := .append) (xs := #[.tmp 9, .tmp 12]) rfl ?_); at_builtin; refine Kd.N_append k24 (w0 := w) w.heap.size rfl (.tmp 9) (.tmp 12) 22 24 (.agg #[(.int .i64 0), (.int .i64 0), (.slice none 0 0)]) 40 rfl Tryd.underlying22 info24 rfl (by decide) (by omega) (.slice none 0 0) ([] : List (S24)) (⟨t148, t149, t150⟩ : S24) [.int .i64 t148, .int .i64 t149, .slice Ao12 t150.length co12] (fun k_ => (w.heap.size ≤ k_) ∧ k_ ≠ gb146) (fun k_ => ((fun k_ => (w.heap.size ≤ k_) ∧ k_ ≠ gb146)) k_ ∧ some k_ ≠ (.slice none 0 0 : Value).ownBlock) rfl rfl ?aP (fun _ hk => hk) ?aF ?aO ?aB ?aS ?aL ?_; (case aP => exact (k24_mkF _ _ (⟨t148, t149, t150⟩ : S24) (Kd.N_reads' (Kd.N_mono (ok' := (fun k_ => ((fun k_ => (w.heap.size ≤ k_) ∧ k_ ≠ gb146)) k_ ∧ some k_ ≠ (.slice none 0 0 : Value).ownBlock)) (HO152.out) (fun k_ hk => ⟨⟨hk.1, hk.2⟩, (by simp [Value.ownBlock])⟩))).2.1 (Kd.N_F (Kd.N_mono (ok' := (fun k_ => ((fun k_ => (w.heap.size ≤ k_) ∧ k_ ≠ gb146)) k_ ∧ some k_ ≠ (.slice none 0 0 : Value).ownBlock)) (HO152.out) (fun k_ hk => ⟨⟨hk.1, hk.2⟩, (by simp [Value.ownBlock])⟩))))); (case aB => exact (by repeat (first | (with_reducible first | exact HB.out | apply below_alloc | apply pw_below_drewN | apply below_drew1 | refine below_set ?_ GE146.out) | exact HB.out))); (case aF => exact (fun k_ hk => ⟨(Nat.le_trans (below_size (by repeat (first | (with_reducible first | exact HB.out | apply below_alloc | apply pw_below_drewN | apply below_drew1 | refine below_set ?_ GE146.out) | exact HB.out))) hk), Kd.freshB (g := gb146) (o := .cells #[.int .i64 a0_0, .int .i64 a0_1, .slice A0_2 l0_2.length c0_2] 24 (0, 0)) (by (with_reducible repeat (first | refine blk_drewN ?_ _ | refine blk_drew ?_ | refine blk_alloc ?_ _)); exact BK146.out) k_ hk⟩)); (case aO => exact ((Kd.N_nil _ _ _ _ (fun k_ => (w.heap.size ≤ k_) ∧ k_ ≠ gb146)))); (case aS => exact (below_size (by repeat (first | (with_reducible first | exact HB.out | apply below_alloc | apply pw_below_drewN | apply below_drew1 | refine below_set ?_ GE146.out) | exact HB.out)))); (case aL => have := LMc8.out; omega); intro v154 w11 ho hb hg hat; rw [← Ny153.out] at ho; have n0_ := Aside0.mk (blk_grown (g := gb146) (o := .cells #[.int .i64 a0_0, .int .i64 a0_1, .slice A0_2 l0_2.length c0_2] 24 (0, 0)) (by (with_reducible repeat (first | refine blk_drewN ?_ _ | refine blk_drew ?_ | refine blk_alloc ?_ _)); exact BK146.out) hg (by simp [Value.ownBlock])); have n1_ := Aside0.mk (hb); have n2_ := Aside0.mk (ho); clear BK146; clear HB; clear HO152; have BK146 := n0_; have HB := n1_; have HO155 := n2_; clear n0_ n1_ n2_; clear ho hb hg hat))
        go_meet
        case rel => exact ⟨_, (y153), H', ⟨by first | omega | exact Nat.le_refl _⟩, ⟨by (with_reducible repeat (first | apply Kd.N_alloc | apply Kd.N_drewN | apply Kd.N_drew)); exact HO155.out⟩, ⟨by (with_reducible repeat (first | refine blk_drewN ?_ _ | refine blk_drew ?_ | refine blk_alloc ?_ _)); exact BK146.out⟩, ⟨by repeat (first | (with_reducible first | exact HB.out | apply below_alloc | apply pw_below_drewN | apply below_drew1 | refine below_set ?_ GE146.out) | exact HB.out)⟩⟩
      · rw [if_neg c8] at H
        exact absurd H (by simp)
    · replace c6 := Bool.eq_false_iff.mpr c6
      subst c6
      have H1 : (formula_times.j0 k ([] : List (S24)) a0_0 a0_1 l0_2) = some r := by rw [if_neg (show ¬ (false = true) by decide)] at H; exact H
      clear H
      have H := H1
      clear H1
      have H' := Aside0.mk H
      clear H
      go_wp2
      go_meet
      case rel => exact ⟨_, (([] : List (S24))), H', ⟨by first | omega | exact Nat.le_refl _⟩, ⟨by first | exact Kd.R_nil _ _ _ _ _ | exact Kd.N_nil _ _ _ _ _ | exact Kd.V_nil _ _ _ _ _ | exact Kd.Q_nil _ _ _ _ _ | exact Kd.S_nil _ _ _ _ _⟩, ⟨by (with_reducible repeat (first | refine blk_drewN ?_ _ | refine blk_drew ?_ | refine blk_alloc ?_ _)); exact BK146.out⟩, ⟨by repeat (first | (with_reducible first | exact HB.out | apply below_alloc | apply pw_below_drewN | apply below_drew1 | refine below_set ?_ GE146.out) | exact HB.out)⟩⟩
  case rest =>
    clear HC3
    try clear p2
    try clear c3
    try clear c4
    try clear c6
    try clear c8
    try clear hcz5_0
    try clear hcz5_1
    try clear hcz5_2
    try clear hcz9_0
    try clear hcz9_1
    try clear hcz9_2
    try clear hfz5_0
    try clear hfz5_1
    try clear hfz5_2
    try clear hfz9_0
    try clear hfz9_1
    try clear hfz9_2
    obtain ⟨kq, x3_2, HA, HJ2, HO_3, BK146, HB⟩ := hcut
    cases kq with
    | zero => exact absurd HA.out (by simp [formula_times.j0])
    | succ kj2 =>
      have H := HA.out
      clear HA
      simp only [formula_times.j0] at H
      have H' := Aside0.mk H
      clear H
      have hcz13_0 : wc.cell? ⟨gb146, 0, none⟩ = some (.int .i64 a0_0) := (blk_cell BK146.out 0).trans rfl
      have hcz13_1 : wc.cell? ⟨gb146, 1, none⟩ = some (.int .i64 a0_1) := (blk_cell BK146.out 1).trans rfl
      have hcz13_2 : wc.cell? ⟨gb146, 2, none⟩ = some (.slice A0_2 l0_2.length c0_2) := (blk_cell BK146.out 2).trans rfl
      have hfz13_0 := blk_frozen BK146.out 0
      have hfz13_1 := blk_frozen BK146.out 1
      have hfz13_2 := blk_frozen BK146.out 2
      go_wp2
      go_loopg [3, 17] kj2 (fun kq v3 v17 w' => ∃ (x3_2 : List (S24)) (x17_2 : Int), v17 = .int .i64 x17_2 ∧ Aside0 (formula_times.l0 kq x3_2 l0_2 (l0_2.length : Int) x17_2 = some r) ∧ Aside0 (kq ≤ kj2) ∧ Aside0 (Kd.N k24 24 w' w.heap.size (fun k_ => (w.heap.size ≤ k_) ∧ k_ ≠ gb146) v3 x3_2) ∧ Aside0 (w'.heap[gb146]? = some (.cells #[.int .i64 a0_0, .int .i64 a0_1, (.slice A0_2 l0_2.length c0_2)] 24 (0, 0))) ∧ Aside0 (Below w.heap.size w w'))
      case atStart => exact ⟨(x3_2), (0), (by first | rfl | (simp; done) | (simp [*]; done)), H', ⟨Nat.le_refl _⟩, ⟨by (with_reducible repeat (first | apply Kd.N_alloc | apply Kd.N_drewN | apply Kd.N_drew)); exact HO_3.out⟩, ⟨by (with_reducible repeat (first | refine blk_drewN ?_ _ | refine blk_drew ?_ | refine blk_alloc ?_ _)); exact BK146.out⟩, ⟨by repeat (first | (with_reducible first | exact HB.out | apply below_alloc | apply pw_below_drewN | apply below_drew1 | refine below_set ?_ GE146.out) | exact HB.out)⟩⟩
      case round =>
        clear H'
        try clear p2
        try clear c3
        try clear c4
        try clear c6
        try clear c8
        try clear hcz13_0
        try clear hcz13_1
        try clear hcz13_2
        try clear hcz5_0
        try clear hcz5_1
        try clear hcz5_2
        try clear hcz9_0
        try clear hcz9_1
        try clear hcz9_2
        try clear hfz13_0
        try clear hfz13_1
        try clear hfz13_2
        try clear hfz5_0
        try clear hfz5_1
        try clear hfz5_2
        try clear hfz9_0
        try clear hfz9_1
        try clear hfz9_2
        try clear p2
        obtain ⟨x3_2, x17_2, rfl, HA, HK2, HO_3, BK146, HB⟩ := hrel
        cases gk with
        | zero => exact absurd HA.out (by simp [formula_times.l0])
        | succ k2 =>
          have H := HA.out
          clear HA
          simp only [formula_times.l0] at H
          by_cases c14 : x17_2 < (l0_2.length : Int)
          · rw [if_pos c14] at H
            have c14b0 : decide (x17_2 < (l0_2.length : Int)) = true := decide_eq_true c14
            clear c14
            by_cases c15 : 0 ≤ x17_2
            · rw [if_pos c15] at H
              have c15b0 : decide (0 ≤ x17_2) = true := decide_eq_true c15
              clear c15
              by_cases c16 : x17_2 < (l0_2.length : Int)
              · rw [if_pos c16] at H
                have c16b0 : decide (x17_2 < (l0_2.length : Int)) = true := decide_eq_true c16
                clear c16
                replace H := Option.bind_eq_some_iff.mp H
                obtain ⟨t158, A170, H⟩ := H
                replace H : (if x3_2.length + t158.length < 3518437208883 then (formula_times.l0 k2 (x3_2 ++ t158) l0_2 (l0_2.length : Int) (wrap64 (x17_2 + 1))) else (none)) = some r := H
                have A17 := Aside0.mk A170
                clear A170
                by_cases c18 : x3_2.length + t158.length < 3518437208883
                · rw [if_pos c18] at H
                  have LMc18 := Aside0.mk c18
                  clear c18
                  obtain ⟨y161, hy161⟩ : ∃ y_ : List (S24), y_ = (x3_2 ++ t158) := ⟨_, rfl⟩
                  replace H : (formula_times.l0 k2 y161 l0_2 (l0_2.length : Int) (wrap64 (x17_2 + 1))) = some r := by first | (rw [hy161]; with_reducible exact H) | (have H2_ := (Option.bind_some _ _).symm.trans H; rw [hy161]; with_reducible exact H2_) | (have H2_ := (Option.bind_some _ _).symm.trans H; with_reducible exact H2_) | with_reducible exact H | (rw [hy161]; exact H) | exact H
                  have Ny161 := Aside0.mk hy161
                  clear hy161
                  have H' := Aside0.mk H
                  clear H
                  have p156 : 0 ≤ (x17_2 : Int) := of_decide_eq_true (by first | (with_reducible assumption) | assumption)
                  have q156 : x17_2 < (l0_2.length : Int) := of_decide_eq_true (by first | (with_reducible assumption) | assumption)
                  obtain ⟨ad156, A156_2, c156_2, e156, hx156_0, hx156_1, hx156_2, hl156_2, hi156_2⟩ := at_T24 HR0_2.out x17_2 p156 q156
                  cases e156
                  replace hx156_0 := (HB.out.cell (World.block_lt_of_cell? w _ hx156_0)).trans hx156_0
                  replace hx156_1 := (HB.out.cell (World.block_lt_of_cell? w _ hx156_1)).trans hx156_1
                  replace hx156_2 := (HB.out.cell (World.block_lt_of_cell? w _ hx156_2)).trans hx156_2
                  have HR156_2 := Aside0.mk hi156_2
                  have HC156_2 := Aside0.mk hl156_2
                  clear hi156_2 hl156_2
                  replace p156 := eq_true p156
                  replace q156 := eq_true q156
                  go_wp2_with (first | ((with_reducible refine gate_dst (N := 5) rfl ?_); refine box_event ?hg (N := 5) ?hd (cs := #[.int .i64 0, .int .i64 0, .slice none 0 0]) (t := 24) ?hr ?_; (case hd => rfl); (case hg => rfl); (case hr => first | (go_simp; done) | (go_simp; rfl)); intro gb157 hg w19 hbox hb; have n0_ := Aside0.mk (Kd.N_below (Kd.N_elderB (by (with_reducible repeat (first | apply Kd.N_alloc | apply Kd.N_drewN | apply Kd.N_drew)); exact HO_3.out) gb157 (Nat.le_of_eq hg.symm)) hb); have n1_ := Aside0.mk (blk_below (g := gb146) (o := .cells #[.int .i64 a0_0, .int .i64 a0_1, .slice (some ad156) l0_2.length c0_2] 24 (0, 0)) (by (with_reducible repeat (first | refine blk_drewN ?_ _ | refine blk_drew ?_ | refine blk_alloc ?_ _)); exact BK146.out) hb); have n2_ := Aside0.mk (below_step (by repeat (first | (with_reducible first | exact HB.out | apply below_alloc | apply pw_below_drewN | apply below_drew1 | refine below_set ?_ GE146.out) | exact HB.out)) hb); have n3_ := Aside0.mk (hbox); have n4_ := Aside0.mk ((by rw [hg]; exact (below_size (by repeat (first | (with_reducible first | exact HB.out | apply below_alloc | apply pw_below_drewN | apply below_drew1 | refine below_set ?_ GE146.out) | exact HB.out))) : w.heap.size ≤ gb157)); have n5_ := Aside0.mk ((by rw [hg]; exact (below_size (by repeat (first | (with_reducible first | exact HB.out | apply below_alloc | apply pw_below_drewN | apply below_drew1 | refine below_set ?_ GE146.out) | exact HB.out))) : w.heap.size ≤ gb157)); have n6_ := Aside0.mk ((by rw [hg]; exact Nat.ne_of_lt (blk_lt (g := gb146) (o := .cells #[.int .i64 a0_0, .int .i64 a0_1, .slice (some ad156) l0_2.length c0_2] 24 (0, 0)) (by (with_reducible repeat (first | refine blk_drewN ?_ _ | refine blk_drew ?_ | refine blk_alloc ?_ _)); exact BK146.out)) : gb146 ≠ gb157)); have n7_ := Aside0.mk ((by rw [hg]; exact Nat.ne_of_gt (blk_lt (g := gb146) (o := .cells #[.int .i64 a0_0, .int .i64 a0_1, .slice (some ad156) l0_2.length c0_2] 24 (0, 0)) (by (with_reducible repeat (first | refine blk_drewN ?_ _ | refine blk_drew ?_ | refine blk_alloc ?_ _)); exact BK146.out)) : gb157 ≠ gb146)); clear HO_3; clear BK146; clear HB; have HO_3 := n0_; have BK146 := n1_; have HB := n2_; have BK157 := n3_; have GW157 := n4_; have GE157 := n5_; have NB146_157 := n6_; have NB157_146 := n7_; clear n0_ n1_ n2_ n3_ n4_ n5_ n6_ n7_; clear hb hbox hg; have hnb20 := NB157_146.out; have hnc20 := NB146_157.out; have hcz21_0 : w19.cell? ⟨gb157, 0, none⟩ = some (.int .i64 0) := (blk_cell BK157.out 0).trans rfl; have hcz21_1 : w19.cell? ⟨gb157, 1, none⟩ = some (.int .i64 0) := (blk_cell BK157.out 1).trans rfl; have hcz21_2 : w19.cell? ⟨gb157, 2, none⟩ = some (.slice none 0 0) := (blk_cell BK157.out 2).trans rfl; have hfz21_0 := blk_frozen BK157.out 0; have hfz21_1 := blk_frozen BK157.out 1; have hfz21_2 := blk_frozen BK157.out 2) | ((with_reducible refine gate_callee (f := 37) rfl ?_); refine goesL_ (some 23) rfl rfl Tryd.func37 (by kernel_rfl) rfl #[.agg #[.int .i64 ((rd_T24 l0_2 x17_2).f0), .int .i64 ((rd_T24 l0_2 x17_2).f1), .slice A156_2 ((rd_T24 l0_2 x17_2).f2).length c156_2]] rfl (by (try simp only [List.map_toArray, List.map_cons, List.map_nil]); first | done | rfl | (simp only [List.length_drop, List.length_take]; rfl)) ?_; (with_reducible refine (ih k2 (by have := HJ2.out; have := HK2.out; omega) ((rd_T24 l0_2 x17_2).f0) ((rd_T24 l0_2 x17_2).f1) _ _ ((rd_T24 l0_2 x17_2).f2) t158 _ ?side1 ?side2 A17.out).mono ?_); (case side1 => exact Kd.C_below HR156_2.out (by repeat (first | (with_reducible first | exact HB.out | apply below_alloc | apply pw_below_drewN | apply below_drew1 | refine below_set ?_ GE146.out | refine below_set ?_ GE157.out) | exact HB.out))); (case side2 => exact HC156_2.out); rintro e w22 ⟨v159, rfl, ho0, hb⟩; refine ⟨_, rfl, ?_⟩; have n0_ := Aside0.mk (Kd.N_elder' (by (with_reducible repeat (first | apply Kd.N_alloc | apply Kd.N_drewN | apply Kd.N_drew)); exact (Kd.N_mono (Kd.N_far (p := ⟨gb157, 2, none⟩) (Kd.N_far (p := ⟨gb157, 1, none⟩) (Kd.N_far (p := ⟨gb157, 0, none⟩) (Kd.N_mono HO_3.out (fun k_ hk => (⟨hk, hk.2⟩ : _ ∧ k_ ≠ gb157))) (fun _ hk => hk.2) (.int .i64 ((rd_T24 l0_2 x17_2).f0))) (fun _ hk => hk.2) (.int .i64 ((rd_T24 l0_2 x17_2).f1))) (fun _ hk => hk.2) (.slice A156_2 ((rd_T24 l0_2 x17_2).f2).length c156_2)) (fun _ h_ => h_.1))) (Kd.N_base ho0) hb); have n1_ := Aside0.mk (Kd.N_lower (Kd.N_mono (ok' := fun k_ => (w.heap.size ≤ k_) ∧ some k_ ≠ (u3 : Value).ownBlock ∧ k_ ≠ gb146 ∧ k_ ≠ gb157) ho0 (fun k_ hk_ => ⟨(Nat.le_trans (below_size (by repeat (first | (with_reducible first | exact HB.out | apply below_alloc | apply pw_below_drewN | apply below_drew1 | refine below_set ?_ GE146.out | refine below_set ?_ GE157.out) | exact HB.out))) hk_), (Kd.fresh' (Kd.N_lt (by (with_reducible repeat (first | apply Kd.N_alloc | apply Kd.N_drewN | apply Kd.N_drew)); exact (Kd.N_mono (Kd.N_far (p := ⟨gb157, 2, none⟩) (Kd.N_far (p := ⟨gb157, 1, none⟩) (Kd.N_far (p := ⟨gb157, 0, none⟩) (Kd.N_mono HO_3.out (fun k_ hk => (⟨hk, hk.2⟩ : _ ∧ k_ ≠ gb157))) (fun _ hk => hk.2) (.int .i64 ((rd_T24 l0_2 x17_2).f0))) (fun _ hk => hk.2) (.int .i64 ((rd_T24 l0_2 x17_2).f1))) (fun _ hk => hk.2) (.slice A156_2 ((rd_T24 l0_2 x17_2).f2).length c156_2)) (fun _ h_ => h_.1)))) k_ hk_), (Kd.freshB (g := gb146) (o := .cells #[.int .i64 a0_0, .int .i64 a0_1, .slice (some ad156) l0_2.length c0_2] 24 (0, 0)) (by (with_reducible repeat (first | refine blk_drewN ?_ _ | refine blk_drew ?_ | refine blk_alloc ?_ _)); refine blk_far ?_ NB146_157.out _; (with_reducible repeat (first | refine blk_drewN ?_ _ | refine blk_drew ?_ | refine blk_alloc ?_ _)); refine blk_far ?_ NB146_157.out _; (with_reducible repeat (first | refine blk_drewN ?_ _ | refine blk_drew ?_ | refine blk_alloc ?_ _)); refine blk_far ?_ NB146_157.out _; (with_reducible repeat (first | refine blk_drewN ?_ _ | refine blk_drew ?_ | refine blk_alloc ?_ _)); exact BK146.out) k_ hk_), (Kd.freshB (g := gb157) (o := .cells #[.int .i64 ((rd_T24 l0_2 x17_2).f0), .int .i64 ((rd_T24 l0_2 x17_2).f1), .slice A156_2 ((rd_T24 l0_2 x17_2).f2).length c156_2] 24 (0, 0)) (by (with_reducible repeat (first | refine blk_drewN ?_ _ | refine blk_drew ?_ | refine blk_alloc ?_ _)); refine blk_put (cs := #[.int .i64 ((rd_T24 l0_2 x17_2).f0), .int .i64 ((rd_T24 l0_2 x17_2).f1), .slice none 0 0]) ?_ 2 _ rfl; (with_reducible repeat (first | refine blk_drewN ?_ _ | refine blk_drew ?_ | refine blk_alloc ?_ _)); refine blk_put (cs := #[.int .i64 ((rd_T24 l0_2 x17_2).f0), .int .i64 0, .slice none 0 0]) ?_ 1 _ rfl; (with_reducible repeat (first | refine blk_drewN ?_ _ | refine blk_drew ?_ | refine blk_alloc ?_ _)); refine blk_put (cs := #[.int .i64 0, .int .i64 0, .slice none 0 0]) ?_ 0 _ rfl; (with_reducible repeat (first | refine blk_drewN ?_ _ | refine blk_drew ?_ | refine blk_alloc ?_ _)); exact BK157.out) k_ hk_)⟩)) (below_size (by repeat (first | (with_reducible first | exact HB.out | apply below_alloc | apply pw_below_drewN | apply below_drew1 | refine below_set ?_ GE146.out | refine below_set ?_ GE157.out) | exact HB.out)))); have n2_ := Aside0.mk (blk_below (g := gb146) (o := .cells #[.int .i64 a0_0, .int .i64 a0_1, .slice (some ad156) l0_2.length c0_2] 24 (0, 0)) (by (with_reducible repeat (first | refine blk_drewN ?_ _ | refine blk_drew ?_ | refine blk_alloc ?_ _)); refine blk_far ?_ NB146_157.out _; (with_reducible repeat (first | refine blk_drewN ?_ _ | refine blk_drew ?_ | refine blk_alloc ?_ _)); refine blk_far ?_ NB146_157.out _; (with_reducible repeat (first | refine blk_drewN ?_ _ | refine blk_drew ?_ | refine blk_alloc ?_ _)); refine blk_far ?_ NB146_157.out _; (with_reducible repeat (first | refine blk_drewN ?_ _ | refine blk_drew ?_ | refine blk_alloc ?_ _)); exact BK146.out) hb); have n3_ := Aside0.mk (blk_below (g := gb157) (o := .cells #[.int .i64 ((rd_T24 l0_2 x17_2).f0), .int .i64 ((rd_T24 l0_2 x17_2).f1), .slice A156_2 ((rd_T24 l0_2 x17_2).f2).length c156_2] 24 (0, 0)) (by (with_reducible repeat (first | refine blk_drewN ?_ _ | refine blk_drew ?_ | refine blk_alloc ?_ _)); refine blk_put (cs := #[.int .i64 ((rd_T24 l0_2 x17_2).f0), .int .i64 ((rd_T24 l0_2 x17_2).f1), .slice none 0 0]) ?_ 2 _ rfl; (with_reducible repeat (first | refine blk_drewN ?_ _ | refine blk_drew ?_ | refine blk_alloc ?_ _)); refine blk_put (cs := #[.int .i64 ((rd_T24 l0_2 x17_2).f0), .int .i64 0, .slice none 0 0]) ?_ 1 _ rfl; (with_reducible repeat (first | refine blk_drewN ?_ _ | refine blk_drew ?_ | refine blk_alloc ?_ _)); refine blk_put (cs := #[.int .i64 0, .int .i64 0, .slice none 0 0]) ?_ 0 _ rfl; (with_reducible repeat (first | refine blk_drewN ?_ _ | refine blk_drew ?_ | refine blk_alloc ?_ _)); exact BK157.out) hb); have n4_ := Aside0.mk (below_step (by repeat (first | (with_reducible first | exact HB.out | apply below_alloc | apply pw_below_drewN | apply below_drew1 | refine below_set ?_ GE146.out | refine below_set ?_ GE157.out) | exact HB.out)) hb); clear HO_3; clear BK146; clear BK157; clear HB; have HO_3 := n0_; have HO160 := n1_; have BK146 := n2_; have BK157 := n3_; have HB := n4_; clear n0_ n1_ n2_ n3_ n4_; (try clear hb); (try clear hb2); (try clear hk); (try clear hi); (try clear ho0); obtain ⟨Ao24, co24, eo24⟩ := Kd.N_slice HO160.out; subst eo24) | ((with_reducible refine gate_builtin (b := .append) (xs := #[.tmp 21, .tmp 23]) rfl ?_); at_builtin; refine Kd.N_append_rows k24 (w0 := w) w.heap.size rfl (.tmp 21) (.tmp 23) 22 24 (.agg #[(.int .i64 0), (.int .i64 0), (.slice none 0 0)]) 40 rfl Tryd.underlying22 info24 rfl (by decide) (by omega) u3 x3_2 t158 _ _ _ (fun k_ => (w.heap.size ≤ k_) ∧ k_ ≠ gb146 ∧ k_ ≠ gb157) (fun k_ => ((fun k_ => (w.heap.size ≤ k_) ∧ k_ ≠ gb146 ∧ k_ ≠ gb157)) k_ ∧ some k_ ≠ (u3 : Value).ownBlock) rfl rfl ?aO ?aR (fun _ hk => hk) ?aF ?aB ?aS ?aL ?_; (case aR => exact (by skip; exact Kd.N_F (Kd.N_mono (ok' := (fun k_ => ((fun k_ => (w.heap.size ≤ k_) ∧ k_ ≠ gb146 ∧ k_ ≠ gb157)) k_ ∧ some k_ ≠ (u3 : Value).ownBlock)) (HO160.out) (fun k_ hk => ⟨⟨hk.1, ⟨hk.2.2.1, hk.2.2.2⟩⟩, hk.2.1⟩)))); (case aB => exact (by repeat (first | (with_reducible first | exact HB.out | apply below_alloc | apply pw_below_drewN | apply below_drew1 | refine below_set ?_ GE146.out | refine below_set ?_ GE157.out) | exact HB.out))); (case aF => exact (fun k_ hk => ⟨(Nat.le_trans (below_size (by repeat (first | (with_reducible first | exact HB.out | apply below_alloc | apply pw_below_drewN | apply below_drew1 | refine below_set ?_ GE146.out | refine below_set ?_ GE157.out) | exact HB.out))) hk), Kd.freshB (g := gb146) (o := .cells #[.int .i64 a0_0, .int .i64 a0_1, .slice (some ad156) l0_2.length c0_2] 24 (0, 0)) (by (with_reducible repeat (first | refine blk_drewN ?_ _ | refine blk_drew ?_ | refine blk_alloc ?_ _)); exact BK146.out) k_ hk, Kd.freshB (g := gb157) (o := .cells #[.int .i64 ((rd_T24 l0_2 x17_2).f0), .int .i64 ((rd_T24 l0_2 x17_2).f1), .slice A156_2 ((rd_T24 l0_2 x17_2).f2).length c156_2] 24 (0, 0)) (by (with_reducible repeat (first | refine blk_drewN ?_ _ | refine blk_drew ?_ | refine blk_alloc ?_ _)); exact BK157.out) k_ hk⟩)); (case aO => exact (by (with_reducible repeat (first | apply Kd.N_alloc | apply Kd.N_drewN | apply Kd.N_drew)); exact Kd.N_mono HO_3.out (fun _ hk => ⟨hk.1.1.1, ⟨hk.1.1.2, hk.1.2⟩⟩))); (case aS => exact (below_size (by repeat (first | (with_reducible first | exact HB.out | apply below_alloc | apply pw_below_drewN | apply below_drew1 | refine below_set ?_ GE146.out | refine below_set ?_ GE157.out) | exact HB.out)))); (case aL => have := LMc18.out; omega); intro v162 w23 ho hb hg hat; rw [← Ny161.out] at ho; have n0_ := Aside0.mk (blk_grown (g := gb146) (o := .cells #[.int .i64 a0_0, .int .i64 a0_1, .slice (some ad156) l0_2.length c0_2] 24 (0, 0)) (by (with_reducible repeat (first | refine blk_drewN ?_ _ | refine blk_drew ?_ | refine blk_alloc ?_ _)); exact BK146.out) hg (Kd.N_away HO_3.out (fun _ hk => hk.1.1.2))); have n1_ := Aside0.mk (blk_grown (g := gb157) (o := .cells #[.int .i64 ((rd_T24 l0_2 x17_2).f0), .int .i64 ((rd_T24 l0_2 x17_2).f1), .slice A156_2 ((rd_T24 l0_2 x17_2).f2).length c156_2] 24 (0, 0)) (by (with_reducible repeat (first | refine blk_drewN ?_ _ | refine blk_drew ?_ | refine blk_alloc ?_ _)); exact BK157.out) hg (Kd.N_away HO_3.out (fun _ hk => hk.1.2))); have n2_ := Aside0.mk (Kd.N_afterv (ok := (fun k_ => (w.heap.size ≤ k_) ∧ k_ ≠ gb146 ∧ k_ ≠ gb157)) (by (with_reducible repeat (first | apply Kd.N_alloc | apply Kd.N_drewN | apply Kd.N_drew)); exact Kd.N_mono HO160.out (fun _ hk => ⟨⟨hk.1, ⟨hk.2.2.1, hk.2.2.2⟩⟩, hk.2.1⟩)) hg hat); have n3_ := Aside0.mk (hb); have n4_ := Aside0.mk (ho); clear BK146; clear BK157; clear HO160; clear HB; clear HO_3; have BK146 := n0_; have BK157 := n1_; have HO160 := n2_; have HB := n3_; have HO163 := n4_; clear n0_ n1_ n2_ n3_ n4_; clear ho hb hg hat))
                  go_roundg k2
                  case measure => have := HJ2.out; have := HK2.out; omega
                  case rel => exact ⟨(y161), (wrap64 (x17_2 + 1)), (by first | rfl | (simp; done) | (simp [*]; done)), H', ⟨by have := HJ2.out; have := HK2.out; omega⟩, ⟨by (with_reducible repeat (first | apply Kd.N_alloc | apply Kd.N_drewN | apply Kd.N_drew)); exact Kd.N_mono HO163.out (fun _ hk => ⟨hk.1, hk.2.1⟩)⟩, ⟨by (with_reducible repeat (first | refine blk_drewN ?_ _ | refine blk_drew ?_ | refine blk_alloc ?_ _)); exact BK146.out⟩, ⟨by repeat (first | (with_reducible first | exact HB.out | apply below_alloc | apply pw_below_drewN | apply below_drew1 | refine below_set ?_ GE146.out | refine below_set ?_ GE157.out) | exact HB.out)⟩⟩
                · rw [if_neg c18] at H
                  exact absurd H (by simp)
              · rw [if_neg c16] at H
                exact absurd H (by simp)
            · rw [if_neg c15] at H
              exact absurd H (by simp)
          · rw [if_neg c14] at H
            have c14b0 : decide (x17_2 < (l0_2.length : Int)) = false := decide_eq_false c14
            clear c14
            obtain rfl := Option.some.inj H
            go_wp2
            go_ret
            exact ⟨_, by first | rfl | (simp [errW_none, errW_some] <;> rfl) | (simp [*, errW_none, errW_some] <;> rfl), by (with_reducible repeat (first | apply Kd.N_alloc | apply Kd.N_drewN | apply Kd.N_drew)); exact Kd.N_mono HO_3.out (fun _ hk => hk.1), by repeat (first | (with_reducible first | exact HB.out | apply below_alloc | apply pw_below_drewN | apply below_drew1 | refine below_set ?_ GE146.out) | exact HB.out)⟩

end Go.Proofs.YtjjnokodkeekhaaDoor.P

namespace Go.Proofs.YtjjnokodkeekhaaDoor.P
open Go.RowKit Go.Proofs.YtjjnokodkeekhaaDoorW.PrintWords Go.Proofs.YtjjnokodkeekhaaDoorW.PrintLast Go.Proofs.YtjjnokodkeekhaaDoorW.PrintMore
attribute [local go_sem] max2_int min2_int max_two min_two max_three min_three max_four min_four   -- for this text's walks alone
set_option linter.unusedVariables false
set_option linter.unusedSimpArgs false

open Go.Proofs.YtjjnokodkeekhaaDoor.X
def formula_Times.f (k : Nat) (a0_0 : Int) (a0_1 : Int) (l0_2 : List (S24)) : Option ((List (S24))) := (formula_May.f a0_0 a0_1 l0_2).bind fun t165 => (if t165 = 0 then ((formula_times.f k a0_0 a0_1 l0_2).bind fun t166 => (some t166)) else (some ([] : List (S24))))
theorem formula_Times.mono : ∀ a0 a1 a2 k, LeO (formula_Times.f k a0 a1 a2) (formula_Times.f (k + 1) a0 a1 a2) := by
  intro a0 a1 a2 k
  unfold formula_Times.f
  repeat' first
      | (with_reducible exact formula_times.mono _ _ _ _)
      | (with_reducible exact LeO.refl _)
      | (with_reducible exact LeO.none _)
      | (with_reducible refine LeO.ite ?_ ?_)
      | (with_reducible refine LeO.bind ?_ (fun _ => ?_))
      | exact formula_times.mono _ _ _ _
      | exact LeO.none _
      | refine LeO.ite ?_ ?_
      | refine LeO.bind ?_ (fun _ => ?_)
set_option maxHeartbeats 8000000 in
set_option maxRecDepth 100000 in
theorem formula_Times.calls (k : Nat) (a0_0 : Int) (a0_1 : Int) (A0_2 : Option Addr) (c0_2 : Nat) (l0_2 : List (S24)) (r : List (S24)) (w : World) (hr0_2 : Kd.C k24 w A0_2 l0_2.length l0_2) (hc0_2 : l0_2.length ≤ c0_2) (h : formula_Times.f k a0_0 a0_1 l0_2 = some r) :
    Calls Tryd.prog 18 #[.agg #[.int .i64 a0_0, .int .i64 a0_1, .slice A0_2 l0_2.length c0_2]] w fun e w' => ∃ v0_ : Value, e = .returned (v0_) ∧ Kd.N k24 24 w' w.heap.size (fun k_ => (w.heap.size ≤ k_)) v0_ r ∧ Below w.heap.size w w' := by
  have hu24 := Tryd.underlying24
  have HR0_2 := Aside0.mk hr0_2
  have HC0_2 := Aside0.mk hc0_2
  clear hr0_2 hc0_2
  have HB := Aside0.mk (Below.refl w.heap.size w)
  have H : ((formula_May.f a0_0 a0_1 l0_2).bind fun t165 => (if t165 = 0 then ((formula_times.f k a0_0 a0_1 l0_2).bind fun t166 => (some t166)) else (some ([] : List (S24))))) = some r := h
  clear h
  replace H := Option.bind_eq_some_iff.mp H
  obtain ⟨t165, A20, H⟩ := H
  replace H : (if t165 = 0 then ((formula_times.f k a0_0 a0_1 l0_2).bind fun t166 => (some t166)) else (some ([] : List (S24)))) = some r := H
  have A2 := Aside0.mk A20
  clear A20
  by_cases c3 : t165 = 0
  · rw [if_pos c3] at H
    have c3b0 : (t165 == 0) = true := beq_iff_eq.mpr c3
    have c3b1 : (t165 != 0) = false := bne_eq_false_iff_eq.mpr c3
    clear c3
    replace H := Option.bind_eq_some_iff.mp H
    obtain ⟨t166, A40, H⟩ := H
    replace H : (some t166) = some r := H
    have A4 := Aside0.mk A40
    clear A40
    obtain rfl := Option.some.inj H
    go_enter Tryd.func18, Tryd.ntmps18
    go_wp2_with (first | ((with_reducible refine gate_dst (N := 1) rfl ?_); refine box_event ?hg (N := 1) ?hd (cs := #[.int .i64 a0_0, .int .i64 a0_1, .slice A0_2 l0_2.length c0_2]) (t := 24) ?hr ?_; (case hd => rfl); (case hg => rfl); (case hr => first | (go_simp; done) | (go_simp; rfl)); intro gb164 hg w5 hbox hb; have n0_ := Aside0.mk (below_step (by repeat (first | (with_reducible first | exact HB.out | apply below_alloc | apply pw_below_drewN | apply below_drew1) | exact HB.out)) hb); have n1_ := Aside0.mk (hbox); have n2_ := Aside0.mk ((by rw [hg]; exact (below_size (by repeat (first | (with_reducible first | exact HB.out | apply below_alloc | apply pw_below_drewN | apply below_drew1) | exact HB.out))) : w.heap.size ≤ gb164)); have n3_ := Aside0.mk ((by rw [hg]; exact (below_size (by repeat (first | (with_reducible first | exact HB.out | apply below_alloc | apply pw_below_drewN | apply below_drew1) | exact HB.out))) : w.heap.size ≤ gb164)); clear HB; have HB := n0_; have BK164 := n1_; have GW164 := n2_; have GE164 := n3_; clear n0_ n1_ n2_ n3_; clear hb hbox hg; have hcz6_0 : w5.cell? ⟨gb164, 0, none⟩ = some (.int .i64 a0_0) := (blk_cell BK164.out 0).trans rfl; have hcz6_1 : w5.cell? ⟨gb164, 1, none⟩ = some (.int .i64 a0_1) := (blk_cell BK164.out 1).trans rfl; have hcz6_2 : w5.cell? ⟨gb164, 2, none⟩ = some (.slice A0_2 l0_2.length c0_2) := (blk_cell BK164.out 2).trans rfl; have hfz6_0 := blk_frozen BK164.out 0; have hfz6_1 := blk_frozen BK164.out 1; have hfz6_2 := blk_frozen BK164.out 2) | ((with_reducible refine gate_callee (f := 13) rfl ?_); refine goesL_ (some 4) rfl rfl Tryd.func13 (by kernel_rfl) rfl #[.agg #[.int .i64 a0_0, .int .i64 a0_1, .slice A0_2 l0_2.length c0_2]] rfl (by (try simp only [List.map_toArray, List.map_cons, List.map_nil]); first | done | rfl | (simp only [List.length_drop, List.length_take]; rfl)) ?_; (with_reducible refine (formula_May.calls a0_0 a0_1 _ _ l0_2 t165 _ ?side1 ?side2 A2.out).mono ?_); (case side1 => repeat (first | exact (Kd.C_below HR0_2.out HB.out) | (with_reducible refine Kd.C_alloc ?_ _) | (with_reducible refine Kd.C_drewN ?_ _) | (with_reducible refine Kd.C_drew ?_))); (case side2 => exact HC0_2.out); rintro e w7 ⟨rfl, hb⟩; refine ⟨_, rfl, ?_⟩; have n0_ := Aside0.mk (blk_below (g := gb164) (o := .cells #[.int .i64 a0_0, .int .i64 a0_1, .slice A0_2 l0_2.length c0_2] 24 (0, 0)) (by (with_reducible repeat (first | refine blk_drewN ?_ _ | refine blk_drew ?_ | refine blk_alloc ?_ _)); exact BK164.out) hb); have n1_ := Aside0.mk (below_step (by repeat (first | (with_reducible first | exact HB.out | apply below_alloc | apply pw_below_drewN | apply below_drew1 | refine below_set ?_ GE164.out) | exact HB.out)) hb); clear BK164; clear HB; have BK164 := n0_; have HB := n1_; clear n0_ n1_; (try clear hb); (try clear hb2); (try clear hk); (try clear hi); have hcz8_0 : w7.cell? ⟨gb164, 0, none⟩ = some (.int .i64 a0_0) := (blk_cell BK164.out 0).trans rfl; have hcz8_1 : w7.cell? ⟨gb164, 1, none⟩ = some (.int .i64 a0_1) := (blk_cell BK164.out 1).trans rfl; have hcz8_2 : w7.cell? ⟨gb164, 2, none⟩ = some (.slice A0_2 l0_2.length c0_2) := (blk_cell BK164.out 2).trans rfl; have hfz8_0 := blk_frozen BK164.out 0; have hfz8_1 := blk_frozen BK164.out 1; have hfz8_2 := blk_frozen BK164.out 2) | ((with_reducible refine gate_callee (f := 37) rfl ?_); refine goesL_ (some 7) rfl rfl Tryd.func37 (by kernel_rfl) rfl #[.agg #[.int .i64 a0_0, .int .i64 a0_1, .slice A0_2 l0_2.length c0_2]] rfl (by (try simp only [List.map_toArray, List.map_cons, List.map_nil]); first | done | rfl | (simp only [List.length_drop, List.length_take]; rfl)) ?_; (with_reducible refine (formula_times.calls k a0_0 a0_1 _ _ l0_2 t166 _ ?side1 ?side2 A4.out).mono ?_); (case side1 => repeat (first | exact (Kd.C_below HR0_2.out HB.out) | (with_reducible refine Kd.C_alloc ?_ _) | (with_reducible refine Kd.C_drewN ?_ _) | (with_reducible refine Kd.C_drew ?_))); (case side2 => exact HC0_2.out); rintro e w9 ⟨v167, rfl, ho0, hb⟩; refine ⟨_, rfl, ?_⟩; have n0_ := Aside0.mk (Kd.N_lower (Kd.N_mono (ok' := fun k_ => (w.heap.size ≤ k_) ∧ k_ ≠ gb164) ho0 (fun k_ hk_ => ⟨(Nat.le_trans (below_size (by repeat (first | (with_reducible first | exact HB.out | apply below_alloc | apply pw_below_drewN | apply below_drew1 | refine below_set ?_ GE164.out) | exact HB.out))) hk_), (Kd.freshB (g := gb164) (o := .cells #[.int .i64 a0_0, .int .i64 a0_1, .slice A0_2 l0_2.length c0_2] 24 (0, 0)) (by (with_reducible repeat (first | refine blk_drewN ?_ _ | refine blk_drew ?_ | refine blk_alloc ?_ _)); exact BK164.out) k_ hk_)⟩)) (below_size (by repeat (first | (with_reducible first | exact HB.out | apply below_alloc | apply pw_below_drewN | apply below_drew1 | refine below_set ?_ GE164.out) | exact HB.out)))); have n1_ := Aside0.mk (blk_below (g := gb164) (o := .cells #[.int .i64 a0_0, .int .i64 a0_1, .slice A0_2 l0_2.length c0_2] 24 (0, 0)) (by (with_reducible repeat (first | refine blk_drewN ?_ _ | refine blk_drew ?_ | refine blk_alloc ?_ _)); exact BK164.out) hb); have n2_ := Aside0.mk (below_step (by repeat (first | (with_reducible first | exact HB.out | apply below_alloc | apply pw_below_drewN | apply below_drew1 | refine below_set ?_ GE164.out) | exact HB.out)) hb); clear BK164; clear HB; have HO168 := n0_; have BK164 := n1_; have HB := n2_; clear n0_ n1_ n2_; (try clear hb); (try clear hb2); (try clear hk); (try clear hi); (try clear ho0)))
    go_ret
    exact ⟨_, by first | rfl | (simp [errW_none, errW_some] <;> rfl) | (simp [*, errW_none, errW_some] <;> rfl), by (with_reducible repeat (first | apply Kd.N_alloc | apply Kd.N_drewN | apply Kd.N_drew)); exact Kd.N_mono HO168.out (fun _ hk => hk.1), by repeat (first | (with_reducible first | exact HB.out | apply below_alloc | apply pw_below_drewN | apply below_drew1 | refine below_set ?_ GE164.out) | exact HB.out)⟩
  · rw [if_neg c3] at H
    have c3b0 : (t165 == 0) = false := beq_eq_false_iff_ne.mpr c3
    have c3b1 : (t165 != 0) = true := bne_iff_ne.mpr c3
    obtain rfl := Option.some.inj H
    go_enter Tryd.func18, Tryd.ntmps18
    go_wp2_with (first | ((with_reducible refine gate_dst (N := 1) rfl ?_); refine box_event ?hg (N := 1) ?hd (cs := #[.int .i64 a0_0, .int .i64 a0_1, .slice A0_2 l0_2.length c0_2]) (t := 24) ?hr ?_; (case hd => rfl); (case hg => rfl); (case hr => first | (go_simp; done) | (go_simp; rfl)); intro gb164 hg w10 hbox hb; have n0_ := Aside0.mk (below_step (by repeat (first | (with_reducible first | exact HB.out | apply below_alloc | apply pw_below_drewN | apply below_drew1) | exact HB.out)) hb); have n1_ := Aside0.mk (hbox); have n2_ := Aside0.mk ((by rw [hg]; exact (below_size (by repeat (first | (with_reducible first | exact HB.out | apply below_alloc | apply pw_below_drewN | apply below_drew1) | exact HB.out))) : w.heap.size ≤ gb164)); have n3_ := Aside0.mk ((by rw [hg]; exact (below_size (by repeat (first | (with_reducible first | exact HB.out | apply below_alloc | apply pw_below_drewN | apply below_drew1) | exact HB.out))) : w.heap.size ≤ gb164)); clear HB; have HB := n0_; have BK164 := n1_; have GW164 := n2_; have GE164 := n3_; clear n0_ n1_ n2_ n3_; clear hb hbox hg; have hcz11_0 : w10.cell? ⟨gb164, 0, none⟩ = some (.int .i64 a0_0) := (blk_cell BK164.out 0).trans rfl; have hcz11_1 : w10.cell? ⟨gb164, 1, none⟩ = some (.int .i64 a0_1) := (blk_cell BK164.out 1).trans rfl; have hcz11_2 : w10.cell? ⟨gb164, 2, none⟩ = some (.slice A0_2 l0_2.length c0_2) := (blk_cell BK164.out 2).trans rfl; have hfz11_0 := blk_frozen BK164.out 0; have hfz11_1 := blk_frozen BK164.out 1; have hfz11_2 := blk_frozen BK164.out 2) | ((with_reducible refine gate_callee (f := 13) rfl ?_); refine goesL_ (some 4) rfl rfl Tryd.func13 (by kernel_rfl) rfl #[.agg #[.int .i64 a0_0, .int .i64 a0_1, .slice A0_2 l0_2.length c0_2]] rfl (by (try simp only [List.map_toArray, List.map_cons, List.map_nil]); first | done | rfl | (simp only [List.length_drop, List.length_take]; rfl)) ?_; (with_reducible refine (formula_May.calls a0_0 a0_1 _ _ l0_2 t165 _ ?side1 ?side2 A2.out).mono ?_); (case side1 => repeat (first | exact (Kd.C_below HR0_2.out HB.out) | (with_reducible refine Kd.C_alloc ?_ _) | (with_reducible refine Kd.C_drewN ?_ _) | (with_reducible refine Kd.C_drew ?_))); (case side2 => exact HC0_2.out); rintro e w12 ⟨rfl, hb⟩; refine ⟨_, rfl, ?_⟩; have n0_ := Aside0.mk (blk_below (g := gb164) (o := .cells #[.int .i64 a0_0, .int .i64 a0_1, .slice A0_2 l0_2.length c0_2] 24 (0, 0)) (by (with_reducible repeat (first | refine blk_drewN ?_ _ | refine blk_drew ?_ | refine blk_alloc ?_ _)); exact BK164.out) hb); have n1_ := Aside0.mk (below_step (by repeat (first | (with_reducible first | exact HB.out | apply below_alloc | apply pw_below_drewN | apply below_drew1 | refine below_set ?_ GE164.out) | exact HB.out)) hb); clear BK164; clear HB; have BK164 := n0_; have HB := n1_; clear n0_ n1_; (try clear hb); (try clear hb2); (try clear hk); (try clear hi)))
    go_ret
    exact ⟨_, by first | rfl | (simp [errW_none, errW_some] <;> rfl) | (simp [*, errW_none, errW_some] <;> rfl), by first | exact Kd.R_nil _ _ _ _ _ | exact Kd.N_nil _ _ _ _ _ | exact Kd.V_nil _ _ _ _ _ | exact Kd.Q_nil _ _ _ _ _ | exact Kd.S_nil _ _ _ _ _, by repeat (first | (with_reducible first | exact HB.out | apply below_alloc | apply pw_below_drewN | apply below_drew1 | refine below_set ?_ GE164.out) | exact HB.out)⟩

end Go.Proofs.YtjjnokodkeekhaaDoor.P

namespace Go.Proofs.YtjjnokodkeekhaaDoor.X
open Go.RowKit Go.Proofs.YtjjnokodkeekhaaDoorW.PrintWords Go.Proofs.YtjjnokodkeekhaaDoorW.PrintLast Go.Proofs.YtjjnokodkeekhaaDoorW.PrintMore
open Go.Proofs.YtjjnokodkeekhaaDoor.P
set_option linter.unusedSimpArgs false
set_option linter.unusedVariables false
theorem infoU32 : (Tryd.prog.info? 49).map (fun i => (i.zero, i.size, i.bytes)) = some (some (.int .u32 0), 1, 4) := by kernel_rfl
set_option maxHeartbeats 1600000 in
theorem Grow_nil (m : Int) (w : World) (h0 : 0 < m) (h1 : m < 1000000000) :
    Calls Tryd.prog 52 #[.slice none 0 0, .int .i64 m] w fun e w' => ∃ v, e = .returned v ∧ Kd.R (Kd.int .u32) 49 w' w.heap.size (fun _ => True) v [] ∧ Below w.heap.size w w' := by
  have hus := Tryd.underlying25
  have hui := Tryd.underlying3
  have hnn : ¬ m < 0 := by omega
  go_enter Tryd.func52, Tryd.ntmps52
  go_wp2_with ((with_reducible refine gate_builtin (b := .append) (xs := #[.tmp 20, .tmp 21]) rfl ?_); at_builtin; refine Kd.R_append_zeros (Kd.int .u32) (w0 := w) w.heap.size rfl (.tmp 20) (.tmp 21) 25 3 49 (.int .u32 0) 4 rfl hus hui infoU32 rfl (by decide) (by decide) (.slice none 0 0) [] 0 (kx := .i64) m (fun _ => True) rfl rfl rfl (fun _ _ => trivial) (Kd.R_nil _ _ _ _ _) (by omega) (Below.refl _ _) (Nat.le_refl _) (by simp; omega) ?_; intro v1 w1 hR hB hg hat; obtain ⟨A1, c1, hv1⟩ := Kd.R_slice hR; subst hv1; have HR := Aside0.mk hR; have HB := Aside0.mk hB; clear hR hB hg hat)
  go_ret
  exact ⟨_, rfl, by have := Kd.R_take (m := 0) HR.out (by simp); simpa using this, HB.out⟩
set_option maxHeartbeats 4000000 in
set_option maxRecDepth 100000 in
theorem Concat_calls (gb : Nat) (A1 A2 : Option Addr) (c1 c2 : Nat) (l1 l2 : List Int) (w : World) (hb : w.heap[gb]? = some (.cells #[.slice A1 l1.length c1, .slice A2 l2.length c2] 25 (0, 0))) (hr1 : Kd.C (Kd.int .u32) w A1 l1.length l1) (hr2 : Kd.C (Kd.int .u32) w A2 l2.length l2) (h0 : 0 < l1.length + l2.length) (h1 : l1.length + l2.length < 1000000000) :
    Calls Tryd.prog 35 #[.slice (some ⟨gb, 0, none⟩) 2 2] w fun e w' => ∃ v, e = .returned v ∧ Kd.R (Kd.int .u32) 49 w' w.heap.size (fun _ => True) v (l1 ++ l2) ∧ Below w.heap.size w w' := by
  have hus := Tryd.underlying25
  have huss := Tryd.underlying66
  have hui := Tryd.underlying3
  have hgb : gb < w.heap.size := blk_lt hb
  have x0 : w.cell? ⟨gb, 0, none⟩ = some (.slice A1 l1.length c1) := (blk_cell hb 0).trans rfl
  have x1 : w.cell? ⟨gb, 1, none⟩ = some (.slice A2 l2.length c2) := (blk_cell hb 1).trans rfl
  have R1 := Aside0.mk hr1
  have R2 := Aside0.mk hr2
  have X0 := Aside0.mk x0
  have X1 := Aside0.mk x1
  clear hb hr1 hr2 x0 x1
  go_enter Tryd.func35, Tryd.ntmps35
  go_wp2
  go_loopg [3, 11] 2 (fun kq v3 v11 w' => (kq = 2 ∧ v3 = .int .i64 0 ∧ v11 = .int .i64 0 ∧ w' = w) ∨ (kq = 1 ∧ v3 = .int .i64 (l1.length : Int) ∧ v11 = .int .i64 1 ∧ w' = w) ∨ (kq = 0 ∧ v3 = .int .i64 ((l1.length : Int) + (l2.length : Int)) ∧ v11 = .int .i64 2 ∧ w' = w))
  case atStart => exact .inl ⟨rfl, rfl, rfl, rfl⟩
  case round =>
    rcases hrel with ⟨rfl, rfl, rfl, rfl⟩ | ⟨rfl, rfl, rfl, rfl⟩ | ⟨rfl, rfl, rfl, rfl⟩
    · have y0 := X0.out
      have hn : ¬ ((l1.length : Int) < 0) := by omega
      go_wp2
      go_roundg 1
      case measure => omega
      case rel => exact .inr (.inl ⟨rfl, by first | rfl | (simp; done), rfl, rfl⟩)
    · have y1 := X1.out
      have hn : ¬ ((l1.length : Int) + (l2.length : Int) < 0) := by omega
      go_wp2
      go_roundg 0
      case measure => omega
      case rel => exact .inr (.inr ⟨rfl, by first | rfl | (simp; done), rfl, rfl⟩)
    · obtain ⟨WW, rfl⟩ : ∃ W : World, W = wr := ⟨_, rfl⟩
      go_wp2_with (go_at_call 52; refine (Grow_nil _ _ (by omega) (by omega)).mono ?_; rintro e w1 ⟨v, rfl, hR, hB⟩; have HR := Aside0.mk hR; have HB := Aside0.mk hB; clear hR hB)
      go_loopg [6, 27] 2 (fun kq v6 v27 w' => Aside0 (Below WW.heap.size WW w') ∧ ((kq = 2 ∧ v27 = .int .i64 0 ∧ Aside0 (Kd.R (Kd.int .u32) 49 w' WW.heap.size (fun _ => True) v6 [])) ∨ (kq = 1 ∧ v27 = .int .i64 1 ∧ Aside0 (Kd.R (Kd.int .u32) 49 w' WW.heap.size (fun _ => True) v6 l1)) ∨ (kq = 0 ∧ v27 = .int .i64 2 ∧ Aside0 (Kd.R (Kd.int .u32) 49 w' WW.heap.size (fun _ => True) v6 (l1 ++ l2)))))
      case atStart => exact ⟨HB, .inl ⟨rfl, rfl, HR⟩⟩
      case round =>
        obtain ⟨HBV, hrel⟩ := hrel
        rcases hrel with ⟨rfl, rfl, HV⟩ | ⟨rfl, rfl, HV⟩ | ⟨rfl, rfl, HV⟩
        · have y0 := (HBV.out.cell (World.block_lt_of_cell? _ _ X0.out)).trans X0.out
          go_wp2_with (first | ((with_reducible refine gate_builtin (b := .append) (xs := #[.tmp 31, .tmp 32]) rfl ?_); at_builtin; refine Kd.R_append_row (Value.int .u32) (0 : Int) (h1 := fun _ => rfl) (w0 := WW) WW.heap.size rfl (.tmp 31) (.tmp 32) 25 49 (.int .u32 0) 4 rfl hus infoU32 rfl (by decide) u6 [] l1 A1 l1.length c1 (fun _ => True) rfl rfl (fun _ _ => trivial) HV.out (Kd.C_below R1.out HBV.out) HBV.out HBV.out.size (by first | omega | (simp; omega)) ?_; intro v1 w2 hR hB hg hat; have HV2 := Aside0.mk hR; have HBV2 := Aside0.mk hB; clear hR hB hg hat))
          go_roundg 1
          case measure => omega
          case rel => exact ⟨HBV2, .inr (.inl ⟨rfl, rfl, HV2⟩)⟩
        · have y1 := (HBV.out.cell (World.block_lt_of_cell? _ _ X1.out)).trans X1.out
          go_wp2_with (first | ((with_reducible refine gate_builtin (b := .append) (xs := #[.tmp 31, .tmp 32]) rfl ?_); at_builtin; refine Kd.R_append_row (Value.int .u32) (0 : Int) (h1 := fun _ => rfl) (w0 := WW) WW.heap.size rfl (.tmp 31) (.tmp 32) 25 49 (.int .u32 0) 4 rfl hus infoU32 rfl (by decide) u6 l1 l2 A2 l2.length c2 (fun _ => True) rfl rfl (fun _ _ => trivial) HV.out (Kd.C_below R2.out HBV.out) HBV.out HBV.out.size (by first | omega | (simp; omega)) ?_; intro v1 w2 hR hB hg hat; have HV2 := Aside0.mk hR; have HBV2 := Aside0.mk hB; clear hR hB hg hat))
          go_roundg 0
          case measure => omega
          case rel => exact ⟨HBV2, .inr (.inr ⟨rfl, rfl, HV2⟩)⟩
        · go_wp2
          go_ret
          exact ⟨_, rfl, HV.out, HBV.out⟩
end Go.Proofs.YtjjnokodkeekhaaDoor.X

