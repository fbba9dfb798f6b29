/- A part of the claim SearchReal. -/
import Derived.Test.YtapejnikpmfddaaProg
import Derived.Laws.MathBits
import Derived.Laws.CopyOwn
import Derived.Test.YtapejnikpmfddaaQSearchRealb
set_option linter.unusedVariables false
set_option linter.unusedSimpArgs false
set_option maxHeartbeats 8000000
set_option maxRecDepth 100000
namespace Go.Proofs.Ytapejnikpmfddaa.P
open Go.RowKit Go.Proofs.YtapejnikpmfddaaW.PrintWords Go.Proofs.YtapejnikpmfddaaW.PrintLast Go.Proofs.YtapejnikpmfddaaW.PrintMore
attribute [local go_sem] max2_int min2_int max_two min_two max_three min_three max_four min_four



def errW : Option Int → Value
 | none => .nilIface
 | some c => .iface 0 (.int .i64 c)
theorem errW_none : errW none = .nilIface := rfl
theorem errW_some (c : Int) : errW (some c) = .iface 0 (.int .i64 c) := rfl

theorem info29 : (Try.prog.info? 29).map (fun i => (i.zero, i.size, i.bytes)) = some (some (.agg #[(.int .i64 0), (.int .i64 0), (.slice none 0 0)]), 3, 40) := by kernel_rfl
structure S29 where
 f0 : Int
 f1 : Int
 f2 : (List S29)
def z29 : S29 := ⟨(0 : Int), (0 : Int), ([] : List S29)⟩
def F29 (d : Kd S29) : Kd S29 := Kd.iso (Kd.pair (Kd.int .i64) (Kd.pair (Kd.int .i64) (Kd.slice 29 d))) (fun x : S29 => (x.f0, x.f1, x.f2))
theorem mono29 : Kd.Mono F29 := Kd.mono_iso _ (Kd.mono_pair (Kd.mono_const _) (Kd.mono_pair (Kd.mono_const _) (Kd.mono_slice 29 Kd.mono_id)))
theorem sub29 : Kd.Sub F29 [29] := Kd.sub_iso _ (Kd.sub_pair (Kd.sub_const _ (by decide)) (Kd.sub_pair (Kd.sub_const _ (by decide)) (Kd.sub_slice 29 (by decide) Kd.sub_id)))
theorem sz29 : ∀ n, (Kd.upto F29 3 [29] n).sz = 3 := Kd.upto_sz (fun _ => rfl)
def k29 : Kd S29 := Kd.fix F29 3 [29] sz29 (Kd.upto_E sub29)
theorem k29_open {w : World} {x : S29} {cs : List Value} (h : k29.K w x cs) : ∃ A2 c2, cs = [.int .i64 x.f0, .int .i64 x.f1, .slice A2 x.f2.length c2] ∧ x.f2.length ≤ c2 ∧ k29.C w A2 x.f2.length x.f2 := by
 obtain ⟨n, h⟩ := h
 cases n with
 | zero => exact h.elim
 | succ n =>
  obtain ⟨_, _, rfl, rfl, ⟨_, _, rfl, rfl, ⟨A2, c2, rfl, l2, g2⟩⟩⟩ := h
  exact ⟨A2, c2, rfl, l2, Kd.fix_C g2⟩
theorem k29_mk (w : World) (x : S29) {A2 : Option Addr} {c2 : Nat} (l2 : x.f2.length ≤ c2) (g2 : k29.C w A2 x.f2.length x.f2) : k29.K w x [.int .i64 x.f0, .int .i64 x.f1, .slice A2 x.f2.length c2] := by
 obtain ⟨n2, q2⟩ := Kd.fix_C_back mono29 g2
 have r2 := Kd.upto_C_le mono29 sz29 (show n2 ≤ n2 by omega) q2
 exact ⟨n2 + 1, ⟨[.int .i64 x.f0], [.int .i64 x.f1, .slice A2 x.f2.length c2], rfl, rfl, ⟨[.int .i64 x.f1], [.slice A2 x.f2.length c2], rfl, rfl, ⟨A2, c2, rfl, l2, r2⟩⟩⟩⟩
theorem k29_mkM (w : World) (base : Nat) (ok : Nat → Prop) (x : S29) {v2 : Value} (g2 : k29.R 29 w base ok v2 x.f2) : k29.M w base ok x [.int .i64 x.f0, .int .i64 x.f1, v2] := by
 obtain ⟨n2, q2⟩ := Kd.fix_R_back mono29 g2
 have r2 := Kd.upto_R_le mono29 sz29 (show n2 ≤ n2 by omega) q2
 exact ⟨n2 + 1, ⟨[.int .i64 x.f0], [.int .i64 x.f1, v2], rfl, rfl, ⟨[.int .i64 x.f1], [v2], rfl, rfl, ⟨v2, rfl, r2⟩⟩⟩⟩
theorem k29_openF {W : World} {ok : Nat → Prop} {x : S29} {cs : List Value} (h : Kd.FK k29 W ok x cs) : ∃ A2 c2, cs = [.int .i64 x.f0, .int .i64 x.f1, .slice A2 x.f2.length c2] ∧ x.f2.length ≤ c2 ∧ Kd.F k29 W ok A2 x.f2.length x.f2 := by
 obtain ⟨A2, c2, rfl, l2, _⟩ := k29_open (Kd.FK_now h)
 exact ⟨A2, c2, rfl, l2, (fun W' hW => by obtain ⟨A2_, c2_, he, l2_, g2_⟩ := k29_open (h W' hW); injection (Option.some.inj (show some (Value.slice A2 x.f2.length c2) = some (Value.slice A2_ x.f2.length c2_) from congrArg (fun l => l[2]?) he)) with ha_ _ _; rw [ha_]; exact g2_)⟩
theorem k29_mkF (W : World) (ok : Nat → Prop) (x : S29) {A2 : Option Addr} {c2 : Nat} (l2 : x.f2.length ≤ c2) (g2 : Kd.F k29 W ok A2 x.f2.length x.f2) : Kd.FK k29 W ok x [.int .i64 x.f0, .int .i64 x.f1, .slice A2 x.f2.length c2] := fun W2 hW => k29_mk W2 x l2 (g2 W2 hW)
def rd_T29 (xs : List S29) (i : Int) : S29 := xs.getD i.toNat z29
theorem at_T29 {w : World} {A : Option Addr} {n : Nat} {xs : List S29} (h : Kd.C k29 w A n xs) (i : Int) (h0 : 0 ≤ i) (h1 : i < n) : ∃ ad A2 c2, A = some ad ∧ w.cell? (ad.add (i.toNat * 3)) = some (.int .i64 (rd_T29 xs i).f0) ∧ w.cell? ⟨(ad.add (i.toNat * 3)).block, (ad.add (i.toNat * 3)).off + 1, none⟩ = some (.int .i64 (rd_T29 xs i).f1) ∧ w.cell? ⟨(ad.add (i.toNat * 3)).block, (ad.add (i.toNat * 3)).off + 2, none⟩ = some (.slice A2 (rd_T29 xs i).f2.length c2) ∧ (rd_T29 xs i).f2.length ≤ c2 ∧ k29.C w A2 (rd_T29 xs i).f2.length (rd_T29 xs i).f2 := by
 obtain ⟨ad, c, e, _, hK, hc0⟩ := Kd.C_get h z29 i h0 h1
 have hc : ∀ j u, c[j]? = some u → w.cell? (ad.add (i.toNat * 3 + j)) = some u := hc0
 obtain ⟨A2, c2, rfl, l2, g2⟩ := k29_open hK
 exact ⟨ad, A2, c2, e, hc 0 _ rfl, by rw [← add_field _ _ 1 (by omega)]; exact hc 1 _ rfl, by rw [← add_field _ _ 2 (by omega)]; exact hc 2 _ rfl, l2, g2⟩

def rd_L3 (xs : List (List Int)) (i : Int) : (List Int) := xs.getD i.toNat ([] : List Int)
theorem at_L3 {w : World} {A : Option Addr} {n : Nat} {xs : List (List Int)} (h : Kd.C (Kd.slice 3 (Kd.int .i64)) w A n xs) (i : Int) (h0 : 0 ≤ i) (h1 : i < n) : ∃ ad A0 c0, A = some ad ∧ w.cell? (ad.add i.toNat) = some (.slice A0 (rd_L3 xs i).length c0) ∧ (rd_L3 xs i).length ≤ c0 ∧ (Kd.int .i64).C w A0 (rd_L3 xs i).length (rd_L3 xs i) := by
 obtain ⟨ad, c, e, _, hK, hc0⟩ := Kd.C_get h ([] : List Int) i h0 h1
 have hc : ∀ j u, c[j]? = some u → w.cell? (ad.add (i.toNat * 1 + j)) = some u := hc0
 obtain ⟨A0, c0, rfl, l0, g0⟩ := hK
 exact ⟨ad, A0, c0, e, by have hq := hc 0 _ rfl; rwa [Nat.mul_one, Nat.add_zero] at hq, l0, g0⟩

structure S81 where
 f0 : S29
 f1 : Int
 f2 : Int
def z81 : S81 := ⟨z29, (0 : Int), (0 : Int)⟩
def k81 : Kd S81 := Kd.iso (Kd.pair k29 (Kd.pair (Kd.int .i64) (Kd.int .i64))) (fun x : S81 => (x.f0, x.f1, x.f2))
theorem k81_open {w : World} {x : S81} {cs : List Value} (h : k81.K w x cs) : ∃ A2 c2, cs = [.int .i64 x.f0.f0, .int .i64 x.f0.f1, .slice A2 x.f0.f2.length c2, .int .i64 x.f1, .int .i64 x.f2] ∧ x.f0.f2.length ≤ c2 ∧ k29.C w A2 x.f0.f2.length x.f0.f2 := by
 obtain ⟨_, _, rfl, s0, ⟨_, _, rfl, rfl, rfl⟩⟩ := h
 obtain ⟨A2, c2, rfl, l2, g2⟩ := k29_open s0
 exact ⟨A2, c2, rfl, l2, g2⟩
theorem k81_mk (w : World) (x : S81) {A2 : Option Addr} {c2 : Nat} (l2 : x.f0.f2.length ≤ c2) (g2 : k29.C w A2 x.f0.f2.length x.f0.f2) : k81.K w x [.int .i64 x.f0.f0, .int .i64 x.f0.f1, .slice A2 x.f0.f2.length c2, .int .i64 x.f1, .int .i64 x.f2] := ⟨[.int .i64 x.f0.f0, .int .i64 x.f0.f1, .slice A2 x.f0.f2.length c2], [.int .i64 x.f1, .int .i64 x.f2], rfl, (k29_mk w x.f0 l2 g2), ⟨[.int .i64 x.f1], [.int .i64 x.f2], rfl, rfl, rfl⟩⟩
theorem k81_mkF (W : World) (ok : Nat → Prop) (x : S81) {A2 : Option Addr} {c2 : Nat} (l2 : x.f0.f2.length ≤ c2) (g2 : Kd.F k29 W ok A2 x.f0.f2.length x.f0.f2) : Kd.FK k81 W ok x [.int .i64 x.f0.f0, .int .i64 x.f0.f1, .slice A2 x.f0.f2.length c2, .int .i64 x.f1, .int .i64 x.f2] := fun W2 hW => k81_mk W2 x l2 (g2 W2 hW)
structure S26 where
 f0 : (List Int)
 f1 : (List Int)
 f2 : (List (List Int))
def k26 : Kd S26 := Kd.iso (Kd.pair (Kd.slice 48 (Kd.int .u32)) (Kd.pair (Kd.slice 3 (Kd.int .i64)) (Kd.slice 23 (Kd.slice 3 (Kd.int .i64))))) (fun x : S26 => (x.f0, x.f1, x.f2))
theorem k26_open {w : World} {x : S26} {cs : List Value} (h : k26.K w x cs) : ∃ A0 c0 A1 c1 A2 c2, cs = [.slice A0 x.f0.length c0, .slice A1 x.f1.length c1, .slice A2 x.f2.length c2] ∧ x.f0.length ≤ c0 ∧ (Kd.int .u32).C w A0 x.f0.length x.f0 ∧ x.f1.length ≤ c1 ∧ (Kd.int .i64).C w A1 x.f1.length x.f1 ∧ x.f2.length ≤ c2 ∧ (Kd.slice 3 (Kd.int .i64)).C w A2 x.f2.length x.f2 := by
 obtain ⟨_, _, rfl, ⟨A0, c0, rfl, l0, g0⟩, ⟨_, _, rfl, ⟨A1, c1, rfl, l1, g1⟩, ⟨A2, c2, rfl, l2, g2⟩⟩⟩ := h
 exact ⟨A0, c0, A1, c1, A2, c2, rfl, l0, g0, l1, g1, l2, g2⟩
end Go.Proofs.Ytapejnikpmfddaa.P
namespace Go.Proofs.Ytapejnikpmfddaa.X
open Go.RowKit Go.Proofs.YtapejnikpmfddaaW.PrintWords
open Go.Proofs.Ytapejnikpmfddaa.P
structure Cnt where
 n : Int
 t : Int
 deep : Bool
def timedS (op : Int) : Bool := decide (6 ≤ op) && decide (op ≤ 8)
mutual
def goesS : S29 → Int → Cnt → Cnt
 | ⟨op, _, kids⟩, d, c => if d > 12 then ⟨c.n, c.t, true⟩ else goesL kids (d + 1) ⟨c.n + 1, if timedS op = true then c.t + 1 else c.t, c.deep⟩
def goesL : List S29 → Int → Cnt → Cnt
 | [], _, c => c
 | k :: r, d, c => if c.n > 60 then c else goesL r d (goesS k d c)
end
mutual
theorem goesS_le : ∀ (s : S29) (d : Int) (c : Cnt), 0 ≤ c.n → c.n ≤ 60 → 0 ≤ c.t → c.t ≤ c.n → c.n ≤ (goesS s d c).n ∧ (goesS s d c).n ≤ 61 ∧ 0 ≤ (goesS s d c).t ∧ (goesS s d c).t ≤ (goesS s d c).n
 | ⟨op, m, kids⟩, d, c, h0, h1, h2, h3 => by
  simp only [goesS]
  split
  ·exact ⟨Int.le_refl _, by show c.n ≤ 61; omega, h2, h3⟩
  ·have := goesL_le kids (d + 1) ⟨c.n + 1, if timedS op = true then c.t + 1 else c.t, c.deep⟩ (by show 0 ≤ c.n + 1; omega) (by show c.n + 1 ≤ 61; omega) (by show 0 ≤ (if timedS op = true then c.t + 1 else c.t); split <;> omega) (by show (if timedS op = true then c.t + 1 else c.t) ≤ c.n + 1; split <;> omega)
   exact ⟨by have := this.1; show c.n ≤ _; simp only at this; omega, this.2⟩
theorem goesL_le : ∀ (l : List S29) (d : Int) (c : Cnt), 0 ≤ c.n → c.n ≤ 61 → 0 ≤ c.t → c.t ≤ c.n → c.n ≤ (goesL l d c).n ∧ (goesL l d c).n ≤ 61 ∧ 0 ≤ (goesL l d c).t ∧ (goesL l d c).t ≤ (goesL l d c).n
 | [], d, c, h0, h1, h2, h3 => by simp only [goesL]; exact ⟨Int.le_refl _, h1, h2, h3⟩
 | k :: r, d, c, h0, h1, h2, h3 => by
  simp only [goesL]
  split
  ·exact ⟨Int.le_refl _, h1, h2, h3⟩
  ·have a := goesS_le k d c h0 (by omega) h2 h3
   have b := goesL_le r d (goesS k d c) (by omega) a.2.1 a.2.2.1 a.2.2.2
   exact ⟨by omega, b.2⟩
end
end Go.Proofs.Ytapejnikpmfddaa.X
namespace Go.Proofs.Ytapejnikpmfddaa.P
open Go.RowKit Go.Proofs.YtapejnikpmfddaaW.PrintWords Go.Proofs.YtapejnikpmfddaaW.PrintLast Go.Proofs.YtapejnikpmfddaaW.PrintMore
attribute [local go_sem] max2_int min2_int max_two min_two max_three min_three max_four min_four

def formula_timed.f (a0 : Int) : Option (Bool) := if a0 ≥ 6 then (some (decide (a0 ≤ 8))) else (some false)
theorem formula_timed.calls (a0 : Int) (r : Bool) (w : World) (h : formula_timed.f a0 = some r) :
  Calls Try.prog 59 #[.int .i64 a0] w fun e w' => e = .returned (.bool r) ∧ Drawn0 w w' := by
 have H : (if a0 ≥ 6 then (some (decide (a0 ≤ 8))) else (some false)) = some r := h
 clear h
 by_cases c2 : a0 ≥ 6
 ·rw [if_pos c2] at H
  have c2b0 : decide (6 ≤ a0) = true := decide_eq_true c2
  clear c2
  obtain rfl := Option.some.inj H
  go_enter Try.func59, Try.ntmps59
  go_wp2
  go_ret
  exact ⟨by first | rfl | (simp; done) | (simp [*]; done), by repeat (first | exact Drawn0.refl _ | apply Drawn0.step)⟩
 ·rw [if_neg c2] at H
  have c2b0 : decide (6 ≤ a0) = false := decide_eq_false c2
  clear c2
  obtain rfl := Option.some.inj H
  go_enter Try.func59, Try.ntmps59
  go_wp2
  go_ret
  exact ⟨by first | rfl | (simp; done) | (simp [*]; done), by repeat (first | exact Drawn0.refl _ | apply Drawn0.step)⟩

mutual
def formula_kids.j0 : Nat → Int → Bool → Option (Int)
 | 0, _, _ => none
 | k + 1, x0, x3 => if x3 = true then (some 0) else (if x0 = 3 then (formula_kids.j1 k x0 true) else (formula_kids.j1 k x0 (x0 == 6)))
def formula_kids.j1 : Nat → Int → Bool → Option (Int)
 | 0, _, _ => none
 | k + 1, x0, x10 => if x10 = true then (some 1) else (if x0 = 4 then (some 2) else (if x0 = 5 then (some 2) else (if x0 = 7 then (some 2) else (if x0 = 8 then (some 2) else (some (-1))))))
end
def formula_kids.f (k : Nat) (a0 : Int) : Option (Int) := if a0 = 1 then (formula_kids.j0 k a0 true) else (formula_kids.j0 k a0 (a0 == 2))
theorem formula_kids.calls (k : Nat) (a0 : Int) (r : Int) (w : World) (h : formula_kids.f k a0 = some r) :
  Calls Try.prog 39 #[.int .i64 a0] w fun e w' => e = .returned (.int .i64 r) ∧ Drawn0 w w' := by
 have H : (if a0 = 1 then (formula_kids.j0 k a0 true) else (formula_kids.j0 k a0 (a0 == 2))) = some r := h
 clear h
 have HC2 := Zd.mk H
 clear H
 go_enter Try.func39, Try.ntmps39
 go_upto_region 1 with (fail)
 go_cut [3] (fun v3 wc => ∃ (kq : Nat) (x3_1 : Bool), v3 = .bool x3_1 ∧ Zd (formula_kids.j0 kq a0 x3_1 = some r) ∧ Zd (kq ≤ k) ∧ Drawn0 w wc)
 case first =>
  have H := HC2.out
  clear HC2
  by_cases c3 : a0 = 1
  ·rw [if_pos c3] at H
   have c3b0 : (a0 == 1) = true := beq_iff_eq.mpr c3
   have c3b1 : (a0 != 1) = false := bne_eq_false_iff_eq.mpr c3
   clear c3
   (first | rw [c3b0] | (simp only [i64_w, i32_w]; rw [c3b0]) | skip)
   have H' := Zd.mk H
   clear H
   go_wp2
   go_meet
   case rel => exact ⟨_, (true), (by first | rfl | (simp; done) | (simp [*]; done)), H', ⟨by first | omega | exact Nat.le_refl _⟩, by repeat (first | exact Drawn0.refl _ | apply Drawn0.step)⟩
  ·rw [if_neg c3] at H
   have c3b0 : (a0 == 1) = false := beq_eq_false_iff_ne.mpr c3
   have c3b1 : (a0 != 1) = true := bne_iff_ne.mpr c3
   (first | rw [c3b0] | (simp only [i64_w, i32_w]; rw [c3b0]) | skip)
   have H' := Zd.mk H
   clear H
   go_wp2
   go_meet
   case rel => exact ⟨_, ((a0 == 2)), (by first | rfl | (simp; done) | (simp [*]; done)), H', ⟨by first | omega | exact Nat.le_refl _⟩, by repeat (first | exact Drawn0.refl _ | apply Drawn0.step)⟩
 case rest =>
  clear HC2
  try clear p2
  try clear c3
  try clear c3b0
  try clear c3b1
  obtain ⟨kq, x3_1, rfl, HA, HJ1, ⟨mc1, rfl⟩⟩ := hcut
  cases kq with
  | zero => exact absurd HA.out (by simp [formula_kids.j0])
  | succ kj1 =>
   have H := HA.out
   clear HA
   simp only [formula_kids.j0] at H
   by_cases c4 : x3_1 = true
   ·subst c4
    have H1 : (some 0) = some r := by rw [if_pos rfl] at H; exact H
    clear H
    have H := H1
    clear H1
    obtain rfl := Option.some.inj H
    go_wp2
    go_ret
    exact ⟨by first | rfl | (simp; done) | (simp [*]; done), by repeat (first | exact Drawn0.refl _ | apply Drawn0.step)⟩
   ·replace c4 := Bool.eq_false_iff.mpr c4
    subst c4
    have H1 : (if a0 = 3 then (formula_kids.j1 kj1 a0 true) else (formula_kids.j1 kj1 a0 (a0 == 6))) = some r := by rw [if_neg (show ¬ (false = true) by decide)] at H; exact H
    clear H
    have H := H1
    clear H1
    have HC5 := Zd.mk H
    clear H
    go_upto_region 3 with (fail)
    go_cut [10] (fun v10 wc => ∃ (kq : Nat) (x10_4 : Bool), v10 = .bool x10_4 ∧ Zd (formula_kids.j1 kq a0 x10_4 = some r) ∧ Zd (kq ≤ kj1) ∧ Drawn0 w wc)
    case first =>
     have H := HC5.out
     clear HC5
     by_cases c6 : a0 = 3
     ·rw [if_pos c6] at H
      have c6b0 : (a0 == 3) = true := beq_iff_eq.mpr c6
      have c6b1 : (a0 != 3) = false := bne_eq_false_iff_eq.mpr c6
      clear c6
      (first | rw [c6b0] | (simp only [i64_w, i32_w]; rw [c6b0]) | skip)
      have H' := Zd.mk H
      clear H
      go_wp2
      go_meet
      case rel => exact ⟨_, (true), (by first | rfl | (simp; done) | (simp [*]; done)), H', ⟨by have := HJ1.out; first | omega | exact Nat.le_refl _⟩, by repeat (first | exact Drawn0.refl _ | apply Drawn0.step)⟩
     ·rw [if_neg c6] at H
      have c6b0 : (a0 == 3) = false := beq_eq_false_iff_ne.mpr c6
      have c6b1 : (a0 != 3) = true := bne_iff_ne.mpr c6
      (first | rw [c6b0] | (simp only [i64_w, i32_w]; rw [c6b0]) | skip)
      have H' := Zd.mk H
      clear H
      go_wp2
      go_meet
      case rel => exact ⟨_, ((a0 == 6)), (by first | rfl | (simp; done) | (simp [*]; done)), H', ⟨by have := HJ1.out; first | omega | exact Nat.le_refl _⟩, by repeat (first | exact Drawn0.refl _ | apply Drawn0.step)⟩
    case rest =>
     clear HC5
     try clear c1
     try clear p2
     try clear c3
     try clear c3b0
     try clear c3b1
     try clear c4
     try clear c6
     try clear c6b0
     try clear c6b1
     try clear p2
     obtain ⟨kq, x10_4, rfl, HA, HJ4, ⟨mc4, rfl⟩⟩ := hcut
     cases kq with
     | zero => exact absurd HA.out (by simp [formula_kids.j1])
     | succ kj4 =>
      have H := HA.out
      clear HA
      simp only [formula_kids.j1] at H
      by_cases c7 : x10_4 = true
      ·subst c7
       have H1 : (some 1) = some r := by rw [if_pos rfl] at H; exact H
       clear H
       have H := H1
       clear H1
       obtain rfl := Option.some.inj H
       go_wp2
       go_ret
       exact ⟨by first | rfl | (simp; done) | (simp [*]; done), by repeat (first | exact Drawn0.refl _ | apply Drawn0.step)⟩
      ·replace c7 := Bool.eq_false_iff.mpr c7
       subst c7
       have H1 : (if a0 = 4 then (some 2) else (if a0 = 5 then (some 2) else (if a0 = 7 then (some 2) else (if a0 = 8 then (some 2) else (some (-1)))))) = some r := by rw [if_neg (show ¬ (false = true) by decide)] at H; exact H
       clear H
       have H := H1
       clear H1
       by_cases c8 : a0 = 4
       ·rw [if_pos c8] at H
        have c8b0 : (a0 == 4) = true := beq_iff_eq.mpr c8
        have c8b1 : (a0 != 4) = false := bne_eq_false_iff_eq.mpr c8
        clear c8
        obtain rfl := Option.some.inj H
        go_wp2
        go_ret
        exact ⟨by first | rfl | (simp; done) | (simp [*]; done), by repeat (first | exact Drawn0.refl _ | apply Drawn0.step)⟩
       ·rw [if_neg c8] at H
        have c8b0 : (a0 == 4) = false := beq_eq_false_iff_ne.mpr c8
        have c8b1 : (a0 != 4) = true := bne_iff_ne.mpr c8
        by_cases c9 : a0 = 5
        ·rw [if_pos c9] at H
         have c9b0 : (a0 == 5) = true := beq_iff_eq.mpr c9
         have c9b1 : (a0 != 5) = false := bne_eq_false_iff_eq.mpr c9
         clear c9
         obtain rfl := Option.some.inj H
         go_wp2
         go_ret
         exact ⟨by first | rfl | (simp; done) | (simp [*]; done), by repeat (first | exact Drawn0.refl _ | apply Drawn0.step)⟩
        ·rw [if_neg c9] at H
         have c9b0 : (a0 == 5) = false := beq_eq_false_iff_ne.mpr c9
         have c9b1 : (a0 != 5) = true := bne_iff_ne.mpr c9
         by_cases c10 : a0 = 7
         ·rw [if_pos c10] at H
          have c10b0 : (a0 == 7) = true := beq_iff_eq.mpr c10
          have c10b1 : (a0 != 7) = false := bne_eq_false_iff_eq.mpr c10
          clear c10
          obtain rfl := Option.some.inj H
          go_wp2
          go_ret
          exact ⟨by first | rfl | (simp; done) | (simp [*]; done), by repeat (first | exact Drawn0.refl _ | apply Drawn0.step)⟩
         ·rw [if_neg c10] at H
          have c10b0 : (a0 == 7) = false := beq_eq_false_iff_ne.mpr c10
          have c10b1 : (a0 != 7) = true := bne_iff_ne.mpr c10
          by_cases c11 : a0 = 8
          ·rw [if_pos c11] at H
           have c11b0 : (a0 == 8) = true := beq_iff_eq.mpr c11
           have c11b1 : (a0 != 8) = false := bne_eq_false_iff_eq.mpr c11
           clear c11
           obtain rfl := Option.some.inj H
           go_wp2
           go_ret
           exact ⟨by first | rfl | (simp; done) | (simp [*]; done), by repeat (first | exact Drawn0.refl _ | apply Drawn0.step)⟩
          ·rw [if_neg c11] at H
           have c11b0 : (a0 == 8) = false := beq_eq_false_iff_ne.mpr c11
           have c11b1 : (a0 != 8) = true := bne_iff_ne.mpr c11
           obtain rfl := Option.some.inj H
           go_wp2
           go_ret
           exact ⟨by first | rfl | (simp; done) | (simp [*]; done), by repeat (first | exact Drawn0.refl _ | apply Drawn0.step)⟩

end Go.Proofs.Ytapejnikpmfddaa.P
namespace Go.Proofs.Ytapejnikpmfddaa.X
open Go.RowKit Go.Proofs.YtapejnikpmfddaaW.PrintWords Go.Proofs.YtapejnikpmfddaaW.PrintLast Go.Proofs.YtapejnikpmfddaaW.PrintMore
open Go.Proofs.Ytapejnikpmfddaa.P
theorem timed_some (op : Int) : formula_timed.f op = some (timedS op) := by
 unfold formula_timed.f timedS
 split
 ·rename_i h; rw [decide_eq_true (p := 6 ≤ op) h]; rfl
 ·rename_i h; rw [decide_eq_false (p := 6 ≤ op) (by omega)]; rfl
def IsCnt (w : World) (g : Nat) (c : Cnt) : Prop := w.heap[g]? = some (.cells #[.int .i64 c.n, .int .i64 c.t, .bool c.deep] 56 (0, 0))
theorem goes_deep (s : S29) (d : Int) (c : Cnt) (g : Nat) (A : Option Addr) (cp : Nat) (w0 w : World) (hd : 12 < d) (hI : IsCnt w g c) (hB : Below w0.heap.size w0 w) (hg0 : w0.heap.size ≤ g) :
  Calls Try.prog 38 #[.pointer (some ⟨g, 0, none⟩), .agg #[.int .i64 s.f0, .int .i64 s.f1, .slice A s.f2.length cp], .int .i64 d] w fun e w' => e = .returned (.tuple #[]) ∧ IsCnt w' g ⟨c.n, c.t, true⟩ ∧ Below w0.heap.size w0 w' ∧ KeepBut w w' g none := by
 have hg : g < w.heap.size := (Array.getElem?_eq_some_iff.1 hI).1
 have hu := Try.underlying29
 have huc := Try.underlying56
 have c0 : w.cell? ⟨g, 0, none⟩ = some (.int .i64 c.n) := (bq_ hI 0).trans rfl
 have c1 : w.cell? ⟨g, 1, none⟩ = some (.int .i64 c.t) := (bq_ hI 1).trans rfl
 have c2 : w.cell? ⟨g, 2, none⟩ = some (.bool c.deep) := (bq_ hI 2).trans rfl
 have f2 : w.frozen? ⟨g, 2, none⟩ = false := bz_ hI 2
 have HI := Zd.mk hI
 clear hI
 go_enter Try.func38, Try.ntmps38
 go_wp2
 first | go_end0 | ((try simp only [Exit.inBlock, Exit.then]); refine bodyPost_ret (results_none rfl _ _ _) rfl ?_)
 exact ⟨rfl, (ba_ (blk_set HI.out 2 _) _).trans rfl, below_alloc (hB.setCell hg0 _) _, keep_alloc (KeepBut.set_ (KeepBut.refl _ _ _) 2 _) _⟩
theorem kid_at {w0 w : World} {A : Option Addr} {n : Nat} {xs : List S29} (h : Kd.C k29 w0 A n xs) (hb : Below w0.heap.size w0 w) (j : Nat) (hj : j < n) (hx : j < xs.length) :
  ∃ ad A2 c2, A = some ad ∧ w.cell? (ad.add (j * 3)) = some (.int .i64 (xs[j]'hx).f0) ∧ w.cell? ⟨(ad.add (j * 3)).block, (ad.add (j * 3)).off + 1, none⟩ = some (.int .i64 (xs[j]'hx).f1) ∧ w.cell? ⟨(ad.add (j * 3)).block, (ad.add (j * 3)).off + 2, none⟩ = some (.slice A2 (xs[j]'hx).f2.length c2) ∧ (xs[j]'hx).f2.length ≤ c2 ∧ Kd.C k29 w0 A2 (xs[j]'hx).f2.length (xs[j]'hx).f2 := by
 obtain ⟨ad, A2, c2, e, h0, h1, h2, hl, hk⟩ := at_T29 h (j : Int) (by omega) (by omega)
 have er : rd_T29 xs (j : Int) = xs[j]'hx := by
  unfold rd_T29
  rw [Int.toNat_natCast, List.getD_eq_getElem?_getD, List.getElem?_eq_getElem hx]; rfl
 rw [Int.toNat_natCast, er] at h0 h1 h2
 rw [er] at hl hk
 exact ⟨ad, A2, c2, e, (hb.cell (World.block_lt_of_cell? w0 _ h0)).trans h0, (hb.cell (World.block_lt_of_cell? w0 _ h1)).trans h1, (hb.cell (World.block_lt_of_cell? w0 _ h2)).trans h2, hl, hk⟩
def GoesAt (g : Nat) (w0 : World) (s : S29) : Prop := ∀ (d : Int) (c : Cnt) (A : Option Addr) (cp : Nat) (w : World), 1 ≤ d → d ≤ 13 → 0 ≤ c.n → c.n ≤ 60 → 0 ≤ c.t → c.t ≤ c.n → IsCnt w g c → Below w0.heap.size w0 w → w0.heap.size ≤ g → Kd.C k29 w0 A s.f2.length s.f2 → s.f2.length ≤ cp →
  Calls Try.prog 38 #[.pointer (some ⟨g, 0, none⟩), .agg #[.int .i64 s.f0, .int .i64 s.f1, .slice A s.f2.length cp], .int .i64 d] w fun e w' => e = .returned (.tuple #[]) ∧ IsCnt w' g (goesS s d c) ∧ Below w0.heap.size w0 w' ∧ KeepBut w w' g none
theorem goes_calls (g : Nat) (w0 : World) (s : S29) (ih : ∀ k ∈ s.f2, GoesAt g w0 k) : GoesAt g w0 s := by
 intro d c A cp w hd1 hd2 hn0 hn1 ht0 ht1 hI hB hg0 hr hc
 by_cases hd : 12 < d
 ·refine (goes_deep s d c g A cp w0 w hd hI hB hg0).mono ?_
  rintro e w' ⟨rfl, h1, h2, h3⟩
  refine ⟨rfl, ?_, h2, h3⟩
  ·cases s
   simp only [goesS]
   rw [if_pos hd]
   exact h1
 have hg : g < w.heap.size := (Array.getElem?_eq_some_iff.1 hI).1
 have hu := Try.underlying29
 have huc := Try.underlying56
 have c0 : w.cell? ⟨g, 0, none⟩ = some (.int .i64 c.n) := (bq_ hI 0).trans rfl
 have c1 : w.cell? ⟨g, 1, none⟩ = some (.int .i64 c.t) := (bq_ hI 1).trans rfl
 have c2 : w.cell? ⟨g, 2, none⟩ = some (.bool c.deep) := (bq_ hI 2).trans rfl
 have f0 : w.frozen? ⟨g, 0, none⟩ = false := bz_ hI 0
 have f1 : w.frozen? ⟨g, 1, none⟩ = false := bz_ hI 1
 have HI := Zd.mk hI
 have HR := Zd.mk hr
 have HC := Zd.mk hc
 have HB := Zd.mk hB
 clear hI hr hc hB
 have hng : ¬ w.heap.size = g := by omega
 have hgo : goesS s d c = goesL s.f2 (d + 1) ⟨c.n + 1, if timedS s.f0 = true then c.t + 1 else c.t, c.deep⟩ := by
  cases s
  simp only [goesS]
  rw [if_neg hd]
 have HG := Zd.mk hgo
 have hlen := Kd.C_max HR.out
 clear hgo
 have IH := Zd.mk ih
 clear ih
 have hdd : ¬ 12 < d := hd
 by_cases ht : timedS s.f0 = true
 all_goals
  go_enter Try.func38, Try.ntmps38
  go_wp2_with (go_at_call 59; refine (formula_timed.calls _ (timedS s.f0) _ (timed_some _)).mono ?_; rintro e w1 ⟨rfl, hd0⟩; obtain ⟨m, rfl⟩ := hd0.out)
  go_loopg [33] s.f2.length (fun kq v33 w' => ∃ (j : Nat) (c' : Cnt), j + kq = s.f2.length ∧ v33 = .int .i64 j ∧ IsCnt w' g c' ∧ Zd (goesS s d c = goesL (s.f2.drop j) (d + 1) c') ∧ 0 ≤ c'.n ∧ c'.n ≤ 61 ∧ 0 ≤ c'.t ∧ c'.t ≤ c'.n ∧ Zd (Below w0.heap.size w0 w') ∧ Zd (KeepBut w w' g none))
  case atStart =>
   first
    | exact ⟨0, ⟨c.n + 1, c.t + 1, c.deep⟩, by omega, rfl, (blk_set (bd_ (ba_ (blk_set HI.out 0 _) _) m) 1 _).trans rfl, ⟨by rw [HG.out, if_pos ht]; rfl⟩, by show 0 ≤ c.n + 1; omega, by show c.n + 1 ≤ 61; omega, by show 0 ≤ c.t + 1; omega, by show c.t + 1 ≤ c.n + 1; omega, ⟨(pd_ (below_alloc (HB.out.setCell hg0 _) _) m).setCell hg0 _⟩, ⟨KeepBut.set_ (keep_drewN (keep_alloc (KeepBut.set_ (KeepBut.refl _ _ _) 0 _) _) m) 1 _⟩⟩
    | exact ⟨0, ⟨c.n + 1, c.t, c.deep⟩, by omega, rfl, (bd_ (ba_ (blk_set HI.out 0 _) _) m).trans rfl, ⟨by rw [HG.out, if_neg ht]; rfl⟩, by show 0 ≤ c.n + 1; omega, by show c.n + 1 ≤ 61; omega, ht0, by show c.t ≤ c.n + 1; omega, ⟨pd_ (below_alloc (HB.out.setCell hg0 _) _) m⟩, ⟨keep_drewN (keep_alloc (KeepBut.set_ (KeepBut.refl _ _ _) 0 _) _) m⟩⟩
  case round =>
   obtain ⟨j, c', hj, rfl, hI, HA, hn0', hn1', ht0', ht1', HB, HK⟩ := hrel
   have HJ := Zd.mk hj
   clear hj
   have c0 : wr.cell? ⟨g, 0, none⟩ = some (.int .i64 c'.n) := (bq_ hI 0).trans rfl
   have HI := Zd.mk hI
   have hgr : g < wr.heap.size := (Array.getElem?_eq_some_iff.1 hI).1
   clear hI
   by_cases hlt : j < s.f2.length
   ·obtain ⟨ad, A2, cp2, e0, hx0, hx1, hx2, hl2, hk2⟩ := kid_at HR.out HB.out j hlt hlt
    cases e0
    have HK2 := Zd.mk hk2
    have HL2 := Zd.mk hl2
    clear hk2 hl2
    have hnw : ¬ wr.heap.size = g := by omega
    have hstep : goesL (s.f2.drop j) (d + 1) c' = if c'.n > 60 then c' else goesL (s.f2.drop (j + 1)) (d + 1) (goesS s.f2[j] (d + 1) c') := by
     rw [List.drop_eq_getElem_cons hlt]
     simp only [goesL]
    have HS := Zd.mk hstep
    clear hstep
    have hmem : s.f2[j] ∈ s.f2 := List.getElem_mem hlt
    by_cases h60 : 60 < c'.n
    ·go_wp2
     first | go_end0 | ((try simp only [Exit.inBlock, Exit.then]); refine bodyPost_ret (results_none rfl _ _ _) rfl ?_)
     refine ⟨rfl, ?_, ?_, ?_⟩
     ·rw [HA.out, HS.out, if_pos h60]
      exact ba_ HI.out _
     ·exact below_alloc HB.out _
     ·exact keep_alloc HK.out _
    ·have hk := IH.out s.f2[j] hmem (d + 1) c' A2 cp2
     have HKK := Zd.mk hk
     clear hk
     have hle := goesS_le s.f2[j] (d + 1) c' hn0' (by omega) ht0' ht1'
     have HLE := Zd.mk hle
     clear hle
     go_wp2_with (go_at_call 38; refine (HKK.out _ (by omega) (by omega) hn0' (by omega) ht0' ht1' (ba_ HI.out _) (below_alloc HB.out _) hg0 HK2.out HL2.out).mono ?_; rintro e w2 ⟨rfl, hI2, hB2, hK2⟩; have HI2 := Zd.mk hI2; have HB2 := Zd.mk hB2; have HKB2 := Zd.mk hK2; clear hI2 hB2 hK2)
     go_roundg (gk - 1)
     case measure => have := HJ.out; omega
     case rel => exact ⟨j + 1, goesS s.f2[j] (d + 1) c', by have := HJ.out; omega, by go_num, HI2.out, ⟨by rw [HA.out, HS.out, if_neg (by omega)]⟩, by have := HLE.out; omega, HLE.out.2.1, HLE.out.2.2.1, HLE.out.2.2.2, ⟨HB2.out⟩, ⟨(keep_alloc HK.out _).trans HKB2.out (.inl rfl)⟩⟩
   ·go_wp2
    first | go_end0 | ((try simp only [Exit.inBlock, Exit.then]); refine bodyPost_ret (results_none rfl _ _ _) rfl ?_)
    refine ⟨rfl, ?_, HB.out, HK.out⟩
    rw [HA.out, List.drop_eq_nil_of_le (by omega)]
    exact HI.out
mutual
theorem goes_all (g : Nat) (w0 : World) : ∀ s : S29, GoesAt g w0 s
 | ⟨op, m, kids⟩ => goes_calls g w0 ⟨op, m, kids⟩ (goes_kids g w0 kids)
theorem goes_kids (g : Nat) (w0 : World) : ∀ (l : List S29) (k : S29), k ∈ l → GoesAt g w0 k
 | [], k, hk => by simp at hk
 | a :: r, k, hk => by
  rcases List.mem_cons.1 hk with h | h
  ·rw [h]
   exact goes_all g w0 a
  ·exact goes_kids g w0 r k h
end
def cntS (s : S29) : Cnt := goesS s 1 ⟨0, 0, false⟩
theorem counted_calls (s : S29) (A : Option Addr) (cp : Nat) (w : World) (hr : Kd.C k29 w A s.f2.length s.f2) (hc : s.f2.length ≤ cp) :
  Calls Try.prog 23 #[.agg #[.int .i64 s.f0, .int .i64 s.f1, .slice A s.f2.length cp]] w fun e w' => ∃ g, e = .returned (.pointer (some ⟨g, 0, none⟩)) ∧ IsCnt w' g (cntS s) ∧ Below w.heap.size w w' ∧ w.heap.size ≤ g := by
 have hu := Try.underlying29
 have huc := Try.underlying56
 have HR := Zd.mk hr
 have HC := Zd.mk hc
 clear hr hc
 go_enter Try.func23, Try.ntmps23
 go_wp2_with fail
 have hI0 : IsCnt ((w.alloc (.cells #[.int .i64 s.f0, .int .i64 s.f1, .slice A s.f2.length cp] 29)).alloc (.cells #[.int .i64 0, .int .i64 0, .bool false] 56)) (w.heap.size + 1) ⟨0, 0, false⟩ := by
  have := heap_alloc_new (w.alloc (.cells #[.int .i64 s.f0, .int .i64 s.f1, .slice A s.f2.length cp] 29)) (.cells #[.int .i64 0, .int .i64 0, .bool false] 56)
  have e0 : (w.alloc (.cells #[.int .i64 s.f0, .int .i64 s.f1, .slice A s.f2.length cp] 29)).heap.size = w.heap.size + 1 := by simp
  rw [e0] at this
  exact this
 refine (goes_all (w.heap.size + 1) w s 1 ⟨0, 0, false⟩ A cp _ (by omega) (by omega) (by simp) (by simp) (by simp) (by simp) hI0 (below_alloc (below_alloc (Below.refl _ _) _) _) (by omega) HR.out HC.out).mono ?_
 rintro e w' ⟨rfl, hI, hB, hK⟩
 have HI := Zd.mk hI
 have HB := Zd.mk hB
 clear hI hB hK hI0
 go_wp2
 go_ret
 exact ⟨w.heap.size + 1, rfl, HI.out, HB.out, by omega⟩
def lightS (s : S29) : Bool := decide ((cntS s).n ≤ 60) && !(cntS s).deep
theorem formula_light.all (s : S29) (A : Option Addr) (cp : Nat) (w : World) (hr : Kd.C k29 w A s.f2.length s.f2) (hc : s.f2.length ≤ cp) :
  Calls Try.prog 22 #[.agg #[.int .i64 s.f0, .int .i64 s.f1, .slice A s.f2.length cp]] w fun e w' => e = .returned (.bool (lightS s)) ∧ Below w.heap.size w w' := by
 have hu := Try.underlying29
 have huc := Try.underlying56
 have HR := Zd.mk hr
 have HC := Zd.mk hc
 have hls : lightS s = (decide ((cntS s).n ≤ 60) && !(cntS s).deep) := rfl
 have HL := Zd.mk hls
 clear hr hc hls
 generalize lightS s = L at HL ⊢
 have hcnt := counted_calls s A cp (w.alloc (.cells #[.int .i64 s.f0, .int .i64 s.f1, .slice A s.f2.length cp] 29)) (Kd.C_alloc HR.out _) HC.out
 have HCN := Zd.mk hcnt
 clear hcnt
 generalize cntS s = c at HL HCN
 by_cases h : c.n ≤ 60
 all_goals
  go_enter Try.func22, Try.ntmps22
  go_wp2_with (go_at_call 23; refine HCN.out.mono ?_; rintro e w1 ⟨g, rfl, hI, hB, hg⟩; have c0 : w1.cell? ⟨g, 0, none⟩ = some (.int .i64 c.n) := (bq_ hI 0).trans rfl; have c2 : w1.cell? ⟨g, 2, none⟩ = some (.bool c.deep) := (bq_ hI 2).trans rfl; have HB := Zd.mk hB; clear hB hI hg)
  go_ret
  refine ⟨?_, (below_alloc (Below.refl _ _) _).trans (HB.out.mono (by simp))⟩
  rw [HL.out]
  first | (simp [h]; done) | (simp; omega)
def formula_light.f (a0_0 : Int) (a0_1 : Int) (l0_2 : List S29) : Option Bool := some (lightS ⟨a0_0, a0_1, l0_2⟩)
end Go.Proofs.Ytapejnikpmfddaa.X
namespace Go.Proofs.Ytapejnikpmfddaa.Evx
open Go.RowKit Go.Proofs.YtapejnikpmfddaaW.PrintWords
theorem w64 {x : Int} (h0 : -9223372036854775808 ≤ x) (h1 : x < 9223372036854775808) : wrap64 x = x := by unfold wrap64; omega
section
variable {α β : Type} {r : α}
theorem ev_pos {c : Prop} [Decidable c] {f g : Nat → Option α} (h : c) (k : Ev f r) : Ev (fun n => if c then f n else g n) r := Ev.congr (fun _ => if_pos h) k
theorem ev_neg {c : Prop} [Decidable c] {f g : Nat → Option α} (h : ¬ c) (k : Ev g r) : Ev (fun n => if c then f n else g n) r := Ev.congr (fun _ => if_neg h) k
theorem ev_bindv {g : Option β} {f : Nat → β → Option α} {a : β} (h : g = some a) (k : Ev (fun n => f n a) r) : Ev (fun n => g.bind (f n)) r := by subst h; exact k
theorem ev_bind {g : Nat → Option β} {f : Nat → β → Option α} {a : β} (h : Ev g a) (k : Ev (fun n => f n a) r) : Ev (fun n => (g n).bind (f n)) r := Ev.bind h k
theorem ev_some (r : α) : Ev (fun _ => some r) r := Ev.now r
theorem ev_tt {f g : Nat → Option α} (k : Ev f r) : Ev (fun n => if true = true then f n else g n) r := ev_pos rfl k
theorem ev_ff {f g : Nat → Option α} (k : Ev g r) : Ev (fun n => if false = true then f n else g n) r := ev_neg (by simp) k
theorem ev_bool {b : Bool} {f g : Nat → Option α} (h1 : b = true → Ev f r) (h2 : b = false → Ev g r) : Ev (fun n => if b = true then f n else g n) r := by
 cases b with
 | true => exact ev_tt (h1 rfl)
 | false => exact ev_ff (h2 rfl)
theorem ev_ite {c : Prop} [Decidable c] {f g : Nat → Option α} (h1 : c → Ev f r) (h2 : ¬ c → Ev g r) : Ev (fun n => if c then f n else g n) r := by
 by_cases h : c
 ·exact ev_pos h (h1 h)
 ·exact ev_neg h (h2 h)
theorem ev_eq {f : Nat → Option α} {r' : α} (h : Ev f r') (e : r' = r) : Ev f r := e ▸ h
theorem ev_step {g f : Nat → Option α} (h : ∀ k, g (k + 1) = f k) (k : Ev f r) : Ev g r := Ev.step h k
end
theorem rd_nat (xs : List Int) (n : Nat) : rd xs (n : Int) = xs.getD n 0 := by unfold rd; rw [Int.toNat_natCast]
theorem rd_app (p : List Int) (x : Int) (r : List Int) : rd (p ++ x :: r) (p.length : Int) = x := by
 rw [rd_nat, List.getD_eq_getElem?_getD, List.getElem?_append_right (Nat.le_refl _), Nat.sub_self]; rfl
theorem u64_range (x : Int) : 0 ≤ IntKind.u64.wrap x ∧ IntKind.u64.wrap x < 18446744073709551616 := by
 simp [IntKind.wrap, IntKind.bits, IntKind.signed]
 omega
theorem u64_id {x : Int} (h : 0 ≤ x) (h2 : x < 18446744073709551616) : IntKind.u64.wrap x = x := by
 simp [IntKind.wrap, IntKind.bits, IntKind.signed]
 omega
def pick (x n : Int) : Int := (IntKind.u64.wrap x) % n
theorem pick_range (x : Int) {n : Int} (h : 1 ≤ n) : 0 ≤ pick x n ∧ pick x n < n := ⟨Int.emod_nonneg _ (by omega), Int.emod_lt_of_pos _ (by omega)⟩
theorem pick_eq (x : Int) {n : Int} (h : 1 ≤ n) (h2 : n < 9223372036854775808) : wrap64 (Int.tmod (IntKind.u64.wrap x) (IntKind.u64.wrap n)) = pick x n := by
 have hr := pick_range x h
 rw [u64_id (x := n) (by omega) (by omega), Int.tmod_eq_emod_of_nonneg (u64_range x).1]
 exact w64 (by unfold pick at hr; omega) (by unfold pick at hr; omega)
end Go.Proofs.Ytapejnikpmfddaa.Evx
namespace Go.Proofs.Ytapejnikpmfddaa.X
open Go.RowKit Go.Proofs.YtapejnikpmfddaaW.PrintWords Go.Proofs.YtapejnikpmfddaaW.PrintLast Go.Proofs.YtapejnikpmfddaaW.PrintMore
open Go.Proofs.Ytapejnikpmfddaa.P Go.Proofs.Ytapejnikpmfddaa.Evx
def kidsS (op : Int) : Int := if op = 1 ∨ op = 2 then 0 else if op = 3 ∨ op = 6 then 1 else if op = 4 ∨ op = 5 ∨ op = 7 ∨ op = 8 then 2 else -1
theorem kids_ev (op : Int) : Ev (fun k => formula_kids.f k op) (kidsS op) := by
 have h1 : ∀ b : Bool, b = decide (op = 3 ∨ op = 6) → ¬ (op = 1 ∨ op = 2) → Ev (fun k => formula_kids.j1 k op b) (kidsS op) := by
  intro b hb h0
  refine ev_step (fun k => rfl) (ev_bool (fun h => ?_) (fun h => ?_))
  ·rw [h] at hb
   have := of_decide_eq_true hb.symm
   exact ev_eq (ev_some _) (by unfold kidsS; rw [if_neg h0, if_pos this])
  ·rw [h] at hb
   have := of_decide_eq_false hb.symm
   have e : kidsS op = if op = 4 ∨ op = 5 ∨ op = 7 ∨ op = 8 then 2 else -1 := by unfold kidsS; rw [if_neg h0, if_neg this]
   rw [e]
   refine ev_ite (fun c => ev_eq (ev_some _) ?_) (fun c4 => ev_ite (fun c => ev_eq (ev_some _) ?_) (fun c5 => ev_ite (fun c => ev_eq (ev_some _) ?_) (fun c7 => ev_ite (fun c => ev_eq (ev_some _) ?_) (fun c8 => ev_eq (ev_some _) ?_))))
   ·rw [if_pos (by omega)]
   ·rw [if_pos (by omega)]
   ·rw [if_pos (by omega)]
   ·rw [if_pos (by omega)]
   ·rw [if_neg (by omega)]
 have h0 : ∀ b : Bool, b = decide (op = 1 ∨ op = 2) → Ev (fun k => formula_kids.j0 k op b) (kidsS op) := by
  intro b hb
  refine ev_step (fun k => rfl) (ev_bool (fun h => ?_) (fun h => ?_))
  ·rw [h] at hb
   have := of_decide_eq_true hb.symm
   exact ev_eq (ev_some _) (by unfold kidsS; rw [if_pos this])
  ·rw [h] at hb
   have h2 := of_decide_eq_false hb.symm
   refine ev_ite (fun c => h1 _ ?_ h2) (fun c => h1 _ ?_ h2)
   ·simp [c]
   ·simp [c, show (op == 6) = decide (op = 6) from rfl]
 unfold formula_kids.f
 refine ev_ite (fun c => h0 _ ?_) (fun c => h0 _ ?_)
 ·simp [c]
 ·simp [c, show (op == 2) = decide (op = 2) from rfl]
def mostS (op : Int) : Int := if op = 2 then 19 else 0
mutual
def soundS : S29 → Bool
 | ⟨op, n, kids⟩ => decide (0 ≤ kidsS op) && (decide ((kids.length : Int) = kidsS op) && (decide (0 ≤ n) && (decide (n ≤ mostS op) && soundL kids)))
def soundL : List S29 → Bool
 | [] => true
 | k :: r => soundS k && soundL r
end
def idxS : List S29 → Int → Int
 | [], _ => -1
 | k :: r, i => if soundS k = true then idxS r (i + 1) else i
theorem idx_sound : ∀ (l : List S29) (i : Int), 0 ≤ i → (0 ≤ idxS l i ↔ soundL l = false)
 | [], i, h => by simp [idxS, soundL]
 | k :: r, i, h => by
  simp only [idxS, soundL]
  by_cases c : soundS k = true
  ·rw [if_pos c, idx_sound r (i + 1) (by omega), c]; simp
  ·rw [if_neg c]
   have : soundS k = false := by simpa using c
   rw [this]; simp [h]
def SoundAt (s : S29) : Prop := ∀ (A : Option Addr) (cp : Nat) (w : World), Kd.C k29 w A s.f2.length s.f2 → s.f2.length ≤ cp →
  Calls Try.prog 24 #[.agg #[.int .i64 s.f0, .int .i64 s.f1, .slice A s.f2.length cp]] w fun e w' => e = .returned (.bool (soundS s)) ∧ Below w.heap.size w w'
theorem sound1 (s : S29) (hs : SoundAt s) (b : Bool) (hb : soundS s = b) (A : Option Addr) (cp : Nat) (w : World) (hr : Kd.C k29 w A s.f2.length s.f2) (hc : s.f2.length ≤ cp) :
  Calls Try.prog 41 #[.agg #[.int .i64 s.f0, .int .i64 s.f1, .slice A s.f2.length cp]] w fun e w' => e = .returned (.bool (!b)) ∧ Below w.heap.size w w' := by
 have hu := Try.underlying29
 have HS := Zd.mk hs
 have HR := Zd.mk hr
 have HC := Zd.mk hc
 have HBB := Zd.mk hb
 clear hs hr hc hb
 go_enter Try.func41, Try.ntmps41
 go_wp2_with (go_at_call 24; refine (HS.out _ _ _ (Kd.C_alloc HR.out _) HC.out).mono ?_; rintro e w1 ⟨rfl, hB⟩; have HB := Zd.mk hB; clear hB)
 go_ret
 exact ⟨by rw [HBB.out]; cases b <;> rfl, (below_alloc (Below.refl _ _) _).trans (HB.out.mono (by simp))⟩
theorem soundIdx (l : List S29) (hs : ∀ k ∈ l, SoundAt k) (A : Option Addr) (cp : Nat) (w : World) (hr : Kd.C k29 w A l.length l) (hc : l.length ≤ cp) :
  Calls Try.prog 60 #[.slice A l.length cp, .func (.func 41) #[] #[]] w fun e w' => e = .returned (.int .i64 (idxS l 0)) ∧ Below w.heap.size w w' := by
 have hu := Try.underlying29
 have hlen := Kd.C_max hr
 have HS := Zd.mk hs
 have HR := Zd.mk hr
 have HC := Zd.mk hc
 clear hs hr hc
 go_enter Try.func60, Try.ntmps60
 go_wp2
 go_loopg [8] l.length (fun kq v8 w' => ∃ j : Nat, j + kq = l.length ∧ v8 = .int .i64 j ∧ Zd (idxS l 0 = idxS (l.drop j) j) ∧ Zd (Below w.heap.size w w'))
 case atStart => exact ⟨0, by simp, rfl, ⟨by simp⟩, ⟨Below.refl _ _⟩⟩
 case round =>
  obtain ⟨j, hj, rfl, HA, HB⟩ := hrel
  have HJ := Zd.mk hj
  clear hj
  by_cases hlt : j < l.length
  ·obtain ⟨ad, A2, cp2, e0, hx0, hx1, hx2, hl2, hk2⟩ := kid_at HR.out HB.out j hlt hlt
   cases e0
   have HK2 := Zd.mk (Kd.C_below hk2 HB.out)
   have HL2 := Zd.mk hl2
   clear hk2 hl2
   have hstep : idxS (l.drop j) j = if soundS l[j] = true then idxS (l.drop (j + 1)) (j + 1) else j := by
    rw [List.drop_eq_getElem_cons hlt]
    rfl
   have HSS := Zd.mk hstep
   clear hstep
   have hk := HS.out l[j] (List.getElem_mem hlt)
   have HKK := Zd.mk hk
   clear hk
   by_cases hp : soundS l[j] = true
   ·have HP := Zd.mk hp
    clear hp
    go_wp2_with (go_at_call 41; refine (sound1 l[j] HKK.out true HP.out A2 cp2 _ HK2.out HL2.out).mono ?_; rintro e w1 ⟨rfl, hB⟩; have HB1 := Zd.mk hB; clear hB)
    go_roundg (gk - 1)
    case measure => have := HJ.out; omega
    case rel => exact ⟨j + 1, by have := HJ.out; omega, by go_num, ⟨by rw [HA.out, HSS.out, if_pos HP.out]; simp⟩, ⟨HB.out.trans (HB1.out.mono HB.out.size)⟩⟩
   ·have hp' : soundS l[j] = false := by simpa using hp
    have HP := Zd.mk hp'
    clear hp hp'
    go_wp2_with (go_at_call 41; refine (sound1 l[j] HKK.out false HP.out A2 cp2 _ HK2.out HL2.out).mono ?_; rintro e w1 ⟨rfl, hB⟩; have HB1 := Zd.mk hB; clear hB)
    go_ret
    refine ⟨show Ending.returned (.int .i64 (j : Int)) = _ from ?_, HB.out.trans (HB1.out.mono HB.out.size)⟩
    rw [HA.out, HSS.out, if_neg (by rw [HP.out]; simp)]
  ·go_wp2
   go_ret
   refine ⟨?_, HB.out⟩
   rw [HA.out, List.drop_eq_nil_of_le (by omega)]
   rfl
theorem soundAny (l : List S29) (hs : ∀ k ∈ l, SoundAt k) (b : Bool) (hb : soundL l = b) (A : Option Addr) (cp : Nat) (w : World) (hr : Kd.C k29 w A l.length l) (hc : l.length ≤ cp) :
  Calls Try.prog 40 #[.slice A l.length cp, .func (.func 41) #[] #[]] w fun e w' => e = .returned (.bool (!b)) ∧ Below w.heap.size w w' := by
 have hi := idx_sound l 0 (by omega)
 have HI := Zd.mk hi
 clear hi
 have HBB := Zd.mk hb
 have hcall := soundIdx l hs A cp w hr hc
 have HCL := Zd.mk hcall
 clear hs hr hc hb hcall
 generalize idxS l 0 = x at HI HCL
 go_enter Try.func40, Try.ntmps40
 go_wp2_with (go_at_call 60; refine HCL.out.mono ?_; rintro e w1 ⟨rfl, hB⟩; have HB := Zd.mk hB; clear hB)
 go_ret
 refine ⟨show Ending.returned (.bool (decide (0 ≤ x))) = _ from ?_, HB.out⟩
 rw [← HBB.out]
 congr 2
 have := HI.out
 cases h : soundL l with
 | true => rw [h] at this; simp at this; simp; omega
 | false => rw [h] at this; simp at this; simp; omega
theorem kids_range (op : Int) : -1 ≤ kidsS op ∧ kidsS op ≤ 2 := by unfold kidsS; split; omega; split; omega; split <;> omega
theorem sound_calls (s : S29) (hs : ∀ k ∈ s.f2, SoundAt k) : SoundAt s := by
 intro A cp w hr hc
 have hu := Try.underlying29
 obtain ⟨kk, hkk⟩ := (kids_ev s.f0).rounds
 have hkr := kids_range s.f0
 have hdef : soundS s = (decide (0 ≤ kidsS s.f0) && (decide ((s.f2.length : Int) = kidsS s.f0) && (decide (0 ≤ s.f1) && (decide (s.f1 ≤ mostS s.f0) && soundL s.f2)))) := by cases s; rfl
 have HD := Zd.mk hdef
 have HKS := Zd.mk hkk
 have hany := fun b hb W (hB : Below w.heap.size w W) => soundAny s.f2 hs b hb A cp W (Kd.C_below hr hB) hc
 have HANY := Zd.mk hany
 have hlen := Kd.C_max hr
 clear hs hr hc hdef hkk hany
 generalize kidsS s.f0 = K at *
 have HX0 : ∀ b : Bool, b = false → b = false := fun _ h => h
 clear HX0
 by_cases c1 : 0 ≤ K
 ·by_cases c2 : (s.f2.length : Int) = K
  ·have d2 : ((s.f2.length : Int) == K) = true := beq_iff_eq.mpr c2
   have D2 := Zd.mk (show decide ((s.f2.length : Int) = K) = true from decide_eq_true c2)
   clear c2
   by_cases c3 : 0 ≤ s.f1
   ·by_cases h2 : s.f0 = 2
    ·have e2 : (s.f0 == 2) = true := beq_iff_eq.mpr h2
     have HM := Zd.mk (show mostS s.f0 = 19 from by unfold mostS; rw [if_pos h2])
     clear h2
     by_cases c4 : s.f1 ≤ 19
     ·obtain ⟨b, hb⟩ : ∃ b, soundL s.f2 = b := ⟨_, rfl⟩
      rw [hb] at HD
      have HBB := Zd.mk hb
      clear hb
      have HX := Zd.mk (show soundS s = b from by rw [HD.out, HM.out, D2.out, decide_eq_true c1, decide_eq_true c3, decide_eq_true c4]; simp)
      clear HD HM D2
      go_enter Try.func24, Try.ntmps24
      go_wp2_with (first | (go_at_call 39; refine (formula_kids.calls kk s.f0 K _ HKS.out).mono ?_; rintro e w1 ⟨rfl, hd0⟩; obtain ⟨m, rfl⟩ := hd0.out) | (go_at_call 40; refine (HANY.out b HBB.out _ (pd_ (below_alloc (Below.refl _ _) _) _)).mono ?_; rintro e w1 ⟨rfl, hB⟩; have HB := Zd.mk hB; clear hB))
      go_ret
      exact ⟨show Ending.returned (.bool b) = _ from by rw [HX.out], (pd_ (below_alloc (Below.refl _ _) _) _).trans (HB.out.mono (by simp))⟩
     ·have HX := Zd.mk (show soundS s = false from by rw [HD.out, HM.out, decide_eq_false c4]; simp)
      clear HD HM D2
      go_enter Try.func24, Try.ntmps24
      go_wp2_with (go_at_call 39; refine (formula_kids.calls kk s.f0 K _ HKS.out).mono ?_; rintro e w1 ⟨rfl, hd0⟩; obtain ⟨m, rfl⟩ := hd0.out)
      go_ret
      exact ⟨show Ending.returned (.bool false) = _ from by rw [HX.out], pd_ (below_alloc (Below.refl _ _) _) _⟩
    ·have e2 : (s.f0 == 2) = false := beq_eq_false_iff_ne.mpr h2
     have HM := Zd.mk (show mostS s.f0 = 0 from by unfold mostS; rw [if_neg h2])
     clear h2
     by_cases c4 : s.f1 ≤ 0
     ·obtain ⟨b, hb⟩ : ∃ b, soundL s.f2 = b := ⟨_, rfl⟩
      rw [hb] at HD
      have HBB := Zd.mk hb
      clear hb
      have HX := Zd.mk (show soundS s = b from by rw [HD.out, HM.out, D2.out, decide_eq_true c1, decide_eq_true c3, decide_eq_true c4]; simp)
      clear HD HM D2
      go_enter Try.func24, Try.ntmps24
      go_wp2_with (first | (go_at_call 39; refine (formula_kids.calls kk s.f0 K _ HKS.out).mono ?_; rintro e w1 ⟨rfl, hd0⟩; obtain ⟨m, rfl⟩ := hd0.out) | (go_at_call 40; refine (HANY.out b HBB.out _ (pd_ (below_alloc (Below.refl _ _) _) _)).mono ?_; rintro e w1 ⟨rfl, hB⟩; have HB := Zd.mk hB; clear hB))
      go_ret
      exact ⟨show Ending.returned (.bool b) = _ from by rw [HX.out], (pd_ (below_alloc (Below.refl _ _) _) _).trans (HB.out.mono (by simp))⟩
     ·have HX := Zd.mk (show soundS s = false from by rw [HD.out, HM.out, decide_eq_false c4]; simp)
      clear HD HM D2
      go_enter Try.func24, Try.ntmps24
      go_wp2_with (go_at_call 39; refine (formula_kids.calls kk s.f0 K _ HKS.out).mono ?_; rintro e w1 ⟨rfl, hd0⟩; obtain ⟨m, rfl⟩ := hd0.out)
      go_ret
      exact ⟨show Ending.returned (.bool false) = _ from by rw [HX.out], pd_ (below_alloc (Below.refl _ _) _) _⟩
   ·by_cases h2 : s.f0 = 2
    ·have e2 : (s.f0 == 2) = true := beq_iff_eq.mpr h2
     have HM := Zd.mk (show mostS s.f0 = 19 from by unfold mostS; rw [if_pos h2])
     clear h2
     have HX := Zd.mk (show soundS s = false from by rw [HD.out, decide_eq_false c3]; simp)
     clear HD HM
     go_enter Try.func24, Try.ntmps24
     go_wp2_with (go_at_call 39; refine (formula_kids.calls kk s.f0 K _ HKS.out).mono ?_; rintro e w1 ⟨rfl, hd0⟩; obtain ⟨m, rfl⟩ := hd0.out)
     go_ret
     exact ⟨show Ending.returned (.bool false) = _ from by rw [HX.out], pd_ (below_alloc (Below.refl _ _) _) _⟩
    ·have e2 : (s.f0 == 2) = false := beq_eq_false_iff_ne.mpr h2
     have HM := Zd.mk (show mostS s.f0 = 0 from by unfold mostS; rw [if_neg h2])
     clear h2
     have HX := Zd.mk (show soundS s = false from by rw [HD.out, decide_eq_false c3]; simp)
     clear HD HM
     go_enter Try.func24, Try.ntmps24
     go_wp2_with (go_at_call 39; refine (formula_kids.calls kk s.f0 K _ HKS.out).mono ?_; rintro e w1 ⟨rfl, hd0⟩; obtain ⟨m, rfl⟩ := hd0.out)
     go_ret
     exact ⟨show Ending.returned (.bool false) = _ from by rw [HX.out], pd_ (below_alloc (Below.refl _ _) _) _⟩
  ·have d2 : ((s.f2.length : Int) == K) = false := beq_eq_false_iff_ne.mpr c2
   by_cases h2 : s.f0 = 2
   ·have e2 : (s.f0 == 2) = true := beq_iff_eq.mpr h2
    have HM := Zd.mk (show mostS s.f0 = 19 from by unfold mostS; rw [if_pos h2])
    clear h2
    have HX := Zd.mk (show soundS s = false from by rw [HD.out, decide_eq_false c2]; simp)
    clear HD HM
    go_enter Try.func24, Try.ntmps24
    go_wp2_with (go_at_call 39; refine (formula_kids.calls kk s.f0 K _ HKS.out).mono ?_; rintro e w1 ⟨rfl, hd0⟩; obtain ⟨m, rfl⟩ := hd0.out)
    go_ret
    exact ⟨show Ending.returned (.bool false) = _ from by rw [HX.out], pd_ (below_alloc (Below.refl _ _) _) _⟩
   ·have e2 : (s.f0 == 2) = false := beq_eq_false_iff_ne.mpr h2
    have HM := Zd.mk (show mostS s.f0 = 0 from by unfold mostS; rw [if_neg h2])
    clear h2
    have HX := Zd.mk (show soundS s = false from by rw [HD.out, decide_eq_false c2]; simp)
    clear HD HM
    go_enter Try.func24, Try.ntmps24
    go_wp2_with (go_at_call 39; refine (formula_kids.calls kk s.f0 K _ HKS.out).mono ?_; rintro e w1 ⟨rfl, hd0⟩; obtain ⟨m, rfl⟩ := hd0.out)
    go_ret
    exact ⟨show Ending.returned (.bool false) = _ from by rw [HX.out], pd_ (below_alloc (Below.refl _ _) _) _⟩
 ·by_cases h2 : s.f0 = 2
  ·have e2 : (s.f0 == 2) = true := beq_iff_eq.mpr h2
   have HM := Zd.mk (show mostS s.f0 = 19 from by unfold mostS; rw [if_pos h2])
   clear h2
   have HX := Zd.mk (show soundS s = false from by rw [HD.out, decide_eq_false c1]; simp)
   clear HD HM
   go_enter Try.func24, Try.ntmps24
   go_wp2_with (go_at_call 39; refine (formula_kids.calls kk s.f0 K _ HKS.out).mono ?_; rintro e w1 ⟨rfl, hd0⟩; obtain ⟨m, rfl⟩ := hd0.out)
   go_ret
   exact ⟨show Ending.returned (.bool false) = _ from by rw [HX.out], pd_ (below_alloc (Below.refl _ _) _) _⟩
  ·have e2 : (s.f0 == 2) = false := beq_eq_false_iff_ne.mpr h2
   have HM := Zd.mk (show mostS s.f0 = 0 from by unfold mostS; rw [if_neg h2])
   clear h2
   have HX := Zd.mk (show soundS s = false from by rw [HD.out, decide_eq_false c1]; simp)
   clear HD HM
   go_enter Try.func24, Try.ntmps24
   go_wp2_with (go_at_call 39; refine (formula_kids.calls kk s.f0 K _ HKS.out).mono ?_; rintro e w1 ⟨rfl, hd0⟩; obtain ⟨m, rfl⟩ := hd0.out)
   go_ret
   exact ⟨show Ending.returned (.bool false) = _ from by rw [HX.out], pd_ (below_alloc (Below.refl _ _) _) _⟩
mutual
theorem sound_all : ∀ s : S29, SoundAt s
 | ⟨op, m, kids⟩ => sound_calls ⟨op, m, kids⟩ (sound_kids kids)
theorem sound_kids : ∀ (l : List S29) (k : S29), k ∈ l → SoundAt k
 | [], k, hk => by simp at hk
 | a :: r, k, hk => by
  rcases List.mem_cons.1 hk with h | h
  ·rw [h]
   exact sound_all a
  ·exact sound_kids r k h
end
def mayF (s : S29) : Int := if lightS s = true ∧ (cntS s).t ≤ 8 then (if soundS s = true then 0 else 1) else 7
theorem box_in {w w1 : World} {o : Obj} (hB : Below (w.alloc o).heap.size (w.alloc o) w1) : w1.heap[w.heap.size]? = some o := (hB.block _ (by simp)).trans (heap_alloc_new w o)
theorem May_calls (s : S29) (A : Option Addr) (cp : Nat) (w : World) (hr : Kd.C k29 w A s.f2.length s.f2) (hc : s.f2.length ≤ cp) :
  Calls Try.prog 9 #[.agg #[.int .i64 s.f0, .int .i64 s.f1, .slice A s.f2.length cp]] w fun e w' => e = .returned (.int .i64 (mayF s)) ∧ Below w.heap.size w w' := by
 have hu := Try.underlying29
 have huc := Try.underlying56
 have hlight := formula_light.all s A cp (w.alloc (.cells #[.int .i64 s.f0, .int .i64 s.f1, .slice A s.f2.length cp] 29)) (Kd.C_alloc hr _) hc
 have HL := Zd.mk hlight
 have hcnt := fun W (hB : Below w.heap.size w W) => counted_calls s A cp W (Kd.C_below hr hB) hc
 have HCN := Zd.mk hcnt
 have hsnd := fun W (hB : Below w.heap.size w W) => sound_all s A cp W (Kd.C_below hr hB) hc
 have HSN := Zd.mk hsnd
 have HM := Zd.mk (show mayF s = if lightS s = true ∧ (cntS s).t ≤ 8 then (if soundS s = true then 0 else 1) else 7 from rfl)
 clear hlight hcnt hsnd hr hc
 generalize mayF s = r at *
 generalize cntS s = c at *
 cases h1 : lightS s with
 | false =>
  rw [h1] at HL HM
  clear h1
  go_enter Try.func9, Try.ntmps9
  go_wp2_with (go_at_call 22; refine HL.out.mono ?_; rintro e w1 ⟨rfl, hB⟩; have HB := Zd.mk hB; clear hB)
  go_ret
  exact ⟨show Ending.returned (.int .i64 7) = _ from by rw [HM.out]; rfl, (below_alloc (Below.refl _ _) _).trans (HB.out.mono (by simp))⟩
 | true =>
  rw [h1] at HL HM
  clear h1
  by_cases h2 : c.t ≤ 8
  ·cases h3 : soundS s with
   | false =>
    rw [h3] at HSN HM
    clear h3
    have HMM := Zd.mk (show r = 1 from by rw [HM.out, if_pos ⟨rfl, h2⟩]; rfl)
    go_enter Try.func9, Try.ntmps9
    go_wp2_with (first | (go_at_call 22; refine HL.out.mono ?_; rintro e w1 ⟨rfl, hB⟩; have HB := Zd.mk hB; have HBK := Zd.mk (box_in hB); have x0 := (bq_ HBK.out 0).trans rfl; have x1 := (bq_ HBK.out 1).trans rfl; have x2 := (bq_ HBK.out 2).trans rfl; clear hB) | (go_at_call 23; refine (HCN.out _ ((below_alloc (Below.refl _ _) _).trans (HB.out.mono (by simp)))).mono ?_; rintro e w2 ⟨g, rfl, hI, hB2, hg⟩; have ct : w2.cell? ⟨g, 1, none⟩ = some (.int .i64 c.t) := (bq_ hI 1).trans rfl; have y0 := (hB2.cell (World.block_lt_of_cell? _ _ x0)).trans x0; have y1 := (hB2.cell (World.block_lt_of_cell? _ _ x1)).trans x1; have y2 := (hB2.cell (World.block_lt_of_cell? _ _ x2)).trans x2; have HB2 := Zd.mk (((below_alloc (Below.refl _ _) _).trans (HB.out.mono (by simp))).trans (hB2.mono (by have := HB.out.size; simp at this; omega)) : Below w.heap.size w w2); clear hB2 hI hg) | (go_at_call 24; refine (HSN.out _ HB2.out).mono ?_; rintro e w3 ⟨rfl, hB3⟩; have HB3 := Zd.mk (HB2.out.trans (hB3.mono HB2.out.size)); clear hB3))
    go_ret
    exact ⟨show Ending.returned (.int .i64 1) = _ from by rw [HMM.out], HB3.out⟩
   | true =>
    rw [h3] at HSN HM
    clear h3
    have HMM := Zd.mk (show r = 0 from by rw [HM.out, if_pos ⟨rfl, h2⟩]; rfl)
    go_enter Try.func9, Try.ntmps9
    go_wp2_with (first | (go_at_call 22; refine HL.out.mono ?_; rintro e w1 ⟨rfl, hB⟩; have HB := Zd.mk hB; have HBK := Zd.mk (box_in hB); have x0 := (bq_ HBK.out 0).trans rfl; have x1 := (bq_ HBK.out 1).trans rfl; have x2 := (bq_ HBK.out 2).trans rfl; clear hB) | (go_at_call 23; refine (HCN.out _ ((below_alloc (Below.refl _ _) _).trans (HB.out.mono (by simp)))).mono ?_; rintro e w2 ⟨g, rfl, hI, hB2, hg⟩; have ct : w2.cell? ⟨g, 1, none⟩ = some (.int .i64 c.t) := (bq_ hI 1).trans rfl; have y0 := (hB2.cell (World.block_lt_of_cell? _ _ x0)).trans x0; have y1 := (hB2.cell (World.block_lt_of_cell? _ _ x1)).trans x1; have y2 := (hB2.cell (World.block_lt_of_cell? _ _ x2)).trans x2; have HB2 := Zd.mk (((below_alloc (Below.refl _ _) _).trans (HB.out.mono (by simp))).trans (hB2.mono (by have := HB.out.size; simp at this; omega)) : Below w.heap.size w w2); clear hB2 hI hg) | (go_at_call 24; refine (HSN.out _ HB2.out).mono ?_; rintro e w3 ⟨rfl, hB3⟩; have HB3 := Zd.mk (HB2.out.trans (hB3.mono HB2.out.size)); clear hB3))
    go_ret
    exact ⟨show Ending.returned (.int .i64 0) = _ from by rw [HMM.out], HB3.out⟩
  ·have HMM := Zd.mk (show r = 7 from by rw [HM.out, if_neg (fun h => h2 h.2)])
   go_enter Try.func9, Try.ntmps9
   go_wp2_with (first | (go_at_call 22; refine HL.out.mono ?_; rintro e w1 ⟨rfl, hB⟩; have HB := Zd.mk hB; have HBK := Zd.mk (box_in hB); have x0 := (bq_ HBK.out 0).trans rfl; have x1 := (bq_ HBK.out 1).trans rfl; have x2 := (bq_ HBK.out 2).trans rfl; clear hB) | (go_at_call 23; refine (HCN.out _ ((below_alloc (Below.refl _ _) _).trans (HB.out.mono (by simp)))).mono ?_; rintro e w2 ⟨g, rfl, hI, hB2, hg⟩; have ct : w2.cell? ⟨g, 1, none⟩ = some (.int .i64 c.t) := (bq_ hI 1).trans rfl; have y0 := (hB2.cell (World.block_lt_of_cell? _ _ x0)).trans x0; have y1 := (hB2.cell (World.block_lt_of_cell? _ _ x1)).trans x1; have y2 := (hB2.cell (World.block_lt_of_cell? _ _ x2)).trans x2; have HB2 := Zd.mk (((below_alloc (Below.refl _ _) _).trans (HB.out.mono (by simp))).trans (hB2.mono (by have := HB.out.size; simp at this; omega)) : Below w.heap.size w w2); clear hB2 hI hg))
   go_ret
   exact ⟨show Ending.returned (.int .i64 7) = _ from by rw [HMM.out], HB2.out⟩
def formula_May.f (a0_0 : Int) (a0_1 : Int) (l0_2 : List S29) : Option Int := some (mayF ⟨a0_0, a0_1, l0_2⟩)
theorem formula_May.calls (a0_0 : Int) (a0_1 : Int) (A0_2 : Option Addr) (c0_2 : Nat) (l0_2 : List S29) (r : Int) (w : World) (hr0_2 : Kd.C k29 w A0_2 l0_2.length l0_2) (hc0_2 : l0_2.length ≤ c0_2) (h : formula_May.f a0_0 a0_1 l0_2 = some r) :
  Calls Try.prog 9 #[.agg #[.int .i64 a0_0, .int .i64 a0_1, .slice A0_2 l0_2.length c0_2]] w fun e w' => e = .returned (.int .i64 r) ∧ Below w.heap.size w w' := by
 obtain rfl := Option.some.inj h
 exact May_calls ⟨a0_0, a0_1, l0_2⟩ A0_2 c0_2 w hr0_2 hc0_2
end Go.Proofs.Ytapejnikpmfddaa.X
namespace Go.Proofs.Ytapejnikpmfddaa.P
open Go.RowKit Go.Proofs.YtapejnikpmfddaaW.PrintWords Go.Proofs.YtapejnikpmfddaaW.PrintLast Go.Proofs.YtapejnikpmfddaaW.PrintMore
attribute [local go_sem] max2_int min2_int max_two min_two max_three min_three max_four min_four

def IsS95 (w0 W : World) (g : Nat) (f0 : List Int) (f1 : Int) : Prop := ∃ A0 c0, W.heap[g]? = some (.cells #[.slice A0 f0.length c0, .int .i64 f1] 95 (0, 0)) ∧ w0.heap.size ≤ g ∧ Kd.C (Kd.int .u32) w0 A0 f0.length f0
def bits_Mul64.f (a0 : Int) (a1 : Int) : Option (Int × Int) := some (IntKind.u64.wrap ((IntKind.u64.wrap ((IntKind.u64.wrap ((a0 / 4294967296) * (a1 / 4294967296))) + ((IntKind.u64.wrap ((IntKind.u64.wrap ((a0 / 4294967296) * (Go.bits .and .u64 a1 4294967295))) + ((IntKind.u64.wrap ((Go.bits .and .u64 a0 4294967295) * (Go.bits .and .u64 a1 4294967295))) / 4294967296))) / 4294967296))) + ((IntKind.u64.wrap ((Go.bits .and .u64 (IntKind.u64.wrap ((IntKind.u64.wrap ((a0 / 4294967296) * (Go.bits .and .u64 a1 4294967295))) + ((IntKind.u64.wrap ((Go.bits .and .u64 a0 4294967295) * (Go.bits .and .u64 a1 4294967295))) / 4294967296))) 4294967295) + (IntKind.u64.wrap ((Go.bits .and .u64 a0 4294967295) * (a1 / 4294967296))))) / 4294967296)), IntKind.u64.wrap (a0 * a1))
theorem bits_Mul64.calls (a0 : Int) (a1 : Int) (r1 : Int) (r2 : Int) (w : World) (h : bits_Mul64.f a0 a1 = some (r1, r2)) :
  Calls Try.prog 99 #[.int .u64 a0, .int .u64 a1] w fun e w' => e = .returned (.tuple #[.int .u64 r1, .int .u64 r2]) ∧ Drawn0 w w' := by
 have H : (some (IntKind.u64.wrap ((IntKind.u64.wrap ((IntKind.u64.wrap ((a0 / 4294967296) * (a1 / 4294967296))) + ((IntKind.u64.wrap ((IntKind.u64.wrap ((a0 / 4294967296) * (Go.bits .and .u64 a1 4294967295))) + ((IntKind.u64.wrap ((Go.bits .and .u64 a0 4294967295) * (Go.bits .and .u64 a1 4294967295))) / 4294967296))) / 4294967296))) + ((IntKind.u64.wrap ((Go.bits .and .u64 (IntKind.u64.wrap ((IntKind.u64.wrap ((a0 / 4294967296) * (Go.bits .and .u64 a1 4294967295))) + ((IntKind.u64.wrap ((Go.bits .and .u64 a0 4294967295) * (Go.bits .and .u64 a1 4294967295))) / 4294967296))) 4294967295) + (IntKind.u64.wrap ((Go.bits .and .u64 a0 4294967295) * (a1 / 4294967296))))) / 4294967296)), IntKind.u64.wrap (a0 * a1))) = some (r1, r2) := h
 clear h
 simp only [Option.some.injEq, Prod.mk.injEq] at H
 obtain ⟨rfl, rfl⟩ := H
 go_enter Try.func99, Try.ntmps99
 go_wp2
 go_ret2
 exact ⟨by first | rfl | (simp; done) | (simp [*]; done), by repeat (first | exact Drawn0.refl _ | apply Drawn0.step)⟩

def bits_Mul.f (a0 : Int) (a1 : Int) : Option (Int × Int) := (bits_Mul64.f a0 a1).bind fun bt214 => (some (bt214.1, bt214.2))
theorem bits_Mul.calls (a0 : Int) (a1 : Int) (r1 : Int) (r2 : Int) (w : World) (h : bits_Mul.f a0 a1 = some (r1, r2)) :
  Calls Try.prog 97 #[.int .u64 a0, .int .u64 a1] w fun e w' => e = .returned (.tuple #[.int .u64 r1, .int .u64 r2]) ∧ Drawn0 w w' := by
 have H : ((bits_Mul64.f a0 a1).bind fun bt214 => (some (bt214.1, bt214.2))) = some (r1, r2) := h
 clear h
 replace H := Option.bind_eq_some_iff.mp H
 obtain ⟨⟨t214, t215⟩, A30, H⟩ := H
 replace H : (some (t214, t215)) = some (r1, r2) := H
 have A3 := Zd.mk A30
 clear A30
 simp only [Option.some.injEq, Prod.mk.injEq] at H
 obtain ⟨rfl, rfl⟩ := H
 go_enter Try.func97, Try.ntmps97
 go_wp2_with (first | ((with_reducible refine gate_callee (f := 99) rfl ?_); refine goesL_ (some 25) rfl rfl Try.func99 (by kernel_rfl) rfl #[.int .u64 a0, .int .u64 a1] rfl (by (try simp only [List.map_toArray, List.map_cons, List.map_nil]); first | done | rfl | (simp only [List.length_drop, List.length_take]; rfl)) ?_; (with_reducible refine (bits_Mul64.calls a0 a1 t214 t215 _ A3.out).mono ?_); rintro e w' ⟨rfl, ⟨nd, rfl⟩⟩; refine ⟨_, rfl, ?_⟩))
 go_ret2
 exact ⟨by first | rfl | (simp; done) | (simp [*]; done), by repeat (first | exact Drawn0.refl _ | apply Drawn0.step)⟩

end Go.Proofs.Ytapejnikpmfddaa.P
namespace Go.Proofs.Ytapejnikpmfddaa.X
open Go.RowKit Go.Proofs.YtapejnikpmfddaaW.PrintWords Go.Proofs.YtapejnikpmfddaaW.PrintLast Go.Proofs.YtapejnikpmfddaaW.PrintMore
open Go.Proofs.Ytapejnikpmfddaa.P Go.Proofs.Ytapejnikpmfddaa.Evx
theorem infoBool : (Try.prog.info? 4).map (fun i => (i.zero, i.size, i.bytes)) = some (some (.bool false), 1, 1) := by kernel_rfl
theorem u64w (x : Int) (h0 : 0 ≤ x) (h : x < 18446744073709551616) : IntKind.u64.wrap x = x := u64_id h0 h
theorem mul_one_n (n : Int) (h0 : 0 ≤ n) (h1 : n < 1000000000) : bits_Mul.f 1 n = some (0, n) := by
 unfold bits_Mul.f bits_Mul64.f
 simp only [Option.bind_some]
 have e1 : Go.bits .and .u64 1 4294967295 = 1 := (and_low32 1 (by omega) (by omega)).trans (by omega)
 have e2 : Go.bits .and .u64 n 4294967295 = n := (and_low32 n (by omega) (by omega)).trans (by omega)
 have e3 : (1 : Int) / 4294967296 = 0 := by omega
 have e4 : n / 4294967296 = 0 := by omega
 rw [e1, e2, e3, e4]
 have e5 : Go.bits .and .u64 0 4294967295 = 0 := (and_low32 0 (by omega) (by omega)).trans (by omega)
 simp only [Int.zero_mul, Int.one_mul, Int.mul_zero, Int.mul_one, u64w 0 (by omega) (by omega), u64w n (by omega) (by omega), Int.zero_add, e4, e5]
 simp [u64w 0 (by omega) (by omega), u64w n (by omega) (by omega)]
theorem splice_rep (n m c : Nat) (F f : Value) (h : m + c ≤ n) : splice (List.replicate m F ++ List.replicate (n - m) f) m (List.replicate c F) = List.replicate (m + c) F ++ List.replicate (n - (m + c)) f := by
 unfold splice
 rw [List.take_append_of_le_length (by simp), List.take_of_length_le (by simp), List.length_replicate, List.drop_append, List.drop_of_length_le (by simp), List.nil_append, List.length_replicate, List.drop_replicate, ← List.append_assoc, List.replicate_append_replicate]
 congr 2
 omega
theorem rep_get (n m : Nat) (F f : Value) (j : Nat) (h : j < m) : (List.replicate m F ++ List.replicate (n - m) f)[j]? = some F := by
 rw [List.getElem?_append_left (by simpa using h)]
 simp [h]
theorem cut_lo (g n m : Nat) (hm : m < n) (hn : n < 1000000000) (W : World) : (Instr.slice 67 (.slice (some ⟨g, 0, none⟩) n n) (some (.int .i64 (m : Int))) none none).run Try.prog W = .ok (.slice (some ⟨g, m, none⟩) (n - m) (n - m)) W := by
 obtain ⟨i, hi, hz, hs, hb⟩ := info_parts infoBool
 have h := cut_from (P := Try.prog) 67 4 .i64 Try.underlying67 hi 1 hs (some ⟨g, 0, none⟩) n n (m : Int) (by omega) (by omega) W
 rw [h]
 simp only [Int.toNat_natCast]
 rw [if_neg (by omega)]
 simp [Addr.add]
 omega
theorem cut_hi (g n m : Nat) (hm : m < n) (hn : n < 1000000000) (W : World) : (Instr.slice 67 (.slice (some ⟨g, 0, none⟩) n n) none (some (.int .i64 (m : Int))) none).run Try.prog W = .ok (.slice (some ⟨g, 0, none⟩) m n) W := by
 obtain ⟨i, hi, hz, hs, hb⟩ := info_parts infoBool
 have h := cut_to (P := Try.prog) 67 4 .i64 Try.underlying67 hi (some ⟨g, 0, none⟩) n n (m : Int) (by omega) (by omega) (by omega) W
 rw [h]
 simp only [Int.toNat_natCast]
theorem made_rep (n : Nat) : madeCells #[Value.bool false] n = (List.replicate n (Value.bool false)).toArray := by
 apply Array.ext
 ·simp [madeCells]
 ·intro i h1 h2
  simp [madeCells, Nat.mod_one]
def repRow (n : Nat) (b : Bool) : List Value := List.replicate n (Value.bool b)
theorem len_rep (n : Nat) (b : Bool) : (repRow n b).length = n := by simp [repRow]
theorem one_src {w : World} {gb : Nat} {v : Value} {t : TypeId} (h : w.heap[gb]? = some (.cells #[v] t (0, 0))) : ∀ j u, [v][j]? = some u → w.cell? ((⟨gb, 0, none⟩ : Addr).add j) = some u := by
 intro j u hu
 cases j with
 | zero => rw [← hu]; exact (bq_ h 0).trans rfl
 | succ j => simp at hu
def fillRow (n m : Nat) (b : Bool) : List Value := List.replicate m (Value.bool b) ++ List.replicate (n - m) (Value.bool false)
theorem len_fill (n m : Nat) (b : Bool) (h : m ≤ n) : (fillRow n m b).length = n := by simp [fillRow]; omega
theorem fill_one (n : Nat) (b : Bool) (h : 0 < n) : splice (repRow n false) 0 [.bool b] = fillRow n 1 b := by
 have := splice_rep n 0 1 (.bool b) (.bool false) (by omega)
 simpa [repRow, fillRow] using this
theorem fill_src {w : World} {g n m c : Nat} {b : Bool} {t : TypeId} (h : w.heap[g]? = some (.cells (fillRow n m b).toArray t (0, 0))) : ∀ j u, (List.replicate (min m c) (Value.bool b))[j]? = some u → w.cell? ((⟨g, 0, none⟩ : Addr).add j) = some u := by
 intro j u hu
 obtain ⟨hj, hu'⟩ := List.getElem?_eq_some_iff.1 hu
 have hj' : j < m := by simp at hj; omega
 simp at hu'
 rw [← hu']
 have := rep_get n m (Value.bool b) (Value.bool false) j hj'
 have h2 := bq_ h j
 rw [show (⟨g, 0, none⟩ : Addr).add j = ⟨g, j, none⟩ by simp [Addr.add] <;> omega]
 rw [h2]
 simpa [fillRow] using this
theorem i64w_small (q n : Nat) (h : q ≤ n) (hq : q < n) (h1 : n < 1000000000) : IntKind.i64.wrap ((q : Int) + ((min q (n - q) : Nat) : Int)) = ((q + min q (n - q) : Nat) : Int) := by
 rw [IntKind.wrap_i64]; omega
theorem make_rep (n : Nat) (h : n < 1000000000) (W : World) : (Instr.makeSlice 67 (.int .i64 (n : Int)) (.int .i64 (n : Int))).run Try.prog W = .ok (.slice (some ⟨W.heap.size, 0, none⟩) n n) (W.alloc (.cells ⟨repRow n false⟩ 4)) := by
 have := print_make_of (P := Try.prog) 67 4 (.bool false) 1 Try.underlying67 infoBool rfl (by decide) n (by omega) W
 rwa [made_rep] at this
theorem Repeat_calls (gb : Nat) (F : Bool) (n : Nat) (w : World) (hb : w.heap[gb]? = some (.cells #[.bool F] 4 (0, 0))) (h0 : 0 < n) (h1 : n < 1000000000) :
  Calls Try.prog 94 #[.slice (some ⟨gb, 0, none⟩) 1 1, .int .i64 n] w fun e w' => ∃ g, e = .returned (.slice (some ⟨g, 0, none⟩) n n) ∧ w.heap.size ≤ g ∧ w'.heap[g]? = some (.cells (repRow n F).toArray 4 (0, 0)) ∧ Below w.heap.size w w' := by
 have hus := Try.underlying67
 have hui := Try.underlying3
 have huu := Try.underlying72
 have hmk := make_rep n h1
 have HX := Zd.mk (mul_one_n n (by omega) (by omega))
 have HGB := Zd.mk (blk_lt hb)
 have HMB := Zd.mk hb
 have h9 : ¬ (9223372036854775807 < (n : Int)) := by omega
 clear hb
 go_enter Try.func94, Try.ntmps94
 go_wp2_with (first | (go_at_call 97; refine (bits_Mul.calls 1 n 0 n _ HX.out).mono ?_; rintro e w1 ⟨rfl, hd0⟩; obtain ⟨m, rfl⟩ := hd0.out) | ((with_reducible refine gate_builtin (b := .copy) (xs := #[.tmp 31, .tmp 32]) rfl ?_); refine wpList_copy_splice rfl (.tmp 31) (.tmp 32) 67 67 rfl 4 hus (by kernel_rfl) (some ⟨w.heap.size, 0, none⟩) (some ⟨gb, 0, none⟩) n n 1 1 rfl rfl w.heap.size 0 (repRow n false) 4 (heap_alloc_new (w.drewN m) _) [.bool F] (show 1 = min 1 n by omega) (fun _ => ⟨rfl, _, rfl, one_src (ba_ (bd_ HMB.out m) _)⟩) (show 0 + 1 ≤ (repRow n false).length by rw [len_rep]; omega) (by intro v hv; rw [List.mem_singleton.1 hv]; rfl) w.heap.size w (below_alloc (pd_ (Below.refl _ _) m) _) (Nat.le_refl _) ?_; intro w2 hG hB; have HG := Zd.mk hG.out; have HB := Zd.mk hB; clear hG hB))
 have HG1 := Zd.mk (show w2.heap[w.heap.size]? = some (.cells (fillRow n 1 F).toArray 4 (0, 0)) from by rw [HG.out]; congr 3; exact fill_one n F h0)
 go_loopg [8] (n - 1) (fun kq v8 w' => ∃ q : Nat, 1 ≤ q ∧ q ≤ n ∧ kq = n - q ∧ v8 = .int .i64 q ∧ Zd (w'.heap[w.heap.size]? = some (.cells (fillRow n q F).toArray 4 (0, 0))) ∧ Zd (Below w.heap.size w w'))
 case atStart => exact ⟨1, Nat.le_refl _, h0, rfl, rfl, HG1, HB⟩
 case round =>
  obtain ⟨q, hq1, hq2, hqk, rfl, HGV, HBV⟩ := hrel
  have HQ := Zd.mk hqk
  clear hqk
  by_cases hlt : q < n
  ·obtain ⟨WW, rfl⟩ : ∃ W : World, W = wr := ⟨_, rfl⟩
   have hl := cut_lo w.heap.size n q hlt h1
   have hh := cut_hi w.heap.size n q hlt h1
   have hmin : ((min q (n - q) : Nat) : Int) + (q : Int) ≤ n := by omega
   go_wp2
   go_region_law (refine step_copy_splice rfl (.tmp 41) (.tmp 44) 67 67 rfl 4 hus (by kernel_rfl) (some ⟨w.heap.size, q, none⟩) (some ⟨w.heap.size, 0, none⟩) (n - q) (n - q) q n (by simp [Act.eval, Act.put]) (by simp [Act.eval, Act.put]) w.heap.size q (fillRow n q F) 4 HGV.out (List.replicate (min q (n - q)) (Value.bool F)) (show _ = min q (n - q) by simp) (fun _ => ⟨rfl, _, rfl, fill_src HGV.out⟩) (by rw [len_fill _ _ _ hq2, List.length_replicate]; omega) (by intro v hv; rw [List.eq_of_mem_replicate hv]; rfl) w.heap.size w (below_drew1 HBV.out) (Nat.le_refl _) ?_; intro w4 hG hB; have HG4 := Zd.mk hG.out; have HB4 := Zd.mk hB; clear hG hB)
   all_goals (
    go_wp2
    go_roundg (n - (q + min q (n - q)))
    case measure => have := HQ.out; omega
    case rel => exact ⟨q + min q (n - q), by omega, by omega, rfl, by first | (go_num; done) | (congr 1; go_num; done) | (simp only [i64w_small q n hq2 hlt h1]; done) | (simp only [i64w_small q n hq2 hlt h1]; rfl), ⟨by rw [HG4.out]; exact congrArg some (congrArg (fun z : List Value => Obj.cells z.toArray 4 (0, 0)) (splice_rep n q _ _ _ (by omega)))⟩, HB4⟩)
  ·have e : q = n := by omega
   subst e
   go_wp2
   go_ret
   exact ⟨_, rfl, Nat.le_refl _, by rw [HGV.out]; congr 3; simp [fillRow, repRow], HBV.out⟩
def nextS (n b i : Nat) : Nat := if i + 1 < n then i + 1 else b
theorem nextS_lt {n b i : Nat} (hb : b < n) : nextS n b i < n := by unfold nextS; split <;> omega
def IsRower (w : World) (rb : Nat) (A : Option Addr) (n c b : Nat) : Prop := w.heap[rb]? = some (.cells #[.slice A n c, .int .i64 (b : Int)] 95 (0, 0))
theorem next_calls (rb : Nat) (A : Option Addr) (n c b i : Nat) (w : World) (h : IsRower w rb A n c b) (hi : i < n) (hn : n < 1000000000) :
  Calls Try.prog 80 #[.pointer (some ⟨rb, 0, none⟩), .int .i64 i] w fun e w' => e = .returned (.int .i64 (nextS n b i : Nat)) ∧ w' = w := by
 have hu := Try.underlying95
 have x0 : w.cell? ⟨rb, 0, none⟩ = some (.slice A n c) := (bq_ h 0).trans rfl
 have x1 : w.cell? ⟨rb, 1, none⟩ = some (.int .i64 (b : Int)) := (bq_ h 1).trans rfl
 clear h
 by_cases hlt : i + 1 < n
 ·have hlt' : (i : Int) + 1 < n := by omega
  go_enter Try.func80, Try.ntmps80
  go_wp2
  go_ret
  exact ⟨by unfold nextS; rw [if_pos hlt]; rfl, rfl⟩
 ·have hlt' : ¬ (i : Int) + 1 < n := by omega
  go_enter Try.func80, Try.ntmps80
  go_wp2
  go_ret
  exact ⟨by unfold nextS; rw [if_neg hlt]; rfl, rfl⟩
def passD (f : Nat → Bool → Bool) (n b : Nat) : Nat → List Bool → List Bool
 | 0, out => out
 | i + 1, out => passD f n b i (out.set i (f i (out.getD (nextS n b i) false)))
def settleS (f : Nat → Bool → Bool) (n b : Nat) (first : Bool) : List Bool := passD f n b n (passD f n b n (List.replicate n first))
theorem len_pass (f : Nat → Bool → Bool) (n b : Nat) : ∀ (i : Nat) (out : List Bool), (passD f n b i out).length = out.length
 | 0, out => rfl
 | i + 1, out => by rw [passD, len_pass f n b i]; simp
def passes (f : Nat → Bool → Bool) (n b : Nat) : Nat → List Bool → List Bool
 | 0, out => out
 | t + 1, out => passes f n b t (passD f n b n out)
def boolsOf (l : List Bool) : List Value := l.map Value.bool
theorem bools_get {l : List Bool} {i : Nat} (h : i < l.length) : (boolsOf l).toArray[i]? = some (.bool (l.getD i false)) := by
 simp [boolsOf, h]
theorem bools_set (l : List Bool) (i : Nat) (x : Bool) : (boolsOf l).toArray.setIfInBounds i (.bool x) = (boolsOf (l.set i x)).toArray := by
 simp [boolsOf, List.map_set]
theorem settle_calls (k : FuncId) (cap : Array Value) (he : ∀ args w, (callFunc k args).run Try.prog w = .ok (.enter k args) w) (f : Nat → Bool → Bool)
  (rb : Nat) (A : Option Addr) (n c b : Nat) (first : Bool) (w : World) (h : IsRower w rb A n c b) (h0 : 0 < n) (hn : n < 1000000000) (hb : b < n)
  (hF : ∀ W, Below w.heap.size w W → ∀ (i : Nat) (x : Bool), i < n → Calls Try.prog k (#[.int .i64 i, .bool x] ++ cap) W fun e W' => e = .returned (.bool (f i x)) ∧ Below W.heap.size W W') :
  Calls Try.prog 81 #[.pointer (some ⟨rb, 0, none⟩), .bool first, .func (.func k) #[] cap] w fun e w' => ∃ g, e = .returned (.slice (some ⟨g, 0, none⟩) n n) ∧ w.heap.size ≤ g ∧ w'.heap[g]? = some (.cells (boolsOf (settleS f n b first)).toArray 4 (0, 0)) ∧ Below w.heap.size w w' := by
 have hus := Try.underlying67
 have hu := Try.underlying95
 have x0 : w.cell? ⟨rb, 0, none⟩ = some (.slice A n c) := (bq_ h 0).trans rfl
 have y0 : (w.alloc (.cells #[.bool first] 4)).cell? ⟨rb, 0, none⟩ = some (.slice A n c) := (bq_ (ba_ h _) 0).trans rfl
 have HR := Zd.mk h
 have HF := Zd.mk hF
 clear h hF
 go_enter Try.func81, Try.ntmps81
 go_wp2_with (go_at_call 94; refine (Repeat_calls w.heap.size first n _ (heap_alloc_new w _) h0 hn).mono ?_; rintro e w1 ⟨g, rfl, hg, hG, hB⟩; have HGS := Zd.mk (show w.heap.size ≤ g from by simp at hg; omega); have HG := Zd.mk hG; have HB := Zd.mk ((below_alloc (Below.refl _ _) _).trans (hB.mono (by simp)) : Below w.heap.size w w1); clear hg hG hB)
 go_loopg [17] 2 (fun kq v17 w' => ∃ (t : Nat) (out : List Bool), t ≤ 2 ∧ kq = 2 - t ∧ v17 = .int .i64 t ∧ out.length = n ∧ Zd (passes f n b (2 - t) out = settleS f n b first) ∧ Zd (w'.heap[g]? = some (.cells (boolsOf out).toArray 4 (0, 0))) ∧ Zd (Below w.heap.size w w'))
 case atStart => exact ⟨0, List.replicate n first, by omega, rfl, rfl, by simp, ⟨rfl⟩, ⟨by rw [HG.out]; congr 3; simp [repRow, boolsOf]⟩, HB⟩
 case round =>
  obtain ⟨t, out, ht, hkq, rfl, hlo, HP, HGV, HBV⟩ := hrel
  have HT := Zd.mk ht
  have HKQ := Zd.mk hkq
  have HLO := Zd.mk hlo
  clear ht hkq hlo
  obtain ⟨WW, rfl⟩ : ∃ W : World, W = wr := ⟨_, rfl⟩
  by_cases hlt : (t : Int) < 2
  ·have hpp : passes f n b (2 - t) out = passes f n b (2 - (t + 1)) (passD f n b n out) := by rw [show 2 - t = (2 - (t + 1)) + 1 by have := HT.out; omega]; rfl
   have HPP := Zd.mk hpp
   clear hpp
   go_wp2
   go_loopg [8] n (fun kq v8 w' => ∃ (o2 : List Bool), kq ≤ n ∧ v8 = .int .i64 ((kq : Int) - 1) ∧ o2.length = n ∧ Zd (passD f n b kq o2 = passD f n b n out) ∧ Zd (w'.heap[g]? = some (.cells (boolsOf o2).toArray 4 (0, 0))) ∧ Zd (Below w.heap.size w w'))
   case atStart => exact ⟨out, Nat.le_refl _, rfl, HLO.out, ⟨rfl⟩, HGV, HBV⟩
   case round =>
    obtain ⟨o2, hkn, rfl, hl2, HQ, HG2, HB2⟩ := hrel
    obtain _ | j := gk
    ·have e0 : ((0 : Nat) : Int) - 1 = -1 := rfl
     rw [e0]
     have HPD := Zd.mk (show passes f n b (2 - (t + 1)) o2 = settleS f n b first from by rw [← HP.out, HPP.out, ← HQ.out]; rfl)
     have HLL := Zd.mk hl2
     clear hl2
     go_wp2
     go_roundg (2 - (t + 1))
     case measure => have := HKQ.out; have := HT.out; omega
     case rel => exact ⟨t + 1, o2, by omega, rfl, by first | rfl | (congr 1; go_num; done) | go_num, HLL.out, HPD, HG2, HB2⟩
    ·have e1 : ((j + 1 : Nat) : Int) - 1 = (j : Int) := by omega
     rw [e1]
     have hjn : j < n := by omega
     have hj0 : ¬ ((j : Int) < 0) := by omega
     have hIR : IsRower wr rb A n c b := (HB2.out.block _ (blk_lt HR.out)).trans HR.out
     have HN := Zd.mk (next_calls rb A n c b j wr hIR hjn hn)
     have HS := Zd.mk (show passD f n b j (o2.set j (f j (o2.getD (nextS n b j) false))) = passD f n b n out from HQ.out)
     have hq : nextS n b j < n := nextS_lt hb
     generalize nextS n b j = q at HN HS hq
     obtain ⟨x, hx⟩ : ∃ x, x = o2.getD q false := ⟨_, rfl⟩
     rw [← hx] at HS
     have xq : wr.cell? ⟨g, q, none⟩ = some (.bool x) := by rw [bq_ HG2.out, bools_get (by omega), hx]
     have HLL := Zd.mk hl2
     have HCL := Zd.mk (HF.out wr HB2.out j x hjn)
     clear hl2 hIR hx
     go_wp2_with (first | (go_at_call 80; refine HN.out.mono ?_; rintro e w4 ⟨rfl, rfl⟩) | ((with_reducible refine HCL.out.mono ?_); rintro e w4 ⟨rfl, hB4⟩; have HG4 := Zd.mk ((hB4.block _ (blk_lt HG2.out)).trans HG2.out); have HB4 := Zd.mk (HB2.out.trans (hB4.mono HB2.out.size)); have xj : w4.cell? ⟨g, j, none⟩ = some (.bool (o2.getD j false)) := (by rw [bq_ HG4.out, bools_get (by rw [HLL.out]; exact hjn)]); have fj := bz_ HG4.out j; clear hB4))
     go_roundg j
     case measure => omega
     case rel => exact ⟨o2.set j (f j x), by omega, by first | rfl | (congr 1; go_num; done) | go_num, by simp [HLL.out], HS, ⟨(blk_set HG4.out j _).trans (by rw [bools_set])⟩, ⟨below_set HB4.out HGS.out⟩⟩
  ·have e2 : t = 2 := by have := HT.out; omega
   subst e2
   have HE := Zd.mk (show out = settleS f n b first from HP.out)
   go_wp2
   go_ret
   exact ⟨g, rfl, HGS.out, by rw [← HE.out]; exact HGV.out, HBV.out⟩
theorem enters_f {P : Program} {f : FuncId} {fn : Func} {c : Code} (hf : P.funcs[f]? = some fn) (hname : (fn.name == "runtime.NumGoroutine") = false) (hb : fn.body = some c) (args : Array Value) (w : World) : (callFunc f args).run P w = .ok (.enter f args) w := by
 have h1 : fn.name ≠ "runtime.NumGoroutine" := fun h => by rw [h] at hname; exact absurd hname (by decide)
 simp [callFunc, hf, h1, hb, mark]
def BRow (w : World) (g : Nat) (l : List Bool) : Prop := w.heap[g]? = some (.cells (boolsOf l).toArray 4 (0, 0))
def Cell1 (w : World) (p : Nat) (v : Value) (t : TypeId) : Prop := w.heap[p]? = some (.cells #[v] t (0, 0))
theorem brow_cell {w : World} {g : Nat} {l : List Bool} (h : BRow w g l) {i : Nat} (hi : i < l.length) : w.cell? ⟨g, i, none⟩ = some (.bool (l.getD i false)) := by rw [bq_ h, bools_get hi]
theorem cell1 {w : World} {p : Nat} {v : Value} {t : TypeId} (h : Cell1 w p v t) : w.cell? ⟨p, 0, none⟩ = some v := (bq_ h 0).trans rfl
theorem row2_calls (p ga n i : Nat) (a : List Bool) (W : World) (hp : Cell1 W p (.slice (some ⟨ga, 0, none⟩) n n) 67) (ha : BRow W ga a) (hl : a.length = n) (hi : i < n) :
  Calls Try.prog 76 #[.int .i64 i, .pointer (some ⟨p, 0, none⟩)] W fun e W' => e = .returned (.bool (!(a.getD i false))) ∧ Below W.heap.size W W' := by
 have hus := Try.underlying67
 have hx := cell1 hp
 have hy := brow_cell ha (i := i) (by omega)
 generalize a.getD i false = x at *
 clear hp ha
 go_enter Try.func76, Try.ntmps76
 go_wp2
 go_ret
 exact ⟨rfl, Below.refl _ _⟩
theorem row3_calls (p q ga gb n i : Nat) (a b : List Bool) (W : World) (hp : Cell1 W p (.slice (some ⟨ga, 0, none⟩) n n) 67) (ha : BRow W ga a) (hl : a.length = n) (hq : Cell1 W q (.slice (some ⟨gb, 0, none⟩) n n) 67) (hb : BRow W gb b) (hm : b.length = n) (hi : i < n) :
  Calls Try.prog 77 #[.int .i64 i, .pointer (some ⟨p, 0, none⟩), .pointer (some ⟨q, 0, none⟩)] W fun e W' => e = .returned (.bool (a.getD i false && b.getD i false)) ∧ Below W.heap.size W W' := by
 have hus := Try.underlying67
 have hx := cell1 hp
 have hx2 := cell1 hq
 have hy := brow_cell ha (i := i) (by omega)
 have hy2 := brow_cell hb (i := i) (by omega)
 generalize a.getD i false = x at *
 generalize b.getD i false = y at *
 clear hp ha hq hb
 cases x with
 | false =>
  go_enter Try.func77, Try.ntmps77
  go_wp2
  go_ret
  exact ⟨rfl, Below.refl _ _⟩
 | true =>
  go_enter Try.func77, Try.ntmps77
  go_wp2
  go_ret
  exact ⟨rfl, Below.refl _ _⟩
theorem row4_calls (p q ga gb n i : Nat) (a b : List Bool) (W : World) (hp : Cell1 W p (.slice (some ⟨ga, 0, none⟩) n n) 67) (ha : BRow W ga a) (hl : a.length = n) (hq : Cell1 W q (.slice (some ⟨gb, 0, none⟩) n n) 67) (hb : BRow W gb b) (hm : b.length = n) (hi : i < n) :
  Calls Try.prog 78 #[.int .i64 i, .pointer (some ⟨p, 0, none⟩), .pointer (some ⟨q, 0, none⟩)] W fun e W' => e = .returned (.bool (a.getD i false || b.getD i false)) ∧ Below W.heap.size W W' := by
 have hus := Try.underlying67
 have hx := cell1 hp
 have hx2 := cell1 hq
 have hy := brow_cell ha (i := i) (by omega)
 have hy2 := brow_cell hb (i := i) (by omega)
 generalize a.getD i false = x at *
 generalize b.getD i false = y at *
 clear hp ha hq hb
 cases x with
 | false =>
  go_enter Try.func78, Try.ntmps78
  go_wp2
  go_ret
  exact ⟨rfl, Below.refl _ _⟩
 | true =>
  go_enter Try.func78, Try.ntmps78
  go_wp2
  go_ret
  exact ⟨rfl, Below.refl _ _⟩
theorem row5_calls (p q ga rb n c b i : Nat) (A : Option Addr) (a : List Bool) (W : World) (hp : Cell1 W p (.slice (some ⟨ga, 0, none⟩) n n) 67) (ha : BRow W ga a) (hl : a.length = n) (hq : Cell1 W q (.pointer (some ⟨rb, 0, none⟩)) 92) (hr : IsRower W rb A n c b) (hb : b < n) (hi : i < n) (hn : n < 1000000000) :
  Calls Try.prog 79 #[.int .i64 i, .pointer (some ⟨p, 0, none⟩), .pointer (some ⟨q, 0, none⟩)] W fun e W' => e = .returned (.bool (a.getD (nextS n b i) false)) ∧ Below W.heap.size W W' := by
 have hus := Try.underlying67
 have hx := cell1 hp
 have hx2 := cell1 hq
 have hlt := nextS_lt (n := n) (i := i) hb
 have hy := brow_cell ha (i := nextS n b i) (by omega)
 have HN := Zd.mk (fun m => next_calls rb A n c b i (W.drewN m) (bd_ hr m) hi hn)
 generalize nextS n b i = j at *
 generalize a.getD j false = x at *
 clear hp ha hq hr
 go_enter Try.func79, Try.ntmps79
 go_wp2
 go_quiet (first | (go_at_call 80; refine Calls.quiet_of_same (HN.out _)))
 go_wp2
 go_ret
 exact ⟨rfl, pd_ (Below.refl _ _) _⟩
theorem row6_calls (p q ga gb n i : Nat) (nx : Bool) (a b : List Bool) (W : World) (hp : Cell1 W p (.slice (some ⟨ga, 0, none⟩) n n) 67) (ha : BRow W ga a) (hl : a.length = n) (hq : Cell1 W q (.slice (some ⟨gb, 0, none⟩) n n) 67) (hb : BRow W gb b) (hm : b.length = n) (hi : i < n) :
  Calls Try.prog 82 #[.int .i64 i, .bool nx, .pointer (some ⟨q, 0, none⟩), .pointer (some ⟨p, 0, none⟩)] W fun e W' => e = .returned (.bool (b.getD i false || a.getD i false && nx)) ∧ Below W.heap.size W W' := by
 have hus := Try.underlying67
 have hx := cell1 hp
 have hx2 := cell1 hq
 have hy := brow_cell ha (i := i) (by omega)
 have hy2 := brow_cell hb (i := i) (by omega)
 generalize a.getD i false = x at *
 generalize b.getD i false = y at *
 clear hp ha hq hb
 cases y <;> cases x <;> (
  go_enter Try.func82, Try.ntmps82
  go_wp2
  go_ret
  exact ⟨by first | rfl | (cases nx <;> rfl), Below.refl _ _⟩)
theorem row7_calls (p q ga gb n i : Nat) (nx : Bool) (a b : List Bool) (W : World) (hp : Cell1 W p (.slice (some ⟨ga, 0, none⟩) n n) 67) (ha : BRow W ga a) (hl : a.length = n) (hq : Cell1 W q (.slice (some ⟨gb, 0, none⟩) n n) 67) (hb : BRow W gb b) (hm : b.length = n) (hi : i < n) :
  Calls Try.prog 83 #[.int .i64 i, .bool nx, .pointer (some ⟨q, 0, none⟩), .pointer (some ⟨p, 0, none⟩)] W fun e W' => e = .returned (.bool (b.getD i false && (a.getD i false || nx))) ∧ Below W.heap.size W W' := by
 have hus := Try.underlying67
 have hx := cell1 hp
 have hx2 := cell1 hq
 have hy := brow_cell ha (i := i) (by omega)
 have hy2 := brow_cell hb (i := i) (by omega)
 generalize a.getD i false = x at *
 generalize b.getD i false = y at *
 clear hp ha hq hb
 cases y <;> cases x <;> (
  go_enter Try.func83, Try.ntmps83
  go_wp2
  go_ret
  exact ⟨by first | rfl | (cases nx <;> rfl), Below.refl _ _⟩)
theorem row8_calls (i : Int) (W : World) : Calls Try.prog 84 #[.int .i64 i] W fun e W' => e = .returned (.bool true) ∧ Below W.heap.size W W' := by
 go_enter Try.func84, Try.ntmps84
 go_wp2
 go_ret
 exact ⟨rfl, Below.refl _ _⟩
def bitS (l m : Int) : Bool := (Go.bits .and .u32 (shr .u32 l (IntKind.u64.wrap m)) 1) == 1
theorem row1_calls (p q rb n c b i : Nat) (A A2 : Option Addr) (ls : List Int) (op m : Int) (kn kc : Nat) (W : World) (hp : Cell1 W p (.pointer (some ⟨rb, 0, none⟩)) 92) (hr : IsRower W rb A n c b) (hC : Kd.C (Kd.int .u32) W A n ls) (hq : W.heap[q]? = some (.cells #[.int .i64 op, .int .i64 m, .slice A2 kn kc] 29 (0, 0))) (hi : i < n) (hm0 : 0 ≤ m) (hm1 : m < 32) :
  Calls Try.prog 75 #[.int .i64 i, .pointer (some ⟨p, 0, none⟩), .pointer (some ⟨q, 0, none⟩)] W fun e W' => e = .returned (.bool (bitS (ls.getD i 0) m)) ∧ Below W.heap.size W W' := by
 have hus := Try.underlying22
 have huF := Try.underlying29
 have huR := Try.underlying95
 have hx := cell1 hp
 have hx2 : W.cell? ⟨q, 1, none⟩ = some (.int .i64 m) := (bq_ hq 1).trans rfl
 have hR := Kd.reads_of_C (d := 0) hC
 obtain ⟨ad, rfl, hc⟩ := hR.2.2 (by omega)
 have hy := hc i hi
 have hz : W.cell? ⟨rb, 0, none⟩ = some (.slice (some ad) n c) := (bq_ hr 0).trans rfl
 generalize ls.getD i 0 = x at *
 have hw : IntKind.u64.wrap m = m := u64_id hm0 (by omega)
 have HBT := Zd.mk (show bitS x m = ((Go.bits .and .u32 (x / 2 ^ m.toNat) 1) == 1) from by unfold bitS; rw [hw, ← shr_small (k := .u32) (x := x) (y := m) rfl (by show m ≤ 32; omega)])
 clear hp hr hC hq hR hc hw
 go_enter Try.func75, Try.ntmps75
 go_wp2
 go_quiet (fail)
 go_wp2
 go_ret
 exact ⟨by rw [HBT.out]; rfl, pd_ (Below.refl _ _) _⟩
theorem each1_calls (k : FuncId) (cap : Array Value) (he : ∀ args w, (callFunc k args).run Try.prog w = .ok (.enter k args) w) (p i : Nat) (x r : Bool) (W : World) (hp : Cell1 W p (.func (.func k) #[] cap) 87)
  (hF : Calls Try.prog k (#[.int .i64 i] ++ cap) W fun e W' => e = .returned (.bool r) ∧ Below W.heap.size W W') :
  Calls Try.prog 93 #[.int .i64 i, .bool x, .pointer (some ⟨p, 0, none⟩)] W fun e W' => e = .returned (.bool r) ∧ Below W.heap.size W W' := by
 have hx := cell1 hp
 have HF := Zd.mk hF
 clear hp hF
 go_enter Try.func93, Try.ntmps93
 go_wp2_with ((with_reducible refine HF.out.mono ?_); rintro e w4 ⟨rfl, hB4⟩; have HB4 := Zd.mk hB4; clear hB4)
 go_ret
 exact ⟨rfl, HB4.out⟩
theorem each_calls (k : FuncId) (cap : Array Value) (he : ∀ args w, (callFunc k args).run Try.prog w = .ok (.enter k args) w) (f : Nat → Bool)
  (rb : Nat) (A : Option Addr) (n c b : Nat) (w : World) (h : IsRower w rb A n c b) (h0 : 0 < n) (hn : n < 1000000000) (hb : b < n)
  (hF : ∀ W, Below w.heap.size w W → ∀ (i : Nat), i < n → Calls Try.prog k (#[.int .i64 i] ++ cap) W fun e W' => e = .returned (.bool (f i)) ∧ Below W.heap.size W W') :
  Calls Try.prog 74 #[.pointer (some ⟨rb, 0, none⟩), .func (.func k) #[] cap] w fun e w' => ∃ g, e = .returned (.slice (some ⟨g, 0, none⟩) n n) ∧ w.heap.size ≤ g ∧ BRow w' g (settleS (fun i _ => f i) n b false) ∧ Below w.heap.size w w' := by
 have hmf : ∀ fn first cap w, (Instr.makeFunc fn first cap).run Try.prog w = .ok (.func fn first cap) w := fun _ _ _ _ => rfl
 obtain ⟨W1, hW1⟩ : ∃ W1, W1 = w.alloc (.cells #[.func (.func k) #[] cap] 87) := ⟨_, rfl⟩
 have hB1 : Below w.heap.size w W1 := by rw [hW1]; exact below_alloc (Below.refl _ _) _
 have hc1 : Cell1 W1 w.heap.size (.func (.func k) #[] cap) 87 := by rw [hW1]; exact heap_alloc_new w _
 have he1 : ∀ args w, (callFunc 93 args).run Try.prog w = .ok (.enter 93 args) w := enters_f Try.func93 (by kernel_rfl) rfl
 have hS := settle_calls 93 #[.pointer (some ⟨w.heap.size, 0, none⟩)] he1 (fun i _ => f i) rb A n c b false W1 (by rw [hW1]; exact ba_ h _) h0 hn hb
  (fun W hW i x hi => each1_calls k cap he w.heap.size i x (f i) W ((hW.block _ (blk_lt hc1)).trans hc1) (hF W (hB1.trans (hW.mono hB1.size)) i hi))
 have HS := Zd.mk hS
 have HB1 := Zd.mk hB1
 have HW1 := Zd.mk hW1
 clear hS hB1 hc1 hF h
 go_enter Try.func74, Try.ntmps74
 go_wp2_with (go_at_call 81; rw [← HW1.out]; refine HS.out.mono ?_; rintro e w4 ⟨g, rfl, hg, hG, hB4⟩; have HG := Zd.mk hG; have HB4 := Zd.mk (HB1.out.trans (hB4.mono HB1.out.size)); have HGS := Zd.mk (Nat.le_trans HB1.out.size hg); clear hB4 hG hg)
 go_ret
 exact ⟨g, rfl, HGS.out, HG.out, HB4.out⟩
end Go.Proofs.Ytapejnikpmfddaa.X
namespace Go.Proofs.Ytapejnikpmfddaa.X
open Go.RowKit Go.Proofs.YtapejnikpmfddaaW.PrintWords Go.Proofs.YtapejnikpmfddaaW.PrintMore
open Go.Proofs.Ytapejnikpmfddaa.P
def bitK (sv : Int) (k : Nat) : Bool := (Go.bits .and .i64 (sv / 2 ^ k) 1) == 1
def valOp (op m lt : Int) (bit x y : Bool) : Bool :=
 if op = 2 then bitS lt m else if op = 3 then !x else if op = 4 then x && y else if op = 5 then x || y else if op = 6 then bit else if op = 7 then y || x && bit else if op = 8 then y && (x || bit) else true
def saidOp (op : Int) (x v : Bool) : Bool := if op = 6 then x else v
def goodOp (op : Int) (v y : Bool) : Bool := if op = 6 then true else if op = 7 then !v || y else v || !y
def tS (op : Int) : Nat := if timedS op = true then 1 else 0
mutual
def tnS : S29 → Nat
 | ⟨op, _, kids⟩ => tS op + tnL kids
def tnL : List S29 → Nat
 | [] => 0
 | k :: r => tnS k + tnL r
end
mutual
def valS (sv lt : Int) : S29 → Nat → Bool
 | ⟨op, m, kids⟩, k => valOp op m lt (bitK sv k) ((valL sv lt kids (k + tS op)).getD 0 false) ((valL sv lt kids (k + tS op)).getD 1 false)
def valL (sv lt : Int) : List S29 → Nat → List Bool
 | [], _ => []
 | c :: r, k => valS sv lt c k :: valL sv lt r (k + tnS c)
end
def ownE (op : Int) (b : Bool) : List Bool := if timedS op = true then [b] else []
mutual
def saidS (sv lt : Int) : S29 → Nat → List Bool
 | ⟨op, m, kids⟩, k => ownE op (saidOp op ((valL sv lt kids (k + tS op)).getD 0 false) (valS sv lt ⟨op, m, kids⟩ k)) ++ saidL sv lt kids (k + tS op)
def saidL (sv lt : Int) : List S29 → Nat → List Bool
 | [], _ => []
 | c :: r, k => saidS sv lt c k ++ saidL sv lt r (k + tnS c)
end
mutual
def goodS (sv lt : Int) : S29 → Nat → List Bool
 | ⟨op, m, kids⟩, k => ownE op (goodOp op (valS sv lt ⟨op, m, kids⟩ k) ((valL sv lt kids (k + tS op)).getD 1 false)) ++ goodL sv lt kids (k + tS op)
def goodL (sv lt : Int) : List S29 → Nat → List Bool
 | [], _ => []
 | c :: r, k => goodS sv lt c k ++ goodL sv lt r (k + tnS c)
end
theorem len_own (op : Int) (b : Bool) : (ownE op b).length = tS op := by unfold ownE tS; split <;> rfl
mutual
theorem len_said (sv lt : Int) : ∀ (s : S29) (k : Nat), (saidS sv lt s k).length = tnS s
 | ⟨op, m, kids⟩, k => by simp only [saidS, List.length_append, len_own, len_saidL sv lt kids, tnS]
theorem len_saidL (sv lt : Int) : ∀ (l : List S29) (k : Nat), (saidL sv lt l k).length = tnL l
 | [], _ => rfl
 | c :: r, k => by simp only [saidL, List.length_append, len_said sv lt c, len_saidL sv lt r, tnL]
end
mutual
theorem len_good (sv lt : Int) : ∀ (s : S29) (k : Nat), (goodS sv lt s k).length = tnS s
 | ⟨op, m, kids⟩, k => by simp only [goodS, List.length_append, len_own, len_goodL sv lt kids, tnS]
theorem len_goodL (sv lt : Int) : ∀ (l : List S29) (k : Nat), (goodL sv lt l k).length = tnL l
 | [], _ => rfl
 | c :: r, k => by simp only [goodL, List.length_append, len_good sv lt c, len_goodL sv lt r, tnL]
end
theorem val_eq (sv lt : Int) (s : S29) (k : Nat) : valS sv lt s k = valOp s.f0 s.f1 lt (bitK sv k) ((valL sv lt s.f2 (k + tS s.f0)).getD 0 false) ((valL sv lt s.f2 (k + tS s.f0)).getD 1 false) := by cases s; rw [valS]
theorem said_eq (sv lt : Int) (s : S29) (k : Nat) : saidS sv lt s k = ownE s.f0 (saidOp s.f0 ((valL sv lt s.f2 (k + tS s.f0)).getD 0 false) (valS sv lt s k)) ++ saidL sv lt s.f2 (k + tS s.f0) := by cases s; rw [saidS]
theorem good_eq (sv lt : Int) (s : S29) (k : Nat) : goodS sv lt s k = ownE s.f0 (goodOp s.f0 (valS sv lt s k) ((valL sv lt s.f2 (k + tS s.f0)).getD 1 false)) ++ goodL sv lt s.f2 (k + tS s.f0) := by cases s; rw [goodS]
theorem tn_eq (s : S29) : tnS s = tS s.f0 + tnL s.f2 := by cases s; rw [tnS]
open Go.Proofs.Ytapejnikpmfddaa.Evx
mutual
def nS : S29 → Nat
 | ⟨_, _, kids⟩ => 1 + nL kids
def nL : List S29 → Nat
 | [] => 0
 | k :: r => nS k + nL r
end
mutual
def hS : S29 → Nat
 | ⟨_, _, kids⟩ => 1 + hL kids
def hL : List S29 → Nat
 | [] => 0
 | k :: r => max (hS k) (hL r)
end
theorem cnt_t (c : Cnt) (op : Int) : (if timedS op = true then c.t + 1 else c.t) = c.t + (tS op : Int) := by unfold tS; split <;> simp
mutual
theorem goesS_back : ∀ (s : S29) (d : Int) (c : Cnt), (goesS s d c).n ≤ 60 → (goesS s d c).deep = false → goesS s d c = ⟨c.n + nS s, c.t + tnS s, false⟩ ∧ c.deep = false ∧ d + hS s ≤ 13
 | ⟨op, m, kids⟩, d, c, h1, h2 => by
  simp only [goesS] at h1 h2 ⊢
  by_cases hd : d > 12
  ·rw [if_pos hd] at h2; cases h2
  ·rw [if_neg hd] at h1 h2 ⊢
   obtain ⟨e1, e2, e3⟩ := goesL_back kids (d + 1) _ h1 h2
   rw [e1]
   simp only at e2
   refine ⟨?_, e2, ?_⟩
   ·simp only [nS, tnS, Cnt.mk.injEq, cnt_t]
    refine ⟨by omega, by omega, trivial⟩
   ·simp only [hS]
    rcases e3 with e3 | e3
    ·omega
    ·subst e3; simp only [hL]; omega
theorem goesL_back : ∀ (l : List S29) (d : Int) (c : Cnt), (goesL l d c).n ≤ 60 → (goesL l d c).deep = false → goesL l d c = ⟨c.n + nL l, c.t + tnL l, false⟩ ∧ c.deep = false ∧ (d + hL l ≤ 13 ∨ l = [])
 | [], d, c, h1, h2 => by
  simp only [goesL] at h1 h2 ⊢
  refine ⟨?_, h2, .inr trivial⟩
  cases c
  simp only at h2
  subst h2
  simp [nL, tnL]
 | k :: r, d, c, h1, h2 => by
  simp only [goesL] at h1 h2 ⊢
  by_cases hc : c.n > 60
  ·rw [if_pos hc] at h1; omega
  ·rw [if_neg hc] at h1 h2 ⊢
   obtain ⟨e1, e2, e3⟩ := goesL_back r d _ h1 h2
   have h3 : (goesS k d c).n ≤ 60 := by rw [e1] at h1; simp only at h1; omega
   obtain ⟨f1, f2, f3⟩ := goesS_back k d c h3 e2
   rw [e1, f1]
   refine ⟨?_, f2, .inl ?_⟩
   ·simp only [nL, tnL, Cnt.mk.injEq]
    refine ⟨by omega, by omega, trivial⟩
   ·simp only [hL]
    rcases e3 with e3 | e3
    ·omega
    ·subst e3; simp only [hL]; omega
end
mutual
theorem goesS_forth : ∀ (s : S29) (d : Int) (c : Cnt), c.n + nS s ≤ 60 → d + hS s ≤ 13 → c.deep = false → goesS s d c = ⟨c.n + nS s, c.t + tnS s, false⟩
 | ⟨op, m, kids⟩, d, c, h1, h2, h3 => by
  simp only [nS, hS] at h1 h2
  simp only [goesS]
  rw [if_neg (by omega), goesL_forth kids (d + 1) ⟨c.n + 1, if timedS op = true then c.t + 1 else c.t, c.deep⟩ (by simp only; omega) (by omega) h3]
  simp only [nS, tnS, Cnt.mk.injEq, cnt_t]
  refine ⟨by omega, by omega, trivial⟩
theorem goesL_forth : ∀ (l : List S29) (d : Int) (c : Cnt), c.n + nL l ≤ 60 → d + hL l ≤ 13 → c.deep = false → goesL l d c = ⟨c.n + nL l, c.t + tnL l, false⟩
 | [], d, c, h1, h2, h3 => by
  simp only [goesL]
  cases c
  simp only at h3
  subst h3
  simp [nL, tnL]
 | k :: r, d, c, h1, h2, h3 => by
  simp only [nL, hL] at h1 h2
  simp only [goesL]
  rw [if_neg (by omega), goesS_forth k d c (by omega) (by omega) h3, goesL_forth r d _ (by simp only; omega) (by omega) rfl]
  simp only [nL, tnL, Cnt.mk.injEq]
  refine ⟨by omega, by omega, trivial⟩
end
theorem light_iff (s : S29) : lightS s = true ↔ nS s ≤ 60 ∧ hS s ≤ 12 := by
 unfold lightS
 rw [Bool.and_eq_true, decide_eq_true_eq, Bool.not_eq_true']
 constructor
 ·rintro ⟨h1, h2⟩
  obtain ⟨e1, _, e3⟩ := goesS_back s 1 ⟨0, 0, false⟩ h1 h2
  unfold cntS at h1
  rw [e1] at h1
  simp only at h1
  exact ⟨by omega, by omega⟩
 ·rintro ⟨h1, h2⟩
  have e := goesS_forth s 1 ⟨0, 0, false⟩ (by simp only; omega) (by omega) rfl
  unfold cntS
  rw [e]
  exact ⟨by simp only; omega, rfl⟩
theorem light_t {s : S29} (h : lightS s = true) : (cntS s).t = tnS s := by
 obtain ⟨h1, h2⟩ := (light_iff s).1 h
 unfold cntS
 rw [goesS_forth s 1 ⟨0, 0, false⟩ (by simp only; omega) (by omega) rfl]
 simp
theorem may_eq (s : S29) : mayF s = if nS s ≤ 60 ∧ hS s ≤ 12 ∧ tnS s ≤ 8 then (if soundS s = true then 0 else 1) else 7 := by
 unfold mayF
 by_cases hl : lightS s = true
 ·have h1 := (light_iff s).1 hl
  have h2 := light_t hl
  by_cases ht : tnS s ≤ 8
  ·rw [if_pos (show lightS s = true ∧ (cntS s).t ≤ 8 from ⟨hl, by omega⟩), if_pos (show nS s ≤ 60 ∧ hS s ≤ 12 ∧ tnS s ≤ 8 from ⟨h1.1, h1.2, ht⟩)]
  ·rw [if_neg (fun h => ht (by omega)), if_neg (fun h => ht h.2.2)]
 ·rw [if_neg (fun h => hl h.1), if_neg (fun h => hl ((light_iff s).2 ⟨h.1, h.2.1⟩))]
theorem may_zero {s : S29} (h : mayF s = 0) : nS s ≤ 60 ∧ hS s ≤ 12 ∧ tnS s ≤ 8 ∧ soundS s = true := by
 rw [may_eq] at h
 split at h
 ·split at h
  ·exact ⟨by omega, by omega, by omega, by assumption⟩
  ·cases h
 ·cases h
mutual
def timesS : S29 → List S29
 | ⟨op, m, kids⟩ => (if timedS op = true then [⟨op, m, kids⟩] else []) ++ timesL kids
def timesL : List S29 → List S29
 | [] => []
 | k :: r => timesS k ++ timesL r
end
mutual
theorem len_times : ∀ s : S29, (timesS s).length = tnS s
 | ⟨op, m, kids⟩ => by
  simp only [timesS, List.length_append, len_timesL kids, tnS, tS]
  split <;> simp
theorem len_timesL : ∀ l : List S29, (timesL l).length = tnL l
 | [] => rfl
 | k :: r => by simp only [timesL, List.length_append, len_times k, len_timesL r, tnL]
end
def sizeS (s : S29) : Int := if mayF s = 0 then 2 ^ tnS s else 0
def stateS (s : S29) (sv : Int) : Bool := decide (0 ≤ sv ∧ sv < sizeS s)
theorem state_may {s : S29} {sv : Int} (h : stateS s sv = true) : mayF s = 0 := by
 have h1 := of_decide_eq_true h
 by_cases h2 : mayF s = 0
 ·exact h2
 ·unfold sizeS at h1
  rw [if_neg h2] at h1
  omega
theorem rdT_nat (l : List S29) (i : Nat) (h : i < l.length) : rd_T29 l (i : Int) = l[i]'h := by
 unfold rd_T29
 rw [Int.toNat_natCast, List.getD_eq_getElem?_getD, List.getElem?_eq_getElem h]; rfl
theorem sound_len {s : S29} (h : soundS s = true) : s.f2.length ≤ 2 := by
 obtain ⟨op, m, kids⟩ := s
 simp only [soundS, Bool.and_eq_true, decide_eq_true_eq] at h
 have := (kids_range op).2
 have := h.2.1
 show kids.length ≤ 2
 omega
theorem sound_in : ∀ {l : List S29}, soundL l = true → ∀ k ∈ l, soundS k = true
 | a :: r, h, k, hk => by
  simp only [soundL, Bool.and_eq_true] at h
  rcases List.mem_cons.1 hk with e | e
  ·rw [e]; exact h.1
  ·exact sound_in h.2 k e
theorem sound_kids_all {s : S29} (h : soundS s = true) : soundL s.f2 = true := by
 obtain ⟨op, m, kids⟩ := s
 simp only [soundS, Bool.and_eq_true] at h
 exact h.2.2.2.2
end Go.Proofs.Ytapejnikpmfddaa.X
namespace Go.Proofs.Ytapejnikpmfddaa.P
open Go.RowKit Go.Proofs.YtapejnikpmfddaaW.PrintWords Go.Proofs.YtapejnikpmfddaaW.PrintLast Go.Proofs.YtapejnikpmfddaaW.PrintMore
attribute [local go_sem] max2_int min2_int max_two min_two max_three min_three max_four min_four

mutual
def formula_copied.l0 : Nat → List (S29) → Int → Int → Int → Int → List (S29) → Option (Int × Int × (List (S29)))
 | 0, _, _, _, _, _, _ => none
 | k + 1, x12, x13, x14, x143000, x143001, x143002 => if x14 < x13 then (if 0 ≤ x14 then (if x14 < (x12.length : Int) then ((formula_copied.f k ((rd_T29 x12 x14).f0) ((rd_T29 x12 x14).f1) ((rd_T29 x12 x14).f2)).bind fun bt145 => (if x143002.length < 3518437208883 then (formula_copied.l0 k x12 x13 (wrap64 (x14 + 1)) x143000 x143001 (x143002 ++ [(⟨bt145.1, bt145.2.1, bt145.2.2⟩ : S29)])) else (none))) else (none)) else (none)) else (some (x143000, x143001, x143002))
def formula_copied.f : Nat → Int → Int → List (S29) → Option (Int × Int × (List (S29)))
 | 0, _, _, _ => none
 | k + 1, a0_0, a0_1, l0_2 => formula_copied.l0 k l0_2 (l0_2.length : Int) 0 a0_0 a0_1 ([] : List (S29))
end
def formula_copied.T5 : Bool × List (List Nat × List Nat) := (true, [([], []), ([0], [0]), ([], []), ([2], [2]), ([3], [3]), ([1, 4, 3], [1, 4]), ([0, 1, 2, 3, 4, 5], []), ([6, 5, 5, 0, 1, 2, 3, 4, 5], [5, 6])])
def formula_copied.B5 : List Nat := [0, 1, 0, 4, 12, 31, 63, 127]
theorem formula_copied.tab5 : rtab .any (opsOf Try.f85 5) = formula_copied.T5 := by kernel_rfl
theorem formula_copied.bits5 : waitsOk formula_copied.T5.2 formula_copied.B5 = true := by kernel_rfl
theorem formula_copied.calls (k : Nat) : ∀ (a0_0 : Int) (a0_1 : Int) (A0_2 : Option Addr) (c0_2 : Nat) (l0_2 : List (S29)) (r1 : Int) (r2 : Int) (r3 : List (S29)) (w : World) (hr0_2 : Kd.C k29 w A0_2 l0_2.length l0_2) (hc0_2 : l0_2.length ≤ c0_2) (h : formula_copied.f k a0_0 a0_1 l0_2 = some (r1, r2, r3)),
  Calls Try.prog 85 #[.agg #[.int .i64 a0_0, .int .i64 a0_1, .slice A0_2 l0_2.length c0_2]] w fun e w' => ∃ v2_ : Value, e = .returned (.agg #[.int .i64 r1, .int .i64 r2, v2_]) ∧ Kd.R k29 29 w' w.heap.size (fun _ => True) v2_ r3 ∧ Below w.heap.size w w' := by
 induction k using Nat.strongRecOn with
 | _ k ih =>
 intro a0_0 a0_1 A0_2 c0_2 l0_2 r1 r2 r3 w hr0_2 hc0_2 h
 cases k with
 | zero => exact absurd h (by simp [formula_copied.f])
 | succ k =>
 simp only [formula_copied.f] at h
 have hu29 := Try.underlying29
 have HR0_2 := Zd.mk hr0_2
 have HC0_2 := Zd.mk hc0_2
 clear hr0_2 hc0_2
 have HB := Zd.mk (Below.refl w.heap.size w)
 have H : (formula_copied.l0 k l0_2 (l0_2.length : Int) 0 a0_0 a0_1 ([] : List (S29))) = some (r1, r2, r3) := h
 clear h
 have H' := Zd.mk H
 clear H
 go_enter Try.func85, Try.ntmps85
 go_wp2_with (first | ((with_reducible refine gate_dst (N := 1) rfl ?_); refine box_event ?hg (N := 1) ?hd (cs := #[.int .i64 a0_0, .int .i64 a0_1, .slice A0_2 l0_2.length c0_2]) (t := 29) ?hr ?_; (case hd => rfl); (case hg => rfl); (case hr => first | (go_simp; done) | (go_simp; rfl)); intro gb140 hg w2 hbox hb; have n0_ := Zd.mk (bt_ B_ hb); have n1_ := Zd.mk (hbox); have n2_ := Zd.mk ((by rw [hg]; exact (bs_ B_) : w.heap.size ≤ gb140)); have n3_ := Zd.mk ((by rw [hg]; exact (bs_ B_) : w.heap.size ≤ gb140)); clear HB; have HB := n0_; have BK140 := n1_; have GW140 := n2_; have GE140 := n3_; clear n0_ n1_ n2_ n3_; clear hb hbox hg) | ((with_reducible refine gate_dst (N := 2) rfl ?_); refine box_event ?hg (N := 2) ?hd (cs := #[.int .i64 0, .int .i64 0, .slice none 0 0]) (t := 29) ?hr ?_; (case hd => rfl); (case hg => rfl); (case hr => first | (go_simp; done) | (go_simp; rfl)); intro gb141 hg w3 hbox hb; have n0_ := Zd.mk (bb_ (g := gb140) (o := .cells #[.int .i64 a0_0, .int .i64 a0_1, .slice A0_2 l0_2.length c0_2] 29 (0, 0)) K_ hb); have n1_ := Zd.mk (bt_ B_ hb); have n2_ := Zd.mk (hbox); have n3_ := Zd.mk ((by rw [hg]; exact (bs_ B_) : w.heap.size ≤ gb141)); have n4_ := Zd.mk ((by rw [hg]; exact (bs_ B_) : w.heap.size ≤ gb141)); have n5_ := Zd.mk ((by rw [hg]; exact Nat.ne_of_lt (blk_lt (g := gb140) (o := .cells #[.int .i64 a0_0, .int .i64 a0_1, .slice A0_2 l0_2.length c0_2] 29 (0, 0)) K_) : gb140 ≠ gb141)); have n6_ := Zd.mk ((by rw [hg]; exact Nat.ne_of_gt (blk_lt (g := gb140) (o := .cells #[.int .i64 a0_0, .int .i64 a0_1, .slice A0_2 l0_2.length c0_2] 29 (0, 0)) K_) : gb141 ≠ gb140)); clear BK140; clear HB; have BK140 := n0_; have HB := n1_; have BK141 := n2_; have GW141 := n3_; have GE141 := n4_; have NB140_141 := n5_; have NB141_140 := n6_; clear n0_ n1_ n2_ n3_ n4_ n5_ n6_; clear hb hbox hg; have hnb4 := NB140_141.out; have hnc4 := NB141_140.out; have hcz5_0 : w3.cell? ⟨gb140, 0, none⟩ = some (.int .i64 a0_0) := (bq_ BK140.out 0).trans rfl; have hcz5_1 : w3.cell? ⟨gb140, 1, none⟩ = some (.int .i64 a0_1) := (bq_ BK140.out 1).trans rfl; have hcz5_2 : w3.cell? ⟨gb140, 2, none⟩ = some (.slice A0_2 l0_2.length c0_2) := (bq_ BK140.out 2).trans rfl; have hfz5_0 := bz_ BK140.out 0; have hfz5_1 := bz_ BK140.out 1; have hfz5_2 := bz_ BK140.out 2) | ((with_reducible refine gate_dst (N := 3) rfl ?_); refine box_event ?hg (N := 3) ?hd (cs := #[.int .i64 0, .int .i64 0, .slice none 0 0]) (t := 29) ?hr ?_; (case hd => rfl); (case hg => rfl); (case hr => first | (go_simp; done) | (go_simp; rfl)); intro gb142 hg w6 hbox hb; have n0_ := Zd.mk (bb_ (g := gb140) (o := .cells #[.int .i64 a0_0, .int .i64 a0_1, .slice A0_2 l0_2.length c0_2] 29 (0, 0)) K_ hb); have n1_ := Zd.mk (bb_ (g := gb141) (o := .cells #[.int .i64 0, .int .i64 0, .slice none 0 0] 29 (0, 0)) K_ hb); have n2_ := Zd.mk (bt_ B_ hb); have n3_ := Zd.mk (hbox); have n4_ := Zd.mk ((by rw [hg]; exact (bs_ B_) : w.heap.size ≤ gb142)); have n5_ := Zd.mk ((by rw [hg]; exact (bs_ B_) : w.heap.size ≤ gb142)); have n6_ := Zd.mk ((by rw [hg]; exact Nat.ne_of_lt (blk_lt (g := gb140) (o := .cells #[.int .i64 a0_0, .int .i64 a0_1, .slice A0_2 l0_2.length c0_2] 29 (0, 0)) K_) : gb140 ≠ gb142)); have n7_ := Zd.mk ((by rw [hg]; exact Nat.ne_of_gt (blk_lt (g := gb140) (o := .cells #[.int .i64 a0_0, .int .i64 a0_1, .slice A0_2 l0_2.length c0_2] 29 (0, 0)) K_) : gb142 ≠ gb140)); have n8_ := Zd.mk ((by rw [hg]; exact Nat.ne_of_lt (blk_lt (g := gb141) (o := .cells #[.int .i64 0, .int .i64 0, .slice none 0 0] 29 (0, 0)) K_) : gb141 ≠ gb142)); have n9_ := Zd.mk ((by rw [hg]; exact Nat.ne_of_gt (blk_lt (g := gb141) (o := .cells #[.int .i64 0, .int .i64 0, .slice none 0 0] 29 (0, 0)) K_) : gb142 ≠ gb141)); clear BK140; clear BK141; clear HB; have BK140 := n0_; have BK141 := n1_; have HB := n2_; have BK142 := n3_; have GW142 := n4_; have GE142 := n5_; have NB140_142 := n6_; have NB142_140 := n7_; have NB141_142 := n8_; have NB142_141 := n9_; clear n0_ n1_ n2_ n3_ n4_ n5_ n6_ n7_ n8_ n9_; clear hb hbox hg; have hnb7 := NB142_140.out; have hnc7 := NB140_142.out; have hnb8 := NB142_141.out; have hnc8 := NB141_142.out; have hcz9_0 : w6.cell? ⟨gb142, 0, none⟩ = some (.int .i64 0) := (bq_ BK142.out 0).trans rfl; have hcz9_1 : w6.cell? ⟨gb142, 1, none⟩ = some (.int .i64 0) := (bq_ BK142.out 1).trans rfl; have hcz9_2 : w6.cell? ⟨gb142, 2, none⟩ = some (.slice none 0 0) := (bq_ BK142.out 2).trans rfl; have hfz9_0 := bz_ BK142.out 0; have hfz9_1 := bz_ BK142.out 1; have hfz9_2 := bz_ BK142.out 2; have hcz10_0 : w6.cell? ⟨gb140, 0, none⟩ = some (.int .i64 a0_0) := (bq_ BK140.out 0).trans rfl; have hcz10_1 : w6.cell? ⟨gb140, 1, none⟩ = some (.int .i64 a0_1) := (bq_ BK140.out 1).trans rfl; have hcz10_2 : w6.cell? ⟨gb140, 2, none⟩ = some (.slice A0_2 l0_2.length c0_2) := (bq_ BK140.out 2).trans rfl; have hfz10_0 := bz_ BK140.out 0; have hfz10_1 := bz_ BK140.out 1; have hfz10_2 := bz_ BK140.out 2))
 go_loopg [14] k (fun kq v14 w' => ∃ (x14_1 : Int) (x143002_1 : List (S29)) (u143002 : Value), v14 = .int .i64 x14_1 ∧ Zd (formula_copied.l0 kq l0_2 (l0_2.length : Int) x14_1 a0_0 a0_1 x143002_1 = some (r1, r2, r3)) ∧ Zd (kq ≤ k) ∧ Zd (Kd.R k29 29 w' w.heap.size (fun k_ => k_ ≠ gb140 ∧ k_ ≠ gb141 ∧ k_ ≠ gb142) u143002 x143002_1) ∧ Zd (w'.heap[gb140]? = some (.cells #[.int .i64 a0_0, .int .i64 a0_1, (.slice A0_2 l0_2.length c0_2)] 29 (0, 0))) ∧ Zd (w'.heap[gb141]? = some (.cells #[.int .i64 0, .int .i64 0, (.slice none 0 0)] 29 (0, 0))) ∧ Zd (w'.heap[gb142]? = some (.cells #[.int .i64 a0_0, .int .i64 a0_1, u143002] 29 (0, 0))) ∧ Zd (Below w.heap.size w w'))
 case atStart => exact ⟨(0), (([] : List (S29))), (.slice none 0 0), (by first | rfl | (simp; done) | (simp [*]; done)), H', ⟨Nat.le_refl _⟩, ⟨by first | exact Kd.R_nil _ _ _ _ _ | exact Kd.N_nil _ _ _ _ _ | exact Kd.V_nil _ _ _ _ _ | exact Kd.Q_nil _ _ _ _ _ | exact Kd.S_nil _ _ _ _ _⟩, ⟨by (with_reducible repeat (first | refine bd_ ?_ _ | refine blk_drew ?_ | refine ba_ ?_ _)); refine blk_far ?_ NB140_142.out _; (with_reducible repeat (first | refine bd_ ?_ _ | refine blk_drew ?_ | refine ba_ ?_ _)); refine blk_far ?_ NB140_142.out _; (with_reducible repeat (first | refine bd_ ?_ _ | refine blk_drew ?_ | refine ba_ ?_ _)); refine blk_far ?_ NB140_142.out _; (with_reducible repeat (first | refine bd_ ?_ _ | refine blk_drew ?_ | refine ba_ ?_ _)); exact BK140.out⟩, ⟨by (with_reducible repeat (first | refine bd_ ?_ _ | refine blk_drew ?_ | refine ba_ ?_ _)); refine blk_far ?_ NB141_142.out _; (with_reducible repeat (first | refine bd_ ?_ _ | refine blk_drew ?_ | refine ba_ ?_ _)); refine blk_far ?_ NB141_142.out _; (with_reducible repeat (first | refine bd_ ?_ _ | refine blk_drew ?_ | refine ba_ ?_ _)); refine blk_far ?_ NB141_142.out _; (with_reducible repeat (first | refine bd_ ?_ _ | refine blk_drew ?_ | refine ba_ ?_ _)); exact BK141.out⟩, ⟨by (with_reducible repeat (first | refine bd_ ?_ _ | refine blk_drew ?_ | refine ba_ ?_ _)); refine blk_put (cs := #[.int .i64 a0_0, .int .i64 a0_1, .slice none 0 0]) ?_ 2 _ rfl; (with_reducible repeat (first | refine bd_ ?_ _ | refine blk_drew ?_ | refine ba_ ?_ _)); refine blk_put (cs := #[.int .i64 a0_0, .int .i64 0, .slice none 0 0]) ?_ 1 _ rfl; (with_reducible repeat (first | refine bd_ ?_ _ | refine blk_drew ?_ | refine ba_ ?_ _)); refine blk_put (cs := #[.int .i64 0, .int .i64 0, .slice none 0 0]) ?_ 0 _ rfl; (with_reducible repeat (first | refine bd_ ?_ _ | refine blk_drew ?_ | refine ba_ ?_ _)); exact BK142.out⟩, ⟨B_⟩⟩
 case round =>
  clear H'
  try clear p2
  try clear c4
  try clear c7
  try clear c8
  try clear hcz10_0
  try clear hcz10_1
  try clear hcz10_2
  try clear hcz5_0
  try clear hcz5_1
  try clear hcz5_2
  try clear hcz9_0
  try clear hcz9_1
  try clear hcz9_2
  try clear hfz10_0
  try clear hfz10_1
  try clear hfz10_2
  try clear hfz5_0
  try clear hfz5_1
  try clear hfz5_2
  try clear hfz9_0
  try clear hfz9_1
  try clear hfz9_2
  obtain ⟨x14_1, x143002_1, u143002, rfl, HA, HK1, HO_143002, BK140, BK141, BK142, HB⟩ := hrel
  cases gk with
  | zero => exact absurd HA.out (by simp [formula_copied.l0])
  | succ k1 =>
   have H := HA.out
   clear HA
   simp only [formula_copied.l0] at H
   by_cases c11 : x14_1 < (l0_2.length : Int)
   ·rw [if_pos c11] at H
    have c11b0 : decide (x14_1 < (l0_2.length : Int)) = true := decide_eq_true c11
    clear c11
    by_cases c12 : 0 ≤ x14_1
    ·rw [if_pos c12] at H
     have c12b0 : decide (0 ≤ x14_1) = true := decide_eq_true c12
     clear c12
     by_cases c13 : x14_1 < (l0_2.length : Int)
     ·rw [if_pos c13] at H
      have c13b0 : decide (x14_1 < (l0_2.length : Int)) = true := decide_eq_true c13
      clear c13
      replace H := Option.bind_eq_some_iff.mp H
      obtain ⟨⟨t145, t146, t147⟩, A140, H⟩ := H
      replace H : (if x143002_1.length < 3518437208883 then (formula_copied.l0 k1 l0_2 (l0_2.length : Int) (wrap64 (x14_1 + 1)) a0_0 a0_1 (x143002_1 ++ [(⟨t145, t146, t147⟩ : S29)])) else (none)) = some (r1, r2, r3) := H
      have A14 := Zd.mk A140
      clear A140
      by_cases c15 : x143002_1.length < 3518437208883
      ·rw [if_pos c15] at H
       have LMc15 := Zd.mk c15
       clear c15
       obtain ⟨y150, hy150⟩ : ∃ y_ : List (S29), y_ = (x143002_1 ++ [(⟨t145, t146, t147⟩ : S29)]) := ⟨_, rfl⟩
       replace H : (formula_copied.l0 k1 l0_2 (l0_2.length : Int) (wrap64 (x14_1 + 1)) a0_0 a0_1 y150) = some (r1, r2, r3) := by first | (rw [hy150]; with_reducible exact H) | (have H2_ := (Option.bind_some _ _).symm.trans H; rw [hy150]; with_reducible exact H2_) | (have H2_ := (Option.bind_some _ _).symm.trans H; with_reducible exact H2_) | with_reducible exact H | (rw [hy150]; exact H) | exact H
       have Ny150 := Zd.mk hy150
       clear hy150
       have H' := Zd.mk H
       clear H
       have p143 : 0 ≤ (x14_1 : Int) := of_decide_eq_true (by first | (with_reducible assumption) | assumption)
       have q143 : x14_1 < (l0_2.length : Int) := of_decide_eq_true (by first | (with_reducible assumption) | assumption)
       obtain ⟨ad143, A143_2, c143_2, e143, hx143_0, hx143_1, hx143_2, hl143_2, hi143_2⟩ := at_T29 HR0_2.out x14_1 p143 q143
       cases e143
       replace hx143_0 := (HB.out.cell (World.block_lt_of_cell? w _ hx143_0)).trans hx143_0
       replace hx143_1 := (HB.out.cell (World.block_lt_of_cell? w _ hx143_1)).trans hx143_1
       replace hx143_2 := (HB.out.cell (World.block_lt_of_cell? w _ hx143_2)).trans hx143_2
       have HR143_2 := Zd.mk hi143_2
       have HC143_2 := Zd.mk hl143_2
       clear hi143_2 hl143_2
       replace p143 := eq_true p143
       replace q143 := eq_true q143
       try go_wp2_with (first | ((with_reducible refine gate_dst (N := 5) rfl ?_); refine box_event ?hg (N := 5) ?hd (cs := #[.int .i64 0, .int .i64 0, .slice none 0 0]) (t := 29) ?hr ?_; (case hd => rfl); (case hg => rfl); (case hr => first | (go_simp; done) | (go_simp; rfl)); intro gb144 hg w16 hbox hb; have n0_ := Zd.mk (Kd.R_below (Kd.R_elderB (by (with_reducible repeat (first | apply Kd.R_alloc | apply Kd.R_drewN | apply Kd.R_drew)); exact HO_143002.out) gb144 (Nat.le_of_eq hg.symm)) hb); have n1_ := Zd.mk (bb_ (g := gb140) (o := .cells #[.int .i64 a0_0, .int .i64 a0_1, .slice (some ad143) l0_2.length c0_2] 29 (0, 0)) K_ hb); have n2_ := Zd.mk (bb_ (g := gb141) (o := .cells #[.int .i64 0, .int .i64 0, .slice none 0 0] 29 (0, 0)) K_ hb); have n3_ := Zd.mk (bb_ (g := gb142) (o := .cells #[.int .i64 a0_0, .int .i64 a0_1, u143002] 29 (0, 0)) K_ hb); have n4_ := Zd.mk (bt_ B_ hb); have n5_ := Zd.mk (hbox); have n6_ := Zd.mk ((by rw [hg]; exact (bs_ B_) : w.heap.size ≤ gb144)); have n7_ := Zd.mk ((by rw [hg]; exact (bs_ B_) : w.heap.size ≤ gb144)); have n8_ := Zd.mk ((by rw [hg]; exact Nat.ne_of_lt (blk_lt (g := gb140) (o := .cells #[.int .i64 a0_0, .int .i64 a0_1, .slice (some ad143) l0_2.length c0_2] 29 (0, 0)) K_) : gb140 ≠ gb144)); have n9_ := Zd.mk ((by rw [hg]; exact Nat.ne_of_gt (blk_lt (g := gb140) (o := .cells #[.int .i64 a0_0, .int .i64 a0_1, .slice (some ad143) l0_2.length c0_2] 29 (0, 0)) K_) : gb144 ≠ gb140)); have n10_ := Zd.mk ((by rw [hg]; exact Nat.ne_of_lt (blk_lt (g := gb141) (o := .cells #[.int .i64 0, .int .i64 0, .slice none 0 0] 29 (0, 0)) K_) : gb141 ≠ gb144)); have n11_ := Zd.mk ((by rw [hg]; exact Nat.ne_of_gt (blk_lt (g := gb141) (o := .cells #[.int .i64 0, .int .i64 0, .slice none 0 0] 29 (0, 0)) K_) : gb144 ≠ gb141)); have n12_ := Zd.mk ((by rw [hg]; exact Nat.ne_of_lt (blk_lt (g := gb142) (o := .cells #[.int .i64 a0_0, .int .i64 a0_1, u143002] 29 (0, 0)) K_) : gb142 ≠ gb144)); have n13_ := Zd.mk ((by rw [hg]; exact Nat.ne_of_gt (blk_lt (g := gb142) (o := .cells #[.int .i64 a0_0, .int .i64 a0_1, u143002] 29 (0, 0)) K_) : gb144 ≠ gb142)); clear HO_143002; clear BK140; clear BK141; clear BK142; clear HB; have HO_143002 := n0_; have BK140 := n1_; have BK141 := n2_; have BK142 := n3_; have HB := n4_; have BK144 := n5_; have GW144 := n6_; have GE144 := n7_; have NB140_144 := n8_; have NB144_140 := n9_; have NB141_144 := n10_; have NB144_141 := n11_; have NB142_144 := n12_; have NB144_142 := n13_; clear n0_ n1_ n2_ n3_ n4_ n5_ n6_ n7_ n8_ n9_ n10_ n11_ n12_ n13_; clear hb hbox hg; have hnb17 := NB144_140.out; have hnc17 := NB140_144.out; have hnb18 := NB144_141.out; have hnc18 := NB141_144.out; have hnb19 := NB144_142.out; have hnc19 := NB142_144.out; have hcz20_0 : w16.cell? ⟨gb144, 0, none⟩ = some (.int .i64 0) := (bq_ BK144.out 0).trans rfl; have hcz20_1 : w16.cell? ⟨gb144, 1, none⟩ = some (.int .i64 0) := (bq_ BK144.out 1).trans rfl; have hcz20_2 : w16.cell? ⟨gb144, 2, none⟩ = some (.slice none 0 0) := (bq_ BK144.out 2).trans rfl; have hfz20_0 := bz_ BK144.out 0; have hfz20_1 := bz_ BK144.out 1; have hfz20_2 := bz_ BK144.out 2))
       have n0_ : Zd (Kd.R k29 29 (((w16.setCell ⟨gb144, 0, none⟩ (.int .i64 ((rd_T29 l0_2 x14_1).f0))).setCell ⟨gb144, 1, none⟩ (.int .i64 ((rd_T29 l0_2 x14_1).f1))).setCell ⟨gb144, 2, none⟩ (.slice A143_2 ((rd_T29 l0_2 x14_1).f2).length c143_2)) w.heap.size (fun k_ => k_ ≠ gb140 ∧ k_ ≠ gb141 ∧ k_ ≠ gb142 ∧ k_ ≠ gb144) u143002 x143002_1) := ⟨by (with_reducible repeat (first | apply Kd.R_alloc | apply Kd.R_drewN | apply Kd.R_drew)); exact Kd.R_mono (Kd.R_far (p := ⟨gb144, 2, none⟩) (Kd.R_far (p := ⟨gb144, 1, none⟩) (Kd.R_far (p := ⟨gb144, 0, none⟩) (Kd.R_mono HO_143002.out (fun k_ hk => (⟨hk, hk.2⟩ : _ ∧ k_ ≠ gb144))) (fun _ hk => hk.2) (.int .i64 ((rd_T29 l0_2 x14_1).f0))) (fun _ hk => hk.2) (.int .i64 ((rd_T29 l0_2 x14_1).f1))) (fun _ hk => hk.2) (.slice A143_2 ((rd_T29 l0_2 x14_1).f2).length c143_2)) (fun _ hk => ⟨hk.1.1.1, ⟨hk.1.1.2.1, ⟨hk.1.1.2.2, hk.1.2⟩⟩⟩)⟩
       have n1_ : Zd ((((w16.setCell ⟨gb144, 0, none⟩ (.int .i64 ((rd_T29 l0_2 x14_1).f0))).setCell ⟨gb144, 1, none⟩ (.int .i64 ((rd_T29 l0_2 x14_1).f1))).setCell ⟨gb144, 2, none⟩ (.slice A143_2 ((rd_T29 l0_2 x14_1).f2).length c143_2)).heap[gb140]? = some (.cells #[.int .i64 a0_0, .int .i64 a0_1, .slice (some ad143) l0_2.length c0_2] 29 (0, 0))) := ⟨by (with_reducible repeat (first | refine bd_ ?_ _ | refine blk_drew ?_ | refine ba_ ?_ _)); refine blk_far ?_ NB140_144.out _; (with_reducible repeat (first | refine bd_ ?_ _ | refine blk_drew ?_ | refine ba_ ?_ _)); refine blk_far ?_ NB140_144.out _; (with_reducible repeat (first | refine bd_ ?_ _ | refine blk_drew ?_ | refine ba_ ?_ _)); refine blk_far ?_ NB140_144.out _; (with_reducible repeat (first | refine bd_ ?_ _ | refine blk_drew ?_ | refine ba_ ?_ _)); exact BK140.out⟩
       have n2_ : Zd ((((w16.setCell ⟨gb144, 0, none⟩ (.int .i64 ((rd_T29 l0_2 x14_1).f0))).setCell ⟨gb144, 1, none⟩ (.int .i64 ((rd_T29 l0_2 x14_1).f1))).setCell ⟨gb144, 2, none⟩ (.slice A143_2 ((rd_T29 l0_2 x14_1).f2).length c143_2)).heap[gb141]? = some (.cells #[.int .i64 0, .int .i64 0, .slice none 0 0] 29 (0, 0))) := ⟨by (with_reducible repeat (first | refine bd_ ?_ _ | refine blk_drew ?_ | refine ba_ ?_ _)); refine blk_far ?_ NB141_144.out _; (with_reducible repeat (first | refine bd_ ?_ _ | refine blk_drew ?_ | refine ba_ ?_ _)); refine blk_far ?_ NB141_144.out _; (with_reducible repeat (first | refine bd_ ?_ _ | refine blk_drew ?_ | refine ba_ ?_ _)); refine blk_far ?_ NB141_144.out _; (with_reducible repeat (first | refine bd_ ?_ _ | refine blk_drew ?_ | refine ba_ ?_ _)); exact BK141.out⟩
       have n3_ : Zd ((((w16.setCell ⟨gb144, 0, none⟩ (.int .i64 ((rd_T29 l0_2 x14_1).f0))).setCell ⟨gb144, 1, none⟩ (.int .i64 ((rd_T29 l0_2 x14_1).f1))).setCell ⟨gb144, 2, none⟩ (.slice A143_2 ((rd_T29 l0_2 x14_1).f2).length c143_2)).heap[gb142]? = some (.cells #[.int .i64 a0_0, .int .i64 a0_1, u143002] 29 (0, 0))) := ⟨by (with_reducible repeat (first | refine bd_ ?_ _ | refine blk_drew ?_ | refine ba_ ?_ _)); refine blk_far ?_ NB142_144.out _; (with_reducible repeat (first | refine bd_ ?_ _ | refine blk_drew ?_ | refine ba_ ?_ _)); refine blk_far ?_ NB142_144.out _; (with_reducible repeat (first | refine bd_ ?_ _ | refine blk_drew ?_ | refine ba_ ?_ _)); refine blk_far ?_ NB142_144.out _; (with_reducible repeat (first | refine bd_ ?_ _ | refine blk_drew ?_ | refine ba_ ?_ _)); exact BK142.out⟩
       have n4_ : Zd ((((w16.setCell ⟨gb144, 0, none⟩ (.int .i64 ((rd_T29 l0_2 x14_1).f0))).setCell ⟨gb144, 1, none⟩ (.int .i64 ((rd_T29 l0_2 x14_1).f1))).setCell ⟨gb144, 2, none⟩ (.slice A143_2 ((rd_T29 l0_2 x14_1).f2).length c143_2)).heap[gb144]? = some (.cells #[.int .i64 ((rd_T29 l0_2 x14_1).f0), .int .i64 ((rd_T29 l0_2 x14_1).f1), .slice A143_2 ((rd_T29 l0_2 x14_1).f2).length c143_2] 29 (0, 0))) := ⟨by (with_reducible repeat (first | refine bd_ ?_ _ | refine blk_drew ?_ | refine ba_ ?_ _)); refine blk_put (cs := #[.int .i64 ((rd_T29 l0_2 x14_1).f0), .int .i64 ((rd_T29 l0_2 x14_1).f1), .slice none 0 0]) ?_ 2 _ rfl; (with_reducible repeat (first | refine bd_ ?_ _ | refine blk_drew ?_ | refine ba_ ?_ _)); refine blk_put (cs := #[.int .i64 ((rd_T29 l0_2 x14_1).f0), .int .i64 0, .slice none 0 0]) ?_ 1 _ rfl; (with_reducible repeat (first | refine bd_ ?_ _ | refine blk_drew ?_ | refine ba_ ?_ _)); refine blk_put (cs := #[.int .i64 0, .int .i64 0, .slice none 0 0]) ?_ 0 _ rfl; (with_reducible repeat (first | refine bd_ ?_ _ | refine blk_drew ?_ | refine ba_ ?_ _)); exact BK144.out⟩
       have n5_ : Zd (Below w.heap.size w (((w16.setCell ⟨gb144, 0, none⟩ (.int .i64 ((rd_T29 l0_2 x14_1).f0))).setCell ⟨gb144, 1, none⟩ (.int .i64 ((rd_T29 l0_2 x14_1).f1))).setCell ⟨gb144, 2, none⟩ (.slice A143_2 ((rd_T29 l0_2 x14_1).f2).length c143_2))) := ⟨B_⟩
       (try clear HO_143002)
       (try clear BK140)
       (try clear BK141)
       (try clear BK142)
       (try clear BK144)
       (try clear HB)
       generalize (((w16.setCell ⟨gb144, 0, none⟩ (.int .i64 ((rd_T29 l0_2 x14_1).f0))).setCell ⟨gb144, 1, none⟩ (.int .i64 ((rd_T29 l0_2 x14_1).f1))).setCell ⟨gb144, 2, none⟩ (.slice A143_2 ((rd_T29 l0_2 x14_1).f2).length c143_2)) = w21 at n0_ n1_ n2_ n3_ n4_ n5_ ⊢
       have HO_143002 := n0_
       have BK140 := n1_
       have BK141 := n2_
       have BK142 := n3_
       have BK144 := n4_
       have HB := n5_
       clear n0_ n1_ n2_ n3_ n4_ n5_
       have n0_ := Zd.mk (Kd.R_drew HO_143002.out)
       have n1_ := Zd.mk (blk_drew BK140.out)
       have n2_ := Zd.mk (blk_drew BK141.out)
       have n3_ := Zd.mk (blk_drew BK142.out)
       have n4_ := Zd.mk (blk_drew BK144.out)
       have n5_ := Zd.mk (below_drew1 HB.out)
       clear HO_143002
       clear BK140
       clear BK141
       clear BK142
       clear BK144
       clear HB
       have HO_143002 := n0_
       have BK140 := n1_
       have BK141 := n2_
       have BK142 := n3_
       have BK144 := n4_
       have HB := n5_
       clear n0_ n1_ n2_ n3_ n4_ n5_
       refine start_ (n := 8) (S := fun w' => w'.cell? ⟨gb142, 0, none⟩ = some (.int .i64 a0_0) ∧ w'.cell? ⟨gb142, 1, none⟩ = some (.int .i64 a0_1) ∧ w'.cell? ⟨gb142, 2, none⟩ = some (u143002) ∧ w'.cell? ⟨gb144, 0, none⟩ = some (.int .i64 ((rd_T29 l0_2 x14_1).f0)) ∧ w'.cell? ⟨gb144, 1, none⟩ = some (.int .i64 ((rd_T29 l0_2 x14_1).f1)) ∧ w'.cell? ⟨gb144, 2, none⟩ = some (.slice A143_2 ((rd_T29 l0_2 x14_1).f2).length c143_2)) (ds := [7]) Mk0_ (by kernel_rfl) rfl rfl ⟨(bq_ BK142.out 0).trans rfl, (bq_ BK142.out 1).trans rfl, (bq_ BK142.out 2).trans rfl, (bq_ BK144.out 0).trans rfl, (bq_ BK144.out 1).trans rfl, (bq_ BK144.out 2).trans rfl⟩ (fun hHeld => ?_); refine with_tabW formula_copied.tab5 formula_copied.bits5 (fun HT_ HW_ => ?_)
       generalize w21.drew = w22 at HO_143002 BK140 BK141 BK142 BK144 HB hHeld ⊢
       refine pz HT_.out 0 (some 18) Mk1_ rfl rfl ?_
       refine tz HT_.out HW_.out 1 (some 19) Mk2_ rfl rfl hHeld ?_
       refine tz HT_.out HW_.out 2 (some 20) Mk3_ rfl rfl hHeld ?_
       refine one_ (i := 3) (N := some 21) Mk4_ rfl rfl (one_of HT_.out (by kernel_rfl)) (by decide) (fun K hK => ?_)
       refine goes_ Try.func85 (by kernel_rfl) rfl #[.agg #[.int .i64 ((rd_T29 l0_2 x14_1).f0), .int .i64 ((rd_T29 l0_2 x14_1).f1), .slice A143_2 ((rd_T29 l0_2 x14_1).f2).length c143_2]] (by rfl) rfl rfl (by (try simp only [List.map_toArray, List.map_cons, List.map_nil]); first | done | rfl | (simp only [List.length_drop, List.length_take]; rfl)) ?_
       with_reducible refine (ih k1 (by have := HK1.out; omega) ((rd_T29 l0_2 x14_1).f0) ((rd_T29 l0_2 x14_1).f1) _ _ ((rd_T29 l0_2 x14_1).f2) t145 t146 t147 _ ?side1 ?side2 A14.out).mono ?_
       (case side1 => exact Kd.C_below HR143_2.out B_)
       (case side2 => exact HC143_2.out)
       rintro e w23 ⟨v148, rfl, ho0, hb⟩
       refine ⟨_, rfl, ?_⟩
       have n0_ := Zd.mk (Kd.R_elder' (by (with_reducible repeat (first | apply Kd.R_alloc | apply Kd.R_drewN | apply Kd.R_drew)); exact HO_143002.out) (Kd.R_base ho0) hb)
       have n1_ := Zd.mk (Kd.R_lower (Kd.R_newB (Kd.R_newB (Kd.R_newB (Kd.R_newB (Kd.R_new' ho0 (Kd.R_lt (by (with_reducible repeat (first | apply Kd.R_alloc | apply Kd.R_drewN | apply Kd.R_drew)); exact HO_143002.out))) (g := gb140) (o := .cells #[.int .i64 a0_0, .int .i64 a0_1, .slice (some ad143) l0_2.length c0_2] 29 (0, 0)) K_) (g := gb141) (o := .cells #[.int .i64 0, .int .i64 0, .slice none 0 0] 29 (0, 0)) K_) (g := gb142) (o := .cells #[.int .i64 a0_0, .int .i64 a0_1, u143002] 29 (0, 0)) K_) (g := gb144) (o := .cells #[.int .i64 ((rd_T29 l0_2 x14_1).f0), .int .i64 ((rd_T29 l0_2 x14_1).f1), .slice A143_2 ((rd_T29 l0_2 x14_1).f2).length c143_2] 29 (0, 0)) K_) (bs_ B_))
       have n2_ := Zd.mk (bb_ (g := gb140) (o := .cells #[.int .i64 a0_0, .int .i64 a0_1, .slice (some ad143) l0_2.length c0_2] 29 (0, 0)) K_ hb)
       have n3_ := Zd.mk (bb_ (g := gb141) (o := .cells #[.int .i64 0, .int .i64 0, .slice none 0 0] 29 (0, 0)) K_ hb)
       have n4_ := Zd.mk (bb_ (g := gb142) (o := .cells #[.int .i64 a0_0, .int .i64 a0_1, u143002] 29 (0, 0)) K_ hb)
       have n5_ := Zd.mk (bb_ (g := gb144) (o := .cells #[.int .i64 ((rd_T29 l0_2 x14_1).f0), .int .i64 ((rd_T29 l0_2 x14_1).f1), .slice A143_2 ((rd_T29 l0_2 x14_1).f2).length c143_2] 29 (0, 0)) K_ hb)
       have n6_ := Zd.mk (bt_ B_ hb)
       clear HO_143002
       clear BK140
       clear BK141
       clear BK142
       clear BK144
       clear HB
       have HO_143002 := n0_
       have HO149 := n1_
       have BK140 := n2_
       have BK141 := n3_
       have BK142 := n4_
       have BK144 := n5_
       have HB := n6_
       clear n0_ n1_ n2_ n3_ n4_ n5_ n6_
       (try clear hb)
       (try clear hb2)
       (try clear hk)
       (try clear hi)
       (try clear ho0)
       obtain ⟨Ao25, co25, eo25⟩ := Kd.R_slice HO149.out
       (first | subst eo25 | (injection eo25 with f1_ f2_ f3_; have f4_ := f1_.symm; have f5_ := f3_.symm; clear f1_ f2_ f3_; subst f4_; subst f5_))
       refine hK.out _ _ ⟨(bq_ BK142.out 0).trans rfl, (bq_ BK142.out 1).trans rfl, (bq_ BK142.out 2).trans rfl, (bq_ BK144.out 0).trans rfl, (bq_ BK144.out 1).trans rfl, (bq_ BK144.out 2).trans rfl⟩ (fun hHeld => ?_)
       clear hK K
       refine norm_ (a' := ?_) ?_ ?_
       rotate_left
       ·show Act.put _ (some 21) _ = _
        simp only [Act.put, List.setIfInBounds_toArray, List.set_cons_zero, List.set_cons_succ, i64_w, i32_w]
        rfl
       refine one_ (i := 4) (N := some 22) Mk5_ rfl rfl (one_of HT_.out (by kernel_rfl)) (by decide) (fun K hK => ?_)
       refine value_ (w1 := ?_) (v := ?_) (by rfl) rfl ?_ ?_
       rotate_left 2
       ·go_simp
        constructor
        ·rfl
        ·rfl
       refine hK.out _ _ ⟨(bq_ (ba_ BK142.out _) 0).trans rfl, (bq_ (ba_ BK142.out _) 1).trans rfl, (bq_ (ba_ BK142.out _) 2).trans rfl, (bq_ (ba_ BK144.out _) 0).trans rfl, (bq_ (ba_ BK144.out _) 1).trans rfl, (bq_ (ba_ BK144.out _) 2).trans rfl⟩ (fun hHeld => ?_)
       clear hK K
       refine norm_ (a' := ?_) ?_ ?_
       rotate_left
       ·show Act.put _ (some 22) _ = _
        simp only [Act.put, List.setIfInBounds_toArray, List.set_cons_zero, List.set_cons_succ, i64_w, i32_w]
        rfl
       refine one_ (i := 5) (N := some 23) Mk6_ rfl rfl (one_of HT_.out (by kernel_rfl)) (by decide) (fun K hK => ?_)
       refine Kd.R_append_step k29 (w0 := w) w.heap.size (by rfl) (.tmp 19) (.tmp 22) 27 29 (.agg #[(.int .i64 0), (.int .i64 0), (.slice none 0 0)]) 40 rfl Try.underlying27 info29 rfl (by decide) (by omega) u143002 x143002_1 (⟨t145, t146, t147⟩ : S29) [.int .i64 t145, .int .i64 t146, .slice Ao25 t147.length co25] (fun k_ => k_ ≠ gb140 ∧ k_ ≠ gb141 ∧ k_ ≠ gb142 ∧ k_ ≠ gb144) (fun k_ => ((fun k_ => k_ ≠ gb140 ∧ k_ ≠ gb141 ∧ k_ ≠ gb142 ∧ k_ ≠ gb144)) k_ ∧ some k_ ≠ (u143002 : Value).ownBlock) rfl rfl ?aP (fun _ hk => hk) ?aF ?aO ?aB ?aS ?aL ?_
       (case aP => exact k29_mkM _ _ _ (⟨t145, t146, t147⟩ : S29) (Kd.R_mono (HO149.out) (fun k_ hk => ⟨⟨hk.1.1.1.2, ⟨hk.1.1.2, ⟨hk.1.2, hk.2⟩⟩⟩, hk.1.1.1.1.2⟩)))
       (case aB => exact B_)
       (case aF => exact (fun k_ hk => ⟨Kd.freshB (g := gb140) (o := .cells #[.int .i64 a0_0, .int .i64 a0_1, .slice (some ad143) l0_2.length c0_2] 29 (0, 0)) K_ k_ hk, Kd.freshB (g := gb141) (o := .cells #[.int .i64 0, .int .i64 0, .slice none 0 0] 29 (0, 0)) K_ k_ hk, Kd.freshB (g := gb142) (o := .cells #[.int .i64 a0_0, .int .i64 a0_1, u143002] 29 (0, 0)) K_ k_ hk, Kd.freshB (g := gb144) (o := .cells #[.int .i64 ((rd_T29 l0_2 x14_1).f0), .int .i64 ((rd_T29 l0_2 x14_1).f1), .slice A143_2 ((rd_T29 l0_2 x14_1).f2).length c143_2] 29 (0, 0)) K_ k_ hk⟩))
       (case aO => exact (by (with_reducible repeat (first | apply Kd.R_alloc | apply Kd.R_drewN | apply Kd.R_drew)); exact Kd.R_mono HO_143002.out (fun _ hk => ⟨hk.1.1, ⟨hk.1.2.1, ⟨hk.1.2.2.1, hk.1.2.2.2⟩⟩⟩)))
       (case aS => exact (bs_ B_))
       (case aL => have := LMc15.out; omega)
       intro v151 w24 ho hb hg hat
       rw [← Ny150.out] at ho
       have n0_ := Zd.mk (bg_ (g := gb140) (o := .cells #[.int .i64 a0_0, .int .i64 a0_1, .slice (some ad143) l0_2.length c0_2] 29 (0, 0)) K_ hg (Kd.R_away HO_143002.out (fun _ hk => hk.1.1)))
       have n1_ := Zd.mk (bg_ (g := gb141) (o := .cells #[.int .i64 0, .int .i64 0, .slice none 0 0] 29 (0, 0)) K_ hg (Kd.R_away HO_143002.out (fun _ hk => hk.1.2.1)))
       have n2_ := Zd.mk (bg_ (g := gb142) (o := .cells #[.int .i64 a0_0, .int .i64 a0_1, u143002] 29 (0, 0)) K_ hg (Kd.R_away HO_143002.out (fun _ hk => hk.1.2.2.1)))
       have n3_ := Zd.mk (bg_ (g := gb144) (o := .cells #[.int .i64 ((rd_T29 l0_2 x14_1).f0), .int .i64 ((rd_T29 l0_2 x14_1).f1), .slice A143_2 ((rd_T29 l0_2 x14_1).f2).length c143_2] 29 (0, 0)) K_ hg (Kd.R_away HO_143002.out (fun _ hk => hk.1.2.2.2)))
       have n4_ := Zd.mk (hb)
       have n5_ := Zd.mk (ho)
       clear BK140
       clear BK141
       clear BK142
       clear BK144
       clear HB
       clear HO_143002
       clear HO149
       have BK140 := n0_
       have BK141 := n1_
       have BK142 := n2_
       have BK144 := n3_
       have HB := n4_
       have HO152 := n5_
       clear n0_ n1_ n2_ n3_ n4_ n5_
       clear ho hb hg hat
       obtain ⟨Ao26, co26, eo26⟩ := Kd.R_slice HO152.out
       (first | subst eo26 | (injection eo26 with f1_ f2_ f3_; have f4_ := f1_.symm; have f5_ := f3_.symm; clear f1_ f2_ f3_; subst f4_; subst f5_))
       refine hK.out _ _ ⟨(bq_ BK142.out 0).trans rfl, (bq_ BK142.out 1).trans rfl, (bq_ BK142.out 2).trans rfl, (bq_ BK144.out 0).trans rfl, (bq_ BK144.out 1).trans rfl, (bq_ BK144.out 2).trans rfl⟩ (fun hHeld => ?_)
       clear hK K
       refine norm_ (a' := ?_) ?_ ?_
       rotate_left
       ·show Act.put _ (some 23) _ = _
        simp only [Act.put, List.setIfInBounds_toArray, List.set_cons_zero, List.set_cons_succ, i64_w, i32_w]
        rfl
       refine pz HT_.out 6 (some 24) Mk7_ rfl rfl ?_
       refine last_ (i := 7) (N := none) Mk8_ rfl rfl (one_of HT_.out (by kernel_rfl)) (by decide) (fun K hK => ?_)
       have hs27 : w24.cell? ⟨gb142, 2, none⟩ = some (u143002) := (bq_ BK142.out 2).trans rfl
       have hfs27 := bz_ BK142.out 2
       have hns27_0 := NB140_142.out
       have hns27_1 := NB141_142.out
       have hns27_3 := NB144_142.out
       have hms27_0 := NB142_140.out
       have hms27_1 := NB142_141.out
       have hms27_3 := NB142_144.out
       refine skip_ (w1 := ?_) (by rfl) rfl ?_ ?_
       rotate_left
       ·go_simp
        rfl
       refine hK.out _ _ ?_
       clear hK K
       refine done_ (done_of HT_.out (by kernel_rfl)) ?_
       try go_wp2
       go_roundg k1
       case measure => have := HK1.out; omega
       case rel => exact ⟨(wrap64 (x14_1 + 1)), (y150), (.slice Ao26 y150.length co26), (by first | rfl | (simp; done) | (simp [*]; done)), H', ⟨by have := HK1.out; omega⟩, ⟨by (with_reducible repeat (first | apply Kd.R_alloc | apply Kd.R_drewN | apply Kd.R_drew)); exact Kd.R_mono (Kd.R_far (p := ⟨gb142, 2, none⟩) (Kd.R_mono HO152.out (fun k_ hk => (⟨hk, hk.2.2.1⟩ : _ ∧ k_ ≠ gb142))) (fun _ hk => hk.2) (.slice Ao26 y150.length co26)) (fun _ hk => ⟨hk.1.1, ⟨hk.1.2.1, hk.1.2.2.1⟩⟩)⟩, ⟨by (with_reducible repeat (first | refine bd_ ?_ _ | refine blk_drew ?_ | refine ba_ ?_ _)); refine blk_far ?_ NB140_142.out _; (with_reducible repeat (first | refine bd_ ?_ _ | refine blk_drew ?_ | refine ba_ ?_ _)); exact BK140.out⟩, ⟨by (with_reducible repeat (first | refine bd_ ?_ _ | refine blk_drew ?_ | refine ba_ ?_ _)); refine blk_far ?_ NB141_142.out _; (with_reducible repeat (first | refine bd_ ?_ _ | refine blk_drew ?_ | refine ba_ ?_ _)); exact BK141.out⟩, ⟨by (with_reducible repeat (first | refine bd_ ?_ _ | refine blk_drew ?_ | refine ba_ ?_ _)); refine blk_put (cs := #[.int .i64 a0_0, .int .i64 a0_1, u143002]) ?_ 2 _ rfl; (with_reducible repeat (first | refine bd_ ?_ _ | refine blk_drew ?_ | refine ba_ ?_ _)); exact BK142.out⟩, ⟨B_⟩⟩
      ·rw [if_neg c15] at H
       exact absurd H (by simp)
     ·rw [if_neg c13] at H
      exact absurd H (by simp)
    ·rw [if_neg c12] at H
     exact absurd H (by simp)
   ·rw [if_neg c11] at H
    have c11b0 : decide (x14_1 < (l0_2.length : Int)) = false := decide_eq_false c11
    clear c11
    simp only [Option.some.injEq, Prod.mk.injEq] at H
    obtain ⟨rfl, rfl, rfl⟩ := H
    have hnb28 := NB142_140.out
    have hnc28 := NB140_142.out
    have hnb29 := NB142_141.out
    have hnc29 := NB141_142.out
    have hcz30_0 : wr.cell? ⟨gb142, 0, none⟩ = some (.int .i64 a0_0) := (bq_ BK142.out 0).trans rfl
    have hcz30_1 : wr.cell? ⟨gb142, 1, none⟩ = some (.int .i64 a0_1) := (bq_ BK142.out 1).trans rfl
    have hcz30_2 : wr.cell? ⟨gb142, 2, none⟩ = some (u143002) := (bq_ BK142.out 2).trans rfl
    have hfz30_0 := bz_ BK142.out 0
    have hfz30_1 := bz_ BK142.out 1
    have hfz30_2 := bz_ BK142.out 2
    have hnb31 := NB141_140.out
    have hnc31 := NB140_141.out
    have hcz32_0 : wr.cell? ⟨gb141, 0, none⟩ = some (.int .i64 0) := (bq_ BK141.out 0).trans rfl
    have hcz32_1 : wr.cell? ⟨gb141, 1, none⟩ = some (.int .i64 0) := (bq_ BK141.out 1).trans rfl
    have hcz32_2 : wr.cell? ⟨gb141, 2, none⟩ = some (.slice none 0 0) := (bq_ BK141.out 2).trans rfl
    have hfz32_0 := bz_ BK141.out 0
    have hfz32_1 := bz_ BK141.out 1
    have hfz32_2 := bz_ BK141.out 2
    obtain ⟨Ao33, co33, eo33⟩ := Kd.R_slice HO_143002.out
    subst eo33
    go_wp2
    refine bodyPost_ret (results_cell_row rfl _ _ gb141 29 #[.int .i64 a0_0, .int .i64 a0_1, .slice Ao33 x143002_1.length co33] (0, 0) _ rfl (by (with_reducible repeat (first | refine bd_ ?_ _ | refine blk_drew ?_ | refine ba_ ?_ _)); refine blk_put (cs := #[.int .i64 a0_0, .int .i64 a0_1, .slice none 0 0]) ?_ 2 _ rfl; (with_reducible repeat (first | refine bd_ ?_ _ | refine blk_drew ?_ | refine ba_ ?_ _)); refine blk_put (cs := #[.int .i64 a0_0, .int .i64 0, .slice none 0 0]) ?_ 1 _ rfl; (with_reducible repeat (first | refine bd_ ?_ _ | refine blk_drew ?_ | refine ba_ ?_ _)); refine blk_put (cs := #[.int .i64 0, .int .i64 0, .slice none 0 0]) ?_ 0 _ rfl; (with_reducible repeat (first | refine bd_ ?_ _ | refine blk_drew ?_ | refine ba_ ?_ _)); exact BK141.out) Try.underlying29 rfl (by kernel_rfl)) rfl ?_
    exact ⟨_, by first | rfl | (simp [errW_none, errW_some] <;> rfl) | (simp [*, errW_none, errW_some] <;> rfl), by (with_reducible repeat (first | apply Kd.R_alloc | apply Kd.R_drewN | apply Kd.R_drew)); exact Kd.R_mono (Kd.R_far (p := ⟨gb141, 2, none⟩) (Kd.R_far (p := ⟨gb141, 1, none⟩) (Kd.R_far (p := ⟨gb141, 0, none⟩) (Kd.R_mono HO_143002.out (fun k_ hk => (⟨hk, hk.2.1⟩ : _ ∧ k_ ≠ gb141))) (fun _ hk => hk.2) (.int .i64 a0_0)) (fun _ hk => hk.2) (.int .i64 a0_1)) (fun _ hk => hk.2) (.slice Ao33 x143002_1.length co33)) (fun _ hk => trivial), B_⟩

attribute [local go_sem] max2_int min2_int max_two min_two max_three min_three max_four min_four

mutual
def formula_times.j0 : Nat → List (S29) → Int → Int → List (S29) → Option ((List (S29)))
 | 0, _, _, _, _ => none
 | k + 1, x3, x154000, x154001, x154002 => formula_times.l0 k x3 x154002 (x154002.length : Int) 0
def formula_times.l0 : Nat → List (S29) → List (S29) → Int → Int → Option ((List (S29)))
 | 0, _, _, _, _ => none
 | k + 1, x3, x15, x16, x17 => if x17 < x16 then (if 0 ≤ x17 then (if x17 < (x15.length : Int) then ((formula_times.f k ((rd_T29 x15 x17).f0) ((rd_T29 x15 x17).f1) ((rd_T29 x15 x17).f2)).bind fun t165 => (if x3.length + t165.length < 3518437208883 then (formula_times.l0 k (x3 ++ t165) x15 x16 (wrap64 (x17 + 1))) else (none))) else (none)) else (none)) else (some x3)
def formula_times.f : Nat → Int → Int → List (S29) → Option ((List (S29)))
 | 0, _, _, _ => none
 | k + 1, a0_0, a0_1, l0_2 => (formula_timed.f a0_0).bind fun t154 => (if t154 = true then ((formula_copied.f k a0_0 a0_1 l0_2).bind fun bt155 => (if ([] : List (S29)).length < 3518437208883 then (formula_times.j0 k (([] : List (S29)) ++ [(⟨bt155.1, bt155.2.1, bt155.2.2⟩ : S29)]) a0_0 a0_1 l0_2) else (none))) else (formula_times.j0 k ([] : List (S29)) a0_0 a0_1 l0_2))
end
theorem formula_times.calls (k : Nat) : ∀ (a0_0 : Int) (a0_1 : Int) (A0_2 : Option Addr) (c0_2 : Nat) (l0_2 : List (S29)) (r : List (S29)) (w : World) (hr0_2 : Kd.C k29 w A0_2 l0_2.length l0_2) (hc0_2 : l0_2.length ≤ c0_2) (h : formula_times.f k a0_0 a0_1 l0_2 = some r),
  Calls Try.prog 61 #[.agg #[.int .i64 a0_0, .int .i64 a0_1, .slice A0_2 l0_2.length c0_2]] w fun e w' => ∃ v0_ : Value, e = .returned (v0_) ∧ Kd.N k29 29 w' w.heap.size (fun k_ => (w.heap.size ≤ k_)) v0_ r ∧ Below w.heap.size w w' := by
 induction k using Nat.strongRecOn with
 | _ k ih =>
 intro a0_0 a0_1 A0_2 c0_2 l0_2 r w hr0_2 hc0_2 h
 cases k with
 | zero => exact absurd h (by simp [formula_times.f])
 | succ k =>
 simp only [formula_times.f] at h
 have hu29 := Try.underlying29
 have HR0_2 := Zd.mk hr0_2
 have HC0_2 := Zd.mk hc0_2
 clear hr0_2 hc0_2
 have HB := Zd.mk (Below.refl w.heap.size w)
 have H : ((formula_timed.f a0_0).bind fun t154 => (if t154 = true then ((formula_copied.f k a0_0 a0_1 l0_2).bind fun bt155 => (if ([] : List (S29)).length < 3518437208883 then (formula_times.j0 k (([] : List (S29)) ++ [(⟨bt155.1, bt155.2.1, bt155.2.2⟩ : S29)]) a0_0 a0_1 l0_2) else (none))) else (formula_times.j0 k ([] : List (S29)) a0_0 a0_1 l0_2))) = some r := h
 clear h
 replace H := Option.bind_eq_some_iff.mp H
 obtain ⟨t154, A20, H⟩ := H
 replace H : (if t154 = true then ((formula_copied.f k a0_0 a0_1 l0_2).bind fun bt155 => (if ([] : List (S29)).length < 3518437208883 then (formula_times.j0 k (([] : List (S29)) ++ [(⟨bt155.1, bt155.2.1, bt155.2.2⟩ : S29)]) a0_0 a0_1 l0_2) else (none))) else (formula_times.j0 k ([] : List (S29)) a0_0 a0_1 l0_2)) = some r := H
 have A2 := Zd.mk A20
 clear A20
 have HC3 := Zd.mk H
 clear H
 go_enter Try.func61, Try.ntmps61
 go_upto_if 8 with (first | ((with_reducible refine gate_dst (N := 1) rfl ?_); refine box_event ?hg (N := 1) ?hd (cs := #[.int .i64 a0_0, .int .i64 a0_1, .slice A0_2 l0_2.length c0_2]) (t := 29) ?hr ?_; (case hd => rfl); (case hg => rfl); (case hr => first | (go_simp; done) | (go_simp; rfl)); intro gb153 hg w4 hbox hb; have n0_ := Zd.mk (bt_ B_ hb); have n1_ := Zd.mk (hbox); have n2_ := Zd.mk ((by rw [hg]; exact (bs_ B_) : w.heap.size ≤ gb153)); have n3_ := Zd.mk ((by rw [hg]; exact (bs_ B_) : w.heap.size ≤ gb153)); clear HB; have HB := n0_; have BK153 := n1_; have GW153 := n2_; have GE153 := n3_; clear n0_ n1_ n2_ n3_; clear hb hbox hg; have hcz5_0 : w4.cell? ⟨gb153, 0, none⟩ = some (.int .i64 a0_0) := (bq_ BK153.out 0).trans rfl; have hcz5_1 : w4.cell? ⟨gb153, 1, none⟩ = some (.int .i64 a0_1) := (bq_ BK153.out 1).trans rfl; have hcz5_2 : w4.cell? ⟨gb153, 2, none⟩ = some (.slice A0_2 l0_2.length c0_2) := (bq_ BK153.out 2).trans rfl; have hfz5_0 := bz_ BK153.out 0; have hfz5_1 := bz_ BK153.out 1; have hfz5_2 := bz_ BK153.out 2) | ((with_reducible refine gate_callee (f := 59) rfl ?_); refine goesL_ (some 8) rfl rfl Try.func59 (by kernel_rfl) rfl #[.int .i64 a0_0] rfl (by (try simp only [List.map_toArray, List.map_cons, List.map_nil]); first | done | rfl | (simp only [List.length_drop, List.length_take]; rfl)) ?_; (with_reducible refine (formula_timed.calls a0_0 t154 _ A2.out).mono ?_); rintro e w' ⟨rfl, ⟨nd, rfl⟩⟩; refine ⟨_, rfl, ?_⟩))
 (try simp only [Act.put, List.setIfInBounds_toArray, List.set_cons_zero, List.set_cons_succ])
 go_cut [3] (fun v3 wc => ∃ (kq : Nat) (x3_2 : List (S29)), Zd (formula_times.j0 kq x3_2 a0_0 a0_1 l0_2 = some r) ∧ Zd (kq ≤ k) ∧ Zd (Kd.N k29 29 wc w.heap.size (fun k_ => (w.heap.size ≤ k_) ∧ k_ ≠ gb153) v3 x3_2) ∧ Zd (wc.heap[gb153]? = some (.cells #[.int .i64 a0_0, .int .i64 a0_1, (.slice A0_2 l0_2.length c0_2)] 29 (0, 0))) ∧ Zd (Below w.heap.size w wc))
 case first =>
  have H := HC3.out
  clear HC3
  by_cases c6 : t154 = true
  ·subst c6
   have H1 : ((formula_copied.f k a0_0 a0_1 l0_2).bind fun bt155 => (if ([] : List (S29)).length < 3518437208883 then (formula_times.j0 k (([] : List (S29)) ++ [(⟨bt155.1, bt155.2.1, bt155.2.2⟩ : S29)]) a0_0 a0_1 l0_2) else (none))) = some r := by rw [if_pos rfl] at H; exact H
   clear H
   have H := H1
   clear H1
   replace H := Option.bind_eq_some_iff.mp H
   obtain ⟨⟨t155, t156, t157⟩, A70, H⟩ := H
   replace H : (if ([] : List (S29)).length < 3518437208883 then (formula_times.j0 k (([] : List (S29)) ++ [(⟨t155, t156, t157⟩ : S29)]) a0_0 a0_1 l0_2) else (none)) = some r := H
   have A7 := Zd.mk A70
   clear A70
   by_cases c8 : ([] : List (S29)).length < 3518437208883
   ·rw [if_pos c8] at H
    have LMc8 := Zd.mk c8
    clear c8
    obtain ⟨y160, hy160⟩ : ∃ y_ : List (S29), y_ = (([] : List (S29)) ++ [(⟨t155, t156, t157⟩ : S29)]) := ⟨_, rfl⟩
    replace H : (formula_times.j0 k y160 a0_0 a0_1 l0_2) = some r := by first | (rw [hy160]; with_reducible exact H) | (have H2_ := (Option.bind_some _ _).symm.trans H; rw [hy160]; with_reducible exact H2_) | (have H2_ := (Option.bind_some _ _).symm.trans H; with_reducible exact H2_) | with_reducible exact H | (rw [hy160]; exact H) | exact H
    have Ny160 := Zd.mk hy160
    clear hy160
    have H' := Zd.mk H
    clear H
    have hcz9_0 : w4.cell? ⟨gb153, 0, none⟩ = some (.int .i64 a0_0) := (bq_ BK153.out 0).trans rfl
    have hcz9_1 : w4.cell? ⟨gb153, 1, none⟩ = some (.int .i64 a0_1) := (bq_ BK153.out 1).trans rfl
    have hcz9_2 : w4.cell? ⟨gb153, 2, none⟩ = some (.slice A0_2 l0_2.length c0_2) := (bq_ BK153.out 2).trans rfl
    have hfz9_0 := bz_ BK153.out 0
    have hfz9_1 := bz_ BK153.out 1
    have hfz9_2 := bz_ BK153.out 2
    go_wp2_with (first | ((with_reducible refine gate_callee (f := 85) rfl ?_); refine goesL_ (some 11) rfl rfl Try.func85 (by kernel_rfl) rfl #[.agg #[.int .i64 a0_0, .int .i64 a0_1, .slice A0_2 l0_2.length c0_2]] rfl (by (try simp only [List.map_toArray, List.map_cons, List.map_nil]); first | done | rfl | (simp only [List.length_drop, List.length_take]; rfl)) ?_; (with_reducible refine (formula_copied.calls k a0_0 a0_1 _ _ l0_2 t155 t156 t157 _ ?side1 ?side2 A7.out).mono ?_); (case side1 => exact Kd.C_below HR0_2.out B_); (case side2 => exact HC0_2.out); rintro e w10 ⟨v158, rfl, ho0, hb⟩; refine ⟨_, rfl, ?_⟩; have n0_ := Zd.mk (Kd.N_lower (Kd.N_mono (ok' := fun k_ => (w.heap.size ≤ k_) ∧ k_ ≠ gb153) (Kd.R_N (Kd.R_bound ho0)) (fun k_ hk_ => ⟨(Nat.le_trans (bs_ B_) hk_.2.1), (Kd.freshB (g := gb153) (o := .cells #[.int .i64 a0_0, .int .i64 a0_1, .slice A0_2 l0_2.length c0_2] 29 (0, 0)) K_ k_ hk_.2.1)⟩)) (bs_ B_)); have n1_ := Zd.mk (bb_ (g := gb153) (o := .cells #[.int .i64 a0_0, .int .i64 a0_1, .slice A0_2 l0_2.length c0_2] 29 (0, 0)) K_ hb); have n2_ := Zd.mk (bt_ B_ hb); clear BK153; clear HB; have HO159 := n0_; have BK153 := n1_; have HB := n2_; clear n0_ n1_ n2_; (try clear hb); (try clear hb2); (try clear hk); (try clear hi); (try clear ho0); obtain ⟨Ao12, co12, eo12⟩ := Kd.N_slice HO159.out; subst eo12) | ((with_reducible refine gate_builtin (b := .append) (xs := #[.tmp 9, .tmp 12]) rfl ?_); at_builtin; refine Kd.N_append k29 (w0 := w) w.heap.size rfl (.tmp 9) (.tmp 12) 27 29 (.agg #[(.int .i64 0), (.int .i64 0), (.slice none 0 0)]) 40 rfl Try.underlying27 info29 rfl (by decide) (by omega) (.slice none 0 0) ([] : List (S29)) (⟨t155, t156, t157⟩ : S29) [.int .i64 t155, .int .i64 t156, .slice Ao12 t157.length co12] (fun k_ => (w.heap.size ≤ k_) ∧ k_ ≠ gb153) (fun k_ => ((fun k_ => (w.heap.size ≤ k_) ∧ k_ ≠ gb153)) k_ ∧ some k_ ≠ (.slice none 0 0 : Value).ownBlock) rfl rfl ?aP (fun _ hk => hk) ?aF ?aO ?aB ?aS ?aL ?_; (case aP => exact (k29_mkF _ _ (⟨t155, t156, t157⟩ : S29) (Kd.N_reads' (Kd.N_mono (ok' := (fun k_ => ((fun k_ => (w.heap.size ≤ k_) ∧ k_ ≠ gb153)) k_ ∧ some k_ ≠ (.slice none 0 0 : Value).ownBlock)) (HO159.out) (fun k_ hk => ⟨⟨hk.1, hk.2⟩, (by simp [Value.ownBlock])⟩))).2.1 (Kd.N_F (Kd.N_mono (ok' := (fun k_ => ((fun k_ => (w.heap.size ≤ k_) ∧ k_ ≠ gb153)) k_ ∧ some k_ ≠ (.slice none 0 0 : Value).ownBlock)) (HO159.out) (fun k_ hk => ⟨⟨hk.1, hk.2⟩, (by simp [Value.ownBlock])⟩))))); (case aB => exact B_); (case aF => exact (fun k_ hk => ⟨(Nat.le_trans (bs_ B_) hk), Kd.freshB (g := gb153) (o := .cells #[.int .i64 a0_0, .int .i64 a0_1, .slice A0_2 l0_2.length c0_2] 29 (0, 0)) K_ k_ hk⟩)); (case aO => exact ((Kd.N_nil _ _ _ _ (fun k_ => (w.heap.size ≤ k_) ∧ k_ ≠ gb153)))); (case aS => exact (bs_ B_)); (case aL => have := LMc8.out; omega); intro v161 w11 ho hb hg hat; rw [← Ny160.out] at ho; have n0_ := Zd.mk (bg_ (g := gb153) (o := .cells #[.int .i64 a0_0, .int .i64 a0_1, .slice A0_2 l0_2.length c0_2] 29 (0, 0)) K_ hg (by simp [Value.ownBlock])); have n1_ := Zd.mk (hb); have n2_ := Zd.mk (ho); clear BK153; clear HB; clear HO159; have BK153 := n0_; have HB := n1_; have HO162 := n2_; clear n0_ n1_ n2_; clear ho hb hg hat))
    go_meet
    case rel => exact ⟨_, (y160), H', ⟨by first | omega | exact Nat.le_refl _⟩, ⟨by (with_reducible repeat (first | apply Kd.N_alloc | apply Kd.N_drewN | apply Kd.N_drew)); exact HO162.out⟩, ⟨K_⟩, ⟨B_⟩⟩
   ·rw [if_neg c8] at H
    exact absurd H (by simp)
  ·replace c6 := Bool.eq_false_iff.mpr c6
   subst c6
   have H1 : (formula_times.j0 k ([] : List (S29)) a0_0 a0_1 l0_2) = some r := by rw [if_neg (show ¬ (false = true) by decide)] at H; exact H
   clear H
   have H := H1
   clear H1
   have H' := Zd.mk H
   clear H
   go_wp2
   go_meet
   case rel => exact ⟨_, (([] : List (S29))), H', ⟨by first | omega | exact Nat.le_refl _⟩, ⟨by first | exact Kd.R_nil _ _ _ _ _ | exact Kd.N_nil _ _ _ _ _ | exact Kd.V_nil _ _ _ _ _ | exact Kd.Q_nil _ _ _ _ _ | exact Kd.S_nil _ _ _ _ _⟩, ⟨K_⟩, ⟨B_⟩⟩
 case rest =>
  clear HC3
  try clear p2
  try clear c5
  try clear c6
  try clear c8
  try clear hcz5_0
  try clear hcz5_1
  try clear hcz5_2
  try clear hcz9_0
  try clear hcz9_1
  try clear hcz9_2
  try clear hfz5_0
  try clear hfz5_1
  try clear hfz5_2
  try clear hfz9_0
  try clear hfz9_1
  try clear hfz9_2
  obtain ⟨kq, x3_2, HA, HJ2, HO_3, BK153, HB⟩ := hcut
  cases kq with
  | zero => exact absurd HA.out (by simp [formula_times.j0])
  | succ kj2 =>
   have H := HA.out
   clear HA
   simp only [formula_times.j0] at H
   have H' := Zd.mk H
   clear H
   have hcz13_0 : wc.cell? ⟨gb153, 0, none⟩ = some (.int .i64 a0_0) := (bq_ BK153.out 0).trans rfl
   have hcz13_1 : wc.cell? ⟨gb153, 1, none⟩ = some (.int .i64 a0_1) := (bq_ BK153.out 1).trans rfl
   have hcz13_2 : wc.cell? ⟨gb153, 2, none⟩ = some (.slice A0_2 l0_2.length c0_2) := (bq_ BK153.out 2).trans rfl
   have hfz13_0 := bz_ BK153.out 0
   have hfz13_1 := bz_ BK153.out 1
   have hfz13_2 := bz_ BK153.out 2
   go_wp2
   go_loopg [3, 17] kj2 (fun kq v3 v17 w' => ∃ (x3_2 : List (S29)) (x17_2 : Int), v17 = .int .i64 x17_2 ∧ Zd (formula_times.l0 kq x3_2 l0_2 (l0_2.length : Int) x17_2 = some r) ∧ Zd (kq ≤ kj2) ∧ Zd (Kd.N k29 29 w' w.heap.size (fun k_ => (w.heap.size ≤ k_) ∧ k_ ≠ gb153) v3 x3_2) ∧ Zd (w'.heap[gb153]? = some (.cells #[.int .i64 a0_0, .int .i64 a0_1, (.slice A0_2 l0_2.length c0_2)] 29 (0, 0))) ∧ Zd (Below w.heap.size w w'))
   case atStart => exact ⟨(x3_2), (0), (by first | rfl | (simp; done) | (simp [*]; done)), H', ⟨Nat.le_refl _⟩, ⟨by (with_reducible repeat (first | apply Kd.N_alloc | apply Kd.N_drewN | apply Kd.N_drew)); exact HO_3.out⟩, ⟨K_⟩, ⟨B_⟩⟩
   case round =>
    clear H'
    try clear p2
    try clear c5
    try clear c6
    try clear c8
    try clear hcz13_0
    try clear hcz13_1
    try clear hcz13_2
    try clear hcz5_0
    try clear hcz5_1
    try clear hcz5_2
    try clear hcz9_0
    try clear hcz9_1
    try clear hcz9_2
    try clear hfz13_0
    try clear hfz13_1
    try clear hfz13_2
    try clear hfz5_0
    try clear hfz5_1
    try clear hfz5_2
    try clear hfz9_0
    try clear hfz9_1
    try clear hfz9_2
    try clear p2
    obtain ⟨x3_2, x17_2, rfl, HA, HK2, HO_3, BK153, HB⟩ := hrel
    cases gk with
    | zero => exact absurd HA.out (by simp [formula_times.l0])
    | succ k2 =>
     have H := HA.out
     clear HA
     simp only [formula_times.l0] at H
     by_cases c14 : x17_2 < (l0_2.length : Int)
     ·rw [if_pos c14] at H
      have c14b0 : decide (x17_2 < (l0_2.length : Int)) = true := decide_eq_true c14
      clear c14
      by_cases c15 : 0 ≤ x17_2
      ·rw [if_pos c15] at H
       have c15b0 : decide (0 ≤ x17_2) = true := decide_eq_true c15
       clear c15
       by_cases c16 : x17_2 < (l0_2.length : Int)
       ·rw [if_pos c16] at H
        have c16b0 : decide (x17_2 < (l0_2.length : Int)) = true := decide_eq_true c16
        clear c16
        replace H := Option.bind_eq_some_iff.mp H
        obtain ⟨t165, A170, H⟩ := H
        replace H : (if x3_2.length + t165.length < 3518437208883 then (formula_times.l0 k2 (x3_2 ++ t165) l0_2 (l0_2.length : Int) (wrap64 (x17_2 + 1))) else (none)) = some r := H
        have A17 := Zd.mk A170
        clear A170
        by_cases c18 : x3_2.length + t165.length < 3518437208883
        ·rw [if_pos c18] at H
         have LMc18 := Zd.mk c18
         clear c18
         obtain ⟨y168, hy168⟩ : ∃ y_ : List (S29), y_ = (x3_2 ++ t165) := ⟨_, rfl⟩
         replace H : (formula_times.l0 k2 y168 l0_2 (l0_2.length : Int) (wrap64 (x17_2 + 1))) = some r := by first | (rw [hy168]; with_reducible exact H) | (have H2_ := (Option.bind_some _ _).symm.trans H; rw [hy168]; with_reducible exact H2_) | (have H2_ := (Option.bind_some _ _).symm.trans H; with_reducible exact H2_) | with_reducible exact H | (rw [hy168]; exact H) | exact H
         have Ny168 := Zd.mk hy168
         clear hy168
         have H' := Zd.mk H
         clear H
         have p163 : 0 ≤ (x17_2 : Int) := of_decide_eq_true (by first | (with_reducible assumption) | assumption)
         have q163 : x17_2 < (l0_2.length : Int) := of_decide_eq_true (by first | (with_reducible assumption) | assumption)
         obtain ⟨ad163, A163_2, c163_2, e163, hx163_0, hx163_1, hx163_2, hl163_2, hi163_2⟩ := at_T29 HR0_2.out x17_2 p163 q163
         cases e163
         replace hx163_0 := (HB.out.cell (World.block_lt_of_cell? w _ hx163_0)).trans hx163_0
         replace hx163_1 := (HB.out.cell (World.block_lt_of_cell? w _ hx163_1)).trans hx163_1
         replace hx163_2 := (HB.out.cell (World.block_lt_of_cell? w _ hx163_2)).trans hx163_2
         have HR163_2 := Zd.mk hi163_2
         have HC163_2 := Zd.mk hl163_2
         clear hi163_2 hl163_2
         replace p163 := eq_true p163
         replace q163 := eq_true q163
         go_wp2_with (first | ((with_reducible refine gate_dst (N := 5) rfl ?_); refine box_event ?hg (N := 5) ?hd (cs := #[.int .i64 0, .int .i64 0, .slice none 0 0]) (t := 29) ?hr ?_; (case hd => rfl); (case hg => rfl); (case hr => first | (go_simp; done) | (go_simp; rfl)); intro gb164 hg w19 hbox hb; have n0_ := Zd.mk (Kd.N_below (Kd.N_elderB (by (with_reducible repeat (first | apply Kd.N_alloc | apply Kd.N_drewN | apply Kd.N_drew)); exact HO_3.out) gb164 (Nat.le_of_eq hg.symm)) hb); have n1_ := Zd.mk (bb_ (g := gb153) (o := .cells #[.int .i64 a0_0, .int .i64 a0_1, .slice (some ad163) l0_2.length c0_2] 29 (0, 0)) K_ hb); have n2_ := Zd.mk (bt_ B_ hb); have n3_ := Zd.mk (hbox); have n4_ := Zd.mk ((by rw [hg]; exact (bs_ B_) : w.heap.size ≤ gb164)); have n5_ := Zd.mk ((by rw [hg]; exact (bs_ B_) : w.heap.size ≤ gb164)); have n6_ := Zd.mk ((by rw [hg]; exact Nat.ne_of_lt (blk_lt (g := gb153) (o := .cells #[.int .i64 a0_0, .int .i64 a0_1, .slice (some ad163) l0_2.length c0_2] 29 (0, 0)) K_) : gb153 ≠ gb164)); have n7_ := Zd.mk ((by rw [hg]; exact Nat.ne_of_gt (blk_lt (g := gb153) (o := .cells #[.int .i64 a0_0, .int .i64 a0_1, .slice (some ad163) l0_2.length c0_2] 29 (0, 0)) K_) : gb164 ≠ gb153)); clear HO_3; clear BK153; clear HB; have HO_3 := n0_; have BK153 := n1_; have HB := n2_; have BK164 := n3_; have GW164 := n4_; have GE164 := n5_; have NB153_164 := n6_; have NB164_153 := n7_; clear n0_ n1_ n2_ n3_ n4_ n5_ n6_ n7_; clear hb hbox hg; have hnb20 := NB164_153.out; have hnc20 := NB153_164.out; have hcz21_0 : w19.cell? ⟨gb164, 0, none⟩ = some (.int .i64 0) := (bq_ BK164.out 0).trans rfl; have hcz21_1 : w19.cell? ⟨gb164, 1, none⟩ = some (.int .i64 0) := (bq_ BK164.out 1).trans rfl; have hcz21_2 : w19.cell? ⟨gb164, 2, none⟩ = some (.slice none 0 0) := (bq_ BK164.out 2).trans rfl; have hfz21_0 := bz_ BK164.out 0; have hfz21_1 := bz_ BK164.out 1; have hfz21_2 := bz_ BK164.out 2) | ((with_reducible refine gate_callee (f := 61) rfl ?_); refine goesL_ (some 23) rfl rfl Try.func61 (by kernel_rfl) rfl #[.agg #[.int .i64 ((rd_T29 l0_2 x17_2).f0), .int .i64 ((rd_T29 l0_2 x17_2).f1), .slice A163_2 ((rd_T29 l0_2 x17_2).f2).length c163_2]] rfl (by (try simp only [List.map_toArray, List.map_cons, List.map_nil]); first | done | rfl | (simp only [List.length_drop, List.length_take]; rfl)) ?_; (with_reducible refine (ih k2 (by have := HJ2.out; have := HK2.out; omega) ((rd_T29 l0_2 x17_2).f0) ((rd_T29 l0_2 x17_2).f1) _ _ ((rd_T29 l0_2 x17_2).f2) t165 _ ?side1 ?side2 A17.out).mono ?_); (case side1 => exact Kd.C_below HR163_2.out B_); (case side2 => exact HC163_2.out); rintro e w22 ⟨v166, rfl, ho0, hb⟩; refine ⟨_, rfl, ?_⟩; have n0_ := Zd.mk (Kd.N_elder' (by (with_reducible repeat (first | apply Kd.N_alloc | apply Kd.N_drewN | apply Kd.N_drew)); exact (Kd.N_mono (Kd.N_far (p := ⟨gb164, 2, none⟩) (Kd.N_far (p := ⟨gb164, 1, none⟩) (Kd.N_far (p := ⟨gb164, 0, none⟩) (Kd.N_mono HO_3.out (fun k_ hk => (⟨hk, hk.2⟩ : _ ∧ k_ ≠ gb164))) (fun _ hk => hk.2) (.int .i64 ((rd_T29 l0_2 x17_2).f0))) (fun _ hk => hk.2) (.int .i64 ((rd_T29 l0_2 x17_2).f1))) (fun _ hk => hk.2) (.slice A163_2 ((rd_T29 l0_2 x17_2).f2).length c163_2)) (fun _ h_ => h_.1))) (Kd.N_base ho0) hb); have n1_ := Zd.mk (Kd.N_lower (Kd.N_mono (ok' := fun k_ => (w.heap.size ≤ k_) ∧ some k_ ≠ (u3 : Value).ownBlock ∧ k_ ≠ gb153 ∧ k_ ≠ gb164) ho0 (fun k_ hk_ => ⟨(Nat.le_trans (bs_ B_) hk_), (Kd.fresh' (Kd.N_lt (by (with_reducible repeat (first | apply Kd.N_alloc | apply Kd.N_drewN | apply Kd.N_drew)); exact (Kd.N_mono (Kd.N_far (p := ⟨gb164, 2, none⟩) (Kd.N_far (p := ⟨gb164, 1, none⟩) (Kd.N_far (p := ⟨gb164, 0, none⟩) (Kd.N_mono HO_3.out (fun k_ hk => (⟨hk, hk.2⟩ : _ ∧ k_ ≠ gb164))) (fun _ hk => hk.2) (.int .i64 ((rd_T29 l0_2 x17_2).f0))) (fun _ hk => hk.2) (.int .i64 ((rd_T29 l0_2 x17_2).f1))) (fun _ hk => hk.2) (.slice A163_2 ((rd_T29 l0_2 x17_2).f2).length c163_2)) (fun _ h_ => h_.1)))) k_ hk_), (Kd.freshB (g := gb153) (o := .cells #[.int .i64 a0_0, .int .i64 a0_1, .slice (some ad163) l0_2.length c0_2] 29 (0, 0)) (by (with_reducible repeat (first | refine bd_ ?_ _ | refine blk_drew ?_ | refine ba_ ?_ _)); refine blk_far ?_ NB153_164.out _; (with_reducible repeat (first | refine bd_ ?_ _ | refine blk_drew ?_ | refine ba_ ?_ _)); refine blk_far ?_ NB153_164.out _; (with_reducible repeat (first | refine bd_ ?_ _ | refine blk_drew ?_ | refine ba_ ?_ _)); refine blk_far ?_ NB153_164.out _; (with_reducible repeat (first | refine bd_ ?_ _ | refine blk_drew ?_ | refine ba_ ?_ _)); exact BK153.out) k_ hk_), (Kd.freshB (g := gb164) (o := .cells #[.int .i64 ((rd_T29 l0_2 x17_2).f0), .int .i64 ((rd_T29 l0_2 x17_2).f1), .slice A163_2 ((rd_T29 l0_2 x17_2).f2).length c163_2] 29 (0, 0)) (by (with_reducible repeat (first | refine bd_ ?_ _ | refine blk_drew ?_ | refine ba_ ?_ _)); refine blk_put (cs := #[.int .i64 ((rd_T29 l0_2 x17_2).f0), .int .i64 ((rd_T29 l0_2 x17_2).f1), .slice none 0 0]) ?_ 2 _ rfl; (with_reducible repeat (first | refine bd_ ?_ _ | refine blk_drew ?_ | refine ba_ ?_ _)); refine blk_put (cs := #[.int .i64 ((rd_T29 l0_2 x17_2).f0), .int .i64 0, .slice none 0 0]) ?_ 1 _ rfl; (with_reducible repeat (first | refine bd_ ?_ _ | refine blk_drew ?_ | refine ba_ ?_ _)); refine blk_put (cs := #[.int .i64 0, .int .i64 0, .slice none 0 0]) ?_ 0 _ rfl; (with_reducible repeat (first | refine bd_ ?_ _ | refine blk_drew ?_ | refine ba_ ?_ _)); exact BK164.out) k_ hk_)⟩)) (bs_ B_)); have n2_ := Zd.mk (bb_ (g := gb153) (o := .cells #[.int .i64 a0_0, .int .i64 a0_1, .slice (some ad163) l0_2.length c0_2] 29 (0, 0)) (by (with_reducible repeat (first | refine bd_ ?_ _ | refine blk_drew ?_ | refine ba_ ?_ _)); refine blk_far ?_ NB153_164.out _; (with_reducible repeat (first | refine bd_ ?_ _ | refine blk_drew ?_ | refine ba_ ?_ _)); refine blk_far ?_ NB153_164.out _; (with_reducible repeat (first | refine bd_ ?_ _ | refine blk_drew ?_ | refine ba_ ?_ _)); refine blk_far ?_ NB153_164.out _; (with_reducible repeat (first | refine bd_ ?_ _ | refine blk_drew ?_ | refine ba_ ?_ _)); exact BK153.out) hb); have n3_ := Zd.mk (bb_ (g := gb164) (o := .cells #[.int .i64 ((rd_T29 l0_2 x17_2).f0), .int .i64 ((rd_T29 l0_2 x17_2).f1), .slice A163_2 ((rd_T29 l0_2 x17_2).f2).length c163_2] 29 (0, 0)) (by (with_reducible repeat (first | refine bd_ ?_ _ | refine blk_drew ?_ | refine ba_ ?_ _)); refine blk_put (cs := #[.int .i64 ((rd_T29 l0_2 x17_2).f0), .int .i64 ((rd_T29 l0_2 x17_2).f1), .slice none 0 0]) ?_ 2 _ rfl; (with_reducible repeat (first | refine bd_ ?_ _ | refine blk_drew ?_ | refine ba_ ?_ _)); refine blk_put (cs := #[.int .i64 ((rd_T29 l0_2 x17_2).f0), .int .i64 0, .slice none 0 0]) ?_ 1 _ rfl; (with_reducible repeat (first | refine bd_ ?_ _ | refine blk_drew ?_ | refine ba_ ?_ _)); refine blk_put (cs := #[.int .i64 0, .int .i64 0, .slice none 0 0]) ?_ 0 _ rfl; (with_reducible repeat (first | refine bd_ ?_ _ | refine blk_drew ?_ | refine ba_ ?_ _)); exact BK164.out) hb); have n4_ := Zd.mk (bt_ B_ hb); clear HO_3; clear BK153; clear BK164; clear HB; have HO_3 := n0_; have HO167 := n1_; have BK153 := n2_; have BK164 := n3_; have HB := n4_; clear n0_ n1_ n2_ n3_ n4_; (try clear hb); (try clear hb2); (try clear hk); (try clear hi); (try clear ho0); obtain ⟨Ao24, co24, eo24⟩ := Kd.N_slice HO167.out; subst eo24) | ((with_reducible refine gate_builtin (b := .append) (xs := #[.tmp 21, .tmp 23]) rfl ?_); at_builtin; refine Kd.N_append_rows k29 (w0 := w) w.heap.size rfl (.tmp 21) (.tmp 23) 27 29 (.agg #[(.int .i64 0), (.int .i64 0), (.slice none 0 0)]) 40 rfl Try.underlying27 info29 rfl (by decide) (by omega) u3 x3_2 t165 _ _ _ (fun k_ => (w.heap.size ≤ k_) ∧ k_ ≠ gb153 ∧ k_ ≠ gb164) (fun k_ => ((fun k_ => (w.heap.size ≤ k_) ∧ k_ ≠ gb153 ∧ k_ ≠ gb164)) k_ ∧ some k_ ≠ (u3 : Value).ownBlock) rfl rfl ?aO ?aR (fun _ hk => hk) ?aF ?aB ?aS ?aL ?_; (case aR => exact (by skip; exact Kd.N_F (Kd.N_mono (ok' := (fun k_ => ((fun k_ => (w.heap.size ≤ k_) ∧ k_ ≠ gb153 ∧ k_ ≠ gb164)) k_ ∧ some k_ ≠ (u3 : Value).ownBlock)) (HO167.out) (fun k_ hk => ⟨⟨hk.1, ⟨hk.2.2.1, hk.2.2.2⟩⟩, hk.2.1⟩)))); (case aB => exact B_); (case aF => exact (fun k_ hk => ⟨(Nat.le_trans (bs_ B_) hk), Kd.freshB (g := gb153) (o := .cells #[.int .i64 a0_0, .int .i64 a0_1, .slice (some ad163) l0_2.length c0_2] 29 (0, 0)) K_ k_ hk, Kd.freshB (g := gb164) (o := .cells #[.int .i64 ((rd_T29 l0_2 x17_2).f0), .int .i64 ((rd_T29 l0_2 x17_2).f1), .slice A163_2 ((rd_T29 l0_2 x17_2).f2).length c163_2] 29 (0, 0)) K_ k_ hk⟩)); (case aO => exact (by (with_reducible repeat (first | apply Kd.N_alloc | apply Kd.N_drewN | apply Kd.N_drew)); exact Kd.N_mono HO_3.out (fun _ hk => ⟨hk.1.1.1, ⟨hk.1.1.2, hk.1.2⟩⟩))); (case aS => exact (bs_ B_)); (case aL => have := LMc18.out; omega); intro v169 w23 ho hb hg hat; rw [← Ny168.out] at ho; have n0_ := Zd.mk (bg_ (g := gb153) (o := .cells #[.int .i64 a0_0, .int .i64 a0_1, .slice (some ad163) l0_2.length c0_2] 29 (0, 0)) K_ hg (Kd.N_away HO_3.out (fun _ hk => hk.1.1.2))); have n1_ := Zd.mk (bg_ (g := gb164) (o := .cells #[.int .i64 ((rd_T29 l0_2 x17_2).f0), .int .i64 ((rd_T29 l0_2 x17_2).f1), .slice A163_2 ((rd_T29 l0_2 x17_2).f2).length c163_2] 29 (0, 0)) K_ hg (Kd.N_away HO_3.out (fun _ hk => hk.1.2))); have n2_ := Zd.mk (Kd.N_afterv (ok := (fun k_ => (w.heap.size ≤ k_) ∧ k_ ≠ gb153 ∧ k_ ≠ gb164)) (by (with_reducible repeat (first | apply Kd.N_alloc | apply Kd.N_drewN | apply Kd.N_drew)); exact Kd.N_mono HO167.out (fun _ hk => ⟨⟨hk.1, ⟨hk.2.2.1, hk.2.2.2⟩⟩, hk.2.1⟩)) hg hat); have n3_ := Zd.mk (hb); have n4_ := Zd.mk (ho); clear BK153; clear BK164; clear HO167; clear HB; clear HO_3; have BK153 := n0_; have BK164 := n1_; have HO167 := n2_; have HB := n3_; have HO170 := n4_; clear n0_ n1_ n2_ n3_ n4_; clear ho hb hg hat))
         go_roundg k2
         case measure => have := HJ2.out; have := HK2.out; omega
         case rel => exact ⟨(y168), (wrap64 (x17_2 + 1)), (by first | rfl | (simp; done) | (simp [*]; done)), H', ⟨by have := HJ2.out; have := HK2.out; omega⟩, ⟨by (with_reducible repeat (first | apply Kd.N_alloc | apply Kd.N_drewN | apply Kd.N_drew)); exact Kd.N_mono HO170.out (fun _ hk => ⟨hk.1, hk.2.1⟩)⟩, ⟨K_⟩, ⟨B_⟩⟩
        ·rw [if_neg c18] at H
         exact absurd H (by simp)
       ·rw [if_neg c16] at H
        exact absurd H (by simp)
      ·rw [if_neg c15] at H
       exact absurd H (by simp)
     ·rw [if_neg c14] at H
      have c14b0 : decide (x17_2 < (l0_2.length : Int)) = false := decide_eq_false c14
      clear c14
      obtain rfl := Option.some.inj H
      go_wp2
      go_ret
      exact ⟨_, by first | rfl | (simp [errW_none, errW_some] <;> rfl) | (simp [*, errW_none, errW_some] <;> rfl), by (with_reducible repeat (first | apply Kd.N_alloc | apply Kd.N_drewN | apply Kd.N_drew)); exact Kd.N_mono HO_3.out (fun _ hk => hk.1), B_⟩

end Go.Proofs.Ytapejnikpmfddaa.P
