/- A part of the claim SearchForms. -/
import Derived.Test.YtapejnikpmfddaaGreatProg
import Derived.Laws.MathBits
import Derived.Laws.CopyOwn
import Derived.Outline
import Derived.Test.YtapejnikpmfddaaGreatQSearchFormsb
set_option linter.unusedVariables false
set_option linter.unusedSimpArgs false
set_option maxHeartbeats 8000000
set_option maxRecDepth 100000
namespace Go.Proofs.YtapejnikpmfddaaGreat.P
open Go.RowKit Go.Proofs.aI.bM Go.Proofs.aI.dG Go.Proofs.aI.dM
attribute [local go_sem] nE nG nH nI nW nX nY nZ



def acS : Option Int → Value
 | none => .nilIface
 | some c => .iface 0 (.int .i64 c)
theorem bS : acS none = .nilIface := rfl
theorem bT (c : Int) : acS (some c) = .iface 0 (.int .i64 c) := rfl

theorem Uk : (Tryz.prog.info? 29).map (fun i => (i.zero, i.size, i.bytes)) = some (some (.agg #[(.int .i64 0), (.int .i64 0), (.slice none 0 0)]), 3, 40) := by kernel_rfl
structure ak where
 f0 : Int
 f1 : Int
 f2 : (List ak)
def z29 : ak := ⟨(0 : Int), (0 : Int), ([] : List ak)⟩
def O5 (d : Kd ak) : Kd ak := Kd.G7 (Kd.pair (Kd.int .i64) (Kd.pair (Kd.int .i64) (Kd.slice 29 d))) (fun x : ak => (x.f0, x.f1, x.f2))
theorem O6 : Kd.qG O5 := Kd.ai6 _ (Kd.aam (Kd.Tz _) (Kd.aam (Kd.Tz _) (Kd.ai5 29 Kd.ai4)))
theorem anF : Kd.Sub O5 [29] := Kd.ai9 _ (Kd.aan (Kd.sub_const _ ai) (Kd.aan (Kd.sub_const _ ai) (Kd.ai8 29 ai Kd.ai7)))
theorem Ul : ∀ n, (Kd.upto O5 3 [29] n).sz = 3 := Kd.ai_ (fun _ => rfl)
def bK : Kd ak := Kd.fix O5 3 [29] Ul (Kd.aao anF)
theorem J7 {w : World} {x : ak} {cs : List Value} (h : bK.K w x cs) : ∃ A2 c2, cs = [.int .i64 x.f0, .int .i64 x.f1, .slice A2 x.f2.length c2] ∧ x.f2.length ≤ c2 ∧ bK.C w A2 x.f2.length x.f2 := by
 obtain ⟨n, h⟩ := h;cases n with
 | zero => exact h.elim
 | succ n =>
  obtain ⟨_, _, rfl, rfl, ⟨_, _, rfl, rfl, ⟨A2, c2, rfl, l2, g2⟩⟩⟩ := h;exact ⟨A2, c2, rfl, l2, Kd.aja g2⟩
theorem J8 (w : World) (x : ak) {A2 : Option Addr} {c2 : Nat} (l2 : x.f2.length ≤ c2) (g2 : bK.C w A2 x.f2.length x.f2) : bK.K w x [.int .i64 x.f0, .int .i64 x.f1, .slice A2 x.f2.length c2] := by
 obtain ⟨n2, q2⟩ := Kd.ajd O6 g2;have r2 := Kd.ajf O6 Ul (show n2 ≤ n2 by omega) q2;exact ⟨n2 + 1, ⟨[.int .i64 x.f0], [.int .i64 x.f1, .slice A2 x.f2.length c2], rfl, rfl, ⟨[.int .i64 x.f1], [.slice A2 x.f2.length c2], rfl, rfl, ⟨A2, c2, rfl, l2, r2⟩⟩⟩⟩
theorem anG (w : World) (base : Nat) (ok : Nat → Prop) (x : ak) {v2 : Value} (g2 : bK.R 29 w base ok v2 x.f2) : bK.M w base ok x [.int .i64 x.f0, .int .i64 x.f1, v2] := by
 obtain ⟨n2, q2⟩ := Kd.ajc O6 g2;have r2 := Kd.aje O6 Ul (show n2 ≤ n2 by omega) q2;exact ⟨n2 + 1, ⟨[.int .i64 x.f0], [.int .i64 x.f1, v2], rfl, rfl, ⟨[.int .i64 x.f1], [v2], rfl, rfl, ⟨v2, rfl, r2⟩⟩⟩⟩
theorem anH {W : World} {ok : Nat → Prop} {x : ak} {cs : List Value} (h : Kd.FK bK W ok x cs) : ∃ A2 c2, cs = [.int .i64 x.f0, .int .i64 x.f1, .slice A2 x.f2.length c2] ∧ x.f2.length ≤ c2 ∧ Kd.F bK W ok A2 x.f2.length x.f2 := by
 obtain ⟨A2, c2, rfl, l2, _⟩ := J7 (Kd.Hf h);exact ⟨A2, c2, rfl, l2, (fun W' hW => by obtain ⟨A2_, c2_, he, l2_, g2_⟩ := J7 (h W' hW); injection (Option.some.inj (show some (Value.slice A2 x.f2.length c2) = some (Value.slice A2_ x.f2.length c2_) from congrArg (fun l => l[2]?) he)) with ha_ _ _; rw [ha_]; exact g2_)⟩
theorem anI (W : World) (ok : Nat → Prop) (x : ak) {A2 : Option Addr} {c2 : Nat} (l2 : x.f2.length ≤ c2) (g2 : Kd.F bK W ok A2 x.f2.length x.f2) : Kd.FK bK W ok x [.int .i64 x.f0, .int .i64 x.f1, .slice A2 x.f2.length c2] := fun W2 hW => J8 W2 x l2 (g2 W2 hW)
def aY (xs : List ak) (i : Int) : ak := xs.getD i.toNat z29
theorem CO {w : World} {A : Option Addr} {n : Nat} {xs : List ak} (h : Kd.C bK w A n xs) (i : Int) (h0 : 0 ≤ i) (h1 : i < n) : ∃ ad A2 c2, A = some ad ∧ w.cell? (ad.add (i.toNat * 3)) = some (.int .i64 (aY xs i).f0) ∧ w.cell? ⟨(ad.add (i.toNat * 3)).block, (ad.add (i.toNat * 3)).off + 1, none⟩ = some (.int .i64 (aY xs i).f1) ∧ w.cell? ⟨(ad.add (i.toNat * 3)).block, (ad.add (i.toNat * 3)).off + 2, none⟩ = some (.slice A2 (aY xs i).f2.length c2) ∧ (aY xs i).f2.length ≤ c2 ∧ bK.C w A2 (aY xs i).f2.length (aY xs i).f2 := by
 obtain ⟨ad, c, e, _, hK, hc0⟩ := Kd.CE h z29 i h0 h1;have hc : ∀ j u, c[j]? = some u → w.cell? (ad.add (i.toNat * 3 + j)) = some u := hc0;obtain ⟨A2, c2, rfl, l2, g2⟩ := J7 hK;exact ⟨ad, A2, c2, e, hc 0 _ rfl, by rw [← aab _ _ 1 ag]; exact hc 1 _ rfl, by rw [← aab _ _ 2 ag]; exact hc 2 _ rfl, l2, g2⟩

def jU (xs : List (List Int)) (i : Int) : (List Int) := xs.getD i.toNat ([] : List Int)
theorem Hq {w : World} {A : Option Addr} {n : Nat} {xs : List (List Int)} (h : Kd.C (Kd.slice 3 (Kd.int .i64)) w A n xs) (i : Int) (h0 : 0 ≤ i) (h1 : i < n) : ∃ ad A0 c0, A = some ad ∧ w.cell? (ad.add i.toNat) = some (.slice A0 (jU xs i).length c0) ∧ (jU xs i).length ≤ c0 ∧ (Kd.int .i64).C w A0 (jU xs i).length (jU xs i) := by
 obtain ⟨ad, c, e, _, hK, hc0⟩ := Kd.CE h ([] : List Int) i h0 h1;have hc : ∀ j u, c[j]? = some u → w.cell? (ad.add (i.toNat * 1 + j)) = some u := hc0;obtain ⟨A0, c0, rfl, l0, g0⟩ := hK;exact ⟨ad, A0, c0, e, by have hq := hc 0 _ rfl; rwa [Nat.mul_one, Nat.add_zero] at hq, l0, g0⟩

structure lM where
 f0 : ak
 f1 : Int
 f2 : Int
def z76 : lM := ⟨z29, (0 : Int), (0 : Int)⟩
def Bi : Kd lM := Kd.G7 (Kd.pair bK (Kd.pair (Kd.int .i64) (Kd.int .i64))) (fun x : lM => (x.f0, x.f1, x.f2))
theorem anJ {w : World} {x : lM} {cs : List Value} (h : Bi.K w x cs) : ∃ A2 c2, cs = [.int .i64 x.f0.f0, .int .i64 x.f0.f1, .slice A2 x.f0.f2.length c2, .int .i64 x.f1, .int .i64 x.f2] ∧ x.f0.f2.length ≤ c2 ∧ bK.C w A2 x.f0.f2.length x.f0.f2 := by
 obtain ⟨_, _, rfl, s0, ⟨_, _, rfl, rfl, rfl⟩⟩ := h;obtain ⟨A2, c2, rfl, l2, g2⟩ := J7 s0;exact ⟨A2, c2, rfl, l2, g2⟩
theorem anK (w : World) (x : lM) {A2 : Option Addr} {c2 : Nat} (l2 : x.f0.f2.length ≤ c2) (g2 : bK.C w A2 x.f0.f2.length x.f0.f2) : Bi.K w x [.int .i64 x.f0.f0, .int .i64 x.f0.f1, .slice A2 x.f0.f2.length c2, .int .i64 x.f1, .int .i64 x.f2] := ⟨[.int .i64 x.f0.f0, .int .i64 x.f0.f1, .slice A2 x.f0.f2.length c2], [.int .i64 x.f1, .int .i64 x.f2], rfl, (J8 w x.f0 l2 g2), ⟨[.int .i64 x.f1], [.int .i64 x.f2], rfl, rfl, rfl⟩⟩
theorem acT (W : World) (ok : Nat → Prop) (x : lM) {A2 : Option Addr} {c2 : Nat} (l2 : x.f0.f2.length ≤ c2) (g2 : Kd.F bK W ok A2 x.f0.f2.length x.f0.f2) : Kd.FK Bi W ok x [.int .i64 x.f0.f0, .int .i64 x.f0.f1, .slice A2 x.f0.f2.length c2, .int .i64 x.f1, .int .i64 x.f2] := fun W2 hW => anK W2 x l2 (g2 W2 hW)
structure EG where
 f0 : (List Int)
 f1 : (List Int)
 f2 : (List (List Int))
def k26 : Kd EG := Kd.G7 (Kd.pair (Kd.slice 44 (Kd.int .u32)) (Kd.pair (Kd.slice 3 (Kd.int .i64)) (Kd.slice 23 (Kd.slice 3 (Kd.int .i64))))) (fun x : EG => (x.f0, x.f1, x.f2))
theorem anL {w : World} {x : EG} {cs : List Value} (h : k26.K w x cs) : ∃ A0 c0 A1 c1 A2 c2, cs = [.slice A0 x.f0.length c0, .slice A1 x.f1.length c1, .slice A2 x.f2.length c2] ∧ x.f0.length ≤ c0 ∧ (Kd.int .u32).C w A0 x.f0.length x.f0 ∧ x.f1.length ≤ c1 ∧ (Kd.int .i64).C w A1 x.f1.length x.f1 ∧ x.f2.length ≤ c2 ∧ (Kd.slice 3 (Kd.int .i64)).C w A2 x.f2.length x.f2 := by
 obtain ⟨_, _, rfl, ⟨A0, c0, rfl, l0, g0⟩, ⟨_, _, rfl, ⟨A1, c1, rfl, l1, g1⟩, ⟨A2, c2, rfl, l2, g2⟩⟩⟩ := h;exact ⟨A0, c0, A1, c1, A2, c2, rfl, l0, g0, l1, g1, l2, g2⟩
end Go.Proofs.YtapejnikpmfddaaGreat.P
namespace Go.Proofs.YtapejnikpmfddaaGreat.X
open Go.RowKit Go.Proofs.aI.bM
open Go.Proofs.YtapejnikpmfddaaGreat.P
structure oO where
 n : Int
 t : Int
 deep : Bool
def dB (op : Int) : Bool := decide (6 ≤ op) && decide (op ≤ 8)
mutual
def mV : ak → Int → oO → oO
 | ⟨op, _, kids⟩, d, c => if d > 12 then ⟨c.n, c.t, true⟩ else nJ kids (d + 1) ⟨c.n + 1, if dB op = true then c.t + 1 else c.t, c.deep⟩
def nJ : List ak → Int → oO → oO
 | [], _, c => c
 | k :: r, d, c => if c.n > 60 then c else nJ r d (mV k d c)
end
mutual
theorem acU : ∀ (s : ak) (d : Int) (c : oO), 0 ≤ c.n → c.n ≤ 60 → 0 ≤ c.t → c.t ≤ c.n → c.n ≤ (mV s d c).n ∧ (mV s d c).n ≤ 61 ∧ 0 ≤ (mV s d c).t ∧ (mV s d c).t ≤ (mV s d c).n
 | ⟨op, m, kids⟩, d, c, h0, h1, h2, h3 => by
  simp only [mV];split
  ·exact ⟨Int.le_refl _, by show c.n ≤ 61; omega, h2, h3⟩
  ·have := acV kids (d + 1) ⟨c.n + 1, if dB op = true then c.t + 1 else c.t, c.deep⟩ (by show 0 ≤ c.n + 1; omega) (by show c.n + 1 ≤ 61; omega) (by show 0 ≤ (if dB op = true then c.t + 1 else c.t); split <;> omega) (by show (if dB op = true then c.t + 1 else c.t) ≤ c.n + 1; split <;> omega);exact ⟨by have := this.1; show c.n ≤ _; simp only at this; omega, this.2⟩
theorem acV : ∀ (l : List ak) (d : Int) (c : oO), 0 ≤ c.n → c.n ≤ 61 → 0 ≤ c.t → c.t ≤ c.n → c.n ≤ (nJ l d c).n ∧ (nJ l d c).n ≤ 61 ∧ 0 ≤ (nJ l d c).t ∧ (nJ l d c).t ≤ (nJ l d c).n
 | [], d, c, h0, h1, h2, h3 => by simp only [nJ]; exact ⟨Int.le_refl _, h1, h2, h3⟩
 | k :: r, d, c, h0, h1, h2, h3 => by
  simp only [nJ];split
  ·exact ⟨Int.le_refl _, h1, h2, h3⟩
  ·have a := acU k d c h0 ag h2 h3;have b := acV r d (mV k d c) ag a.2.1 a.2.2.1 a.2.2.2;exact ⟨by omega, b.2⟩
end
end Go.Proofs.YtapejnikpmfddaaGreat.X
namespace Go.Proofs.YtapejnikpmfddaaGreat.P
open Go.RowKit Go.Proofs.aI.bM Go.Proofs.aI.dG Go.Proofs.aI.dM
attribute [local go_sem] nE nG nH nI nW nX nY nZ

def qJ.l0 : Nat → Int → Int → List Int → Int → Int → Option (Bool)
 | 0, _, _, _, _, _ => none
 | k + 1, x1, x5, x8, x9, pM => if pM < x9 then (if 0 ≤ pM then (if pM < (x8.length : Int) then (if (rd x8 pM) ≤ x5 then (some false) else (if (rd x8 pM) ≥ x1 then (some false) else (qJ.l0 k x1 (rd x8 pM) x8 x9 (wrap64 (pM + 1))))) else (none)) else (none)) else (some true)
def qJ.f (k : Nat) (l0 : List Int) (a1 : Int) : Option (Bool) := qJ.l0 k a1 (-1) l0 (l0.length : Int) 0
theorem qJ.calls (k : Nat) (A0 : Option Addr) (c0 : Nat) (l0 : List Int) (a1 : Int) (r : Bool) (w : World) (hr0 : Kd.C (Kd.int .i64) w A0 l0.length l0) (hc0 : l0.length ≤ c0) (h : qJ.f k l0 a1 = some r) :
  Calls Tryz.prog 26 #[.slice A0 l0.length c0, .int .i64 a1] w fun e w' => e = .returned (.bool r) ∧ bC w w' := by
 have pQ := Zd.mk hr0;have EH := Zd.mk hc0;clear hr0 hc0;have H : (qJ.l0 k a1 (-1) l0 (l0.length : Int) 0) = some r := h;clear h;have H' := Zd.mk H;clear H;go_enter Tryz.func26, Tryz.ntmps26;go_wp2;go_loopg [5, 10] k (fun kq v5 v10 w' => ∃ (wh : Int) (dN : Int), v5 = .int .i64 wh ∧ v10 = .int .i64 dN ∧ Zd (qJ.l0 kq a1 wh l0 (l0.length : Int) dN = some r) ∧ Zd (kq ≤ k) ∧ bC w w')
 case atStart => exact ⟨((-1)), (0), (by first | rfl | (simp; done) | (simp [*]; done)), (by first | rfl | (simp; done) | (simp [*]; done)), H', ⟨Nat.le_refl _⟩, by repeat (first | exact bC.refl _ | apply bC.step)⟩
 case round =>
  clear H'
  try clear c2
  try clear p2
  obtain ⟨wh, dN, rfl, rfl, HA, dR, ⟨m1, rfl⟩⟩ := hrel;cases gk with
  | zero => exact absurd HA.out (by simp [qJ.l0])
  | succ k1 =>
   have H := HA.out;clear HA;simp only [qJ.l0] at H;by_cases c3 : dN < (l0.length : Int)
   ·rw [if_pos c3] at H;have gN : decide (dN < (l0.length : Int)) = true := decide_eq_true c3;clear c3;by_cases c4 : 0 ≤ dN
    ·rw [if_pos c4] at H;have CP : decide (0 ≤ dN) = true := decide_eq_true c4;clear c4;by_cases c5 : dN < (l0.length : Int)
     ·rw [if_pos c5] at H;have yz : decide (dN < (l0.length : Int)) = true := decide_eq_true c5;clear c5;by_cases c6 : (rd l0 dN) ≤ wh
      ·rw [if_pos c6] at H;have gI : decide ((rd l0 dN) ≤ wh) = true := decide_eq_true c6;clear c6;obtain rfl := Option.some.inj H;have yA : 0 ≤ (dN : Int) := of_decide_eq_true (by first | (with_reducible assumption) | assumption);have yB : dN < (l0.length : Int) := of_decide_eq_true (by first | (with_reducible assumption) | assumption);obtain ⟨acW, e126, acX⟩ := Kd.xx pQ.out dN yA yB;cases e126;replace yA := eq_true yA;replace yB := eq_true yB;go_wp2;go_ret;exact ⟨by first | rfl | (simp; done) | (simp [*]; done), by repeat (first | exact bC.refl _ | apply bC.step)⟩
      ·rw [if_neg c6] at H;have gI : decide ((rd l0 dN) ≤ wh) = false := decide_eq_false c6;clear c6;by_cases c7 : (rd l0 dN) ≥ a1
       ·rw [if_pos c7] at H;have uI : decide (a1 ≤ (rd l0 dN)) = true := decide_eq_true c7;clear c7;obtain rfl := Option.some.inj H;have yA : 0 ≤ (dN : Int) := of_decide_eq_true (by first | (with_reducible assumption) | assumption);have yB : dN < (l0.length : Int) := of_decide_eq_true (by first | (with_reducible assumption) | assumption);obtain ⟨acW, e126, acX⟩ := Kd.xx pQ.out dN yA yB;cases e126;replace yA := eq_true yA;replace yB := eq_true yB;go_wp2;go_ret;exact ⟨by first | rfl | (simp; done) | (simp [*]; done), by repeat (first | exact bC.refl _ | apply bC.step)⟩
       ·rw [if_neg c7] at H;have uI : decide (a1 ≤ (rd l0 dN)) = false := decide_eq_false c7;clear c7;have H' := Zd.mk H;clear H;have yA : 0 ≤ (dN : Int) := of_decide_eq_true (by first | (with_reducible assumption) | assumption);have yB : dN < (l0.length : Int) := of_decide_eq_true (by first | (with_reducible assumption) | assumption);obtain ⟨acW, e126, acX⟩ := Kd.xx pQ.out dN yA yB;cases e126;replace yA := eq_true yA;replace yB := eq_true yB;go_wp2;go_roundg k1
        case measure => have := dR.out; omega
        case rel => exact ⟨(rd l0 dN), (wrap64 (dN + 1)), (by first | rfl | (simp; done) | (simp [*]; done)), (by first | rfl | (simp; done) | (simp [*]; done)), H', ⟨by have := dR.out; omega⟩, by repeat (first | exact bC.refl _ | apply bC.step)⟩
     ·rw [if_neg c5] at H;exact absurd H (by simp)
    ·rw [if_neg c4] at H;exact absurd H (by simp)
   ·rw [if_neg c3] at H;have gN : decide (dN < (l0.length : Int)) = false := decide_eq_false c3;clear c3;obtain rfl := Option.some.inj H;go_wp2;go_ret;exact ⟨by first | rfl | (simp; done) | (simp [*]; done), by repeat (first | exact bC.refl _ | apply bC.step)⟩

attribute [local go_sem] nE nG nH nI nW nX nY nZ

def pR.l0 : Nat → Int → List (List Int) → Int → Int → Option (Int)
 | 0, _, _, _, _ => none
 | k + 1, x3, xB, x27, x28 => if x28 < x27 then (if 0 ≤ x28 then (if x28 < (xB.length : Int) then (if ((jU xB x28).length : Int) = 0 then (some 1) else ((qJ.f k (jU xB x28) x3).bind fun t130 => (if t130 = true then (pR.l0 k x3 xB x27 (wrap64 (x28 + 1))) else (some 1)))) else (none)) else (none)) else (some 0)
def pR.f (k : Nat) (aV : List Int) (bF : List Int) (af : List (List Int)) : Option (Int) := if (aV.length : Int) > 200 then (some 7) else (if (af.length : Int) = (aV.length : Int) then ((qJ.f k bF (aV.length : Int)).bind fun t128 => (if t128 = true then (pR.l0 k (aV.length : Int) af (af.length : Int) 0) else (some 1))) else (some 1))
theorem pR.calls (k : Nat) (eD : Option Addr) (eF : Nat) (aV : List Int) (dX : Option Addr) (dY : Nat) (bF : List Int) (aM : Option Addr) (aC : Nat) (af : List (List Int)) (r : Int) (w : World) (qK : Kd.C (Kd.int .u32) w eD aV.length aV) (qL : aV.length ≤ eF) (qM : Kd.C (Kd.int .i64) w dX bF.length bF) (qN : bF.length ≤ dY) (dn : Kd.C (Kd.slice 3 (Kd.int .i64)) w aM af.length af) (dw : af.length ≤ aC) (h : pR.f k aV bF af = some r) :
  Calls Tryz.prog 10 #[.agg #[.slice eD aV.length eF, .slice dX bF.length dY, .slice aM af.length aC]] w fun e w' => e = .returned (.int .i64 r) ∧ Below w.heap.size w w' := by
 have anM := Tryz.underlying26;have acY := Zd.mk qK;have acZ := Zd.mk qL;clear qK qL;have Hr := Zd.mk qM;have Ht := Zd.mk qN;clear qM qN;have fI := Zd.mk dn;have jw := Zd.mk dw;clear dn dw;have HB := Zd.mk (Below.refl w.heap.size w);have H : (if (aV.length : Int) > 200 then (some 7) else (if (af.length : Int) = (aV.length : Int) then ((qJ.f k bF (aV.length : Int)).bind fun t128 => (if t128 = true then (pR.l0 k (aV.length : Int) af (af.length : Int) 0) else (some 1))) else (some 1))) = some r := h;clear h;by_cases c2 : (aV.length : Int) > 200
 ·rw [if_pos c2] at H;have yC : decide (200 < (aV.length : Int)) = true := decide_eq_true c2;have Bj : decide (200 < aV.length) = true := decide_eq_true ag;clear c2;obtain rfl := Option.some.inj H;go_enter Tryz.func10, Tryz.ntmps10;go_wp2_with (first | ((with_reducible refine gH (N := 1) rfl ?_); refine gG ?hg (N := 1) ?hd (cs := #[.slice eD aV.length eF, .slice dX bF.length dY, .slice aM af.length aC]) (t := 26) ?hr ?_; (case hd => rfl); (case hg => rfl); (case hr => first | (go_simp; done) | (go_simp; rfl)); intro mF hg w3 bG hb; have aJ := Zd.mk (df B_ hb); have aK := Zd.mk (bG); have aU := Zd.mk ((by rw [hg]; exact (bP B_) : w.heap.size ≤ mF)); have aZ := Zd.mk ((by rw [hg]; exact (bP B_) : w.heap.size ≤ mF)); clear HB; have HB := aJ; have jV := aK; have Um := aU; have Un := aZ; clear aJ aK aU aZ; clear hb bG hg; have Uo : w3.cell? ⟨mF, 0, none⟩ = some (.slice eD aV.length eF) := (aj jV.out 0).trans rfl; have Uq : w3.cell? ⟨mF, 1, none⟩ = some (.slice dX bF.length dY) := (aj jV.out 1).trans rfl; have Ur : w3.cell? ⟨mF, 2, none⟩ = some (.slice aM af.length aC) := (aj jV.out 2).trans rfl; have Us := aN jV.out 0; have Ut := aN jV.out 1; have Uu := aN jV.out 2));go_ret;exact ⟨by first | rfl | (simp [bS, bT] <;> rfl) | (simp [*, bS, bT] <;> rfl), B_⟩
 ·rw [if_neg c2] at H;have yC : decide (200 < (aV.length : Int)) = false := decide_eq_false c2;have Bj : decide (200 < aV.length) = false := decide_eq_false ag;clear c2;by_cases c5 : (af.length : Int) = (aV.length : Int)
  ·rw [if_pos c5] at H;have yz : ((af.length : Int) == (aV.length : Int)) = true := beq_iff_eq.mpr c5;have Hu : ((af.length : Int) != (aV.length : Int)) = false := bne_eq_false_iff_eq.mpr c5;have J9 : (af.length == aV.length) = true := by first | simpa using c5 | (simp at c5 ⊢; omega)
   clear c5;replace H := Option.bind_eq_some_iff.mp H;obtain ⟨t128, Ka, H⟩ := H;replace H : (if t128 = true then (pR.l0 k (aV.length : Int) af (af.length : Int) 0) else (some 1)) = some r := H;have A6 := Zd.mk Ka;clear Ka;by_cases c7 : t128 = true
   ·subst c7;have H1 : (pR.l0 k (aV.length : Int) af (af.length : Int) 0) = some r := by rw [if_pos rfl] at H; exact H
    clear H;have H := H1;clear H1;have H' := Zd.mk H;clear H;go_enter Tryz.func10, Tryz.ntmps10;go_wp2_with (first | ((with_reducible refine gH (N := 1) rfl ?_); refine gG ?hg (N := 1) ?hd (cs := #[.slice eD aV.length eF, .slice dX bF.length dY, .slice aM af.length aC]) (t := 26) ?hr ?_; (case hd => rfl); (case hg => rfl); (case hr => first | (go_simp; done) | (go_simp; rfl)); intro mF hg w8 bG hb; have aJ := Zd.mk (df B_ hb); have aK := Zd.mk (bG); have aU := Zd.mk ((by rw [hg]; exact (bP B_) : w.heap.size ≤ mF)); have aZ := Zd.mk ((by rw [hg]; exact (bP B_) : w.heap.size ≤ mF)); clear HB; have HB := aJ; have jV := aK; have Um := aU; have Un := aZ; clear aJ aK aU aZ; clear hb bG hg; have zT : w8.cell? ⟨mF, 0, none⟩ = some (.slice eD aV.length eF) := (aj jV.out 0).trans rfl; have zU : w8.cell? ⟨mF, 1, none⟩ = some (.slice dX bF.length dY) := (aj jV.out 1).trans rfl; have Bl : w8.cell? ⟨mF, 2, none⟩ = some (.slice aM af.length aC) := (aj jV.out 2).trans rfl; have zV := aN jV.out 0; have zW := aN jV.out 1; have Bn := aN jV.out 2) | (go_at_call 26; (with_reducible refine (qJ.calls k _ _ bF (aV.length : Int) true _ ?side1 ?side2 A6.out).mono ?_); (case side1 => exact Kd.aQ Hr.out B_); (case side2 => exact Ht.out); rintro e w' ⟨rfl, ⟨nd, rfl⟩⟩));go_loopg [28] k (fun kq v28 w' => ∃ (jy : Int), v28 = .int .i64 jy ∧ Zd (pR.l0 kq (aV.length : Int) af (af.length : Int) jy = some r) ∧ Zd (kq ≤ k) ∧ Zd (w'.heap[mF]? = some (.cells #[(.slice eD aV.length eF), (.slice dX bF.length dY), (.slice aM af.length aC)] 26 (0, 0))) ∧ Zd (Below w.heap.size w w'))
    case atStart => exact ⟨(0), (by first | rfl | (simp; done) | (simp [*]; done)), H', ⟨Nat.le_refl _⟩, ⟨K_⟩, ⟨B_⟩⟩
    case round =>
     clear H'
     try clear c1
     try clear c2
     try clear yC
     try clear Bj
     try clear p2
     try clear c5
     try clear yz
     try clear Hu
     try clear J9
     try clear c7
     try clear Uo
     try clear Uq
     try clear Ur
     try clear zT
     try clear zU
     try clear Bl
     try clear Us
     try clear Ut
     try clear Uu
     try clear zV
     try clear zW
     try clear Bn
     obtain ⟨jy, rfl, HA, dR, jV, HB⟩ := hrel;cases gk with
     | zero => exact absurd HA.out (by simp [pR.l0])
     | succ k1 =>
      have H := HA.out;clear HA;simp only [pR.l0] at H;by_cases c10 : jy < (af.length : Int)
      ·rw [if_pos c10] at H;have EI : decide (jy < (af.length : Int)) = true := decide_eq_true c10;clear c10;by_cases c11 : 0 ≤ jy
       ·rw [if_pos c11] at H;have Bo : decide (0 ≤ jy) = true := decide_eq_true c11;clear c11;by_cases c12 : jy < (af.length : Int)
        ·rw [if_pos c12] at H;have anN : decide (jy < (af.length : Int)) = true := decide_eq_true c12;clear c12;by_cases c13 : ((jU af jy).length : Int) = 0
         ·rw [if_pos c13] at H;have Hw : (((jU af jy).length : Int) == 0) = true := beq_iff_eq.mpr c13;have anO : (((jU af jy).length : Int) != 0) = false := bne_eq_false_iff_eq.mpr c13;clear c13;obtain rfl := Option.some.inj H;have yD : 0 ≤ (jy : Int) := of_decide_eq_true (by first | (with_reducible assumption) | assumption);have yE : jy < (af.length : Int) := of_decide_eq_true (by first | (with_reducible assumption) | assumption);obtain ⟨ac0, ac1, ac2, e129, yF, CQ, CR⟩ := Hq fI.out jy yD yE;cases e129;replace yF := (HB.out.cell (World.block_lt_of_cell? w _ yF)).trans yF;have O7 := Zd.mk CR;have O8 := Zd.mk CQ;clear CR CQ;replace yD := eq_true yD;replace yE := eq_true yE;go_wp2;go_ret;exact ⟨by first | rfl | (simp [bS, bT] <;> rfl) | (simp [*, bS, bT] <;> rfl), B_⟩
         ·rw [if_neg c13] at H;have Hw : (((jU af jy).length : Int) == 0) = false := beq_eq_false_iff_ne.mpr c13;have anO : (((jU af jy).length : Int) != 0) = true := bne_iff_ne.mpr c13;have au9 : ¬ ((jU af jy) = []) := fun h_ => c13 (by rw [h_]; rfl);replace H := Option.bind_eq_some_iff.mp H;obtain ⟨t130, CS, H⟩ := H;replace H : (if t130 = true then (pR.l0 k1 (aV.length : Int) af (af.length : Int) (wrap64 (jy + 1))) else (some 1)) = some r := H;have EJ := Zd.mk CS;clear CS;by_cases c15 : t130 = true
          ·subst c15;have H1 : (pR.l0 k1 (aV.length : Int) af (af.length : Int) (wrap64 (jy + 1))) = some r := by rw [if_pos rfl] at H; exact H
           clear H;have H := H1;clear H1;have H' := Zd.mk H;clear H;have yD : 0 ≤ (jy : Int) := of_decide_eq_true (by first | (with_reducible assumption) | assumption);have yE : jy < (af.length : Int) := of_decide_eq_true (by first | (with_reducible assumption) | assumption);obtain ⟨ac0, ac1, ac2, e129, yF, CQ, CR⟩ := Hq fI.out jy yD yE;cases e129;replace yF := (HB.out.cell (World.block_lt_of_cell? w _ yF)).trans yF;have O7 := Zd.mk CR;have O8 := Zd.mk CQ;clear CR CQ;replace yD := eq_true yD;replace yE := eq_true yE;go_wp2_with (first | (go_at_call 26; (with_reducible refine (qJ.calls k1 _ _ (jU af jy) (aV.length : Int) true _ ?side1 ?side2 EJ.out).mono ?_); (case side1 => exact Kd.aQ O7.out B_); (case side2 => exact O8.out); rintro e w' ⟨rfl, ⟨nd, rfl⟩⟩));go_roundg k1
           case measure => have := dR.out; omega
           case rel => exact ⟨(wrap64 (jy + 1)), (by first | rfl | (simp; done) | (simp [*]; done)), H', ⟨by have := dR.out; omega⟩, ⟨K_⟩, ⟨B_⟩⟩
          ·replace c15 := Bool.eq_false_iff.mpr c15;subst c15;have H1 : (some 1) = some r := by rw [if_neg (show ¬ (false = true) by decide)] at H; exact H
           clear H;have H := H1;clear H1;obtain rfl := Option.some.inj H;have yD : 0 ≤ (jy : Int) := of_decide_eq_true (by first | (with_reducible assumption) | assumption);have yE : jy < (af.length : Int) := of_decide_eq_true (by first | (with_reducible assumption) | assumption);obtain ⟨ac0, ac1, ac2, e129, yF, CQ, CR⟩ := Hq fI.out jy yD yE;cases e129;replace yF := (HB.out.cell (World.block_lt_of_cell? w _ yF)).trans yF;have O7 := Zd.mk CR;have O8 := Zd.mk CQ;clear CR CQ;replace yD := eq_true yD;replace yE := eq_true yE;go_wp2_with (first | (go_at_call 26; (with_reducible refine (qJ.calls k1 _ _ (jU af jy) (aV.length : Int) false _ ?side1 ?side2 EJ.out).mono ?_); (case side1 => exact Kd.aQ O7.out B_); (case side2 => exact O8.out); rintro e w' ⟨rfl, ⟨nd, rfl⟩⟩));go_ret;exact ⟨by first | rfl | (simp [bS, bT] <;> rfl) | (simp [*, bS, bT] <;> rfl), B_⟩
        ·rw [if_neg c12] at H;exact absurd H (by simp)
       ·rw [if_neg c11] at H;exact absurd H (by simp)
      ·rw [if_neg c10] at H;have EI : decide (jy < (af.length : Int)) = false := decide_eq_false c10;clear c10;obtain rfl := Option.some.inj H;go_wp2;go_ret;exact ⟨by first | rfl | (simp [bS, bT] <;> rfl) | (simp [*, bS, bT] <;> rfl), B_⟩
   ·replace c7 := Bool.eq_false_iff.mpr c7;subst c7;have H1 : (some 1) = some r := by rw [if_neg (show ¬ (false = true) by decide)] at H; exact H
    clear H;have H := H1;clear H1;obtain rfl := Option.some.inj H;go_enter Tryz.func10, Tryz.ntmps10;go_wp2_with (first | ((with_reducible refine gH (N := 1) rfl ?_); refine gG ?hg (N := 1) ?hd (cs := #[.slice eD aV.length eF, .slice dX bF.length dY, .slice aM af.length aC]) (t := 26) ?hr ?_; (case hd => rfl); (case hg => rfl); (case hr => first | (go_simp; done) | (go_simp; rfl)); intro mF hg w16 bG hb; have aJ := Zd.mk (df B_ hb); have aK := Zd.mk (bG); have aU := Zd.mk ((by rw [hg]; exact (bP B_) : w.heap.size ≤ mF)); have aZ := Zd.mk ((by rw [hg]; exact (bP B_) : w.heap.size ≤ mF)); clear HB; have HB := aJ; have jV := aK; have Um := aU; have Un := aZ; clear aJ aK aU aZ; clear hb bG hg; have ac3 : w16.cell? ⟨mF, 0, none⟩ = some (.slice eD aV.length eF) := (aj jV.out 0).trans rfl; have ac4 : w16.cell? ⟨mF, 1, none⟩ = some (.slice dX bF.length dY) := (aj jV.out 1).trans rfl; have anP : w16.cell? ⟨mF, 2, none⟩ = some (.slice aM af.length aC) := (aj jV.out 2).trans rfl; have ac5 := aN jV.out 0; have ac6 := aN jV.out 1; have anQ := aN jV.out 2) | (go_at_call 26; (with_reducible refine (qJ.calls k _ _ bF (aV.length : Int) false _ ?side1 ?side2 A6.out).mono ?_); (case side1 => exact Kd.aQ Hr.out B_); (case side2 => exact Ht.out); rintro e w' ⟨rfl, ⟨nd, rfl⟩⟩));go_ret;exact ⟨by first | rfl | (simp [bS, bT] <;> rfl) | (simp [*, bS, bT] <;> rfl), B_⟩
  ·rw [if_neg c5] at H;have yz : ((af.length : Int) == (aV.length : Int)) = false := beq_eq_false_iff_ne.mpr c5;have Hu : ((af.length : Int) != (aV.length : Int)) = true := bne_iff_ne.mpr c5;have J9 : (af.length == aV.length) = false := by first | simpa using c5 | (simp at c5 ⊢; omega)
   obtain rfl := Option.some.inj H;go_enter Tryz.func10, Tryz.ntmps10;go_wp2_with (first | ((with_reducible refine gH (N := 1) rfl ?_); refine gG ?hg (N := 1) ?hd (cs := #[.slice eD aV.length eF, .slice dX bF.length dY, .slice aM af.length aC]) (t := 26) ?hr ?_; (case hd => rfl); (case hg => rfl); (case hr => first | (go_simp; done) | (go_simp; rfl)); intro mF hg su bG hb; have aJ := Zd.mk (df B_ hb); have aK := Zd.mk (bG); have aU := Zd.mk ((by rw [hg]; exact (bP B_) : w.heap.size ≤ mF)); have aZ := Zd.mk ((by rw [hg]; exact (bP B_) : w.heap.size ≤ mF)); clear HB; have HB := aJ; have jV := aK; have Um := aU; have Un := aZ; clear aJ aK aU aZ; clear hb bG hg; have anR : su.cell? ⟨mF, 0, none⟩ = some (.slice eD aV.length eF) := (aj jV.out 0).trans rfl; have anS : su.cell? ⟨mF, 1, none⟩ = some (.slice dX bF.length dY) := (aj jV.out 1).trans rfl; have anT : su.cell? ⟨mF, 2, none⟩ = some (.slice aM af.length aC) := (aj jV.out 2).trans rfl; have anU := aN jV.out 0; have anV := aN jV.out 1; have anW := aN jV.out 2));go_ret;exact ⟨by first | rfl | (simp [bS, bT] <;> rfl) | (simp [*, bS, bT] <;> rfl), B_⟩

def CU.f (a0 : Int) : Option (Bool) := if a0 ≥ 6 then (some (decide (a0 ≤ 8))) else (some false)
theorem CU.calls (a0 : Int) (r : Bool) (w : World) (h : CU.f a0 = some r) :
  Calls Tryz.prog 88 #[.int .i64 a0] w fun e w' => e = .returned (.bool r) ∧ bC w w' := by
 have H : (if a0 ≥ 6 then (some (decide (a0 ≤ 8))) else (some false)) = some r := h;clear h;by_cases c2 : a0 ≥ 6
 ·rw [if_pos c2] at H;have yC : decide (6 ≤ a0) = true := decide_eq_true c2;clear c2;obtain rfl := Option.some.inj H;go_enter Tryz.func88, Tryz.ntmps88;go_wp2;go_ret;exact ⟨by first | rfl | (simp; done) | (simp [*]; done), by repeat (first | exact bC.refl _ | apply bC.step)⟩
 ·rw [if_neg c2] at H;have yC : decide (6 ≤ a0) = false := decide_eq_false c2;clear c2;obtain rfl := Option.some.inj H;go_enter Tryz.func88, Tryz.ntmps88;go_wp2;go_ret;exact ⟨by first | rfl | (simp; done) | (simp [*]; done), by repeat (first | exact bC.refl _ | apply bC.step)⟩

end Go.Proofs.YtapejnikpmfddaaGreat.P
namespace Go.Proofs.YtapejnikpmfddaaGreat.X
open Go.RowKit Go.Proofs.aI.bM Go.Proofs.aI.dG Go.Proofs.aI.dM
open Go.Proofs.YtapejnikpmfddaaGreat.P
theorem ac7 (op : Int) : CU.f op = some (dB op) := by
 unfold CU.f dB;split
 ·rename_i h; rw [decide_eq_true (p := 6 ≤ op) h]; rfl
 ·rename_i h; rw [decide_eq_false (p := 6 ≤ op) ag]; rfl
def EK (w : World) (g : Nat) (c : oO) : Prop := w.heap[g]? = some (.cells #[.int .i64 c.n, .int .i64 c.t, .bool c.deep] 99 (0, 0))
theorem anX (s : ak) (d : Int) (c : oO) (g : Nat) (A : Option Addr) (cp : Nat) (w0 w : World) (hd : 12 < d) (hI : EK w g c) (hB : Below w0.heap.size w0 w) (hg0 : w0.heap.size ≤ g) :
  Calls Tryz.prog 84 #[.pointer (some ⟨g, 0, none⟩), .agg #[.int .i64 s.f0, .int .i64 s.f1, .slice A s.f2.length cp], .int .i64 d] w fun e w' => e = .returned (.tuple #[]) ∧ EK w' g ⟨c.n, c.t, true⟩ ∧ Below w0.heap.size w0 w' ∧ kU w w' g none := by
 have hg : g < w.heap.size := (Array.getElem?_eq_some_iff.1 hI).1;have hu := Tryz.underlying29;have huc := Tryz.underlying99;have c0 : w.cell? ⟨g, 0, none⟩ = some (.int .i64 c.n) := (aj hI 0).trans rfl;have c1 : w.cell? ⟨g, 1, none⟩ = some (.int .i64 c.t) := (aj hI 1).trans rfl;have c2 : w.cell? ⟨g, 2, none⟩ = some (.bool c.deep) := (aj hI 2).trans rfl;have f2 : w.frozen? ⟨g, 2, none⟩ = false := aN hI 2;have HI := Zd.mk hI;clear hI;go_enter Tryz.func84, Tryz.ntmps84;go_wp2
 first | go_end0 | ((try simp only [Exit.inBlock, Exit.then]); refine bodyPost_ret (results_none rfl _ _ _) rfl ?_)
 exact ⟨rfl, (bf (jc HI.out 2 _) _).trans rfl, aW (hB.setCell hg0 _) _, JM (kU.CB (kU.refl _ _ _) 2 _) _⟩
theorem yG {w0 w : World} {A : Option Addr} {n : Nat} {xs : List ak} (h : Kd.C bK w0 A n xs) (hb : Below w0.heap.size w0 w) (j : Nat) (hj : j < n) (hx : j < xs.length) :
  ∃ ad A2 c2, A = some ad ∧ w.cell? (ad.add (j * 3)) = some (.int .i64 (xs[j]'hx).f0) ∧ w.cell? ⟨(ad.add (j * 3)).block, (ad.add (j * 3)).off + 1, none⟩ = some (.int .i64 (xs[j]'hx).f1) ∧ w.cell? ⟨(ad.add (j * 3)).block, (ad.add (j * 3)).off + 2, none⟩ = some (.slice A2 (xs[j]'hx).f2.length c2) ∧ (xs[j]'hx).f2.length ≤ c2 ∧ Kd.C bK w0 A2 (xs[j]'hx).f2.length (xs[j]'hx).f2 := by
 obtain ⟨ad, A2, c2, e, h0, h1, h2, hl, hk⟩ := CO h (j : Int) ag ag;have er : aY xs (j : Int) = xs[j]'hx := by
  unfold aY;rw [Int.toNat_natCast, List.getD_eq_getElem?_getD, List.getElem?_eq_getElem hx]; rfl
 rw [Int.toNat_natCast, er] at h0 h1 h2;rw [er] at hl hk;exact ⟨ad, A2, c2, e, (hb.cell (World.block_lt_of_cell? w0 _ h0)).trans h0, (hb.cell (World.block_lt_of_cell? w0 _ h1)).trans h1, (hb.cell (World.block_lt_of_cell? w0 _ h2)).trans h2, hl, hk⟩
def O9 (g : Nat) (w0 : World) (s : ak) : Prop := ∀ (d : Int) (c : oO) (A : Option Addr) (cp : Nat) (w : World), 1 ≤ d → d ≤ 13 → 0 ≤ c.n → c.n ≤ 60 → 0 ≤ c.t → c.t ≤ c.n → EK w g c → Below w0.heap.size w0 w → w0.heap.size ≤ g → Kd.C bK w0 A s.f2.length s.f2 → s.f2.length ≤ cp →
  Calls Tryz.prog 84 #[.pointer (some ⟨g, 0, none⟩), .agg #[.int .i64 s.f0, .int .i64 s.f1, .slice A s.f2.length cp], .int .i64 d] w fun e w' => e = .returned (.tuple #[]) ∧ EK w' g (mV s d c) ∧ Below w0.heap.size w0 w' ∧ kU w w' g none
theorem anY (g : Nat) (w0 : World) (s : ak) (ih : ∀ k ∈ s.f2, O9 g w0 k) : O9 g w0 s := by
 intro d c A cp w hd1 hd2 hn0 hn1 ht0 ht1 hI hB hg0 hr hc;by_cases hd : 12 < d
 ·refine (anX s d c g A cp w0 w hd hI hB hg0).mono ?_;rintro e w' ⟨rfl, h1, h2, h3⟩;refine ⟨rfl, ?_, h2, h3⟩
  ·cases s
   simp only [mV];rw [if_pos hd];exact h1
 have hg : g < w.heap.size := (Array.getElem?_eq_some_iff.1 hI).1;have hu := Tryz.underlying29;have huc := Tryz.underlying99;have c0 : w.cell? ⟨g, 0, none⟩ = some (.int .i64 c.n) := (aj hI 0).trans rfl;have c1 : w.cell? ⟨g, 1, none⟩ = some (.int .i64 c.t) := (aj hI 1).trans rfl;have c2 : w.cell? ⟨g, 2, none⟩ = some (.bool c.deep) := (aj hI 2).trans rfl;have f0 : w.frozen? ⟨g, 0, none⟩ = false := aN hI 0;have f1 : w.frozen? ⟨g, 1, none⟩ = false := aN hI 1;have HI := Zd.mk hI;have HR := Zd.mk hr;have HC := Zd.mk hc;have HB := Zd.mk hB;clear hI hr hc hB;have hng : ¬ w.heap.size = g := by omega
 have hgo : mV s d c = nJ s.f2 (d + 1) ⟨c.n + 1, if dB s.f0 = true then c.t + 1 else c.t, c.deep⟩ := by
  cases s
  simp only [mV];rw [if_neg hd]
 have HG := Zd.mk hgo;have hlen := Kd.pG HR.out;clear hgo;have IH := Zd.mk ih;clear ih;have hdd : ¬ 12 < d := hd;by_cases ht : dB s.f0 = true
 all_goals
  go_enter Tryz.func84, Tryz.ntmps84;go_wp2_with (go_at_call 88; refine (CU.calls _ (dB s.f0) _ (ac7 _)).mono ?_; rintro e w1 ⟨rfl, hd0⟩; obtain ⟨m, rfl⟩ := hd0.out);go_loopg [33] s.f2.length (fun kq v33 w' => ∃ (j : Nat) (c' : oO), j + kq = s.f2.length ∧ v33 = .int .i64 j ∧ EK w' g c' ∧ Zd (mV s d c = nJ (s.f2.drop j) (d + 1) c') ∧ 0 ≤ c'.n ∧ c'.n ≤ 61 ∧ 0 ≤ c'.t ∧ c'.t ≤ c'.n ∧ Zd (Below w0.heap.size w0 w') ∧ Zd (kU w w' g none))
  case atStart =>
   first
    | exact ⟨0, ⟨c.n + 1, c.t + 1, c.deep⟩, by omega, rfl, (jc (bd_ (bf (jc HI.out 0 _) _) m) 1 _).trans rfl, ⟨by rw [HG.out, if_pos ht]; rfl⟩, by show 0 ≤ c.n + 1; omega, by show c.n + 1 ≤ 61; omega, by show 0 ≤ c.t + 1; omega, by show c.t + 1 ≤ c.n + 1; omega, ⟨(fB (aW (HB.out.setCell hg0 _) _) m).setCell hg0 _⟩, ⟨kU.CB (aaB (JM (kU.CB (kU.refl _ _ _) 0 _) _) m) 1 _⟩⟩
    | exact ⟨0, ⟨c.n + 1, c.t, c.deep⟩, by omega, rfl, (bd_ (bf (jc HI.out 0 _) _) m).trans rfl, ⟨by rw [HG.out, if_neg ht]; rfl⟩, by show 0 ≤ c.n + 1; omega, by show c.n + 1 ≤ 61; omega, ht0, by show c.t ≤ c.n + 1; omega, ⟨fB (aW (HB.out.setCell hg0 _) _) m⟩, ⟨aaB (JM (kU.CB (kU.refl _ _ _) 0 _) _) m⟩⟩
  case round =>
   obtain ⟨j, c', hj, rfl, hI, HA, ac8, hn1', ht0', ht1', HB, HK⟩ := hrel;have HJ := Zd.mk hj;clear hj;have c0 : wr.cell? ⟨g, 0, none⟩ = some (.int .i64 c'.n) := (aj hI 0).trans rfl;have HI := Zd.mk hI;have hgr : g < wr.heap.size := (Array.getElem?_eq_some_iff.1 hI).1;clear hI;by_cases hlt : j < s.f2.length
   ·obtain ⟨ad, A2, cp2, e0, hx0, hx1, hx2, hl2, hk2⟩ := yG HR.out HB.out j hlt hlt;cases e0;have oh := Zd.mk hk2;have HL2 := Zd.mk hl2;clear hk2 hl2;have hnw : ¬ wr.heap.size = g := by omega
    have hstep : nJ (s.f2.drop j) (d + 1) c' = if c'.n > 60 then c' else nJ (s.f2.drop (j + 1)) (d + 1) (mV s.f2[j] (d + 1) c') := by
     rw [List.drop_eq_getElem_cons hlt];simp only [nJ]
    have HS := Zd.mk hstep;clear hstep;have hmem : s.f2[j] ∈ s.f2 := List.getElem_mem hlt;by_cases h60 : 60 < c'.n
    ·go_wp2
     first | go_end0 | ((try simp only [Exit.inBlock, Exit.then]); refine bodyPost_ret (results_none rfl _ _ _) rfl ?_)
     refine ⟨rfl, ?_, ?_, ?_⟩
     ·rw [HA.out, HS.out, if_pos h60];exact bf HI.out _
     ·exact aW HB.out _
     ·exact JM HK.out _
    ·have hk := IH.out s.f2[j] hmem (d + 1) c' A2 cp2;have HKK := Zd.mk hk;clear hk;have hle := acU s.f2[j] (d + 1) c' ac8 ag ht0' ht1';have oP := Zd.mk hle;clear hle;go_wp2_with (go_at_call 84; refine (HKK.out _ ag ag ac8 ag ht0' ht1' (bf HI.out _) (aW HB.out _) hg0 oh.out HL2.out).mono ?_; rintro e w2 ⟨rfl, hI2, hB2, hK2⟩; have HI2 := Zd.mk hI2; have HB2 := Zd.mk hB2; have anZ := Zd.mk hK2; clear hI2 hB2 hK2);go_roundg (gk - 1)
     case measure => have := HJ.out; omega
     case rel => exact ⟨j + 1, mV s.f2[j] (d + 1) c', by have := HJ.out; omega, by go_num, HI2.out, ⟨by rw [HA.out, HS.out, if_neg ag]⟩, by have := oP.out; omega, oP.out.2.1, oP.out.2.2.1, oP.out.2.2.2, ⟨HB2.out⟩, ⟨(JM HK.out _).trans anZ.out (.inl rfl)⟩⟩
   ·go_wp2
    first | go_end0 | ((try simp only [Exit.inBlock, Exit.then]); refine bodyPost_ret (results_none rfl _ _ _) rfl ?_)
    refine ⟨rfl, ?_, HB.out, HK.out⟩;rw [HA.out, List.drop_eq_nil_of_le ag];exact HI.out
mutual
theorem ac9 (g : Nat) (w0 : World) : ∀ s : ak, O9 g w0 s
 | ⟨op, m, kids⟩ => anY g w0 ⟨op, m, kids⟩ (ac_ g w0 kids)
theorem ac_ (g : Nat) (w0 : World) : ∀ (l : List ak) (k : ak), k ∈ l → O9 g w0 k
 | [], k, hk => by simp at hk
 | a :: r, k, hk => by
  rcases List.mem_cons.1 hk with h | h
  ·rw [h];exact ac9 g w0 a
  ·exact ac_ g w0 r k h
end
def uJ (s : ak) : oO := mV s 1 ⟨0, 0, false⟩
theorem adb (s : ak) (A : Option Addr) (cp : Nat) (w : World) (hr : Kd.C bK w A s.f2.length s.f2) (hc : s.f2.length ≤ cp) :
  Calls Tryz.prog 57 #[.agg #[.int .i64 s.f0, .int .i64 s.f1, .slice A s.f2.length cp]] w fun e w' => ∃ g, e = .returned (.pointer (some ⟨g, 0, none⟩)) ∧ EK w' g (uJ s) ∧ Below w.heap.size w w' ∧ w.heap.size ≤ g := by
 have hu := Tryz.underlying29;have huc := Tryz.underlying99;have HR := Zd.mk hr;have HC := Zd.mk hc;clear hr hc;go_enter Tryz.func57, Tryz.ntmps57;go_wp2_with fail;have hI0 : EK ((w.alloc (.cells #[.int .i64 s.f0, .int .i64 s.f1, .slice A s.f2.length cp] 29)).alloc (.cells #[.int .i64 0, .int .i64 0, .bool false] 99)) (w.heap.size + 1) ⟨0, 0, false⟩ := by
  have := heap_alloc_new (w.alloc (.cells #[.int .i64 s.f0, .int .i64 s.f1, .slice A s.f2.length cp] 29)) (.cells #[.int .i64 0, .int .i64 0, .bool false] 99);have e0 : (w.alloc (.cells #[.int .i64 s.f0, .int .i64 s.f1, .slice A s.f2.length cp] 29)).heap.size = w.heap.size + 1 := by simp
  rw [e0] at this;exact this
 refine (ac9 (w.heap.size + 1) w s 1 ⟨0, 0, false⟩ A cp _ ag ag (by simp) (by simp) (by simp) (by simp) hI0 (aW (aW (Below.refl _ _) _) _) ag HR.out HC.out).mono ?_;rintro e w' ⟨rfl, hI, hB, hK⟩;have HI := Zd.mk hI;have HB := Zd.mk hB;clear hI hB hK hI0;go_wp2;go_ret;exact ⟨w.heap.size + 1, rfl, HI.out, HB.out, by omega⟩
def xC (s : ak) : Bool := decide ((uJ s).n ≤ 60) && !(uJ s).deep
theorem ade.all (s : ak) (A : Option Addr) (cp : Nat) (w : World) (hr : Kd.C bK w A s.f2.length s.f2) (hc : s.f2.length ≤ cp) :
  Calls Tryz.prog 56 #[.agg #[.int .i64 s.f0, .int .i64 s.f1, .slice A s.f2.length cp]] w fun e w' => e = .returned (.bool (xC s)) ∧ Below w.heap.size w w' := by
 have hu := Tryz.underlying29;have huc := Tryz.underlying99;have HR := Zd.mk hr;have HC := Zd.mk hc;have hls : xC s = (decide ((uJ s).n ≤ 60) && !(uJ s).deep) := rfl;have HL := Zd.mk hls;clear hr hc hls;generalize xC s = L at HL ⊢;have hcnt := adb s A cp (w.alloc (.cells #[.int .i64 s.f0, .int .i64 s.f1, .slice A s.f2.length cp] 29)) (Kd.Bf HR.out _) HC.out;have Hy := Zd.mk hcnt;clear hcnt;generalize uJ s = c at HL Hy;by_cases h : c.n ≤ 60
 all_goals
  go_enter Tryz.func56, Tryz.ntmps56;go_wp2_with (go_at_call 57; refine Hy.out.mono ?_; rintro e w1 ⟨g, rfl, hI, hB, hg⟩; have c0 : w1.cell? ⟨g, 0, none⟩ = some (.int .i64 c.n) := (aj hI 0).trans rfl; have c2 : w1.cell? ⟨g, 2, none⟩ = some (.bool c.deep) := (aj hI 2).trans rfl; have HB := Zd.mk hB; clear hB hI hg);go_ret;refine ⟨?_, (aW (Below.refl _ _) _).trans (HB.out.mono (by simp))⟩;rw [HL.out]
  first | (simp [h]; done) | (simp; omega)
def ade.f (av : Int) (ay : Int) (af : List ak) : Option Bool := some (xC ⟨av, ay, af⟩)
end Go.Proofs.YtapejnikpmfddaaGreat.X
namespace Go.Proofs.YtapejnikpmfddaaGreat.gY
open Go.RowKit Go.Proofs.aI.bM
theorem jA {x : Int} (h0 : -9223372036854775808 ≤ x) (h1 : x < 9223372036854775808) : wrap64 x = x := by unfold wrap64; omega
section
variable {α β : Type} {r : α}
theorem dC {c : Prop} [Decidable c] {f g : Nat → Option α} (h : c) (k : Ev f r) : Ev (fun n => if c then f n else g n) r := Ev.congr (fun _ => if_pos h) k
theorem lN {c : Prop} [Decidable c] {f g : Nat → Option α} (h : ¬ c) (k : Ev g r) : Ev (fun n => if c then f n else g n) r := Ev.congr (fun _ => if_neg h) k
theorem Kb {g : Option β} {f : Nat → β → Option α} {a : β} (h : g = some a) (k : Ev (fun n => f n a) r) : Ev (fun n => g.bind (f n)) r := by subst h; exact k
theorem qO {g : Nat → Option β} {f : Nat → β → Option α} {a : β} (h : Ev g a) (k : Ev (fun n => f n a) r) : Ev (fun n => (g n).bind (f n)) r := Ev.bind h k
theorem dx (r : α) : Ev (fun _ => some r) r := Ev.now r
theorem an0 {f g : Nat → Option α} (k : Ev f r) : Ev (fun n => if true = true then f n else g n) r := dC rfl k
theorem an1 {f g : Nat → Option α} (k : Ev g r) : Ev (fun n => if false = true then f n else g n) r := lN (by simp) k
theorem xD {b : Bool} {f g : Nat → Option α} (h1 : b = true → Ev f r) (h2 : b = false → Ev g r) : Ev (fun n => if b = true then f n else g n) r := by
 cases b with
 | true => exact an0 (h1 rfl)
 | false => exact an1 (h2 rfl)
theorem kG {c : Prop} [Decidable c] {f g : Nat → Option α} (h1 : c → Ev f r) (h2 : ¬ c → Ev g r) : Ev (fun n => if c then f n else g n) r := by
 by_cases h : c
 ·exact dC h (h1 h)
 ·exact lN h (h2 h)
theorem fJ {f : Nat → Option α} {r' : α} (h : Ev f r') (e : r' = r) : Ev f r := e ▸ h
theorem eO {g f : Nat → Option α} (h : ∀ k, g (k + 1) = f k) (k : Ev f r) : Ev g r := Ev.step h k
end
theorem an2 (xs : List Int) (n : Nat) : rd xs (n : Int) = xs.getD n 0 := by unfold rd; rw [Int.toNat_natCast]
theorem Ke (p : List Int) (x : Int) (r : List Int) : rd (p ++ x :: r) (p.length : Int) = x := by
 rw [an2, List.getD_eq_getElem?_getD, List.getElem?_append_right (Nat.le_refl _), Nat.sub_self]; rfl
theorem Hz {x : Int} (h : 0 ≤ x) (h2 : x < 18446744073709551616) : IntKind.u64.wrap x = x := by
 simp [IntKind.wrap, IntKind.bits, IntKind.signed]
 omega
end Go.Proofs.YtapejnikpmfddaaGreat.gY
namespace Go.Proofs.YtapejnikpmfddaaGreat.P
open Go.RowKit Go.Proofs.aI.bM Go.Proofs.aI.dG Go.Proofs.aI.dM
attribute [local go_sem] nE nG nH nI nW nX nY nZ

mutual
def iT.j0 : Nat → Int → Bool → Option (Int)
 | 0, _, _ => none
 | k + 1, x0, x3 => if x3 = true then (some 0) else (if x0 = 3 then (iT.j1 k x0 true) else (iT.j1 k x0 (x0 == 6)))
def iT.j1 : Nat → Int → Bool → Option (Int)
 | 0, _, _ => none
 | k + 1, x0, pM => if pM = true then (some 1) else (if x0 = 4 then (some 2) else (if x0 = 5 then (some 2) else (if x0 = 7 then (some 2) else (if x0 = 8 then (some 2) else (some (-1))))))
end
def iT.f (k : Nat) (a0 : Int) : Option (Int) := if a0 = 1 then (iT.j0 k a0 true) else (iT.j0 k a0 (a0 == 2))
theorem iT.calls (k : Nat) (a0 : Int) (r : Int) (w : World) (h : iT.f k a0 = some r) :
  Calls Tryz.prog 85 #[.int .i64 a0] w fun e w' => e = .returned (.int .i64 r) ∧ bC w w' := by
 have H : (if a0 = 1 then (iT.j0 k a0 true) else (iT.j0 k a0 (a0 == 2))) = some r := h;clear h;have tF := Zd.mk H;clear H;go_enter Tryz.func85, Tryz.ntmps85;go_upto_region 1 with (fail)
 go_cut [3] (fun v3 wc => ∃ (kq : Nat) (je : Bool), v3 = .bool je ∧ Zd (iT.j0 kq a0 je = some r) ∧ Zd (kq ≤ k) ∧ bC w wc)
 case first =>
  have H := tF.out;clear tF;by_cases c3 : a0 = 1
  ·rw [if_pos c3] at H;have gN : (a0 == 1) = true := beq_iff_eq.mpr c3;have tH : (a0 != 1) = false := bne_eq_false_iff_eq.mpr c3;clear c3
   (first | rw [gN] | (simp only [bE, dS]; rw [gN]) | skip)
   have H' := Zd.mk H;clear H;go_wp2;go_meet
   case rel => exact ⟨_, (true), (by first | rfl | (simp; done) | (simp [*]; done)), H', ⟨by first | omega | exact Nat.le_refl _⟩, by repeat (first | exact bC.refl _ | apply bC.step)⟩
  ·rw [if_neg c3] at H;have gN : (a0 == 1) = false := beq_eq_false_iff_ne.mpr c3;have tH : (a0 != 1) = true := bne_iff_ne.mpr c3
   (first | rw [gN] | (simp only [bE, dS]; rw [gN]) | skip)
   have H' := Zd.mk H;clear H;go_wp2;go_meet
   case rel => exact ⟨_, ((a0 == 2)), (by first | rfl | (simp; done) | (simp [*]; done)), H', ⟨by first | omega | exact Nat.le_refl _⟩, by repeat (first | exact bC.refl _ | apply bC.step)⟩
 case rest =>
  clear tF
  try clear p2
  try clear c3
  try clear gN
  try clear tH
  obtain ⟨kq, je, rfl, HA, yH, ⟨mc1, rfl⟩⟩ := hcut;cases kq with
  | zero => exact absurd HA.out (by simp [iT.j0])
  | succ EL =>
   have H := HA.out;clear HA;simp only [iT.j0] at H;by_cases c4 : je = true
   ·subst c4;have H1 : (some 0) = some r := by rw [if_pos rfl] at H; exact H
    clear H;have H := H1;clear H1;obtain rfl := Option.some.inj H;go_wp2;go_ret;exact ⟨by first | rfl | (simp; done) | (simp [*]; done), by repeat (first | exact bC.refl _ | apply bC.step)⟩
   ·replace c4 := Bool.eq_false_iff.mpr c4;subst c4;have H1 : (if a0 = 3 then (iT.j1 EL a0 true) else (iT.j1 EL a0 (a0 == 6))) = some r := by rw [if_neg (show ¬ (false = true) by decide)] at H; exact H
    clear H;have H := H1;clear H1;have uK := Zd.mk H;clear H;go_upto_region 3 with (fail)
    go_cut [10] (fun v10 wc => ∃ (kq : Nat) (Pb : Bool), v10 = .bool Pb ∧ Zd (iT.j1 kq a0 Pb = some r) ∧ Zd (kq ≤ EL) ∧ bC w wc)
    case first =>
     have H := uK.out;clear uK;by_cases c6 : a0 = 3
     ·rw [if_pos c6] at H;have gI : (a0 == 3) = true := beq_iff_eq.mpr c6;have EM : (a0 != 3) = false := bne_eq_false_iff_eq.mpr c6;clear c6
      (first | rw [gI] | (simp only [bE, dS]; rw [gI]) | skip)
      have H' := Zd.mk H;clear H;go_wp2;go_meet
      case rel => exact ⟨_, (true), (by first | rfl | (simp; done) | (simp [*]; done)), H', ⟨by have := yH.out; first | omega | exact Nat.le_refl _⟩, by repeat (first | exact bC.refl _ | apply bC.step)⟩
     ·rw [if_neg c6] at H;have gI : (a0 == 3) = false := beq_eq_false_iff_ne.mpr c6;have EM : (a0 != 3) = true := bne_iff_ne.mpr c6
      (first | rw [gI] | (simp only [bE, dS]; rw [gI]) | skip)
      have H' := Zd.mk H;clear H;go_wp2;go_meet
      case rel => exact ⟨_, ((a0 == 6)), (by first | rfl | (simp; done) | (simp [*]; done)), H', ⟨by have := yH.out; first | omega | exact Nat.le_refl _⟩, by repeat (first | exact bC.refl _ | apply bC.step)⟩
    case rest =>
     clear uK
     try clear c1
     try clear p2
     try clear c3
     try clear gN
     try clear tH
     try clear c4
     try clear c6
     try clear gI
     try clear EM
     try clear p2
     obtain ⟨kq, Pb, rfl, HA, HJ4, ⟨mc4, rfl⟩⟩ := hcut;cases kq with
     | zero => exact absurd HA.out (by simp [iT.j1])
     | succ kj4 =>
      have H := HA.out;clear HA;simp only [iT.j1] at H;by_cases c7 : Pb = true
      ·subst c7;have H1 : (some 1) = some r := by rw [if_pos rfl] at H; exact H
       clear H;have H := H1;clear H1;obtain rfl := Option.some.inj H;go_wp2;go_ret;exact ⟨by first | rfl | (simp; done) | (simp [*]; done), by repeat (first | exact bC.refl _ | apply bC.step)⟩
      ·replace c7 := Bool.eq_false_iff.mpr c7;subst c7;have H1 : (if a0 = 4 then (some 2) else (if a0 = 5 then (some 2) else (if a0 = 7 then (some 2) else (if a0 = 8 then (some 2) else (some (-1)))))) = some r := by rw [if_neg (show ¬ (false = true) by decide)] at H; exact H
       clear H;have H := H1;clear H1;by_cases c8 : a0 = 4
       ·rw [if_pos c8] at H;have Kg : (a0 == 4) = true := beq_iff_eq.mpr c8;have Uv : (a0 != 4) = false := bne_eq_false_iff_eq.mpr c8;clear c8;obtain rfl := Option.some.inj H;go_wp2;go_ret;exact ⟨by first | rfl | (simp; done) | (simp [*]; done), by repeat (first | exact bC.refl _ | apply bC.step)⟩
       ·rw [if_neg c8] at H;have Kg : (a0 == 4) = false := beq_eq_false_iff_ne.mpr c8;have Uv : (a0 != 4) = true := bne_iff_ne.mpr c8;by_cases c9 : a0 = 5
        ·rw [if_pos c9] at H;have Ia : (a0 == 5) = true := beq_iff_eq.mpr c9;have Uw : (a0 != 5) = false := bne_eq_false_iff_eq.mpr c9;clear c9;obtain rfl := Option.some.inj H;go_wp2;go_ret;exact ⟨by first | rfl | (simp; done) | (simp [*]; done), by repeat (first | exact bC.refl _ | apply bC.step)⟩
        ·rw [if_neg c9] at H;have Ia : (a0 == 5) = false := beq_eq_false_iff_ne.mpr c9;have Uw : (a0 != 5) = true := bne_iff_ne.mpr c9;by_cases c10 : a0 = 7
         ·rw [if_pos c10] at H;have EI : (a0 == 7) = true := beq_iff_eq.mpr c10;have Ux : (a0 != 7) = false := bne_eq_false_iff_eq.mpr c10;clear c10;obtain rfl := Option.some.inj H;go_wp2;go_ret;exact ⟨by first | rfl | (simp; done) | (simp [*]; done), by repeat (first | exact bC.refl _ | apply bC.step)⟩
         ·rw [if_neg c10] at H;have EI : (a0 == 7) = false := beq_eq_false_iff_ne.mpr c10;have Ux : (a0 != 7) = true := bne_iff_ne.mpr c10;by_cases c11 : a0 = 8
          ·rw [if_pos c11] at H;have Bo : (a0 == 8) = true := beq_iff_eq.mpr c11;have Kh : (a0 != 8) = false := bne_eq_false_iff_eq.mpr c11;clear c11;obtain rfl := Option.some.inj H;go_wp2;go_ret;exact ⟨by first | rfl | (simp; done) | (simp [*]; done), by repeat (first | exact bC.refl _ | apply bC.step)⟩
          ·rw [if_neg c11] at H;have Bo : (a0 == 8) = false := beq_eq_false_iff_ne.mpr c11;have Kh : (a0 != 8) = true := bne_iff_ne.mpr c11;obtain rfl := Option.some.inj H;go_wp2;go_ret;exact ⟨by first | rfl | (simp; done) | (simp [*]; done), by repeat (first | exact bC.refl _ | apply bC.step)⟩

end Go.Proofs.YtapejnikpmfddaaGreat.P
namespace Go.Proofs.YtapejnikpmfddaaGreat.X
open Go.RowKit Go.Proofs.aI.bM Go.Proofs.aI.dG Go.Proofs.aI.dM
open Go.Proofs.YtapejnikpmfddaaGreat.P Go.Proofs.YtapejnikpmfddaaGreat.gY
def fC (op : Int) : Int := if op = 1 ∨ op = 2 then 0 else if op = 3 ∨ op = 6 then 1 else if op = 4 ∨ op = 5 ∨ op = 7 ∨ op = 8 then 2 else -1
theorem an3 (op : Int) : Ev (fun k => iT.f k op) (fC op) := by
 have h1 : ∀ b : Bool, b = decide (op = 3 ∨ op = 6) → ¬ (op = 1 ∨ op = 2) → Ev (fun k => iT.j1 k op b) (fC op) := by
  intro b hb h0;refine eO (fun k => rfl) (xD (fun h => ?_) (fun h => ?_))
  ·rw [h] at hb;have := of_decide_eq_true hb.symm;exact fJ (dx _) (by unfold fC; rw [if_neg h0, if_pos this])
  ·rw [h] at hb;have := of_decide_eq_false hb.symm;have e : fC op = if op = 4 ∨ op = 5 ∨ op = 7 ∨ op = 8 then 2 else -1 := by unfold fC; rw [if_neg h0, if_neg this]
   rw [e];refine kG (fun c => fJ (dx _) ?_) (fun c4 => kG (fun c => fJ (dx _) ?_) (fun c5 => kG (fun c => fJ (dx _) ?_) (fun c7 => kG (fun c => fJ (dx _) ?_) (fun c8 => fJ (dx _) ?_))))
   ·rw [if_pos ag]
   ·rw [if_pos ag]
   ·rw [if_pos ag]
   ·rw [if_pos ag]
   ·rw [if_neg ag]
 have h0 : ∀ b : Bool, b = decide (op = 1 ∨ op = 2) → Ev (fun k => iT.j0 k op b) (fC op) := by
  intro b hb;refine eO (fun k => rfl) (xD (fun h => ?_) (fun h => ?_))
  ·rw [h] at hb;have := of_decide_eq_true hb.symm;exact fJ (dx _) (by unfold fC; rw [if_pos this])
  ·rw [h] at hb;have h2 := of_decide_eq_false hb.symm;refine kG (fun c => h1 _ ?_ h2) (fun c => h1 _ ?_ h2)
   ·simp [c]
   ·simp [c, show (op == 6) = decide (op = 6) from rfl]
 unfold iT.f;refine kG (fun c => h0 _ ?_) (fun c => h0 _ ?_)
 ·simp [c]
 ·simp [c, show (op == 2) = decide (op = 2) from rfl]
def lQ (op : Int) : Int := if op = 2 then 19 else 0
mutual
def cO : ak → Bool
 | ⟨op, n, kids⟩ => decide (0 ≤ fC op) && (decide ((kids.length : Int) = fC op) && (decide (0 ≤ n) && (decide (n ≤ lQ op) && gp kids)))
def gp : List ak → Bool
 | [] => true
 | k :: r => cO k && gp r
end
def zX : List ak → Int → Int
 | [], _ => -1
 | k :: r, i => if cO k = true then zX r (i + 1) else i
theorem adf : ∀ (l : List ak) (i : Int), 0 ≤ i → (0 ≤ zX l i ↔ gp l = false)
 | [], i, h => by simp [zX, gp]
 | k :: r, i, h => by
  simp only [zX, gp];by_cases c : cO k = true
  ·rw [if_pos c, adf r (i + 1) ag, c]; simp
  ·rw [if_neg c];have : cO k = false := by simpa using c
   rw [this]; simp [h]
def EN (s : ak) : Prop := ∀ (A : Option Addr) (cp : Nat) (w : World), Kd.C bK w A s.f2.length s.f2 → s.f2.length ≤ cp →
  Calls Tryz.prog 58 #[.agg #[.int .i64 s.f0, .int .i64 s.f1, .slice A s.f2.length cp]] w fun e w' => e = .returned (.bool (cO s)) ∧ Below w.heap.size w w'
theorem adg (s : ak) (hs : EN s) (b : Bool) (hb : cO s = b) (A : Option Addr) (cp : Nat) (w : World) (hr : Kd.C bK w A s.f2.length s.f2) (hc : s.f2.length ≤ cp) :
  Calls Tryz.prog 87 #[.agg #[.int .i64 s.f0, .int .i64 s.f1, .slice A s.f2.length cp]] w fun e w' => e = .returned (.bool (!b)) ∧ Below w.heap.size w w' := by
 have hu := Tryz.underlying29;have HS := Zd.mk hs;have HR := Zd.mk hr;have HC := Zd.mk hc;have oQ := Zd.mk hb;clear hs hr hc hb;go_enter Tryz.func87, Tryz.ntmps87;go_wp2_with (go_at_call 58; refine (HS.out _ _ _ (Kd.Bf HR.out _) HC.out).mono ?_; rintro e w1 ⟨rfl, hB⟩; have HB := Zd.mk hB; clear hB);go_ret;exact ⟨by rw [oQ.out]; cases b <;> rfl, (aW (Below.refl _ _) _).trans (HB.out.mono (by simp))⟩
theorem an4 (l : List ak) (hs : ∀ k ∈ l, EN k) (A : Option Addr) (cp : Nat) (w : World) (hr : Kd.C bK w A l.length l) (hc : l.length ≤ cp) :
  Calls Tryz.prog 99 #[.slice A l.length cp, .func (.func 87) #[] #[]] w fun e w' => e = .returned (.int .i64 (zX l 0)) ∧ Below w.heap.size w w' := by
 have hu := Tryz.underlying29;have hlen := Kd.pG hr;have HS := Zd.mk hs;have HR := Zd.mk hr;have HC := Zd.mk hc;clear hs hr hc;go_enter Tryz.func99, Tryz.ntmps99;go_wp2;go_loopg [8] l.length (fun kq v8 w' => ∃ j : Nat, j + kq = l.length ∧ v8 = .int .i64 j ∧ Zd (zX l 0 = zX (l.drop j) j) ∧ Zd (Below w.heap.size w w'))
 case atStart => exact ⟨0, by simp, rfl, ⟨by simp⟩, ⟨Below.refl _ _⟩⟩
 case round =>
  obtain ⟨j, hj, rfl, HA, HB⟩ := hrel;have HJ := Zd.mk hj;clear hj;by_cases hlt : j < l.length
  ·obtain ⟨ad, A2, cp2, e0, hx0, hx1, hx2, hl2, hk2⟩ := yG HR.out HB.out j hlt hlt;cases e0;have oh := Zd.mk (Kd.aQ hk2 HB.out);have HL2 := Zd.mk hl2;clear hk2 hl2;have hstep : zX (l.drop j) j = if cO l[j] = true then zX (l.drop (j + 1)) (j + 1) else j := by
    rw [List.drop_eq_getElem_cons hlt];rfl
   have wm := Zd.mk hstep;clear hstep;have hk := HS.out l[j] (List.getElem_mem hlt);have HKK := Zd.mk hk;clear hk;by_cases hp : cO l[j] = true
   ·have HP := Zd.mk hp;clear hp;go_wp2_with (go_at_call 87; refine (adg l[j] HKK.out true HP.out A2 cp2 _ oh.out HL2.out).mono ?_; rintro e w1 ⟨rfl, hB⟩; have HB1 := Zd.mk hB; clear hB);go_roundg (gk - 1)
    case measure => have := HJ.out; omega
    case rel => exact ⟨j + 1, by have := HJ.out; omega, by go_num, ⟨by rw [HA.out, wm.out, if_pos HP.out]; simp⟩, ⟨HB.out.trans (HB1.out.mono HB.out.size)⟩⟩
   ·have hp' : cO l[j] = false := by simpa using hp
    have HP := Zd.mk hp';clear hp hp';go_wp2_with (go_at_call 87; refine (adg l[j] HKK.out false HP.out A2 cp2 _ oh.out HL2.out).mono ?_; rintro e w1 ⟨rfl, hB⟩; have HB1 := Zd.mk hB; clear hB);go_ret;refine ⟨show Ending.returned (.int .i64 (j : Int)) = _ from ?_, HB.out.trans (HB1.out.mono HB.out.size)⟩;rw [HA.out, wm.out, if_neg (by rw [HP.out]; simp)]
  ·go_wp2;go_ret;refine ⟨?_, HB.out⟩
   rw [HA.out, List.drop_eq_nil_of_le ag];rfl
theorem an5 (l : List ak) (hs : ∀ k ∈ l, EN k) (b : Bool) (hb : gp l = b) (A : Option Addr) (cp : Nat) (w : World) (hr : Kd.C bK w A l.length l) (hc : l.length ≤ cp) :
  Calls Tryz.prog 86 #[.slice A l.length cp, .func (.func 87) #[] #[]] w fun e w' => e = .returned (.bool (!b)) ∧ Below w.heap.size w w' := by
 have hi := adf l 0 ag;have HI := Zd.mk hi;clear hi;have oQ := Zd.mk hb;have hcall := an4 l hs A cp w hr hc;have EO := Zd.mk hcall;clear hs hr hc hb hcall;generalize zX l 0 = x at HI EO;go_enter Tryz.func86, Tryz.ntmps86;go_wp2_with (go_at_call 99; refine EO.out.mono ?_; rintro e w1 ⟨rfl, hB⟩; have HB := Zd.mk hB; clear hB);go_ret;refine ⟨show Ending.returned (.bool (decide (0 ≤ x))) = _ from ?_, HB.out⟩;rw [← oQ.out];congr 2;have := HI.out;cases h : gp l with
 | true => rw [h] at this; simp at this; simp; omega
 | false => rw [h] at this; simp at this; simp; omega
theorem Kj (op : Int) : -1 ≤ fC op ∧ fC op ≤ 2 := by unfold fC; split; omega; split; omega; split <;> omega
theorem an6 (s : ak) (hs : ∀ k ∈ s.f2, EN k) : EN s := by
 intro A cp w hr hc;have hu := Tryz.underlying29;obtain ⟨kk, hkk⟩ := (an3 s.f0).rounds;have hkr := Kj s.f0;have hdef : cO s = (decide (0 ≤ fC s.f0) && (decide ((s.f2.length : Int) = fC s.f0) && (decide (0 ≤ s.f1) && (decide (s.f1 ≤ lQ s.f0) && gp s.f2)))) := by cases s; rfl
 have HD := Zd.mk hdef;have zY := Zd.mk hkk;have hany := fun b hb W (hB : Below w.heap.size w W) => an5 s.f2 hs b hb A cp W (Kd.aQ hr hB) hc;have adh := Zd.mk hany;have hlen := Kd.pG hr;clear hs hr hc hdef hkk hany;generalize fC s.f0 = K at *;have HX0 : ∀ b : Bool, b = false → b = false := fun _ h => h;clear HX0;by_cases c1 : 0 ≤ K
 ·by_cases c2 : (s.f2.length : Int) = K
  ·have d2 : ((s.f2.length : Int) == K) = true := beq_iff_eq.mpr c2;have D2 := Zd.mk (show decide ((s.f2.length : Int) = K) = true from decide_eq_true c2);clear c2;by_cases c3 : 0 ≤ s.f1
   ·by_cases h2 : s.f0 = 2
    ·have e2 : (s.f0 == 2) = true := beq_iff_eq.mpr h2;have HM := Zd.mk (show lQ s.f0 = 19 from by unfold lQ; rw [if_pos h2]);clear h2;by_cases c4 : s.f1 ≤ 19
     ·obtain ⟨b, hb⟩ : ∃ b, gp s.f2 = b := ⟨_, rfl⟩;rw [hb] at HD;have oQ := Zd.mk hb;clear hb;have HX := Zd.mk (show cO s = b from by rw [HD.out, HM.out, D2.out, decide_eq_true c1, decide_eq_true c3, decide_eq_true c4]; simp);clear HD HM D2;go_enter Tryz.func58, Tryz.ntmps58;go_wp2_with (first | (go_at_call 85; refine (iT.calls kk s.f0 K _ zY.out).mono ?_; rintro e w1 ⟨rfl, hd0⟩; obtain ⟨m, rfl⟩ := hd0.out) | (go_at_call 86; refine (adh.out b oQ.out _ (fB (aW (Below.refl _ _) _) _)).mono ?_; rintro e w1 ⟨rfl, hB⟩; have HB := Zd.mk hB; clear hB));go_ret;exact ⟨show Ending.returned (.bool b) = _ from by rw [HX.out], (fB (aW (Below.refl _ _) _) _).trans (HB.out.mono (by simp))⟩
     ·have HX := Zd.mk (show cO s = false from by rw [HD.out, HM.out, decide_eq_false c4]; simp);clear HD HM D2;go_enter Tryz.func58, Tryz.ntmps58;go_wp2_with (go_at_call 85; refine (iT.calls kk s.f0 K _ zY.out).mono ?_; rintro e w1 ⟨rfl, hd0⟩; obtain ⟨m, rfl⟩ := hd0.out);go_ret;exact ⟨show Ending.returned (.bool false) = _ from by rw [HX.out], fB (aW (Below.refl _ _) _) _⟩
    ·have e2 : (s.f0 == 2) = false := beq_eq_false_iff_ne.mpr h2;have HM := Zd.mk (show lQ s.f0 = 0 from by unfold lQ; rw [if_neg h2]);clear h2;by_cases c4 : s.f1 ≤ 0
     ·obtain ⟨b, hb⟩ : ∃ b, gp s.f2 = b := ⟨_, rfl⟩;rw [hb] at HD;have oQ := Zd.mk hb;clear hb;have HX := Zd.mk (show cO s = b from by rw [HD.out, HM.out, D2.out, decide_eq_true c1, decide_eq_true c3, decide_eq_true c4]; simp);clear HD HM D2;go_enter Tryz.func58, Tryz.ntmps58;go_wp2_with (first | (go_at_call 85; refine (iT.calls kk s.f0 K _ zY.out).mono ?_; rintro e w1 ⟨rfl, hd0⟩; obtain ⟨m, rfl⟩ := hd0.out) | (go_at_call 86; refine (adh.out b oQ.out _ (fB (aW (Below.refl _ _) _) _)).mono ?_; rintro e w1 ⟨rfl, hB⟩; have HB := Zd.mk hB; clear hB));go_ret;exact ⟨show Ending.returned (.bool b) = _ from by rw [HX.out], (fB (aW (Below.refl _ _) _) _).trans (HB.out.mono (by simp))⟩
     ·have HX := Zd.mk (show cO s = false from by rw [HD.out, HM.out, decide_eq_false c4]; simp);clear HD HM D2;go_enter Tryz.func58, Tryz.ntmps58;go_wp2_with (go_at_call 85; refine (iT.calls kk s.f0 K _ zY.out).mono ?_; rintro e w1 ⟨rfl, hd0⟩; obtain ⟨m, rfl⟩ := hd0.out);go_ret;exact ⟨show Ending.returned (.bool false) = _ from by rw [HX.out], fB (aW (Below.refl _ _) _) _⟩
   ·by_cases h2 : s.f0 = 2
    ·have e2 : (s.f0 == 2) = true := beq_iff_eq.mpr h2;have HM := Zd.mk (show lQ s.f0 = 19 from by unfold lQ; rw [if_pos h2]);clear h2;have HX := Zd.mk (show cO s = false from by rw [HD.out, decide_eq_false c3]; simp);clear HD HM;go_enter Tryz.func58, Tryz.ntmps58;go_wp2_with (go_at_call 85; refine (iT.calls kk s.f0 K _ zY.out).mono ?_; rintro e w1 ⟨rfl, hd0⟩; obtain ⟨m, rfl⟩ := hd0.out);go_ret;exact ⟨show Ending.returned (.bool false) = _ from by rw [HX.out], fB (aW (Below.refl _ _) _) _⟩
    ·have e2 : (s.f0 == 2) = false := beq_eq_false_iff_ne.mpr h2;have HM := Zd.mk (show lQ s.f0 = 0 from by unfold lQ; rw [if_neg h2]);clear h2;have HX := Zd.mk (show cO s = false from by rw [HD.out, decide_eq_false c3]; simp);clear HD HM;go_enter Tryz.func58, Tryz.ntmps58;go_wp2_with (go_at_call 85; refine (iT.calls kk s.f0 K _ zY.out).mono ?_; rintro e w1 ⟨rfl, hd0⟩; obtain ⟨m, rfl⟩ := hd0.out);go_ret;exact ⟨show Ending.returned (.bool false) = _ from by rw [HX.out], fB (aW (Below.refl _ _) _) _⟩
  ·have d2 : ((s.f2.length : Int) == K) = false := beq_eq_false_iff_ne.mpr c2;by_cases h2 : s.f0 = 2
   ·have e2 : (s.f0 == 2) = true := beq_iff_eq.mpr h2;have HM := Zd.mk (show lQ s.f0 = 19 from by unfold lQ; rw [if_pos h2]);clear h2;have HX := Zd.mk (show cO s = false from by rw [HD.out, decide_eq_false c2]; simp);clear HD HM;go_enter Tryz.func58, Tryz.ntmps58;go_wp2_with (go_at_call 85; refine (iT.calls kk s.f0 K _ zY.out).mono ?_; rintro e w1 ⟨rfl, hd0⟩; obtain ⟨m, rfl⟩ := hd0.out);go_ret;exact ⟨show Ending.returned (.bool false) = _ from by rw [HX.out], fB (aW (Below.refl _ _) _) _⟩
   ·have e2 : (s.f0 == 2) = false := beq_eq_false_iff_ne.mpr h2;have HM := Zd.mk (show lQ s.f0 = 0 from by unfold lQ; rw [if_neg h2]);clear h2;have HX := Zd.mk (show cO s = false from by rw [HD.out, decide_eq_false c2]; simp);clear HD HM;go_enter Tryz.func58, Tryz.ntmps58;go_wp2_with (go_at_call 85; refine (iT.calls kk s.f0 K _ zY.out).mono ?_; rintro e w1 ⟨rfl, hd0⟩; obtain ⟨m, rfl⟩ := hd0.out);go_ret;exact ⟨show Ending.returned (.bool false) = _ from by rw [HX.out], fB (aW (Below.refl _ _) _) _⟩
 ·by_cases h2 : s.f0 = 2
  ·have e2 : (s.f0 == 2) = true := beq_iff_eq.mpr h2;have HM := Zd.mk (show lQ s.f0 = 19 from by unfold lQ; rw [if_pos h2]);clear h2;have HX := Zd.mk (show cO s = false from by rw [HD.out, decide_eq_false c1]; simp);clear HD HM;go_enter Tryz.func58, Tryz.ntmps58;go_wp2_with (go_at_call 85; refine (iT.calls kk s.f0 K _ zY.out).mono ?_; rintro e w1 ⟨rfl, hd0⟩; obtain ⟨m, rfl⟩ := hd0.out);go_ret;exact ⟨show Ending.returned (.bool false) = _ from by rw [HX.out], fB (aW (Below.refl _ _) _) _⟩
  ·have e2 : (s.f0 == 2) = false := beq_eq_false_iff_ne.mpr h2;have HM := Zd.mk (show lQ s.f0 = 0 from by unfold lQ; rw [if_neg h2]);clear h2;have HX := Zd.mk (show cO s = false from by rw [HD.out, decide_eq_false c1]; simp);clear HD HM;go_enter Tryz.func58, Tryz.ntmps58;go_wp2_with (go_at_call 85; refine (iT.calls kk s.f0 K _ zY.out).mono ?_; rintro e w1 ⟨rfl, hd0⟩; obtain ⟨m, rfl⟩ := hd0.out);go_ret;exact ⟨show Ending.returned (.bool false) = _ from by rw [HX.out], fB (aW (Below.refl _ _) _) _⟩
mutual
theorem adi : ∀ s : ak, EN s
 | ⟨op, m, kids⟩ => an6 ⟨op, m, kids⟩ (adj kids)
theorem adj : ∀ (l : List ak) (k : ak), k ∈ l → EN k
 | [], k, hk => by simp at hk
 | a :: r, k, hk => by
  rcases List.mem_cons.1 hk with h | h
  ·rw [h];exact adi a
  ·exact adj r k h
end
def bW (s : ak) : Int := if xC s = true ∧ (uJ s).t ≤ 8 then (if cO s = true then 0 else 1) else 7
theorem Uy {w w1 : World} {o : Obj} (hB : Below (w.alloc o).heap.size (w.alloc o) w1) : w1.heap[w.heap.size]? = some o := (hB.block _ (by simp)).trans (heap_alloc_new w o)
theorem Uz (s : ak) (A : Option Addr) (cp : Nat) (w : World) (hr : Kd.C bK w A s.f2.length s.f2) (hc : s.f2.length ≤ cp) :
  Calls Tryz.prog 37 #[.agg #[.int .i64 s.f0, .int .i64 s.f1, .slice A s.f2.length cp]] w fun e w' => e = .returned (.int .i64 (bW s)) ∧ Below w.heap.size w w' := by
 have hu := Tryz.underlying29;have huc := Tryz.underlying99;have adk := ade.all s A cp (w.alloc (.cells #[.int .i64 s.f0, .int .i64 s.f1, .slice A s.f2.length cp] 29)) (Kd.Bf hr _) hc;have HL := Zd.mk adk;have hcnt := fun W (hB : Below w.heap.size w W) => adb s A cp W (Kd.aQ hr hB) hc;have Hy := Zd.mk hcnt;have adm := fun W (hB : Below w.heap.size w W) => adi s A cp W (Kd.aQ hr hB) hc;have kY := Zd.mk adm;have HM := Zd.mk (show bW s = if xC s = true ∧ (uJ s).t ≤ 8 then (if cO s = true then 0 else 1) else 7 from rfl);clear adk hcnt adm hr hc;generalize bW s = r at *;generalize uJ s = c at *;cases h1 : xC s with
 | false =>
  rw [h1] at HL HM;clear h1;go_enter Tryz.func37, Tryz.ntmps37;go_wp2_with (go_at_call 56; refine HL.out.mono ?_; rintro e w1 ⟨rfl, hB⟩; have HB := Zd.mk hB; clear hB);go_ret;exact ⟨show Ending.returned (.int .i64 7) = _ from by rw [HM.out]; rfl, (aW (Below.refl _ _) _).trans (HB.out.mono (by simp))⟩
 | true =>
  rw [h1] at HL HM;clear h1;by_cases h2 : c.t ≤ 8
  ·cases h3 : cO s with
   | false =>
    rw [h3] at kY HM;clear h3;have zZ := Zd.mk (show r = 1 from by rw [HM.out, if_pos ⟨rfl, h2⟩]; rfl);go_enter Tryz.func37, Tryz.ntmps37;go_wp2_with (first | (go_at_call 56; refine HL.out.mono ?_; rintro e w1 ⟨rfl, hB⟩; have HB := Zd.mk hB; have fK := Zd.mk (Uy hB); have x0 := (aj fK.out 0).trans rfl; have x1 := (aj fK.out 1).trans rfl; have x2 := (aj fK.out 2).trans rfl; clear hB) | (go_at_call 57; refine (Hy.out _ ((aW (Below.refl _ _) _).trans (HB.out.mono (by simp)))).mono ?_; rintro e w2 ⟨g, rfl, hI, hB2, hg⟩; have ct : w2.cell? ⟨g, 1, none⟩ = some (.int .i64 c.t) := (aj hI 1).trans rfl; have y0 := (hB2.cell (World.block_lt_of_cell? _ _ x0)).trans x0; have y1 := (hB2.cell (World.block_lt_of_cell? _ _ x1)).trans x1; have y2 := (hB2.cell (World.block_lt_of_cell? _ _ x2)).trans x2; have HB2 := Zd.mk (((aW (Below.refl _ _) _).trans (HB.out.mono (by simp))).trans (hB2.mono (by have := HB.out.size; simp at this; omega)) : Below w.heap.size w w2); clear hB2 hI hg) | (go_at_call 58; refine (kY.out _ HB2.out).mono ?_; rintro e w3 ⟨rfl, hB3⟩; have HB3 := Zd.mk (HB2.out.trans (hB3.mono HB2.out.size)); clear hB3));go_ret;exact ⟨show Ending.returned (.int .i64 1) = _ from by rw [zZ.out], HB3.out⟩
   | true =>
    rw [h3] at kY HM;clear h3;have zZ := Zd.mk (show r = 0 from by rw [HM.out, if_pos ⟨rfl, h2⟩]; rfl);go_enter Tryz.func37, Tryz.ntmps37;go_wp2_with (first | (go_at_call 56; refine HL.out.mono ?_; rintro e w1 ⟨rfl, hB⟩; have HB := Zd.mk hB; have fK := Zd.mk (Uy hB); have x0 := (aj fK.out 0).trans rfl; have x1 := (aj fK.out 1).trans rfl; have x2 := (aj fK.out 2).trans rfl; clear hB) | (go_at_call 57; refine (Hy.out _ ((aW (Below.refl _ _) _).trans (HB.out.mono (by simp)))).mono ?_; rintro e w2 ⟨g, rfl, hI, hB2, hg⟩; have ct : w2.cell? ⟨g, 1, none⟩ = some (.int .i64 c.t) := (aj hI 1).trans rfl; have y0 := (hB2.cell (World.block_lt_of_cell? _ _ x0)).trans x0; have y1 := (hB2.cell (World.block_lt_of_cell? _ _ x1)).trans x1; have y2 := (hB2.cell (World.block_lt_of_cell? _ _ x2)).trans x2; have HB2 := Zd.mk (((aW (Below.refl _ _) _).trans (HB.out.mono (by simp))).trans (hB2.mono (by have := HB.out.size; simp at this; omega)) : Below w.heap.size w w2); clear hB2 hI hg) | (go_at_call 58; refine (kY.out _ HB2.out).mono ?_; rintro e w3 ⟨rfl, hB3⟩; have HB3 := Zd.mk (HB2.out.trans (hB3.mono HB2.out.size)); clear hB3));go_ret;exact ⟨show Ending.returned (.int .i64 0) = _ from by rw [zZ.out], HB3.out⟩
  ·have zZ := Zd.mk (show r = 7 from by rw [HM.out, if_neg (fun h => h2 h.2)]);go_enter Tryz.func37, Tryz.ntmps37;go_wp2_with (first | (go_at_call 56; refine HL.out.mono ?_; rintro e w1 ⟨rfl, hB⟩; have HB := Zd.mk hB; have fK := Zd.mk (Uy hB); have x0 := (aj fK.out 0).trans rfl; have x1 := (aj fK.out 1).trans rfl; have x2 := (aj fK.out 2).trans rfl; clear hB) | (go_at_call 57; refine (Hy.out _ ((aW (Below.refl _ _) _).trans (HB.out.mono (by simp)))).mono ?_; rintro e w2 ⟨g, rfl, hI, hB2, hg⟩; have ct : w2.cell? ⟨g, 1, none⟩ = some (.int .i64 c.t) := (aj hI 1).trans rfl; have y0 := (hB2.cell (World.block_lt_of_cell? _ _ x0)).trans x0; have y1 := (hB2.cell (World.block_lt_of_cell? _ _ x1)).trans x1; have y2 := (hB2.cell (World.block_lt_of_cell? _ _ x2)).trans x2; have HB2 := Zd.mk (((aW (Below.refl _ _) _).trans (HB.out.mono (by simp))).trans (hB2.mono (by have := HB.out.size; simp at this; omega)) : Below w.heap.size w w2); clear hB2 hI hg));go_ret;exact ⟨show Ending.returned (.int .i64 7) = _ from by rw [zZ.out], HB2.out⟩
def yI.f (av : Int) (ay : Int) (af : List ak) : Option Int := some (bW ⟨av, ay, af⟩)
theorem yI.calls (av : Int) (ay : Int) (aM : Option Addr) (aC : Nat) (af : List ak) (r : Int) (w : World) (dn : Kd.C bK w aM af.length af) (dw : af.length ≤ aC) (h : yI.f av ay af = some r) :
  Calls Tryz.prog 37 #[.agg #[.int .i64 av, .int .i64 ay, .slice aM af.length aC]] w fun e w' => e = .returned (.int .i64 r) ∧ Below w.heap.size w w' := by
 obtain rfl := Option.some.inj h;exact Uz ⟨av, ay, af⟩ aM aC w dn dw
end Go.Proofs.YtapejnikpmfddaaGreat.X
namespace Go.Proofs.YtapejnikpmfddaaGreat.P
open Go.RowKit Go.Proofs.aI.bM Go.Proofs.aI.dG Go.Proofs.aI.dM
attribute [local go_sem] nE nG nH nI nW nX nY nZ

def au_ (w0 W : World) (g : Nat) (f0 : List Int) (f1 : Int) : Prop := ∃ A0 c0, W.heap[g]? = some (.cells #[.slice A0 f0.length c0, .int .i64 f1] 96 (0, 0)) ∧ w0.heap.size ≤ g ∧ Kd.C (Kd.int .u32) w0 A0 f0.length f0
def bits_Mul64.f (a0 : Int) (a1 : Int) : Option (Int × Int) := some (IntKind.u64.wrap ((IntKind.u64.wrap ((IntKind.u64.wrap ((a0 / 4294967296) * (a1 / 4294967296))) + ((IntKind.u64.wrap ((IntKind.u64.wrap ((a0 / 4294967296) * (Go.bits .and .u64 a1 4294967295))) + ((IntKind.u64.wrap ((Go.bits .and .u64 a0 4294967295) * (Go.bits .and .u64 a1 4294967295))) / 4294967296))) / 4294967296))) + ((IntKind.u64.wrap ((Go.bits .and .u64 (IntKind.u64.wrap ((IntKind.u64.wrap ((a0 / 4294967296) * (Go.bits .and .u64 a1 4294967295))) + ((IntKind.u64.wrap ((Go.bits .and .u64 a0 4294967295) * (Go.bits .and .u64 a1 4294967295))) / 4294967296))) 4294967295) + (IntKind.u64.wrap ((Go.bits .and .u64 a0 4294967295) * (a1 / 4294967296))))) / 4294967296)), IntKind.u64.wrap (a0 * a1))
theorem bits_Mul64.calls (a0 : Int) (a1 : Int) (r1 : Int) (r2 : Int) (w : World) (h : bits_Mul64.f a0 a1 = some (r1, r2)) :
  Calls Tryz.prog 104 #[.int .u64 a0, .int .u64 a1] w fun e w' => e = .returned (.tuple #[.int .u64 r1, .int .u64 r2]) ∧ bC w w' := by
 have H : (some (IntKind.u64.wrap ((IntKind.u64.wrap ((IntKind.u64.wrap ((a0 / 4294967296) * (a1 / 4294967296))) + ((IntKind.u64.wrap ((IntKind.u64.wrap ((a0 / 4294967296) * (Go.bits .and .u64 a1 4294967295))) + ((IntKind.u64.wrap ((Go.bits .and .u64 a0 4294967295) * (Go.bits .and .u64 a1 4294967295))) / 4294967296))) / 4294967296))) + ((IntKind.u64.wrap ((Go.bits .and .u64 (IntKind.u64.wrap ((IntKind.u64.wrap ((a0 / 4294967296) * (Go.bits .and .u64 a1 4294967295))) + ((IntKind.u64.wrap ((Go.bits .and .u64 a0 4294967295) * (Go.bits .and .u64 a1 4294967295))) / 4294967296))) 4294967295) + (IntKind.u64.wrap ((Go.bits .and .u64 a0 4294967295) * (a1 / 4294967296))))) / 4294967296)), IntKind.u64.wrap (a0 * a1))) = some (r1, r2) := h;clear h;simp only [Option.some.injEq, Prod.mk.injEq] at H;obtain ⟨rfl, rfl⟩ := H;go_enter Tryz.func104, Tryz.ntmps104;go_wp2;go_ret2;exact ⟨by first | rfl | (simp; done) | (simp [*]; done), by repeat (first | exact bC.refl _ | apply bC.step)⟩

def bits_Mul.f (a0 : Int) (a1 : Int) : Option (Int × Int) := (bits_Mul64.f a0 a1).bind fun Kk => (some (Kk.1, Kk.2))
theorem bits_Mul.calls (a0 : Int) (a1 : Int) (r1 : Int) (r2 : Int) (w : World) (h : bits_Mul.f a0 a1 = some (r1, r2)) :
  Calls Tryz.prog 102 #[.int .u64 a0, .int .u64 a1] w fun e w' => e = .returned (.tuple #[.int .u64 r1, .int .u64 r2]) ∧ bC w w' := by
 have H : ((bits_Mul64.f a0 a1).bind fun Kk => (some (Kk.1, Kk.2))) = some (r1, r2) := h;clear h;replace H := Option.bind_eq_some_iff.mp H;obtain ⟨⟨t215, t216⟩, CV, H⟩ := H;replace H : (some (t215, t216)) = some (r1, r2) := H;have A3 := Zd.mk CV;clear CV;simp only [Option.some.injEq, Prod.mk.injEq] at H;obtain ⟨rfl, rfl⟩ := H;go_enter Tryz.func102, Tryz.ntmps102;go_wp2_with (first | ((with_reducible refine kX (f := 104) rfl ?_); refine kW (some 25) rfl rfl Tryz.func104 aa rfl #[.int .u64 a0, .int .u64 a1] rfl (by (try simp only [List.map_toArray, List.map_cons, List.map_nil]); first | done | rfl | (simp only [List.length_drop, List.length_take]; rfl)) ?_; (with_reducible refine (bits_Mul64.calls a0 a1 t215 t216 _ A3.out).mono ?_); rintro e w' ⟨rfl, ⟨nd, rfl⟩⟩; refine ⟨_, rfl, ?_⟩));go_ret2;exact ⟨by first | rfl | (simp; done) | (simp [*]; done), by repeat (first | exact bC.refl _ | apply bC.step)⟩

end Go.Proofs.YtapejnikpmfddaaGreat.P
namespace Go.Proofs.YtapejnikpmfddaaGreat.X
open Go.RowKit Go.Proofs.aI.bM Go.Proofs.aI.dG Go.Proofs.aI.dM
open Go.Proofs.YtapejnikpmfddaaGreat.P Go.Proofs.YtapejnikpmfddaaGreat.gY
theorem UA : (Tryz.prog.info? 4).map (fun i => (i.zero, i.size, i.bytes)) = some (some (.bool false), 1, 1) := by kernel_rfl
theorem Pf (x : Int) (h0 : 0 ≤ x) (h : x < 18446744073709551616) : IntKind.u64.wrap x = x := Hz h0 h
theorem an7 (n : Int) (h0 : 0 ≤ n) (h1 : n < 1000000000) : bits_Mul.f 1 n = some (0, n) := by
 unfold bits_Mul.f bits_Mul64.f;simp only [Option.bind_some];have e1 : Go.bits .and .u64 1 4294967295 = 1 := (and_low32 1 ag ag).trans ag;have e2 : Go.bits .and .u64 n 4294967295 = n := (and_low32 n ag ag).trans ag;have e3 : (1 : Int) / 4294967296 = 0 := by omega
 have e4 : n / 4294967296 = 0 := by omega
 rw [e1, e2, e3, e4];have e5 : Go.bits .and .u64 0 4294967295 = 0 := (and_low32 0 ag ag).trans ag;simp only [Int.zero_mul, Int.one_mul, Int.mul_zero, Int.mul_one, Pf 0 ag ag, Pf n ag ag, Int.zero_add, e4, e5];simp [Pf 0 ag ag, Pf n ag ag]
theorem ado (n m c : Nat) (F f : Value) (h : m + c ≤ n) : splice (List.replicate m F ++ List.replicate (n - m) f) m (List.replicate c F) = List.replicate (m + c) F ++ List.replicate (n - (m + c)) f := by
 unfold splice;rw [List.take_append_of_le_length (by simp), List.take_of_length_le (by simp), List.length_replicate, List.drop_append, List.drop_of_length_le (by simp), List.nil_append, List.length_replicate, List.drop_replicate, ← List.append_assoc, List.replicate_append_replicate];congr 2;omega
theorem an8 (n m : Nat) (F f : Value) (j : Nat) (h : j < m) : (List.replicate m F ++ List.replicate (n - m) f)[j]? = some F := by
 rw [List.getElem?_append_left (by simpa using h)];simp [h]
theorem an9 (g n m : Nat) (hm : m < n) (hn : n < 1000000000) (W : World) : (Instr.slice 57 (.slice (some ⟨g, 0, none⟩) n n) (some (.int .i64 (m : Int))) none none).run Tryz.prog W = .ok (.slice (some ⟨g, m, none⟩) (n - m) (n - m)) W := by
 obtain ⟨i, hi, hz, hs, hb⟩ := info_parts UA;have h := TD (P := Tryz.prog) 57 4 .i64 Tryz.underlying57 hi 1 hs (some ⟨g, 0, none⟩) n n (m : Int) ag ag W;rw [h];simp only [Int.toNat_natCast];rw [if_neg ag];simp [Addr.add];omega
theorem an_ (g n m : Nat) (hm : m < n) (hn : n < 1000000000) (W : World) : (Instr.slice 57 (.slice (some ⟨g, 0, none⟩) n n) none (some (.int .i64 (m : Int))) none).run Tryz.prog W = .ok (.slice (some ⟨g, 0, none⟩) m n) W := by
 obtain ⟨i, hi, hz, hs, hb⟩ := info_parts UA;have h := JJ (P := Tryz.prog) 57 4 .i64 Tryz.underlying57 hi (some ⟨g, 0, none⟩) n n (m : Int) ag ag ag W;rw [h];simp only [Int.toNat_natCast]
theorem adp (n : Nat) : madeCells #[Value.bool false] n = (List.replicate n (Value.bool false)).toArray := by
 apply Array.ext
 ·simp [madeCells]
 ·intro i h1 h2;simp [madeCells, Nat.mod_one]
def yJ (n : Nat) (b : Bool) : List Value := List.replicate n (Value.bool b)
theorem aoa (n : Nat) (b : Bool) : (yJ n b).length = n := by simp [yJ]
theorem aob {w : World} {gb : Nat} {v : Value} {t : TypeId} (h : w.heap[gb]? = some (.cells #[v] t (0, 0))) : ∀ j u, [v][j]? = some u → w.cell? ((⟨gb, 0, none⟩ : Addr).add j) = some u := by
 intro j u hu;cases j with
 | zero => rw [← hu]; exact (aj h 0).trans rfl
 | succ j => simp at hu
def z8 (n m : Nat) (b : Bool) : List Value := List.replicate m (Value.bool b) ++ List.replicate (n - m) (Value.bool false)
theorem aoc (n m : Nat) (b : Bool) (h : m ≤ n) : (z8 n m b).length = n := by simp [z8]; omega
theorem aod (n : Nat) (b : Bool) (h : 0 < n) : splice (yJ n false) 0 [.bool b] = z8 n 1 b := by
 have := ado n 0 1 (.bool b) (.bool false) ag;simpa [yJ, z8] using this
theorem aoe {w : World} {g n m c : Nat} {b : Bool} {t : TypeId} (h : w.heap[g]? = some (.cells (z8 n m b).toArray t (0, 0))) : ∀ j u, (List.replicate (min m c) (Value.bool b))[j]? = some u → w.cell? ((⟨g, 0, none⟩ : Addr).add j) = some u := by
 intro j u hu;obtain ⟨hj, hu'⟩ := List.getElem?_eq_some_iff.1 hu;have hj' : j < m := by simp at hj; omega
 simp at hu'
 rw [← hu'];have := an8 n m (Value.bool b) (Value.bool false) j hj';have h2 := aj h j;rw [show (⟨g, 0, none⟩ : Addr).add j = ⟨g, j, none⟩ by simp [Addr.add] <;> omega];rw [h2];simpa [z8] using this
theorem adq (q n : Nat) (h : q ≤ n) (hq : q < n) (h1 : n < 1000000000) : IntKind.i64.wrap ((q : Int) + ((min q (n - q) : Nat) : Int)) = ((q + min q (n - q) : Nat) : Int) := by
 rw [IntKind.wrap_i64]; omega
theorem Pg (n : Nat) (h : n < 1000000000) (W : World) : (Instr.makeSlice 57 (.int .i64 (n : Int)) (.int .i64 (n : Int))).run Tryz.prog W = .ok (.slice (some ⟨W.heap.size, 0, none⟩) n n) (W.alloc (.cells ⟨yJ n false⟩ 4)) := by
 have := Tx (P := Tryz.prog) 57 4 (.bool false) 1 Tryz.underlying57 UA rfl ai n ag W
 rwa [adp] at this
theorem aof (gb : Nat) (F : Bool) (n : Nat) (w : World) (hb : w.heap[gb]? = some (.cells #[.bool F] 4 (0, 0))) (h0 : 0 < n) (h1 : n < 1000000000) :
  Calls Tryz.prog 98 #[.slice (some ⟨gb, 0, none⟩) 1 1, .int .i64 n] w fun e w' => ∃ g, e = .returned (.slice (some ⟨g, 0, none⟩) n n) ∧ w.heap.size ≤ g ∧ w'.heap[g]? = some (.cells (yJ n F).toArray 4 (0, 0)) ∧ Below w.heap.size w w' := by
 have jf := Tryz.underlying57;have fM := Tryz.underlying3;have yK := Tryz.underlying42;have hmk := Pg n h1;have HX := Zd.mk (an7 n ag ag);have Ab := Zd.mk (aT hb);have HMB := Zd.mk hb;have h9 : ¬ (9223372036854775807 < (n : Int)) := by omega
 clear hb;go_enter Tryz.func98, Tryz.ntmps98;go_wp2_with (first | (go_at_call 102; refine (bits_Mul.calls 1 n 0 n _ HX.out).mono ?_; rintro e w1 ⟨rfl, hd0⟩; obtain ⟨m, rfl⟩ := hd0.out) | ((with_reducible refine lL (b := .copy) (xs := #[.tmp 31, .tmp 32]) rfl ?_); refine wpList_copy_splice rfl (.tmp 31) (.tmp 32) 57 57 rfl 4 jf aa (some ⟨w.heap.size, 0, none⟩) (some ⟨gb, 0, none⟩) n n 1 1 rfl rfl w.heap.size 0 (yJ n false) 4 (heap_alloc_new (w.drewN m) _) [.bool F] (show 1 = min 1 n by omega) (fun _ => ⟨rfl, _, rfl, aob (bf (bd_ HMB.out m) _)⟩) (show 0 + 1 ≤ (yJ n false).length by rw [aoa]; omega) (by intro v hv; rw [List.mem_singleton.1 hv]; rfl) w.heap.size w (aW (fB (Below.refl _ _) m) _) (Nat.le_refl _) ?_; intro w2 hG hB; have HG := Zd.mk hG.out; have HB := Zd.mk hB; clear hG hB));have UB := Zd.mk (show w2.heap[w.heap.size]? = some (.cells (z8 n 1 F).toArray 4 (0, 0)) from by rw [HG.out]; congr 3; exact aod n F h0);go_loopg [8] (n - 1) (fun kq v8 w' => ∃ q : Nat, 1 ≤ q ∧ q ≤ n ∧ kq = n - q ∧ v8 = .int .i64 q ∧ Zd (w'.heap[w.heap.size]? = some (.cells (z8 n q F).toArray 4 (0, 0))) ∧ Zd (Below w.heap.size w w'))
 case atStart => exact ⟨1, Nat.le_refl _, h0, rfl, rfl, UB, HB⟩
 case round =>
  obtain ⟨q, hq1, hq2, hqk, rfl, CW, lS⟩ := hrel;have HQ := Zd.mk hqk;clear hqk;by_cases hlt : q < n
  ·obtain ⟨WW, rfl⟩ : ∃ W : World, W = wr := ⟨_, rfl⟩;have hl := an9 w.heap.size n q hlt h1;have hh := an_ w.heap.size n q hlt h1;have hmin : ((min q (n - q) : Nat) : Int) + (q : Int) ≤ n := by omega
   go_wp2
   go_region_law (refine step_copy_splice rfl (.tmp 41) (.tmp 44) 57 57 rfl 4 jf aa (some ⟨w.heap.size, q, none⟩) (some ⟨w.heap.size, 0, none⟩) (n - q) (n - q) q n (by simp [Act.eval, Act.put]) (by simp [Act.eval, Act.put]) w.heap.size q (z8 n q F) 4 CW.out (List.replicate (min q (n - q)) (Value.bool F)) (show _ = min q (n - q) by simp) (fun _ => ⟨rfl, _, rfl, aoe CW.out⟩) (by rw [aoc _ _ _ hq2, List.length_replicate]; omega) (by intro v hv; rw [List.eq_of_mem_replicate hv]; rfl) w.heap.size w (bV lS.out) (Nat.le_refl _) ?_; intro w4 hG hB; have CX := Zd.mk hG.out; have bQ := Zd.mk hB; clear hG hB)
   all_goals (
    go_wp2;go_roundg (n - (q + min q (n - q)))
    case measure => have := HQ.out; omega
    case rel => exact ⟨q + min q (n - q), by omega, by omega, rfl, by first | (go_num; done) | (congr 1; go_num; done) | (simp only [adq q n hq2 hlt h1]; done) | (simp only [adq q n hq2 hlt h1]; rfl), ⟨by rw [CX.out]; exact congrArg some (congrArg (fun z : List Value => Obj.cells z.toArray 4 (0, 0)) (ado n q _ _ _ ag))⟩, bQ⟩)
  ·have e : q = n := by omega
   subst e;go_wp2;go_ret;exact ⟨_, rfl, Nat.le_refl _, by rw [CW.out]; congr 3; simp [z8, yJ], lS.out⟩
def jg (n b i : Nat) : Nat := if i + 1 < n then i + 1 else b
theorem Ph {n b i : Nat} (hb : b < n) : jg n b i < n := by unfold jg; split <;> omega
def Ad (w : World) (rb : Nat) (A : Option Addr) (n c b : Nat) : Prop := w.heap[rb]? = some (.cells #[.slice A n c, .int .i64 (b : Int)] 96 (0, 0))
theorem adu (rb : Nat) (A : Option Addr) (n c b i : Nat) (w : World) (h : Ad w rb A n c b) (hi : i < n) (hn : n < 1000000000) :
  Calls Tryz.prog 79 #[.pointer (some ⟨rb, 0, none⟩), .int .i64 i] w fun e w' => e = .returned (.int .i64 (jg n b i : Nat)) ∧ w' = w := by
 have hu := Tryz.underlying96;have x0 : w.cell? ⟨rb, 0, none⟩ = some (.slice A n c) := (aj h 0).trans rfl;have x1 : w.cell? ⟨rb, 1, none⟩ = some (.int .i64 (b : Int)) := (aj h 1).trans rfl;clear h;by_cases hlt : i + 1 < n
 ·have hlt' : (i : Int) + 1 < n := by omega
  go_enter Tryz.func79, Tryz.ntmps79;go_wp2;go_ret;exact ⟨by unfold jg; rw [if_pos hlt]; rfl, rfl⟩
 ·have hlt' : ¬ (i : Int) + 1 < n := by omega
  go_enter Tryz.func79, Tryz.ntmps79;go_wp2;go_ret;exact ⟨by unfold jg; rw [if_neg hlt]; rfl, rfl⟩
def tJ (f : Nat → Bool → Bool) (n b : Nat) : Nat → List Bool → List Bool
 | 0, out => out
 | i + 1, out => tJ f n b i (out.set i (f i (out.getD (jg n b i) false)))
def jh (f : Nat → Bool → Bool) (n b : Nat) (first : Bool) : List Bool := tJ f n b n (tJ f n b n (List.replicate n first))
theorem UC (f : Nat → Bool → Bool) (n b : Nat) : ∀ (i : Nat) (out : List Bool), (tJ f n b i out).length = out.length
 | 0, out => rfl
 | i + 1, out => by rw [tJ, UC f n b i]; simp
def passes (f : Nat → Bool → Bool) (n b : Nat) : Nat → List Bool → List Bool
 | 0, out => out
 | t + 1, out => passes f n b t (tJ f n b n out)
def wo (l : List Bool) : List Value := l.map Value.bool
theorem UD {l : List Bool} {i : Nat} (h : i < l.length) : (wo l).toArray[i]? = some (.bool (l.getD i false)) := by
 simp [wo, h]
theorem aog (l : List Bool) (i : Nat) (x : Bool) : (wo l).toArray.setIfInBounds i (.bool x) = (wo (l.set i x)).toArray := by
 simp [wo, List.map_set]
theorem UE (k : FuncId) (cap : Array Value) (he : ∀ args w, (callFunc k args).run Tryz.prog w = .ok (.enter k args) w) (f : Nat → Bool → Bool)
  (rb : Nat) (A : Option Addr) (n c b : Nat) (first : Bool) (w : World) (h : Ad w rb A n c b) (h0 : 0 < n) (hn : n < 1000000000) (hb : b < n)
  (hF : ∀ W, Below w.heap.size w W → ∀ (i : Nat) (x : Bool), i < n → Calls Tryz.prog k (#[.int .i64 i, .bool x] ++ cap) W fun e W' => e = .returned (.bool (f i x)) ∧ Below W.heap.size W W') :
  Calls Tryz.prog 80 #[.pointer (some ⟨rb, 0, none⟩), .bool first, .func (.func k) #[] cap] w fun e w' => ∃ g, e = .returned (.slice (some ⟨g, 0, none⟩) n n) ∧ w.heap.size ≤ g ∧ w'.heap[g]? = some (.cells (wo (jh f n b first)).toArray 4 (0, 0)) ∧ Below w.heap.size w w' := by
 have jf := Tryz.underlying57;have hu := Tryz.underlying96;have x0 : w.cell? ⟨rb, 0, none⟩ = some (.slice A n c) := (aj h 0).trans rfl;have y0 : (w.alloc (.cells #[.bool first] 4)).cell? ⟨rb, 0, none⟩ = some (.slice A n c) := (aj (bf h _) 0).trans rfl;have HR := Zd.mk h;have HF := Zd.mk hF;clear h hF;go_enter Tryz.func80, Tryz.ntmps80;go_wp2_with (go_at_call 98; refine (aof w.heap.size first n _ (heap_alloc_new w _) h0 hn).mono ?_; rintro e w1 ⟨g, rfl, hg, hG, hB⟩; have nK := Zd.mk (show w.heap.size ≤ g from by simp at hg; omega); have HG := Zd.mk hG; have HB := Zd.mk ((aW (Below.refl _ _) _).trans (hB.mono (by simp)) : Below w.heap.size w w1); clear hg hG hB);go_loopg [17] 2 (fun kq v17 w' => ∃ (t : Nat) (out : List Bool), t ≤ 2 ∧ kq = 2 - t ∧ v17 = .int .i64 t ∧ out.length = n ∧ Zd (passes f n b (2 - t) out = jh f n b first) ∧ Zd (w'.heap[g]? = some (.cells (wo out).toArray 4 (0, 0))) ∧ Zd (Below w.heap.size w w'))
 case atStart => exact ⟨0, List.replicate n first, by omega, rfl, rfl, by simp, ⟨rfl⟩, ⟨by rw [HG.out]; congr 3; simp [yJ, wo]⟩, HB⟩
 case round =>
  obtain ⟨t, out, ht, hkq, rfl, hlo, HP, CW, lS⟩ := hrel;have HT := Zd.mk ht;have Kl := Zd.mk hkq;have CY := Zd.mk hlo;clear ht hkq hlo;obtain ⟨WW, rfl⟩ : ∃ W : World, W = wr := ⟨_, rfl⟩;by_cases hlt : (t : Int) < 2
  ·have CZ : passes f n b (2 - t) out = passes f n b (2 - (t + 1)) (tJ f n b n out) := by rw [show 2 - t = (2 - (t + 1)) + 1 by have := HT.out; omega]; rfl
   have yL := Zd.mk CZ;clear CZ;go_wp2;go_loopg [8] n (fun kq v8 w' => ∃ (o2 : List Bool), kq ≤ n ∧ v8 = .int .i64 ((kq : Int) - 1) ∧ o2.length = n ∧ Zd (tJ f n b kq o2 = tJ f n b n out) ∧ Zd (w'.heap[g]? = some (.cells (wo o2).toArray 4 (0, 0))) ∧ Zd (Below w.heap.size w w'))
   case atStart => exact ⟨out, Nat.le_refl _, rfl, CY.out, ⟨rfl⟩, CW, lS⟩
   case round =>
    obtain ⟨o2, hkn, rfl, hl2, HQ, HG2, HB2⟩ := hrel;obtain _ | j := gk
    ·have e0 : ((0 : Nat) : Int) - 1 = -1 := rfl;rw [e0];have Km := Zd.mk (show passes f n b (2 - (t + 1)) o2 = jh f n b first from by rw [← HP.out, yL.out, ← HQ.out]; rfl);have Ib := Zd.mk hl2;clear hl2;go_wp2;go_roundg (2 - (t + 1))
     case measure => have := Kl.out; have := HT.out; omega
     case rel => exact ⟨t + 1, o2, by omega, rfl, by first | rfl | (congr 1; go_num; done) | go_num, Ib.out, Km, HG2, HB2⟩
    ·have e1 : ((j + 1 : Nat) : Int) - 1 = (j : Int) := by omega
     rw [e1];have hjn : j < n := by omega
     have hj0 : ¬ ((j : Int) < 0) := by omega
     have hIR : Ad wr rb A n c b := (HB2.out.block _ (aT HR.out)).trans HR.out;have HN := Zd.mk (adu rb A n c b j wr hIR hjn hn);have HS := Zd.mk (show tJ f n b j (o2.set j (f j (o2.getD (jg n b j) false))) = tJ f n b n out from HQ.out);have hq : jg n b j < n := Ph hb;generalize jg n b j = q at HN HS hq;obtain ⟨x, hx⟩ : ∃ x, x = o2.getD q false := ⟨_, rfl⟩;rw [← hx] at HS;have xq : wr.cell? ⟨g, q, none⟩ = some (.bool x) := by rw [aj HG2.out, UD ag, hx]
     have Ib := Zd.mk hl2;have EO := Zd.mk (HF.out wr HB2.out j x hjn);clear hl2 hIR hx;go_wp2_with (first | (go_at_call 79; refine HN.out.mono ?_; rintro e w4 ⟨rfl, rfl⟩) | ((with_reducible refine EO.out.mono ?_); rintro e w4 ⟨rfl, hB4⟩; have CX := Zd.mk ((hB4.block _ (aT HG2.out)).trans HG2.out); have bQ := Zd.mk (HB2.out.trans (hB4.mono HB2.out.size)); have xj : w4.cell? ⟨g, j, none⟩ = some (.bool (o2.getD j false)) := (by rw [aj CX.out, UD (by rw [Ib.out]; exact hjn)]); have fj := aN CX.out j; clear hB4));go_roundg j
     case measure => omega
     case rel => exact ⟨o2.set j (f j x), by omega, by first | rfl | (congr 1; go_num; done) | go_num, by simp [Ib.out], HS, ⟨(jc CX.out j _).trans (by rw [aog])⟩, ⟨NP bQ.out nK.out⟩⟩
  ·have e2 : t = 2 := by have := HT.out; omega
   subst e2;have HE := Zd.mk (show out = jh f n b first from HP.out);go_wp2;go_ret;exact ⟨g, rfl, nK.out, by rw [← HE.out]; exact CW.out, lS.out⟩
theorem sw {P : Program} {f : FuncId} {fn : Func} {c : Code} (hf : P.funcs[f]? = some fn) (hname : (fn.name == "runtime.NumGoroutine") = false) (hb : fn.body = some c) (args : Array Value) (w : World) : (callFunc f args).run P w = .ok (.enter f args) w := by
 have h1 : fn.name ≠ "runtime.NumGoroutine" := fun h => by rw [h] at hname; exact absurd hname ai
 simp [callFunc, hf, h1, hb, mark]
def tK (w : World) (g : Nat) (l : List Bool) : Prop := w.heap[g]? = some (.cells (wo l).toArray 4 (0, 0))
def ji (w : World) (p : Nat) (v : Value) (t : TypeId) : Prop := w.heap[p]? = some (.cells #[v] t (0, 0))
theorem Ae {w : World} {g : Nat} {l : List Bool} (h : tK w g l) {i : Nat} (hi : i < l.length) : w.cell? ⟨g, i, none⟩ = some (.bool (l.getD i false)) := by rw [aj h, UD hi]
theorem cell1 {w : World} {p : Nat} {v : Value} {t : TypeId} (h : ji w p v t) : w.cell? ⟨p, 0, none⟩ = some v := (aj h 0).trans rfl
theorem aoh (p ga n i : Nat) (a : List Bool) (W : World) (hp : ji W p (.slice (some ⟨ga, 0, none⟩) n n) 57) (ha : tK W ga a) (hl : a.length = n) (hi : i < n) :
  Calls Tryz.prog 75 #[.int .i64 i, .pointer (some ⟨p, 0, none⟩)] W fun e W' => e = .returned (.bool (!(a.getD i false))) ∧ Below W.heap.size W W' := by
 have jf := Tryz.underlying57;have hx := cell1 hp;have hy := Ae ha (i := i) ag;generalize a.getD i false = x at *;clear hp ha;go_enter Tryz.func75, Tryz.ntmps75;go_wp2;go_ret;exact ⟨rfl, Below.refl _ _⟩
theorem aoi (p q ga gb n i : Nat) (a b : List Bool) (W : World) (hp : ji W p (.slice (some ⟨ga, 0, none⟩) n n) 57) (ha : tK W ga a) (hl : a.length = n) (hq : ji W q (.slice (some ⟨gb, 0, none⟩) n n) 57) (hb : tK W gb b) (hm : b.length = n) (hi : i < n) :
  Calls Tryz.prog 76 #[.int .i64 i, .pointer (some ⟨p, 0, none⟩), .pointer (some ⟨q, 0, none⟩)] W fun e W' => e = .returned (.bool (a.getD i false && b.getD i false)) ∧ Below W.heap.size W W' := by
 have jf := Tryz.underlying57;have hx := cell1 hp;have hx2 := cell1 hq;have hy := Ae ha (i := i) ag;have hy2 := Ae hb (i := i) ag;generalize a.getD i false = x at *;generalize b.getD i false = y at *;clear hp ha hq hb;cases x with
 | false =>
  go_enter Tryz.func76, Tryz.ntmps76;go_wp2;go_ret;exact ⟨rfl, Below.refl _ _⟩
 | true =>
  go_enter Tryz.func76, Tryz.ntmps76;go_wp2;go_ret;exact ⟨rfl, Below.refl _ _⟩
theorem aoj (p q ga gb n i : Nat) (a b : List Bool) (W : World) (hp : ji W p (.slice (some ⟨ga, 0, none⟩) n n) 57) (ha : tK W ga a) (hl : a.length = n) (hq : ji W q (.slice (some ⟨gb, 0, none⟩) n n) 57) (hb : tK W gb b) (hm : b.length = n) (hi : i < n) :
  Calls Tryz.prog 77 #[.int .i64 i, .pointer (some ⟨p, 0, none⟩), .pointer (some ⟨q, 0, none⟩)] W fun e W' => e = .returned (.bool (a.getD i false || b.getD i false)) ∧ Below W.heap.size W W' := by
 have jf := Tryz.underlying57;have hx := cell1 hp;have hx2 := cell1 hq;have hy := Ae ha (i := i) ag;have hy2 := Ae hb (i := i) ag;generalize a.getD i false = x at *;generalize b.getD i false = y at *;clear hp ha hq hb;cases x with
 | false =>
  go_enter Tryz.func77, Tryz.ntmps77;go_wp2;go_ret;exact ⟨rfl, Below.refl _ _⟩
 | true =>
  go_enter Tryz.func77, Tryz.ntmps77;go_wp2;go_ret;exact ⟨rfl, Below.refl _ _⟩
theorem aok (p q ga rb n c b i : Nat) (A : Option Addr) (a : List Bool) (W : World) (hp : ji W p (.slice (some ⟨ga, 0, none⟩) n n) 57) (ha : tK W ga a) (hl : a.length = n) (hq : ji W q (.pointer (some ⟨rb, 0, none⟩)) 93) (hr : Ad W rb A n c b) (hb : b < n) (hi : i < n) (hn : n < 1000000000) :
  Calls Tryz.prog 78 #[.int .i64 i, .pointer (some ⟨p, 0, none⟩), .pointer (some ⟨q, 0, none⟩)] W fun e W' => e = .returned (.bool (a.getD (jg n b i) false)) ∧ Below W.heap.size W W' := by
 have jf := Tryz.underlying57;have hx := cell1 hp;have hx2 := cell1 hq;have hlt := Ph (n := n) (i := i) hb;have hy := Ae ha (i := jg n b i) ag;have HN := Zd.mk (fun m => adu rb A n c b i (W.drewN m) (bd_ hr m) hi hn);generalize jg n b i = j at *;generalize a.getD j false = x at *;clear hp ha hq hr;go_enter Tryz.func78, Tryz.ntmps78;go_wp2
 go_quiet (first | (go_at_call 79; refine Calls.quiet_of_same (HN.out _)))
 go_wp2;go_ret;exact ⟨rfl, fB (Below.refl _ _) _⟩
theorem aol (p q ga gb n i : Nat) (nx : Bool) (a b : List Bool) (W : World) (hp : ji W p (.slice (some ⟨ga, 0, none⟩) n n) 57) (ha : tK W ga a) (hl : a.length = n) (hq : ji W q (.slice (some ⟨gb, 0, none⟩) n n) 57) (hb : tK W gb b) (hm : b.length = n) (hi : i < n) :
  Calls Tryz.prog 81 #[.int .i64 i, .bool nx, .pointer (some ⟨q, 0, none⟩), .pointer (some ⟨p, 0, none⟩)] W fun e W' => e = .returned (.bool (b.getD i false || a.getD i false && nx)) ∧ Below W.heap.size W W' := by
 have jf := Tryz.underlying57;have hx := cell1 hp;have hx2 := cell1 hq;have hy := Ae ha (i := i) ag;have hy2 := Ae hb (i := i) ag;generalize a.getD i false = x at *;generalize b.getD i false = y at *;clear hp ha hq hb;cases y <;> cases x <;> (
  go_enter Tryz.func81, Tryz.ntmps81;go_wp2;go_ret;exact ⟨by first | rfl | (cases nx <;> rfl), Below.refl _ _⟩)
theorem aom (p q ga gb n i : Nat) (nx : Bool) (a b : List Bool) (W : World) (hp : ji W p (.slice (some ⟨ga, 0, none⟩) n n) 57) (ha : tK W ga a) (hl : a.length = n) (hq : ji W q (.slice (some ⟨gb, 0, none⟩) n n) 57) (hb : tK W gb b) (hm : b.length = n) (hi : i < n) :
  Calls Tryz.prog 82 #[.int .i64 i, .bool nx, .pointer (some ⟨q, 0, none⟩), .pointer (some ⟨p, 0, none⟩)] W fun e W' => e = .returned (.bool (b.getD i false && (a.getD i false || nx))) ∧ Below W.heap.size W W' := by
 have jf := Tryz.underlying57;have hx := cell1 hp;have hx2 := cell1 hq;have hy := Ae ha (i := i) ag;have hy2 := Ae hb (i := i) ag;generalize a.getD i false = x at *;generalize b.getD i false = y at *;clear hp ha hq hb;cases y <;> cases x <;> (
  go_enter Tryz.func82, Tryz.ntmps82;go_wp2;go_ret;exact ⟨by first | rfl | (cases nx <;> rfl), Below.refl _ _⟩)
theorem aon (i : Int) (W : World) : Calls Tryz.prog 83 #[.int .i64 i] W fun e W' => e = .returned (.bool true) ∧ Below W.heap.size W W' := by
 go_enter Tryz.func83, Tryz.ntmps83;go_wp2;go_ret;exact ⟨rfl, Below.refl _ _⟩
def uL (l m : Int) : Bool := (Go.bits .and .u32 (shr .u32 l (IntKind.u64.wrap m)) 1) == 1
theorem aoo (p q rb n c b i : Nat) (A A2 : Option Addr) (ls : List Int) (op m : Int) (kn kc : Nat) (W : World) (hp : ji W p (.pointer (some ⟨rb, 0, none⟩)) 93) (hr : Ad W rb A n c b) (hC : Kd.C (Kd.int .u32) W A n ls) (hq : W.heap[q]? = some (.cells #[.int .i64 op, .int .i64 m, .slice A2 kn kc] 29 (0, 0))) (hi : i < n) (hm0 : 0 ≤ m) (hm1 : m < 32) :
  Calls Tryz.prog 74 #[.int .i64 i, .pointer (some ⟨p, 0, none⟩), .pointer (some ⟨q, 0, none⟩)] W fun e W' => e = .returned (.bool (uL (ls.getD i 0) m)) ∧ Below W.heap.size W W' := by
 have jf := Tryz.underlying22;have jm := Tryz.underlying29;have huR := Tryz.underlying96;have hx := cell1 hp;have hx2 : W.cell? ⟨q, 1, none⟩ = some (.int .i64 m) := (aj hq 1).trans rfl;have hR := Kd.yw (d := 0) hC;obtain ⟨ad, rfl, hc⟩ := hR.2.2 ag;have hy := hc i hi;have hz : W.cell? ⟨rb, 0, none⟩ = some (.slice (some ad) n c) := (aj hr 0).trans rfl;generalize ls.getD i 0 = x at *;have hw : IntKind.u64.wrap m = m := Hz hm0 ag;have oU := Zd.mk (show uL x m = ((Go.bits .and .u32 (x / 2 ^ m.toNat) 1) == 1) from by unfold uL; rw [hw, ← Oe (k := .u32) (x := x) (y := m) rfl (by show m ≤ 32; omega)]);clear hp hr hC hq hR hc hw;go_enter Tryz.func74, Tryz.ntmps74;go_wp2
 go_quiet (fail)
 go_wp2;go_ret;exact ⟨by rw [oU.out]; rfl, fB (Below.refl _ _) _⟩
theorem aop (k : FuncId) (cap : Array Value) (he : ∀ args w, (callFunc k args).run Tryz.prog w = .ok (.enter k args) w) (p i : Nat) (x r : Bool) (W : World) (hp : ji W p (.func (.func k) #[] cap) 82)
  (hF : Calls Tryz.prog k (#[.int .i64 i] ++ cap) W fun e W' => e = .returned (.bool r) ∧ Below W.heap.size W W') :
  Calls Tryz.prog 97 #[.int .i64 i, .bool x, .pointer (some ⟨p, 0, none⟩)] W fun e W' => e = .returned (.bool r) ∧ Below W.heap.size W W' := by
 have hx := cell1 hp;have HF := Zd.mk hF;clear hp hF;go_enter Tryz.func97, Tryz.ntmps97;go_wp2_with ((with_reducible refine HF.out.mono ?_); rintro e w4 ⟨rfl, hB4⟩; have bQ := Zd.mk hB4; clear hB4);go_ret;exact ⟨rfl, bQ.out⟩
theorem Ic (k : FuncId) (cap : Array Value) (he : ∀ args w, (callFunc k args).run Tryz.prog w = .ok (.enter k args) w) (f : Nat → Bool)
  (rb : Nat) (A : Option Addr) (n c b : Nat) (w : World) (h : Ad w rb A n c b) (h0 : 0 < n) (hn : n < 1000000000) (hb : b < n)
  (hF : ∀ W, Below w.heap.size w W → ∀ (i : Nat), i < n → Calls Tryz.prog k (#[.int .i64 i] ++ cap) W fun e W' => e = .returned (.bool (f i)) ∧ Below W.heap.size W W') :
  Calls Tryz.prog 73 #[.pointer (some ⟨rb, 0, none⟩), .func (.func k) #[] cap] w fun e w' => ∃ g, e = .returned (.slice (some ⟨g, 0, none⟩) n n) ∧ w.heap.size ≤ g ∧ tK w' g (jh (fun i _ => f i) n b false) ∧ Below w.heap.size w w' := by
 have xE : ∀ fn first cap w, (Instr.makeFunc fn first cap).run Tryz.prog w = .ok (.func fn first cap) w := fun _ _ _ _ => rfl;obtain ⟨W1, hW1⟩ : ∃ W1, W1 = w.alloc (.cells #[.func (.func k) #[] cap] 82) := ⟨_, rfl⟩;have hB1 : Below w.heap.size w W1 := by rw [hW1]; exact aW (Below.refl _ _) _
 have hc1 : ji W1 w.heap.size (.func (.func k) #[] cap) 82 := by rw [hW1]; exact heap_alloc_new w _
 have he1 : ∀ args w, (callFunc 97 args).run Tryz.prog w = .ok (.enter 97 args) w := sw Tryz.func97 aa rfl;have hS := UE 97 #[.pointer (some ⟨w.heap.size, 0, none⟩)] he1 (fun i _ => f i) rb A n c b false W1 (by rw [hW1]; exact bf h _) h0 hn hb
  (fun W hW i x hi => aop k cap he w.heap.size i x (f i) W ((hW.block _ (aT hc1)).trans hc1) (hF W (hB1.trans (hW.mono hB1.size)) i hi))
 have HS := Zd.mk hS;have HB1 := Zd.mk hB1;have HW1 := Zd.mk hW1;clear hS hB1 hc1 hF h;go_enter Tryz.func73, Tryz.ntmps73;go_wp2_with (go_at_call 80; rw [← HW1.out]; refine HS.out.mono ?_; rintro e w4 ⟨g, rfl, hg, hG, hB4⟩; have HG := Zd.mk hG; have bQ := Zd.mk (HB1.out.trans (hB4.mono HB1.out.size)); have nK := Zd.mk (Nat.le_trans HB1.out.size hg); clear hB4 hG hg);go_ret;exact ⟨g, rfl, nK.out, HG.out, bQ.out⟩
end Go.Proofs.YtapejnikpmfddaaGreat.X
namespace Go.Proofs.YtapejnikpmfddaaGreat.X
open Go.RowKit Go.Proofs.aI.bM Go.Proofs.aI.dM
open Go.Proofs.YtapejnikpmfddaaGreat.P
def jG (sv : Int) (k : Nat) : Bool := (Go.bits .and .i64 (sv / 2 ^ k) 1) == 1
def mG (op m lt : Int) (bit x y : Bool) : Bool :=
 if op = 2 then uL lt m else if op = 3 then !x else if op = 4 then x && y else if op = 5 then x || y else if op = 6 then bit else if op = 7 then y || x && bit else if op = 8 then y && (x || bit) else true
def EP (op : Int) (x v : Bool) : Bool := if op = 6 then x else v
def wu (op : Int) (v y : Bool) : Bool := if op = 6 then true else if op = 7 then !v || y else v || !y
def tS (op : Int) : Nat := if dB op = true then 1 else 0
mutual
def az : ak → Nat
 | ⟨op, _, kids⟩ => tS op + dI kids
def dI : List ak → Nat
 | [] => 0
 | k :: r => az k + dI r
end
mutual
def dZ (sv lt : Int) : ak → Nat → Bool
 | ⟨op, m, kids⟩, k => mG op m lt (jG sv k) ((dO sv lt kids (k + tS op)).getD 0 false) ((dO sv lt kids (k + tS op)).getD 1 false)
def dO (sv lt : Int) : List ak → Nat → List Bool
 | [], _ => []
 | c :: r, k => dZ sv lt c k :: dO sv lt r (k + az c)
end
def bX (op : Int) (b : Bool) : List Bool := if dB op = true then [b] else []
mutual
def kH (sv lt : Int) : ak → Nat → List Bool
 | ⟨op, m, kids⟩, k => bX op (EP op ((dO sv lt kids (k + tS op)).getD 0 false) (dZ sv lt ⟨op, m, kids⟩ k)) ++ mW sv lt kids (k + tS op)
def mW (sv lt : Int) : List ak → Nat → List Bool
 | [], _ => []
 | c :: r, k => kH sv lt c k ++ mW sv lt r (k + az c)
end
mutual
def jW (sv lt : Int) : ak → Nat → List Bool
 | ⟨op, m, kids⟩, k => bX op (wu op (dZ sv lt ⟨op, m, kids⟩ k) ((dO sv lt kids (k + tS op)).getD 1 false)) ++ nM sv lt kids (k + tS op)
def nM (sv lt : Int) : List ak → Nat → List Bool
 | [], _ => []
 | c :: r, k => jW sv lt c k ++ nM sv lt r (k + az c)
end
theorem tL (op : Int) (b : Bool) : (bX op b).length = tS op := by unfold bX tS; split <;> rfl
mutual
theorem Kn (sv lt : Int) : ∀ (s : ak) (k : Nat), (kH sv lt s k).length = az s
 | ⟨op, m, kids⟩, k => by simp only [kH, List.length_append, tL, adv sv lt kids, az]
theorem adv (sv lt : Int) : ∀ (l : List ak) (k : Nat), (mW sv lt l k).length = dI l
 | [], _ => rfl
 | c :: r, k => by simp only [mW, List.length_append, Kn sv lt c, adv sv lt r, dI]
end
mutual
theorem Ie (sv lt : Int) : ∀ (s : ak) (k : Nat), (jW sv lt s k).length = az s
 | ⟨op, m, kids⟩, k => by simp only [jW, List.length_append, tL, adw sv lt kids, az]
theorem adw (sv lt : Int) : ∀ (l : List ak) (k : Nat), (nM sv lt l k).length = dI l
 | [], _ => rfl
 | c :: r, k => by simp only [nM, List.length_append, Ie sv lt c, adw sv lt r, dI]
end
theorem adx (sv lt : Int) : ∀ (l : List ak) (k : Nat), (dO sv lt l k).length = l.length
 | [], _ => rfl
 | c :: r, k => by simp only [dO, List.length_cons, adx sv lt r]
theorem Ig (sv lt : Int) (s : ak) (k : Nat) : dZ sv lt s k = mG s.f0 s.f1 lt (jG sv k) ((dO sv lt s.f2 (k + tS s.f0)).getD 0 false) ((dO sv lt s.f2 (k + tS s.f0)).getD 1 false) := by cases s; rw [dZ]
theorem Pj (sv lt : Int) (s : ak) (k : Nat) : kH sv lt s k = bX s.f0 (EP s.f0 ((dO sv lt s.f2 (k + tS s.f0)).getD 0 false) (dZ sv lt s k)) ++ mW sv lt s.f2 (k + tS s.f0) := by cases s; rw [kH]
theorem Pk (sv lt : Int) (s : ak) (k : Nat) : jW sv lt s k = bX s.f0 (wu s.f0 (dZ sv lt s k) ((dO sv lt s.f2 (k + tS s.f0)).getD 1 false)) ++ nM sv lt s.f2 (k + tS s.f0) := by cases s; rw [jW]
theorem ER (s : ak) : az s = tS s.f0 + dI s.f2 := by cases s; rw [az]
open Go.Proofs.YtapejnikpmfddaaGreat.gY
mutual
def nS : ak → Nat
 | ⟨_, _, kids⟩ => 1 + nL kids
def nL : List ak → Nat
 | [] => 0
 | k :: r => nS k + nL r
end
mutual
def hS : ak → Nat
 | ⟨_, _, kids⟩ => 1 + hL kids
def hL : List ak → Nat
 | [] => 0
 | k :: r => max (hS k) (hL r)
end
theorem adA (c : oO) (op : Int) : (if dB op = true then c.t + 1 else c.t) = c.t + (tS op : Int) := by unfold tS; split <;> simp
mutual
theorem adB : ∀ (s : ak) (d : Int) (c : oO), (mV s d c).n ≤ 60 → (mV s d c).deep = false → mV s d c = ⟨c.n + nS s, c.t + az s, false⟩ ∧ c.deep = false ∧ d + hS s ≤ 13
 | ⟨op, m, kids⟩, d, c, h1, h2 => by
  simp only [mV] at h1 h2 ⊢;by_cases hd : d > 12
  ·rw [if_pos hd] at h2; cases h2
  ·rw [if_neg hd] at h1 h2 ⊢;obtain ⟨e1, e2, e3⟩ := adC kids (d + 1) _ h1 h2;rw [e1];simp only at e2;refine ⟨?_, e2, ?_⟩
   ·simp only [nS, az, oO.mk.injEq, adA];refine ⟨by omega, by omega, trivial⟩
   ·simp only [hS];rcases e3 with e3 | e3
    ·omega
    ·subst e3; simp only [hL]; omega
theorem adC : ∀ (l : List ak) (d : Int) (c : oO), (nJ l d c).n ≤ 60 → (nJ l d c).deep = false → nJ l d c = ⟨c.n + nL l, c.t + dI l, false⟩ ∧ c.deep = false ∧ (d + hL l ≤ 13 ∨ l = [])
 | [], d, c, h1, h2 => by
  simp only [nJ] at h1 h2 ⊢;refine ⟨?_, h2, .inr trivial⟩;cases c;simp only at h2;subst h2;simp [nL, dI]
 | k :: r, d, c, h1, h2 => by
  simp only [nJ] at h1 h2 ⊢;by_cases hc : c.n > 60
  ·rw [if_pos hc] at h1; omega
  ·rw [if_neg hc] at h1 h2 ⊢;obtain ⟨e1, e2, e3⟩ := adC r d _ h1 h2;have h3 : (mV k d c).n ≤ 60 := by rw [e1] at h1; simp only at h1; omega
   obtain ⟨f1, f2, f3⟩ := adB k d c h3 e2;rw [e1, f1];refine ⟨?_, f2, .inl ?_⟩
   ·simp only [nL, dI, oO.mk.injEq];refine ⟨by omega, by omega, trivial⟩
   ·simp only [hL];rcases e3 with e3 | e3
    ·omega
    ·subst e3; simp only [hL]; omega
end
mutual
theorem UF : ∀ (s : ak) (d : Int) (c : oO), c.n + nS s ≤ 60 → d + hS s ≤ 13 → c.deep = false → mV s d c = ⟨c.n + nS s, c.t + az s, false⟩
 | ⟨op, m, kids⟩, d, c, h1, h2, h3 => by
  simp only [nS, hS] at h1 h2;simp only [mV];rw [if_neg ag, adD kids (d + 1) ⟨c.n + 1, if dB op = true then c.t + 1 else c.t, c.deep⟩ (by simp only; omega) ag h3];simp only [nS, az, oO.mk.injEq, adA];refine ⟨by omega, by omega, trivial⟩
theorem adD : ∀ (l : List ak) (d : Int) (c : oO), c.n + nL l ≤ 60 → d + hL l ≤ 13 → c.deep = false → nJ l d c = ⟨c.n + nL l, c.t + dI l, false⟩
 | [], d, c, h1, h2, h3 => by
  simp only [nJ];cases c;simp only at h3;subst h3;simp [nL, dI]
 | k :: r, d, c, h1, h2, h3 => by
  simp only [nL, hL] at h1 h2;simp only [nJ];rw [if_neg ag, UF k d c ag ag h3, adD r d _ (by simp only; omega) ag rfl];simp only [nL, dI, oO.mk.injEq];refine ⟨by omega, by omega, trivial⟩
end
theorem UG (s : ak) : xC s = true ↔ nS s ≤ 60 ∧ hS s ≤ 12 := by
 unfold xC;rw [Bool.and_eq_true, decide_eq_true_eq, Bool.not_eq_true'];constructor
 ·rintro ⟨h1, h2⟩;obtain ⟨e1, _, e3⟩ := adB s 1 ⟨0, 0, false⟩ h1 h2;unfold uJ at h1;rw [e1] at h1;simp only at h1;exact ⟨by omega, by omega⟩
 ·rintro ⟨h1, h2⟩;have e := UF s 1 ⟨0, 0, false⟩ (by simp only; omega) ag rfl;unfold uJ;rw [e];exact ⟨by simp only; omega, rfl⟩
theorem aoq {s : ak} (h : xC s = true) : (uJ s).t = az s := by
 obtain ⟨h1, h2⟩ := (UG s).1 h;unfold uJ;rw [UF s 1 ⟨0, 0, false⟩ (by simp only; omega) ag rfl];simp
theorem UH (s : ak) : bW s = if nS s ≤ 60 ∧ hS s ≤ 12 ∧ az s ≤ 8 then (if cO s = true then 0 else 1) else 7 := by
 unfold bW;by_cases hl : xC s = true
 ·have h1 := (UG s).1 hl;have h2 := aoq hl;by_cases ht : az s ≤ 8
  ·rw [if_pos (show xC s = true ∧ (uJ s).t ≤ 8 from ⟨hl, by omega⟩), if_pos (show nS s ≤ 60 ∧ hS s ≤ 12 ∧ az s ≤ 8 from ⟨h1.1, h1.2, ht⟩)]
  ·rw [if_neg (fun h => ht ag), if_neg (fun h => ht h.2.2)]
 ·rw [if_neg (fun h => hl h.1), if_neg (fun h => hl ((UG s).2 ⟨h.1, h.2.1⟩))]
theorem kZ {s : ak} (h : bW s = 0) : nS s ≤ 60 ∧ hS s ≤ 12 ∧ az s ≤ 8 ∧ cO s = true := by
 rw [UH] at h;split at h
 ·split at h
  ·exact ⟨by omega, by omega, by omega, by assumption⟩
  ·cases h
 ·cases h
mutual
def bU : ak → List ak
 | ⟨op, m, kids⟩ => (if dB op = true then [⟨op, m, kids⟩] else []) ++ fO kids
def fO : List ak → List ak
 | [] => []
 | k :: r => bU k ++ fO r
end
mutual
theorem iW : ∀ s : ak, (bU s).length = az s
 | ⟨op, m, kids⟩ => by
  simp only [bU, List.length_append, UI kids, az, tS];split <;> simp
theorem UI : ∀ l : List ak, (fO l).length = dI l
 | [] => rfl
 | k :: r => by simp only [fO, List.length_append, iW k, UI r, dI]
end
def jB (s : ak) : Int := if bW s = 0 then 2 ^ az s else 0
def il (s : ak) (sv : Int) : Bool := decide (0 ≤ sv ∧ sv < jB s)
theorem ES {s : ak} {sv : Int} (h : il s sv = true) : bW s = 0 := by
 have h1 := of_decide_eq_true h;by_cases h2 : bW s = 0
 ·exact h2
 ·unfold jB at h1;rw [if_neg h2] at h1;omega
theorem Ih (l : List ak) (i : Nat) (h : i < l.length) : aY l (i : Int) = l[i]'h := by
 unfold aY;rw [Int.toNat_natCast, List.getD_eq_getElem?_getD, List.getElem?_eq_getElem h]; rfl
theorem UJ {s : ak} (h : cO s = true) : s.f2.length ≤ 2 := by
 obtain ⟨op, m, kids⟩ := s;simp only [cO, Bool.and_eq_true, decide_eq_true_eq] at h;have := (Kj op).2;have := h.2.1;show kids.length ≤ 2;omega
theorem adE : ∀ {l : List ak}, gp l = true → ∀ k ∈ l, cO k = true
 | a :: r, h, k, hk => by
  simp only [gp, Bool.and_eq_true] at h;rcases List.mem_cons.1 hk with e | e
  ·rw [e]; exact h.1
  ·exact adE h.2 k e
theorem Af {s : ak} (h : cO s = true) : gp s.f2 = true := by
 obtain ⟨op, m, kids⟩ := s;simp only [cO, Bool.and_eq_true] at h;exact h.2.2.2.2
open Go.Proofs.aI.dG
def uM (ls : List Int) (b : Nat) (op m : Int) (x y : List Bool) : List Bool :=
 if op = 2 then jh (fun i _ => uL (ls.getD i 0) m) ls.length b false
 else if op = 3 then jh (fun i _ => !(x.getD i false)) ls.length b false
 else if op = 4 then jh (fun i _ => x.getD i false && y.getD i false) ls.length b false
 else if op = 5 then jh (fun i _ => x.getD i false || y.getD i false) ls.length b false
 else if op = 6 then jh (fun i _ => x.getD (jg ls.length b i) false) ls.length b false
 else if op = 7 then jh (fun i nx => y.getD i false || x.getD i false && nx) ls.length b false
 else if op = 8 then jh (fun i nx => y.getD i false && (x.getD i false || nx)) ls.length b true
 else jh (fun _ _ => true) ls.length b false
mutual
def mH (ls : List Int) (b : Nat) : ak → List Bool
 | ⟨op, m, kids⟩ => uM ls b op m ((fZ ls b kids).getD 0 []) ((fZ ls b kids).getD 1 [])
def fZ (ls : List Int) (b : Nat) : List ak → List (List Bool)
 | [] => []
 | k :: r => mH ls b k :: fZ ls b r
end
theorem UK (ls : List Int) (b : Nat) : ∀ (l : List ak) (i : Nat) (h : i < l.length), (fZ ls b l).getD i [] = mH ls b (l[i]'h)
 | k :: r, 0, h => by simp [fZ]
 | k :: r, i + 1, h => by
  have := UK ls b r i (by simpa using h);simpa [fZ] using this
theorem adF (f : Nat → Bool → Bool) (n b : Nat) (first : Bool) : (jh f n b first).length = n := by simp [jh, UC]
theorem aor (ls : List Int) (b : Nat) (op m : Int) (x y : List Bool) : (uM ls b op m x y).length = ls.length := by
 unfold uM
 repeat' split
 all_goals exact adF _ _ _ _
theorem UL (ls : List Int) (b : Nat) (s : ak) : (mH ls b s).length = ls.length := by
 obtain ⟨op, m, kids⟩ := s;rw [mH];exact aor _ _ _ _ _ _
theorem adG : ∀ {l : List ak}, gp l = true → ∀ (i : Nat) (h : i < l.length), cO (l[i]'h) = true
 | k :: r, h, 0, _ => by simp only [gp, Bool.and_eq_true] at h; exact h.1
 | k :: r, h, i + 1, hi => by simp only [gp, Bool.and_eq_true] at h; exact adG h.2 i (by simpa using hi)
theorem Pm {s : ak} (h : cO s = true) (i : Nat) (hi : i < s.f2.length) : cO (s.f2[i]'hi) = true := by
 obtain ⟨op, m, kids⟩ := s;simp only [cO, Bool.and_eq_true] at h;exact adG h.2.2.2.2 i hi
theorem C8 {s : ak} (h : cO s = true) : 0 ≤ fC s.f0 ∧ (s.f2.length : Int) = fC s.f0 ∧ 0 ≤ s.f1 ∧ s.f1 ≤ lQ s.f0 := by
 obtain ⟨op, m, kids⟩ := s;simp only [cO, Bool.and_eq_true, decide_eq_true_eq] at h;exact ⟨h.1, h.2.1, h.2.2.1, h.2.2.2.1⟩
theorem yM (ls : List Int) (b : Nat) (s : ak) : mH ls b s = uM ls b s.f0 s.f1 ((fZ ls b s.f2).getD 0 []) ((fZ ls b s.f2).getD 1 []) := by cases s; rfl
theorem Pn {op : Int} (h : 0 ≤ fC op) : op = 1 ∨ op = 2 ∨ op = 3 ∨ op = 4 ∨ op = 5 ∨ op = 6 ∨ op = 7 ∨ op = 8 := by
 unfold fC at h;split at h
 ·omega
 ·split at h
  ·omega
  ·split at h
   ·omega
   ·omega
def Po (ls : List Int) (b : Nat) (s : ak) : Prop := ∀ (rb : Nat) (A : Option Addr) (c n : Nat) (A2 : Option Addr) (cp : Nat) (w : World), ls.length = n → Ad w rb A n c b → Kd.C (Kd.int .u32) w A n ls → 0 < n → n < 1000000000 → b < n → Kd.C bK w A2 s.f2.length s.f2 → s.f2.length ≤ cp → cO s = true →
 Calls Tryz.prog 55 #[.pointer (some ⟨rb, 0, none⟩), .agg #[.int .i64 s.f0, .int .i64 s.f1, .slice A2 s.f2.length cp]] w fun e w' => ∃ g, e = .returned (.slice (some ⟨g, 0, none⟩) n n) ∧ w.heap.size ≤ g ∧ tK w' g (mH ls b s) ∧ Below w.heap.size w w'
def Ko (w : World) (rb : Nat) (op m : Int) (A2 : Option Addr) (len cp : Nat) : World :=
 (((w.alloc (.cells #[.pointer (some ⟨rb, 0, none⟩)] 93)).alloc (.cells #[.int .i64 op, .int .i64 m, .slice A2 len cp] 29)).alloc (.cells #[.slice none 0 0] 57)).alloc (.cells #[.slice none 0 0] 57)
structure uN (w wx : World) (rb : Nat) (op m : Int) (A2 : Option Addr) (len cp : Nat) (va vb : Value) : Prop where
 c0 : ji wx w.heap.size (.pointer (some ⟨rb, 0, none⟩)) 93
 c1 : wx.heap[w.heap.size + 1]? = some (.cells #[.int .i64 op, .int .i64 m, .slice A2 len cp] 29 (0, 0))
 c2 : ji wx (w.heap.size + 1 + 1) va 57
 c3 : ji wx (w.heap.size + 1 + 1 + 1) vb 57
 bl : Below w.heap.size w wx
 sz : w.heap.size + 1 + 1 + 1 + 1 ≤ wx.heap.size
theorem uN.start (w : World) (rb : Nat) (op m : Int) (A2 : Option Addr) (len cp : Nat) : uN w (Ko w rb op m A2 len cp) rb op m A2 len cp (.slice none 0 0) (.slice none 0 0) := by
 refine ⟨?_, ?_, ?_, ?_, ?_, ?_⟩
 ·exact bf (bf (bf (heap_alloc_new w _) _) _) _
 ·refine bf (bf ?_ _) _;have := heap_alloc_new (w.alloc (.cells #[.pointer (some ⟨rb, 0, none⟩)] 93)) (.cells #[.int .i64 op, .int .i64 m, .slice A2 len cp] 29);simpa using this
 ·refine bf ?_ _;have := heap_alloc_new ((w.alloc (.cells #[.pointer (some ⟨rb, 0, none⟩)] 93)).alloc (.cells #[.int .i64 op, .int .i64 m, .slice A2 len cp] 29)) (.cells #[.slice none 0 0] 57);simpa using this
 ·have := heap_alloc_new (((w.alloc (.cells #[.pointer (some ⟨rb, 0, none⟩)] 93)).alloc (.cells #[.int .i64 op, .int .i64 m, .slice A2 len cp] 29)).alloc (.cells #[.slice none 0 0] 57)) (.cells #[.slice none 0 0] 57);simpa [ji, Ko] using this
 ·exact aW (aW (aW (aW (Below.refl _ _) _) _) _) _
 ·simp [Ko]
theorem uN.next {w wx w' : World} {rb : Nat} {op m : Int} {A2 : Option Addr} {len cp : Nat} {va vb : Value} (h : uN w wx rb op m A2 len cp va vb) (hB : Below wx.heap.size wx w') : uN w w' rb op m A2 len cp va vb :=
 ⟨(hB.block _ (aT h.c0)).trans h.c0, (hB.block _ (aT h.c1)).trans h.c1, (hB.block _ (aT h.c2)).trans h.c2, (hB.block _ (aT h.c3)).trans h.c3, h.bl.trans (hB.mono h.bl.size), Nat.le_trans h.sz hB.size⟩
theorem uN.aos {w wx : World} {rb : Nat} {op m : Int} {A2 : Option Addr} {len cp : Nat} {va vb : Value} (h : uN w wx rb op m A2 len cp va vb) (v : Value) : uN w (wx.setCell ⟨w.heap.size + 1 + 1, 0, none⟩ v) rb op m A2 len cp v vb :=
 ⟨dK h.c0 (by first | (simp; done) | (simp; omega) | omega) v, dK h.c1 (by first | (simp; done) | (simp; omega) | omega) v, (jc h.c2 0 v).trans (by simp), dK h.c3 (by first | (simp; done) | (simp; omega) | omega) v, h.bl.setCell (by first | (simp; done) | (simp; omega) | omega) v, by simpa using h.sz⟩
theorem uN.aot {w wx : World} {rb : Nat} {op m : Int} {A2 : Option Addr} {len cp : Nat} {va vb : Value} (h : uN w wx rb op m A2 len cp va vb) (v : Value) : uN w (wx.setCell ⟨w.heap.size + 1 + 1 + 1, 0, none⟩ v) rb op m A2 len cp va v :=
 ⟨dK h.c0 (by first | (simp; done) | (simp; omega) | omega) v, dK h.c1 (by first | (simp; done) | (simp; omega) | omega) v, dK h.c2 (by first | (simp; done) | (simp; omega) | omega) v, (jc h.c3 0 v).trans (by simp), h.bl.setCell (by first | (simp; done) | (simp; omega) | omega) v, by simpa using h.sz⟩
def yN (w wx : World) (n : Nat) (v : Value) (x : List Bool) : Prop := ∃ ga, v = .slice (some ⟨ga, 0, none⟩) n n ∧ w.heap.size + 1 + 1 + 1 + 1 ≤ ga ∧ tK wx ga x ∧ x.length = n
theorem yN.next {w wx w' : World} {n : Nat} {v : Value} {x : List Bool} (h : yN w wx n v x) (hB : Below wx.heap.size wx w') : yN w w' n v x := by
 obtain ⟨ga, h1, h2, h3, h4⟩ := h;exact ⟨ga, h1, h2, (hB.block _ (aT h3)).trans h3, h4⟩
theorem yN.CB {w wx : World} {n : Nat} {v : Value} {x : List Bool} (h : yN w wx n v x) {p : Addr} (hp : p.block < w.heap.size + 1 + 1 + 1 + 1) (u : Value) : yN w (wx.setCell p u) n v x := by
 obtain ⟨ga, h1, h2, h3, h4⟩ := h;exact ⟨ga, h1, h2, dK h3 ag u, h4⟩
theorem aou (ls : List Int) (b : Nat) (s : ak) (ih : ∀ k ∈ s.f2, Po ls b k) : Po ls b s := by
 intro rb A c n A2 cp w hn hR hC h0 h1 hb hk hc hs;have jm := Tryz.underlying29;have uO := Tryz.underlying27;have huR := Tryz.underlying96;have jf := Tryz.underlying57;have xE : ∀ fn first cap w, (Instr.makeFunc fn first cap).run Tryz.prog w = .ok (.func fn first cap) w := fun _ _ _ _ => rfl;have hst := uN.start w rb s.f0 s.f1 A2 s.f2.length cp;have HR := Zd.mk hR;have HK := Zd.mk hk;have HC := Zd.mk hC;have HS := Zd.mk hs;have wy := Zd.mk (fun (i : Nat) (hi : i < s.f2.length) W (hB : Below w.heap.size w W) => fun A3 c3 hk3 hc3 => ih (s.f2[i]'hi) (List.getElem_mem hi) rb A c n A3 c3 W hn ((hB.block _ (aT hR)).trans hR) (Kd.aQ hC hB) h0 h1 hb hk3 hc3 (Pm hs i hi));have hlen := Kd.pG hk;clear hR hC hk hs ih;go_enter Tryz.func55, Tryz.ntmps55
 go_upto_if 10 with fail
 change Code.wp _ _ _ _ (Ko w rb s.f0 s.f1 A2 s.f2.length cp);generalize Ko w rb s.f0 s.f1 A2 s.f2.length cp = W4 at *;have HST := Zd.mk hst;go_cut [] (fun wx => ∃ va x, Zd (uN w wx rb s.f0 s.f1 A2 s.f2.length cp va (.slice none 0 0)) ∧ Zd (0 < s.f2.length → yN w wx n va x ∧ x = (fZ ls b s.f2).getD 0 []))
 case first =>
  by_cases hl : 0 < s.f2.length
  ·obtain ⟨ad, A3, c3, hA, hx0, hx1, hx2, hl2, hk2⟩ := yG HK.out hst.bl 0 hl hl;subst hA;have e0 : ad.add (0 * 3) = ad := by cases ad; simp [Addr.add]
   rw [e0] at hx0 hx1 hx2;have oh := Zd.mk (Kd.aQ hk2 hst.bl);have HL2 := Zd.mk hl2;have xp0 := cell1 hst.c0;have xp1 : W4.cell? ⟨w.heap.size + 1, 2, none⟩ = some (.slice (some ad) s.f2.length cp) := (aj hst.c1 2).trans rfl;have fp2 := aN hst.c2 0;have xp2 := cell1 hst.c2;clear hst hk2 hl2;go_upto_region 3 with fail
   have Ag := Zd.mk (wy.out 0 hl W4.drew (bV HST.out.bl) A3 c3 (Kd.JI oh.out) HL2.out);have HD := Zd.mk (HST.out.next (bV (Below.refl _ _)));have UM := Zd.mk HST.out.sz
   go_region_with (go_at_call 55; refine Ag.out.mono ?_; rintro e w5 ⟨g, rfl, hg, hG, hB⟩; have ET := Zd.mk (HD.out.next hB); have HG := Zd.mk hG; have yO := Zd.mk (show W4.heap.size ≤ g from hg); have xq2 := cell1 ET.out.c2; have fq2 := aN ET.out.c2 0; clear hG hB hg)
   all_goals (
    go_wp2_with fail
    go_meet;exact ⟨_, mH ls b (s.f2[0]'hl), ⟨ET.out.aos _⟩, ⟨fun _ => ⟨yN.CB ⟨g, rfl, Nat.le_trans UM.out yO.out, HG.out, (UL _ _ _).trans hn⟩ (by simp) _, (UK ls b s.f2 0 hl).symm⟩⟩⟩)
  ·have hd : decide (0 < s.f2.length) = false := decide_eq_false hl;go_wp2;go_meet;exact ⟨_, [], HST, ⟨fun h => absurd h hl⟩⟩
 case rest =>
  obtain ⟨va, x, yP, HX⟩ := hcut;have x1l : wc.cell? ⟨w.heap.size + 1, 2, none⟩ = some (.slice A2 s.f2.length cp) := (aj yP.out.c1 2).trans rfl;clear hst HST
  go_upto_if 20 with fail
  go_cut [] (fun wx => ∃ vb y, Zd (uN w wx rb s.f0 s.f1 A2 s.f2.length cp va vb) ∧ Zd (0 < s.f2.length → yN w wx n va x ∧ x = (fZ ls b s.f2).getD 0 []) ∧ Zd (1 < s.f2.length → yN w wx n vb y ∧ y = (fZ ls b s.f2).getD 1 []))
  case first =>
   by_cases hl : 1 < s.f2.length
   ·obtain ⟨ad, A3, c3, hA, hx0, hx1, hx2, hl2, hk2⟩ := yG HK.out yP.out.bl 1 hl hl;subst hA;simp only [Nat.one_mul] at hx0 hx1 hx2;have ava : wc.cell? ⟨ad.block, ad.off + 3 + 1, none⟩ = some (.int .i64 (s.f2[1]'hl).f1) := hx1;have avb : wc.cell? ⟨ad.block, ad.off + 3 + 2, none⟩ = some (.slice A3 (s.f2[1]'hl).f2.length c3) := hx2;have avc : wc.cell? ⟨ad.block, ad.off + 3, none⟩ = some (.int .i64 (s.f2[1]'hl).f0) := hx0;have oh := Zd.mk (Kd.aQ hk2 yP.out.bl);have HL2 := Zd.mk hl2;have xp0 := cell1 yP.out.c0;have fp3 := aN yP.out.c3 0;have xp3 := cell1 yP.out.c3;clear hk2 hl2;have Ag := Zd.mk (wy.out 1 hl wc.drew (bV yP.out.bl) A3 c3 (Kd.JI oh.out) HL2.out);have HD := Zd.mk (yP.out.next (bV (Below.refl _ _)));have UM := Zd.mk yP.out.sz;go_upto_region 5 with fail
    go_region_with (go_at_call 55; refine Ag.out.mono ?_; rintro e w5 ⟨g, rfl, hg, hG, hB⟩; have ET := Zd.mk (HD.out.next hB); have HX5 := Zd.mk (fun h => And.intro ((HX.out h).1.next ((bV (Below.refl _ _)).trans hB)) (HX.out h).2); have HG := Zd.mk hG; have yO := Zd.mk (show wc.heap.size ≤ g from hg); have xq2 := cell1 ET.out.c3; have fq2 := aN ET.out.c3 0; clear hG hB hg)
    all_goals (
     go_wp2_with fail
     go_meet;exact ⟨_, mH ls b (s.f2[1]'hl), ⟨ET.out.aot _⟩, ⟨fun h => ⟨(HX5.out h).1.CB (by simp) _, (HX5.out h).2⟩⟩, ⟨fun _ => ⟨yN.CB ⟨g, rfl, Nat.le_trans UM.out yO.out, HG.out, (UL _ _ _).trans hn⟩ (by simp) _, (UK ls b s.f2 1 hl).symm⟩⟩⟩)
   ·have hd : decide (1 < s.f2.length) = false := decide_eq_false hl;go_wp2;go_meet;exact ⟨_, [], yP, HX, ⟨fun h => absurd h hl⟩⟩
  case rest =>
   obtain ⟨vb, y, dU, Bp, Pp⟩ := hcut;have lg := C8 HS.out;have xG : Ad wc rb A n c b := (dU.out.bl.block _ (aT HR.out)).trans HR.out;have Pq := Kd.aQ HC.out dU.out.bl;have hc1 := dU.out.c1;have x00 := cell1 dU.out.c0;have x0 : wc.cell? ⟨w.heap.size + 1, 0, none⟩ = some (.int .i64 s.f0) := (aj dU.out.c1 0).trans rfl;clear yP HX x1l wy HK;rcases Pn lg.1 with hop | hop | hop | hop | hop | hop | hop | hop
   ·-- op 1
    have hkk := lg.2.1;have hmm := lg.2.2.2;rw [hop] at hkk hmm x0;have hrow : mH ls b s = jh (fun _ _ => true) n b false := by
     rw [yM, hop];unfold uM;rw [if_neg ai, if_neg ai, if_neg ai, if_neg ai, if_neg ai, if_neg ai, if_neg ai];rw [hn]
    have HE := Zd.mk (Ic 83 #[] (sw Tryz.func83 aa rfl) (fun _ => true) rb A n c b wc xG h0 h1 hb (fun W hW i hi => aon i W));have HO := Zd.mk hrow;clear hrow;go_wp2_with (go_at_call 73; refine HE.out.mono ?_; rintro e w6 ⟨g, rfl, hg, hG, hB⟩; have HG := Zd.mk hG; have HB := Zd.mk hB; have nK := Zd.mk hg; clear hG hB hg);go_ret;exact ⟨g, rfl, Nat.le_trans dU.out.bl.size nK.out, by rw [HO.out]; exact HG.out, dU.out.bl.trans (HB.out.mono dU.out.bl.size)⟩
   ·-- op 2
    have hkk := lg.2.1;have hmm := lg.2.2.2;rw [hop] at hkk hmm x0;have hrow : mH ls b s = jh (fun i _ => uL (ls.getD i 0) s.f1) n b false := by
     rw [yM, hop];unfold uM;rw [if_pos rfl];rw [hn]
    have hm2 : lQ 2 = 19 := by decide
    have HE := Zd.mk (Ic 74 #[.pointer (some ⟨w.heap.size, 0, none⟩), .pointer (some ⟨(w.heap.size + 1), 0, none⟩)] (sw Tryz.func74 aa rfl) (fun i => uL (ls.getD i 0) s.f1) rb A n c b wc xG h0 h1 hb (fun W hW i hi => aoo w.heap.size (w.heap.size + 1) rb n c b i A A2 ls s.f0 s.f1 s.f2.length cp W ((hW.block _ (aT dU.out.c0)).trans dU.out.c0) ((hW.block _ (aT xG)).trans xG) (Kd.aQ Pq hW) ((hW.block _ (aT hc1)).trans hc1) hi lg.2.2.1 ag));have HO := Zd.mk hrow;clear hrow;go_wp2_with (go_at_call 73; refine HE.out.mono ?_; rintro e w6 ⟨g, rfl, hg, hG, hB⟩; have HG := Zd.mk hG; have HB := Zd.mk hB; have nK := Zd.mk hg; clear hG hB hg);go_ret;exact ⟨g, rfl, Nat.le_trans dU.out.bl.size nK.out, by rw [HO.out]; exact HG.out, dU.out.bl.trans (HB.out.mono dU.out.bl.size)⟩
   ·-- op 3
    have hkk := lg.2.1;have hmm := lg.2.2.2;rw [hop] at hkk hmm x0;have hrow : mH ls b s = jh (fun i _ => !(((fZ ls b s.f2).getD 0 []).getD i false)) n b false := by
     rw [yM, hop];unfold uM;rw [if_neg ai, if_pos rfl];rw [hn]
    obtain ⟨⟨ga, rfl, hga, hA, yQ⟩, hxe⟩ := Bp.out (by have h9 : fC 3 = 1 := ai; omega);rw [← hxe] at hrow;have HE := Zd.mk (Ic 75 #[.pointer (some ⟨(w.heap.size + 1 + 1), 0, none⟩)] (sw Tryz.func75 aa rfl) (fun i => !(x.getD i false)) rb A n c b wc xG h0 h1 hb (fun W hW i hi => aoh (w.heap.size + 1 + 1) ga n i x W ((hW.block _ (aT dU.out.c2)).trans dU.out.c2) ((hW.block _ (aT hA)).trans hA) yQ hi));have HO := Zd.mk hrow;clear hrow;go_wp2_with (go_at_call 73; refine HE.out.mono ?_; rintro e w6 ⟨g, rfl, hg, hG, hB⟩; have HG := Zd.mk hG; have HB := Zd.mk hB; have nK := Zd.mk hg; clear hG hB hg);go_ret;exact ⟨g, rfl, Nat.le_trans dU.out.bl.size nK.out, by rw [HO.out]; exact HG.out, dU.out.bl.trans (HB.out.mono dU.out.bl.size)⟩
   ·-- op 4
    have hkk := lg.2.1;have hmm := lg.2.2.2;rw [hop] at hkk hmm x0;have hrow : mH ls b s = jh (fun i _ => ((fZ ls b s.f2).getD 0 []).getD i false && ((fZ ls b s.f2).getD 1 []).getD i false) n b false := by
     rw [yM, hop];unfold uM;rw [if_neg ai, if_neg ai, if_pos rfl];rw [hn]
    obtain ⟨⟨ga, rfl, hga, hA, yQ⟩, hxe⟩ := Bp.out (by have h9 : fC 4 = 2 := ai; omega);rw [← hxe] at hrow;obtain ⟨⟨gb, rfl, hgb, jH, hBl⟩, hye⟩ := Pp.out (by have h9 : fC 4 = 2 := ai; omega);rw [← hye] at hrow;have HE := Zd.mk (Ic 76 #[.pointer (some ⟨(w.heap.size + 1 + 1), 0, none⟩), .pointer (some ⟨(w.heap.size + 1 + 1 + 1), 0, none⟩)] (sw Tryz.func76 aa rfl) (fun i => x.getD i false && y.getD i false) rb A n c b wc xG h0 h1 hb (fun W hW i hi => aoi (w.heap.size + 1 + 1) (w.heap.size + 1 + 1 + 1) ga gb n i x y W ((hW.block _ (aT dU.out.c2)).trans dU.out.c2) ((hW.block _ (aT hA)).trans hA) yQ ((hW.block _ (aT dU.out.c3)).trans dU.out.c3) ((hW.block _ (aT jH)).trans jH) hBl hi));have HO := Zd.mk hrow;clear hrow;go_wp2_with (go_at_call 73; refine HE.out.mono ?_; rintro e w6 ⟨g, rfl, hg, hG, hB⟩; have HG := Zd.mk hG; have HB := Zd.mk hB; have nK := Zd.mk hg; clear hG hB hg);go_ret;exact ⟨g, rfl, Nat.le_trans dU.out.bl.size nK.out, by rw [HO.out]; exact HG.out, dU.out.bl.trans (HB.out.mono dU.out.bl.size)⟩
   ·-- op 5
    have hkk := lg.2.1;have hmm := lg.2.2.2;rw [hop] at hkk hmm x0;have hrow : mH ls b s = jh (fun i _ => ((fZ ls b s.f2).getD 0 []).getD i false || ((fZ ls b s.f2).getD 1 []).getD i false) n b false := by
     rw [yM, hop];unfold uM;rw [if_neg ai, if_neg ai, if_neg ai, if_pos rfl];rw [hn]
    obtain ⟨⟨ga, rfl, hga, hA, yQ⟩, hxe⟩ := Bp.out (by have h9 : fC 5 = 2 := ai; omega);rw [← hxe] at hrow;obtain ⟨⟨gb, rfl, hgb, jH, hBl⟩, hye⟩ := Pp.out (by have h9 : fC 5 = 2 := ai; omega);rw [← hye] at hrow;have HE := Zd.mk (Ic 77 #[.pointer (some ⟨(w.heap.size + 1 + 1), 0, none⟩), .pointer (some ⟨(w.heap.size + 1 + 1 + 1), 0, none⟩)] (sw Tryz.func77 aa rfl) (fun i => x.getD i false || y.getD i false) rb A n c b wc xG h0 h1 hb (fun W hW i hi => aoj (w.heap.size + 1 + 1) (w.heap.size + 1 + 1 + 1) ga gb n i x y W ((hW.block _ (aT dU.out.c2)).trans dU.out.c2) ((hW.block _ (aT hA)).trans hA) yQ ((hW.block _ (aT dU.out.c3)).trans dU.out.c3) ((hW.block _ (aT jH)).trans jH) hBl hi));have HO := Zd.mk hrow;clear hrow;go_wp2_with (go_at_call 73; refine HE.out.mono ?_; rintro e w6 ⟨g, rfl, hg, hG, hB⟩; have HG := Zd.mk hG; have HB := Zd.mk hB; have nK := Zd.mk hg; clear hG hB hg);go_ret;exact ⟨g, rfl, Nat.le_trans dU.out.bl.size nK.out, by rw [HO.out]; exact HG.out, dU.out.bl.trans (HB.out.mono dU.out.bl.size)⟩
   ·-- op 6
    have hkk := lg.2.1;have hmm := lg.2.2.2;rw [hop] at hkk hmm x0;have hrow : mH ls b s = jh (fun i _ => ((fZ ls b s.f2).getD 0 []).getD (jg n b i) false) n b false := by
     rw [yM, hop];unfold uM;rw [if_neg ai, if_neg ai, if_neg ai, if_neg ai, if_pos rfl];rw [hn]
    obtain ⟨⟨ga, rfl, hga, hA, yQ⟩, hxe⟩ := Bp.out (by have h9 : fC 6 = 1 := ai; omega);rw [← hxe] at hrow;have HE := Zd.mk (Ic 78 #[.pointer (some ⟨(w.heap.size + 1 + 1), 0, none⟩), .pointer (some ⟨w.heap.size, 0, none⟩)] (sw Tryz.func78 aa rfl) (fun i => x.getD (jg n b i) false) rb A n c b wc xG h0 h1 hb (fun W hW i hi => aok (w.heap.size + 1 + 1) w.heap.size ga rb n c b i A x W ((hW.block _ (aT dU.out.c2)).trans dU.out.c2) ((hW.block _ (aT hA)).trans hA) yQ ((hW.block _ (aT dU.out.c0)).trans dU.out.c0) ((hW.block _ (aT xG)).trans xG) hb hi h1));have HO := Zd.mk hrow;clear hrow;go_wp2_with (go_at_call 73; refine HE.out.mono ?_; rintro e w6 ⟨g, rfl, hg, hG, hB⟩; have HG := Zd.mk hG; have HB := Zd.mk hB; have nK := Zd.mk hg; clear hG hB hg);go_ret;exact ⟨g, rfl, Nat.le_trans dU.out.bl.size nK.out, by rw [HO.out]; exact HG.out, dU.out.bl.trans (HB.out.mono dU.out.bl.size)⟩
   ·-- op 7
    have hkk := lg.2.1;have hmm := lg.2.2.2;rw [hop] at hkk hmm x0;have hrow : mH ls b s = jh (fun i nx => ((fZ ls b s.f2).getD 1 []).getD i false || ((fZ ls b s.f2).getD 0 []).getD i false && nx) n b false := by
     rw [yM, hop];unfold uM;rw [if_neg ai, if_neg ai, if_neg ai, if_neg ai, if_neg ai, if_pos rfl];rw [hn]
    obtain ⟨⟨ga, rfl, hga, hA, yQ⟩, hxe⟩ := Bp.out (by have h9 : fC 7 = 2 := ai; omega);rw [← hxe] at hrow;obtain ⟨⟨gb, rfl, hgb, jH, hBl⟩, hye⟩ := Pp.out (by have h9 : fC 7 = 2 := ai; omega);rw [← hye] at hrow;have HE := Zd.mk (UE 81 #[.pointer (some ⟨(w.heap.size + 1 + 1 + 1), 0, none⟩), .pointer (some ⟨(w.heap.size + 1 + 1), 0, none⟩)] (sw Tryz.func81 aa rfl) (fun i nx => y.getD i false || x.getD i false && nx) rb A n c b false wc xG h0 h1 hb (fun W hW i nx hi => aol (w.heap.size + 1 + 1) (w.heap.size + 1 + 1 + 1) ga gb n i nx x y W ((hW.block _ (aT dU.out.c2)).trans dU.out.c2) ((hW.block _ (aT hA)).trans hA) yQ ((hW.block _ (aT dU.out.c3)).trans dU.out.c3) ((hW.block _ (aT jH)).trans jH) hBl hi));have HO := Zd.mk hrow;clear hrow;go_wp2_with (go_at_call 80; refine HE.out.mono ?_; rintro e w6 ⟨g, rfl, hg, hG, hB⟩; have HG := Zd.mk hG; have HB := Zd.mk hB; have nK := Zd.mk hg; clear hG hB hg);go_ret;exact ⟨g, rfl, Nat.le_trans dU.out.bl.size nK.out, by rw [HO.out]; exact HG.out, dU.out.bl.trans (HB.out.mono dU.out.bl.size)⟩
   ·-- op 8
    have hkk := lg.2.1;have hmm := lg.2.2.2;rw [hop] at hkk hmm x0;have hrow : mH ls b s = jh (fun i nx => ((fZ ls b s.f2).getD 1 []).getD i false && (((fZ ls b s.f2).getD 0 []).getD i false || nx)) n b true := by
     rw [yM, hop];unfold uM;rw [if_neg ai, if_neg ai, if_neg ai, if_neg ai, if_neg ai, if_neg ai, if_pos rfl];rw [hn]
    obtain ⟨⟨ga, rfl, hga, hA, yQ⟩, hxe⟩ := Bp.out (by have h9 : fC 8 = 2 := ai; omega);rw [← hxe] at hrow;obtain ⟨⟨gb, rfl, hgb, jH, hBl⟩, hye⟩ := Pp.out (by have h9 : fC 8 = 2 := ai; omega);rw [← hye] at hrow;have HE := Zd.mk (UE 82 #[.pointer (some ⟨(w.heap.size + 1 + 1 + 1), 0, none⟩), .pointer (some ⟨(w.heap.size + 1 + 1), 0, none⟩)] (sw Tryz.func82 aa rfl) (fun i nx => y.getD i false && (x.getD i false || nx)) rb A n c b true wc xG h0 h1 hb (fun W hW i nx hi => aom (w.heap.size + 1 + 1) (w.heap.size + 1 + 1 + 1) ga gb n i nx x y W ((hW.block _ (aT dU.out.c2)).trans dU.out.c2) ((hW.block _ (aT hA)).trans hA) yQ ((hW.block _ (aT dU.out.c3)).trans dU.out.c3) ((hW.block _ (aT jH)).trans jH) hBl hi));have HO := Zd.mk hrow;clear hrow;go_wp2_with (go_at_call 80; refine HE.out.mono ?_; rintro e w6 ⟨g, rfl, hg, hG, hB⟩; have HG := Zd.mk hG; have HB := Zd.mk hB; have nK := Zd.mk hg; clear hG hB hg);go_ret;exact ⟨g, rfl, Nat.le_trans dU.out.bl.size nK.out, by rw [HO.out]; exact HG.out, dU.out.bl.trans (HB.out.mono dU.out.bl.size)⟩
end Go.Proofs.YtapejnikpmfddaaGreat.X
namespace Go.Proofs.YtapejnikpmfddaaGreat.X
open Go.RowKit Go.Proofs.aI.bM Go.Proofs.aI.dG Go.Proofs.aI.dM
open Go.Proofs.YtapejnikpmfddaaGreat.P
theorem EU : (Tryz.prog.info? 44).map (fun i => (i.zero, i.size, i.bytes)) = some (some (.int .u32 0), 1, 4) := by kernel_rfl
theorem aov (m : Int) (w : World) (h0 : 0 < m) (h1 : m < 1000000000) :
  Calls Tryz.prog 72 #[.slice none 0 0, .int .i64 m] w fun e w' => ∃ v, e = .returned v ∧ Kd.R (Kd.int .u32) 44 w' w.heap.size (fun _ => True) v [] ∧ Below w.heap.size w w' := by
 have jf := Tryz.underlying22;have fM := Tryz.underlying3;have hnn : ¬ m < 0 := by omega
 go_enter Tryz.func72, Tryz.ntmps72;go_wp2_with ((with_reducible refine lL (b := .append) (xs := #[.tmp 20, .tmp 21]) rfl ?_); at_builtin; refine Kd.aaU (Kd.int .u32) (w0 := w) w.heap.size rfl (.tmp 20) (.tmp 21) 22 3 44 (.int .u32 0) 4 rfl jf fM EU rfl ai ai (.slice none 0 0) [] 0 (kx := .i64) m (fun _ => True) rfl rfl rfl (fun _ _ => trivial) (Kd.lK _ _ _ _ _) ag (Below.refl _ _) (Nat.le_refl _) (by simp; omega) ?_; intro v1 w1 hR hB hg hat; obtain ⟨A1, c1, hv1⟩ := Kd.vX hR; subst hv1; have HR := Zd.mk hR; have HB := Zd.mk hB; clear hR hB hg hat);go_ret;exact ⟨_, rfl, by have := Kd.NN (m := 0) HR.out (by simp); simpa using this, HB.out⟩
theorem aow (gb : Nat) (A1 A2 : Option Addr) (c1 c2 : Nat) (l1 l2 : List Int) (w : World) (hb : w.heap[gb]? = some (.cells #[.slice A1 l1.length c1, .slice A2 l2.length c2] 22 (0, 0))) (hr1 : Kd.C (Kd.int .u32) w A1 l1.length l1) (hr2 : Kd.C (Kd.int .u32) w A2 l2.length l2) (h0 : 0 < l1.length + l2.length) (h1 : l1.length + l2.length < 1000000000) :
  Calls Tryz.prog 54 #[.slice (some ⟨gb, 0, none⟩) 2 2] w fun e w' => ∃ v, e = .returned v ∧ Kd.R (Kd.int .u32) 44 w' w.heap.size (fun _ => True) v (l1 ++ l2) ∧ Below w.heap.size w w' := by
 have jf := Tryz.underlying22;have aox := Tryz.underlying116;have fM := Tryz.underlying3;have hgb : gb < w.heap.size := aT hb;have x0 : w.cell? ⟨gb, 0, none⟩ = some (.slice A1 l1.length c1) := (aj hb 0).trans rfl;have x1 : w.cell? ⟨gb, 1, none⟩ = some (.slice A2 l2.length c2) := (aj hb 1).trans rfl;have R1 := Zd.mk hr1;have R2 := Zd.mk hr2;have X0 := Zd.mk x0;have X1 := Zd.mk x1;clear hb hr1 hr2 x0 x1;go_enter Tryz.func54, Tryz.ntmps54;go_wp2;go_loopg [3, 11] 2 (fun kq v3 v11 w' => (kq = 2 ∧ v3 = .int .i64 0 ∧ v11 = .int .i64 0 ∧ w' = w) ∨ (kq = 1 ∧ v3 = .int .i64 (l1.length : Int) ∧ v11 = .int .i64 1 ∧ w' = w) ∨ (kq = 0 ∧ v3 = .int .i64 ((l1.length : Int) + (l2.length : Int)) ∧ v11 = .int .i64 2 ∧ w' = w))
 case atStart => exact .inl ⟨rfl, rfl, rfl, rfl⟩
 case round =>
  rcases hrel with ⟨rfl, rfl, rfl, rfl⟩ | ⟨rfl, rfl, rfl, rfl⟩ | ⟨rfl, rfl, rfl, rfl⟩
  ·have y0 := X0.out;have hn : ¬ ((l1.length : Int) < 0) := by omega
   go_wp2;go_roundg 1
   case measure => omega
   case rel => exact .inr (.inl ⟨rfl, by first | rfl | (simp; done), rfl, rfl⟩)
  ·have y1 := X1.out;have hn : ¬ ((l1.length : Int) + (l2.length : Int) < 0) := by omega
   go_wp2;go_roundg 0
   case measure => omega
   case rel => exact .inr (.inr ⟨rfl, by first | rfl | (simp; done), rfl, rfl⟩)
  ·obtain ⟨WW, rfl⟩ : ∃ W : World, W = wr := ⟨_, rfl⟩;go_wp2_with (go_at_call 72; refine (aov _ _ ag ag).mono ?_; rintro e w1 ⟨v, rfl, hR, hB⟩; have HR := Zd.mk hR; have HB := Zd.mk hB; clear hR hB);go_loopg [6, 27] 2 (fun kq v6 v27 w' => Zd (Below WW.heap.size WW w') ∧ ((kq = 2 ∧ v27 = .int .i64 0 ∧ Zd (Kd.R (Kd.int .u32) 44 w' WW.heap.size (fun _ => True) v6 [])) ∨ (kq = 1 ∧ v27 = .int .i64 1 ∧ Zd (Kd.R (Kd.int .u32) 44 w' WW.heap.size (fun _ => True) v6 l1)) ∨ (kq = 0 ∧ v27 = .int .i64 2 ∧ Zd (Kd.R (Kd.int .u32) 44 w' WW.heap.size (fun _ => True) v6 (l1 ++ l2)))))
   case atStart => exact ⟨HB, .inl ⟨rfl, rfl, HR⟩⟩
   case round =>
    obtain ⟨lS, hrel⟩ := hrel;rcases hrel with ⟨rfl, rfl, HV⟩ | ⟨rfl, rfl, HV⟩ | ⟨rfl, rfl, HV⟩
    ·have y0 := (lS.out.cell (World.block_lt_of_cell? _ _ X0.out)).trans X0.out;go_wp2_with (first | ((with_reducible refine lL (b := .append) (xs := #[.tmp 31, .tmp 32]) rfl ?_); at_builtin; refine Kd.Ez (Value.int .u32) (0 : Int) (h1 := fun _ => rfl) (w0 := WW) WW.heap.size rfl (.tmp 31) (.tmp 32) 22 44 (.int .u32 0) 4 rfl jf EU rfl ai u6 [] l1 A1 l1.length c1 (fun _ => True) rfl rfl (fun _ _ => trivial) HV.out (Kd.aQ R1.out lS.out) lS.out lS.out.size (by first | omega | (simp; omega)) ?_; intro v1 w2 hR hB hg hat; have jI := Zd.mk hR; have Bq := Zd.mk hB; clear hR hB hg hat));go_roundg 1
     case measure => omega
     case rel => exact ⟨Bq, .inr (.inl ⟨rfl, rfl, jI⟩)⟩
    ·have y1 := (lS.out.cell (World.block_lt_of_cell? _ _ X1.out)).trans X1.out;go_wp2_with (first | ((with_reducible refine lL (b := .append) (xs := #[.tmp 31, .tmp 32]) rfl ?_); at_builtin; refine Kd.Ez (Value.int .u32) (0 : Int) (h1 := fun _ => rfl) (w0 := WW) WW.heap.size rfl (.tmp 31) (.tmp 32) 22 44 (.int .u32 0) 4 rfl jf EU rfl ai u6 l1 l2 A2 l2.length c2 (fun _ => True) rfl rfl (fun _ _ => trivial) HV.out (Kd.aQ R2.out lS.out) lS.out lS.out.size (by first | omega | (simp; omega)) ?_; intro v1 w2 hR hB hg hat; have jI := Zd.mk hR; have Bq := Zd.mk hB; clear hR hB hg hat));go_roundg 0
     case measure => omega
     case rel => exact ⟨Bq, .inr (.inr ⟨rfl, rfl, jI⟩)⟩
    ·go_wp2;go_ret;exact ⟨_, rfl, HV.out, lS.out⟩
end Go.Proofs.YtapejnikpmfddaaGreat.X
namespace Go.Proofs.YtapejnikpmfddaaGreat.P
open Go.RowKit Go.Proofs.aI.bM Go.Proofs.aI.dG Go.Proofs.aI.dM
attribute [local go_sem] nE nG nH nI nW nX nY nZ

def uP.l0 : Nat → List Int → Int → Int → Int → Option (Int)
 | 0, _, _, _, _ => none
 | k + 1, x0, x1, x7, x8 => if x8 < x7 then (if 0 ≤ x8 then (if x8 < (x0.length : Int) then (if x1 = (rd x0 x8) then (some x8) else (uP.l0 k x0 x1 x7 (wrap64 (x8 + 1)))) else (none)) else (none)) else (some (-1))
def uP.f (k : Nat) (l0 : List Int) (a1 : Int) : Option (Int) := uP.l0 k l0 a1 (l0.length : Int) 0
theorem uP.calls (k : Nat) (A0 : Option Addr) (c0 : Nat) (l0 : List Int) (a1 : Int) (r : Int) (w : World) (hr0 : Kd.C (Kd.int .i64) w A0 l0.length l0) (hc0 : l0.length ≤ c0) (h : uP.f k l0 a1 = some r) :
  Calls Tryz.prog 53 #[.slice A0 l0.length c0, .int .i64 a1] w fun e w' => e = .returned (.int .i64 r) ∧ bC w w' := by
 have pQ := Zd.mk hr0;have EH := Zd.mk hc0;clear hr0 hc0;have H : (uP.l0 k l0 a1 (l0.length : Int) 0) = some r := h;clear h;have H' := Zd.mk H;clear H;go_enter Tryz.func53, Tryz.ntmps53;go_wp2;go_loopg [8] k (fun kq v8 w' => ∃ (nN : Int), v8 = .int .i64 nN ∧ Zd (uP.l0 kq l0 a1 (l0.length : Int) nN = some r) ∧ Zd (kq ≤ k) ∧ bC w w')
 case atStart => exact ⟨(0), (by first | rfl | (simp; done) | (simp [*]; done)), H', ⟨Nat.le_refl _⟩, by repeat (first | exact bC.refl _ | apply bC.step)⟩
 case round =>
  clear H'
  try clear p2
  obtain ⟨nN, rfl, HA, dR, ⟨m1, rfl⟩⟩ := hrel;cases gk with
  | zero => exact absurd HA.out (by simp [uP.l0])
  | succ k1 =>
   have H := HA.out;clear HA;simp only [uP.l0] at H;by_cases c3 : nN < (l0.length : Int)
   ·rw [if_pos c3] at H;have gN : decide (nN < (l0.length : Int)) = true := decide_eq_true c3;clear c3;by_cases c4 : 0 ≤ nN
    ·rw [if_pos c4] at H;have CP : decide (0 ≤ nN) = true := decide_eq_true c4;clear c4;by_cases c5 : nN < (l0.length : Int)
     ·rw [if_pos c5] at H;have yz : decide (nN < (l0.length : Int)) = true := decide_eq_true c5;clear c5;by_cases c6 : a1 = (rd l0 nN)
      ·rw [if_pos c6] at H;have gI : (a1 == (rd l0 nN)) = true := beq_iff_eq.mpr c6;have EM : (a1 != (rd l0 nN)) = false := bne_eq_false_iff_eq.mpr c6;clear c6;obtain rfl := Option.some.inj H;have EW : 0 ≤ (nN : Int) := of_decide_eq_true (by first | (with_reducible assumption) | assumption);have EX : nN < (l0.length : Int) := of_decide_eq_true (by first | (with_reducible assumption) | assumption);obtain ⟨aoy, e211, aoz⟩ := Kd.xx pQ.out nN EW EX;cases e211;replace EW := eq_true EW;replace EX := eq_true EX;go_wp2;go_ret;exact ⟨by first | rfl | (simp; done) | (simp [*]; done), by repeat (first | exact bC.refl _ | apply bC.step)⟩
      ·rw [if_neg c6] at H;have gI : (a1 == (rd l0 nN)) = false := beq_eq_false_iff_ne.mpr c6;have EM : (a1 != (rd l0 nN)) = true := bne_iff_ne.mpr c6;have H' := Zd.mk H;clear H;have EW : 0 ≤ (nN : Int) := of_decide_eq_true (by first | (with_reducible assumption) | assumption);have EX : nN < (l0.length : Int) := of_decide_eq_true (by first | (with_reducible assumption) | assumption);obtain ⟨aoy, e211, aoz⟩ := Kd.xx pQ.out nN EW EX;cases e211;replace EW := eq_true EW;replace EX := eq_true EX;go_wp2;go_roundg k1
       case measure => have := dR.out; omega
       case rel => exact ⟨(wrap64 (nN + 1)), (by first | rfl | (simp; done) | (simp [*]; done)), H', ⟨by have := dR.out; omega⟩, by repeat (first | exact bC.refl _ | apply bC.step)⟩
     ·rw [if_neg c5] at H;exact absurd H (by simp)
    ·rw [if_neg c4] at H;exact absurd H (by simp)
   ·rw [if_neg c3] at H;have gN : decide (nN < (l0.length : Int)) = false := decide_eq_false c3;clear c3;obtain rfl := Option.some.inj H;go_wp2;go_ret;exact ⟨by first | rfl | (simp; done) | (simp [*]; done), by repeat (first | exact bC.refl _ | apply bC.step)⟩

def Kr.f (k : Nat) (l0 : List Int) (a1 : Int) : Option (Bool) := (uP.f k l0 a1).bind fun t212 => (some (decide (t212 ≥ 0)))
theorem Kr.calls (k : Nat) (A0 : Option Addr) (c0 : Nat) (l0 : List Int) (a1 : Int) (r : Bool) (w : World) (hr0 : Kd.C (Kd.int .i64) w A0 l0.length l0) (hc0 : l0.length ≤ c0) (h : Kr.f k l0 a1 = some r) :
  Calls Tryz.prog 33 #[.slice A0 l0.length c0, .int .i64 a1] w fun e w' => e = .returned (.bool r) ∧ bC w w' := by
 have pQ := Zd.mk hr0;have EH := Zd.mk hc0;clear hr0 hc0;have H : ((uP.f k l0 a1).bind fun t212 => (some (decide (t212 ≥ 0)))) = some r := h;clear h;replace H := Option.bind_eq_some_iff.mp H;obtain ⟨t212, CV, H⟩ := H;replace H : (some (decide (t212 ≥ 0))) = some r := H;have A3 := Zd.mk CV;clear CV;obtain rfl := Option.some.inj H;go_enter Tryz.func33, Tryz.ntmps33;go_wp2_with (first | ((with_reducible refine kX (f := 53) rfl ?_); refine kW (some 7) rfl rfl Tryz.func53 aa rfl #[.slice A0 l0.length c0, .int .i64 a1] rfl (by (try simp only [List.map_toArray, List.map_cons, List.map_nil]); first | done | rfl | (simp only [List.length_drop, List.length_take]; rfl)) ?_; (with_reducible refine (uP.calls k _ _ l0 a1 t212 _ ?side1 ?side2 A3.out).mono ?_); (case side1 => repeat (first | exact pQ.out | (with_reducible refine Kd.Bf ?_ _) | (with_reducible refine Kd.ajh ?_ _) | (with_reducible refine Kd.JI ?_))); (case side2 => exact EH.out); rintro e w' ⟨rfl, ⟨nd, rfl⟩⟩; refine ⟨_, rfl, ?_⟩));go_ret;exact ⟨by first | rfl | (simp; done) | (simp [*]; done), by repeat (first | exact bC.refl _ | apply bC.step)⟩

def EY.f (aV : List Int) (bF : List Int) : Option (Bool) := if (aV.length : Int) ≤ 3000 then (if (bF.length : Int) ≥ 1 then (some (decide ((bF.length : Int) ≤ 27000))) else (some false)) else (some false)
theorem EY.calls (eD : Option Addr) (eF : Nat) (aV : List Int) (dX : Option Addr) (dY : Nat) (bF : List Int) (r : Bool) (w : World) (qK : Kd.C (Kd.int .u32) w eD aV.length aV) (qL : aV.length ≤ eF) (qM : Kd.C (Kd.int .u32) w dX bF.length bF) (qN : bF.length ≤ dY) (h : EY.f aV bF = some r) :
  Calls Tryz.prog 35 #[.agg #[.slice eD aV.length eF, .slice dX bF.length dY]] w fun e w' => e = .returned (.bool r) ∧ Below w.heap.size w w' := by
 have aoA := Tryz.underlying47;have acY := Zd.mk qK;have acZ := Zd.mk qL;clear qK qL;have Hr := Zd.mk qM;have Ht := Zd.mk qN;clear qM qN;have HB := Zd.mk (Below.refl w.heap.size w);have H : (if (aV.length : Int) ≤ 3000 then (if (bF.length : Int) ≥ 1 then (some (decide ((bF.length : Int) ≤ 27000))) else (some false)) else (some false)) = some r := h;clear h;by_cases c2 : (aV.length : Int) ≤ 3000
 ·rw [if_pos c2] at H;have yC : decide ((aV.length : Int) ≤ 3000) = true := decide_eq_true c2;have Bj : decide (aV.length ≤ 3000) = true := decide_eq_true ag;clear c2;by_cases c3 : (bF.length : Int) ≥ 1
  ·rw [if_pos c3] at H;have gN : decide (1 ≤ (bF.length : Int)) = true := decide_eq_true c3;have tH : decide (1 ≤ bF.length) = true := decide_eq_true ag;clear c3;obtain rfl := Option.some.inj H;go_enter Tryz.func35, Tryz.ntmps35;go_wp2_with (first | ((with_reducible refine gH (N := 1) rfl ?_); (try (refine TZ bu ?_; dsimp only)); refine gG ?hg (N := 1) ?hd (cs := #[.slice eD aV.length eF, .slice dX bF.length dY]) (t := 47) ?hr ?_; (case hd => rfl); (case hg => rfl); (case hr => first | (go_simp; done) | (go_simp; rfl)); intro uQ hg w4 bG hb; have aJ := Zd.mk (df B_ hb); have aK := Zd.mk (bG); have aU := Zd.mk ((by rw [hg]; exact (bP B_) : w.heap.size ≤ uQ)); have aZ := Zd.mk ((by rw [hg]; exact (bP B_) : w.heap.size ≤ uQ)); clear HB; have HB := aJ; have uR := aK; have adH := aU; have adI := aZ; clear aJ aK aU aZ; clear hb bG hg; have C9 : w4.cell? ⟨uQ, 0, none⟩ = some (.slice eD aV.length eF) := (aj uR.out 0).trans rfl; have Da : w4.cell? ⟨uQ, 1, none⟩ = some (.slice dX bF.length dY) := (aj uR.out 1).trans rfl; have Db := aN uR.out 0; have Dc := aN uR.out 1));go_ret;exact ⟨by first | rfl | (simp [bS, bT] <;> rfl) | (simp [*, bS, bT] <;> rfl), B_⟩
  ·rw [if_neg c3] at H;have gN : decide (1 ≤ (bF.length : Int)) = false := decide_eq_false c3;have tH : decide (1 ≤ bF.length) = false := decide_eq_false ag;clear c3;obtain rfl := Option.some.inj H;go_enter Tryz.func35, Tryz.ntmps35;go_wp2_with (first | ((with_reducible refine gH (N := 1) rfl ?_); (try (refine TZ bu ?_; dsimp only)); refine gG ?hg (N := 1) ?hd (cs := #[.slice eD aV.length eF, .slice dX bF.length dY]) (t := 47) ?hr ?_; (case hd => rfl); (case hg => rfl); (case hr => first | (go_simp; done) | (go_simp; rfl)); intro uQ hg w6 bG hb; have aJ := Zd.mk (df B_ hb); have aK := Zd.mk (bG); have aU := Zd.mk ((by rw [hg]; exact (bP B_) : w.heap.size ≤ uQ)); have aZ := Zd.mk ((by rw [hg]; exact (bP B_) : w.heap.size ≤ uQ)); clear HB; have HB := aJ; have uR := aK; have adH := aU; have adI := aZ; clear aJ aK aU aZ; clear hb bG hg; have UN : w6.cell? ⟨uQ, 0, none⟩ = some (.slice eD aV.length eF) := (aj uR.out 0).trans rfl; have UO : w6.cell? ⟨uQ, 1, none⟩ = some (.slice dX bF.length dY) := (aj uR.out 1).trans rfl; have UQ := aN uR.out 0; have UR := aN uR.out 1));go_ret;exact ⟨by first | rfl | (simp [bS, bT] <;> rfl) | (simp [*, bS, bT] <;> rfl), B_⟩
 ·rw [if_neg c2] at H;have yC : decide ((aV.length : Int) ≤ 3000) = false := decide_eq_false c2;have Bj : decide (aV.length ≤ 3000) = false := decide_eq_false ag;clear c2;obtain rfl := Option.some.inj H;go_enter Tryz.func35, Tryz.ntmps35;go_wp2_with (first | ((with_reducible refine gH (N := 1) rfl ?_); (try (refine TZ bu ?_; dsimp only)); refine gG ?hg (N := 1) ?hd (cs := #[.slice eD aV.length eF, .slice dX bF.length dY]) (t := 47) ?hr ?_; (case hd => rfl); (case hg => rfl); (case hr => first | (go_simp; done) | (go_simp; rfl)); intro uQ hg w8 bG hb; have aJ := Zd.mk (df B_ hb); have aK := Zd.mk (bG); have aU := Zd.mk ((by rw [hg]; exact (bP B_) : w.heap.size ≤ uQ)); have aZ := Zd.mk ((by rw [hg]; exact (bP B_) : w.heap.size ≤ uQ)); clear HB; have HB := aJ; have uR := aK; have adH := aU; have adI := aZ; clear aJ aK aU aZ; clear hb bG hg; have zT : w8.cell? ⟨uQ, 0, none⟩ = some (.slice eD aV.length eF) := (aj uR.out 0).trans rfl; have zU : w8.cell? ⟨uQ, 1, none⟩ = some (.slice dX bF.length dY) := (aj uR.out 1).trans rfl; have zV := aN uR.out 0; have zW := aN uR.out 1));go_ret;exact ⟨by first | rfl | (simp [bS, bT] <;> rfl) | (simp [*, bS, bT] <;> rfl), B_⟩

end Go.Proofs.YtapejnikpmfddaaGreat.P
