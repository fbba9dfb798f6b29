/- A part of the claim SearchForms. -/
import Derived.Test.YtapejnikpmfddaaGreatQSearchFormss
set_option linter.unusedVariables false
set_option linter.unusedSimpArgs false
set_option maxHeartbeats 12800000
set_option maxRecDepth 100000
namespace Go.Proofs.YtapejnikpmfddaaGreat.X
open Go.RowKit Go.Proofs.aI.bM Go.Proofs.aI.dG Go.Proofs.aI.dM
open Go.Proofs.YtapejnikpmfddaaGreat.P Go.Proofs.YtapejnikpmfddaaGreat.gY
def jv (s : ak) : ak := if s.f0 = 3 ∧ s.f2.length = 1 then s.f2.getD 0 z29 else ⟨3, 0, [s]⟩
theorem aum {w : World} {g : Nat} {s : ak} {A : Option Addr} {c : Nat} (h : w.heap[g]? = some (.cells #[.int .i64 s.f0, .int .i64 s.f1, .slice A s.f2.length c] 29 (0, 0))) (hk : Kd.C bK w A s.f2.length s.f2) (hc : s.f2.length ≤ c) : Kd.C bK w (some ⟨g, 0, none⟩) 1 [s] := by
 have hK := J8 w s hc hk;refine ⟨rfl, by omega, fun _ => ⟨_, rfl, fun j p hj => ?_⟩⟩;have hs : bK.sz = 3 := rfl;match j, hj with
 | 0, hj =>
  obtain rfl : s = p := by simpa using hj
  refine ⟨_, rfl, hK, fun i u hu => ?_⟩;rw [hs, JK, aj h];match i, hu with
  | 0, hu => exact hu
  | 1, hu => exact hu
  | 2, hu => exact hu
theorem aun (s : ak) (A : Option Addr) (c : Nat) (w : World) (h : Kd.C bK w A s.f2.length s.f2) (hc : s.f2.length ≤ c) :
  Calls Tryz.prog 13 #[.agg #[.int .i64 s.f0, .int .i64 s.f1, .slice A s.f2.length c]] w fun e w' => ∃ A' c', e = .returned (.agg #[.int .i64 (jv s).f0, .int .i64 (jv s).f1, .slice A' (jv s).f2.length c']) ∧ (jv s).f2.length ≤ c' ∧ Kd.C bK w' A' (jv s).f2.length (jv s).f2 ∧ Below w.heap.size w w' := by
 have jm := Tryz.underlying29;have uO := Tryz.underlying27;obtain ⟨W2, hW2⟩ : ∃ W2, W2 = (w.alloc (.cells #[.int .i64 s.f0, .int .i64 s.f1, .slice A s.f2.length c] 29)).alloc (.cells #[.int .i64 0, .int .i64 0, .slice none 0 0] 29) := ⟨_, rfl⟩;have hB2 : Below w.heap.size w W2 := by rw [hW2]; exact aW (aW (Below.refl _ _) _) _
 have hbk : W2.heap[w.heap.size]? = some (.cells #[.int .i64 s.f0, .int .i64 s.f1, .slice A s.f2.length c] 29 (0, 0)) := by rw [hW2]; exact bf (heap_alloc_new w _) _
 have hbf : W2.heap[w.heap.size + 1]? = some (.cells #[.int .i64 0, .int .i64 0, .slice none 0 0] 29 (0, 0)) := by
  rw [hW2];have := heap_alloc_new (w.alloc (.cells #[.int .i64 s.f0, .int .i64 s.f1, .slice A s.f2.length c] 29)) (.cells #[.int .i64 0, .int .i64 0, .slice none 0 0] 29);simpa using this
 obtain ⟨g1, hg1⟩ : ∃ k, k = w.heap.size := ⟨_, rfl⟩;obtain ⟨g2, hg2⟩ : ∃ k, k = g1 + 1 := ⟨_, rfl⟩;rw [← hg1] at hbk;rw [← hg1, ← hg2] at hbf;have hge : w.heap.size ≤ g2 := by omega
 have k0 : W2.cell? ⟨g1, 0, none⟩ = some (.int .i64 s.f0) := (aj hbk 0).trans rfl;have k1 : W2.cell? ⟨g1, 1, none⟩ = some (.int .i64 s.f1) := (aj hbk 1).trans rfl;have k2 : W2.cell? ⟨g1, 2, none⟩ = some (.slice A s.f2.length c) := (aj hbk 2).trans rfl;have hcell : ∀ W : World, W.heap[g2]? = some (.cells #[.int .i64 0, .int .i64 0, .slice none 0 0] 29 (0, 0)) → ∀ x y z : Value, let W' : World := ((W.setCell ⟨g2, 0, none⟩ x).setCell ⟨g2, 1, none⟩ y).setCell ⟨g2, 2, none⟩ z; W'.cell? ⟨g2, 0, none⟩ = some x ∧ W'.cell? ⟨g2, 1, none⟩ = some y ∧ W'.cell? ⟨g2, 2, none⟩ = some z := fun W hb x y z => by
  have hb' := jc (jc (jc hb 0 x) 1 y) 2 z;exact ⟨(aj hb' 0).trans rfl, (aj hb' 1).trans rfl, (aj hb' 2).trans rfl⟩
 have jq := Zd.mk hbf;have HB2 := Zd.mk hB2;have EO := Zd.mk hcell;have Jz := Zd.mk hge;have HH := Zd.mk h;clear hbk hbf hB2 hcell hge h;by_cases h3 : s.f0 = 3 ∧ s.f2.length = 1
 ·have e : jv s = s.f2.getD 0 z29 := if_pos h3;obtain ⟨ad, A2, c2, rfl, e0, e1, e2, hl, hC⟩ := CO HH.out 0 ag ag;rw [show aY s.f2 0 = jv s from e.symm] at e0 e1 e2 hl hC;rw [show ad.add (Int.toNat 0 * 3) = ad from rfl] at e0 e1 e2;have t1 : (s.f0 == 3) = true := by rw [h3.1]; rfl
  have t2 : ((s.f2.length : Int) == 1) = true := by rw [h3.2]; rfl
  have q0 := aG HB2.out e0;have q1 := aG HB2.out e1;have q2 := aG HB2.out e2;have z0 := (aj jq.out 0).trans rfl;have z1 := (aj jq.out 1).trans rfl;have z2 := (aj jq.out 2).trans rfl;have y0 := aN jq.out 0;have y1 := aN jq.out 1;have y2 := aN jq.out 2;obtain ⟨r0, r1, r2⟩ := EO.out W2 jq.out (.int .i64 (jv s).f0) (.int .i64 (jv s).f1) (.slice A2 (jv s).f2.length c2);have JA := Zd.mk (((HB2.out.setCell (p := ⟨g2, 0, none⟩) Jz.out (.int .i64 (jv s).f0)).setCell (p := ⟨g2, 1, none⟩) Jz.out (.int .i64 (jv s).f1)).setCell (p := ⟨g2, 2, none⟩) Jz.out (.slice A2 (jv s).f2.length c2));have HL := Zd.mk hl;have HC := Zd.mk hC;have t3 : (0 : Int) < (s.f2.length : Int) := by omega
  clear e e0 e1 e2 hl hC h3;go_enter Tryz.func13, Tryz.ntmps13;go_upto_region 1 with fail
  rw [← hW2, ← hg1, ← hg2];clear hW2 hg1 hg2;go_wp2;refine bodyPost_ret (v := .agg #[.int .i64 (jv s).f0, .int .i64 (jv s).f1, .slice A2 (jv s).f2.length c2]) (by simp [results, Tryz.results13, go_sem, r0, r1, r2]) rfl ?_;exact ⟨A2, c2, rfl, HL.out, Kd.aQ HC.out JA.out, JA.out⟩
 ·have e : jv s = ⟨3, 0, [s]⟩ := if_neg h3;obtain ⟨g3, hg3⟩ : ∃ k, k = W2.heap.size := ⟨_, rfl⟩;obtain ⟨W3, hW3⟩ : ∃ W : World, W = W2.alloc (.cells #[.int .i64 s.f0, .int .i64 s.f1, .slice A s.f2.length c] 29) := ⟨_, rfl⟩;have hb3 : W3.heap[g3]? = some (.cells #[.int .i64 s.f0, .int .i64 s.f1, .slice A s.f2.length c] 29 (0, 0)) := by rw [hW3, hg3]; exact heap_alloc_new W2 _
  have hbg : W3.heap[g2]? = some (.cells #[.int .i64 0, .int .i64 0, .slice none 0 0] 29 (0, 0)) := by rw [hW3]; exact bf jq.out _
  have z0 := (aj hbg 0).trans rfl;have z1 := (aj hbg 1).trans rfl;have z2 := (aj hbg 2).trans rfl;have y0 := aN hbg 0;have y1 := aN hbg 1;have y2 := aN hbg 2;obtain ⟨r0, r1, r2⟩ := EO.out W3 hbg (.int .i64 3) (.int .i64 0) (.slice (some ⟨g3, 0, none⟩) 1 1);have hB3 : Below w.heap.size w W3 := by rw [hW3]; exact aW HB2.out _
  have JA := Zd.mk (((hB3.setCell (p := ⟨g2, 0, none⟩) Jz.out (.int .i64 3)).setCell (p := ⟨g2, 1, none⟩) Jz.out (.int .i64 0)).setCell (p := ⟨g2, 2, none⟩) Jz.out (.slice (some ⟨g3, 0, none⟩) 1 1));have hne : g3 ≠ g2 := by have := aT jq.out; omega
  have HC := Zd.mk (aum (dK (dK (dK hb3 (p := ⟨g2, 0, none⟩) hne (.int .i64 3)) (p := ⟨g2, 1, none⟩) hne (.int .i64 0)) (p := ⟨g2, 2, none⟩) hne (.slice (some ⟨g3, 0, none⟩) 1 1)) (Kd.aQ HH.out JA.out) hc);have HE := Zd.mk e;obtain ⟨b1, hb1⟩ : ∃ b, b = (s.f0 == 3) := ⟨_, rfl⟩;have hb1' := hb1.symm;have HT2 := Zd.mk (show b1 = true → ((s.f2.length : Int) == 1) = false from fun hb => by
   rw [beq_eq_false_iff_ne];rw [hb, eq_comm, beq_iff_eq] at hb1;exact fun hl => h3 ⟨hb1, by omega⟩)
  clear e h3 hb3 hbg hB3 hne hb1;subst hW3;subst hg3;go_enter Tryz.func13, Tryz.ntmps13;go_upto_region 1 with fail
  rw [← hW2, ← hg1, ← hg2];clear hW2 hg1 hg2;cases b1 with
  | true =>
   have t2 := HT2.out rfl;go_wp2;refine bodyPost_ret (v := .agg #[.int .i64 3, .int .i64 0, .slice (some ⟨W2.heap.size, 0, none⟩) 1 1]) (by simp [results, Tryz.results13, go_sem, r0, r1, r2]) rfl ?_;rw [HE.out];exact ⟨some ⟨W2.heap.size, 0, none⟩, 1, rfl, Nat.le_refl _, HC.out, JA.out⟩
  | false =>
   go_wp2;refine bodyPost_ret (v := .agg #[.int .i64 3, .int .i64 0, .slice (some ⟨W2.heap.size, 0, none⟩) 1 1]) (by simp [results, Tryz.results13, go_sem, r0, r1, r2]) rfl ?_
   rw [HE.out];exact ⟨some ⟨W2.heap.size, 0, none⟩, 1, rfl, Nat.le_refl _, HC.out, JA.out⟩
theorem auo (s : ak) : az (jv s) = az s := by
 unfold jv;split
 ·rename_i h
  obtain ⟨op, m, kids⟩ := s;obtain ⟨h1, h2⟩ := h;simp only at h1 h2;subst h1;match kids, h2 with
  | [g], _ =>
   show az g = tS 3 + (az g + 0);rw [show tS 3 = 0 by decide];omega
 ·show tS 3 + (az s + 0) = az s;rw [show tS 3 = 0 by decide];omega
theorem aim {s : ak} (hm : bW s = 0) (hn : bW (jv s) = 0) {σ : Nat → Int} {W : ak → Nat → Bool} (hT : L.tu σ W) : W (jv s) 0 = !W s 0 := by
 by_cases h : s.f0 = 3 ∧ s.f2.length = 1
 ·have e : jv s = s.f2.getD 0 z29 := if_pos h;have h1 := hT.step s (kZ hm).2.2.2 0;have hk : L.kid W s 0 0 = W (s.f2.getD 0 z29) 0 := by
   unfold L.kid;match s.f2, h.2 with
   | [g], _ => rfl
  rw [h.1, hk] at h1;rw [e, h1];show _ = !(!_);rw [Bool.not_not]
 ·have e : jv s = ⟨3, 0, [s]⟩ := if_neg h;have h1 := hT.step (jv s) (kZ hn).2.2.2 0;rw [e] at h1 ⊢;exact h1
theorem ain {ls ss : List Int} {nxs : List (List Int)} {f f' : ak} (hg : F3 ls ss nxs) (hm : bW f = 0) (hm' : bW f' = 0) {want want' : Bool} (hw : ∀ σ W, L.tu σ W → W f 0 = want → W f' 0 = want') (h : (iK ls ss nxs f want).isSome = true) : (iK ls ss nxs f' want').isSome = true := by
 have hok := Cg hg hm;have hok2 := Cg hg hm';obtain ⟨⟨a, c⟩, hq⟩ := Option.isSome_iff_exists.1 h;obtain ⟨h0, h1, h2⟩ := L.as0 hok hm hq;have hb := (L.RH hok hm hq).1;cases h3 : iK ls ss nxs f' want' with
 | some q => rfl
 | none =>
  exfalso
  obtain ⟨v, hv⟩ : ∃ v : Nat → Nat, ∀ i, v i = (a ++ c).getD (L.eT (a ++ c).length a.length i) 0 / 2 ^ az f := ⟨fun i => (a ++ c).getD (L.eT (a ++ c).length a.length i) 0 / 2 ^ az f, fun _ => rfl⟩;have Ea : ∀ i, a.length ≤ i → v (i + ((a ++ c).length - a.length)) = v i := fun i hi => by
   have := L.RB hb (i - a.length);rw [show a.length + ((a ++ c).length - a.length) + (i - a.length) = i + ((a ++ c).length - a.length) by omega, show a.length + (i - a.length) = i by omega] at this;rw [hv, hv, this]
  obtain ⟨W, hT, hW⟩ := L.as3 ls (v := v) (b := a.length) (p := (a ++ c).length - a.length) ag Ea;have Sc : L.tu (fun i => ls.getD ((a ++ c).getD (L.eT (a ++ c).length a.length i) 0 / 2 ^ az f) 0) W := by
   have e : (fun i => ls.getD ((a ++ c).getD (L.eT (a ++ c).length a.length i) 0 / 2 ^ az f) 0) = (fun i => ls.getD (v i) 0) := funext (fun i => by rw [hv i]);rw [e]; exact hT
  refine L.as1 hok2 hm' h3 (v := v) (by rw [hv]; exact h0) (fun i => by rw [hv]; exact h1 i) (fun i => by rw [hv, hv]; exact h2 i) hT (b := a.length) (p := (a ++ c).length - a.length) ag Ea (fun s i _ hi => hW s i hi) (hw _ _ hT (L.asZ hok hm hq Sc))
theorem aup {ls ss : List Int} {nxs : List (List Int)} {s : ak} (hg : F3 ls ss nxs) (hm : bW s = 0) (hn : bW (jv s) = 0) : (iK ls ss nxs s false).isNone = !(iK ls ss nxs (jv s) true).isSome := by
 have h1 := ain (ls := ls) (ss := ss) (nxs := nxs) hg hm hn (want := false) (want' := true) (fun σ W hT h => by rw [aim hm hn hT, h]; rfl);have h2 := ain (ls := ls) (ss := ss) (nxs := nxs) hg hn hm (want := true) (want' := false) (fun σ W hT h => by rw [aim hm hn hT] at h; simpa using h);cases ha : iK ls ss nxs s false with
 | none =>
  cases hb : iK ls ss nxs (jv s) true with
  | none => rfl
  | some q => rw [ha, hb] at h2; exact absurd (h2 rfl) ai
 | some q =>
  rw [ha] at h1;rw [h1 rfl]; rfl
theorem auq (ls ss : List Int) (nxs : List (List Int)) (s : ak) (A0 A1 A2 A5 : Option Addr) (c0 c1 c2 c5 : Nat) (w : World)
  (h0 : Kd.C (Kd.int .u32) w A0 ls.length ls) (l0 : ls.length ≤ c0) (h1 : Kd.C (Kd.int .i64) w A1 ss.length ss) (l1 : ss.length ≤ c1) (h2 : Kd.C (Kd.slice 3 (Kd.int .i64)) w A2 nxs.length nxs) (l2 : nxs.length ≤ c2) (h5 : Kd.C bK w A5 s.f2.length s.f2) (l5 : s.f2.length ≤ c5) :
  Calls Tryz.prog 7 #[.agg #[.slice A0 ls.length c0, .slice A1 ss.length c1, .slice A2 nxs.length c2], .agg #[.int .i64 s.f0, .int .i64 s.f1, .slice A5 s.f2.length c5]] w fun e w' => ∃ P1 p1 P2 p2 na nc, e = .returned (.tuple #[.slice P1 na p1, .slice P2 nc p2, .bool (rZ ls ss nxs s).1, .int .i64 (rZ ls ss nxs s).2]) ∧ ((rZ ls ss nxs s).1 = false → na = 0 ∧ nc = 0) ∧ Below w.heap.size w w' := by
 refine (agC ls ss nxs s A0 A1 A2 A5 c0 c1 c2 c5 w h0 l0 h1 l1 h2 l2 h5 l5).mono ?_;rintro e w' ⟨v1, v2, rfl, nO, hR2, hB⟩;generalize hs1 : (if gF ls ss nxs s = 0 then (zA ls ss nxs s (iK ls ss nxs s true)).1 else []) = s1 at nO;generalize hs2 : (if gF ls ss nxs s = 0 then (zA ls ss nxs s (iK ls ss nxs s true)).2.1 else []) = s2 at hR2;obtain ⟨P1, p1, e1, _, _⟩ := Kd.iO nO;obtain ⟨P2, p2, e2, _, _⟩ := Kd.iO hR2;subst e1;subst e2;refine ⟨P1, p1, P2, p2, s1.length, s2.length, ?_, fun h => ?_, hB⟩
 ·unfold rZ;by_cases he : gF ls ss nxs s = 0
  ·rw [if_pos he, decide_eq_true he];cases iK ls ss nxs s true with
   | none => rfl
   | some q => obtain ⟨a, b⟩ := q; rfl
  ·rw [if_neg he, decide_eq_false he]; rfl
 ·unfold rZ at h;by_cases he : gF ls ss nxs s = 0
  ·rw [if_pos he] at hs1 hs2;rw [decide_eq_true he] at h;rw [← hs1, ← hs2];cases hf : iK ls ss nxs s true with
   | none => exact ⟨rfl, rfl⟩
   | some q => rw [hf] at h; cases h
  ·rw [if_neg he] at hs1 hs2;rw [← hs1, ← hs2]; exact ⟨rfl, rfl⟩
theorem aur {ls ss : List Int} {nxs : List (List Int)} {s : ak} (he : gF ls ss nxs s = 0) (hn : bW (jv s) = 0) : (iK ls ss nxs s false).isNone = !(rZ ls ss nxs (jv s)).1 := by
 unfold gF at he;by_cases h1 : ko ls ss nxs = 0
 ·rw [if_pos h1] at he;by_cases h2 : bW s = 0
  ·rw [if_pos h2] at he;by_cases h3 : 3000 < 2 ^ az s * ls.length
   ·rw [if_pos h3] at he; exact absurd he ai
   ·rw [aup (I9 h1) h2 hn];unfold rZ gF;rw [if_pos h1, if_pos hn, auo, if_neg h3, decide_eq_true rfl, Bool.true_and]
  ·rw [if_neg h2] at he; exact absurd he h2
 ·rw [if_neg h1] at he; exact absurd he h1
def Ej.DI : Bool × List (List Nat × List Nat) := (true, [([], []), ([0], [0]), ([], []), ([2], [2]), ([3], [3]), ([1, 4], [1, 4]), ([5], [5])])
def Ej.Lt : List Nat := [0, 1, 0, 4, 12, 31, 63]
theorem Ej.Lu : dh .any (opsOf Tryz.f4 12) = Ej.DI := by kernel_rfl
theorem Ej.Lv : ik Ej.DI.2 Ej.Lt = true := by kernel_rfl
def xk : Int → List (List Int) → Int
 | x, [] => x
 | x, l :: r => xk (wrap64 (x + (l.length : Int))) r
theorem aio (l : List Int) : ∀ (p : List (List Int)) (x : Int), xk x (p ++ [l]) = wrap64 (xk x p + (l.length : Int))
 | [], x => rfl
 | a :: r, x => aio l r _
def SQ (ls ss : List Int) (nxs : List (List Int)) (n sz : Int) : Int :=
 let x := xk (wrap64 ((ls.length : Int) + (ss.length : Int))) nxs
 if 300 < x then x else if 100 < (nxs.length : Int) then x else if 0 < n then n else if 200 < wrap64 (sz * (ls.length : Int)) then 1 else 0
theorem aus (ls ss : List Int) (nxs : List (List Int)) (s : ak) (n : Int) (kn : Nat) (hkn : Jd.f kn s.f0 s.f1 s.f2 = some n) (A0 A1 A2 A5 : Option Addr) (c0 c1 c2 c5 : Nat) (w : World)
  (h0 : Kd.C (Kd.int .u32) w A0 ls.length ls) (l0 : ls.length ≤ c0) (h1 : Kd.C (Kd.int .i64) w A1 ss.length ss) (l1 : ss.length ≤ c1) (h2 : Kd.C (Kd.slice 3 (Kd.int .i64)) w A2 nxs.length nxs) (l2 : nxs.length ≤ c2) (h5 : Kd.C bK w A5 s.f2.length s.f2) (l5 : s.f2.length ≤ c5) :
  Calls Tryz.prog 4 #[.agg #[.slice A0 ls.length c0, .slice A1 ss.length c1, .slice A2 nxs.length c2], .agg #[.int .i64 s.f0, .int .i64 s.f1, .slice A5 s.f2.length c5]] w fun e w' => e = .returned (.int .i64 (SQ ls ss nxs n (jB s))) ∧ Below w.heap.size w w' := by
 have AB := Tryz.underlying26;have jm := Tryz.underlying29;have IG := Tryz.underlying24;obtain ⟨W2, hW2⟩ : ∃ W2, W2 = (w.alloc (.cells #[.slice A0 ls.length c0, .slice A1 ss.length c1, .slice A2 nxs.length c2] 26)).alloc (.cells #[.int .i64 s.f0, .int .i64 s.f1, .slice A5 s.f2.length c5] 29) := ⟨_, rfl⟩;have hB2 : Below w.heap.size w W2 := by rw [hW2]; exact aW (aW (Below.refl _ _) _) _
 have hbk : W2.heap[w.heap.size]? = some (.cells #[.slice A0 ls.length c0, .slice A1 ss.length c1, .slice A2 nxs.length c2] 26 (0, 0)) := by rw [hW2]; exact bf (heap_alloc_new w _) _
 have hbf : W2.heap[w.heap.size + 1]? = some (.cells #[.int .i64 s.f0, .int .i64 s.f1, .slice A5 s.f2.length c5] 29 (0, 0)) := by
  rw [hW2];have := heap_alloc_new (w.alloc (.cells #[.slice A0 ls.length c0, .slice A1 ss.length c1, .slice A2 nxs.length c2] 26)) (.cells #[.int .i64 s.f0, .int .i64 s.f1, .slice A5 s.f2.length c5] 29);simpa using this
 obtain ⟨eB, kP⟩ : ∃ k, k = w.heap.size := ⟨_, rfl⟩;obtain ⟨gf, hgf⟩ : ∃ k, k = eB + 1 := ⟨_, rfl⟩;rw [← kP] at hbk;rw [← kP, ← hgf] at hbf;have k0 : W2.cell? ⟨eB, 0, none⟩ = some (.slice A0 ls.length c0) := (aj hbk 0).trans rfl;have k1 : W2.cell? ⟨eB, 1, none⟩ = some (.slice A1 ss.length c1) := (aj hbk 1).trans rfl;have k2 : W2.cell? ⟨eB, 2, none⟩ = some (.slice A2 nxs.length c2) := (aj hbk 2).trans rfl;have f0 : W2.cell? ⟨gf, 0, none⟩ = some (.int .i64 s.f0) := (aj hbf 0).trans rfl;have f1 : W2.cell? ⟨gf, 1, none⟩ = some (.int .i64 s.f1) := (aj hbf 1).trans rfl;have f2 : W2.cell? ⟨gf, 2, none⟩ = some (.slice A5 s.f2.length c5) := (aj hbf 2).trans rfl;have GV := Zd.mk (fun W (hb : Below W2.heap.size W2 W) => Jd.calls kn s.f0 s.f1 A5 c5 s.f2 n W (Kd.aQ h5 (hB2.trans (hb.mono hB2.size))) l5 hkn);have oG := Zd.mk (fun W (hb : Below W2.heap.size W2 W) => Jk s A5 c5 W (Kd.aQ h5 (hB2.trans (hb.mono hB2.size))) l5);have hmx := Kd.pG h2;have H2 := Zd.mk (Kd.aQ h2 hB2);have HB2 := Zd.mk hB2;obtain ⟨x0, hx0⟩ : ∃ x, x = wrap64 ((ls.length : Int) + (ss.length : Int)) := ⟨_, rfl⟩;obtain ⟨sz, hsz⟩ : ∃ x, x = jB s := ⟨_, rfl⟩;obtain ⟨bz, hbz⟩ : ∃ b, b = decide (200 < wrap64 (sz * (ls.length : Int))) := ⟨_, rfl⟩;have HN := Zd.mk (show SQ ls ss nxs n sz = if 300 < xk x0 nxs then xk x0 nxs else if 100 < (nxs.length : Int) then xk x0 nxs else if 0 < n then n else if bz = true then 1 else 0 from by
  rw [hx0, hbz]; unfold SQ; simp only [decide_eq_true_eq])
 rw [← hsz] at oG ⊢;have hx0' := hx0.symm;have axj := hbz.symm;clear h0 h1 h2 h5 hbk hbf hB2 hx0 hsz hbz;go_enter Tryz.func4, Tryz.ntmps4;go_upto_region 1 with fail
 rw [← hW2, ← kP, ← hgf];clear hW2 kP hgf
 go_upto_block 0 with fail
 go_cut [5] (fun v5 wx => v5 = .int .i64 (xk x0 nxs) ∧ wx = W2)
 case first =>
  go_wp2;go_loopg [5, 19] nxs.length (fun kq v5 v19 w' => ∃ j : Nat, j + kq = nxs.length ∧ v19 = .int .i64 (j : Int) ∧ v5 = .int .i64 (xk x0 (nxs.take j)) ∧ w' = W2)
  case atStart => exact ⟨0, by omega, rfl, by first | rfl | (rw [hx0']; rfl), rfl⟩
  case round =>
   obtain ⟨j, hj, rfl, rfl, rfl⟩ := hrel;have HJ := Zd.mk hj;clear hj;by_cases hjl : j < nxs.length
   ·have FY : (j : Int) < (nxs.length : Int) := by omega
    obtain ⟨ad, A', c', rfl, zr, _, _⟩ := Dw H2.out hjl;have kY := Zd.mk (show xk x0 (nxs.take (j + 1)) = wrap64 (xk x0 (nxs.take j) + ((nxs.getD j []).length : Int)) from by
     rw [List.take_succ_eq_append_getElem hjl, aio, List.getD_eq_getElem?_getD, List.getElem?_eq_getElem hjl]; rfl)
    generalize xk x0 (nxs.take j) = x at *;generalize (nxs.getD j []).length = rl at *;go_wp2;go_roundg (gk - 1)
    case measure => have := HJ.out; omega
    case rel => exact ⟨j + 1, by have := HJ.out; omega, by first | rfl | (congr 1; go_num; done), by rw [kY.out], rfl⟩
   ·have e : nxs.length = j := by have := HJ.out; omega
    subst e;rw [List.take_length];go_wp2;go_meet;exact ⟨rfl, rfl⟩
 case rest =>
  obtain ⟨rfl, rfl⟩ := hcut;clear hx0';obtain ⟨x, hx⟩ : ∃ x, x = xk x0 nxs := ⟨_, rfl⟩;rw [← hx] at HN ⊢;clear hx;by_cases g1 : 300 < x
  ·rw [if_pos g1] at HN;have t1 : decide (300 < x) = true := decide_eq_true g1;go_wp2;go_ret;exact ⟨by rw [HN.out]; rfl, HB2.out⟩
  ·rw [if_neg g1] at HN;have t1 : decide (300 < x) = false := decide_eq_false g1;by_cases g2 : 100 < (nxs.length : Int)
   ·rw [if_pos g2] at HN;have t2 : decide (100 < (nxs.length : Int)) = true := decide_eq_true g2;have t2' : decide (100 < nxs.length) = true := decide_eq_true ag;go_wp2;go_ret;exact ⟨by rw [HN.out]; rfl, HB2.out⟩
   ·rw [if_neg g2] at HN;have t2 : decide (100 < (nxs.length : Int)) = false := decide_eq_false g2;have t2' : decide (100 < nxs.length) = false := decide_eq_false ag;go_upto_region 10 with (go_at_call 14; refine (GV.out _ (Below.refl _ _)).mono ?_; rintro e w3 ⟨rfl, hB⟩; have HB3 := Zd.mk hB; have aip := aG hB k0; have Ng := aG hB f0; have Nh := aG hB f1; have Ni := aG hB f2; clear hB)
    clear k0 k1 k2 f0 f1 f2 t1 t2 t2';by_cases g3 : 0 < n
    ·rw [if_pos g3] at HN;have t3 : decide (0 < n) = true := decide_eq_true g3;go_wp2;go_ret;exact ⟨by rw [HN.out]; rfl, HB2.out.trans (HB3.out.mono HB2.out.size)⟩
    ·rw [if_neg g3] at HN;have t3 : decide (0 < n) = false := decide_eq_false g3;obtain ⟨WB, rfl⟩ : ∃ W : World, W = w3 := ⟨_, rfl⟩;have uz := Zd.mk (fun W (hb : Below WB.heap.size WB W) => oG.out W (HB3.out.trans (hb.mono HB3.out.size)));have k0 := aip;have f0 := Ng;have f1 := Nh;have f2 := Ni;clear aip Ng Nh Ni oG GV;go_upto_region 12 with fail
     refine iP (n := 7) (S := fun w' => w'.cell? ⟨eB, 0, none⟩ = some (.slice A0 ls.length c0) ∧ w'.cell? ⟨gf, 0, none⟩ = some (.int .i64 s.f0) ∧ w'.cell? ⟨gf, 1, none⟩ = some (.int .i64 s.f1) ∧ w'.cell? ⟨gf, 2, none⟩ = some (.slice A5 s.f2.length c5)) (ds := []) #[false, false, false, false, false, false, false] aa rfl rfl ⟨k0, f0, f1, f2⟩ (fun hHeld => ?_);refine iR Ej.Lu Ej.Lv (fun ae bA => ?_);refine pz ae.out 2 (some 44) #[false, false, true, false, false, false, false] rfl rfl ?_;refine tz ae.out bA.out 0 (some 42) #[true, false, true, false, false, false, false] rfl rfl hHeld ?_;refine tz ae.out bA.out 3 (some 45) #[true, false, true, true, false, false, false] rfl rfl hHeld ?_;refine pz ae.out 4 (some 46) #[true, false, true, true, true, false, false] rfl rfl ?_;refine gV (i := 1) (N := some 43) #[true, true, true, true, true, false, false] rfl rfl (di ae.out aa) ai (fun K hK => ?_);refine jT Tryz.func5 aa rfl #[.agg #[.int .i64 s.f0, .int .i64 s.f1, .slice A5 s.f2.length c5]] bu rfl rfl (by simp only [List.map_toArray, List.map_cons, List.map_nil]; rfl) ?_
     with_reducible refine (uz.out _ (show Below WB.heap.size WB WB.drew from bV (Below.refl _ _))).mono ?_
     rintro e_ Nu ⟨rfl, hB⟩;have qA := Zd.mk (show Below WB.heap.size WB Nu from (bV (Below.refl _ _)).trans hB);clear hB hHeld;refine ⟨_, rfl, ?_⟩;refine hK.out _ _ ⟨(aG qA.out k0), (aG qA.out f0), (aG qA.out f1), (aG qA.out f2)⟩ (fun hHeld => ?_);clear hK K;refine gW (a' := ?_) ?_ ?_;rotate_left
     ·show Act.put _ (some 43) _ = _;simp only [Act.put, List.setIfInBounds_toArray, List.set_cons_zero, List.set_cons_succ, bE, dS];rfl
     refine pz ae.out 5 (some 47) #[true, true, true, true, true, true, false] rfl rfl ?_;refine pz ae.out 6 (some 48) #[true, true, true, true, true, true, true] rfl rfl ?_;refine kD (kE ae.out aa) ?_;clear hHeld ae bA;have bQ := Zd.mk (HB2.out.trans ((HB3.out.trans (qA.out.mono HB3.out.size)).mono HB2.out.size));cases bz with
     | true =>
      go_wp2;go_ret;exact ⟨by rw [HN.out]; rfl, bQ.out⟩
     | false =>
      go_wp2;go_ret;exact ⟨by rw [HN.out]; rfl, bQ.out⟩
theorem aiq (l : List Int) (a : Int) (hb : l.length ≤ 9223372036854775807) : ∀ (r p : List Int), p ++ r = l → ∃ t : Int, Ev (fun k => uP.l0 k l a (l.length : Int) (p.length : Int)) t ∧ decide (t ≥ 0) = r.contains a
 | [], p, h => by
  subst h;exact ⟨-1, eO (fun k => rfl) (lN (by simp) (dx _)), rfl⟩
 | v :: r, p, h => by
  have hlen : l.length = p.length + (r.length + 1) := by rw [← h]; simp
  have hrd : rd l (p.length : Int) = v := by rw [← h]; exact Ke p v r
  by_cases e : a = v
  ·refine ⟨(p.length : Int), eO (fun k => rfl) (dC ag (dC ag (dC ag ?_))), ?_⟩
   ·rw [hrd];exact dC e (dx _)
   ·rw [List.contains_cons, beq_iff_eq.2 e, Bool.true_or];exact decide_eq_true ag
  ·obtain ⟨t, h1, h2⟩ := aiq l a hb r (p ++ [v]) (by rw [← h]; simp);refine ⟨t, eO (fun k => rfl) (dC ag (dC ag (dC ag ?_))), ?_⟩
   ·rw [hrd];refine lN e ?_;rw [jA ag ag, show ((p.length : Int) + 1) = ((p ++ [v]).length : Int) by simp];exact h1
   ·rw [h2, List.contains_cons, beq_eq_false_iff_ne.2 e, Bool.false_or]
theorem aut (l : List Int) (a : Int) (hb : l.length ≤ 9223372036854775807) : Ev (fun k => Kr.f k l a) (l.contains a) := by
 obtain ⟨t, h1, h2⟩ := aiq l a hb l [] rfl;unfold Kr.f;refine qO (show Ev (fun k => uP.f k l a) t from h1) (fJ (dx _) h2)
theorem ZQ (l : List Int) (a : Int) (A : Option Addr) (c : Nat) (w : World) (hr : Kd.C (Kd.int .i64) w A l.length l) (hc : l.length ≤ c) :
  Calls Tryz.prog 33 #[.slice A l.length c, .int .i64 a] w fun e w' => e = .returned (.bool (l.contains a)) ∧ Below w.heap.size w w' := by
 obtain ⟨k, hk⟩ := (aut l a (Kd.pG hr)).rounds;exact (Kr.calls k A c l a _ w hr hc hk).mono (fun e w' h => ⟨h.1, h.2.below⟩)
def GX (ls ss : List Int) (nxs : List (List Int)) (all : List Int) (i : Nat) : Bool :=
 if all.getD i 0 < 0 then false else if (ls.length : Int) ≤ all.getD i 0 then false else if i = 0 then ss.contains (all.getD i 0) else (nxs.getD (all.getD (i - 1) 0).toNat []).contains (all.getD i 0)
def SS (ls ss : List Int) (nxs : List (List Int)) (all : List Int) : Bool := (List.range all.length).all (GX ls ss nxs all)
def oL (ls all : List Int) : List Int := all.map (fun v => ls.getD v.toNat 0)
def JB (ls ss : List Int) (nxs : List (List Int)) (st lp : List Int) : Bool :=
 decide (ko ls ss nxs = 0) && (decide (lp ≠ []) && (SS ls ss nxs (st ++ lp) && ((nxs.getD ((st ++ lp).getD ((st ++ lp).length - 1) 0).toNat []).contains (lp.getD 0 0) && xH (oL ls st) (oL ls lp))))
theorem ZR (ls all : List Int) : (oL ls all).length = all.length := List.length_map ..
section
variable {W w w1 : World} {g p : Nat}
def El (w : World) (p : Nat) (x y : Value) : World := (w.setCell ⟨p, 0, none⟩ x).setCell ⟨p, 1, none⟩ y
theorem auu (hB : Below W.heap.size W w) (hp : W.heap.size ≤ p) (x y : Value) : Below W.heap.size W (El w p x y) := (hB.setCell hp x).setCell hp y
theorem Lay.El {a b : Value} {t : TypeId} (h : Lay W w p #[a, b] t) (x y : Value) : Lay W (El w p x y) p #[x, y] t := ⟨h.1, (jc (jc h.2 0 x) 1 y).trans rfl⟩
theorem SV {w : World} {base p : Nat} {ok : Nat → Prop} {v a b : Value} {xs : List Int} {t : TypeId} (h : Kd.R (Kd.int .u32) 44 w base ok v xs) (hb : w.heap[p]? = some (.cells #[a, b] t (0, 0))) (ht : (44 : Nat) ≠ t) (x y : Value) : Kd.R (Kd.int .u32) 44 (El w p x y) base ok v xs := by
 have hne : ∀ k, v.ownBlock = some k → k ≠ p := fun k hk e => by
  obtain ⟨cells, hc⟩ := Kd.ajq h k hk;rw [e, hb] at hc;injection hc with hc
  injection hc with _ h2 _
  exact ht h2.symm
 exact Kd.jd (Kd.Eu (Kd.aaN rfl h) (fun k hk _ => by
  have hk' : k ≠ p := hne k hk.symm;unfold El;rw [Below.heap_setCell _ ⟨p, 1, none⟩ y k hk', Below.heap_setCell _ ⟨p, 0, none⟩ x k hk'])) (fun k hk => h.1 k hk.symm)
end
theorem auv {f : Nat → Bool} {n : Nat} (h : ∀ j, j < n → f j = true) : (List.range n).all f = true := List.all_eq_true.2 (fun j hj => h j (List.mem_range.1 hj))
theorem auw {f : Nat → Bool} {n i : Nat} (hi : i < n) (h : f i = false) : (List.range n).all f = false := by
 cases e : (List.range n).all f with
 | false => rfl
 | true =>
  have := List.all_eq_true.1 e i (List.mem_range.2 hi);rw [h] at this; cases this
theorem ZT {ls ss : List Int} {nxs : List (List Int)} {all : List Int} {i : Nat} (h : GX ls ss nxs all i = true) : 0 ≤ all.getD i 0 ∧ all.getD i 0 < (ls.length : Int) := by
 unfold GX at h;split at h
 ·cases h
 ·split at h
  ·cases h
  ·omega
theorem auy {ls all : List Int} {i : Nat} (h : i < all.length) : oL ls (all.take (i + 1)) = oL ls (all.take i) ++ [ls.getD (all.getD i 0).toNat 0] := by
 unfold oL;rw [List.take_add_one, List.getElem?_eq_getElem h, Option.toList_some, List.map_append, List.getD_eq_getElem?_getD (l := all), List.getElem?_eq_getElem h]; rfl
def air (ls : List Int) (b : Bool) (l : List Int) : List Int := if b = true then oL ls l else []
def ZU.f (aV : List Int) (bF : List Int) (af : List (List Int)) (l1 : List Int) (l2 : List Int) : Option (List Int × List Int × Bool) :=
 if l1.length + l2.length < 1000000000 then some (air aV (JB aV bF af l1 l2) l1, air aV (JB aV bF af l1 l2) l2, JB aV bF af l1 l2) else none
end Go.Proofs.YtapejnikpmfddaaGreat.X
