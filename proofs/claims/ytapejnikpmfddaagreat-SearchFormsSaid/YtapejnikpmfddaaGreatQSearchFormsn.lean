/- A part of the claim SearchForms. -/
import Derived.Test.YtapejnikpmfddaaGreatQSearchFormsm
set_option linter.unusedVariables false
set_option linter.unusedSimpArgs false
set_option maxHeartbeats 8000000
set_option maxRecDepth 100000
namespace Go.Proofs.YtapejnikpmfddaaGreat.X
open Go.RowKit Go.Proofs.aI.bM Go.Proofs.aI.dG Go.Proofs.aI.dM
open Go.Proofs.YtapejnikpmfddaaGreat.P Go.Proofs.YtapejnikpmfddaaGreat.gY
def iK (ls ss : List Int) (nxs : List (List Int)) (s : ak) (want : Bool) : Option (List Nat × List Nat) :=
 Sg.findF (bH ls ss nxs s).next (bH ls ss nxs s).good (bH ls ss nxs s).N (bH ls ss nxs s).P ((bH ls ss nxs s).starts want)
def agA (ls ss : List Int) (nxs : List (List Int)) (s : ak) (l : List Nat) : List Int := j5 (l.map (bH ls ss nxs s).xU)
def zA (ls ss : List Int) (nxs : List (List Int)) (s : ak) : Option (List Nat × List Nat) → List Int × List Int × Bool
 | none => ([], [], false)
 | some (st, lp) => (agA ls ss nxs s st, agA ls ss nxs s lp, true)
def Q8.f (aV : List Int) (bF : List Int) (af : List (List Int)) (kQ : Int) (kR : Int) (ic : List ak) : Option (List Int × List Int × Bool × Int) :=
 some (if gF aV bF af ⟨kQ, kR, ic⟩ = 0 then ((zA aV bF af ⟨kQ, kR, ic⟩ (iK aV bF af ⟨kQ, kR, ic⟩ true)).1, (zA aV bF af ⟨kQ, kR, ic⟩ (iK aV bF af ⟨kQ, kR, ic⟩ true)).2.1, (zA aV bF af ⟨kQ, kR, ic⟩ (iK aV bF af ⟨kQ, kR, ic⟩ true)).2.2, 0) else ([], [], false, gF aV bF af ⟨kQ, kR, ic⟩))
def Q9.f (aV : List Int) (bF : List Int) (af : List (List Int)) (kQ : Int) (kR : Int) (ic : List ak) : Option (Bool × Int) :=
 some (if gF aV bF af ⟨kQ, kR, ic⟩ = 0 then ((iK aV bF af ⟨kQ, kR, ic⟩ false).isNone, 0) else (false, gF aV bF af ⟨kQ, kR, ic⟩))
theorem agB {e : Nat} {w : World} {base : Nat} {ok : Nat → Prop} {v : Value} {xs : List Nat} (h : Kd.R bD e w base ok v xs) : Kd.R (Kd.int .i64) e w base ok v (j5 xs) := afv h
theorem agC (ls ss : List Int) (nxs : List (List Int)) (s : ak) (A0 A1 A2 A5 : Option Addr) (c0 c1 c2 c5 : Nat) (w : World)
  (h0 : Kd.C (Kd.int .u32) w A0 ls.length ls) (l0 : ls.length ≤ c0) (h1 : Kd.C (Kd.int .i64) w A1 ss.length ss) (l1 : ss.length ≤ c1) (h2 : Kd.C (Kd.slice 3 (Kd.int .i64)) w A2 nxs.length nxs) (l2 : nxs.length ≤ c2) (h5 : Kd.C bK w A5 s.f2.length s.f2) (l5 : s.f2.length ≤ c5) :
  Calls Tryz.prog 7 #[.agg #[.slice A0 ls.length c0, .slice A1 ss.length c1, .slice A2 nxs.length c2], .agg #[.int .i64 s.f0, .int .i64 s.f1, .slice A5 s.f2.length c5]] w fun e w' =>
   ∃ v1 v2, e = .returned (.tuple #[v1, v2, .bool (if gF ls ss nxs s = 0 then (zA ls ss nxs s (iK ls ss nxs s true)).2.2 else false), .int .i64 (gF ls ss nxs s)]) ∧ Kd.R (Kd.int .i64) 3 w' w.heap.size (fun _ => True) v1 (if gF ls ss nxs s = 0 then (zA ls ss nxs s (iK ls ss nxs s true)).1 else []) ∧
    Kd.R (Kd.int .i64) 3 w' w.heap.size (fun _ => True) v2 (if gF ls ss nxs s = 0 then (zA ls ss nxs s (iK ls ss nxs s true)).2.1 else []) ∧ Below w.heap.size w w' := by
 have AB := Tryz.underlying26;have jm := Tryz.underlying29;obtain ⟨W2, hW2⟩ : ∃ W2, W2 = (w.alloc (.cells #[.slice A0 ls.length c0, .slice A1 ss.length c1, .slice A2 nxs.length c2] 26)).alloc (.cells #[.int .i64 s.f0, .int .i64 s.f1, .slice A5 s.f2.length c5] 29) := ⟨_, rfl⟩;have hB2 : Below w.heap.size w W2 := by rw [hW2]; exact aW (aW (Below.refl _ _) _) _
 have hbk : W2.heap[w.heap.size]? = some (.cells #[.slice A0 ls.length c0, .slice A1 ss.length c1, .slice A2 nxs.length c2] 26 (0, 0)) := by rw [hW2]; exact bf (heap_alloc_new w _) _
 have hbf : W2.heap[w.heap.size + 1]? = some (.cells #[.int .i64 s.f0, .int .i64 s.f1, .slice A5 s.f2.length c5] 29 (0, 0)) := by
  rw [hW2];have := heap_alloc_new (w.alloc (.cells #[.slice A0 ls.length c0, .slice A1 ss.length c1, .slice A2 nxs.length c2] 26)) (.cells #[.int .i64 s.f0, .int .i64 s.f1, .slice A5 s.f2.length c5] 29);simpa using this
 have FI := Zd.mk (agr ls ss nxs s A0 A1 A2 A5 c0 c1 c2 c5 W2 (Kd.aQ h0 hB2) l0 (Kd.aQ h1 hB2) l1 (Kd.aQ h2 hB2) l2 (Kd.aQ h5 hB2) l5);have yf : W2.cell? ⟨w.heap.size, 0, none⟩ = some (.slice A0 ls.length c0) := (aj hbk 0).trans rfl;have Ja : W2.cell? ⟨w.heap.size, 1, none⟩ = some (.slice A1 ss.length c1) := (aj hbk 1).trans rfl;have Ci : W2.cell? ⟨w.heap.size, 2, none⟩ = some (.slice A2 nxs.length c2) := (aj hbk 2).trans rfl;have Me : W2.cell? ⟨w.heap.size + 1, 0, none⟩ = some (.int .i64 s.f0) := (aj hbf 0).trans rfl;have Mf : W2.cell? ⟨w.heap.size + 1, 1, none⟩ = some (.int .i64 s.f1) := (aj hbf 1).trans rfl;have Mg : W2.cell? ⟨w.heap.size + 1, 2, none⟩ = some (.slice A5 s.f2.length c5) := (aj hbf 2).trans rfl;have HB2 := Zd.mk hB2;have eG := Zd.mk (fun (h : gF ls ss nxs s = 0) => show (bH ls ss nxs s).Ok from by
  unfold gF at h;by_cases e1 : ko ls ss nxs = 0
  ·rw [if_pos e1] at h;by_cases e2 : bW s = 0
   ·exact Cg (I9 e1) e2
   ·rw [if_neg e2] at h; exact absurd h e2
  ·rw [if_neg e1] at h; exact absurd h e1)
 have mX := Zd.mk (show iK ls ss nxs s true = Sg.findF (bH ls ss nxs s).next (bH ls ss nxs s).good (bH ls ss nxs s).N (bH ls ss nxs s).P ((bH ls ss nxs s).starts true) from rfl);clear h0 h1 h2 h5 hbk hbf hB2;have arZ := Zd.mk (show zA ls ss nxs s none = ([], [], false) from rfl);have ar0 := Zd.mk (fun st lp => show zA ls ss nxs s (some (st, lp)) = (j5 (st.map (bH ls ss nxs s).xU), j5 (lp.map (bH ls ss nxs s).xU), true) from rfl);generalize iK ls ss nxs s true = fg at *;generalize zA ls ss nxs s = fv at *;generalize bH ls ss nxs s = p at *;generalize gF ls ss nxs s = er at *;by_cases e1 : er = 0
 ·have em : (er != 0) = false := by rw [e1]; rfl
  have AV : ¬ er ≠ 0 := fun h => h e1;have Jc := Zd.mk (eG.out e1);have HE := Zd.mk e1;clear e1;go_enter Tryz.func7, Tryz.ntmps7;go_upto_region 1 with fail
  rw [← hW2];clear hW2;go_upto_region 2 with (go_at_call 19; refine FI.out.mono ?_; rintro e w3 ⟨hN, hB3⟩; unfold Ch at hN; rw [if_pos HE.out] at hN; obtain ⟨g, rfl, hP⟩ := hN; have HP := Zd.mk hP; have HB3 := Zd.mk (HB2.out.trans (hB3.mono HB2.out.size)); clear hP hB3)
  have zB := Zd.mk (afR p true g w3 HP.out Jc.out);rw [← mX.out] at zB;cases hfg : fg with
  | none =>
   rw [hfg] at zB;go_wp2_with (go_at_call 20; refine zB.out.mono ?_; rintro e w4 ⟨hF, hB4⟩; have hF' : e = .returned (.tuple #[.slice none 0 0, .slice none 0 0, .bool false]) := hF; subst hF'; have bQ := Zd.mk hB4; clear hB4 hF)
   (try simp only [Exit.inBlock, Exit.then])
   refine bodyPost_ret (v := .tuple #[.slice none 0 0, .slice none 0 0, .bool false, .int .i64 0]) (by simp [results, Tryz.results7, go_sem]) rfl ?_
   (try simp only [if_pos HE.out, HE.out])
   rw [arZ.out];exact ⟨_, _, rfl, Kd.lK _ _ _ _ _, Kd.lK _ _ _ _ _, HB3.out.trans (bQ.out.mono HB3.out.size)⟩
  | some q =>
   obtain ⟨st, lp⟩ := q;rw [hfg] at zB;go_wp2_with (go_at_call 20; refine zB.out.mono ?_; rintro e w4 ⟨⟨v1, v2, rfl, nO, hR2⟩, hB4⟩; have bQ := Zd.mk hB4; have HR1 := Zd.mk nO; have HR2 := Zd.mk hR2; clear hB4 nO hR2)
   (try simp only [Exit.inBlock, Exit.then])
   refine bodyPost_ret (v := .tuple #[v1, v2, .bool true, .int .i64 0]) (by simp [results, Tryz.results7, go_sem]) rfl ?_
   (try simp only [if_pos HE.out, HE.out])
   rw [ar0.out];exact ⟨v1, v2, rfl, agB (Kd.sj HR1.out HB3.out.size), agB (Kd.sj HR2.out HB3.out.size), HB3.out.trans (bQ.out.mono HB3.out.size)⟩
 ·have em : (er != 0) = true := by simpa using e1
  go_enter Tryz.func7, Tryz.ntmps7;go_upto_region 1 with fail
  rw [← hW2];clear hW2;go_wp2_with (go_at_call 19; refine FI.out.mono ?_; rintro e w3 ⟨hN, hB3⟩; unfold Ch at hN; rw [if_neg e1] at hN; subst hN; have HB3 := Zd.mk (HB2.out.trans (hB3.mono HB2.out.size)); clear hB3)
  (try simp only [Exit.inBlock, Exit.then])
  refine bodyPost_ret (v := .tuple #[.slice none 0 0, .slice none 0 0, .bool false, .int .i64 er]) (by simp [results, Tryz.results7, go_sem]) rfl ?_
  (try simp only [if_neg e1])
  exact ⟨_, _, rfl, Kd.lK _ _ _ _ _, Kd.lK _ _ _ _ _, HB3.out⟩
theorem Q8.calls (eD : Option Addr) (eF : Nat) (aV : List Int) (dX : Option Addr) (dY : Nat) (bF : List Int) (aM : Option Addr) (aC : Nat) (af : List (List Int)) (kQ : Int) (kR : Int) (wS : Option Addr) (wT : Nat) (ic : List ak) (r1 : List Int) (r2 : List Int) (r3 : Bool) (r4 : Int) (w : World) (qK : Kd.C (Kd.int .u32) w eD aV.length aV) (qL : aV.length ≤ eF) (qM : Kd.C (Kd.int .i64) w dX bF.length bF) (qN : bF.length ≤ dY) (dn : Kd.C (Kd.slice 3 (Kd.int .i64)) w aM af.length af) (dw : af.length ≤ aC) (Gc : Kd.C bK w wS ic.length ic) (Gd : ic.length ≤ wT) (h : Q8.f aV bF af kQ kR ic = some (r1, r2, r3, r4)) :
  Calls Tryz.prog 7 #[.agg #[.slice eD aV.length eF, .slice dX bF.length dY, .slice aM af.length aC], .agg #[.int .i64 kQ, .int .i64 kR, .slice wS ic.length wT]] w fun e w' => ∃ Mv Dj : Value, e = .returned (.tuple #[Mv, Dj, .bool r3, .int .i64 r4]) ∧ Kd.R (Kd.int .i64) 3 w' w.heap.size (fun _ => True) Mv r1 ∧ Kd.R (Kd.int .i64) 3 w' w.heap.size (fun _ => True) Dj r2 ∧ Below w.heap.size w w' := by
 have H := agC aV bF af ⟨kQ, kR, ic⟩ eD dX aM wS eF dY aC wT w qK qL qM qN dn dw Gc Gd;have h' := Option.some.inj h;by_cases e : gF aV bF af ⟨kQ, kR, ic⟩ = 0
 ·rw [if_pos e] at h';rw [if_pos e, if_pos e, if_pos e, e] at H;injection h' with h1 h'
  injection h' with h2 h'
  injection h' with h3 h4
  subst h1;subst h2;subst h3;subst h4;exact H
 ·rw [if_neg e] at h';rw [if_neg e, if_neg e, if_neg e] at H;injection h' with h1 h'
  injection h' with h2 h'
  injection h' with h3 h4
  subst h1;subst h2;subst h3;subst h4;exact H
theorem agD (ls ss : List Int) (nxs : List (List Int)) (s : ak) (A0 A1 A2 A5 : Option Addr) (c0 c1 c2 c5 : Nat) (w : World)
  (h0 : Kd.C (Kd.int .u32) w A0 ls.length ls) (l0 : ls.length ≤ c0) (h1 : Kd.C (Kd.int .i64) w A1 ss.length ss) (l1 : ss.length ≤ c1) (h2 : Kd.C (Kd.slice 3 (Kd.int .i64)) w A2 nxs.length nxs) (l2 : nxs.length ≤ c2) (h5 : Kd.C bK w A5 s.f2.length s.f2) (l5 : s.f2.length ≤ c5) :
  Calls Tryz.prog 9 #[.agg #[.slice A0 ls.length c0, .slice A1 ss.length c1, .slice A2 nxs.length c2], .agg #[.int .i64 s.f0, .int .i64 s.f1, .slice A5 s.f2.length c5]] w fun e w' =>
   e = .returned (.tuple #[.bool (if gF ls ss nxs s = 0 then (iK ls ss nxs s false).isNone else false), .int .i64 (gF ls ss nxs s)]) ∧ Below w.heap.size w w' := by
 have AB := Tryz.underlying26;have jm := Tryz.underlying29;obtain ⟨W2, hW2⟩ : ∃ W2, W2 = (w.alloc (.cells #[.slice A0 ls.length c0, .slice A1 ss.length c1, .slice A2 nxs.length c2] 26)).alloc (.cells #[.int .i64 s.f0, .int .i64 s.f1, .slice A5 s.f2.length c5] 29) := ⟨_, rfl⟩;have hB2 : Below w.heap.size w W2 := by rw [hW2]; exact aW (aW (Below.refl _ _) _) _
 have hbk : W2.heap[w.heap.size]? = some (.cells #[.slice A0 ls.length c0, .slice A1 ss.length c1, .slice A2 nxs.length c2] 26 (0, 0)) := by rw [hW2]; exact bf (heap_alloc_new w _) _
 have hbf : W2.heap[w.heap.size + 1]? = some (.cells #[.int .i64 s.f0, .int .i64 s.f1, .slice A5 s.f2.length c5] 29 (0, 0)) := by
  rw [hW2];have := heap_alloc_new (w.alloc (.cells #[.slice A0 ls.length c0, .slice A1 ss.length c1, .slice A2 nxs.length c2] 26)) (.cells #[.int .i64 s.f0, .int .i64 s.f1, .slice A5 s.f2.length c5] 29);simpa using this
 have FI := Zd.mk (agr ls ss nxs s A0 A1 A2 A5 c0 c1 c2 c5 W2 (Kd.aQ h0 hB2) l0 (Kd.aQ h1 hB2) l1 (Kd.aQ h2 hB2) l2 (Kd.aQ h5 hB2) l5);have yf : W2.cell? ⟨w.heap.size, 0, none⟩ = some (.slice A0 ls.length c0) := (aj hbk 0).trans rfl;have Ja : W2.cell? ⟨w.heap.size, 1, none⟩ = some (.slice A1 ss.length c1) := (aj hbk 1).trans rfl;have Ci : W2.cell? ⟨w.heap.size, 2, none⟩ = some (.slice A2 nxs.length c2) := (aj hbk 2).trans rfl;have Me : W2.cell? ⟨w.heap.size + 1, 0, none⟩ = some (.int .i64 s.f0) := (aj hbf 0).trans rfl;have Mf : W2.cell? ⟨w.heap.size + 1, 1, none⟩ = some (.int .i64 s.f1) := (aj hbf 1).trans rfl;have Mg : W2.cell? ⟨w.heap.size + 1, 2, none⟩ = some (.slice A5 s.f2.length c5) := (aj hbf 2).trans rfl;have HB2 := Zd.mk hB2;have eG := Zd.mk (fun (h : gF ls ss nxs s = 0) => show (bH ls ss nxs s).Ok from by
  unfold gF at h;by_cases e1 : ko ls ss nxs = 0
  ·rw [if_pos e1] at h;by_cases e2 : bW s = 0
   ·exact Cg (I9 e1) e2
   ·rw [if_neg e2] at h; exact absurd h e2
  ·rw [if_neg e1] at h; exact absurd h e1)
 have mX := Zd.mk (show iK ls ss nxs s false = Sg.findF (bH ls ss nxs s).next (bH ls ss nxs s).good (bH ls ss nxs s).N (bH ls ss nxs s).P ((bH ls ss nxs s).starts false) from rfl);clear h0 h1 h2 h5 hbk hbf hB2;generalize iK ls ss nxs s false = fg at *;generalize bH ls ss nxs s = p at *;generalize gF ls ss nxs s = er at *;by_cases e1 : er = 0
 ·have em : (er != 0) = false := by rw [e1]; rfl
  have AV : ¬ er ≠ 0 := fun h => h e1;have Jc := Zd.mk (eG.out e1);have HE := Zd.mk e1;clear e1;go_enter Tryz.func9, Tryz.ntmps9;go_upto_region 1 with fail
  rw [← hW2];clear hW2;go_upto_region 2 with (go_at_call 19; refine FI.out.mono ?_; rintro e w3 ⟨hN, hB3⟩; unfold Ch at hN; rw [if_pos HE.out] at hN; obtain ⟨g, rfl, hP⟩ := hN; have HP := Zd.mk hP; have HB3 := Zd.mk (HB2.out.trans (hB3.mono HB2.out.size)); clear hP hB3)
  have zB := Zd.mk (afR p false g w3 HP.out Jc.out);rw [← mX.out] at zB;cases hfg : fg with
  | none =>
   rw [hfg] at zB;go_wp2_with (go_at_call 20; refine zB.out.mono ?_; rintro e w4 ⟨hF, hB4⟩; have hF' : e = .returned (.tuple #[.slice none 0 0, .slice none 0 0, .bool false]) := hF; subst hF'; have bQ := Zd.mk hB4; clear hB4 hF);go_ret2;refine ⟨?_, HB3.out.trans (bQ.out.mono HB3.out.size)⟩
   (try simp only [if_pos HE.out, HE.out])
   rfl
  | some q =>
   obtain ⟨st, lp⟩ := q;rw [hfg] at zB;go_wp2_with (go_at_call 20; refine zB.out.mono ?_; rintro e w4 ⟨⟨v1, v2, rfl, nO, hR2⟩, hB4⟩; have bQ := Zd.mk hB4; have HR1 := Zd.mk nO; have HR2 := Zd.mk hR2; clear hB4 nO hR2);go_ret2;refine ⟨?_, HB3.out.trans (bQ.out.mono HB3.out.size)⟩
   (try simp only [if_pos HE.out, HE.out])
   rfl
 ·have em : (er != 0) = true := by simpa using e1
  go_enter Tryz.func9, Tryz.ntmps9;go_upto_region 1 with fail
  rw [← hW2];clear hW2;go_wp2_with (go_at_call 19; refine FI.out.mono ?_; rintro e w3 ⟨hN, hB3⟩; unfold Ch at hN; rw [if_neg e1] at hN; subst hN; have HB3 := Zd.mk (HB2.out.trans (hB3.mono HB2.out.size)); clear hB3);go_ret2;exact ⟨by (try simp only [if_neg e1]); rfl, HB3.out⟩
theorem Q9.calls (eD : Option Addr) (eF : Nat) (aV : List Int) (dX : Option Addr) (dY : Nat) (bF : List Int) (aM : Option Addr) (aC : Nat) (af : List (List Int)) (kQ : Int) (kR : Int) (wS : Option Addr) (wT : Nat) (ic : List ak) (r1 : Bool) (r2 : Int) (w : World) (qK : Kd.C (Kd.int .u32) w eD aV.length aV) (qL : aV.length ≤ eF) (qM : Kd.C (Kd.int .i64) w dX bF.length bF) (qN : bF.length ≤ dY) (dn : Kd.C (Kd.slice 3 (Kd.int .i64)) w aM af.length af) (dw : af.length ≤ aC) (Gc : Kd.C bK w wS ic.length ic) (Gd : ic.length ≤ wT) (h : Q9.f aV bF af kQ kR ic = some (r1, r2)) :
  Calls Tryz.prog 9 #[.agg #[.slice eD aV.length eF, .slice dX bF.length dY, .slice aM af.length aC], .agg #[.int .i64 kQ, .int .i64 kR, .slice wS ic.length wT]] w fun e w' => e = .returned (.tuple #[.bool r1, .int .i64 r2]) ∧ Below w.heap.size w w' := by
 have H := agD aV bF af ⟨kQ, kR, ic⟩ eD dX aM wS eF dY aC wT w qK qL qM qN dn dw Gc Gd;have h' := Option.some.inj h;by_cases e : gF aV bF af ⟨kQ, kR, ic⟩ = 0
 ·rw [if_pos e] at h' H;obtain ⟨rfl, rfl⟩ := Prod.mk.inj h';rw [e] at H;exact H
 ·rw [if_neg e] at h' H;obtain ⟨rfl, rfl⟩ := Prod.mk.inj h';exact H
end Go.Proofs.YtapejnikpmfddaaGreat.X
namespace Go.Proofs.YtapejnikpmfddaaGreat.P
open Go.RowKit Go.Proofs.aI.bM Go.Proofs.aI.dG Go.Proofs.aI.dM
attribute [local go_sem] nE nG nH nI nW nX nY nZ

mutual
def kS.j0 : Nat → Int → Int → Bool → Int → Int → List (ak) → Option (Int)
 | 0, _, _, _, _, _, _ => none
 | k + 1, x1, x2, Fg, awJ, awK, agE => if Fg = true then (some 1000) else (kS.l0 k x1 x2 1 agE (agE.length : Int) 0)
def kS.l0 : Nat → Int → Int → Int → List (ak) → Int → Int → Option (Int)
 | 0, _, _, _, _, _, _ => none
 | k + 1, x1, x2, x7, qU, L6, sS => if sS < L6 then (if 0 ≤ sS then (if sS < (qU.length : Int) then ((kS.f k ((aY qU sS).f0) ((aY qU sS).f1) ((aY qU sS).f2) (wrap64 (x1 + 1)) (wrap64 (x2 - x7))).bind fun t118 => (if (wrap64 (x7 + t118)) > x2 then (some 1000) else (kS.l0 k x1 x2 (wrap64 (x7 + t118)) qU L6 (wrap64 (sS + 1))))) else (none)) else (none)) else (some x7)
def kS.f : Nat → Int → Int → List (ak) → Int → Int → Option (Int)
 | 0, _, _, _, _, _ => none
 | k + 1, av, ay, af, a1, a2 => if a1 > 40 then (kS.j0 k a1 a2 true av ay af) else (kS.j0 k a1 a2 (decide (a2 < 1)) av ay af)
end
theorem kS.calls (k : Nat) : ∀ (av : Int) (ay : Int) (aM : Option Addr) (aC : Nat) (af : List (ak)) (a1 : Int) (a2 : Int) (r : Int) (w : World) (dn : Kd.C bK w aM af.length af) (dw : af.length ≤ aC) (h : kS.f k av ay af a1 a2 = some r),
  Calls Tryz.prog 30 #[.agg #[.int .i64 av, .int .i64 ay, .slice aM af.length aC], .int .i64 a1, .int .i64 a2] w fun e w' => e = .returned (.int .i64 r) ∧ Below w.heap.size w w' := by
 induction k using Nat.strongRecOn with
 | _ k ih =>
 intro av ay aM aC af a1 a2 r w dn dw h;cases k with
 | zero => exact absurd h (by simp [kS.f])
 | succ k =>
 simp only [kS.f] at h;have Ap := Tryz.underlying29;have fI := Zd.mk dn;have jw := Zd.mk dw;clear dn dw;have HB := Zd.mk (Below.refl w.heap.size w);have H : (if a1 > 40 then (kS.j0 k a1 a2 true av ay af) else (kS.j0 k a1 a2 (decide (a2 < 1)) av ay af)) = some r := h;clear h;have vS := Zd.mk H;clear H;go_enter Tryz.func30, Tryz.ntmps30;go_upto_region 1 with (first | ((with_reducible refine gH (N := 3) rfl ?_); refine gG ?hg (N := 3) ?hd (cs := #[.int .i64 av, .int .i64 ay, .slice aM af.length aC]) (t := 29) ?hr ?_; (case hd => rfl); (case hg => rfl); (case hr => first | (go_simp; done) | (go_simp; rfl)); intro qo hg w5 bG hb; have aJ := Zd.mk (df B_ hb); have aK := Zd.mk (bG); have aU := Zd.mk ((by rw [hg]; exact (bP B_) : w.heap.size ≤ qo)); have aZ := Zd.mk ((by rw [hg]; exact (bP B_) : w.heap.size ≤ qo)); clear HB; have HB := aJ; have qZ := aK; have awL := aU; have awM := aZ; clear aJ aK aU aZ; clear hb bG hg))
 (try simp only [Act.put, List.setIfInBounds_toArray, List.set_cons_zero, List.set_cons_succ])
 go_cut [15] (fun v15 wc => ∃ (kq : Nat) (Ra : Bool), v15 = .bool Ra ∧ Zd (kS.j0 kq a1 a2 Ra av ay af = some r) ∧ Zd (kq ≤ k) ∧ Zd (wc.heap[qo]? = some (.cells #[.int .i64 av, .int .i64 ay, (.slice aM af.length aC)] 29 (0, 0))) ∧ Zd (Below w.heap.size w wc))
 case first =>
  have H := vS.out;clear vS;by_cases c6 : a1 > 40
  ·rw [if_pos c6] at H;have gI : decide (40 < a1) = true := decide_eq_true c6;clear c6
   (first | rw [gI] | (simp only [bE, dS]; rw [gI]) | skip)
   have H' := Zd.mk H;clear H;go_wp2;go_meet
   case rel => exact ⟨_, (true), (by first | rfl | (simp; done) | (simp [*]; done)), H', ⟨by first | omega | exact Nat.le_refl _⟩, ⟨K_⟩, ⟨B_⟩⟩
  ·rw [if_neg c6] at H;have gI : decide (40 < a1) = false := decide_eq_false c6;clear c6
   (first | rw [gI] | (simp only [bE, dS]; rw [gI]) | skip)
   have H' := Zd.mk H;clear H;go_wp2;go_meet
   case rel => exact ⟨_, (decide (a2 < 1)), (by first | rfl | (simp; done) | (simp [*]; done)), H', ⟨by first | omega | exact Nat.le_refl _⟩, ⟨K_⟩, ⟨B_⟩⟩
 case rest =>
  clear vS
  try clear p2
  try clear c3
  try clear c6
  try clear gI
  obtain ⟨kq, Ra, rfl, HA, zC, qZ, HB⟩ := hcut;cases kq with
  | zero => exact absurd HA.out (by simp [kS.j0])
  | succ zD =>
   have H := HA.out;clear HA;simp only [kS.j0] at H;by_cases c7 : Ra = true
   ·subst c7;have H1 : (some 1000) = some r := by rw [if_pos rfl] at H; exact H
    clear H;have H := H1;clear H1;obtain rfl := Option.some.inj H;go_wp2;go_ret;exact ⟨by first | rfl | (simp [bS, bT] <;> rfl) | (simp [*, bS, bT] <;> rfl), B_⟩
   ·replace c7 := Bool.eq_false_iff.mpr c7;subst c7;have H1 : (kS.l0 zD a1 a2 1 af (af.length : Int) 0) = some r := by rw [if_neg (show ¬ (false = true) by decide)] at H; exact H
    clear H;have H := H1;clear H1;have H' := Zd.mk H;clear H;have Vz : wc.cell? ⟨qo, 0, none⟩ = some (.int .i64 av) := (aj qZ.out 0).trans rfl;have VA : wc.cell? ⟨qo, 1, none⟩ = some (.int .i64 ay) := (aj qZ.out 1).trans rfl;have VB : wc.cell? ⟨qo, 2, none⟩ = some (.slice aM af.length aC) := (aj qZ.out 2).trans rfl;have VC := aN qZ.out 0;have VD := aN qZ.out 1;have VE := aN qZ.out 2;go_wp2;go_loopg [7, 19] zD (fun kq v7 v19 w' => ∃ (wU : Int) (fU : Int), v7 = .int .i64 wU ∧ v19 = .int .i64 fU ∧ Zd (kS.l0 kq a1 a2 wU af (af.length : Int) fU = some r) ∧ Zd (kq ≤ zD) ∧ Zd (w'.heap[qo]? = some (.cells #[.int .i64 av, .int .i64 ay, (.slice aM af.length aC)] 29 (0, 0))) ∧ Zd (Below w.heap.size w w'))
    case atStart => exact ⟨(1), (0), (by first | rfl | (simp; done) | (simp [*]; done)), (by first | rfl | (simp; done) | (simp [*]; done)), H', ⟨Nat.le_refl _⟩, ⟨K_⟩, ⟨B_⟩⟩
    case round =>
     clear H'
     try clear p2
     try clear c3
     try clear c6
     try clear gI
     try clear c7
     try clear Vz
     try clear VA
     try clear VB
     try clear VC
     try clear VD
     try clear VE
     try clear p2
     obtain ⟨wU, fU, rfl, rfl, HA, oh, qZ, HB⟩ := hrel;cases gk with
     | zero => exact absurd HA.out (by simp [kS.l0])
     | succ k2 =>
      have H := HA.out;clear HA;simp only [kS.l0] at H;by_cases c9 : fU < (af.length : Int)
      ·rw [if_pos c9] at H;have Ia : decide (fU < (af.length : Int)) = true := decide_eq_true c9;clear c9;by_cases c10 : 0 ≤ fU
       ·rw [if_pos c10] at H;have EI : decide (0 ≤ fU) = true := decide_eq_true c10;clear c10;by_cases c11 : fU < (af.length : Int)
        ·rw [if_pos c11] at H;have Bo : decide (fU < (af.length : Int)) = true := decide_eq_true c11;clear c11;replace H := Option.bind_eq_some_iff.mp H;obtain ⟨t118, L8, H⟩ := H;replace H : (if (wrap64 (wU + t118)) > a2 then (some 1000) else (kS.l0 k2 a1 a2 (wrap64 (wU + t118)) af (af.length : Int) (wrap64 (fU + 1)))) = some r := H;have L9 := Zd.mk L8;clear L8;by_cases c13 : (wrap64 (wU + t118)) > a2
         ·rw [if_pos c13] at H;have Hw : decide (a2 < (wrap64 (wU + t118))) = true := decide_eq_true c13;clear c13;obtain rfl := Option.some.inj H;have Gf : 0 ≤ (fU : Int) := of_decide_eq_true (by first | (with_reducible assumption) | assumption);have Gg : fU < (af.length : Int) := of_decide_eq_true (by first | (with_reducible assumption) | assumption);obtain ⟨Cn, Mw, Mx, e116, Gh, Gi, Gj, MB, MC⟩ := CO fI.out fU Gf Gg;cases e116;replace Gh := (HB.out.cell (World.block_lt_of_cell? w _ Gh)).trans Gh;replace Gi := (HB.out.cell (World.block_lt_of_cell? w _ Gi)).trans Gi;replace Gj := (HB.out.cell (World.block_lt_of_cell? w _ Gj)).trans Gj;have Yq := Zd.mk MC;have Yr := Zd.mk MB;clear MC MB;replace Gf := eq_true Gf;replace Gg := eq_true Gg;go_wp2_with (first | ((with_reducible refine gH (N := 9) rfl ?_); refine gG ?hg (N := 9) ?hd (cs := #[.int .i64 0, .int .i64 0, .slice none 0 0]) (t := 29) ?hr ?_; (case hd => rfl); (case hg => rfl); (case hr => first | (go_simp; done) | (go_simp; rfl)); intro rT hg tZ bG hb; have aJ := Zd.mk (eU (g := qo) (o := .cells #[.int .i64 av, .int .i64 ay, .slice (some Cn) af.length aC] 29 (0, 0)) K_ hb); have aK := Zd.mk (df B_ hb); have aU := Zd.mk (bG); have aZ := Zd.mk ((by rw [hg]; exact (bP B_) : w.heap.size ≤ rT)); have eP := Zd.mk ((by rw [hg]; exact (bP B_) : w.heap.size ≤ rT)); have fQ := Zd.mk ((by rw [hg]; exact Nat.ne_of_lt (aT (g := qo) (o := .cells #[.int .i64 av, .int .i64 ay, .slice (some Cn) af.length aC] 29 (0, 0)) K_) : qo ≠ rT)); have ja := Zd.mk ((by rw [hg]; exact Nat.ne_of_gt (aT (g := qo) (o := .cells #[.int .i64 av, .int .i64 ay, .slice (some Cn) af.length aC] 29 (0, 0)) K_) : rT ≠ qo)); clear qZ; clear HB; have qZ := aJ; have HB := aK; have qp := aU; have ar1 := aZ; have ar2 := eP; have Co := fQ; have Yt := ja; clear aJ aK aU aZ eP fQ ja; clear hb bG hg; have ar3 := Yt.out; have ar4 := Co.out; have af2 : tZ.cell? ⟨rT, 0, none⟩ = some (.int .i64 0) := (aj qp.out 0).trans rfl; have af3 : tZ.cell? ⟨rT, 1, none⟩ = some (.int .i64 0) := (aj qp.out 1).trans rfl; have af4 : tZ.cell? ⟨rT, 2, none⟩ = some (.slice none 0 0) := (aj qp.out 2).trans rfl; have af5 := aN qp.out 0; have af6 := aN qp.out 1; have af7 := aN qp.out 2) | ((with_reducible refine kX (f := 30) rfl ?_); refine kW (some 30) rfl rfl Tryz.func30 aa rfl #[.agg #[.int .i64 ((aY af fU).f0), .int .i64 ((aY af fU).f1), .slice Mw ((aY af fU).f2).length Mx], .int .i64 (wrap64 (a1 + 1)), .int .i64 (wrap64 (a2 - wU))] rfl (by (try simp only [List.map_toArray, List.map_cons, List.map_nil]); first | done | rfl | (simp only [List.length_drop, List.length_take]; rfl)) ?_; (with_reducible refine (ih k2 (by have := zC.out; have := oh.out; omega) ((aY af fU).f0) ((aY af fU).f1) _ _ ((aY af fU).f2) (wrap64 (a1 + 1)) (wrap64 (a2 - wU)) t118 _ ?side1 ?side2 L9.out).mono ?_); (case side1 => exact Kd.aQ Yq.out B_); (case side2 => exact Yr.out); rintro e w17 ⟨rfl, hb⟩; refine ⟨_, rfl, ?_⟩; have aJ := Zd.mk (eU (g := qo) (o := .cells #[.int .i64 av, .int .i64 ay, .slice (some Cn) af.length aC] 29 (0, 0)) (by (with_reducible repeat (first | refine bd_ ?_ _ | refine bO ?_ | refine bf ?_ _)); refine dK ?_ Co.out _; (with_reducible repeat (first | refine bd_ ?_ _ | refine bO ?_ | refine bf ?_ _)); refine dK ?_ Co.out _; (with_reducible repeat (first | refine bd_ ?_ _ | refine bO ?_ | refine bf ?_ _)); refine dK ?_ Co.out _; (with_reducible repeat (first | refine bd_ ?_ _ | refine bO ?_ | refine bf ?_ _)); exact qZ.out) hb); have aK := Zd.mk (eU (g := rT) (o := .cells #[.int .i64 ((aY af fU).f0), .int .i64 ((aY af fU).f1), .slice Mw ((aY af fU).f2).length Mx] 29 (0, 0)) (by (with_reducible repeat (first | refine bd_ ?_ _ | refine bO ?_ | refine bf ?_ _)); refine jS (cs := #[.int .i64 ((aY af fU).f0), .int .i64 ((aY af fU).f1), .slice none 0 0]) ?_ 2 _ rfl; (with_reducible repeat (first | refine bd_ ?_ _ | refine bO ?_ | refine bf ?_ _)); refine jS (cs := #[.int .i64 ((aY af fU).f0), .int .i64 0, .slice none 0 0]) ?_ 1 _ rfl; (with_reducible repeat (first | refine bd_ ?_ _ | refine bO ?_ | refine bf ?_ _)); refine jS (cs := #[.int .i64 0, .int .i64 0, .slice none 0 0]) ?_ 0 _ rfl; (with_reducible repeat (first | refine bd_ ?_ _ | refine bO ?_ | refine bf ?_ _)); exact qp.out) hb); have aU := Zd.mk (df B_ hb); clear qZ; clear qp; clear HB; have qZ := aJ; have qp := aK; have HB := aU; clear aJ aK aU; (try clear hb); (try clear hb2); (try clear hk); (try clear hi)));go_ret;exact ⟨by first | rfl | (simp [bS, bT] <;> rfl) | (simp [*, bS, bT] <;> rfl), B_⟩
         ·rw [if_neg c13] at H;have Hw : decide (a2 < (wrap64 (wU + t118))) = false := decide_eq_false c13;clear c13;have H' := Zd.mk H;clear H;have Gf : 0 ≤ (fU : Int) := of_decide_eq_true (by first | (with_reducible assumption) | assumption);have Gg : fU < (af.length : Int) := of_decide_eq_true (by first | (with_reducible assumption) | assumption);obtain ⟨Cn, Mw, Mx, e116, Gh, Gi, Gj, MB, MC⟩ := CO fI.out fU Gf Gg;cases e116;replace Gh := (HB.out.cell (World.block_lt_of_cell? w _ Gh)).trans Gh;replace Gi := (HB.out.cell (World.block_lt_of_cell? w _ Gi)).trans Gi;replace Gj := (HB.out.cell (World.block_lt_of_cell? w _ Gj)).trans Gj;have Yq := Zd.mk MC;have Yr := Zd.mk MB;clear MC MB;replace Gf := eq_true Gf;replace Gg := eq_true Gg;go_wp2_with (first | ((with_reducible refine gH (N := 9) rfl ?_); refine gG ?hg (N := 9) ?hd (cs := #[.int .i64 0, .int .i64 0, .slice none 0 0]) (t := 29) ?hr ?_; (case hd => rfl); (case hg => rfl); (case hr => first | (go_simp; done) | (go_simp; rfl)); intro rT hg su bG hb; have aJ := Zd.mk (eU (g := qo) (o := .cells #[.int .i64 av, .int .i64 ay, .slice (some Cn) af.length aC] 29 (0, 0)) K_ hb); have aK := Zd.mk (df B_ hb); have aU := Zd.mk (bG); have aZ := Zd.mk ((by rw [hg]; exact (bP B_) : w.heap.size ≤ rT)); have eP := Zd.mk ((by rw [hg]; exact (bP B_) : w.heap.size ≤ rT)); have fQ := Zd.mk ((by rw [hg]; exact Nat.ne_of_lt (aT (g := qo) (o := .cells #[.int .i64 av, .int .i64 ay, .slice (some Cn) af.length aC] 29 (0, 0)) K_) : qo ≠ rT)); have ja := Zd.mk ((by rw [hg]; exact Nat.ne_of_gt (aT (g := qo) (o := .cells #[.int .i64 av, .int .i64 ay, .slice (some Cn) af.length aC] 29 (0, 0)) K_) : rT ≠ qo)); clear qZ; clear HB; have qZ := aJ; have HB := aK; have qp := aU; have ar1 := aZ; have ar2 := eP; have Co := fQ; have Yt := ja; clear aJ aK aU aZ eP fQ ja; clear hb bG hg; have aeb := Yt.out; have aec := Co.out; have aed : su.cell? ⟨rT, 0, none⟩ = some (.int .i64 0) := (aj qp.out 0).trans rfl; have aee : su.cell? ⟨rT, 1, none⟩ = some (.int .i64 0) := (aj qp.out 1).trans rfl; have aef : su.cell? ⟨rT, 2, none⟩ = some (.slice none 0 0) := (aj qp.out 2).trans rfl; have aeg := aN qp.out 0; have aeh := aN qp.out 1; have aei := aN qp.out 2) | ((with_reducible refine kX (f := 30) rfl ?_); refine kW (some 30) rfl rfl Tryz.func30 aa rfl #[.agg #[.int .i64 ((aY af fU).f0), .int .i64 ((aY af fU).f1), .slice Mw ((aY af fU).f2).length Mx], .int .i64 (wrap64 (a1 + 1)), .int .i64 (wrap64 (a2 - wU))] rfl (by (try simp only [List.map_toArray, List.map_cons, List.map_nil]); first | done | rfl | (simp only [List.length_drop, List.length_take]; rfl)) ?_; (with_reducible refine (ih k2 (by have := zC.out; have := oh.out; omega) ((aY af fU).f0) ((aY af fU).f1) _ _ ((aY af fU).f2) (wrap64 (a1 + 1)) (wrap64 (a2 - wU)) t118 _ ?side1 ?side2 L9.out).mono ?_); (case side1 => exact Kd.aQ Yq.out B_); (case side2 => exact Yr.out); rintro e Vn ⟨rfl, hb⟩; refine ⟨_, rfl, ?_⟩; have aJ := Zd.mk (eU (g := qo) (o := .cells #[.int .i64 av, .int .i64 ay, .slice (some Cn) af.length aC] 29 (0, 0)) (by (with_reducible repeat (first | refine bd_ ?_ _ | refine bO ?_ | refine bf ?_ _)); refine dK ?_ Co.out _; (with_reducible repeat (first | refine bd_ ?_ _ | refine bO ?_ | refine bf ?_ _)); refine dK ?_ Co.out _; (with_reducible repeat (first | refine bd_ ?_ _ | refine bO ?_ | refine bf ?_ _)); refine dK ?_ Co.out _; (with_reducible repeat (first | refine bd_ ?_ _ | refine bO ?_ | refine bf ?_ _)); exact qZ.out) hb); have aK := Zd.mk (eU (g := rT) (o := .cells #[.int .i64 ((aY af fU).f0), .int .i64 ((aY af fU).f1), .slice Mw ((aY af fU).f2).length Mx] 29 (0, 0)) (by (with_reducible repeat (first | refine bd_ ?_ _ | refine bO ?_ | refine bf ?_ _)); refine jS (cs := #[.int .i64 ((aY af fU).f0), .int .i64 ((aY af fU).f1), .slice none 0 0]) ?_ 2 _ rfl; (with_reducible repeat (first | refine bd_ ?_ _ | refine bO ?_ | refine bf ?_ _)); refine jS (cs := #[.int .i64 ((aY af fU).f0), .int .i64 0, .slice none 0 0]) ?_ 1 _ rfl; (with_reducible repeat (first | refine bd_ ?_ _ | refine bO ?_ | refine bf ?_ _)); refine jS (cs := #[.int .i64 0, .int .i64 0, .slice none 0 0]) ?_ 0 _ rfl; (with_reducible repeat (first | refine bd_ ?_ _ | refine bO ?_ | refine bf ?_ _)); exact qp.out) hb); have aU := Zd.mk (df B_ hb); clear qZ; clear qp; clear HB; have qZ := aJ; have qp := aK; have HB := aU; clear aJ aK aU; (try clear hb); (try clear hb2); (try clear hk); (try clear hi)));go_roundg k2
          case measure => have := zC.out; have := oh.out; omega
          case rel => exact ⟨(wrap64 (wU + t118)), (wrap64 (fU + 1)), (by first | rfl | (simp; done) | (simp [*]; done)), (by first | rfl | (simp; done) | (simp [*]; done)), H', ⟨by have := zC.out; have := oh.out; omega⟩, ⟨K_⟩, ⟨B_⟩⟩
        ·rw [if_neg c11] at H;exact absurd H (by simp)
       ·rw [if_neg c10] at H;exact absurd H (by simp)
      ·rw [if_neg c9] at H;have Ia : decide (fU < (af.length : Int)) = false := decide_eq_false c9;clear c9;obtain rfl := Option.some.inj H;go_wp2;go_ret;exact ⟨by first | rfl | (simp [bS, bT] <;> rfl) | (simp [*, bS, bT] <;> rfl), B_⟩

def Jd.f (k : Nat) (av : Int) (ay : Int) (af : List (ak)) : Option (Int) := (kS.f k av ay af 0 500).bind fun t120 => (if t120 > 300 then (some t120) else (some 0))
theorem Jd.calls (k : Nat) (av : Int) (ay : Int) (aM : Option Addr) (aC : Nat) (af : List (ak)) (r : Int) (w : World) (dn : Kd.C bK w aM af.length af) (dw : af.length ≤ aC) (h : Jd.f k av ay af = some r) :
  Calls Tryz.prog 14 #[.agg #[.int .i64 av, .int .i64 ay, .slice aM af.length aC]] w fun e w' => e = .returned (.int .i64 r) ∧ Below w.heap.size w w' := by
 have Ap := Tryz.underlying29;have fI := Zd.mk dn;have jw := Zd.mk dw;clear dn dw;have HB := Zd.mk (Below.refl w.heap.size w);have H : ((kS.f k av ay af 0 500).bind fun t120 => (if t120 > 300 then (some t120) else (some 0))) = some r := h;clear h;replace H := Option.bind_eq_some_iff.mp H;obtain ⟨t120, uZ, H⟩ := H;replace H : (if t120 > 300 then (some t120) else (some 0)) = some r := H;have A2 := Zd.mk uZ;clear uZ;by_cases c3 : t120 > 300
 ·rw [if_pos c3] at H;have gN : decide (300 < t120) = true := decide_eq_true c3;clear c3;obtain rfl := Option.some.inj H;go_enter Tryz.func14, Tryz.ntmps14;go_wp2_with (first | ((with_reducible refine gH (N := 1) rfl ?_); refine gG ?hg (N := 1) ?hd (cs := #[.int .i64 av, .int .i64 ay, .slice aM af.length aC]) (t := 29) ?hr ?_; (case hd => rfl); (case hg => rfl); (case hr => first | (go_simp; done) | (go_simp; rfl)); intro wV hg w4 bG hb; have aJ := Zd.mk (df B_ hb); have aK := Zd.mk (bG); have aU := Zd.mk ((by rw [hg]; exact (bP B_) : w.heap.size ≤ wV)); have aZ := Zd.mk ((by rw [hg]; exact (bP B_) : w.heap.size ≤ wV)); clear HB; have HB := aJ; have rU := aK; have ar5 := aU; have ar6 := aZ; clear aJ aK aU aZ; clear hb bG hg; have C9 : w4.cell? ⟨wV, 0, none⟩ = some (.int .i64 av) := (aj rU.out 0).trans rfl; have Da : w4.cell? ⟨wV, 1, none⟩ = some (.int .i64 ay) := (aj rU.out 1).trans rfl; have Fa : w4.cell? ⟨wV, 2, none⟩ = some (.slice aM af.length aC) := (aj rU.out 2).trans rfl; have Db := aN rU.out 0; have Dc := aN rU.out 1; have Fb := aN rU.out 2) | ((with_reducible refine kX (f := 30) rfl ?_); refine kW (some 5) rfl rfl Tryz.func30 aa rfl #[.agg #[.int .i64 av, .int .i64 ay, .slice aM af.length aC], .int .i64 0, .int .i64 500] rfl (by (try simp only [List.map_toArray, List.map_cons, List.map_nil]); first | done | rfl | (simp only [List.length_drop, List.length_take]; rfl)) ?_; (with_reducible refine (kS.calls k av ay _ _ af 0 500 t120 _ ?side1 ?side2 A2.out).mono ?_); (case side1 => exact Kd.aQ fI.out B_); (case side2 => exact jw.out); rintro e w6 ⟨rfl, hb⟩; refine ⟨_, rfl, ?_⟩; have aJ := Zd.mk (eU (g := wV) (o := .cells #[.int .i64 av, .int .i64 ay, .slice aM af.length aC] 29 (0, 0)) K_ hb); have aK := Zd.mk (df B_ hb); clear rU; clear HB; have rU := aJ; have HB := aK; clear aJ aK; (try clear hb); (try clear hb2); (try clear hk); (try clear hi)));go_ret;exact ⟨by first | rfl | (simp [bS, bT] <;> rfl) | (simp [*, bS, bT] <;> rfl), B_⟩
 ·rw [if_neg c3] at H;have gN : decide (300 < t120) = false := decide_eq_false c3;clear c3;obtain rfl := Option.some.inj H;go_enter Tryz.func14, Tryz.ntmps14;go_wp2_with (first | ((with_reducible refine gH (N := 1) rfl ?_); refine gG ?hg (N := 1) ?hd (cs := #[.int .i64 av, .int .i64 ay, .slice aM af.length aC]) (t := 29) ?hr ?_; (case hd => rfl); (case hg => rfl); (case hr => first | (go_simp; done) | (go_simp; rfl)); intro wV hg w7 bG hb; have aJ := Zd.mk (df B_ hb); have aK := Zd.mk (bG); have aU := Zd.mk ((by rw [hg]; exact (bP B_) : w.heap.size ≤ wV)); have aZ := Zd.mk ((by rw [hg]; exact (bP B_) : w.heap.size ≤ wV)); clear HB; have HB := aJ; have rU := aK; have ar5 := aU; have ar6 := aZ; clear aJ aK aU aZ; clear hb bG hg; have Vz : w7.cell? ⟨wV, 0, none⟩ = some (.int .i64 av) := (aj rU.out 0).trans rfl; have VA : w7.cell? ⟨wV, 1, none⟩ = some (.int .i64 ay) := (aj rU.out 1).trans rfl; have VB : w7.cell? ⟨wV, 2, none⟩ = some (.slice aM af.length aC) := (aj rU.out 2).trans rfl; have VC := aN rU.out 0; have VD := aN rU.out 1; have VE := aN rU.out 2) | ((with_reducible refine kX (f := 30) rfl ?_); refine kW (some 5) rfl rfl Tryz.func30 aa rfl #[.agg #[.int .i64 av, .int .i64 ay, .slice aM af.length aC], .int .i64 0, .int .i64 500] rfl (by (try simp only [List.map_toArray, List.map_cons, List.map_nil]); first | done | rfl | (simp only [List.length_drop, List.length_take]; rfl)) ?_; (with_reducible refine (kS.calls k av ay _ _ af 0 500 t120 _ ?side1 ?side2 A2.out).mono ?_); (case side1 => exact Kd.aQ fI.out B_); (case side2 => exact jw.out); rintro e w9 ⟨rfl, hb⟩; refine ⟨_, rfl, ?_⟩; have aJ := Zd.mk (eU (g := wV) (o := .cells #[.int .i64 av, .int .i64 ay, .slice aM af.length aC] 29 (0, 0)) K_ hb); have aK := Zd.mk (df B_ hb); clear rU; clear HB; have rU := aJ; have HB := aK; clear aJ aK; (try clear hb); (try clear hb2); (try clear hk); (try clear hi)));go_ret;exact ⟨by first | rfl | (simp [bS, bT] <;> rfl) | (simp [*, bS, bT] <;> rfl), B_⟩

attribute [local go_sem] nE nG nH nI nW nX nY nZ

def zF.f (a0 : Int) : Option (Bool) := if a0 = 6 then (some true) else (if a0 = 7 then (some true) else (some (a0 == 8)))
theorem zF.calls (a0 : Int) (r : Bool) (w : World) (h : zF.f a0 = some r) :
  Calls Tryz.prog 50 #[.int .i64 a0] w fun e w' => e = .returned (.bool r) ∧ bC w w' := by
 have H : (if a0 = 6 then (some true) else (if a0 = 7 then (some true) else (some (a0 == 8)))) = some r := h;clear h;by_cases c2 : a0 = 6
 ·rw [if_pos c2] at H;have yC : (a0 == 6) = true := beq_iff_eq.mpr c2;have Bj : (a0 != 6) = false := bne_eq_false_iff_eq.mpr c2;clear c2;obtain rfl := Option.some.inj H;go_enter Tryz.func50, Tryz.ntmps50;go_wp2;go_ret;exact ⟨by first | rfl | (simp; done) | (simp [*]; done), by repeat (first | exact bC.refl _ | apply bC.step)⟩
 ·rw [if_neg c2] at H;have yC : (a0 == 6) = false := beq_eq_false_iff_ne.mpr c2;have Bj : (a0 != 6) = true := bne_iff_ne.mpr c2;by_cases c3 : a0 = 7
  ·rw [if_pos c3] at H;have gN : (a0 == 7) = true := beq_iff_eq.mpr c3;have tH : (a0 != 7) = false := bne_eq_false_iff_eq.mpr c3;clear c3;obtain rfl := Option.some.inj H;go_enter Tryz.func50, Tryz.ntmps50;go_wp2;go_ret;exact ⟨by first | rfl | (simp; done) | (simp [*]; done), by repeat (first | exact bC.refl _ | apply bC.step)⟩
  ·rw [if_neg c3] at H;have gN : (a0 == 7) = false := beq_eq_false_iff_ne.mpr c3;have tH : (a0 != 7) = true := bne_iff_ne.mpr c3;obtain rfl := Option.some.inj H;go_enter Tryz.func50, Tryz.ntmps50;go_wp2;go_ret;exact ⟨by first | rfl | (simp; done) | (simp [*]; done), by repeat (first | exact bC.refl _ | apply bC.step)⟩

end Go.Proofs.YtapejnikpmfddaaGreat.P
namespace Go.Proofs.YtapejnikpmfddaaGreat.X
open Go.RowKit Go.Proofs.aI.bM Go.Proofs.aI.dG Go.Proofs.aI.dM
open Go.Proofs.YtapejnikpmfddaaGreat.P Go.Proofs.YtapejnikpmfddaaGreat.gY
theorem Rb (op : Int) : zF.f op = some (dB op) := by
 unfold zF.f dB
 repeat' split
 all_goals (congr 1; rw [Bool.eq_iff_iff]; simp; omega)
def Je (w : World) (g : Nat) (x y : Bool) : Prop := w.heap[g]? = some (.cells #[.bool x, .bool y] 115 (0, 0))
theorem Yu {w : World} {g : Nat} {x y : Bool} (h : Je w g x y) : w.cell? ⟨g, 0, none⟩ = some (.bool x) := (aj h 0).trans rfl
theorem Yv {w : World} {g : Nat} {x y : Bool} (h : Je w g x y) : w.cell? ⟨g, 1, none⟩ = some (.bool y) := (aj h 1).trans rfl
def Rc (s : ak) : Prop := ∀ (sv lt : Int) (k : Nat) (A : Option Addr) (cp : Nat) (w : World), Kd.C bK w A s.f2.length s.f2 → s.f2.length ≤ cp → cO s = true → k + az s ≤ 60 →
  Calls Tryz.prog 49 #[.agg #[.int .i64 s.f0, .int .i64 s.f1, .slice A s.f2.length cp], .int .i64 sv, .int .u32 lt, .int .i64 k] w fun e w' => e = .returned (.tuple #[.bool (dZ sv lt s k), .int .i64 ((k + az s : Nat) : Int)]) ∧ Below w.heap.size w w'
theorem ar7 (s : ak) (ih : ∀ k ∈ s.f2, Rc k) : Rc s := by
 intro sv lt k A cp w hk hc hs hbd;have jm := Tryz.underlying29;have uO := Tryz.underlying27;have hua := Tryz.underlying115;obtain ⟨W1, hW1⟩ : ∃ W1, W1 = w.alloc (.cells #[.int .i64 s.f0, .int .i64 s.f1, .slice A s.f2.length cp] 29) := ⟨_, rfl⟩;have hB1 : Below w.heap.size w W1 := by rw [hW1]; exact aW (Below.refl _ _) _
 have hbx : W1.heap[w.heap.size]? = some (.cells #[.int .i64 s.f0, .int .i64 s.f1, .slice A s.f2.length cp] 29 (0, 0)) := by rw [hW1]; exact heap_alloc_new w _
 have hz1 : W1.heap.size = w.heap.size + 1 := by rw [hW1]; simp
 have jo := Zd.mk hbx;have HB1 := Zd.mk hB1;have HK := Zd.mk hk;have HS := Zd.mk hs;have wy := Zd.mk ih;have jJ := Zd.mk hbd;have HZ1 := Zd.mk hz1;have lg := C8 hs;have hk2 := (Kj s.f0).2;have hl2 : s.f2.length ≤ 2 := by omega
 have E5 := Zd.mk (Pn lg.1);have lT := Zd.mk lg.2.2;have x0 : W1.cell? ⟨w.heap.size, 0, none⟩ = some (.int .i64 s.f0) := (aj hbx 0).trans rfl;have rF := Zd.mk (ER s);have U7 := Zd.mk (Ig sv lt s k);have hkb : k ≤ 60 := by omega
 have Jf := Zd.mk (Rb s.f0);generalize dZ sv lt s k = R at *;obtain ⟨N, hN⟩ : ∃ N, N = k + az s := ⟨_, rfl⟩;have HN := Zd.mk hN;rw [← hN];clear hk hs ih hbd lg hk2 hbx hB1 hz1 hN;go_enter Tryz.func49, Tryz.ntmps49;go_upto_region 1 with fail
 rw [← hW1];clear hW1;go_cut [10] (fun v10 wx => v10 = .bool (jG sv k) ∧ wx = W1)
 case first =>
  go_wp2;go_meet;exact ⟨rfl, rfl⟩
 case rest =>
  obtain ⟨rfl, hwc⟩ := hcut;rw [hwc];clear hwc wc;generalize jG sv k = bk at *;obtain ⟨K, hK⟩ : ∃ K, K = k + tS s.f0 := ⟨_, rfl⟩;have qR := Zd.mk hK;have Yw : K ≤ 61 := by have := jJ.out; have := rF.out; omega
  clear hK
  go_upto_if 22 with (go_at_call 50; refine (zF.calls _ (dB s.f0) _ Jf.out).mono ?_; rintro e w1 ⟨rfl, hd0⟩; obtain ⟨m, rfl⟩ := hd0.out)
  go_cut [3] (fun v3 wx => v3 = .int .i64 ((K : Nat) : Int) ∧ wx = W1.drewN m)
  case first =>
   cases jK : dB s.f0 with
   | false =>
    have HQ := Zd.mk (show K = k from by rw [qR.out]; unfold tS; rw [if_neg (by rw [jK]; simp)]; rfl);go_wp2;go_meet;exact ⟨by rw [HQ.out], rfl⟩
   | true =>
    have HQ := Zd.mk (show K = k + 1 from by rw [qR.out]; unfold tS; rw [if_pos jK]);go_wp2;go_meet;exact ⟨by rw [HQ.out]; rfl, rfl⟩
  case rest =>
   obtain ⟨rfl, hwc⟩ := hcut;rw [hwc];clear hwc wc;go_upto_region 5 with fail
   obtain ⟨xg, hxg⟩ : ∃ xg, xg = W1.heap.size := ⟨_, rfl⟩;obtain ⟨W2, hW2⟩ : ∃ W2, W2 = (W1.drewN m).alloc (.cells #[.bool false, .bool false] 115) := ⟨_, rfl⟩;have hB2 : Below W1.heap.size W1 W2 := by rw [hW2]; exact aW (fB (Below.refl _ _) m) _
   have hX2 : Je W2 xg false false := by rw [hW2, hxg]; exact heap_alloc_new (W1.drewN m) _
   have hz2 : W2.heap.size = xg + 1 := by rw [hW2, hxg]; simp
   have hxw : w.heap.size + 1 = xg := by rw [hxg, HZ1.out]
   rw [← hW2, ← hxg];have Au := Zd.mk hX2;have HB2 := Zd.mk (HB1.out.trans (hB2.mono HB1.out.size));have kI := Zd.mk ((hB2.block _ (aT jo.out)).trans jo.out);have z2 : W2.cell? ⟨w.heap.size, 2, none⟩ = some (.slice A s.f2.length cp) := (aj kI.out 2).trans rfl;have Re := Zd.mk hxw;have HZ2 := Zd.mk hz2;have hlen := Kd.pG HK.out;clear hW2 hB2 hX2 hz2 hxw hxg x0;go_wp2;go_loopg [28, 3] s.f2.length (fun kq v28 v3 w' => ∃ (j q : Nat) (pre : List Bool), j + kq = s.f2.length ∧ v28 = .int .i64 j ∧ v3 = .int .i64 ((q : Nat) : Int) ∧ q ≤ 61 ∧ Zd (pre.length = j) ∧ Zd (pre ++ dO sv lt (s.f2.drop j) q = dO sv lt s.f2 K) ∧ Zd (q + dI (s.f2.drop j) = K + dI s.f2) ∧ Zd (Je w' xg (pre.getD 0 false) (pre.getD 1 false)) ∧ Zd (Below w.heap.size w w') ∧ Zd (w'.heap[w.heap.size]? = some (.cells #[.int .i64 s.f0, .int .i64 s.f1, .slice A s.f2.length cp] 29 (0, 0))))
   case atStart => exact ⟨0, K, [], by omega, rfl, rfl, Yw, ⟨rfl⟩, ⟨rfl⟩, ⟨rfl⟩, Au, HB2, kI⟩
   case round =>
    obtain ⟨j, q, pre, hj, rfl, rfl, ar8, tO, Df, xL, Jg, tq, Jh⟩ := hrel;have HJ := Zd.mk hj;clear hj;by_cases hlt : j < s.f2.length
    ·obtain ⟨ad, A3, U9, e0, hx0, hx1, hx2, hl3, hk3⟩ := yG HK.out tq.out j hlt hlt;cases e0;have Dg := Zd.mk (Kd.aQ hk3 tq.out);have KI := Zd.mk hl3;clear hk3 hl3;have hd := List.drop_eq_getElem_cons hlt;have HD := Zd.mk hd;clear hd;have ME : q + az (s.f2[j]'hlt) ≤ 60 := by
      have h1 := xL.out;rw [HD.out] at h1;simp only [dI] at h1;have h2 := jJ.out;have h3 := rF.out;have h4 := qR.out;omega
     have HKK := Zd.mk (fun W (h : Below wr.heap.size wr W) => wy.out (s.f2[j]'hlt) (List.getElem_mem hlt) sv lt q A3 U9 W (Kd.aQ Dg.out h) KI.out (Pm HS.out j hlt) ME);have Dh := Zd.mk (show (pre ++ [dZ sv lt (s.f2[j]'hlt) q]) ++ dO sv lt (s.f2.drop (j + 1)) (q + az (s.f2[j]'hlt)) = dO sv lt s.f2 K from by rw [← Df.out, HD.out, dO, List.append_assoc]; rfl);have Rf := Zd.mk (show q + az (s.f2[j]'hlt) + dI (s.f2.drop (j + 1)) = K + dI s.f2 from by rw [← xL.out, HD.out, dI]; omega);generalize dZ sv lt (s.f2[j]'hlt) q = vv at *;generalize q + az (s.f2[j]'hlt) = q2 at *;have agF := aT Jg.out;have awN := Yu Jg.out;have awO := Yv Jg.out;by_cases hj0 : j = 0
     ·have hp0 : pre = [] := List.length_eq_zero_iff.1 (tO.out.trans hj0);subst hp0;have KL := Zd.mk hj0;have hj2 : j < 2 := by omega
      clear hj0;go_wp2_with (go_at_call 49; refine (HKK.out _ (aW (Below.refl _ _) _)).mono ?_; rintro e w2 ⟨rfl, hB⟩; have HB3 := Zd.mk ((aW (Below.refl _ _) _ : Below wr.heap.size wr _).trans (hB.mono (by simp))); have Gl := Zd.mk (show Je w2 xg false false from (HB3.out.block _ agF).trans Jg.out); have c0 : w2.cell? ⟨xg, j, none⟩ = some (.bool false) := (by rw [KL.out]; exact Yu Gl.out); have f0 := aN Gl.out j; clear hB);go_roundg (gk - 1)
      case measure => have := HJ.out; omega
      case rel => exact ⟨j + 1, q2, [vv], by have := HJ.out; omega, by go_num, rfl, by omega, ⟨by rw [KL.out]; rfl⟩, Dh, Rf, ⟨(jc Gl.out j _).trans (by rw [KL.out]; rfl)⟩, ⟨(tq.out.trans (HB3.out.mono tq.out.size)).setCell (by have := Re.out; show w.heap.size ≤ xg; omega) _⟩, ⟨dK (p := ⟨xg, j, none⟩) ((HB3.out.block _ (aT Jh.out)).trans Jh.out) (by have := Re.out; show w.heap.size ≠ xg; omega) _⟩⟩
     ·have hj1 : j = 1 := by omega
      obtain ⟨pa, rfl⟩ : ∃ pa, pre = [pa] := List.length_eq_one_iff.1 (tO.out.trans hj1);have yH := Zd.mk hj1;have hj2 : j < 2 := by omega
      clear hj0 hj1;go_wp2_with (go_at_call 49; refine (HKK.out _ (aW (Below.refl _ _) _)).mono ?_; rintro e w2 ⟨rfl, hB⟩; have HB3 := Zd.mk ((aW (Below.refl _ _) _ : Below wr.heap.size wr _).trans (hB.mono (by simp))); have Gl := Zd.mk (show Je w2 xg pa false from (HB3.out.block _ agF).trans Jg.out); have c0 : w2.cell? ⟨xg, j, none⟩ = some (.bool false) := (by rw [yH.out]; exact Yv Gl.out); have f0 := aN Gl.out j; clear hB);go_roundg (gk - 1)
      case measure => have := HJ.out; omega
      case rel => exact ⟨j + 1, q2, [pa, vv], by have := HJ.out; omega, by go_num, rfl, by omega, ⟨by rw [yH.out]; rfl⟩, Dh, Rf, ⟨(jc Gl.out j _).trans (by rw [yH.out]; rfl)⟩, ⟨(tq.out.trans (HB3.out.mono tq.out.size)).setCell (by have := Re.out; show w.heap.size ≤ xg; omega) _⟩, ⟨dK (p := ⟨xg, j, none⟩) ((HB3.out.block _ (aT Jh.out)).trans Jh.out) (by have := Re.out; show w.heap.size ≠ xg; omega) _⟩⟩
    ·have hdr : s.f2.drop j = [] := List.drop_eq_nil_of_le ag;have hpv : pre = dO sv lt s.f2 K := by have := Df.out; rw [hdr, dO, List.append_nil] at this; exact this
     have hqq : q = N := by have := xL.out; rw [hdr] at this; simp only [dI] at this; have h2 := HN.out; have h3 := qR.out; have h4 := rF.out; omega
     have Bw := U7.out;rw [← qR.out, ← hpv] at Bw;obtain ⟨xa, hxa⟩ : ∃ xa, xa = pre.getD 0 false := ⟨_, rfl⟩;obtain ⟨xb, hxb⟩ : ∃ xb, xb = pre.getD 1 false := ⟨_, rfl⟩;rw [← hxa, ← hxb] at Bw;have Rh := Jg.out;rw [← hxa, ← hxb] at Rh;have iE := Zd.mk Bw;have z0 : wr.cell? ⟨w.heap.size, 0, none⟩ = some (.int .i64 s.f0) := (aj Jh.out 0).trans rfl;have z1 : wr.cell? ⟨w.heap.size, 1, none⟩ = some (.int .i64 s.f1) := (aj Jh.out 1).trans rfl;have x0 := Yu Rh;have x1 := Yv Rh;subst hqq;clear hdr hpv Bw hxa hxb Rh;rcases E5.out with hop | hop | hop | hop | hop | hop | hop | hop
     ·-- op 1
      have hmm := lT.out;rw [hop] at z0 hmm;have hval : R = (true) := by
       rw [iE.out, hop]; unfold mG;rw [if_neg ai, if_neg ai, if_neg ai, if_neg ai, if_neg ai, if_neg ai, if_neg ai]
      have HV := Zd.mk hval;clear hval;clear hmm;go_wp2;go_ret2;exact ⟨by rw [HV.out]; rfl, tq.out⟩
     ·-- op 2
      have hmm := lT.out;rw [hop] at z0 hmm;have hval : R = (uL lt s.f1) := by
       rw [iE.out, hop]; unfold mG;rw [if_pos rfl]
      have HV := Zd.mk hval;clear hval;have hm2 : lQ 2 = 19 := by decide
      have hw : IntKind.u64.wrap s.f1 = s.f1 := Hz hmm.1 ag;have oU := Zd.mk (show uL lt s.f1 = ((Go.bits .and .u32 (lt / 2 ^ s.f1.toNat) 1) == 1) from by unfold uL; rw [hw, ← Oe (k := .u32) (x := lt) (y := s.f1) rfl (by show s.f1 ≤ 32; omega)]);have hm0 := hmm.1;have hm1 : s.f1 < 32 := by omega
      clear hw hm2 hmm;go_wp2;go_ret2;exact ⟨by rw [HV.out, oU.out]; rfl, tq.out⟩
     ·-- op 3
      have hmm := lT.out;rw [hop] at z0 hmm;have hval : R = (!xa) := by
       rw [iE.out, hop]; unfold mG;rw [if_neg ai, if_pos rfl]
      have HV := Zd.mk hval;clear hval;clear hmm;go_wp2;go_ret2;exact ⟨by rw [HV.out]; rfl, tq.out⟩
     ·-- op 4
      have hmm := lT.out;rw [hop] at z0 hmm;have hval : R = (xa && xb) := by
       rw [iE.out, hop]; unfold mG;rw [if_neg ai, if_neg ai, if_pos rfl]
      have HV := Zd.mk hval;clear hval;clear hmm;cases xa
      all_goals
       go_wp2;go_ret2;exact ⟨by rw [HV.out]; rfl, tq.out⟩
     ·-- op 5
      have hmm := lT.out;rw [hop] at z0 hmm;have hval : R = (xa || xb) := by
       rw [iE.out, hop]; unfold mG;rw [if_neg ai, if_neg ai, if_neg ai, if_pos rfl]
      have HV := Zd.mk hval;clear hval;clear hmm;cases xa
      all_goals
       go_wp2;go_ret2;exact ⟨by rw [HV.out]; rfl, tq.out⟩
     ·-- op 6
      have hmm := lT.out;rw [hop] at z0 hmm;have hval : R = (bk) := by
       rw [iE.out, hop]; unfold mG;rw [if_neg ai, if_neg ai, if_neg ai, if_neg ai, if_pos rfl]
      have HV := Zd.mk hval;clear hval;clear hmm;go_wp2;go_ret2;exact ⟨by rw [HV.out]; rfl, tq.out⟩
     ·-- op 7
      have hmm := lT.out;rw [hop] at z0 hmm;have hval : R = (xb || xa && bk) := by
       rw [iE.out, hop]; unfold mG;rw [if_neg ai, if_neg ai, if_neg ai, if_neg ai, if_neg ai, if_pos rfl]
      have HV := Zd.mk hval;clear hval;clear hmm;cases xb <;> cases xa
      all_goals
       go_wp2;go_ret2;exact ⟨by rw [HV.out]; rfl, tq.out⟩
     ·-- op 8
      have hmm := lT.out;rw [hop] at z0 hmm;have hval : R = (xb && (xa || bk)) := by
       rw [iE.out, hop]; unfold mG;rw [if_neg ai, if_neg ai, if_neg ai, if_neg ai, if_neg ai, if_neg ai, if_pos rfl]
      have HV := Zd.mk hval;clear hval;clear hmm;cases xb <;> cases xa
      all_goals
       go_wp2;go_ret2;exact ⟨by rw [HV.out]; rfl, tq.out⟩
mutual
theorem Ri : ∀ s : ak, Rc s
 | ⟨op, m, kids⟩ => ar7 ⟨op, m, kids⟩ (agG kids)
theorem agG : ∀ (l : List ak) (k : ak), k ∈ l → Rc k
 | [], k, hk => by simp at hk
 | a :: r, k, hk => by
  rcases List.mem_cons.1 hk with h | h
  ·rw [h];exact Ri a
  ·exact agG r k h
end
def Cq.f (av : Int) (ay : Int) (af : List ak) (a1 : Int) (a2 : Int) (a3 : Int) : Option (Bool × Int) := if cO ⟨av, ay, af⟩ = true ∧ 0 ≤ a3 ∧ a3.toNat + az (⟨av, ay, af⟩ : ak) ≤ 60 then some (dZ a1 a2 ⟨av, ay, af⟩ a3.toNat, ((a3.toNat + az (⟨av, ay, af⟩ : ak) : Nat) : Int)) else none
theorem Cq.calls (av : Int) (ay : Int) (aM : Option Addr) (aC : Nat) (af : List ak) (a1 : Int) (a2 : Int) (a3 : Int) (r1 : Bool) (r2 : Int) (w : World) (dn : Kd.C bK w aM af.length af) (dw : af.length ≤ aC) (h : Cq.f av ay af a1 a2 a3 = some (r1, r2)) :
  Calls Tryz.prog 49 #[.agg #[.int .i64 av, .int .i64 ay, .slice aM af.length aC], .int .i64 a1, .int .u32 a2, .int .i64 a3] w fun e w' => e = .returned (.tuple #[.bool r1, .int .i64 r2]) ∧ Below w.heap.size w w' := by
 unfold Cq.f at h;split at h
 ·rename_i hc
  obtain ⟨rfl, rfl⟩ := Prod.mk.inj (Option.some.inj h);have := Ri ⟨av, ay, af⟩ a1 a2 a3.toNat aM aC w dn dw hc.1 hc.2.2
  rwa [Int.toNat_of_nonneg hc.2.1] at this
 ·cases h
end Go.Proofs.YtapejnikpmfddaaGreat.X
namespace Go.Proofs.YtapejnikpmfddaaGreat.P
open Go.RowKit Go.Proofs.aI.bM Go.Proofs.aI.dG Go.Proofs.aI.dM
attribute [local go_sem] nE nG nH nI nW nX nY nZ

mutual
def gT.j0 : Nat → Int → Int → Bool → Int → Int → List (ak) → Option (Int × Int)
 | 0, _, _, _, _, _, _ => none
 | k + 1, x1, x2, sS, Rj, Yx, MF => if sS = true then (some (61, 0)) else ((zF.f Rj).bind fun t102 => (if t102 = true then (gT.j1 k x1 x2 1 1 Rj Yx MF) else (gT.j1 k x1 x2 1 0 Rj Yx MF)))
def gT.j1 : Nat → Int → Int → Int → Int → Int → Int → List (ak) → Option (Int × Int)
 | 0, _, _, _, _, _, _, _ => none
 | k + 1, x1, x2, x8, x9, Rj, Yx, MF => gT.l0 k x1 x2 x8 x9 MF (MF.length : Int) 0
def gT.l0 : Nat → Int → Int → Int → Int → List (ak) → Int → Int → Option (Int × Int)
 | 0, _, _, _, _, _, _, _ => none
 | k + 1, x1, x2, x8, x9, x24, x25, xB => if xB < x25 then (if 0 ≤ xB then (if xB < (x24.length : Int) then ((gT.f k ((aY x24 xB).f0) ((aY x24 xB).f1) ((aY x24 xB).f2) (wrap64 (x1 + 1)) (wrap64 (x2 - x8))).bind fun MG => (if (wrap64 (x8 + MG.1)) > 60 then (some (wrap64 (x8 + MG.1), wrap64 (x9 + MG.2))) else (gT.l0 k x1 x2 (wrap64 (x8 + MG.1)) (wrap64 (x9 + MG.2)) x24 x25 (wrap64 (xB + 1))))) else (none)) else (none)) else (some (x8, x9))
def gT.f : Nat → Int → Int → List (ak) → Int → Int → Option (Int × Int)
 | 0, _, _, _, _, _ => none
 | k + 1, av, ay, af, a1, a2 => if a1 > 12 then (gT.j0 k a1 a2 true av ay af) else (gT.j0 k a1 a2 (decide (a2 < 1)) av ay af)
end
theorem gT.calls (k : Nat) : ∀ (av : Int) (ay : Int) (aM : Option Addr) (aC : Nat) (af : List (ak)) (a1 : Int) (a2 : Int) (r1 : Int) (r2 : Int) (w : World) (dn : Kd.C bK w aM af.length af) (dw : af.length ≤ aC) (h : gT.f k av ay af a1 a2 = some (r1, r2)),
  Calls Tryz.prog 28 #[.agg #[.int .i64 av, .int .i64 ay, .slice aM af.length aC], .int .i64 a1, .int .i64 a2] w fun e w' => e = .returned (.tuple #[.int .i64 r1, .int .i64 r2]) ∧ Below w.heap.size w w' := by
 induction k using Nat.strongRecOn with
 | _ k ih =>
 intro av ay aM aC af a1 a2 r1 r2 w dn dw h;cases k with
 | zero => exact absurd h (by simp [gT.f])
 | succ k =>
 simp only [gT.f] at h;have Ap := Tryz.underlying29;have fI := Zd.mk dn;have jw := Zd.mk dw;clear dn dw;have HB := Zd.mk (Below.refl w.heap.size w);have H : (if a1 > 12 then (gT.j0 k a1 a2 true av ay af) else (gT.j0 k a1 a2 (decide (a2 < 1)) av ay af)) = some (r1, r2) := h;clear h;have vS := Zd.mk H;clear H;go_enter Tryz.func28, Tryz.ntmps28;go_upto_region 1 with (first | ((with_reducible refine gH (N := 3) rfl ?_); refine gG ?hg (N := 3) ?hd (cs := #[.int .i64 av, .int .i64 ay, .slice aM af.length aC]) (t := 29) ?hr ?_; (case hd => rfl); (case hg => rfl); (case hr => first | (go_simp; done) | (go_simp; rfl)); intro ni hg w5 bG hb; have aJ := Zd.mk (df B_ hb); have aK := Zd.mk (bG); have aU := Zd.mk ((by rw [hg]; exact (bP B_) : w.heap.size ≤ ni)); have aZ := Zd.mk ((by rw [hg]; exact (bP B_) : w.heap.size ≤ ni)); clear HB; have HB := aJ; have mq := aK; have awP := aU; have awQ := aZ; clear aJ aK aU aZ; clear hb bG hg))
 (try simp only [Act.put, List.setIfInBounds_toArray, List.set_cons_zero, List.set_cons_succ])
 go_cut [19] (fun v19 wc => ∃ (kq : Nat) (Rk : Bool), v19 = .bool Rk ∧ Zd (gT.j0 kq a1 a2 Rk av ay af = some (r1, r2)) ∧ Zd (kq ≤ k) ∧ Zd (wc.heap[ni]? = some (.cells #[.int .i64 av, .int .i64 ay, (.slice aM af.length aC)] 29 (0, 0))) ∧ Zd (Below w.heap.size w wc))
 case first =>
  have H := vS.out;clear vS;by_cases c6 : a1 > 12
  ·rw [if_pos c6] at H;have gI : decide (12 < a1) = true := decide_eq_true c6;clear c6
   (first | rw [gI] | (simp only [bE, dS]; rw [gI]) | skip)
   have H' := Zd.mk H;clear H;go_wp2;go_meet
   case rel => exact ⟨_, (true), (by first | rfl | (simp; done) | (simp [*]; done)), H', ⟨by first | omega | exact Nat.le_refl _⟩, ⟨K_⟩, ⟨B_⟩⟩
  ·rw [if_neg c6] at H;have gI : decide (12 < a1) = false := decide_eq_false c6;clear c6
   (first | rw [gI] | (simp only [bE, dS]; rw [gI]) | skip)
   have H' := Zd.mk H;clear H;go_wp2;go_meet
   case rel => exact ⟨_, (decide (a2 < 1)), (by first | rfl | (simp; done) | (simp [*]; done)), H', ⟨by first | omega | exact Nat.le_refl _⟩, ⟨K_⟩, ⟨B_⟩⟩
 case rest =>
  clear vS
  try clear c2
  try clear p2
  try clear c6
  try clear gI
  obtain ⟨kq, Rk, rfl, HA, zC, mq, HB⟩ := hcut;cases kq with
  | zero => exact absurd HA.out (by simp [gT.j0])
  | succ zD =>
   have H := HA.out;clear HA;simp only [gT.j0] at H;by_cases c7 : Rk = true
   ·subst c7;have H1 : (some (61, 0)) = some (r1, r2) := by rw [if_pos rfl] at H; exact H
    clear H;have H := H1;clear H1;simp only [Option.some.injEq, Prod.mk.injEq] at H;obtain ⟨rfl, rfl⟩ := H;go_wp2;go_ret2;exact ⟨by first | rfl | (simp [bS, bT] <;> rfl) | (simp [*, bS, bT] <;> rfl), B_⟩
   ·replace c7 := Bool.eq_false_iff.mpr c7;subst c7;have H1 : ((zF.f av).bind fun t102 => (if t102 = true then (gT.j1 zD a1 a2 1 1 av ay af) else (gT.j1 zD a1 a2 1 0 av ay af))) = some (r1, r2) := by rw [if_neg (show ¬ (false = true) by decide)] at H; exact H
    clear H;have H := H1;clear H1;replace H := Option.bind_eq_some_iff.mp H;obtain ⟨t102, A80, H⟩ := H;replace H : (if t102 = true then (gT.j1 zD a1 a2 1 1 av ay af) else (gT.j1 zD a1 a2 1 0 av ay af)) = some (r1, r2) := H;have A8 := Zd.mk A80;clear A80;have FE := Zd.mk H;clear H;have KQ : wc.cell? ⟨ni, 0, none⟩ = some (.int .i64 av) := (aj mq.out 0).trans rfl;have KR : wc.cell? ⟨ni, 1, none⟩ = some (.int .i64 ay) := (aj mq.out 1).trans rfl;have PK : wc.cell? ⟨ni, 2, none⟩ = some (.slice aM af.length aC) := (aj mq.out 2).trans rfl;have KS := aN mq.out 0;have KT := aN mq.out 1;have PL := aN mq.out 2
    go_upto_if 22 with (first | ((with_reducible refine kX (f := 50) rfl ?_); refine kW (some 22) rfl rfl Tryz.func50 aa rfl #[.int .i64 av] rfl (by (try simp only [List.map_toArray, List.map_cons, List.map_nil]); first | done | rfl | (simp only [List.length_drop, List.length_take]; rfl)) ?_; (with_reducible refine (zF.calls av t102 _ A8.out).mono ?_); rintro e w' ⟨rfl, ⟨nd, rfl⟩⟩; refine ⟨_, rfl, ?_⟩))
    (try simp only [Act.put, List.setIfInBounds_toArray, List.set_cons_zero, List.set_cons_succ])
    go_cut [9] (fun v9 wc => ∃ (kq : Nat) (Rl : Int), v9 = .int .i64 Rl ∧ Zd (gT.j1 kq a1 a2 1 Rl av ay af = some (r1, r2)) ∧ Zd (kq ≤ zD) ∧ Zd (wc.heap[ni]? = some (.cells #[.int .i64 av, .int .i64 ay, (.slice aM af.length aC)] 29 (0, 0))) ∧ Zd (Below w.heap.size w wc))
    case first =>
     have H := FE.out;clear FE;by_cases c11 : t102 = true
     ·subst c11;have H1 : (gT.j1 zD a1 a2 1 1 av ay af) = some (r1, r2) := by rw [if_pos rfl] at H; exact H
      clear H;have H := H1;clear H1;have H' := Zd.mk H;clear H;go_wp2;go_meet
      case rel => exact ⟨_, (1), (by first | rfl | (simp; done) | (simp [*]; done)), H', ⟨by have := zC.out; first | omega | exact Nat.le_refl _⟩, ⟨K_⟩, ⟨B_⟩⟩
     ·replace c11 := Bool.eq_false_iff.mpr c11;subst c11;have H1 : (gT.j1 zD a1 a2 1 0 av ay af) = some (r1, r2) := by rw [if_neg (show ¬ (false = true) by decide)] at H; exact H
      clear H;have H := H1;clear H1;have H' := Zd.mk H;clear H;go_wp2;go_meet
      case rel => exact ⟨_, (0), (by first | rfl | (simp; done) | (simp [*]; done)), H', ⟨by have := zC.out; first | omega | exact Nat.le_refl _⟩, ⟨K_⟩, ⟨B_⟩⟩
    case rest =>
     clear FE
     try clear c1
     try clear c2
     try clear p2
     try clear c5
     try clear c6
     try clear gI
     try clear c7
     try clear c11
     try clear KQ
     try clear KR
     try clear PK
     try clear KS
     try clear KT
     try clear PL
     try clear p2
     obtain ⟨kq, Rl, rfl, HA, Rm, mq, HB⟩ := hcut;cases kq with
     | zero => exact absurd HA.out (by simp [gT.j1])
     | succ kj8 =>
      have H := HA.out;clear HA;simp only [gT.j1] at H;have H' := Zd.mk H;clear H;have ar9 : wc.cell? ⟨ni, 0, none⟩ = some (.int .i64 av) := (aj mq.out 0).trans rfl;have ar_ : wc.cell? ⟨ni, 1, none⟩ = some (.int .i64 ay) := (aj mq.out 1).trans rfl;have asa : wc.cell? ⟨ni, 2, none⟩ = some (.slice aM af.length aC) := (aj mq.out 2).trans rfl;have asb := aN mq.out 0;have asc := aN mq.out 1;have ase := aN mq.out 2;go_wp2;go_loopg [8, 9, 26] kj8 (fun kq v8 v9 v26 w' => ∃ (vT : Int) (Ji : Int) (fV : Int), v8 = .int .i64 vT ∧ v9 = .int .i64 Ji ∧ v26 = .int .i64 fV ∧ Zd (gT.l0 kq a1 a2 vT Ji af (af.length : Int) fV = some (r1, r2)) ∧ Zd (kq ≤ kj8) ∧ Zd (w'.heap[ni]? = some (.cells #[.int .i64 av, .int .i64 ay, (.slice aM af.length aC)] 29 (0, 0))) ∧ Zd (Below w.heap.size w w'))
      case atStart => exact ⟨(1), (Rl), (0), (by first | rfl | (simp; done) | (simp [*]; done)), (by first | rfl | (simp; done) | (simp [*]; done)), (by first | rfl | (simp; done) | (simp [*]; done)), H', ⟨Nat.le_refl _⟩, ⟨K_⟩, ⟨B_⟩⟩
      case round =>
       clear H'
       try clear c1
       try clear c2
       try clear p2
       try clear c5
       try clear c6
       try clear gI
       try clear c7
       try clear c11
       try clear KQ
       try clear KR
       try clear PK
       try clear ar9
       try clear ar_
       try clear asa
       try clear KS
       try clear KT
       try clear PL
       try clear asb
       try clear asc
       try clear ase
       try clear p2
       obtain ⟨vT, Ji, fV, rfl, rfl, rfl, HA, Dg, mq, HB⟩ := hrel;cases gk with
       | zero => exact absurd HA.out (by simp [gT.l0])
       | succ k3 =>
        have H := HA.out;clear HA;simp only [gT.l0] at H;by_cases c13 : fV < (af.length : Int)
        ·rw [if_pos c13] at H;have Hw : decide (fV < (af.length : Int)) = true := decide_eq_true c13;clear c13;by_cases c14 : 0 ≤ fV
         ·rw [if_pos c14] at H;have aet : decide (0 ≤ fV) = true := decide_eq_true c14;clear c14;by_cases c15 : fV < (af.length : Int)
          ·rw [if_pos c15] at H;have ao6 : decide (fV < (af.length : Int)) = true := decide_eq_true c15;clear c15;replace H := Option.bind_eq_some_iff.mp H;obtain ⟨⟨t105, t106⟩, agH, H⟩ := H;replace H : (if (wrap64 (vT + t105)) > 60 then (some (wrap64 (vT + t105), wrap64 (Ji + t106))) else (gT.l0 k3 a1 a2 (wrap64 (vT + t105)) (wrap64 (Ji + t106)) af (af.length : Int) (wrap64 (fV + 1)))) = some (r1, r2) := H;have A16 := Zd.mk agH;clear agH;by_cases c17 : (wrap64 (vT + t105)) > 60
           ·rw [if_pos c17] at H;have asf : decide (60 < (wrap64 (vT + t105))) = true := decide_eq_true c17;clear c17;simp only [Option.some.injEq, Prod.mk.injEq] at H;obtain ⟨rfl, rfl⟩ := H;have Gm : 0 ≤ (fV : Int) := of_decide_eq_true (by first | (with_reducible assumption) | assumption);have Gn : fV < (af.length : Int) := of_decide_eq_true (by first | (with_reducible assumption) | assumption);obtain ⟨Cr, MH, MI, Yy, Gp, Gq, Gr, MJ, MK⟩ := CO fI.out fV Gm Gn;cases Yy;replace Gp := (HB.out.cell (World.block_lt_of_cell? w _ Gp)).trans Gp;replace Gq := (HB.out.cell (World.block_lt_of_cell? w _ Gq)).trans Gq;replace Gr := (HB.out.cell (World.block_lt_of_cell? w _ Gr)).trans Gr;have Yz := Zd.mk MK;have YA := Zd.mk MJ;clear MK MJ;replace Gm := eq_true Gm;replace Gn := eq_true Gn;go_wp2_with (first | ((with_reducible refine gH (N := 11) rfl ?_); refine gG ?hg (N := 11) ?hd (cs := #[.int .i64 0, .int .i64 0, .slice none 0 0]) (t := 29) ?hr ?_; (case hd => rfl); (case hg => rfl); (case hr => first | (go_simp; done) | (go_simp; rfl)); intro rV hg su bG hb; have aJ := Zd.mk (eU (g := ni) (o := .cells #[.int .i64 av, .int .i64 ay, .slice (some Cr) af.length aC] 29 (0, 0)) K_ hb); have aK := Zd.mk (df B_ hb); have aU := Zd.mk (bG); have aZ := Zd.mk ((by rw [hg]; exact (bP B_) : w.heap.size ≤ rV)); have eP := Zd.mk ((by rw [hg]; exact (bP B_) : w.heap.size ≤ rV)); have fQ := Zd.mk ((by rw [hg]; exact Nat.ne_of_lt (aT (g := ni) (o := .cells #[.int .i64 av, .int .i64 ay, .slice (some Cr) af.length aC] 29 (0, 0)) K_) : ni ≠ rV)); have ja := Zd.mk ((by rw [hg]; exact Nat.ne_of_gt (aT (g := ni) (o := .cells #[.int .i64 av, .int .i64 ay, .slice (some Cr) af.length aC] 29 (0, 0)) K_) : rV ≠ ni)); clear mq; clear HB; have mq := aJ; have HB := aK; have qw := aU; have asg := aZ; have ash := eP; have Cs := fQ; have YB := ja; clear aJ aK aU aZ eP fQ ja; clear hb bG hg; have aeb := YB.out; have aec := Cs.out; have aed : su.cell? ⟨rV, 0, none⟩ = some (.int .i64 0) := (aj qw.out 0).trans rfl; have aee : su.cell? ⟨rV, 1, none⟩ = some (.int .i64 0) := (aj qw.out 1).trans rfl; have aef : su.cell? ⟨rV, 2, none⟩ = some (.slice none 0 0) := (aj qw.out 2).trans rfl; have aeg := aN qw.out 0; have aeh := aN qw.out 1; have aei := aN qw.out 2) | ((with_reducible refine kX (f := 28) rfl ?_); refine kW (some 37) rfl rfl Tryz.func28 aa rfl #[.agg #[.int .i64 ((aY af fV).f0), .int .i64 ((aY af fV).f1), .slice MH ((aY af fV).f2).length MI], .int .i64 (wrap64 (a1 + 1)), .int .i64 (wrap64 (a2 - vT))] rfl (by (try simp only [List.map_toArray, List.map_cons, List.map_nil]); first | done | rfl | (simp only [List.length_drop, List.length_take]; rfl)) ?_; (with_reducible refine (ih k3 (by have := zC.out; have := Rm.out; have := Dg.out; omega) ((aY af fV).f0) ((aY af fV).f1) _ _ ((aY af fV).f2) (wrap64 (a1 + 1)) (wrap64 (a2 - vT)) t105 t106 _ ?side1 ?side2 A16.out).mono ?_); (case side1 => exact Kd.aQ Yz.out B_); (case side2 => exact YA.out); rintro e Vn ⟨rfl, hb⟩; refine ⟨_, rfl, ?_⟩; have aJ := Zd.mk (eU (g := ni) (o := .cells #[.int .i64 av, .int .i64 ay, .slice (some Cr) af.length aC] 29 (0, 0)) (by (with_reducible repeat (first | refine bd_ ?_ _ | refine bO ?_ | refine bf ?_ _)); refine dK ?_ Cs.out _; (with_reducible repeat (first | refine bd_ ?_ _ | refine bO ?_ | refine bf ?_ _)); refine dK ?_ Cs.out _; (with_reducible repeat (first | refine bd_ ?_ _ | refine bO ?_ | refine bf ?_ _)); refine dK ?_ Cs.out _; (with_reducible repeat (first | refine bd_ ?_ _ | refine bO ?_ | refine bf ?_ _)); exact mq.out) hb); have aK := Zd.mk (eU (g := rV) (o := .cells #[.int .i64 ((aY af fV).f0), .int .i64 ((aY af fV).f1), .slice MH ((aY af fV).f2).length MI] 29 (0, 0)) (by (with_reducible repeat (first | refine bd_ ?_ _ | refine bO ?_ | refine bf ?_ _)); refine jS (cs := #[.int .i64 ((aY af fV).f0), .int .i64 ((aY af fV).f1), .slice none 0 0]) ?_ 2 _ rfl; (with_reducible repeat (first | refine bd_ ?_ _ | refine bO ?_ | refine bf ?_ _)); refine jS (cs := #[.int .i64 ((aY af fV).f0), .int .i64 0, .slice none 0 0]) ?_ 1 _ rfl; (with_reducible repeat (first | refine bd_ ?_ _ | refine bO ?_ | refine bf ?_ _)); refine jS (cs := #[.int .i64 0, .int .i64 0, .slice none 0 0]) ?_ 0 _ rfl; (with_reducible repeat (first | refine bd_ ?_ _ | refine bO ?_ | refine bf ?_ _)); exact qw.out) hb); have aU := Zd.mk (df B_ hb); clear mq; clear qw; clear HB; have mq := aJ; have qw := aK; have HB := aU; clear aJ aK aU; (try clear hb); (try clear hb2); (try clear hk); (try clear hi)));go_ret2;exact ⟨by first | rfl | (simp [bS, bT] <;> rfl) | (simp [*, bS, bT] <;> rfl), B_⟩
           ·rw [if_neg c17] at H;have asf : decide (60 < (wrap64 (vT + t105))) = false := decide_eq_false c17;clear c17;have H' := Zd.mk H;clear H;have Gm : 0 ≤ (fV : Int) := of_decide_eq_true (by first | (with_reducible assumption) | assumption);have Gn : fV < (af.length : Int) := of_decide_eq_true (by first | (with_reducible assumption) | assumption);obtain ⟨Cr, MH, MI, Yy, Gp, Gq, Gr, MJ, MK⟩ := CO fI.out fV Gm Gn;cases Yy;replace Gp := (HB.out.cell (World.block_lt_of_cell? w _ Gp)).trans Gp;replace Gq := (HB.out.cell (World.block_lt_of_cell? w _ Gq)).trans Gq;replace Gr := (HB.out.cell (World.block_lt_of_cell? w _ Gr)).trans Gr;have Yz := Zd.mk MK;have YA := Zd.mk MJ;clear MK MJ;replace Gm := eq_true Gm;replace Gn := eq_true Gn;go_wp2_with (first | ((with_reducible refine gH (N := 11) rfl ?_); refine gG ?hg (N := 11) ?hd (cs := #[.int .i64 0, .int .i64 0, .slice none 0 0]) (t := 29) ?hr ?_; (case hd => rfl); (case hg => rfl); (case hr => first | (go_simp; done) | (go_simp; rfl)); intro rV hg KV bG hb; have aJ := Zd.mk (eU (g := ni) (o := .cells #[.int .i64 av, .int .i64 ay, .slice (some Cr) af.length aC] 29 (0, 0)) K_ hb); have aK := Zd.mk (df B_ hb); have aU := Zd.mk (bG); have aZ := Zd.mk ((by rw [hg]; exact (bP B_) : w.heap.size ≤ rV)); have eP := Zd.mk ((by rw [hg]; exact (bP B_) : w.heap.size ≤ rV)); have fQ := Zd.mk ((by rw [hg]; exact Nat.ne_of_lt (aT (g := ni) (o := .cells #[.int .i64 av, .int .i64 ay, .slice (some Cr) af.length aC] 29 (0, 0)) K_) : ni ≠ rV)); have ja := Zd.mk ((by rw [hg]; exact Nat.ne_of_gt (aT (g := ni) (o := .cells #[.int .i64 av, .int .i64 ay, .slice (some Cr) af.length aC] 29 (0, 0)) K_) : rV ≠ ni)); clear mq; clear HB; have mq := aJ; have HB := aK; have qw := aU; have asg := aZ; have ash := eP; have Cs := fQ; have YB := ja; clear aJ aK aU aZ eP fQ ja; clear hb bG hg; have awR := YB.out; have awS := Cs.out; have awT : KV.cell? ⟨rV, 0, none⟩ = some (.int .i64 0) := (aj qw.out 0).trans rfl; have awU : KV.cell? ⟨rV, 1, none⟩ = some (.int .i64 0) := (aj qw.out 1).trans rfl; have awV : KV.cell? ⟨rV, 2, none⟩ = some (.slice none 0 0) := (aj qw.out 2).trans rfl; have awW := aN qw.out 0; have awX := aN qw.out 1; have awY := aN qw.out 2) | ((with_reducible refine kX (f := 28) rfl ?_); refine kW (some 37) rfl rfl Tryz.func28 aa rfl #[.agg #[.int .i64 ((aY af fV).f0), .int .i64 ((aY af fV).f1), .slice MH ((aY af fV).f2).length MI], .int .i64 (wrap64 (a1 + 1)), .int .i64 (wrap64 (a2 - vT))] rfl (by (try simp only [List.map_toArray, List.map_cons, List.map_nil]); first | done | rfl | (simp only [List.length_drop, List.length_take]; rfl)) ?_; (with_reducible refine (ih k3 (by have := zC.out; have := Rm.out; have := Dg.out; omega) ((aY af fV).f0) ((aY af fV).f1) _ _ ((aY af fV).f2) (wrap64 (a1 + 1)) (wrap64 (a2 - vT)) t105 t106 _ ?side1 ?side2 A16.out).mono ?_); (case side1 => exact Kd.aQ Yz.out B_); (case side2 => exact YA.out); rintro e w25 ⟨rfl, hb⟩; refine ⟨_, rfl, ?_⟩; have aJ := Zd.mk (eU (g := ni) (o := .cells #[.int .i64 av, .int .i64 ay, .slice (some Cr) af.length aC] 29 (0, 0)) (by (with_reducible repeat (first | refine bd_ ?_ _ | refine bO ?_ | refine bf ?_ _)); refine dK ?_ Cs.out _; (with_reducible repeat (first | refine bd_ ?_ _ | refine bO ?_ | refine bf ?_ _)); refine dK ?_ Cs.out _; (with_reducible repeat (first | refine bd_ ?_ _ | refine bO ?_ | refine bf ?_ _)); refine dK ?_ Cs.out _; (with_reducible repeat (first | refine bd_ ?_ _ | refine bO ?_ | refine bf ?_ _)); exact mq.out) hb); have aK := Zd.mk (eU (g := rV) (o := .cells #[.int .i64 ((aY af fV).f0), .int .i64 ((aY af fV).f1), .slice MH ((aY af fV).f2).length MI] 29 (0, 0)) (by (with_reducible repeat (first | refine bd_ ?_ _ | refine bO ?_ | refine bf ?_ _)); refine jS (cs := #[.int .i64 ((aY af fV).f0), .int .i64 ((aY af fV).f1), .slice none 0 0]) ?_ 2 _ rfl; (with_reducible repeat (first | refine bd_ ?_ _ | refine bO ?_ | refine bf ?_ _)); refine jS (cs := #[.int .i64 ((aY af fV).f0), .int .i64 0, .slice none 0 0]) ?_ 1 _ rfl; (with_reducible repeat (first | refine bd_ ?_ _ | refine bO ?_ | refine bf ?_ _)); refine jS (cs := #[.int .i64 0, .int .i64 0, .slice none 0 0]) ?_ 0 _ rfl; (with_reducible repeat (first | refine bd_ ?_ _ | refine bO ?_ | refine bf ?_ _)); exact qw.out) hb); have aU := Zd.mk (df B_ hb); clear mq; clear qw; clear HB; have mq := aJ; have qw := aK; have HB := aU; clear aJ aK aU; (try clear hb); (try clear hb2); (try clear hk); (try clear hi)));go_roundg k3
            case measure => have := zC.out; have := Rm.out; have := Dg.out; omega
            case rel => exact ⟨(wrap64 (vT + t105)), (wrap64 (Ji + t106)), (wrap64 (fV + 1)), (by first | rfl | (simp; done) | (simp [*]; done)), (by first | rfl | (simp; done) | (simp [*]; done)), (by first | rfl | (simp; done) | (simp [*]; done)), H', ⟨by have := zC.out; have := Rm.out; have := Dg.out; omega⟩, ⟨K_⟩, ⟨B_⟩⟩
          ·rw [if_neg c15] at H;exact absurd H (by simp)
         ·rw [if_neg c14] at H;exact absurd H (by simp)
        ·rw [if_neg c13] at H;have Hw : decide (fV < (af.length : Int)) = false := decide_eq_false c13;clear c13;simp only [Option.some.injEq, Prod.mk.injEq] at H;obtain ⟨rfl, rfl⟩ := H;go_wp2;go_ret2;exact ⟨by first | rfl | (simp [bS, bT] <;> rfl) | (simp [*, bS, bT] <;> rfl), B_⟩

attribute [local go_sem] nE nG nH nI nW nX nY nZ

mutual
def mP.j0 : Nat → Int → Bool → Option (Int)
 | 0, _, _ => none
 | k + 1, x3, x4 => if x4 = true then (some 0) else (if x3 = 3 then (mP.j1 k x3 (x3 == 3)) else (mP.j1 k x3 (x3 == 6)))
def mP.j1 : Nat → Int → Bool → Option (Int)
 | 0, _, _ => none
 | k + 1, x3, x7 => if x7 = true then (some 1) else (if x3 = 4 then (some 2) else (if x3 = 5 then (some 2) else (if x3 = 7 then (some 2) else (if x3 = 8 then (some 2) else (some (-1))))))
end
def mP.f (k : Nat) (a0 : Int) : Option (Int) := if a0 = 1 then (mP.j0 k a0 (a0 == 1)) else (mP.j0 k a0 (a0 == 2))
theorem mP.calls (k : Nat) (a0 : Int) (r : Int) (w : World) (h : mP.f k a0 = some r) :
  Calls Tryz.prog 51 #[.int .i64 a0] w fun e w' => e = .returned (.int .i64 r) ∧ bC w w' := by
 have H : (if a0 = 1 then (mP.j0 k a0 (a0 == 1)) else (mP.j0 k a0 (a0 == 2))) = some r := h;clear h;have tF := Zd.mk H;clear H;go_enter Tryz.func51, Tryz.ntmps51
 go_upto_if 4 with (fail)
 go_cut [4] (fun v4 wc => ∃ (kq : Nat) (Rn : Bool), v4 = .bool Rn ∧ Zd (mP.j0 kq a0 Rn = some r) ∧ Zd (kq ≤ k) ∧ bC w wc)
 case first =>
  have H := tF.out;clear tF;by_cases c3 : a0 = 1
  ·rw [if_pos c3] at H;have gN : (a0 == 1) = true := beq_iff_eq.mpr c3;have tH : (a0 != 1) = false := bne_eq_false_iff_eq.mpr c3;clear c3
   (first | rw [gN] | (simp only [bE, dS]; rw [gN]) | skip)
   have H' := Zd.mk H;clear H;go_wp2;go_meet
   case rel => exact ⟨_, ((a0 == 1)), (by first | rfl | (simp; done) | (simp [*]; done)), H', ⟨by first | omega | exact Nat.le_refl _⟩, by repeat (first | exact bC.refl _ | apply bC.step)⟩
  ·rw [if_neg c3] at H;have gN : (a0 == 1) = false := beq_eq_false_iff_ne.mpr c3;have tH : (a0 != 1) = true := bne_iff_ne.mpr c3
   (first | rw [gN] | (simp only [bE, dS]; rw [gN]) | skip)
   have H' := Zd.mk H;clear H;go_wp2;go_meet
   case rel => exact ⟨_, ((a0 == 2)), (by first | rfl | (simp; done) | (simp [*]; done)), H', ⟨by first | omega | exact Nat.le_refl _⟩, by repeat (first | exact bC.refl _ | apply bC.step)⟩
 case rest =>
  clear tF
  try clear p2
  try clear c3
  try clear gN
  try clear tH
  obtain ⟨kq, Rn, rfl, HA, yH, ⟨mc1, rfl⟩⟩ := hcut;cases kq with
  | zero => exact absurd HA.out (by simp [mP.j0])
  | succ EL =>
   have H := HA.out;clear HA;simp only [mP.j0] at H;by_cases c4 : Rn = true
   ·subst c4;have H1 : (some 0) = some r := by rw [if_pos rfl] at H; exact H
    clear H;have H := H1;clear H1;obtain rfl := Option.some.inj H;go_wp2;go_ret;exact ⟨by first | rfl | (simp; done) | (simp [*]; done), by repeat (first | exact bC.refl _ | apply bC.step)⟩
   ·replace c4 := Bool.eq_false_iff.mpr c4;subst c4;have H1 : (if a0 = 3 then (mP.j1 EL a0 (a0 == 3)) else (mP.j1 EL a0 (a0 == 6))) = some r := by rw [if_neg (show ¬ (false = true) by decide)] at H; exact H
    clear H;have H := H1;clear H1;have uK := Zd.mk H;clear H
    go_upto_if 7 with (fail)
    go_cut [7] (fun v7 wc => ∃ (kq : Nat) (Ro : Bool), v7 = .bool Ro ∧ Zd (mP.j1 kq a0 Ro = some r) ∧ Zd (kq ≤ EL) ∧ bC w wc)
    case first =>
     have H := uK.out;clear uK;by_cases c6 : a0 = 3
     ·rw [if_pos c6] at H;have gI : (a0 == 3) = true := beq_iff_eq.mpr c6;have EM : (a0 != 3) = false := bne_eq_false_iff_eq.mpr c6;clear c6
      (first | rw [gI] | (simp only [bE, dS]; rw [gI]) | skip)
      have H' := Zd.mk H;clear H;go_wp2;go_meet
      case rel => exact ⟨_, ((a0 == 3)), (by first | rfl | (simp; done) | (simp [*]; done)), H', ⟨by have := yH.out; first | omega | exact Nat.le_refl _⟩, by repeat (first | exact bC.refl _ | apply bC.step)⟩
     ·rw [if_neg c6] at H;have gI : (a0 == 3) = false := beq_eq_false_iff_ne.mpr c6;have EM : (a0 != 3) = true := bne_iff_ne.mpr c6
      (first | rw [gI] | (simp only [bE, dS]; rw [gI]) | skip)
      have H' := Zd.mk H;clear H;go_wp2;go_meet
      case rel => exact ⟨_, ((a0 == 6)), (by first | rfl | (simp; done) | (simp [*]; done)), H', ⟨by have := yH.out; first | omega | exact Nat.le_refl _⟩, by repeat (first | exact bC.refl _ | apply bC.step)⟩
    case rest =>
     clear uK
     try clear c1
     try clear p2
     try clear c3
     try clear gN
     try clear tH
     try clear c4
     try clear c5
     try clear c6
     try clear gI
     try clear EM
     try clear p2
     obtain ⟨kq, Ro, rfl, HA, HJ4, ⟨mc4, rfl⟩⟩ := hcut;cases kq with
     | zero => exact absurd HA.out (by simp [mP.j1])
     | succ kj4 =>
      have H := HA.out;clear HA;simp only [mP.j1] at H;by_cases c7 : Ro = true
      ·subst c7;have H1 : (some 1) = some r := by rw [if_pos rfl] at H; exact H
       clear H;have H := H1;clear H1;obtain rfl := Option.some.inj H;go_wp2;go_ret;exact ⟨by first | rfl | (simp; done) | (simp [*]; done), by repeat (first | exact bC.refl _ | apply bC.step)⟩
      ·replace c7 := Bool.eq_false_iff.mpr c7;subst c7;have H1 : (if a0 = 4 then (some 2) else (if a0 = 5 then (some 2) else (if a0 = 7 then (some 2) else (if a0 = 8 then (some 2) else (some (-1)))))) = some r := by rw [if_neg (show ¬ (false = true) by decide)] at H; exact H
       clear H;have H := H1;clear H1;by_cases c8 : a0 = 4
       ·rw [if_pos c8] at H;have Kg : (a0 == 4) = true := beq_iff_eq.mpr c8;have Uv : (a0 != 4) = false := bne_eq_false_iff_eq.mpr c8;clear c8;obtain rfl := Option.some.inj H;go_wp2;go_ret;exact ⟨by first | rfl | (simp; done) | (simp [*]; done), by repeat (first | exact bC.refl _ | apply bC.step)⟩
       ·rw [if_neg c8] at H;have Kg : (a0 == 4) = false := beq_eq_false_iff_ne.mpr c8;have Uv : (a0 != 4) = true := bne_iff_ne.mpr c8;by_cases c9 : a0 = 5
        ·rw [if_pos c9] at H;have Ia : (a0 == 5) = true := beq_iff_eq.mpr c9;have Uw : (a0 != 5) = false := bne_eq_false_iff_eq.mpr c9;clear c9;obtain rfl := Option.some.inj H;go_wp2;go_ret;exact ⟨by first | rfl | (simp; done) | (simp [*]; done), by repeat (first | exact bC.refl _ | apply bC.step)⟩
        ·rw [if_neg c9] at H;have Ia : (a0 == 5) = false := beq_eq_false_iff_ne.mpr c9;have Uw : (a0 != 5) = true := bne_iff_ne.mpr c9;by_cases c10 : a0 = 7
         ·rw [if_pos c10] at H;have EI : (a0 == 7) = true := beq_iff_eq.mpr c10;have Ux : (a0 != 7) = false := bne_eq_false_iff_eq.mpr c10;clear c10;obtain rfl := Option.some.inj H;go_wp2;go_ret;exact ⟨by first | rfl | (simp; done) | (simp [*]; done), by repeat (first | exact bC.refl _ | apply bC.step)⟩
         ·rw [if_neg c10] at H;have EI : (a0 == 7) = false := beq_eq_false_iff_ne.mpr c10;have Ux : (a0 != 7) = true := bne_iff_ne.mpr c10;by_cases c11 : a0 = 8
          ·rw [if_pos c11] at H;have Bo : (a0 == 8) = true := beq_iff_eq.mpr c11;have Kh : (a0 != 8) = false := bne_eq_false_iff_eq.mpr c11;clear c11;obtain rfl := Option.some.inj H;go_wp2;go_ret;exact ⟨by first | rfl | (simp; done) | (simp [*]; done), by repeat (first | exact bC.refl _ | apply bC.step)⟩
          ·rw [if_neg c11] at H;have Bo : (a0 == 8) = false := beq_eq_false_iff_ne.mpr c11;have Kh : (a0 != 8) = true := bne_iff_ne.mpr c11;obtain rfl := Option.some.inj H;go_wp2;go_ret;exact ⟨by first | rfl | (simp; done) | (simp [*]; done), by repeat (first | exact bC.refl _ | apply bC.step)⟩

end Go.Proofs.YtapejnikpmfddaaGreat.P
namespace Go.Proofs.YtapejnikpmfddaaGreat.X
open Go.RowKit Go.Proofs.aI.bM Go.Proofs.aI.dG Go.Proofs.aI.dM
open Go.Proofs.YtapejnikpmfddaaGreat.P Go.Proofs.YtapejnikpmfddaaGreat.gY
theorem asi (op : Int) : Ev (fun k => mP.f k op) (fC op) := by
 have h1 : ∀ b : Bool, b = decide (op = 3 ∨ op = 6) → ¬ (op = 1 ∨ op = 2) → Ev (fun k => mP.j1 k op b) (fC op) := by
  intro b hb h0;refine eO (fun k => rfl) (xD (fun h => ?_) (fun h => ?_))
  ·rw [h] at hb;have := of_decide_eq_true hb.symm;exact fJ (dx _) (by unfold fC; rw [if_neg h0, if_pos this])
  ·rw [h] at hb;have := of_decide_eq_false hb.symm;have e : fC op = if op = 4 ∨ op = 5 ∨ op = 7 ∨ op = 8 then 2 else -1 := by unfold fC; rw [if_neg h0, if_neg this]
   rw [e];refine kG (fun c => fJ (dx _) ?_) (fun c4 => kG (fun c => fJ (dx _) ?_) (fun c5 => kG (fun c => fJ (dx _) ?_) (fun c7 => kG (fun c => fJ (dx _) ?_) (fun c8 => fJ (dx _) ?_))))
   ·rw [if_pos ag]
   ·rw [if_pos ag]
   ·rw [if_pos ag]
   ·rw [if_pos ag]
   ·rw [if_neg ag]
 have h0 : ∀ b : Bool, b = decide (op = 1 ∨ op = 2) → Ev (fun k => mP.j0 k op b) (fC op) := by
  intro b hb;refine eO (fun k => rfl) (xD (fun h => ?_) (fun h => ?_))
  ·rw [h] at hb;have := of_decide_eq_true hb.symm;exact fJ (dx _) (by unfold fC; rw [if_pos this])
  ·rw [h] at hb;have h2 := of_decide_eq_false hb.symm;refine kG (fun c => h1 _ ?_ h2) (fun c => h1 _ ?_ h2)
   ·simp [c]
   ·simp [c, show (op == 6) = decide (op = 6) from rfl]
 unfold mP.f;refine kG (fun c => h0 _ ?_) (fun c => h0 _ ?_)
 ·simp [c]
 ·simp [c, show (op == 2) = decide (op = 2) from rfl]
def D9.T1 : Bool × List (List Nat × List Nat) := (true, [([], []), ([0], [0]), ([1], [1]), ([2], [2]), ([3, 2], [3]), ([4], [4]), ([5, 4], [4, 5]), ([6, 4], [4, 6]), ([4], [4]), ([8, 4], [4, 8]), ([9, 4, 4], [4, 9]), ([7, 10, 4], [4, 7, 10]), ([4, 11], [4, 11])])
def D9.B1 : List Nat := [0, 1, 3, 7, 15, 31, 63, 127, 31, 287, 799, 2047, 4095]
theorem D9.Xo : dh .any (opsOf Tryz.f29 1) = D9.T1 := by kernel_rfl
theorem D9.Xp : ik D9.T1.2 D9.B1 = true := by kernel_rfl
theorem ML {b : Bool} (h : (!b) = true) : b = false := by simpa using h
def Rp (s : ak) : Prop := ∀ (A : Option Addr) (cp : Nat) (w : World), Kd.C bK w A s.f2.length s.f2 → s.f2.length ≤ cp →
  Calls Tryz.prog 29 #[.agg #[.int .i64 s.f0, .int .i64 s.f1, .slice A s.f2.length cp]] w fun e w' => e = .returned (.bool (cO s)) ∧ Below w.heap.size w w'
theorem asj (s : ak) (ih : ∀ k ∈ s.f2, Rp k) : Rp s := by
 intro A cp w hk hc;have jm := Tryz.underlying29;have uO := Tryz.underlying27;obtain ⟨W1, hW1⟩ : ∃ W1, W1 = w.alloc (.cells #[.int .i64 s.f0, .int .i64 s.f1, .slice A s.f2.length cp] 29) := ⟨_, rfl⟩;have hB1 : Below w.heap.size w W1 := by rw [hW1]; exact aW (Below.refl _ _) _
 have hbx : W1.heap[w.heap.size]? = some (.cells #[.int .i64 s.f0, .int .i64 s.f1, .slice A s.f2.length cp] 29 (0, 0)) := by rw [hW1]; exact heap_alloc_new w _
 have jo := Zd.mk hbx;have HB1 := Zd.mk hB1;have HK := Zd.mk hk;have wy := Zd.mk ih;obtain ⟨kk, hkk⟩ := (asi s.f0).rounds;have hkr := Kj s.f0;have HKK := Zd.mk hkk;have HD := Zd.mk (show cO s = (decide (0 ≤ fC s.f0) && (decide ((s.f2.length : Int) = fC s.f0) && (decide (0 ≤ s.f1) && (decide (s.f1 ≤ lQ s.f0) && gp s.f2)))) from by cases s; rfl);have HMO := Zd.mk (show lQ s.f0 = if s.f0 = 2 then 19 else 0 from rfl);have x0 : W1.cell? ⟨w.heap.size, 0, none⟩ = some (.int .i64 s.f0) := (aj hbx 0).trans rfl;have x1 : W1.cell? ⟨w.heap.size, 1, none⟩ = some (.int .i64 s.f1) := (aj hbx 1).trans rfl;have x2 : W1.cell? ⟨w.heap.size, 2, none⟩ = some (.slice A s.f2.length cp) := (aj hbx 2).trans rfl;have hlen := Kd.pG HK.out;clear hbx hB1 hk ih hkk;generalize fC s.f0 = Kq at *;generalize lQ s.f0 = M at *;generalize cO s = R at *;go_enter Tryz.func29, Tryz.ntmps29;go_upto_region 1 with fail
 rw [← hW1];clear hW1;go_cut [17] (fun v17 wx => ∃ (t : Bool) (m : Nat), v17 = .bool t ∧ Zd ((!(decide (0 ≤ Kq) && decide ((s.f2.length : Int) = Kq))) = t) ∧ wx = W1.drewN m)
 case first =>
  by_cases c1 : 0 ≤ Kq
  ·have d1 : decide (Kq < 0) = false := decide_eq_false ag;have tN := Zd.mk c1;clear c1
   go_region_with (go_at_call 51; refine (mP.calls kk s.f0 Kq _ HKK.out).mono ?_; rintro e w1 ⟨rfl, hd0⟩; obtain ⟨m, rfl⟩ := hd0.out)
   all_goals (
    go_wp2_with fail
    go_meet;exact ⟨_, _, rfl, ⟨by rw [decide_eq_true tN.out, Bool.true_and]; rfl⟩, rfl⟩)
  ·have d1 : decide (Kq < 0) = true := decide_eq_true ag;have tN := Zd.mk c1;clear c1;refine iP (n := 13) (S := fun w' => w'.cell? ⟨w.heap.size, 0, none⟩ = some (.int .i64 s.f0) ∧ w'.cell? ⟨w.heap.size, 2, none⟩ = some (.slice A s.f2.length cp)) (ds := []) ab0 aa rfl rfl ⟨x0, x2⟩ (fun hHeld => ?_);refine iR D9.Xo D9.Xp (fun ae bA => ?_);refine pz ae.out 0 (some 5) amJ rfl rfl ?_;refine tz ae.out bA.out 1 (some 6) amK rfl rfl hHeld ?_;refine gV (i := 2) (N := some 7) amL rfl rfl (di ae.out aa) ai (fun K hK => ?_);refine jT Tryz.func51 aa rfl #[.int .i64 s.f0] bu rfl rfl (by simp only [List.map_toArray, List.map_cons, List.map_nil]; rfl) ?_
   with_reducible refine (mP.calls kk s.f0 Kq _ HKK.out).mono ?_
   rintro e w1 ⟨rfl, hd0⟩;obtain ⟨m, rfl⟩ := hd0.out;refine ⟨_, rfl, ?_⟩;refine hK.out _ _ ⟨x0, x2⟩ (fun hHeld => ?_);clear hK K;refine gW (a' := ?_) ?_ ?_;rotate_left
   ·show Act.put _ (some 7) _ = _;simp only [Act.put, List.setIfInBounds_toArray, List.set_cons_zero, List.set_cons_succ, bE, dS];rfl
   refine pz ae.out 3 (some 8) amM rfl rfl ?_;refine pz ae.out 4 (some 9) amN rfl rfl ?_;refine pu ae.out 5 (some 10) amO rfl rfl ?_;refine pu ae.out 6 (some 11) amP rfl rfl ?_;refine pu ae.out 7 (some 12) amQ rfl rfl ?_;refine pu ae.out 8 (some 13) amR rfl rfl ?_;refine pu ae.out 9 (some 14) amS rfl rfl ?_;refine pu ae.out 10 (some 15) amT rfl rfl ?_;refine pu ae.out 11 (some 16) amU rfl rfl ?_;refine pz ae.out 12 (some 17) amV rfl rfl ?_;refine kD (kE ae.out aa) ?_;go_wp2_with fail;go_meet;exact ⟨_, _, rfl, ⟨by rw [decide_eq_false (show ¬ 0 ≤ Kq by have := tN.out; omega)]; rfl⟩, rfl⟩
 case rest =>
  obtain ⟨t, m, rfl, HT, hwc⟩ := hcut;rw [hwc];clear hwc wc;cases t with
  | true =>
   have HX := Zd.mk (show R = false from by rw [HD.out, ← Bool.and_assoc, ML HT.out]; rfl);go_wp2;go_ret;exact ⟨by rw [HX.out]; rfl, fB HB1.out _⟩
  | false =>
   have hT : (decide (0 ≤ Kq) && decide ((s.f2.length : Int) = Kq)) = true := by simpa using HT.out
   have HD2 := Zd.mk (show R = (decide (0 ≤ s.f1) && (decide (s.f1 ≤ M) && gp s.f2)) from by rw [HD.out, ← Bool.and_assoc, hT, Bool.true_and]);clear hT;go_upto_region 3 with fail
   go_cut [40] (fun v40 wx => ∃ (t : Bool), v40 = .bool t ∧ Zd ((!(decide (0 ≤ s.f1) && decide (s.f1 ≤ M))) = t) ∧ wx = W1.drewN m)
   case first =>
    by_cases h2 : s.f0 = 2
    ·have hm : M = 19 := by rw [HMO.out, if_pos h2]
     have e2 : (s.f0 == 2) = true := beq_iff_eq.mpr h2;have e3 : (s.f0 != 2) = false := bne_eq_false_iff_eq.mpr h2;have zZ := Zd.mk hm;clear h2 hm;by_cases c3 : s.f1 < 0
     ·go_wp2;go_meet;exact ⟨_, rfl, ⟨by rw [decide_eq_false (show ¬ 0 ≤ s.f1 by omega)]; rfl⟩, rfl⟩
     ·by_cases c4 : 20 ≤ s.f1
      ·go_wp2;go_meet;exact ⟨_, rfl, ⟨by rw [zZ.out, decide_eq_false (show ¬ s.f1 ≤ 19 by omega), Bool.and_false]; rfl⟩, rfl⟩
      ·go_wp2;go_meet;exact ⟨_, rfl, ⟨by rw [zZ.out, decide_eq_true (show s.f1 ≤ 19 by omega), decide_eq_true (show 0 ≤ s.f1 by omega)]; rfl⟩, rfl⟩
    ·have hm : M = 0 := by rw [HMO.out, if_neg h2]
     have e2 : (s.f0 == 2) = false := beq_eq_false_iff_ne.mpr h2;have e3 : (s.f0 != 2) = true := bne_iff_ne.mpr h2;have zZ := Zd.mk hm;clear h2 hm;go_wp2;go_meet;refine ⟨_, rfl, ⟨?_⟩, rfl⟩;rw [zZ.out];by_cases c : s.f1 = 0
     ·rw [c]; rfl
     ·have h9 : (s.f1 != 0) = true := by simpa using c
      rw [h9];by_cases c4 : 0 ≤ s.f1
      ·rw [decide_eq_false (show ¬ s.f1 ≤ 0 by omega), Bool.and_false]; rfl
      ·rw [decide_eq_false c4]; rfl
   case rest =>
    obtain ⟨t, rfl, HT2, hwc⟩ := hcut;rw [hwc];clear hwc wc;cases t with
    | true =>
     have HX := Zd.mk (show R = false from by rw [HD2.out, ← Bool.and_assoc, ML HT2.out]; rfl);go_wp2;go_ret;exact ⟨by rw [HX.out]; rfl, fB HB1.out _⟩
    | false =>
     have hT : (decide (0 ≤ s.f1) && decide (s.f1 ≤ M)) = true := by simpa using HT2.out
     have HD3 := Zd.mk (show R = gp s.f2 from by rw [HD2.out, ← Bool.and_assoc, hT, Bool.true_and]);clear hT;go_wp2;go_loopg [44] s.f2.length (fun kq v44 w' => ∃ j : Nat, j + kq = s.f2.length ∧ v44 = .int .i64 j ∧ Zd (gp (s.f2.drop j) = gp s.f2) ∧ Zd (Below w.heap.size w w'))
     case atStart => exact ⟨0, by omega, rfl, ⟨rfl⟩, ⟨fB HB1.out _⟩⟩
     case round =>
      obtain ⟨j, hj, rfl, wB, lq⟩ := hrel;have HJ := Zd.mk hj;clear hj;by_cases hlt : j < s.f2.length
      ·obtain ⟨ad, A3, c3, e0, hx0, hx1, hx2, hl3, hk3⟩ := yG HK.out lq.out j hlt hlt;cases e0;have Ag := Zd.mk (wy.out (s.f2[j]'hlt) (List.getElem_mem hlt) A3 c3 _ (Kd.aQ (Kd.aQ hk3 lq.out) (aW (Below.refl _ _) (.cells #[.int .i64 (s.f2[j]'hlt).f0, .int .i64 (s.f2[j]'hlt).f1, .slice A3 (s.f2[j]'hlt).f2.length c3] 29))) hl3);have HST := Zd.mk (show gp s.f2 = (cO (s.f2[j]'hlt) && gp (s.f2.drop (j + 1))) from by rw [← wB.out, List.drop_eq_getElem_cons hlt, gp]);generalize cO (s.f2[j]'hlt) = b at *;clear hk3 hl3;cases b with
       | true =>
        have HS2 := Zd.mk (show gp (s.f2.drop (j + 1)) = gp s.f2 from by rw [HST.out, Bool.true_and]);go_wp2_with (go_at_call 29; refine Ag.out.mono ?_; rintro e w2 ⟨rfl, hB⟩; have HB2 := Zd.mk (lq.out.trans (((aW (Below.refl _ _) _ : Below wr.heap.size wr _).trans (hB.mono (by simp))).mono lq.out.size)); clear hB);go_roundg (gk - 1)
        case measure => have := HJ.out; omega
        case rel => exact ⟨j + 1, by have := HJ.out; omega, by go_num, HS2, HB2⟩
       | false =>
        have HX := Zd.mk (show R = false from by rw [HD3.out, HST.out, Bool.false_and]);go_wp2_with (go_at_call 29; refine Ag.out.mono ?_; rintro e w2 ⟨rfl, hB⟩; have HB2 := Zd.mk (lq.out.trans (((aW (Below.refl _ _) _ : Below wr.heap.size wr _).trans (hB.mono (by simp))).mono lq.out.size)); clear hB);go_ret;exact ⟨by rw [HX.out]; rfl, HB2.out⟩
      ·have HX := Zd.mk (show R = true from by rw [HD3.out, ← wB.out, List.drop_eq_nil_of_le ag]; rfl);go_wp2;go_ret;exact ⟨by rw [HX.out]; rfl, lq.out⟩
mutual
theorem agI : ∀ s : ak, Rp s
 | ⟨op, m, kids⟩ => asj ⟨op, m, kids⟩ (agJ kids)
theorem agJ : ∀ (l : List ak) (k : ak), k ∈ l → Rp k
 | [], k, hk => by simp at hk
 | a :: r, k, hk => by
  rcases List.mem_cons.1 hk with h | h
  ·rw [h];exact agI a
  ·exact agJ r k h
end
def Gs.f (av : Int) (ay : Int) (af : List ak) : Option Bool := some (cO ⟨av, ay, af⟩)
theorem Gs.calls (av : Int) (ay : Int) (aM : Option Addr) (aC : Nat) (af : List ak) (r : Bool) (w : World) (dn : Kd.C bK w aM af.length af) (dw : af.length ≤ aC) (h : Gs.f av ay af = some r) :
  Calls Tryz.prog 29 #[.agg #[.int .i64 av, .int .i64 ay, .slice aM af.length aC]] w fun e w' => e = .returned (.bool r) ∧ Below w.heap.size w w' := by
 obtain rfl := Option.some.inj h;exact agI ⟨av, ay, af⟩ aM aC w dn dw
end Go.Proofs.YtapejnikpmfddaaGreat.X
namespace Go.Proofs.YtapejnikpmfddaaGreat.P
open Go.RowKit Go.Proofs.aI.bM Go.Proofs.aI.dG Go.Proofs.aI.dM
attribute [local go_sem] nE nG nH nI nW nX nY nZ

open Go.Proofs.YtapejnikpmfddaaGreat.X
def oH.j0 : Nat → Bool → Int → Int → List (ak) → Option (Int)
 | 0, _, _, _, _ => none
 | k + 1, pM, asl, asn, aso => if pM = true then (some 7) else ((Gs.f asl asn aso).bind fun t110 => (if t110 = true then (some 0) else (some 1)))
def oH.f (k : Nat) (av : Int) (ay : Int) (af : List (ak)) : Option (Int) := (gT.f k av ay af 1 60).bind fun MM => (if MM.1 > 60 then (oH.j0 k true av ay af) else (oH.j0 k (decide (MM.2 > 8)) av ay af))
theorem oH.calls (k : Nat) (av : Int) (ay : Int) (aM : Option Addr) (aC : Nat) (af : List (ak)) (r : Int) (w : World) (dn : Kd.C bK w aM af.length af) (dw : af.length ≤ aC) (h : oH.f k av ay af = some r) :
  Calls Tryz.prog 12 #[.agg #[.int .i64 av, .int .i64 ay, .slice aM af.length aC]] w fun e w' => e = .returned (.int .i64 r) ∧ Below w.heap.size w w' := by
 have Ap := Tryz.underlying29;have fI := Zd.mk dn;have jw := Zd.mk dw;clear dn dw;have HB := Zd.mk (Below.refl w.heap.size w);have H : ((gT.f k av ay af 1 60).bind fun MM => (if MM.1 > 60 then (oH.j0 k true av ay af) else (oH.j0 k (decide (MM.2 > 8)) av ay af))) = some r := h;clear h;replace H := Option.bind_eq_some_iff.mp H;obtain ⟨⟨t108, t109⟩, uZ, H⟩ := H;replace H : (if t108 > 60 then (oH.j0 k true av ay af) else (oH.j0 k (decide (t109 > 8)) av ay af)) = some r := H;have A2 := Zd.mk uZ;clear uZ;have Bz := Zd.mk H;clear H;go_enter Tryz.func12, Tryz.ntmps12;go_upto_region 2 with (first | ((with_reducible refine gH (N := 1) rfl ?_); refine gG ?hg (N := 1) ?hd (cs := #[.int .i64 av, .int .i64 ay, .slice aM af.length aC]) (t := 29) ?hr ?_; (case hd => rfl); (case hg => rfl); (case hr => first | (go_simp; done) | (go_simp; rfl)); intro uC hg w4 bG hb; have aJ := Zd.mk (df B_ hb); have aK := Zd.mk (bG); have aU := Zd.mk ((by rw [hg]; exact (bP B_) : w.heap.size ≤ uC)); have aZ := Zd.mk ((by rw [hg]; exact (bP B_) : w.heap.size ≤ uC)); clear HB; have HB := aJ; have mr := aK; have awZ := aU; have aw0 := aZ; clear aJ aK aU aZ; clear hb bG hg; have C9 : w4.cell? ⟨uC, 0, none⟩ = some (.int .i64 av) := (aj mr.out 0).trans rfl; have Da : w4.cell? ⟨uC, 1, none⟩ = some (.int .i64 ay) := (aj mr.out 1).trans rfl; have Fa : w4.cell? ⟨uC, 2, none⟩ = some (.slice aM af.length aC) := (aj mr.out 2).trans rfl; have Db := aN mr.out 0; have Dc := aN mr.out 1; have Fb := aN mr.out 2) | ((with_reducible refine kX (f := 28) rfl ?_); refine kW (some 7) rfl rfl Tryz.func28 aa rfl #[.agg #[.int .i64 av, .int .i64 ay, .slice aM af.length aC], .int .i64 1, .int .i64 60] rfl (by (try simp only [List.map_toArray, List.map_cons, List.map_nil]); first | done | rfl | (simp only [List.length_drop, List.length_take]; rfl)) ?_; (with_reducible refine (gT.calls k av ay _ _ af 1 60 t108 t109 _ ?side1 ?side2 A2.out).mono ?_); (case side1 => exact Kd.aQ fI.out B_); (case side2 => exact jw.out); rintro e w6 ⟨rfl, hb⟩; refine ⟨_, rfl, ?_⟩; have aJ := Zd.mk (eU (g := uC) (o := .cells #[.int .i64 av, .int .i64 ay, .slice aM af.length aC] 29 (0, 0)) K_ hb); have aK := Zd.mk (df B_ hb); clear mr; clear HB; have mr := aJ; have HB := aK; clear aJ aK; (try clear hb); (try clear hb2); (try clear hk); (try clear hi)))
 (try simp only [Act.put, List.setIfInBounds_toArray, List.set_cons_zero, List.set_cons_succ])
 go_cut [10] (fun v10 wc => ∃ (kq : Nat) (Rq : Bool), v10 = .bool Rq ∧ Zd (oH.j0 kq Rq av ay af = some r) ∧ Zd (kq ≤ k) ∧ Zd (wc.heap[uC]? = some (.cells #[.int .i64 av, .int .i64 ay, (.slice aM af.length aC)] 29 (0, 0))) ∧ Zd (Below w.heap.size w wc))
 case first =>
  have H := Bz.out;clear Bz;by_cases c7 : t108 > 60
  ·rw [if_pos c7] at H;have uI : decide (60 < t108) = true := decide_eq_true c7;clear c7
   (first | rw [uI] | (simp only [bE, dS]; rw [uI]) | skip)
   have H' := Zd.mk H;clear H;go_wp2;go_meet
   case rel => exact ⟨_, (true), (by first | rfl | (simp; done) | (simp [*]; done)), H', ⟨by first | omega | exact Nat.le_refl _⟩, ⟨K_⟩, ⟨B_⟩⟩
  ·rw [if_neg c7] at H;have uI : decide (60 < t108) = false := decide_eq_false c7;clear c7
   (first | rw [uI] | (simp only [bE, dS]; rw [uI]) | skip)
   have H' := Zd.mk H;clear H;go_wp2;go_meet
   case rel => exact ⟨_, (decide (t109 > 8)), (by first | rfl | (simp; done) | (simp [*]; done)), H', ⟨by first | omega | exact Nat.le_refl _⟩, ⟨K_⟩, ⟨B_⟩⟩
 case rest =>
  clear Bz
  try clear c1
  try clear c2
  try clear p2
  try clear c7
  try clear uI
  try clear C9
  try clear Da
  try clear Fa
  try clear Db
  try clear Dc
  try clear Fb
  obtain ⟨kq, Rq, rfl, HA, HJ2, mr, HB⟩ := hcut;cases kq with
  | zero => exact absurd HA.out (by simp [oH.j0])
  | succ Vt =>
   have H := HA.out;clear HA;simp only [oH.j0] at H;by_cases c8 : Rq = true
   ·subst c8;have H1 : (some 7) = some r := by rw [if_pos rfl] at H; exact H
    clear H;have H := H1;clear H1;obtain rfl := Option.some.inj H;go_wp2;go_ret;exact ⟨by first | rfl | (simp [bS, bT] <;> rfl) | (simp [*, bS, bT] <;> rfl), B_⟩
   ·replace c8 := Bool.eq_false_iff.mpr c8;subst c8;have H1 : ((Gs.f av ay af).bind fun t110 => (if t110 = true then (some 0) else (some 1))) = some r := by rw [if_neg (show ¬ (false = true) by decide)] at H; exact H
    clear H;have H := H1;clear H1;replace H := Option.bind_eq_some_iff.mp H;obtain ⟨t110, A90, H⟩ := H;replace H : (if t110 = true then (some 0) else (some 1)) = some r := H;have A9 := Zd.mk A90;clear A90;by_cases c10 : t110 = true
    ·subst c10;have H1 : (some 0) = some r := by rw [if_pos rfl] at H; exact H
     clear H;have H := H1;clear H1;obtain rfl := Option.some.inj H;have apn : wc.cell? ⟨uC, 0, none⟩ = some (.int .i64 av) := (aj mr.out 0).trans rfl;have apo : wc.cell? ⟨uC, 1, none⟩ = some (.int .i64 ay) := (aj mr.out 1).trans rfl;have apq : wc.cell? ⟨uC, 2, none⟩ = some (.slice aM af.length aC) := (aj mr.out 2).trans rfl;have apr := aN mr.out 0;have aps := aN mr.out 1;have apt := aN mr.out 2;go_wp2_with (first | ((with_reducible refine kX (f := 29) rfl ?_); refine kW (some 19) rfl rfl Tryz.func29 aa rfl #[.agg #[.int .i64 av, .int .i64 ay, .slice aM af.length aC]] rfl (by (try simp only [List.map_toArray, List.map_cons, List.map_nil]); first | done | rfl | (simp only [List.length_drop, List.length_take]; rfl)) ?_; (with_reducible refine (Gs.calls av ay _ _ af true _ ?side1 ?side2 A9.out).mono ?_); (case side1 => exact Kd.aQ fI.out B_); (case side2 => exact jw.out); rintro e BB ⟨rfl, hb⟩; refine ⟨_, rfl, ?_⟩; have aJ := Zd.mk (eU (g := uC) (o := .cells #[.int .i64 av, .int .i64 ay, .slice aM af.length aC] 29 (0, 0)) K_ hb); have aK := Zd.mk (df B_ hb); clear mr; clear HB; have mr := aJ; have HB := aK; clear aJ aK; (try clear hb); (try clear hb2); (try clear hk); (try clear hi)));go_ret;exact ⟨by first | rfl | (simp [bS, bT] <;> rfl) | (simp [*, bS, bT] <;> rfl), B_⟩
    ·replace c10 := Bool.eq_false_iff.mpr c10;subst c10;have H1 : (some 1) = some r := by rw [if_neg (show ¬ (false = true) by decide)] at H; exact H
     clear H;have H := H1;clear H1;obtain rfl := Option.some.inj H;have PQ : wc.cell? ⟨uC, 0, none⟩ = some (.int .i64 av) := (aj mr.out 0).trans rfl;have PR : wc.cell? ⟨uC, 1, none⟩ = some (.int .i64 ay) := (aj mr.out 1).trans rfl;have PS : wc.cell? ⟨uC, 2, none⟩ = some (.slice aM af.length aC) := (aj mr.out 2).trans rfl;have PT := aN mr.out 0;have PU := aN mr.out 1;have PV := aN mr.out 2;go_wp2_with (first | ((with_reducible refine kX (f := 29) rfl ?_); refine kW (some 19) rfl rfl Tryz.func29 aa rfl #[.agg #[.int .i64 av, .int .i64 ay, .slice aM af.length aC]] rfl (by (try simp only [List.map_toArray, List.map_cons, List.map_nil]); first | done | rfl | (simp only [List.length_drop, List.length_take]; rfl)) ?_; (with_reducible refine (Gs.calls av ay _ _ af false _ ?side1 ?side2 A9.out).mono ?_); (case side1 => exact Kd.aQ fI.out B_); (case side2 => exact jw.out); rintro e tZ ⟨rfl, hb⟩; refine ⟨_, rfl, ?_⟩; have aJ := Zd.mk (eU (g := uC) (o := .cells #[.int .i64 av, .int .i64 ay, .slice aM af.length aC] 29 (0, 0)) K_ hb); have aK := Zd.mk (df B_ hb); clear mr; clear HB; have mr := aJ; have HB := aK; clear aJ aK; (try clear hb); (try clear hb2); (try clear hk); (try clear hi)));go_ret;exact ⟨by first | rfl | (simp [bS, bT] <;> rfl) | (simp [*, bS, bT] <;> rfl), B_⟩

end Go.Proofs.YtapejnikpmfddaaGreat.P
namespace Go.Proofs.YtapejnikpmfddaaGreat.X
open Go.RowKit Go.Proofs.aI.bM Go.Proofs.aI.dM
open Go.Proofs.YtapejnikpmfddaaGreat.P Go.Proofs.YtapejnikpmfddaaGreat.gY
def YC (s : ak) : Prop := ∀ (d r : Int), 1 ≤ d → d ≤ 13 → r ≤ 60 → 60 ≤ r + 60 * d → ∃ n t : Int, Ev (fun k => gT.f k s.f0 s.f1 s.f2 d r) (n, t) ∧ 1 ≤ n ∧ n ≤ 61 + 60 * (13 - d) ∧ 0 ≤ t ∧ t ≤ n ∧
 ((nS s : Int) ≤ r ∧ d + hS s ≤ 13 → n = nS s ∧ t = az s) ∧ (¬ ((nS s : Int) ≤ r ∧ d + hS s ≤ 13) → r < n)
theorem asq (s : ak) : 1 ≤ nS s := by cases s; simp only [nS]; omega
theorem agK (kids : List ak) (d r : Int) (hd1 : 1 ≤ d) (hd : d ≤ 12) (hr : r ≤ 60) (hr2 : 60 ≤ r + 60 * d) (ih : ∀ k ∈ kids, YC k) :
  ∀ (e j : Nat) (n t : Int), j + e = kids.length → (j : Int) < n → n ≤ 60 → 0 ≤ t → t ≤ n → ∃ n' t' : Int, Ev (fun k => gT.l0 k d r n t kids (kids.length : Int) j) (n', t') ∧ 1 ≤ n' ∧ n' ≤ 61 + 60 * (13 - d) ∧ 0 ≤ t' ∧ t' ≤ n' ∧
   (n + nL (kids.drop j) ≤ r ∧ d + 1 + hL (kids.drop j) ≤ 13 → n' = n + nL (kids.drop j) ∧ t' = t + dI (kids.drop j)) ∧ (¬ (n + nL (kids.drop j) ≤ r ∧ d + 1 + hL (kids.drop j) ≤ 13) → r < n')
 | 0, j, n, t, hj, h1, h2, h3, h4 => by
  refine ⟨n, t, eO (fun k => rfl) (lN ag (dx _)), by omega, by omega, h3, h4, ?_, ?_⟩
  ·rw [List.drop_eq_nil_of_le ag]; simp [nL, dI]
  ·rw [List.drop_eq_nil_of_le ag]; simp only [nL, hL]; omega
 | e + 1, j, n, t, hj, h1, h2, h3, h4 => by
  have hlt : j < kids.length := by omega
  obtain ⟨x, y, hx, x1, x2, y1, y2, q1, q2⟩ := ih _ (List.getElem_mem hlt) (d + 1) (r - n) ag ag ag ag;have hdr := List.drop_eq_getElem_cons hlt;rw [hdr];simp only [nL, dI, hL];have hk1 : 1 ≤ nS (kids[j]'hlt) := by cases (kids[j]'hlt); simp only [nS]; omega
  by_cases hc : n + x > 60
  ·refine ⟨n + x, t + y, eO (fun k => rfl) (dC ag (dC ag (dC ag ?_))), by omega, by omega, by omega, by omega, ?_, ?_⟩
   ·rw [Ih kids j hlt, jA ag ag, jA ag ag];refine qO hx ?_;simp only;rw [jA ag ag, jA ag ag];exact dC hc (dx _)
   ·intro hq;have := q1 ag;omega
   ·intro _;omega
  ·obtain ⟨n', t', hn', a1, a2, a3, a4, b1, b2⟩ := agK kids d r hd1 hd hr hr2 ih e (j + 1) (n + x) (t + y) ag ag ag ag ag;refine ⟨n', t', eO (fun k => rfl) (dC ag (dC ag (dC ag ?_))), a1, a2, a3, a4, ?_, ?_⟩
   ·rw [Ih kids j hlt, jA ag ag, jA ag ag];refine qO hx ?_;simp only;rw [jA ag ag, jA ag ag, jA ag ag];refine lN hc ?_
    exact_mod_cast hn'
   ·intro hq;have := q1 ag;have := b1 ag;omega
   ·intro hq;by_cases hq2 : (nS (kids[j]'hlt) : Int) ≤ r - n ∧ d + 1 + hS (kids[j]'hlt) ≤ 13
    ·have := q1 hq2;exact b2 ag
    ·have := q2 hq2;exact b2 ag
mutual
theorem agL : ∀ s : ak, YC s
 | ⟨op, m, kids⟩ => by
  intro d r h1 h2 h3 h4;have ih := agM kids;by_cases hd : d > 12
  ·refine ⟨61, 0, eO (fun k => rfl) (dC hd (eO (f := fun _ => some (61, 0)) (fun k => rfl) (dx _))), by omega, by omega, by omega, by omega, ?_, fun _ => by omega⟩;intro hq;simp only [hS] at hq;omega
  ·by_cases hr : r < 1
   ·refine ⟨61, 0, eO (fun k => rfl) (lN hd (eO (fun k => rfl) (dC (decide_eq_true hr) (dx _)))), by omega, by omega, by omega, by omega, ?_, fun _ => by omega⟩;intro hq;have := asq ⟨op, m, kids⟩;omega
   ·have hts : 0 ≤ (tS op : Int) ∧ (tS op : Int) ≤ 1 := by unfold tS; split <;> simp
    obtain ⟨n', t', hn', a1, a2, a3, a4, b1, b2⟩ := agK kids d r h1 ag h3 h4 ih kids.length 0 1 (tS op) ag ag ag hts.1 hts.2;refine ⟨n', t', eO (fun k => rfl) (lN hd (eO (fun k => rfl) (lN (by rw [decide_eq_false hr]; simp) ?_))), a1, a2, a3, a4, ?_, ?_⟩
    ·refine Kb (Rb op) (xD (fun c => ?_) (fun c => ?_))
     ·have e1 : (tS op : Int) = 1 := by unfold tS; rw [if_pos c]; rfl
      rw [e1] at hn';exact eO (fun k => rfl) hn'
     ·have e1 : (tS op : Int) = 0 := by unfold tS; rw [if_neg (by rw [c]; simp)]; rfl
      rw [e1] at hn';exact eO (fun k => rfl) hn'
    ·intro hq;simp only [nS, hS, az] at hq ⊢;have := b1 (by rw [List.drop_zero]; omega);rw [List.drop_zero] at this;omega
    ·intro hq;simp only [nS, hS] at hq;exact b2 (by rw [List.drop_zero]; omega)
theorem agM : ∀ l : List ak, ∀ k ∈ l, YC k
 | [], k, hk => by cases hk
 | a :: r, k, hk => by
  rcases List.mem_cons.1 hk with e | e
  ·rw [e]; exact agL a
  ·exact agM r k e
end
theorem Rs (s : ak) : Ev (fun n => oH.f n s.f0 s.f1 s.f2) (bW s) := by
 obtain ⟨n, t, hx, a1, a2, a3, a4, q1, q2⟩ := agL s 1 60 ag ag ag ag;rw [UH];unfold oH.f;refine qO hx ?_;have h0 : ∀ b : Bool, b = !decide (nS s ≤ 60 ∧ hS s ≤ 12 ∧ az s ≤ 8) → Ev (fun n => oH.j0 n b s.f0 s.f1 s.f2) (if nS s ≤ 60 ∧ hS s ≤ 12 ∧ az s ≤ 8 then (if cO s = true then 0 else 1) else 7) := by
  intro b hb;refine eO (fun k => rfl) (xD (fun h => ?_) (fun h => ?_))
  ·rw [h] at hb;have hq : ¬ (nS s ≤ 60 ∧ hS s ≤ 12 ∧ az s ≤ 8) := of_decide_eq_false (ML hb.symm);exact fJ (dx _) (by rw [if_neg hq])
  ·rw [h] at hb;have hq : nS s ≤ 60 ∧ hS s ≤ 12 ∧ az s ≤ 8 := by simpa using hb.symm
   rw [if_pos hq];have hso : Gs.f s.f0 s.f1 s.f2 = some (cO s) := by cases s; rfl
   exact Kb hso (kG (fun c => by rw [if_pos c]; exact dx _) (fun c => by rw [if_neg c]; exact dx _))
 refine kG (fun c => h0 _ ?_) (fun c => h0 _ ?_)
 ·have hq : ¬ (nS s ≤ 60 ∧ hS s ≤ 12 ∧ az s ≤ 8) := fun h => by have := q1 ag; simp only at c; omega
  rw [decide_eq_false hq]; rfl
 ·have hq : (nS s : Int) ≤ 60 ∧ 1 + (hS s : Int) ≤ 13 := by
   apply Classical.byContradiction
   intro h;have := q2 h;simp only at c;omega
  have := q1 hq;simp only;by_cases ht : t > 8
  ·rw [decide_eq_true ht, decide_eq_false ag]; rfl
  ·rw [decide_eq_false ht, decide_eq_true ag]; rfl
open Go.Proofs.aI.dG
def Gt (wk w0 w : World) (v : Value) (l : List ak) : Prop := nC (bK.K wk) 29 3 w w0.heap.size v l
def agN (w0 w : World) (v : Value) (l : List ak) : Prop := nC (bK.K w0) 29 3 w w0.heap.size v l
theorem Rt {w0 w : World} {v : Value} {l : List ak} (h : agN w0 w v l) (hb : Below w0.heap.size w0 w) : ∃ A c, v = .slice A l.length c ∧ l.length ≤ c ∧ Kd.C bK w A l.length l := by
 obtain ⟨A, c, e, hl, hr⟩ := nC.reads h;exact ⟨A, c, e, hl, hr.pq (Below.refl _ _) (fun _ _ hp => bK.pE hb hp)⟩
def Ru (wk w0 : World) (s : ak) : Prop := Below wk.heap.size wk w0 → ∀ (l : List ak) (v : Value) (A : Option Addr) (cp : Nat) (w : World), Gt wk w0 w v l → Below w0.heap.size w0 w → Kd.C bK wk A s.f2.length s.f2 → s.f2.length ≤ cp → l.length + az s ≤ 1000 →
  Calls Tryz.prog 31 #[.agg #[.int .i64 s.f0, .int .i64 s.f1, .slice A s.f2.length cp], v] w fun e w' => ∃ v1, e = .returned v1 ∧ Gt wk w0 w' v1 (l ++ bU s) ∧ Below w0.heap.size w0 w'
def mQ (s : ak) : List ak := if dB s.f0 = true then [s] else []
theorem AX (s : ak) : bU s = mQ s ++ fO s.f2 := by cases s; rw [bU]; rfl
theorem asr : (Tryz.prog.info? 29).map (fun i => (i.zero, i.size, i.bytes)) = some (some (.agg #[(.int .i64 0), (.int .i64 0), (.slice none 0 0)]), 3, 40) := by kernel_rfl
theorem ass (wk w0 : World) (s : ak) (ih : ∀ k ∈ s.f2, Ru wk w0 k) : Ru wk w0 s := by
 intro Jj l v A cp w hT hB hk hc hbd;have fK := Zd.mk Jj;have jm := Tryz.underlying29;have uO := Tryz.underlying27;obtain ⟨W1, hW1⟩ : ∃ W1, W1 = w.alloc (.cells #[.int .i64 s.f0, .int .i64 s.f1, .slice A s.f2.length cp] 29) := ⟨_, rfl⟩;have hB1 : Below w.heap.size w W1 := by rw [hW1]; exact aW (Below.refl _ _) _
 have hbx : W1.heap[w.heap.size]? = some (.cells #[.int .i64 s.f0, .int .i64 s.f1, .slice A s.f2.length cp] 29 (0, 0)) := by rw [hW1]; exact heap_alloc_new w _
 have jo := Zd.mk hbx;have HB1 := Zd.mk (hB.trans (hB1.mono hB.size));have HK := Zd.mk hk;have wy := Zd.mk ih;have HT1 := Zd.mk (show Gt wk w0 W1 v l from nC.below hT hB1);have agO : ∀ k, v.ownBlock = some k → k < w.heap.size := by obtain ⟨inner, ho, _⟩ := hT; exact iD ho
 have YD := Zd.mk agO;have jJ := Zd.mk hbd;have rF := Zd.mk (ER s);have HTE := Zd.mk (AX s);have Jf := Zd.mk (Rb s.f0);have HKM := Zd.mk (J8 wk s hc hk);have x0 : W1.cell? ⟨w.heap.size, 0, none⟩ = some (.int .i64 s.f0) := (aj hbx 0).trans rfl;have x1 : W1.cell? ⟨w.heap.size, 1, none⟩ = some (.int .i64 s.f1) := (aj hbx 1).trans rfl;have x2 : W1.cell? ⟨w.heap.size, 2, none⟩ = some (.slice A s.f2.length cp) := (aj hbx 2).trans rfl;have hlen := Kd.pG HK.out;have hlb : l.length ≤ 1000 := by omega
 have uz := Zd.mk hB.size;have ast := Zd.mk (show l ++ bU s = l ++ mQ s ++ fO s.f2 from by rw [AX, List.append_assoc]);generalize l ++ bU s = R at *;clear Jj hT hB hk hbx hB1 ih agO hbd;go_enter Tryz.func31, Tryz.ntmps31;go_upto_region 1 with fail
 rw [← hW1];clear hW1
 go_upto_if 9 with (go_at_call 50; refine (zF.calls _ (dB s.f0) _ Jf.out).mono ?_; rintro e w1 ⟨rfl, hd0⟩; obtain ⟨m, rfl⟩ := hd0.out)
 go_cut [1] (fun v1 wx => Zd (Gt wk w0 wx v1 (l ++ mQ s)) ∧ Zd (Below w0.heap.size w0 wx) ∧ Zd (wx.heap[w.heap.size]? = some (.cells #[.int .i64 s.f0, .int .i64 s.f1, .slice A s.f2.length cp] 29 (0, 0))))
 case first =>
  cases jK : dB s.f0 with
  | false =>
   have HE := Zd.mk (show mQ s = [] from by unfold mQ; rw [jK]; rfl);go_wp2;go_meet;exact ⟨⟨by rw [HE.out, List.append_nil]; exact nC.below HT1.out (fB (Below.refl _ _) _)⟩, ⟨fB HB1.out _⟩, jo⟩
  | true =>
   have HE := Zd.mk (show mQ s = [s] from by unfold mQ; rw [jK]; rfl);obtain ⟨inner, hown, agP⟩ := nC.below HT1.out (fB (Below.refl _ W1) m);have HOWN := Zd.mk hown;have asu := Zd.mk agP;clear hown agP;go_wp2_with ((with_reducible refine lL (b := .append) (xs := #[.tmp 10, .tmp 12]) rfl ?_); at_builtin; refine aac (w0 := w0) w0.heap.size rfl (.tmp 10) (.tmp 12) 27 29 _ 3 40 rfl uO asr rfl ai ai v l.length inner [.int .i64 s.f0, .int .i64 s.f1, .slice A s.f2.length cp] rfl rfl rfl (by intro u hu; simp at hu; rcases hu with rfl | rfl | rfl <;> rfl) HOWN.out (fB HB1.out _) (Nat.le_trans uz.out (by have := aT jo.out; show w.heap.size ≤ W1.heap.size; omega)) ag ?_; intro v1 w1 hown1 hb1 hg1 Ew; have HO1 := Zd.mk hown1; have HB2 := Zd.mk hb1; have UB := Zd.mk hg1; clear hown1 hb1 hg1 Ew);go_meet;refine ⟨⟨?_⟩, HB2, ⟨oM (bd_ jo.out m) UB.out (fun e => Nat.lt_irrefl _ (YD.out _ e.symm))⟩⟩;rw [HE.out];exact ⟨_, by rw [List.length_append]; exact HO1.out, asu.out.snoc HKM.out rfl⟩
 case rest =>
  obtain ⟨HTa, HBa, asv⟩ := hcut;have z2 : wc.cell? ⟨w.heap.size, 2, none⟩ = some (.slice A s.f2.length cp) := (aj asv.out 2).trans rfl;have hlo : (l ++ mQ s).length + dI s.f2 ≤ 1000 := by
   have h1 := jJ.out;have h2 := rF.out;have h3 : (mQ s).length = tS s.f0 := by unfold mQ tS; split <;> rfl
   rw [List.length_append];omega
  have CY := Zd.mk hlo;generalize l ++ mQ s = L1 at *;clear hlo x0 x1 x2;go_wp2;go_loopg [17, 1] s.f2.length (fun kq v17 v1 w' => ∃ (j : Nat) (l2 : List ak), j + kq = s.f2.length ∧ v17 = .int .i64 j ∧ Zd (l2 ++ fO (s.f2.drop j) = L1 ++ fO s.f2) ∧ Zd (Gt wk w0 w' v1 l2) ∧ Zd (Below w0.heap.size w0 w'))
  case atStart => exact ⟨0, L1, by omega, rfl, ⟨rfl⟩, HTa, HBa⟩
  case round =>
   obtain ⟨j, l2, hj, rfl, HL2, HT2, HB2⟩ := hrel;have HJ := Zd.mk hj;clear hj;by_cases hlt : j < s.f2.length
   ·obtain ⟨ad, A3, c3, e0, hx0, hx1, hx2, hl3, hk3⟩ := yG HK.out (fK.out.trans (HB2.out.mono fK.out.size)) j hlt hlt;cases e0;have hd := List.drop_eq_getElem_cons hlt;have hL3 : (l2 ++ bU (s.f2[j]'hlt)) ++ fO (s.f2.drop (j + 1)) = L1 ++ fO s.f2 := by rw [← HL2.out, hd, fO, List.append_assoc]
    have agQ : l2.length + az (s.f2[j]'hlt) ≤ 1000 := by
     have h1 := congrArg List.length hL3;simp only [List.length_append, iW, UI] at h1;have h2 := CY.out;omega
    have KI := Zd.mk hL3;have Ag := Zd.mk (fun W u (h : Gt wk w0 W u l2) (hb : Below w0.heap.size w0 W) => wy.out (s.f2[j]'hlt) (List.getElem_mem hlt) fK.out l2 u A3 c3 W h hb hk3 hl3 agQ);clear hd hL3 agQ hk3 hl3;go_wp2_with (go_at_call 31; refine (Ag.out _ _ (nC.below HT2.out (aW (Below.refl _ _) _)) (aW HB2.out _)).mono ?_; rintro e w2 ⟨v2, rfl, hT, hB⟩; have HT3 := Zd.mk hT; have HB3 := Zd.mk hB; clear hT hB);go_roundg (gk - 1)
    case measure => have := HJ.out; omega
    case rel => exact ⟨j + 1, l2 ++ bU (s.f2[j]'hlt), by have := HJ.out; omega, by go_num, KI, HT3, HB3⟩
   ·have HX := Zd.mk (show l2 = R from by have := HL2.out; rw [List.drop_eq_nil_of_le ag, fO, List.append_nil] at this; rw [this, ast.out]);go_wp2;go_ret;exact ⟨_, rfl, by rw [← HX.out]; exact HT2.out, HB2.out⟩
mutual
theorem agR (wk w0 : World) : ∀ s : ak, Ru wk w0 s
 | ⟨op, m, kids⟩ => ass wk w0 ⟨op, m, kids⟩ (agS wk w0 kids)
theorem agS (wk w0 : World) : ∀ (l : List ak) (k : ak), k ∈ l → Ru wk w0 k
 | [], k, hk => by simp at hk
 | a :: r, k, hk => by
  rcases List.mem_cons.1 hk with h | h
  ·rw [h];exact agR wk w0 a
  ·exact agS wk w0 r k h
end
theorem asw (wk : World) (s : ak) (A : Option Addr) (cp : Nat) (w : World) (Jj : Below wk.heap.size wk w) (YE : Kd.C bK wk A s.f2.length s.f2) (hc : s.f2.length ≤ cp) :
  Calls Tryz.prog 15 #[.agg #[.int .i64 s.f0, .int .i64 s.f1, .slice A s.f2.length cp]] w fun e w' => ∃ v1, e = .returned v1 ∧ Gt wk w w' v1 (lh s) ∧ Below w.heap.size w w' := by
 have hr : Kd.C bK w A s.f2.length s.f2 := Kd.aQ YE Jj;have fK := Zd.mk Jj;have Wo := Zd.mk YE;clear Jj YE;have jm := Tryz.underlying29;obtain ⟨W1, hW1⟩ : ∃ W1, W1 = w.alloc (.cells #[.int .i64 s.f0, .int .i64 s.f1, .slice A s.f2.length cp] 29) := ⟨_, rfl⟩;have hB1 : Below w.heap.size w W1 := by rw [hW1]; exact aW (Below.refl _ _) _
 have hbx : W1.heap[w.heap.size]? = some (.cells #[.int .i64 s.f0, .int .i64 s.f1, .slice A s.f2.length cp] 29 (0, 0)) := by rw [hW1]; exact heap_alloc_new w _
 have jo := Zd.mk hbx;have HB1 := Zd.mk hB1;have HR := Zd.mk hr;have x0 : W1.cell? ⟨w.heap.size, 0, none⟩ = some (.int .i64 s.f0) := (aj hbx 0).trans rfl;have x1 : W1.cell? ⟨w.heap.size, 1, none⟩ = some (.int .i64 s.f1) := (aj hbx 1).trans rfl;have x2 : W1.cell? ⟨w.heap.size, 2, none⟩ = some (.slice A s.f2.length cp) := (aj hbx 2).trans rfl;obtain ⟨k1, hk1⟩ := (Rs s).rounds;have dR := Zd.mk hk1;have HM := Zd.mk (@kZ s);have zx := Zd.mk (show lh s = if bW s = 0 then bU s else [] from rfl);generalize lh s = R at *;generalize bW s = mv at *;clear hbx hB1 hr hk1;by_cases hm : mv = 0
 ·have hX : R = [] ++ bU s := by rw [zx.out, if_pos hm]; rfl
  have HX := Zd.mk hX;have HZ := Zd.mk (HM.out hm);have em : (mv != 0) = false := by rw [hm]; rfl
  clear hX hm;go_enter Tryz.func15, Tryz.ntmps15;go_upto_region 1 with fail
  rw [← hW1];clear hW1;go_wp2_with (first | (go_at_call 12; refine (oH.calls k1 s.f0 s.f1 A cp s.f2 mv _ (Kd.aQ HR.out HB1.out) hc dR.out).mono ?_; rintro e w1 ⟨rfl, hB⟩; have HB := Zd.mk (HB1.out.trans (hB.mono HB1.out.size)); have qP := Zd.mk ((hB.block _ (aT jo.out)).trans jo.out); have y0 := (aj qP.out 0).trans rfl; have y1 := (aj qP.out 1).trans rfl; have y2 := (aj qP.out 2).trans rfl; clear hB) | (go_at_call 31; refine (agR wk w s fK.out [] (.slice none 0 0) A cp _ (nC.none_ _ _ _ _ _) HB.out Wo.out hc (by have := HZ.out; simp; omega)).mono ?_; rintro e w2 ⟨v2, rfl, hT, hB2⟩; have HT := Zd.mk hT; have HB2 := Zd.mk hB2; clear hT hB2));go_ret;exact ⟨_, rfl, by rw [HX.out]; exact HT.out, HB2.out⟩
 ·have hX : R = [] := by rw [zx.out, if_neg hm]
  have HX := Zd.mk hX;have em : (mv != 0) = true := by simpa using hm
  clear hX hm;go_enter Tryz.func15, Tryz.ntmps15;go_upto_region 1 with fail
  rw [← hW1];clear hW1;go_wp2_with (go_at_call 12; refine (oH.calls k1 s.f0 s.f1 A cp s.f2 mv _ (Kd.aQ HR.out HB1.out) hc dR.out).mono ?_; rintro e w1 ⟨rfl, hB⟩; have HB := Zd.mk (HB1.out.trans (hB.mono HB1.out.size)); clear hB);go_ret;exact ⟨_, rfl, by rw [HX.out]; exact nC.none_ _ _ _ _ _, HB.out⟩
theorem Rv (s : ak) (A : Option Addr) (cp : Nat) (w : World) (hr : Kd.C bK w A s.f2.length s.f2) (hc : s.f2.length ≤ cp) :
  Calls Tryz.prog 15 #[.agg #[.int .i64 s.f0, .int .i64 s.f1, .slice A s.f2.length cp]] w fun e w' => ∃ v1, e = .returned v1 ∧ agN w w' v1 (lh s) ∧ Below w.heap.size w w' :=
 asw w s A cp w (Below.refl _ _) hr hc
theorem asx (n : Nat) (h : n ≤ 8) : wrap64 (2 ^ n) = 2 ^ n := by
 have : n = 0 ∨ n = 1 ∨ n = 2 ∨ n = 3 ∨ n = 4 ∨ n = 5 ∨ n = 6 ∨ n = 7 ∨ n = 8 := by omega
 rcases this with h | h | h | h | h | h | h | h | h <;> subst h <;> decide +kernel
theorem Jk (s : ak) (A : Option Addr) (cp : Nat) (w : World) (hr : Kd.C bK w A s.f2.length s.f2) (hc : s.f2.length ≤ cp) :
  Calls Tryz.prog 5 #[.agg #[.int .i64 s.f0, .int .i64 s.f1, .slice A s.f2.length cp]] w fun e w' => e = .returned (.int .i64 (jB s)) ∧ Below w.heap.size w w' := by
 have jm := Tryz.underlying29;have uO := Tryz.underlying27;obtain ⟨W1, hW1⟩ : ∃ W1, W1 = w.alloc (.cells #[.int .i64 s.f0, .int .i64 s.f1, .slice A s.f2.length cp] 29) := ⟨_, rfl⟩;have hB1 : Below w.heap.size w W1 := by rw [hW1]; exact aW (Below.refl _ _) _
 have hbx : W1.heap[w.heap.size]? = some (.cells #[.int .i64 s.f0, .int .i64 s.f1, .slice A s.f2.length cp] 29 (0, 0)) := by rw [hW1]; exact heap_alloc_new w _
 have jo := Zd.mk hbx;have HB1 := Zd.mk hB1;have HR := Zd.mk hr;have x0 : W1.cell? ⟨w.heap.size, 0, none⟩ = some (.int .i64 s.f0) := (aj hbx 0).trans rfl;have x1 : W1.cell? ⟨w.heap.size, 1, none⟩ = some (.int .i64 s.f1) := (aj hbx 1).trans rfl;have x2 : W1.cell? ⟨w.heap.size, 2, none⟩ = some (.slice A s.f2.length cp) := (aj hbx 2).trans rfl;obtain ⟨k1, hk1⟩ := (Rs s).rounds;have dR := Zd.mk hk1;have HM := Zd.mk (@kZ s);have HSI := Zd.mk (show jB s = if bW s = 0 then 2 ^ az s else 0 from rfl);have zx := Zd.mk (show lh s = if bW s = 0 then bU s else [] from rfl);have Jl := Zd.mk (fun W (h : Below w.heap.size w W) => Rv s A cp W (Kd.aQ hr h) hc);have oo := Zd.mk (iW s);generalize lh s = T at *;generalize jB s = R at *;generalize bW s = mv at *;clear hbx hB1 hr hk1;by_cases hm : mv = 0
 ·have hX : R = 2 ^ az s := by rw [HSI.out, if_pos hm]
  have LH : T.length = az s := by rw [zx.out, if_pos hm, oo.out]
  have hz := HM.out hm;have HX := Zd.mk (hX.trans (asx (az s) hz.2.2.1).symm);have qg := Zd.mk LH;have em : (mv != 0) = false := by rw [hm]; rfl
  have ht8 : az s ≤ 8 := hz.2.2.1;have hw64 : IntKind.u64.wrap (az s : Int) = (az s : Int) := Hz ag ag;clear hX hm hz LH;go_enter Tryz.func5, Tryz.ntmps5;go_upto_region 1 with fail
  rw [← hW1];clear hW1;go_wp2_with (first | (go_at_call 12; refine (oH.calls k1 s.f0 s.f1 A cp s.f2 mv _ (Kd.aQ HR.out HB1.out) hc dR.out).mono ?_; rintro e w1 ⟨rfl, hB⟩; have HB := Zd.mk (HB1.out.trans (hB.mono HB1.out.size)); have qP := Zd.mk ((hB.block _ (aT jo.out)).trans jo.out); have y0 := (aj qP.out 0).trans rfl; have y1 := (aj qP.out 1).trans rfl; have y2 := (aj qP.out 2).trans rfl; clear hB) | (go_at_call 15; refine (Jl.out _ HB.out).mono ?_; rintro e w2 ⟨v2, rfl, hT, hB2⟩; obtain ⟨A2, c2, e2, hl2, _⟩ := Rt hT hB2; subst e2; have HB2 := Zd.mk (HB.out.trans (hB2.mono HB.out.size)); clear hT hB2; rw [qg.out]));go_ret;exact ⟨by rw [HX.out]; rfl, HB2.out⟩
 ·have HX := Zd.mk (show R = 0 from by rw [HSI.out, if_neg hm]);have em : (mv != 0) = true := by simpa using hm
  clear hm;go_enter Tryz.func5, Tryz.ntmps5;go_upto_region 1 with fail
  rw [← hW1];clear hW1;go_wp2_with (go_at_call 12; refine (oH.calls k1 s.f0 s.f1 A cp s.f2 mv _ (Kd.aQ HR.out HB1.out) hc dR.out).mono ?_; rintro e w1 ⟨rfl, hB⟩; have HB := Zd.mk (HB1.out.trans (hB.mono HB1.out.size)); clear hB);go_ret;exact ⟨by rw [HX.out]; rfl, HB.out⟩
def Gu.f (av : Int) (ay : Int) (af : List ak) : Option Int := some (jB ⟨av, ay, af⟩)
theorem Gu.calls (av : Int) (ay : Int) (aM : Option Addr) (aC : Nat) (af : List ak) (r : Int) (w : World) (dn : Kd.C bK w aM af.length af) (dw : af.length ≤ aC) (h : Gu.f av ay af = some r) :
  Calls Tryz.prog 5 #[.agg #[.int .i64 av, .int .i64 ay, .slice aM af.length aC]] w fun e w' => e = .returned (.int .i64 r) ∧ Below w.heap.size w w' := by
 obtain rfl := Option.some.inj h;exact Jk ⟨av, ay, af⟩ aM aC w dn dw
end Go.Proofs.YtapejnikpmfddaaGreat.X
namespace Go.Proofs.YtapejnikpmfddaaGreat.P
open Go.RowKit Go.Proofs.aI.bM Go.Proofs.aI.dG Go.Proofs.aI.dM
attribute [local go_sem] nE nG nH nI nW nX nY nZ

open Go.Proofs.YtapejnikpmfddaaGreat.X
def MN.f (av : Int) (ay : Int) (af : List (ak)) (a1 : Int) (a2 : Int) : Option (Bool) := if a1 < 0 then (some false) else ((Gu.f av ay af).bind fun t300 => (if a1 ≥ t300 then (some false) else ((Cq.f av ay af a1 a2 0).bind fun MO => (some MO.1))))
theorem MN.calls (av : Int) (ay : Int) (aM : Option Addr) (aC : Nat) (af : List (ak)) (a1 : Int) (a2 : Int) (r : Bool) (w : World) (dn : Kd.C bK w aM af.length af) (dw : af.length ≤ aC) (h : MN.f av ay af a1 a2 = some r) :
  Calls Tryz.prog 25 #[.agg #[.int .i64 av, .int .i64 ay, .slice aM af.length aC], .int .i64 a1, .int .u32 a2] w fun e w' => e = .returned (.bool r) ∧ Below w.heap.size w w' := by
 have Ap := Tryz.underlying29;have fI := Zd.mk dn;have jw := Zd.mk dw;clear dn dw;have HB := Zd.mk (Below.refl w.heap.size w);have H : (if a1 < 0 then (some false) else ((Gu.f av ay af).bind fun t300 => (if a1 ≥ t300 then (some false) else ((Cq.f av ay af a1 a2 0).bind fun MO => (some MO.1))))) = some r := h;clear h;by_cases c4 : a1 < 0
 ·rw [if_pos c4] at H;have CP : decide (a1 < 0) = true := decide_eq_true c4;clear c4;obtain rfl := Option.some.inj H;go_enter Tryz.func25, Tryz.ntmps25;go_wp2_with (first | ((with_reducible refine gH (N := 3) rfl ?_); refine gG ?hg (N := 3) ?hd (cs := #[.int .i64 av, .int .i64 ay, .slice aM af.length aC]) (t := 29) ?hr ?_; (case hd => rfl); (case hg => rfl); (case hr => first | (go_simp; done) | (go_simp; rfl)); intro o9 hg w5 bG hb; have aJ := Zd.mk (df B_ hb); have aK := Zd.mk (bG); have aU := Zd.mk ((by rw [hg]; exact (bP B_) : w.heap.size ≤ o9)); have aZ := Zd.mk ((by rw [hg]; exact (bP B_) : w.heap.size ≤ o9)); clear HB; have HB := aJ; have lF := aK; have agT := aU; have agU := aZ; clear aJ aK aU aZ; clear hb bG hg));go_ret;exact ⟨by first | rfl | (simp [bS, bT] <;> rfl) | (simp [*, bS, bT] <;> rfl), B_⟩
 ·rw [if_neg c4] at H;have CP : decide (a1 < 0) = false := decide_eq_false c4;clear c4;replace H := Option.bind_eq_some_iff.mp H;obtain ⟨t300, Ka, H⟩ := H;replace H : (if a1 ≥ t300 then (some false) else ((Cq.f av ay af a1 a2 0).bind fun MO => (some MO.1))) = some r := H;have A6 := Zd.mk Ka;clear Ka;by_cases c7 : a1 ≥ t300
  ·rw [if_pos c7] at H;have uI : decide (t300 ≤ a1) = true := decide_eq_true c7;clear c7;obtain rfl := Option.some.inj H;go_enter Tryz.func25, Tryz.ntmps25;go_wp2_with (first | ((with_reducible refine gH (N := 3) rfl ?_); refine gG ?hg (N := 3) ?hd (cs := #[.int .i64 av, .int .i64 ay, .slice aM af.length aC]) (t := 29) ?hr ?_; (case hd => rfl); (case hg => rfl); (case hr => first | (go_simp; done) | (go_simp; rfl)); intro o9 hg w8 bG hb; have aJ := Zd.mk (df B_ hb); have aK := Zd.mk (bG); have aU := Zd.mk ((by rw [hg]; exact (bP B_) : w.heap.size ≤ o9)); have aZ := Zd.mk ((by rw [hg]; exact (bP B_) : w.heap.size ≤ o9)); clear HB; have HB := aJ; have lF := aK; have agT := aU; have agU := aZ; clear aJ aK aU aZ; clear hb bG hg; have zT : w8.cell? ⟨o9, 0, none⟩ = some (.int .i64 av) := (aj lF.out 0).trans rfl; have zU : w8.cell? ⟨o9, 1, none⟩ = some (.int .i64 ay) := (aj lF.out 1).trans rfl; have Bl : w8.cell? ⟨o9, 2, none⟩ = some (.slice aM af.length aC) := (aj lF.out 2).trans rfl; have zV := aN lF.out 0; have zW := aN lF.out 1; have Bn := aN lF.out 2) | (go_at_call 5; (with_reducible refine (Gu.calls av ay _ _ af t300 _ ?side1 ?side2 A6.out).mono ?_); (case side1 => exact Kd.aQ fI.out B_); (case side2 => exact jw.out); rintro e tY ⟨rfl, hb⟩; have aJ := Zd.mk (eU (g := o9) (o := .cells #[.int .i64 av, .int .i64 ay, .slice aM af.length aC] 29 (0, 0)) K_ hb); have aK := Zd.mk (df B_ hb); clear lF; clear HB; have lF := aJ; have HB := aK; clear aJ aK; (try clear hb); (try clear hb2); (try clear hk); (try clear hi)));go_ret;exact ⟨by first | rfl | (simp [bS, bT] <;> rfl) | (simp [*, bS, bT] <;> rfl), B_⟩
  ·rw [if_neg c7] at H;have uI : decide (t300 ≤ a1) = false := decide_eq_false c7;clear c7;replace H := Option.bind_eq_some_iff.mp H;obtain ⟨⟨t301, t302⟩, agV, H⟩ := H;replace H : (some t301) = some r := H;have A11 := Zd.mk agV;clear agV;obtain rfl := Option.some.inj H;go_enter Tryz.func25, Tryz.ntmps25;go_wp2_with (first | ((with_reducible refine gH (N := 3) rfl ?_); refine gG ?hg (N := 3) ?hd (cs := #[.int .i64 av, .int .i64 ay, .slice aM af.length aC]) (t := 29) ?hr ?_; (case hd => rfl); (case hg => rfl); (case hr => first | (go_simp; done) | (go_simp; rfl)); intro o9 hg BB bG hb; have aJ := Zd.mk (df B_ hb); have aK := Zd.mk (bG); have aU := Zd.mk ((by rw [hg]; exact (bP B_) : w.heap.size ≤ o9)); have aZ := Zd.mk ((by rw [hg]; exact (bP B_) : w.heap.size ≤ o9)); clear HB; have HB := aJ; have lF := aK; have agT := aU; have agU := aZ; clear aJ aK aU aZ; clear hb bG hg; have PQ : BB.cell? ⟨o9, 0, none⟩ = some (.int .i64 av) := (aj lF.out 0).trans rfl; have PR : BB.cell? ⟨o9, 1, none⟩ = some (.int .i64 ay) := (aj lF.out 1).trans rfl; have PS : BB.cell? ⟨o9, 2, none⟩ = some (.slice aM af.length aC) := (aj lF.out 2).trans rfl; have PT := aN lF.out 0; have PU := aN lF.out 1; have PV := aN lF.out 2) | (go_at_call 5; (with_reducible refine (Gu.calls av ay _ _ af t300 _ ?side1 ?side2 A6.out).mono ?_); (case side1 => exact Kd.aQ fI.out B_); (case side2 => exact jw.out); rintro e tZ ⟨rfl, hb⟩; have aJ := Zd.mk (eU (g := o9) (o := .cells #[.int .i64 av, .int .i64 ay, .slice aM af.length aC] 29 (0, 0)) K_ hb); have aK := Zd.mk (df B_ hb); clear lF; clear HB; have lF := aJ; have HB := aK; clear aJ aK; (try clear hb); (try clear hb2); (try clear hk); (try clear hi); have aw1 : tZ.cell? ⟨o9, 0, none⟩ = some (.int .i64 av) := (aj lF.out 0).trans rfl; have aw2 : tZ.cell? ⟨o9, 1, none⟩ = some (.int .i64 ay) := (aj lF.out 1).trans rfl; have aw3 : tZ.cell? ⟨o9, 2, none⟩ = some (.slice aM af.length aC) := (aj lF.out 2).trans rfl; have aw4 := aN lF.out 0; have aw5 := aN lF.out 1; have aw6 := aN lF.out 2) | ((with_reducible refine kX (f := 49) rfl ?_); refine kW (some 21) rfl rfl Tryz.func49 aa rfl #[.agg #[.int .i64 av, .int .i64 ay, .slice aM af.length aC], .int .i64 a1, .int .u32 a2, .int .i64 0] rfl (by (try simp only [List.map_toArray, List.map_cons, List.map_nil]); first | done | rfl | (simp only [List.length_drop, List.length_take]; rfl)) ?_; (with_reducible refine (Cq.calls av ay _ _ af a1 a2 0 t301 t302 _ ?side1 ?side2 A11.out).mono ?_); (case side1 => exact Kd.aQ fI.out B_); (case side2 => exact jw.out); rintro e w16 ⟨rfl, hb⟩; refine ⟨_, rfl, ?_⟩; have aJ := Zd.mk (eU (g := o9) (o := .cells #[.int .i64 av, .int .i64 ay, .slice aM af.length aC] 29 (0, 0)) K_ hb); have aK := Zd.mk (df B_ hb); clear lF; clear HB; have lF := aJ; have HB := aK; clear aJ aK; (try clear hb); (try clear hb2); (try clear hk); (try clear hi)));go_ret;exact ⟨by first | rfl | (simp [bS, bT] <;> rfl) | (simp [*, bS, bT] <;> rfl), B_⟩

attribute [local go_sem] nE nG nH nI nW nX nY nZ

def wW.l0 : Nat → List Bool → List Int → Int → Int → Option (Bool)
 | 0, _, _, _, _ => none
 | k + 1, x1, x7, x8, x9 => if x9 < x8 then (if 0 ≤ x9 then (if x9 < (x7.length : Int) then (if 0 ≤ (rd x7 x9) then (if (rd x7 x9) < (x1.length : Int) then (if qE false x1 (rd x7 x9) = true then (some true) else (wW.l0 k x1 x7 x8 (wrap64 (x9 + 1)))) else (none)) else (none)) else (none)) else (none)) else (some false)
def wW.f (k : Nat) (l0 : List Int) (l1 : List Bool) : Option (Bool) := wW.l0 k l1 l0 (l0.length : Int) 0
theorem wW.calls (k : Nat) (A0 : Option Addr) (c0 : Nat) (l0 : List Int) (A1 : Option Addr) (c1 : Nat) (l1 : List Bool) (r : Bool) (w : World) (hr0 : Kd.C (Kd.int .i64) w A0 l0.length l0) (hc0 : l0.length ≤ c0) (hr1 : Kd.C Kd.bool w A1 l1.length l1) (hc1 : l1.length ≤ c1) (h : wW.f k l0 l1 = some r) :
  Calls Tryz.prog 23 #[.slice A0 l0.length c0, .slice A1 l1.length c1] w fun e w' => e = .returned (.bool r) ∧ bC w w' := by
 have pQ := Zd.mk hr0;have EH := Zd.mk hc0;clear hr0 hc0;have HR1 := Zd.mk hr1;have tN := Zd.mk hc1;clear hr1 hc1;have H : (wW.l0 k l1 l0 (l0.length : Int) 0) = some r := h;clear h;have H' := Zd.mk H;clear H;go_enter Tryz.func23, Tryz.ntmps23;go_wp2;go_loopg [9] k (fun kq v9 w' => ∃ (jE : Int), v9 = .int .i64 jE ∧ Zd (wW.l0 kq l1 l0 (l0.length : Int) jE = some r) ∧ Zd (kq ≤ k) ∧ bC w w')
 case atStart => exact ⟨(0), (by first | rfl | (simp; done) | (simp [*]; done)), H', ⟨Nat.le_refl _⟩, by repeat (first | exact bC.refl _ | apply bC.step)⟩
 case round =>
  clear H'
  try clear c1
  try clear c2
  try clear p2
  obtain ⟨jE, rfl, HA, dR, ⟨m1, rfl⟩⟩ := hrel;cases gk with
  | zero => exact absurd HA.out (by simp [wW.l0])
  | succ k1 =>
   have H := HA.out;clear HA;simp only [wW.l0] at H;by_cases c3 : jE < (l0.length : Int)
   ·rw [if_pos c3] at H;have gN : decide (jE < (l0.length : Int)) = true := decide_eq_true c3;clear c3;by_cases c4 : 0 ≤ jE
    ·rw [if_pos c4] at H;have CP : decide (0 ≤ jE) = true := decide_eq_true c4;clear c4;by_cases c5 : jE < (l0.length : Int)
     ·rw [if_pos c5] at H;have yz : decide (jE < (l0.length : Int)) = true := decide_eq_true c5;clear c5;by_cases c6 : 0 ≤ (rd l0 jE)
      ·rw [if_pos c6] at H;have gI : decide (0 ≤ (rd l0 jE)) = true := decide_eq_true c6;clear c6;by_cases c7 : (rd l0 jE) < (l1.length : Int)
       ·rw [if_pos c7] at H;have uI : decide ((rd l0 jE) < (l1.length : Int)) = true := decide_eq_true c7;clear c7;obtain ⟨bq8, YF⟩ : ∃ b_ : Bool, b_ = (qE false l1 (rd l0 jE)) := ⟨_, rfl⟩;replace H : (if bq8 = true then (some true) else (wW.l0 k1 l1 l0 (l0.length : Int) (wrap64 (jE + 1)))) = some r := by rw [← YF] at H; exact H
        have agW := Zd.mk YF;clear YF;by_cases c9 : bq8 = true
        ·subst c9;have H1 : (some true) = some r := by rw [if_pos rfl] at H; exact H
         clear H;have H := H1;clear H1;obtain rfl := Option.some.inj H;have Gv : 0 ≤ (jE : Int) := of_decide_eq_true (by first | (with_reducible assumption) | assumption);have Gw : jE < (l0.length : Int) := of_decide_eq_true (by first | (with_reducible assumption) | assumption);obtain ⟨asy, e297, asz⟩ := Kd.xx pQ.out jE Gv Gw;cases e297;replace Gv := eq_true Gv;replace Gw := eq_true Gw;have Gx : 0 ≤ ((rd l0 jE) : Int) := of_decide_eq_true (by first | (with_reducible assumption) | assumption);have Gy : (rd l0 jE) < (l1.length : Int) := of_decide_eq_true (by first | (with_reducible assumption) | assumption);obtain ⟨asA, e298, YG⟩ := Kd.TC HR1.out (rd l0 jE) Gx Gy
         (try rw [← agW.out] at YG)
         cases e298
         replace Gx := eq_true Gx;replace Gy := eq_true Gy;go_wp2;go_ret;exact ⟨by first | rfl | (simp; done) | (simp [*]; done), by repeat (first | exact bC.refl _ | apply bC.step)⟩
        ·replace c9 := Bool.eq_false_iff.mpr c9;subst c9;have H1 : (wW.l0 k1 l1 l0 (l0.length : Int) (wrap64 (jE + 1))) = some r := by rw [if_neg (show ¬ (false = true) by decide)] at H; exact H
         clear H;have H := H1;clear H1;have H' := Zd.mk H;clear H;have Gv : 0 ≤ (jE : Int) := of_decide_eq_true (by first | (with_reducible assumption) | assumption);have Gw : jE < (l0.length : Int) := of_decide_eq_true (by first | (with_reducible assumption) | assumption);obtain ⟨asy, e297, asz⟩ := Kd.xx pQ.out jE Gv Gw;cases e297;replace Gv := eq_true Gv;replace Gw := eq_true Gw;have Gx : 0 ≤ ((rd l0 jE) : Int) := of_decide_eq_true (by first | (with_reducible assumption) | assumption);have Gy : (rd l0 jE) < (l1.length : Int) := of_decide_eq_true (by first | (with_reducible assumption) | assumption);obtain ⟨asA, e298, YG⟩ := Kd.TC HR1.out (rd l0 jE) Gx Gy
         (try rw [← agW.out] at YG)
         cases e298
         replace Gx := eq_true Gx;replace Gy := eq_true Gy;go_wp2;go_roundg k1
         case measure => have := dR.out; omega
         case rel => exact ⟨(wrap64 (jE + 1)), (by first | rfl | (simp; done) | (simp [*]; done)), H', ⟨by have := dR.out; omega⟩, by repeat (first | exact bC.refl _ | apply bC.step)⟩
       ·rw [if_neg c7] at H;exact absurd H (by simp)
      ·rw [if_neg c6] at H;exact absurd H (by simp)
     ·rw [if_neg c5] at H;exact absurd H (by simp)
    ·rw [if_neg c4] at H;exact absurd H (by simp)
   ·rw [if_neg c3] at H;have gN : decide (jE < (l0.length : Int)) = false := decide_eq_false c3;clear c3;obtain rfl := Option.some.inj H;go_wp2;go_ret;exact ⟨by first | rfl | (simp; done) | (simp [*]; done), by repeat (first | exact bC.refl _ | apply bC.step)⟩

end Go.Proofs.YtapejnikpmfddaaGreat.P
namespace Go.Proofs.YtapejnikpmfddaaGreat.X
open Go.RowKit Go.Proofs.aI.bM Go.Proofs.aI.dG Go.Proofs.aI.dM
open Go.Proofs.YtapejnikpmfddaaGreat.P
theorem asB (m : Int) (w : World) (h0 : 0 < m) (h1 : m < 1000000000) :
  Calls Tryz.prog 52 #[.slice none 0 0, .int .i64 m] w fun e w' => ∃ v, e = .returned v ∧ Kd.R (Kd.int .i64) 3 w' w.heap.size (fun _ => True) v [] ∧ Below w.heap.size w w' := by
 have jf := Tryz.underlying23;have fM := Tryz.underlying3;have hnn : ¬ m < 0 := by omega
 go_enter Tryz.func52, Tryz.ntmps52;go_wp2_with ((with_reducible refine lL (b := .append) (xs := #[.tmp 20, .tmp 21]) rfl ?_); at_builtin; refine Kd.aaU (Kd.int .i64) (w0 := w) w.heap.size rfl (.tmp 20) (.tmp 21) 23 3 3 (.int .i64 0) 8 rfl jf fM nR rfl ai ai (.slice none 0 0) [] 0 (kx := .i64) m (fun _ => True) rfl rfl rfl (fun _ _ => trivial) (Kd.lK _ _ _ _ _) ag (Below.refl _ _) (Nat.le_refl _) (by simp; omega) ?_; intro v1 w1 hR hB hg hat; obtain ⟨A1, c1, hv1⟩ := Kd.vX hR; subst hv1; have HR := Zd.mk hR; have HB := Zd.mk hB; clear hR hB hg hat);go_ret;exact ⟨_, rfl, by have := Kd.NN (m := 0) HR.out (by simp); simpa using this, HB.out⟩
theorem asC (gb : Nat) (A1 A2 : Option Addr) (c1 c2 : Nat) (l1 l2 : List Int) (w : World) (hb : w.heap[gb]? = some (.cells #[.slice A1 l1.length c1, .slice A2 l2.length c2] 23 (0, 0))) (hr1 : Kd.C (Kd.int .i64) w A1 l1.length l1) (hr2 : Kd.C (Kd.int .i64) w A2 l2.length l2) (h0 : 0 < l1.length + l2.length) (h1 : l1.length + l2.length < 1000000000) :
  Calls Tryz.prog 32 #[.slice (some ⟨gb, 0, none⟩) 2 2] w fun e w' => ∃ v, e = .returned v ∧ Kd.R (Kd.int .i64) 3 w' w.heap.size (fun _ => True) v (l1 ++ l2) ∧ Below w.heap.size w w' := by
 have jf := Tryz.underlying23;have aox := Tryz.underlying24;have fM := Tryz.underlying3;have hgb : gb < w.heap.size := aT hb;have x0 : w.cell? ⟨gb, 0, none⟩ = some (.slice A1 l1.length c1) := (aj hb 0).trans rfl;have x1 : w.cell? ⟨gb, 1, none⟩ = some (.slice A2 l2.length c2) := (aj hb 1).trans rfl;have R1 := Zd.mk hr1;have R2 := Zd.mk hr2;have X0 := Zd.mk x0;have X1 := Zd.mk x1;clear hb hr1 hr2 x0 x1;go_enter Tryz.func32, Tryz.ntmps32;go_wp2;go_loopg [3, 11] 2 (fun kq v3 v11 w' => (kq = 2 ∧ v3 = .int .i64 0 ∧ v11 = .int .i64 0 ∧ w' = w) ∨ (kq = 1 ∧ v3 = .int .i64 (l1.length : Int) ∧ v11 = .int .i64 1 ∧ w' = w) ∨ (kq = 0 ∧ v3 = .int .i64 ((l1.length : Int) + (l2.length : Int)) ∧ v11 = .int .i64 2 ∧ w' = w))
 case atStart => exact .inl ⟨rfl, rfl, rfl, rfl⟩
 case round =>
  rcases hrel with ⟨rfl, rfl, rfl, rfl⟩ | ⟨rfl, rfl, rfl, rfl⟩ | ⟨rfl, rfl, rfl, rfl⟩
  ·have y0 := X0.out;have hn : ¬ ((l1.length : Int) < 0) := by omega
   go_wp2;go_roundg 1
   case measure => omega
   case rel => exact .inr (.inl ⟨rfl, by first | rfl | (simp; done), rfl, rfl⟩)
  ·have y1 := X1.out;have hn : ¬ ((l1.length : Int) + (l2.length : Int) < 0) := by omega
   go_wp2;go_roundg 0
   case measure => omega
   case rel => exact .inr (.inr ⟨rfl, by first | rfl | (simp; done), rfl, rfl⟩)
  ·obtain ⟨WW, rfl⟩ : ∃ W : World, W = wr := ⟨_, rfl⟩;go_wp2_with (go_at_call 52; refine (asB _ _ ag ag).mono ?_; rintro e w1 ⟨v, rfl, hR, hB⟩; have HR := Zd.mk hR; have HB := Zd.mk hB; clear hR hB);go_loopg [6, 27] 2 (fun kq v6 v27 w' => Zd (Below WW.heap.size WW w') ∧ ((kq = 2 ∧ v27 = .int .i64 0 ∧ Zd (Kd.R (Kd.int .i64) 3 w' WW.heap.size (fun _ => True) v6 [])) ∨ (kq = 1 ∧ v27 = .int .i64 1 ∧ Zd (Kd.R (Kd.int .i64) 3 w' WW.heap.size (fun _ => True) v6 l1)) ∨ (kq = 0 ∧ v27 = .int .i64 2 ∧ Zd (Kd.R (Kd.int .i64) 3 w' WW.heap.size (fun _ => True) v6 (l1 ++ l2)))))
   case atStart => exact ⟨HB, .inl ⟨rfl, rfl, HR⟩⟩
   case round =>
    obtain ⟨lS, hrel⟩ := hrel;rcases hrel with ⟨rfl, rfl, HV⟩ | ⟨rfl, rfl, HV⟩ | ⟨rfl, rfl, HV⟩
    ·have y0 := (lS.out.cell (World.block_lt_of_cell? _ _ X0.out)).trans X0.out;go_wp2_with (first | ((with_reducible refine lL (b := .append) (xs := #[.tmp 31, .tmp 32]) rfl ?_); at_builtin; refine Kd.Ez (Value.int .i64) (0 : Int) (h1 := fun _ => rfl) (w0 := WW) WW.heap.size rfl (.tmp 31) (.tmp 32) 23 3 (.int .i64 0) 8 rfl jf nR rfl ai u6 [] l1 A1 l1.length c1 (fun _ => True) rfl rfl (fun _ _ => trivial) HV.out (Kd.aQ R1.out lS.out) lS.out lS.out.size (by first | omega | (simp; omega)) ?_; intro v1 w2 hR hB hg hat; have jI := Zd.mk hR; have Bq := Zd.mk hB; clear hR hB hg hat));go_roundg 1
     case measure => omega
     case rel => exact ⟨Bq, .inr (.inl ⟨rfl, rfl, jI⟩)⟩
    ·have y1 := (lS.out.cell (World.block_lt_of_cell? _ _ X1.out)).trans X1.out;go_wp2_with (first | ((with_reducible refine lL (b := .append) (xs := #[.tmp 31, .tmp 32]) rfl ?_); at_builtin; refine Kd.Ez (Value.int .i64) (0 : Int) (h1 := fun _ => rfl) (w0 := WW) WW.heap.size rfl (.tmp 31) (.tmp 32) 23 3 (.int .i64 0) 8 rfl jf nR rfl ai u6 l1 l2 A2 l2.length c2 (fun _ => True) rfl rfl (fun _ _ => trivial) HV.out (Kd.aQ R2.out lS.out) lS.out lS.out.size (by first | omega | (simp; omega)) ?_; intro v1 w2 hR hB hg hat; have jI := Zd.mk hR; have Bq := Zd.mk hB; clear hR hB hg hat));go_roundg 0
     case measure => omega
     case rel => exact ⟨Bq, .inr (.inr ⟨rfl, rfl, jI⟩)⟩
    ·go_wp2;go_ret;exact ⟨_, rfl, HV.out, lS.out⟩
theorem agX (A : Option Addr) (c : Nat) (l : List Int) (w : World) (hr : Kd.C (Kd.int .u32) w A l.length l) (hl : l.length < 1000000000) :
  Calls Tryz.prog 34 #[.slice A l.length c] w fun e w' => ∃ v, e = .returned v ∧ Kd.R (Kd.int .u32) 44 w' w.heap.size (fun _ => True) v l ∧ Below w.heap.size w w' := by
 have jf := Tryz.underlying22;have HR := Zd.mk hr;cases A with
 | none =>
  have hl0 : l = [] := by
   match l, hr with
   | [], _ => rfl
   | a :: r, hr => obtain ⟨ad, e, _⟩ := hr.2.2 (by simp); cases e
  have HL := Zd.mk hl0;have hq : ∀ (n : Nat) (W : World), (binOp BinOp.eql 22 (.slice none n c) (.slice none 0 0)).run Tryz.prog W = .ok (.bool true) W := fun _ _ => by kernel_rfl
  clear hr hl0;go_enter Tryz.func34, Tryz.ntmps34;go_wp2;go_ret;exact ⟨_, rfl, by rw [HL.out]; exact Kd.lK _ _ _ _ _, Below.refl _ _⟩
 | some ad =>
  have HO := Zd.mk (show Kd.R (Kd.int .u32) 44 (w.alloc (.cells #[] 44)) w.heap.size (fun _ => True) (.slice (some ⟨w.heap.size, 0, none⟩) 0 0) [] from
   Kd.vY (enc := Value.int .u32) (h1 := fun _ => rfl) ⟨by simp [encs], .inr ⟨w.heap.size, 0, #[], rfl, Nat.le_refl _, heap_alloc_new w _, Nat.le_refl _, by decide, rfl, rfl⟩⟩ (fun _ _ => trivial))
  have HB1 := Zd.mk (aW (Below.refl w.heap.size w) (.cells #[] 44));have hq : ∀ (n : Nat) (W : World), (binOp BinOp.eql 22 (.slice (some ad) n c) (.slice none 0 0)).run Tryz.prog W = .ok (.bool false) W := fun _ _ => by kernel_rfl
  clear hr;go_enter Tryz.func34, Tryz.ntmps34;go_wp2_with ((with_reducible refine lL (b := .append) (xs := #[.tmp 5, .tmp 6]) rfl ?_); at_builtin; refine Kd.Ez (Value.int .u32) (0 : Int) (h1 := fun _ => rfl) (w0 := w) w.heap.size rfl (.tmp 5) (.tmp 6) 22 44 (.int .u32 0) 4 rfl jf EU rfl ai (.slice (some ⟨w.heap.size, 0, none⟩) 0 0) [] l (some ad) l.length c (fun _ => True) rfl rfl (fun _ _ => trivial) HO.out (Kd.aQ HR.out HB1.out) HB1.out HB1.out.size (by first | omega | (simp; omega)) ?_; intro v1 w2 hR hB hg hat; have jI := Zd.mk hR; have Bq := Zd.mk hB; clear hR hB hg hat);go_ret;exact ⟨_, rfl, jI.out, Bq.out⟩
end Go.Proofs.YtapejnikpmfddaaGreat.X
