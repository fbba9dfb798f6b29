/- A part of the claim SearchForms. -/
import Derived.Test.YtapejnikpmfddaaGreatQSearchFormsr
set_option linter.unusedVariables false
set_option linter.unusedSimpArgs false
set_option maxHeartbeats 12800000
set_option maxRecDepth 100000
namespace Go.Proofs.YtapejnikpmfddaaGreat.X
open Go.RowKit Go.Proofs.aI.bM Go.Proofs.aI.dG Go.Proofs.aI.dM
open Go.Proofs.YtapejnikpmfddaaGreat.P Go.Proofs.YtapejnikpmfddaaGreat.gY
attribute [local go_sem] nE nG nH nI
def vV.T44 : Bool × List (List Nat × List Nat) := (true, [([], []), ([], []), ([], []), ([], []), ([2, 3], [2, 3]), ([4], [4]), ([5], [5]), ([6], [6]), ([7, 6, 6], [6, 7]), ([8, 6], [6, 8]), ([9, 6], [6, 9]), ([10, 8, 6], [6, 10]), ([11], [11]), ([11], [11]), ([11], [11]), ([11], [11]), ([14, 15, 11], [11, 14, 15]), ([11], [11]), ([17, 11], [11, 17]), ([11], [11]), ([11], [11]), ([19, 20, 11], [11, 19, 20]), ([18, 21, 11], [11, 18, 21]), ([22, 11], [11, 22]), ([12, 13, 16, 23, 11, 11], [11, 12, 13, 16, 23]), ([11, 24, 6], [6, 11, 24]), ([6, 25], [6, 25]), ([26, 24], [26]), ([27], [27]), ([27], [27]), ([28, 29, 27], [27, 28, 29]), ([30, 27], [27, 30]), ([27], [27]), ([31, 32, 27, 27], [27, 31, 32]), ([27, 33], [27, 33]), ([0, 1, 0, 1, 2, 3, 4, 5, 6, 7, 8, 9, 10, 11, 12, 13, 14, 15, 16, 17, 18, 19, 20, 21, 22, 23, 24, 25, 26, 27, 28, 29, 30, 31, 32, 33, 34], [0, 1]), ([35, 34, 33, 0, 1, 2, 3, 4, 5, 6, 7, 8, 9, 10, 11, 12, 13, 14, 15, 16, 17, 18, 19, 20, 21, 22, 23, 24, 25, 26, 27, 28, 29, 30, 31, 32, 33, 34], [34, 35])])
def vV.B44 : List Nat := [0, 0, 0, 0, 12, 28, 60, 124, 252, 508, 1020, 2044, 4092, 4092, 4092, 4092, 53244, 4092, 135164, 4092, 4092, 1576956, 4067324, 8261628, 16777212, 33554428, 67108860, 134217724, 268435452, 268435452, 1073741820, 2147483644, 268435452, 8589934588, 17179869180, 34359738367, 68719476735]
theorem vV.Sr : dh .any (opsOf Tryz.f8 44) = vV.T44 := by kernel_rfl
theorem vV.Su : ik vV.T44.2 vV.B44 = true := by kernel_rfl
def ry (N : Nat) (full : Nat → List Nat) (p : Nat) (part : List Nat) : List (List Nat) := (List.range N).map (fun x => if x < p then full x else if x = p then part else [])
section
variable {N p : Nat} {full : Nat → List Nat} {part : List Nat}
theorem GK : (ry N full p part).length = N := by simp [ry]
theorem GL {x : Nat} (h : x < N) : (ry N full p part).getD x [] = if x < p then full x else if x = p then part else [] := by
 unfold ry;rw [List.getD_eq_getElem?_getD, List.getElem?_map, List.getElem?_range h]; rfl
theorem atN (h : p < N) : (ry N full p part).getD p [] = part := by rw [GL h, if_neg (Nat.lt_irrefl _), if_pos rfl]
theorem Sv {l l' : List (List Nat)} (h1 : l.length = N) (h2 : l'.length = N) (h : ∀ x, x < N → l.getD x [] = l'.getD x []) : l = l' := by
 apply List.ext_getElem (by rw [h1, h2])
 intro i a b;have := h i ag
 rwa [List.getD_eq_getElem?_getD, List.getD_eq_getElem?_getD, List.getElem?_eq_getElem a, List.getElem?_eq_getElem b] at this
theorem atO : ry N full 0 [] = List.replicate N [] := by
 refine Sv GK (by simp) (fun x hx => ?_);rw [GL hx, if_neg (Nat.not_lt_zero _), List.getD_eq_getElem?_getD, List.getElem?_replicate, if_pos hx];split <;> rfl
theorem atP : ry N full p (full p) = ry N full (p + 1) [] := by
 refine Sv GK GK (fun x hx => ?_);rw [GL hx, GL hx];by_cases h1 : x < p
 ·rw [if_pos h1, if_pos ag]
 ·by_cases h2 : x = p
  ·rw [if_neg h1, if_pos h2, if_pos ag, h2]
  ·rw [if_neg h1, if_neg h2, if_neg ag];split <;> rfl
theorem atQ (h : p < N) (l : List Nat) : (ry N full p part).set p l = ry N full p l := by
 refine Sv (by rw [List.length_set, GK]) GK (fun x hx => ?_);rw [GL hx, List.getD_eq_getElem?_getD, List.getElem?_set, GK];by_cases e : p = x
 ·subst e;rw [if_pos rfl, if_pos hx, if_neg (Nat.lt_irrefl _), if_pos rfl]; rfl
 ·rw [if_neg e, ← List.getD_eq_getElem?_getD, GL hx];split
  ·rfl
  ·rw [if_neg (fun k => e k.symm), if_neg (fun k => e k.symm)]
theorem atS : ry N full N [] = (List.range N).map full := by
 refine Sv GK (by simp) (fun x hx => ?_);rw [GL hx, if_pos hx, List.getD_eq_getElem?_getD, List.getElem?_map, List.getElem?_range hx]; rfl
end
def nA (ls : List Int) (s : ak) (sx : Nat) (lv w : Int) (t : Nat) : List Nat := ((List.range t).filter (fun t => zH s ((sx : Nat) : Int) lv ((t : Nat) : Int) (ls.getD w.toNat 0))).map (fun t => w.toNat * 2 ^ az s + t)
theorem ah9 (ls : List Int) (s : ak) (sx : Nat) (lv w : Int) (t : Nat) : nA ls s sx lv w (t + 1) = if zH s ((sx : Nat) : Int) lv ((t : Nat) : Int) (ls.getD w.toNat 0) = true then nA ls s sx lv w t ++ [w.toNat * 2 ^ az s + t] else nA ls s sx lv w t := by
 unfold nA;rw [List.range_succ, List.filter_append, List.map_append];by_cases h : zH s ((sx : Nat) : Int) lv ((t : Nat) : Int) (ls.getD w.toNat 0) = true
 ·rw [if_pos h, List.filter_cons, if_pos h]; rfl
 ·rw [if_neg h, List.filter_cons, if_neg h, List.filter_nil, List.map_nil, List.append_nil]
theorem Zg (ls : List Int) (s : ak) (sx : Nat) (lv w : Int) (t : Nat) : (nA ls s sx lv w t).length ≤ t := by
 unfold nA;rw [List.length_map];exact Nat.le_trans (List.length_filter_le _ _) (by simp)
theorem atT (l : List Bool) : oJ l ≤ l.length := List.length_filter_le _ _
theorem Sw : ∀ {z y : List Bool}, y.length = z.length → (∀ p, Sg.aH y p = true → Sg.aH z p = true) → z ≠ y → oJ z < oJ y
 | [], [], _, _, h => absurd rfl h
 | a :: z, b :: y, hl, hs, hne => by
  have hl' : y.length = z.length := by simpa using hl
  have hs' : ∀ p, Sg.aH y p = true → Sg.aH z p = true := fun p hp => hs (p + 1) hp;have h0 : b = true → a = true := fun h => hs 0 h;have hle : oJ z ≤ oJ y := by
   by_cases e : z = y
   ·rw [e]; exact Nat.le_refl _
   ·exact Nat.le_of_lt (Sw hl' hs' e)
  unfold oJ at hle ⊢;cases a with
  | true =>
   cases b with
   | true =>
    have := Sw hl' hs' (fun e => hne (by rw [e]));unfold oJ at this;simpa using this
   | false => simp; omega
  | false =>
   cases b with
   | true => exact absurd (h0 rfl) ai
   | false =>
    have := Sw hl' hs' (fun e => hne (by rw [e]));unfold oJ at this;simpa using this
theorem atU {n j : Nat} (h : j < n) : (List.replicate j true ++ List.replicate (n - j) false).set j true = List.replicate (j + 1) true ++ List.replicate (n - (j + 1)) false := by
 rw [List.set_append_right _ _ (by simp), List.length_replicate, Nat.sub_self, show n - j = (n - (j + 1)) + 1 by omega, List.replicate_succ, List.set_cons_zero, List.replicate_succ' (n := j), List.append_assoc];rfl
theorem Sy {n j : Nat} (f : Nat → Bool) (h : j < n) : ((List.range j).map f ++ List.replicate (n - j) false).set j (f j) = (List.range (j + 1)).map f ++ List.replicate (n - (j + 1)) false := by
 rw [List.set_append_right _ _ (by simp), List.length_map, List.length_range, Nat.sub_self, show n - j = (n - (j + 1)) + 1 by omega, List.replicate_succ, List.set_cons_zero, List.range_succ, List.map_append, List.append_assoc];rfl
theorem atV {nx nx' : Nat → List Nat} {inn goal goal' : Nat → Bool} (h1 : ∀ p, inn p = true → nx p = nx' p) (h2 : ∀ p, goal p = true → goal' p = true) {p : Nat} (h : L.RG nx inn goal p) : L.RG nx' inn goal' p := by
 induction h with
 | base h => exact .base (h2 _ h)
 | step a b _ ih => exact .step a (by rw [← h1 _ a]; exact b) ih
theorem atW {nx nx' : Nat → List Nat} {good : Nat → Nat → Bool} {P : Nat} {z : Nat → Bool} (h1 : ∀ p, z p = true → nx p = nx' p) {k : Nat} (h : L.Jv nx good P z k) : L.Jv nx' good P z k := fun p hp => atV h1 (fun q hq => by
 have hz := L.Si hq;unfold L.mR at hq ⊢;rw [← h1 q hz];exact hq) (h p hp)
theorem atX {nx nx' : Nat → List Nat} {good : Nat → Nat → Bool} {N P : Nat} (h1 : ∀ p, p < N → nx p = nx' p) {x : Nat → Nat} (h : L.Ee nx good N P x) : L.Ee nx' good N P x := ⟨h.lt, fun i => by rw [← h1 _ (h.lt i)]; exact h.step i, h.good⟩
theorem atY {z y : List Bool} {n : Nat} (hz : z.length = n) (hy : y.length = n) : ((List.range n).all (fun q => z.getD q false == y.getD q false)) = decide (z = y) := by
 by_cases e : z = y
 ·subst e;rw [decide_eq_true rfl, List.all_eq_true];exact fun _ _ => beq_self_eq_true _
 ·rw [decide_eq_false e];cases h : (List.range n).all (fun q => z.getD q false == y.getD q false) with
  | false => rfl
  | true =>
   rw [List.all_eq_true] at h;refine absurd (L.ah2 (by rw [hz, hy]) (fun p hp => ?_)) e;exact beq_iff_eq.1 (h p (List.mem_range.2 ag))
theorem atZ {ls ss : List Int} {nxs : List (List Int)} {s : ak} (q x : Nat) : GG s (q : Int) ((x % 2 ^ az s : Nat) : Int) (ls.getD (x / 2 ^ az s) 0) = (bH ls ss nxs s).good q x := (aty s _ _ _).symm
def rZ (ls ss : List Int) (nxs : List (List Int)) (s : ak) : Bool × Int := (decide (gF ls ss nxs s = 0) && (iK ls ss nxs s true).isSome, gF ls ss nxs s)
theorem ah_ (ls ss : List Int) (nxs : List (List Int)) (s : ak) (A0 A1 A2 A5 : Option Addr) (c0 c1 c2 c5 : Nat) (w : World)
  (h0 : Kd.C (Kd.int .u32) w A0 ls.length ls) (l0 : ls.length ≤ c0) (h1 : Kd.C (Kd.int .i64) w A1 ss.length ss) (l1 : ss.length ≤ c1) (h2 : Kd.C (Kd.slice 3 (Kd.int .i64)) w A2 nxs.length nxs) (l2 : nxs.length ≤ c2) (h5 : Kd.C bK w A5 s.f2.length s.f2) (l5 : s.f2.length ≤ c5) :
  Calls Tryz.prog 8 #[.agg #[.slice A0 ls.length c0, .slice A1 ss.length c1, .slice A2 nxs.length c2], .agg #[.int .i64 s.f0, .int .i64 s.f1, .slice A5 s.f2.length c5]] w fun e w' => e = .returned (.tuple #[.bool (rZ ls ss nxs s).1, .int .i64 (rZ ls ss nxs s).2]) ∧ Below w.heap.size w w' := by
 have AB := Tryz.underlying26;have jm := Tryz.underlying29;have uO := Tryz.underlying27;have hub := Tryz.underlying57;have yK := Tryz.underlying22;have fM := Tryz.underlying23;have IG := Tryz.underlying24;obtain ⟨W2, hW2⟩ : ∃ W2, W2 = (w.alloc (.cells #[.slice A0 ls.length c0, .slice A1 ss.length c1, .slice A2 nxs.length c2] 26)).alloc (.cells #[.int .i64 s.f0, .int .i64 s.f1, .slice A5 s.f2.length c5] 29) := ⟨_, rfl⟩;have hB2 : Below w.heap.size w W2 := by rw [hW2]; exact aW (aW (Below.refl _ _) _) _
 have hbk : W2.heap[w.heap.size]? = some (.cells #[.slice A0 ls.length c0, .slice A1 ss.length c1, .slice A2 nxs.length c2] 26 (0, 0)) := by rw [hW2]; exact bf (heap_alloc_new w _) _
 have hbf : W2.heap[w.heap.size + 1]? = some (.cells #[.int .i64 s.f0, .int .i64 s.f1, .slice A5 s.f2.length c5] 29 (0, 0)) := by
  rw [hW2];have := heap_alloc_new (w.alloc (.cells #[.slice A0 ls.length c0, .slice A1 ss.length c1, .slice A2 nxs.length c2] 26)) (.cells #[.int .i64 s.f0, .int .i64 s.f1, .slice A5 s.f2.length c5] 29);simpa using this
 obtain ⟨gf, hgf⟩ : ∃ k, k = w.heap.size + 1 := ⟨_, rfl⟩;obtain ⟨eB, kP⟩ : ∃ k, k = w.heap.size := ⟨_, rfl⟩;rw [← kP] at hbk;rw [← hgf] at hbf;obtain ⟨km, wL⟩ := (agh ls ss nxs (Kd.pG h1) (Kd.pG h2) (XY h2)).rounds;obtain ⟨kf, Nc⟩ := (Rs s).rounds;have wM := Zd.mk (sQ.calls km A0 c0 ls A1 c1 ss A2 c2 nxs (ko ls ss nxs) W2 (Kd.aQ h0 hB2) l0 (Kd.aQ h1 hB2) l1 (Kd.aQ h2 hB2) l2 wL);have D5 := Zd.mk (fun W (hb : Below W2.heap.size W2 W) => oH.calls kf s.f0 s.f1 A5 c5 s.f2 (bW s) W (Kd.aQ h5 (hB2.trans (hb.mono hB2.size))) l5 Nc);have uz := Zd.mk (fun W (hb : Below W2.heap.size W2 W) => Jk s A5 c5 W (Kd.aQ h5 (hB2.trans (hb.mono hB2.size))) l5);have vG := Zd.mk (fun W (hb : Below W2.heap.size W2 W) => Rv s A5 c5 W (Kd.aQ h5 (hB2.trans (hb.mono hB2.size))) l5);have M5 := Zd.mk (fun W (hb : Below W2.heap.size W2 W) sv lt tv nx => att s sv lt tv nx A5 c5 W (Kd.aQ h5 (hB2.trans (hb.mono hB2.size))) l5);have DC := Zd.mk (fun W (hb : Below W2.heap.size W2 W) k sv lt => atu s k sv lt A5 c5 W (Kd.aQ h5 (hB2.trans (hb.mono hB2.size))) l5);have YD := Zd.mk (fun W (hb : Below W2.heap.size W2 W) sv lt => MN.calls s.f0 s.f1 A5 c5 s.f2 sv lt (kL s sv lt) W (Kd.aQ h5 (hB2.trans (hb.mono hB2.size))) l5 (atz s sv lt));have k0 : W2.cell? ⟨eB, 0, none⟩ = some (.slice A0 ls.length c0) := (aj hbk 0).trans rfl;have k1 : W2.cell? ⟨eB, 1, none⟩ = some (.slice A1 ss.length c1) := (aj hbk 1).trans rfl;have k2 : W2.cell? ⟨eB, 2, none⟩ = some (.slice A2 nxs.length c2) := (aj hbk 2).trans rfl;have f0 : W2.cell? ⟨gf, 0, none⟩ = some (.int .i64 s.f0) := (aj hbf 0).trans rfl;have f1 : W2.cell? ⟨gf, 1, none⟩ = some (.int .i64 s.f1) := (aj hbf 1).trans rfl;have f2 : W2.cell? ⟨gf, 2, none⟩ = some (.slice A5 s.f2.length c5) := (aj hbf 2).trans rfl;have QK := Zd.mk (And.intro k0 (And.intro k1 k2));have QF := Zd.mk (And.intro f0 (And.intro f1 f2));have HB2 := Zd.mk hB2;have H0 := Zd.mk h0;have H1 := Zd.mk h1;have H2 := Zd.mk h2;have zw := Zd.mk (show gF ls ss nxs s = if ko ls ss nxs = 0 then (if bW s = 0 then (if 3000 < 2 ^ az s * ls.length then 7 else 0) else bW s) else ko ls ss nxs from rfl);have Zh := Zd.mk (show ∀ e, gF ls ss nxs s = e → e ≠ 0 → rZ ls ss nxs s = (false, e) from fun e h1 h2 => by unfold rZ; rw [h1, decide_eq_false h2]; rfl);have wm := Zd.mk (show jB s = if bW s = 0 then 2 ^ az s else 0 from rfl);clear h0 h1 h2 h5 hbk hbf hB2 wL Nc;obtain ⟨mg, Sz⟩ : ∃ m, m = ko ls ss nxs := ⟨_, rfl⟩;obtain ⟨mf, xE⟩ : ∃ m, m = bW s := ⟨_, rfl⟩;rw [← Sz, ← xE] at zw;rw [← Sz] at wM;rw [← xE] at D5 wm;have Nf := Zd.mk Sz;have X3 := Zd.mk xE;clear Sz xE;go_enter Tryz.func8, Tryz.ntmps8;go_upto_region 1 with fail
 rw [← hW2, ← hgf, ← kP];clear hW2 hgf kP;go_upto_region 2 with (go_at_call 11; refine wM.out.mono ?_; rintro e w3 ⟨rfl, hB⟩; have HB3 := Zd.mk hB; have Ng := aG hB f0; have Nh := aG hB f1; have Ni := aG hB f2; clear hB)
 by_cases e1 : mg = 0
 ·have AV : (mg != 0) = false := by rw [e1]; rfl
  go_upto_region 5 with (go_at_call 12; refine (D5.out _ HB3.out).mono ?_; rintro e w4 ⟨rfl, hB⟩; have bQ := Zd.mk (HB3.out.trans (hB.mono HB3.out.size)); have at0 := aG hB Ng; have at1 := aG hB Nh; have at5 := aG hB Ni; clear hB)
  by_cases e2 : mf = 0
  ·have BQ : (mf != 0) = false := by rw [e2]; rfl
   obtain ⟨sz, hsz⟩ : ∃ n : Nat, n = 2 ^ az s := ⟨_, rfl⟩;have hss : jB s = (sz : Int) := by rw [wm.out, if_pos e2, hsz, Int.natCast_pow]; rfl
   rw [hss] at uz;have Zi := I9 (Nf.out.symm.trans e1);have hm0 := X3.out.symm.trans e2;have h8 := (kZ hm0).2.2.1;have hsz1 : 1 ≤ sz := by rw [hsz]; exact Nat.one_le_two_pow
   have hsz2 : sz ≤ 256 := by rw [hsz]; exact Nat.pow_le_pow_right (n := 2) ai h8
   have X4 := Zi.n;obtain ⟨nn, hnn⟩ : ∃ n : Nat, n = sz * ls.length := ⟨_, rfl⟩;have hnb : nn ≤ 51200 := by rw [hnn]; exact Nat.mul_le_mul hsz2 X4
   have hmul : IntKind.i64.wrap ((sz : Int) * (ls.length : Int)) = (nn : Int) := by
    rw [← Int.natCast_mul, ← hnn]; exact (bE _).trans (vD ag)
   have ma := Zd.mk hnn;have oG := Zd.mk hsz;have uw := Zd.mk Zi;have lT := Zd.mk hm0;clear hss hnn hsz Zi hm0 h8;go_upto_region 8 with (go_at_call 5; refine (uz.out _ bQ.out).mono ?_; rintro e w5 ⟨rfl, hB⟩; have cZ := Zd.mk (bQ.out.trans (hB.mono bQ.out.size)); clear hB)
   obtain ⟨W4, rfl⟩ : ∃ W : World, W = w5 := ⟨_, rfl⟩;have yf := aG cZ.out QK.out.1;have Ci := aG cZ.out QK.out.2.2;by_cases e3 : 3000 < nn
   ·have HE := Zd.mk (Zh.out 7 (by rw [zw.out, if_pos e1, if_pos e2, ← oG.out, ← ma.out, if_pos e3]) ai);have e4 : (3000 : Int) < (nn : Int) := by omega
    go_wp2;go_ret2;exact ⟨by rw [HE.out]; rfl, HB2.out.trans (cZ.out.mono HB2.out.size)⟩
   ·have HE := Zd.mk (show gF ls ss nxs s = 0 from by rw [zw.out, if_pos e1, if_pos e2, ← oG.out, ← ma.out, if_neg e3]);have e4 : ¬ (3000 : Int) < (nn : Int) := by omega
    have hmk := agp nn ag W4;go_upto_region 11 with fail
    obtain ⟨W5, zk⟩ : ∃ W : World, W = W4.alloc (.cells (Array.replicate nn (Value.slice none 0 0)) 23) := ⟨_, rfl⟩;obtain ⟨ga, hga⟩ : ∃ k, k = W4.heap.size := ⟨_, rfl⟩;rw [← zk, ← hga];have Zj := Zd.mk (show W4.heap.size ≤ ga by omega);have Zk := Zd.mk (show Below W4.heap.size W4 W5 by rw [zk]; exact aW (Below.refl _ _) _);have I7 : Zd (Kd.S (Kd.slice 3 bD) 23 W5 W4.heap.size (fun _ => True) (.slice (some ⟨ga, 0, none⟩) nn nn) (ry nn (L.qy ls nxs s) 0 [])) := ⟨by
     rw [atO];exact agq (W := W4) ⟨Zj.out, by rw [zk, hga]; exact heap_alloc_new W4 _⟩ ag trivial⟩
    have aia := aG Zk.out Ci;have axc := Zd.mk (cZ.out);have uy := Zd.mk (HB2.out.trans (cZ.out.mono HB2.out.size));clear hmk zk hga yf Ci Ng Nh Ni at0 at1 at5 k0 k1 k2 f0 f1 f2 wM D5 uz AV BQ hmul;have j4 := Zd.mk uw.out.nn
    go_upto_block 0 with fail
    go_cut [] (fun wx => Zd (Below W4.heap.size W4 wx) ∧ Zd (Kd.S (Kd.slice 3 bD) 23 wx W4.heap.size (fun _ => True) (.slice (some ⟨ga, 0, none⟩) nn nn) (ry nn (L.qy ls nxs s) nn [])))
    case first =>
     go_wp2;go_loopg [55] nxs.length (fun kq v55 w' => ∃ v : Nat, v + kq = nxs.length ∧ v55 = .int .i64 (v : Int) ∧ Zd (Below W4.heap.size W4 w') ∧ Zd (Kd.S (Kd.slice 3 bD) 23 w' W4.heap.size (fun _ => True) (.slice (some ⟨ga, 0, none⟩) nn nn) (ry nn (L.qy ls nxs s) (v * sz) [])))
     case atStart => exact ⟨0, by omega, rfl, Zk, by rw [Nat.zero_mul]; exact I7⟩
     case round =>
      obtain ⟨v, hv, rfl, Cm, o7⟩ := hrel;obtain ⟨WV, rfl⟩ : ∃ W : World, W = wr := ⟨_, rfl⟩;obtain ⟨q1, hq1⟩ : ∃ k, k = gk := ⟨_, rfl⟩;rw [← hq1] at hv;have HV := Zd.mk hv;have Nj := Zd.mk hq1;clear hv hq1 aia I7;by_cases hvl : v < nxs.length
      ·have QZ : (v : Int) < (nxs.length : Int) := by omega
       have aib : v < ls.length := by rw [← j4.out]; exact hvl
       obtain ⟨GM, Ar, cr, eA, GN, lr, nT⟩ := Dw H2.out hvl;subst eA;obtain ⟨row, hrow⟩ : ∃ r, r = nxs.getD v [] := ⟨_, rfl⟩;rw [← hrow] at GN lr nT;have hmem : row ∈ nxs := by rw [hrow, List.getD_eq_getElem?_getD, List.getElem?_eq_getElem hvl]; exact List.getElem_mem hvl
       have aic := Zd.mk (uw.out.nx row hmem);have hrl := aic.out.2.1;have kr1 := aG (uy.out.trans (Cm.out.mono uy.out.size)) GN;have HCR := Zd.mk nT;have HRW := Zd.mk hrow;obtain ⟨qV, eL, zl⟩ := uh H0.out aib;subst eL;obtain ⟨lv, hlv⟩ : ∃ x, x = ls.getD v 0 := ⟨_, rfl⟩;rw [← hlv] at zl;have Ct := Zd.mk zl;have XC := Zd.mk hlv;clear nT hrow hmem GN zl hlv;go_wp2;go_loopg [61] sz (fun kq v61 w' => ∃ sx : Nat, sx + kq = sz ∧ v61 = .int .i64 (sx : Int) ∧ Zd (Below W4.heap.size W4 w') ∧ Zd (Kd.S (Kd.slice 3 bD) 23 w' W4.heap.size (fun _ => True) (.slice (some ⟨ga, 0, none⟩) nn nn) (ry nn (L.qy ls nxs s) (v * sz + sx) [])))
       case atStart => exact ⟨0, by omega, rfl, Cm, o7⟩
       case round =>
        obtain ⟨sx, hs, rfl, D8, HS2⟩ := hrel;obtain ⟨WS, rfl⟩ : ∃ W : World, W = wr := ⟨_, rfl⟩;obtain ⟨q2, hq2⟩ : ∃ k, k = gk := ⟨_, rfl⟩;rw [← hq2] at hs;have Zl := Zd.mk hs;have Zm := Zd.mk hq2;clear hs hq2 kr1 Cm o7;by_cases hsl : sx < sz
        ·have hsl2 : (sx : Int) < (sz : Int) := by omega
         have o6 : v * sz + sx < nn := by
          have h1 : (v + 1) * sz ≤ ls.length * sz := Nat.mul_le_mul_right _ aib;have h2 : (v + 1) * sz = v * sz + sz := Nat.succ_mul ..;rw [ma.out, Nat.mul_comm sz];omega
         have at6 := Zd.mk (show L.qy ls nxs s (v * sz + sx) = row.flatMap (fun w => nA ls s sx lv w sz) from by
          unfold L.qy nA;rw [HRW.out, XC.out, oG.out, (L.ym (w := v) (n := 2 ^ az s) (t := sx) (by rw [← oG.out]; exact hsl)).1, (L.ym (w := v) (n := 2 ^ az s) (t := sx) (by rw [← oG.out]; exact hsl)).2])
         have uj := IE (a := v) (b := sz) (Nat.lt_of_le_of_lt (Nat.le_add_right _ sx) (Nat.lt_trans o6 ag));have BS : IntKind.i64.wrap (((v * sz : Nat) : Int) + (sx : Int)) = ((v * sz + sx : Nat) : Int) := (bE _).trans (Lc (Nat.lt_trans o6 ag));have at7 := Zd.mk (And.intro ((bE ((v : Int) * (sz : Int))).trans uj) BS);have Km := Zd.mk (show v * sz + sx + 1 = v * sz + (sx + 1) from rfl);clear uj BS;generalize v * sz + sx = p at *;generalize v * sz = m at *;go_wp2;go_loopg [66] row.length (fun kq v66 w' => ∃ j : Nat, j + kq = row.length ∧ v66 = .int .i64 (j : Int) ∧ Zd (Below W4.heap.size W4 w') ∧ Zd (Kd.S (Kd.slice 3 bD) 23 w' W4.heap.size (fun _ => True) (.slice (some ⟨ga, 0, none⟩) nn nn) (ry nn (L.qy ls nxs s) p ((row.take j).flatMap (fun w => nA ls s sx lv w sz)))))
         case atStart => exact ⟨0, by omega, rfl, D8, HS2⟩
         case round =>
          obtain ⟨j, hj, rfl, GQ, SA⟩ := hrel;obtain ⟨WJ, rfl⟩ : ∃ W : World, W = wr := ⟨_, rfl⟩;obtain ⟨q3, hq3⟩ : ∃ k, k = gk := ⟨_, rfl⟩;rw [← hq3] at hj;have HJ := Zd.mk hj;have HQ3 := Zd.mk hq3;clear hj hq3 D8 HS2;by_cases hjl : j < row.length
          ·have FY : (j : Int) < (row.length : Int) := by omega
           obtain ⟨Fz, er, zr⟩ := uh HCR.out hjl;subst er;have hwm : row.getD j 0 ∈ row := by rw [List.getD_eq_getElem?_getD, List.getElem?_eq_getElem hjl]; exact List.getElem_mem hjl
           have hwr := aic.out.2.2 _ hwm;obtain ⟨wn, hwn⟩ : ∃ k : Nat, row.getD j 0 = (k : Int) := ⟨(row.getD j 0).toNat, by omega⟩;rw [hwn] at zr hwr;have hwl : wn < ls.length := by omega
           have axd : (wn : Int) < (ls.length : Int) := by omega
           have zr1 := aG (uy.out.trans (GQ.out.mono uy.out.size)) zr;obtain ⟨axe, eL2, Zn⟩ := uh H0.out hwl;cases eL2;obtain ⟨lw, Zo⟩ : ∃ x, x = ls.getD wn 0 := ⟨_, rfl⟩;rw [← Zo] at Zn;have HZW := Zd.mk Zn;have HLW := Zd.mk Zo;have II := Zd.mk (show (row.take (j + 1)).flatMap (fun w => nA ls s sx lv w sz) = (row.take j).flatMap (fun w => nA ls s sx lv w sz) ++ nA ls s sx lv (wn : Int) sz from by
            rw [List.take_succ_eq_append_getElem hjl, List.flatMap_append, ← hwn, List.getD_eq_getElem?_getD, List.getElem?_eq_getElem hjl]; simp)
           have tO := Zd.mk (show ((row.take j).flatMap (fun w => nA ls s sx lv w sz)).length ≤ 51200 from by
            have key : ∀ l : List Int, (l.flatMap (fun w => nA ls s sx lv w sz)).length ≤ l.length * sz := by
             intro l
             induction l with
             | nil => exact Nat.zero_le _
             | cons a r ih => rw [List.flatMap_cons, List.length_append, List.length_cons, Nat.succ_mul]; have := Zg ls s sx lv a sz; omega
            exact Nat.le_trans (key _) (Nat.le_trans (Nat.mul_le_mul (show (row.take j).length ≤ 200 by rw [List.length_take]; omega) hsz2) ai))
           generalize (row.take j).flatMap (fun w => nA ls s sx lv w sz) = pre at *;clear zr hwm hwr hwn Zn Zo;go_wp2;go_loopg [71] sz (fun kq v71 w' => ∃ t : Nat, t + kq = sz ∧ v71 = .int .i64 (t : Int) ∧ Zd (Below W4.heap.size W4 w') ∧ Zd (Kd.S (Kd.slice 3 bD) 23 w' W4.heap.size (fun _ => True) (.slice (some ⟨ga, 0, none⟩) nn nn) (ry nn (L.qy ls nxs s) p (pre ++ nA ls s sx lv (wn : Int) t))))
           case atStart => exact ⟨0, by omega, rfl, GQ, by rw [show nA ls s sx lv (wn : Int) 0 = [] from rfl, List.append_nil]; exact SA⟩
           case round =>
            obtain ⟨t, ht, rfl, xh, Zp⟩ := hrel;obtain ⟨WT, rfl⟩ : ∃ W : World, W = wr := ⟨_, rfl⟩;have HT := Zd.mk ht;clear ht zr1 GQ SA;by_cases htl : t < sz
            ·have aua : (t : Int) < (sz : Int) := by omega
             have Jw := cZ.out.trans (xh.out.mono cZ.out.size);have Zq := aG Jw QK.out.1;have Zr := aG Jw QF.out.1;have Zt := aG Jw QF.out.2.1;have Zu := aG Jw QF.out.2.2;have Zv := aG (uy.out.trans (xh.out.mono uy.out.size)) Ct.out;have aub := aG (uy.out.trans (xh.out.mono uy.out.size)) HZW.out;obtain ⟨bm, Zw⟩ : ∃ b, b = zH s (sx : Int) lv (t : Int) lw := ⟨_, rfl⟩;have Eg := Zd.mk (M5.out WT.drew (Jw.trans (bV (Below.refl _ _))) (sx : Int) lv (t : Int) lw);rw [← Zw] at Eg;have HBM := Zd.mk Zw;have oU := Zd.mk (show Below W4.heap.size W4 WT.drew from xh.out.trans ((bV (Below.refl WT.heap.size WT)).mono xh.out.size));have HST := Zd.mk (Kd.JR Zp.out (bV (Below.refl WT.heap.size WT)));clear Zw Jw;go_wp2
             go_still_tail 13, aa
             change wpList _ _ _ _ _ WT.drew;generalize WT.drew = WD at *;clear Zq Zr Zt Zu Zv aub xh Zp;cases bm with
             | false =>
              have Js := Zd.mk (show nA ls s sx lv (wn : Int) (t + 1) = nA ls s sx lv (wn : Int) t from by rw [ah9, Int.toNat_natCast, ← HLW.out, ← HBM.out]; rfl);go_wp2_with (go_at_call 21; refine Eg.out.mono ?_; rintro e w9 ⟨rfl, hB⟩; have fE := Zd.mk (oU.out.trans (hB.mono oU.out.size)); have FX := Zd.mk (Kd.JR HST.out hB); clear hB);go_roundg (gk - 1)
              case measure => have := HT.out; omega
              case rel => exact ⟨t + 1, by have := HT.out; omega, by first | rfl | (congr 1; go_num; done), fE, by rw [Js.out]; exact FX⟩
             | true =>
              have Js := Zd.mk (show nA ls s sx lv (wn : Int) (t + 1) = nA ls s sx lv (wn : Int) t ++ [wn * sz + t] from by rw [ah9, Int.toNat_natCast, ← HLW.out, ← HBM.out, oG.out]; rfl);go_upto_region 24 with (go_at_call 21; refine Eg.out.mono ?_; rintro e w9 ⟨rfl, hB⟩; have fE := Zd.mk (oU.out.trans (hB.mono oU.out.size)); have FX := Zd.mk (Kd.JR HST.out hB); clear hB)
              obtain ⟨WB, rfl⟩ : ∃ W : World, W = w9 := ⟨_, rfl⟩;clear Eg oU HST;have hyn : wn * sz + t < nn := by
               have h1 : (wn + 1) * sz ≤ ls.length * sz := Nat.mul_le_mul_right _ hwl;have h2 : (wn + 1) * sz = wn * sz + sz := Nat.succ_mul ..;rw [ma.out, Nat.mul_comm sz];omega
              have uj := IE (a := wn) (b := sz) (Nat.lt_of_le_of_lt (Nat.le_add_right _ t) (Nat.lt_trans hyn ag));have BS : IntKind.i64.wrap (((wn * sz : Nat) : Int) + (t : Int)) = ((wn * sz + t : Nat) : Int) := (bE _).trans (Lc (Nat.lt_trans hyn ag));have oP := Zd.mk (Zg ls s sx lv (wn : Int) t);generalize wn * sz + t = y at *;generalize wn * sz = mw at *;have FB : IntKind.i64.wrap ((wn : Int) * (sz : Int)) = (mw : Int) := (bE _).trans uj;have hp2 : (p : Int) < (nn : Int) := by omega
              obtain ⟨hm1, hm2⟩ := at7.out;obtain ⟨gX, c, hcl, hM, hcc, Mq, hH⟩ := Kd.aaQ FX.out [] (p : Int) ag ag;rw [Int.toNat_natCast, atN o6] at hM;obtain ⟨Nk, hrw⟩ : ∃ r, r = pre ++ nA ls s sx lv (wn : Int) t := ⟨_, rfl⟩;have Dz : Zd (Nk.length ≤ 52000) := ⟨by rw [hrw, List.length_append]; have := tO.out; have := oP.out; omega⟩;rw [← hrw] at hM hH;have auc := Zd.mk hrw;obtain ⟨vu, e, hR⟩ := hM;subst e;obtain ⟨uB, hw1, hw2, hw3, hw4⟩ : ∃ uB : Nat → Prop, Kd.H (Kd.slice 3 bD) 23 WB W4.heap.size (fun _ => True) (.slice (some ⟨ga, 0, none⟩) nn nn) (ry nn (L.qy ls nxs s) p Nk) (p : Int) uB [vu] ∧ Kd.R bD 3 WB W4.heap.size uB vu Nk ∧ (∀ k, vu.ownBlock = some k → uB k) ∧ (∀ k, WB.heap.size ≤ k → uB k) :=
               ⟨_, Kd.aaR hH, Kd.jd hR (fun k hk => .inl hk), fun k hk => .inl (hR.1 k hk), fun k hk => .inr ⟨trivial, hk⟩⟩
              have HH := Zd.mk hw1;have Yn := Zd.mk hw2;have Yo := Zd.mk hw3;have Yp := Zd.mk hw4;have ku : WB.cell? ⟨ga, p, none⟩ = some vu := by
               have h_ := hcc 0 vu rfl
               rwa [Int.toNat_natCast, show (p * (Kd.slice 3 bD).sz + 0) = p from Nat.mul_one p] at h_
              clear Mq hH hR hcc hcl hrw uj FX hw1 hw2 hw3 hw4;go_wp2_with ((with_reducible refine lL (b := .append) (xs := #[.tmp 101, .tmp 107]) rfl ?_); at_builtin; refine Kd.xw bD (w0 := W4) W4.heap.size rfl (.tmp 101) (.tmp 107) 23 3 (.int .i64 0) 8 rfl fM nR rfl ai ag vu Nk y [.int .i64 (y : Int)] uB (fun _ => False) rfl ?aX ?aP (fun _ hk => hk.elim) ?aF ?aO ?aB ?aS ?aL ?_; (case aX => first | rfl | (simp; done) | (go_simp; done)); (case aP => exact rfl); (case aF => exact (fun k hk => Yp.out k hk)); (case aO => exact Yn.out); (case aB => exact fE.out); (case aS => exact fE.out.size); (case aL => have := Dz.out; omega); intro v9 w9_ ho hb hg hat; obtain ⟨A9, n9, c9, e9⟩ : ∃ A n c, v9 = .slice A n c := (by obtain ⟨A, c, e⟩ := Kd.vX ho; exact ⟨A, _, c, e⟩); subst e9; have AO := Zd.mk ho; have rz := Zd.mk hb; have Mr := Zd.mk (Kd.aaS HH.out hg (fun k hk => Yo.out k hk)); obtain ⟨Ms, Mt⟩ := Kd.aa8 Mr.out ag ag; have kub : w9_.cell? ⟨ga, p, none⟩ = some vu := (by have h_ := Ms 0 vu rfl; rwa [Int.toNat_natCast, show (p * (Kd.slice 3 bD).sz + 0) = p from Nat.mul_one p] at h_); have fub : w9_.frozen? ⟨ga, p, none⟩ = false := (by have h_ := Mt 0; rwa [Int.toNat_natCast, show (p * (Kd.slice 3 bD).sz + 0) = p from Nat.mul_one p] at h_); clear ho hb hg hat Ms Mt);clear BS FB hm1 hm2 ku kub fub;go_roundg (gk - 1)
              case measure => have := HT.out; omega
              case rel =>
               refine ⟨t + 1, by have := HT.out; omega, by first | rfl | (congr 1; go_num; done), ⟨rz.out.setCell Zj.out _⟩, ⟨?_⟩⟩;have hS := (Kd.aa9 Mr.out ag ag (seg := [.slice A9 n9 c9]) (j := 0) (Nat.le_refl 1) (x' := Nk ++ [y]) (okp := uB) ⟨_, rfl, AO.out⟩ (fun k hk => hk)).1;rw [Int.toNat_natCast, show (p * (Kd.slice 3 bD).sz + 0) = p from Nat.mul_one p, atQ o6] at hS;rw [Js.out, ← List.append_assoc, ← auc.out];exact hS
            ·have e : t = sz := by have := HT.out; omega
             subst e;go_wp2;go_roundg (q3 - 1)
             case measure => have := HJ.out; have := HQ3.out; omega
             case rel => exact ⟨j + 1, by have := HJ.out; omega, by first | rfl | (congr 1; go_num; done), xh, by rw [II.out]; exact Zp⟩
          ·have e : j = row.length := by have := HJ.out; omega
           subst e;rw [List.take_length, ← at6.out, atP, Km.out] at SA;go_wp2;go_roundg (q2 - 1)
           case measure => have := Zl.out; have := Zm.out; omega
           case rel => exact ⟨sx + 1, by have := Zl.out; omega, by first | rfl | (congr 1; go_num; done), GQ, SA⟩
        ·have e : sx = sz := by have := Zl.out; omega
         subst e;go_wp2;go_roundg (q1 - 1)
         case measure => have := HV.out; have := Nj.out; omega
         case rel => exact ⟨v + 1, by have := HV.out; omega, by first | rfl | (congr 1; go_num; done), D8, by rw [Nat.succ_mul]; exact HS2⟩
      ·have e : v = nxs.length := by have := HV.out; omega
       subst e;go_wp2;go_meet;exact ⟨Cm, by rw [j4.out, Nat.mul_comm, ← ma.out] at o7; exact o7⟩
    case rest =>
     obtain ⟨D7, SB⟩ := hcut;obtain ⟨W6, rfl⟩ : ∃ W : World, W = wc := ⟨_, rfl⟩;rw [atS] at SB;obtain ⟨rows, hrows⟩ : ∃ r, r = (List.range nn).map (L.qy ls nxs s) := ⟨_, rfl⟩;rw [← hrows] at SB;have aid := Zd.mk (show rows.length = nn by rw [hrows]; simp);have Zx := Zd.mk (show Kd.C (Kd.slice 3 bD) W6 (some ⟨ga, 0, none⟩) nn rows by have h := (Kd.pI (Kd.S_R SB.out)).2.2; rwa [aid.out] at h);have Zy := Zd.mk (fun x (hx : x < nn) => show rows.getD x [] = L.qy ls nxs s x from by rw [hrows, List.getD_eq_getElem?_getD, List.getElem?_map, List.getElem?_range hx]; rfl);have SC := Zd.mk (cZ.out.trans (D7.out.mono cZ.out.size));have aud := Zd.mk (HB2.out.trans (SC.out.mono HB2.out.size));clear hrows SB D7 Zk aia I7;have hmk : ∀ W : World, (Instr.makeSlice 57 (.int .i64 (nn : Int)) (.int .i64 (nn : Int))).run Tryz.prog W = .ok (.slice (some ⟨W.heap.size, 0, none⟩) nn nn) (W.alloc (.cells ⟨List.replicate nn (Value.bool false)⟩ 4)) := Pg nn ag;have HMK := Zd.mk hmk;go_upto_region 30 with fail
     clear hmk;obtain ⟨W7, AR⟩ : ∃ W : World, W = W6.alloc (.cells (Array.replicate nn (Value.bool false)) 4) := ⟨_, rfl⟩;obtain ⟨gz, hgz⟩ : ∃ k, k = W6.heap.size := ⟨_, rfl⟩;rw [← AR, ← hgz];have Zz := Zd.mk (show W6.heap.size ≤ gz by omega);have HBZ := Zd.mk (show Below W6.heap.size W6 W7 by rw [AR]; exact aW (Below.refl _ _) _);have HZ0 : Zd (Kd.R Kd.bool 4 W7 W6.heap.size (fun _ => True) (.slice (some ⟨gz, 0, none⟩) nn nn) (List.replicate nn false)) := ⟨XE (W := W6) ⟨Zz.out, by rw [AR, hgz]; exact heap_alloc_new W6 _⟩ ag trivial⟩;have hPn := (kZ lT.out).2.2.1;obtain ⟨P1, hP1⟩ : ∃ k, k = max 1 (az s) := ⟨_, rfl⟩;have Nl := Zd.mk hP1;have qg := Zd.mk (show (lh s).length = az s from by rw [show lh s = bU s from if_pos lT.out, iW]);obtain ⟨Fz, aie⟩ : ∃ a : Addr, a = ⟨ga, 0, none⟩ := ⟨_, rfl⟩;rw [← aie] at Zx ⊢;have ZA : Zd (∀ x, x < nn → (rows.getD x []).length < 1000000 ∧ ∀ y, y ∈ rows.getD x [] → y < nn) := ⟨fun x hx => by
      rw [Zy.out x hx];refine ⟨?_, fun y hy => ?_⟩
      ·have key : ∀ l : List Int, (l.flatMap (fun w => nA ls s (x % 2 ^ az s) (ls.getD (x / 2 ^ az s) 0) w sz)).length ≤ l.length * sz := by
        intro l
        induction l with
        | nil => exact Nat.zero_le _
        | cons a r ih => rw [List.flatMap_cons, List.length_append, List.length_cons, Nat.succ_mul]; have := Zg ls s (x % 2 ^ az s) (ls.getD (x / 2 ^ az s) 0) a sz; omega
       have h1 := key (nxs.getD (x / 2 ^ az s) []);have h2 : (nxs.getD (x / 2 ^ az s) []).length ≤ 200 := by
        by_cases hv : x / 2 ^ az s < nxs.length
        ·rw [List.getD_eq_getElem?_getD, List.getElem?_eq_getElem hv];exact (uw.out.nx _ (List.getElem_mem hv)).2.1
        ·rw [List.getD_eq_getElem?_getD, List.getElem?_eq_none ag]; exact Nat.zero_le _
       have h3 : (nxs.getD (x / 2 ^ az s) []).length * sz ≤ 200 * 256 := Nat.mul_le_mul h2 hsz2;rw [oG.out] at h1 h3;exact Nat.lt_of_le_of_lt (Nat.le_trans h1 h3) ai
      ·rw [ma.out, oG.out] at hx ⊢;exact (Cg uw.out lT.out).xS hx ((L.Nb uw.out lT.out hx).1 hy)⟩
     have ZB := Zd.mk (show ∀ x, x < nn → (fun x => rows.getD x []) x = L.qy ls nxs s x from Zy.out);have hsz0 : ¬ sz = 0 := by omega
     clear AR hgz aie hP1 Zj;generalize hnx : (fun x => rows.getD x []) = nx at *;have ZC := Zd.mk hnx;generalize hgd : (bH ls ss nxs s).good = good at *;have SE := Zd.mk hgd;clear hnx hgd
     go_upto_block 8 with fail
     go_cut [] (fun wx => Zd (Below W6.heap.size W6 wx) ∧ Zd (Kd.R Kd.bool 4 wx W6.heap.size (fun _ => True) (.slice (some ⟨gz, 0, none⟩) nn nn) (List.replicate nn true)))
     case first =>
      go_wp2;go_loopg [119] nn (fun kq v119 w' => ∃ j : Nat, j + kq = nn ∧ v119 = .int .i64 (j : Int) ∧ Zd (Below W6.heap.size W6 w') ∧ Zd (Kd.R Kd.bool 4 w' W6.heap.size (fun _ => True) (.slice (some ⟨gz, 0, none⟩) nn nn) (List.replicate j true ++ List.replicate (nn - j) false)))
      case atStart => exact ⟨0, by omega, rfl, HBZ, HZ0⟩
      case round =>
       obtain ⟨j, hj, rfl, lq, SF⟩ := hrel;obtain ⟨WJ, rfl⟩ : ∃ W : World, W = wr := ⟨_, rfl⟩;have HJ := Zd.mk hj;clear hj;by_cases hjl : j < nn
       ·have FY : (j : Int) < (nn : Int) := by omega
        obtain ⟨zc, fc⟩ := zi SF.out hjl;go_wp2;go_roundg (gk - 1)
        case measure => have := HJ.out; omega
        case rel => exact ⟨j + 1, by have := HJ.out; omega, by first | rfl | (congr 1; go_num; done), ⟨lq.out.setCell Zz.out _⟩, ⟨by rw [← atU hjl]; exact DN SF.out j true⟩⟩
       ·have e : j = nn := by have := HJ.out; omega
        subst e;rw [Nat.sub_self, List.replicate_zero, List.append_nil] at SF;go_wp2;go_meet;exact ⟨lq, SF⟩
     case rest =>
      obtain ⟨jq, HZF⟩ := hcut;obtain ⟨W8, rfl⟩ : ∃ W : World, W = wc := ⟨_, rfl⟩;have HCZ := Zd.mk (Kd.pI HZF.out);have jP := Zd.mk (SC.out.trans (jq.out.mono SC.out.size));have aif := Zd.mk (HB2.out.trans (jP.out.mono HB2.out.size));have ZE := Zd.mk (Kd.aQ Zx.out jq.out);clear HZF HZ0 HBZ Zz jq Zx SC aud;generalize (some ⟨gz, 0, none⟩ : Option Addr) = Az0 at *;obtain ⟨pn, hpn⟩ : ∃ k, k = az s := ⟨_, rfl⟩;rw [← hpn] at Nl hPn qg;have ZF := Zd.mk (fun W (hb : Below W2.heap.size W2 W) => (vG.out W hb).mono (R' := fun e w' => ∃ A c, e = .returned (.slice A pn c) ∧ Below W.heap.size W w') (fun e w' h => by
       obtain ⟨v1, he, hT, hB⟩ := h;obtain ⟨A, c, e1, _, _⟩ := Rt hT hB;exact ⟨A, c, by rw [he, e1, qg.out], hB⟩))
      have SG := Zd.mk hpn;clear vG hpn;have hpm : (if (1 : Int) < (pn : Int) then (pn : Int) else 1) = (P1 : Int) := by have := Nl.out; split <;> omega
      go_upto_block 10 with fail
      go_cut [16] (fun v16 wx => ∃ (z : List Bool) (Az : Option Addr) (cz : Nat), v16 = .slice Az nn cz ∧ Zd (nn ≤ cz) ∧ Zd (z.length = nn) ∧ Zd (Kd.C Kd.bool wx Az nn z) ∧ Zd (Below W8.heap.size W8 wx) ∧ Zd (∀ x, L.Ee nx good nn pn x → ∀ j, Sg.aH z (x j) = true) ∧ Zd (∀ k, k < P1 → L.Jv nx good pn (Sg.aH z) k))
      case first =>
       go_wp2;go_loopg [16] (nn + 1) (fun kq v16 w' => ∃ (z : List Bool) (Az : Option Addr) (cz : Nat), v16 = .slice Az nn cz ∧ kq + oJ z = nn + 1 ∧ Zd (nn ≤ cz) ∧ Zd (z.length = nn) ∧ Zd (Kd.C Kd.bool w' Az nn z) ∧ Zd (Below W8.heap.size W8 w') ∧ Zd (∀ x, L.Ee nx good nn pn x → ∀ j, Sg.aH z (x j) = true))
       case atStart => exact ⟨List.replicate nn true, Az0, nn, rfl, by rw [show oJ (List.replicate nn true) = 0 by simp [oJ]], ⟨Nat.le_refl _⟩, ⟨by simp⟩, ⟨by have h := HCZ.out.2.2; rwa [List.length_replicate] at h⟩, ⟨Below.refl _ _⟩, ⟨fun x hx j => by
        have := hx.lt j;unfold Sg.aH;rw [List.getD_eq_getElem?_getD, List.getElem?_replicate, if_pos this]; rfl⟩⟩
       case round =>
        obtain ⟨z, Az, cz, rfl, hk, ZG, Ct, HZ, Nn, wI⟩ := hrel;obtain ⟨WO, rfl⟩ : ∃ W : World, W = wr := ⟨_, rfl⟩;obtain ⟨q1, hq1⟩ : ∃ k, k = gk := ⟨_, rfl⟩;rw [← hq1] at hk;have HK := Zd.mk hk;have Nj := Zd.mk hq1;clear hk hq1;have SH := Zd.mk (jP.out.trans (Nn.out.mono jP.out.size));have aue := aG SH.out QF.out.1;have auf := aG SH.out QF.out.2.1;have aug := aG SH.out QF.out.2.2;go_upto_region 37 with (go_at_call 15; refine (ZF.out _ SH.out).mono ?_; rintro e w9 ⟨At, ct, rfl, hB⟩; have fE := Zd.mk (Nn.out.trans (hB.mono Nn.out.size)); have HZ9 := Zd.mk (Kd.aQ HZ.out hB); clear hB)
        clear aue auf aug;obtain ⟨WP, rfl⟩ : ∃ W : World, W = w9 := ⟨_, rfl⟩;go_wp2;go_loopg [18, 132] P1 (fun kq v18 v132 w' => ∃ (i : Nat) (y : List Bool) (Ay : Option Addr) (cy : Nat), i + kq = P1 ∧ v132 = .int .i64 (i : Int) ∧ v18 = .slice Ay nn cy ∧ Zd (nn ≤ cy) ∧ Zd (Kd.C Kd.bool w' Ay nn y) ∧ Zd (L.GI nx good nn pn z y i) ∧ Zd (Below WP.heap.size WP w'))
        case atStart => exact ⟨0, z, Az, cz, by omega, rfl, rfl, ZG, HZ9, ⟨L.GI.start Ct.out wI.out⟩, ⟨Below.refl _ _⟩⟩
        case round =>
         obtain ⟨i, y, Ay, cy, hi, rfl, rfl, ZH, HY, zJ, Np⟩ := hrel;obtain ⟨WI, rfl⟩ : ∃ W : World, W = wr := ⟨_, rfl⟩;obtain ⟨q2, hq2⟩ : ∃ k, k = gk := ⟨_, rfl⟩;rw [← hq2] at hi;have HI := Zd.mk hi;have Zm := Zd.mk hq2;clear hi hq2;by_cases hil : i < P1
         ·have XI : (i : Int) < (P1 : Int) := by omega
          have hmk := HMK.out WI;have HYN := Zd.mk (zJ.out.next (i := i) (by rw [← Nl.out]; exact hil));go_upto_region 41 with fail
          clear hmk;obtain ⟨WG, SI⟩ : ∃ W : World, W = WI.alloc (.cells (Array.replicate nn (Value.bool false)) 4) := ⟨_, rfl⟩;obtain ⟨gg, hgg⟩ : ∃ k, k = WI.heap.size := ⟨_, rfl⟩;rw [← SI, ← hgg];have yO := Zd.mk (show WI.heap.size ≤ gg by omega);have HBG := Zd.mk (show Below WI.heap.size WI WG by rw [SI]; exact aW (Below.refl _ _) _);have Qg : Zd (Kd.R Kd.bool 4 WG WI.heap.size (fun _ => True) (.slice (some ⟨gg, 0, none⟩) nn nn) (List.replicate nn false)) := ⟨XE (W := WI) ⟨yO.out, by rw [SI, hgg]; exact heap_alloc_new WI _⟩ ag trivial⟩;have GR := Zd.mk (fE.out.trans (Np.out.mono fE.out.size));have Jy := Zd.mk (jP.out.trans (GR.out.mono jP.out.size));clear SI hgg;go_wp2;go_loopg [140] nn (fun kq v140 w' => ∃ p : Nat, p + kq = nn ∧ v140 = .int .i64 (p : Int) ∧ Zd (Below WI.heap.size WI w') ∧ Zd (Kd.R Kd.bool 4 w' WI.heap.size (fun _ => True) (.slice (some ⟨gg, 0, none⟩) nn nn) ((List.range p).map (L.mR nx good pn i (Sg.aH y)) ++ List.replicate (nn - p) false)))
          case atStart => exact ⟨0, by omega, rfl, HBG, Qg⟩
          case round =>
           obtain ⟨p, hp, rfl, qf, Ba⟩ := hrel;obtain ⟨WB, rfl⟩ : ∃ W : World, W = wr := ⟨_, rfl⟩;have yL := Zd.mk hp;clear hp;by_cases hlt : p < nn
           ·have hlt2 : (p : Int) < (nn : Int) := by omega
            have hdr := bV (Below.refl WB.heap.size WB);have hBW := qf.out.trans (hdr.mono qf.out.size);obtain ⟨Eh, eY, zy⟩ := IC HY.out hlt;subst eY;obtain ⟨yb, hyb⟩ : ∃ b, b = y.getD p false := ⟨_, rfl⟩;rw [← hyb] at zy;have ky := aG hBW zy;have SK := Zd.mk (show Sg.aH y p = yb from hyb.symm);clear zy hyb;cases yb with
            | false =>
             have BP := Zd.mk (show L.mR nx good pn i (Sg.aH y) p = false from by unfold L.mR; rw [SK.out, Bool.false_and]);clear hBW hdr;go_upto_region 44 with fail
             refine iP (n := 37) (S := fun w' => w'.cell? (Eh.add p) = some (.bool false)) (ds := [36]) Ox aa rfl rfl (ky) (fun hHeld => ?_);refine iR vV.Sr vV.Su (fun ae bA => ?_);refine pz ae.out 0 (some 143) Oy rfl rfl ?_;refine pz ae.out 1 (some 144) Oz rfl rfl ?_;refine pz ae.out 2 (some 145) OA rfl rfl ?_;refine pz ae.out 3 (some 146) OB rfl rfl ?_;refine pz ae.out 4 (some 147) OC rfl rfl ?_;refine tz ae.out bA.out 5 (some 148) OD rfl rfl hHeld ?_;refine pz ae.out 6 (some 149) OE rfl rfl ?_;refine pu ae.out 7 (some 150) OG rfl rfl ?_;refine pu ae.out 8 (some 151) OH rfl rfl ?_;refine pu ae.out 9 (some 152) OI rfl rfl ?_;refine pu ae.out 10 (some 153) OJ rfl rfl ?_;refine pu ae.out 11 (some 154) OL rfl rfl ?_;refine pu ae.out 12 (some 155) ab1 rfl rfl ?_;refine pu ae.out 13 (some 156) ab2 rfl rfl ?_;refine pu ae.out 14 (some 157) ab3 rfl rfl ?_;refine pu ae.out 15 (some 158) ab4 rfl rfl ?_;refine pu ae.out 16 (some 159) ab5 rfl rfl ?_;refine pu ae.out 17 (some 160) ab6 rfl rfl ?_;refine pu ae.out 18 (some 161) ab7 rfl rfl ?_;refine pu ae.out 19 (some 162) ab8 rfl rfl ?_;refine pu ae.out 20 (some 163) ab9 rfl rfl ?_;refine pu ae.out 21 (some 164) OM rfl rfl ?_;refine pu ae.out 22 (some 165) OO rfl rfl ?_;refine pu ae.out 23 (some 166) OP rfl rfl ?_;refine pu ae.out 24 (some 167) OQ rfl rfl ?_;refine pu ae.out 25 (some 168) OT rfl rfl ?_;refine pz ae.out 26 (some 169) OU rfl rfl ?_;refine pz ae.out 27 (some 170) OV rfl rfl ?_;refine pu ae.out 28 (some 171) OW rfl rfl ?_;refine pu ae.out 29 (some 172) OX rfl rfl ?_;refine pu ae.out 30 (some 173) OY rfl rfl ?_;refine pu ae.out 31 (some 174) ab_ rfl rfl ?_;refine pu ae.out 32 (some 175) OZ rfl rfl ?_;refine pu ae.out 33 (some 176) O0 rfl rfl ?_;refine pz ae.out 34 (some 177) O1 rfl rfl ?_;refine pz ae.out 35 (some 178) O3 rfl rfl ?_;refine kV (i := 36) (N := none) O4 rfl rfl (di ae.out aa) ai (fun K hK => ?_);obtain ⟨ZI, ZJ⟩ := zi (Kd.gU Ba.out (show Below WB.heap.size WB WB.drew from bV (Below.refl _ _))) hlt;refine iQ (w1 := (WB.drew).setCell ⟨gg, p, none⟩ (.bool false)) bu rfl ?_ ?_
             ·(go_simp; try rfl)
             refine hK.out _ _ ?_;clear hK K;refine kD (kE ae.out aa) ?_;clear hHeld ae bA;go_wp2;go_roundg (gk - 1)
             case measure => have := yL.out; omega
             case rel => exact ⟨p + 1, by have := yL.out; omega, by first | rfl | (congr 1; go_num; done), ⟨(qf.out.trans (Below.mono ((show Below WB.heap.size WB WB.drew from bV (Below.refl _ _))) qf.out.size)).setCell yO.out _⟩, ⟨by rw [← Sy _ hlt, BP.out]; exact DN (Kd.gU Ba.out ((show Below WB.heap.size WB WB.drew from bV (Below.refl _ _)))) p false⟩⟩
            | true =>
             have sM := GR.out.trans (hBW.mono GR.out.size);have SL := Jy.out.trans (hBW.mono Jy.out.size);have Bb := aG SL QF.out.1;have Bc := aG SL QF.out.2.1;have Bd := aG SL QF.out.2.2;obtain ⟨axf, Ar, cr, eR, zr, lr, nT⟩ := Dw ZE.out hlt;cases eR;obtain ⟨row, hrow⟩ : ∃ r, r = rows.getD p [] := ⟨_, rfl⟩;have hrl := ZA.out p hlt;rw [← hrow] at zr lr nT hrl;have kr := aG sM zr;have hyl := zJ.out.len;obtain ⟨bo, GJ⟩ : ∃ b, b = row.any (Sg.aH y) := ⟨_, rfl⟩;have aih := Zd.mk (show (nx p).any (Sg.aH y) = bo from by rw [← ZC.out, GJ, hrow]);have hcl : ∀ W, Below WB.heap.size WB W → Below WI.heap.size WI W := fun W hb => qf.out.trans (hb.mono qf.out.size);have Ef := Zd.mk (fun W (hb : Below WB.heap.size WB W) => (ah6 y row (by rw [hyl]; exact hrl.2) ag Ar (some Eh) cr cy W (Kd.aQ nT (GR.out.trans ((hcl W hb).mono GR.out.size))) lr (by rw [hyl]; exact Kd.aQ HY.out (hcl W hb)) (by rw [hyl]; exact ZH.out)).mono (R' := fun e w' => e = .returned (.bool bo) ∧ Below W.heap.size W w') (fun e w' h => ⟨by rw [h.1, GJ], h.2.below⟩));rw [hyl] at Ef;have vG := Zd.mk (fun W (hb : Below WB.heap.size WB W) => ZF.out W (Jy.out.trans ((hcl W hb).mono Jy.out.size)));have auh := Zd.mk hcl;clear hBW hdr hcl GJ hrl hrow zr nT hyl SL;by_cases hp0 : pn = 0
             ·have hp1 : ((pn : Int) == 0) = true := by rw [hp0]; rfl
              have BP := Zd.mk (show L.mR nx good pn i (Sg.aH y) p = bo from by unfold L.mR; rw [SK.out, aih.out, hp0]; rfl);clear hp0 sM;go_upto_region 44 with fail
              refine iP (n := 37) (S := fun w' => w'.cell? (Eh.add p) = some (.bool true) ∧ w'.cell? ⟨gf, 0, none⟩ = some (.int .i64 s.f0) ∧ w'.cell? ⟨gf, 1, none⟩ = some (.int .i64 s.f1) ∧ w'.cell? ⟨gf, 2, none⟩ = some (.slice A5 s.f2.length c5) ∧ w'.cell? (Fz.add p) = some (.slice Ar row.length cr)) (ds := [36]) Ox aa rfl rfl ⟨ky, Bb, Bc, Bd, kr⟩ (fun hHeld => ?_);refine iR vV.Sr vV.Su (fun ae bA => ?_);refine pz ae.out 0 (some 143) Oy rfl rfl ?_;refine pz ae.out 1 (some 144) Oz rfl rfl ?_;refine pz ae.out 2 (some 145) OA rfl rfl ?_;refine pz ae.out 3 (some 146) OB rfl rfl ?_;refine pz ae.out 4 (some 147) OC rfl rfl ?_;refine tz ae.out bA.out 5 (some 148) OD rfl rfl hHeld ?_;refine pz ae.out 6 (some 149) OE rfl rfl ?_;refine tz ae.out bA.out 7 (some 150) OG rfl rfl hHeld ?_;refine gV (i := 8) (N := some 151) OH rfl rfl (di ae.out aa) ai (fun K hK => ?_);refine jT Tryz.func15 aa rfl #[.agg #[.int .i64 s.f0, .int .i64 s.f1, .slice A5 s.f2.length c5]] bu rfl rfl (by simp only [List.map_toArray, List.map_cons, List.map_nil]; rfl) ?_
              with_reducible refine (vG.out _ (show Below WB.heap.size WB WB.drew from bV (Below.refl _ _))).mono ?_
              rintro e_ Nq ⟨At_, ct_, rfl, hB⟩;have jF := Zd.mk (show Below WB.heap.size WB Nq from (bV (Below.refl _ _)).trans hB);clear hB hHeld;refine ⟨_, rfl, ?_⟩;refine hK.out _ _ ⟨(aG jF.out ky), (aG jF.out Bb), (aG jF.out Bc), (aG jF.out Bd), (aG jF.out kr)⟩ (fun hHeld => ?_);clear hK K;refine gW (a' := ?_) ?_ ?_;rotate_left
              ·show Act.put _ (some 151) _ = _;simp only [Act.put, List.setIfInBounds_toArray, List.set_cons_zero, List.set_cons_succ, bE, dS];rfl
              refine pz ae.out 9 (some 152) OI rfl rfl ?_;refine pz ae.out 10 (some 153) OJ rfl rfl ?_;refine pz ae.out 11 (some 154) OL rfl rfl ?_;refine pu ae.out 12 (some 155) ab1 rfl rfl ?_;refine pu ae.out 13 (some 156) ab2 rfl rfl ?_;refine pu ae.out 14 (some 157) ab3 rfl rfl ?_;refine pu ae.out 15 (some 158) ab4 rfl rfl ?_;refine pu ae.out 16 (some 159) ab5 rfl rfl ?_;refine pu ae.out 17 (some 160) ab6 rfl rfl ?_;refine pu ae.out 18 (some 161) ab7 rfl rfl ?_;refine pu ae.out 19 (some 162) ab8 rfl rfl ?_;refine pu ae.out 20 (some 163) ab9 rfl rfl ?_;refine pu ae.out 21 (some 164) OM rfl rfl ?_;refine pu ae.out 22 (some 165) OO rfl rfl ?_;refine pu ae.out 23 (some 166) OP rfl rfl ?_;refine pu ae.out 24 (some 167) OQ rfl rfl ?_;refine pz ae.out 25 (some 168) OT rfl rfl ?_;refine pz ae.out 26 (some 169) OU rfl rfl ?_;refine pz ae.out 27 (some 170) OV rfl rfl ?_;refine pz ae.out 28 (some 171) OW rfl rfl ?_;refine pz ae.out 29 (some 172) OX rfl rfl ?_;refine pz ae.out 30 (some 173) OY rfl rfl ?_;refine pz ae.out 32 (some 175) aca rfl rfl ?_;refine tz ae.out bA.out 31 (some 174) OZ rfl rfl hHeld ?_;refine gV (i := 33) (N := some 176) O0 rfl rfl (di ae.out aa) ai (fun K hK => ?_);refine jT Tryz.func23 aa rfl #[.slice Ar row.length cr, .slice (some Eh) nn cy] bu rfl rfl (by simp only [List.map_toArray, List.map_cons, List.map_nil]; rfl) ?_
              with_reducible refine (Ef.out _ jF.out).mono ?_
              rintro e_ Nr ⟨rfl, hB⟩;have qz := Zd.mk (show Below WB.heap.size WB Nr from jF.out.trans (hB.mono jF.out.size));clear hB hHeld;refine ⟨_, rfl, ?_⟩;refine hK.out _ _ ⟨(aG qz.out ky), (aG qz.out Bb), (aG qz.out Bc), (aG qz.out Bd), (aG qz.out kr)⟩ (fun hHeld => ?_);clear hK K;refine gW (a' := ?_) ?_ ?_;rotate_left
              ·show Act.put _ (some 176) _ = _;simp only [Act.put, List.setIfInBounds_toArray, List.set_cons_zero, List.set_cons_succ, bE, dS];rfl
              refine pz ae.out 34 (some 177) O1 rfl rfl ?_;refine pz ae.out 35 (some 178) O3 rfl rfl ?_;refine kV (i := 36) (N := none) O4 rfl rfl (di ae.out aa) ai (fun K hK => ?_);obtain ⟨ZI, ZJ⟩ := zi (Kd.gU Ba.out qz.out) hlt;refine iQ (w1 := (Nr).setCell ⟨gg, p, none⟩ (.bool bo)) bu rfl ?_ ?_
              ·(go_simp; try rfl)
              refine hK.out _ _ ?_;clear hK K;refine kD (kE ae.out aa) ?_;clear hHeld ae bA;go_wp2;go_roundg (gk - 1)
              case measure => have := yL.out; omega
              case rel => exact ⟨p + 1, by have := yL.out; omega, by first | rfl | (congr 1; go_num; done), ⟨(qf.out.trans (Below.mono (qz.out) qf.out.size)).setCell yO.out _⟩, ⟨by rw [← Sy _ hlt, BP.out]; exact DN (Kd.gU Ba.out (qz.out)) p bo⟩⟩
             ·have hp1 : ((pn : Int) == 0) = false := by rw [beq_eq_false_iff_ne]; omega
              have hp2 : (pn == 0) = false := by rw [beq_eq_false_iff_ne]; exact hp0
              have hpx : p / sz < ls.length := by rw [Nat.div_lt_iff_lt_mul ag, Nat.mul_comm, ← ma.out]; exact hlt
              obtain ⟨qV, eL, zl⟩ := uh H0.out hpx;subst eL;have kl := aG (aif.out.trans (sM.mono aif.out.size)) zl;have GU := aG (jP.out.trans (sM.mono jP.out.size)) QK.out.1;obtain ⟨lt, hlt3⟩ : ∃ x, x = ls.getD (p / sz) 0 := ⟨_, rfl⟩;rw [← hlt3] at kl;obtain ⟨bg, hbg⟩ : ∃ b, b = GG s (i : Int) ((p % sz : Nat) : Int) lt := ⟨_, rfl⟩;have aii := Zd.mk (show good i p = bg from by rw [hbg, hlt3, ← SE.out, oG.out]; exact (atZ i p).symm);have ZK := Zd.mk (fun W (hb : Below WB.heap.size WB W) => DC.out W (Jy.out.trans ((auh.out W hb).mono Jy.out.size)) (i : Int) ((p % sz : Nat) : Int) lt);rw [← hbg] at ZK;have ed := P8 (a := p) (b := sz);have em := V8 (a := p) (b := sz);have BQ := V9 p sz;clear zl hlt3 hbg sM;generalize p / sz = vx at *;generalize p % sz = sx at *;have Wh : IntKind.i64.wrap ((p : Int) / (sz : Int)) = (vx : Int) := by rw [ed]; exact (bE _).trans (vD ag)
              have hd1 : (vx : Int) < (ls.length : Int) := by omega
              clear ed;have axg := DC;have DC := ZK;clear ZK;cases bg with
              | false =>
               have BP := Zd.mk (show L.mR nx good pn i (Sg.aH y) p = false from by unfold L.mR; rw [SK.out, aii.out, hp2]; rfl);clear hp0 hp2;go_upto_region 44 with fail
               refine iP (n := 37) (S := fun w' => w'.cell? (Eh.add p) = some (.bool true) ∧ w'.cell? ⟨gf, 0, none⟩ = some (.int .i64 s.f0) ∧ w'.cell? ⟨gf, 1, none⟩ = some (.int .i64 s.f1) ∧ w'.cell? ⟨gf, 2, none⟩ = some (.slice A5 s.f2.length c5) ∧ w'.cell? ⟨eB, 0, none⟩ = some (.slice (some qV) ls.length c0) ∧ w'.cell? (qV.add vx) = some (.int .u32 lt) ∧ w'.cell? (Fz.add p) = some (.slice Ar row.length cr)) (ds := [36]) Ox aa rfl rfl ⟨ky, Bb, Bc, Bd, GU, kl, kr⟩ (fun hHeld => ?_);refine iR vV.Sr vV.Su (fun ae bA => ?_);refine pz ae.out 0 (some 143) Oy rfl rfl ?_;refine pz ae.out 1 (some 144) Oz rfl rfl ?_;refine pz ae.out 2 (some 145) OA rfl rfl ?_;refine pz ae.out 3 (some 146) OB rfl rfl ?_;refine pz ae.out 4 (some 147) OC rfl rfl ?_;refine tz ae.out bA.out 5 (some 148) OD rfl rfl hHeld ?_;refine pz ae.out 6 (some 149) OE rfl rfl ?_;refine tz ae.out bA.out 7 (some 150) OG rfl rfl hHeld ?_;refine gV (i := 8) (N := some 151) OH rfl rfl (di ae.out aa) ai (fun K hK => ?_);refine jT Tryz.func15 aa rfl #[.agg #[.int .i64 s.f0, .int .i64 s.f1, .slice A5 s.f2.length c5]] bu rfl rfl (by simp only [List.map_toArray, List.map_cons, List.map_nil]; rfl) ?_
               with_reducible refine (vG.out _ (show Below WB.heap.size WB WB.drew from bV (Below.refl _ _))).mono ?_
               rintro e_ Nq ⟨At_, ct_, rfl, hB⟩;have jF := Zd.mk (show Below WB.heap.size WB Nq from (bV (Below.refl _ _)).trans hB);clear hB hHeld;refine ⟨_, rfl, ?_⟩;refine hK.out _ _ ⟨(aG jF.out ky), (aG jF.out Bb), (aG jF.out Bc), (aG jF.out Bd), (aG jF.out GU), (aG jF.out kl), (aG jF.out kr)⟩ (fun hHeld => ?_);clear hK K;refine gW (a' := ?_) ?_ ?_;rotate_left
               ·show Act.put _ (some 151) _ = _;simp only [Act.put, List.setIfInBounds_toArray, List.set_cons_zero, List.set_cons_succ, bE, dS];rfl
               refine pz ae.out 9 (some 152) OI rfl rfl ?_;refine pz ae.out 10 (some 153) OJ rfl rfl ?_;refine pz ae.out 11 (some 154) OL rfl rfl ?_;refine pz ae.out 13 (some 156) acb rfl rfl ?_;refine pz ae.out 14 (some 157) acd rfl rfl ?_;refine pz ae.out 15 (some 158) ace rfl rfl ?_;refine pz ae.out 16 (some 159) acf rfl rfl ?_;refine pz ae.out 17 (some 160) acg rfl rfl ?_;refine pz ae.out 19 (some 162) ach rfl rfl ?_;refine pz ae.out 20 (some 163) aci rfl rfl ?_;refine pz ae.out 21 (some 164) acj rfl rfl ?_;refine tz ae.out bA.out 12 (some 155) ack rfl rfl hHeld ?_;refine tz ae.out bA.out 18 (some 161) OM rfl rfl hHeld ?_;refine pz ae.out 22 (some 165) OO rfl rfl ?_;refine tz ae.out bA.out 23 (some 166) OP rfl rfl hHeld ?_;refine gV (i := 24) (N := some 167) OQ rfl rfl (di ae.out aa) ai (fun K hK => ?_);refine jT Tryz.func22 aa rfl #[.agg #[.int .i64 s.f0, .int .i64 s.f1, .slice A5 s.f2.length c5], .int .i64 (i : Int), .int .i64 (sx : Int), .int .u32 lt] bu rfl rfl (by simp only [List.map_toArray, List.map_cons, List.map_nil]; rfl) ?_
               with_reducible refine (DC.out _ jF.out).mono ?_
               rintro e_ SN ⟨rfl, hB⟩;have oK := Zd.mk (show Below WB.heap.size WB SN from jF.out.trans (hB.mono jF.out.size));clear hB hHeld;refine ⟨_, rfl, ?_⟩;refine hK.out _ _ ⟨(aG oK.out ky), (aG oK.out Bb), (aG oK.out Bc), (aG oK.out Bd), (aG oK.out GU), (aG oK.out kl), (aG oK.out kr)⟩ (fun hHeld => ?_);clear hK K;refine gW (a' := ?_) ?_ ?_;rotate_left
               ·show Act.put _ (some 167) _ = _;simp only [Act.put, List.setIfInBounds_toArray, List.set_cons_zero, List.set_cons_succ, bE, dS];rfl
               refine pz ae.out 25 (some 168) OT rfl rfl ?_;refine pz ae.out 26 (some 169) OU rfl rfl ?_;refine pz ae.out 27 (some 170) OV rfl rfl ?_;refine pu ae.out 28 (some 171) OW rfl rfl ?_;refine pu ae.out 29 (some 172) OX rfl rfl ?_;refine pu ae.out 30 (some 173) OY rfl rfl ?_;refine pu ae.out 31 (some 174) ab_ rfl rfl ?_;refine pu ae.out 32 (some 175) OZ rfl rfl ?_;refine pu ae.out 33 (some 176) O0 rfl rfl ?_;refine pz ae.out 34 (some 177) O1 rfl rfl ?_;refine pz ae.out 35 (some 178) O3 rfl rfl ?_;refine kV (i := 36) (N := none) O4 rfl rfl (di ae.out aa) ai (fun K hK => ?_);obtain ⟨ZI, ZJ⟩ := zi (Kd.gU Ba.out oK.out) hlt;refine iQ (w1 := (SN).setCell ⟨gg, p, none⟩ (.bool false)) bu rfl ?_ ?_
               ·(go_simp; try rfl)
               refine hK.out _ _ ?_;clear hK K;refine kD (kE ae.out aa) ?_;clear hHeld ae bA;go_wp2;go_roundg (gk - 1)
               case measure => have := yL.out; omega
               case rel => exact ⟨p + 1, by have := yL.out; omega, by first | rfl | (congr 1; go_num; done), ⟨(qf.out.trans (Below.mono (oK.out) qf.out.size)).setCell yO.out _⟩, ⟨by rw [← Sy _ hlt, BP.out]; exact DN (Kd.gU Ba.out (oK.out)) p false⟩⟩
              | true =>
               have BP := Zd.mk (show L.mR nx good pn i (Sg.aH y) p = bo from by unfold L.mR; rw [SK.out, aih.out, aii.out, hp2]; rfl);clear hp0 hp2;go_upto_region 44 with fail
               refine iP (n := 37) (S := fun w' => w'.cell? (Eh.add p) = some (.bool true) ∧ w'.cell? ⟨gf, 0, none⟩ = some (.int .i64 s.f0) ∧ w'.cell? ⟨gf, 1, none⟩ = some (.int .i64 s.f1) ∧ w'.cell? ⟨gf, 2, none⟩ = some (.slice A5 s.f2.length c5) ∧ w'.cell? ⟨eB, 0, none⟩ = some (.slice (some qV) ls.length c0) ∧ w'.cell? (qV.add vx) = some (.int .u32 lt) ∧ w'.cell? (Fz.add p) = some (.slice Ar row.length cr)) (ds := [36]) Ox aa rfl rfl ⟨ky, Bb, Bc, Bd, GU, kl, kr⟩ (fun hHeld => ?_);refine iR vV.Sr vV.Su (fun ae bA => ?_);refine pz ae.out 0 (some 143) Oy rfl rfl ?_;refine pz ae.out 1 (some 144) Oz rfl rfl ?_;refine pz ae.out 2 (some 145) OA rfl rfl ?_;refine pz ae.out 3 (some 146) OB rfl rfl ?_;refine pz ae.out 4 (some 147) OC rfl rfl ?_;refine tz ae.out bA.out 5 (some 148) OD rfl rfl hHeld ?_;refine pz ae.out 6 (some 149) OE rfl rfl ?_;refine tz ae.out bA.out 7 (some 150) OG rfl rfl hHeld ?_;refine gV (i := 8) (N := some 151) OH rfl rfl (di ae.out aa) ai (fun K hK => ?_);refine jT Tryz.func15 aa rfl #[.agg #[.int .i64 s.f0, .int .i64 s.f1, .slice A5 s.f2.length c5]] bu rfl rfl (by simp only [List.map_toArray, List.map_cons, List.map_nil]; rfl) ?_
               with_reducible refine (vG.out _ (show Below WB.heap.size WB WB.drew from bV (Below.refl _ _))).mono ?_
               rintro e_ Nq ⟨At_, ct_, rfl, hB⟩;have jF := Zd.mk (show Below WB.heap.size WB Nq from (bV (Below.refl _ _)).trans hB);clear hB hHeld;refine ⟨_, rfl, ?_⟩;refine hK.out _ _ ⟨(aG jF.out ky), (aG jF.out Bb), (aG jF.out Bc), (aG jF.out Bd), (aG jF.out GU), (aG jF.out kl), (aG jF.out kr)⟩ (fun hHeld => ?_);clear hK K;refine gW (a' := ?_) ?_ ?_;rotate_left
               ·show Act.put _ (some 151) _ = _;simp only [Act.put, List.setIfInBounds_toArray, List.set_cons_zero, List.set_cons_succ, bE, dS];rfl
               refine pz ae.out 9 (some 152) OI rfl rfl ?_;refine pz ae.out 10 (some 153) OJ rfl rfl ?_;refine pz ae.out 11 (some 154) OL rfl rfl ?_;refine pz ae.out 13 (some 156) acb rfl rfl ?_;refine pz ae.out 14 (some 157) acd rfl rfl ?_;refine pz ae.out 15 (some 158) ace rfl rfl ?_;refine pz ae.out 16 (some 159) acf rfl rfl ?_;refine pz ae.out 17 (some 160) acg rfl rfl ?_;refine pz ae.out 19 (some 162) ach rfl rfl ?_;refine pz ae.out 20 (some 163) aci rfl rfl ?_;refine pz ae.out 21 (some 164) acj rfl rfl ?_;refine tz ae.out bA.out 12 (some 155) ack rfl rfl hHeld ?_;refine tz ae.out bA.out 18 (some 161) OM rfl rfl hHeld ?_;refine pz ae.out 22 (some 165) OO rfl rfl ?_;refine tz ae.out bA.out 23 (some 166) OP rfl rfl hHeld ?_;refine gV (i := 24) (N := some 167) OQ rfl rfl (di ae.out aa) ai (fun K hK => ?_);refine jT Tryz.func22 aa rfl #[.agg #[.int .i64 s.f0, .int .i64 s.f1, .slice A5 s.f2.length c5], .int .i64 (i : Int), .int .i64 (sx : Int), .int .u32 lt] bu rfl rfl (by simp only [List.map_toArray, List.map_cons, List.map_nil]; rfl) ?_
               with_reducible refine (DC.out _ jF.out).mono ?_
               rintro e_ SN ⟨rfl, hB⟩;have oK := Zd.mk (show Below WB.heap.size WB SN from jF.out.trans (hB.mono jF.out.size));clear hB hHeld;refine ⟨_, rfl, ?_⟩;refine hK.out _ _ ⟨(aG oK.out ky), (aG oK.out Bb), (aG oK.out Bc), (aG oK.out Bd), (aG oK.out GU), (aG oK.out kl), (aG oK.out kr)⟩ (fun hHeld => ?_);clear hK K;refine gW (a' := ?_) ?_ ?_;rotate_left
               ·show Act.put _ (some 167) _ = _;simp only [Act.put, List.setIfInBounds_toArray, List.set_cons_zero, List.set_cons_succ, bE, dS];rfl
               refine pz ae.out 25 (some 168) OT rfl rfl ?_;refine pz ae.out 26 (some 169) OU rfl rfl ?_;refine pz ae.out 27 (some 170) OV rfl rfl ?_;refine pz ae.out 28 (some 171) OW rfl rfl ?_;refine pz ae.out 29 (some 172) OX rfl rfl ?_;refine pz ae.out 30 (some 173) OY rfl rfl ?_;refine pz ae.out 32 (some 175) aca rfl rfl ?_;refine tz ae.out bA.out 31 (some 174) OZ rfl rfl hHeld ?_;refine gV (i := 33) (N := some 176) O0 rfl rfl (di ae.out aa) ai (fun K hK => ?_);refine jT Tryz.func23 aa rfl #[.slice Ar row.length cr, .slice (some Eh) nn cy] bu rfl rfl (by simp only [List.map_toArray, List.map_cons, List.map_nil]; rfl) ?_
               with_reducible refine (Ef.out _ oK.out).mono ?_
               rintro e_ Nr ⟨rfl, hB⟩;have qz := Zd.mk (show Below WB.heap.size WB Nr from oK.out.trans (hB.mono oK.out.size));clear hB hHeld;refine ⟨_, rfl, ?_⟩;refine hK.out _ _ ⟨(aG qz.out ky), (aG qz.out Bb), (aG qz.out Bc), (aG qz.out Bd), (aG qz.out GU), (aG qz.out kl), (aG qz.out kr)⟩ (fun hHeld => ?_);clear hK K;refine gW (a' := ?_) ?_ ?_;rotate_left
               ·show Act.put _ (some 176) _ = _;simp only [Act.put, List.setIfInBounds_toArray, List.set_cons_zero, List.set_cons_succ, bE, dS];rfl
               refine pz ae.out 34 (some 177) O1 rfl rfl ?_;refine pz ae.out 35 (some 178) O3 rfl rfl ?_;refine kV (i := 36) (N := none) O4 rfl rfl (di ae.out aa) ai (fun K hK => ?_);obtain ⟨ZI, ZJ⟩ := zi (Kd.gU Ba.out qz.out) hlt;refine iQ (w1 := (Nr).setCell ⟨gg, p, none⟩ (.bool bo)) bu rfl ?_ ?_
               ·(go_simp; try rfl)
               refine hK.out _ _ ?_;clear hK K;refine kD (kE ae.out aa) ?_;clear hHeld ae bA;go_wp2;go_roundg (gk - 1)
               case measure => have := yL.out; omega
               case rel => exact ⟨p + 1, by have := yL.out; omega, by first | rfl | (congr 1; go_num; done), ⟨(qf.out.trans (Below.mono (qz.out) qf.out.size)).setCell yO.out _⟩, ⟨by rw [← Sy _ hlt, BP.out]; exact DN (Kd.gU Ba.out (qz.out)) p bo⟩⟩
           ·have e : nn = p := by have := yL.out; omega
            subst e;rw [Nat.sub_self, List.replicate_zero, List.append_nil] at Ba;have hgr := Kd.pI Ba.out;have HCM := Zd.mk (atL rows (L.AZ nx good nn pn i y) y nn aid.out L.ah3 zJ.out.len ag ZA.out (some Fz) (some ⟨gg, 0, none⟩) Ay nn nn cy WB (Kd.aQ ZE.out (GR.out.trans (qf.out.mono GR.out.size))) (Nat.le_refl _) (by have h := hgr.2.2; rwa [show ((List.range nn).map (L.mR nx good pn i (Sg.aH y))).length = nn by simp] at h) (Nat.le_refl _) (Kd.aQ HY.out qf.out) ZH.out);rw [ZC.out] at HCM;clear hgr;go_upto_region 47 with (go_at_call 24; refine HCM.out.mono ?_; rintro e tY ⟨v, rfl, hR, hB⟩; obtain ⟨A9, c9, e9, ZL, ZM⟩ := Kd.iO hR; rw [L.Na] at e9 ZL ZM; subst e9; have FE := Zd.mk ZM; have aui := Zd.mk ZL; have rz := Zd.mk (Np.out.trans ((qf.out.trans (hB.mono qf.out.size)).mono Np.out.size)); clear hR hB ZM ZL)
            go_wp2;go_roundg (q2 - 1)
            case measure => have := HI.out; have := Zm.out; omega
            case rel => exact ⟨i + 1, _, A9, c9, by have := HI.out; omega, by first | rfl | (congr 1; go_num; done), rfl, aui, FE, HYN, rz⟩
         ·have e : P1 = i := by have := HI.out; omega
          subst e;have aij := Zd.mk (fE.out.trans (Np.out.mono fE.out.size));have HZI := Zd.mk (Kd.aQ HZ9.out Np.out);go_wp2;go_loopg [23, 187] nn (fun kq v23 v187 w' => ∃ (j : Nat) (b : Bool), j + kq = nn ∧ v187 = .int .i64 (j : Int) ∧ v23 = .bool b ∧ Zd (b = (List.range j).all (fun q => z.getD q false == y.getD q false)) ∧ Zd (Below WI.heap.size WI w'))
          case atStart => exact ⟨0, true, by omega, rfl, rfl, ⟨rfl⟩, ⟨Below.refl _ _⟩⟩
          case round =>
           obtain ⟨j, b, hj, rfl, rfl, HB, vW⟩ := hrel;obtain ⟨WJ, rfl⟩ : ∃ W : World, W = wr := ⟨_, rfl⟩;have HJ := Zd.mk hj;clear hj;by_cases hjl : j < nn
           ·have FY : (j : Int) < (nn : Int) := by omega
            have uo := Zd.mk (show (List.range (j + 1)).all (fun q => z.getD q false == y.getD q false) = ((List.range j).all (fun q => z.getD q false == y.getD q false) && (z.getD j false == y.getD j false)) from by rw [List.range_succ, List.all_append]; simp);cases b with
            | false =>
             go_wp2
             go_quiet (fail)
             go_wp2;go_roundg (gk - 1)
             case measure => have := HJ.out; omega
             case rel => exact ⟨j + 1, false, by have := HJ.out; omega, by first | rfl | (congr 1; go_num; done), rfl, ⟨by rw [uo.out, ← HB.out, Bool.false_and]⟩, ⟨vW.out.trans (fB (Below.refl _ _) _ |>.mono vW.out.size)⟩⟩
            | true =>
             obtain ⟨adz, eZ, zz⟩ := IC HZI.out hjl;subst eZ;obtain ⟨Eh, eY, zy⟩ := IC HY.out hjl;subst eY;have kz := aG vW.out zz;have ky := aG vW.out zy;obtain ⟨b1, hb1⟩ : ∃ b, b = z.getD j false := ⟨_, rfl⟩;obtain ⟨b2, hb2⟩ : ∃ b, b = y.getD j false := ⟨_, rfl⟩;rw [← hb1] at kz uo;rw [← hb2] at ky uo;clear zz zy hb1 hb2;go_wp2
             go_quiet (fail)
             go_wp2;go_roundg (gk - 1)
             case measure => have := HJ.out; omega
             case rel => exact ⟨j + 1, b1 == b2, by have := HJ.out; omega, by first | rfl | (congr 1; go_num; done), by first | rfl | (simp; done), ⟨by rw [uo.out, ← HB.out, Bool.true_and]⟩, ⟨vW.out.trans (fB (Below.refl _ _) _ |>.mono vW.out.size)⟩⟩
           ·have e : nn = j := by have := HJ.out; omega
            subst e;have hsm : b = decide (z = y) := HB.out.trans (atY Ct.out zJ.out.len);have jo := Zd.mk (aij.out.trans (vW.out.mono aij.out.size));by_cases uf : z = y
            ·rw [decide_eq_true uf] at hsm;subst hsm;go_wp2;go_meet;exact ⟨z, Az, cz, rfl, ZG, Ct, ⟨Kd.aQ HZI.out vW.out⟩, jo, wI, ⟨zJ.out.st (fun q hq => by rw [← uf]; exact hq)⟩⟩
            ·rw [decide_eq_false uf] at hsm;subst hsm;have ZN := Zd.mk (Sw (by rw [zJ.out.len, Ct.out]) zJ.out.sub uf);have oP := Zd.mk (atT y);go_wp2;go_roundg (nn + 1 - oJ y)
             case measure => have := HK.out; have := Nj.out; have := ZN.out; have := oP.out; have := zJ.out.len; omega
             case rel => exact ⟨y, Ay, cy, rfl, by have := oP.out; have := zJ.out.len; omega, ZH, ⟨zJ.out.len⟩, ⟨Kd.aQ HY.out vW.out⟩, jo, ⟨zJ.out.keep⟩⟩
      case rest =>
       obtain ⟨z, Az, cz, rfl, ZG, Ct, HZ, Nn, wI, HST⟩ := hcut;obtain ⟨W9, rfl⟩ : ∃ W : World, W = wc := ⟨_, rfl⟩;have fE := Zd.mk (jP.out.trans (Nn.out.mono jP.out.size));have Ei := Zd.mk (HB2.out.trans (fE.out.mono HB2.out.size));have aik := Zd.mk (show L.Sk ls ss s z = (iK ls ss nxs s true).isSome from L.atH uw.out lT.out (by rw [Ct.out, ma.out, oG.out]) (fun x hx => wI.out x (by
        rw [SE.out, ← oG.out, ← ma.out, ← SG.out] at hx;exact atX (fun p hp => (ZB.out p hp).symm) hx)) (fun k hk => by
        rw [SE.out, ← SG.out];refine atW (fun p hp => ZB.out p (by have := L.GH hp; rw [Ct.out] at this; exact this)) (HST.out k (by rw [Nl.out, SG.out]; exact hk))))
       have auj := aG fE.out QK.out.2.1;have axh := uw.out.sl;clear wI HST ZA ZB ZC SE ZF DC M5 HMK ZE Zy hpm qg SG hPn Nl;obtain ⟨fS, ZO⟩ : ∃ f : Int → Bool, f = fun v => (List.range sz).any (fun t => Sg.aH z (v.toNat * sz + t) && kL s (t : Int) (ls.getD v.toNat 0)) := ⟨_, rfl⟩;have oq := Zd.mk (show L.Sk ls ss s z = ss.any fS from by rw [ZO, oG.out]; rfl);have Qe := Zd.mk (show ∀ b, ss.any fS = b → rZ ls ss nxs s = (b, 0) from fun b hb => by
        unfold rZ;rw [HE.out, ← aik.out, oq.out, hb]; rfl)
       have XM := Zd.mk ZO;clear ZO aik;go_wp2;go_loopg [208] ss.length (fun kq v208 w' => ∃ j : Nat, j + kq = ss.length ∧ v208 = .int .i64 (j : Int) ∧ Zd ((ss.take j).any fS = false) ∧ Zd (Below W9.heap.size W9 w'))
       case atStart => exact ⟨0, by omega, rfl, ⟨rfl⟩, ⟨Below.refl _ _⟩⟩
       case round =>
        obtain ⟨j, hj, rfl, ZP, vW⟩ := hrel;obtain ⟨WJ, rfl⟩ : ∃ W : World, W = wr := ⟨_, rfl⟩;obtain ⟨q1, hq1⟩ : ∃ k, k = gk := ⟨_, rfl⟩;rw [← hq1] at hj;have HJ := Zd.mk hj;have Nj := Zd.mk hq1;clear hj hq1 auj;by_cases hjl : j < ss.length
        ·have FY : (j : Int) < (ss.length : Int) := by omega
         obtain ⟨ads, eS, zs⟩ := uh H1.out hjl;subst eS;have ks := aG (Ei.out.trans (vW.out.mono Ei.out.size)) zs;have hmem : ss.getD j 0 ∈ ss := by rw [List.getD_eq_getElem?_getD, List.getElem?_eq_getElem hjl]; exact List.getElem_mem hjl
         have hvr := uw.out.st _ hmem;have wG := Zd.mk (show (ss.take (j + 1)).any fS = ((ss.take j).any fS || fS (ss.getD j 0)) from by
          rw [List.take_succ_eq_append_getElem hjl, List.any_append, List.getD_eq_getElem?_getD, List.getElem?_eq_getElem hjl]; simp)
         obtain ⟨v, hv⟩ : ∃ k : Nat, ss.getD j 0 = (k : Int) := ⟨(ss.getD j 0).toNat, by omega⟩;rw [hv] at ks hvr wG hmem;have auk := Zd.mk hmem;have hvl : v < ls.length := by omega
         have QZ : (v : Int) < (ls.length : Int) := by omega
         obtain ⟨qV, eL, zl⟩ := uh H0.out hvl;subst eL;obtain ⟨lv, hlv⟩ : ∃ x, x = ls.getD v 0 := ⟨_, rfl⟩;rw [← hlv] at zl;have aul := Zd.mk zl;have HFV := Zd.mk (show fS (v : Int) = (List.range sz).any (fun t => Sg.aH z (v * sz + t) && kL s (t : Int) lv) from by rw [XM.out, hlv]; rfl);clear zs hmem hvr hv zl hlv;go_wp2;go_loopg [213] sz (fun kq v213 w' => ∃ t : Nat, t + kq = sz ∧ v213 = .int .i64 (t : Int) ∧ Zd ((List.range t).any (fun t => Sg.aH z (v * sz + t) && kL s (t : Int) lv) = false) ∧ Zd (Below W9.heap.size W9 w'))
         case atStart => exact ⟨0, by omega, rfl, ⟨rfl⟩, vW⟩
         case round =>
          obtain ⟨t, ht, rfl, Ns, oU⟩ := hrel;obtain ⟨WT, rfl⟩ : ∃ W : World, W = wr := ⟨_, rfl⟩;have HT := Zd.mk ht;clear ht ks vW;by_cases htl : t < sz
          ·have aua : (t : Int) < (sz : Int) := by omega
           have o6 : v * sz + t < nn := by
            have h1 : (v + 1) * sz ≤ ls.length * sz := Nat.mul_le_mul_right _ hvl;have h2 : (v + 1) * sz = v * sz + sz := Nat.succ_mul ..;rw [ma.out, Nat.mul_comm sz];omega
           have IK := Zd.mk (show (List.range (t + 1)).any (fun t => Sg.aH z (v * sz + t) && kL s (t : Int) lv) = ((List.range t).any (fun t => Sg.aH z (v * sz + t) && kL s (t : Int) lv) || (Sg.aH z (v * sz + t) && kL s (t : Int) lv)) from by rw [List.range_succ, List.any_append]; simp);have ail := Zd.mk (show Sg.aH z (v * sz + t) = true → kL s (t : Int) lv = true → ss.any fS = true from fun h1 h2 => List.any_eq_true.2 ⟨_, auk.out, by rw [HFV.out]; exact List.any_eq_true.2 ⟨t, List.mem_range.2 htl, by rw [h1, h2]; rfl⟩⟩);have uj := IE (a := v) (b := sz) (Nat.lt_of_le_of_lt (Nat.le_add_right _ t) (Nat.lt_trans o6 ag));have BS : IntKind.i64.wrap (((v * sz : Nat) : Int) + (t : Int)) = ((v * sz + t : Nat) : Int) := (bE _).trans (Lc (Nat.lt_trans o6 ag));obtain ⟨adz, eZ, zz⟩ := IC HZ.out o6;subst eZ;have kz := aG oU.out zz;obtain ⟨zb, hzb⟩ : ∃ b, b = z.getD (v * sz + t) false := ⟨_, rfl⟩;rw [← hzb] at kz;have HZB := Zd.mk (show Sg.aH z (v * sz + t) = zb from hzb.symm);rw [HZB.out] at IK;clear zz hzb;generalize v * sz + t = x at *;generalize v * sz = m at *;have FB : IntKind.i64.wrap ((v : Int) * (sz : Int)) = (m : Int) := (bE _).trans uj;have axi : (x : Int) < (nn : Int) := by omega
           clear uj;cases zb with
           | false =>
            go_wp2
            go_quiet (fail)
            clear FB BS kz;go_wp2;go_roundg (gk - 1)
            case measure => have := HT.out; omega
            case rel => exact ⟨t + 1, by have := HT.out; omega, by first | rfl | (congr 1; go_num; done), ⟨by rw [IK.out, Ns.out]; rfl⟩, ⟨oU.out.trans (fB (Below.refl _ _) _ |>.mono oU.out.size)⟩⟩
           | true =>
            obtain ⟨bv, hbv⟩ : ∃ b, b = kL s (t : Int) lv := ⟨_, rfl⟩;have Nt := Zd.mk (fE.out.trans (oU.out.mono fE.out.size));have Zq := aG Nt.out QK.out.1;have Zr := aG Nt.out QF.out.1;have Zt := aG Nt.out QF.out.2.1;have Zu := aG Nt.out QF.out.2.2;have Zv := aG (Ei.out.trans (oU.out.mono Ei.out.size)) aul.out;have Ip := Zd.mk (YD.out WT.drew (Nt.out.trans (bV (Below.refl _ _))) (t : Int) lv);rw [← hbv] at Ip IK ail;have jJ := Zd.mk (oU.out.trans ((bV (Below.refl WT.heap.size WT)).mono oU.out.size));clear hbv;go_wp2
            go_still_tail 16, aa
            change wpList _ _ _ _ _ WT.drew;generalize WT.drew = WD at *;clear Zq Zr Zt Zu Zv kz FB BS;cases bv with
            | false =>
             go_wp2_with (go_at_call 25; refine Ip.out.mono ?_; rintro e tY ⟨rfl, hB⟩; have rz := Zd.mk (jJ.out.trans (hB.mono jJ.out.size)); clear hB)
             go_roundg (gk - 1)
             case measure => have := HT.out; omega
             case rel => exact ⟨t + 1, by have := HT.out; omega, by first | rfl | (congr 1; go_num; done), ⟨by rw [IK.out, Ns.out]; rfl⟩, rz⟩
            | true =>
             go_wp2_with (go_at_call 25; refine Ip.out.mono ?_; rintro e tY ⟨rfl, hB⟩; have rz := Zd.mk (jJ.out.trans (hB.mono jJ.out.size)); clear hB)
             go_ret2;exact ⟨by rw [Qe.out true (ail.out HZB.out (by simp))]; rfl, Ei.out.trans (rz.out.mono Ei.out.size)⟩
          ·have e : sz = t := by have := HT.out; omega
           subst e;go_wp2;go_roundg (q1 - 1)
           case measure => have := HJ.out; have := Nj.out; omega
           case rel => exact ⟨j + 1, by have := HJ.out; omega, by first | rfl | (congr 1; go_num; done), ⟨by rw [wG.out, ZP.out, HFV.out, Ns.out]; rfl⟩, oU⟩
        ·have e : ss.length = j := by have := HJ.out; omega
         subst e;rw [List.take_length] at ZP;go_wp2;go_ret2;exact ⟨by rw [Qe.out false ZP.out]; rfl, Ei.out.trans (vW.out.mono Ei.out.size)⟩
  ·have BQ : (mf != 0) = true := by simpa using e2
   have HE := Zd.mk (Zh.out mf (by rw [zw.out, if_pos e1, if_neg e2]) e2);go_wp2;go_ret2;exact ⟨by rw [HE.out]; rfl, HB2.out.trans (bQ.out.mono HB2.out.size)⟩
 ·have AV : (mg != 0) = true := by simpa using e1
  have HE := Zd.mk (Zh.out mg (by rw [zw.out, if_neg e1]) e1);go_wp2;go_ret2;exact ⟨by rw [HE.out]; rfl, HB2.out.trans (HB3.out.mono HB2.out.size)⟩
end Go.Proofs.YtapejnikpmfddaaGreat.X
