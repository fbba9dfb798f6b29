/- A part of the claim SearchForms. -/
import Derived.ChangeArms
import Derived.SizedLaws
import Derived.WideShapes
import Derived.Test.YtapejnikpmfddaaGreatQSearchFormsw
set_option linter.unusedVariables false
set_option linter.unusedSimpArgs false
set_option maxHeartbeats 12800000
set_option maxRecDepth 100000
namespace Go.Proofs.YtapejnikpmfddaaGreat.X
open Go.RowKit Go.Proofs.aI.bM Go.Proofs.aI.dG Go.Proofs.aI.dM
open Go.Proofs.YtapejnikpmfddaaGreat.P Go.Proofs.YtapejnikpmfddaaGreat.gY
def qC.T6 : Bool × List (List Nat × List Nat) := (true, [([], []), ([0], [0]), ([], []), ([2, 1], [2]), ([1, 3], [1, 3]), ([4, 3], [4]), ([5], [5]), ([5], [5]), ([6, 7, 5], [5, 6, 7]), ([5, 8], [5, 8]), ([9, 5], [9]), ([10], [10]), ([10], [10]), ([11, 12, 10], [10, 11, 12]), ([10, 13], [10, 13]), ([14, 10], [14]), ([15], [15]), ([15], [15]), ([16, 17, 15], [15, 16, 17]), ([15, 18], [15, 18]), ([19, 15], [19]), ([20], [20]), ([21, 20], [20, 21]), ([22, 20, 20], [20, 22]), ([23], [23]), ([24, 23], [23, 24]), ([23], [23]), ([26, 23], [23, 26]), ([25, 27, 23], [23, 25, 27]), ([28, 23], [23, 28]), ([23, 29, 20], [20, 23, 29]), ([20, 30], [20, 30])])
def qC.B6 : List Nat := [0, 1, 0, 7, 15, 31, 63, 63, 255, 511, 1023, 2047, 2047, 8191, 16383, 32767, 65535, 65535, 262143, 524287, 1048575, 2097151, 4194303, 8388607, 16777215, 33554431, 16777215, 83886079, 268435455, 536870911, 1073741823, 2147483647]
theorem qC.aiD : dh .any (opsOf Tryz.f3 6) = qC.T6 := by kernel_rfl
theorem qC.aiE : ik qC.T6.2 qC.B6 = true := by kernel_rfl
def qC.Ma : Bool × List (List Nat × List Nat) := (true, [([], []), ([], []), ([1], [1]), ([0, 2, 2], [0, 2]), ([3], [3]), ([4], [4]), ([4], [4]), ([5, 3, 0, 1, 2, 3, 4, 5], [5]), ([6, 7, 0, 1, 2, 3, 4, 5, 6, 7], [6])])
def qC.B10 : List Nat := [0, 0, 2, 7, 15, 31, 31, 63, 255]
theorem qC.XV : dh .any (opsOf Tryz.f3 10) = qC.Ma := by kernel_rfl
theorem qC.XW : ik qC.Ma.2 qC.B10 = true := by kernel_rfl
theorem auU (ls ss : List Int) (nxs : List (List Int)) (s : ak) (A0 A1 A2 A5 : Option Addr) (c0 c1 c2 c5 : Nat) (w : World) (b0 : ls.length < 4611686018427387904) (b1 : ss.length < 4611686018427387904) (b2 : nxs.length < 1000000000000000) (b3 : ∀ x, x ∈ nxs → x.length ≤ 9223372036854775807)
  (h0 : Kd.C (Kd.int .u32) w A0 ls.length ls) (l0 : ls.length ≤ c0) (h1 : Kd.C (Kd.int .i64) w A1 ss.length ss) (l1 : ss.length ≤ c1) (h2 : Kd.C (Kd.slice 3 (Kd.int .i64)) w A2 nxs.length nxs) (l2 : nxs.length ≤ c2) (h5 : Kd.C bK w A5 s.f2.length s.f2) (l5 : s.f2.length ≤ c5) :
  Calls Tryz.prog 3 #[.agg #[.slice A0 ls.length c0, .slice A1 ss.length c1, .slice A2 nxs.length c2], .agg #[.int .i64 s.f0, .int .i64 s.f1, .slice A5 s.f2.length c5]] w fun e w' => e = .returned (.bool true) ∧ Below w.heap.size w w' := by
 have AB := Tryz.underlying26;have jm := Tryz.underlying29;obtain ⟨n0, hn0, _⟩ := as4 s;obtain ⟨kh, hkh⟩ := hn0.rounds;obtain ⟨n, hn⟩ : ∃ n, n = SQ ls ss nxs n0 (jB s) := ⟨_, rfl⟩;obtain ⟨km, wL⟩ := (agh ls ss nxs ag ag b3).rounds;obtain ⟨kp, hkp⟩ := (XR ls ss nxs ag ag b3).rounds;obtain ⟨nf, hnf⟩ : ∃ f, f = jv s := ⟨_, rfl⟩;obtain ⟨kf, Nc⟩ := (Rs nf).rounds;obtain ⟨W2, hW2⟩ : ∃ W2, W2 = (w.alloc (.cells #[.slice A0 ls.length c0, .slice A1 ss.length c1, .slice A2 nxs.length c2] 26)).alloc (.cells #[.int .i64 s.f0, .int .i64 s.f1, .slice A5 s.f2.length c5] 29) := ⟨_, rfl⟩;have hB2 : Below w.heap.size w W2 := by rw [hW2]; exact aW (aW (Below.refl _ _) _) _
 have hbk : W2.heap[w.heap.size]? = some (.cells #[.slice A0 ls.length c0, .slice A1 ss.length c1, .slice A2 nxs.length c2] 26 (0, 0)) := by rw [hW2]; exact bf (heap_alloc_new w _) _
 have hbf : W2.heap[w.heap.size + 1]? = some (.cells #[.int .i64 s.f0, .int .i64 s.f1, .slice A5 s.f2.length c5] 29 (0, 0)) := by
  rw [hW2];have := heap_alloc_new (w.alloc (.cells #[.slice A0 ls.length c0, .slice A1 ss.length c1, .slice A2 nxs.length c2] 26)) (.cells #[.int .i64 s.f0, .int .i64 s.f1, .slice A5 s.f2.length c5] 29);simpa using this
 obtain ⟨eB, kP⟩ : ∃ k, k = w.heap.size := ⟨_, rfl⟩;obtain ⟨gf, hgf⟩ : ∃ k, k = eB + 1 := ⟨_, rfl⟩;rw [← kP] at hbk;rw [← kP, ← hgf] at hbf;have HC := Zd.mk (fun W (hb : Below W2.heap.size W2 W) => And.intro (Kd.aQ h0 (hB2.trans (hb.mono hB2.size))) (And.intro (Kd.aQ h1 (hB2.trans (hb.mono hB2.size))) (And.intro (Kd.aQ h2 (hB2.trans (hb.mono hB2.size))) (Kd.aQ h5 (hB2.trans (hb.mono hB2.size))))));have QC := Zd.mk (fun W (hb : Below W2.heap.size W2 W) => And.intro ((aj ((hb.block _ (aT hbk)).trans hbk) 0).trans rfl : W.cell? ⟨eB, 0, none⟩ = some (.slice A0 ls.length c0)) (And.intro ((aj ((hb.block _ (aT hbk)).trans hbk) 1).trans rfl : W.cell? ⟨eB, 1, none⟩ = some (.slice A1 ss.length c1)) (And.intro ((aj ((hb.block _ (aT hbk)).trans hbk) 2).trans rfl : W.cell? ⟨eB, 2, none⟩ = some (.slice A2 nxs.length c2)) (And.intro ((aj ((hb.block _ (aT hbf)).trans hbf) 0).trans rfl : W.cell? ⟨gf, 0, none⟩ = some (.int .i64 s.f0)) (And.intro ((aj ((hb.block _ (aT hbf)).trans hbf) 1).trans rfl : W.cell? ⟨gf, 1, none⟩ = some (.int .i64 s.f1)) ((aj ((hb.block _ (aT hbf)).trans hbf) 2).trans rfl : W.cell? ⟨gf, 2, none⟩ = some (.slice A5 s.f2.length c5)))))));have GV := Zd.mk (fun W (hb : Below W2.heap.size W2 W) => aus ls ss nxs s n0 kh hkh A0 A1 A2 A5 c0 c1 c2 c5 W (HC.out W hb).1 l0 (HC.out W hb).2.1 l1 (HC.out W hb).2.2.1 l2 (HC.out W hb).2.2.2 l5);rw [← hn] at GV;have auV := Zd.mk (fun W (hb : Below W2.heap.size W2 W) => sQ.calls km A0 c0 ls A1 c1 ss A2 c2 nxs (ko ls ss nxs) W (HC.out W hb).1 l0 (HC.out W hb).2.1 l1 (HC.out W hb).2.2.1 l2 wL);have auW := Zd.mk (fun W (hb : Below W2.heap.size W2 W) => pR.calls kp A0 c0 ls A1 c1 ss A2 c2 nxs (ko ls ss nxs) W (HC.out W hb).1 l0 (HC.out W hb).2.1 l1 (HC.out W hb).2.2.1 l2 hkp);have uz := Zd.mk (fun W (hb : Below W2.heap.size W2 W) => Jk s A5 c5 W (HC.out W hb).2.2.2 l5);have HFD := Zd.mk (fun W (hb : Below W2.heap.size W2 W) => auq ls ss nxs s A0 A1 A2 A5 c0 c1 c2 c5 W (HC.out W hb).1 l0 (HC.out W hb).2.1 l1 (HC.out W hb).2.2.1 l2 (HC.out W hb).2.2.2 l5);have uo := Zd.mk (fun W (hb : Below W2.heap.size W2 W) => agD ls ss nxs s A0 A1 A2 A5 c0 c1 c2 c5 W (HC.out W hb).1 l0 (HC.out W hb).2.1 l1 (HC.out W hb).2.2.1 l2 (HC.out W hb).2.2.2 l5);have Ps := Zd.mk (fun W (hb : Below W2.heap.size W2 W) => ah_ ls ss nxs s A0 A1 A2 A5 c0 c1 c2 c5 W (HC.out W hb).1 l0 (HC.out W hb).2.1 l1 (HC.out W hb).2.2.1 l2 (HC.out W hb).2.2.2 l5);have aiy := Zd.mk (fun W (hb : Below W2.heap.size W2 W) A c (hc : nf.f2.length ≤ c) (h : Kd.C bK W A nf.f2.length nf.f2) => ah_ ls ss nxs nf A0 A1 A2 A c0 c1 c2 c W (HC.out W hb).1 l0 (HC.out W hb).2.1 l1 (HC.out W hb).2.2.1 l2 h hc);have Tg := Zd.mk (fun W (hb : Below W2.heap.size W2 W) => aun s A5 c5 W (HC.out W hb).2.2.2 l5);rw [← hnf] at Tg;have HMN := Zd.mk (fun W A c (hc : nf.f2.length ≤ c) (h : Kd.C bK W A nf.f2.length nf.f2) => oH.calls kf nf.f0 nf.f1 A c nf.f2 (bW nf) W h hc Nc);have HNF := Zd.mk hnf;have HB2 := Zd.mk hB2;have BU := Zd.mk (show (rZ ls ss nxs s).2 = gF ls ss nxs s from rfl);clear h0 h1 h2 h5 hbk hbf hB2 hkh wL hkp Nc hn hn0 b3 hnf;obtain ⟨q, hq⟩ := (QC.out W2 (Below.refl _ _));obtain ⟨q1, q2, q3, q4, q5⟩ := hq;go_enter Tryz.func3, Tryz.ntmps3;go_upto_region 1 with fail
 rw [← hW2, ← kP, ← hgf];clear hW2 kP hgf;by_cases g1 : 0 < n
 ·have t1 : decide (0 < n) = true := decide_eq_true g1;go_wp2_with (first | (go_at_call 4; refine (GV.out _ (Below.refl _ _)).mono ?_; rintro e w3 ⟨rfl, hB⟩; have HB3 := Zd.mk hB; clear hB) | (go_at_call 6; refine (NA _).mono ?_; rintro e Dm ⟨rfl, hB⟩; have Cx := Zd.mk (HB3.out.trans (hB.mono HB3.out.size)); clear hB));go_ret;exact ⟨rfl, HB2.out.trans (Cx.out.mono HB2.out.size)⟩
 ·have t1 : decide (0 < n) = false := decide_eq_false g1;obtain ⟨sz, hsz⟩ : ∃ k, k = jB s := ⟨_, rfl⟩;rw [← hsz] at uz;clear hsz;by_cases g2 : 64 < sz
  ·have t2 : decide (64 < sz) = true := decide_eq_true g2;go_wp2_with (first | (go_at_call 4; refine (GV.out _ (Below.refl _ _)).mono ?_; rintro e w3 ⟨rfl, hB⟩; have HB3 := Zd.mk hB; obtain ⟨_, _, _, r3, r4, r5⟩ := QC.out _ hB; clear hB) | (go_at_call 5; refine (uz.out _ HB3.out).mono ?_; rintro e w4 ⟨rfl, hB⟩; have bQ := Zd.mk (HB3.out.trans (hB.mono HB3.out.size)); clear hB) | (go_at_call 6; refine (NA _).mono ?_; rintro e Dm ⟨rfl, hB⟩; have Cx := Zd.mk (bQ.out.trans (hB.mono bQ.out.size)); clear hB));go_ret;exact ⟨rfl, HB2.out.trans (Cx.out.mono HB2.out.size)⟩
  ·have t2 : decide (64 < sz) = false := decide_eq_false g2;obtain ⟨er, her⟩ : ∃ e, e = gF ls ss nxs s := ⟨_, rfl⟩;obtain ⟨ok, hok⟩ : ∃ b, b = (rZ ls ss nxs s).1 := ⟨_, rfl⟩;obtain ⟨ba, K7⟩ : ∃ b, b = if gF ls ss nxs s = 0 then (iK ls ss nxs s false).isNone else false := ⟨_, rfl⟩
   rw [← K7] at uo;rw [BU.out, ← her, ← hok] at HFD Ps;rw [← her] at uo;have HER := Zd.mk her;have eG := Zd.mk hok;have um := Zd.mk K7;clear her hok K7;go_upto_region 6 with (first | (go_at_call 4; refine (GV.out _ (Below.refl _ _)).mono ?_; rintro e w3 ⟨rfl, hB⟩; have HB3 := Zd.mk (hB); obtain ⟨r0, r1, r2, r3, r4, r5⟩ := QC.out _ HB3.out; clear hB) | (go_at_call 5; refine (uz.out _ HB3.out).mono ?_; rintro e w4 ⟨rfl, hB⟩; have bQ := Zd.mk (HB3.out.trans (hB.mono HB3.out.size)); obtain ⟨r0, r1, r2, r3, r4, r5⟩ := QC.out _ bQ.out; clear hB) | (go_at_call 7; refine (HFD.out _ bQ.out).mono ?_; rintro e w5 ⟨P1, p1, P2, p2, na, nc, rfl, hz, hB⟩; have HZZ := Zd.mk hz; clear hz; have cZ := Zd.mk (bQ.out.trans (hB.mono bQ.out.size)); obtain ⟨r0, r1, r2, r3, r4, r5⟩ := QC.out _ cZ.out; clear hB) | (go_at_call 8; refine (Ps.out _ cZ.out).mono ?_; rintro e w6 ⟨rfl, hB⟩; have gP := Zd.mk (cZ.out.trans (hB.mono cZ.out.size)); obtain ⟨r0, r1, r2, r3, r4, r5⟩ := QC.out _ gP.out; clear hB) | (go_at_call 9; refine (uo.out _ gP.out).mono ?_; rintro e w7 ⟨rfl, hB⟩; have iy := Zd.mk (gP.out.trans (hB.mono gP.out.size)); obtain ⟨r0, r1, r2, r3, r4, r5⟩ := QC.out _ iy.out; clear hB))
   have hmp : ∀ W, Below w7.heap.size w7 W → Below W2.heap.size W2 W := fun W hb => iy.out.trans (hb.mono iy.out.size);have HMP := Zd.mk (fun W (hb : Below w7.heap.size w7 W) => auW.out W (hmp W hb));have Nf := Zd.mk (fun W (hb : Below w7.heap.size w7 W) => auV.out W (hmp W hb));obtain ⟨WB, rfl⟩ : ∃ W : World, W = w7 := ⟨_, rfl⟩;obtain ⟨k0, k1, k2, _, _, _⟩ := QC.out _ iy.out;generalize ko ls ss nxs = mg at *;have z1 : (er != er) = false := by simp
   have z2 : (mg != mg) = false := by simp
   clear hmp q q1 q2 q3 q4 q5;go_cut [76] (fun v76 wx => v76 = .bool false ∧ Zd (Below WB.heap.size WB wx))
   case first =>
    cases ok with
    | true =>
     refine iP (n := 32) (S := fun w' => w'.cell? ⟨eB, 0, none⟩ = some (.slice A0 ls.length c0) ∧ w'.cell? ⟨eB, 1, none⟩ = some (.slice A1 ss.length c1) ∧ w'.cell? ⟨eB, 2, none⟩ = some (.slice A2 nxs.length c2)) (ds := []) aa_ aa rfl rfl ⟨k0, k1, k2⟩ (fun hHeld => ?_);refine iR qC.aiD qC.aiE (fun ae bA => ?_);refine tz ae.out bA.out 0 (some 45) aba rfl rfl hHeld ?_;refine tz ae.out bA.out 2 (some 47) abb rfl rfl hHeld ?_;refine gV (i := 1) (N := some 46) abd rfl rfl (di ae.out aa) ai (fun K hK => ?_);refine jT Tryz.func10 aa rfl #[.agg #[.slice A0 ls.length c0, .slice A1 ss.length c1, .slice A2 nxs.length c2]] bu rfl rfl (by simp only [List.map_toArray, List.map_cons, List.map_nil]; rfl) ?_
     with_reducible refine (HMP.out _ (show Below WB.heap.size WB WB.drew from bV (Below.refl _ _))).mono ?_
     rintro e_ Nu ⟨rfl, hB⟩;have qA := Zd.mk (show Below WB.heap.size WB Nu from (bV (Below.refl _ _)).trans hB);clear hB hHeld;refine ⟨_, rfl, ?_⟩;refine hK.out _ _ ⟨(aG qA.out k0), (aG qA.out k1), (aG qA.out k2)⟩ (fun hHeld => ?_);clear hK K;refine gW (a' := ?_) ?_ ?_;rotate_left
     ·show Act.put _ (some 46) _ = _;simp only [Act.put, List.setIfInBounds_toArray, List.set_cons_zero, List.set_cons_succ, bE, dS];rfl
     refine gV (i := 3) (N := some 48) abe rfl rfl (di ae.out aa) ai (fun K hK => ?_);refine jT Tryz.func11 aa rfl #[.agg #[.slice A0 ls.length c0, .slice A1 ss.length c1, .slice A2 nxs.length c2]] bu rfl rfl (by simp only [List.map_toArray, List.map_cons, List.map_nil]; rfl) ?_
     with_reducible refine (Nf.out _ qA.out).mono ?_
     rintro e_ NI ⟨rfl, hB⟩;have si := Zd.mk (show Below WB.heap.size WB NI from qA.out.trans (hB.mono qA.out.size));clear hB hHeld;refine ⟨_, rfl, ?_⟩;refine hK.out _ _ ⟨(aG si.out k0), (aG si.out k1), (aG si.out k2)⟩ (fun hHeld => ?_);clear hK K;refine gW (a' := ?_) ?_ ?_;rotate_left
     ·show Act.put _ (some 48) _ = _;simp only [Act.put, List.setIfInBounds_toArray, List.set_cons_zero, List.set_cons_succ, bE, dS];rfl
     refine pz ae.out 4 (some 49) abf rfl rfl ?_;refine pz ae.out 5 (some 50) abg rfl rfl ?_;refine pz ae.out 6 (some 51) abh rfl rfl ?_;refine pz ae.out 7 (some 52) abj rfl rfl ?_;refine pz ae.out 8 (some 53) abk rfl rfl ?_;refine pz ae.out 9 (some 54) abl rfl rfl ?_;refine pz ae.out 10 (some 55) abm rfl rfl ?_;refine pz ae.out 11 (some 56) abn rfl rfl ?_;refine pz ae.out 12 (some 57) abo rfl rfl ?_;refine pz ae.out 13 (some 58) abp rfl rfl ?_;refine pz ae.out 14 (some 59) abq rfl rfl ?_;refine pz ae.out 15 (some 60) abr rfl rfl ?_;refine pz ae.out 16 (some 61) abt rfl rfl ?_;refine pz ae.out 17 (some 62) abu rfl rfl ?_;refine pz ae.out 18 (some 63) abv rfl rfl ?_;refine pz ae.out 19 (some 64) abw rfl rfl ?_;refine pz ae.out 20 (some 65) abx rfl rfl ?_;refine pz ae.out 21 (some 66) aby rfl rfl ?_;refine pz ae.out 22 (some 67) abz rfl rfl ?_;refine pz ae.out 23 (some 68) abA rfl rfl ?_;refine pu ae.out 24 (some 69) abB rfl rfl ?_;refine pu ae.out 25 (some 70) abC rfl rfl ?_;refine pu ae.out 26 (some 71) abD rfl rfl ?_;refine pu ae.out 27 (some 72) abE rfl rfl ?_;refine pu ae.out 28 (some 73) abF rfl rfl ?_;refine pu ae.out 29 (some 74) abG rfl rfl ?_;refine pz ae.out 30 (some 75) abH rfl rfl ?_;refine pz ae.out 31 (some 76) abI rfl rfl ?_;refine kD (kE ae.out aa) ?_;clear hHeld ae bA;go_wp2;go_meet;exact ⟨rfl, si⟩
    | false =>
     obtain ⟨rfl, rfl⟩ := HZZ.out rfl;refine iP (n := 32) (S := fun w' => w'.cell? ⟨eB, 0, none⟩ = some (.slice A0 ls.length c0) ∧ w'.cell? ⟨eB, 1, none⟩ = some (.slice A1 ss.length c1) ∧ w'.cell? ⟨eB, 2, none⟩ = some (.slice A2 nxs.length c2)) (ds := []) aa_ aa rfl rfl ⟨k0, k1, k2⟩ (fun hHeld => ?_);refine iR qC.aiD qC.aiE (fun ae bA => ?_);refine tz ae.out bA.out 0 (some 45) aba rfl rfl hHeld ?_;refine tz ae.out bA.out 2 (some 47) abb rfl rfl hHeld ?_;refine gV (i := 1) (N := some 46) abd rfl rfl (di ae.out aa) ai (fun K hK => ?_);refine jT Tryz.func10 aa rfl #[.agg #[.slice A0 ls.length c0, .slice A1 ss.length c1, .slice A2 nxs.length c2]] bu rfl rfl (by simp only [List.map_toArray, List.map_cons, List.map_nil]; rfl) ?_
     with_reducible refine (HMP.out _ (show Below WB.heap.size WB WB.drew from bV (Below.refl _ _))).mono ?_
     rintro e_ Nu ⟨rfl, hB⟩;have qA := Zd.mk (show Below WB.heap.size WB Nu from (bV (Below.refl _ _)).trans hB);clear hB hHeld;refine ⟨_, rfl, ?_⟩;refine hK.out _ _ ⟨(aG qA.out k0), (aG qA.out k1), (aG qA.out k2)⟩ (fun hHeld => ?_);clear hK K;refine gW (a' := ?_) ?_ ?_;rotate_left
     ·show Act.put _ (some 46) _ = _;simp only [Act.put, List.setIfInBounds_toArray, List.set_cons_zero, List.set_cons_succ, bE, dS];rfl
     refine gV (i := 3) (N := some 48) abe rfl rfl (di ae.out aa) ai (fun K hK => ?_);refine jT Tryz.func11 aa rfl #[.agg #[.slice A0 ls.length c0, .slice A1 ss.length c1, .slice A2 nxs.length c2]] bu rfl rfl (by simp only [List.map_toArray, List.map_cons, List.map_nil]; rfl) ?_
     with_reducible refine (Nf.out _ qA.out).mono ?_
     rintro e_ NI ⟨rfl, hB⟩;have si := Zd.mk (show Below WB.heap.size WB NI from qA.out.trans (hB.mono qA.out.size));clear hB hHeld;refine ⟨_, rfl, ?_⟩;refine hK.out _ _ ⟨(aG si.out k0), (aG si.out k1), (aG si.out k2)⟩ (fun hHeld => ?_);clear hK K;refine gW (a' := ?_) ?_ ?_;rotate_left
     ·show Act.put _ (some 48) _ = _;simp only [Act.put, List.setIfInBounds_toArray, List.set_cons_zero, List.set_cons_succ, bE, dS];rfl
     refine pz ae.out 4 (some 49) abf rfl rfl ?_;refine pz ae.out 5 (some 50) abg rfl rfl ?_;refine pz ae.out 6 (some 51) abh rfl rfl ?_;refine pz ae.out 7 (some 52) abj rfl rfl ?_;refine pz ae.out 8 (some 53) abk rfl rfl ?_;refine pz ae.out 9 (some 54) abl rfl rfl ?_;refine pz ae.out 10 (some 55) abm rfl rfl ?_;refine pz ae.out 11 (some 56) abn rfl rfl ?_;refine pz ae.out 12 (some 57) abo rfl rfl ?_;refine pz ae.out 13 (some 58) abp rfl rfl ?_;refine pz ae.out 14 (some 59) abq rfl rfl ?_;refine pz ae.out 15 (some 60) abr rfl rfl ?_;refine pz ae.out 16 (some 61) abt rfl rfl ?_;refine pz ae.out 17 (some 62) abu rfl rfl ?_;refine pz ae.out 18 (some 63) abv rfl rfl ?_;refine pz ae.out 19 (some 64) abw rfl rfl ?_;refine pz ae.out 20 (some 65) abx rfl rfl ?_;refine pz ae.out 21 (some 66) aby rfl rfl ?_;refine pz ae.out 22 (some 67) abz rfl rfl ?_;refine pz ae.out 23 (some 68) abA rfl rfl ?_;refine pz ae.out 24 (some 69) abB rfl rfl ?_;refine pz ae.out 25 (some 70) abC rfl rfl ?_;refine pz ae.out 26 (some 71) abD rfl rfl ?_;refine pz ae.out 27 (some 72) abE rfl rfl ?_;refine pz ae.out 28 (some 73) abF rfl rfl ?_;refine pz ae.out 29 (some 74) abG rfl rfl ?_;refine pz ae.out 30 (some 75) abH rfl rfl ?_;refine pz ae.out 31 (some 76) abI rfl rfl ?_;refine kD (kE ae.out aa) ?_;clear hHeld ae bA;go_wp2;go_meet;exact ⟨by rw [show wrap64 0 = 0 from jA ai ai]; rfl, si⟩
   case rest =>
    obtain ⟨rfl, tq⟩ := hcut;have jP := Zd.mk (iy.out.trans (tq.out.mono iy.out.size));obtain ⟨_, _, _, f0, f1, f2⟩ := QC.out _ jP.out;clear HMP Nf z1 z2 k0 k1 k2 HZZ t1 t2;by_cases e1 : er = 0
    ·have AV : (er != 0) = false := by rw [e1]; rfl
     obtain ⟨mn, FT⟩ : ∃ k, k = bW nf := ⟨_, rfl⟩;rw [← FT] at HMN;have auX := Zd.mk FT;clear FT;by_cases e2 : mn = 0
     ·have BQ : (mn != 0) = false := by rw [e2]; rfl
      go_upto_region 10 with (first | (go_at_call 13; refine (Tg.out _ jP.out).mono ?_; rintro e w9 ⟨An, cn, rfl, hnc, Es, hB⟩; have fE := Zd.mk (jP.out.trans (hB.mono jP.out.size)); have JE := Zd.mk Es; have Cu := Zd.mk hnc; clear hB Es hnc) | (go_at_call 12; refine (HMN.out _ _ _ Cu.out JE.out).mono ?_; rintro e tY ⟨rfl, hB⟩; have rz := Zd.mk (fE.out.trans (hB.mono fE.out.size)); clear hB))
      obtain ⟨WC, rfl⟩ : ∃ W : World, W = tY := ⟨_, rfl⟩;obtain ⟨bn, hbn⟩ : ∃ b, b = (rZ ls ss nxs nf).1 := ⟨_, rfl⟩;have Sq := Zd.mk (show ba = !bn from by
       rw [hbn, um.out, ← HER.out, if_pos e1, HNF.out];exact aur (HER.out.symm.trans e1) (by rw [← HNF.out, ← auX.out]; exact e2))
      have Ns := Zd.mk (fun W (hb : Below WC.heap.size WC W) => Tg.out W (rz.out.trans (hb.mono rz.out.size)));have kY := Zd.mk (fun W (hb : Below WC.heap.size WC W) A c (hc : nf.f2.length ≤ c) (h : Kd.C bK W A nf.f2.length nf.f2) => aiy.out W (rz.out.trans (hb.mono rz.out.size)) A c hc h);rw [← hbn] at kY;obtain ⟨e9, he9⟩ : ∃ e, e = (rZ ls ss nxs nf).2 := ⟨_, rfl⟩;rw [← he9] at kY;clear hbn he9 f0 f1 f2 JE Cu;obtain ⟨k0, k1, k2, f0, f1, f2⟩ := QC.out _ rz.out;refine iP (n := 9) (S := fun w' => w'.cell? ⟨eB, 0, none⟩ = some (.slice A0 ls.length c0) ∧ w'.cell? ⟨eB, 1, none⟩ = some (.slice A1 ss.length c1) ∧ w'.cell? ⟨eB, 2, none⟩ = some (.slice A2 nxs.length c2) ∧ w'.cell? ⟨gf, 0, none⟩ = some (.int .i64 s.f0) ∧ w'.cell? ⟨gf, 1, none⟩ = some (.int .i64 s.f1) ∧ w'.cell? ⟨gf, 2, none⟩ = some (.slice A5 s.f2.length c5)) (ds := []) abP aa rfl rfl ⟨k0, k1, k2, f0, f1, f2⟩ (fun hHeld => ?_);refine iR qC.XV qC.XW (fun ae bA => ?_);refine tz ae.out bA.out 0 (some 87) anz rfl rfl hHeld ?_;refine tz ae.out bA.out 1 (some 88) anA rfl rfl hHeld ?_;refine gV (i := 2) (N := some 89) anB rfl rfl (di ae.out aa) ai (fun K hK => ?_);refine jT Tryz.func13 aa rfl #[.agg #[.int .i64 s.f0, .int .i64 s.f1, .slice A5 s.f2.length c5]] bu rfl rfl (by simp only [List.map_toArray, List.map_cons, List.map_nil]; rfl) ?_
      with_reducible refine (Ns.out _ (show Below WC.heap.size WC WC.drew from bV (Below.refl _ _))).mono ?_
      rintro e_ wc2 ⟨An, cn, rfl, hnc, Es, hB⟩;have Cy := Zd.mk (show Below WC.heap.size WC wc2 from (bV (Below.refl _ _)).trans hB);have JE := Zd.mk Es;have Cu := Zd.mk hnc;clear Es hnc;clear hB hHeld;refine ⟨_, rfl, ?_⟩;refine hK.out _ _ ⟨(aG Cy.out k0), (aG Cy.out k1), (aG Cy.out k2), (aG Cy.out f0), (aG Cy.out f1), (aG Cy.out f2)⟩ (fun hHeld => ?_);clear hK K;refine gW (a' := ?_) ?_ ?_;rotate_left
      ·show Act.put _ (some 89) _ = _;simp only [Act.put, List.setIfInBounds_toArray, List.set_cons_zero, List.set_cons_succ, bE, dS];rfl
      refine gV (i := 3) (N := some 90) anC rfl rfl (di ae.out aa) ai (fun K hK => ?_);refine jT Tryz.func8 aa rfl #[.agg #[.slice A0 ls.length c0, .slice A1 ss.length c1, .slice A2 nxs.length c2], .agg #[.int .i64 nf.f0, .int .i64 nf.f1, .slice An nf.f2.length cn]] bu rfl rfl (by simp only [List.map_toArray, List.map_cons, List.map_nil]; rfl) ?_
      with_reducible refine (kY.out _ Cy.out An cn Cu.out JE.out).mono ?_
      rintro e_ NI ⟨rfl, hB⟩;have si := Zd.mk (show Below WC.heap.size WC NI from Cy.out.trans (hB.mono Cy.out.size));clear hB hHeld;refine ⟨_, rfl, ?_⟩;refine hK.out _ _ ⟨(aG si.out k0), (aG si.out k1), (aG si.out k2), (aG si.out f0), (aG si.out f1), (aG si.out f2)⟩ (fun hHeld => ?_);clear hK K;refine gW (a' := ?_) ?_ ?_;rotate_left
      ·show Act.put _ (some 90) _ = _;simp only [Act.put, List.setIfInBounds_toArray, List.set_cons_zero, List.set_cons_succ, bE, dS];rfl
      refine pz ae.out 4 (some 86) anD rfl rfl ?_;refine pz ae.out 5 (some 91) anE rfl rfl ?_;refine pz ae.out 6 (some 92) abQ rfl rfl ?_;refine pz ae.out 7 (some 13) abR rfl rfl ?_;refine pz ae.out 8 (some 14) abS rfl rfl ?_;refine kD (kE ae.out aa) ?_;clear hHeld ae bA;have hbb := Sq.out;subst hbb;have aiF := Zd.mk (rz.out.trans (si.out.mono rz.out.size));have hbe : (!bn == !bn) = true := by simp
      go_wp2_with (go_at_call 6; refine (NA _).mono ?_; rintro e Dm ⟨rfl, hB⟩; have Cx := Zd.mk (aiF.out.trans (hB.mono aiF.out.size)); clear hB)
      go_ret;exact ⟨rfl, HB2.out.trans (Cx.out.mono HB2.out.size)⟩
     ·have BQ : (mn != 0) = true := by simpa using e2
      go_wp2_with (first | (go_at_call 13; refine (Tg.out _ jP.out).mono ?_; rintro e w9 ⟨An, cn, rfl, hnc, Es, hB⟩; have fE := Zd.mk (jP.out.trans (hB.mono jP.out.size)); have JE := Zd.mk Es; have Cu := Zd.mk hnc; clear hB Es hnc) | (go_at_call 12; refine (HMN.out _ _ _ Cu.out JE.out).mono ?_; rintro e tY ⟨rfl, hB⟩; have rz := Zd.mk (fE.out.trans (hB.mono fE.out.size)); clear hB) | (go_at_call 6; refine (NA _).mono ?_; rintro e Dm ⟨rfl, hB⟩; have Cx := Zd.mk (rz.out.trans (hB.mono rz.out.size)); clear hB))
      go_ret;exact ⟨rfl, HB2.out.trans (Cx.out.mono HB2.out.size)⟩
    ·have AV : (er != 0) = true := by simpa using e1
     go_wp2_with (go_at_call 6; refine (NA _).mono ?_; rintro e Dm ⟨rfl, hB⟩; have Cx := Zd.mk (jP.out.trans (hB.mono jP.out.size)); clear hB)
     go_ret;exact ⟨rfl, HB2.out.trans (Cx.out.mono HB2.out.size)⟩
def NJ.f (aV : List Int) (bF : List Int) (af : List (List Int)) (kQ : Int) (kR : Int) (ic : List ak) : Option Bool := if aV.length < 4611686018427387904 ∧ bF.length < 4611686018427387904 ∧ af.length < 1000000000000000 ∧ ∀ x, x ∈ af → x.length ≤ 9223372036854775807 then some true else none
theorem NJ.calls (eD : Option Addr) (eF : Nat) (aV : List Int) (dX : Option Addr) (dY : Nat) (bF : List Int) (aM : Option Addr) (aC : Nat) (af : List (List Int)) (kQ : Int) (kR : Int) (wS : Option Addr) (wT : Nat) (ic : List ak) (r : Bool) (w : World) (qK : Kd.C (Kd.int .u32) w eD aV.length aV) (qL : aV.length ≤ eF) (qM : Kd.C (Kd.int .i64) w dX bF.length bF) (qN : bF.length ≤ dY) (dn : Kd.C (Kd.slice 3 (Kd.int .i64)) w aM af.length af) (dw : af.length ≤ aC) (Gc : Kd.C bK w wS ic.length ic) (Gd : ic.length ≤ wT) (h : NJ.f aV bF af kQ kR ic = some r) (hrt : r = true) :
  Calls Tryz.prog 3 #[.agg #[.slice eD aV.length eF, .slice dX bF.length dY, .slice aM af.length aC], .agg #[.int .i64 kQ, .int .i64 kR, .slice wS ic.length wT]] w fun e w' => e = .returned (.bool r) ∧ Below w.heap.size w w' := by
 subst hrt;unfold NJ.f at h;split at h
 ·rename_i hb
  exact auU aV bF af ⟨kQ, kR, ic⟩ eD dX aM wS eF dY aC wT w hb.1 hb.2.1 hb.2.2.1 hb.2.2.2 qK qL qM qN dn dw Gc Gd
 ·cases h
end Go.Proofs.YtapejnikpmfddaaGreat.X
namespace Go.Proofs.YtapejnikpmfddaaGreat.Op
open Go.RowKit Go.Proofs.aI.bM

def lH (N : Nat) (P : Program) (T : TypeId) {α : Type} (d : Kd α) (G : α → Prop) : Prop :=
 ∀ (H : Type) (enc : TypeId × Value → H) (W : World) (base : Nat) (spare : Nat → Bool) (held : Bool) (fuel : Nat) (cs : List Value) (x : DataW H × List MemPlace),
  fuel ≤ N → DataW.trod enc P W base spare held fuel T cs = some x → (∀ n ∈ x.1.weights P T, n ≤ reachBytes) → ∃ y, d.K W y cs ∧ G y

theorem lH.mono {N M : Nat} {P : Program} {T : TypeId} {α : Type} {d : Kd α} {G : α → Prop} (h : lH N P T d G) (hm : M ≤ N) : lH M P T d G :=
 fun H enc W base spare held fuel cs x hf => h H enc W base spare held fuel cs x (Nat.le_trans hf hm)

theorem Ti {N : Nat} {P : Program} {T : TypeId} {k : IntKind} (ht : P.underlying T = some (.int k)) : lH N P T (Kd.int k) (fun n => (Lit.int k n).wf = true) := by
 intro H enc W base spare held fuel cs x _ h _;obtain ⟨n, rfl, _, hw⟩ := DataW.trod_int ht h;exact ⟨n, rfl, hw⟩
theorem aiG {H : Type} {P : Program} {e : TypeId} : ∀ {l : List (DataW H)} {i : Nat} {d : DataW H}, l[i]? = some d → ∀ n ∈ d.weights P e, n ∈ DataW.weightsAll P e l
 | [], i, d, h => by simp at h
 | a :: r, 0, d, h => fun n hn => by
  simp at h
  subst h;simp only [DataW.weightsAll, List.mem_append];exact .inl hn
 | a :: r, i + 1, d, h => fun n hn => by
  simp only [DataW.weightsAll, List.mem_append];exact .inr (aiG (by simpa using h) n hn)
theorem aiH {α : Type} {p : Nat → α → Prop} : ∀ n, (∀ i, i < n → ∃ x, p i x) → ∃ l : List α, l.length = n ∧ ∀ i x, l[i]? = some x → p i x
 | 0, _ => ⟨[], rfl, fun i x h => by simp at h⟩
 | n + 1, h => by
  obtain ⟨l, hl, hp⟩ := aiH n (fun i hi => h i ag);obtain ⟨x, hx⟩ := h n ag;refine ⟨l ++ [x], by simp [hl], fun i y hy => ?_⟩;rcases Nat.lt_or_ge i l.length with hi | hi
  ·rw [List.getElem?_append_left hi] at hy;exact hp i y hy
  ·rw [List.getElem?_append_right hi] at hy;have hi0 : i - l.length = 0 := by
    rcases Nat.eq_zero_or_pos (i - l.length) with h0 | h0
    ·exact h0
    ·rw [List.getElem?_eq_none (by simp; omega)] at hy;cases hy
   rw [hi0] at hy;simp at hy;subst hy;rw [show i = n by omega];exact hx
theorem Tj {N : Nat} {P : Program} {T e : TypeId} {α : Type} {d : Kd α} {G : α → Prop} (ht : P.underlying T = some (.slice e)) (hsz : P.cellsOf e = d.sz) (hd : lH N P e d G) :
  lH (N + 1) P T (Kd.slice e d) (fun xs => (∀ x ∈ xs, G x) ∧ xs.length * P.bytesOf e ≤ reachBytes) := by
 intro H enc W base spare held fuel cs x hN h hw;rcases DataW.trod_slice ht h with ⟨rfl, rfl⟩ | ⟨a, len, cap, elems, rest, n, rfl, rfl, rfl, hb, hl, hm, hlen, hel, _, _⟩
 ·exact ⟨[], ⟨none, 0, rfl, by simp, ⟨rfl, by simp, fun h => absurd h (Nat.lt_irrefl 0)⟩⟩, fun x hx => by simp at hx, by simp⟩
 ·have hw2 : ∀ m ∈ (DataW.slice (elems.map (·.1)) (rest.map (·.1)) : DataW H).weights P T, m ≤ reachBytes := hw;simp only [DataW.weights, ht, List.mem_cons, List.mem_append] at hw2;have one : ∀ i, i < len → ∃ y : α, G y ∧ ∃ c : List Value, c.length = d.sz ∧ d.K W y c ∧ ∀ j u, c[j]? = some u → W.cell? (a.add (i * d.sz + j)) = some u := by
   intro i hi;have hi2 := hel i hi;rw [List.getElem?_eq_getElem ag] at hi2;obtain ⟨c, h1, h2⟩ := Option.bind_eq_some_iff.1 hi2;obtain ⟨y, hK, hG⟩ := hd H enc W base spare held n c _ ag h2 (fun m hm2 => hw2 m (.inr (.inl (aiG (i := i) (by simp [List.getElem?_eq_getElem (show i < elems.length by omega)]) m hm2))));obtain ⟨_, h3, h4⟩ := World.cells?_some h1;refine ⟨y, hG, c, by rw [h3, hsz], hK, fun j u hu => ?_⟩;have hj : j < c.length := (List.getElem?_eq_some_iff.1 hu).1;have h5 := h4 j ag;rw [hu] at h5;have e1 : (a.add (i * P.cellsOf e)).add j = a.add (i * d.sz + j) := by
    rw [hsz];unfold Addr.add;by_cases hi0 : i * d.sz = 0 <;> by_cases hj0 : j = 0 <;> simp [hi0, hj0, Nat.add_assoc]
   rw [← e1];exact h5
  obtain ⟨l, hl2, hp⟩ := aiH len one;refine ⟨l, ⟨some a, cap, by rw [hl2], by omega, ⟨rfl, by unfold maxLen at hm; omega, fun _ => ⟨a, rfl, fun j p hj => (hp j p hj).2⟩⟩⟩, fun x hx => ?_, ?_⟩
  ·obtain ⟨i, hi⟩ := List.getElem?_of_mem hx;exact (hp i x hi).1
  ·have h6 := hw2 _ (.inl rfl);simp only [List.length_map] at h6;rw [hl2];exact Nat.le_trans (Nat.mul_le_mul_right _ ag) h6

def Tk (N : Nat) (P : Program) (fs : List Field) (o n : Nat) {α : Type} (d : Kd α) (G : α → Prop) : Prop :=
 ∀ (H : Type) (enc : TypeId × Value → H) (W : World) (base : Nat) (spare : Nat → Bool) (held : Bool) (fuel : Nat) (cs : List Value) (xs : List (DataW H × List MemPlace)),
  fuel ≤ N → xs.length = fs.length → (∀ (i : Nat) (f : Field), fs[i]? = some f → DataW.trod enc P W base spare held fuel f.type ((cs.drop f.offset).take (P.cellsOf f.type)) = xs[i]?) →
  (∀ m ∈ DataW.weightsEach P (fs.map (·.type)) (xs.map (·.1)), m ≤ reachBytes) → ∃ y, d.K W y ((cs.drop o).take n) ∧ G y
theorem aiI {N : Nat} {P : Program} {f : Field} {o n : Nat} {α : Type} {d : Kd α} {G : α → Prop} (ho : f.offset = o) (hn : P.cellsOf f.type = n) (h : lH N P f.type d G) : Tk N P [f] o n d G := by
 intro H enc W base spare held fuel cs xs hN hl hx hw;obtain ⟨x, rfl⟩ : ∃ x, xs = [x] := by
  match xs, hl with
  | [x], _ => exact ⟨x, rfl⟩
 have h1 := hx 0 f rfl;rw [ho, hn] at h1;exact h H enc W base spare held fuel _ x hN h1 (fun m hm => hw m (by simpa [DataW.weightsEach] using hm))
theorem Tm {N : Nat} {P : Program} {f : Field} {fs : List Field} {o a n : Nat} {α β : Type} {d : Kd α} {d' : Kd β} {G : α → Prop} {G' : β → Prop} (ho : f.offset = o) (ha : P.cellsOf f.type = a) (h : lH N P f.type d G) (hr : Tk N P fs (o + a) n d' G') :
  Tk N P (f :: fs) o (a + n) (Kd.pair d d') (fun y => G y.1 ∧ G' y.2) := by
 intro H enc W base spare held fuel cs xs hN hl hx hw;match xs, hl with
 | x :: xs, hl =>
  have h1 := hx 0 f rfl;rw [ho, ha] at h1;simp only [List.map_cons, DataW.weightsEach, List.mem_append] at hw;obtain ⟨y, hy, gy⟩ := h H enc W base spare held fuel _ x hN h1 (fun m hm => hw m (.inl hm));obtain ⟨z, hz, gz⟩ := hr H enc W base spare held fuel cs xs hN (by simpa using hl) (fun i g hg => by simpa using hx (i + 1) g (by simpa using hg)) (fun m hm => hw m (.inr hm));refine ⟨(y, z), ⟨_, _, ?_, hy, hz⟩, gy, gz⟩;rw [List.take_add, List.drop_drop]
theorem aiJ {N : Nat} {P : Program} {T : TypeId} {fs : List Field} {n : Nat} {α β : Type} {d : Kd α} {G : α → Prop} (ht : P.underlying T = some (.struct fs.toArray)) (hn : P.cellsOf T = n) (f : β → α) (g : α → β) (hg : ∀ y, f (g y) = y)
  (h : Tk N P fs 0 n d G) : lH (N + 1) P T (Kd.G7 d f) (fun y => G (f y)) := by
 intro H enc W base spare held fuel cs x hN hx hw;obtain ⟨xs, m, rfl, rfl, hl, hlx, hf⟩ := DataW.trod_struct ht hx;obtain ⟨y, hy, gy⟩ := h H enc W base spare held m cs xs ag (by simpa using hlx) (fun i f0 hi => hf i f0 (by simpa using hi)) (fun k hk => hw k (by
  simp only [DataW.weights, ht];exact hk))
 refine ⟨g y, ?_, ?_⟩
 ·show d.K W (f (g y)) cs;rw [hg];rw [← hn, ← hl, List.drop_zero, List.take_length] at hy;exact hy
 ·show G (f (g y));rw [hg];exact gy
theorem lH.imp {N : Nat} {P : Program} {T : TypeId} {α : Type} {d : Kd α} {G G' : α → Prop} (h : lH N P T d G) (hi : ∀ y, G y → G' y) : lH N P T d G' := by
 intro H enc W base spare held fuel cs x hN hx hw;obtain ⟨y, hy, gy⟩ := h H enc W base spare held fuel cs x hN hx hw;exact ⟨y, hy, hi y gy⟩
theorem aiK {P : Program} {T : TypeId} {α : Type} {F : Kd α → Kd α} {sz : Nat} {E : List Nat} {G : α → Prop} (step : ∀ N (d : Kd α), d.sz = sz → lH N P T d G → lH (N + 1) P T (F d) G) (hs : ∀ n, (Kd.upto F sz E n).sz = sz) : ∀ N, lH N P T (Kd.upto F sz E N) G
 | 0 => fun H enc W base spare held fuel cs x hN h _ => by
  obtain rfl : fuel = 0 := by omega
  simp [DataW.trod] at h
 | N + 1 => step N _ (hs N) (aiK step hs N)
theorem auY {P : Program} {T : TypeId} {α : Type} {F : Kd α → Kd α} {sz : Nat} {E : List Nat} {G : α → Prop} {hs : ∀ n, (Kd.upto F sz E n).sz = sz} {hE : ∀ n q, q ∈ (Kd.upto F sz E n).E → q ∈ E} (step : ∀ N (d : Kd α), d.sz = sz → lH N P T d G → lH (N + 1) P T (F d) G) (N : Nat) : lH N P T (Kd.fix F sz E hs hE) G := by
 intro H enc W base spare held fuel cs x hN hx hw;obtain ⟨y, hy, gy⟩ := aiK step hs N H enc W base spare held fuel cs x hN hx hw;exact ⟨y, ⟨N, hy⟩, gy⟩
theorem Tn {a b n r : Nat} (e : a = b) (h : n * a ≤ r) : n * b ≤ r := e ▸ h
theorem opened {P : Program} {T : TypeId} {α : Type} {d : Kd α} {G : α → Prop} (h : ∀ N, lH N P T d G) {H : Type} {enc : TypeId × Value → H} {W : World} {base : Nat} {spare : Nat → Bool} {held : Bool} {v : Value} {x : DataW H} {p : List MemPlace} (ht : DataW.Trod enc P W base spare held T v x p)
  {ts : List TypeId} {ds : List (DataW H)} {j : Nat} (hz : (DataW.weightsEach P ts ds).all (· ≤ reachBytes) = true) (hj : ts[j]? = some T) (hd : ds[j]? = some x) : ∃ y, d.K W y v.cells.toList ∧ G y := by
 obtain ⟨fuel, hf⟩ := ht;exact h fuel H enc W base spare held fuel _ _ (Nat.le_refl _) hf (fun n hn => by
  have := List.all_eq_true.1 hz n (DataW.weights_mem_each hj hd n hn);simpa using this)
end Go.Proofs.YtapejnikpmfddaaGreat.Op
namespace Go.Proofs.YtapejnikpmfddaaGreat.Ki
open Go.RowKit Go.Proofs.aI.bM Go.Proofs.YtapejnikpmfddaaGreat.Op Go.Proofs.YtapejnikpmfddaaGreat.P
def G22 (l : List (Int)) : Prop := (∀ x ∈ l, (Lit.int .u32 x).wf = true) ∧ l.length * 4 ≤ reachBytes
theorem auZ (N : Nat) : lH N Tryz.prog 22 (Kd.slice 44 (Kd.int .u32)) G22 := ((Tj Tryz.underlying22 aa (Ti Tryz.underlying44)).imp (fun l h => ⟨h.1, Tn (by kernel_rfl : Tryz.prog.bytesOf 44 = 4) h.2⟩)).mono (Nat.le_succ N)
def G23 (l : List (Int)) : Prop := (∀ x ∈ l, (Lit.int .i64 x).wf = true) ∧ l.length * 8 ≤ reachBytes
theorem aiL (N : Nat) : lH N Tryz.prog 23 (Kd.slice 3 (Kd.int .i64)) G23 := ((Tj Tryz.underlying23 aa (Ti Tryz.underlying3)).imp (fun l h => ⟨h.1, Tn (by kernel_rfl : Tryz.prog.bytesOf 3 = 8) h.2⟩)).mono (Nat.le_succ N)
def G24 (l : List (List (Int))) : Prop := (∀ x ∈ l, G23 x) ∧ l.length * 24 ≤ reachBytes
theorem au0 (N : Nat) : lH N Tryz.prog 24 (Kd.slice 23 (Kd.slice 3 (Kd.int .i64))) G24 := ((Tj Tryz.underlying24 aa (aiL _)).imp (fun l h => ⟨h.1, Tn (by kernel_rfl : Tryz.prog.bytesOf 23 = 24) h.2⟩)).mono (Nat.le_succ N)
def G26 (s : EG) : Prop := G22 s.f0 ∧ G23 s.f1 ∧ G24 s.f2
theorem au1 (N : Nat) : lH N Tryz.prog 26 k26 G26 := by
 refine lH.mono (N := N + 1) ?_ (Nat.le_succ N);unfold k26;have h0 := aiJ (N := N) Tryz.underlying26 (n := 3) aa (fun x : EG => (x.f0, x.f1, x.f2)) (fun y : (List (Int)) × (List (Int)) × (List (List (Int))) => (⟨y.1, y.2.1, y.2.2⟩ : EG)) (fun _ => rfl) (Tm (a := 1) (n := 2) rfl aa (auZ _) (Tm (a := 1) (n := 1) rfl aa (aiL _) (aiI (n := 1) rfl aa (au0 _))));exact lH.imp h0 (fun s h => h)
inductive NK : ak → Prop
 | mk (s : ak) : (Lit.int .i64 s.f0).wf = true → (Lit.int .i64 s.f1).wf = true → (∀ x ∈ s.f2, NK x) → s.f2.length * 40 ≤ reachBytes → NK s
theorem au2 (N : Nat) : lH N Tryz.prog 29 bK NK := by
 refine auY (fun N d hz hd => ?_) N;refine (aiJ Tryz.underlying29 (n := 3) aa _ (fun y : Int × Int × (List (ak)) => (⟨y.1, y.2.1, y.2.2⟩ : ak)) (fun _ => rfl) (Tm (a := 1) (n := 2) rfl aa (Ti Tryz.underlying3) (Tm (a := 1) (n := 1) rfl aa (Ti Tryz.underlying3) (aiI (n := 1) rfl aa ((Tj Tryz.underlying27 (hz ▸ by kernel_rfl) hd).mono (Nat.le_succ N)))))).imp (fun s h => ?_);exact NK.mk s (h.1) (h.2.1) (h.2.2.1) (Tn (by kernel_rfl : Tryz.prog.bytesOf 29 = 40) h.2.2.2)
end Go.Proofs.YtapejnikpmfddaaGreat.Ki
namespace Go.Proofs.YtapejnikpmfddaaGreat.Pu
open Go.RowKit Go.Proofs.aI.bM Go.Proofs.aI.dM
open Go.Proofs.YtapejnikpmfddaaGreat.P Go.Proofs.YtapejnikpmfddaaGreat.X Go.Proofs.YtapejnikpmfddaaGreat.Ki
theorem au3 (s0 : EG) (g0 : G26 s0) (s1 : ak) (g1 : NK s1) : NJ.f s0.f0 s0.f1 s0.f2 s1.f0 s1.f1 s1.f2 = some true := by
 have h0 := g0.1.2;have h1 := g0.2.1.2;have h2 := g0.2.2.2;simp only [reachBytes] at h0 h1 h2;refine if_pos ⟨by omega, by omega, by omega, fun x hx => ?_⟩;have h3 := (g0.2.2.1 x hx).2;simp only [reachBytes] at h3;omega
end Go.Proofs.YtapejnikpmfddaaGreat.Pu
