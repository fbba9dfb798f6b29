/- A part of the claim SearchForms. -/
import Derived.Test.YtapejnikpmfddaaGreatQSearchFormsl
set_option linter.unusedVariables false
set_option linter.unusedSimpArgs false
set_option maxHeartbeats 12800000
set_option maxRecDepth 100000
namespace Go.Proofs.YtapejnikpmfddaaGreat.X
open Go.RowKit Go.Proofs.aI.bM Go.Proofs.aI.dG Go.Proofs.aI.dM
open Go.Proofs.YtapejnikpmfddaaGreat.P Go.Proofs.YtapejnikpmfddaaGreat.gY
def kv.Ma : Bool × List (List Nat × List Nat) := (true, [([], []), ([], []), ([], []), ([], []), ([], []), ([4], [4]), ([5], [5]), ([3, 6], [3, 6]), ([7, 7], [7]), ([0, 1, 2, 8], [0, 1, 2, 8]), ([9], [9]), ([10, 0, 1, 2, 3, 4, 5, 6, 7, 8, 9, 10], [10])])
def kv.B10 : List Nat := [0, 0, 0, 0, 0, 16, 48, 120, 248, 511, 1023, 2047]
theorem kv.XV : dh .any (opsOf Tryz.f19 10) = kv.Ma := by kernel_rfl
theorem kv.XW : ik kv.Ma.2 kv.B10 = true := by kernel_rfl
def kv.T16 : Bool × List (List Nat × List Nat) := (true, [([], []), ([], []), ([1], [1]), ([2], [2]), ([3], [3]), ([], []), ([], []), ([], []), ([7], [7]), ([5, 6, 8], [5, 6, 8]), ([9], [9]), ([4, 10, 8], [4, 10]), ([0, 0, 1, 2, 3, 4, 5, 6, 7, 8, 9, 10, 11], [0]), ([12, 0, 1, 2, 3, 4, 5, 6, 7, 8, 9, 10, 11], [12]), ([13, 11, 11, 0, 1, 2, 3, 4, 5, 6, 7, 8, 9, 10, 11], [11, 13])])
def kv.B16 : List Nat := [0, 0, 2, 6, 14, 0, 0, 0, 128, 480, 992, 2046, 4095, 8191, 16383]
theorem kv.agl : dh .any (opsOf Tryz.f19 16) = kv.T16 := by kernel_rfl
theorem kv.agm : ik kv.T16.2 kv.B16 = true := by kernel_rfl
def kv.Kz : Bool × List (List Nat × List Nat) := (true, [([], []), ([0], [0]), ([1], [1]), ([2], [2]), ([], []), ([], []), ([4, 5], [4, 5]), ([], []), ([6, 7], [6, 7]), ([], []), ([9], [9]), ([10], [10]), ([11], [11]), ([], []), ([], []), ([13, 14], [13, 14]), ([], []), ([15, 16], [15, 16]), ([12, 17], [12, 17]), ([18], [18]), ([], []), ([20], [20]), ([19, 21], [19, 21]), ([3, 8, 0, 1, 2, 3, 4, 5, 6, 7, 8, 9, 10, 11, 12, 13, 14, 15, 16, 17, 18, 19, 20, 21, 22], [3, 8]), ([23, 22, 22, 0, 1, 2, 3, 4, 5, 6, 7, 8, 9, 10, 11, 12, 13, 14, 15, 16, 17, 18, 19, 20, 21, 22], [22, 23])])
def kv.U4 : List Nat := [0, 1, 3, 7, 0, 0, 48, 0, 240, 0, 512, 1536, 3584, 0, 0, 24576, 0, 122880, 261632, 523776, 0, 1048576, 4193792, 8388607, 16777215]
theorem kv.U5 : dh .any (opsOf Tryz.f19 25) = kv.Kz := by kernel_rfl
theorem kv.U6 : ik kv.Kz.2 kv.U4 = true := by kernel_rfl
theorem agn : (Tryz.prog.info? 76).map (fun i => (i.zero, i.size, i.bytes)) = some (some (.agg #[.int .i64 0, .int .i64 0, .slice none 0 0, .int .i64 0, .int .i64 0]), 5, 56) := by kernel_rfl
theorem arP : (Tryz.prog.info? 23).map (fun i => (i.zero, i.size, i.bytes)) = some (some (.slice none 0 0), 1, 24) := by kernel_rfl
theorem agp (n : Nat) (h : n < 1000000) (W : World) : (Instr.makeSlice 24 (.int .i64 (n : Int)) (.int .i64 (n : Int))).run Tryz.prog W = .ok (.slice (some ⟨W.heap.size, 0, none⟩) n n) (W.alloc (.cells ⟨List.replicate n (Value.slice none 0 0)⟩ 23)) := by
 have h1 := Tx (P := Tryz.prog) 24 23 (.slice none 0 0) 24 Tryz.underlying24 arP rfl ai n ag W;have rE : madeCells #[Value.slice none 0 0] n = ⟨List.replicate n (Value.slice none 0 0)⟩ := by
  apply Array.ext
  ·simp [madeCells]
  ·intro i h1 h2;simp [madeCells, Nat.mod_one]
 rw [rE] at h1;exact h1
theorem agq {W w : World} {g n : Nat} {ok : Nat → Prop} (h : Lay W w g ⟨List.replicate n (Value.slice none 0 0)⟩ 23) (hn : n < 1000000000) (hok : ok g) : Kd.S (Kd.slice 3 bD) 23 w W.heap.size ok (.slice (some ⟨g, 0, none⟩) n n) (List.replicate n []) := by
 have hown : w.ownsRow W.heap.size 23 1 (.slice (some ⟨g, 0, none⟩) n n) n (List.replicate n (Value.slice none 0 0)) := ⟨by simp, .inr ⟨g, n, _, rfl, h.1, h.2, Nat.le_refl _, by simp only [maxLen]; omega, by simp, by simp⟩⟩;have hrep : iM (Kd.bare (Kd.slice 3 bD) |>.M w W.heap.size (fun k => ok k ∧ some k ≠ (Value.slice (some ⟨g, 0, none⟩) n n).ownBlock)) 1 (List.replicate n []) (List.replicate n (Value.slice none 0 0)) := by
  refine ⟨by simp, fun j p hj => ?_⟩;obtain ⟨hj1, hj2⟩ := List.getElem?_eq_some_iff.1 hj;rw [List.length_replicate] at hj1;rw [List.getElem_replicate] at hj2;subst hj2;rw [Nat.mul_one, List.drop_replicate, List.take_replicate, show min 1 (n - j) = 1 by omega];exact ⟨_, rfl, Kd.lK _ _ _ _ _⟩
 exact Kd.ajP ⟨fun k hk => by simp [Value.ownBlock] at hk; rw [← hk]; exact hok, _, by rw [List.length_replicate]; exact hown, hrep⟩
theorem XX {W : World} {ok : Nat → Prop} {A : Option Addr} {n : Nat} {xs : List ak} (h : Kd.F bK W ok A n xs) {j : Nat} (hj : j < n) :
  ∃ ad Aq cq, A = some ad ∧ (xs.getD j z29).f2.length ≤ cq ∧ Kd.F bK W ok Aq (xs.getD j z29).f2.length (xs.getD j z29).f2 ∧
   W.cell? (ad.add (j * 3)) = some (.int .i64 (xs.getD j z29).f0) ∧ W.cell? ⟨(ad.add (j * 3)).block, (ad.add (j * 3)).off + 1, none⟩ = some (.int .i64 (xs.getD j z29).f1) ∧
   W.cell? ⟨(ad.add (j * 3)).block, (ad.add (j * 3)).off + 2, none⟩ = some (.slice Aq (xs.getD j z29).f2.length cq) := by
 obtain ⟨ad, c, e, _, hK, hc0, _⟩ := Kd.aaY h z29 (j : Int) ag ag;rw [Int.toNat_natCast] at hK hc0;obtain ⟨Aq, cq, rfl, hl, hC⟩ := anH hK;refine ⟨ad, Aq, cq, e, hl, hC, ?_, ?_, ?_⟩
 ·have := hc0 0 _ rfl
  rwa [Nat.add_zero] at this
 ·have := hc0 1 _ rfl
  rwa [I8 _ _ _ ag] at this
 ·have := hc0 2 _ rfl
  rwa [I8 _ _ _ ag] at this
theorem XY {w : World} {A : Option Addr} {n : Nat} {xs : List (List Int)} (h : Kd.C (Kd.slice 3 (Kd.int .i64)) w A n xs) : ∀ x, x ∈ xs → x.length ≤ 9223372036854775807 := by
 intro x hx;obtain ⟨j, hj, e⟩ := List.getElem_of_mem hx;have hn : j < n := by rw [← h.1]; exact hj
 obtain ⟨ad, c, _, _, hK, _⟩ := Kd.CE h [] (j : Int) ag ag;rw [Int.toNat_natCast, List.getD_eq_getElem?_getD, List.getElem?_eq_getElem hj, e] at hK;obtain ⟨A', c', _, _, hC⟩ := hK;exact Kd.pG hC
def Mc (ls ss : List Int) (nxs : List (List Int)) (s : ak) (sz : Nat) (A0 A1 A2 A5 : Option Addr) (c0 c1 c2 c5 ga nn : Nat) (v7 : Value) : Array Value :=
 #[.slice A0 ls.length c0, .slice A1 ss.length c1, .slice A2 nxs.length c2, .int .i64 s.f0, .int .i64 s.f1, .slice A5 s.f2.length c5, .int .i64 (sz : Int), v7, .slice (some ⟨ga, 0, none⟩) nn nn]
def Ch (err : Int) (p : PD) (w' : World) (e : Ending) : Prop := if err = 0 then ∃ g, e = .returned (.tuple #[.pointer (some ⟨g, 0, none⟩), .int .i64 0]) ∧ qc w' g p else e = .returned (.tuple #[.pointer none, .int .i64 err])
theorem agr (ls ss : List Int) (nxs : List (List Int)) (s : ak) (A0 A1 A2 A5 : Option Addr) (c0 c1 c2 c5 : Nat) (w : World)
  (h0 : Kd.C (Kd.int .u32) w A0 ls.length ls) (l0 : ls.length ≤ c0) (h1 : Kd.C (Kd.int .i64) w A1 ss.length ss) (l1 : ss.length ≤ c1) (h2 : Kd.C (Kd.slice 3 (Kd.int .i64)) w A2 nxs.length nxs) (l2 : nxs.length ≤ c2) (h5 : Kd.C bK w A5 s.f2.length s.f2) (l5 : s.f2.length ≤ c5) :
  Calls Tryz.prog 19 #[.agg #[.slice A0 ls.length c0, .slice A1 ss.length c1, .slice A2 nxs.length c2], .agg #[.int .i64 s.f0, .int .i64 s.f1, .slice A5 s.f2.length c5]] w fun e w' => Ch (gF ls ss nxs s) (bH ls ss nxs s) w' e ∧ Below w.heap.size w w' := by
 have AB := Tryz.underlying26;have jm := Tryz.underlying29;have uO := Tryz.underlying27;have BO := Tryz.underlying74;have hup := Tryz.underlying76;have ags := Tryz.underlying72;have yK := Tryz.underlying22;have fM := Tryz.underlying23;have IG := Tryz.underlying24;obtain ⟨W2, hW2⟩ : ∃ W2, W2 = (w.alloc (.cells #[.slice A0 ls.length c0, .slice A1 ss.length c1, .slice A2 nxs.length c2] 26)).alloc (.cells #[.int .i64 s.f0, .int .i64 s.f1, .slice A5 s.f2.length c5] 29) := ⟨_, rfl⟩;have hB2 : Below w.heap.size w W2 := by rw [hW2]; exact aW (aW (Below.refl _ _) _) _
 have hbk : W2.heap[w.heap.size]? = some (.cells #[.slice A0 ls.length c0, .slice A1 ss.length c1, .slice A2 nxs.length c2] 26 (0, 0)) := by rw [hW2]; exact bf (heap_alloc_new w _) _
 have hbf : W2.heap[w.heap.size + 1]? = some (.cells #[.int .i64 s.f0, .int .i64 s.f1, .slice A5 s.f2.length c5] 29 (0, 0)) := by
  rw [hW2];have := heap_alloc_new (w.alloc (.cells #[.slice A0 ls.length c0, .slice A1 ss.length c1, .slice A2 nxs.length c2] 26)) (.cells #[.int .i64 s.f0, .int .i64 s.f1, .slice A5 s.f2.length c5] 29);simpa using this
 obtain ⟨gf, hgf⟩ : ∃ k, k = w.heap.size + 1 := ⟨_, rfl⟩;obtain ⟨eB, kP⟩ : ∃ k, k = w.heap.size := ⟨_, rfl⟩;rw [← kP] at hbk;rw [← hgf] at hbf;obtain ⟨km, wL⟩ := (XR ls ss nxs (Kd.pG h1) (Kd.pG h2) (XY h2)).rounds;have wM := Zd.mk (pR.calls km A0 c0 ls A1 c1 ss A2 c2 nxs (ko ls ss nxs) W2 (Kd.aQ h0 hB2) l0 (Kd.aQ h1 hB2) l1 (Kd.aQ h2 hB2) l2 wL);have D5 := Zd.mk (fun W (hb : Below W2.heap.size W2 W) => Uz s A5 c5 W (Kd.aQ h5 (hB2.trans (hb.mono hB2.size))) l5);have yf : W2.cell? ⟨eB, 0, none⟩ = some (.slice A0 ls.length c0) := (aj hbk 0).trans rfl;have Ja : W2.cell? ⟨eB, 1, none⟩ = some (.slice A1 ss.length c1) := (aj hbk 1).trans rfl;have Ci : W2.cell? ⟨eB, 2, none⟩ = some (.slice A2 nxs.length c2) := (aj hbk 2).trans rfl;have fK := Zd.mk hbk;have jq := Zd.mk hbf;have HB2 := Zd.mk hB2;have H0 := Zd.mk h0;have H1 := Zd.mk h1;have H2 := Zd.mk h2;have H5 := Zd.mk h5;have zw := Zd.mk (show gF ls ss nxs s = if ko ls ss nxs = 0 then (if bW s = 0 then (if 3000 < 2 ^ az s * ls.length then 7 else 0) else bW s) else ko ls ss nxs from rfl);have uw := Zd.mk (fun (h : ko ls ss nxs = 0) => I9 h);have QU := Zd.mk (fun (h : bW s = 0) (hg : F3 ls ss nxs) => Cg hg h);have agt := Zd.mk (fun (hm : bW s = 0) (t : ak) (ht : t ∈ bU s) => (Kt s t ht).may hm);have Md := Zd.mk (fun (hm : bW s = 0) => arJ hm);have HZ := Zd.mk (fun (hm : bW s = 0) => kZ hm);obtain ⟨kt, hkt⟩ := (aeH s).rounds;obtain ⟨kz, hkz⟩ := (PW s).rounds;have XZ := Zd.mk hkt;have QV := Zd.mk hkz;have zx := Zd.mk (show lh s = if bW s = 0 then bU s else [] from rfl);have wm := Zd.mk (show jB s = if bW s = 0 then 2 ^ az s else 0 from rfl);clear h0 h1 h2 h5 hbk hbf hB2 wL hkt hkz;generalize ko ls ss nxs = mg at *;generalize xE : bW s = mf at *;have X3 := Zd.mk xE;clear xE;by_cases e1 : mg = 0
 ·by_cases e2 : mf = 0
  ·have AV : (mg != 0) = false := by rw [e1]; rfl
   have BQ : (mf != 0) = false := by rw [e2]; rfl
   obtain ⟨sz, hsz⟩ : ∃ n : Nat, n = 2 ^ az s := ⟨_, rfl⟩;have hss : jB s = (sz : Int) := by rw [wm.out, if_pos e2, hsz, Int.natCast_pow]; rfl
   rw [hss] at QV;have h8 := (HZ.out (e2)).2.2.1;have hsz1 : 1 ≤ sz := by rw [hsz]; exact Nat.one_le_two_pow
   have hsz2 : sz ≤ 256 := by rw [hsz]; exact Nat.pow_le_pow_right (n := 2) ai h8
   have X4 := (uw.out e1).n;obtain ⟨nn, hnn⟩ : ∃ n : Nat, n = sz * ls.length := ⟨_, rfl⟩;have hnb : nn ≤ 51200 := by rw [hnn]; exact Nat.mul_le_mul hsz2 X4
   have hmul : IntKind.i64.wrap ((sz : Int) * (ls.length : Int)) = (nn : Int) := by
    rw [← Int.natCast_mul, ← hnn]; exact (bE _).trans (vD ag)
   have ma := Zd.mk hnn;have oG := Zd.mk hsz;clear hss hnn hsz;by_cases e3 : 3000 < nn
   ·have HE := Zd.mk (show gF ls ss nxs s = 7 from by rw [zw.out, if_pos e1, if_pos e2, ← oG.out, ← ma.out, if_pos e3]);have e4 : (3000 : Int) < (nn : Int) := by omega
    go_enter Tryz.func19, Tryz.ntmps19;go_upto_region 1 with fail
    rw [← hW2, ← hgf, ← kP];clear hW2 hgf kP;go_wp2_with (first
     | (go_at_call 10; refine wM.out.mono ?_; rintro e w3 ⟨rfl, hB3⟩; have HB3 := Zd.mk hB3; have sV := Zd.mk ((hB3.block _ (aT jq.out)).trans jq.out); have yg := Zd.mk ((hB3.block _ (aT fK.out)).trans fK.out); have y0 := (aj sV.out 0).trans rfl; have y1 := (aj sV.out 1).trans rfl; have y2 := (aj sV.out 2).trans rfl; clear hB3)
     | (go_at_call 37; refine (D5.out _ HB3.out).mono ?_; rintro e w4 ⟨rfl, hB4⟩; have bQ := Zd.mk (HB3.out.trans (hB4.mono HB3.out.size)); have wQ := Zd.mk ((hB4.block _ (aT sV.out)).trans sV.out); have Cj := Zd.mk ((hB4.block _ (aT yg.out)).trans yg.out); have x0 := (aj wQ.out 0).trans rfl; have x1 := (aj wQ.out 1).trans rfl; have x2 := (aj wQ.out 2).trans rfl; clear hB4)
     | (go_at_call 38; refine (yY.calls kz s.f0 s.f1 A5 c5 s.f2 (sz : Int) _ (Kd.aQ H5.out (HB2.out.trans (bQ.out.mono HB2.out.size))) l5 QV.out).mono ?_; rintro e w5 ⟨rfl, dJ⟩; have cZ := Zd.mk (bQ.out.trans (dJ.mono bQ.out.size)); have wR := Zd.mk ((dJ.block _ (aT Cj.out)).trans Cj.out); have t0 := (aj wR.out 0).trans rfl; clear dJ))
    go_ret2;exact ⟨by rw [HE.out]; unfold Ch; rw [if_neg ai]; rfl, HB2.out.trans (cZ.out.mono HB2.out.size)⟩
   ·have HE := Zd.mk (show gF ls ss nxs s = 0 from by rw [zw.out, if_pos e1, if_pos e2, ← oG.out, ← ma.out, if_neg e3]);have e4 : ¬ (3000 : Int) < (nn : Int) := by omega
    go_enter Tryz.func19, Tryz.ntmps19;go_upto_region 1 with fail
    rw [← hW2, ← hgf, ← kP];clear hW2 hgf kP;go_upto_region 10 with (first
     | (go_at_call 10; refine wM.out.mono ?_; rintro e w3 ⟨rfl, hB3⟩; have HB3 := Zd.mk hB3; have sV := Zd.mk ((hB3.block _ (aT jq.out)).trans jq.out); have yg := Zd.mk ((hB3.block _ (aT fK.out)).trans fK.out); have y0 := (aj sV.out 0).trans rfl; have y1 := (aj sV.out 1).trans rfl; have y2 := (aj sV.out 2).trans rfl; clear hB3)
     | (go_at_call 37; refine (D5.out _ HB3.out).mono ?_; rintro e w4 ⟨rfl, hB4⟩; have bQ := Zd.mk (HB3.out.trans (hB4.mono HB3.out.size)); have wQ := Zd.mk ((hB4.block _ (aT sV.out)).trans sV.out); have Cj := Zd.mk ((hB4.block _ (aT yg.out)).trans yg.out); have x0 := (aj wQ.out 0).trans rfl; have x1 := (aj wQ.out 1).trans rfl; have x2 := (aj wQ.out 2).trans rfl; clear hB4)
     | (go_at_call 38; refine (yY.calls kz s.f0 s.f1 A5 c5 s.f2 (sz : Int) _ (Kd.aQ H5.out (HB2.out.trans (bQ.out.mono HB2.out.size))) l5 QV.out).mono ?_; rintro e w5 ⟨rfl, dJ⟩; have cZ := Zd.mk (bQ.out.trans (dJ.mono bQ.out.size)); have wR := Zd.mk ((dJ.block _ (aT Cj.out)).trans Cj.out); have QW := Zd.mk ((dJ.block _ (aT wQ.out)).trans wQ.out); have t0 := (aj wR.out 0).trans rfl; clear dJ))
    obtain ⟨W4, rfl⟩ : ∃ W : World, W = w5 := ⟨_, rfl⟩;clear yf Ja Ci t0 y0 y1 y2 x0 x1 x2;have yf : W4.cell? ⟨eB, 0, none⟩ = some (.slice A0 ls.length c0) := (aj wR.out 0).trans rfl;have Ja : W4.cell? ⟨eB, 1, none⟩ = some (.slice A1 ss.length c1) := (aj wR.out 1).trans rfl;have Ci : W4.cell? ⟨eB, 2, none⟩ = some (.slice A2 nxs.length c2) := (aj wR.out 2).trans rfl;have Me : W4.cell? ⟨gf, 0, none⟩ = some (.int .i64 s.f0) := (aj QW.out 0).trans rfl;have Mf : W4.cell? ⟨gf, 1, none⟩ = some (.int .i64 s.f1) := (aj QW.out 1).trans rfl;have Mg : W4.cell? ⟨gf, 2, none⟩ = some (.slice A5 s.f2.length c5) := (aj QW.out 2).trans rfl;have uy := Zd.mk (HB2.out.trans (cZ.out.mono HB2.out.size));have hmk := agp nn ag;have BW := Zd.mk (bV (Below.refl W4.heap.size W4));clear wR QW yg Cj sV wQ HB3 bQ cZ fK jq HB2 wM D5;refine iP (n := 12) (S := fun w' => True) (ds := []) amh aa rfl rfl trivial (fun hHeld => ?_);refine iR kv.XV kv.XW (fun ae bA => ?_);refine JX [0, 1, 2, 3, 4, 5, 6, 7, 8, 9, 10, 11] (fun Bv b a w' => ∃ (g8 : Nat) (g10 : Nat) (dW : Value) (bR : Value) (dE : Value) (bN : Value), a = ig Bv b [(0, 34, .agg #[.slice A0 ls.length c0, .slice A1 ss.length c1, .slice A2 nxs.length c2]), (1, 35, .agg #[.int .i64 s.f0, .int .i64 s.f1, .slice A5 s.f2.length c5]), (2, 36, .int .i64 (sz : Int)), (3, 37, .int .i64 (sz : Int)), (4, 38, .pointer (some ⟨eB, 0, none⟩)), (5, 39, .slice A0 ls.length c0), (6, 40, .int .i64 (ls.length : Int)), (7, 41, .int .i64 (nn : Int)), (8, 42, dW), (9, 43, bR), (10, 44, dE), (11, 9, bN)] ∧ (Below W4.heap.size W4 w') ∧ (b 8 = true → Lay W4 w' g8 ⟨List.replicate nn (Value.slice none 0 0)⟩ 23) ∧ (b 10 = true → Lay W4 w' g10 #[.slice A0 ls.length c0, .slice A1 ss.length c1, .slice A2 nxs.length c2, .int .i64 s.f0, .int .i64 s.f1, .slice A5 s.f2.length c5, .int .i64 (sz : Int), .slice none 0 0, .slice (some ⟨g8, 0, none⟩) nn nn] 74) ∧ (b 8 = true → b 10 = true → g8 ≠ g10) ∧ (b 8 = true → (dW : Value) = .slice (some ⟨g8, 0, none⟩) nn nn) ∧ (b 9 = true → (bR : Value) = .agg #[.slice A0 ls.length c0, .slice A1 ss.length c1, .slice A2 nxs.length c2, .int .i64 s.f0, .int .i64 s.f1, .slice A5 s.f2.length c5, .int .i64 (sz : Int), .slice none 0 0, .slice (some ⟨g8, 0, none⟩) nn nn]) ∧ (b 10 = true → (dE : Value) = .pointer (some ⟨g10, 0, none⟩)) ∧ (b 11 = true → (bN : Value) = .pointer (some ⟨g10, 0, none⟩))) ae.out bA.out aa aa ?_ ?_ ?_
    ·exact ⟨0, 0, .bool false, .bool false, .bool false, .bool false, by simp only [ig, Bool.false_eq_true, if_false], BW.out, fun h_ => absurd h_ ai, fun h_ => absurd h_ ai, fun h_ => absurd h_ ai, fun h_ => absurd h_ ai, fun h_ => absurd h_ ai, fun h_ => absurd h_ ai, fun h_ => absurd h_ ai⟩
    ·skip
     clear BW;refine dm ?_ ?_
     ·rintro b a w' ⟨g8, g10, dW, bR, dE, bN, ha, bI, gL, sW, sZ, iA, eX, iJ, bY⟩ bq hon hoff;refine ⟨_, rfl, fun K hK => ?_⟩;have e2 : a.tmps[2]? = some (.pointer (some ⟨eB, 0, none⟩)) := by rw [ha]; exact (kF rfl).trans rfl
      replace ha := Zd.mk ha;have BW := Zd.mk bI;have y0_ := aG BW.out yf;have y1_ := aG BW.out Ja;have y2_ := aG BW.out Ci;refine dQ (w1 := w') (v := .agg #[.slice A0 ls.length c0, .slice A1 ss.length c1, .slice A2 nxs.length c2]) bu rfl ?_ ?_
      ·go_simp
       (try simp only [bE])
       try rfl
      refine hK.out _ _ ⟨g8, g10, dW, bR, dE, bN, (by rw [ha.out]; exact dH 0 bq rfl rfl rfl), bI, gL, fun ah => aA (hoff 10 aa) ah, fun _ aD => aA (hoff 10 aa) aD, iA, fun ah => aA (hoff 9 aa) ah, fun ah => aA (hoff 10 aa) ah, fun ah => aA (hoff 11 aa) ah⟩
     refine dm ?_ ?_
     ·rintro b a w' ⟨g8, g10, dW, bR, dE, bN, ha, bI, gL, sW, sZ, iA, eX, iJ, bY⟩ bq hon hoff;refine ⟨_, rfl, fun K hK => ?_⟩;have e3 : a.tmps[3]? = some (.pointer (some ⟨gf, 0, none⟩)) := by rw [ha]; exact (kF rfl).trans rfl
      replace ha := Zd.mk ha;have BW := Zd.mk bI;have y0_ := aG BW.out Me;have y1_ := aG BW.out Mf;have y2_ := aG BW.out Mg;refine dQ (w1 := w') (v := .agg #[.int .i64 s.f0, .int .i64 s.f1, .slice A5 s.f2.length c5]) bu rfl ?_ ?_
      ·go_simp
       (try simp only [bE])
       try rfl
      refine hK.out _ _ ⟨g8, g10, dW, bR, dE, bN, (by rw [ha.out]; exact dH 1 bq rfl rfl rfl), bI, gL, fun ah => aA (hoff 10 aa) ah, fun _ aD => aA (hoff 10 aa) aD, iA, fun ah => aA (hoff 9 aa) ah, fun ah => aA (hoff 10 aa) ah, fun ah => aA (hoff 11 aa) ah⟩
     refine dm ?_ ?_
     ·rintro b a w' ⟨g8, g10, dW, bR, dE, bN, ha, bI, gL, sW, sZ, iA, eX, iJ, bY⟩ bq hon hoff;refine ⟨_, rfl, fun K hK => ?_⟩;have e8 : a.tmps[8]? = some (.int .i64 (sz : Int)) := by rw [ha]; exact (kF rfl).trans rfl
      replace ha := Zd.mk ha;have BW := Zd.mk bI;refine dQ (w1 := w') (v := .int .i64 (sz : Int)) bu rfl ?_ ?_
      ·go_simp
       (try simp only [bE])
       try rfl
      refine hK.out _ _ ⟨g8, g10, dW, bR, dE, bN, (by rw [ha.out]; exact dH 2 bq rfl rfl rfl), bI, gL, fun ah => aA (hoff 10 aa) ah, fun _ aD => aA (hoff 10 aa) aD, iA, fun ah => aA (hoff 9 aa) ah, fun ah => aA (hoff 10 aa) ah, fun ah => aA (hoff 11 aa) ah⟩
     refine dm ?_ ?_
     ·rintro b a w' ⟨g8, g10, dW, bR, dE, bN, ha, bI, gL, sW, sZ, iA, eX, iJ, bY⟩ bq hon hoff;refine ⟨_, rfl, fun K hK => ?_⟩;have e8 : a.tmps[8]? = some (.int .i64 (sz : Int)) := by rw [ha]; exact (kF rfl).trans rfl
      replace ha := Zd.mk ha;have BW := Zd.mk bI;refine dQ (w1 := w') (v := .int .i64 (sz : Int)) bu rfl ?_ ?_
      ·go_simp
       (try simp only [bE])
       try rfl
      refine hK.out _ _ ⟨g8, g10, dW, bR, dE, bN, (by rw [ha.out]; exact dH 3 bq rfl rfl rfl), bI, fun ah => aA (hoff 8 aa) ah, fun ah => aA (hoff 10 aa) ah, fun ah _ => aA (hoff 8 aa) ah, fun ah => aA (hoff 8 aa) ah, fun ah => aA (hoff 9 aa) ah, fun ah => aA (hoff 10 aa) ah, fun ah => aA (hoff 11 aa) ah⟩
     refine dm ?_ ?_
     ·rintro b a w' ⟨g8, g10, dW, bR, dE, bN, ha, bI, gL, sW, sZ, iA, eX, iJ, bY⟩ bq hon hoff;refine ⟨_, rfl, fun K hK => ?_⟩;have e2 : a.tmps[2]? = some (.pointer (some ⟨eB, 0, none⟩)) := by rw [ha]; exact (kF rfl).trans rfl
      replace ha := Zd.mk ha;have BW := Zd.mk bI;refine dQ (w1 := w') (v := .pointer (some ⟨eB, 0, none⟩)) bu rfl ?_ ?_
      ·go_simp
       (try simp only [bE])
       try rfl
      refine hK.out _ _ ⟨g8, g10, dW, bR, dE, bN, (by rw [ha.out]; exact dH 4 bq rfl rfl rfl), bI, fun ah => aA (hoff 8 aa) ah, fun ah => aA (hoff 10 aa) ah, fun ah _ => aA (hoff 8 aa) ah, fun ah => aA (hoff 8 aa) ah, fun ah => aA (hoff 9 aa) ah, fun ah => aA (hoff 10 aa) ah, fun ah => aA (hoff 11 aa) ah⟩
     refine dm ?_ ?_
     ·rintro b a w' ⟨g8, g10, dW, bR, dE, bN, ha, bI, gL, sW, sZ, iA, eX, iJ, bY⟩ bq hon hoff;refine ⟨_, rfl, fun K hK => ?_⟩;have e38 : a.tmps[38]? = some (.pointer (some ⟨eB, 0, none⟩)) := by rw [ha]; exact dL (e := (4, 38, .pointer (some ⟨eB, 0, none⟩))) 4 rfl rfl (hon 4 aa) rfl
      replace ha := Zd.mk ha;have BW := Zd.mk bI;have y0_ := aG BW.out yf;refine dQ (w1 := w') (v := .slice A0 ls.length c0) bu rfl ?_ ?_
      ·go_simp
       (try simp only [bE])
       try rfl
      refine hK.out _ _ ⟨g8, g10, dW, bR, dE, bN, (by rw [ha.out]; exact dH 5 bq rfl rfl rfl), bI, fun ah => aA (hoff 8 aa) ah, fun ah => aA (hoff 10 aa) ah, fun ah _ => aA (hoff 8 aa) ah, fun ah => aA (hoff 8 aa) ah, fun ah => aA (hoff 9 aa) ah, fun ah => aA (hoff 10 aa) ah, fun ah => aA (hoff 11 aa) ah⟩
     refine dm ?_ ?_
     ·rintro b a w' ⟨g8, g10, dW, bR, dE, bN, ha, bI, gL, sW, sZ, iA, eX, iJ, bY⟩ bq hon hoff;refine ⟨_, rfl, fun K hK => ?_⟩;have e39 : a.tmps[39]? = some (.slice A0 ls.length c0) := by rw [ha]; exact dL (e := (5, 39, .slice A0 ls.length c0)) 5 rfl rfl (hon 5 aa) rfl
      replace ha := Zd.mk ha;have BW := Zd.mk bI;refine dQ (w1 := w') (v := .int .i64 (ls.length : Int)) bu rfl ?_ ?_
      ·go_simp
       (try simp only [bE])
       try rfl
      refine hK.out _ _ ⟨g8, g10, dW, bR, dE, bN, (by rw [ha.out]; exact dH 6 bq rfl rfl rfl), bI, fun ah => aA (hoff 8 aa) ah, fun ah => aA (hoff 10 aa) ah, fun ah _ => aA (hoff 8 aa) ah, fun ah => aA (hoff 8 aa) ah, fun ah => aA (hoff 9 aa) ah, fun ah => aA (hoff 10 aa) ah, fun ah => aA (hoff 11 aa) ah⟩
     refine dm ?_ ?_
     ·rintro b a w' ⟨g8, g10, dW, bR, dE, bN, ha, bI, gL, sW, sZ, iA, eX, iJ, bY⟩ bq hon hoff;refine ⟨_, rfl, fun K hK => ?_⟩;have e37 : a.tmps[37]? = some (.int .i64 (sz : Int)) := by rw [ha]; exact dL (e := (3, 37, .int .i64 (sz : Int))) 3 rfl rfl (hon 3 aa) rfl
      have e40 : a.tmps[40]? = some (.int .i64 (ls.length : Int)) := by rw [ha]; exact dL (e := (6, 40, .int .i64 (ls.length : Int))) 6 rfl rfl (hon 6 aa) rfl
      replace ha := Zd.mk ha;have BW := Zd.mk bI;refine dQ (w1 := w') (v := .int .i64 (nn : Int)) bu rfl ?_ ?_
      ·go_simp
       (try simp only [bE])
       try rfl
      refine hK.out _ _ ⟨g8, g10, dW, bR, dE, bN, (by rw [ha.out]; exact dH 7 bq rfl rfl rfl), bI, fun ah => aA (hoff 8 aa) ah, fun ah => aA (hoff 10 aa) ah, fun ah _ => aA (hoff 8 aa) ah, fun ah => aA (hoff 8 aa) ah, fun ah => aA (hoff 9 aa) ah, fun ah => aA (hoff 10 aa) ah, fun ah => aA (hoff 11 aa) ah⟩
     refine dm ?_ ?_
     ·rintro b a w' ⟨g8, g10, dW, bR, dE, bN, ha, bI, gL, sW, sZ, iA, eX, iJ, bY⟩ bq hon hoff;refine ⟨_, rfl, fun K hK => ?_⟩;have e41 : a.tmps[41]? = some (.int .i64 (nn : Int)) := by rw [ha]; exact dL (e := (7, 41, .int .i64 (nn : Int))) 7 rfl rfl (hon 7 aa) rfl
      replace ha := Zd.mk ha;have BW := Zd.mk bI;refine dQ (w1 := w'.alloc (.cells ⟨List.replicate nn (Value.slice none 0 0)⟩ 23)) (v := .slice (some ⟨w'.heap.size, 0, none⟩) nn nn) bu rfl ?_ ?_
      ·(go_simp; try rfl)
      refine hK.out _ _ ⟨w'.heap.size, g10, (.slice (some ⟨w'.heap.size, 0, none⟩) nn nn), bR, dE, bN, (by rw [ha.out]; exact dH 8 bq rfl rfl rfl), aW BW.out _, fun _ => Lay.new BW.out _ _, fun ah => aA (hoff 10 aa) ah, fun _ aD => aA (hoff 10 aa) aD, fun _ => rfl, fun ah => aA (hoff 9 aa) ah, fun ah => aA (hoff 10 aa) ah, fun ah => aA (hoff 11 aa) ah⟩
     refine dm ?_ ?_
     ·rintro b a w' ⟨g8, g10, dW, bR, dE, bN, ha, bI, gL, sW, sZ, iA, eX, iJ, bY⟩ bq hon hoff;refine ⟨_, rfl, fun K hK => ?_⟩;have e34 : a.tmps[34]? = some (.agg #[.slice A0 ls.length c0, .slice A1 ss.length c1, .slice A2 nxs.length c2]) := by rw [ha]; exact dL (e := (0, 34, .agg #[.slice A0 ls.length c0, .slice A1 ss.length c1, .slice A2 nxs.length c2])) 0 rfl rfl (hon 0 aa) rfl
      have e35 : a.tmps[35]? = some (.agg #[.int .i64 s.f0, .int .i64 s.f1, .slice A5 s.f2.length c5]) := by rw [ha]; exact dL (e := (1, 35, .agg #[.int .i64 s.f0, .int .i64 s.f1, .slice A5 s.f2.length c5])) 1 rfl rfl (hon 1 aa) rfl
      have e36 : a.tmps[36]? = some (.int .i64 (sz : Int)) := by rw [ha]; exact dL (e := (2, 36, .int .i64 (sz : Int))) 2 rfl rfl (hon 2 aa) rfl
      have e42 : a.tmps[42]? = some (dW) := by rw [ha]; exact dL (e := (8, 42, dW)) 8 rfl rfl (hon 8 aa) rfl
      rw [iA (hon 8 aa)] at e42;replace ha := Zd.mk ha;have BW := Zd.mk bI;have R8 := Zd.mk (gL (hon 8 aa));refine dQ (w1 := w') (v := .agg #[.slice A0 ls.length c0, .slice A1 ss.length c1, .slice A2 nxs.length c2, .int .i64 s.f0, .int .i64 s.f1, .slice A5 s.f2.length c5, .int .i64 (sz : Int), .slice none 0 0, .slice (some ⟨g8, 0, none⟩) nn nn]) bu rfl ?_ ?_
      ·go_simp
       (try simp only [bE])
       try rfl
      refine hK.out _ _ ⟨g8, g10, dW, (.agg #[.slice A0 ls.length c0, .slice A1 ss.length c1, .slice A2 nxs.length c2, .int .i64 s.f0, .int .i64 s.f1, .slice A5 s.f2.length c5, .int .i64 (sz : Int), .slice none 0 0, .slice (some ⟨g8, 0, none⟩) nn nn]), dE, bN, (by rw [ha.out]; exact dH 9 bq rfl rfl rfl), bI, gL, fun ah => aA (hoff 10 aa) ah, fun _ aD => aA (hoff 10 aa) aD, iA, fun _ => rfl, fun ah => aA (hoff 10 aa) ah, fun ah => aA (hoff 11 aa) ah⟩
     refine dm ?_ ?_
     ·rintro b a w' ⟨g8, g10, dW, bR, dE, bN, ha, bI, gL, sW, sZ, iA, eX, iJ, bY⟩ bq hon hoff;refine ⟨_, rfl, fun K hK => ?_⟩;have e43 : a.tmps[43]? = some (bR) := by rw [ha]; exact dL (e := (9, 43, bR)) 9 rfl rfl (hon 9 aa) rfl
      rw [eX (hon 9 aa)] at e43;replace ha := Zd.mk ha;have BW := Zd.mk bI;have R8 := Zd.mk (gL (hon 8 aa));refine dQ (w1 := w'.alloc (.cells #[.slice A0 ls.length c0, .slice A1 ss.length c1, .slice A2 nxs.length c2, .int .i64 s.f0, .int .i64 s.f1, .slice A5 s.f2.length c5, .int .i64 (sz : Int), .slice none 0 0, .slice (some ⟨g8, 0, none⟩) nn nn] 74)) (v := .pointer (some ⟨w'.heap.size, 0, none⟩)) bu rfl ?_ ?_
      ·(go_simp; try rfl)
      refine hK.out _ _ ⟨g8, w'.heap.size, dW, bR, (.pointer (some ⟨w'.heap.size, 0, none⟩)), bN, (by rw [ha.out]; exact dH 10 bq rfl rfl rfl), aW BW.out _, fun _ => R8.out.alloc _, fun _ => Lay.new BW.out _ _, fun h_ _ => (gL h_).AU.symm, iA, eX, fun _ => rfl, fun ah => aA (hoff 11 aa) ah⟩
     refine dm ?_ ?_
     ·rintro b a w' ⟨g8, g10, dW, bR, dE, bN, ha, bI, gL, sW, sZ, iA, eX, iJ, bY⟩ bq hon hoff;refine ⟨_, rfl, fun K hK => ?_⟩;have e44 : a.tmps[44]? = some (dE) := by rw [ha]; exact dL (e := (10, 44, dE)) 10 rfl rfl (hon 10 aa) rfl
      rw [iJ (hon 10 aa)] at e44;replace ha := Zd.mk ha;have BW := Zd.mk bI;have R8 := Zd.mk (gL (hon 8 aa));have Mh := Zd.mk (sW (hon 10 aa));have X5 := Zd.mk (sZ (hon 8 aa) (hon 10 aa));refine dQ (w1 := w') (v := .pointer (some ⟨g10, 0, none⟩)) bu rfl ?_ ?_
      ·go_simp
       (try simp only [bE])
       try rfl
      refine hK.out _ _ ⟨g8, g10, dW, bR, dE, (.pointer (some ⟨g10, 0, none⟩)), (by rw [ha.out]; exact dH 11 bq rfl rfl rfl), bI, gL, sW, sZ, iA, eX, iJ, fun _ => rfl⟩
     exact JW
    ·rintro b a w' hall ⟨g8, g10, dW, bR, dE, bN, ha, bI, gL, sW, sZ, iA, eX, iJ, bY⟩;clear BW;have DU := hall 0 aa;have zm := hall 1 aa;have wN := hall 2 aa;have xX := hall 3 aa;have qY := hall 4 aa;have yS := hall 5 aa;have oW := hall 6 aa;have sH := hall 7 aa;have qm := hall 8 aa;have xY := hall 9 aa;have yh := hall 10 aa;have uW := hall 11 aa;subst ha;obtain rfl := iA qm;obtain rfl := eX xY;obtain rfl := iJ yh;obtain rfl := bY uW;simp only [ig, DU, zm, wN, xX, qY, yS, oW, sH, qm, xY, yh, uW, if_true, Act.put, List.setIfInBounds_toArray, List.set_cons_zero, List.set_cons_succ];have BW := Zd.mk bI;clear bI;have R8 := Zd.mk (gL qm);clear gL;have Mh := Zd.mk (sW yh);clear sW;have X5 := Zd.mk (sZ qm yh);clear sZ;clear hall DU zm wN xX qY yS oW sH qm xY yh uW;obtain ⟨W5, rfl⟩ : ∃ W : World, W = w' := ⟨_, rfl⟩;obtain ⟨ga, rfl⟩ : ∃ k : Nat, k = g8 := ⟨_, rfl⟩;obtain ⟨g, rfl⟩ : ∃ k : Nat, k = g10 := ⟨_, rfl⟩;have agu := Zd.mk (agq (ok := fun k => k = ga) R8.out ag rfl);have agv : Zd (W5.heap[g]? = some (.cells (Mc ls ss nxs s sz A0 A1 A2 A5 c0 c1 c2 c5 ga nn (.slice none 0 0)) 74 (0, 0))) := ⟨Mh.out.2⟩;have AJ := Zd.mk X5.out;have CX := Zd.mk Mh.out.1;have FU := Zd.mk R8.out.1;have Mi := Zd.mk (aT Mh.out.2);have HA5 := Zd.mk (aT R8.out.2);have yf0 := aG BW.out Me;have yf1 := aG BW.out Mf;have yf2 := aG BW.out Mg;have cZ := Zd.mk BW.out;have ZK0 := Zd.mk yf;have Km := Zd.mk (show bH ls ss nxs s = ⟨ls, ss.map Int.toNat, nxs.map (fun l => l.map Int.toNat), s, sz, partsOf (bU s) 0, mo (partsOf (bU s) 0) ls sz nn ls.length 0⟩ from by rw [ma.out, oG.out]; rfl);have vG := Zd.mk (agt.out e2);have arQ := Zd.mk (Md.out e2);have awG := Zd.mk (QU.out e2 (uw.out e1));have DT := Zd.mk (uw.out e1);have qg := Zd.mk (iW s);have arR : Zd (az s ≤ 8) := ⟨h8⟩;have hT : lh s = bU s := by rw [zx.out, if_pos e2]
     rw [hT] at XZ;clear R8 Mh X5 yf Ja Ci Me Mf Mg hmk hmul BW hT zx zw agt Md QU HZ X3 wm uw h8;generalize bU s = T at *;have rF := Zd.mk (show T.length ≤ 8 from by rw [qg.out]; exact arR.out);have hT8 := rF.out;go_wp2_with (go_at_call 39; refine (BA.calls kt s.f0 s.f1 A5 c5 s.f2 T _ (Kd.aQ H5.out (uy.out.trans (cZ.out.mono uy.out.size))) l5 XZ.out).mono ?_; rintro e w6 ⟨v6, rfl, X6, fP⟩; obtain ⟨A6, c6, e6⟩ := Kd.ED X6; subst e6; have Jb := Zd.mk X6; have gP := Zd.mk fP; clear X6 fP);obtain ⟨W6, rfl⟩ : ∃ W : World, W = w6 := ⟨_, rfl⟩;have mY := Zd.mk (Kd.aj3 (Kd.TU Jb.out));have Qw := Zd.mk gP.out.size;have Ak := Zd.mk (Nat.lt_of_lt_of_le Mi.out gP.out.size);go_loopg [48] T.length (fun kq v48 w' => ∃ (i : Nat) (v7 : Value), i + kq = T.length ∧ v48 = .int .i64 (i : Int) ∧ Zd (Below W4.heap.size W4 w') ∧ Zd (w'.heap[g]? = some (.cells (Mc ls ss nxs s sz A0 A1 A2 A5 c0 c1 c2 c5 ga nn v7) 74 (0, 0))) ∧ Zd (Kd.N Bi 76 w' W4.heap.size (fun k => W5.heap.size ≤ k) v7 (partsOf (T.take i) 0)) ∧ Zd (∀ k, v7.ownBlock = some k → W6.heap.size ≤ k) ∧ Zd (Kept W6 w' (fun k => k = g)))
     case atStart => exact ⟨0, .slice none 0 0, by omega, rfl, ⟨cZ.out.trans (gP.out.mono cZ.out.size)⟩, ⟨(gP.out.block _ Mi.out).trans agv.out⟩, ⟨Kd.JU _ _ _ _ _⟩, ⟨fun k hk => by cases hk⟩, ⟨Kept.refl _ _⟩⟩
     case round =>
      obtain ⟨i, v7, hi, rfl, Ck, D6, yl, kN, F4⟩ := hrel;obtain ⟨WW, rfl⟩ : ∃ W : World, W = wr := ⟨_, rfl⟩;have HI := Zd.mk hi;clear hi;by_cases hil : i < T.length
      ·have QX := Kd.aj4 mY.out F4.out (by rintro k ⟨h1, _⟩ e; have := Mi.out; omega);have hgt : T.getD i z29 = T[i]'hil := by rw [List.getD_eq_getElem?_getD, List.getElem?_eq_getElem hil]; rfl
       have wG := Zd.mk (hgt ▸ arI hil);have X7 := Zd.mk (hgt ▸ vG.out _ (List.getElem_mem hil));clear hgt;have hpl : (partsOf (T.take i) 0).length ≤ 8 := by rw [DY, List.length_take]; have := rF.out; omega
       have tO := Zd.mk hpl;obtain ⟨pl, agw⟩ : ∃ l, l = partsOf (T.take i) 0 := ⟨_, rfl⟩;rw [← agw] at yl tO wG;have XI : (i : Int) < (T.length : Int) := by omega
       clear hpl agw;by_cases h6 : (T.getD i z29).f0 = 6
       ·have hkd : 0 < (T.getD i z29).f2.length := by
         have hp := (C8 (kZ X7.out).2.2.2).2.1;rw [h6] at hp;have h9 : fC 6 = 1 := by decide
         omega
        have hhd : jX (T.getD i z29) = (T.getD i z29).f2.getD 0 z29 := by unfold jX; rw [if_pos h6]
        have hmh : bW ((T.getD i z29).f2.getD 0 z29) = 0 := hhd ▸ U1 X7.out;have QY := Zd.mk (show wP (T.getD i z29) i = ⟨(T.getD i z29).f2.getD 0 z29, ((i + 1 : Nat) : Int), ((2 ^ az ((T.getD i z29).f2.getD 0 z29) : Nat) : Int)⟩ from by unfold wP; rw [hhd, if_pos h6]);obtain ⟨ad, A3, c3, e, hc3, hF3, d0, d1, d2⟩ := XX QX hil;subst e;obtain ⟨F5, Ah, ch, e, hch, Mj, q0, q1, q2⟩ := XX hF3 hkd;subst e;rw [Nat.zero_mul, show F5.add 0 = F5 from rfl] at q0 q1 q2;clear hhd QX hF3;obtain ⟨kq, hkq⟩ := (PW ((T.getD i z29).f2.getD 0 z29)).rounds;have Mk : jB ((T.getD i z29).f2.getD 0 z29) = ((2 ^ az ((T.getD i z29).f2.getD 0 z29) : Nat) : Int) := by unfold jB; rw [if_pos hmh, Int.natCast_pow]; rfl
        rw [Mk] at hkq;generalize ((2 ^ az ((T.getD i z29).f2.getD 0 z29) : Nat) : Int) = sq at *;generalize (T.getD i z29).f2.getD 0 z29 = h at *;generalize T.getD i z29 = tt at *;have Kl := Zd.mk hkq;have Ml := Zd.mk Mj;have X8 : (tt.f0 == 6) = true := by simpa using h6
        have awH : (0 : Int) < (tt.f2.length : Int) := by omega
        have qa0 : ∀ o : Obj, (WW.alloc o).cell? F5 = some (.int .i64 h.f0) := fun o => aG (aW (Below.refl _ _) o) q0;have qa1 : ∀ o : Obj, (WW.alloc o).cell? ⟨F5.block, F5.off + 1, none⟩ = some (.int .i64 h.f1) := fun o => aG (aW (Below.refl _ _) o) q1;have qa2 : ∀ o : Obj, (WW.alloc o).cell? ⟨F5.block, F5.off + 2, none⟩ = some (.slice Ah h.f2.length ch) := fun o => aG (aW (Below.refl _ _) o) q2;obtain ⟨i1, hi1⟩ : ∃ k : Nat, k = i + 1 := ⟨_, rfl⟩;rw [← hi1] at QY;clear Mk hkq Mj hmh;go_upto_region 16 with fail
        try rw [show wrap64 ((i : Int) + 1) = (i1 : Int) from by rw [hi1]; exact jA ag ag]
        try rw [show (i : Int) + 1 = (i1 : Int) from by rw [hi1]; rfl]
        clear d0 d1 d2 q0 q1 q2 qa0 qa1 qa2 hi1;obtain ⟨gb, hgb⟩ : ∃ k, k = WW.heap.size := ⟨_, rfl⟩;obtain ⟨WB, qh⟩ : ∃ W : World, W = WW.alloc (.cells #[.int .i64 h.f0, .int .i64 h.f1, .slice Ah h.f2.length ch] 29) := ⟨_, rfl⟩;have jH : Below WW.heap.size WW WB := by rw [qh]; exact aW (Below.refl _ _) _
        have hbb : WB.heap[WW.heap.size]? = some (.cells #[.int .i64 h.f0, .int .i64 h.f1, .slice Ah h.f2.length ch] 29 (0, 0)) := by rw [qh]; exact heap_alloc_new WW _
        rw [← qh];rw [← hgb] at hbb ⊢;have b0 : WB.cell? ⟨gb, 0, none⟩ = some (.int .i64 h.f0) := (aj hbb 0).trans rfl;have b1 : WB.cell? ⟨gb, 1, none⟩ = some (.int .i64 h.f1) := (aj hbb 1).trans rfl;have b2 : WB.cell? ⟨gb, 2, none⟩ = some (.slice Ah h.f2.length ch) := (aj hbb 2).trans rfl;have X9 := Zd.mk (Kd.Bh yl.out jH);have xZ := Zd.mk (Kd.He Ml.out jH);have fK := Zd.mk ((jH.block _ (aT D6.out)).trans D6.out);have sF := Zd.mk (Ck.out.trans (jH.mono Ck.out.size));have wI := Zd.mk (F4.out.below jH);have E8 := Ak;have Ab := Zd.mk (fun k (hk : v7.ownBlock = some k) => show k < gb from hgb ▸ Kd.N8 yl.out k hk);have uz := Zd.mk (fun W (hb : Below WB.heap.size WB W) => yY.calls kq h.f0 h.f1 Ah ch h.f2 sq W (Kd.NZ (Kd.He xZ.out hb)) hch Kl.out);have k7 : WB.cell? ⟨g, 7, none⟩ = some v7 := (aj fK.out 7).trans rfl;clear hgb qh jH hbb yl D6 Ck F4 Ml;refine iP (n := 15) (S := fun w' => w'.cell? ⟨g, 7, none⟩ = some v7 ∧ w'.cell? ⟨gb, 0, none⟩ = some (.int .i64 h.f0) ∧ w'.cell? ⟨gb, 1, none⟩ = some (.int .i64 h.f1) ∧ w'.cell? ⟨gb, 2, none⟩ = some (.slice Ah h.f2.length ch)) (ds := [14]) Ub aa rfl rfl ⟨k7, b0, b1, b2⟩ (fun hHeld => ?_);refine iR kv.agl kv.agm (fun ae bA => ?_);refine pz ae.out 0 (some 62) Uc rfl rfl ?_;refine pz ae.out 1 (some 63) Ud rfl rfl ?_;refine pz ae.out 2 (some 64) Ue rfl rfl ?_;refine pz ae.out 3 (some 65) abT rfl rfl ?_;refine pz ae.out 6 (some 68) abU rfl rfl ?_;refine tz ae.out bA.out 4 (some 66) abV rfl rfl hHeld ?_;refine tz ae.out bA.out 5 (some 67) abW rfl rfl hHeld ?_;refine tz ae.out bA.out 7 (some 69) abX rfl rfl hHeld ?_;refine gV (i := 8) (N := some 70) abY rfl rfl (di ae.out aa) ai (fun K hK => ?_);refine jT Tryz.func38 aa rfl #[.agg #[.int .i64 h.f0, .int .i64 h.f1, .slice Ah h.f2.length ch]] bu rfl rfl (by simp only [List.map_toArray, List.map_cons, List.map_nil]; rfl) ?_
        with_reducible refine (uz.out _ (show Below WB.heap.size WB WB.drew from bV (Below.refl _ _))).mono ?_
        rintro e_ w6 ⟨rfl, hB⟩;have fP := (bV (Below.refl WB.heap.size WB)).trans hB;have Jb := Zd.mk (Kd.Bh X9.out fP);have mY := Zd.mk (Kd.He xZ.out fP);have Mm := Zd.mk ((fP.block _ (aT fK.out)).trans fK.out);have D7 := Zd.mk (sF.out.trans (fP.mono sF.out.size));have F6 := Zd.mk (wI.out.below fP);have uA := aW (Below.refl w6.heap.size w6) (.cells #[.int .i64 h.f0, .int .i64 h.f1, .slice Ah h.f2.length ch, .int .i64 (i1 : Int), .int .i64 sq] 76);have F7 := aG fP k7;have F8 := aG fP b0;have F9 := aG fP b1;have Ga := aG fP b2;have Ya := aG uA F7;have Yb := aG uA F8;have Yc := aG uA F9;have Yd := aG uA Ga;clear hB fP uA hHeld;refine ⟨_, rfl, ?_⟩;refine hK.out _ _ ⟨F7, F8, F9, Ga⟩ (fun hHeld => ?_);clear hK K;refine gW (a' := ?_) ?_ ?_;rotate_left
        ·show Act.put _ (some 70) _ = _;simp only [Act.put, List.setIfInBounds_toArray, List.set_cons_zero, List.set_cons_succ, bE, dS];rfl
        refine pz ae.out 9 (some 71) abZ rfl rfl ?_;refine gV (i := 10) (N := some 72) Uf rfl rfl (di ae.out aa) ai (fun K hK => ?_);refine dQ (w1 := w6.alloc (.cells #[.int .i64 h.f0, .int .i64 h.f1, .slice Ah h.f2.length ch, .int .i64 (i1 : Int), .int .i64 sq] 76)) (v := .slice (some ⟨w6.heap.size, 0, none⟩) 1 1) bu rfl ?_ ?_
        ·(go_simp; try rfl)
        refine hK.out _ _ ⟨Ya, Yb, Yc, Yd⟩ (fun hHeld => ?_);clear hK K;refine gW (a' := ?_) ?_ ?_;rotate_left
        ·show Act.put _ (some 72) _ = _;simp only [Act.put, List.setIfInBounds_toArray, List.set_cons_zero, List.set_cons_succ, bE, dS];rfl
        refine gV (i := 11) (N := some 73) Ug rfl rfl (di ae.out aa) ai (fun K hK => ?_);refine Kd.aa7 Bi (w0 := W4) (W := w6) W4.heap.size bu (.tmp 66) (.tmp 72) 72 76 (.agg #[.int .i64 0, .int .i64 0, .slice none 0 0, .int .i64 0, .int .i64 0]) 56 rfl ags agn rfl ai ai v7 pl ⟨h, (i1 : Int), sq⟩ [.int .i64 h.f0, .int .i64 h.f1, .slice Ah h.f2.length ch, .int .i64 (i1 : Int), .int .i64 sq] (fun k => W5.heap.size ≤ k) (fun k => W5.heap.size ≤ k ∧ k < W6.heap.size) rfl rfl (acT _ _ ⟨h, (i1 : Int), sq⟩ hch mY.out) (fun k hk => ⟨hk.1, fun e => by have h2_ := hk.2; have := kN.out k e.symm; omega⟩) (fun k hk => Nat.le_trans Qw.out (Nat.le_trans F6.out.1 hk)) Jb.out D7.out D7.out.size (by have := tO.out; omega) ?_;intro LF w7 ho hb hg hat;obtain ⟨A7, c7, e7⟩ : ∃ A c, LF = .slice A (pl ++ [(⟨h, (i1 : Int), sq⟩ : lM)]).length c := Kd.ED ho;obtain ⟨n7, Gb⟩ : ∃ n, n = (pl ++ [(⟨h, (i1 : Int), sq⟩ : lM)]).length := ⟨_, rfl⟩;rw [← Gb] at e7;subst e7;have Ye := Zd.mk ho;have iy := Zd.mk hb;have FQ := Zd.mk hg;have FD := Zd.mk hat;have HE7 := Zd.mk Gb;have Yf := hg.cell F7 (fun e => by have h_ : W6.heap.size ≤ g := kN.out g e.symm; have := E8.out; omega);have Yg := hg.cell F8 (fun e => absurd (Ab.out _ e.symm) (Nat.lt_irrefl _));have Yh := hg.cell F9 (fun e => absurd (Ab.out _ e.symm) (Nat.lt_irrefl _));have Yi := hg.cell Ga (fun e => absurd (Ab.out _ e.symm) (Nat.lt_irrefl _));have arS := aN (oM Mm.out hg (fun e => by have := kN.out _ e.symm; have := E8.out; omega)) 7;clear ho hb hg hat hHeld Gb;refine hK.out _ _ ⟨Yf, Yg, Yh, Yi⟩ (fun hHeld => ?_);clear hK K;refine gW (a' := ?_) ?_ ?_;rotate_left
        ·show Act.put _ (some 73) _ = _;simp only [Act.put, List.setIfInBounds_toArray, List.set_cons_zero, List.set_cons_succ, bE, dS];rfl
        refine pz ae.out 12 (some 74) Uh rfl rfl ?_;refine pz ae.out 13 (some 75) Ui rfl rfl ?_;refine kV (i := 14) (N := none) Uj rfl rfl (di ae.out aa) ai (fun K hK => ?_);refine iQ (w1 := w7.setCell ⟨g, 7, none⟩ (.slice A7 n7 c7)) bu rfl ?_ ?_
        ·(go_simp; try rfl)
        refine hK.out _ _ ?_;clear hK K;refine kD (kE ae.out aa) ?_;clear hHeld ae bA;obtain ⟨W8, rO⟩ : ∃ W : World, W = w7.setCell ⟨g, 7, none⟩ (.slice A7 n7 c7) := ⟨_, rfl⟩;rw [← rO];have vR := Zd.mk rO;clear rO k7 b0 b1 b2;go_wp2;go_roundg (gk - 1)
        case measure => have := HI.out; omega
        case rel =>
         have Yj : ∀ k, v7.ownBlock = some k → k ≠ g := fun k hk e => by have := kN.out k hk; have := Ak.out; omega
         have hbk := oM Mm.out FQ.out (fun e => Yj _ e.symm rfl);refine ⟨i + 1, .slice A7 n7 c7, by have := HI.out; omega, by first | rfl | (congr 1; go_num; done), ⟨by rw [vR.out]; exact iy.out.setCell CX.out _⟩, ⟨by rw [vR.out, jc hbk 7 _]; rfl⟩, ⟨?_⟩, ⟨fun k hk => ?_⟩, ⟨?_⟩⟩
         ·rw [wG.out, QY.out, vR.out];exact Kd.CL Ye.out (fun k hk e => by have := Mi.out; have e' : k = g := e; omega) _
         ·rcases FD.out with e | ⟨b, e, hb⟩
          ·exact kN.out k (e ▸ hk)
          ·rw [e] at hk;cases hk;exact Nat.le_trans F6.out.1 hb
         ·rw [vR.out];exact (Kept.Cz FQ.out F6.out (fun k hk => .inr (kN.out k hk))).setCell (.inl rfl) _
       ·have hhd : jX (T.getD i z29) = T.getD i z29 := by unfold jX; rw [if_neg h6]
        have QY := Zd.mk (show wP (T.getD i z29) i = ⟨T.getD i z29, (i : Int), ((2 ^ az (T.getD i z29) : Nat) : Int)⟩ from by unfold wP; rw [hhd, if_neg h6]; rfl);obtain ⟨ad, Ah, ch, e, hch, Mj, b0, b1, b2⟩ := XX QX hil;subst e;clear hhd QX;obtain ⟨kq, hkq⟩ := (PW (T.getD i z29)).rounds;have Mk : jB (T.getD i z29) = ((2 ^ az (T.getD i z29) : Nat) : Int) := by unfold jB; rw [if_pos X7.out, Int.natCast_pow]; rfl
        rw [Mk] at hkq;generalize ((2 ^ az (T.getD i z29) : Nat) : Int) = sq at *;generalize T.getD i z29 = h at *;have Kl := Zd.mk hkq;have Ml := Zd.mk Mj;clear Mk hkq Mj;have X8 : (h.f0 == 6) = false := by simpa using h6
        obtain ⟨i1, rfl⟩ : ∃ k : Nat, k = i := ⟨_, rfl⟩;go_upto_region 16 with fail
        clear b0 b1 b2;obtain ⟨gb, hgb⟩ : ∃ k, k = WW.heap.size := ⟨_, rfl⟩;obtain ⟨WB, qh⟩ : ∃ W : World, W = WW.alloc (.cells #[.int .i64 h.f0, .int .i64 h.f1, .slice Ah h.f2.length ch] 29) := ⟨_, rfl⟩;have jH : Below WW.heap.size WW WB := by rw [qh]; exact aW (Below.refl _ _) _
        have hbb : WB.heap[WW.heap.size]? = some (.cells #[.int .i64 h.f0, .int .i64 h.f1, .slice Ah h.f2.length ch] 29 (0, 0)) := by rw [qh]; exact heap_alloc_new WW _
        rw [← qh];rw [← hgb] at hbb ⊢;have b0 : WB.cell? ⟨gb, 0, none⟩ = some (.int .i64 h.f0) := (aj hbb 0).trans rfl;have b1 : WB.cell? ⟨gb, 1, none⟩ = some (.int .i64 h.f1) := (aj hbb 1).trans rfl;have b2 : WB.cell? ⟨gb, 2, none⟩ = some (.slice Ah h.f2.length ch) := (aj hbb 2).trans rfl;have X9 := Zd.mk (Kd.Bh yl.out jH);have xZ := Zd.mk (Kd.He Ml.out jH);have fK := Zd.mk ((jH.block _ (aT D6.out)).trans D6.out);have sF := Zd.mk (Ck.out.trans (jH.mono Ck.out.size));have wI := Zd.mk (F4.out.below jH);have E8 := Ak;have Ab := Zd.mk (fun k (hk : v7.ownBlock = some k) => show k < gb from hgb ▸ Kd.N8 yl.out k hk);have uz := Zd.mk (fun W (hb : Below WB.heap.size WB W) => yY.calls kq h.f0 h.f1 Ah ch h.f2 sq W (Kd.NZ (Kd.He xZ.out hb)) hch Kl.out);have k7 : WB.cell? ⟨g, 7, none⟩ = some v7 := (aj fK.out 7).trans rfl;clear hgb qh jH hbb yl D6 Ck F4 Ml;refine iP (n := 15) (S := fun w' => w'.cell? ⟨g, 7, none⟩ = some v7 ∧ w'.cell? ⟨gb, 0, none⟩ = some (.int .i64 h.f0) ∧ w'.cell? ⟨gb, 1, none⟩ = some (.int .i64 h.f1) ∧ w'.cell? ⟨gb, 2, none⟩ = some (.slice Ah h.f2.length ch)) (ds := [14]) Ub aa rfl rfl ⟨k7, b0, b1, b2⟩ (fun hHeld => ?_);refine iR kv.agl kv.agm (fun ae bA => ?_);refine pz ae.out 0 (some 62) Uc rfl rfl ?_;refine pz ae.out 1 (some 63) Ud rfl rfl ?_;refine pz ae.out 2 (some 64) Ue rfl rfl ?_;refine pz ae.out 3 (some 65) abT rfl rfl ?_;refine pz ae.out 6 (some 68) abU rfl rfl ?_;refine tz ae.out bA.out 4 (some 66) abV rfl rfl hHeld ?_;refine tz ae.out bA.out 5 (some 67) abW rfl rfl hHeld ?_;refine tz ae.out bA.out 7 (some 69) abX rfl rfl hHeld ?_;refine gV (i := 8) (N := some 70) abY rfl rfl (di ae.out aa) ai (fun K hK => ?_);refine jT Tryz.func38 aa rfl #[.agg #[.int .i64 h.f0, .int .i64 h.f1, .slice Ah h.f2.length ch]] bu rfl rfl (by simp only [List.map_toArray, List.map_cons, List.map_nil]; rfl) ?_
        with_reducible refine (uz.out _ (show Below WB.heap.size WB WB.drew from bV (Below.refl _ _))).mono ?_
        rintro e_ w6 ⟨rfl, hB⟩;have fP := (bV (Below.refl WB.heap.size WB)).trans hB;have Jb := Zd.mk (Kd.Bh X9.out fP);have mY := Zd.mk (Kd.He xZ.out fP);have Mm := Zd.mk ((fP.block _ (aT fK.out)).trans fK.out);have D7 := Zd.mk (sF.out.trans (fP.mono sF.out.size));have F6 := Zd.mk (wI.out.below fP);have uA := aW (Below.refl w6.heap.size w6) (.cells #[.int .i64 h.f0, .int .i64 h.f1, .slice Ah h.f2.length ch, .int .i64 (i1 : Int), .int .i64 sq] 76);have F7 := aG fP k7;have F8 := aG fP b0;have F9 := aG fP b1;have Ga := aG fP b2;have Ya := aG uA F7;have Yb := aG uA F8;have Yc := aG uA F9;have Yd := aG uA Ga;clear hB fP uA hHeld;refine ⟨_, rfl, ?_⟩;refine hK.out _ _ ⟨F7, F8, F9, Ga⟩ (fun hHeld => ?_);clear hK K;refine gW (a' := ?_) ?_ ?_;rotate_left
        ·show Act.put _ (some 70) _ = _;simp only [Act.put, List.setIfInBounds_toArray, List.set_cons_zero, List.set_cons_succ, bE, dS];rfl
        refine pz ae.out 9 (some 71) abZ rfl rfl ?_;refine gV (i := 10) (N := some 72) Uf rfl rfl (di ae.out aa) ai (fun K hK => ?_);refine dQ (w1 := w6.alloc (.cells #[.int .i64 h.f0, .int .i64 h.f1, .slice Ah h.f2.length ch, .int .i64 (i1 : Int), .int .i64 sq] 76)) (v := .slice (some ⟨w6.heap.size, 0, none⟩) 1 1) bu rfl ?_ ?_
        ·(go_simp; try rfl)
        refine hK.out _ _ ⟨Ya, Yb, Yc, Yd⟩ (fun hHeld => ?_);clear hK K;refine gW (a' := ?_) ?_ ?_;rotate_left
        ·show Act.put _ (some 72) _ = _;simp only [Act.put, List.setIfInBounds_toArray, List.set_cons_zero, List.set_cons_succ, bE, dS];rfl
        refine gV (i := 11) (N := some 73) Ug rfl rfl (di ae.out aa) ai (fun K hK => ?_);refine Kd.aa7 Bi (w0 := W4) (W := w6) W4.heap.size bu (.tmp 66) (.tmp 72) 72 76 (.agg #[.int .i64 0, .int .i64 0, .slice none 0 0, .int .i64 0, .int .i64 0]) 56 rfl ags agn rfl ai ai v7 pl ⟨h, (i1 : Int), sq⟩ [.int .i64 h.f0, .int .i64 h.f1, .slice Ah h.f2.length ch, .int .i64 (i1 : Int), .int .i64 sq] (fun k => W5.heap.size ≤ k) (fun k => W5.heap.size ≤ k ∧ k < W6.heap.size) rfl rfl (acT _ _ ⟨h, (i1 : Int), sq⟩ hch mY.out) (fun k hk => ⟨hk.1, fun e => by have h2_ := hk.2; have := kN.out k e.symm; omega⟩) (fun k hk => Nat.le_trans Qw.out (Nat.le_trans F6.out.1 hk)) Jb.out D7.out D7.out.size (by have := tO.out; omega) ?_;intro LF w7 ho hb hg hat;obtain ⟨A7, c7, e7⟩ : ∃ A c, LF = .slice A (pl ++ [(⟨h, (i1 : Int), sq⟩ : lM)]).length c := Kd.ED ho;obtain ⟨n7, Gb⟩ : ∃ n, n = (pl ++ [(⟨h, (i1 : Int), sq⟩ : lM)]).length := ⟨_, rfl⟩;rw [← Gb] at e7;subst e7;have Ye := Zd.mk ho;have iy := Zd.mk hb;have FQ := Zd.mk hg;have FD := Zd.mk hat;have HE7 := Zd.mk Gb;have Yf := hg.cell F7 (fun e => by have h_ : W6.heap.size ≤ g := kN.out g e.symm; have := E8.out; omega);have Yg := hg.cell F8 (fun e => absurd (Ab.out _ e.symm) (Nat.lt_irrefl _));have Yh := hg.cell F9 (fun e => absurd (Ab.out _ e.symm) (Nat.lt_irrefl _));have Yi := hg.cell Ga (fun e => absurd (Ab.out _ e.symm) (Nat.lt_irrefl _));have arS := aN (oM Mm.out hg (fun e => by have := kN.out _ e.symm; have := E8.out; omega)) 7;clear ho hb hg hat hHeld Gb;refine hK.out _ _ ⟨Yf, Yg, Yh, Yi⟩ (fun hHeld => ?_);clear hK K;refine gW (a' := ?_) ?_ ?_;rotate_left
        ·show Act.put _ (some 73) _ = _;simp only [Act.put, List.setIfInBounds_toArray, List.set_cons_zero, List.set_cons_succ, bE, dS];rfl
        refine pz ae.out 12 (some 74) Uh rfl rfl ?_;refine pz ae.out 13 (some 75) Ui rfl rfl ?_;refine kV (i := 14) (N := none) Uj rfl rfl (di ae.out aa) ai (fun K hK => ?_);refine iQ (w1 := w7.setCell ⟨g, 7, none⟩ (.slice A7 n7 c7)) bu rfl ?_ ?_
        ·(go_simp; try rfl)
        refine hK.out _ _ ?_;clear hK K;refine kD (kE ae.out aa) ?_;clear hHeld ae bA;obtain ⟨W8, rO⟩ : ∃ W : World, W = w7.setCell ⟨g, 7, none⟩ (.slice A7 n7 c7) := ⟨_, rfl⟩;rw [← rO];have vR := Zd.mk rO;clear rO k7 b0 b1 b2;go_wp2;go_roundg (gk - 1)
        case measure => have := HI.out; omega
        case rel =>
         have Yj : ∀ k, v7.ownBlock = some k → k ≠ g := fun k hk e => by have := kN.out k hk; have := Ak.out; omega
         have hbk := oM Mm.out FQ.out (fun e => Yj _ e.symm rfl);refine ⟨i1 + 1, .slice A7 n7 c7, by have := HI.out; omega, by first | rfl | (congr 1; go_num; done), ⟨by rw [vR.out]; exact iy.out.setCell CX.out _⟩, ⟨by rw [vR.out, jc hbk 7 _]; rfl⟩, ⟨?_⟩, ⟨fun k hk => ?_⟩, ⟨?_⟩⟩
         ·rw [wG.out, QY.out, vR.out];exact Kd.CL Ye.out (fun k hk e => by have := Mi.out; have e' : k = g := e; omega) _
         ·rcases FD.out with e | ⟨b, e, hb⟩
          ·exact kN.out k (e ▸ hk)
          ·rw [e] at hk;cases hk;exact Nat.le_trans F6.out.1 hb
         ·rw [vR.out];exact (Kept.Cz FQ.out F6.out (fun k hk => .inr (kN.out k hk))).setCell (.inl rfl) _
      ·have e : i = T.length := by have := HI.out; omega
       subst e;obtain ⟨W7, rfl⟩ : ∃ W : World, W = WW := ⟨_, rfl⟩;rw [List.take_length] at yl;obtain ⟨A7, c7, e7⟩ := Kd.ED yl.out;subst e7;have HPC := Zd.mk (fun W (hk : Kept W7 W (fun k => k = ga)) => (Kd.Oa (Kd.akc yl.out hk (fun k hk e => by have := HA5.out; have e' : k = ga := e; have hk' : W5.heap.size ≤ k := hk; omega))).2.2);have XO := Zd.mk (Kd.Oa yl.out).2.1;have HP2 := Zd.mk (show 2 ^ (partsOf T 0).length = sz from by rw [DY, qg.out, oG.out]);have FJ := Zd.mk (show (partsOf T 0).length ≤ 8 from by rw [DY]; exact rF.out);have arT := Zd.mk F4.out.1;have HSA : Zd (Kd.S (Kd.slice 3 bD) 23 W7 W4.heap.size (fun k => k = ga ∨ W7.heap.size ≤ k) (.slice (some ⟨ga, 0, none⟩) nn nn) (mo (partsOf T 0) ls sz nn 0 0)) := ⟨by
        rw [arK];exact Kd.aaO (Kd.aj1 (Kd.JR agu.out gP.out) F4.out (fun k hk e => AJ.out (by rw [← hk, ← e]))) (fun k hk => .inl hk)⟩
       have yf := aG Ck.out ZK0.out;clear yl vG qg Jb mY agu agv yf0 yf1 yf2 kN XZ QV HI;generalize partsOf T 0 = P at *;go_wp2;go_loopg [80] ls.length (fun kq v80 w' => ∃ v : Nat, v + kq = ls.length ∧ v80 = .int .i64 (v : Int) ∧ Zd (Below W4.heap.size W4 w') ∧ Zd (w'.heap[g]? = some (.cells (Mc ls ss nxs s sz A0 A1 A2 A5 c0 c1 c2 c5 ga nn (.slice A7 P.length c7)) 74 (0, 0))) ∧ Zd (Kd.S (Kd.slice 3 bD) 23 w' W4.heap.size (fun k => k = ga ∨ W7.heap.size ≤ k) (.slice (some ⟨ga, 0, none⟩) nn nn) (mo P ls sz nn v 0)) ∧ Zd (Kept W7 w' (fun k => k = ga)))
       case atStart => exact ⟨0, by omega, rfl, Ck, D6, HSA, ⟨Kept.refl _ _⟩⟩
       case round =>
        obtain ⟨v, hv, rfl, Cm, Yk, o7, Yl⟩ := hrel;obtain ⟨WV, rfl⟩ : ∃ W : World, W = wr := ⟨_, rfl⟩;obtain ⟨k1, hk1⟩ : ∃ k, k = gk := ⟨_, rfl⟩;rw [← hk1] at hv;have HV := Zd.mk hv;have dR := Zd.mk hk1;clear hv hk1 yf HSA Ck D6;by_cases hvl : v < ls.length
        ·obtain ⟨qV, e, zl⟩ := uh H0.out hvl;subst e;have zl1 := aG (uy.out.trans (Cm.out.mono uy.out.size)) zl;obtain ⟨lt, hlt⟩ : ∃ x, x = ls.getD v 0 := ⟨_, rfl⟩;rw [← hlt] at zl1;have oo := Zd.mk hlt;have QZ : (v : Int) < (ls.length : Int) := by omega
         clear hlt zl;go_wp2;go_loopg [86] sz (fun kq v86 w' => ∃ t : Nat, t + kq = sz ∧ v86 = .int .i64 (t : Int) ∧ Zd (Below W4.heap.size W4 w') ∧ Zd (w'.heap[g]? = some (.cells (Mc ls ss nxs s sz (some qV) A1 A2 A5 c0 c1 c2 c5 ga nn (.slice A7 P.length c7)) 74 (0, 0))) ∧ Zd (Kd.S (Kd.slice 3 bD) 23 w' W4.heap.size (fun k => k = ga ∨ W7.heap.size ≤ k) (.slice (some ⟨ga, 0, none⟩) nn nn) (mo P ls sz nn v t)) ∧ Zd (Kept W7 w' (fun k => k = ga)))
         case atStart => exact ⟨0, by omega, rfl, Cm, Yk, o7, Yl⟩
         case round =>
          obtain ⟨t, ht, rfl, D8, Mo, HS2, Q6⟩ := hrel;obtain ⟨WT, rfl⟩ : ∃ W : World, W = wr := ⟨_, rfl⟩;have HT := Zd.mk ht;clear ht zl1 Cm Yk o7 Yl;by_cases htl : t < sz
          ·have hq7 : WT.cell? ⟨g, 7, none⟩ = some (.slice A7 P.length c7) := (aj Mo.out 7).trans rfl;have Ym := Zd.mk (arF P g t lt A7 c7 WT hq7 (HPC.out WT Q6.out) FJ.out ag arQ.out);obtain ⟨sN, Q7⟩ : ∃ n, n = ng t lt P := ⟨_, rfl⟩;rw [← Q7] at Ym;have hsl : sN < sz := by rw [Q7, ← HP2.out]; exact XQ t lt P
           have kY := Zd.mk (show ng t (ls.getD v 0) P = sN from by rw [Q7, oo.out]);have o6 : v * sz + sN < nn := by
            have h1 : (v + 1) * sz ≤ ls.length * sz := Nat.mul_le_mul_right _ hvl;have h2 : (v + 1) * sz = v * sz + sz := Nat.succ_mul ..;rw [ma.out, Nat.mul_comm sz];omega
           have uj := IE (a := v) (b := sz) (Nat.lt_of_le_of_lt (Nat.le_add_right _ sN) (Nat.lt_trans o6 ag));have BS : IntKind.i64.wrap (((v * sz : Nat) : Int) + (sN : Int)) = ((v * sz + sN : Nat) : Int) := (bE _).trans (Lc (Nat.lt_trans o6 ag));have agx := Zd.mk (fun (h : v * sz + sN < nn) => arN (ps := P) (ls := ls) (N := nn) (v := v) (t := t) ag kY.out hsl h);have arU := Zd.mk (XT (ps := P) (ls := ls) (sz := sz) (v := v) (t := t) o6);have oP := Zd.mk (fun x => arM (ps := P) (ls := ls) (sz := sz) (v := v) (t := t) (x := x) (Nat.le_of_lt htl));have HXD := Zd.mk (show v * sz + sN = v * sz + sN from rfl);clear Q7 hq7;generalize v * sz + sN = x at *;generalize v * sz = m at *;have FB : IntKind.i64.wrap ((v : Int) * (sz : Int)) = (m : Int) := (bE _).trans uj;have hx2 : (x : Int) < (nn : Int) := by omega
           clear uj HXD;go_upto_region 25 with (go_at_call 40; refine Ym.out.mono ?_; rintro e w9 ⟨rfl, hB⟩; have um := Zd.mk hB; clear hB)
           obtain ⟨WB, rfl⟩ : ∃ W : World, W = w9 := ⟨_, rfl⟩;have hBd : Below WT.heap.size WT WB.drew := um.out.trans ((bV (Below.refl WB.heap.size WB)).mono um.out.size);have HBC := Zd.mk (D8.out.trans (hBd.mono D8.out.size));have yg := Zd.mk ((hBd.block _ (aT Mo.out)).trans Mo.out);have agy := Zd.mk (Q6.out.below hBd);obtain ⟨gX, c, hcl, hM, hcc, Mq, hH⟩ := Kd.aaQ (Kd.JR HS2.out hBd) [] (x : Int) ag ag;rw [Int.toNat_natCast, arU.out] at hM;have Dz := Zd.mk (oP.out x);obtain ⟨row, hrow⟩ : ∃ r, r = vQ P ls sz v t x := ⟨_, rfl⟩;rw [← hrow] at hM Dz agx;obtain ⟨vu, e, hR⟩ := hM;subst e;obtain ⟨uB, hw1, hw2, hw3, hw4⟩ : ∃ uB : Nat → Prop, Kd.H (Kd.slice 3 bD) 23 WB.drew W4.heap.size (fun k => k = ga ∨ W7.heap.size ≤ k) (.slice (some ⟨ga, 0, none⟩) nn nn) (mo P ls sz nn v t) (x : Int) uB [vu] ∧ Kd.R bD 3 WB.drew W4.heap.size uB vu row ∧ (∀ k, vu.ownBlock = some k → uB k) ∧ (∀ k, WB.drew.heap.size ≤ k → uB k) :=
            ⟨_, Kd.aaR hH, Kd.jd hR (fun k hk => .inl hk), fun k hk => .inl (hR.1 k hk), fun k hk => .inr ⟨.inr (Nat.le_trans agy.out.1 hk), hk⟩⟩
           have HH := Zd.mk hw1;have Yn := Zd.mk hw2;have Yo := Zd.mk hw3;have Yp := Zd.mk hw4;have HOW := Zd.mk (fun k (hk : vu.ownBlock = some k) => (Mq k (hR.1 k hk)).1);have HOG := Zd.mk (fun k (hk : vu.ownBlock = some k) => (Mq k (hR.1 k hk)).2);have agz : Zd (some g ≠ vu.ownBlock) := by
            refine ⟨fun e => ?_⟩;rcases HOW.out g e.symm with h1 | h1
            ·exact AJ.out h1.symm
            ·have := Ak.out;have := arT.out;omega
           have k8 : WB.drew.cell? ⟨g, 8, none⟩ = some (.slice (some ⟨ga, 0, none⟩) nn nn) := (aj yg.out 8).trans rfl;have ku : WB.drew.cell? ⟨ga, x, none⟩ = some vu := by
            have h_ := hcc 0 vu rfl
            rwa [Int.toNat_natCast, show (x * (Kd.slice 3 bD).sz + 0) = x from Nat.mul_one x] at h_
           clear hw1 hw2 hw3 hw4 Mq hH hR hcc hcl hrow hBd HS2 Mo D8 Q6 Ym um;refine iP (n := 25) (S := fun w' => w'.cell? ⟨g, 8, none⟩ = some (.slice (some ⟨ga, 0, none⟩) nn nn) ∧ w'.cell? ⟨ga, x, none⟩ = some vu) (ds := [24]) ami aa rfl rfl ⟨k8, ku⟩ (fun hHeld => ?_);refine iR kv.U5 kv.U6 (fun ae bA => ?_);generalize WB.drew = WC at *;refine pz ae.out 0 (some 93) amj rfl rfl ?_;refine pz ae.out 1 (some 94) amk rfl rfl ?_;refine pz ae.out 2 (some 95) aml rfl rfl ?_;refine pz ae.out 4 (some 97) amm rfl rfl ?_;refine pz ae.out 5 (some 98) amn rfl rfl ?_;refine pz ae.out 6 (some 99) amo rfl rfl ?_;refine pz ae.out 7 (some 100) amq rfl rfl ?_;refine pz ae.out 8 (some 101) amr rfl rfl ?_;refine pz ae.out 9 (some 102) ams rfl rfl ?_;refine pz ae.out 10 (some 103) amt rfl rfl ?_;refine pz ae.out 11 (some 104) amu rfl rfl ?_;refine pz ae.out 13 (some 106) amv rfl rfl ?_;refine pz ae.out 14 (some 107) amw rfl rfl ?_;refine pz ae.out 15 (some 108) amx rfl rfl ?_;refine pz ae.out 16 (some 109) amy rfl rfl ?_;refine pz ae.out 17 (some 110) amz rfl rfl ?_;refine pz ae.out 20 (some 113) amA rfl rfl ?_;refine tz ae.out bA.out 3 (some 96) amB rfl rfl hHeld ?_;refine tz ae.out bA.out 12 (some 105) amC rfl rfl hHeld ?_;refine pz ae.out 18 (some 111) amD rfl rfl ?_;refine tz ae.out bA.out 19 (some 112) amE rfl rfl hHeld ?_;refine gV (i := 21) (N := some 114) amF rfl rfl (di ae.out aa) ai (fun K hK => ?_);have uA := aW (Below.refl WC.heap.size WC) (.cells #[.int .i64 (t : Int)] 3);have arV := aG uA k8;have arW := aG uA ku;clear uA;refine dQ (w1 := WC.alloc (.cells #[.int .i64 (t : Int)] 3)) (v := .slice (some ⟨WC.heap.size, 0, none⟩) 1 1) bu rfl ?_ ?_
           ·(go_simp; try rfl)
           refine hK.out _ _ ⟨arV, arW⟩ (fun hHeld => ?_);clear hK K;refine gW (a' := ?_) ?_ ?_;rotate_left
           ·show Act.put _ (some 114) _ = _;simp only [Act.put, List.setIfInBounds_toArray, List.set_cons_zero, List.set_cons_succ, bE, dS];rfl
           refine gV (i := 22) (N := some 115) amG rfl rfl (di ae.out aa) ai (fun K hK => ?_);refine Kd.Ty bD (w0 := W4) (W := WC) W4.heap.size bu (.tmp 112) (.tmp 114) 23 3 (.int .i64 0) 8 rfl fM nR rfl ai ai vu row t [.int .i64 (t : Int)] uB (fun _ => False) rfl rfl rfl (fun _ hk => hk.elim) Yp.out Yn.out HBC.out HBC.out.size (by have := Dz.out; omega) ?_;intro QB w9 ho hb hg hat;obtain ⟨A9, n9, c9, e9⟩ : ∃ A n c, QB = .slice A n c := (by obtain ⟨A, c, e⟩ := Kd.vX ho; exact ⟨A, _, c, e⟩);subst e9;have AO := Zd.mk ho;have fE := Zd.mk hb;have HG9 := Zd.mk hg;have arX := hg.cell k8 agz.out;have Mr := Zd.mk (Kd.aaS HH.out hg (fun k hk => Yo.out k hk));obtain ⟨Ms, Mt⟩ := Kd.aa8 Mr.out ag ag;have arY : w9.cell? ⟨ga, x, none⟩ = some vu := by have h_ := Ms 0 vu rfl; rwa [Int.toNat_natCast, show (x * (Kd.slice 3 bD).sz + 0) = x from Nat.mul_one x] at h_
           have awI : w9.frozen? ⟨ga, x, none⟩ = false := by have h_ := Mt 0; rwa [Int.toNat_natCast, show (x * (Kd.slice 3 bD).sz + 0) = x from Nat.mul_one x] at h_
           clear ho hb hg hat hHeld Ms Mt;refine hK.out _ _ ⟨arX, arY⟩ (fun hHeld => ?_);clear hK K;refine gW (a' := ?_) ?_ ?_;rotate_left
           ·show Act.put _ (some 115) _ = _;simp only [Act.put, List.setIfInBounds_toArray, List.set_cons_zero, List.set_cons_succ, bE, dS];rfl
           refine pz ae.out 23 (some 116) amH rfl rfl ?_;refine kV (i := 24) (N := none) amI rfl rfl (di ae.out aa) ai (fun K hK => ?_);refine iQ (w1 := w9.setCell ⟨ga, x, none⟩ (.slice A9 n9 c9)) bu rfl ?_ ?_
           ·(go_simp; try rfl)
           refine hK.out _ _ ?_;clear hK K;refine kD (kE ae.out aa) ?_;clear hHeld ae bA;obtain ⟨W8, rO⟩ : ∃ W : World, W = w9.setCell ⟨ga, x, none⟩ (.slice A9 n9 c9) := ⟨_, rfl⟩;rw [← rO];have vR := Zd.mk rO;clear rO k8 ku;go_wp2;go_roundg (gk - 1)
           case measure => have := HT.out; omega
           case rel =>
            refine ⟨t + 1, by have := HT.out; omega, by first | rfl | (congr 1; go_num; done), ⟨by rw [vR.out]; exact fE.out.setCell FU.out _⟩, ⟨?_⟩, ⟨?_⟩, ⟨?_⟩⟩
            ·rw [vR.out, Below.heap_setCell w9 ⟨ga, x, none⟩ _ g (fun e => AJ.out e.symm)];exact oM yg.out HG9.out agz.out
            ·have hS := (Kd.aa9 Mr.out ag ag (seg := [.slice A9 n9 c9]) (j := 0) (Nat.le_refl 1) (x' := row ++ [t]) (okp := uB) ⟨_, rfl, AO.out⟩ (fun k hk => hk)).1;rw [Int.toNat_natCast, show (x * (Kd.slice 3 bD).sz + 0) = x from Nat.mul_one x, agx.out o6] at hS;rw [vR.out];exact hS
            ·rw [vR.out];exact (Kept.Cz HG9.out agy.out (fun k hk => HOW.out k hk)).setCell (.inl rfl) _
          ·have e : t = sz := by have := HT.out; omega
           subst e;go_wp2;go_roundg (k1 - 1)
           case measure => have := HV.out; have := dR.out; omega
           case rel => exact ⟨v + 1, by have := HV.out; omega, by first | rfl | (congr 1; go_num; done), D8, Mo, ⟨by rw [← arL]; exact HS2.out⟩, Q6⟩
        ·have e : v = ls.length := by have := HV.out; omega
         subst e;go_wp2;go_ret2;have hw := uy.out.trans (Cm.out.mono uy.out.size);refine ⟨?_, hw⟩;rw [HE.out];unfold Ch;rw [if_pos rfl];refine ⟨g, rfl, ?_⟩;rw [Km.out];have hrd := Kd.pI (Kd.S_R o7.out);refine ⟨A0, A1, A2, A5, A7, some ⟨ga, 0, none⟩, c0, c1, c2, c5, c7, nn, ⟨?_, l0, ?_, ?_, l5, XO.out, ?_, Kd.aQ H0.out hw, ?_, ?_, Kd.aQ H5.out hw, HPC.out _ Yl.out, ?_⟩⟩
         ·rw [Yk.out];unfold Mc afb;simp only [List.length_map, DZ]
         ·rw [List.length_map]; exact l1
         ·rw [List.length_map]; exact l2
         ·rw [DZ]; exact Nat.le_refl _
         ·have := agk (Kd.aQ H1.out hw) (fun x hx => (DT.out.st x hx).1)
          rwa [List.length_map]
         ·have := arO (Kd.aQ H2.out hw) (fun l hl x hx => ((DT.out.nx l hl).2.2 x hx).1)
          rwa [List.length_map]
         ·exact hrd.2.2
  ·have HE := Zd.mk (show gF ls ss nxs s = mf from by rw [zw.out, if_pos e1, if_neg e2]);have AV : (mg != 0) = false := by rw [e1]; rfl
   have BQ : (mf != 0) = true := by simpa using e2
   go_enter Tryz.func19, Tryz.ntmps19;go_upto_region 1 with fail
   rw [← hW2, ← hgf, ← kP];clear hW2 hgf kP;go_wp2_with (first
    | (go_at_call 10; refine wM.out.mono ?_; rintro e w3 ⟨rfl, hB3⟩; have HB3 := Zd.mk hB3; have sV := Zd.mk ((hB3.block _ (aT jq.out)).trans jq.out); have y0 := (aj sV.out 0).trans rfl; have y1 := (aj sV.out 1).trans rfl; have y2 := (aj sV.out 2).trans rfl; clear hB3)
    | (go_at_call 37; refine (D5.out _ HB3.out).mono ?_; rintro e w4 ⟨rfl, hB4⟩; have bQ := Zd.mk (HB3.out.trans (hB4.mono HB3.out.size)); clear hB4))
   go_ret2;exact ⟨by rw [HE.out]; unfold Ch; rw [if_neg e2]; rfl, HB2.out.trans (bQ.out.mono HB2.out.size)⟩
 ·have HE := Zd.mk (show gF ls ss nxs s = mg from by rw [zw.out, if_neg e1]);have AV : (mg != 0) = true := by simpa using e1
  go_enter Tryz.func19, Tryz.ntmps19;go_upto_region 1 with fail
  rw [← hW2, ← hgf, ← kP];clear hW2 hgf kP;go_wp2_with (go_at_call 10; refine wM.out.mono ?_; rintro e w3 ⟨rfl, hB3⟩; have HB3 := Zd.mk hB3; clear hB3);go_ret2;exact ⟨by rw [HE.out]; unfold Ch; rw [if_neg e1]; rfl, HB2.out.trans (HB3.out.mono HB2.out.size)⟩
end Go.Proofs.YtapejnikpmfddaaGreat.X
