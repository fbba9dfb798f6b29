/- A part of the claim SearchForms. -/
import Derived.Test.YtapejnikpmfddaaGreatQSearchFormsf
set_option linter.unusedVariables false
set_option linter.unusedSimpArgs false
set_option maxHeartbeats 8000000
set_option maxRecDepth 100000
namespace Go.Proofs.YtapejnikpmfddaaGreat.X
open Go.RowKit Go.Proofs.aI.bM Go.Proofs.aI.dG Go.Proofs.aI.dM
open Go.Proofs.YtapejnikpmfddaaGreat.P Go.Proofs.YtapejnikpmfddaaGreat.gY
def gu.T4 : Bool × List (List Nat × List Nat) := (true, [([], []), ([], []), ([], []), ([2], [2]), ([3], [3]), ([4], [4]), ([], []), ([5, 6], [5, 6]), ([], []), ([8], [8]), ([9], [9]), ([10], [10]), ([], []), ([11, 12, 7], [11, 12]), ([0, 0, 2, 3, 4, 5, 6, 7, 11, 13], [0]), ([14, 0, 2, 3, 4, 5, 6, 7, 11, 13], [14]), ([15, 7, 13, 0, 2, 3, 4, 5, 6, 7, 11, 13], [7, 15]), ([1, 0, 1, 2, 3, 4, 5, 6, 7, 8, 9, 10, 11, 12, 13, 14, 15, 16], [1]), ([17, 0, 1, 2, 3, 4, 5, 6, 7, 8, 9, 10, 11, 12, 13, 14, 15, 16], [17]), ([18, 13, 16, 0, 1, 2, 3, 4, 5, 6, 7, 8, 9, 10, 11, 12, 13, 14, 15, 16], [13, 18])])
def gu.B4 : List Nat := [0, 0, 0, 4, 12, 28, 0, 124, 0, 256, 768, 1792, 0, 8188, 16381, 32765, 65533, 131071, 262143, 524287]
theorem gu.aoP : dh .any (opsOf Tryz.f100 4) = gu.T4 := by kernel_rfl
theorem gu.aoQ : ik gu.T4.2 gu.B4 = true := by kernel_rfl
def gu.Kz : Bool × List (List Nat × List Nat) := (true, [([], []), ([0], [0]), ([1], [1]), ([2], [2]), ([], []), ([], []), ([5], [5]), ([6], [6]), ([7], [7]), ([], []), ([], []), ([3, 4, 0, 1, 2, 3, 4, 8, 10], [3, 4]), ([11, 10, 0, 1, 2, 3, 4, 8, 10], [10, 11]), ([8, 9, 0, 1, 2, 3, 4, 5, 6, 7, 8, 9, 10, 11, 12], [8, 9]), ([13, 12, 0, 1, 2, 3, 4, 5, 6, 7, 8, 9, 10, 11, 12], [13])])
def gu.U4 : List Nat := [0, 1, 3, 7, 0, 0, 32, 96, 224, 0, 0, 1535, 3583, 8191, 16383]
theorem gu.U5 : dh .any (opsOf Tryz.f100 25) = gu.Kz := by kernel_rfl
theorem gu.U6 : ik gu.Kz.2 gu.U4 = true := by kernel_rfl
def gu.T29 : Bool × List (List Nat × List Nat) := (true, [([], []), ([0], [0]), ([1], [1]), ([2], [2]), ([], []), ([], []), ([5], [5]), ([6], [6]), ([7], [7]), ([], []), ([], []), ([], []), ([11], [11]), ([12], [12]), ([13], [13]), ([13, 14], [13, 14]), ([3, 4, 0, 1, 2, 3, 4, 8, 10], [3, 4]), ([16, 10, 13, 0, 1, 2, 3, 4, 8, 10], [10, 16]), ([8, 9, 0, 1, 2, 3, 4, 5, 6, 7, 8, 9, 10, 11, 12, 13, 14, 15, 16, 17], [8, 9]), ([18, 15, 17, 0, 1, 2, 3, 4, 5, 6, 7, 8, 9, 10, 11, 12, 13, 14, 15, 16, 17], [15, 18])])
def gu.B29 : List Nat := [0, 1, 3, 7, 0, 0, 32, 96, 224, 0, 0, 0, 2048, 6144, 14336, 30720, 1535, 81407, 262143, 524287]
theorem gu.adO : dh .any (opsOf Tryz.f100 29) = gu.T29 := by kernel_rfl
theorem gu.adP : ik gu.T29.2 gu.B29 = true := by kernel_rfl
def gu.T33 : Bool × List (List Nat × List Nat) := (true, [([], []), ([0], [0]), ([1], [1]), ([2], [2]), ([], []), ([], []), ([5], [5]), ([6], [6]), ([7], [7]), ([], []), ([], []), ([], []), ([11], [11]), ([12], [12]), ([13, 12], [12, 13]), ([12, 14], [12, 14]), ([3, 4, 0, 1, 2, 3, 4, 8, 10], [3, 4]), ([16, 10, 12, 0, 1, 2, 3, 4, 8, 10], [10, 16]), ([8, 9, 0, 1, 2, 3, 4, 5, 6, 7, 8, 9, 10, 11, 12, 13, 14, 15, 16, 17], [8, 9]), ([18, 15, 17, 0, 1, 2, 3, 4, 5, 6, 7, 8, 9, 10, 11, 12, 13, 14, 15, 16, 17], [15, 18])])
def gu.B33 : List Nat := [0, 1, 3, 7, 0, 0, 32, 96, 224, 0, 0, 0, 2048, 6144, 14336, 30720, 1535, 73215, 262143, 524287]
theorem gu.adQ : dh .any (opsOf Tryz.f100 33) = gu.T33 := by kernel_rfl
theorem gu.adR : ik gu.T33.2 gu.B33 = true := by kernel_rfl
def PI (w0 : World) (s : ak) : Prop := ∀ (rb : Nat) (sv lt : Int) (said good : List Bool) (vs vg : Value) (A : Option Addr) (cp : Nat) (w : World), jC w0 w rb sv lt said good vs vg → said.length = good.length → said.length + az s ≤ 60 → Kd.C bK w0 A s.f2.length s.f2 → s.f2.length ≤ cp → cO s = true →
  Calls Tryz.prog 100 #[.pointer (some ⟨rb, 0, none⟩), .agg #[.int .i64 s.f0, .int .i64 s.f1, .slice A s.f2.length cp]] w fun e w' => e = .returned (.bool (dZ sv lt s said.length)) ∧ ∃ v1 v2, jC w0 w' rb sv lt (said ++ kH sv lt s said.length) (good ++ jW sv lt s said.length) v1 v2 ∧ Fr w rb vs vg w' v1 v2
theorem adS : (Tryz.prog.info? 4).map (fun i => (i.zero, i.size, i.bytes)) = some (some (.bool false), 1, 1) := by kernel_rfl
theorem adT : ∃ i, Tryz.prog.info? 4 = some i ∧ i.zero = some (.bool false) ∧ i.size = 1 ∧ i.bytes = 1 := by
 obtain ⟨i, hi, hz⟩ := Option.map_eq_some_iff.1 adS;simp only [Prod.mk.injEq] at hz;exact ⟨i, hi, hz⟩
theorem aoR (w0 : World) (s : ak) (ih : ∀ k ∈ s.f2, PI w0 k) : PI w0 s := by
 intro rb sv lt said good vs vg A cp w hR hlg hbd hk hc hs;have jm := Tryz.underlying29;have uO := Tryz.underlying27;have hur := Tryz.underlying135;have jf := Tryz.underlying57;obtain ⟨W1, hW1⟩ : ∃ W1, W1 = w.alloc (.cells #[.int .i64 s.f0, .int .i64 s.f1, .slice A s.f2.length cp] 29) := ⟨_, rfl⟩;have nO : jC w0 W1 rb sv lt said good vs vg := by rw [hW1]; exact hR.alloc _
 have hF1 : Fr w rb vs vg W1 vs vg := by rw [hW1]; exact (Fr.refl _ _ _ _).alloc _
 have hbx : W1.heap[w.heap.size]? = some (.cells #[.int .i64 s.f0, .int .i64 s.f1, .slice A s.f2.length cp] 29 (0, 0)) := by rw [hW1]; exact heap_alloc_new w _
 have hb1 : some w.heap.size ≠ vs.ownBlock := fun e => Nat.lt_irrefl _ (iD hR.o1 _ e.symm);have hb2 : some w.heap.size ≠ vg.ownBlock := fun e => Nat.lt_irrefl _ (iD hR.o2 _ e.symm);have hb3 : w.heap.size ≠ rb := fun e => Nat.lt_irrefl _ (e ▸ aT hR.blk);have adU := Zd.mk (fun (w1 : World) (v1 v2 : Value) (h : Fr W1 rb vs vg w1 v1 v2) => h.box nO hbx hb1 hb2 hb3);have HR1 := Zd.mk nO;have xK := Zd.mk hF1;have HK := Zd.mk hk;have HS := Zd.mk hs;have wy := Zd.mk ih;have KA := Zd.mk hlg;have jJ := Zd.mk hbd;have HW1 := Zd.mk hW1;have lg := C8 hs;have hk2 := (Kj s.f0).2;have hl2 : s.f2.length ≤ 2 := by omega
 have E5 := Zd.mk (Pn lg.1);have lT := Zd.mk lg.2.2;have x0 : W1.cell? ⟨w.heap.size, 0, none⟩ = some (.int .i64 s.f0) := (aj hbx 0).trans rfl;have y2 := PE nO.blk;obtain ⟨A1, c1, hvs, hc1⟩ := xJ hR.o1;obtain ⟨A2, c2, Bu, hc2⟩ := xJ hR.o2;subst hvs Bu;have U7 := Zd.mk (And.intro (Ig sv lt s said.length) (And.intro (Pj sv lt s said.length) (Pk sv lt s said.length)));have rF := Zd.mk (ER s);clear hR hk hs ih hlg hbd nO hF1 lg hk2;go_enter Tryz.func100, Tryz.ntmps100;go_upto_region 1 with fail
 rw [← hW1];clear hW1;go_cut [5] (fun v5 wx => ∃ tm : Bool, v5 = .bool tm ∧ Zd (dB s.f0 = tm) ∧ wx = W1)
 case first =>
  by_cases h6 : 6 ≤ s.f0
  ·by_cases h8 : s.f0 ≤ 8
   ·have HT := Zd.mk (show dB s.f0 = true from by unfold dB; rw [decide_eq_true h6, decide_eq_true h8]; rfl);go_wp2;go_meet;exact ⟨_, rfl, HT, rfl⟩
   ·have HT := Zd.mk (show dB s.f0 = false from by unfold dB; rw [decide_eq_false h8]; simp);go_wp2;go_meet;exact ⟨_, rfl, HT, rfl⟩
  ·have HT := Zd.mk (show dB s.f0 = false from by unfold dB; rw [decide_eq_false h6]; simp);go_wp2;go_meet;exact ⟨_, rfl, HT, rfl⟩
 case rest =>
  obtain ⟨tm, rfl, HT, hwc⟩ := hcut;rw [hwc];clear hwc wc
  go_upto_if 28 with fail
  go_cut [] (fun wx => ∃ v1 v2, Zd (jC w0 wx rb sv lt (said ++ bX s.f0 false) (good ++ bX s.f0 false) v1 v2) ∧ Zd (Fr W1 rb (.slice A1 said.length c1) (.slice A2 good.length c2) wx v1 v2))
  case first =>
   cases tm with
   | false =>
    have HE := Zd.mk (show bX s.f0 false = [] from by unfold bX; rw [HT.out]; rfl);go_wp2;go_meet;exact ⟨_, _, ⟨by rw [HE.out, List.append_nil, List.append_nil]; exact HR1.out⟩, ⟨Fr.refl _ _ _ _⟩⟩
   | true =>
    have HE := Zd.mk (show bX s.f0 false = [false] from by unfold bX; rw [HT.out]; rfl);have Il := Zd.mk jf;obtain ⟨iB, KC⟩ := adT;have om := Zd.mk KC;have GS := Zd.mk (show W1.heap.size ≤ W1.drew.heap.size from Nat.le_refl _);have T0 := Zd.mk HR1.out.two.drew;have K0 := Zd.mk (show qQ W1.drew rb sv lt (.slice A1 said.length c1) (.slice A2 good.length c2) from HR1.out.blk);have oQ := Zd.mk HR1.out.bl.size;have hb := jJ.out;have hg := KA.out;have ave := jJ;replace jJ := Zd.mk (show (said.length + 1 ≤ maxLen ∧ (said.length + 1) * 1 ≤ 140737488355328) ∧ (good.length + 1 ≤ maxLen ∧ (good.length + 1) * 1 ≤ 140737488355328) from by unfold maxLen; omega);clear KC hb hg;go_upto_region 4 with fail
    refine iP (n := 20) (S := fun w' => True) (ds := []) Hm aa rfl rfl trivial (fun hHeld => ?_);refine iR gu.aoP gu.aoQ (fun ae bA => ?_);refine pz ae.out 0 (some 29) Ho rfl rfl ?_;refine pz ae.out 1 (some 30) JY rfl rfl ?_;refine pz ae.out 2 (some 31) JZ rfl rfl ?_;refine pz ae.out 3 (some 32) akq rfl rfl ?_;refine pz ae.out 4 (some 33) akr rfl rfl ?_;refine pz ae.out 8 (some 37) aks rfl rfl ?_;refine pz ae.out 9 (some 38) akt rfl rfl ?_;refine pz ae.out 10 (some 39) aku rfl rfl ?_;refine JX [5, 6, 7, 11, 12, 13, 14, 15, 16, 17, 18, 19] (fun Bv b a w' => ∃ (dz : Nat) (dA : Nat) (v1 : Value) (v2 : Value) (dV : Value) (jY : Value), a = ig Bv b [(5, 34, .slice A1 said.length c1), (6, 35, dV), (7, 36, v1), (11, 40, .slice A2 good.length c2), (12, 41, jY), (13, 42, v2), (14, 43, .pointer (some ⟨rb, 0, none⟩)), (15, 44, .pointer (some ⟨rb, 2, none⟩)), (17, 45, .pointer (some ⟨rb, 0, none⟩)), (18, 46, .pointer (some ⟨rb, 3, none⟩))] ∧ (W1.heap.size ≤ w'.heap.size) ∧ (b 7 = false → Two w0 W1 rb (.slice A1 said.length c1) (.slice A2 good.length c2) w' (.slice A1 said.length c1) said (.slice A2 good.length c2) good) ∧ (b 7 = true → b 13 = false → Two w0 W1 rb (.slice A1 said.length c1) (.slice A2 good.length c2) w' v1 (said ++ [false]) (.slice A2 good.length c2) good) ∧ (b 13 = true → Two w0 W1 rb (.slice A1 said.length c1) (.slice A2 good.length c2) w' v1 (said ++ [false]) v2 (good ++ [false])) ∧ (b 6 = true → b 7 = false → BK W1 w' dz) ∧ (b 12 = true → b 13 = false → BK W1 w' dA) ∧ (b 16 = false → qQ w' rb sv lt (.slice A1 said.length c1) (.slice A2 good.length c2)) ∧ (b 16 = true → b 19 = false → qQ w' rb sv lt v1 (.slice A2 good.length c2)) ∧ (b 19 = true → qQ w' rb sv lt v1 v2) ∧ (b 6 = true → (dV : Value) = .slice (some ⟨dz, 0, none⟩) 1 1) ∧ (b 12 = true → (jY : Value) = .slice (some ⟨dA, 0, none⟩) 1 1)) ae.out bA.out aa aa ?_ ?_ ?_
    ·exact ⟨0, 0, .bool false, .bool false, .bool false, .bool false, by simp only [ig, Bool.false_eq_true, if_false], GS.out, fun _ => T0.out, fun h_ => absurd h_ ai, fun h_ => absurd h_ ai, fun h_ => absurd h_ ai, fun h_ => absurd h_ ai, fun _ => K0.out, fun h_ => absurd h_ ai, fun h_ => absurd h_ ai, fun h_ => absurd h_ ai, fun h_ => absurd h_ ai⟩
    ·skip
     clear GS K0 T0;refine dm ?_ ?_
     ·rintro b a w' ⟨dz, dA, v1, v2, dV, jY, ha, bZ, fF, gB, fD, fH, fe, dF, gJ, iq, fq, lU⟩ bq hon hoff;refine ⟨_, rfl, fun K hK => ?_⟩;have e33 : a.tmps[33]? = some (.pointer (some ⟨rb, 2, none⟩)) := by rw [ha]; exact (kF rfl).trans rfl
      replace ha := Zd.mk ha;have GS := Zd.mk bZ;have T0 := Zd.mk (fF (hoff 7 aa));have K0 := Zd.mk (dF (hoff 16 aa));have hk := PE K0.out;refine dQ (w1 := w') (v := .slice A1 said.length c1) bu rfl ?_ ?_
      ·go_simp
       (try simp only [bE])
       try rfl
      refine hK.out _ _ ⟨dz, dA, v1, v2, dV, jY, (by rw [ha.out]; exact dH 0 bq rfl rfl rfl), bZ, fF, fun ah _ => aA (hoff 7 aa) ah, fun ah => aA (hoff 13 aa) ah, fH, fe, dF, fun ah _ => aA (hoff 16 aa) ah, fun ah => aA (hoff 19 aa) ah, fq, lU⟩
     refine dm ?_ ?_
     ·rintro b a w' ⟨dz, dA, v1, v2, dV, jY, ha, bZ, fF, gB, fD, fH, fe, dF, gJ, iq, fq, lU⟩ bq hon hoff;refine ⟨_, rfl, fun K hK => ?_⟩;replace ha := Zd.mk ha;have GS := Zd.mk bZ;have T0 := Zd.mk (fF (hoff 7 aa));have K0 := Zd.mk (dF (hoff 16 aa));refine dQ (w1 := w'.alloc (.cells #[.bool false] 4)) (v := .slice (some ⟨w'.heap.size, 0, none⟩) 1 1) bu rfl ?_ ?_
      ·go_simp
      refine hK.out _ _ ⟨w'.heap.size, dA, v1, v2, (.slice (some ⟨w'.heap.size, 0, none⟩) 1 1), jY, (by rw [ha.out]; exact dH 1 bq rfl rfl rfl), Ku GS.out _, fun _ => T0.out.alloc _, fun ah _ => aA (hoff 7 aa) ah, fun ah => aA (hoff 13 aa) ah, fun _ _ => ⟨GS.out, heap_alloc_new w' _⟩, fun ah aD => ⟨(fe ah aD).1, bf (fe ah aD).2 _⟩, fun _ => bf K0.out _, fun ah _ => aA (hoff 16 aa) ah, fun ah => aA (hoff 19 aa) ah, fun _ => rfl, lU⟩
     refine dm ?_ ?_
     ·rintro b a w' ⟨dz, dA, v1, v2, dV, jY, ha, bZ, fF, gB, fD, fH, fe, dF, gJ, iq, fq, lU⟩ bq hon hoff;refine ⟨_, rfl, fun K hK => ?_⟩;have e34 : a.tmps[34]? = some (.slice A1 said.length c1) := by rw [ha]; exact dL (e := (5, 34, .slice A1 said.length c1)) 0 rfl rfl (hon 5 aa) rfl
      have e35 : a.tmps[35]? = some (dV) := by rw [ha]; exact dL (e := (6, 35, dV)) 1 rfl rfl (hon 6 aa) rfl
      rw [fq (hon 6 aa)] at e35;replace ha := Zd.mk ha;have GS := Zd.mk bZ;have T0 := Zd.mk (fF bq);have B1 := Zd.mk (fH (hon 6 aa) bq);have K0 := Zd.mk (dF (hoff 16 aa));refine step_append_lies _ rfl (.tmp 34) (.tmp 35) 57 bu w0.heap.size 4 iB (.bool false) 1 1 Il.out om.out.1 om.out.2.1 om.out.2.2.1 om.out.2.2.2 rfl ai (.slice A1 said.length c1) _ _ (zS e34) T0.out.o1 ⟨dz, 0, none⟩ 1 1 [.bool false] (zS e35) rfl (World.news_of_block B1.out.2) (by intro u hu; rw [List.mem_singleton.1 hu]; rfl) ai jJ.out.1.1 jJ.out.1.2 (Nat.le_trans oQ.out GS.out) w'.heap.size rfl ?_;intro g cap w1 hown hgrow hat hlt;refine hK.out _ _ ⟨dz, dA, (.slice (some ⟨g, 0, none⟩) (said.length + 1) cap), v2, dV, jY, (by rw [ha.out]; exact dH 2 bq rfl rfl rfl), Nat.le_trans GS.out hgrow.size, fun ah => absurd ((oN b 7).symm.trans ah) ai, fun _ _ => T0.out.app1 hown hgrow hat, fun ah => aA (hoff 13 aa) ah, fun _ aD => absurd ((oN b 7).symm.trans aD) ai, fun ah aD => T0.out.aoM (fe ah aD) hgrow, fun _ => T0.out.aoN K0.out hgrow, fun ah _ => aA (hoff 16 aa) ah, fun ah => aA (hoff 19 aa) ah, fq, lU⟩
     refine dm ?_ ?_
     ·rintro b a w' ⟨dz, dA, v1, v2, dV, jY, ha, bZ, fF, gB, fD, fH, fe, dF, gJ, iq, fq, lU⟩ bq hon hoff;refine ⟨_, rfl, fun K hK => ?_⟩;have e39 : a.tmps[39]? = some (.pointer (some ⟨rb, 3, none⟩)) := by rw [ha]; exact (kF rfl).trans rfl
      replace ha := Zd.mk ha;have GS := Zd.mk bZ;have K0 := Zd.mk (dF (hoff 16 aa));have hk := PG K0.out;refine dQ (w1 := w') (v := .slice A2 good.length c2) bu rfl ?_ ?_
      ·go_simp
       (try simp only [bE])
       try rfl
      refine hK.out _ _ ⟨dz, dA, v1, v2, dV, jY, (by rw [ha.out]; exact dH 3 bq rfl rfl rfl), bZ, fF, gB, fun ah => aA (hoff 13 aa) ah, fH, fe, dF, fun ah _ => aA (hoff 16 aa) ah, fun ah => aA (hoff 19 aa) ah, fq, lU⟩
     refine dm ?_ ?_
     ·rintro b a w' ⟨dz, dA, v1, v2, dV, jY, ha, bZ, fF, gB, fD, fH, fe, dF, gJ, iq, fq, lU⟩ bq hon hoff;refine ⟨_, rfl, fun K hK => ?_⟩;replace ha := Zd.mk ha;have GS := Zd.mk bZ;have K0 := Zd.mk (dF (hoff 16 aa));refine dQ (w1 := w'.alloc (.cells #[.bool false] 4)) (v := .slice (some ⟨w'.heap.size, 0, none⟩) 1 1) bu rfl ?_ ?_
      ·go_simp
      refine hK.out _ _ ⟨dz, w'.heap.size, v1, v2, dV, (.slice (some ⟨w'.heap.size, 0, none⟩) 1 1), (by rw [ha.out]; exact dH 4 bq rfl rfl rfl), Ku GS.out _, fun ah => (fF ah).alloc _, fun ah aD => (gB ah aD).alloc _, fun ah => aA (hoff 13 aa) ah, fun ah aD => ⟨(fH ah aD).1, bf (fH ah aD).2 _⟩, fun _ _ => ⟨GS.out, heap_alloc_new w' _⟩, fun _ => bf K0.out _, fun ah _ => aA (hoff 16 aa) ah, fun ah => aA (hoff 19 aa) ah, fq, fun _ => rfl⟩
     refine dm ?_ ?_
     ·rintro b a w' ⟨dz, dA, v1, v2, dV, jY, ha, bZ, fF, gB, fD, fH, fe, dF, gJ, iq, fq, lU⟩ bq hon hoff;refine ⟨_, rfl, fun K hK => ?_⟩;have e40 : a.tmps[40]? = some (.slice A2 good.length c2) := by rw [ha]; exact dL (e := (11, 40, .slice A2 good.length c2)) 3 rfl rfl (hon 11 aa) rfl
      have e41 : a.tmps[41]? = some (jY) := by rw [ha]; exact dL (e := (12, 41, jY)) 4 rfl rfl (hon 12 aa) rfl
      rw [lU (hon 12 aa)] at e41;replace ha := Zd.mk ha;have GS := Zd.mk bZ;have T1 := Zd.mk (gB (hon 7 aa) bq);have B2 := Zd.mk (fe (hon 12 aa) bq);have K0 := Zd.mk (dF (hoff 16 aa));refine step_append_lies _ rfl (.tmp 40) (.tmp 41) 57 bu w0.heap.size 4 iB (.bool false) 1 1 Il.out om.out.1 om.out.2.1 om.out.2.2.1 om.out.2.2.2 rfl ai (.slice A2 good.length c2) _ _ (zS e40) T1.out.o2 ⟨dA, 0, none⟩ 1 1 [.bool false] (zS e41) rfl (World.news_of_block B2.out.2) (by intro u hu; rw [List.mem_singleton.1 hu]; rfl) ai jJ.out.2.1 jJ.out.2.2 (Nat.le_trans oQ.out GS.out) w'.heap.size rfl ?_;intro g cap w1 hown hgrow hat hlt;refine hK.out _ _ ⟨dz, dA, v1, (.slice (some ⟨g, 0, none⟩) (good.length + 1) cap), dV, jY, (by rw [ha.out]; exact dH 5 bq rfl rfl rfl), Nat.le_trans GS.out hgrow.size, fun ah => absurd ((hon 7 aa).symm.trans ah) ai, fun _ aD => absurd ((oN b 13).symm.trans aD) ai, fun _ => T1.out.aoL hown hgrow hat, fun _ aD => absurd ((hon 7 aa).symm.trans aD) ai, fun _ aD => absurd ((oN b 13).symm.trans aD) ai, fun _ => T1.out.aoO K0.out hgrow, fun ah _ => aA (hoff 16 aa) ah, fun ah => aA (hoff 19 aa) ah, fq, lU⟩
     refine dm ?_ ?_
     ·rintro b a w' ⟨dz, dA, v1, v2, dV, jY, ha, bZ, fF, gB, fD, fH, fe, dF, gJ, iq, fq, lU⟩ bq hon hoff;refine ⟨_, rfl, fun K hK => ?_⟩;have e29 : a.tmps[29]? = some (.pointer (some ⟨rb, 0, none⟩)) := by rw [ha]; exact (kF rfl).trans rfl
      replace ha := Zd.mk ha;have GS := Zd.mk bZ;have T2 := Zd.mk (fD (hon 13 aa));have K0 := Zd.mk (dF (hoff 16 aa));refine dQ (w1 := w') (v := .pointer (some ⟨rb, 0, none⟩)) bu rfl ?_ ?_
      ·go_simp
       (try simp only [bE])
       try rfl
      refine hK.out _ _ ⟨dz, dA, v1, v2, dV, jY, (by rw [ha.out]; exact dH 6 bq rfl rfl rfl), bZ, fun ah => absurd ((hon 7 aa).symm.trans ah) ai, fun _ aD => absurd ((hon 13 aa).symm.trans aD) ai, fD, fun _ aD => absurd ((hon 7 aa).symm.trans aD) ai, fun _ aD => absurd ((hon 13 aa).symm.trans aD) ai, dF, fun ah _ => aA (hoff 16 aa) ah, fun ah => aA (hoff 19 aa) ah, fq, lU⟩
     refine dm ?_ ?_
     ·rintro b a w' ⟨dz, dA, v1, v2, dV, jY, ha, bZ, fF, gB, fD, fH, fe, dF, gJ, iq, fq, lU⟩ bq hon hoff;refine ⟨_, rfl, fun K hK => ?_⟩;have e43 : a.tmps[43]? = some (.pointer (some ⟨rb, 0, none⟩)) := by rw [ha]; exact dL (e := (14, 43, .pointer (some ⟨rb, 0, none⟩))) 6 rfl rfl (hon 14 aa) rfl
      replace ha := Zd.mk ha;have GS := Zd.mk bZ;have T2 := Zd.mk (fD (hon 13 aa));have K0 := Zd.mk (dF (hoff 16 aa));refine dQ (w1 := w') (v := .pointer (some ⟨rb, 2, none⟩)) bu rfl ?_ ?_
      ·go_simp
       (try simp only [bE])
       try rfl
      refine hK.out _ _ ⟨dz, dA, v1, v2, dV, jY, (by rw [ha.out]; exact dH 7 bq rfl rfl rfl), bZ, fun ah => absurd ((hon 7 aa).symm.trans ah) ai, fun _ aD => absurd ((hon 13 aa).symm.trans aD) ai, fD, fun _ aD => absurd ((hon 7 aa).symm.trans aD) ai, fun _ aD => absurd ((hon 13 aa).symm.trans aD) ai, dF, fun ah _ => aA (hoff 16 aa) ah, fun ah => aA (hoff 19 aa) ah, fq, lU⟩
     refine dm ?_ ?_
     ·rintro b a w' ⟨dz, dA, v1, v2, dV, jY, ha, bZ, fF, gB, fD, fH, fe, dF, gJ, iq, fq, lU⟩ bq hon hoff;refine ⟨_, rfl, fun K hK => ?_⟩;have e44 : a.tmps[44]? = some (.pointer (some ⟨rb, 2, none⟩)) := by rw [ha]; exact dL (e := (15, 44, .pointer (some ⟨rb, 2, none⟩))) 7 rfl rfl (hon 15 aa) rfl
      have e36 : a.tmps[36]? = some (v1) := by rw [ha]; exact dL (e := (7, 36, v1)) 2 rfl rfl (hon 7 aa) rfl
      replace ha := Zd.mk ha;have GS := Zd.mk bZ;have T2 := Zd.mk (fD (hon 13 aa));have K0 := Zd.mk (dF bq);obtain ⟨A_, c_, rfl, _⟩ := xJ T2.out.o1;have hc := PE K0.out;have hf := aN K0.out 2;refine iQ (w1 := w'.setCell ⟨rb, 2, none⟩ (.slice A_ (said ++ [false]).length c_)) bu rfl ?_ ?_
      ·go_simp
      refine hK.out _ _ ⟨dz, dA, (.slice A_ (said ++ [false]).length c_), v2, dV, jY, (by rw [ha.out]; exact Hl (v := undef) rfl), Kv GS.out _ _, fun ah => absurd ((hon 7 aa).symm.trans ah) ai, fun _ aD => absurd ((hon 13 aa).symm.trans aD) ai, fun _ => T2.out.Bt _ _, fun _ aD => absurd ((hon 7 aa).symm.trans aD) ai, fun _ aD => absurd ((hon 13 aa).symm.trans aD) ai, fun ah => absurd ((oN b 16).symm.trans ah) ai, fun _ _ => aoJ K0.out _, fun ah => aA (hoff 19 aa) ah, fq, lU⟩
     refine dm ?_ ?_
     ·rintro b a w' ⟨dz, dA, v1, v2, dV, jY, ha, bZ, fF, gB, fD, fH, fe, dF, gJ, iq, fq, lU⟩ bq hon hoff;refine ⟨_, rfl, fun K hK => ?_⟩;have e30 : a.tmps[30]? = some (.pointer (some ⟨rb, 0, none⟩)) := by rw [ha]; exact (kF rfl).trans rfl
      replace ha := Zd.mk ha;have GS := Zd.mk bZ;have T2 := Zd.mk (fD (hon 13 aa));have K1 := Zd.mk (gJ (hon 16 aa) (hoff 19 aa));refine dQ (w1 := w') (v := .pointer (some ⟨rb, 0, none⟩)) bu rfl ?_ ?_
      ·go_simp
       (try simp only [bE])
       try rfl
      refine hK.out _ _ ⟨dz, dA, v1, v2, dV, jY, (by rw [ha.out]; exact dH 8 bq rfl rfl rfl), bZ, fun ah => absurd ((hon 7 aa).symm.trans ah) ai, fun _ aD => absurd ((hon 13 aa).symm.trans aD) ai, fD, fun _ aD => absurd ((hon 7 aa).symm.trans aD) ai, fun _ aD => absurd ((hon 13 aa).symm.trans aD) ai, fun ah => absurd ((hon 16 aa).symm.trans ah) ai, gJ, fun ah => aA (hoff 19 aa) ah, fq, lU⟩
     refine dm ?_ ?_
     ·rintro b a w' ⟨dz, dA, v1, v2, dV, jY, ha, bZ, fF, gB, fD, fH, fe, dF, gJ, iq, fq, lU⟩ bq hon hoff;refine ⟨_, rfl, fun K hK => ?_⟩;have e45 : a.tmps[45]? = some (.pointer (some ⟨rb, 0, none⟩)) := by rw [ha]; exact dL (e := (17, 45, .pointer (some ⟨rb, 0, none⟩))) 8 rfl rfl (hon 17 aa) rfl
      replace ha := Zd.mk ha;have GS := Zd.mk bZ;have T2 := Zd.mk (fD (hon 13 aa));have K1 := Zd.mk (gJ (hon 16 aa) (hoff 19 aa));refine dQ (w1 := w') (v := .pointer (some ⟨rb, 3, none⟩)) bu rfl ?_ ?_
      ·go_simp
       (try simp only [bE])
       try rfl
      refine hK.out _ _ ⟨dz, dA, v1, v2, dV, jY, (by rw [ha.out]; exact dH 9 bq rfl rfl rfl), bZ, fun ah => absurd ((hon 7 aa).symm.trans ah) ai, fun _ aD => absurd ((hon 13 aa).symm.trans aD) ai, fD, fun _ aD => absurd ((hon 7 aa).symm.trans aD) ai, fun _ aD => absurd ((hon 13 aa).symm.trans aD) ai, fun ah => absurd ((hon 16 aa).symm.trans ah) ai, gJ, fun ah => aA (hoff 19 aa) ah, fq, lU⟩
     refine dm ?_ ?_
     ·rintro b a w' ⟨dz, dA, v1, v2, dV, jY, ha, bZ, fF, gB, fD, fH, fe, dF, gJ, iq, fq, lU⟩ bq hon hoff;refine ⟨_, rfl, fun K hK => ?_⟩;have e46 : a.tmps[46]? = some (.pointer (some ⟨rb, 3, none⟩)) := by rw [ha]; exact dL (e := (18, 46, .pointer (some ⟨rb, 3, none⟩))) 9 rfl rfl (hon 18 aa) rfl
      have e42 : a.tmps[42]? = some (v2) := by rw [ha]; exact dL (e := (13, 42, v2)) 5 rfl rfl (hon 13 aa) rfl
      replace ha := Zd.mk ha;have GS := Zd.mk bZ;have T2 := Zd.mk (fD (hon 13 aa));have K1 := Zd.mk (gJ (hon 16 aa) bq);obtain ⟨A_, c_, rfl, _⟩ := xJ T2.out.o2;have hc := PG K1.out;have hf := aN K1.out 3;refine iQ (w1 := w'.setCell ⟨rb, 3, none⟩ (.slice A_ (good ++ [false]).length c_)) bu rfl ?_ ?_
      ·go_simp
      refine hK.out _ _ ⟨dz, dA, v1, (.slice A_ (good ++ [false]).length c_), dV, jY, (by rw [ha.out]; exact Hl (v := undef) rfl), Kv GS.out _ _, fun ah => absurd ((hon 7 aa).symm.trans ah) ai, fun _ aD => absurd ((hon 13 aa).symm.trans aD) ai, fun _ => T2.out.Bt _ _, fun _ aD => absurd ((hon 7 aa).symm.trans aD) ai, fun _ aD => absurd ((hon 13 aa).symm.trans aD) ai, fun ah => absurd ((hon 16 aa).symm.trans ah) ai, fun _ aD => absurd ((oN b 19).symm.trans aD) ai, fun _ => aoK K1.out _, fq, lU⟩
     exact JW
    ·rintro b a w' hall ⟨dz, dA, v1, v2, dV, jY, ha, bZ, fF, gB, fD, fH, fe, dF, gJ, iq, fq, lU⟩;clear GS K0 T0;have yS := hall 5 aa;have oW := hall 6 aa;have sH := hall 7 aa;have uW := hall 11 aa;have yT := hall 12 aa;have Im := hall 13 aa;have KD := hall 14 aa;have KE := hall 15 aa;have KF := hall 16 aa;have KG := hall 17 aa;have Io := hall 18 aa;have U8 := hall 19 aa;subst ha;obtain rfl := fq oW;obtain rfl := lU yT;simp only [ig, yS, oW, sH, uW, yT, Im, KD, KE, KF, KG, Io, U8, if_true, Act.put, List.setIfInBounds_toArray, List.set_cons_zero, List.set_cons_succ];have GS := Zd.mk bZ;clear bZ;clear fF;clear gB;have T2 := Zd.mk (fD Im);clear fD;clear fH;clear fe;clear dF;clear gJ;have K2 := Zd.mk (iq U8);clear iq;clear hall yS oW sH uW yT Im KD KE KF KG Io U8;go_wp2_with fail;go_meet;have hfin := T2.out.rdr K2.out;exact ⟨v1, v2, ⟨by rw [HE.out]; exact hfin.1⟩, ⟨hfin.2⟩⟩
  case rest =>
   obtain ⟨y1, y2v, HRb, HFb⟩ := hcut;have yU := adU.out _ _ _ HFb.out;have z2 : wc.cell? ⟨w.heap.size, 2, none⟩ = some (.slice A s.f2.length cp) := (aj yU 2).trans rfl;obtain ⟨K, hK⟩ : ∃ K, K = said.length + tS s.f0 := ⟨_, rfl⟩;have qR := Zd.mk hK;have hsl : (said ++ bX s.f0 false).length = K := by rw [List.length_append, tL, hK]
   have hgl : (good ++ bX s.f0 false).length = K := by rw [List.length_append, tL, hK, KA.out]
   have wB := Zd.mk hsl;have E8 := Zd.mk hgl;have oo := Zd.mk (show K + dI s.f2 ≤ 60 from by have := jJ.out; have := rF.out; omega);clear yU x0 y2 hK hsl hgl;have hlen := Kd.pG HK.out;go_wp2;go_loopg [50, 7, 8] s.f2.length (fun kq v50 v7 v8 w' => ∃ (j : Nat) (pre sd gd : List Bool) (x1 x2 : Value), j + kq = s.f2.length ∧ v50 = .int .i64 j ∧ v7 = .bool (pre.getD 0 false) ∧ v8 = .bool (pre.getD 1 false) ∧ Zd (pre.length = j) ∧ Zd (pre ++ dO sv lt (s.f2.drop j) sd.length = dO sv lt s.f2 K) ∧ Zd (sd ++ mW sv lt (s.f2.drop j) sd.length = said ++ bX s.f0 false ++ mW sv lt s.f2 K) ∧ Zd (gd ++ nM sv lt (s.f2.drop j) sd.length = good ++ bX s.f0 false ++ nM sv lt s.f2 K) ∧ Zd (sd.length = gd.length) ∧ Zd (sd.length + dI (s.f2.drop j) = K + dI s.f2) ∧ Zd (jC w0 w' rb sv lt sd gd x1 x2) ∧ Zd (Fr W1 rb (.slice A1 said.length c1) (.slice A2 good.length c2) w' x1 x2))
   case atStart => exact ⟨0, [], said ++ bX s.f0 false, good ++ bX s.f0 false, y1, y2v, by omega, rfl, rfl, rfl, ⟨rfl⟩, ⟨by rw [wB.out]; rfl⟩, ⟨by rw [wB.out]; rfl⟩, ⟨by rw [wB.out]; rfl⟩, ⟨by rw [wB.out, E8.out]⟩, ⟨by rw [wB.out]; rfl⟩, HRb, HFb⟩
   case round =>
    obtain ⟨j, pre, sd, gd, x1, x2, hj, rfl, rfl, rfl, tO, Df, HPS, HPG, KH, xL, lV, tQ⟩ := hrel;have HJ := Zd.mk hj;clear hj;by_cases hlt : j < s.f2.length
    ·obtain ⟨ad, A3, U9, e0, hx0, hx1, hx2, hl3, hk3⟩ := yG HK.out lV.out.bl j hlt hlt;cases e0;have Dg := Zd.mk hk3;have KI := Zd.mk hl3;clear hk3 hl3;have hd := List.drop_eq_getElem_cons hlt;have HD := Zd.mk hd;clear hd;have htn : sd.length + az (s.f2[j]'hlt) ≤ 60 := by
      have h1 := xL.out;rw [HD.out] at h1;have h2 := oo.out;simp only [dI] at h1;omega
     have HKK := Zd.mk (fun W h => wy.out (s.f2[j]'hlt) (List.getElem_mem hlt) rb sv lt sd gd x1 x2 A3 U9 W h KH.out htn Dg.out KI.out (Pm HS.out j hlt));clear htn;have hPV : (pre ++ [dZ sv lt (s.f2[j]'hlt) sd.length]) ++ dO sv lt (s.f2.drop (j + 1)) (sd.length + az (s.f2[j]'hlt)) = dO sv lt s.f2 K := by
      rw [← Df.out, HD.out, dO, List.append_assoc]; rfl
     have hPS : (sd ++ kH sv lt (s.f2[j]'hlt) sd.length) ++ mW sv lt (s.f2.drop (j + 1)) (sd.length + az (s.f2[j]'hlt)) = said ++ bX s.f0 false ++ mW sv lt s.f2 K := by
      rw [← HPS.out, HD.out, mW, List.append_assoc]
     have hPG : (gd ++ jW sv lt (s.f2[j]'hlt) sd.length) ++ nM sv lt (s.f2.drop (j + 1)) (sd.length + az (s.f2[j]'hlt)) = good ++ bX s.f0 false ++ nM sv lt s.f2 K := by
      rw [← HPG.out, HD.out, nM, List.append_assoc]
     have hQL : (sd ++ kH sv lt (s.f2[j]'hlt) sd.length).length = sd.length + az (s.f2[j]'hlt) := by rw [List.length_append, Kn]
     have hQG : (gd ++ jW sv lt (s.f2[j]'hlt) sd.length).length = sd.length + az (s.f2[j]'hlt) := by rw [List.length_append, Ie, KH.out]
     have KJ : sd.length + az (s.f2[j]'hlt) + dI (s.f2.drop (j + 1)) = K + dI s.f2 := by rw [← xL.out, HD.out, dI]; omega
     have Dh := Zd.mk hPV;have uX := Zd.mk hPS;have yV := Zd.mk hPG;have Ao := Zd.mk hQL;have HQG := Zd.mk hQG;have adV := Zd.mk KJ;clear hPV hPS hPG hQL hQG KJ;obtain ⟨vv, hvv⟩ : ∃ vv, vv = dZ sv lt (s.f2[j]'hlt) sd.length := ⟨_, rfl⟩;rw [← hvv] at Dh;have Ip := Zd.mk hvv;clear hvv;by_cases hj0 : j = 0
     ·have hjb : ((j : Int) == 0) = true := by rw [hj0]; rfl
      have hp0 : pre = [] := List.length_eq_zero_iff.1 (by rw [tO.out, hj0]);subst hp0;have KL := Zd.mk hj0;clear hj0;go_wp2_with (go_at_call 100; refine (HKK.out _ (lV.out.alloc _)).mono ?_; rintro e w2 ⟨rfl, u1, u2, hR2, hF2⟩; have HR2 := Zd.mk hR2; have Va := Zd.mk (tQ.out.alloc _ |>.trans hF2); clear hR2 hF2; rw [← Ip.out]);go_roundg (gk - 1)
      case measure => have := HJ.out; omega
      case rel => exact ⟨j + 1, [vv], _, _, u1, u2, by have := HJ.out; omega, by go_num, rfl, rfl, ⟨by rw [KL.out]; rfl⟩, ⟨by rw [Ao.out]; exact Dh.out⟩, ⟨by rw [Ao.out]; exact uX.out⟩, ⟨by rw [Ao.out]; exact yV.out⟩, ⟨by rw [Ao.out, HQG.out]⟩, ⟨by rw [Ao.out]; exact adV.out⟩, HR2, Va⟩
     ·have hjb : ((j : Int) == 0) = false := beq_eq_false_iff_ne.2 ag;have hj1 : j = 1 := by omega
      obtain ⟨pa, rfl⟩ : ∃ pa, pre = [pa] := List.length_eq_one_iff.1 (by rw [tO.out, hj1]);have yH := Zd.mk hj1;clear hj1 hj0;go_wp2_with (go_at_call 100; refine (HKK.out _ (lV.out.alloc _)).mono ?_; rintro e w2 ⟨rfl, u1, u2, hR2, hF2⟩; have HR2 := Zd.mk hR2; have Va := Zd.mk (tQ.out.alloc _ |>.trans hF2); clear hR2 hF2; rw [← Ip.out]);go_roundg (gk - 1)
      case measure => have := HJ.out; omega
      case rel => exact ⟨j + 1, [pa, vv], _, _, u1, u2, by have := HJ.out; omega, by go_num, rfl, rfl, ⟨by rw [yH.out]; rfl⟩, ⟨by rw [Ao.out]; exact Dh.out⟩, ⟨by rw [Ao.out]; exact uX.out⟩, ⟨by rw [Ao.out]; exact yV.out⟩, ⟨by rw [Ao.out, HQG.out]⟩, ⟨by rw [Ao.out]; exact adV.out⟩, HR2, Va⟩
    ·have hdr : s.f2.drop j = [] := List.drop_eq_nil_of_le ag;have hpv : pre = dO sv lt s.f2 K := by have := Df.out; rw [hdr, dO, List.append_nil] at this; exact this
     have hps : sd = said ++ bX s.f0 false ++ mW sv lt s.f2 K := by have := HPS.out; rw [hdr, mW, List.append_nil] at this; exact this
     have hpg : gd = good ++ bX s.f0 false ++ nM sv lt s.f2 K := by have := HPG.out; rw [hdr, nM, List.append_nil] at this; exact this
     have Bw := U7.out;rw [← qR.out, ← hpv] at Bw;obtain ⟨xa, hxa⟩ : ∃ xa, xa = pre.getD 0 false := ⟨_, rfl⟩;obtain ⟨xb, hxb⟩ : ∃ xb, xb = pre.getD 1 false := ⟨_, rfl⟩;rw [← hxa, ← hxb] at Bw;rw [← hxa, ← hxb];have iE := Zd.mk Bw;have uX := Zd.mk hps;have yV := Zd.mk hpg;have yU := adU.out _ _ _ tQ.out;have z0 : wr.cell? ⟨w.heap.size, 0, none⟩ = some (.int .i64 s.f0) := (aj yU 0).trans rfl;have z1 : wr.cell? ⟨w.heap.size, 1, none⟩ = some (.int .i64 s.f1) := (aj yU 1).trans rfl;have r0 := aoH lV.out.blk;have r1 := aoI lV.out.blk;have r2 := PE lV.out.blk;have r3 := PG lV.out.blk;have hkb : said.length ≤ 60 := by have := jJ.out; omega
     clear hdr hpv hps hpg Bw hxa hxb yU;go_upto_region 14 with fail
     go_cut [12] (fun v12 wx => v12 = .bool (tm && jG sv said.length) ∧ wx = wr)
     case first =>
      cases tm with
      | false =>
       go_wp2;go_meet;exact ⟨rfl, rfl⟩
      | true =>
       go_wp2;go_meet;exact ⟨rfl, rfl⟩
     case rest =>
      obtain ⟨rfl, hwc⟩ := hcut;rw [hwc];clear hwc wc;rcases E5.out with hop | hop | hop | hop | hop | hop | hop | hop
      ·-- op 1
       have hmm := lT.out;rw [hop] at z0 hmm;have jK : tm = false := by rw [← HT.out, hop]; rfl
       subst jK;have hval : dZ sv lt s said.length = (true) := by
        rw [iE.out.1, hop]; unfold mG;rw [if_neg ai, if_neg ai, if_neg ai, if_neg ai, if_neg ai, if_neg ai, if_neg ai]
       have HV := Zd.mk hval;have hfs : said ++ kH sv lt s said.length = sd := by rw [iE.out.2.1, uX.out, hop]; unfold bX; rw [if_neg ai, if_neg ai, List.append_nil, List.nil_append]
       have hfg : good ++ jW sv lt s said.length = gd := by rw [iE.out.2.2, yV.out, hop]; unfold bX; rw [if_neg ai, if_neg ai, List.append_nil, List.nil_append]
       have oq := Zd.mk hfs;have mX := Zd.mk hfg;clear hval hfs hfg;clear hmm;go_wp2;go_ret;exact ⟨by rw [HV.out]; rfl, x1, x2, by rw [oq.out, mX.out]; exact lV.out, xK.out.trans tQ.out⟩
      ·-- op 2
       have hmm := lT.out;rw [hop] at z0 hmm;have jK : tm = false := by rw [← HT.out, hop]; rfl
       subst jK;have hval : dZ sv lt s said.length = (uL lt s.f1) := by
        rw [iE.out.1, hop]; unfold mG;rw [if_pos rfl]
       have HV := Zd.mk hval;have hfs : said ++ kH sv lt s said.length = sd := by rw [iE.out.2.1, uX.out, hop]; unfold bX; rw [if_neg ai, if_neg ai, List.append_nil, List.nil_append]
       have hfg : good ++ jW sv lt s said.length = gd := by rw [iE.out.2.2, yV.out, hop]; unfold bX; rw [if_neg ai, if_neg ai, List.append_nil, List.nil_append]
       have oq := Zd.mk hfs;have mX := Zd.mk hfg;clear hval hfs hfg;have hm2 : lQ 2 = 19 := by decide
       have hw : IntKind.u64.wrap s.f1 = s.f1 := Hz hmm.1 ag;have oU := Zd.mk (show uL lt s.f1 = ((Go.bits .and .u32 (lt / 2 ^ s.f1.toNat) 1) == 1) from by unfold uL; rw [hw, ← Oe (k := .u32) (x := lt) (y := s.f1) rfl (by show s.f1 ≤ 32; omega)]);have hm0 := hmm.1;have hm1 : s.f1 < 32 := by omega
       clear hw hm2 hmm;go_wp2
       go_quiet (fail)
       go_wp2;go_ret;exact ⟨by rw [HV.out, oU.out]; rfl, x1, x2, by rw [oq.out, mX.out]; exact lV.out.drewN _, (xK.out.trans tQ.out).drewN _⟩
      ·-- op 3
       have hmm := lT.out;rw [hop] at z0 hmm;have jK : tm = false := by rw [← HT.out, hop]; rfl
       subst jK;have hval : dZ sv lt s said.length = (!xa) := by
        rw [iE.out.1, hop]; unfold mG;rw [if_neg ai, if_pos rfl]
       have HV := Zd.mk hval;have hfs : said ++ kH sv lt s said.length = sd := by rw [iE.out.2.1, uX.out, hop]; unfold bX; rw [if_neg ai, if_neg ai, List.append_nil, List.nil_append]
       have hfg : good ++ jW sv lt s said.length = gd := by rw [iE.out.2.2, yV.out, hop]; unfold bX; rw [if_neg ai, if_neg ai, List.append_nil, List.nil_append]
       have oq := Zd.mk hfs;have mX := Zd.mk hfg;clear hval hfs hfg;clear hmm;go_wp2;go_ret;exact ⟨by rw [HV.out]; rfl, x1, x2, by rw [oq.out, mX.out]; exact lV.out, xK.out.trans tQ.out⟩
      ·-- op 4
       have hmm := lT.out;rw [hop] at z0 hmm;have jK : tm = false := by rw [← HT.out, hop]; rfl
       subst jK;have hval : dZ sv lt s said.length = (xa && xb) := by
        rw [iE.out.1, hop]; unfold mG;rw [if_neg ai, if_neg ai, if_pos rfl]
       have HV := Zd.mk hval;have hfs : said ++ kH sv lt s said.length = sd := by rw [iE.out.2.1, uX.out, hop]; unfold bX; rw [if_neg ai, if_neg ai, List.append_nil, List.nil_append]
       have hfg : good ++ jW sv lt s said.length = gd := by rw [iE.out.2.2, yV.out, hop]; unfold bX; rw [if_neg ai, if_neg ai, List.append_nil, List.nil_append]
       have oq := Zd.mk hfs;have mX := Zd.mk hfg;clear hval hfs hfg;clear hmm;cases xa
       ·go_wp2;go_ret;exact ⟨by rw [HV.out]; rfl, x1, x2, by rw [oq.out, mX.out]; exact lV.out, xK.out.trans tQ.out⟩
       ·go_wp2;go_ret;exact ⟨by rw [HV.out]; rfl, x1, x2, by rw [oq.out, mX.out]; exact lV.out, xK.out.trans tQ.out⟩
      ·-- op 5
       have hmm := lT.out;rw [hop] at z0 hmm;have jK : tm = false := by rw [← HT.out, hop]; rfl
       subst jK;have hval : dZ sv lt s said.length = (xa || xb) := by
        rw [iE.out.1, hop]; unfold mG;rw [if_neg ai, if_neg ai, if_neg ai, if_pos rfl]
       have HV := Zd.mk hval;have hfs : said ++ kH sv lt s said.length = sd := by rw [iE.out.2.1, uX.out, hop]; unfold bX; rw [if_neg ai, if_neg ai, List.append_nil, List.nil_append]
       have hfg : good ++ jW sv lt s said.length = gd := by rw [iE.out.2.2, yV.out, hop]; unfold bX; rw [if_neg ai, if_neg ai, List.append_nil, List.nil_append]
       have oq := Zd.mk hfs;have mX := Zd.mk hfg;clear hval hfs hfg;clear hmm;cases xa
       ·go_wp2;go_ret;exact ⟨by rw [HV.out]; rfl, x1, x2, by rw [oq.out, mX.out]; exact lV.out, xK.out.trans tQ.out⟩
       ·go_wp2;go_ret;exact ⟨by rw [HV.out]; rfl, x1, x2, by rw [oq.out, mX.out]; exact lV.out, xK.out.trans tQ.out⟩
      ·-- op 6
       have hmm := lT.out;rw [hop] at z0 hmm;have jK : tm = true := by rw [← HT.out, hop]; rfl
       subst jK;have hval : dZ sv lt s said.length = (jG sv said.length) := by
        rw [iE.out.1, hop]; unfold mG;rw [if_neg ai, if_neg ai, if_neg ai, if_neg ai, if_pos rfl]
       have HV := Zd.mk hval;have Di : said.length < sd.length := by rw [uX.out, List.length_append, List.length_append, tL, hop]; have : tS 6 = 1 := rfl; omega
       have KM : said.length < gd.length := by rw [← KH.out]; exact Di
       have hfs : said ++ kH sv lt s said.length = sd.set said.length xa := by
        have h1 : ∀ b, bX 6 b = [b] := fun b => rfl;rw [iE.out.2.1, uX.out, hval, hop, h1, h1, set_mid, List.append_assoc]; rfl
       have hfg : good ++ jW sv lt s said.length = gd.set said.length true := by
        have h1 : ∀ b, bX 6 b = [b] := fun b => rfl;rw [iE.out.2.2, yV.out, hval, hop, h1, h1, KA.out, set_mid, List.append_assoc]; rfl
       have oq := Zd.mk hfs;have mX := Zd.mk hfg;obtain ⟨g1, q1, g2, q2, rfl, rfl, hne, p1, f1, p2, f2, hput⟩ := lV.out.U3 Di KM;have uY := Zd.mk hput;have i0 : (0 : Int) ≤ (said.length : Int) := by omega
       have i1 : (said.length : Int) < (sd.length : Int) := by omega
       have i2 : (said.length : Int) < (gd.length : Int) := by omega
       have hne2 : ¬ g2 = g1 := fun e => hne e.symm;generalize jG sv said.length = bk at *;clear hval hfs hfg hput hmm;have hr1 : ¬ rb = g1 := fun e => lV.out.Kw (by rw [e]; rfl);have hr2 : ¬ rb = g2 := fun e => lV.out.Ky (by rw [e]; rfl);go_upto_region 25 with fail
       refine iP (n := 15) (S := fun w' => w'.cell? ⟨rb, 2, none⟩ = some (.slice (some ⟨g1, 0, none⟩) sd.length q1) ∧ w'.cell? ⟨rb, 3, none⟩ = some (.slice (some ⟨g2, 0, none⟩) gd.length q2)) (ds := [12, 14]) Ub aa rfl rfl ⟨r2, r3⟩ (fun hHeld => ?_);refine iR gu.U5 gu.U6 (fun ae bA => ?_);refine pz ae.out 0 (some 107) Uc rfl rfl ?_;refine pz ae.out 1 (some 108) Ud rfl rfl ?_;refine pz ae.out 2 (some 109) Ue rfl rfl ?_;refine pz ae.out 4 (some 111) akv rfl rfl ?_;refine pz ae.out 5 (some 112) akw rfl rfl ?_;refine pz ae.out 6 (some 113) akx rfl rfl ?_;refine pz ae.out 7 (some 114) aky rfl rfl ?_;refine pz ae.out 9 (some 116) akz rfl rfl ?_;refine pz ae.out 10 (some 117) akA rfl rfl ?_;refine tz ae.out bA.out 3 (some 110) akB rfl rfl hHeld ?_;refine tz ae.out bA.out 8 (some 115) Uf rfl rfl hHeld ?_;refine pz ae.out 11 (some 118) Ug rfl rfl ?_;refine kV (i := 12) (N := none) Uh rfl rfl (di ae.out aa) ai (fun K hK => ?_);refine iQ (w1 := ?_) bu rfl ?_ ?_;rotate_left
       ·go_simp
        rfl
       refine hK.out _ _ ?_;clear hK K;refine pz ae.out 13 (some 119) Ui rfl rfl ?_;refine kV (i := 14) (N := none) Uj rfl rfl (di ae.out aa) ai (fun K hK => ?_);refine iQ (w1 := ?_) bu rfl ?_ ?_;rotate_left
       ·go_simp
        rfl
       refine hK.out _ _ ?_;clear hK K;refine kD (kE ae.out aa) ?_;go_wp2;go_ret;exact ⟨by rw [HV.out]; rfl, _, _, by rw [oq.out, mX.out]; exact (uY.out _ (bV (Below.refl _ _)) xa true).1, (xK.out.trans tQ.out).trans (uY.out _ (bV (Below.refl _ _)) xa true).2⟩
      ·-- op 7
       have hmm := lT.out;rw [hop] at z0 hmm;have jK : tm = true := by rw [← HT.out, hop]; rfl
       subst jK;have hval : dZ sv lt s said.length = (xb || xa && jG sv said.length) := by
        rw [iE.out.1, hop]; unfold mG;rw [if_neg ai, if_neg ai, if_neg ai, if_neg ai, if_neg ai, if_pos rfl]
       have HV := Zd.mk hval;have Di : said.length < sd.length := by rw [uX.out, List.length_append, List.length_append, tL, hop]; have : tS 7 = 1 := rfl; omega
       have KM : said.length < gd.length := by rw [← KH.out]; exact Di
       have hfs : said ++ kH sv lt s said.length = sd.set said.length (xb || xa && jG sv said.length) := by
        have h1 : ∀ b, bX 7 b = [b] := fun b => rfl;rw [iE.out.2.1, uX.out, hval, hop, h1, h1, set_mid, List.append_assoc]; rfl
       have hfg : good ++ jW sv lt s said.length = gd.set said.length (!(xb || xa && jG sv said.length) || xb) := by
        have h1 : ∀ b, bX 7 b = [b] := fun b => rfl;rw [iE.out.2.2, yV.out, hval, hop, h1, h1, KA.out, set_mid, List.append_assoc]; rfl
       have oq := Zd.mk hfs;have mX := Zd.mk hfg;obtain ⟨g1, q1, g2, q2, rfl, rfl, hne, p1, f1, p2, f2, hput⟩ := lV.out.U3 Di KM;have uY := Zd.mk hput;have i0 : (0 : Int) ≤ (said.length : Int) := by omega
       have i1 : (said.length : Int) < (sd.length : Int) := by omega
       have i2 : (said.length : Int) < (gd.length : Int) := by omega
       have hne2 : ¬ g2 = g1 := fun e => hne e.symm;generalize jG sv said.length = bk at *;clear hval hfs hfg hput hmm;have hr1 : ¬ rb = g1 := fun e => lV.out.Kw (by rw [e]; rfl);have hr2 : ¬ rb = g2 := fun e => lV.out.Ky (by rw [e]; rfl);go_upto_region 28 with fail
       go_cut [13] (fun v13 wx => v13 = .bool (xb || xa && bk) ∧ wx = wr)
       case first =>
        cases xb <;> cases xa <;> (
         go_wp2;go_meet;exact ⟨by first | rfl | (cases bk <;> rfl), rfl⟩)
       case rest =>
        obtain ⟨rfl, hwc⟩ := hcut;rw [hwc];clear hwc wc;generalize (xb || xa && bk) = is at *;cases is with
        | false =>
         go_upto_region 29 with fail
         refine iP (n := 20) (S := fun w' => w'.cell? ⟨rb, 2, none⟩ = some (.slice (some ⟨g1, 0, none⟩) sd.length q1) ∧ w'.cell? ⟨rb, 3, none⟩ = some (.slice (some ⟨g2, 0, none⟩) gd.length q2)) (ds := [17, 19]) Hm aa rfl rfl ⟨r2, r3⟩ (fun hHeld => ?_);refine iR gu.adO gu.adP (fun ae bA => ?_);refine pz ae.out 0 (some 130) Ho rfl rfl ?_;refine pz ae.out 1 (some 131) JY rfl rfl ?_;refine pz ae.out 2 (some 132) JZ rfl rfl ?_;refine pz ae.out 4 (some 134) Og rfl rfl ?_;refine pz ae.out 5 (some 135) Oh rfl rfl ?_;refine pz ae.out 6 (some 136) Oi rfl rfl ?_;refine pz ae.out 7 (some 137) Oj rfl rfl ?_;refine pz ae.out 9 (some 139) Ol rfl rfl ?_;refine pz ae.out 10 (some 140) Om rfl rfl ?_;refine pz ae.out 11 (some 141) Oo rfl rfl ?_;refine pz ae.out 12 (some 142) Oq rfl rfl ?_;refine pz ae.out 13 (some 143) Ot rfl rfl ?_;refine pu ae.out 14 (some 144) Ou rfl rfl ?_;refine pz ae.out 15 (some 145) Ov rfl rfl ?_;refine tz ae.out bA.out 3 (some 133) Ow rfl rfl hHeld ?_;refine tz ae.out bA.out 8 (some 138) J2 rfl rfl hHeld ?_;refine pz ae.out 16 (some 146) J3 rfl rfl ?_;refine kV (i := 17) (N := none) J4 rfl rfl (di ae.out aa) ai (fun K hK => ?_);refine iQ (w1 := ?_) bu rfl ?_ ?_;rotate_left
         ·go_simp
          rfl
         refine hK.out _ _ ?_;clear hK K;refine pz ae.out 18 (some 147) J5 rfl rfl ?_;refine kV (i := 19) (N := none) J6 rfl rfl (di ae.out aa) ai (fun K hK => ?_);refine iQ (w1 := ?_) bu rfl ?_ ?_;rotate_left
         ·go_simp
          rfl
         refine hK.out _ _ ?_;clear hK K;refine kD (kE ae.out aa) ?_;go_wp2;go_ret;exact ⟨by rw [HV.out]; rfl, _, _, by rw [oq.out, mX.out]; exact (uY.out _ (bV (Below.refl _ _)) _ _).1, (xK.out.trans tQ.out).trans (uY.out _ (bV (Below.refl _ _)) _ _).2⟩
        | true =>
         go_upto_region 29 with fail
         refine iP (n := 20) (S := fun w' => w'.cell? ⟨rb, 2, none⟩ = some (.slice (some ⟨g1, 0, none⟩) sd.length q1) ∧ w'.cell? ⟨rb, 3, none⟩ = some (.slice (some ⟨g2, 0, none⟩) gd.length q2)) (ds := [17, 19]) Hm aa rfl rfl ⟨r2, r3⟩ (fun hHeld => ?_);refine iR gu.adO gu.adP (fun ae bA => ?_);refine pz ae.out 0 (some 130) Ho rfl rfl ?_;refine pz ae.out 1 (some 131) JY rfl rfl ?_;refine pz ae.out 2 (some 132) JZ rfl rfl ?_;refine pz ae.out 4 (some 134) Og rfl rfl ?_;refine pz ae.out 5 (some 135) Oh rfl rfl ?_;refine pz ae.out 6 (some 136) Oi rfl rfl ?_;refine pz ae.out 7 (some 137) Oj rfl rfl ?_;refine pz ae.out 9 (some 139) Ol rfl rfl ?_;refine pz ae.out 10 (some 140) Om rfl rfl ?_;refine pz ae.out 11 (some 141) Oo rfl rfl ?_;refine pz ae.out 12 (some 142) Oq rfl rfl ?_;refine pz ae.out 13 (some 143) Ot rfl rfl ?_;refine pz ae.out 14 (some 144) Ou rfl rfl ?_;refine pz ae.out 15 (some 145) Ov rfl rfl ?_;refine tz ae.out bA.out 3 (some 133) Ow rfl rfl hHeld ?_;refine tz ae.out bA.out 8 (some 138) J2 rfl rfl hHeld ?_;refine pz ae.out 16 (some 146) J3 rfl rfl ?_;refine kV (i := 17) (N := none) J4 rfl rfl (di ae.out aa) ai (fun K hK => ?_);refine iQ (w1 := ?_) bu rfl ?_ ?_;rotate_left
         ·go_simp
          rfl
         refine hK.out _ _ ?_;clear hK K;refine pz ae.out 18 (some 147) J5 rfl rfl ?_;refine kV (i := 19) (N := none) J6 rfl rfl (di ae.out aa) ai (fun K hK => ?_);refine iQ (w1 := ?_) bu rfl ?_ ?_;rotate_left
         ·go_simp
          rfl
         refine hK.out _ _ ?_;clear hK K;refine kD (kE ae.out aa) ?_;go_wp2;go_ret;exact ⟨by rw [HV.out]; rfl, _, _, by rw [oq.out, mX.out]; exact (uY.out _ (bV (Below.refl _ _)) _ _).1, (xK.out.trans tQ.out).trans (uY.out _ (bV (Below.refl _ _)) _ _).2⟩
      ·-- op 8
       have hmm := lT.out;rw [hop] at z0 hmm;have jK : tm = true := by rw [← HT.out, hop]; rfl
       subst jK;have hval : dZ sv lt s said.length = (xb && (xa || jG sv said.length)) := by
        rw [iE.out.1, hop]; unfold mG;rw [if_neg ai, if_neg ai, if_neg ai, if_neg ai, if_neg ai, if_neg ai, if_pos rfl]
       have HV := Zd.mk hval;have Di : said.length < sd.length := by rw [uX.out, List.length_append, List.length_append, tL, hop]; have : tS 8 = 1 := rfl; omega
       have KM : said.length < gd.length := by rw [← KH.out]; exact Di
       have hfs : said ++ kH sv lt s said.length = sd.set said.length (xb && (xa || jG sv said.length)) := by
        have h1 : ∀ b, bX 8 b = [b] := fun b => rfl;rw [iE.out.2.1, uX.out, hval, hop, h1, h1, set_mid, List.append_assoc]; rfl
       have hfg : good ++ jW sv lt s said.length = gd.set said.length ((xb && (xa || jG sv said.length)) || !xb) := by
        have h1 : ∀ b, bX 8 b = [b] := fun b => rfl;rw [iE.out.2.2, yV.out, hval, hop, h1, h1, KA.out, set_mid, List.append_assoc]; rfl
       have oq := Zd.mk hfs;have mX := Zd.mk hfg;obtain ⟨g1, q1, g2, q2, rfl, rfl, hne, p1, f1, p2, f2, hput⟩ := lV.out.U3 Di KM;have uY := Zd.mk hput;have i0 : (0 : Int) ≤ (said.length : Int) := by omega
       have i1 : (said.length : Int) < (sd.length : Int) := by omega
       have i2 : (said.length : Int) < (gd.length : Int) := by omega
       have hne2 : ¬ g2 = g1 := fun e => hne e.symm;generalize jG sv said.length = bk at *;clear hval hfs hfg hput hmm;have hr1 : ¬ rb = g1 := fun e => lV.out.Kw (by rw [e]; rfl);have hr2 : ¬ rb = g2 := fun e => lV.out.Ky (by rw [e]; rfl);go_upto_region 32 with fail
       go_cut [14] (fun v13 wx => v13 = .bool (xb && (xa || bk)) ∧ wx = wr)
       case first =>
        cases xb <;> cases xa <;> (
         go_wp2;go_meet;exact ⟨by first | rfl | (cases bk <;> rfl), rfl⟩)
       case rest =>
        obtain ⟨rfl, hwc⟩ := hcut;rw [hwc];clear hwc wc;generalize (xb && (xa || bk)) = is at *;cases is with
        | false =>
         go_upto_region 33 with fail
         refine iP (n := 20) (S := fun w' => w'.cell? ⟨rb, 2, none⟩ = some (.slice (some ⟨g1, 0, none⟩) sd.length q1) ∧ w'.cell? ⟨rb, 3, none⟩ = some (.slice (some ⟨g2, 0, none⟩) gd.length q2)) (ds := [17, 19]) Hm aa rfl rfl ⟨r2, r3⟩ (fun hHeld => ?_);refine iR gu.adQ gu.adR (fun ae bA => ?_);refine pz ae.out 0 (some 158) Ho rfl rfl ?_;refine pz ae.out 1 (some 159) JY rfl rfl ?_;refine pz ae.out 2 (some 160) JZ rfl rfl ?_;refine pz ae.out 4 (some 162) Og rfl rfl ?_;refine pz ae.out 5 (some 163) Oh rfl rfl ?_;refine pz ae.out 6 (some 164) Oi rfl rfl ?_;refine pz ae.out 7 (some 165) Oj rfl rfl ?_;refine pz ae.out 9 (some 167) Ol rfl rfl ?_;refine pz ae.out 10 (some 168) Om rfl rfl ?_;refine pz ae.out 11 (some 169) Oo rfl rfl ?_;refine pz ae.out 12 (some 170) Oq rfl rfl ?_;refine pz ae.out 13 (some 171) Ot rfl rfl ?_;refine pz ae.out 14 (some 172) Ou rfl rfl ?_;refine pz ae.out 15 (some 173) Ov rfl rfl ?_;refine tz ae.out bA.out 3 (some 161) Ow rfl rfl hHeld ?_;refine tz ae.out bA.out 8 (some 166) J2 rfl rfl hHeld ?_;refine pz ae.out 16 (some 174) J3 rfl rfl ?_;refine kV (i := 17) (N := none) J4 rfl rfl (di ae.out aa) ai (fun K hK => ?_);refine iQ (w1 := ?_) bu rfl ?_ ?_;rotate_left
         ·go_simp
          rfl
         refine hK.out _ _ ?_;clear hK K;refine pz ae.out 18 (some 175) J5 rfl rfl ?_;refine kV (i := 19) (N := none) J6 rfl rfl (di ae.out aa) ai (fun K hK => ?_);refine iQ (w1 := ?_) bu rfl ?_ ?_;rotate_left
         ·go_simp
          rfl
         refine hK.out _ _ ?_;clear hK K;refine kD (kE ae.out aa) ?_;go_wp2;go_ret;exact ⟨by rw [HV.out]; rfl, _, _, by rw [oq.out, mX.out]; exact (uY.out _ (bV (Below.refl _ _)) _ _).1, (xK.out.trans tQ.out).trans (uY.out _ (bV (Below.refl _ _)) _ _).2⟩
        | true =>
         go_upto_region 33 with fail
         refine iP (n := 20) (S := fun w' => w'.cell? ⟨rb, 2, none⟩ = some (.slice (some ⟨g1, 0, none⟩) sd.length q1) ∧ w'.cell? ⟨rb, 3, none⟩ = some (.slice (some ⟨g2, 0, none⟩) gd.length q2)) (ds := [17, 19]) Hm aa rfl rfl ⟨r2, r3⟩ (fun hHeld => ?_);refine iR gu.adQ gu.adR (fun ae bA => ?_);refine pz ae.out 0 (some 158) Ho rfl rfl ?_;refine pz ae.out 1 (some 159) JY rfl rfl ?_;refine pz ae.out 2 (some 160) JZ rfl rfl ?_;refine pz ae.out 4 (some 162) Og rfl rfl ?_;refine pz ae.out 5 (some 163) Oh rfl rfl ?_;refine pz ae.out 6 (some 164) Oi rfl rfl ?_;refine pz ae.out 7 (some 165) Oj rfl rfl ?_;refine pz ae.out 9 (some 167) Ol rfl rfl ?_;refine pz ae.out 10 (some 168) Om rfl rfl ?_;refine pz ae.out 11 (some 169) Oo rfl rfl ?_;refine pz ae.out 12 (some 170) Oq rfl rfl ?_;refine pu ae.out 13 (some 171) Ot rfl rfl ?_;refine pu ae.out 14 (some 172) Ou rfl rfl ?_;refine pz ae.out 15 (some 173) Ov rfl rfl ?_;refine tz ae.out bA.out 3 (some 161) Ow rfl rfl hHeld ?_;refine tz ae.out bA.out 8 (some 166) J2 rfl rfl hHeld ?_;refine pz ae.out 16 (some 174) J3 rfl rfl ?_;refine kV (i := 17) (N := none) J4 rfl rfl (di ae.out aa) ai (fun K hK => ?_);refine iQ (w1 := ?_) bu rfl ?_ ?_;rotate_left
         ·go_simp
          rfl
         refine hK.out _ _ ?_;clear hK K;refine pz ae.out 18 (some 175) J5 rfl rfl ?_;refine kV (i := 19) (N := none) J6 rfl rfl (di ae.out aa) ai (fun K hK => ?_);refine iQ (w1 := ?_) bu rfl ?_ ?_;rotate_left
         ·go_simp
          rfl
         refine hK.out _ _ ?_;clear hK K;refine kD (kE ae.out aa) ?_;go_wp2;go_ret;exact ⟨by rw [HV.out]; rfl, _, _, by rw [oq.out, mX.out]; exact (uY.out _ (bV (Below.refl _ _)) _ _).1, (xK.out.trans tQ.out).trans (uY.out _ (bV (Below.refl _ _)) _ _).2⟩
end Go.Proofs.YtapejnikpmfddaaGreat.X
