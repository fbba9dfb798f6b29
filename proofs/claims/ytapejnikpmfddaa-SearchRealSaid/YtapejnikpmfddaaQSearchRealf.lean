/- A part of the claim SearchReal. -/
import Derived.Test.YtapejnikpmfddaaQSearchReale
set_option linter.unusedVariables false
set_option linter.unusedSimpArgs false
set_option maxHeartbeats 8000000
set_option maxRecDepth 100000
namespace Go.Proofs.Ytapejnikpmfddaa.X
open Go.RowKit Go.Proofs.YtapejnikpmfddaaW.PrintWords Go.Proofs.YtapejnikpmfddaaW.PrintLast Go.Proofs.YtapejnikpmfddaaW.PrintMore
open Go.Proofs.Ytapejnikpmfddaa.P Go.Proofs.Ytapejnikpmfddaa.Evx
def rdr_value.T4 : Bool × List (List Nat × List Nat) := (true, [([], []), ([], []), ([], []), ([2], [2]), ([3], [3]), ([4], [4]), ([], []), ([5, 6], [5, 6]), ([], []), ([8], [8]), ([9], [9]), ([10], [10]), ([], []), ([11, 12, 7], [11, 12]), ([0, 0, 2, 3, 4, 5, 6, 7, 11, 13], [0]), ([14, 0, 2, 3, 4, 5, 6, 7, 11, 13], [14]), ([15, 7, 13, 0, 2, 3, 4, 5, 6, 7, 11, 13], [7, 15]), ([1, 0, 1, 2, 3, 4, 5, 6, 7, 8, 9, 10, 11, 12, 13, 14, 15, 16], [1]), ([17, 0, 1, 2, 3, 4, 5, 6, 7, 8, 9, 10, 11, 12, 13, 14, 15, 16], [17]), ([18, 13, 16, 0, 1, 2, 3, 4, 5, 6, 7, 8, 9, 10, 11, 12, 13, 14, 15, 16], [13, 18])])
def rdr_value.B4 : List Nat := [0, 0, 0, 4, 12, 28, 0, 124, 0, 256, 768, 1792, 0, 8188, 16381, 32765, 65533, 131071, 262143, 524287]
theorem rdr_value.tab4 : rtab .any (opsOf Try.f95 4) = rdr_value.T4 := by kernel_rfl
theorem rdr_value.bits4 : waitsOk rdr_value.T4.2 rdr_value.B4 = true := by kernel_rfl
def rdr_value.T25 : Bool × List (List Nat × List Nat) := (true, [([], []), ([0], [0]), ([1], [1]), ([2], [2]), ([], []), ([], []), ([5], [5]), ([6], [6]), ([7], [7]), ([], []), ([], []), ([3, 4, 0, 1, 2, 3, 4, 8, 10], [3, 4]), ([11, 10, 0, 1, 2, 3, 4, 8, 10], [10, 11]), ([8, 9, 0, 1, 2, 3, 4, 5, 6, 7, 8, 9, 10, 11, 12], [8, 9]), ([13, 12, 0, 1, 2, 3, 4, 5, 6, 7, 8, 9, 10, 11, 12], [13])])
def rdr_value.B25 : List Nat := [0, 1, 3, 7, 0, 0, 32, 96, 224, 0, 0, 1535, 3583, 8191, 16383]
theorem rdr_value.tab25 : rtab .any (opsOf Try.f95 25) = rdr_value.T25 := by kernel_rfl
theorem rdr_value.bits25 : waitsOk rdr_value.T25.2 rdr_value.B25 = true := by kernel_rfl
def rdr_value.T29 : Bool × List (List Nat × List Nat) := (true, [([], []), ([0], [0]), ([1], [1]), ([2], [2]), ([], []), ([], []), ([5], [5]), ([6], [6]), ([7], [7]), ([], []), ([], []), ([], []), ([11], [11]), ([12], [12]), ([13], [13]), ([13, 14], [13, 14]), ([3, 4, 0, 1, 2, 3, 4, 8, 10], [3, 4]), ([16, 10, 13, 0, 1, 2, 3, 4, 8, 10], [10, 16]), ([8, 9, 0, 1, 2, 3, 4, 5, 6, 7, 8, 9, 10, 11, 12, 13, 14, 15, 16, 17], [8, 9]), ([18, 15, 17, 0, 1, 2, 3, 4, 5, 6, 7, 8, 9, 10, 11, 12, 13, 14, 15, 16, 17], [15, 18])])
def rdr_value.B29 : List Nat := [0, 1, 3, 7, 0, 0, 32, 96, 224, 0, 0, 0, 2048, 6144, 14336, 30720, 1535, 81407, 262143, 524287]
theorem rdr_value.tab29 : rtab .any (opsOf Try.f95 29) = rdr_value.T29 := by kernel_rfl
theorem rdr_value.bits29 : waitsOk rdr_value.T29.2 rdr_value.B29 = true := by kernel_rfl
def rdr_value.T33 : Bool × List (List Nat × List Nat) := (true, [([], []), ([0], [0]), ([1], [1]), ([2], [2]), ([], []), ([], []), ([5], [5]), ([6], [6]), ([7], [7]), ([], []), ([], []), ([], []), ([11], [11]), ([12], [12]), ([13, 12], [12, 13]), ([12, 14], [12, 14]), ([3, 4, 0, 1, 2, 3, 4, 8, 10], [3, 4]), ([16, 10, 12, 0, 1, 2, 3, 4, 8, 10], [10, 16]), ([8, 9, 0, 1, 2, 3, 4, 5, 6, 7, 8, 9, 10, 11, 12, 13, 14, 15, 16, 17], [8, 9]), ([18, 15, 17, 0, 1, 2, 3, 4, 5, 6, 7, 8, 9, 10, 11, 12, 13, 14, 15, 16, 17], [15, 18])])
def rdr_value.B33 : List Nat := [0, 1, 3, 7, 0, 0, 32, 96, 224, 0, 0, 0, 2048, 6144, 14336, 30720, 1535, 73215, 262143, 524287]
theorem rdr_value.tab33 : rtab .any (opsOf Try.f95 33) = rdr_value.T33 := by kernel_rfl
theorem rdr_value.bits33 : waitsOk rdr_value.T33.2 rdr_value.B33 = true := by kernel_rfl
def RdAt (w0 : World) (s : S29) : Prop := ∀ (rb : Nat) (sv lt : Int) (said good : List Bool) (vs vg : Value) (A : Option Addr) (cp : Nat) (w : World), Rdr w0 w rb sv lt said good vs vg → said.length = good.length → said.length + tnS s ≤ 60 → Kd.C k29 w0 A s.f2.length s.f2 → s.f2.length ≤ cp → soundS s = true →
  Calls Try.prog 95 #[.pointer (some ⟨rb, 0, none⟩), .agg #[.int .i64 s.f0, .int .i64 s.f1, .slice A s.f2.length cp]] w fun e w' => e = .returned (.bool (valS sv lt s said.length)) ∧ ∃ v1 v2, Rdr w0 w' rb sv lt (said ++ saidS sv lt s said.length) (good ++ goodS sv lt s said.length) v1 v2 ∧ Fr w rb vs vg w' v1 v2
theorem infoBool0 : (Try.prog.info? 4).map (fun i => (i.zero, i.size, i.bytes)) = some (some (.bool false), 1, 1) := by kernel_rfl
theorem infoB : ∃ i, Try.prog.info? 4 = some i ∧ i.zero = some (.bool false) ∧ i.size = 1 ∧ i.bytes = 1 := by
 obtain ⟨i, hi, hz⟩ := Option.map_eq_some_iff.1 infoBool0
 simp only [Prod.mk.injEq] at hz
 exact ⟨i, hi, hz⟩
theorem value_calls (w0 : World) (s : S29) (ih : ∀ k ∈ s.f2, RdAt w0 k) : RdAt w0 s := by
 intro rb sv lt said good vs vg A cp w hR hlg hbd hk hc hs
 have huF := Try.underlying29
 have huL := Try.underlying27
 have hur := Try.underlying129
 have hus := Try.underlying67
 obtain ⟨W1, hW1⟩ : ∃ W1, W1 = w.alloc (.cells #[.int .i64 s.f0, .int .i64 s.f1, .slice A s.f2.length cp] 29) := ⟨_, rfl⟩
 have hR1 : Rdr w0 W1 rb sv lt said good vs vg := by rw [hW1]; exact hR.alloc _
 have hF1 : Fr w rb vs vg W1 vs vg := by rw [hW1]; exact (Fr.refl _ _ _ _).alloc _
 have hbx : W1.heap[w.heap.size]? = some (.cells #[.int .i64 s.f0, .int .i64 s.f1, .slice A s.f2.length cp] 29 (0, 0)) := by rw [hW1]; exact heap_alloc_new w _
 have hb1 : some w.heap.size ≠ vs.ownBlock := fun e => Nat.lt_irrefl _ (own_lt hR.o1 _ e.symm)
 have hb2 : some w.heap.size ≠ vg.ownBlock := fun e => Nat.lt_irrefl _ (own_lt hR.o2 _ e.symm)
 have hb3 : w.heap.size ≠ rb := fun e => Nat.lt_irrefl _ (e ▸ blk_lt hR.blk)
 have HBOX := Zd.mk (fun (w1 : World) (v1 v2 : Value) (h : Fr W1 rb vs vg w1 v1 v2) => h.box hR1 hbx hb1 hb2 hb3)
 have HR1 := Zd.mk hR1
 have HF1 := Zd.mk hF1
 have HK := Zd.mk hk
 have HS := Zd.mk hs
 have HIH := Zd.mk ih
 have HLG := Zd.mk hlg
 have HBD := Zd.mk hbd
 have HW1 := Zd.mk hW1
 have hpart := sound_parts hs
 have hk2 := (kids_range s.f0).2
 have hl2 : s.f2.length ≤ 2 := by omega
 have HOP := Zd.mk (op_cases hpart.1)
 have HM0 := Zd.mk hpart.2.2
 have x0 : W1.cell? ⟨w.heap.size, 0, none⟩ = some (.int .i64 s.f0) := (bq_ hbx 0).trans rfl
 have y2 := rdrB_2 hR1.blk
 obtain ⟨A1, c1, hvs, hc1⟩ := own_form hR.o1
 obtain ⟨A2, c2, hvg, hc2⟩ := own_form hR.o2
 subst hvs hvg
 have HEQ := Zd.mk (And.intro (val_eq sv lt s said.length) (And.intro (said_eq sv lt s said.length) (good_eq sv lt s said.length)))
 have HTN := Zd.mk (tn_eq s)
 clear hR hk hs ih hlg hbd hR1 hF1 hpart hk2
 go_enter Try.func95, Try.ntmps95
 go_upto_region 1 with fail
 rw [← hW1]
 clear hW1
 go_cut [5] (fun v5 wx => ∃ tm : Bool, v5 = .bool tm ∧ Zd (timedS s.f0 = tm) ∧ wx = W1)
 case first =>
  by_cases h6 : 6 ≤ s.f0
  ·by_cases h8 : s.f0 ≤ 8
   ·have HT := Zd.mk (show timedS s.f0 = true from by unfold timedS; rw [decide_eq_true h6, decide_eq_true h8]; rfl)
    go_wp2
    go_meet
    exact ⟨_, rfl, HT, rfl⟩
   ·have HT := Zd.mk (show timedS s.f0 = false from by unfold timedS; rw [decide_eq_false h8]; simp)
    go_wp2
    go_meet
    exact ⟨_, rfl, HT, rfl⟩
  ·have HT := Zd.mk (show timedS s.f0 = false from by unfold timedS; rw [decide_eq_false h6]; simp)
   go_wp2
   go_meet
   exact ⟨_, rfl, HT, rfl⟩
 case rest =>
  obtain ⟨tm, rfl, HT, hwc⟩ := hcut
  rw [hwc]
  clear hwc wc
  go_upto_if 28 with fail
  go_cut [] (fun wx => ∃ v1 v2, Zd (Rdr w0 wx rb sv lt (said ++ ownE s.f0 false) (good ++ ownE s.f0 false) v1 v2) ∧ Zd (Fr W1 rb (.slice A1 said.length c1) (.slice A2 good.length c2) wx v1 v2))
  case first =>
   cases tm with
   | false =>
    have HE := Zd.mk (show ownE s.f0 false = [] from by unfold ownE; rw [HT.out]; rfl)
    go_wp2
    go_meet
    exact ⟨_, _, ⟨by rw [HE.out, List.append_nil, List.append_nil]; exact HR1.out⟩, ⟨Fr.refl _ _ _ _⟩⟩
   | true =>
    have HE := Zd.mk (show ownE s.f0 false = [false] from by unfold ownE; rw [HT.out]; rfl)
    have HUS := Zd.mk hus
    obtain ⟨iB, hiB⟩ := infoB
    have HIB := Zd.mk hiB
    have GS := Zd.mk (show W1.heap.size ≤ W1.drew.heap.size from Nat.le_refl _)
    have T0 := Zd.mk HR1.out.two.drew
    have K0 := Zd.mk (show RdrB W1.drew rb sv lt (.slice A1 said.length c1) (.slice A2 good.length c2) from HR1.out.blk)
    have HBB := Zd.mk HR1.out.bl.size
    have hb := HBD.out
    have hg := HLG.out
    have HBD2 := HBD
    replace HBD := Zd.mk (show (said.length + 1 ≤ maxLen ∧ (said.length + 1) * 1 ≤ 140737488355328) ∧ (good.length + 1 ≤ maxLen ∧ (good.length + 1) * 1 ≤ 140737488355328) from by unfold maxLen; omega)
    clear hiB hb hg
    go_upto_region 4 with fail
    refine start_ (n := 20) (S := fun w' => True) (ds := []) Mk23_ (by kernel_rfl) rfl rfl trivial (fun hHeld => ?_)
    refine with_tabW rdr_value.tab4 rdr_value.bits4 (fun HT_ HW_ => ?_)
    refine pz HT_.out 0 (some 29) Mk24_ rfl rfl ?_
    refine pz HT_.out 1 (some 30) Mk25_ rfl rfl ?_
    refine pz HT_.out 2 (some 31) Mk26_ rfl rfl ?_
    refine pz HT_.out 3 (some 32) Mk27_ rfl rfl ?_
    refine pz HT_.out 4 (some 33) Mk28_ rfl rfl ?_
    refine pz HT_.out 8 (some 37) Mk29_ rfl rfl ?_
    refine pz HT_.out 9 (some 38) Mk30_ rfl rfl ?_
    refine pz HT_.out 10 (some 39) Mk31_ rfl rfl ?_
    refine inv_at [5, 6, 7, 11, 12, 13, 14, 15, 16, 17, 18, 19] (fun a0_ b a w' => ∃ (gb1 : Nat) (gb2 : Nat) (v1 : Value) (v2 : Value) (m6_ : Value) (m12_ : Value), a = putSel a0_ b [(5, 34, .slice A1 said.length c1), (6, 35, m6_), (7, 36, v1), (11, 40, .slice A2 good.length c2), (12, 41, m12_), (13, 42, v2), (14, 43, .pointer (some ⟨rb, 0, none⟩)), (15, 44, .pointer (some ⟨rb, 2, none⟩)), (17, 45, .pointer (some ⟨rb, 0, none⟩)), (18, 46, .pointer (some ⟨rb, 3, none⟩))] ∧ (W1.heap.size ≤ w'.heap.size) ∧ (b 7 = false → Two w0 W1 rb (.slice A1 said.length c1) (.slice A2 good.length c2) w' (.slice A1 said.length c1) said (.slice A2 good.length c2) good) ∧ (b 7 = true → b 13 = false → Two w0 W1 rb (.slice A1 said.length c1) (.slice A2 good.length c2) w' v1 (said ++ [false]) (.slice A2 good.length c2) good) ∧ (b 13 = true → Two w0 W1 rb (.slice A1 said.length c1) (.slice A2 good.length c2) w' v1 (said ++ [false]) v2 (good ++ [false])) ∧ (b 6 = true → b 7 = false → BK W1 w' gb1) ∧ (b 12 = true → b 13 = false → BK W1 w' gb2) ∧ (b 16 = false → RdrB w' rb sv lt (.slice A1 said.length c1) (.slice A2 good.length c2)) ∧ (b 16 = true → b 19 = false → RdrB w' rb sv lt v1 (.slice A2 good.length c2)) ∧ (b 19 = true → RdrB w' rb sv lt v1 v2) ∧ (b 6 = true → (m6_ : Value) = .slice (some ⟨gb1, 0, none⟩) 1 1) ∧ (b 12 = true → (m12_ : Value) = .slice (some ⟨gb2, 0, none⟩) 1 1)) HT_.out HW_.out (by kernel_rfl) (by kernel_rfl) ?_ ?_ ?_
    ·exact ⟨0, 0, .bool false, .bool false, .bool false, .bool false, by simp only [putSel, Bool.false_eq_true, if_false], GS.out, fun _ => T0.out, fun h_ => absurd h_ (by decide), fun h_ => absurd h_ (by decide), fun h_ => absurd h_ (by decide), fun h_ => absurd h_ (by decide), fun _ => K0.out, fun h_ => absurd h_ (by decide), fun h_ => absurd h_ (by decide), fun h_ => absurd h_ (by decide), fun h_ => absurd h_ (by decide)⟩
    ·skip
     clear GS K0 T0
     refine steps_cons ?_ ?_
     ·rintro b a w' ⟨gb1, gb2, v1, v2, m6_, m12_, ha, Q_GS, Q_T0, Q_T1, Q_T2, Q_B1, Q_B2, Q_K0, Q_K1, Q_K2, Q_X6_, Q_X12_⟩ hb_ hon hoff
      refine ⟨_, rfl, fun K hK => ?_⟩
      have e33 : a.tmps[33]? = some (.pointer (some ⟨rb, 2, none⟩)) := by rw [ha]; exact (putSel_off rfl).trans rfl
      replace ha := Zd.mk ha
      have GS := Zd.mk Q_GS
      have T0 := Zd.mk (Q_T0 (hoff 7 (by kernel_rfl)))
      have K0 := Zd.mk (Q_K0 (hoff 16 (by kernel_rfl)))
      have hk := rdrB_2 K0.out
      refine value_ (w1 := w') (v := .slice A1 said.length c1) (by rfl) rfl ?_ ?_
      ·go_simp
       (try simp only [i64_w])
       try rfl
      refine hK.out _ _ ⟨gb1, gb2, v1, v2, m6_, m12_, (by rw [ha.out]; exact putSel_upk 0 hb_ rfl rfl rfl), Q_GS, Q_T0, fun h0_ _ => no_ (hoff 7 (by kernel_rfl)) h0_, fun h0_ => no_ (hoff 13 (by kernel_rfl)) h0_, Q_B1, Q_B2, Q_K0, fun h0_ _ => no_ (hoff 16 (by kernel_rfl)) h0_, fun h0_ => no_ (hoff 19 (by kernel_rfl)) h0_, Q_X6_, Q_X12_⟩
     refine steps_cons ?_ ?_
     ·rintro b a w' ⟨gb1, gb2, v1, v2, m6_, m12_, ha, Q_GS, Q_T0, Q_T1, Q_T2, Q_B1, Q_B2, Q_K0, Q_K1, Q_K2, Q_X6_, Q_X12_⟩ hb_ hon hoff
      refine ⟨_, rfl, fun K hK => ?_⟩
      replace ha := Zd.mk ha
      have GS := Zd.mk Q_GS
      have T0 := Zd.mk (Q_T0 (hoff 7 (by kernel_rfl)))
      have K0 := Zd.mk (Q_K0 (hoff 16 (by kernel_rfl)))
      refine value_ (w1 := w'.alloc (.cells #[.bool false] 4)) (v := .slice (some ⟨w'.heap.size, 0, none⟩) 1 1) (by rfl) rfl ?_ ?_
      ·go_simp
      refine hK.out _ _ ⟨w'.heap.size, gb2, v1, v2, (.slice (some ⟨w'.heap.size, 0, none⟩) 1 1), m12_, (by rw [ha.out]; exact putSel_upk 1 hb_ rfl rfl rfl), le_alloc GS.out _, fun _ => T0.out.alloc _, fun h0_ _ => no_ (hoff 7 (by kernel_rfl)) h0_, fun h0_ => no_ (hoff 13 (by kernel_rfl)) h0_, fun _ _ => ⟨GS.out, heap_alloc_new w' _⟩, fun h0_ h1_ => ⟨(Q_B2 h0_ h1_).1, ba_ (Q_B2 h0_ h1_).2 _⟩, fun _ => ba_ K0.out _, fun h0_ _ => no_ (hoff 16 (by kernel_rfl)) h0_, fun h0_ => no_ (hoff 19 (by kernel_rfl)) h0_, fun _ => rfl, Q_X12_⟩
     refine steps_cons ?_ ?_
     ·rintro b a w' ⟨gb1, gb2, v1, v2, m6_, m12_, ha, Q_GS, Q_T0, Q_T1, Q_T2, Q_B1, Q_B2, Q_K0, Q_K1, Q_K2, Q_X6_, Q_X12_⟩ hb_ hon hoff
      refine ⟨_, rfl, fun K hK => ?_⟩
      have e34 : a.tmps[34]? = some (.slice A1 said.length c1) := by rw [ha]; exact putSel_on (e := (5, 34, .slice A1 said.length c1)) 0 rfl rfl (hon 5 (by kernel_rfl)) rfl
      have e35 : a.tmps[35]? = some (m6_) := by rw [ha]; exact putSel_on (e := (6, 35, m6_)) 1 rfl rfl (hon 6 (by kernel_rfl)) rfl
      rw [Q_X6_ (hon 6 (by kernel_rfl))] at e35
      replace ha := Zd.mk ha
      have GS := Zd.mk Q_GS
      have T0 := Zd.mk (Q_T0 hb_)
      have B1 := Zd.mk (Q_B1 (hon 6 (by kernel_rfl)) hb_)
      have K0 := Zd.mk (Q_K0 (hoff 16 (by kernel_rfl)))
      refine step_append_lies _ rfl (.tmp 34) (.tmp 35) 67 (by rfl) w0.heap.size 4 iB (.bool false) 1 1 HUS.out HIB.out.1 HIB.out.2.1 HIB.out.2.2.1 HIB.out.2.2.2 rfl (by decide) (.slice A1 said.length c1) _ _ (eval_of e34) T0.out.o1 ⟨gb1, 0, none⟩ 1 1 [.bool false] (eval_of e35) rfl (World.news_of_block B1.out.2) (by intro u hu; rw [List.mem_singleton.1 hu]; rfl) (by decide) HBD.out.1.1 HBD.out.1.2 (Nat.le_trans HBB.out GS.out) w'.heap.size rfl ?_
      intro g cap w1 hown hgrow hat hlt
      refine hK.out _ _ ⟨gb1, gb2, (.slice (some ⟨g, 0, none⟩) (said.length + 1) cap), v2, m6_, m12_, (by rw [ha.out]; exact putSel_upk 2 hb_ rfl rfl rfl), Nat.le_trans GS.out hgrow.size, fun h0_ => absurd ((up_self b 7).symm.trans h0_) (by decide), fun _ _ => T0.out.app1 hown hgrow hat, fun h0_ => no_ (hoff 13 (by kernel_rfl)) h0_, fun _ h1_ => absurd ((up_self b 7).symm.trans h1_) (by decide), fun h0_ h1_ => T0.out.keepB1 (Q_B2 h0_ h1_) hgrow, fun _ => T0.out.keepR1 K0.out hgrow, fun h0_ _ => no_ (hoff 16 (by kernel_rfl)) h0_, fun h0_ => no_ (hoff 19 (by kernel_rfl)) h0_, Q_X6_, Q_X12_⟩
     refine steps_cons ?_ ?_
     ·rintro b a w' ⟨gb1, gb2, v1, v2, m6_, m12_, ha, Q_GS, Q_T0, Q_T1, Q_T2, Q_B1, Q_B2, Q_K0, Q_K1, Q_K2, Q_X6_, Q_X12_⟩ hb_ hon hoff
      refine ⟨_, rfl, fun K hK => ?_⟩
      have e39 : a.tmps[39]? = some (.pointer (some ⟨rb, 3, none⟩)) := by rw [ha]; exact (putSel_off rfl).trans rfl
      replace ha := Zd.mk ha
      have GS := Zd.mk Q_GS
      have K0 := Zd.mk (Q_K0 (hoff 16 (by kernel_rfl)))
      have hk := rdrB_3 K0.out
      refine value_ (w1 := w') (v := .slice A2 good.length c2) (by rfl) rfl ?_ ?_
      ·go_simp
       (try simp only [i64_w])
       try rfl
      refine hK.out _ _ ⟨gb1, gb2, v1, v2, m6_, m12_, (by rw [ha.out]; exact putSel_upk 3 hb_ rfl rfl rfl), Q_GS, Q_T0, Q_T1, fun h0_ => no_ (hoff 13 (by kernel_rfl)) h0_, Q_B1, Q_B2, Q_K0, fun h0_ _ => no_ (hoff 16 (by kernel_rfl)) h0_, fun h0_ => no_ (hoff 19 (by kernel_rfl)) h0_, Q_X6_, Q_X12_⟩
     refine steps_cons ?_ ?_
     ·rintro b a w' ⟨gb1, gb2, v1, v2, m6_, m12_, ha, Q_GS, Q_T0, Q_T1, Q_T2, Q_B1, Q_B2, Q_K0, Q_K1, Q_K2, Q_X6_, Q_X12_⟩ hb_ hon hoff
      refine ⟨_, rfl, fun K hK => ?_⟩
      replace ha := Zd.mk ha
      have GS := Zd.mk Q_GS
      have K0 := Zd.mk (Q_K0 (hoff 16 (by kernel_rfl)))
      refine value_ (w1 := w'.alloc (.cells #[.bool false] 4)) (v := .slice (some ⟨w'.heap.size, 0, none⟩) 1 1) (by rfl) rfl ?_ ?_
      ·go_simp
      refine hK.out _ _ ⟨gb1, w'.heap.size, v1, v2, m6_, (.slice (some ⟨w'.heap.size, 0, none⟩) 1 1), (by rw [ha.out]; exact putSel_upk 4 hb_ rfl rfl rfl), le_alloc GS.out _, fun h0_ => (Q_T0 h0_).alloc _, fun h0_ h1_ => (Q_T1 h0_ h1_).alloc _, fun h0_ => no_ (hoff 13 (by kernel_rfl)) h0_, fun h0_ h1_ => ⟨(Q_B1 h0_ h1_).1, ba_ (Q_B1 h0_ h1_).2 _⟩, fun _ _ => ⟨GS.out, heap_alloc_new w' _⟩, fun _ => ba_ K0.out _, fun h0_ _ => no_ (hoff 16 (by kernel_rfl)) h0_, fun h0_ => no_ (hoff 19 (by kernel_rfl)) h0_, Q_X6_, fun _ => rfl⟩
     refine steps_cons ?_ ?_
     ·rintro b a w' ⟨gb1, gb2, v1, v2, m6_, m12_, ha, Q_GS, Q_T0, Q_T1, Q_T2, Q_B1, Q_B2, Q_K0, Q_K1, Q_K2, Q_X6_, Q_X12_⟩ hb_ hon hoff
      refine ⟨_, rfl, fun K hK => ?_⟩
      have e40 : a.tmps[40]? = some (.slice A2 good.length c2) := by rw [ha]; exact putSel_on (e := (11, 40, .slice A2 good.length c2)) 3 rfl rfl (hon 11 (by kernel_rfl)) rfl
      have e41 : a.tmps[41]? = some (m12_) := by rw [ha]; exact putSel_on (e := (12, 41, m12_)) 4 rfl rfl (hon 12 (by kernel_rfl)) rfl
      rw [Q_X12_ (hon 12 (by kernel_rfl))] at e41
      replace ha := Zd.mk ha
      have GS := Zd.mk Q_GS
      have T1 := Zd.mk (Q_T1 (hon 7 (by kernel_rfl)) hb_)
      have B2 := Zd.mk (Q_B2 (hon 12 (by kernel_rfl)) hb_)
      have K0 := Zd.mk (Q_K0 (hoff 16 (by kernel_rfl)))
      refine step_append_lies _ rfl (.tmp 40) (.tmp 41) 67 (by rfl) w0.heap.size 4 iB (.bool false) 1 1 HUS.out HIB.out.1 HIB.out.2.1 HIB.out.2.2.1 HIB.out.2.2.2 rfl (by decide) (.slice A2 good.length c2) _ _ (eval_of e40) T1.out.o2 ⟨gb2, 0, none⟩ 1 1 [.bool false] (eval_of e41) rfl (World.news_of_block B2.out.2) (by intro u hu; rw [List.mem_singleton.1 hu]; rfl) (by decide) HBD.out.2.1 HBD.out.2.2 (Nat.le_trans HBB.out GS.out) w'.heap.size rfl ?_
      intro g cap w1 hown hgrow hat hlt
      refine hK.out _ _ ⟨gb1, gb2, v1, (.slice (some ⟨g, 0, none⟩) (good.length + 1) cap), m6_, m12_, (by rw [ha.out]; exact putSel_upk 5 hb_ rfl rfl rfl), Nat.le_trans GS.out hgrow.size, fun h0_ => absurd ((hon 7 (by kernel_rfl)).symm.trans h0_) (by decide), fun _ h1_ => absurd ((up_self b 13).symm.trans h1_) (by decide), fun _ => T1.out.app2 hown hgrow hat, fun _ h1_ => absurd ((hon 7 (by kernel_rfl)).symm.trans h1_) (by decide), fun _ h1_ => absurd ((up_self b 13).symm.trans h1_) (by decide), fun _ => T1.out.keepR2 K0.out hgrow, fun h0_ _ => no_ (hoff 16 (by kernel_rfl)) h0_, fun h0_ => no_ (hoff 19 (by kernel_rfl)) h0_, Q_X6_, Q_X12_⟩
     refine steps_cons ?_ ?_
     ·rintro b a w' ⟨gb1, gb2, v1, v2, m6_, m12_, ha, Q_GS, Q_T0, Q_T1, Q_T2, Q_B1, Q_B2, Q_K0, Q_K1, Q_K2, Q_X6_, Q_X12_⟩ hb_ hon hoff
      refine ⟨_, rfl, fun K hK => ?_⟩
      have e29 : a.tmps[29]? = some (.pointer (some ⟨rb, 0, none⟩)) := by rw [ha]; exact (putSel_off rfl).trans rfl
      replace ha := Zd.mk ha
      have GS := Zd.mk Q_GS
      have T2 := Zd.mk (Q_T2 (hon 13 (by kernel_rfl)))
      have K0 := Zd.mk (Q_K0 (hoff 16 (by kernel_rfl)))
      refine value_ (w1 := w') (v := .pointer (some ⟨rb, 0, none⟩)) (by rfl) rfl ?_ ?_
      ·go_simp
       (try simp only [i64_w])
       try rfl
      refine hK.out _ _ ⟨gb1, gb2, v1, v2, m6_, m12_, (by rw [ha.out]; exact putSel_upk 6 hb_ rfl rfl rfl), Q_GS, fun h0_ => absurd ((hon 7 (by kernel_rfl)).symm.trans h0_) (by decide), fun _ h1_ => absurd ((hon 13 (by kernel_rfl)).symm.trans h1_) (by decide), Q_T2, fun _ h1_ => absurd ((hon 7 (by kernel_rfl)).symm.trans h1_) (by decide), fun _ h1_ => absurd ((hon 13 (by kernel_rfl)).symm.trans h1_) (by decide), Q_K0, fun h0_ _ => no_ (hoff 16 (by kernel_rfl)) h0_, fun h0_ => no_ (hoff 19 (by kernel_rfl)) h0_, Q_X6_, Q_X12_⟩
     refine steps_cons ?_ ?_
     ·rintro b a w' ⟨gb1, gb2, v1, v2, m6_, m12_, ha, Q_GS, Q_T0, Q_T1, Q_T2, Q_B1, Q_B2, Q_K0, Q_K1, Q_K2, Q_X6_, Q_X12_⟩ hb_ hon hoff
      refine ⟨_, rfl, fun K hK => ?_⟩
      have e43 : a.tmps[43]? = some (.pointer (some ⟨rb, 0, none⟩)) := by rw [ha]; exact putSel_on (e := (14, 43, .pointer (some ⟨rb, 0, none⟩))) 6 rfl rfl (hon 14 (by kernel_rfl)) rfl
      replace ha := Zd.mk ha
      have GS := Zd.mk Q_GS
      have T2 := Zd.mk (Q_T2 (hon 13 (by kernel_rfl)))
      have K0 := Zd.mk (Q_K0 (hoff 16 (by kernel_rfl)))
      refine value_ (w1 := w') (v := .pointer (some ⟨rb, 2, none⟩)) (by rfl) rfl ?_ ?_
      ·go_simp
       (try simp only [i64_w])
       try rfl
      refine hK.out _ _ ⟨gb1, gb2, v1, v2, m6_, m12_, (by rw [ha.out]; exact putSel_upk 7 hb_ rfl rfl rfl), Q_GS, fun h0_ => absurd ((hon 7 (by kernel_rfl)).symm.trans h0_) (by decide), fun _ h1_ => absurd ((hon 13 (by kernel_rfl)).symm.trans h1_) (by decide), Q_T2, fun _ h1_ => absurd ((hon 7 (by kernel_rfl)).symm.trans h1_) (by decide), fun _ h1_ => absurd ((hon 13 (by kernel_rfl)).symm.trans h1_) (by decide), Q_K0, fun h0_ _ => no_ (hoff 16 (by kernel_rfl)) h0_, fun h0_ => no_ (hoff 19 (by kernel_rfl)) h0_, Q_X6_, Q_X12_⟩
     refine steps_cons ?_ ?_
     ·rintro b a w' ⟨gb1, gb2, v1, v2, m6_, m12_, ha, Q_GS, Q_T0, Q_T1, Q_T2, Q_B1, Q_B2, Q_K0, Q_K1, Q_K2, Q_X6_, Q_X12_⟩ hb_ hon hoff
      refine ⟨_, rfl, fun K hK => ?_⟩
      have e44 : a.tmps[44]? = some (.pointer (some ⟨rb, 2, none⟩)) := by rw [ha]; exact putSel_on (e := (15, 44, .pointer (some ⟨rb, 2, none⟩))) 7 rfl rfl (hon 15 (by kernel_rfl)) rfl
      have e36 : a.tmps[36]? = some (v1) := by rw [ha]; exact putSel_on (e := (7, 36, v1)) 2 rfl rfl (hon 7 (by kernel_rfl)) rfl
      replace ha := Zd.mk ha
      have GS := Zd.mk Q_GS
      have T2 := Zd.mk (Q_T2 (hon 13 (by kernel_rfl)))
      have K0 := Zd.mk (Q_K0 hb_)
      obtain ⟨A_, c_, rfl, _⟩ := own_form T2.out.o1
      have hc := rdrB_2 K0.out
      have hf := bz_ K0.out 2
      refine skip_ (w1 := w'.setCell ⟨rb, 2, none⟩ (.slice A_ (said ++ [false]).length c_)) (by rfl) rfl ?_ ?_
      ·go_simp
      refine hK.out _ _ ⟨gb1, gb2, (.slice A_ (said ++ [false]).length c_), v2, m6_, m12_, (by rw [ha.out]; exact putSel_none (v := undef) rfl), le_set GS.out _ _, fun h0_ => absurd ((hon 7 (by kernel_rfl)).symm.trans h0_) (by decide), fun _ h1_ => absurd ((hon 13 (by kernel_rfl)).symm.trans h1_) (by decide), fun _ => T2.out.setR _ _, fun _ h1_ => absurd ((hon 7 (by kernel_rfl)).symm.trans h1_) (by decide), fun _ h1_ => absurd ((hon 13 (by kernel_rfl)).symm.trans h1_) (by decide), fun h0_ => absurd ((up_self b 16).symm.trans h0_) (by decide), fun _ _ => rdrB_set2 K0.out _, fun h0_ => no_ (hoff 19 (by kernel_rfl)) h0_, Q_X6_, Q_X12_⟩
     refine steps_cons ?_ ?_
     ·rintro b a w' ⟨gb1, gb2, v1, v2, m6_, m12_, ha, Q_GS, Q_T0, Q_T1, Q_T2, Q_B1, Q_B2, Q_K0, Q_K1, Q_K2, Q_X6_, Q_X12_⟩ hb_ hon hoff
      refine ⟨_, rfl, fun K hK => ?_⟩
      have e30 : a.tmps[30]? = some (.pointer (some ⟨rb, 0, none⟩)) := by rw [ha]; exact (putSel_off rfl).trans rfl
      replace ha := Zd.mk ha
      have GS := Zd.mk Q_GS
      have T2 := Zd.mk (Q_T2 (hon 13 (by kernel_rfl)))
      have K1 := Zd.mk (Q_K1 (hon 16 (by kernel_rfl)) (hoff 19 (by kernel_rfl)))
      refine value_ (w1 := w') (v := .pointer (some ⟨rb, 0, none⟩)) (by rfl) rfl ?_ ?_
      ·go_simp
       (try simp only [i64_w])
       try rfl
      refine hK.out _ _ ⟨gb1, gb2, v1, v2, m6_, m12_, (by rw [ha.out]; exact putSel_upk 8 hb_ rfl rfl rfl), Q_GS, fun h0_ => absurd ((hon 7 (by kernel_rfl)).symm.trans h0_) (by decide), fun _ h1_ => absurd ((hon 13 (by kernel_rfl)).symm.trans h1_) (by decide), Q_T2, fun _ h1_ => absurd ((hon 7 (by kernel_rfl)).symm.trans h1_) (by decide), fun _ h1_ => absurd ((hon 13 (by kernel_rfl)).symm.trans h1_) (by decide), fun h0_ => absurd ((hon 16 (by kernel_rfl)).symm.trans h0_) (by decide), Q_K1, fun h0_ => no_ (hoff 19 (by kernel_rfl)) h0_, Q_X6_, Q_X12_⟩
     refine steps_cons ?_ ?_
     ·rintro b a w' ⟨gb1, gb2, v1, v2, m6_, m12_, ha, Q_GS, Q_T0, Q_T1, Q_T2, Q_B1, Q_B2, Q_K0, Q_K1, Q_K2, Q_X6_, Q_X12_⟩ hb_ hon hoff
      refine ⟨_, rfl, fun K hK => ?_⟩
      have e45 : a.tmps[45]? = some (.pointer (some ⟨rb, 0, none⟩)) := by rw [ha]; exact putSel_on (e := (17, 45, .pointer (some ⟨rb, 0, none⟩))) 8 rfl rfl (hon 17 (by kernel_rfl)) rfl
      replace ha := Zd.mk ha
      have GS := Zd.mk Q_GS
      have T2 := Zd.mk (Q_T2 (hon 13 (by kernel_rfl)))
      have K1 := Zd.mk (Q_K1 (hon 16 (by kernel_rfl)) (hoff 19 (by kernel_rfl)))
      refine value_ (w1 := w') (v := .pointer (some ⟨rb, 3, none⟩)) (by rfl) rfl ?_ ?_
      ·go_simp
       (try simp only [i64_w])
       try rfl
      refine hK.out _ _ ⟨gb1, gb2, v1, v2, m6_, m12_, (by rw [ha.out]; exact putSel_upk 9 hb_ rfl rfl rfl), Q_GS, fun h0_ => absurd ((hon 7 (by kernel_rfl)).symm.trans h0_) (by decide), fun _ h1_ => absurd ((hon 13 (by kernel_rfl)).symm.trans h1_) (by decide), Q_T2, fun _ h1_ => absurd ((hon 7 (by kernel_rfl)).symm.trans h1_) (by decide), fun _ h1_ => absurd ((hon 13 (by kernel_rfl)).symm.trans h1_) (by decide), fun h0_ => absurd ((hon 16 (by kernel_rfl)).symm.trans h0_) (by decide), Q_K1, fun h0_ => no_ (hoff 19 (by kernel_rfl)) h0_, Q_X6_, Q_X12_⟩
     refine steps_cons ?_ ?_
     ·rintro b a w' ⟨gb1, gb2, v1, v2, m6_, m12_, ha, Q_GS, Q_T0, Q_T1, Q_T2, Q_B1, Q_B2, Q_K0, Q_K1, Q_K2, Q_X6_, Q_X12_⟩ hb_ hon hoff
      refine ⟨_, rfl, fun K hK => ?_⟩
      have e46 : a.tmps[46]? = some (.pointer (some ⟨rb, 3, none⟩)) := by rw [ha]; exact putSel_on (e := (18, 46, .pointer (some ⟨rb, 3, none⟩))) 9 rfl rfl (hon 18 (by kernel_rfl)) rfl
      have e42 : a.tmps[42]? = some (v2) := by rw [ha]; exact putSel_on (e := (13, 42, v2)) 5 rfl rfl (hon 13 (by kernel_rfl)) rfl
      replace ha := Zd.mk ha
      have GS := Zd.mk Q_GS
      have T2 := Zd.mk (Q_T2 (hon 13 (by kernel_rfl)))
      have K1 := Zd.mk (Q_K1 (hon 16 (by kernel_rfl)) hb_)
      obtain ⟨A_, c_, rfl, _⟩ := own_form T2.out.o2
      have hc := rdrB_3 K1.out
      have hf := bz_ K1.out 3
      refine skip_ (w1 := w'.setCell ⟨rb, 3, none⟩ (.slice A_ (good ++ [false]).length c_)) (by rfl) rfl ?_ ?_
      ·go_simp
      refine hK.out _ _ ⟨gb1, gb2, v1, (.slice A_ (good ++ [false]).length c_), m6_, m12_, (by rw [ha.out]; exact putSel_none (v := undef) rfl), le_set GS.out _ _, fun h0_ => absurd ((hon 7 (by kernel_rfl)).symm.trans h0_) (by decide), fun _ h1_ => absurd ((hon 13 (by kernel_rfl)).symm.trans h1_) (by decide), fun _ => T2.out.setR _ _, fun _ h1_ => absurd ((hon 7 (by kernel_rfl)).symm.trans h1_) (by decide), fun _ h1_ => absurd ((hon 13 (by kernel_rfl)).symm.trans h1_) (by decide), fun h0_ => absurd ((hon 16 (by kernel_rfl)).symm.trans h0_) (by decide), fun _ h1_ => absurd ((up_self b 19).symm.trans h1_) (by decide), fun _ => rdrB_set3 K1.out _, Q_X6_, Q_X12_⟩
     exact steps_nil
    ·rintro b a w' hall ⟨gb1, gb2, v1, v2, m6_, m12_, ha, Q_GS, Q_T0, Q_T1, Q_T2, Q_B1, Q_B2, Q_K0, Q_K1, Q_K2, Q_X6_, Q_X12_⟩
     clear GS K0 T0
     have hb5_ := hall 5 (by kernel_rfl)
     have hb6_ := hall 6 (by kernel_rfl)
     have hb7_ := hall 7 (by kernel_rfl)
     have hb11_ := hall 11 (by kernel_rfl)
     have hb12_ := hall 12 (by kernel_rfl)
     have hb13_ := hall 13 (by kernel_rfl)
     have hb14_ := hall 14 (by kernel_rfl)
     have hb15_ := hall 15 (by kernel_rfl)
     have hb16_ := hall 16 (by kernel_rfl)
     have hb17_ := hall 17 (by kernel_rfl)
     have hb18_ := hall 18 (by kernel_rfl)
     have hb19_ := hall 19 (by kernel_rfl)
     subst ha
     obtain rfl := Q_X6_ hb6_
     obtain rfl := Q_X12_ hb12_
     simp only [putSel, hb5_, hb6_, hb7_, hb11_, hb12_, hb13_, hb14_, hb15_, hb16_, hb17_, hb18_, hb19_, if_true, Act.put, List.setIfInBounds_toArray, List.set_cons_zero, List.set_cons_succ]
     have GS := Zd.mk Q_GS
     clear Q_GS
     clear Q_T0
     clear Q_T1
     have T2 := Zd.mk (Q_T2 hb13_)
     clear Q_T2
     clear Q_B1
     clear Q_B2
     clear Q_K0
     clear Q_K1
     have K2 := Zd.mk (Q_K2 hb19_)
     clear Q_K2
     clear hall hb5_ hb6_ hb7_ hb11_ hb12_ hb13_ hb14_ hb15_ hb16_ hb17_ hb18_ hb19_
     go_wp2_with fail
     go_meet
     have hfin := T2.out.rdr K2.out
     exact ⟨v1, v2, ⟨by rw [HE.out]; exact hfin.1⟩, ⟨hfin.2⟩⟩
  case rest =>
   obtain ⟨y1, y2v, HRb, HFb⟩ := hcut
   have hbxc := HBOX.out _ _ _ HFb.out
   have z2 : wc.cell? ⟨w.heap.size, 2, none⟩ = some (.slice A s.f2.length cp) := (bq_ hbxc 2).trans rfl
   obtain ⟨K, hK⟩ : ∃ K, K = said.length + tS s.f0 := ⟨_, rfl⟩
   have HKD := Zd.mk hK
   have hsl : (said ++ ownE s.f0 false).length = K := by rw [List.length_append, len_own, hK]
   have hgl : (good ++ ownE s.f0 false).length = K := by rw [List.length_append, len_own, hK, HLG.out]
   have HSL := Zd.mk hsl
   have HGL := Zd.mk hgl
   have HLT := Zd.mk (show K + tnL s.f2 ≤ 60 from by have := HBD.out; have := HTN.out; omega)
   clear hbxc x0 y2 hK hsl hgl
   have hlen := Kd.C_max HK.out
   go_wp2
   go_loopg [50, 7, 8] s.f2.length (fun kq v50 v7 v8 w' => ∃ (j : Nat) (pre sd gd : List Bool) (x1 x2 : Value), j + kq = s.f2.length ∧ v50 = .int .i64 j ∧ v7 = .bool (pre.getD 0 false) ∧ v8 = .bool (pre.getD 1 false) ∧ Zd (pre.length = j) ∧ Zd (pre ++ valL sv lt (s.f2.drop j) sd.length = valL sv lt s.f2 K) ∧ Zd (sd ++ saidL sv lt (s.f2.drop j) sd.length = said ++ ownE s.f0 false ++ saidL sv lt s.f2 K) ∧ Zd (gd ++ goodL sv lt (s.f2.drop j) sd.length = good ++ ownE s.f0 false ++ goodL sv lt s.f2 K) ∧ Zd (sd.length = gd.length) ∧ Zd (sd.length + tnL (s.f2.drop j) = K + tnL s.f2) ∧ Zd (Rdr w0 w' rb sv lt sd gd x1 x2) ∧ Zd (Fr W1 rb (.slice A1 said.length c1) (.slice A2 good.length c2) w' x1 x2))
   case atStart => exact ⟨0, [], said ++ ownE s.f0 false, good ++ ownE s.f0 false, y1, y2v, by omega, rfl, rfl, rfl, ⟨rfl⟩, ⟨by rw [HSL.out]; rfl⟩, ⟨by rw [HSL.out]; rfl⟩, ⟨by rw [HSL.out]; rfl⟩, ⟨by rw [HSL.out, HGL.out]⟩, ⟨by rw [HSL.out]; rfl⟩, HRb, HFb⟩
   case round =>
    obtain ⟨j, pre, sd, gd, x1, x2, hj, rfl, rfl, rfl, HPL, HPV, HPS, HPG, HLQ, HTQ, HRd, HFd⟩ := hrel
    have HJ := Zd.mk hj
    clear hj
    by_cases hlt : j < s.f2.length
    ·obtain ⟨ad, A3, cp3, e0, hx0, hx1, hx2, hl3, hk3⟩ := kid_at HK.out HRd.out.bl j hlt hlt
     cases e0
     have HK3 := Zd.mk hk3
     have HL3 := Zd.mk hl3
     clear hk3 hl3
     have hd := List.drop_eq_getElem_cons hlt
     have HD := Zd.mk hd
     clear hd
     have htn : sd.length + tnS (s.f2[j]'hlt) ≤ 60 := by
      have h1 := HTQ.out
      rw [HD.out] at h1
      have h2 := HLT.out
      simp only [tnL] at h1
      omega
     have HKK := Zd.mk (fun W h => HIH.out (s.f2[j]'hlt) (List.getElem_mem hlt) rb sv lt sd gd x1 x2 A3 cp3 W h HLQ.out htn HK3.out HL3.out (sound_kid HS.out j hlt))
     clear htn
     have hPV : (pre ++ [valS sv lt (s.f2[j]'hlt) sd.length]) ++ valL sv lt (s.f2.drop (j + 1)) (sd.length + tnS (s.f2[j]'hlt)) = valL sv lt s.f2 K := by
      rw [← HPV.out, HD.out, valL, List.append_assoc]; rfl
     have hPS : (sd ++ saidS sv lt (s.f2[j]'hlt) sd.length) ++ saidL sv lt (s.f2.drop (j + 1)) (sd.length + tnS (s.f2[j]'hlt)) = said ++ ownE s.f0 false ++ saidL sv lt s.f2 K := by
      rw [← HPS.out, HD.out, saidL, List.append_assoc]
     have hPG : (gd ++ goodS sv lt (s.f2[j]'hlt) sd.length) ++ goodL sv lt (s.f2.drop (j + 1)) (sd.length + tnS (s.f2[j]'hlt)) = good ++ ownE s.f0 false ++ goodL sv lt s.f2 K := by
      rw [← HPG.out, HD.out, goodL, List.append_assoc]
     have hQL : (sd ++ saidS sv lt (s.f2[j]'hlt) sd.length).length = sd.length + tnS (s.f2[j]'hlt) := by rw [List.length_append, len_said]
     have hQG : (gd ++ goodS sv lt (s.f2[j]'hlt) sd.length).length = sd.length + tnS (s.f2[j]'hlt) := by rw [List.length_append, len_good, HLQ.out]
     have hTN : sd.length + tnS (s.f2[j]'hlt) + tnL (s.f2.drop (j + 1)) = K + tnL s.f2 := by rw [← HTQ.out, HD.out, tnL]; omega
     have HPV2 := Zd.mk hPV
     have HPS2 := Zd.mk hPS
     have HPG2 := Zd.mk hPG
     have HQL := Zd.mk hQL
     have HQG := Zd.mk hQG
     have HTN2 := Zd.mk hTN
     clear hPV hPS hPG hQL hQG hTN
     obtain ⟨vv, hvv⟩ : ∃ vv, vv = valS sv lt (s.f2[j]'hlt) sd.length := ⟨_, rfl⟩
     rw [← hvv] at HPV2
     have HVV := Zd.mk hvv
     clear hvv
     by_cases hj0 : j = 0
     ·have hjb : ((j : Int) == 0) = true := by rw [hj0]; rfl
      have hp0 : pre = [] := List.length_eq_zero_iff.1 (by rw [HPL.out, hj0])
      subst hp0
      have HJ0 := Zd.mk hj0
      clear hj0
      go_wp2_with (go_at_call 95; refine (HKK.out _ (HRd.out.alloc _)).mono ?_; rintro e w2 ⟨rfl, u1, u2, hR2, hF2⟩; have HR2 := Zd.mk hR2; have HF2 := Zd.mk (HFd.out.alloc _ |>.trans hF2); clear hR2 hF2; rw [← HVV.out])
      go_roundg (gk - 1)
      case measure => have := HJ.out; omega
      case rel => exact ⟨j + 1, [vv], _, _, u1, u2, by have := HJ.out; omega, by go_num, rfl, rfl, ⟨by rw [HJ0.out]; rfl⟩, ⟨by rw [HQL.out]; exact HPV2.out⟩, ⟨by rw [HQL.out]; exact HPS2.out⟩, ⟨by rw [HQL.out]; exact HPG2.out⟩, ⟨by rw [HQL.out, HQG.out]⟩, ⟨by rw [HQL.out]; exact HTN2.out⟩, HR2, HF2⟩
     ·have hjb : ((j : Int) == 0) = false := beq_eq_false_iff_ne.2 (by omega)
      have hj1 : j = 1 := by omega
      obtain ⟨pa, rfl⟩ : ∃ pa, pre = [pa] := List.length_eq_one_iff.1 (by rw [HPL.out, hj1])
      have HJ1 := Zd.mk hj1
      clear hj1 hj0
      go_wp2_with (go_at_call 95; refine (HKK.out _ (HRd.out.alloc _)).mono ?_; rintro e w2 ⟨rfl, u1, u2, hR2, hF2⟩; have HR2 := Zd.mk hR2; have HF2 := Zd.mk (HFd.out.alloc _ |>.trans hF2); clear hR2 hF2; rw [← HVV.out])
      go_roundg (gk - 1)
      case measure => have := HJ.out; omega
      case rel => exact ⟨j + 1, [pa, vv], _, _, u1, u2, by have := HJ.out; omega, by go_num, rfl, rfl, ⟨by rw [HJ1.out]; rfl⟩, ⟨by rw [HQL.out]; exact HPV2.out⟩, ⟨by rw [HQL.out]; exact HPS2.out⟩, ⟨by rw [HQL.out]; exact HPG2.out⟩, ⟨by rw [HQL.out, HQG.out]⟩, ⟨by rw [HQL.out]; exact HTN2.out⟩, HR2, HF2⟩
    ·have hdr : s.f2.drop j = [] := List.drop_eq_nil_of_le (by omega)
     have hpv : pre = valL sv lt s.f2 K := by have := HPV.out; rw [hdr, valL, List.append_nil] at this; exact this
     have hps : sd = said ++ ownE s.f0 false ++ saidL sv lt s.f2 K := by have := HPS.out; rw [hdr, saidL, List.append_nil] at this; exact this
     have hpg : gd = good ++ ownE s.f0 false ++ goodL sv lt s.f2 K := by have := HPG.out; rw [hdr, goodL, List.append_nil] at this; exact this
     have hEQ := HEQ.out
     rw [← HKD.out, ← hpv] at hEQ
     obtain ⟨xa, hxa⟩ : ∃ xa, xa = pre.getD 0 false := ⟨_, rfl⟩
     obtain ⟨xb, hxb⟩ : ∃ xb, xb = pre.getD 1 false := ⟨_, rfl⟩
     rw [← hxa, ← hxb] at hEQ
     rw [← hxa, ← hxb]
     have HEQ2 := Zd.mk hEQ
     have HPS2 := Zd.mk hps
     have HPG2 := Zd.mk hpg
     have hbxc := HBOX.out _ _ _ HFd.out
     have z0 : wr.cell? ⟨w.heap.size, 0, none⟩ = some (.int .i64 s.f0) := (bq_ hbxc 0).trans rfl
     have z1 : wr.cell? ⟨w.heap.size, 1, none⟩ = some (.int .i64 s.f1) := (bq_ hbxc 1).trans rfl
     have r0 := rdrB_0 HRd.out.blk
     have r1 := rdrB_1 HRd.out.blk
     have r2 := rdrB_2 HRd.out.blk
     have r3 := rdrB_3 HRd.out.blk
     have hkb : said.length ≤ 60 := by have := HBD.out; omega
     clear hdr hpv hps hpg hEQ hxa hxb hbxc
     go_upto_region 14 with fail
     go_cut [12] (fun v12 wx => v12 = .bool (tm && bitK sv said.length) ∧ wx = wr)
     case first =>
      cases tm with
      | false =>
       go_wp2
       go_meet
       exact ⟨rfl, rfl⟩
      | true =>
       go_wp2
       go_meet
       exact ⟨rfl, rfl⟩
     case rest =>
      obtain ⟨rfl, hwc⟩ := hcut
      rw [hwc]
      clear hwc wc
      rcases HOP.out with hop | hop | hop | hop | hop | hop | hop | hop
      ·-- op 1
       have hmm := HM0.out
       rw [hop] at z0 hmm
       have htm : tm = false := by rw [← HT.out, hop]; rfl
       subst htm
       have hval : valS sv lt s said.length = (true) := by
        rw [HEQ2.out.1, hop]; unfold valOp
        rw [if_neg (by decide), if_neg (by decide), if_neg (by decide), if_neg (by decide), if_neg (by decide), if_neg (by decide), if_neg (by decide)]
       have HV := Zd.mk hval
       have hfs : said ++ saidS sv lt s said.length = sd := by rw [HEQ2.out.2.1, HPS2.out, hop]; unfold ownE; rw [if_neg (by decide), if_neg (by decide), List.append_nil, List.nil_append]
       have hfg : good ++ goodS sv lt s said.length = gd := by rw [HEQ2.out.2.2, HPG2.out, hop]; unfold ownE; rw [if_neg (by decide), if_neg (by decide), List.append_nil, List.nil_append]
       have HFS := Zd.mk hfs
       have HFG := Zd.mk hfg
       clear hval hfs hfg
       clear hmm
       go_wp2
       go_ret
       exact ⟨by rw [HV.out]; rfl, x1, x2, by rw [HFS.out, HFG.out]; exact HRd.out, HF1.out.trans HFd.out⟩
      ·-- op 2
       have hmm := HM0.out
       rw [hop] at z0 hmm
       have htm : tm = false := by rw [← HT.out, hop]; rfl
       subst htm
       have hval : valS sv lt s said.length = (bitS lt s.f1) := by
        rw [HEQ2.out.1, hop]; unfold valOp
        rw [if_pos rfl]
       have HV := Zd.mk hval
       have hfs : said ++ saidS sv lt s said.length = sd := by rw [HEQ2.out.2.1, HPS2.out, hop]; unfold ownE; rw [if_neg (by decide), if_neg (by decide), List.append_nil, List.nil_append]
       have hfg : good ++ goodS sv lt s said.length = gd := by rw [HEQ2.out.2.2, HPG2.out, hop]; unfold ownE; rw [if_neg (by decide), if_neg (by decide), List.append_nil, List.nil_append]
       have HFS := Zd.mk hfs
       have HFG := Zd.mk hfg
       clear hval hfs hfg
       have hm2 : mostS 2 = 19 := by decide
       have hw : IntKind.u64.wrap s.f1 = s.f1 := u64_id hmm.1 (by omega)
       have HBT := Zd.mk (show bitS lt s.f1 = ((Go.bits .and .u32 (lt / 2 ^ s.f1.toNat) 1) == 1) from by unfold bitS; rw [hw, ← shr_small (k := .u32) (x := lt) (y := s.f1) rfl (by show s.f1 ≤ 32; omega)])
       have hm0 := hmm.1
       have hm1 : s.f1 < 32 := by omega
       clear hw hm2 hmm
       go_wp2
       go_quiet (fail)
       go_wp2
       go_ret
       exact ⟨by rw [HV.out, HBT.out]; rfl, x1, x2, by rw [HFS.out, HFG.out]; exact HRd.out.drewN _, (HF1.out.trans HFd.out).drewN _⟩
      ·-- op 3
       have hmm := HM0.out
       rw [hop] at z0 hmm
       have htm : tm = false := by rw [← HT.out, hop]; rfl
       subst htm
       have hval : valS sv lt s said.length = (!xa) := by
        rw [HEQ2.out.1, hop]; unfold valOp
        rw [if_neg (by decide), if_pos rfl]
       have HV := Zd.mk hval
       have hfs : said ++ saidS sv lt s said.length = sd := by rw [HEQ2.out.2.1, HPS2.out, hop]; unfold ownE; rw [if_neg (by decide), if_neg (by decide), List.append_nil, List.nil_append]
       have hfg : good ++ goodS sv lt s said.length = gd := by rw [HEQ2.out.2.2, HPG2.out, hop]; unfold ownE; rw [if_neg (by decide), if_neg (by decide), List.append_nil, List.nil_append]
       have HFS := Zd.mk hfs
       have HFG := Zd.mk hfg
       clear hval hfs hfg
       clear hmm
       go_wp2
       go_ret
       exact ⟨by rw [HV.out]; rfl, x1, x2, by rw [HFS.out, HFG.out]; exact HRd.out, HF1.out.trans HFd.out⟩
      ·-- op 4
       have hmm := HM0.out
       rw [hop] at z0 hmm
       have htm : tm = false := by rw [← HT.out, hop]; rfl
       subst htm
       have hval : valS sv lt s said.length = (xa && xb) := by
        rw [HEQ2.out.1, hop]; unfold valOp
        rw [if_neg (by decide), if_neg (by decide), if_pos rfl]
       have HV := Zd.mk hval
       have hfs : said ++ saidS sv lt s said.length = sd := by rw [HEQ2.out.2.1, HPS2.out, hop]; unfold ownE; rw [if_neg (by decide), if_neg (by decide), List.append_nil, List.nil_append]
       have hfg : good ++ goodS sv lt s said.length = gd := by rw [HEQ2.out.2.2, HPG2.out, hop]; unfold ownE; rw [if_neg (by decide), if_neg (by decide), List.append_nil, List.nil_append]
       have HFS := Zd.mk hfs
       have HFG := Zd.mk hfg
       clear hval hfs hfg
       clear hmm
       cases xa
       ·go_wp2
        go_ret
        exact ⟨by rw [HV.out]; rfl, x1, x2, by rw [HFS.out, HFG.out]; exact HRd.out, HF1.out.trans HFd.out⟩
       ·go_wp2
        go_ret
        exact ⟨by rw [HV.out]; rfl, x1, x2, by rw [HFS.out, HFG.out]; exact HRd.out, HF1.out.trans HFd.out⟩
      ·-- op 5
       have hmm := HM0.out
       rw [hop] at z0 hmm
       have htm : tm = false := by rw [← HT.out, hop]; rfl
       subst htm
       have hval : valS sv lt s said.length = (xa || xb) := by
        rw [HEQ2.out.1, hop]; unfold valOp
        rw [if_neg (by decide), if_neg (by decide), if_neg (by decide), if_pos rfl]
       have HV := Zd.mk hval
       have hfs : said ++ saidS sv lt s said.length = sd := by rw [HEQ2.out.2.1, HPS2.out, hop]; unfold ownE; rw [if_neg (by decide), if_neg (by decide), List.append_nil, List.nil_append]
       have hfg : good ++ goodS sv lt s said.length = gd := by rw [HEQ2.out.2.2, HPG2.out, hop]; unfold ownE; rw [if_neg (by decide), if_neg (by decide), List.append_nil, List.nil_append]
       have HFS := Zd.mk hfs
       have HFG := Zd.mk hfg
       clear hval hfs hfg
       clear hmm
       cases xa
       ·go_wp2
        go_ret
        exact ⟨by rw [HV.out]; rfl, x1, x2, by rw [HFS.out, HFG.out]; exact HRd.out, HF1.out.trans HFd.out⟩
       ·go_wp2
        go_ret
        exact ⟨by rw [HV.out]; rfl, x1, x2, by rw [HFS.out, HFG.out]; exact HRd.out, HF1.out.trans HFd.out⟩
      ·-- op 6
       have hmm := HM0.out
       rw [hop] at z0 hmm
       have htm : tm = true := by rw [← HT.out, hop]; rfl
       subst htm
       have hval : valS sv lt s said.length = (bitK sv said.length) := by
        rw [HEQ2.out.1, hop]; unfold valOp
        rw [if_neg (by decide), if_neg (by decide), if_neg (by decide), if_neg (by decide), if_pos rfl]
       have HV := Zd.mk hval
       have hlsd : said.length < sd.length := by rw [HPS2.out, List.length_append, List.length_append, len_own, hop]; have : tS 6 = 1 := rfl; omega
       have hlgd : said.length < gd.length := by rw [← HLQ.out]; exact hlsd
       have hfs : said ++ saidS sv lt s said.length = sd.set said.length xa := by
        have h1 : ∀ b, ownE 6 b = [b] := fun b => rfl
        rw [HEQ2.out.2.1, HPS2.out, hval, hop, h1, h1, set_mid, List.append_assoc]; rfl
       have hfg : good ++ goodS sv lt s said.length = gd.set said.length true := by
        have h1 : ∀ b, ownE 6 b = [b] := fun b => rfl
        rw [HEQ2.out.2.2, HPG2.out, hval, hop, h1, h1, HLG.out, set_mid, List.append_assoc]; rfl
       have HFS := Zd.mk hfs
       have HFG := Zd.mk hfg
       obtain ⟨g1, q1, g2, q2, rfl, rfl, hne, p1, f1, p2, f2, hput⟩ := HRd.out.putL hlsd hlgd
       have HPUT := Zd.mk hput
       have i0 : (0 : Int) ≤ (said.length : Int) := by omega
       have i1 : (said.length : Int) < (sd.length : Int) := by omega
       have i2 : (said.length : Int) < (gd.length : Int) := by omega
       have hne2 : ¬ g2 = g1 := fun e => hne e.symm
       generalize bitK sv said.length = bk at *
       clear hval hfs hfg hput hmm
       have hr1 : ¬ rb = g1 := fun e => HRd.out.rne1 (by rw [e]; rfl)
       have hr2 : ¬ rb = g2 := fun e => HRd.out.rne2 (by rw [e]; rfl)
       go_upto_region 25 with fail
       refine start_ (n := 15) (S := fun w' => w'.cell? ⟨rb, 2, none⟩ = some (.slice (some ⟨g1, 0, none⟩) sd.length q1) ∧ w'.cell? ⟨rb, 3, none⟩ = some (.slice (some ⟨g2, 0, none⟩) gd.length q2)) (ds := [12, 14]) Mk32_ (by kernel_rfl) rfl rfl ⟨r2, r3⟩ (fun hHeld => ?_)
       refine with_tabW rdr_value.tab25 rdr_value.bits25 (fun HT_ HW_ => ?_)
       refine pz HT_.out 0 (some 107) Mk33_ rfl rfl ?_
       refine pz HT_.out 1 (some 108) Mk34_ rfl rfl ?_
       refine pz HT_.out 2 (some 109) Mk35_ rfl rfl ?_
       refine pz HT_.out 4 (some 111) Mk36_ rfl rfl ?_
       refine pz HT_.out 5 (some 112) Mk37_ rfl rfl ?_
       refine pz HT_.out 6 (some 113) Mk38_ rfl rfl ?_
       refine pz HT_.out 7 (some 114) Mk39_ rfl rfl ?_
       refine pz HT_.out 9 (some 116) Mk40_ rfl rfl ?_
       refine pz HT_.out 10 (some 117) Mk41_ rfl rfl ?_
       refine tz HT_.out HW_.out 3 (some 110) Mk42_ rfl rfl hHeld ?_
       refine tz HT_.out HW_.out 8 (some 115) Mk43_ rfl rfl hHeld ?_
       refine pz HT_.out 11 (some 118) Mk44_ rfl rfl ?_
       refine last_ (i := 12) (N := none) Mk45_ rfl rfl (one_of HT_.out (by kernel_rfl)) (by decide) (fun K hK => ?_)
       refine skip_ (w1 := ?_) (by rfl) rfl ?_ ?_
       rotate_left
       ·go_simp
        rfl
       refine hK.out _ _ ?_
       clear hK K
       refine pz HT_.out 13 (some 119) Mk46_ rfl rfl ?_
       refine last_ (i := 14) (N := none) Mk47_ rfl rfl (one_of HT_.out (by kernel_rfl)) (by decide) (fun K hK => ?_)
       refine skip_ (w1 := ?_) (by rfl) rfl ?_ ?_
       rotate_left
       ·go_simp
        rfl
       refine hK.out _ _ ?_
       clear hK K
       refine done_ (done_of HT_.out (by kernel_rfl)) ?_
       go_wp2
       go_ret
       exact ⟨by rw [HV.out]; rfl, _, _, by rw [HFS.out, HFG.out]; exact (HPUT.out _ (below_drew1 (Below.refl _ _)) xa true).1, (HF1.out.trans HFd.out).trans (HPUT.out _ (below_drew1 (Below.refl _ _)) xa true).2⟩
      ·-- op 7
       have hmm := HM0.out
       rw [hop] at z0 hmm
       have htm : tm = true := by rw [← HT.out, hop]; rfl
       subst htm
       have hval : valS sv lt s said.length = (xb || xa && bitK sv said.length) := by
        rw [HEQ2.out.1, hop]; unfold valOp
        rw [if_neg (by decide), if_neg (by decide), if_neg (by decide), if_neg (by decide), if_neg (by decide), if_pos rfl]
       have HV := Zd.mk hval
       have hlsd : said.length < sd.length := by rw [HPS2.out, List.length_append, List.length_append, len_own, hop]; have : tS 7 = 1 := rfl; omega
       have hlgd : said.length < gd.length := by rw [← HLQ.out]; exact hlsd
       have hfs : said ++ saidS sv lt s said.length = sd.set said.length (xb || xa && bitK sv said.length) := by
        have h1 : ∀ b, ownE 7 b = [b] := fun b => rfl
        rw [HEQ2.out.2.1, HPS2.out, hval, hop, h1, h1, set_mid, List.append_assoc]; rfl
       have hfg : good ++ goodS sv lt s said.length = gd.set said.length (!(xb || xa && bitK sv said.length) || xb) := by
        have h1 : ∀ b, ownE 7 b = [b] := fun b => rfl
        rw [HEQ2.out.2.2, HPG2.out, hval, hop, h1, h1, HLG.out, set_mid, List.append_assoc]; rfl
       have HFS := Zd.mk hfs
       have HFG := Zd.mk hfg
       obtain ⟨g1, q1, g2, q2, rfl, rfl, hne, p1, f1, p2, f2, hput⟩ := HRd.out.putL hlsd hlgd
       have HPUT := Zd.mk hput
       have i0 : (0 : Int) ≤ (said.length : Int) := by omega
       have i1 : (said.length : Int) < (sd.length : Int) := by omega
       have i2 : (said.length : Int) < (gd.length : Int) := by omega
       have hne2 : ¬ g2 = g1 := fun e => hne e.symm
       generalize bitK sv said.length = bk at *
       clear hval hfs hfg hput hmm
       have hr1 : ¬ rb = g1 := fun e => HRd.out.rne1 (by rw [e]; rfl)
       have hr2 : ¬ rb = g2 := fun e => HRd.out.rne2 (by rw [e]; rfl)
       go_upto_region 28 with fail
       go_cut [13] (fun v13 wx => v13 = .bool (xb || xa && bk) ∧ wx = wr)
       case first =>
        cases xb <;> cases xa <;> (
         go_wp2
         go_meet
         exact ⟨by first | rfl | (cases bk <;> rfl), rfl⟩)
       case rest =>
        obtain ⟨rfl, hwc⟩ := hcut
        rw [hwc]
        clear hwc wc
        generalize (xb || xa && bk) = is at *
        cases is with
        | false =>
         go_upto_region 29 with fail
         refine start_ (n := 20) (S := fun w' => w'.cell? ⟨rb, 2, none⟩ = some (.slice (some ⟨g1, 0, none⟩) sd.length q1) ∧ w'.cell? ⟨rb, 3, none⟩ = some (.slice (some ⟨g2, 0, none⟩) gd.length q2)) (ds := [17, 19]) Mk23_ (by kernel_rfl) rfl rfl ⟨r2, r3⟩ (fun hHeld => ?_)
         refine with_tabW rdr_value.tab29 rdr_value.bits29 (fun HT_ HW_ => ?_)
         refine pz HT_.out 0 (some 130) Mk24_ rfl rfl ?_
         refine pz HT_.out 1 (some 131) Mk25_ rfl rfl ?_
         refine pz HT_.out 2 (some 132) Mk26_ rfl rfl ?_
         refine pz HT_.out 4 (some 134) Mk48_ rfl rfl ?_
         refine pz HT_.out 5 (some 135) Mk49_ rfl rfl ?_
         refine pz HT_.out 6 (some 136) Mk50_ rfl rfl ?_
         refine pz HT_.out 7 (some 137) Mk51_ rfl rfl ?_
         refine pz HT_.out 9 (some 139) Mk52_ rfl rfl ?_
         refine pz HT_.out 10 (some 140) Mk53_ rfl rfl ?_
         refine pz HT_.out 11 (some 141) Mk54_ rfl rfl ?_
         refine pz HT_.out 12 (some 142) Mk55_ rfl rfl ?_
         refine pz HT_.out 13 (some 143) Mk56_ rfl rfl ?_
         refine pu HT_.out 14 (some 144) Mk57_ rfl rfl ?_
         refine pz HT_.out 15 (some 145) Mk58_ rfl rfl ?_
         refine tz HT_.out HW_.out 3 (some 133) Mk59_ rfl rfl hHeld ?_
         refine tz HT_.out HW_.out 8 (some 138) Mk60_ rfl rfl hHeld ?_
         refine pz HT_.out 16 (some 146) Mk61_ rfl rfl ?_
         refine last_ (i := 17) (N := none) Mk62_ rfl rfl (one_of HT_.out (by kernel_rfl)) (by decide) (fun K hK => ?_)
         refine skip_ (w1 := ?_) (by rfl) rfl ?_ ?_
         rotate_left
         ·go_simp
          rfl
         refine hK.out _ _ ?_
         clear hK K
         refine pz HT_.out 18 (some 147) Mk63_ rfl rfl ?_
         refine last_ (i := 19) (N := none) Mk64_ rfl rfl (one_of HT_.out (by kernel_rfl)) (by decide) (fun K hK => ?_)
         refine skip_ (w1 := ?_) (by rfl) rfl ?_ ?_
         rotate_left
         ·go_simp
          rfl
         refine hK.out _ _ ?_
         clear hK K
         refine done_ (done_of HT_.out (by kernel_rfl)) ?_
         go_wp2
         go_ret
         exact ⟨by rw [HV.out]; rfl, _, _, by rw [HFS.out, HFG.out]; exact (HPUT.out _ (below_drew1 (Below.refl _ _)) _ _).1, (HF1.out.trans HFd.out).trans (HPUT.out _ (below_drew1 (Below.refl _ _)) _ _).2⟩
        | true =>
         go_upto_region 29 with fail
         refine start_ (n := 20) (S := fun w' => w'.cell? ⟨rb, 2, none⟩ = some (.slice (some ⟨g1, 0, none⟩) sd.length q1) ∧ w'.cell? ⟨rb, 3, none⟩ = some (.slice (some ⟨g2, 0, none⟩) gd.length q2)) (ds := [17, 19]) Mk23_ (by kernel_rfl) rfl rfl ⟨r2, r3⟩ (fun hHeld => ?_)
         refine with_tabW rdr_value.tab29 rdr_value.bits29 (fun HT_ HW_ => ?_)
         refine pz HT_.out 0 (some 130) Mk24_ rfl rfl ?_
         refine pz HT_.out 1 (some 131) Mk25_ rfl rfl ?_
         refine pz HT_.out 2 (some 132) Mk26_ rfl rfl ?_
         refine pz HT_.out 4 (some 134) Mk48_ rfl rfl ?_
         refine pz HT_.out 5 (some 135) Mk49_ rfl rfl ?_
         refine pz HT_.out 6 (some 136) Mk50_ rfl rfl ?_
         refine pz HT_.out 7 (some 137) Mk51_ rfl rfl ?_
         refine pz HT_.out 9 (some 139) Mk52_ rfl rfl ?_
         refine pz HT_.out 10 (some 140) Mk53_ rfl rfl ?_
         refine pz HT_.out 11 (some 141) Mk54_ rfl rfl ?_
         refine pz HT_.out 12 (some 142) Mk55_ rfl rfl ?_
         refine pz HT_.out 13 (some 143) Mk56_ rfl rfl ?_
         refine pz HT_.out 14 (some 144) Mk57_ rfl rfl ?_
         refine pz HT_.out 15 (some 145) Mk58_ rfl rfl ?_
         refine tz HT_.out HW_.out 3 (some 133) Mk59_ rfl rfl hHeld ?_
         refine tz HT_.out HW_.out 8 (some 138) Mk60_ rfl rfl hHeld ?_
         refine pz HT_.out 16 (some 146) Mk61_ rfl rfl ?_
         refine last_ (i := 17) (N := none) Mk62_ rfl rfl (one_of HT_.out (by kernel_rfl)) (by decide) (fun K hK => ?_)
         refine skip_ (w1 := ?_) (by rfl) rfl ?_ ?_
         rotate_left
         ·go_simp
          rfl
         refine hK.out _ _ ?_
         clear hK K
         refine pz HT_.out 18 (some 147) Mk63_ rfl rfl ?_
         refine last_ (i := 19) (N := none) Mk64_ rfl rfl (one_of HT_.out (by kernel_rfl)) (by decide) (fun K hK => ?_)
         refine skip_ (w1 := ?_) (by rfl) rfl ?_ ?_
         rotate_left
         ·go_simp
          rfl
         refine hK.out _ _ ?_
         clear hK K
         refine done_ (done_of HT_.out (by kernel_rfl)) ?_
         go_wp2
         go_ret
         exact ⟨by rw [HV.out]; rfl, _, _, by rw [HFS.out, HFG.out]; exact (HPUT.out _ (below_drew1 (Below.refl _ _)) _ _).1, (HF1.out.trans HFd.out).trans (HPUT.out _ (below_drew1 (Below.refl _ _)) _ _).2⟩
      ·-- op 8
       have hmm := HM0.out
       rw [hop] at z0 hmm
       have htm : tm = true := by rw [← HT.out, hop]; rfl
       subst htm
       have hval : valS sv lt s said.length = (xb && (xa || bitK sv said.length)) := by
        rw [HEQ2.out.1, hop]; unfold valOp
        rw [if_neg (by decide), if_neg (by decide), if_neg (by decide), if_neg (by decide), if_neg (by decide), if_neg (by decide), if_pos rfl]
       have HV := Zd.mk hval
       have hlsd : said.length < sd.length := by rw [HPS2.out, List.length_append, List.length_append, len_own, hop]; have : tS 8 = 1 := rfl; omega
       have hlgd : said.length < gd.length := by rw [← HLQ.out]; exact hlsd
       have hfs : said ++ saidS sv lt s said.length = sd.set said.length (xb && (xa || bitK sv said.length)) := by
        have h1 : ∀ b, ownE 8 b = [b] := fun b => rfl
        rw [HEQ2.out.2.1, HPS2.out, hval, hop, h1, h1, set_mid, List.append_assoc]; rfl
       have hfg : good ++ goodS sv lt s said.length = gd.set said.length ((xb && (xa || bitK sv said.length)) || !xb) := by
        have h1 : ∀ b, ownE 8 b = [b] := fun b => rfl
        rw [HEQ2.out.2.2, HPG2.out, hval, hop, h1, h1, HLG.out, set_mid, List.append_assoc]; rfl
       have HFS := Zd.mk hfs
       have HFG := Zd.mk hfg
       obtain ⟨g1, q1, g2, q2, rfl, rfl, hne, p1, f1, p2, f2, hput⟩ := HRd.out.putL hlsd hlgd
       have HPUT := Zd.mk hput
       have i0 : (0 : Int) ≤ (said.length : Int) := by omega
       have i1 : (said.length : Int) < (sd.length : Int) := by omega
       have i2 : (said.length : Int) < (gd.length : Int) := by omega
       have hne2 : ¬ g2 = g1 := fun e => hne e.symm
       generalize bitK sv said.length = bk at *
       clear hval hfs hfg hput hmm
       have hr1 : ¬ rb = g1 := fun e => HRd.out.rne1 (by rw [e]; rfl)
       have hr2 : ¬ rb = g2 := fun e => HRd.out.rne2 (by rw [e]; rfl)
       go_upto_region 32 with fail
       go_cut [14] (fun v13 wx => v13 = .bool (xb && (xa || bk)) ∧ wx = wr)
       case first =>
        cases xb <;> cases xa <;> (
         go_wp2
         go_meet
         exact ⟨by first | rfl | (cases bk <;> rfl), rfl⟩)
       case rest =>
        obtain ⟨rfl, hwc⟩ := hcut
        rw [hwc]
        clear hwc wc
        generalize (xb && (xa || bk)) = is at *
        cases is with
        | false =>
         go_upto_region 33 with fail
         refine start_ (n := 20) (S := fun w' => w'.cell? ⟨rb, 2, none⟩ = some (.slice (some ⟨g1, 0, none⟩) sd.length q1) ∧ w'.cell? ⟨rb, 3, none⟩ = some (.slice (some ⟨g2, 0, none⟩) gd.length q2)) (ds := [17, 19]) Mk23_ (by kernel_rfl) rfl rfl ⟨r2, r3⟩ (fun hHeld => ?_)
         refine with_tabW rdr_value.tab33 rdr_value.bits33 (fun HT_ HW_ => ?_)
         refine pz HT_.out 0 (some 158) Mk24_ rfl rfl ?_
         refine pz HT_.out 1 (some 159) Mk25_ rfl rfl ?_
         refine pz HT_.out 2 (some 160) Mk26_ rfl rfl ?_
         refine pz HT_.out 4 (some 162) Mk48_ rfl rfl ?_
         refine pz HT_.out 5 (some 163) Mk49_ rfl rfl ?_
         refine pz HT_.out 6 (some 164) Mk50_ rfl rfl ?_
         refine pz HT_.out 7 (some 165) Mk51_ rfl rfl ?_
         refine pz HT_.out 9 (some 167) Mk52_ rfl rfl ?_
         refine pz HT_.out 10 (some 168) Mk53_ rfl rfl ?_
         refine pz HT_.out 11 (some 169) Mk54_ rfl rfl ?_
         refine pz HT_.out 12 (some 170) Mk55_ rfl rfl ?_
         refine pz HT_.out 13 (some 171) Mk56_ rfl rfl ?_
         refine pz HT_.out 14 (some 172) Mk57_ rfl rfl ?_
         refine pz HT_.out 15 (some 173) Mk58_ rfl rfl ?_
         refine tz HT_.out HW_.out 3 (some 161) Mk59_ rfl rfl hHeld ?_
         refine tz HT_.out HW_.out 8 (some 166) Mk60_ rfl rfl hHeld ?_
         refine pz HT_.out 16 (some 174) Mk61_ rfl rfl ?_
         refine last_ (i := 17) (N := none) Mk62_ rfl rfl (one_of HT_.out (by kernel_rfl)) (by decide) (fun K hK => ?_)
         refine skip_ (w1 := ?_) (by rfl) rfl ?_ ?_
         rotate_left
         ·go_simp
          rfl
         refine hK.out _ _ ?_
         clear hK K
         refine pz HT_.out 18 (some 175) Mk63_ rfl rfl ?_
         refine last_ (i := 19) (N := none) Mk64_ rfl rfl (one_of HT_.out (by kernel_rfl)) (by decide) (fun K hK => ?_)
         refine skip_ (w1 := ?_) (by rfl) rfl ?_ ?_
         rotate_left
         ·go_simp
          rfl
         refine hK.out _ _ ?_
         clear hK K
         refine done_ (done_of HT_.out (by kernel_rfl)) ?_
         go_wp2
         go_ret
         exact ⟨by rw [HV.out]; rfl, _, _, by rw [HFS.out, HFG.out]; exact (HPUT.out _ (below_drew1 (Below.refl _ _)) _ _).1, (HF1.out.trans HFd.out).trans (HPUT.out _ (below_drew1 (Below.refl _ _)) _ _).2⟩
        | true =>
         go_upto_region 33 with fail
         refine start_ (n := 20) (S := fun w' => w'.cell? ⟨rb, 2, none⟩ = some (.slice (some ⟨g1, 0, none⟩) sd.length q1) ∧ w'.cell? ⟨rb, 3, none⟩ = some (.slice (some ⟨g2, 0, none⟩) gd.length q2)) (ds := [17, 19]) Mk23_ (by kernel_rfl) rfl rfl ⟨r2, r3⟩ (fun hHeld => ?_)
         refine with_tabW rdr_value.tab33 rdr_value.bits33 (fun HT_ HW_ => ?_)
         refine pz HT_.out 0 (some 158) Mk24_ rfl rfl ?_
         refine pz HT_.out 1 (some 159) Mk25_ rfl rfl ?_
         refine pz HT_.out 2 (some 160) Mk26_ rfl rfl ?_
         refine pz HT_.out 4 (some 162) Mk48_ rfl rfl ?_
         refine pz HT_.out 5 (some 163) Mk49_ rfl rfl ?_
         refine pz HT_.out 6 (some 164) Mk50_ rfl rfl ?_
         refine pz HT_.out 7 (some 165) Mk51_ rfl rfl ?_
         refine pz HT_.out 9 (some 167) Mk52_ rfl rfl ?_
         refine pz HT_.out 10 (some 168) Mk53_ rfl rfl ?_
         refine pz HT_.out 11 (some 169) Mk54_ rfl rfl ?_
         refine pz HT_.out 12 (some 170) Mk55_ rfl rfl ?_
         refine pu HT_.out 13 (some 171) Mk56_ rfl rfl ?_
         refine pu HT_.out 14 (some 172) Mk57_ rfl rfl ?_
         refine pz HT_.out 15 (some 173) Mk58_ rfl rfl ?_
         refine tz HT_.out HW_.out 3 (some 161) Mk59_ rfl rfl hHeld ?_
         refine tz HT_.out HW_.out 8 (some 166) Mk60_ rfl rfl hHeld ?_
         refine pz HT_.out 16 (some 174) Mk61_ rfl rfl ?_
         refine last_ (i := 17) (N := none) Mk62_ rfl rfl (one_of HT_.out (by kernel_rfl)) (by decide) (fun K hK => ?_)
         refine skip_ (w1 := ?_) (by rfl) rfl ?_ ?_
         rotate_left
         ·go_simp
          rfl
         refine hK.out _ _ ?_
         clear hK K
         refine pz HT_.out 18 (some 175) Mk63_ rfl rfl ?_
         refine last_ (i := 19) (N := none) Mk64_ rfl rfl (one_of HT_.out (by kernel_rfl)) (by decide) (fun K hK => ?_)
         refine skip_ (w1 := ?_) (by rfl) rfl ?_ ?_
         rotate_left
         ·go_simp
          rfl
         refine hK.out _ _ ?_
         clear hK K
         refine done_ (done_of HT_.out (by kernel_rfl)) ?_
         go_wp2
         go_ret
         exact ⟨by rw [HV.out]; rfl, _, _, by rw [HFS.out, HFG.out]; exact (HPUT.out _ (below_drew1 (Below.refl _ _)) _ _).1, (HF1.out.trans HFd.out).trans (HPUT.out _ (below_drew1 (Below.refl _ _)) _ _).2⟩
end Go.Proofs.Ytapejnikpmfddaa.X
